/- made, same, Press. -/
import Derived.Test.YtmddhediccmhbaaGreatDoorA23
set_option linter.all false
set_option maxHeartbeats 400000000
set_option maxRecDepth 100000
namespace Go.Proofs.YtmddhediccmhbaaGreatDoor
open Go.RowKit
open Go.Proofs.Tryz
open And renaming intro→VJ
open Lib renaming hid→VH
open List renaming getElem?_eq_getElem→VX
open List renaming getElem?_map→W7
open List renaming getElem_mem→VZ
open List renaming length→Xn
open List renaming mem_map→V'
open Nat renaming le_trans→VS
open Nat renaming lt_of_lt_of_le→VO
open Nat renaming zero_le→VQ
open Option.some renaming injEq→XW
open Go.Proofs.Tryz renaming prog→VI
variable {w w':World}{k n:Nat}{v u z tx v0 v2:Value}{e r c:Int}{s:ByteArray}{t T:TypeId}{S:Nat->Prop}
section
open Lx(Bytes)
theorem SK{l:List Bytes}(h:gR w v l)(t:gR w u l)(z:l.length<=1000):Calls VI 110 #[v,u] w fun e w'=>e=.returned (.bool true)/\aa ab w w':=by
 obtain⟨I,K,rfl,c⟩:=h.at_;obtain⟨J,L,rfl,j⟩:=t.at_;have r:=VH (VJ c j);have F:(l.length:Int)<=1000:=by omega
 clear h t c j z;go_enter func110,ntmps110;go_wp2_with fail;go_loopw[5](fun i wr=>∃k:Nat,i=.int .i64 k/\k<=l.length/\aa ab w wr)(fun i _=>l.length-(intOf i).toNat);case atStart=>exact⟨0,rfl,VQ _,aa.refl _ _⟩
 case round=>
  obtain⟨n,rfl,G,a⟩:=hrel;by_cases q:n<l.length
  ·obtain⟨b,off,rfl,o,c⟩:=r.out.1 (by omega);obtain⟨d,H,rfl,p,j⟩:=r.out.2 (by omega);have x:=(a.cell (p:=⟨b,_,none⟩) o id).trans (c n q);have y:=(a.cell (p:=⟨d,_,none⟩) p id).trans (j n q);have C:b<wr.heap.size:=VO o a.size;have E:d<wr.heap.size:=VO p a.size;simp only[ah]at x y;generalize(⟨l[n].toArray⟩:ByteArray)=M at x y;have m:=VH a;clear a c j o p;go_wp2_with fail;go_quiet(fail);go_wp2_with fail;go_roundw;case rel=>exact⟨n+1,by go_num,q,m.out.drewN _⟩
   case measure=>simp[intOf];omega
  ·have m:=VH a;clear a;go_wp2_with fail;go_ret;exact⟨rfl,m.out⟩
theorem Rs{nm:ByteArray}{ln:Int}{a:List Px.Fl}{args:List Bytes}(M:eZ w v a)(x:gR w u args)(N:eZ w z a)(y:gR w tx args)(al:a.length<=1000)(L:args.length<=1000):Calls VI 66 #[.agg #[.string nm,v,u,.int .i64 ln],.agg #[.string nm,z,tx,.int .i64 ln]] w fun e w'=>e=.returned (.bool true)/\aa ab w w':=by
 have ai:=VH (fun W(ht:aa ab w W)=>SK (x.still ht) (y.still ht) L);obtain⟨q,fc,rfl,O⟩:=M.at_;obtain⟨r,t,rfl,P⟩:=N.at_;obtain⟨F,H,rfl,-⟩:=x.at_;obtain⟨G,I,rfl,-⟩:=y.at_;have J:=VH (VJ O P);have a1:(a.length:Int)<=1000:=by omega
 have o:=VH (VJ ((ad.new w 53 #[.string nm,.slice q a.length fc,.slice F args.length H,.int .i64 ln]).alloc (.cells #[.string nm,.slice r a.length t,.slice G args.length I,.int .i64 ln] 53)) (bP (w:=w.alloc (.cells #[.string nm,.slice q a.length fc,.slice F args.length H,.int .i64 ln] 53)) (g:=w.heap.size+1) (t:=53) (cs:=#[.string nm,.slice r a.length t,.slice G args.length I,.int .i64 ln]) (by simp[go_sem])));have p:=VH (((aa.refl ab w).alloc (.cells #[.string nm,.slice q a.length fc,.slice F args.length H,.int .i64 ln] 53)).alloc (.cells #[.string nm,.slice r a.length t,.slice G args.length I,.int .i64 ln] 53));clear M x N y O P al L;go_enter func66,ntmps66;go_wp2_with fail;refine(ai.out _ p.out).mono ?_;rintro e w2⟨rfl,m⟩;have h:=VH (VJ (m.blk o.out.1 id) (m.blk o.out.2 id));have K:=VH (p.out.same m);clear m o p;obtain⟨U,X,Y,Z,x4⟩:=iJ h.out.1;obtain⟨y0,y1,y2,y3,y4⟩:=iJ h.out.2;go_wp2_with fail;go_loopw[6](fun i wr=>∃k:Nat,i=.int .i64 k/\k<=a.length/\aa ab w2 wr)(fun i _=>a.length-(intOf i).toNat);case atStart=>exact⟨0,rfl,VQ _,aa.refl _ _⟩
 case round=>
  clear U X Y Z x4 y0 y1 y2 y3 y4;obtain⟨k,rfl,hk,ht⟩:=hrel;obtain⟨U,X,Y,Z,x4⟩:=iJ (ht.blk h.out.1 id);obtain⟨y0,y1,y2,y3,y4⟩:=iJ (ht.blk h.out.2 id);by_cases c:k<a.length
  ·obtain⟨b,off,rfl,j,C⟩:=J.out.1 (by omega);obtain⟨d,a6,rfl,l,E⟩:=J.out.2 (by omega);have T:=K.out.same ht;have p0:=(T.cell (p:=⟨b,_,none⟩) j id).trans (C k c).1;have Q:=(T.cell (p:=⟨b,_,none⟩) j id).trans (C k c).2;have r0:=(T.cell (p:=⟨d,_,none⟩) l id).trans (E k c).1;have S:=(T.cell (p:=⟨d,_,none⟩) l id).trans (E k c).2;have ar:b<wr.heap.size:=VO j T.size;have aA:d<wr.heap.size:=VO l T.size;simp only[ah]at Q S;generalize(a[k].1.toNat:Int)=ci at p0 r0;generalize(⟨a[k].2.toArray⟩:ByteArray)=a7 at Q S;have n:=VH ht;clear ht T C E j l;go_wp2_with fail;go_quiet(fail);go_wp2_with fail;go_roundw;case rel=>exact⟨k+1,by go_num,c,n.out.drewN _⟩
   case measure=>simp[intOf];omega
  ·have n:=VH ht;clear ht;go_wp2_with fail;go_ret;exact⟨rfl,K.out.same n.out⟩
theorem PU{Z a:List (Value×List CQ)}(h:aq Z=aq a):Z.length=a.length/\∀i(hi:i<Z.length)(c:i<a.length),Z[i].2.length=a[i].2.length/\∀k(d:k<Z[i].2.length)(e:k<a[i].2.length),Z[i].2[k].1=a[i].2[k].1:=by
 have l:Z.length=a.length:=by have :=congrArg Xn h;simpa[aq]using this
 refine⟨l,fun i hi c=>?_⟩;have b:=congrArg (·[i]?) h;simp only[aq,W7,VX hi,VX c,Option.map_some,XW]at b;refine⟨by have :=congrArg Xn b;simpa using this,fun k d e=>?_⟩;have j:=congrArg (·[k]?) b;simpa only[W7,VX d,VX e,Option.map_some,XW]using j
def sR(G:List (List Px.ag)):Prop:=G.length<=1000/\∀g∈G,g.length<=1000/\∀c∈g,c.flags.length<=1000/\c.args.length<=1000
theorem R8{Z Q:List (Value×List CQ)}(h:gO w v Z)(h':gO w u Q)(hs:aq Z=aq Q)(hf:sR (aq Z)):Calls VI 39 #[v,u] w fun e w'=>e=.returned (.bool true)/\aa ab w w':=by
 obtain⟨aA,a6⟩:=PU hs;have HG:=VH (VJ h.each h'.each);obtain⟨A,c,rfl,a7⟩:=h.at_;obtain⟨A',c',rfl,a8⟩:=h'.at_;rw[<-aA];have a1:=VH (VJ a7 a8);have HF:=VH (show∀z∈Z,z.2.length<=1000/\∀q∈z.2,q.1.flags.length<=1000/\q.1.args.length<=1000 from fun z hz=>by obtain⟨h1,h2⟩:=hf.2 _ (V'.2 ⟨z,hz,rfl⟩);exact⟨by simpa using h1,fun q hq=>h2 _ (V'.2 ⟨q,hq,rfl⟩)⟩);have HS:=VH (VJ aA a6);have b3:(Z.length:Int)<=1000:=by have :=hf.1;simp[aq]at this;omega
 clear h h' a7 a8 hf hs aA a6;go_enter func39,ntmps39;go_wp2_with fail;go_loopw[5](fun i wr=>∃k:Nat,i=.int .i64 k/\k<=Z.length/\aa ab w wr)(fun i _=>Z.length-(intOf i).toNat);case atStart=>exact⟨0,rfl,VQ _,aa.refl _ _⟩
 case round=>
  obtain⟨k,rfl,hk,a⟩:=hrel;by_cases y:k<Z.length
  ·have ai:k<Q.length:=by rw[<-HS.out.1];exact y
   obtain⟨g,o1,rfl,N,o⟩:=a1.out.1 (by omega);obtain⟨d,o2,rfl,L,m⟩:=a1.out.2 (by omega);have o:=o k y;have m:=m k ai;obtain⟨x,K⟩:=HS.out.2 k y ai;obtain⟨⟨A2,c2,e2,S⟩,X⟩:=HG.out.1 _ (VZ y);obtain⟨⟨A3,c3,e3,T⟩,Y⟩:=HG.out.2 _ (VZ ai);obtain⟨ar,U⟩:=HF.out _ (VZ y);generalize Z[k]=z at o x K e2 S X U ar;generalize Q[k]=z' at m x K e3 T Y;obtain⟨z1,l⟩:=z;obtain⟨z2,l'⟩:=z';dsimp only at o m x K e2 S e3 T U ar X Y;subst e2 e3;rw[<-x]at m;have o:=(a.cell (p:=⟨g,_,none⟩) N id).trans o;have m:=(a.cell (p:=⟨d,_,none⟩) L id).trans m;have bm:g<wr.heap.size:=VO N a.size;have bl:d<wr.heap.size:=VO L a.size;have b2:(l.length:Int)<=1000:=by omega
   have P:=VH (VJ (VJ S T) (VJ X Y));have HM:=VH (VJ x (VJ K U));have E:=VH a;have p:=VH (VJ N (VJ L (VJ ((E.out.cell (p:=⟨g,o1+k,none⟩) N id).symm.trans o) ((E.out.cell (p:=⟨d,o2+k,none⟩) L id).symm.trans m))));clear a N L x K S T U ar X Y;go_wp2_with fail;go_quiet(fail);go_wp2_with fail;have H2:=VH (E.out.drewN nq);have o:(wr.drewN nq).cell? ⟨g,o1+k,none⟩=some (.slice A2 l.length c2):=o;have m:(wr.drewN nq).cell? ⟨d,o2+k,none⟩=some (.slice A3 l.length c3):=m;generalize bn:wr.drewN nq=w1 at*;clear bn;go_loopw[6](fun j wr=>∃n:Nat,j=.int .i64 n/\n<=l.length/\aa ab w wr)(fun j _=>l.length-(intOf j).toNat);case atStart=>exact⟨0,rfl,VQ _,H2.out⟩
   case round=>
    obtain⟨n,rfl,hn,a⟩:=hrel;have o:=(a.cell (p:=⟨g,_,none⟩) p.out.1 id).trans p.out.2.2.1;have m:=(a.cell (p:=⟨d,_,none⟩) p.out.2.1 id).trans p.out.2.2.2;have bm:g<wr.heap.size:=VO p.out.1 a.size;have bl:d<wr.heap.size:=VO p.out.2.1 a.size;by_cases C:n<l.length
    ·have al:n<l'.length:=by rw[<-HM.out.1];exact C
     obtain⟨b,u1,rfl,r,a'⟩:=P.out.1.1 (by omega);obtain⟨F,u2,rfl,t,bb⟩:=P.out.1.2 (by omega);obtain⟨O,q1,q2,q3⟩:=a' n C;obtain⟨s0,s1,s2,s3⟩:=bb n al;obtain⟨G,I⟩:=P.out.2.1 _ (VZ C);obtain⟨H,J⟩:=P.out.2.2 _ (VZ al);have m1:=HM.out.2.1 n C al;have M:=HM.out.2.2 _ (VZ C);clear a' bb;generalize l[n]=q at O q1 q2 q3 G I m1 M;generalize l'[n]=q' at s0 s1 s2 s3 H J m1;obtain⟨cq,fv,av⟩:=q;obtain⟨bt,bA,bs⟩:=q';dsimp only at O q1 q2 q3 G I m1 M s0 s1 s2 s3 H J;subst m1;obtain⟨fA,fc,rfl,-⟩:=G.at_;obtain⟨rA,rc,rfl,-⟩:=I.at_;obtain⟨bw,bx,rfl,-⟩:=H.at_;obtain⟨b4,b5,rfl,-⟩:=J.at_;have O:=(a.cell (p:=⟨b,_,none⟩) r id).trans O;have q1:=(a.cell (p:=⟨b,_,none⟩) r id).trans q1;have q2:=(a.cell (p:=⟨b,_,none⟩) r id).trans q2;have q3:=(a.cell (p:=⟨b,_,none⟩) r id).trans q3;have s0:=(a.cell (p:=⟨F,_,none⟩) t id).trans s0;have s1:=(a.cell (p:=⟨F,_,none⟩) t id).trans s1;have s2:=(a.cell (p:=⟨F,_,none⟩) t id).trans s2;have s3:=(a.cell (p:=⟨F,_,none⟩) t id).trans s3;have b0:b<wr.heap.size:=VO r a.size;have b1:F<wr.heap.size:=VO t a.size;simp only[ah]at O s0;have bd:=VH (fun(W:World)(hW:aa ab wr W)=>Rs (nm:=⟨cq.name.toArray⟩) (ln:=cq.line) (G.still (a.same hW)) (I.still (a.same hW)) (H.still (a.same hW)) (J.still (a.same hW)) M.1 M.2);have H3:=VH a;clear a G I H J r t M;go_upto_region 11 with fail;go_region_with(go_at_call 66;refine(bd.out _ (by first|exact aa.refl _ _|exact(aa.refl _ _).drewN 1)).mono ?_;rintro e w5⟨rfl,bc⟩;have H5:=VH bc;clear bc)
     all_goals
      go_wp2_with fail;go_roundw;case rel=>exact⟨n+1,by go_num,C,(H3.out.drewN 1).same H5.out⟩
      case measure=>simp[intOf];omega
    ·have H3:=VH a;clear a;go_wp2_with fail;go_roundw;case rel=>exact⟨k+1,by go_num,y,H3.out⟩
     case measure=>simp[intOf];omega
  ·have E:=VH a;clear a;go_wp2_with fail;go_ret;exact⟨rfl,E.out⟩
theorem NC(w:World)(g:Nat)(v0 j v2 v3 v4 v5:Value)(h:ad w g 56 #[v0,j,v2,v3,v4,v5]):(loadVar 56 ⟨g,0,none⟩).run VI w=.ok (.agg #[v0,j,v2,v3,v4,v5]) w:=by have a:=h.cell 0;have b:=h.cell 1;have c:=h.cell 2;have d:=h.cell 3;have e:=h.cell 4;have i:=h.cell 5;clear h;simp at a b c d e i;simp[go_sem,a,b,c,d,e,i]
theorem vS{v3 v4 v5:Value}(h:ad w k 56 #[v0,v,v2,v3,v4,v5]):w.cell? ⟨k,0,none⟩=some v0/\w.cell? ⟨k,1,none⟩=some v/\w.cell? ⟨k,2,none⟩=some v2/\w.cell? ⟨k,3,none⟩=some v3/\w.cell? ⟨k,4,none⟩=some v4/\w.cell? ⟨k,5,none⟩=some v5/\(∀i,w.frozen? ⟨k,i,none⟩=false)/\k<w.heap.size:=⟨h.cell 0,h.cell 1,h.cell 2,h.cell 3,h.cell 4,h.cell 5,fun i=>h.frozen i,h.lt⟩
theorem OG(w:World)(v0 v4:ByteArray)(c m:Int)(r:Bool)(a:Option Addr)(d b:Nat):Calls VI 13 #[.agg #[.string v0,.int .i64 c,.int .i64 m,.bool r,.string v4,.slice a d b]] w fun e w'=>e=.returned (.agg #[.string v0,.int .i64 c,.int .i64 m,.bool r,.string v4,.slice a d b])/\aa ab w w':=by have j:=VH ((ad.new w 36 #[.string v0,.int .i64 c,.int .i64 m,.bool r,.string v4,.slice a d b]).alloc (.cells #[.string ⟨#[]⟩,.int .i64 0,.int .i64 0,.bool false,.string ⟨#[]⟩,.slice none 0 0] 56));have i:=VH (ad.new (w.alloc (.cells #[.string v0,.int .i64 c,.int .i64 m,.bool r,.string v4,.slice a d b] 36)) 56 #[.string ⟨#[]⟩,.int .i64 0,.int .i64 0,.bool false,.string ⟨#[]⟩,.slice none 0 0]);have l:=VH (((aa.refl ab w).alloc (.cells #[.string v0,.int .i64 c,.int .i64 m,.bool r,.string v4,.slice a d b] 36)).alloc (.cells #[.string ⟨#[]⟩,.int .i64 0,.int .i64 0,.bool false,.string ⟨#[]⟩,.slice none 0 0] 56));rw[show(w.alloc (.cells #[.string v0,.int .i64 c,.int .i64 m,.bool r,.string v4,.slice a d b] 36)).heap.size=w.heap.size+1 by simp[go_sem]]at i;go_enter func13,ntmps13;go_upto_region 1 with fail;generalize(w.alloc (.cells #[.string v0,.int .i64 c,.int .i64 m,.bool r,.string v4,.slice a d b] 36)).alloc (.cells #[.string ⟨#[]⟩,.int .i64 0,.int .i64 0,.bool false,.string ⟨#[]⟩,.slice none 0 0] 56)=q at*;obtain⟨t,u,x,y,z,C,n,E⟩:=bM j.out;obtain⟨F,G,H,I,J,K,h,L⟩:=vS i.out;have g0:=h 0;have g1:=h 1;have o:=h 2;have g3:=h 3;have g4:=h 4;have p:=h 5;clear n h;go_wp2_with fail;have k:=me i.out (.string v0) (.int .i64 c) (.int .i64 m) (.bool r) (.string v4) (.slice a d b);refine bodyPost_ret ((nN results13 _ _ _ ⟨w.heap.size+1,0,none⟩ rfl).trans (NC _ _ _ _ _ _ _ _ k)) rfl ?_;exact⟨rfl,bT l.out (.inr (Nat.le_succ _)) _ _ _ _ _ _⟩
theorem Gl{b:Bx.Bd}{Z p:List (Value×List CQ)}(h:gO w v Z)(q:gO w u p)(F:aq Z=aq p)(E:sR (aq Z)):Calls VI 12 #[b_ b v,b_ b u] w fun e w'=>e=.returned (.bool true)/\aa ab w w':=by have X:=VH (fun W(ht:aa ab w W)=>R8 (h.still ht) (q.still ht) F E);obtain⟨a,d,rfl,-⟩:=h.at_;obtain⟨i,j,rfl,-⟩:=q.at_;have o:=VH (show∀x,b_ b x=.agg #[.string ⟨b.table.toArray⟩,.int .i64 b.key.code,.int .i64 b.key.aw,.bool b.rep,.string ⟨b.note.toArray⟩,x]from fun _=>rfl);rw[o.out,o.out];generalize(⟨b.table.toArray⟩:ByteArray)=v0;generalize(⟨b.note.toArray⟩:ByteArray)=v4;generalize b.key.code=c;generalize b.key.aw=m;generalize b.rep=r;generalize Z.length=n at*;generalize p.length=k at*;clear h q F E o;have z:=VH ((ad.new w 36 #[.string v0,.int .i64 c,.int .i64 m,.bool r,.string v4,.slice a n d]).alloc (.cells #[.string v0,.int .i64 c,.int .i64 m,.bool r,.string v4,.slice i k j] 56));have l:=VH (ad.new (w.alloc (.cells #[.string v0,.int .i64 c,.int .i64 m,.bool r,.string v4,.slice a n d] 36)) 56 #[.string v0,.int .i64 c,.int .i64 m,.bool r,.string v4,.slice i k j]);have C:=VH (((aa.refl ab w).alloc (.cells #[.string v0,.int .i64 c,.int .i64 m,.bool r,.string v4,.slice a n d] 36)).alloc (.cells #[.string v0,.int .i64 c,.int .i64 m,.bool r,.string v4,.slice i k j] 56));rw[show(w.alloc (.cells #[.string v0,.int .i64 c,.int .i64 m,.bool r,.string v4,.slice a n d] 36)).heap.size=w.heap.size+1 by simp[go_sem]]at l;go_enter func12,ntmps12;go_upto_region 1 with fail;generalize(w.alloc (.cells #[.string v0,.int .i64 c,.int .i64 m,.bool r,.string v4,.slice a n d] 36)).alloc (.cells #[.string v0,.int .i64 c,.int .i64 m,.bool r,.string v4,.slice i k j] 56)=w2 at*;obtain⟨G,H,I,J,K,L,t,M⟩:=bM z.out;obtain⟨N,O,P,Q,S,T,y,U⟩:=vS l.out;clear t y;go_wp2_with fail;refine(X.out _ C.out).mono ?_;rintro e w3⟨rfl,ht⟩;clear G H I J K L M N O P Q S T U;obtain⟨G,H,I,J,K,L,t,M⟩:=bM (ht.blk z.out id);obtain⟨N,O,P,Q,S,T,y,U⟩:=vS (ht.blk l.out id);clear t y;have Y:=VH (C.out.same ht);clear ht;go_wp2_with fail;go_ret;exact⟨rfl,Y.out⟩
end
section
open Lx(Bytes)
namespace Px
theorem dm.strip{G:List (List ag)}(h:dm G):dm (aQ G):=by
 have hw:∀c:ag,bp (Px.strip c)=bp c:=fun _=>rfl;have i:∀c:ag,Px.right (Px.strip c)=Px.right c:=fun _=>rfl;refine⟨fun cs e=>?_,fun cs e c b=>?_,?_,by rw[vM];exact h.size⟩;. obtain⟨g,a,rfl⟩:=V'.1 e;refine⟨by simpa using(h.right g a).1,fun c b=>?_⟩;obtain⟨c0,d,rfl⟩:=V'.1 b;rw[i];exact(h.right g a).2 c0 d
 ·obtain⟨g,a,rfl⟩:=V'.1 e;obtain⟨c0,d,rfl⟩:=V'.1 b;rw[hw];exact h.small g a c0 d
 ·have :(aQ G).map (·.length)=G.map (·.length):=by simp[aQ,Function.comp_def]
  rw[this];exact h.many
theorem NZ{G:List (List ag)}{g:List ag}(h:g∈G):g.length<=(G.map (·.length)).sum:=jz (fun g:List ag=>g.length) h
theorem dm.few{G:List (List ag)}(h:dm G):sR G:=by refine⟨VS (vI G fun cs e=>(h.right cs e).1) h.many,fun g a=>⟨VS (NZ a) h.many,fun c b=>?_⟩⟩;obtain⟨r,i⟩:=im ((h.right g a).2 c b);have j:=ui i;have d:=(h.small g a c b).2.2;simp only[bp,List.length_cons,List.length_append]at d;omega
theorem dm.zN{G:List (List ag)}(h:dm G):dj G:=by have a:=h.few;exact⟨by have :=a.1;omega,fun g b=>⟨by have :=(a.2 g b).1;omega,fun c d=>by have :=(a.2 g b).2 c d;omega⟩⟩
theorem dm.one{G:List (List ag)}(h:dm G):∀g∈G,∀c∈g,p_ c:=fun g e c d=>by
 obtain⟨n,o⟩:=(h.few.2 g e).2 c d;have k:=h.small g e c d;obtain⟨r,j⟩:=im ((h.right g e).2 c d);refine⟨⟨by omega,fun f i=>?_⟩,by omega,fun a l=>?_⟩
 ·obtain⟨⟨v,m,b⟩,-⟩:=j.each f i;rcases b with rfl|b
  ·have :f.2∈bp c:=by simp only[bp,List.mem_cons,List.mem_append,List.mem_flatMap];refine .inr (.inl (.inl ⟨f,i,?_⟩));unfold eM;rw[j.rowOf,m];simp
   exact VS (k.2.1 _ this) (by decide)
  ·rw[b];exact VQ _
 ·have :a∈bp c:=by simp only[bp,List.mem_cons,List.mem_append];exact .inr (.inr l)
  exact VS (k.2.1 _ this) (by decide)
end Px
theorem ly.PK{b:Bx.Bd}(h:Bx.ly b):qd b:=⟨h.bz,by have :=h.fit.size;omega,h.fit.one⟩
namespace Bx
theorem Qs{T:List Bd}{b x:Bd}(h:x∈put T b):x=b∨x∈T:=by
 rcases o0.1 h with h|h;. exact .inl h
 ·exact .inr ((List.mem_filter.1 h).1)
theorem AJ{b:Bd}:∀{l:List Bd},(∀x∈l,ahead x b=true)->ins b l=l++[b]
|[],_=>rfl
|x::l,h=>by
  have c:=h x (by simp);have a:ahead b x=false:=by cases e:ahead b x with|false=>rfl|true=>exact absurd (oz c e) (by simp[oy])
  have i:=AJ (b:=b) (l:=l) fun y d=>h y (List.mem_cons_of_mem _ d);simp[ins,a,i]
theorem Qq{T:List Bd}(m:aH T)(d:k<T.length):put (T.take k) T[k]=T.take (k+1):=by
 have c:∀x∈T.take k,ahead x T[k]=true:=fun x b=>by obtain⟨i,l,rfl⟩:=List.getElem_of_mem b;rw[List.getElem_take];rw[List.length_take]at l;exact List.pairwise_iff_getElem.1 m i k (by omega) d (by omega)
 have j:drop (T.take k) T[k].table T[k].key=T.take k:=by
  refine List.filter_eq_self.2 fun x b=>?_;have :=c x b;simp only[Bool.not_eq_true']
  cases e:same T[k].table T[k].key x with
  |false=>rfl
  |true=>
   have a:=fE.1 e;have h:ahead x T[k]=ahead T[k] T[k]:=by simp only[place,Prod.mk.injEq]at a;unfold ahead;rw[a.1,a.2]
   rw[h,oy]at this;cases this
 rw[put,j,AJ c,List.take_succ_eq_append_getElem d]
end Bx
theorem bY.Im(h:bY w k n [])(b:aa S w w')(d:¬S k)(c:¬S n):bY w' k n []:=by
 obtain⟨m,D,a⟩:=h.cI;have e:m=[]:=by have :=a.perm.length_eq;simpa using this
 subst e;exact⟨b.blk h.ptr d,[],D,⟨CY a.map.own (b.block n a.map.lt c),a.map.agree,a.map.apart,a.map.size⟩,a.perm,a.sorted,a.bz,fun x i=>(List.not_mem_nil i).elim,a.few⟩
theorem Eu(w:World):Calls VI 5 #[.bool false] w fun e w'=>∃P M,e=.returned (.pointer (some ⟨P,0,none⟩))/\bY w' P M []/\w.heap.size<=P/\w.heap.size<=M/\aa ab w w':=by have a:=VH (VJ (bY.made w) (((aa.refl ab w).alloc (.map #[] 0)).alloc (.cells #[.map (some w.heap.size)] 66)));have b:= @run_makeMap VI;go_enter func5,ntmps5;go_wp2_with fail;go_ret;exact⟨w.heap.size+1,w.heap.size,rfl,a.out.1,Nat.le_succ _,Nat.le_refl _,a.out.2⟩
end
section
open Lx(Bytes)
theorem Nx{Z:List (Value×List CQ)}{C:List Px.ag}(h:Px.aQ (aq Z)=C.map fun c=>[c]):Z.length=C.length/\∀k(b:k<Z.length)(d:k<C.length),∃q,Z[k].2=[q]/\Px.strip q.1=C[k]:=by refine⟨by have :=congrArg Xn h;simpa[Px.aQ,aq]using this,fun k b d=>?_⟩;have a:=congrArg (·[k]?) h;simp only[Px.aQ,aq,W7,VX b,VX d,Option.map_some,XW]at a;generalize Z[k].2=l at a;cases l with|nil=>simp at a|cons q l=>simp only[List.map_cons,List.cons.injEq,List.map_eq_nil_iff]at a;exact⟨q,by rw[a.2],a.1⟩
namespace Bx
theorem Nt(b:Bd):Px.at_ (kR b) 110=none/\Px.at_ (kR b) 84=some b.table/\(Px.at_ (kR b) 78).getD []=b.note/\(Px.at_ (kR b) 114).isSome=b.rep:=by unfold kR;by_cases a:b.note=[];all_goals cases c:b.rep<;>simp[a,Px.at_]
end Bx
theorem QL(b:Bx.Bd):iS (Bx.gx b)=(Px.print b.list).dropLast:=by
 unfold Bx.gx;split;. rfl
 ·rename_i h;have h:Px.print b.list=[]:=by simpa using h
  rw[h];rfl
theorem Nu{b:Bx.Bd}(h:Bx.ly b){c:Px.ag}(d:Px.strip c=Bx.o5 b):sV c (Bx.bE b.key) (Bx.gx b) b.table b.note b.key b.list/\px c b.table b.note b.key b.list=b:=by
 have j:c.name=jf:=congrArg Px.ag.name d;have a:c.flags=Bx.kR b:=congrArg Px.ag.flags d;have e:c.args=Bx.bE b.key::Bx.gx b:=congrArg Px.ag.args d;obtain⟨k,l,m,n⟩:=Bx.Nt b;have p:(Bx.gx b).length<=1:=by unfold Bx.gx;split<;>simp
 obtain⟨L,i,o,t2,t3,t4,t5⟩:=Og h.fit;refine⟨⟨j,e,by rw[e,List.length_cons];omega,Bx.Km h.bz.key,by have :=Bx.Bc b.key;omega,by rw[a];exact k,by rw[a];exact l,by rw[a];exact m,?_,?_,h.fit.zN⟩,?_⟩
 ·have :=h.fit.size;unfold Bx.gx;split;. simp[Lx.cost];omega
  ·simp[Lx.cost]
 ·rw[QL];exact⟨L,i,o,t2,t3,t4,t5.trans h.bz.bare⟩
 ·unfold px;rw[a,n]
end
section
open Lx(Bytes)
def ct:Bytes:=[114,111,111,116]
def aN:Bytes:=[112,114,101,102,105,120]
def tH:Bytes:=[99,111,112,121,45,109,111,100,101]
namespace Bx
def ij(b:Bytes)(a now:Int):Bytes×Int:=if(a !=0&&decide (a<=now))||b==[]then(ct,0)else(b,a)
def kZ(a:Bytes)(b:Int):Bool:=a==tH&&b==0
def gE(T:List Bd)(s:Bytes×Int)(k:Ky):Bytes×Int:=if(find T s.1 k).isNone&&s.2 !=0&&s.1 !=ct then(ct,0)else s
def kY(T:List Bd)(a:Bool)(s:Bytes×Int)(k:Ky)(now:Int)(e:Ky)(d:Int):Int×Bd×Bytes×Int:=let ok:=(find T s.1 k).isSome;let b:=cN T s.1 k;let c:=s.1==ct;if(c||a)&&decide (k=e)then(3,d_,aN,0)else if ok&&a then(2,b,s.1,s.2)else if ok&&!c&&b.rep&&decide (0<d)then(2,b,s.1,now+d)else if ok then(2,b,[],0)else if c then(1,d_,[],0)else if a then(4,d_,s.1,s.2)else(4,d_,[],0)
def cr(T:List Bd)(a:Bytes)(b:Int)(k:Ky)(now:Int)(c:Ky)(d:Int):Int×Bd×Bytes×Int:=kY T (kZ a b) (gE T (ij a b now) k) k now c d
end Bx
namespace Bx
def cB:Ky:=⟨98,4⟩
def mo:Ky:=⟨1114112,0⟩
def Ot(b:Bd):List (List Bytes):=b.list.map fun g=>g.map (·.name)
theorem DY:(cr start [] 0 cB 0 cB 500).1=3/\(cr start [] 0 cB 0 cB 500).2.2=(aN,0):=by refine⟨?_,?_⟩<;>decide+kernel
theorem wC:(cr start aN 0 ⟨99,0⟩ 0 cB 500).1=2/\Ot (cr start aN 0 ⟨99,0⟩ 0 cB 500).2.1=[[[110,101,119,45,119,105,110,100,111,119]]]/\(cr start aN 0 ⟨99,0⟩ 0 cB 500).2.2=([],0):=by refine⟨?_,?_,?_⟩<;>decide+kernel
theorem DZ:(cr start aN 0 mo 100 cB 500).1=2/\(cr start aN 0 mo 100 cB 500).2.2=(aN,600):=by refine⟨?_,?_⟩<;>decide+kernel
theorem D0:(cr start aN 600 mo 1200 cB 500).1=1/\(cr start aN 600 mo 1200 cB 500).2.2=([],0):=by refine⟨?_,?_⟩<;>decide+kernel
theorem RN:(cr start aN 0 ⟨121,0⟩ 0 cB 500).1=4:=by decide+kernel
theorem RO:(cr start aN 0 ⟨121,0⟩ 0 cB 500).2.2=([],0):=by decide+kernel
end Bx
open Lx(Bytes)
def eY:Array Value:=#[.string ⟨#[]⟩,.int .i64 0,.int .i64 0,.bool false,.string ⟨#[]⟩,.slice none 0 0]
structure PM(w wx:World)(k pk:Bx.Ky)(s:ByteArray)(u:Int):Prop where
 st:ad wx w.heap.size 60 #[.string s,.int .i64 u]
 ky:ad wx (w.heap.size+1) 27 #[.int .i64 k.code,.int .i64 k.aw]
 pk:ad wx (w.heap.size+2) 27 #[.int .i64 pk.code,.int .i64 pk.aw]
 res:ad wx (w.heap.size+3) 36 eY
 nP:ad wx (w.heap.size+4) 60 #[.string ⟨#[]⟩,.int .i64 0]
 turns:aa ab w wx
theorem iX(h:ad w k t #[v0,v]):w.cell? ⟨k,0,none⟩=some v0/\w.cell? ⟨k,1,none⟩=some v/\w.frozen? ⟨k,0,none⟩=false/\w.frozen? ⟨k,1,none⟩=false/\k<w.heap.size:=⟨h.cell 0,h.cell 1,h.frozen 0,h.frozen 1,h.lt⟩
theorem PM.still{wx:World}{k b:Bx.Ky}(h:PM w wx k b s e)(a:aa ab wx w'):PM w w' k b s e:=⟨a.blk h.st id,a.blk h.ky id,a.blk h.pk id,a.blk h.res id,a.blk h.nP id,h.turns.same a⟩
theorem PM.made(w:World)(k a:Bx.Ky)(s:ByteArray)(u:Int):PM w (((((w.alloc (.cells #[.string s,.int .i64 u] 60)).alloc (.cells #[.int .i64 k.code,.int .i64 k.aw] 27)).alloc (.cells #[.int .i64 a.code,.int .i64 a.aw] 27)).alloc (.cells eY 36)).alloc (.cells #[.string ⟨#[]⟩,.int .i64 0] 60)) k a s u:=⟨((((ad.new w _ _).alloc _).alloc _).alloc _).alloc _,(((bP (by simp[go_sem])).alloc _).alloc _).alloc _,((bP (by simp[go_sem])).alloc _).alloc _,(bP (by simp[go_sem])).alloc _,bP (by simp[go_sem]),(((((aa.refl _ w).alloc _).alloc _).alloc _).alloc _).alloc _⟩
theorem PM.aj{w wx:World}{k a:Bx.Ky}{s:ByteArray}{u:Int}(h:PM w wx k a s u)(b:ByteArray)(c:Int):PM w ((wx.setCell ⟨w.heap.size,0,none⟩ (.string b)).setCell ⟨w.heap.size,1,none⟩ (.int .i64 c)) k a b c:=⟨(h.st.aj 0 _).aj 1 _,(h.ky.an (by simp) _).an (by simp) _,(h.pk.an (by simp) _).an (by simp) _,(h.res.an (by simp) _).an (by simp) _,(h.nP.an (by simp) _).an (by simp) _,(h.turns.setCell (.inr (Nat.le_refl _)) _).setCell (.inr (Nat.le_refl _)) _⟩
theorem PM.low{wx:World}{k a:Bx.Ky}(h:PM w wx k a s e):w.heap.size+5<=wx.heap.size:=by have :=h.nP.lt;omega
theorem PM.Tp{wx:World}{c d:Bx.Ky}(h:PM w wx c d s e)(i:w.heap.size+5<=k)(b:aa (af k) wx w'):PM w w' c d s e:=⟨b.blk h.st (fun a=>by have a:w.heap.size=k:=a;omega),b.blk h.ky (fun a=>by have a:w.heap.size+1=k:=a;omega),b.blk h.pk (fun a=>by have a:w.heap.size+2=k:=a;omega),b.blk h.res (fun a=>by have a:w.heap.size+3=k:=a;omega),b.blk h.nP (fun a=>by have a:w.heap.size+4=k:=a;omega),h.turns.trans b fun x j a=>by have a:x=k:=a;omega⟩
structure oo(w wx:World)(b:Nat)(fd:Bx.Bd):Prop where
 low:w.heap.size+5<=b
 ex:∃t c m n A Z cp,ad wx b 36 #[.string t,.int .i64 c,.int .i64 m,.bool fd.rep,.string n,.slice A (Xn Z) cp]/\(∀x,b_ fd x=.agg #[.string t,.int .i64 c,.int .i64 m,.bool fd.rep,.string n,x])/\aD wx (w.heap.size+5) (.slice A Z.length cp) Z/\aq Z=fd.list
theorem oo.still{w wx e:World}{b:Nat}{a:Bx.Bd}(h:oo w wx b a)(d:aa ab wx e):oo w e b a:=by obtain⟨t,c,m,n,A,Z,i,j,k,l,o⟩:=h.ex;exact⟨h.low,t,c,m,n,A,Z,i,d.blk j id,k,l.still d,o⟩
def xO(w:World)(r:Int×Bx.Bd×Bytes×Int)(e:Ending)(a:World):Prop:=∃v s,e=.returned (.tuple #[.int .i64 r.1,v,.agg #[.string s,.int .i64 r.2.2.2]])/\sl s=r.2.2.1/\gK a w.heap.size v r.2.1/\aa ab w a
theorem j9{c:Func}{i p q:Tmp}(h:c.results=#[.tmp i,.cell p t,.cell q T])(tmps:Array Value)(P:Program)(w:World)(a b:Addr)(j v2:Value)(d:tmps.getD p undef=.pointer (some a))(e:tmps.getD q undef=.pointer (some b))(k:(loadVar t a).run P w=.ok j w)(l:(loadVar T b).run P w=.ok v2 w):(results c tmps).run P w=.ok (.tuple #[tmps.getD i undef,j,v2]) w:=by simp only[results,h];simp only[Array.getD_eq_getD_getElem?]at d e;simp[d,e,asAddr,k,l]
theorem jU(w:World)(g:Nat)(v0 c:Value)(h:ad w g 60 #[v0,c]):(loadVar 60 ⟨g,0,none⟩).run VI w=.ok (.agg #[v0,c]) w:=by have a:=h.cell 0;have b:=h.cell 1;clear h;simp at a b;simp[go_sem,a,b]
def bJ(w:World)(b:Nat):Prop:=b=w.heap.size+3∨b=w.heap.size+4
theorem j4{wx:World}{k m:Bx.Ky}{s0:ByteArray}(h:PM w wx k m s0 e){b:Bx.Bd}{gv:Value}{Z:List (Value×List CQ)}{R:Int×Bx.Bd×Bytes×Int}(i:R=(r,b,sl s,c))(d:aa (bJ w) wx w')(j:aD wx (w.heap.size+5) gv Z)(l:aq Z=b.list):xO w R (.returned (.tuple #[.int .i64 r,b_ b gv,.agg #[.string s,.int .i64 c]])) w':=by subst i;refine⟨_,s,rfl,rfl,⟨gv,Z,rfl,(j.aC d fun x a=>by rcases a with a|a<;>omega).bU (by omega),l⟩,h.turns.trans d fun x n a=>by rcases a with a|a<;>omega⟩
theorem j8{wx:World}{k c:Bx.Ky}{s0:ByteArray}(h:PM w wx k c s0 e)(v0 a v2 v3 v4 v5 z0 b:Value):ad ((((((((wx.setCell ⟨w.heap.size+3,0,none⟩ v0).setCell ⟨w.heap.size+3,1,none⟩ a).setCell ⟨w.heap.size+3,2,none⟩ v2).setCell ⟨w.heap.size+3,3,none⟩ v3).setCell ⟨w.heap.size+3,4,none⟩ v4).setCell ⟨w.heap.size+3,5,none⟩ v5).setCell ⟨w.heap.size+4,0,none⟩ z0).setCell ⟨w.heap.size+4,1,none⟩ b) (w.heap.size+3) 36 #[v0,a,v2,v3,v4,v5]/\ad ((((((((wx.setCell ⟨w.heap.size+3,0,none⟩ v0).setCell ⟨w.heap.size+3,1,none⟩ a).setCell ⟨w.heap.size+3,2,none⟩ v2).setCell ⟨w.heap.size+3,3,none⟩ v3).setCell ⟨w.heap.size+3,4,none⟩ v4).setCell ⟨w.heap.size+3,5,none⟩ v5).setCell ⟨w.heap.size+4,0,none⟩ z0).setCell ⟨w.heap.size+4,1,none⟩ b) (w.heap.size+4) 60 #[z0,b]/\aa (bJ w) wx ((((((((wx.setCell ⟨w.heap.size+3,0,none⟩ v0).setCell ⟨w.heap.size+3,1,none⟩ a).setCell ⟨w.heap.size+3,2,none⟩ v2).setCell ⟨w.heap.size+3,3,none⟩ v3).setCell ⟨w.heap.size+3,4,none⟩ v4).setCell ⟨w.heap.size+3,5,none⟩ v5).setCell ⟨w.heap.size+4,0,none⟩ z0).setCell ⟨w.heap.size+4,1,none⟩ b):=by
 refine⟨?_,?_,?_⟩;. exact((me h.res v0 a v2 v3 v4 v5).an (by simp) z0).an (by simp) b
 ·exact(((((((h.nP.an (by simp) v0).an (by simp) a).an (by simp) v2).an (by simp) v3).an (by simp) v4).an (by simp) v5).aj 0 z0).aj 1 b
 ·exact((bT (S:=bJ w) (aa.refl _ wx) (.inl (.inl rfl)) v0 a v2 v3 v4 v5).setCell (.inl (.inr rfl)) z0).setCell (.inl (.inr rfl)) b
theorem P_{T:List Bx.Bd}(h:bY w k n T)(l:ByteArray)(c:Int)(a:Bx.Ky)(now:Int)(m:Bx.Ky)(o:Int)(hp:∀t,t=sl l∨t=ct->dK (t,a))(cx:-10000000<=now/\now<=10000000)(da:-10000000<=o/\o<=10000000):Calls VI 14 #[.pointer (some ⟨k,0,none⟩),.agg #[.string l,.int .i64 c],.agg #[.int .i64 a.code,.int .i64 a.aw],.int .i64 now,.agg #[.int .i64 m.code,.int .i64 m.aw],.int .i64 o] w (xO w (Bx.cr T (sl l) c a now m o)):=by
 have HT:=VH (fun W(ht:aa ab w W)=>h.still ht);have HP:=VH hp;have b':=VH (VJ cx da);clear cx da;have P5:=VH (PM.made w a m l c);clear h hp;have i:=VH (show Bx.cr T (sl l) c a now m o=Bx.kY T (Bx.kZ (sl l) c) (Bx.gE T (Bx.ij (sl l) c now) a) a now m o from rfl);generalize Bx.cr T (sl l) c a now m o=R at i⊢;generalize ai:a.code=kc at*;generalize al:a.aw=km at*;generalize cA:m.code=pc at*;generalize cT:m.aw=pm at*;unfold eY at P5;go_enter func14,ntmps14;go_upto_region 1 with fail;generalize((((w.alloc (.cells #[.string l,.int .i64 c] 60)).alloc (.cells #[.int .i64 kc,.int .i64 km] 27)).alloc (.cells #[.int .i64 pc,.int .i64 pm] 27)).alloc (.cells #[.string ⟨#[]⟩,.int .i64 0,.int .i64 0,.bool false,.string ⟨#[]⟩,.slice none 0 0] 36)).alloc (.cells #[.string ⟨#[]⟩,.int .i64 0] 60)=w5 at*;obtain⟨G,H,u,y,I⟩:=iX P5.out.st;generalize bb:(l.toList==[])=qe;generalize b4:(l.toList==[99,111,112,121,45,109,111,100,101])=qc;have HC:=VH (show Bx.kZ (sl l) c=(qc&&c==0)by rw[<-b4,aS];rfl);have H1:=VH (show Bx.ij (sl l) c now=if(c !=0&&decide (c<=now))||qe then(ct,0)else(sl l,c)by rw[<-bb,aS];rfl);rw[HC.out]at i;have HQ:=VH (VJ bb b4);clear HC bb;go_cut[15](fun dz wx=>dz=.bool (c !=0&&decide (c<=now))/\wx=w5)
 case first=>
  by_cases dc:c=0;. subst dc;go_wp2_with fail;go_meet;exact⟨rfl,rfl⟩
  ·have d1:(c !=0)=true:=by simpa using dc
   go_wp2_with fail;go_meet;simp[d1]
 case rest=>
  obtain⟨rfl,hw⟩:=hcut;subst hw;generalize(c !=0&&decide (c<=now))=bl at*;go_upto_region 2 with fail;go_cut[16](fun d' wx=>d'=.bool (qc&&c==0)/\wx=wc);case first=>cases qc;all_goals go_wp2_with fail;go_meet;exact⟨rfl,rfl⟩
  case rest=>
   obtain⟨rfl,hw⟩:=hcut;subst hw;generalize(qc&&c==0)=C at*;clear b4;go_upto_region 3 with fail;go_cut[42](fun eb wx=>eb=.bool (bl||qe)/\wx=wc);case first=>have bb:=HQ.out.1;cases bl;all_goals go_wp2_with fail;go_meet;exact⟨rfl,rfl⟩
   case rest=>
    obtain⟨rfl,hw⟩:=hcut;subst hw;generalize(bl||qe)=de at*;go_upto_if 42 with fail;go_cut[](fun wx=>∃s1 q,PM w wx a m s1 q/\Bx.ij (sl l) c now=(sl s1,q)/\dK (sl s1,a))
    case first=>
     cases de;. go_wp2_with fail;go_meet;exact⟨l,c,P5.out,H1.out,HP.out _ (.inl rfl)⟩
     ·go_wp2_with fail;go_meet;exact⟨⟨#[114,111,111,116]⟩,0,P5.out.aj _ _,H1.out,HP.out _ (.inr rfl)⟩
    case rest=>
     obtain⟨s1,q,bs,cg,b3⟩:=hcut;rw[cg]at i;have X:=VH bs;have eg:=VH b3;have M:=VH (Et (HT.out _ bs.turns) s1 a b3);rw[ai,al]at M;have c':Bx.gE T (sl s1,q) a=if(!(Bx.find T (sl s1) a).isSome&&q !=0)&&s1.toList !=[114,111,111,116]then(ct,0)else(sl s1,q):=by unfold Bx.gE;rw[aS];cases Bx.find T (sl s1) a<;>rfl
     have H2:=VH c';clear bs cg b3 P5 H1 HQ G H u y I c';go_upto_region 5 with fail;generalize wc=w6 at*;obtain⟨G,H,u,y,I⟩:=iX X.out.st;obtain⟨J,K,a8,a',kz⟩:=iX X.out.ky;rw[ai]at J;rw[al]at K;clear u y a8 a';go_wp2_with fail;refine M.out.mono ?_;rintro e w7⟨v,rfl,⟨gv,Z,rfl,O,a7⟩,ht⟩;obtain⟨Q,S,rfl⟩:=aE O.outer;obtain⟨t0,c0,m0,p,r,ar,F⟩:∃(t0:ByteArray)(c0 m0:Int)(p:Bool)(r:ByteArray),(cN T (sl s1) a).rep=p/\∀x,b_ (cN T (sl s1) a) x=.agg #[.string t0,.int .i64 c0,.int .i64 m0,.bool p,.string r,x]:=⟨_,_,_,_,_,rfl,fun _=>rfl⟩;rw[F];have TA:=(aa.refl ab w7).alloc (.cells #[.string t0,.int .i64 c0,.int .i64 m0,.bool p,.string r,.slice Q Z.length S] 36);have Y:=VH ((X.out.still ht).still TA);have F8:=VH (show oo w _ w7.heap.size (cN T (sl s1) a)from⟨(X.out.still ht).low,t0,c0,m0,r,Q,Z,S,by rw[ar];exact ad.new w7 36 #[.string t0,.int .i64 c0,.int .i64 m0,.bool p,.string r,.slice Q Z.length S],by rw[ar];exact F,(O.bU X.out.low).still TA,a7⟩);have dk:=VH (HP.out ct (.inr rfl));clear G H I J K kz M ht O a7 TA ar F X HP;generalize a6:(Bx.find T (sl s1) a).isSome=ok at*;have aA:=VH a6;clear a6;go_upto_region 6 with fail;generalize w7.alloc (.cells #[.string t0,.int .i64 c0,.int .i64 m0,.bool p,.string r,.slice Q Z.length S] 36)=w8 at*;generalize w7.heap.size=b7 at*;obtain⟨G,H,u,y,I⟩:=iX Y.out.st;clear u y;go_cut[63](fun ec wx=>ec=.bool ((!ok&&q !=0)&&s1.toList !=[114,111,111,116])/\wx=w8)
     case first=>
      cases ok
      ·by_cases hu:q=0;. subst hu;go_wp2_with fail;go_meet;exact⟨rfl,rfl⟩
       ·have d1:(q !=0)=true:=by simpa using hu
        go_wp2_with fail;go_meet;simp[bne,hu]
      ·go_wp2_with fail;go_meet;exact⟨rfl,rfl⟩
     case rest=>
      obtain⟨rfl,hw⟩:=hcut;subst hw;generalize((!ok&&q !=0)&&s1.toList !=[114,111,111,116])=q6 at*;go_upto_if 63 with fail;go_cut[18](fun ea wx=>∃s2 L,ea=.bool (Bx.find T (sl s2) a).isSome/\PM w wx a m s2 L/\Bx.gE T (sl s1,q) a=(sl s2,L)/\oo w wx b7 (cN T (sl s2) a))
      case first=>
       cases q6;. go_wp2_with fail;go_meet;exact⟨s1,q,by rw[aA.out],Y.out,H2.out,F8.out⟩
       ·have P9:=VH (Y.out.aj ⟨#[114,111,111,116]⟩ 0);obtain⟨t9,c9,m9,n9,A9,Z9,ej,cj,-⟩:=F8.out.ex;have b0:=F8.out.low;have ca:=(cj.an (p:=⟨w.heap.size,0,none⟩) (by show b7≠w.heap.size;omega) (.string ⟨#[114,111,111,116]⟩)).an (p:=⟨w.heap.size,1,none⟩) (by show b7≠w.heap.size;omega) (.int .i64 0);have u:=Y.out.st.frozen 0;have y:=Y.out.st.frozen 1;go_upto_region 8 with fail;clear G H I u y cj;generalize(wc.setCell ⟨w.heap.size,0,none⟩ (.string ⟨#[114,111,111,116]⟩)).setCell ⟨w.heap.size,1,none⟩ (.int .i64 0)=w9 at*;obtain⟨G,H,u,y,I⟩:=iX P9.out.st;obtain⟨J,K,a8,a',kz⟩:=iX P9.out.ky;rw[ai]at J;rw[al]at K;have B9:=VH ca;have M:=VH (Et (HT.out _ P9.out.turns) ⟨#[114,111,111,116]⟩ a dk.out);rw[ai,al]at M;clear u y a8 a' ca;go_wp2_with fail;refine M.out.mono ?_;rintro e ee⟨v,rfl,⟨gv,Z,rfl,O,a7⟩,ht⟩;obtain⟨Q,S,rfl⟩:=aE O.outer;obtain⟨t0,c0,m0,p,r,ar,F⟩:∃(t0:ByteArray)(c0 m0:Int)(p:Bool)(r:ByteArray),(cN T (sl ⟨#[114,111,111,116]⟩) a).rep=p/\∀x,b_ (cN T (sl ⟨#[114,111,111,116]⟩) a) x=.agg #[.string t0,.int .i64 c0,.int .i64 m0,.bool p,.string r,x]:=⟨_,_,_,_,_,rfl,fun _=>rfl⟩;rw[F];have dp:=VH (P9.out.still ht);have b5:=VH (ht.blk B9.out id);have N:=VH (VJ O (VJ a7 (VJ B9.out.lt (VJ P9.out.low (VJ ar F)))));clear ht O a7 ar F G H I J K kz M;obtain⟨y0,y1,y2,y3,y4,y5,U,yz⟩:=bM b5.out;have f0:=U 0;have f1:=U 1;have f2:=U 2;have f3:=U 3;have f4:=U 4;have f5:=U 5;clear U;go_wp2_with fail;go_meet;have T6:=bT (S:=af b7) (aa.refl _ ee) (.inl rfl) (.string t0) (.int .i64 c0) (.int .i64 m0) (.bool p) (.string r) (.slice Q Z.length S);refine⟨⟨#[114,111,111,116]⟩,0,rfl,dp.out.Tp b0 T6,H2.out,b0,t0,c0,m0,r,Q,Z,S,?_,?_,?_,N.out.2.1⟩;. rw[N.out.2.2.2.2.1];exact me b5.out _ _ _ _ _ _
        ·rw[N.out.2.2.2.2.1];exact N.out.2.2.2.2.2
        ·exact(N.out.1.aC T6 fun b e=>by have e:b=b7:=e;have :=N.out.2.2.1;omega).bU N.out.2.2.2.1
      case rest=>
       obtain⟨s2,L,rfl,cc,ch,cb⟩:=hcut;rw[ch]at i;have d:=VH cc;have FF:=VH cb;clear cc ch cb H2 Y F8 aA G H I q6;generalize a6:(Bx.find T (sl s2) a).isSome=bd at*;have aA:=VH a6;clear a6;generalize cv:cN T (sl s2) a=E at*;have b6:=VH cv;clear cv;obtain⟨G,H,u,y,I⟩:=iX d.out.st;obtain⟨J,K,a8,a',kz⟩:=iX d.out.ky;obtain⟨p0,p1,dq,ds,pz⟩:=iX d.out.pk;rw[ai]at J;rw[al]at K;rw[cA]at p0;rw[cT]at p1;clear u y a8 a' dq ds;generalize wc=ef at*;have cz:Bx.kY T C (sl s2,L) a now m o=if((s2.toList==[114,111,111,116])||C)&&decide (a=m)then(3,d_,aN,0)else if bd&&C then(2,E,sl s2,L)else if bd&&!(s2.toList==[114,111,111,116])&&E.rep&&decide (0<o)then(2,E,sl s2,now+o)else if bd then(2,E,[],0)else if(s2.toList==[114,111,111,116])then(1,d_,[],0)else if C then(4,d_,sl s2,L)else(4,d_,[],0):=by rw[aS,<-aA.out,<-b6.out];rfl
       rw[cz]at i;have cw:decide (a=m)=(decide (kc=pc)&&decide (km=pm)):=by rw[<-ai,<-al,<-cA,<-cT];cases a;cases m;simp
       rw[cw]at i;clear cz cw aA b6;go_upto_region 10 with fail;generalize(s2.toList==[114,111,111,116])=rt at*;obtain⟨g1,bw⟩:∃g1,g1=decide (kc=pc):=⟨_,rfl⟩;obtain⟨g2,bx⟩:∃g2,g2=decide (km=pm):=⟨_,rfl⟩;have b1:(kc==pc)=g1:=by rw[bw];rfl
       have b2:(km==pm)=g2:=by rw[bx];rfl
       have dd:=VH bw;have dh:=VH bx;clear bw bx;rw[<-dd.out,<-dh.out]at i;go_cut[76](fun ed wx=>ed=.bool ((rt||C)&&(g1&&g2))/\wx=ef);case first=>cases g1<;>cases g2<;>cases rt<;>cases C;all_goals go_wp2_with fail;go_meet;exact⟨rfl,rfl⟩
       case rest=>
        obtain⟨rfl,hw⟩:=hcut;subst hw;generalize((rt||C)&&(g1&&g2))=dv at*;obtain⟨p,r1,r2,r3,r4,r5,P,rz⟩:=bM d.out.res;obtain⟨y0,y1,ep,et,yz⟩:=iX d.out.nP;have f0:=P 0;have f1:=P 1;have f2:=P 2;have f3:=P 3;have f4:=P 4;have f5:=P 5;clear P p0 p1 pz J K kz;obtain⟨bt,bc,bm,bn,bA,Z,a1,hb,F,cn,cq⟩:=FF.out.ex;have b0:=FF.out.low;obtain⟨v0,v1,v2,v3,v4,v5,vf,vz⟩:=bM hb;have av:=VH F;have z:=VH (VJ cn cq);generalize E.rep=fr at*;clear vf F cn cq hb;cases dv
        ·rw[if_neg (by decide)]at i;cases bd
         ·cases rt
          ·cases C;. go_wp2_with fail;obtain⟨j,z2,z3⟩:=j8 d.out (.string ⟨#[]⟩) (.int .i64 0) (.int .i64 0) (.bool false) (.string ⟨#[]⟩) (.slice none 0 0) (.string ⟨#[]⟩) (.int .i64 0);refine bodyPost_ret (j9 results14 _ _ _ ⟨w.heap.size+3,0,none⟩ ⟨w.heap.size+4,0,none⟩ _ _ rfl rfl (gZ _ _ _ _ _ _ _ _ j) (jU _ _ _ _ z2)) rfl ?_;exact j4 (b:=d_) (s:=⟨#[]⟩) (gv:=.slice none 0 0) (Z:=[]) d.out i.out z3 (aD.nil _ _) rfl
           ·skip;go_upto_region 21 with fail;go_region;all_goals go_wp2_with fail;obtain⟨j,z2,z3⟩:=j8 d.out (.string ⟨#[]⟩) (.int .i64 0) (.int .i64 0) (.bool false) (.string ⟨#[]⟩) (.slice none 0 0) (.string s2) (.int .i64 L);refine bodyPost_ret (j9 results14 _ _ _ ⟨w.heap.size+3,0,none⟩ ⟨w.heap.size+4,0,none⟩ _ _ rfl rfl (gZ _ _ _ _ _ _ _ _ (j.drewN 1)) (jU _ _ _ _ (z2.drewN 1))) rfl ?_;exact j4 (b:=d_) (s:=s2) (gv:=.slice none 0 0) (Z:=[]) d.out i.out (z3.drewN 1) (aD.nil _ _) rfl
          ·cases C;all_goals go_wp2_with fail;obtain⟨j,z2,z3⟩:=j8 d.out (.string ⟨#[]⟩) (.int .i64 0) (.int .i64 0) (.bool false) (.string ⟨#[]⟩) (.slice none 0 0) (.string ⟨#[]⟩) (.int .i64 0);refine bodyPost_ret (j9 results14 _ _ _ ⟨w.heap.size+3,0,none⟩ ⟨w.heap.size+4,0,none⟩ _ _ rfl rfl (gZ _ _ _ _ _ _ _ _ j) (jU _ _ _ _ z2)) rfl ?_;exact j4 (b:=d_) (s:=⟨#[]⟩) (gv:=.slice none 0 0) (Z:=[]) d.out i.out z3 (aD.nil _ _) rfl
         ·cases C
          ·cases rt
           ·cases fr;. skip;go_upto_region 17 with fail;go_region;all_goals go_wp2_with fail;obtain⟨j,z2,z3⟩:=j8 d.out (.string bt) (.int .i64 bc) (.int .i64 bm) (.bool false) (.string bn) (.slice bA Z.length a1) (.string ⟨#[]⟩) (.int .i64 0);refine bodyPost_ret (j9 results14 _ _ _ ⟨w.heap.size+3,0,none⟩ ⟨w.heap.size+4,0,none⟩ _ _ rfl rfl (gZ _ _ _ _ _ _ _ _ (j.drewN 1)) (jU _ _ _ _ (z2.drewN 1))) rfl ?_;rw[<-av.out];exact j4 (b:=E) (s:=⟨#[]⟩) (Z:=Z) d.out i.out (z3.drewN 1) z.out.1 z.out.2
            ·by_cases db:0<o;. have d1:decide (0<o)=true:=decide_eq_true db;rw[d1]at i;have ek:=b'.out.1;have en:=b'.out.2;go_upto_region 15 with fail;go_region;all_goals go_wp2_with fail;obtain⟨j,z2,z3⟩:=j8 d.out (.string bt) (.int .i64 bc) (.int .i64 bm) (.bool true) (.string bn) (.slice bA Z.length a1) (.string s2) (.int .i64 (now+o));refine bodyPost_ret (j9 results14 _ _ _ ⟨w.heap.size+3,0,none⟩ ⟨w.heap.size+4,0,none⟩ _ _ rfl rfl (gZ _ _ _ _ _ _ _ _ (j.drewN 1)) (jU _ _ _ _ (z2.drewN 1))) rfl ?_;rw[<-av.out];exact j4 (b:=E) (s:=s2) (Z:=Z) d.out i.out (z3.drewN 1) z.out.1 z.out.2
             ·have d1:decide (0<o)=false:=decide_eq_false db;rw[d1]at i;go_upto_region 17 with fail;go_region;all_goals go_wp2_with fail;obtain⟨j,z2,z3⟩:=j8 d.out (.string bt) (.int .i64 bc) (.int .i64 bm) (.bool true) (.string bn) (.slice bA Z.length a1) (.string ⟨#[]⟩) (.int .i64 0);refine bodyPost_ret (j9 results14 _ _ _ ⟨w.heap.size+3,0,none⟩ ⟨w.heap.size+4,0,none⟩ _ _ rfl rfl (gZ _ _ _ _ _ _ _ _ (j.drewN 1)) (jU _ _ _ _ (z2.drewN 1))) rfl ?_;rw[<-av.out];exact j4 (b:=E) (s:=⟨#[]⟩) (Z:=Z) d.out i.out (z3.drewN 1) z.out.1 z.out.2
           ·skip;go_upto_region 17 with fail;go_region;all_goals go_wp2_with fail;obtain⟨j,z2,z3⟩:=j8 d.out (.string bt) (.int .i64 bc) (.int .i64 bm) (.bool fr) (.string bn) (.slice bA Z.length a1) (.string ⟨#[]⟩) (.int .i64 0);refine bodyPost_ret (j9 results14 _ _ _ ⟨w.heap.size+3,0,none⟩ ⟨w.heap.size+4,0,none⟩ _ _ rfl rfl (gZ _ _ _ _ _ _ _ _ (j.drewN 1)) (jU _ _ _ _ (z2.drewN 1))) rfl ?_;rw[<-av.out];exact j4 (b:=E) (s:=⟨#[]⟩) (Z:=Z) d.out i.out (z3.drewN 1) z.out.1 z.out.2
          ·skip;go_upto_region 13 with fail;go_region;all_goals go_wp2_with fail;obtain⟨j,z2,z3⟩:=j8 d.out (.string bt) (.int .i64 bc) (.int .i64 bm) (.bool fr) (.string bn) (.slice bA Z.length a1) (.string s2) (.int .i64 L);refine bodyPost_ret (j9 results14 _ _ _ ⟨w.heap.size+3,0,none⟩ ⟨w.heap.size+4,0,none⟩ _ _ rfl rfl (gZ _ _ _ _ _ _ _ _ (j.drewN 1)) (jU _ _ _ _ (z2.drewN 1))) rfl ?_;rw[<-av.out];exact j4 (b:=E) (s:=s2) (Z:=Z) d.out i.out (z3.drewN 1) z.out.1 z.out.2
        ·rw[if_pos rfl]at i;go_wp2_with fail;obtain⟨j,z2,z3⟩:=j8 d.out (.string ⟨#[]⟩) (.int .i64 0) (.int .i64 0) (.bool false) (.string ⟨#[]⟩) (.slice none 0 0) (.string ⟨#[112,114,101,102,105,120]⟩) (.int .i64 0);refine bodyPost_ret (j9 results14 _ _ _ ⟨w.heap.size+3,0,none⟩ ⟨w.heap.size+4,0,none⟩ _ _ rfl rfl (gZ _ _ _ _ _ _ _ _ j) (jU _ _ _ _ z2)) rfl ?_;exact j4 (b:=d_) (gv:=.slice none 0 0) (Z:=[]) d.out i.out z3 (aD.nil _ _) rfl
end
end Go.Proofs.YtmddhediccmhbaaGreatDoor
