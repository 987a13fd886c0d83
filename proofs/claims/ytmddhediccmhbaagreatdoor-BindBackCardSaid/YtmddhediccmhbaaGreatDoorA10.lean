/- words, quotes, blocks. -/
import Derived.Laws.IdiomStrings
import Derived.Laws.BytesArg
import Derived.Deep.RegionHeld3
import Derived.Deep.RegionLaw
import Derived.Test.YtmddhediccmhbaaGreatDoorA09
set_option linter.all false
set_option maxHeartbeats 400000000
set_option maxRecDepth 100000
namespace Go.Proofs.YtmddhediccmhbaaGreatDoor
open Go.RowKit
open Tryz
open And renaming intro→VJ
open Below renaming heap_alloc→WE
open Lib renaming hid→VH
open Lib renaming indexByte→Wo
open List renaming count_append→YJ
open List renaming eq_nil_of_length_eq_zero→VP
open List renaming getElem_of_mem→WS
open List renaming length_append→VK
open List renaming length_drop→Ww
open Nat renaming le_refl→VN
open Region renaming wanted→XS
open Tryz renaming prog→VI
open Value renaming ownBlock→WT
open World renaming cell?_alloc_lt→Yl
open World renaming cell?_setCell_other→WC
open World renaming cell?_setCell_same→Y5
open World renaming frozen?_of_block→Wt
open World renaming setCell→X6
variable {w w' U:World}{k n m i g:Nat}{v u z tx sv v2:Value}{e r:Int}{s:ByteArray}{t T:TypeId}{a:UInt8}{S:Nat->Prop}{E:List Value}{O:Option Addr}{F:Array Value}{P:Program}
section
open Lx(Bytes)
def jc(w:World)(c:aG)(a:Value)(k:Nat)(r:Lx.bJ Bytes)(e:Ending)(b:World):Prop:=match r with|.ok t'=>e=.returned (.tuple #[])/\∃tx',Step w c a k t' b tx'|.error m=>e=.panicked (trouble m c.wl)/\aa (TS c.R a) w b
theorem Ds{c:aG}{t:Bytes}(h:Ctx w c k v t)(u:ByteArray)(b:u.size<=ix):Calls VI 125 #[.pointer (some ⟨c.R,0,none⟩),.string u] w (jc w c v k (Lx.put t (sl u))):=by
 unfold Lx.put;rw[VK,aL];by_cases a:t.length+u.size>8192;. rw[if_pos a];exact Qr h u a b
 ·rw[if_neg a];exact Qt h u (by omega)
def gi(w:World)(c:aG)(a:Value)(r:Lx.bJ (Bytes×Bytes))(e:Ending)(b:World):Prop:=match r with|.ok x=>e=.returned (.tuple #[])/\∃k' tx',(sl c.s).drop k'=x.2/\Step w c a k' x.1 b tx'|.error m=>e=.panicked (trouble m c.wl)/\aa (TS c.R a) w b
theorem jc.word{c:aG}{i:Bytes}{r:Lx.bJ Bytes}{e:Ending}(a:Step w c v k i w' u):jc w' c u k r e U->gi w c v (match r with|.error m=>.error m|.ok b=>.ok (b,(sl c.s).drop k)) e U:=by intro h;cases r with|error m=>exact⟨h.1,a.turns.fT a.dy h.2⟩|ok b=>obtain⟨d,j,f⟩:=h;exact⟨d,k,j,rfl,a.trans f⟩
theorem EC(h:sl s=[]):s=⟨#[]⟩:=ka h
theorem ED{u:ByteArray}(h:¬sl u=[]):u.toList.isEmpty=false:=by rw[mh];cases e:sl u with|nil=>exact absurd e h|cons _ _=>rfl
theorem pS{c:aG}{e:Bytes}(b:Step w c u k e w' z)(h:tg w' c.es s c.es.length v U):∃a:ByteArray,v=.string a/\sl a=Lx.value (aB c.es) (sl s)/\a.size<=ix/\Step w c u k e U z:=by obtain⟨a,i,d,j,f⟩:=h;rw[List.take_length]at d;exact⟨a,i,d,j,b.trans (b.ctx.sq f)⟩
def FH(W:Ending->World->Prop)(e:Ending)(a:World):Prop:=(∃b,e=.panicked b/\W e a)∨(e=.returned (.tuple #[])/\W e a)
theorem vQ{c:aG}{t:Bytes}(h:Ctx w c k v t)(u:ByteArray)(a:u.size<=ix){W:Ending->World->Prop}(hW:∀e w',jc w c v k (Lx.put t (sl u)) e w'->W e w'):Calls VI 125 #[.pointer (some ⟨c.R,0,none⟩),.string u] w (FH W):=by refine(Ds h u a).mono fun e w' hp=>?_;have hw:=hW e w' hp;cases hq:Lx.put t (sl u)with|error m=>rw[hq]at hp;exact .inl ⟨_,hp.1,hw⟩|ok b=>rw[hq]at hp;exact .inr ⟨hp.1,hw⟩
theorem gF{c:aG}{h:Bytes}(d:Step w c v k h U u)(a:ByteArray)(n:a.size<=ix)(F:Bytes->Lx.bJ (Bytes×Bytes))(f:Lx.bJ (Bytes×Bytes))(b:(match Lx.put h (sl a)with|.error m=>.error m|.ok t2=>F t2)=f):Calls VI 125 #[.pointer (some ⟨c.R,0,none⟩),.string a] U fun e w'=>(∃i,e=.panicked i/\gi w c v f e w')∨(∃t2 q,e=.returned (.tuple #[])/\Step w c v k t2 w' q/\F t2=f):=by refine(Ds d.ctx a n).mono fun e w' hp=>?_;cases hq:Lx.put h (sl a)with|error m=>rw[hq]at hp b;subst b;exact .inl ⟨_,hp.1,hp.1,d.turns.fT d.dy hp.2⟩|ok o=>rw[hq]at hp b;obtain⟨j,p,l⟩:=hp;exact .inr ⟨o,p,j,d.trans l,b⟩
theorem Ib{c:aG}{t:Bytes}(h:Ctx w c k u t)(C:∀r,(sl c.s).drop k≠123::r)(o:Lx.bJ (Bytes×Bytes))(T:Lx.cM (aB c.es) t ((sl c.s).drop k)=o):Calls VI 127 #[.pointer (some ⟨c.R,0,none⟩)] w (gi w c u o):=by
 have N:(if(Lx.name ((sl c.s).drop k)).1=[]then match Lx.put t [36]with|.error m=>.error m|.ok t'=>.ok (t',(sl c.s).drop k)else match Lx.put t (Lx.value (aB c.es) (Lx.name ((sl c.s).drop k)).1)with|.error m=>.error m|.ok t'=>.ok (t',(Lx.name ((sl c.s).drop k)).2))=o:=by rw[<-T];exact(Lx.cM.eq_2 _ _ _ fun r e=>C r e).symm
 have S:Calls VI 87 #[.pointer (some ⟨c.R,0,none⟩)] w fun e a=>∃(b:UInt8)(ok:Bool),(ok=true->(((b.toNat:Int)==123)=false))/\e=.returned (.tuple #[.int .u8 b.toNat,.bool ok])/\∃n,a=w.drewN n:=by
  rcases hd:(sl c.s).drop k with _|⟨b,r⟩;. exact(l8 h hd).mono fun e a⟨D,E⟩=>⟨0,false,fun q=>(by cases q),D,E⟩
  ·exact(jt h hd).mono fun e a⟨D,E⟩=>⟨b,true,fun _=>bI (m:=123) fun q=>C r (by rw[hd,q]),D,E⟩
 have K:=VH S;have H:=VH h;have p:=VH N;clear S h N C T;go_enter func127,ntmps127;go_wp2_with fail;refine K.out.mono ?_;rintro e w1⟨b,ok,O,rfl,n,rfl⟩;clear K;have J:=VH O;clear O;have y:=VH ((Step.refl H.out).drewN n);generalize w.drewN n=w1 at y;cases ok
 all_goals
  try have aa:=J.out rfl
  clear J;go_wp2_with fail;refine(Cv y.out.ctx).mono ?_;rintro e w2⟨I,Z,rfl,U,P,-,i⟩;have j:=VH (y.out.trans i);have d:=VH (VJ U P);clear y U P i;by_cases f:(Lx.name ((sl c.s).drop k)).1=[]
  ·have V:I=⟨#[]⟩:=EC (d.out.1.trans f);subst V;have Q:=d.out.2;have G:=Cy ((sl c.s).drop k);rw[f,List.nil_append]at G;have l:∀e a,jc w2 c u Z (Lx.put t (sl ⟨#[36]⟩)) e a->gi w c u o e a:=by intro e a F;have :=jc.word j.out F;rw[<-p.out,if_pos f,<-G,<-Q];exact this
   have z:=VH l;clear f Q G d p l;go_wp2_with fail;refine(vQ j.out.ctx _ (by decide) z.out).mono ?_;rintro e w3(⟨ch,rfl,hw⟩|⟨rfl,hw⟩);. exact⟨rfl,hw⟩
   ·have A:=VH hw;clear hw;go_wp2_with fail;go_end0;exact A.out
  ·have V:=ED (u:=I) (by rw[d.out.1];exact f);have L:=VH f;clear f;go_wp2_with fail;refine(pR j.out.ctx I).mono ?_;rintro e w3⟨v,rfl,W⟩;obtain⟨x,rfl,X,Y,i⟩:=pS j.out W;have l:∀e a,jc w3 c u Z (Lx.put t (sl x)) e a->gi w c u o e a:=by intro e a F;have :=jc.word i F;rw[X,d.out.1,d.out.2]at this;rw[<-p.out,if_neg L.out];exact this
   have z:=VH l;have M:=VH (VJ Y i);clear W X Y i l d p L j;go_wp2_with fail;refine(vQ M.out.2.ctx _ M.out.1 z.out).mono ?_;rintro e w4(⟨ch,rfl,hw⟩|⟨rfl,hw⟩);. exact⟨rfl,hw⟩
   ·have A:=VH hw;clear hw;go_wp2_with fail;refine bodyPost_ret (results_none rfl _ _ _) rfl ?_;exact A.out
theorem Ia{c:aG}{t:Bytes}(h:Ctx w c k u t){r:Bytes}(q:(sl c.s).drop k=123::r)(j:Lx.bJ (Bytes×Bytes))(Q:Lx.cM (aB c.es) t ((sl c.s).drop k)=j):Calls VI 127 #[.pointer (some ⟨c.R,0,none⟩)] w (gi w c u j):=by
 have O:(if(Lx.name r).1=[]then .error 4 else match(Lx.name r).2 with
 |125::H=>match Lx.put t (Lx.value (aB c.es) (Lx.name r).1)with|.error c=>.error c|.ok t'=>.ok (t',H)
 |_=>.error 4)=j:=by rw[<-Q,q];exact(Lx.cM.eq_1 _ _ _).symm
 have M:=VH (jt h q);have ab:=cy q;have ad:=h.size;have a:=h.c2;have f2:=h.f 2;have C:=fun n=>VH (((Step.refl h).drewN n).trans ((h.drewN n).at_ (k+1) (by omega) (by rw[np q];rfl)));have X:=VH (dw q).2;have d:=VH O;have C:=VH C;clear q h O Q;go_enter func127,ntmps127;go_wp2_with fail;refine M.out.mono ?_;rintro e w1⟨rfl,n,rfl⟩;clear M;go_wp2_with fail;have E:=C.out n;clear C a f2;refine(Cv E.out.ctx).mono ?_;rintro e w2⟨I,k',rfl,aa⟩;obtain⟨G,F,-,b⟩:=aa;rw[X.out]at G F;have a:=VH (E.out.trans b);have l:=VH (VJ G F);clear E G F b;by_cases A:(Lx.name r).1=[];. have S:I=⟨#[]⟩:=EC (l.out.1.trans A);subst S;have i:=VH (show j=.error 4 by rw[<-d.out,if_pos A]);clear A l d;go_wp2_with fail;refine(lO a.out.ctx 4).mono ?_;rintro e K⟨rfl,rfl⟩;exact⟨rfl,by rw[i.out];exact⟨rfl,a.out.turns⟩⟩
 ·have S:=ED (u:=I) (by rw[l.out.1];exact A);have i:=VH A;clear A;rcases hd:(Lx.name r).2 with _|⟨x,H⟩;. have m:=l.out.2.trans hd;have o:=VH (show j=.error 4 by rw[<-d.out,if_neg i.out,hd]);have z:=VH (gD a.out.ctx m);clear hd m d i;go_wp2_with fail;refine z.out.mono ?_;rintro e K⟨rfl,ht⟩;exact⟨rfl,by rw[o.out];exact⟨rfl,a.out.turns.fT a.out.dy ht⟩⟩
  ·have m:=l.out.2.trans hd;have z:=VH (ck a.out.ctx m);by_cases D:x=125
   ·subst D;have o:=VH (show(match Lx.put t (Lx.value (aB c.es) (Lx.name r).1)with|.error c=>.error c|.ok t'=>.ok (t',H))=j by rw[<-d.out,if_neg i.out,hd];rfl);have L:=VH (dw m).2;clear hd m d i;go_wp2_with fail;refine z.out.mono ?_;rintro e K⟨rfl,b⟩;have p:=VH (a.out.trans b);clear b z a;go_wp2_with fail;refine(pR p.out.ctx I).mono ?_;rintro e W⟨v,rfl,T⟩;obtain⟨y,rfl,U,V,b⟩:=pS p.out T;have P:∀e J,jc W c u (k'+1) (Lx.put t (sl y)) e J->gi w c u j e J:=by intro e J hp;have :=jc.word b hp;rw[U,l.out.1,L.out]at this;rw[<-o.out];exact this
    have Y:=VH P;have N:=VH (VJ V b);clear T U V b P l o p L;go_wp2_with fail;refine(vQ N.out.2.ctx _ N.out.1 Y.out).mono ?_;rintro e w5(⟨ch,rfl,hw⟩|⟨rfl,hw⟩);. exact⟨rfl,hw⟩
    ·have Z:=VH hw;clear hw;go_wp2_with fail;refine bodyPost_ret (results_none rfl _ _ _) rfl ?_;exact Z.out
   ·have o:=VH (show j=.error 4 by
     rw[<-d.out,if_neg i.out,hd];split;. rename_i e;injection e with e _;exact absurd e D
     ·rfl);have ae:((x.toNat:Int)!=125)=true:=pO D;clear hd m d i D;go_wp2_with fail;refine z.out.mono ?_;rintro e K⟨rfl,b⟩;have p:=VH (a.out.trans b);clear b z a;go_wp2_with fail;refine(lO p.out.ctx 4).mono ?_;rintro e W⟨rfl,rfl⟩;exact⟨rfl,by rw[o.out];exact⟨rfl,p.out.turns⟩⟩
theorem H'{c:aG}{t:Bytes}(h:Ctx w c k v t):Calls VI 127 #[.pointer (some ⟨c.R,0,none⟩)] w (gi w c v (Lx.cM (aB c.es) t ((sl c.s).drop k))):=by
 by_cases a:∃r,(sl c.s).drop k=123::r;. obtain⟨r,b⟩:=a;exact Ia h b _ rfl
 ·exact Ib h (fun r e=>a ⟨r,e⟩) _ rfl
theorem zl{c:aG}{h:Bytes}(a:Step w c v k h U u)(r:Bytes)(p:(sl c.s).drop k=r)(F:Bytes->Bytes->Lx.bJ (Bytes×Bytes))(f:Lx.bJ (Bytes×Bytes))(d:(match Lx.cM (aB c.es) h r with|.error m=>.error m|.ok (t',q)=>F t' q)=f):Calls VI 127 #[.pointer (some ⟨c.R,0,none⟩)] U fun e w'=>(∃l,e=.panicked l/\gi w c v f e w')∨(∃t2 b y,e=.returned (.tuple #[])/\Step w c v b t2 w' y/\k<=b/\F t2 ((sl c.s).drop b)=f):=by subst p;refine(H' a.ctx).mono fun e w' hp=>?_;cases hq:Lx.cM (aB c.es) h ((sl c.s).drop k)with|error m=>rw[hq]at hp d;subst d;exact .inl ⟨_,hp.1,hp.1,a.turns.fT a.dy hp.2⟩|ok x=>have o:=Lx.gV (t':=x.1) (r':=x.2) hq;rw[hq]at hp d;obtain⟨n,b,t,i,j⟩:=hp;rw[<-i,Ww,Ww,aL]at o;have :=j.ctx.le;have :=a.ctx.le;exact .inr ⟨x.1,b,t,n,a.trans j,by omega,by rw[i];exact d⟩
theorem oJ(w:World)(b:UInt8):(convert 102 9 (.slice (some ⟨w.heap.size,0,none⟩) 1 1)).run VI (w.alloc (.cells #[.int .u8 b.toNat] 5))=.ok (.string ⟨#[b]⟩) (w.alloc (.cells #[.int .u8 b.toNat] 5)):=run_convert_bytes_back (P:=VI) (w.alloc (.cells #[.int .u8 b.toNat] 5)) 102 9 5 ⟨w.heap.size,0,none⟩ 1 [b] underlying102 underlying5 underlying9 (by
 intro j a;have :j=0:=by simp at a;exact a
 subst this;show(w.alloc _).cell? ⟨w.heap.size,0,none⟩=_;rw[(ad.new w _ _).cell];rfl)
theorem Step.alloc{w f:World}{c:aG}{d e:Value}{a:Nat}{b:Bytes}(h:Step w c d a b f e)(o:Obj):Step w c d a b (f.alloc o) e:=h.trans (h.ctx.sq ((aa.refl _ _).alloc o))
open Lx(Bytes)
def Fz(w:World)(c:aG)(d:Value)(b:Lx.bJ (Bytes×Bytes))(g:Nat)(f:World):Prop:=∃j a e,c.s.size-j=g/\Step w c d j a f e/\Lx.quoted (aB c.es) a ((sl c.s).drop j)=b
theorem k_(b:UInt8):(⟨#[b]⟩:ByteArray).size<=ix:=by unfold ix;exact Nat.le_trans (show(1:Nat)<=1 from VN _) (by decide)
theorem QD{c:aG}{t:Bytes}(h:Ctx w c k v t)(q:Lx.bJ (Bytes×Bytes))(Y:Lx.quoted (aB c.es) t ((sl c.s).drop k)=q):Calls VI 126 #[.pointer (some ⟨c.R,0,none⟩)] w (gi w c v q):=by
 have H:=VH (VJ h Y);clear h Y;go_enter func126,ntmps126;go_wp2_with fail;go_loopg[2](c.s.size-k)(fun g _ wr=>Fz w c v q g wr);case atStart=>exact⟨k,t,v,rfl,Step.refl H.out.1,H.out.2⟩
 case round=>
  clear H;obtain⟨j,t1,aa,z,p,a⟩:=hrel;rcases hd:(sl c.s).drop j with _|⟨b,r⟩;. have i:=VH (gD p.ctx hd);have J:=VH (VJ p (show q=.error 4 by rw[<-a,hd,Lx.j7]));clear z p hd a;go_wp2_with fail;refine i.out.mono ?_;rintro e F⟨rfl,U⟩;exact⟨rfl,by rw[J.out.2];exact⟨rfl,J.out.1.turns.fT J.out.1.dy U⟩⟩
  ·have i:=VH (ck p.ctx hd);rw[hd,Lx.jv]at a;have X:=VH (cy hd);have A:=VH (dw hd).2;by_cases D:b=34;. subst D;rw[if_pos rfl]at a;have d:=VH (VJ p a);clear z p hd a;go_wp2_with fail;refine i.out.mono ?_;rintro e F⟨rfl,f⟩;have o:=VH (d.out.1.trans f);clear f i;go_wp2_with fail;refine bodyPost_ret (results_none rfl _ _ _) rfl ?_;rw[<-d.out.2];exact⟨rfl,j+1,aa,A.out,o.out⟩
   rw[if_neg D]at a;by_cases M:b=36
   ·subst M;rw[if_pos rfl]at a;have d:=VH (VJ z (VJ p a));clear z p hd a D;go_wp2_with fail;refine i.out.mono ?_;rintro e F⟨rfl,f⟩;have o:=VH (d.out.2.1.trans f);clear f i;go_wp2_with fail;refine(zl o.out r A.out (fun t' r'=>Lx.quoted (aB c.es) t' r') q d.out.2.2).mono ?_;rintro e G(⟨L,rfl,hw⟩|⟨t2,Z,u,rfl,n,W,m⟩);. exact⟨rfl,hw⟩
    have l:=VH (VJ W (VJ n m));clear W n m;go_wp2_with fail;go_roundg(c.s.size-Z);case measure=>have :=d.out.1;have :=l.out.1;have :=X.out;omega
    case rel=>exact⟨Z,t2,u,rfl,l.out.2.1,l.out.2.2⟩
   rw[if_neg M]at a;by_cases P:b=92
   ·subst P;rw[if_pos rfl]at a;have d:=VH (VJ z (VJ p a));clear z p hd a D M;go_wp2_with fail;refine i.out.mono ?_;rintro e F⟨rfl,f⟩;have o:=VH (d.out.2.1.trans f);clear f i;rcases r with _|⟨x,r⟩;. have J:=VH (show q=.error 4 from d.out.2.2.symm);have i:=VH (gD o.out.ctx A.out);clear d;go_wp2_with fail;refine i.out.mono ?_;rintro e F⟨rfl,U⟩;exact⟨rfl,by rw[J.out];exact⟨rfl,o.out.turns.fT o.out.dy U⟩⟩
    have N:=VH (cy A.out);have I:=VH (dw A.out).2;have i:=VH (ck o.out.ctx A.out);have a:=d.out.2.2;have K:=VH d.out.1;clear d;dsimp only at a;by_cases C:x=10
    ·subst C;rw[if_pos rfl]at a;have d:=VH a;clear a;go_wp2_with fail;refine i.out.mono ?_;rintro e G⟨rfl,f⟩;have y:=VH (o.out.trans f);clear f i;go_wp2_with fail;go_roundg(c.s.size-(j+1+1));case measure=>have :=K.out;have :=N.out;omega
     case rel=>exact⟨j+1+1,t1,aa,rfl,y.out,by rw[I.out];exact d.out⟩
    rw[if_neg C]at a;by_cases E:x=110
    ·subst E;have d:=VH a;clear a C;go_wp2_with fail;refine i.out.mono ?_;rintro e G⟨rfl,f⟩;have y:=VH (o.out.trans f);clear f i;go_wp2_with fail;refine(gF y.out ⟨#[10]⟩ (by first|decide|exact k_ _) (fun t2=>Lx.quoted (aB c.es) t2 r) q d.out).mono ?_;rintro e S(⟨L,rfl,hw⟩|⟨t2,u,rfl,n,m⟩);. exact⟨rfl,hw⟩
     have l:=VH (VJ n m);clear n m;go_wp2_with fail;go_roundg(c.s.size-(j+1+1));case measure=>have :=K.out;have :=N.out;omega
     case rel=>exact⟨j+1+1,t2,u,rfl,l.out.1,by rw[I.out];exact l.out.2⟩
    by_cases O:x=116
    ·subst O;have d:=VH a;clear a C E;go_wp2_with fail;refine i.out.mono ?_;rintro e G⟨rfl,f⟩;have y:=VH (o.out.trans f);clear f i;go_wp2_with fail;refine(gF y.out ⟨#[9]⟩ (by first|decide|exact k_ _) (fun t2=>Lx.quoted (aB c.es) t2 r) q d.out).mono ?_;rintro e S(⟨L,rfl,hw⟩|⟨t2,u,rfl,n,m⟩);. exact⟨rfl,hw⟩
     have l:=VH (VJ n m);clear n m;go_wp2_with fail;go_roundg(c.s.size-(j+1+1));case measure=>have :=K.out;have :=N.out;omega
     case rel=>exact⟨j+1+1,t2,u,rfl,l.out.1,by rw[I.out];exact l.out.2⟩
    by_cases Q:x=101
    ·subst Q;have d:=VH a;clear a C E O;go_wp2_with fail;refine i.out.mono ?_;rintro e G⟨rfl,f⟩;have y:=VH (o.out.trans f);clear f i;go_wp2_with fail;refine(gF y.out ⟨#[27]⟩ (by first|decide|exact k_ _) (fun t2=>Lx.quoted (aB c.es) t2 r) q d.out).mono ?_;rintro e S(⟨L,rfl,hw⟩|⟨t2,u,rfl,n,m⟩);. exact⟨rfl,hw⟩
     have l:=VH (VJ n m);clear n m;go_wp2_with fail;go_roundg(c.s.size-(j+1+1));case measure=>have :=K.out;have :=N.out;omega
     case rel=>exact⟨j+1+1,t2,u,rfl,l.out.1,by rw[I.out];exact l.out.2⟩
    have ab:((x.toNat:Int)==10)=false:=bI (m:=10) C;have ae:((x.toNat:Int)==110)=false:=bI (m:=110) E;have af:((x.toNat:Int)==116)=false:=bI (m:=116) O;have ad:((x.toNat:Int)==101)=false:=bI (m:=101) Q;have V:Lx.kI x=[x]:=by unfold Lx.kI;rw[if_neg E,if_neg O,if_neg Q]
    rw[V]at a;have d:=VH a;clear a V C E O Q;go_wp2_with fail;refine i.out.mono ?_;rintro e G⟨rfl,f⟩;have y:=VH (o.out.trans f);clear f i;have T:=oJ G x;go_wp2_with fail;clear T;refine(gF (y.out.alloc _) ⟨#[x]⟩ (k_ _) (fun t2=>Lx.quoted (aB c.es) t2 r) q d.out).mono ?_;rintro e S(⟨L,rfl,hw⟩|⟨t2,u,rfl,n,m⟩);. exact⟨rfl,hw⟩
    have l:=VH (VJ n m);clear n m;go_wp2_with fail;go_roundg(c.s.size-(j+1+1));case measure=>have :=K.out;have :=N.out;omega
    case rel=>exact⟨j+1+1,t2,u,rfl,l.out.1,by rw[I.out];exact l.out.2⟩
   rw[if_neg P]at a;have ag:((b.toNat:Int)==34)=false:=bI (m:=34) D;have ah:((b.toNat:Int)==36)=false:=bI (m:=36) M;have ai:((b.toNat:Int)==92)=false:=bI (m:=92) P;have d:=VH (VJ z (VJ p a));clear z p hd a D M P;go_wp2_with fail;refine i.out.mono ?_;rintro e F⟨rfl,f⟩;have o:=VH (d.out.2.1.trans f);clear f i;have T:=oJ F b;go_wp2_with fail;clear T;refine(gF (o.out.alloc _) ⟨#[b]⟩ (k_ _) (fun t2=>Lx.quoted (aB c.es) t2 r) q d.out.2.2).mono ?_;rintro e S(⟨L,rfl,hw⟩|⟨t2,u,rfl,n,m⟩);. exact⟨rfl,hw⟩
   have l:=VH (VJ n m);clear n m;go_wp2_with fail;go_roundg(c.s.size-(j+1));case measure=>have :=d.out.1;have :=X.out;omega
   case rel=>exact⟨j+1,t2,u,rfl,l.out.1,by rw[A.out];exact l.out.2⟩
theorem QA{c:aG}{t:Bytes}(h:Ctx w c k v t):Calls VI 126 #[.pointer (some ⟨c.R,0,none⟩)] w (gi w c v (Lx.quoted (aB c.es) t ((sl c.s).drop k))):=QD h _ rfl
theorem QB{c:aG}{h:Bytes}(a:Step w c v k h U u)(r:Bytes)(p:(sl c.s).drop k=r)(F:Bytes->Bytes->Lx.bJ (Bytes×Bytes))(f:Lx.bJ (Bytes×Bytes))(d:(match Lx.quoted (aB c.es) h r with|.error m=>.error m|.ok (t',q)=>F t' q)=f):Calls VI 126 #[.pointer (some ⟨c.R,0,none⟩)] U fun e w'=>(∃l,e=.panicked l/\gi w c v f e w')∨(∃t2 b y,e=.returned (.tuple #[])/\Step w c v b t2 w' y/\k<=b/\F t2 ((sl c.s).drop b)=f):=by subst p;refine(QA a.ctx).mono fun e w' hp=>?_;cases hq:Lx.quoted (aB c.es) h ((sl c.s).drop k)with|error m=>rw[hq]at hp d;subst d;exact .inl ⟨_,hp.1,hp.1,a.turns.fT a.dy hp.2⟩|ok x=>have o:=Lx.l9 _ (VN _) (t':=x.1) (r':=x.2) hq;rw[hq]at hp d;obtain⟨n,b,t,i,j⟩:=hp;rw[<-i,Ww,Ww,aL]at o;have :=j.ctx.le;have :=a.ctx.le;exact .inr ⟨x.1,b,t,n,a.trans j,by omega,by rw[i];exact d⟩
end
section
open Lx(Bytes)
theorem yX{B:Nat}{t:Bytes}(h:w.ownsRow B 5 1 v t.length (eW t)):(convert 102 9 v).run VI w=.ok (.string ⟨t.toArray⟩) w:=by
 obtain⟨A,c,b⟩:=aE h;subst b
 cases A with
 |none=>
  rcases h.2 with⟨e,l⟩|⟨g,d,f,b,_⟩;. have :t=[]:=VP l;subst this;exact run_convert_bytes_nil (P:=VI) w 102 5 underlying102 underlying5 0 c 9 underlying9
  ·cases b
 |some a=>
  have i:a=⟨a.block,0,none⟩:=by
   rcases h.2 with⟨e,_⟩|⟨g,d,f,b,_⟩;. cases e
   ·injection b with e _ _;injection e with e;rw[e]
  refine run_convert_bytes_back (P:=VI) w 102 9 5 a c t underlying102 underlying5 underlying9 ?_;intro j k;rw[i];refine h.cells (g:=a.block) rfl j _ ?_;simp[eW,List.getElem?_eq_getElem k]
theorem nN{b:Func}{p:Tmp}(h:b.results=#[.cell p t])(tmps:Array Value)(P:Program)(w:World)(a:Addr)(c:tmps.getD p undef=.pointer (some a)):(results b tmps).run P w=(loadVar t a).run P w:=by simp only[results,h];simp only[Array.getD_eq_getD_getElem?]at c;simp[c,asAddr]
theorem Cb(w:World)(g:Nat)(v0 d v2:Value)(h:ad w g 98 #[v0,d,v2]):(loadVar 98 ⟨g,0,none⟩).run VI w=.ok (.agg #[v0,d,v2]) w:=by have a:=h.cell 0;have b:=h.cell 1;have c:=h.cell 2;clear h;simp at a b c;simp[go_sem,a,b,c]
def qo:Array Value:=#[.string ⟨#[]⟩,.int .i64 0,.bool false]
def s_(w:World)(c:aG)(a:Value)(r:Lx.bJ (Bytes×Bytes))(e:Ending)(b:World):Prop:=match r with|.ok x=>e=.returned (.agg #[.string ⟨x.1.toArray⟩,.int .i64 c.wl,.bool false])/\∃k' tx',(sl c.s).drop k'=x.2/\Step w c a k' x.1 b tx'|.error m=>e=.panicked (trouble m c.wl)/\aa (TS c.R a) w b
def T0(w:World):World:=w.alloc (.cells qo 98)
theorem kt{c:aG}{t:Bytes}(h:Ctx w c k v t):Step w c v k t (T0 w) v:=(Step.refl h).alloc _
theorem xV{c:aG}{t:Bytes}(h:Ctx w c k v t):¬TS c.R v w.heap.size:=by
 rintro(e|e);. have :=h.dx;omega
 ·have :=(h.Ez _ e).2;omega
theorem xW{c:aG}{b:Bytes}(a:¬TS c.R v w.heap.size)(h:Step (T0 w) c v k b w' u):ad w' w.heap.size 98 qo:=h.turns.blk (ad.new w _ _) a
theorem gg{c:aG}{t:Bytes}(h:Ctx w c k v t){a:Lx.bJ (Bytes×Bytes)}{b:List PanicEntry}(hw:gi (T0 w) c v a (.panicked b) w'):s_ w c v a (.panicked b) w':=by cases a with|error m=>exact⟨hw.1,(kt h).turns.fT (kt h).dy hw.2⟩|ok x=>obtain⟨e,_⟩:=hw;cases e
structure FG(w:World)(c:aG)(k:Nat)(tx:Value)(res:Lx.bJ (Bytes×Bytes))(g:Nat)(wr:World)(j:Nat)(t1:Bytes)(tx1:Value):Prop where
 bW:c.s.size-j=g
 le:k<=j
 step:Step (T0 w) c tx j t1 wr tx1
 spec:Lx.word (aB c.es) (decide (j=k)) t1 ((sl c.s).drop j)=res
theorem Step.nQ{c:aG}{f:Bytes}(h:Step w c u k f w' z)(d:ad w' g 98 F)(hB:c.B<=w.heap.size)(m:w.heap.size<=g)(i:Nat)(v:Value):Step w c u k f (w'.setCell ⟨g,i,none⟩ v) z:=by have a:aa (af g) w' (w'.setCell ⟨g,i,none⟩ v):=(aa.refl (af g) w').setCell (p:=⟨g,i,none⟩) (.inl rfl) v;have j:¬af g c.R:=fun e=>d.fB h.ctx.blk (by decide) e.symm;refine⟨⟨a.blk h.ctx.blk j,h.ctx.hB,h.ctx.size,h.ctx.le,a.own h.ctx.own fun b l e=>a_ h.ctx.own d (by decide) (by rw[l,e]),h.ctx.long,h.ctx.env.aC fun p hp=>a.cell (by have :=h.ctx.hB;have :=h.ctx.dx;omega) (fun e=>by have n:p.block=g:=e;omega)⟩,h.turns.setCell (.inr m) _,h.dy⟩
def sK(G:Bytes->Bytes->Lx.bJ (Bytes×Bytes))(r:Lx.bJ (Bytes×Bytes)):Lx.bJ (Bytes×Bytes):=match r with|.error m=>.error m|.ok (t',a)=>G t' a
theorem RT{G:Bytes->Bytes->Lx.bJ (Bytes×Bytes)}{t:Bytes}{r:Bytes}(h:¬a=39):sK G (Lx.single t (a::r))=match Lx.put t [a]with|.error m=>.error m|.ok t2=>sK G (Lx.single t2 r):=by rw[Lx.single.eq_2,if_neg h];cases Lx.put t [a]<;>rfl
structure Fo(w:World)(c:aG)(tx:Value)(res:Lx.bJ (Bytes×Bytes))(j1 g:Nat)(wi:World)(y:UInt8)(jj:Nat)(tt:Bytes)(txx:Value):Prop where
 bW:c.s.size+1-jj=g
 lt:j1<jj
 step:Step (T0 w) c tx jj tt wi txx
 spec:sK (fun t' r'=>Lx.word (aB c.es) false t' r') (Lx.single tt (y::(sl c.s).drop jj))=res
theorem S8{c:aG}{t:Bytes}(h:Ctx w c k u t)(G:Lx.bJ (Bytes×Bytes))(ak:Lx.word (aB c.es) true t ((sl c.s).drop k)=G):Calls VI 94 #[.pointer (some ⟨c.R,0,none⟩)] w (s_ w c u G):=by
 have o:=h.c2;have hR:=h.dx;have hN:=VH (xV h);have H:=VH h;have HS:=VH ak;clear h ak;go_enter func94,ntmps94;go_wp2_with fail;go_loopg[5](c.s.size-k)(fun g _ wr=>∃j S ag,FG w c k u G g wr j S ag);case atStart=>exact⟨k,t,u,rfl,VN _,Step.refl (kt H.out).ctx,by simpa using HS.out⟩
 case round=>
  clear o HS;obtain⟨j,S,ag,hT⟩:=hrel;have D:=VH (ph hT.step.ctx);have l:=VH hT
  cases Z:Lx.over ((sl c.s).drop j)with
  |true=>
   rw[Z]at D;have ak:G=.ok (S,(sl c.s).drop j):=by rw[<-hT.spec,Lx.fF _ _ _ _ Z]
   have i:=VH ak;clear hT Z ak;go_wp2_with fail;refine D.out.mono ?_;rintro e E⟨rfl,n,rfl⟩;clear D;have a:=VH (l.out.step.drewN n);have X:=VH (xW hN.out a.out);generalize wr.drewN n=E at a X;have c4:=a.out.ctx.c4;have c5:=a.out.ctx.c5;have c0:=X.out.cell 0;have c1:=X.out.cell 1;have c2:=X.out.cell 2;have f0:=X.out.frozen 0;have f1:=X.out.frozen 1;have f2:=X.out.frozen 2;simp only[qo]at c0 c1 c2;have ae:=yX a.out.ctx.own;have aH:(convert 102 9 ag).run VI E.drew=.ok (.string ⟨S.toArray⟩) E.drew:=yX (a.out.ctx.drewN 1).own;have aJ:w.heap.size≠c.R:=by omega
   go_wp2_with fail;go_region
   all_goals
    go_wp2_with fail;have hB:c.B<=w.heap.size:=by have :=a.out.ctx.hB;omega
    have b1:=X.out.aj 0 (.string ⟨S.toArray⟩);have a:=(kt H.out).trans a.out;have s1:=a.nQ X.out hB (VN _) 0 (.string ⟨S.toArray⟩);have b2:=b1.aj 1 (.int .i64 c.wl);have s2:=s1.nQ b1 hB (VN _) 1 (.int .i64 c.wl);have b3:=b2.aj 2 (.bool false);have s3:=s2.nQ b2 hB (VN _) 2 (.bool false);have b4:ad _ w.heap.size 98 #[.string ⟨S.toArray⟩,.int .i64 c.wl,.bool false]:=b3;refine bodyPost_ret (v:=.agg #[.string ⟨S.toArray⟩,.int .i64 c.wl,.bool false]) ?_ rfl ?_;. exact(nN results94 _ _ _ ⟨w.heap.size,0,none⟩ rfl).trans (Cb _ _ _ _ _ (b4.drewN 1))
    ·rw[i.out];exact⟨rfl,j,ag,rfl,s3.drewN 1⟩
  |false=>
   rw[Z]at D;rcases hd:(sl c.s).drop j with _|⟨b,r⟩;. rw[hd]at Z;cases Z
   have d:=hT.spec;rw[hd]at Z;rw[hd,Lx.fV _ _ _ _ _ Z]at d;have N:=VH hd;have Y:=VH (cy hd);have C:=VH (dw hd).2;clear hT Z hd;have O:decide (j=k)=((j:Int)==(k:Int)):=by rw[Bool.eq_iff_iff];simp;omega
   rw[O]at d;generalize aI:((j:Int)==(k:Int))=f at d;by_cases J:b=39
   ·subst J;rw[if_pos rfl]at d;have p:=VH d;clear d O;go_wp2_with fail;refine D.out.mono ?_;rintro e E⟨rfl,n,rfl⟩;have a:=VH (l.out.step.drewN n);generalize wr.drewN n=E at a;have c2:=a.out.ctx.c2;clear D;go_wp2_with fail;clear c2;refine(ck a.out.ctx N.out).mono ?_;rintro e L⟨rfl,m⟩;have o:=VH (a.out.trans m);clear m a;go_wp2_with fail;rcases r with _|⟨x,r⟩;. have i:=VH (show G=.error 4 from p.out.symm);refine(gD o.out.ctx C.out).mono ?_;rintro e F⟨rfl,ht⟩;exact⟨rfl,gg H.out (by rw[i.out];exact⟨rfl,o.out.turns.fT o.out.dy ht⟩)⟩
    have aq:=VH (cy C.out);have ah:=VH (dw C.out).2;refine(ck o.out.ctx C.out).mono ?_;rintro e F⟨rfl,m⟩;have U:=VH (o.out.trans m);clear m o;go_wp2_with fail;go_loopg[5](c.s.size+1-(j+1+1))(fun g s5 wi=>∃y jj tt ar,s5=.int .u8 y.toNat/\Fo w c u G (j+1) g wi y jj tt ar);case atStart=>exact⟨x,j+1+1,S,ag,rfl,rfl,by omega,U.out,by rw[ah.out];exact p.out⟩
    case round=>
     clear p U N C ah;obtain⟨y,jj,tt,ar,rfl,hI⟩:=hrel;have HI:=VH hI;have al:=hI.spec;clear hI;by_cases J:y=39
     ·subst J;have au:Lx.word (aB c.es) false tt ((sl c.s).drop jj)=G:=al;have HP:=VH au;clear al au;go_wp2_with fail;go_roundg(c.s.size-jj);case measure=>have :=l.out.bW;have :=HI.out.lt;have :=Y.out;omega
      case rel=>exact⟨jj,tt,ar,rfl,by have :=l.out.le;have :=HI.out.lt;omega,HI.out.step,by rw[decide_eq_false (by have :=l.out.le;have :=HI.out.lt;omega)];exact HP.out⟩
     have aw:((y.toNat:Int)!=39)=true:=pO (m:=39) J;rw[RT J]at al;have HP:=VH al;clear al J;have ae:=oJ wr y;go_wp2_with fail;clear ae;refine(gF (HI.out.step.alloc _) ⟨#[y]⟩ (k_ _) (fun t2=>sK (fun t' r'=>Lx.word (aB c.es) false t' r') (Lx.single t2 ((sl c.s).drop jj))) G HP.out).mono ?_;rintro e w5(⟨T,rfl,hw⟩|⟨t2,I,rfl,A,q⟩);. exact⟨rfl,gg H.out hw⟩
     have i:=VH (VJ A q);clear A q;go_wp2_with fail;rcases hd:(sl c.s).drop jj with _|⟨z,r2⟩;. have d:=i.out.2;rw[hd]at d;have HZ:=VH (show G=.error 4 from d.symm);refine(gD i.out.1.ctx hd).mono ?_;rintro e F⟨rfl,ht⟩;exact⟨rfl,gg H.out (by rw[HZ.out];exact⟨rfl,i.out.1.turns.fT i.out.1.dy ht⟩)⟩
     have ay:=VH (cy hd);have av:=VH (dw hd).2;have d:=i.out.2;rw[hd]at d;have HZ:=VH d;refine(ck i.out.1.ctx hd).mono ?_;rintro e w6⟨rfl,m⟩;have W:=VH (i.out.1.trans m);clear m hd d i;go_wp2_with fail;go_roundg(c.s.size+1-(jj+1));case measure=>have :=HI.out.bW;have :=ay.out;omega
     case rel=>exact⟨z,jj+1,t2,I,rfl,rfl,by have :=HI.out.lt;omega,W.out,by rw[av.out];exact HZ.out⟩
   rw[if_neg J]at d;by_cases M:b=34
   ·subst M;rw[if_pos rfl]at d;have p:=VH d;clear d J O;go_wp2_with fail;refine D.out.mono ?_;rintro e E⟨rfl,n,rfl⟩;have a:=VH (l.out.step.drewN n);generalize wr.drewN n=E at a;have c2:=a.out.ctx.c2;clear D;go_wp2_with fail;clear c2;refine(ck a.out.ctx N.out).mono ?_;rintro e L⟨rfl,m⟩;have o:=VH (a.out.trans m);clear m a;go_wp2_with fail;refine(QB o.out r C.out (fun t' r'=>Lx.word (aB c.es) false t' r') G p.out).mono ?_;rintro e F(⟨T,rfl,hw⟩|⟨t2,k2,I,rfl,A,ax,q⟩);. exact⟨rfl,gg H.out hw⟩
    have i:=VH (VJ A q);clear A q;go_wp2_with fail;go_roundg(c.s.size-k2);case measure=>have :=l.out.bW;have :=Y.out;omega
    case rel=>exact⟨k2,t2,I,rfl,by have :=l.out.le;omega,i.out.1,by rw[decide_eq_false (by have :=l.out.le;omega)];exact i.out.2⟩
   rw[if_neg M]at d;by_cases Q:b=92
   ·subst Q;rw[if_pos rfl]at d;have p:=VH d;clear d J M O;go_wp2_with fail;refine D.out.mono ?_;rintro e E⟨rfl,n,rfl⟩;have a:=VH (l.out.step.drewN n);generalize wr.drewN n=E at a;have c2:=a.out.ctx.c2;clear D;go_wp2_with fail;clear c2;refine(ck a.out.ctx N.out).mono ?_;rintro e L⟨rfl,m⟩;have o:=VH (a.out.trans m);clear m a;rcases r with _|⟨x,r⟩;. have i:=VH (show G=.error 4 from p.out.symm);have HN:=VH (gD o.out.ctx C.out);clear p;go_wp2_with fail;refine HN.out.mono ?_;rintro e F⟨rfl,ht⟩;exact⟨rfl,gg H.out (by rw[i.out];exact⟨rfl,o.out.turns.fT o.out.dy ht⟩)⟩
    have aq:=VH (cy C.out);have ah:=VH (dw C.out).2;have d:=p.out;clear p;dsimp only at d;go_wp2_with fail;refine(ck o.out.ctx C.out).mono ?_;rintro e F⟨rfl,m⟩;have U:=VH (o.out.trans m);clear m o;by_cases an:x=10
    ·subst an;rw[if_pos rfl]at d;have i:=VH (VJ U.out d);clear d;go_wp2_with fail;go_roundg(c.s.size-(j+1+1));case measure=>have :=l.out.bW;have :=aq.out;omega
     case rel=>exact⟨j+1+1,S,ag,rfl,by have :=l.out.le;omega,i.out.1,by rw[decide_eq_false (by have :=l.out.le;omega),ah.out];exact i.out.2⟩
    rw[if_neg an]at d;have az:((x.toNat:Int)!=10)=true:=pO (m:=10) an;have p:=VH d;clear d an;have ae:=oJ F x;go_wp2_with fail;clear ae;refine(gF (U.out.alloc _) ⟨#[x]⟩ (k_ _) (fun t2=>Lx.word (aB c.es) false t2 r) G p.out).mono ?_;rintro e w5(⟨T,rfl,hw⟩|⟨t2,I,rfl,A,q⟩);. exact⟨rfl,gg H.out hw⟩
    have i:=VH (VJ A q);clear A q;go_wp2_with fail;go_roundg(c.s.size-(j+1+1));case measure=>have :=l.out.bW;have :=aq.out;omega
    case rel=>exact⟨j+1+1,t2,I,rfl,by have :=l.out.le;omega,i.out.1,by rw[decide_eq_false (by have :=l.out.le;omega),ah.out];exact i.out.2⟩
   rw[if_neg Q]at d;by_cases V:b=36
   ·subst V;rw[if_pos rfl]at d;have p:=VH d;clear d J M Q O;go_wp2_with fail;refine D.out.mono ?_;rintro e E⟨rfl,n,rfl⟩;have a:=VH (l.out.step.drewN n);generalize wr.drewN n=E at a;have c2:=a.out.ctx.c2;clear D;go_wp2_with fail;clear c2;refine(ck a.out.ctx N.out).mono ?_;rintro e L⟨rfl,m⟩;have o:=VH (a.out.trans m);clear m a;go_wp2_with fail;refine(zl o.out r C.out (fun t' r'=>Lx.word (aB c.es) false t' r') G p.out).mono ?_;rintro e F(⟨T,rfl,hw⟩|⟨t2,k2,I,rfl,A,ax,q⟩);. exact⟨rfl,gg H.out hw⟩
    have i:=VH (VJ A q);clear A q;go_wp2_with fail;go_roundg(c.s.size-k2);case measure=>have :=l.out.bW;have :=Y.out;omega
    case rel=>exact⟨k2,t2,I,rfl,by have :=l.out.le;omega,i.out.1,by rw[decide_eq_false (by have :=l.out.le;omega)];exact i.out.2⟩
   rw[if_neg V]at d;by_cases ao:b=126
   ·subst ao
    cases f with
    |false=>
     rw[if_neg (by simp)]at d;have p:=VH d;clear d J M Q V O;go_wp2_with fail;refine D.out.mono ?_;rintro e E⟨rfl,n,rfl⟩;have a:=VH (l.out.step.drewN n);generalize wr.drewN n=E at a;have c2:=a.out.ctx.c2;clear D;go_wp2_with fail;clear c2;refine(ck a.out.ctx N.out).mono ?_;rintro e L⟨rfl,m⟩;have o:=VH (a.out.trans m);clear m a;go_wp2_with fail;refine(rU o.out.ctx).mono ?_;rintro e F⟨b',aK,-,rfl,n,rfl⟩;have K:=VH (o.out.drewN n);generalize L.drewN n=F at K;go_wp2_with fail;refine(gF K.out ⟨#[126]⟩ (by decide) (fun t2=>Lx.word (aB c.es) false t2 r) G p.out).mono ?_;rintro e w5(⟨T,rfl,hw⟩|⟨t2,I,rfl,A,q⟩);. exact⟨rfl,gg H.out hw⟩
     have i:=VH (VJ A q);clear A q;go_wp2_with fail;go_roundg(c.s.size-(j+1));case measure=>have :=l.out.bW;have :=Y.out;omega
     case rel=>exact⟨j+1,t2,I,rfl,by have :=l.out.le;omega,i.out.1,by rw[decide_eq_false (by have :=l.out.le;omega),C.out];exact i.out.2⟩
    |true=>
     rcases r with _|⟨x,r⟩
     ·rw[if_pos ⟨rfl,rfl,.inr rfl⟩]at d;have p:=VH d;clear d J M Q V O;go_wp2_with fail;refine D.out.mono ?_;rintro e E⟨rfl,n,rfl⟩;have a:=VH (l.out.step.drewN n);generalize wr.drewN n=E at a;have c2:=a.out.ctx.c2;clear D;go_wp2_with fail;clear c2;refine(ck a.out.ctx N.out).mono ?_;rintro e L⟨rfl,m⟩;have o:=VH (a.out.trans m);clear m a;go_wp2_with fail;refine(l8 o.out.ctx C.out).mono ?_;rintro e F⟨rfl,n,rfl⟩;have K:=VH (o.out.drewN n);generalize L.drewN n=F at K;have P:=ph K.out.ctx;rw[C.out]at P;have HO:=VH P;clear P;go_wp2_with fail;refine HO.out.mono ?_;rintro e w4⟨rfl,n,rfl⟩;clear HO;have W:=VH (K.out.drewN n);generalize F.drewN n=w4 at W;go_wp2_with fail;refine(pR W.out.ctx ⟨#[72,79,77,69]⟩).mono ?_;rintro e w4⟨v,rfl,hv⟩;obtain⟨y,rfl,hy,ab,aa⟩:=pS W.out hv;have h5:=VH (VJ ab aa);have d:=p.out;rw[show Lx.value (aB c.es) [72,79,77,69]=sl y from hy.symm]at d;have p:=VH d;clear d hv hy ab aa;go_wp2_with fail;refine(gF h5.out.2 y h5.out.1 (fun t2=>Lx.word (aB c.es) false t2 []) G p.out).mono ?_;rintro e w5(⟨T,rfl,hw⟩|⟨t2,I,rfl,A,q⟩);. exact⟨rfl,gg H.out hw⟩
      have i:=VH (VJ A q);clear A q;go_wp2_with fail;go_roundg(c.s.size-(j+1));case measure=>have :=l.out.bW;have :=Y.out;omega
      case rel=>exact⟨j+1,t2,I,rfl,by have :=l.out.le;omega,i.out.1,by rw[decide_eq_false (by have :=l.out.le;omega),C.out];exact i.out.2⟩
     by_cases ai:x=47
     ·subst ai;rw[if_pos ⟨rfl,rfl,.inl rfl⟩]at d;have p:=VH d;clear d J M Q V O;go_wp2_with fail;refine D.out.mono ?_;rintro e E⟨rfl,n,rfl⟩;have a:=VH (l.out.step.drewN n);generalize wr.drewN n=E at a;have c2:=a.out.ctx.c2;clear D;go_wp2_with fail;clear c2;refine(ck a.out.ctx N.out).mono ?_;rintro e L⟨rfl,m⟩;have o:=VH (a.out.trans m);clear m a;go_wp2_with fail;refine(jt o.out.ctx C.out).mono ?_;rintro e F⟨rfl,n,rfl⟩;have K:=VH (o.out.drewN n);generalize L.drewN n=F at K;go_wp2_with fail;refine(pR K.out.ctx ⟨#[72,79,77,69]⟩).mono ?_;rintro e w4⟨v,rfl,hv⟩;obtain⟨y,rfl,hy,ab,aa⟩:=pS K.out hv;have h5:=VH (VJ ab aa);have d:=p.out;rw[show Lx.value (aB c.es) [72,79,77,69]=sl y from hy.symm]at d;have p:=VH d;clear d hv hy ab aa;go_wp2_with fail;refine(gF h5.out.2 y h5.out.1 (fun t2=>Lx.word (aB c.es) false t2 (47::r)) G p.out).mono ?_;rintro e w5(⟨T,rfl,hw⟩|⟨t2,I,rfl,A,q⟩);. exact⟨rfl,gg H.out hw⟩
      have i:=VH (VJ A q);clear A q;go_wp2_with fail;go_roundg(c.s.size-(j+1));case measure=>have :=l.out.bW;have :=Y.out;omega
      case rel=>exact⟨j+1,t2,I,rfl,by have :=l.out.le;omega,i.out.1,by rw[decide_eq_false (by have :=l.out.le;omega),C.out];exact i.out.2⟩
     have aE:((x.toNat:Int)==47)=false:=bI (m:=47) ai
     cases af:Lx.over (x::r)with
     |true=>
      rw[if_pos ⟨rfl,rfl,.inr af⟩]at d;have p:=VH d;have HV:=VH af;clear d J M Q V O ai af;go_wp2_with fail;refine D.out.mono ?_;rintro e E⟨rfl,n,rfl⟩;have a:=VH (l.out.step.drewN n);generalize wr.drewN n=E at a;have c2:=a.out.ctx.c2;clear D;go_wp2_with fail;clear c2;refine(ck a.out.ctx N.out).mono ?_;rintro e L⟨rfl,m⟩;have o:=VH (a.out.trans m);clear m a;go_wp2_with fail;refine(jt o.out.ctx C.out).mono ?_;rintro e F⟨rfl,n,rfl⟩;have K:=VH (o.out.drewN n);generalize L.drewN n=F at K;have P:=ph K.out.ctx;rw[C.out,HV.out]at P;have HO:=VH P;clear P;go_wp2_with fail;refine HO.out.mono ?_;rintro e w4⟨rfl,n,rfl⟩;clear HO;have W:=VH (K.out.drewN n);generalize F.drewN n=w4 at W;go_wp2_with fail;refine(pR W.out.ctx ⟨#[72,79,77,69]⟩).mono ?_;rintro e w4⟨v,rfl,hv⟩;obtain⟨y,rfl,hy,ab,aa⟩:=pS W.out hv;have h5:=VH (VJ ab aa);have d:=p.out;rw[show Lx.value (aB c.es) [72,79,77,69]=sl y from hy.symm]at d;have p:=VH d;clear d hv hy ab aa;go_wp2_with fail;refine(gF h5.out.2 y h5.out.1 (fun t2=>Lx.word (aB c.es) false t2 (x::r)) G p.out).mono ?_;rintro e w5(⟨T,rfl,hw⟩|⟨t2,I,rfl,A,q⟩);. exact⟨rfl,gg H.out hw⟩
      have i:=VH (VJ A q);clear A q;go_wp2_with fail;go_roundg(c.s.size-(j+1));case measure=>have :=l.out.bW;have :=Y.out;omega
      case rel=>exact⟨j+1,t2,I,rfl,by have :=l.out.le;omega,i.out.1,by rw[decide_eq_false (by have :=l.out.le;omega),C.out];exact i.out.2⟩
     |false=>
      rw[if_neg (by simp[ai,af])]at d;have p:=VH d;have HV:=VH af;clear d J M Q V O ai af;go_wp2_with fail;refine D.out.mono ?_;rintro e E⟨rfl,n,rfl⟩;have a:=VH (l.out.step.drewN n);generalize wr.drewN n=E at a;have c2:=a.out.ctx.c2;clear D;go_wp2_with fail;clear c2;refine(ck a.out.ctx N.out).mono ?_;rintro e L⟨rfl,m⟩;have o:=VH (a.out.trans m);clear m a;go_wp2_with fail;refine(jt o.out.ctx C.out).mono ?_;rintro e F⟨rfl,n,rfl⟩;have U:=VH (o.out.drewN n);generalize L.drewN n=F at U;have P:=ph U.out.ctx;rw[C.out,HV.out]at P;have HO:=VH P;clear P;go_wp2_with fail;refine HO.out.mono ?_;rintro e w4⟨rfl,n,rfl⟩;clear HO;have K:=VH (U.out.drewN n);generalize F.drewN n=w4 at K;go_wp2_with fail;refine(gF K.out ⟨#[126]⟩ (by decide) (fun t2=>Lx.word (aB c.es) false t2 (x::r)) G p.out).mono ?_;rintro e w5(⟨T,rfl,hw⟩|⟨t2,I,rfl,A,q⟩);. exact⟨rfl,gg H.out hw⟩
      have i:=VH (VJ A q);clear A q;go_wp2_with fail;go_roundg(c.s.size-(j+1));case measure=>have :=l.out.bW;have :=Y.out;omega
      case rel=>exact⟨j+1,t2,I,rfl,by have :=l.out.le;omega,i.out.1,by rw[decide_eq_false (by have :=l.out.le;omega),C.out];exact i.out.2⟩
   rw[if_neg (fun e=>ao e.1)]at d;have aw:((b.toNat:Int)==39)=false:=bI (m:=39) J;have aC:((b.toNat:Int)==34)=false:=bI (m:=34) M;have aF:((b.toNat:Int)==92)=false:=bI (m:=92) Q;have aD:((b.toNat:Int)==36)=false:=bI (m:=36) V;have aA:((b.toNat:Int)==126)=false:=bI (m:=126) ao;have p:=VH d;clear d J M Q V ao O;go_wp2_with fail;refine D.out.mono ?_;rintro e E⟨rfl,n,rfl⟩;have a:=VH (l.out.step.drewN n);generalize wr.drewN n=E at a;have c2:=a.out.ctx.c2;clear D;go_wp2_with fail;clear c2;refine(ck a.out.ctx N.out).mono ?_;rintro e L⟨rfl,m⟩;have o:=VH (a.out.trans m);clear m a;have ae:=oJ L b;go_wp2_with fail;clear ae;refine(gF (o.out.alloc _) ⟨#[b]⟩ (k_ _) (fun t2=>Lx.word (aB c.es) false t2 r) G p.out).mono ?_;rintro e w5(⟨T,rfl,hw⟩|⟨t2,I,rfl,A,q⟩);. exact⟨rfl,gg H.out hw⟩
   have i:=VH (VJ A q);clear A q;go_wp2_with fail;go_roundg(c.s.size-(j+1));case measure=>have :=l.out.bW;have :=Y.out;omega
   case rel=>exact⟨j+1,t2,I,rfl,by have :=l.out.le;omega,i.out.1,by rw[decide_eq_false (by have :=l.out.le;omega),C.out];exact i.out.2⟩
end
section
open Lx(Bytes)
def sO(w:World)(c:aG)(a:Value)(e:Ending)(b:World):Prop:=e=.panicked (trouble 4 c.wl)/\aa (TS c.R a) w b
def mv(w:World)(c:aG)(k:Nat)(a:Value)(t:Bytes)(f:Option Bytes)(e:Ending)(d:World):Prop:=match f with|none=>sO w c a e d|some b=>if Lx.over b then∃u k',e=.returned (.agg #[.string u,.int .i64 c.wl,.bool true])/\sl u=((sl c.s).drop k).take (((sl c.s).drop k).length-b.length-1)/\(sl c.s).drop k'=b/\Step w c a k' t d a else sO w c a e d
theorem ks{c:aG}{t b:Bytes}(h:Ctx w c k v t)(a:Step (T0 w) c v n b w' u)(hw:aa (TS c.R u) w' U):sO w c v (.panicked (trouble 4 c.wl)) U:=⟨rfl,((kt h).turns.fT (kt h).dy (a.turns.fT a.dy hw))⟩
def bk(d:Nat)(r:Bytes):Option Bytes:=if d=0 then some r else Lx.blk d r
structure E6(w:World)(c:aG)(k:Nat)(tx:Value)(t:Bytes)(res:Option Bytes)(g:Nat)(wr:World)(j d:Nat):Prop where
 bW:c.s.size-j=g
 le:k<=j
 few:d+k<=j+1
 pos:d=0->k<j
 step:Step (T0 w) c tx j t wr tx
 spec:bk d ((sl c.s).drop j)=res
def oK(d:Nat)(r:Option Bytes):Option Bytes:=match r with|none=>none|some a=>Lx.blk d a
structure FC(w:World)(c:aG)(tx:Value)(t:Bytes)(res:Option Bytes)(j d g:Nat)(wr:World)(jj:Nat):Prop where
 bW:c.s.size-jj=g
 lt:j<jj
 step:Step (T0 w) c tx jj t wr tx
 spec:oK d (Lx.iV ((sl c.s).drop jj))=res
structure Fc(w:World)(c:aG)(tx:Value)(t:Bytes)(res:Option Bytes)(j d g:Nat)(wr:World)(y:UInt8)(jj:Nat):Prop where
 bW:c.s.size+1-jj=g
 lt:j<jj
 step:Step (T0 w) c tx jj t wr tx
 spec:oK d (Lx.dA (y::(sl c.s).drop jj))=res
theorem mL(h:0<k)(r:Bytes):bk k r=Lx.blk k r:=if_neg (by omega)
theorem Gg(h:0<k)(r:Bytes):(if k<=1 then some r else Lx.blk (k-1) r)=bk (k-1) r:=by
 unfold bk;by_cases a:k<=1;. rw[if_pos a,if_pos (by omega)]
 ·rw[if_neg a,if_neg (by omega)]
theorem r_(b:UInt8)(r:Bytes):Lx.dA (b::r)=if b=34 then some r else if b=92 then match r with|[]=>none|_::a=>Lx.dA a else Lx.dA r:=by rw[Lx.dA.eq_def];rfl
theorem Gj{c:aG}{t:Bytes}(h:Ctx w c k v t)(L:Option Bytes)(ae:Lx.blk 1 ((sl c.s).drop k)=L):Calls VI 93 #[.pointer (some ⟨c.R,0,none⟩)] w (mv w c k v t L):=by
 have h2:=h.c2;have hR:=h.dx;have aB:=h.size;have ax:=h.le;have hN:=VH (xV h);have H:=VH h;have HS:=VH ae;clear h ae;go_enter func93,ntmps93;go_wp2_with fail;go_loopg[4](c.s.size-k)(fun g s4 wr=>∃j d:Nat,s4=.int .i64 d/\E6 w c k v t L g wr j d);case atStart=>exact⟨k,1,rfl,rfl,VN _,by omega,by omega,Step.refl (kt H.out).ctx,HS.out⟩
 case round=>
  clear h2 HS;obtain⟨j,d,rfl,K⟩:=hrel;have C:=VH K;have av:=K.step.ctx.le;have au:=K.few;have aw:=K.le;have m:=K.spec;rcases Nat.eq_zero_or_pos d with h0|Z
  ·have an:=VH (K.pos h0);subst h0;have af:some ((sl c.s).drop j)=L:=m;have A:=VH af.symm;have Q:=ph K.step.ctx;clear K m af
   cases Y:Lx.over ((sl c.s).drop j)with
   |true=>
    rw[Y]at Q;have Q:=VH Q;have HO:=VH Y;clear Y;go_wp2_with fail;refine Q.out.mono ?_;rintro e T⟨rfl,n,rfl⟩;clear Q;have i:=VH (C.out.step.drewN n);have S:=VH (xW hN.out i.out);generalize wr.drewN n=T at i S;have r0:=i.out.ctx.c0;have r2:=i.out.ctx.c2;have c4:=i.out.ctx.c4;have c0:=S.out.cell 0;have c1:=S.out.cell 1;have c2:=S.out.cell 2;have f0:=S.out.frozen 0;have f1:=S.out.frozen 1;have f2:=S.out.frozen 2;simp only[qo]at c0 c1 c2;have az:w.heap.size≠c.R:=by omega
    have X:=an.out;have ej:IntKind.i64.wrap ((j:Int)-1)=((j-1:Nat):Int):=ak (by omega);have i1:(k:Int)<=((j-1:Nat):Int):=by omega
    have i2:((j-1:Nat):Int)<=c.s.size:=by omega
    go_wp2_with fail;go_region
    all_goals
     go_wp2_with fail;have hB:c.B<=w.heap.size:=by have :=i.out.ctx.hB;omega
     have b1:=S.out.aj 0 (.string (c.s.extract k (j-1)));have i:=(kt H.out).trans i.out;have s1:=i.nQ S.out hB (VN _) 0 (.string (c.s.extract k (j-1)));have b2:=b1.aj 1 (.int .i64 c.wl);have s2:=s1.nQ b1 hB (VN _) 1 (.int .i64 c.wl);have b3:=b2.aj 2 (.bool true);have s3:=s2.nQ b2 hB (VN _) 2 (.bool true);have b4:ad _ w.heap.size 98 #[.string (c.s.extract k (j-1)),.int .i64 c.wl,.bool true]:=b3;refine bodyPost_ret (v:=.agg #[.string (c.s.extract k (j-1)),.int .i64 c.wl,.bool true]) ?_ rfl ?_;. exact(nN results93 _ _ _ ⟨w.heap.size,0,none⟩ rfl).trans (Cb _ _ _ _ _ (b4.drewN 1))
     ·rw[A.out];unfold mv;dsimp only;rw[if_pos HO.out];refine⟨_,j,rfl,?_,rfl,s3.drewN 1⟩;rw[Ww,Ww,aL];rw[show c.s.size-k-(c.s.size-j)-1=j-1-k from by omega];simp[sl,ByteArray.data_extract,List.extract_eq_take_drop]
   |false=>rw[Y]at Q;have Q:=VH Q;have HO:=VH Y;clear Y;go_wp2_with fail;refine Q.out.mono ?_;rintro e T⟨rfl,n,rfl⟩;clear Q;go_wp2_with fail;refine(lO (C.out.step.drewN n).ctx 4).mono ?_;rintro e w2⟨rfl,rfl⟩;refine⟨rfl,?_⟩;rw[A.out];unfold mv;dsimp only;rw[HO.out];exact ks H.out (C.out.step.drewN n) (aa.refl _ _)
  have aA:(0:Int)<(d:Int):=by omega
  rw[mL Z]at m;rcases hd:(sl c.s).drop j with _|⟨b,r⟩;. rw[hd,Lx.oG]at m;have A:=VH m.symm;have f:=VH (gD K.step.ctx hd);clear K m hd;go_wp2_with fail;refine f.out.mono ?_;rintro e T⟨rfl,E⟩;exact⟨rfl,by rw[A.out];exact ks H.out C.out.step E⟩
  rw[hd,Lx.oF]at m;have f:=VH (ck K.step.ctx hd);have ab:=VH (cy hd);have D:=VH (dw hd).2;clear K hd;by_cases U:b=123
  ·subst U;rw[if_pos rfl]at m;have u:=VH m;clear m;go_wp2_with fail;refine f.out.mono ?_;rintro e T⟨rfl,a⟩;have i:=VH (C.out.step.trans a);clear a f;go_wp2_with fail;go_roundg(c.s.size-(j+1));case measure=>have :=C.out.bW;have :=ab.out;omega
   case rel=>exact⟨j+1,d+1,by go_num,rfl,by omega,by omega,by omega,i.out,by rw[mL (by omega),D.out];exact u.out⟩
  rw[if_neg U]at m;by_cases W:b=125
  ·subst W;rw[if_pos rfl]at m;have u:=VH m;clear m U;go_wp2_with fail;refine f.out.mono ?_;rintro e T⟨rfl,a⟩;have i:=VH (C.out.step.trans a);clear a f;go_wp2_with fail;go_roundg(c.s.size-(j+1));case measure=>have :=C.out.bW;have :=ab.out;omega
   case rel=>exact⟨j+1,d-1,by rw[show(d:Int)-1=((d-1:Nat):Int)from by omega],rfl,by omega,by omega,by omega,i.out,by rw[<-Gg Z,D.out];exact u.out⟩
  rw[if_neg W]at m;by_cases J:b=92
  ·subst J;rw[if_pos rfl]at m;have u:=VH m;clear m U W;go_wp2_with fail;refine f.out.mono ?_;rintro e T⟨rfl,a⟩;have i:=VH (C.out.step.trans a);clear a f;rcases r with _|⟨x,r⟩;. have A:=VH (show L=none from u.out.symm);have f:=VH (gD i.out.ctx D.out);clear u;go_wp2_with fail;refine f.out.mono ?_;rintro e V⟨rfl,E⟩;exact⟨rfl,by rw[A.out];exact ks H.out i.out E⟩
   have P:=VH (cy D.out);have F:=VH (dw D.out).2;go_wp2_with fail;refine(ck i.out.ctx D.out).mono ?_;rintro e w2⟨rfl,a⟩;have i:=VH (i.out.trans a);clear a;go_wp2_with fail;go_roundg(c.s.size-(j+1+1));case measure=>have :=C.out.bW;have :=P.out;omega
   case rel=>exact⟨j+1+1,d,rfl,rfl,by omega,by omega,by omega,i.out,by rw[mL Z,F.out];exact u.out⟩
  rw[if_neg J]at m;by_cases N:b=39
  ·subst N;rw[if_pos rfl]at m;have u:=VH m;clear m U W J;go_wp2_with fail;refine f.out.mono ?_;rintro e T⟨rfl,a⟩;have i:=VH (C.out.step.trans a);clear a f;go_wp2_with fail;go_loopg[30](c.s.size-(j+1))(fun g _ wr=>∃p,FC w c v t L j d g wr p);case atStart=>exact⟨j+1,rfl,by omega,i.out,by rw[D.out];exact u.out⟩
   case round=>
    clear u i D;obtain⟨p,O⟩:=hrel;have o:=VH O;have l:=O.spec;rcases hd:(sl c.s).drop p with _|⟨y,r2⟩;. rw[hd]at l;have A:=VH (show L=none from l.symm);have f:=VH (gD O.step.ctx hd);clear l O hd;go_wp2_with fail;refine f.out.mono ?_;rintro e V⟨rfl,E⟩;exact⟨rfl,by rw[A.out];exact ks H.out o.out.step E⟩
    have P:=VH (cy hd);have F:=VH (dw hd).2;have f:=VH (ck O.step.ctx hd);rw[hd,Lx.iV]at l;clear O hd;by_cases N:y=39
    ·subst N;rw[if_pos rfl]at l;have G:=VH l;clear l;go_wp2_with fail;refine f.out.mono ?_;rintro e V⟨rfl,a⟩;have M:=VH (o.out.step.trans a);clear a f;go_wp2_with fail;go_roundg(c.s.size-(p+1));case measure=>have :=C.out.bW;have :=P.out;have :=o.out.lt;omega
     case rel=>exact⟨p+1,d,rfl,rfl,by have :=o.out.lt;omega,by have :=o.out.lt;omega,by omega,M.out,by rw[mL Z,F.out];exact G.out⟩
    have ai:((y.toNat:Int)!=39)=true:=pO (m:=39) N;rw[if_neg N]at l;have G:=VH l;clear l N;go_wp2_with fail;refine f.out.mono ?_;rintro e V⟨rfl,a⟩;have M:=VH (o.out.step.trans a);clear a f;go_wp2_with fail;go_roundg(c.s.size-(p+1));case measure=>have :=o.out.bW;have :=P.out;omega
    case rel=>exact⟨p+1,rfl,by have :=o.out.lt;omega,M.out,by rw[F.out];exact G.out⟩
  rw[if_neg N]at m;by_cases I:b=34
  ·subst I;rw[if_pos rfl]at m;have u:=VH m;clear m U W J N;go_wp2_with fail;refine f.out.mono ?_;rintro e T⟨rfl,a⟩;have i:=VH (C.out.step.trans a);clear a f;rcases r with _|⟨x,r⟩;. have A:=VH (show L=none from u.out.symm);have f:=VH (gD i.out.ctx D.out);clear u;go_wp2_with fail;refine f.out.mono ?_;rintro e V⟨rfl,E⟩;exact⟨rfl,by rw[A.out];exact ks H.out i.out E⟩
   have P:=VH (cy D.out);have F:=VH (dw D.out).2;go_wp2_with fail;refine(ck i.out.ctx D.out).mono ?_;rintro e w2⟨rfl,a⟩;have h2:=VH (i.out.trans a);clear a i;go_wp2_with fail;go_loopg[5](c.s.size+1-(j+1+1))(fun g s5 wr=>∃y p,s5=.int .u8 (UInt8.toNat y)/\Fc w c v t L j d g wr y p);case atStart=>exact⟨x,j+1+1,rfl,rfl,by omega,h2.out,by rw[F.out];exact u.out⟩
   case round=>
    clear u h2 D F P;obtain⟨y,p,rfl,O⟩:=hrel;have o:=VH O;have l:=O.spec;clear O;rw[r_]at l;by_cases I:y=34
    ·subst I;rw[if_pos rfl]at l;have G:=VH l;clear l;go_wp2_with fail;go_roundg(c.s.size-p);case measure=>have :=C.out.bW;have :=o.out.lt;have :=ab.out;omega
     case rel=>exact⟨p,d,rfl,rfl,by have :=o.out.lt;omega,by have :=o.out.lt;omega,by omega,o.out.step,by rw[mL Z];exact G.out⟩
    have ah:((y.toNat:Int)!=34)=true:=pO (m:=34) I;rw[if_neg I]at l;by_cases J:y=92
    ·subst J;rw[if_pos rfl]at l;rcases hd:(sl c.s).drop p with _|⟨z,r2⟩;. rw[hd]at l;have A:=VH (show L=none from l.symm);have f:=VH (gD o.out.step.ctx hd);clear l hd I;go_wp2_with fail;refine f.out.mono ?_;rintro e V⟨rfl,E⟩;exact⟨rfl,by rw[A.out];exact ks H.out o.out.step E⟩
     have P:=VH (cy hd);have F:=VH (dw hd).2;have f:=VH (ck o.out.step.ctx hd);rw[hd]at l;have G:=VH l;clear l hd I;go_wp2_with fail;refine f.out.mono ?_;rintro e V⟨rfl,a⟩;have M:=VH (o.out.step.trans a);clear a f;go_wp2_with fail;rcases hd:(sl c.s).drop (p+1)with _|⟨q,r3⟩;. have ao:r2=[]:=F.out.symm.trans hd;have X:=G.out;rw[ao]at X;have A:=VH (show L=none from X.symm);refine(gD M.out.ctx hd).mono ?_;rintro e w4⟨rfl,E⟩;exact⟨rfl,by rw[A.out];exact ks H.out M.out E⟩
     have ay:=VH (cy hd);have ag:=VH (dw hd).2;have X:=G.out;rw[<-F.out,hd]at X;have G:=VH X;refine(ck M.out.ctx hd).mono ?_;rintro e w4⟨rfl,a⟩;have h4:=VH (M.out.trans a);clear a hd X;go_wp2_with fail;go_roundg(c.s.size+1-(p+1+1));case measure=>have :=o.out.bW;have :=P.out;omega
     case rel=>exact⟨q,p+1+1,rfl,rfl,by have :=o.out.lt;omega,h4.out,by rw[ag.out];exact G.out⟩
    have al:((y.toNat:Int)==92)=false:=bI (m:=92) J;rw[if_neg J]at l;rcases hd:(sl c.s).drop p with _|⟨z,r2⟩;. rw[hd]at l;have A:=VH (show L=none from l.symm);have f:=VH (gD o.out.step.ctx hd);clear l hd I J;go_wp2_with fail;refine f.out.mono ?_;rintro e V⟨rfl,E⟩;exact⟨rfl,by rw[A.out];exact ks H.out o.out.step E⟩
    have P:=VH (cy hd);have F:=VH (dw hd).2;have f:=VH (ck o.out.step.ctx hd);rw[hd]at l;have G:=VH l;clear l hd I J;go_wp2_with fail;refine f.out.mono ?_;rintro e V⟨rfl,a⟩;have M:=VH (o.out.step.trans a);clear a f;go_wp2_with fail;go_roundg(c.s.size+1-(p+1));case measure=>have :=o.out.bW;have :=P.out;omega
    case rel=>exact⟨z,p+1,rfl,rfl,by have :=o.out.lt;omega,M.out,by rw[F.out];exact G.out⟩
  rw[if_neg I]at m;have aq:((b.toNat:Int)==123)=false:=bI (m:=123) U;have ar:((b.toNat:Int)==125)=false:=bI (m:=125) W;have al:((b.toNat:Int)==92)=false:=bI (m:=92) J;have ai:((b.toNat:Int)==39)=false:=bI (m:=39) N;have ah:((b.toNat:Int)==34)=false:=bI (m:=34) I;have u:=VH m;clear m U W J N I;go_wp2_with fail;refine f.out.mono ?_;rintro e T⟨rfl,a⟩;have i:=VH (C.out.step.trans a);clear a f;go_wp2_with fail;go_roundg(c.s.size-(j+1));case measure=>have :=C.out.bW;have :=ab.out;omega
  case rel=>exact⟨j+1,d,rfl,rfl,by omega,by omega,by omega,i.out,by rw[mL Z,D.out];exact u.out⟩
theorem yu{c:aG}{t:Bytes}(h:Ctx w c k v t):Calls VI 93 #[.pointer (some ⟨c.R,0,none⟩)] w (mv w c k v t (Lx.blk 1 ((sl c.s).drop k))):=Gj h _ rfl
theorem Er{c:aG}{t:Bytes}(h:Ctx w c k v t):Calls VI 94 #[.pointer (some ⟨c.R,0,none⟩)] w (s_ w c v (Lx.word (aB c.es) true t ((sl c.s).drop k))):=S8 h _ rfl
open Lx(Bytes)
structure ei where
 B:Nat
 W0:Nat
 R:Nat
 s:ByteArray
 ev:Value
 es:List (ByteArray×ByteArray)
def fo(l:List Lx.W):List Value:=l.flatMap fun x=>[.string ⟨x.text.toArray⟩,.int .i64 x.line,.bool x.block]
def eN:List Value->List Lx.Ln->List Value|v::vs,x::l=>v::.int .i64 x.2::eN vs l|_,_=>[]
theorem BW:∀(vs:List Value)(l:List Lx.Ln)(v:Value)(x:Lx.Ln),vs.length=l.length->eN (vs++[v]) (l++[x])=eN vs l++[v,.int .i64 x.2]|[],[],v,x,_=>rfl|u::vs,y::l,v,x,h=>by simp only[List.cons_append,eN];rw[BW vs l v x (by simpa using h)]|[],_::_,_,_,h=>by cases h|_::_,[],_,_,h=>by cases h
structure fp(w:World)(W0:Nat)(ov:Value)(out:List Lx.Ln)(vs:List Value):Prop where
 len:vs.length=out.length
 row:w.ownsRow W0 90 2 ov out.length (eN vs out)
 words:∀i(h:i<vs.length)(h':i<out.length),w.ownsRow W0 98 3 vs[i] out[i].1.length (fo out[i].1)
structure RC(w:World)(c:ei)(k:Nat)(wl:Int)(tx nv ov:Value)(now:List Lx.W)(out:List Lx.Ln)(vs:List Value)(g:Nat):Prop where
 blk:ad w c.R 137 #[.string c.s,c.ev,.int .i64 k,.int .i64 (aK c.s k),.int .i64 wl,tx,ov,nv,.int .i64 g]
 hB:c.B<=c.R
 hW:c.R<c.W0
 hw:c.W0<=w.heap.size
 size:c.s.size<=65536
 le:k<=c.s.size
 nown:w.ownsRow c.W0 98 3 nv now.length (fo now)
 lines:fp w c.W0 ov out vs
 apart:∀v∈vs,∀b,v.ownBlock=some b->nv.ownBlock≠some b
 few:now.length<=256
 many:out.length+(if now=[]then 0 else 1)<=1000
 grp:g<=k+1
 env:eh w c.B c.ev c.es
def RS(c:ei):Nat->Prop:=fun b=>b=c.R∨c.W0<=b
section
variable{w w':World}{c:ei}{k:Nat}{wl:Int}{tx nv ov:Value}{now:List Lx.W}{out:List Lx.Ln}{vs:List Value}{g:Nat}
theorem RC.c0(h:RC w c k wl tx nv ov now out vs g):w.cell? ⟨c.R,0,none⟩=some (.string c.s):=by rw[h.blk.cell];rfl
theorem RC.c2(h:RC w c k wl tx nv ov now out vs g):w.cell? ⟨c.R,2,none⟩=some (.int .i64 k):=by rw[h.blk.cell];rfl
theorem RC.c3(h:RC w c k wl tx nv ov now out vs g):w.cell? ⟨c.R,3,none⟩=some (.int .i64 (aK c.s k)):=by rw[h.blk.cell];rfl
theorem RC.c4(h:RC w c k wl tx nv ov now out vs g):w.cell? ⟨c.R,4,none⟩=some (.int .i64 wl):=by rw[h.blk.cell];rfl
theorem RC.c5(h:RC w c k wl tx nv ov now out vs g):w.cell? ⟨c.R,5,none⟩=some tx:=by rw[h.blk.cell];rfl
theorem RC.c6(h:RC w c k wl tx nv ov now out vs g):w.cell? ⟨c.R,6,none⟩=some ov:=by rw[h.blk.cell];rfl
theorem RC.c7(h:RC w c k wl tx nv ov now out vs g):w.cell? ⟨c.R,7,none⟩=some nv:=by rw[h.blk.cell];rfl
theorem RC.c8(h:RC w c k wl tx nv ov now out vs g):w.cell? ⟨c.R,8,none⟩=some (.int .i64 g):=by rw[h.blk.cell];rfl
theorem RC.f(h:RC w c k wl tx nv ov now out vs g)(i:Nat):w.frozen? ⟨c.R,i,none⟩=false:=h.blk.frozen i
theorem RC.dx(h:RC w c k wl tx nv ov now out vs g):c.R<w.heap.size:=h.blk.lt
theorem fp.turns(h:fp w k ov out vs)(a:aa S w w')(c:∀b,ov.ownBlock=some b->¬S b)(d:∀v∈vs,∀b,v.ownBlock=some b->¬S b):fp w' k ov out vs:=⟨h.len,a.own h.row c,fun i hi e=>a.own (h.words i hi e) (d _ (List.getElem_mem hi))⟩
end
theorem bS{s1 s2:Nat}{j:List Value}(c:w.ownsRow k t s1 v m E)(d:w.ownsRow n T s2 v2 i j)(h:t≠T):∀g,v.ownBlock=some g->v2.ownBlock≠some g:=by
 intro g e a;rcases d.2 with⟨rfl,_⟩|⟨b,l,o,rfl,_,f,_⟩;. simp[WT]at a
 ·have :b=g:=by simpa[WT]using a
  subst this;exact a_ c f h e
theorem A.J3:(VI.info? 90).map (fun i=>(i.zero,i.size,i.bytes))=some (some (.agg #[.slice none 0 0,.int .i64 0]),2,32):=by kernel_rfl
theorem A.rn:(VI.info? 98).map (fun i=>(i.zero,i.size,i.bytes))=some (some (.agg #[.string ⟨#[]⟩,.int .i64 0,.bool false]),3,32):=by kernel_rfl
theorem Src.o_{size:Nat}(i:P.underlying t=some (.slice T)){a:TypeId}(e:ad w g a F)(n c:Nat)(k:F.toList.length=n*size)(b:∀u∈F.toList,u.oneCell'=true)(hw:w'.heap=w.heap:=by rfl):Src P size t (.slice (some ⟨g,0,none⟩) n c) n F.toList w':=by
 refine Src.ofSlice w' i ⟨g,0,none⟩ n c F.toList k (fun j u h=>?_) b;have f:ad w' g a F:=by unfold ad;rw[hw];exact e
 have d:(⟨g,0,none⟩:Addr).add j=⟨g,j,none⟩:=by unfold Addr.add;split<;>simp_all
 rw[d,f.cell];simpa using h
structure Fg(w:World)(R W0:Nat)(ov nv:Value)(n:Nat)(xs:List Value)(g:Int)(w':World):Prop where
 ex:∃ov' w1,w'=(w1.setCell ⟨R,6,none⟩ ov').setCell ⟨R,7,none⟩ (.slice none 0 0)/\w1.ownsRow W0 90 2 ov' (n+1) (xs++[nv,.int .i64 g])/\aa (fun b=>ov.ownBlock=some b) w w1/\(ov'.ownBlock=ov.ownBlock∨∃b,ov'.ownBlock=some b/\w.heap.size<=b)
theorem Iq{R:Nat}{g:Int}(q:u=.slice O m i)(J:0<m)(j:w.cell? ⟨R,6,none⟩=some v)(l:w.cell? ⟨R,7,none⟩=some u)(H:w.cell? ⟨R,8,none⟩=some (.int .i64 g))(f6:w.frozen? ⟨R,6,none⟩=false)(h:w.frozen? ⟨R,7,none⟩=false)(d:some R≠v.ownBlock)(c:R<w.heap.size)(hB:k<=w.heap.size)(r:w.ownsRow k 90 2 v n E)(I:n<=1000):Calls VI 91 #[.pointer (some ⟨R,0,none⟩)] w fun e w'=>e=.returned (.tuple #[])/\Fg w R k v u n E g w':=by
 obtain⟨i0,p,x,y,z⟩:=info_parts A.J3;subst q;go_enter func91,ntmps91;go_wp2_with fail;go_region_law((refine iw _ (by rfl) _ _ _ _ (by rfl) k 90 i0 _ 2 32 underlying78 p x y z (by rfl) v n E (by rfl) (by exact(r.alloc _).drew) _ 1 [.slice O m i,.int .i64 g] (by rfl) (by exact Src.o_ underlying78 (ad.new w _ _) 1 1 rfl (by intro K f;simp at f;rcases f with rfl|rfl<;>rfl)) (by simp only[maxLen];omega) (by omega) (by simp;omega) ?_;intro D F C t a o;have c6:=a.cell (a:=⟨R,6,none⟩) ((World.cell?_of_block (WE w _ R c)).trans j) d;have g6:=(Wt (a:=⟨R,6,none⟩) (a.block R (by simp;omega) d)).trans ((Wt (WE w _ R c)).trans f6);have c7:=a.cell (a:=⟨R,7,none⟩) ((World.cell?_of_block (WE w _ R c)).trans l) d;have G:=(Wt (a:=⟨R,7,none⟩) (a.block R (by simp;omega) d)).trans ((Wt (WE w _ R c)).trans h)))
 all_goals
  go_wp2_with fail;go_end0;refine⟨rfl,⟨_,C,rfl,t,((((aa.refl _ w).alloc _).drewN 1).grown a fun b _ e=>e),?_⟩⟩;rcases o with e|e;. exact .inl e
  ·exact .inr ⟨_,e,by simp⟩
theorem Ir{c:ei}{wl:Int}{now:List Lx.W}{out:List Lx.Ln}(h:RC w c k wl u z tx now out E g)(C:now≠[]):Calls VI 91 #[.pointer (some ⟨c.R,0,none⟩)] w fun e x=>e=.returned (.tuple #[])/\∃j,RC x c k wl u (.slice none 0 0) j [] (out++[(now,g)]) (E++[z]) g/\aa (RS c) w x:=by
 have N:0<now.length:=by cases now with|nil=>exact absurd rfl C|cons=>simp
 have I:c.W0<=w.heap.size:=h.hw;have G:tx.ownBlock≠some c.R:=a_ h.lines.row h.blk (by decide);have J:=h.many;rw[if_neg C]at J;obtain⟨P,Q,L⟩:=aE h.nown;refine(Iq L N h.c6 h.c7 h.c8 (h.f 6) (h.f 7) (fun e=>G e.symm) h.dx I h.lines.row (by omega)).mono ?_;rintro e x⟨rfl,⟨j,r,rfl,D,d,S⟩⟩;have K:z.ownBlock≠some c.R:=a_ h.nown h.blk (by decide);have F:∀b,tx.ownBlock=some b->c.W0<=b:=fun b a=>(h.lines.row.lt b a).1;have y:ad r c.R 137 #[.string c.s,c.ev,.int .i64 k,.int .i64 (aK c.s k),.int .i64 wl,u,tx,z,.int .i64 g]:=d.blk h.blk G;have O:∀v∈E,∀b,v.ownBlock=some b->b≠c.R:=by intro v q b a e;subst e;obtain⟨i,o,rfl⟩:=WS q;exact a_ (h.lines.words i o (by rw[<-h.lines.len];exact o)) h.blk (by decide) a
 have l:aa (af c.R) r ((r.setCell ⟨c.R,6,none⟩ j).setCell ⟨c.R,7,none⟩ (.slice none 0 0)):=((aa.refl (af c.R) r).setCell (p:=⟨c.R,6,none⟩) (.inl rfl) j).setCell (p:=⟨c.R,7,none⟩) (.inl rfl) _;have M:∀b,j.ownBlock=some b->b≠c.R:=by intro b a e;subst e;exact a_ D y (by decide) a
 refine⟨rfl,j,⟨?_,h.hB,h.hW,?_,h.size,h.le,⟨by simp[fo],.inl ⟨rfl,rfl⟩⟩,⟨by simp[h.lines.len],?_,?_⟩,?_,by simp,by simp;omega,h.grp,?_⟩,?_⟩;. have :=(y.aj 6 j).aj 7 (.slice none 0 0);exact this
 ·have :=l.size;have :=d.size;omega
 ·have :=l.own D M;rw[VK,show(eN (E++[z]) (out++[(now,g)]))=eN E out++[z,.int .i64 g]from BW E out z (now,g) h.lines.len];exact this
 ·intro i o T;rcases Nat.lt_or_ge i E.length with m|m
  ·have A:i<out.length:=by rw[<-h.lines.len];exact m
   have H:=h.lines.words i m A;have t:(E++[z])[i]=E[i]:=List.getElem_append_left m;have n:(out++[(now,g)])[i]=out[i]:=List.getElem_append_left A;rw[t,n];refine l.own (d.own H fun b a e=>bS H h.lines.row (by decide) b a e) fun b a e=>O _ (List.getElem_mem m) b a e
  ·have q:i=E.length:=by simp at o;omega
   subst q;have t:(E++[z])[E.length]=z:=by simp
   have n:(out++[(now,g)])[E.length]=(now,g):=by simp[h.lines.len]
   rw[t,n];exact l.own (d.own h.nown fun b a e=>bS h.nown h.lines.row (by decide) b a e) fun b a e=>K (by rw[a,e])
 ·intro v q b a;simp[WT]
 ·refine h.env.aC fun p hp=>(l.cell ?_ ?_).trans (d.cell ?_ ?_);. have :=d.size;have :=h.hB;have :=h.hW;omega
  ·intro e;have n:p.block=c.R:=e;have :=h.hB;omega
  ·have :=h.hB;have :=h.hW;omega
  ·intro e;have :=F _ e;have :=h.hB;have :=h.hW;omega
 ·refine(d.mono fun b _ e=>.inr (F b e)).trans l fun b _ e=>.inl e
end
section
open Lx(Bytes)
section
variable{w w':World}{c:ei}{k:Nat}{wl:Int}{tx nv ov:Value}{now:List Lx.W}{out:List Lx.Ln}{vs:List Value}{g:Nat}
theorem RC.pj(h:RC w c k wl tx nv ov now out vs g)(f:aa (af c.R) w w')(l:ad w' c.R 137 #[.string c.s,c.ev,.int .i64 n,.int .i64 (aK c.s n),.int .i64 e,u,ov,nv,.int .i64 m])(q:n<=c.s.size)(o:m<=n+1):RC w' c n e u nv ov now out vs m/\aa (RS c) w w':=by
 have r:∀b,nv.ownBlock=some b->¬af c.R b:=fun b d a=>a_ h.nown h.blk (by decide) (by rw[d,a]);have t:∀b,ov.ownBlock=some b->¬af c.R b:=fun b d a=>a_ h.lines.row h.blk (by decide) (by rw[d,a]);refine⟨⟨l,h.hB,h.hW,Nat.le_trans h.hw f.size,h.size,q,f.own h.nown r,h.lines.turns f t ?_,h.apart,h.few,h.many,o,h.env.aC fun p hp=>f.cell ?_ ?_⟩,f.mono fun b _ a=>.inl a⟩;. intro v x b d a;obtain⟨i,j,rfl⟩:=WS x;exact a_ (h.lines.words i j (by rw[<-h.lines.len];exact j)) h.blk (by decide) (by rw[d,a])
 ·have :=h.hB;have :=h.hW;have :=h.hw;omega
 ·intro a;have y:p.block=c.R:=a;have :=h.hB;omega
theorem RC.drewN(h:RC w c k wl tx nv ov now out vs g)(n:Nat):RC (w.drewN n) c k wl tx nv ov now out vs g:=(h.pj ((aa.refl _ w).drewN n) (h.blk.drewN n) h.le h.grp).1
theorem RC.jt(h:RC w c k wl tx nv ov now out vs g){r:Bytes}(b:(sl c.s).drop k=a::r):Calls VI 87 #[.pointer (some ⟨c.R,0,none⟩)] w fun e w'=>e=.returned (.tuple #[.int .u8 a.toNat,.bool true])/\∃n,w'=w.drewN n:=by have :=C' w c.R c.s k h.c0 h.c2 h.size (cy b);rw[(dw b).1]at this;exact this
theorem RC.l8(h:RC w c k wl tx nv ov now out vs g)(a:(sl c.s).drop k=[]):Calls VI 87 #[.pointer (some ⟨c.R,0,none⟩)] w fun e w'=>e=.returned (.tuple #[.int .u8 0,.bool false])/\∃n,w'=w.drewN n:=Da w c.R c.s k h.c0 h.c2 h.size (drop_nil a)
theorem RC.word(h:RC w c k wl tx nv ov now out vs g):RC ((w.setCell ⟨c.R,4,none⟩ (.int .i64 (aK c.s k))).setCell ⟨c.R,5,none⟩ (.slice none 0 0)) c k (aK c.s k) (.slice none 0 0) nv ov now out vs g/\aa (RS c) w ((w.setCell ⟨c.R,4,none⟩ (.int .i64 (aK c.s k))).setCell ⟨c.R,5,none⟩ (.slice none 0 0)):=by refine h.pj (((aa.refl (af c.R) w).setCell (p:=⟨c.R,4,none⟩) (.inl rfl) _).setCell (p:=⟨c.R,5,none⟩) (.inl rfl) _) ?_ h.le h.grp;exact(h.blk.aj 4 (.int .i64 (aK c.s k))).aj 5 (.slice none 0 0)
theorem RC.at_(h:RC w c k wl tx nv ov now out vs g)(a:Nat)(b:a<=c.s.size)(e:k<=a)(d:aK c.s a=aK c.s k):RC (w.setCell ⟨c.R,2,none⟩ (.int .i64 a)) c a wl tx nv ov now out vs g/\aa (RS c) w (w.setCell ⟨c.R,2,none⟩ (.int .i64 a)):=by refine h.pj ((aa.refl (af c.R) w).setCell (p:=⟨c.R,2,none⟩) (.inl rfl) _) ?_ b (by have :=h.grp;omega);have :=h.blk.aj 2 (.int .i64 a);rw[d];exact this
def ei.cfg(c:ei)(wl:Int)(a b:Value)(g:Nat):aG:={B:=c.B,R:=c.R,s:=c.s,ev:=c.ev,es:=c.es,wl:=wl,out:=b,now:=a,g:=g}
theorem RC.ctx(h:RC w c k wl (.slice none 0 0) nv ov now out vs g):Ctx w (c.cfg wl nv ov g) k (.slice none 0 0) []:=⟨h.blk,h.hB,h.size,h.le,⟨by simp[eW],.inl ⟨rfl,rfl⟩⟩,by simp,h.env⟩
theorem CC{R:Nat}(h:TS R (.slice none 0 0) k):k=R:=by
 rcases h with h|h;. exact h
 ·simp[WT]at h
theorem RC.step(h:RC w c k wl (.slice none 0 0) nv ov now out vs g){d:Bytes}(a:Step w (c.cfg wl nv ov g) (.slice none 0 0) n d w' v)(f:k<=n):RC w' c n wl v nv ov now out vs g/\aa (RS c) w w':=h.pj (a.turns.mono fun b _ e=>CC e) a.ctx.blk a.ctx.le (by have :=h.grp;omega)
theorem RC.tW(a:aa (TS c.R (.slice none 0 0)) w w'):aa (RS c) w w':=a.mono fun _ _ e=>.inl (CC e)
end
theorem rD(h:k<=n):aK s n=aK s k+(Lx.ax ((sl s).drop k)-Lx.ax ((sl s).drop n)):=by
 unfold aK Lx.ax;have a:((sl s).take n).count 10+((sl s).drop n).count 10=(sl s).count 10:=by rw[<-YJ,List.take_append_drop]
 have b:((sl s).take k).count 10+((sl s).drop k).count 10=(sl s).count 10:=by rw[<-YJ,List.take_append_drop]
 have c:((sl s).take k).count 10<=((sl s).take n).count 10:=List.Sublist.count_le _ (List.take_sublist_take_left h);omega
theorem RC.push{c:ei}{wl:Int}{now:List Lx.W}{out:List Lx.Ln}(h:RC w c k wl u z tx now out E g)(x:Lx.W)(t:w'.ownsRow c.W0 98 3 sv (now.length+1) (fo now++[.string ⟨x.text.toArray⟩,.int .i64 x.line,.bool x.block]))(d:aa (fun b=>z.ownBlock=some b) w w')(A:sv.ownBlock=z.ownBlock∨∃b,sv.ownBlock=some b/\w.heap.size<=b)(I:now.length<256)(K:out.length<1000):RC (w'.setCell ⟨c.R,7,none⟩ sv) c k wl u sv tx (now++[x]) out E g/\aa (RS c) w (w'.setCell ⟨c.R,7,none⟩ sv):=by
 have D:z.ownBlock≠some c.R:=a_ h.nown h.blk (by decide);have F:tx.ownBlock≠some c.R:=a_ h.lines.row h.blk (by decide);have r:∀b,z.ownBlock=some b->c.W0<=b:=fun b a=>(h.nown.lt b a).1;have o:=d.blk h.blk D;have j:aa (af c.R) w' (w'.setCell ⟨c.R,7,none⟩ sv):=(aa.refl (af c.R) w').setCell (p:=⟨c.R,7,none⟩) (.inl rfl) sv;have C:∀b,sv.ownBlock=some b->¬af c.R b:=by intro b a e;exact a_ t o (by decide) (by rw[a,e])
 refine⟨⟨?_,h.hB,h.hW,?_,h.size,h.le,?_,?_,?_,by simp;omega,by simp;omega,h.grp,?_⟩,?_⟩;. exact o.aj 7 sv
 ·have :=j.size;have :=d.size;have :=h.hw;omega
 ·have :=j.own t C;rw[VK];simp only[fo,List.flatMap_append,List.flatMap_cons,List.flatMap_nil,List.append_nil]at this⊢;exact this
 ·have y:fp w' c.W0 tx out E:=h.lines.turns d (fun b a e=>bS h.lines.row h.nown (by decide) b a e) fun v f b a e=>h.apart v f b a e;refine y.turns j (fun b a e=>F (by rw[a,e])) ?_;intro v f b a e;obtain⟨i,m,rfl⟩:=WS f;exact a_ (h.lines.words i m (by rw[<-h.lines.len];exact m)) h.blk (by decide) (by rw[a,e])
 ·intro v f b a e;obtain⟨i,m,rfl⟩:=WS f;have J:=((h.lines.words i m (by rw[<-h.lines.len];exact m)).lt b a).2;rcases A with n|⟨G,n,H⟩;. exact h.apart _ f b a (by rw[<-n];exact e)
  ·rw[n]at e;injection e with e;omega
 ·refine h.env.aC fun p hp=>(j.cell ?_ ?_).trans (d.cell ?_ ?_);. have :=d.size;have :=h.hB;have :=h.hW;have :=h.hw;omega
  ·intro e;have n:p.block=c.R:=e;have :=h.hB;omega
  ·have :=h.hB;have :=h.hW;have :=h.hw;omega
  ·intro e;have :=r _ e;have :=h.hB;have :=h.hW;omega
 ·exact(d.mono fun b _ e=>.inr (r b e)).trans j fun b _ e=>.inl e
section
variable{w w':World}{c:ei}{k:Nat}{wl:Int}{tx nv ov:Value}{now:List Lx.W}{out:List Lx.Ln}{vs:List Value}{g:Nat}
theorem EV(h:RC w c k wl (.slice none 0 0) nv ov now out vs g){d b:Bytes}(p:Lx.over ((sl c.s).drop k)=false)(hw:Lx.word (aB c.es) true [] ((sl c.s).drop k)=.ok (d,b)):Calls VI 94 #[.pointer (some ⟨c.R,0,none⟩)] w fun e w'=>∃a f,e=.returned (.agg #[.string ⟨d.toArray⟩,.int .i64 wl,.bool false])/\k<a/\(sl c.s).drop a=b/\RC w' c a wl f nv ov now out vs g/\aa (RS c) w w':=by
 refine(Er h.ctx).mono fun e w' hp=>?_;have q:Lx.word (aB (c.cfg wl nv ov g).es) true [] ((sl (c.cfg wl nv ov g).s).drop k)=.ok (d,b):=hw;rw[q]at hp;obtain⟨l,a,f,m,j⟩:=hp;have n:=Lx.word_lt p hw;have i:(sl c.s).drop a=b:=m;rw[<-i,Ww,Ww,aL]at n;have :=h.le;have o:k<a:=by omega
 exact⟨a,f,l,o,i,(h.step j (by omega)).1,(h.step j (by omega)).2⟩
theorem ET(h:RC w c k wl (.slice none 0 0) nv ov now out vs g)(hw:Lx.word (aB c.es) true [] ((sl c.s).drop k)=.error r):Calls VI 94 #[.pointer (some ⟨c.R,0,none⟩)] w fun e w'=>e=.panicked (trouble r wl)/\aa (RS c) w w':=by refine(Er h.ctx).mono fun e w' hp=>?_;have a:Lx.word (aB (c.cfg wl nv ov g).es) true [] ((sl (c.cfg wl nv ov g).s).drop k)=.error r:=hw;rw[a]at hp;exact⟨hp.1,RC.tW hp.2⟩
theorem yw(h:RC w c k wl (.slice none 0 0) nv ov now out vs g){b:Bytes}(hw:Lx.blk 1 ((sl c.s).drop k)=some b)(n:Lx.over b=true):Calls VI 93 #[.pointer (some ⟨c.R,0,none⟩)] w fun e w'=>∃a tx',e=.returned (.agg #[.string ⟨(((sl c.s).drop k).take (((sl c.s).drop k).length-b.length-1)).toArray⟩,.int .i64 wl,.bool true])/\k<a/\(sl c.s).drop a=b/\RC w' c a wl tx' nv ov now out vs g/\aa (RS c) w w':=by
 refine(yu h.ctx).mono fun e w' hp=>?_;have q:Lx.blk 1 ((sl (c.cfg wl nv ov g).s).drop k)=some b:=hw;rw[q]at hp;unfold mv at hp;dsimp only at hp;rw[if_pos n]at hp;obtain⟨u,a,i,o,j,f⟩:=hp;have l:=Lx.jM _ (VN _) hw;have d:(sl c.s).drop a=b:=j;rw[<-d,Ww,Ww,aL]at l;have :=h.le;have m:k<a:=by omega
 refine⟨a,_,?_,m,d,(h.step f (by omega)).1,(h.step f (by omega)).2⟩;rw[i];have p:u=⟨(((sl c.s).drop k).take (((sl c.s).drop k).length-b.length-1)).toArray⟩:=ka (o.trans rfl);rw[p];rfl
theorem yv(h:RC w c k wl (.slice none 0 0) nv ov now out vs g)(hw:∀a,Lx.blk 1 ((sl c.s).drop k)=some a->Lx.over a=false):Calls VI 93 #[.pointer (some ⟨c.R,0,none⟩)] w fun e w'=>e=.panicked (trouble 4 wl)/\aa (RS c) w w':=by refine(yu h.ctx).mono fun e w' hp=>?_;cases b:Lx.blk 1 ((sl c.s).drop k)with|none=>have d:Lx.blk 1 ((sl (c.cfg wl nv ov g).s).drop k)=none:=b;rw[d]at hp;exact⟨hp.1,RC.tW hp.2⟩|some a=>have d:Lx.blk 1 ((sl (c.cfg wl nv ov g).s).drop k)=some a:=b;rw[d]at hp;unfold mv at hp;dsimp only at hp;rw[if_neg (by rw[hw a b];simp)]at hp;exact⟨hp.1,RC.tW hp.2⟩
end
theorem Ip{R:Nat}(a:w.cell? ⟨R,7,none⟩=some (.slice O 0 k)):Calls VI 91 #[.pointer (some ⟨R,0,none⟩)] w fun e w'=>e=.returned (.tuple #[])/\w=w':=by go_enter func91,ntmps91;go_wp2_with fail;go_end0;exact⟨rfl,rfl⟩
theorem tV{c:ei}{wl:Int}{now:List Lx.W}{out:List Lx.Ln}(h:RC w c k wl v u z now out E g):Calls VI 91 #[.pointer (some ⟨c.R,0,none⟩)] w fun e a=>e=.returned (.tuple #[])/\∃i d n,RC a c k wl v i d [] (Lx.fin now out g) n g/\aa (RS c) w a/\(now≠[]->i=.slice none 0 0):=by
 by_cases b:now=[];. subst b;obtain⟨o,p,l⟩:=aE h.nown;have f:=h.c7;rw[l]at f;refine(Ip f).mono ?_;rintro e a⟨rfl,rfl⟩;exact⟨rfl,u,z,E,h,aa.refl _ _,fun e=>absurd rfl e⟩
 ·refine(Ir h b).mono ?_;rintro e a⟨rfl,d,j,m⟩;refine⟨rfl,_,d,E++[u],?_,m,fun _=>rfl⟩;unfold Lx.fin;rw[if_neg b];exact j
/-! a remark: up to the line feed -/
theorem Aw:∀(l:Bytes),(Wo l 10=-1/\Lx.cQ l=[])∨∃n:Nat,Wo l 10=n/\n<l.length/\Lx.cQ l=l.drop n/\Lx.ax (l.take n)=0
|[]=>.inl ⟨rfl,rfl⟩
|b::l=>by
  by_cases a:b=10;. subst a;exact .inr ⟨0,rfl,by simp,by simp[Lx.cQ],by simp[Lx.ax]⟩
  ·have d:(b==10)=false:=by simp[a]
   rcases Aw l with⟨c,f⟩|⟨n,c,f,i,h⟩;. left;simp[Wo,d,c,Lx.cQ,a,f]
   ·right;refine⟨n+1,?_,by simp;omega,by simp[Lx.cQ,a,i],?_⟩
    ·simp only[Wo,d,c];have :¬((n:Int)==-1)=true:=by simp
     simp[this]
    ·have :¬(10:UInt8)=b:=fun e=>a e.symm;simp only[Lx.ax,List.take_succ_cons,List.count_cons,d]at h⊢;simpa using h
theorem Np(h:Lx.ax (((sl s).drop k).take n)=0):aK s (k+n)=aK s k:=by unfold aK;have :(sl s).take (k+n)=(sl s).take k++((sl s).drop k).take n:=List.take_add;rw[this];unfold Lx.ax at h⊢;rw[YJ,h,Nat.add_zero]
theorem qR(s:ByteArray)(k:Nat):(s.extract k s.size).data.toList=(sl s).drop k:=by simp[sl,ByteArray.data_extract,List.extract_eq_take_drop];rw[List.take_of_length_le (by simp)]
theorem Dv{f:FuncId}{args:Array Value}(h:Calls P f args (w.drewN (k+n)) fun e w'=>e=.returned v/\w'=w.drewN (k+n)):Calls P f args (w.drewN (k+n)) fun e c=>e=.returned v/\∃m,c=w.drewN (k+m):=h.mono fun _ _⟨a,b⟩=>⟨a,n,b⟩
theorem BU:∀(vs:List Value)(l:List Lx.Ln)(i:Nat),vs.length=l.length->(h:i<l.length)->(eN vs l)[2*i+1]?=some (.int .i64 l[i].2)|[],_,i,h,hi=>by simp at h;rw[VP h.symm]at hi;cases hi|v::vs,[],i,h,hi=>by cases hi|v::vs,x::l,0,h,hi=>rfl|v::vs,x::l,i+1,h,hi=>by have :=BU vs l i (by simpa using h) (by simpa using hi);simp only[eN];rw[show 2*(i+1)+1=2*i+1+1+1 from by omega];simpa using this
theorem mO{out:List Lx.Ln}(h:out.getLast?.map (·.2)=some k):Lx.bump out g=if k=g then g+1 else g:=by unfold Lx.bump;cases hl:out.getLast? with|none=>rw[hl]at h;cases h|some x=>rw[hl]at h;simp at h;subst h;rfl
theorem RC.Am{c:ei}{wl:Int}{now:List Lx.W}{out:List Lx.Ln}(h:RC w c k wl v u z now out E g)(a:g+1<=k+1):RC (w.setCell ⟨c.R,8,none⟩ (.int .i64 ((g:Int)+1))) c k wl v u z now out E (g+1)/\aa (RS c) w (w.setCell ⟨c.R,8,none⟩ (.int .i64 ((g:Int)+1))):=by refine h.pj ((aa.refl (af c.R) w).setCell (p:=⟨c.R,8,none⟩) (.inl rfl) _) ?_ h.le a;exact h.blk.aj 8 (.int .i64 ((g:Int)+1))
theorem P7{r:Bytes}(h:¬r.head?=some 10):Lib.hasPrefix (92::r) [92,10]=false:=by cases r with|nil=>rfl|cons x r=>have :¬x=10:=fun e=>h (by rw[e];rfl);simp only[Lib.hasPrefix,List.isPrefixOf];simp;exact fun e=>this e.symm
theorem RC.qt{c:ei}{wl:Int}{now:List Lx.W}{out:List Lx.Ln}(h:RC w c k wl v u z now out E g)(a:k+1<=c.s.size)(b:aK c.s (k+1)=aK c.s k):RC (w.setCell ⟨c.R,2,none⟩ (.int .i64 ((k:Int)+1))) c (k+1) wl v u z now out E g/\aa (RS c) w (w.setCell ⟨c.R,2,none⟩ (.int .i64 ((k:Int)+1))):=h.at_ (k+1) a (Nat.le_succ k) b
theorem A.qP(args:Array Value)(w:World):(callFunc 93 args).run VI w=.ok (.enter 93 args) w:=by kernel_rfl
theorem A.qQ(args:Array Value)(w:World):(callFunc 94 args).run VI w=.ok (.enter 94 args) w:=by kernel_rfl
theorem pK{l:Array Oper}{o:Oper}{a:Act}{K:Act->World->Prop}{Q:Exit->Act->World->Prop}{E:Prop}(d:o.guard=none)(f:FuncId)(x:Operand)(b:Array TypeId)(i:o.op=.call {callee:=.value (.func f),args:=#[x],argTypes:=b})(v:Value)(k:a.eval x=v)(j:∀args w,(callFunc f args).run P w=.ok (.enter f args) w)(R:Ending->World->Prop)(c:Calls P f #[v] w R)(h:∀e w',R e w'->∃u,e=.returned u/\K (a.put o.dst u) w'):if XS o (yielded l a.tmps)=true then Oper.wp P o a w K Q else E:=SG d f #[x] b i (j _ _) R (by rw[show(#[x]:Array Operand).map a.eval=#[v]from by simp[k]];exact c) h
theorem sh{c:Array Oper}{o:Oper}{a:Act}{K:Act->World->Prop}{Q:Exit->Act->World->Prop}{E:Prop}(i:o.guard=none)(f:FuncId)(x:Operand)(r:Array TypeId)(m:o.op=.call {callee:=.value (.func f),args:=#[x],argTypes:=r})(v:Value)(q:a.eval x=v)(p:∀args w,(callFunc f args).run P w=.ok (.enter f args) w)(R:Ending->World->Prop)(d:Calls P f #[v] w R)(h:∀e w',R e w'->∃b,e=.panicked b/\Q (.panic b) a w')(t:wpAny P .any #[] (fun _ _ _=>True) 0 #[] a w):if XS o (yielded c a.tmps)=true then Oper.wp P o a w K Q else E:=by
 have hw:XS o (yielded c a.tmps)=true:=by simp[XS,i]
 rw[if_pos hw];unfold Oper.wp execOp;have k:(#[x]:Array Operand).map a.eval=#[v]:=by simp[q]
 simp only[m,resolve,invoke,Deferred.ofValue,Sem.run_bind,Sem.run_pure,Result.andThen_ok,Act.eval,Array.append_empty,Array.empty_append];have l:Array.map a.eval #[x]=#[v]:=k;rw[l,p,Oper.upon_enter];refine d.mono fun e w' n=>?_;obtain⟨b,rfl,j⟩:=h e w' n;exact j
theorem Kx{out:List Lx.Ln}(h:fp w k v out E):(out=[]/\∃d a,v=.slice d 0 a)∨∃m b a f,out.length=m+1/\v=.slice (some ⟨b,0,none⟩) (m+1) a/\w.cell? ⟨b,m*2+1,none⟩=some (.int .i64 ((f:Nat):Int))/\(out.getLast?.map (·.2))=some f:=by
 cases hl:out.length with
 |zero=>left;obtain⟨d,a,c⟩:=aE h.row;rw[hl]at c;exact⟨VP hl,d,a,c⟩
 |succ m=>
  right;rcases h.row.2 with⟨_,l⟩|⟨b,a,n,c,_⟩;. rw[l]at hl;cases hl
  ·have e:m<out.length:=by omega
   refine⟨m,b,a,out[m].2,rfl,by rw[c,hl],?_,?_⟩
   ·have i:=h.row.cells (g:=b) (by rw[c];rfl) (2*m+1) _ (BU E out m h.len e);have j:(⟨b,0,none⟩:Addr).add (2*m+1)=⟨b,m*2+1,none⟩:=by unfold Addr.add;rw[if_neg (by omega)];simp;omega
    rw[<-j];exact i
   ·rw[List.getLast?_eq_getElem?,hl,Nat.add_sub_cancel,List.getElem?_eq_getElem e];rfl
open Lx(Bytes)
structure iH(w:World)(v:Value)(l:List Lx.W):Prop where
 at_:∃A c,v=.slice A l.length c/\∀i,(h:i<l.length)->∃b off,A=some ⟨b,off,none⟩/\b<w.heap.size/\w.cell? ⟨b,off+i*3,none⟩=some (.string ⟨l[i].text.toArray⟩)/\w.cell? ⟨b,off+i*3+1,none⟩=some (.int .i64 l[i].line)/\w.cell? ⟨b,off+i*3+2,none⟩=some (.bool l[i].block)
 few:l.length<=256
def later(a:Nat)(l:List Lx.W):List Lx.W:=l.map fun x=>{x with line:=x.line+a}
theorem xd:∀(l:List Lx.W)(i:Nat)(h:i<l.length),(fo l)[i*3]?=some (.string ⟨l[i].text.toArray⟩)/\(fo l)[i*3+1]?=some (.int .i64 l[i].line)/\(fo l)[i*3+2]?=some (.bool l[i].block)|x::l,0,_=>⟨rfl,rfl,rfl⟩|x::l,i+1,h=>by have :=xd l i (by simpa using h);have e:fo (x::l)=.string ⟨x.text.toArray⟩::.int .i64 x.line::.bool x.block::fo l:=rfl;rw[e,show(i+1)*3=i*3+3 by omega];simpa using this
theorem uN:∀(vs:List Value)(l:List Lx.Ln)(i:Nat)(h1:i<vs.length)(h:i<l.length),vs.length=l.length->(eN vs l)[i*2]?=some vs[i]/\(eN vs l)[i*2+1]?=some (.int .i64 l[i].2)|v::vs,x::l,0,_,_,_=>⟨rfl,rfl⟩|v::vs,x::l,i+1,h1,h,a=>by have :=uN vs l i (by simpa using h1) (by simpa using h) (by simpa using a);have e:eN (v::vs) (x::l)=v::.int .i64 x.2::eN vs l:=rfl;rw[e,show(i+1)*2=i*2+2 by omega];simpa using this
structure e_(w:World)(B:Nat)(ov:Value)(L:List Lx.Ln):Prop where
 at_:∃A c,ov=.slice A L.length c/\∀i(hi:i<L.length),∃b v,A=some ⟨b,0,none⟩/\B<=b/\b<w.heap.size/\w.cell? ⟨b,i*2,none⟩=some v/\w.cell? ⟨b,i*2+1,none⟩=some (.int .i64 L[i].2)/\iH w v L[i].1
 bz:Lx.pY 65537 L
theorem iH.aC{l:List Lx.W}(h:iH w v l)(d:∀p:Addr,p.block<w.heap.size->w'.cell? p=w.cell? p)(o:w.heap.size<=w'.heap.size):iH w' v l:=by
 obtain⟨⟨A,c,rfl,e⟩,j⟩:=h;refine⟨⟨A,c,rfl,fun i hi=>?_⟩,j⟩;obtain⟨b,off,f,a,k,m,n⟩:=e i hi;refine⟨b,off,f,by omega,?_,?_,?_⟩;. rw[d _ a];exact k
 ·rw[d _ a];exact m
 ·rw[d _ a];exact n
theorem e_.aC{w d:World}{B:Nat}{v:Value}{L:List Lx.Ln}(h:e_ w B v L)(a:∀p:Addr,p.block<w.heap.size->d.cell? p=w.cell? p)(l:w.heap.size<=d.heap.size):e_ d B v L:=by
 obtain⟨⟨A,c,rfl,f⟩,k⟩:=h;refine⟨⟨A,c,rfl,fun i hi=>?_⟩,k⟩;obtain⟨b,u,j,hB,e,m,n,o⟩:=f i hi;refine⟨b,u,j,hB,by omega,?_,?_,o.aC a l⟩;. rw[a _ e];exact m
 ·rw[a _ e];exact n
theorem aa.still(h:aa ab w w'):(∀p:Addr,p.block<w.heap.size->w'.cell? p=w.cell? p)/\w.heap.size<=w'.heap.size:=⟨fun p hp=>h.cell (p:=p) hp id,h.size⟩
theorem e_.still{w b:World}{B:Nat}{v:Value}{L:List Lx.Ln}(h:e_ w B v L)(a:aa ab w b):e_ b B v L:=h.aC (aa.still a).1 (aa.still a).2
theorem iH.still{w b:World}{v:Value}{l:List Lx.W}(h:iH w v l)(a:aa ab w b):iH b v l:=h.aC (aa.still a).1 (aa.still a).2
theorem e_.cell{B:Nat}{A:Option Addr}{L:List Lx.Ln}(h:e_ w B (.slice A k n) L)(i:Nat)(r:i<L.length):∃b c d,A=some ⟨b,0,none⟩/\B<=b/\b<w.heap.size/\w.cell? ⟨b,i*2,none⟩=some (.slice c L[i].1.length d)/\w.cell? ⟨b,i*2+1,none⟩=some (.int .i64 L[i].2)/\iH w (.slice c L[i].1.length d) L[i].1:=by
 obtain⟨⟨j,c1,e,m⟩,x⟩:=h;obtain⟨b,v,o,hB,q,t,u,f⟩:=m i r;obtain⟨c,d,l,-⟩:=f.at_;subst l;have :A=j:=by injection e
 exact⟨b,c,d,this.trans o,hB,q,t,u,f⟩
open Lx(Bytes)
theorem A.F6(e l:Int)(w:World):(Instr.typeAssert (.iface 132 (.agg #[.int .i64 e,.int .i64 l])) 20 132 true).run VI w=.ok (.tuple #[.agg #[.int .i64 e,.int .i64 l],.bool true]) w:=by kernel_rfl
theorem A.F0(w:World):(Instr.typeAssert .nilIface 20 132 true).run VI w=.ok (.tuple #[.agg #[.int .i64 0,.int .i64 0],.bool false]) w:=by kernel_rfl
theorem sG{a:Code}{Q:Exit->Act->World->Prop}{tmps tmps':Array Value}{d:List Deferred}(h:tmps=tmps')(hw:a.wp P Q {tmps:=tmps',defers:=d} w):a.wp P Q {tmps:=tmps,defers:=d} w:=by rw[h];exact hw
theorem GF{v:Option Value}(h:w'.heap.size=w.heap.size)(a:F[k]?=v):((w'.alloc (.cells F t)).drew).cell? ⟨w.heap.size,k,none⟩=v:=by show(w'.alloc (.cells F t)).cell? _=_;rw[<-h,(ad.new w' t F).cell];exact a
structure xx(w:World)(a b c:Nat)(e l:Int)(w':World):Prop where
 ca:w'.cell? ⟨a,0,none⟩=some (.slice none 0 0)
 cb:w'.cell? ⟨b,0,none⟩=some (.int .i64 e)
 cc:w'.cell? ⟨c,0,none⟩=some (.int .i64 l)
 turns:aa (fun k=>k=a∨k=b∨k=c) w w'
def Fb(w:World)(a b c:Nat)(e l:Int)(ex:Exit)(d:Act)(f:World):Prop:=(ex=.normal∨ex=.ret)/\d.defers=[]/\xx w a b c e l f
theorem GC(w:World)(a b c:Nat)(e l:Int)(z C D:Value)(m:w.cell? ⟨a,0,none⟩=some z)(n:w.cell? ⟨b,0,none⟩=some C)(o:w.cell? ⟨c,0,none⟩=some D)(H:w.frozen? ⟨a,0,none⟩=false)(fb:w.frozen? ⟨b,0,none⟩=false)(fc:w.frozen? ⟨c,0,none⟩=false)(I:a≠b)(J:a≠c)(K:b≠c)(t:a<w.heap.size)(u:b<w.heap.size)(x:c<w.heap.size):CallsD VI 50 #[.pointer (some ⟨a,0,none⟩),.pointer (some ⟨b,0,none⟩),.pointer (some ⟨c,0,none⟩)] (.panicking (trouble e l)) w fun j y d=>j=.returned (.tuple #[])/\y=.panicking [{v:=.iface 132 (.agg #[.int .i64 e,.int .i64 l]),recovered:=true}]/\xx w a b c e l d:=by
 refine callsD_of_wpS func50 rfl fun G cs f=>?_;apply wpS_seq;apply wpS_region;unfold trouble at f;simp[wpOpsS,go_sem,recoverD,f,ntmps50,Exit.thenS,A.F6];refine wpS_of_wp ?_;have i:∀d,aa (fun k=>k=a∨k=b∨k=c) (w.alloc (.cells #[.int .i64 e,.int .i64 l] 132)) d->aa (fun k=>k=a∨k=b∨k=c) w d:=fun d h=>((aa.refl _ w).alloc _).same h;have E:=VH i;clear i f;have L:a≠w.heap.size:=by omega
 have M:b≠w.heap.size:=by omega
 have N:c≠w.heap.size:=by omega
 refine Code.wp_mono (Q:=Fb w a b c e l) ?_ ?_;. rintro ex F d⟨r,q,p⟩;rcases r with rfl|rfl;all_goals exact⟨q,_,rfl,.tuple #[],by simp[results,results50],rfl,rfl,p⟩
 refine sG (tmps':=#[.pointer (some ⟨a,0,none⟩),.pointer (some ⟨b,0,none⟩),.pointer (some ⟨c,0,none⟩),.pointer (some ⟨w.heap.size,0,none⟩),.bool true,.tuple #[.agg #[.int .i64 e,.int .i64 l],.bool true],.iface 132 (.agg #[.int .i64 e,.int .i64 l]),.tuple #[.agg #[.int .i64 e,.int .i64 l],.bool true],.agg #[.int .i64 e,.int .i64 l],.bool true,undef,undef,undef,undef,undef]) (by kernel_rfl) ?_;go_wp2_with fail;go_region_held3(fun d=>d.cell? ⟨w.heap.size,0,none⟩=some (.int .i64 e)/\d.cell? ⟨w.heap.size,1,none⟩=some (.int .i64 l))(first|(refine⟨?_,?_⟩<;>exact GF (by simp[X6]) rfl)|go_keep)(fail)
 all_goals
  go_wp2_with fail;refine⟨.inl rfl,rfl,⟨?_,?_,?_,?_⟩⟩;. show((_:World).alloc _).cell? _=_;rw[Yl _ _ _ (by simpa[X6]using t)];rw[WC _ _ _ _ (by simp),WC _ _ _ _ (by simp),Y5 _ _ _ m]
  ·show((_:World).alloc _).cell? _=_;rw[Yl _ _ _ (by simpa[X6]using u)];rw[WC _ _ _ _ (by simp),Y5 _ _ _ ((WC _ _ _ _ (by simp)).trans n)]
  ·show((_:World).alloc _).cell? _=_;rw[Yl _ _ _ (by simpa[X6]using x)];rw[Y5 _ _ _ ((WC _ _ _ _ (by simp)).trans ((WC _ _ _ _ (by simp)).trans o))]
  ·exact((((aa.refl _ w).setCell (p:=⟨a,0,none⟩) (.inl (.inl rfl)) _).setCell (p:=⟨b,0,none⟩) (.inl (.inr (.inl rfl))) _).setCell (p:=⟨c,0,none⟩) (.inl (.inr (.inr rfl))) _).alloc _|>.drewN 1
theorem GB(w:World)(args:Array Value)(a b c:Nat)(j:args=#[.pointer (some ⟨a,0,none⟩),.pointer (some ⟨b,0,none⟩),.pointer (some ⟨c,0,none⟩)]):CallsD VI 50 args .returning w fun i n d=>i=.returned (.tuple #[])/\n=.returning/\aa ab w d:=by
 subst j;refine callsD_of_wpS func50 rfl fun h cs f=>?_;apply wpS_seq;apply wpS_region;simp[wpOpsS,go_sem,recoverD,f,ntmps50,Exit.thenS,A.F0];refine wpS_of_wp ?_;refine Code.wp_mono (Q:=fun ex e d=>(ex=.normal∨ex=.ret)/\e.defers=[]/\aa ab w d) ?_ ?_;. rintro ex e d⟨l,k,m⟩;rcases l with rfl|rfl;all_goals refine⟨k,.returning,?_,.tuple #[],by simp[results,results50],rfl,rfl,m⟩;cases h;simp_all
 clear f;refine sG (tmps':=#[.pointer (some ⟨a,0,none⟩),.pointer (some ⟨b,0,none⟩),.pointer (some ⟨c,0,none⟩),.pointer (some ⟨w.heap.size,0,none⟩),.bool false,.tuple #[.agg #[.int .i64 0,.int .i64 0],.bool false],.nilIface,.tuple #[.agg #[.int .i64 0,.int .i64 0],.bool false],.agg #[.int .i64 0,.int .i64 0],.bool false,undef,undef,undef,undef,undef]) (by kernel_rfl) ?_;go_wp2_with fail;exact(aa.refl _ w).alloc _
end
end Go.Proofs.YtmddhediccmhbaaGreatDoor
