/- package key, tables. -/
import Derived.Sort.Grow
import Derived.DeepKeys4
import Derived.Maps.RangeWalk
import Derived.Test.YtmddhediccmhbaaGreatDoorA20
set_option linter.all false
set_option maxHeartbeats 400000000
set_option maxRecDepth 100000
namespace Go.Proofs.YtmddhediccmhbaaGreatDoor
open Go.RowKit
open Go.Proofs.Tryz
open And renaming intro→VJ
open _root_.Array renaming getElem?_eq_some_iff→VV
open BinOp renaming and→XJ
open Bool renaming and_eq_true→Wd
open Bool renaming eq_iff_iff→W3
open Ending renaming returned→W4
open IntKind renaming i64→VL
open Lib renaming hid→VH
open Lib renaming run_eql_slice_nil→YH
open Lib renaming validRune→Xv
open List renaming eq_nil_of_length_eq_zero→VP
open List renaming getElem?_eq_getElem→VX
open List renaming getElem?_eq_some_iff→Xs
open List renaming getElem?_toArray→Xk
open List renaming getElem_mem→VZ
open List renaming length_append→VK
open List renaming mem_append→V_
open List renaming mem_cons→We
open List renaming mem_map→V'
open List renaming mem_singleton→VU
open List renaming not_mem_nil→V1
open List renaming pairwise_cons→Wn
open List renaming size_toArray→WJ
open List renaming take_of_length_le→V2
open List renaming take_succ_eq_append_getElem→V4
open Lit renaming int→Ys
open Nat renaming eq_zero_or_pos→W9
open Nat renaming le_refl→VN
open Nat renaming lt_of_lt_of_le→VO
open Nat renaming zero_add→Wv
open Nat renaming zero_le→VQ
open Nat renaming zero_mul→YV
open Program renaming keyLits→Y9
open Go.Proofs.Tryz renaming prog→VI
open Utf8 renaming encode→Xj
open Value renaming bool→YR
open Go.World renaming ownsRow_nil→Wg
variable {w w':World}{k n m g N:Nat}{v u z tx sv lv v0 v2:Value}{e r c:Int}{t T:TypeId}{S:Nat->Prop}{E:List Value}{F:Array Value}
section
open Lx(Bytes)
open Go.Maps(has has_put_same has_put_other atKey_put_same atKey_put_other IsMap)
namespace Bx
abbrev Pl:=Bytes×Ky
def jZ(p:Pl):Value:=.agg #[ah p.1,.int .i64 p.2.code,.int .i64 p.2.aw]
abbrev BV:=Bd×Value
abbrev cu(x:BV):Pl:=place x.1
def bh(m:List BV)(p:Pl):Option BV:=m.find? fun x=>decide (cu x=p)
abbrev jD(m:List BV):Prop:=m.Pairwise fun x y=>cu x≠cu y
theorem lT{m:List BV}(d:jD m){p:Pl}{x:BV}:bh m p=some x↔x∈m/\cu x=p:=by
 induction m with
 |nil=>simp[bh]
 |cons y m i=>
  obtain⟨b,c⟩:=Wn.1 d;by_cases e:cu y=p
  ·have :bh (y::m) p=some y:=by simp[bh,e]
   rw[this];constructor;. intro h;injection h with h;subst h;exact⟨by simp,e⟩
   ·rintro⟨h,a⟩;rcases We.1 h with rfl|h;. rfl
    ·exact absurd (e.trans a.symm) (b x h)
  ·have :bh (y::m) p=bh m p:=by simp[bh,e]
   rw[this,i c];constructor;. rintro⟨h,a⟩;exact⟨List.mem_cons_of_mem _ h,a⟩
   ·rintro⟨h,a⟩;rcases We.1 h with rfl|h;. exact absurd a e
    ·exact⟨h,a⟩
theorem rj{m:List BV}{p:Pl}:bh m p=none↔∀x∈m,cu x≠p:=by simp[bh,List.find?_eq_none]
structure ot(ok:Pl->Prop)(key:Pl->Lit):Prop where
 inj:∀{p q:Pl},ok p->ok q->key p=key q->p=q
 lit:∀{p:Pl},ok p->WideAt.IsKeyLit (key p)
section
variable{ok:Pl->Prop}{key:Pl->Lit}
def cJ(ok:Pl->Prop)(key:Pl->Lit)(D:DataW Value)(m:List BV):Prop:=∀p,ok p->has D (key p)=(bh m p).isSome/\∀x,bh m p=some x->∀z,D.atKey (key p) z=.held x.2
theorem cJ.start:cJ ok key (.map []) []:=fun _ _=>⟨rfl,fun x h=>by simp[bh]at h⟩
theorem cJ.put(F:ot ok key){D:DataW Value}{m j:List BV}(h:cJ ok key D m)(d:IsMap D){x:BV}(c:ok (cu x))(k:∀p,bh j p=if p=cu x then some x else bh m p):cJ ok key (D.put (key (cu x)) (.held x.2)) j:=by
 intro p b;rw[k];by_cases e:p=cu x;. subst e;rw[if_pos rfl];refine⟨has_put_same d (F.lit c) _,fun u a z=>?_⟩;rw[atKey_put_same d (F.lit c)];injection a with a;rw[a]
 ·have i:key p≠key (cu x):=fun q=>e (F.inj b c q);rw[if_neg e,has_put_other i];exact⟨(h p b).1,fun u a z=>by rw[atKey_put_other i];exact(h p b).2 u a z⟩
structure dB(ok:Pl->Prop)(key:Pl->Lit)(D:DataW Value)(m:List BV)(left:Lit->Bool)(acc:List BV):Prop where
 nodup:acc.Pairwise fun x y=>cu x≠cu y
 mem:∀x:BV,x∈acc↔x∈m/\left (key (cu x))=false
 sub:∀z,left z=true->has D z=true
theorem dB.start{D:DataW Value}{m:List BV}(h:cJ ok key D m)(a:jD m)(b:∀x∈m,ok (cu x)):dB ok key D m (has D) []:=⟨.nil,fun x=>⟨fun q=>(V1 q).elim,fun⟨q,hl⟩=>by have :=(h _ (b x q)).1;rw[(lT a).2 ⟨q,rfl⟩,hl]at this;exact absurd this (by simp)⟩,fun z c=>c⟩
theorem wj(F:ot ok key){p q:Pl}(a:ok p)(b:ok q):(key p).sameKey (key q)=decide (p=q):=by
 by_cases e:p=q;. subst e;rw[decide_eq_true rfl];exact WideAt.sameKey_self (F.lit a)
 ·rw[decide_eq_false e];exact Maps.sameKey_ne fun r=>e (F.inj a b r)
theorem dB.step(F:ot ok key){D:DataW Value}{m:List BV}{r:Lit->Bool}{t:List BV}(c:dB ok key D m r t)(h:cJ ok key D m)(E:jD m)(J:∀x∈m,ok (cu x)){p:Pl}(l:ok p)(C:r (key p)=true)(K:∀z,D.atKey (key p) z=.held v):∃x,x∈m/\cu x=p/\x.2=v/\dB ok key D m (fun z=>r z&&!z.sameKey (key p)) (t++[x]):=by
 have u:=(h p l).1;rw[c.sub _ C]at u;obtain⟨x,o⟩:=Option.isSome_iff_exists.1 u.symm;have w:=(h p l).2 x o (.map []);rw[K]at w;have L:v=x.2:=by injection w
 obtain⟨k,n⟩:=(lT E).1 o;refine⟨x,k,n,L.symm,?_,fun y=>?_,fun z G=>c.sub z (by simp only[Wd]at G;exact G.1)⟩;. refine List.pairwise_append.2 ⟨c.nodup,List.pairwise_singleton _ _,fun a H b I e=>?_⟩;rw[VU.1 I,n]at e;have :=((c.mem _).1 H).2;rw[e,C]at this;cases this
 ·rw[V_,VU,c.mem];by_cases i:y∈m
  ·rw[wj F (J y i) l];by_cases e:cu y=p
   ·have :y=x:=by have d:=(lT E).2 ⟨i,e⟩;rw[o]at d;injection d with d;exact d.symm
    subst this;simp[k,e]
   ·have j:¬y=x:=fun q=>e (by rw[q];exact n);simp[e,j]
  ·have j:¬y=x:=fun q=>i (by rw[q];exact k);simp[i,j]
theorem dB.perm{D:DataW Value}{m:List BV}{c:Lit->Bool}{a:List BV}(b:dB ok key D m c a)(i:jD m)(d:∀z,c z=false):a.Perm m:=by have j:a.Nodup:=b.nodup.imp fun{x y}h e=>h (by rw[e]);have k:m.Nodup:=i.imp fun{x y}h e=>h (by rw[e]);exact(List.perm_ext_iff_of_nodup j k).2 fun x=>by rw[b.mem];simp[d]
end
end Bx
open Lx(Bytes)
def CN(b t2:ByteArray)(c1 c2 m1 a:Int):Int:=eP [fg (sl b) (sl t2),dR c1 c2,dR m1 a]
theorem yQ(a b:Int)(w:World):Calls VI 23 #[.int .i64 a,.int .i64 b] w fun e w'=>e=.returned (.int .i64 (dR a b))/\w'=w:=(G6 a b w).mono fun _ _⟨h1,h2⟩=>⟨h1,h2.symm⟩
theorem GX(a b:ByteArray)(w:World):Calls VI 22 #[.string a,.string b] w fun e w'=>e=.returned (.int .i64 (fg (sl a) (sl b)))/\w'=w:=(G8 a b w).mono fun _ _⟨h1,h2⟩=>⟨h1,h2.symm⟩
theorem Pe(d t2 n x:ByteArray)(c1 m1 c2 i:Int)(p z:Bool)(k r:Option Addr)(m u o y:Nat)(w:World):Calls VI 20 #[.agg #[.string d,.int .i64 c1,.int .i64 m1,.bool p,.string n,.slice k m o],.agg #[.string t2,.int .i64 c2,.int .i64 i,.bool z,.string x,.slice r u y]] w fun e w'=>e=.returned (.int .i64 (CN d t2 c1 c2 m1 i))/\∃q j,w'=Sort.grow (w.drewN q) j:=by
 unfold CN;have F:=VH (GX d t2);have C:=VH (yQ c1 c2);have E:=VH (yQ m1 i);generalize fg (sl d) (sl t2)=a at F⊢;generalize dR c1 c2=b at C⊢;generalize dR m1 i=c at E⊢;have Q:w.drewN 0=w:=rfl;have t:=(ad.new w 36 #[.string d,.int .i64 c1,.int .i64 m1,.bool p,.string n,.slice k m o]).alloc (.cells #[.string t2,.int .i64 c2,.int .i64 i,.bool z,.string x,.slice r u y] 36);have l:=ad.new (w.alloc (.cells #[.string d,.int .i64 c1,.int .i64 m1,.bool p,.string n,.slice k m o] 36)) 36 #[.string t2,.int .i64 c2,.int .i64 i,.bool z,.string x,.slice r u y];rw[show(w.alloc (.cells #[.string d,.int .i64 c1,.int .i64 m1,.bool p,.string n,.slice k m o] 36)).heap.size=w.heap.size+1 by simp[go_sem]]at l;have I:=t.cell 0;have J:=t.cell 1;have K:=t.cell 2;have L:=l.cell 0;have M:=l.cell 1;have N:=l.cell 2;have T:=t.lt;have z2:=l.lt;simp only[Xk,List.getElem?_cons_zero,List.getElem?_cons_succ]at I J K L M N;clear t l;have H:=VH (show∃j,(w.alloc (.cells #[.string d,.int .i64 c1,.int .i64 m1,.bool p,.string n,.slice k m o] 36)).alloc (.cells #[.string t2,.int .i64 c2,.int .i64 i,.bool z,.string x,.slice r u y] 36)=Sort.grow (w.drewN 0) j from⟨_,by rw[Sort.alloc_eq_grow,Sort.alloc_eq_grow,Sort.grow_grow];rfl⟩);go_enter func20,ntmps20;go_wp2_with fail;generalize(w.alloc (.cells #[.string d,.int .i64 c1,.int .i64 m1,.bool p,.string n,.slice k m o] 36)).alloc (.cells #[.string t2,.int .i64 c2,.int .i64 i,.bool z,.string x,.slice r u y] 36)=G at*;refine wp_region_still_tail 19 (by kernel_rfl) (by kernel_rfl) ?_;simp only[List.take_succ_cons,List.take_zero,List.drop_succ_cons,List.drop_zero];repeat still_step
 still_call(F.out _);repeat still_step
 still_call(C.out _);repeat still_step
 still_call(E.out _);refine wpStill_nil ?_;change wpList _ _ _ _ _ G.drew;have O:=VH (show∃j,G.drew=Sort.grow (w.drewN 1) j from by obtain⟨j,h⟩:=H.out;exact⟨j,by rw[h];rfl⟩);clear H I J K L M N T z2 Q F C E;generalize G.drew=S at*;have P:=VH (Pb (c:=3) [a,b,c] (ad.new S 3 (kP [a,b,c]).toArray) (by simp));go_wp2_with fail;refine P.out.mono ?_;rintro e U⟨rfl,rfl⟩;go_wp2_with fail;go_ret;obtain⟨j,h⟩:=O.out;exact⟨rfl,1,_,by rw[h,Sort.alloc_eq_grow,Sort.grow_grow]⟩
open Lx(Bytes)
structure mF(w:World)(size:Nat)(v:Value)(n:Nat)(xs:List Value):Prop where
 len:xs.length=n*size
 at_:∃A c,v=.slice A n c/\(0<n->∃b off,A=some ⟨b,off,none⟩/\b<w.heap.size/\∀j u,xs[j]?=some u->w.cell? ⟨b,off+j,none⟩=some u)
theorem mF.src{size:Nat}{A:Option Addr}(h:mF w size (.slice A k n) k E)(i:∀u∈E,u.oneCell'=true)(d:VI.underlying t=some (.slice T))(hw:∀p:Addr,p.block<w.heap.size->w'.cell? p=w.cell? p):Src VI size t (.slice A k n) k E w':=by
 obtain⟨z,C,e,m⟩:=h.at_;injection e with e1 e2 e3;subst e1 e3;rcases W9 k with c|c;. subst c;have y:E=[]:=VP (by rw[h.len,YV]);subst y;cases A with|none=>exact Src.ofNil w' d n|some a=>exact Src.ofSlice w' d a 0 n [] (by simp) (fun j u x=>by simp at x) i
 ·obtain⟨b,off,rfl,o,q⟩:=m c;refine Src.ofSlice w' d ⟨b,off,none⟩ k n E h.len (fun j u r=>?_) i;have l:(⟨b,off,none⟩:Addr).add j=⟨b,off+j,none⟩:=by unfold Addr.add;split<;>simp_all
  rw[l,hw ⟨b,off+j,none⟩ o];exact q j u r
theorem CW(w:World)(e:TypeId)(size:Nat):(w.alloc (.cells #[] e)).ownsRow w.heap.size e size (.slice (some ⟨w.heap.size,0,none⟩) 0 0) 0 []:=⟨by simp,.inr ⟨w.heap.size,0,#[],rfl,VN _,ad.new w e #[],VN _,VQ _,by simp,by simp⟩⟩
theorem A.JX:(VI.info? 125).map (fun i=>(i.zero,i.size,i.bytes))=some (some (.agg #[.int .u8 0,.string ⟨#[]⟩]),2,24):=by kernel_rfl
theorem GN(h:mF w 2 v k E)(n:∀u∈E,u.oneCell'=true)(J:k<=2000000):Calls VI 44 #[v] w fun e w'=>∃v',e=.returned v'/\w'.ownsRow w.heap.size 125 2 v' k E/\aa ab w w':=by
 obtain⟨A,c,rfl,d⟩:=h.at_
 cases A with
 |none=>
  obtain rfl:k=0:=by
   rcases W9 k with m|m;. exact m
   ·obtain⟨b,off,e,-⟩:=d m;cases e
  have z:E=[]:=VP (by rw[h.len,YV]);subst z;clear h d;have x:=fun W=>YH (P:=VI) W 50 125 none 0 c 0 0 underlying50;go_enter func44,ntmps44;go_wp2_with fail;go_ret;exact⟨_,rfl,Wg _ _ _ _,aa.refl _ _⟩
 |some a=>
  have x:=fun W=>YH (P:=VI) W 50 125 (some a) k c 0 0 underlying50;have r:=VH (h.src n underlying50 (w':=w.alloc (.cells #[] 125)) (fun p hp=>World.cell?_alloc_lt w _ p hp));have q:=VH (CW w 125 2);have l:=VH (VJ (show 0+k<=maxLen by simp only[maxLen];omega) (VJ (show((0+k)+(0+k+768)/4+512)*24<=281474976710656 by omega) (show w.heap.size<=(w.alloc (.cells #[] 125)).heap.size by simp[go_sem])));obtain⟨i0,y,C,F,G⟩:=info_parts A.JX;clear h n d;go_enter func44,ntmps44;go_wp2_with(first|(at_builtin;refine aX _ rfl (.tmp 5) (.tmp 6) _ _ rfl w.heap.size 125 i0 _ 2 24 underlying50 y C F G rfl (.slice (some ⟨w.heap.size,0,none⟩) 0 0) 0 [] rfl q.out _ k E rfl r.out l.out.1 l.out.2.1 l.out.2.2 ?_;intro H I K i j d;have o:=VH (VJ i j);clear i j d));go_ret;obtain⟨i,j⟩:=o.out;rw[Wv,List.nil_append]at i;refine⟨_,rfl,i,((aa.refl ab w).alloc _).trans ((aa.refl (fun b=>b=w.heap.size) _).grown j fun b t e=>?_) fun b t e=>?_⟩;. simp only[Value.ownBlock,Option.some.injEq]at e;exact e.symm
  ·have e:b=w.heap.size:=e;omega
theorem A.JY:(VI.info? 9).map (fun i=>(i.zero,i.size,i.bytes))=some (some (.string ⟨#[]⟩),1,16):=by kernel_rfl
theorem GO(h:mF w 1 v k E)(n:∀u∈E,u.oneCell'=true)(J:k<=2000000):Calls VI 45 #[v] w fun e w'=>∃v',e=.returned v'/\w'.ownsRow w.heap.size 9 1 v' k E/\aa ab w w':=by
 obtain⟨A,c,rfl,d⟩:=h.at_
 cases A with
 |none=>
  obtain rfl:k=0:=by
   rcases W9 k with m|m;. exact m
   ·obtain⟨b,off,e,-⟩:=d m;cases e
  have z:E=[]:=VP (by rw[h.len,YV]);subst z;clear h d;have x:=fun W=>YH (P:=VI) W 51 9 none 0 c 0 0 underlying51;go_enter func45,ntmps45;go_wp2_with fail;go_ret;exact⟨_,rfl,Wg _ _ _ _,aa.refl _ _⟩
 |some a=>
  have x:=fun W=>YH (P:=VI) W 51 9 (some a) k c 0 0 underlying51;have r:=VH (h.src n underlying51 (w':=w.alloc (.cells #[] 9)) (fun p hp=>World.cell?_alloc_lt w _ p hp));have q:=VH (CW w 9 1);have l:=VH (VJ (show 0+k<=maxLen by simp only[maxLen];omega) (VJ (show((0+k)+(0+k+768)/4+512)*16<=281474976710656 by omega) (show w.heap.size<=(w.alloc (.cells #[] 9)).heap.size by simp[go_sem])));obtain⟨i0,y,C,F,G⟩:=info_parts A.JY;clear h n d;go_enter func45,ntmps45;go_wp2_with(first|(at_builtin;refine aX _ rfl (.tmp 5) (.tmp 6) _ _ rfl w.heap.size 9 i0 _ 1 16 underlying51 y C F G rfl (.slice (some ⟨w.heap.size,0,none⟩) 0 0) 0 [] rfl q.out _ k E rfl r.out l.out.1 l.out.2.1 l.out.2.2 ?_;intro H I K i j d;have o:=VH (VJ i j);clear i j d));go_ret;obtain⟨i,j⟩:=o.out;rw[Wv,List.nil_append]at i;refine⟨_,rfl,i,((aa.refl ab w).alloc _).trans ((aa.refl (fun b=>b=w.heap.size) _).grown j fun b t e=>?_) fun b t e=>?_⟩;. simp only[Value.ownBlock,Option.some.injEq]at e;exact e.symm
  ·have e:b=w.heap.size:=e;omega
end
section
open Lx(Bytes)
structure aD(w:World)(B:Nat)(gv:Value)(Z:List (Value×List CQ)):Prop where
 outer:w.ownsRow B 47 1 gv Z.length (Z.map (·.1))
 inner:∀z∈Z,w.ownsRow B 53 4 z.1 z.2.length (dH z.2)
 rows:∀z∈Z,∀q∈z.2,di w B q
theorem aD.aC{B:Nat}{Z:List (Value×List CQ)}(h:aD w B v Z)(i:aa S w w')(d:∀b,S b->b<B):aD w' B v Z:=by
 refine⟨i.own h.outer fun g a e=>?_,fun z c=>i.own (h.inner z c) fun g a e=>?_,fun z c q hq=>⟨i.own (h.rows z c q hq).flags fun g a e=>?_,i.own (h.rows z c q hq).args fun g a e=>?_⟩⟩;. have :=(h.outer.lt g a).1;have :=d g e;omega
 ·have :=((h.inner z c).lt g a).1;have :=d g e;omega
 ·have :=((h.rows z c q hq).flags.lt g a).1;have :=d g e;omega
 ·have :=((h.rows z c q hq).args.lt g a).1;have :=d g e;omega
theorem aD.still{B:Nat}{Z:List (Value×List CQ)}(h:aD w B v Z)(a:aa ab w w'):aD w' B v Z:=h.aC a fun _ e=>e.elim
theorem aD.bU{B:Nat}{Z:List (Value×List CQ)}(h:aD w B v Z)(hB:k<=B):aD w k v Z:=⟨dX h.outer hB,fun z a=>dX (h.inner z a) hB,fun z a q hq=>⟨dX (h.rows z a q hq).flags hB,dX (h.rows z a q hq).args hB⟩⟩
theorem aD.nil(w:World)(B:Nat):aD w B (.slice none 0 0) []:=⟨Wg _ _ _ _,fun b a=>(V1 a).elim,fun b a=>(V1 a).elim⟩
theorem aD.of{B:Nat}{Z:List (Value×List CQ)}(h:bB w B v Z):aD w B v Z:=⟨h.outer,h.inner,h.rows⟩
theorem aD.rd{B:Nat}{Z:List (Value×List CQ)}(h:aD w B v Z):gO w v Z:=by
 refine⟨?_,fun z k=>⟨?_,fun q hq=>⟨vo (h.rows z k q hq).flags,vq (h.rows z k q hq).args⟩⟩⟩
 ·rcases h.outer.2 with⟨rfl,d⟩|⟨g,b,l,rfl,m,j,_⟩;. exact⟨none,0,by rw[d],fun hi=>by omega⟩
  ·refine⟨_,b,rfl,fun _=>⟨g,0,rfl,(VV.1 j).1,fun i hi=>?_⟩⟩;rw[Wv,h.outer.cellAt _ (by omega),List.getElem?_map,VX hi];rfl
 ·have a:=h.inner z k;rcases a.2 with⟨e,d⟩|⟨g,b,l,e,m,j,_⟩;. exact⟨none,0,by rw[e,d],fun hi=>by omega⟩
  ·refine⟨_,b,e,fun _=>⟨g,0,rfl,(VV.1 j).1,fun i hi=>?_⟩⟩;have c:=tI z.2 i hi;rw[e]at a;rw[Wv,a.cellAt _ (by omega),a.cellAt _ (by omega),a.cellAt _ (by omega),a.cellAt _ (by omega)];exact⟨c.1,c.2.1,c.2.2.1,c.2.2.2⟩
theorem aD.push{w2:World}{B:Nat}{Z:List (Value×List CQ)}{l:List CQ}(h:aD w B v Z)(o:aa ab w w')(n:w'.ownsRow B 53 4 z l.length (dH l))(r:∀q∈l,di w' B q)(p:w2.ownsRow B 47 1 u (Z.length+1) (Z.map (·.1)++[z]))(c:w'.grownBy w2 v.ownBlock)(t:k<B):aD (w2.setCell ⟨k,0,none⟩ u) B u (Z++[(z,l)]):=by
 have i:=h.still o;have j:aa (fun b=>v.ownBlock=some b) w' w2:=(aa.refl _ w').grown c fun _ _ e=>e;refine aD.aC (w:=w2) ⟨by simpa using p,?_,?_⟩ ((aa.refl (af k) w2).setCell (p:=⟨k,0,none⟩) (.inl rfl) _) fun b e=>by have e:b=k:=e;omega
 ·intro m a;rcases V_.1 a with a|a;. exact j.own (i.inner m a) fun g c e=>bS (i.inner m a) i.outer (by decide) g c e
  ·rw[VU.1 a];exact j.own n fun g c e=>bS n i.outer (by decide) g c e
 ·have key:∀q,di w' B q->di w2 B q:=fun q d=>⟨j.own d.flags fun g c e=>bS d.flags i.outer (by decide) g c e,j.own d.args fun g c e=>bS d.args i.outer (by decide) g c e⟩;intro m a q d;rcases V_.1 a with a|a;. exact key q (i.rows m a q d)
  ·rw[VU.1 a]at d;exact key q (r q d)
theorem Je{l:List Px.Fl}(h:eZ w v l):mF w 2 v l.length (bN l):=by
 obtain⟨A,c,rfl,o⟩:=h.at_;refine⟨jS l,A,c,rfl,fun i=>?_⟩;obtain⟨b,off,k,n,m⟩:=o i;refine⟨b,off,k,n,fun j u a=>?_⟩;have p:j<l.length*2:=by rw[<-jS];exact(Xs.1 a).1
 have e:j/2<l.length:=by omega
 obtain⟨c0,c1⟩:=m (j/2) e;have f:=qY l (j/2) e;have d:j%2=0∨j%2=1:=by omega
 rcases d with d|d;. rw[show j/2*2=j by omega]at c0;rw[show j/2*2=j by omega,a]at f;rw[c0];exact f.1.symm
 ·rw[show off+j/2*2+1=off+j by omega]at c1;rw[show j/2*2+1=j by omega,a]at f;rw[c1];exact f.2.symm
theorem Ta{l:List Bytes}(h:gR w v l):mF w 1 v l.length (l.map ah):=by obtain⟨A,c,rfl,n⟩:=h.at_;refine⟨by simp,A,c,rfl,fun e=>?_⟩;obtain⟨b,off,i,m,k⟩:=n e;refine⟨b,off,i,m,fun j u a=>?_⟩;rw[List.getElem?_map]at a;obtain⟨s,d,rfl⟩:=Option.map_eq_some_iff.1 a;have o:=(Xs.1 d).1;rw[k j o,<-(Xs.1 d).2]
theorem OQ(l:List Px.Fl):∀u∈bN l,u.oneCell'=true:=by intro u b;obtain⟨f,-,a⟩:=List.mem_flatMap.1 b;simp[fL]at a;rcases a with rfl|rfl<;>rfl
theorem OW(l:List Bytes):∀u∈l.map ah,u.oneCell'=true:=by intro u a;obtain⟨f,-,rfl⟩:=V'.1 a;rfl
structure iZ(w1:World)(L:List Px.ag)(l':List CQ)(v:Value)(wr:World):Prop where
 own:wr.ownsRow w1.heap.size 53 4 v l'.length (dH l')
 rows:∀q∈l',di wr w1.heap.size q
 kD:l'.map (·.1)=L
 turns:aa ab w1 wr
theorem iZ.start(a:World):iZ a [] [] (.slice none 0 0) a:=⟨Wg _ _ _ _,fun _ h=>(V1 h).elim,rfl,aa.refl _ _⟩
theorem iZ.still{wr:World}{L:List Px.ag}{b:List CQ}(h:iZ w L b v wr)(a:aa ab wr w'):iZ w L b v w':=⟨a.own h.own fun _ _=>id,fun q hq=>⟨a.own (h.rows q hq).flags fun _ _=>id,a.own (h.rows q hq).args fun _ _=>id⟩,h.kD,h.turns.same a⟩
theorem iZ.push{wr w2:World}{L:List Px.ag}{i:List CQ}{q:CQ}(h:iZ w L i v wr)(a:di wr w.heap.size q)(k:w2.ownsRow w.heap.size 53 4 u (i.length+1) (dH i++lL q))(c:wr.grownBy w2 v.ownBlock):iZ w (L++[q.1]) (i++[q]) u w2:=by
 have j:aa (fun b=>v.ownBlock=some b) wr w2:=(aa.refl _ wr).grown c fun _ _ e=>e;have key:∀q,di wr w.heap.size q->di w2 w.heap.size q:=fun q a=>⟨j.own a.flags fun g c e=>bS a.flags h.own (by decide) g c e,j.own a.args fun g c e=>bS a.args h.own (by decide) g c e⟩;refine⟨by rw[y6,VK,List.length_singleton];exact k,fun p d=>?_,by rw[List.map_append,h.kD];rfl,h.turns.trans j fun b m e=>?_⟩
 ·rcases V_.1 d with d|d;. exact key p (h.rows p d)
  ·rw[VU.1 d];exact key q a
 ·have :=(h.own.lt b e).1;omega
open Lx(Bytes)
structure xp(Z:List (Value×List CQ)):Prop where
 n:Z.length<=1050000
 each:∀z∈Z,z.2.length<=1050000/\∀q∈z.2,q.1.flags.length<=1050000/\q.1.args.length<=1050000
structure xK(w:World)(G:List (List Px.ag))(k:Nat)(gv':Value)(Z':List (Value×List CQ))(wr:World):Prop where
 out:ad wr (w.heap.size+2) 34 #[gv']
 res:ad wr (w.heap.size+1) 34 #[.slice none 0 0]
 g:aD wr (w.heap.size+3) gv' Z'
 kD:aq Z'=Px.aQ (G.take k)
 len:Z'.length=k
 turns:aa ab w wr
theorem yP(h:ad w k 53 #[v,u,z,tx]):w.cell? ⟨k,0,none⟩=some v/\w.cell? ⟨k,1,none⟩=some u/\w.cell? ⟨k,2,none⟩=some z/\w.cell? ⟨k,3,none⟩=some tx/\w.frozen? ⟨k,1,none⟩=false/\w.frozen? ⟨k,2,none⟩=false/\w.frozen? ⟨k,3,none⟩=false/\k<w.heap.size:=⟨h.cell 0,h.cell 1,h.cell 2,h.cell 3,h.frozen 1,h.frozen 2,h.frozen 3,h.lt⟩
theorem GU(h:ad w k 53 #[v,u,z,tx]):ad (((w.setCell ⟨k,3,none⟩ sv).setCell ⟨k,1,none⟩ lv).setCell ⟨k,2,none⟩ v0) k 53 #[v,lv,v0,sv]:=((h.aj 3 sv).aj 1 lv).aj 2 v0
theorem GV(h:n<=k)(a:w'.heap.size=n)(b:aa ab w' w):aa ab w' (((w.setCell ⟨k,3,none⟩ v).setCell ⟨k,1,none⟩ u).setCell ⟨k,2,none⟩ z):=((b.setCell (.inr (by rw[a];exact h)) v).setCell (.inr (by rw[a];exact h)) u).setCell (.inr (by rw[a];exact h)) z
theorem vl{B:Nat}{size:Nat}(h:w.ownsRow B t size v m E)(a:ad w k T F)(c:t≠T)(u:Value):(w.setCell ⟨k,n,none⟩ u).ownsRow B t size v m E:=((aa.refl (af k) w).setCell (p:=⟨k,n,none⟩) (.inl rfl) u).own h fun g b t=>by have t:g=k:=t;subst t;exact a_ h a c b
theorem CX{B:Nat}{size:Nat}(h:w.ownsRow B t size v n E)(a:ad w k 53 #[u,z,tx,sv])(b:t≠53)(x y c:Value):(((w.setCell ⟨k,3,none⟩ x).setCell ⟨k,1,none⟩ y).setCell ⟨k,2,none⟩ c).ownsRow B t size v n E:=vl (vl (vl h a b x) (a.aj 3 x) b y) ((a.aj 3 x).aj 1 y) b c
theorem A.JV:(VI.info? 47).map (fun i=>(i.zero,i.size,i.bytes))=some (some (.slice none 0 0),1,24):=by kernel_rfl
theorem A.JU:(VI.info? 53).map (fun i=>(i.zero,i.size,i.bytes))=some (some (.agg #[.string ⟨#[]⟩,.slice none 0 0,.slice none 0 0,.int .i64 0]),4,72):=by kernel_rfl
theorem Gn(w:World)(v0 a v2 v3:Value)(c:v0.oneCell'=true)(d:a.oneCell'=true)(e:v2.oneCell'=true)(h:v3.oneCell'=true):Src VI 4 47 (.slice (some ⟨w.heap.size,0,none⟩) 1 1) 1 [v0,a,v2,v3] (w.alloc (.cells #[v0,a,v2,v3] 53)):=fC (size:=4) underlying47 (ad.new w 53 #[v0,a,v2,v3]) 1 1 rfl (by intro u b;simp at b;rcases b with rfl|rfl|rfl|rfl<;>assumption)
theorem Gp(w:World)(v:Value)(h:v.oneCell'=true):Src VI 1 32 (.slice (some ⟨w.heap.size,0,none⟩) 1 1) 1 [v] (w.alloc (.cells #[v] 47)):=fC (size:=1) underlying32 (ad.new w 47 #[v]) 1 1 rfl (by intro u a;simp at a;subst a;exact h)
theorem NB(w:World)(g:Nat)(v0:Value)(h:ad w g 34 #[v0]):(loadVar 34 ⟨g,0,none⟩).run VI w=.ok (.agg #[v0]) w:=by have a:=h.cell 0;clear h;simp at a;simp[go_sem,a]
theorem qu{Z:List (Value×List CQ)}(hG:gO w u Z)(hF:xp Z):Calls VI 18 #[.agg #[u]] w fun e w'=>∃Y h,e=.returned (.agg #[Y])/\aD w' w.heap.size Y h/\aq h=Px.aQ (aq Z)/\aa ab w w':=by
 have HG:=VH hG;obtain⟨A,c,rfl,M⟩:=hG.at_;have cx:=VH M;have HF:=VH hF;have eb:(Z.length:Int)<=1050000:=by have :=hF.n;omega
 have cw:(aq Z).length=Z.length:=by simp[aq]
 have bl:=VH cw;clear hG M hF cw;have HP:=VH (show xK w (aq Z) 0 (.slice none 0 0) [] (((w.alloc (.cells #[.slice A Z.length c] 34)).alloc (.cells #[.slice none 0 0] 34)).alloc (.cells #[.slice none 0 0] 34))from⟨bP (by simp[go_sem]),(bP (by simp[go_sem])).alloc _,aD.nil _ _,rfl,rfl,(((aa.refl _ w).alloc _).alloc _).alloc _⟩);go_enter func18,ntmps18;go_wp2_with fail;go_loopw[12](fun i wr=>∃k Y h,i=.int .i64 (k:Nat)/\k<=Z.length/\xK w (aq Z) k Y h wr)(fun i _=>Z.length-(intOf i).toNat);case atStart=>exact⟨0,_,_,rfl,VQ _,HP.out⟩
 case round=>
  obtain⟨k,Y,h,rfl,hk,p⟩:=hrel;clear HP;by_cases N:k<Z.length
  ·obtain⟨g,off,rfl,C,hc⟩:=cx.out (by omega);have p0:=(p.turns.cell (p:=⟨g,_,none⟩) C id).trans (hc k N);have d':g<wr.heap.size:=VO C p.turns.size;have b2:=(HG.out.still p.turns).each _ (VZ N);have a1:=HF.out.each _ (VZ N);have cv:(aq Z)[k]'(by rw[bl.out];exact N)=Z[k].2.map (·.1):=by simp[aq]
   have bd:=VH cv;generalize Z[k]=z at p0 b2 a1 bd;obtain⟨z1,l⟩:=z;dsimp only at p0 b2 a1 bd;obtain⟨⟨A2,c2,rfl,ch⟩,cj⟩:=b2;have b':=VH (VJ ch cj);have c':=VH a1.2;have ea:(l.length:Int)<=1050000:=by have :=a1.1;omega
   have o:=VH p;clear p hc C ch cj a1 cv;generalize dp:wr=F at*;clear dp;go_wp2_with fail;go_loopw[18,6](fun j v wr=>∃a' d,j=.int .i64 (a':Nat)/\a'<=l.length/\iZ F (((l.map (·.1)).take a').map Px.strip) d v wr/\d.length=a')(fun j _ _=>l.length-(intOf j).toNat);case atStart=>exact⟨0,[],rfl,VQ _,iZ.start F,rfl⟩
   case round=>
    obtain⟨a',d,rfl,hn,hB,dk⟩:=hrel;subst dk;obtain⟨I,c0,rfl⟩:=aE hB.own;by_cases a7:d.length<l.length
    ·obtain⟨b,ec,rfl,r,cg⟩:=b'.out.1 (by omega);obtain⟨H,O,P,Q⟩:=cg d.length a7;obtain⟨ai,al⟩:=b'.out.2 _ (VZ a7);have a6:=c'.out _ (VZ a7);have bb:((l.map (·.1)).take (d.length+1)).map Px.strip=((l.map (·.1)).take d.length).map Px.strip++[Px.strip l[d.length].1]:=by rw[V4 (by simpa using a7)];simp
     generalize l[d.length]=q at H O P Q ai al a6 bb;obtain⟨a,fv,av⟩:=q;dsimp only at H O P Q ai al a6 bb;have H:=(hB.turns.cell (p:=⟨b,_,none⟩) r id).trans H;have O:=(hB.turns.cell (p:=⟨b,_,none⟩) r id).trans O;have P:=(hB.turns.cell (p:=⟨b,_,none⟩) r id).trans P;have Q:=(hB.turns.cell (p:=⟨b,_,none⟩) r id).trans Q;have dz:b<wr.heap.size:=VO r hB.turns.size;have da:=VH bb;have y:=VH hB;have cA:=VH (fun W(ht:aa ab F W)=>GN (Je (ai.still ht)) (OQ _) (by have :=a6.1;omega));have cT:=VH (fun W(ht:aa ab F W)=>GO (Ta (al.still ht)) (OW _) (by have :=a6.2;omega));obtain⟨fA,fc,rfl,-⟩:=ai.at_;obtain⟨rA,rc,rfl,-⟩:=al.at_;simp only[ah]at H;have ca:=VH (show ah a.name=.string ⟨a.name.toArray⟩from rfl);generalize(⟨a.name.toArray⟩:ByteArray)=E at H ca;have B8:=VH (ad.new wr 53 #[.string E,.slice fA a.flags.length fc,.slice rA a.args.length rc,.int .i64 a.line]);have T8:=VH ((hB.turns.alloc (.cells #[.string E,.slice fA a.flags.length fc,.slice rA a.args.length rc,.int .i64 a.line] 53)));have dc:=VH ((aa.refl ab wr).alloc (.cells #[.string E,.slice fA a.flags.length fc,.slice rA a.args.length rc,.int .i64 a.line] 53));clear bb ai al a6 r cg hB;go_upto_region 9 with fail;go_cut[](fun wx=>∃X U,ad wx wr.heap.size 53 #[.string E,X,U,.int .i64 0]/\di wx F.heap.size (Px.strip a,X,U)/\aa ab wr wx)
     case first=>
      have x1:=B8.out.cell 1;have x2:=B8.out.cell 2;simp only[Xk,List.getElem?_cons_zero,List.getElem?_cons_succ]at x1 x2;have xz:=B8.out.lt;have xs:=T8.out.size;clear H O P Q;generalize wr.alloc (.cells #[.string E,.slice fA a.flags.length fc,.slice rA a.args.length rc,.int .i64 a.line] 53)=w8 at*;go_region_with(first|(go_at_call 44;refine(cA.out _ (by first|exact T8.out.drewN 1|exact T8.out)).mono ?_;rintro e w5⟨X,rfl,bw,a8⟩;obtain⟨t,c5,rfl⟩:=aE bw;have T:=VH (VJ bw (VJ a8 (a8.blk (B8.out) id)));have x2:=(a8.cell (p:=⟨wr.heap.size,2,none⟩) xz id).trans x2;have dq:=VO xz a8.size;clear bw a8)|(go_at_call 45;refine(cT.out _ (by first|exact(T8.out.drewN 1).same T.out.2.1)).mono ?_;rintro e w6⟨U,rfl,bx,b3⟩;obtain⟨x,c6,rfl⟩:=aE bx;have K:=VH (VJ bx (VJ b3 (b3.blk T.out.2.2 id)));clear x2 dq x1;obtain⟨y0,y1,y2,y3,f1,f2,f3,yz⟩:=yP K.out.2.2;clear bx b3))
      all_goals
       go_wp2_with fail;go_meet;refine⟨_,_,GU K.out.2.2,⟨?_,?_⟩,?_⟩;. exact dX (CX (K.out.2.1.own T.out.1 fun _ _=>id) K.out.2.2 (by decide) _ _ _) (by exact xs)
       ·exact dX (CX K.out.1 K.out.2.2 (by decide) _ _ _) (by have :=T.out.2.1.size;exact Nat.le_trans xs this)
       ·exact GV (VN _) rfl ((dc.out.drewN 1).same (T.out.2.1.same K.out.2.1))
     case rest=>
      obtain⟨X,U,cb,bn,bs⟩:=hcut;have bA:wc.ownsRow F.heap.size 125 2 X a.flags.length (bN a.flags):=bn.flags;have b0:wc.ownsRow F.heap.size 9 1 U a.args.length (a.args.map ah):=bn.args;obtain⟨t,c5,rfl⟩:=aE bA;obtain⟨x,c6,rfl⟩:=aE b0;obtain⟨y0,y1,y2,y3,f1,f2,f3,yz⟩:=yP cb;obtain⟨i0,bt,b4,b5,b6⟩:=info_parts A.JU;have bm:=(y.out.still bs).still ((aa.refl ab wc).alloc (.cells #[.string E,.slice t a.flags.length c5,.slice x a.args.length c6,.int .i64 0] 53));have hS:=Gn wc (.string E) (.slice t a.flags.length c5) (.slice x a.args.length c6) (.int .i64 0) rfl rfl rfl rfl;have hm:d.length+1<=maxLen:=by simp only[maxLen];omega
      have hy:((d.length+1)+(d.length+1+768)/4+512)*72<=281474976710656:=by omega
      have hz:F.heap.size<=(wc.alloc (.cells #[.string E,.slice t a.flags.length c5,.slice x a.args.length c6,.int .i64 0] 53)).heap.size:=bm.turns.size;have m:=VH (VJ bm (VJ hS (VJ hm (VJ hy hz))));have HQ:=VH ((di.mk (q:=(Px.strip a,.slice t a.flags.length c5,.slice x a.args.length c6)) bA b0));have dv:=VH bs;clear bm hS hm hy hz bn bA b0 cb bs H O P Q;go_wp2_with(first|(at_builtin;refine aX _ rfl (.tmp 31) (.tmp 33) _ _ rfl F.heap.size 53 i0 _ 4 72 underlying47 bt b4 b5 b6 rfl (.slice I d.length c0) d.length _ rfl m.out.1.own _ 1 [.string E,.slice t a.flags.length c5,.slice x a.args.length c6,.int .i64 0] rfl m.out.2.1 m.out.2.2.1 m.out.2.2.2.1 m.out.2.2.2.2 ?_;intro A1 dd S ho C M;have L:=VH (VJ ho C);clear ho C M));go_roundw
      case rel=>
       refine⟨d.length+1,d++[(Px.strip a,.slice t a.flags.length c5,.slice x a.args.length c6)],by go_num,a7,?_,by simp⟩;rw[da.out];refine m.out.1.push (q:=(Px.strip a,.slice t a.flags.length c5,.slice x a.args.length c6)) ⟨?_,?_⟩ ?_ L.out.2;. exact((aa.refl ab wc).alloc _).own HQ.out.flags fun _ _=>id
       ·exact((aa.refl ab wc).alloc _).own HQ.out.args fun _ _=>id
       ·have e:lL (Px.strip a,.slice t a.flags.length c5,.slice x a.args.length c6)=[.string E,.slice t a.flags.length c5,.slice x a.args.length c6,.int .i64 0]:=by show[ah a.name,_,_,_]=_;rw[ca.out];rfl
        rw[e];exact L.out.1
      case measure=>simp[intOf];omega
    ·have cn:l.length=d.length:=by omega
     have r:=hB;rw[V2 (by simp;omega)]at r;have y:=VH r;have cp:w.heap.size+3<=F.heap.size:=by have :=o.out.out.lt;omega
     obtain⟨J,c3,rfl⟩:=aE o.out.g.outer;have aA:=hB.turns.blk o.out.out id;have x0:wr.cell? ⟨w.heap.size+1+1,0,none⟩=some (.slice J h.length c3):=aA.cell 0;have xf:wr.frozen? ⟨w.heap.size+1+1,0,none⟩=false:=aA.frozen 0;have xz:w.heap.size+1+1<wr.heap.size:=aA.lt;obtain⟨i0,bt,b4,b5,b6⟩:=info_parts A.JV;have cc:=o.out.len;have TA:=(aa.refl ab wr).alloc (.cells #[.slice I d.length c0] 47);have hS:=Gp wr (.slice I d.length c0) rfl;have hO:=((o.out.g.still hB.turns).still TA).outer;have hm:h.length+1<=maxLen:=by simp only[maxLen];omega
     have hy:((h.length+1)+(h.length+1+768)/4+512)*24<=281474976710656:=by omega
     have hz:w.heap.size+3<=(wr.alloc (.cells #[.slice I d.length c0] 47)).heap.size:=by have :=hB.turns.size;have :=TA.size;omega
     have m:=VH (VJ hO (VJ hS (VJ hm (VJ hy hz))));have G:=VH TA;have ds:=VH cn;have bc:=VH cp;have b7:=VH aA;have db:=VH cc;clear hO hS hm hy hz TA cn cp r hB aA cc;go_wp2_with(first|(at_builtin;refine aX _ rfl (.tmp 37) (.tmp 39) _ _ rfl (w.heap.size+3) 47 i0 _ 1 24 underlying32 bt b4 b5 b6 rfl (.slice J h.length c3) h.length _ rfl m.out.1 _ 1 [.slice I d.length c0] rfl m.out.2.1 m.out.2.2.1 m.out.2.2.2.1 m.out.2.2.2.2 ?_;intro A1 dd S ho C M;have L:=VH (VJ ho C);have ar:ad S (w.heap.size+2) 34 #[.slice J h.length c3]:=(G.out.blk b7.out id).grown C (fun e=>a_ m.out.1 (G.out.blk b7.out id) (by decide) e.symm);have cz:=VH ar;have y0:S.cell? ⟨w.heap.size+1+1,0,none⟩=some (.slice J h.length c3):=ar.cell 0;have yf:S.frozen? ⟨w.heap.size+1+1,0,none⟩=false:=ar.frozen 0;have yz:w.heap.size+1+1<S.heap.size:=ar.lt;clear ho C M ar));go_roundw
     case rel=>
      have de:aa ab w (wr.alloc (.cells #[.slice I d.length c0] 47)):=o.out.turns.same (y.out.turns.same G.out);have b1:ad S (w.heap.size+1) 34 #[.slice none 0 0]:=(G.out.blk (y.out.turns.blk o.out.res id) id).grown L.out.2 (fun e=>a_ m.out.1 (G.out.blk (y.out.turns.blk o.out.res id) id) (by decide) e.symm);refine⟨k+1,_,h++[(.slice I d.length c0,d)],by go_num,N,⟨cz.out.aj 0 _,b1.an (by simp) _,?_,?_,?_,?_⟩⟩;. refine o.out.g.push (y.out.turns.same G.out) (dX (G.out.own y.out.own fun _ _=>id) bc.out) (fun q hq=>⟨dX (G.out.own (y.out.rows q hq).flags fun _ _=>id) bc.out,dX (G.out.own (y.out.rows q hq).args fun _ _=>id) bc.out⟩) L.out.1 L.out.2 (by omega)
      ·rw[aq,List.map_append,List.map_singleton];have h1:List.map (fun z:Value×List CQ=>z.2.map (·.1)) h=Px.aQ ((aq Z).take k):=o.out.kD;rw[h1,y.out.kD,V4 (by rw[bl.out];exact N),bd.out];simp[Px.aQ]
      ·rw[VK,List.length_singleton,db.out]
      ·refine(de.grown L.out.2 fun b r e=>?_).setCell (.inr (by show w.heap.size<=w.heap.size+1+1;omega)) _;have :=(m.out.1.lt b e).1;omega
     case measure=>simp[intOf];omega
  ·have dh:k=Z.length:=by omega
   subst dh;obtain⟨J,c3,rfl⟩:=aE p.g.outer;have x0:wr.cell? ⟨w.heap.size+1+1,0,none⟩=some (.slice J h.length c3):=p.out.cell 0;have xz:w.heap.size+1+1<wr.heap.size:=p.out.lt;have y0:wr.cell? ⟨w.heap.size+1,0,none⟩=some (.slice none 0 0):=p.res.cell 0;have yf:wr.frozen? ⟨w.heap.size+1,0,none⟩=false:=p.res.frozen 0;have o:=VH p;clear p;go_wp2_with fail;have b1:=o.out.res.aj 0 (.slice J h.length c3);refine bodyPost_ret ((nN results18 _ _ _ ⟨w.heap.size+1,0,none⟩ rfl).trans (NB _ _ _ b1)) rfl ?_;refine⟨_,h,rfl,?_,?_,o.out.turns.setCell (.inr (Nat.le_succ _)) _⟩;. exact(o.out.g.aC ((aa.refl (af (w.heap.size+1)) wr).setCell (p:=⟨w.heap.size+1,0,none⟩) (.inl rfl) _) fun b e=>by have e:b=w.heap.size+1:=e;omega).bU (by omega)
   ·rw[o.out.kD,V2 (by rw[bl.out];exact VN _)]
end
section
open Lx(Bytes)
theorem TV(r:Int):dN r=Bx.width r:=by
 have b:bO r [(127,159)]=true↔127<=r/\r<=159:=by simp[bO]
 have c:bO r oi=Bx.xk r:=by rw[W3];simp[bO,oi,Bx.xk]
 have d:bO r ob=Bx.wZ r:=by rw[W3];simp[bO,ob,Bx.wZ]
 unfold dN Bx.width;rw[c,d];have a:(r<32∨1114111<r∨bO r [(127,159)]=true)↔(r<32∨r>1114111∨(127<=r/\r<=159)):=by rw[b]
 by_cases h:r<32∨1114111<r∨bO r [(127,159)]=true;. rw[if_pos h,if_pos (a.1 h)]
 ·rw[if_neg h,if_neg (fun q=>h (a.2 q))]
theorem D_{l:Bytes}(d:l=Bx.mf)(h:b9 w):Calls VI 74 #[.string ⟨l.toArray⟩] w fun e c=>∃g,e=.returned (.slice (some ⟨g,0,none⟩) 31 31)/\ad c g 9 (Bx.bH.map ah).toArray/\aa ab w c:=by
 subst d;refine(Tryz.strings_Fields ⟨Bx.mf.toArray⟩ w ?_ (fun j b a=>?_) h).mono ?_;. show Bx.mf.toArray.size<_;rw[WJ];exact Nat.lt_of_le_of_lt (show Bx.mf.length<=1000 by decide+kernel) (by decide)
 ·have a:Bx.mf[j]?=some b:=by simpa using a
  have :=List.all_eq_true.1 (show(Bx.mf.all fun b=>decide (b.toNat<128))=true by decide+kernel) b (List.mem_of_getElem? a);simpa using this
 ·rintro e c⟨rfl,rfl⟩;exact⟨_,rfl,ad.new w _ _,(aa.refl _ w).alloc _⟩
theorem TP(r:Int)(w:World):Calls VI 75 #[.int .i32 r] w fun e w'=>e=.returned (.bool (Xv r))/\w=w':=(Tryz.utf8_ValidRune r w).mono fun _ _⟨h1,h2⟩=>⟨h1,h2.symm⟩
theorem A.Rj(w:World)(c:Int):(convert 21 9 (.int .i32 c)).run VI w=.ok (.string (Xj c)) w:=by simp[convert,run_underlying underlying21,run_underlying underlying9,Conv.intToString]
theorem On(i:Nat)(h:i<31):Bx.named (1114112+i)=(Bx.bH[i]?).getD []:=by unfold Bx.named;rw[if_neg (by omega),if_neg (by omega),if_neg (by omega),if_neg (by omega),if_pos (by omega)];rw[show(1114112+(i:Int)-1114112).toNat=i by omega]
theorem Cz(h:¬c=9/\¬c=13/\¬c=32/\¬c=127/\¬(1114112<=c/\c<1114143)):Bx.named c=if 32<c/\c<=1114111/\Xv c=true/\0<dN c then(Xj c).data.toList else[]:=by unfold Bx.named;rw[if_neg h.1,if_neg h.2.1,if_neg h.2.2.1,if_neg h.2.2.2.1,if_neg h.2.2.2.2,TV]
theorem rJ(F:b9 w)(c:Int):Calls VI 42 #[.int .i64 c] w fun e p=>e=.returned (ah (Bx.named c))/\aa ab w p:=by
 have M:=VH F;clear F;by_cases x:c=9;. subst x;go_enter func42,ntmps42;go_wp2_with fail;go_ret;exact⟨rfl,aa.refl _ _⟩
 have Y:(c==9)=false:=beq_eq_false_iff_ne.2 x;by_cases t:c=13;. subst t;go_enter func42,ntmps42;go_wp2_with fail;go_ret;exact⟨rfl,aa.refl _ _⟩
 have U:(c==13)=false:=beq_eq_false_iff_ne.2 t;by_cases u:c=32;. subst u;go_enter func42,ntmps42;go_wp2_with fail;go_ret;exact⟨rfl,aa.refl _ _⟩
 have X:(c==32)=false:=beq_eq_false_iff_ne.2 u;by_cases r:c=127;. subst r;go_enter func42,ntmps42;go_wp2_with fail;go_ret;exact⟨rfl,aa.refl _ _⟩
 have T:(c==127)=false:=beq_eq_false_iff_ne.2 r;by_cases C:1114112<=c/\c<1114143
 ·obtain⟨i,E,rfl⟩:∃i:Nat,i<31/\c=1114112+i:=⟨(c-1114112).toNat,by omega,by omega⟩;have b:=VH (On i E)
  have o:=VH (show(Bx.bH.map ah).toArray[i]?=some (ah ((Bx.bH[i]?).getD []))by
   have S:i<Bx.bH.length:=by rw[show Bx.bH.length=31 by decide+kernel];exact E
   simp[S]);have g1:decide ((1114112:Int)<=1114112+i)=true:=decide_eq_true (by omega);have Q:decide ((1114112:Int)+i<1114143)=true:=decide_eq_true (by omega);have ai:(i:Int)<31:=by omega
  have al:(1114112:Int)+i-1114112=i:=by omega
  go_enter func42,ntmps42;go_wp2_with fail;refine(D_ (by decide+kernel) M.out).mono ?_;rintro e y⟨g,rfl,hB,a⟩;have c0:=(hB.cell i).trans o.out;have hg:=hB.lt;have k:=VH a;clear hB a;go_wp2_with fail;go_ret;exact⟨by rw[b.out];rfl,k.out⟩
 ·have b:=VH (Cz ⟨x,t,u,r,C⟩);by_cases d:32<c
  ·have N:decide (32<c)=true:=decide_eq_true d;by_cases j:c<=1114111
   ·have O:decide (c<=1114111)=true:=decide_eq_true j;have g1:decide ((1114112:Int)<=c)=false:=decide_eq_false (by omega);have m:=VH (TP c);generalize G:Xv c=v at m;have o:=VH G;clear G C;have q:=VH (ES w c)
    cases v with
    |false=>go_enter func42,ntmps42;go_wp2_with fail;refine(m.out _).mono ?_;rintro e p⟨rfl,rfl⟩;go_wp2_with fail;go_ret;exact⟨by rw[b.out,if_neg (fun h=>by rw[o.out]at h;exact absurd h.2.2.1 (by decide))];rfl,aa.refl _ _⟩
    |true=>
     generalize H:dN c=n at q;have z:=VH H;clear H;by_cases l:0<n;. have P:decide (0<n)=true:=decide_eq_true l;have K:=VH (fun W=>A.Rj W c);go_enter func42,ntmps42;go_wp2_with fail;refine(m.out _).mono ?_;rintro e p⟨rfl,rfl⟩;go_wp2_with fail;refine q.out.mono ?_;rintro e y⟨rfl,a⟩;have k:=VH a;clear a;have Z:=K.out y;go_wp2_with fail;go_ret;exact⟨by rw[b.out,if_pos ⟨d,j,o.out,by rw[z.out];exact l⟩];rfl,k.out⟩
     ·have P:decide (0<n)=false:=decide_eq_false l;have L:=VH l;clear l;go_enter func42,ntmps42;go_wp2_with fail;refine(m.out _).mono ?_;rintro e p⟨rfl,rfl⟩;go_wp2_with fail;refine q.out.mono ?_;rintro e y⟨rfl,a⟩;have k:=VH a;clear a;go_wp2_with fail;go_ret;exact⟨by rw[b.out,if_neg (fun h=>by rw[z.out]at h;have d:=h.2.2.2;have j:=L.out;omega)];rfl,k.out⟩
   ·have O:decide (c<=1114111)=false:=decide_eq_false j;have J:=VH j;have Q:decide (c<1114143)=false:=decide_eq_false (by omega);go_enter func42,ntmps42;go_wp2_with fail;go_ret;exact⟨by rw[b.out,if_neg (fun h=>by have d:=h.2.1;have j:=J.out;omega)];rfl,aa.refl _ _⟩
  ·have N:decide (32<c)=false:=decide_eq_false d;have I:=VH d;have g1:decide ((1114112:Int)<=c)=false:=decide_eq_false (by omega);go_enter func42,ntmps42;go_wp2_with fail;go_ret;exact⟨by rw[b.out,if_neg (fun h=>by have d:=h.1;have j:=I.out;omega)];rfl,aa.refl _ _⟩
end
section
open Lx(Bytes)
def jW(c:Int):Bool:=decide (1114136<=c)&&decide (c<=1114140)
theorem Oh(c:Int)(w:World):Calls VI 43 #[.int .i64 c] w fun e w'=>e=.returned (.bool (jW c))/\w=w':=by
 by_cases d:1114136<=c
 ·have a:decide (1114136<=c)=true:=decide_eq_true d;have b:jW c=decide (c<=1114140):=by rw[jW,a];rfl
  rw[b];go_enter func43,ntmps43;go_wp2_with fail;go_ret;exact⟨rfl,rfl⟩
 ·have a:decide (1114136<=c)=false:=decide_eq_false d;have b:jW c=false:=by rw[jW,a];rfl
  rw[b];go_enter func43,ntmps43;go_wp2_with fail;go_ret;exact⟨rfl,rfl⟩
def k7(c m:Int):Bool:=if(1114112<=c/\c<=1114133)∨(1114136<=c/\c<=1114140)then true else if c=1114141∨c=1114142 then decide (m=0)else if m%2≠0 then false else if m/4=0 then true else decide ((97<=c/\c<=122/\c≠105/\c≠109)∨(92<=c/\c<=95)∨c=32)
theorem im(c m:Int):Bx.right ⟨c,m⟩=if Bx.named c=[]∨m<0∨7<m then false else k7 c m:=rfl
theorem nk(h:ad w k 27 #[.int .i64 e,.int .i64 r]):w.cell? ⟨k,0,none⟩=some (.int .i64 e)/\w.cell? ⟨k,1,none⟩=some (.int .i64 r)/\k<w.heap.size:=⟨h.cell 0,h.cell 1,h.lt⟩
def vZ(c:Int):Bool:=decide ((97<=c/\c<=122/\c≠105/\c≠109)∨(92<=c/\c<=95)∨c=32)
theorem rq(H:b9 w)(c m:Int):Calls VI 17 #[.agg #[.int .i64 c,.int .i64 m]] w fun e w'=>e=.returned (.bool (Bx.right ⟨c,m⟩))/\aa ab w w':=by
 have i:=VH (rJ (w:=w.alloc (.cells #[.int .i64 c,.int .i64 m] 27)) (H.still ((aa.refl _ w).alloc _)) c);have p:=VH (ad.new w 27 #[.int .i64 c,.int .i64 m]);clear H;rw[im];generalize Bx.named c=n at i⊢;have C:=VH (show sl ⟨n.toArray⟩=n from rfl);simp only[ah]at i;generalize(⟨n.toArray⟩:ByteArray)=u at i C;by_cases o:n=[]
 ·have J:(u.toList==([]:List UInt8))=true:=by rw[beq_iff_eq,aS,C.out];exact o
  rw[show(if n=[]∨m<0∨7<m then false else k7 c m)=false from if_pos (.inl o)];clear o;go_enter func17,ntmps17;go_wp2_with fail;refine i.out.mono ?_;rintro e t⟨rfl,a⟩;have d:=VH (((aa.refl ab w).alloc _).same a);clear a;go_wp2_with fail;go_ret;exact⟨rfl,d.out⟩
 have J:(u.toList==([]:List UInt8))=false:=by rw[beq_eq_false_iff_ne,aS,C.out];exact o
 by_cases l:m<0∨7<m
 ·rw[show(if n=[]∨m<0∨7<m then false else k7 c m)=false from if_pos (.inr l)]
  have z:(decide (m<0)=true)∨(decide (m<0)=false/\decide (7<m)=true):=by
   by_cases h:m<0;. exact .inl (decide_eq_true h)
   ·exact .inr ⟨decide_eq_false h,decide_eq_true (l.resolve_left h)⟩
  clear l o;rcases z with z|⟨z,K⟩;all_goals go_enter func17,ntmps17;go_wp2_with fail;refine i.out.mono ?_;rintro e t⟨rfl,a⟩;obtain⟨c0,c1,y⟩:=nk (a.blk p.out id);have d:=VH (((aa.refl ab w).alloc _).same a);clear a;go_wp2_with fail;go_ret;exact⟨rfl,d.out⟩
 have z:decide (m<0)=false:=decide_eq_false (by omega);have K:decide (7<m)=false:=decide_eq_false (by omega);rw[show(if n=[]∨m<0∨7<m then false else k7 c m)=k7 c m from if_neg (fun h=>h.elim o l)];clear o;by_cases j:1114112<=c/\c<=1114133;. have g1:decide (1114112<=c)=true:=decide_eq_true j.1;have G:decide (c<=1114133)=true:=decide_eq_true j.2;rw[show k7 c m=true from if_pos (.inl j)];clear j l;go_enter func17,ntmps17;go_wp2_with fail;refine i.out.mono ?_;rintro e t⟨rfl,a⟩;obtain⟨c0,c1,y⟩:=nk (a.blk p.out id);have d:=VH (((aa.refl ab w).alloc _).same a);clear a;go_wp2_with fail;go_ret;exact⟨rfl,d.out⟩
 have g1:(decide (1114112<=c)=false)∨(decide (1114112<=c)=true/\decide (c<=1114133)=false):=by
  by_cases h:1114112<=c;. exact .inr ⟨decide_eq_true h,decide_eq_false (fun k=>j ⟨h,k⟩)⟩
  ·exact .inl (decide_eq_false h)
 have x:=VH (Oh c);generalize r:jW c=L at x
 cases L with
 |true=>rw[show k7 c m=true from if_pos (.inr (by simpa[jW]using r))];clear j l r;rcases g1 with g1|⟨g1,G⟩;all_goals go_enter func17,ntmps17;go_wp2_with fail;refine i.out.mono ?_;rintro e t⟨rfl,a⟩;obtain⟨c0,c1,y⟩:=nk (a.blk p.out id);have d:=VH (((aa.refl ab w).alloc _).same a);clear a;go_wp2_with fail;refine(x.out _).mono ?_;rintro e I⟨rfl,rfl⟩;go_wp2_with fail;go_ret;exact⟨rfl,d.out⟩
 |false=>
  have E:k7 c m=if c=1114141∨c=1114142 then decide (m=0)else if m%2≠0 then false else if m/4=0 then true else vZ c:=if_neg (fun h=>h.elim j fun h=>by
   have :jW c=true:=by simp[jW,h.1,h.2]
   rw[r]at this;cases this);rw[E];by_cases k:c=1114141∨c=1114142;. rw[if_pos k,show decide (m=0)=(m==0)by rw[W3];simp];clear E r l j g1;rcases k with rfl|rfl;all_goals go_enter func17,ntmps17;go_wp2_with fail;refine i.out.mono ?_;rintro e t⟨rfl,a⟩;obtain⟨c0,c1,y⟩:=nk (a.blk p.out id);have d:=VH (((aa.refl ab w).alloc _).same a);clear a;go_wp2_with fail;refine(x.out _).mono ?_;rintro e I⟨rfl,rfl⟩;go_wp2_with fail;go_ret;exact⟨rfl,d.out⟩
  have O:(c==1114141)=false:=beq_eq_false_iff_ne.2 fun e=>k (.inl e);have P:(c==1114142)=false:=beq_eq_false_iff_ne.2 fun e=>k (.inr e);rw[if_neg k];have F:m=0∨m=1∨m=2∨m=3∨m=4∨m=5∨m=6∨m=7:=by omega
  have q:=VH (show vZ c=decide ((97<=c/\c<=122/\c≠105/\c≠109)∨(92<=c/\c<=95)∨c=32)from rfl);generalize vZ c=rd at q⊢;have M:(bits XJ VL m 1 !=0)=(m%2 !=0):=by rcases F with rfl|rfl|rfl|rfl|rfl|rfl|rfl|rfl<;>rfl
  have N:(bits XJ VL m 4==0)=(m/4==0):=by rcases F with rfl|rfl|rfl|rfl|rfl|rfl|rfl|rfl<;>rfl
  clear E k r j l;rcases g1 with g1|⟨g1,G⟩;all_goals rcases F with rfl|rfl|rfl|rfl|rfl|rfl|rfl|rfl;all_goals simp only[Int.reduceMod,Int.reduceDiv,Int.reduceBNe,Int.reduceBEq]at M N;simp only[Int.reduceMod,Int.reduceDiv,ne_eq,not_true_eq_false,if_true,if_false,not_false_eq_true,Int.reduceEq];go_enter func17,ntmps17;go_wp2_with fail;refine i.out.mono ?_;rintro e t⟨rfl,a⟩;obtain⟨c0,c1,y⟩:=nk (a.blk p.out id);have d:=VH (((aa.refl ab w).alloc _).same a);clear a;go_wp2_with fail;refine(x.out _).mono ?_;rintro e I⟨rfl,rfl⟩;go_wp2_with fail;all_goals go_ret;refine⟨?_,d.out⟩;first|rfl|(show W4 (YR true)=_;rw[q.out,decide_eq_true (by omega)])|(show W4 (YR false)=_;rw[q.out,decide_eq_false (by omega)])|(show W4 (YR (decide (c<=95)||c==32))=_;refine congrArg (fun b=>W4 (YR b)) ?_;rw[q.out,W3];simp only[Bool.or_eq_true,decide_eq_true_eq,beq_iff_eq];omega)|(show W4 (YR (c==32))=_;refine congrArg (fun b=>W4 (YR b)) ?_;rw[q.out,W3];simp only[decide_eq_true_eq,beq_iff_eq];omega)
open Lx(Bytes)
theorem DH(h:Bx.right ⟨e,r⟩=true):r=0∨r=1∨r=2∨r=3∨r=4∨r=5∨r=6∨r=7:=by
 rw[im]at h;by_cases a:Bx.named e=[]∨r<0∨7<r;. rw[if_pos a]at h;cases h
 ·omega
theorem Kl(h:Bx.right ⟨e,r⟩=true):Bx.bE ⟨e,r⟩=(if r/4%2=1 then[67,45]else[])++(if r/2%2=1 then[77,45]else[])++(if r%2=1 then[83,45]else[])++Bx.named e:=by rw[Bx.bE,if_pos h]
theorem Io(c:Int):(Xj c).data.toList.length<=4:=by
 unfold Xj;generalize(if Utf8.valid c=true then c.toNat else Utf8.runeError)=k;dsimp only;by_cases a:k<128;. rw[if_pos a];simp
 ·rw[if_neg a];by_cases b:k<2048;. rw[if_pos b];simp
  ·rw[if_neg b];by_cases d:k<65536;. rw[if_pos d];simp
   ·rw[if_neg d];simp
theorem u5(c:Int):(Bx.named c).length<=20:=by
 unfold Bx.named;split;. decide
 split;. decide
 split;. decide
 split;. decide
 split;. rename_i h;cases hs:Bx.bH[(c-1114112).toNat]? with|none=>simp|some l=>have :=List.all_eq_true.1 (show(Bx.bH.all fun l=>decide (l.length<=20))=true by decide+kernel) l (List.mem_of_getElem? hs);simpa using this
 split;. have :=Io c;omega
 ·simp
theorem Ks(o:b9 w)(c m:Int):Calls VI 30 #[.agg #[.int .i64 c,.int .i64 m]] w fun e w'=>∃u:ByteArray,e=.returned (.string u)/\sl u=Bx.bE ⟨c,m⟩/\aa ab w w':=by
 have q:=VH (fun W(ht:aa ab w W)=>o.still ht);have p:=VH (ad.new w 27 #[.int .i64 c,.int .i64 m]);have j:=VH (rq (w:=w.alloc (.cells #[.int .i64 c,.int .i64 m] 27)) (o.still ((aa.refl _ w).alloc _)) c m);clear o;generalize a:Bx.right ⟨c,m⟩=r at j
 cases r with
 |false=>have b:=VH (show Bx.bE ⟨c,m⟩=[]by rw[Bx.bE,if_neg (by rw[a];decide)]);clear a;go_enter func30,ntmps30;go_wp2_with fail;refine j.out.mono ?_;rintro e C⟨rfl,ht⟩;have h:=VH (((aa.refl ab w).alloc _).same ht);clear ht;go_wp2_with fail;go_ret;exact⟨_,rfl,by rw[b.out];rfl,h.out⟩
 |true=>
  have b:=VH (Kl a);have i:=DH a;have x:(bits XJ VL m 1 !=0)=(m%2 !=0):=by rcases i with rfl|rfl|rfl|rfl|rfl|rfl|rfl|rfl<;>rfl
  have y:(bits XJ VL m 2 !=0)=(m/2%2 !=0):=by rcases i with rfl|rfl|rfl|rfl|rfl|rfl|rfl|rfl<;>rfl
  have z:(bits XJ VL m 4 !=0)=(m/4 !=0):=by rcases i with rfl|rfl|rfl|rfl|rfl|rfl|rfl|rfl<;>rfl
  have d:=VH (fun W(ht:aa ab w W)=>rJ (w:=W) (q.out W ht) c);have l:=u5 c;generalize Bx.named c=n at d b l;have k:=VH (show sl ⟨n.toArray⟩=n from rfl);simp only[ah]at d;generalize(⟨n.toArray⟩:ByteArray)=u at d k;have F:u.size<=20:=by rw[<-aL,k.out];exact l
  clear a l;rcases i with rfl|rfl|rfl|rfl|rfl|rfl|rfl|rfl;all_goals simp only[Int.reduceMod,Int.reduceDiv,Int.reduceBNe]at x y z;go_enter func30,ntmps30;go_wp2_with fail;refine j.out.mono ?_;rintro e C⟨rfl,ht⟩;obtain⟨c0,c1,E⟩:=nk (ht.blk p.out id);have h:=VH (((aa.refl ab w).alloc _).same ht);clear ht;go_wp2_with fail;refine(d.out _ h.out).mono ?_;rintro e G⟨rfl,ht⟩;have t:=VH (h.out.same ht);clear ht;go_wp2_with fail;go_ret;exact⟨_,rfl,by rw[b.out,<-k.out];simp[sl],t.out⟩
def ie(c:Int):Int:=if 65<=c/\c<=90 then c+32 else c
def j0(c m:Int):Int×Int:=if ie c=105 then(9,m%4)else if ie c=109 then(13,m%4)else if ie c=91 then(1114135,m%4)else if ie c=64 then(32,m)else(ie c,m)
theorem PX(c m:Int):Bx.iR ⟨c,m⟩=⟨(j0 c m).1,(j0 c m).2⟩:=by
 unfold Bx.iR j0;show(if ie c=105 then(⟨9,m%4⟩:Bx.Ky)else if ie c=109 then⟨13,m%4⟩else if ie c=91 then⟨1114135,m%4⟩else if ie c=64 then⟨32,m⟩else⟨ie c,m⟩)=_;split;. rfl
 split;. rfl
 split;. rfl
 split;all_goals rfl
theorem PV(c m:Int)(o:4<=m/\m<=7):Calls VI 65 #[.agg #[.int .i64 c,.int .i64 m]] w fun e w'=>e=.returned (.agg #[.int .i64 (Bx.iR ⟨c,m⟩).code,.int .i64 (Bx.iR ⟨c,m⟩).aw])/\aa ab w w':=by
 rw[PX];have j:m=4∨m=5∨m=6∨m=7:=by omega
 have r:bits BinOp.andNot VL m 4=m%4:=by rcases j with rfl|rfl|rfl|rfl<;>rfl
 have p:=VH j;clear o j;by_cases b:65<=c/\c<=90
 ·have g1:decide (65<=c)=true:=decide_eq_true b.1;have l:decide (c<=90)=true:=decide_eq_true b.2;have i:ie c=c+32:=if_pos b;have d:=VH (show j0 c m=if c+32=105 then(9,m%4)else if c+32=109 then(13,m%4)else if c+32=91 then(1114135,m%4)else if c+32=64 then(32,m)else(c+32,m)by rw[j0,i]);generalize j0 c m=P at d⊢;obtain⟨q,k⟩:=b;clear i;go_enter func65,ntmps65;go_wp2_with fail
  all_goals
   have a:=d.out;simp only[beq_iff_eq,beq_eq_false_iff_ne,ne_eq]at*;first|(rw[if_pos (by omega)]at a)|(rw[if_neg (by omega),if_pos (by omega)]at a)|(rw[if_neg (by omega),if_neg (by omega),if_pos (by omega)]at a)|(rw[if_neg (by omega),if_neg (by omega),if_neg (by omega),if_pos (by omega)]at a)|(rw[if_neg (by omega),if_neg (by omega),if_neg (by omega),if_neg (by omega)]at a)
   subst a;first|exact bodyPost_ret (v:=.agg #[_,_]) (by simp[results,results65,go_sem];rfl) rfl ⟨rfl,((aa.refl _ w).alloc _).alloc _⟩|exact bodyPost_ret (v:=.agg #[_,_]) (by simp[results,results65,go_sem]) rfl ⟨rfl,((aa.refl _ w).alloc _).alloc _⟩
 ·have n:decide (65<=c)=false∨(decide (65<=c)=true/\decide (c<=90)=false):=by
   by_cases h:65<=c;. exact .inr ⟨decide_eq_true h,decide_eq_false fun k=>b ⟨h,k⟩⟩
   ·exact .inl (decide_eq_false h)
  have i:ie c=c:=if_neg b;have d:=VH (show j0 c m=if c=105 then(9,m%4)else if c=109 then(13,m%4)else if c=91 then(1114135,m%4)else if c=64 then(32,m)else(c,m)by rw[j0,i]);generalize j0 c m=P at d⊢;clear i b;rcases n with g1|⟨g1,l⟩
  all_goals
   go_enter func65,ntmps65;go_wp2_with fail
   all_goals
    have a:=d.out;simp only[beq_iff_eq,beq_eq_false_iff_ne,ne_eq]at*;first|(rw[if_pos (by omega)]at a)|(rw[if_neg (by omega),if_pos (by omega)]at a)|(rw[if_neg (by omega),if_neg (by omega),if_pos (by omega)]at a)|(rw[if_neg (by omega),if_neg (by omega),if_neg (by omega),if_pos (by omega)]at a)|(rw[if_neg (by omega),if_neg (by omega),if_neg (by omega),if_neg (by omega)]at a)
    subst a;first|exact bodyPost_ret (v:=.agg #[_,_]) (by simp[results,results65,go_sem];rfl) rfl ⟨rfl,((aa.refl _ w).alloc _).alloc _⟩|exact bodyPost_ret (v:=.agg #[_,_]) (by simp[results,results65,go_sem]) rfl ⟨rfl,((aa.refl _ w).alloc _).alloc _⟩
end
section
open Lx(Bytes)
open Go.Maps(Keyed)
theorem A.laidOut:laidOutB VI=true:=by kernel_rfl
theorem A.v7:(68:TypeId)<VI.types.size:=of_decide_eq_true (by kernel_rfl)
theorem A.TU:(match VI.underlying 68 with|some (.array _ _)|some (.struct _)=>true|_=>false)=true:=by rw[underlying68]
theorem A.kX:Keyed VI 68:=Keyed.of_law (deep_law_laid A.laidOut (m:=4) (by omega) A.v7 (by kernel_rfl) A.TU)
theorem A.Df:VI.keyType 68=true:=by kernel_rfl
theorem A.nK:VI.cellsOf 68=3/\VI.cellsOf 27=2/\VI.cellsOf 9=1/\VI.cellsOf 3=1:=⟨by kernel_rfl,by kernel_rfl,by kernel_rfl,by kernel_rfl⟩
theorem A.PS(s:ByteArray)(c m:Int)(e:s.size<=maxLen)(a:(Ys .i64 c).wf=true)(b:(Ys .i64 m).wf=true):∃l,keyOf VI 68 (.agg #[.string s,.int .i64 c,.int .i64 m])=some l:=by obtain⟨n,d⟩:∃n,VI.types.size=n+3:=⟨VI.types.size-3,by have :(68:Nat)<VI.types.size:=A.v7;omega⟩;obtain⟨c1,c2,c3,c4⟩:=A.nK;unfold keyOf;rw[underlying68];dsimp only;rw[A.Df,d];simp[Value.formed,Value.cells,underlying68,c1,Y9,underlying27,underlying9,underlying3,c2,c3,c4,e,a,b];rw[if_pos (by decide)];exact⟨_,rfl⟩
def dK(p:Bx.Pl):Prop:=p.1.length<=maxLen/\(Ys .i64 p.2.code).wf=true/\(Ys .i64 p.2.aw).wf=true
noncomputable def eD(p:Bx.Pl):Lit:=(keyOf VI 68 (Bx.jZ p)).getD (.bool false)
theorem nj{p:Bx.Pl}(h:dK p):keyOf VI 68 (Bx.jZ p)=some (eD p):=by obtain⟨l,a⟩:=A.PS ⟨p.1.toArray⟩ p.2.code p.2.aw (by simpa[ByteArray.size]using h.1) h.2.1 h.2.2;have b:keyOf VI 68 (Bx.jZ p)=some l:=a;rw[eD,b];rfl
theorem A.uC:Bx.ot dK eD where
 inj{p q}hp hq e:=by
  have i:=nj hp;have a:=nj hq;rw[<-e]at a;have c:=A.kX.inj i a;simp only[Bx.jZ,Value.agg.injEq,Array.mk.injEq,List.cons.injEq,Value.string.injEq,Value.int.injEq,true_and,and_true]at c;obtain⟨n,l⟩:=p;obtain⟨t2,m⟩:=q;obtain⟨c1,m1⟩:=l;obtain⟨c2,o⟩:=m;obtain⟨j,d,h⟩:=c;have k:n=t2:=by simpa using congrArg (fun b:ByteArray=>b.data.toList) j
  simp only at d h;subst d h k;rfl
 lit{p}hp:=A.kX.key (nj hp)
structure sN where
 t:ByteArray
 c:Int
 m:Int
 r:Bool
 n:ByteArray
 A:Option Addr
 k:Nat
 p:Nat
def oD(x:sN):Value:=.agg #[.string x.t,.int .i64 x.c,.int .i64 x.m,.bool x.r,.string x.n,.slice x.A x.k x.p]
def AO:Value->Bool|.agg ⟨[.string _,.int .i64 _,.int .i64 _,.bool _,.string _,.slice _ _ _]⟩=>true|_=>false
def fJ:Value->Option (DataW Value×List MemPlace):=fun v=>if AO v then some (.held v,[])else none
theorem zy{y:DataW Value×List MemPlace}(h:fJ v=some y):(∃x,v=oD x)/\y=(.held v,[]):=by
 unfold fJ at h;split at h
 ·rename_i a;injection h with h;refine⟨?_,h.symm⟩;unfold AO at a;split at a;. exact⟨⟨_,_,_,_,_,_,_,_⟩,rfl⟩
  ·cases a
 ·cases h
theorem Il(x:sN):fJ (oD x)=some (.held (oD x),[]):=rfl
theorem NA{x:List Lit}(h:VI.keyLits (k+1) 9 [v]=some x):∃s:ByteArray,v=.string s/\s.size<=maxLen:=by unfold Y9 at h;rw[underlying9]at h;cases v<;>simp at h;exact⟨_,rfl,h.1⟩
theorem Ca{x:List Lit}(h:VI.keyLits (N+1) 3 [v]=some x):∃n:Int,v=.int .i64 n/\(Ys .i64 n).wf=true:=by unfold Y9 at h;rw[underlying3]at h;cases v<;>simp at h;obtain⟨⟨rfl,a⟩,-⟩:=h;exact⟨_,rfl,a⟩
theorem Ny{x:List Lit}(h:VI.keyLits (k+1+1) 27 [v,u]=some x):∃c m:Int,v=.int .i64 c/\u=.int .i64 m/\(Ys .i64 c).wf=true/\(Ys .i64 m).wf=true:=by obtain⟨c1,c2,c3,c4⟩:=A.nK;unfold Y9 at h;rw[underlying27]at h;generalize a:k+1=K at h;cases h1:VI.keyLits K 3 [v]with|none=>simp[c2,c4,h1]at h|some e=>cases h2:VI.keyLits K 3 [u]with|none=>simp[c2,c4,h1,h2]at h|some i=>obtain⟨c,rfl,b⟩:=Ca (N:=k) (by rw[a];exact h1);obtain⟨m,rfl,d⟩:=Ca (N:=k) (by rw[a];exact h2);exact⟨c,m,rfl,rfl,b,d⟩
theorem Nz{x:List Lit}(h:VI.keyLits (N+1) 68 [v,u,z]=some x):(∃y,VI.keyLits N 9 [v]=some y)/\∃y,VI.keyLits N 27 [u,z]=some y:=by obtain⟨c1,c2,c3,c4⟩:=A.nK;unfold Y9 at h;rw[underlying68]at h;cases h1:VI.keyLits N 9 [v]with|none=>simp[c1,c2,c3,h1]at h|some a=>cases h2:VI.keyLits N 27 [u,z]with|none=>simp[c1,c2,c3,h1,h2]at h|some b=>exact⟨⟨_,rfl⟩,_,rfl⟩
theorem De{key:Value}{y:Lit}(h:keyOf VI 68 key=some y):∃(t:ByteArray)(c m:Int),key=.agg #[.string t,.int .i64 c,.int .i64 m]/\dK (sl t,⟨c,m⟩):=by
 obtain⟨n,r⟩:∃n,VI.types.size=n+2:=⟨VI.types.size-2,by have :(68:Nat)<VI.types.size:=A.v7;omega⟩;obtain⟨c1,c2,c3,c4⟩:=A.nK;unfold keyOf at h;rw[underlying68]at h;dsimp only at h;rw[A.Df,r]at h
 cases e:key.formed VI 68 with
 |false=>rw[e]at h;simp at h
 |true=>
  rw[e]at h
  cases key with
  |agg i=>
   obtain⟨l⟩:=i;have q:l.length=3:=by simpa[Value.formed,underlying68,c1]using e
   match l,q with|[a,b,d],_=>simp only[Bool.and_self,if_true,Option.map_eq_some_iff]at h;obtain⟨x,w,-⟩:=h;obtain⟨⟨z,j⟩,C,k⟩:=Nz (N:=n+2) w;obtain⟨s,rfl,u⟩:=NA j;obtain⟨c,m,rfl,rfl,o,p⟩:=Ny k;exact⟨s,c,m,rfl,by rw[aL];exact u,o,p⟩
  |_=>simp[Value.formed,underlying68]at e
def b_(b:Bx.Bd)(a:Value):Value:=.agg #[ah b.table,.int .i64 b.key.code,.int .i64 b.key.aw,.bool b.rep,ah b.note,a]
def d_:Bx.Bd:=⟨[],⟨0,0⟩,false,[],[]⟩
def oh:Value:=b_ d_ (.slice none 0 0)
theorem A.Ui(w:World):(zeroValue 36).run VI w=.ok oh w:=by kernel_rfl
def dj(G:List (List Px.ag)):Prop:=G.length<=1000000/\∀g∈G,g.length<=1000000/\∀c∈g,c.flags.length<=1000000/\c.args.length<=1000000
theorem dj.bare{Z:List (Value×List CQ)}(h:dj (aq Z)):xp Z:=by obtain⟨b,c⟩:=h;refine⟨by simp[aq]at b;omega,fun z d=>?_⟩;have a:=c (z.2.map (·.1)) (V'.2 ⟨z,d,rfl⟩);refine⟨by have :=a.1;rw[List.length_map]at this;omega,fun q hq=>?_⟩;have :=a.2 q.1 (V'.2 ⟨q,hq,rfl⟩);omega
theorem dj.strip{G:List (List Px.ag)}(h:dj G):dj (Px.aQ G):=by obtain⟨b,d⟩:=h;refine⟨by simpa[Px.aQ]using b,fun g j=>?_⟩;obtain⟨g0,k,rfl⟩:=V'.1 j;have a:=d g0 k;refine⟨by simpa using a.1,fun c e=>?_⟩;obtain⟨c0,i,rfl⟩:=V'.1 e;exact a.2 c0 i
structure iC(b:Bx.Bd):Prop where
 name:Bx.fw b.table=true
 key:Bx.right b.key=true
 note:b.note.length<=64
 list:dj b.list
 bare:Px.aQ b.list=b.list
theorem kU{s:Bytes}(h:Bx.fw s=true):s.length<=64:=by simp only[Bx.fw,Wd,decide_eq_true_eq]at h;exact h.1.2
theorem wf_i64(h:-9223372036854775808<=e/\e<=9223372036854775807):(Ys .i64 e).wf=true:=by unfold Lit.wf;rw[Wd,decide_eq_true_eq,decide_eq_true_eq];exact h
theorem Oq(h:Bx.named r≠[]):0<=r/\r<=1114143:=by
 by_cases a:r=9∨r=13∨r=32∨r=127∨(1114112<=r/\r<1114143);. omega
 ·have b:=Cz (c:=r) ⟨fun e=>a (.inl e),fun e=>a (.inr (.inl e)),fun e=>a (.inr (.inr (.inl e))),fun e=>a (.inr (.inr (.inr (.inl e)))),fun e=>a (.inr (.inr (.inr (.inr e))))⟩;by_cases c:32<r/\r<=1114111/\Xv r=true/\0<dN r;. omega
  ·rw[b,if_neg c]at h;exact absurd rfl h
theorem Q1{k:Bx.Ky}(h:Bx.right k=true):(0<=k.code/\k.code<=1114143)/\0<=k.aw/\k.aw<=7:=by
 obtain⟨c,m⟩:=k;have b:=DH h;rw[im]at h;by_cases a:Bx.named c=[]∨m<0∨7<m;. rw[if_pos a]at h;cases h
 ·exact⟨Oq fun e=>a (.inl e),by simp only;omega⟩
theorem iC.ok{b:Bx.Bd}(h:iC b):dK (Bx.place b):=by have c:=kU h.name;have a:=Q1 h.key;exact⟨by show b.table.length<=maxLen;simp only[maxLen];omega,wf_i64 (by have :=a.1;show _<=b.key.code/\b.key.code<=_;omega),wf_i64 (by have :=a.2;show _<=b.key.aw/\b.key.aw<=_;omega)⟩
structure sT(w:World)(M:Nat)(m:List Bx.BV)(D:DataW Value):Prop where
 own:w.ownsMap VI 68 fJ M m.length D
 agree:Bx.cJ dK eD D m
 apart:Bx.jD m
 size:Maps.size D=m.length
structure cR(w:World)(M:Nat)(T:List Bx.Bd)(m:List Bx.BV)(D:DataW Value):Prop where
 map:sT w M m D
 perm:(m.map (·.1)).Perm T
 sorted:Bx.aH T
 bz:∀b∈T,iC b
 each:∀x∈m,∃gv Z,x.2=b_ x.1 gv/\aD w (M+1) gv Z/\aq Z=x.1.list
 few:T.length<=500
structure bY(w:World)(P M:Nat)(T:List Bx.Bd):Prop where
 ptr:ad w P 66 #[.map (some M)]
 cI:∃m D,cR w M T m D
section
variable{w w':World}{P M:Nat}{T:List Bx.Bd}{m:List Bx.BV}{D:DataW Value}
theorem CY(h:w.ownsMap VI 68 fJ M k D)(d:w'.heap[M]?=w.heap[M]?):w'.ownsMap VI 68 fJ M k D:=by obtain⟨es,a,b,c⟩:=h;exact⟨es,a,d.trans b,c⟩
theorem sT.lt(h:sT w M m D):M<w.heap.size:=h.own.lt
theorem cR.still(h:cR w M T m D)(a:aa ab w w'):cR w' M T m D:=⟨⟨CY h.map.own (a.block M h.map.lt id),h.map.agree,h.map.apart,h.map.size⟩,h.perm,h.sorted,h.bz,fun x i=>by obtain⟨b,Z,c,d,e⟩:=h.each x i;exact⟨b,Z,c,d.still a,e⟩,h.few⟩
theorem bY.still(h:bY w P M T)(a:aa ab w w'):bY w' P M T:=by obtain⟨m,D,b⟩:=h.cI;exact⟨a.blk h.ptr id,m,D,b.still a⟩
theorem cR.mem(h:cR w M T m D){x:Bx.BV}(a:x∈m):x.1∈T:=h.perm.mem_iff.1 (V'.2 ⟨x,a,rfl⟩)
theorem cR.ok(h:cR w M T m D){x:Bx.BV}(a:x∈m):dK (Bx.cu x):=(h.bz _ (h.mem a)).ok
theorem Dh:∀{T:List Bx.Bd},(T.Pairwise fun a b=>Bx.place a≠Bx.place b)->∀{b c:Bx.Bd},b∈T->c∈T->Bx.place b=Bx.place c->b=c
|y::T,h,b,c,k,i,e=>by
  obtain⟨d,j⟩:=Wn.1 h;rcases We.1 k with q|q
  ·rcases We.1 i with r|r;. rw[q,r]
   ·subst q;exact absurd e (d _ r)
  ·rcases We.1 i with r|r;. subst r;exact absurd e.symm (d _ q)
   ·exact Dh j q r e
theorem zK{t:Bytes}{k:Bx.Ky}{b:Bx.Bd}(j:Bx.aH T):Bx.find T t k=some b↔b∈T/\Bx.place b=(t,k):=by
 constructor;. intro h;exact⟨List.mem_of_find?_eq_some h,Bx.fE.1 (List.find?_some h)⟩
 ·rintro⟨c,d⟩;cases a:Bx.find T t k with|none=>exact absurd d (Bx.m_.1 a b c)|some l=>have e:=List.mem_of_find?_eq_some a;have i:=Bx.fE.1 (List.find?_some a);rw[Dh (Bx.D9 j) c e (d.trans i.symm)]
theorem cR.get(h:cR w M T m D)(t:Bytes)(k:Bx.Ky):Bx.find T t k=(Bx.bh m (t,k)).map (·.1):=by cases a:Bx.bh m (t,k)with|none=>rw[Bx.rj]at a;rw[Option.map_none,Bx.m_];intro b i e;obtain⟨x,j,rfl⟩:=V'.1 (h.perm.mem_iff.2 i);exact a x j e|some x=>obtain⟨c,d⟩:=(Bx.lT h.map.apart).1 a;exact(zK h.sorted).2 ⟨h.mem c,d⟩
def mB(w:World)(M:Nat)(T:List Bx.Bd)(t:Bytes)(k:Bx.Ky)(v:Value):Prop:=match Bx.find T t k with|some b=>∃gv Z,v=b_ b gv/\aD w (M+1) gv Z/\aq Z=b.list|none=>v=oh
def nx(m:List Bx.BV)(t:Bytes)(k:Bx.Ky):Value:=((Bx.bh m (t,k)).map (·.2)).getD oh
theorem cR.looked(h:cR w M T m D)(t:Bytes)(k:Bx.Ky):mB w M T t k (nx m t k):=by unfold mB nx;rw[h.get t k];cases a:Bx.bh m (t,k)with|none=>rfl|some x=>obtain⟨b,-⟩:=(Bx.lT h.map.apart).1 a;exact h.each x b
theorem cR.look(h:cR w M T m D){t:Bytes}{k:Bx.Ky}(d:dK (t,k)):(Instr.lookup 64 (.map (some M)) (Bx.jZ (t,k)) true).run VI w=.ok (.tuple #[nx m t k,.bool (Bx.find T t k).isSome]) w:=by
 obtain⟨v,p,l,n⟩:=h.map.own.look_ok A.kX underlying64 (A.Ui w) (zd:=.held oh) (zp:=[]) rfl (nj d);obtain⟨b,e⟩:=h.map.agree (t,k) d;have j:=h.get t k;have a:DataW.held v=D.atKey (eD (t,k)) (.held oh):=by have i:=(zy n).2;exact(congrArg Prod.fst i).symm
 have o:v=nx m t k:=by unfold nx;cases c:Bx.bh m (t,k)with|none=>rw[c]at b;rw[Maps.atKey_of_not_has b]at a;injection a|some x=>rw[e x c]at a;injection a
 rw[l,b,j,Option.isSome_map,o]
end
open Lx(Bytes)
def cN(T:List Bx.Bd)(t:Bytes)(k:Bx.Ky):Bx.Bd:=(Bx.find T t k).getD d_
def gK(w:World)(B:Nat)(v:Value)(b:Bx.Bd):Prop:=∃gv Z,v=b_ b gv/\aD w B gv Z/\aq Z=b.list
theorem gK.still{w a:World}{B:Nat}{v:Value}{b:Bx.Bd}(h:gK w B v b)(j:aa ab w a):gK a B v b:=by obtain⟨c,Z,d,e,i⟩:=h;exact⟨c,Z,d,e.still j,i⟩
theorem gK.bU{w:World}{B a:Nat}{v:Value}{b:Bx.Bd}(h:gK w B v b)(hB:a<=B):gK w a v b:=by obtain⟨c,Z,d,e,i⟩:=h;exact⟨c,Z,d,e.bU hB,i⟩
theorem mB.at_{T:List Bx.Bd}{t:Bytes}{k:Bx.Ky}(h:mB w n T t k v):gK w (n+1) v (cN T t k):=by unfold mB at h;unfold cN;cases a:Bx.find T t k with|some b=>rw[a]at h;exact h|none=>rw[a]at h;exact⟨_,[],h,aD.nil _ _,rfl⟩
theorem Ji{T:List Bx.Bd}(d:Bx.aH T)(a:∀b∈T,iC b)(t:Bytes)(k:Bx.Ky):dj (cN T t k).list/\Px.aQ (cN T t k).list=(cN T t k).list:=by unfold cN;cases c:Bx.find T t k with|some b=>have :=a b ((zK d).1 c).1;exact⟨this.list,this.bare⟩|none=>exact⟨⟨VQ _,fun g a=>(V1 a).elim⟩,rfl⟩
theorem gZ(w:World)(g:Nat)(v0 j v2 v3 v4 v5:Value)(h:ad w g 36 #[v0,j,v2,v3,v4,v5]):(loadVar 36 ⟨g,0,none⟩).run VI w=.ok (.agg #[v0,j,v2,v3,v4,v5]) w:=by have a:=h.cell 0;have b:=h.cell 1;have c:=h.cell 2;have d:=h.cell 3;have e:=h.cell 4;have i:=h.cell 5;clear h;simp at a b c d e i;simp[go_sem,a,b,c,d,e,i]
theorem bM{v3 v4 v5:Value}(h:ad w k 36 #[v0,v,v2,v3,v4,v5]):w.cell? ⟨k,0,none⟩=some v0/\w.cell? ⟨k,1,none⟩=some v/\w.cell? ⟨k,2,none⟩=some v2/\w.cell? ⟨k,3,none⟩=some v3/\w.cell? ⟨k,4,none⟩=some v4/\w.cell? ⟨k,5,none⟩=some v5/\(∀i,w.frozen? ⟨k,i,none⟩=false)/\k<w.heap.size:=⟨h.cell 0,h.cell 1,h.cell 2,h.cell 3,h.cell 4,h.cell 5,fun i=>h.frozen i,h.lt⟩
theorem me{a0 a2 a3 a4 a5:Value}(h:ad w k t #[a0,v,a2,a3,a4,a5])(v0 a v2 v3 v4 v5:Value):ad ((((((w.setCell ⟨k,0,none⟩ v0).setCell ⟨k,1,none⟩ a).setCell ⟨k,2,none⟩ v2).setCell ⟨k,3,none⟩ v3).setCell ⟨k,4,none⟩ v4).setCell ⟨k,5,none⟩ v5) k t #[v0,a,v2,v3,v4,v5]:=(((((h.aj 0 v0).aj 1 a).aj 2 v2).aj 3 v3).aj 4 v4).aj 5 v5
theorem bT(c:aa S w w')(a:S k∨w.heap.size<=k)(v0 b v2 v3 v4 v5:Value):aa S w ((((((w'.setCell ⟨k,0,none⟩ v0).setCell ⟨k,1,none⟩ b).setCell ⟨k,2,none⟩ v2).setCell ⟨k,3,none⟩ v3).setCell ⟨k,4,none⟩ v4).setCell ⟨k,5,none⟩ v5):=(((((c.setCell a v0).setCell a b).setCell a v2).setCell a v3).setCell a v4).setCell a v5
theorem Et{T:List Bx.Bd}(h:bY w k m T)(t:ByteArray)(r:Bx.Ky)(hp:dK (sl t,r)):Calls VI 40 #[.pointer (some ⟨k,0,none⟩),.string t,.agg #[.int .i64 r.code,.int .i64 r.aw]] w fun e w'=>∃v,e=.returned (.tuple #[v,.bool (Bx.find T (sl t) r).isSome])/\gK w' w.heap.size v (cN T (sl t) r)/\aa ab w w':=by
 obtain⟨c,a⟩:=r;obtain⟨mm,D,q⟩:=h.cI;have HM:=VH q;have i:=fun W(ht:aa ab w W)=>(q.still ht).look hp;have a6:Bx.jZ (sl t,⟨c,a⟩)=.agg #[.string t,.int .i64 c,.int .i64 a]:=rfl;simp only[a6]at i;have a8:=VH h.ptr;have Y:=(q.looked (sl t) ⟨c,a⟩).at_;have Q:=VH (Ji q.sorted q.bz (sl t) ⟨c,a⟩);dsimp only;generalize(Bx.find T (sl t) ⟨c,a⟩).isSome=fb at i⊢;generalize nx mm (sl t) ⟨c,a⟩=v0 at i Y;generalize cN T (sl t) ⟨c,a⟩=j at Y Q⊢;obtain⟨gv,Z,rfl,U,a1⟩:=Y;have I:=VH (VJ U a1);obtain⟨K,L,rfl⟩:=aE U.outer;obtain⟨M,a7⟩:∃n,n=Z.length:=⟨_,rfl⟩;rw[<-a7]at i I;have l:=VH (show∀x,b_ j x=.agg #[.string ⟨j.table.toArray⟩,.int .i64 j.key.code,.int .i64 j.key.aw,.bool j.rep,.string ⟨j.note.toArray⟩,x]from fun _=>rfl);rw[l.out]at i;generalize(⟨j.table.toArray⟩:ByteArray)=G at i l;generalize j.key.code=z at i l;generalize j.key.aw=C at i l;generalize j.rep=F at i l;generalize(⟨j.note.toArray⟩:ByteArray)=E at i l;have B1:=VH ((ad.new w 27 #[.int .i64 c,.int .i64 a]).alloc (.cells #[.string ⟨#[]⟩,.int .i64 0,.int .i64 0,.bool false,.string ⟨#[]⟩,.slice none 0 0] 36));have P:=VH (ad.new (w.alloc (.cells #[.int .i64 c,.int .i64 a] 27)) 36 #[.string ⟨#[]⟩,.int .i64 0,.int .i64 0,.bool false,.string ⟨#[]⟩,.slice none 0 0]);have p:=VH (((aa.refl ab w).alloc (.cells #[.int .i64 c,.int .i64 a] 27)).alloc (.cells #[.string ⟨#[]⟩,.int .i64 0,.int .i64 0,.bool false,.string ⟨#[]⟩,.slice none 0 0] 36));rw[show(w.alloc (.cells #[.int .i64 c,.int .i64 a] 27)).heap.size=w.heap.size+1 by simp[go_sem]]at P;clear h q a6 U a1 a7;have al:=VH i;clear i;go_enter func40,ntmps40;go_wp2_with fail;generalize(w.alloc (.cells #[.int .i64 c,.int .i64 a] 27)).alloc (.cells #[.string ⟨#[]⟩,.int .i64 0,.int .i64 0,.bool false,.string ⟨#[]⟩,.slice none 0 0] 36)=d at*;have u:=VH (fun W(ht:aa ab d W)=>show W.cell? ⟨k,0,none⟩=some (.map (some m))/\W.cell? ⟨w.heap.size,0,none⟩=some (.int .i64 c)/\W.cell? ⟨w.heap.size,1,none⟩=some (.int .i64 a)/\(Instr.lookup 64 (.map (some m)) (.agg #[.string t,.int .i64 c,.int .i64 a]) true).run VI W=.ok (.tuple #[.agg #[.string G,.int .i64 z,.int .i64 C,.bool F,.string E,.slice K M L],.bool fb]) W/\aa ab d W from⟨((p.out.same ht).blk a8.out id).cell 0,(ht.blk B1.out id).cell 0,(ht.blk B1.out id).cell 1,al.out W (p.out.same ht),ht⟩);have bc:w.heap.size+1<d.heap.size:=P.out.lt;go_cut[8,9](fun s8 s9 wx=>s8=.pointer (some ⟨d.heap.size,0,none⟩)/\s9=.bool fb/\ad wx d.heap.size 36 #[.string G,.int .i64 z,.int .i64 C,.bool F,.string E,.slice K M L]/\aa ab d wx);case first=>obtain⟨x0,x1,x2,x3,x4⟩:=u.out d.drew ((aa.refl _ d).drewN 1);go_region_held3(fun W=>W.cell? ⟨k,0,none⟩=some (.map (some m))/\W.cell? ⟨w.heap.size,0,none⟩=some (.int .i64 c)/\W.cell? ⟨w.heap.size,1,none⟩=some (.int .i64 a)/\(Instr.lookup 64 (.map (some m)) (.agg #[.string t,.int .i64 c,.int .i64 a]) true).run VI W=.ok (.tuple #[.agg #[.string G,.int .i64 z,.int .i64 C,.bool F,.string E,.slice K M L],.bool fb]) W/\aa ab d W)(first|(go_split_ands;exact u.out _ (aa.alloc (by assumption) _))|exact u.out _ (by assumption)|exact u.out _ (((aa.refl _ d).alloc _).drewN 1)|go_keep)(fail);all_goals go_wp2_with fail;go_meet;exact⟨rfl,rfl,(ad.new d 36 #[.string G,.int .i64 z,.int .i64 C,.bool F,.string E,.slice K M L]).drewN 1,((aa.refl ab d).alloc _).drewN 1⟩
 case rest=>
  obtain⟨rfl,rfl,ar,av⟩:=hcut;have H:=VH ar;have y:=VH av;clear ar av u al;generalize wc=w3 at H y⊢;obtain⟨x0,x1,x2,x3,x4,x5,N,xz⟩:=bM H.out;go_wp2_with fail;refine(qu (w:=w3) (Z:=Z) ((I.out.1.still (p.out.same y.out)).rd) (dj.bare (by rw[I.out.2];exact Q.out.1))).mono ?_;rintro e w4⟨bb,J,rfl,X,aA,ht⟩;obtain⟨O,S,rfl⟩:=aE X.outer;have B4:=VH (ht.blk H.out id);have R4:=VH (ht.blk (y.out.blk P.out id) id);have T4:=VH (y.out.same ht);have ai:=VH (VJ X aA);clear x0 x1 x2 x3 x4 x5 N xz ht X aA;obtain⟨x0,x1,x2,x3,x4,x5,N,xz⟩:=bM B4.out;obtain⟨y0,y1,y2,y3,y4,y5,o,yz⟩:=bM R4.out;have g0:=o 0;have g1:=o 1;have g2:=o 2;have g3:=o 3;have g4:=o 4;have g5:=o 5;have f5:=N 5;clear o N;go_wp2_with fail;have HF:=me ((R4.out.an (p:=⟨d.heap.size,5,none⟩) (by simp;omega) (.slice O J.length S))) (.string G) (.int .i64 z) (.int .i64 C) (.bool F) (.string E) (.slice O J.length S);refine bodyPost_ret (results_cell_tmp results40 _ _ _ ⟨w.heap.size+1,0,none⟩ _ rfl (gZ _ _ _ _ _ _ _ _ HF)) rfl ?_;have a':aa ab w w4:=p.out.same T4.out;refine⟨_,rfl,⟨.slice O J.length S,J,(l.out _).symm,?_,?_⟩,?_⟩
  ·refine(ai.out.1.aC (S:=fun b=>b=d.heap.size∨b=w.heap.size+1) ?_ fun b e=>?_).bU (Nat.le_trans p.out.size y.out.size);. exact bT ((aa.refl _ w4).setCell (p:=⟨d.heap.size,5,none⟩) (.inl (.inl rfl)) _) (.inl (.inr rfl)) _ _ _ _ _ _
   ·have h1:=H.out.lt;rcases e with e|e<;>omega
  ·rw[ai.out.2,I.out.2,Q.out.2]
  ·exact bT (a'.setCell (p:=⟨d.heap.size,5,none⟩) (.inr p.out.size) _) (.inr (Nat.le_succ _)) _ _ _ _ _ _
end
section
open Go.RowKit Go.Lib Go.Sort
open Lx(Bytes)
abbrev BG:=Bx.Bd×(Option Addr×Nat×Nat)
instance:Inhabited Bx.Bd:=⟨d_⟩
def kN(x:BG):Value:=.slice x.2.1 x.2.2.1 x.2.2.2
def dE(x:BG):List Value:=[ah x.1.table,.int .i64 x.1.key.code,.int .i64 x.1.key.aw,.bool x.1.rep,ah x.1.note,kN x]
def dF(l:List BG):List Value:=l.flatMap dE
def oH(x y:BG):Int:=eP [fg x.1.table y.1.table,dR x.1.key.code y.1.key.code,dR x.1.key.aw y.1.key.aw]
theorem GY(a b:Bytes):fg a b<0↔Op.bytesLess a b=true:=by
 unfold fg;split;. rename_i h;simp[h]
 ·rename_i h;split<;>simp[h]
theorem GZ(a b:Bytes):fg a b=0↔a=b:=by
 unfold fg;by_cases e:a=b;. subst e;simp[mM]
 ·rcases qx e with h|h;. simp[h,e]
  ·by_cases c:Op.bytesLess a b=true;. simp[c,e]
   ·simp[c,h,e]
theorem yR(a b:Int):dR a b<0↔a<b:=by unfold dR;split<;>(try split)<;>omega
theorem GW(a b:Int):dR a b=0↔a=b:=by unfold dR;split<;>(try split)<;>omega
theorem O'(a b c:Int):eP [a,b,c]=if a≠0 then a else if b≠0 then b else c:=by
 unfold eP;by_cases d:a=0
 ·by_cases e:b=0
  ·by_cases h:c=0;. subst d e h;rfl
   ·subst d e;simp[h]
  ·subst d;simp[e]
 ·simp[d]
theorem qA(x y:BG):ltOf oH x y=Bx.ahead x.1 y.1:=by
 unfold ltOf oH;rw[W3,decide_eq_true_eq,Bx.mK,O'];have j:=GY x.1.table y.1.table;have a2:=GZ x.1.table y.1.table;have k:=yR x.1.key.code y.1.key.code;have i:=GW x.1.key.code y.1.key.code;have c1:=yR x.1.key.aw y.1.key.aw;by_cases b:fg x.1.table y.1.table=0
 ·have a:=a2.1 b;rw[if_neg (fun h=>h b)];by_cases c:dR x.1.key.code y.1.key.code=0;. have d:=i.1 c;rw[if_neg (fun h=>h c),c1,a,d,mM];simp
  ·rw[if_pos c,k,a,mM];have d:¬x.1.key.code=y.1.key.code:=fun e=>c (i.2 e);simp[d]
 ·rw[if_pos b,j];have a:¬x.1.table=y.1.table:=fun e=>b (a2.2 e);simp[a]
theorem Gz:SWO (ltOf oH)where
 irrefl x:=by rw[qA];exact Bx.oy x.1
 trans x y z h1 h2:=by rw[qA]at*;exact Bx.oz h1 h2
 ntrans x y z h1 h2:=by
  rw[qA]at*
  cases h3:Bx.ahead x.1 z.1 with
  |false=>rfl
  |true=>
   exfalso;by_cases e:Bx.place x.1=Bx.place y.1
   ·have :Bx.ahead y.1 z.1=true:=by have a:x.1.table=y.1.table:=congrArg Prod.fst e;have b:x.1.key=y.1.key:=congrArg Prod.snd e;rw[Bx.mK]at h3⊢;rw[a,b]at h3;exact h3
    rw[h2]at this;cases this
   ·rcases Bx.tm e with h|h;. rw[h1]at h;cases h
    ·have :=Bx.oz h h3;rw[h2]at this;cases this
theorem Pc(x y:BG)(w:World):Calls VI 20 #[.agg (dE x).toArray,.agg (dE y).toArray] w fun e w'=>e=.returned (.int .i64 (oH x y))/\∃q a,w'=grow (w.drewN q) a:=Pe ⟨x.1.table.toArray⟩ ⟨y.1.table.toArray⟩ ⟨x.1.note.toArray⟩ ⟨y.1.note.toArray⟩ x.1.key.code x.1.key.aw y.1.key.code y.1.key.aw x.1.rep y.1.rep x.2.1 y.2.1 x.2.2.1 y.2.2.1 x.2.2.2 y.2.2.2 w
theorem lH:∀l:List BG,(dF l).length=l.length*6|[]=>rfl|x::l=>by have e:dF (x::l)=dE x++dF l:=rfl;rw[e,VK,lH l,List.length_cons];show 6+_=_;omega
theorem qv:∀(l:List BG)(i j:Nat)(h:i<l.length),j<6->(dF l)[i*6+j]?=(dE l[i])[j]?|x::l,0,j,_,a=>by have e:dF (x::l)=dE x++dF l:=rfl;rw[e,YV,Wv,List.getElem?_append_left (by exact a)];rfl|x::l,i+1,j,h,a=>by have :=qv l i j (by simpa using h) a;have e:dF (x::l)=dE x++dF l:=rfl;rw[e,List.getElem?_append_right (by show 6<=_;omega),show(i+1)*6+j-(dE x).length=i*6+j by show(i+1)*6+j-6=_;omega];exact this
theorem zY(l:List BG):flatK dE 6 l.toArray=(dF l).toArray:=by
 apply Array.ext;. simp[lH]
 ·intro t a h;have j:t<l.length*6:=by simpa using a
  have e:t/6<l.length:=by omega
  have d:=get_flatK dE 6 l.toArray t (by simpa using j);rw[getElem!_pos _ t a]at d;rw[d];have c:=qv l (t/6) (t%6) e (Nat.mod_lt _ (by decide));have i:l.toArray[t/6]! =l[t/6]:=by rw[getElem!_pos _ _ (by simpa using e)];simp
  rw[i];apply Option.some.inj;rw[<-Array.getElem?_eq_getElem h,Xk];rw[show t/6*6+t%6=t by omega]at c;rw[c];have b:t%6<(dE l[t/6]).length:=Nat.mod_lt _ (by decide);rw[VX b,List.getElem!_eq_getElem?_getD,VX b];rfl
theorem JG{l:List BG}(b:w.heap[g]?=some (.cells F t (0,0)))(h:F.toList.take (l.length*6)=dF l):HoldsK dE 6 w g 0 l.toArray:=by
 unfold HoldsK;rw[zY];intro j d;have c:j<l.length*6:=by rw[<-lH];simpa using d
 refine⟨?_,by simp[World.frozen?,b]⟩;have a:(F.toList.take (l.length*6))[j]?=(dF l)[j]?:=by rw[h]
 rw[List.getElem?_take_of_lt c]at a;simp only[World.cell?,b,Wv];simp only[Option.isSome_none,Bool.false_eq_true,if_false];rw[<-Array.getElem?_toList,a];have e:j<(dF l).length:=by rw[lH];exact c
 simp[e]
theorem ya:∀{a b:List Bx.Bd},a.Perm b->Bx.aH a->Bx.aH b->a=b
|[],b,hp,_,_=>(List.Perm.nil_eq hp)
|x::a,[],hp,_,_=>absurd hp.length_eq (by simp)
|x::a,y::b,hp,j,k=>by
  obtain⟨c,d⟩:=Wn.1 j;obtain⟨h,i⟩:=Wn.1 k
  have e:x=y:=by
   rcases We.1 (hp.mem_iff.1 List.mem_cons_self)with e|l;. exact e
   ·rcases We.1 (hp.mem_iff.2 (List.mem_cons_self (a:=y) (l:=b)))with e|m;. exact e.symm
    ·have n:=h x l;have o:=c y m;have :=Bx.oz n o;rw[Bx.oy]at this;cases this
  subst e;rw[ya (List.Perm.cons_inv hp) d i]
theorem Sd{B:Nat}{A:Option Addr}{c:List BG}{T:List Bx.Bd}(J:w.ownsRow B 36 6 (.slice A c.length k) c.length (dF c))(K:(c.map (·.1)).Perm T)(F:Bx.aH T)(hl:c.length<4611686018427387904):Calls VI 19 #[.slice A c.length k,.func (.func 20) #[] #[]] w fun e p=>e=.returned (.tuple #[])/\∃L:List BG,L.Perm c/\L.map (·.1)=T/\p.ownsRow B 36 6 (.slice A c.length k) L.length (dF L)/\w.grownBy p (Value.slice A c.length k).ownBlock:=by
 rcases J.2 with⟨e,S⟩|⟨g,ar,P,e,ai,t,h1,U,C,X⟩;. injection e with e1 e2 e3;subst e1 e3;obtain rfl:c=[]:=List.length_eq_zero_iff.1 S;refine(show Calls VI 19 _ _ _ from AnyF.slices_SortFunc_none Tryz.D6 none 0 _ w).mono ?_;rintro e p⟨rfl,rfl⟩;exact⟨rfl,[],.refl _,(List.Perm.nil_eq K),J,⟨rfl,rfl,rfl,VN _,fun _ _ _=>rfl⟩⟩
 ·injection e with e1 e2 e3;subst e1 e3;have Q:∀args w,(callFunc 20 args).run VI w=.ok (.enter 20 args) w:=enters_of func20 (by kernel_rfl) rfl;have Z:=JG t X;have G:=AnyQ.slices_SortFunc Tryz.D6 6 isAgg36 sizeOf36 dE (fun _=>rfl) (fun x v O=>by simp[dE,kN]at O;rcases O with rfl|rfl|rfl|rfl|rfl|rfl<;>rfl) oH Gz 20 #[] g 0 k c.toArray w Q (fun _ _ _ _ x y=>Pc x y _) Z (VV.1 t).1 (by simpa using hl);change Calls VI 19 _ _ _ at G;refine G.mono ?_;rintro e p⟨rfl,d,n,os,M,al,rfl⟩;have o:d.size=c.length:=by simpa using M.1
  have H:d.toList.Perm c:=by have m:=M.2.2;simp only[Array.toList_extract,WJ]at m;rw[List.extract_eq_take_drop,List.extract_eq_take_drop]at m;simp only[List.drop_zero,Nat.sub_zero]at m;rwa[V2 (by simp[o]),V2 (VN _)]at m
  have N:(d.toList.map (·.1)).Perm T:=(H.map _).trans K
  have hd:d.toList.map (·.1)=T:=by
   refine ya N ?_ F;show List.Pairwise _ _;have z:(d.toList.map (·.1)).Pairwise fun a b=>Bx.place a≠Bx.place b:=(N.pairwise_iff (fun{x y}q=>q.symm)).2 (Bx.D9 F);rw[List.pairwise_map]at z⊢;rw[List.pairwise_iff_getElem]at z⊢;intro i j u l I;have r:=al i j (VQ _) I (by rw[WJ,<-o];simpa using l);rw[qA]at r;simp at u l;rw[getElem!_pos d j l,getElem!_pos d i u]at r;have Y:=z i j (by simpa using u) (by simpa using l) I;rcases Bx.tm Y with h|h;. exact h
   ·have E:Bx.ahead d[j].1 d[i].1=true:=by simpa using h
    rw[r]at E;cases E
  obtain⟨L,rfl⟩:∃L:List BG,d=L.toArray:=⟨d.toList,by simp⟩;simp only[WJ]at o;refine⟨rfl,L,by simpa using H,by simpa using hd,?_,?_⟩;. unfold sortWorldK putRowK;rw[zY];refine⟨by rw[lH],.inr ⟨g,k,_,by rw[o],ai,As _ t,by omega,U,by simp[putCells,C],?_⟩⟩;rw[<-lH];exact En P _ (by rw[lH,C];omega)
  ·unfold sortWorldK putRowK;exact Al _
end
end Go.Proofs.YtmddhediccmhbaaGreatDoor
