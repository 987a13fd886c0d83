/- package bind: Bind, New. -/
import Derived.Test.YtmddhediccmhbaaGreatDoorA22
import Derived.Test.YtmddhediccmhbaaGreatDoorA16
set_option linter.all false
set_option maxHeartbeats 400000000
set_option maxRecDepth 100000
namespace Go.Proofs.YtmddhediccmhbaaGreatDoor
open Go.RowKit
open Go.Proofs.Tryz
open And renaming intro→VJ
open Bool renaming false_eq_true→WR
open Function renaming comp_def→W6
open Lib renaming hid→VH
open List renaming all_eq_true→Wj
open List renaming append_assoc→Wh
open List renaming cons_append→Wa
open List renaming dropLast_concat_getLast→XX
open List renaming getElem_mem→VZ
open List renaming length_append→VK
open List renaming length_cons→VM
open List renaming length_map→V0
open List renaming map_cons→V8
open List renaming mem_cons_of_mem→VT
open List renaming mem_map→V'
open List renaming mem_singleton→VU
open List renaming nil_append→WH
open List renaming not_mem_nil→V1
open List renaming sum_cons→Xx
open List renaming tail_cons→XG
open List renaming take_of_length_le→V2
open Nat renaming le_refl→VN
open Nat renaming zero_le→VQ
open Go.Proofs.Tryz renaming prog→VI
variable {w:World}{k n m:Nat}{v:Value}{e r c:Int}{s x y:ByteArray}{b:Bool}{O:Option Addr}
section
namespace Lx
variable{env:Env}
theorem DA{g:Nat}:∀(cs:List (List Bytes))(line:Nat)(out:List Ln),cs≠[]->(∀c∈cs,Small c)->out.length+cs.length<=1000->∃L:List Ln,pX g L cs/\read env line [] out g (dT cs)=.ok (out++L)
|[],_,_,h,_,_=>absurd rfl h
|[c],line,out,_,hs,o=>by
  obtain⟨b,k,m⟩:=hs c (by simp);obtain⟨q,l,i,p,j⟩:=py (env:=env) (rest:=[]) rfl (out:=out) (g:=g) (line:=line) b k m (by simp at o;omega);have n:l≠[]:=fun e=>b (by rw[<-i,e];rfl);refine⟨[(l,g)],⟨by simp[i],fun x a=>?_⟩,?_⟩;. rw[VU.1 a];exact⟨rfl,p⟩
  ·rw[List.append_nil]at j;rw[dT,j,cP,fin,if_neg n]
|c::d::r,line,out,_,hs,o=>by
  obtain⟨b,k,m⟩:=hs c (by simp);simp only[VM]at o;obtain⟨q,l,i,p,j⟩:=py (env:=env) (rest:=32::59::32::dT (d::r)) rfl (out:=out) (g:=g) (line:=line) b k m (by omega);have n:l≠[]:=fun e=>b (by rw[<-i,e];rfl);obtain⟨L,m1,t⟩:=DA (g:=g) (d::r) q (out++[(l,g)]) (by simp) (fun x a=>hs x (VT _ a)) (by simp;omega);refine⟨(l,g)::L,⟨by simp[i,m1.texts],fun x a=>?_⟩,?_⟩
  ·rcases List.mem_cons.1 a with rfl|a;. exact⟨rfl,p⟩
   ·exact m1.each x a
  ·have e:dT (c::d::r)=cat c++32::59::32::dT (d::r):=rfl;rw[e,j,b8,if_pos (.inl rfl),b8,if_neg (by decide),if_neg (fun h=>absurd h.1 (by decide)),if_neg (by decide),if_pos rfl,fin,if_neg n,b8,if_pos (.inl rfl),t];simp
theorem DD:∀(a:List (List (List Bytes)))(line g:Nat)(out:List Ln),a≠[]->(∀c∈a,c≠[]/\∀x∈c,Small x)->out.length+(a.map (·.length)).sum<=1000->∃L,gN g L a/\read env line [] out g (cf a).dropLast=.ok (out++L)
|[],_,_,_,h,_,_=>absurd rfl h
|[c],line,g,out,_,hs,j=>by
  obtain⟨L,b,i⟩:=DA (env:=env) (g:=g) c line out (hs c (by simp)).1 (hs c (by simp)).2 (by simpa using j);refine⟨L++[],.cons b (hs c (by simp)).1 (.nil _),?_⟩;have e:(cf [c]).dropLast=dT c:=by simp[cf]
  rw[e,i,List.append_nil]
|c::d::a,line,g,out,_,hs,j=>by
  simp only[V8,Xx]at j;obtain⟨o,L,b,i⟩:=vU (env:=env) (rest:=(cf (d::a)).dropLast) (g:=g) c line out (hs c (by simp)).1 (hs c (by simp)).2 (by omega);have p:L.length=c.length:=by rw[<-b.texts,V0]
  obtain⟨M,l,m⟩:=DD (d::a) o (g+1) (out++L) (by simp) (fun x n=>hs x (VT _ n)) (by rw[VK];simp only[V8,Xx];omega);refine⟨L++M,.cons b (hs c (by simp)).1 l,?_⟩;have k:cf (d::a)≠[]:=by simp[cf]
  have e:(cf (c::d::a)).dropLast=dT c++10::(cf (d::a)).dropLast:=by
   have :cf (c::d::a)=dT c++10::cf (d::a):=by simp[cf]
   rw[this,List.dropLast_append_of_ne_nil (by simp),List.dropLast_cons_of_ne_nil k]
  rw[e,i,m,Wh]
end Lx
namespace Px
open Lx(Bytes)
structure dm(G:List (List ag)):Prop where
 right:∀cs∈G,cs≠[]/\∀c∈cs,right c=true
 small:∀cs∈G,∀c∈cs,Lx.Small (bp c)
 many:(G.map (·.length)).sum<=1000
 size:(print G).length<=8192
theorem PC{X:Bytes->Bytes×Int}{G:List (List ag)}(a:dm G)(p:G≠[]):∃L b,Lx.split [] (print G).dropLast=.ok L/\Lx.gN 1 L (G.map (·.map bp))/\parse X [] (print G).dropLast=.ok b/\aQ b=aQ G:=by
 have o:=a.size;rw[rV a.right]at o⊢;obtain⟨L,h,j⟩:=Lx.DD (env:=[]) (G.map (·.map bp)) 1 1 [] (by simpa using p) (fun c m=>by obtain⟨d,e,rfl⟩:=V'.1 m;refine⟨by simpa using(a.right d e).1,fun x q=>?_⟩;obtain⟨c,n,rfl⟩:=V'.1 q;exact a.small d e c n) (by rw[List.map_map];simpa[W6]using a.many);obtain⟨b,k,l⟩:=vw (X:=X) G 1 0 L [] h (by decide) fun d e=>(a.right d e).2;have i:Lx.split [] (Lx.cf (G.map (·.map bp))).dropLast=.ok L:=by rw[Lx.split,if_neg (by rw[List.length_dropLast];omega),j,WH]
 exact⟨L,b,i,h,by rw[parse,i];exact l,k⟩
end Px
open Lx(Bytes)
theorem I6{s:Bytes}{L:List Lx.Ln}(h:Lx.split [] s=.ok L)(e:s.length<=65536):Fit L:=by have a:=Lx.wJ h;have i:=Lx.Ed h;refine⟨a.many,fun l hl=>⟨Lx.Sq h l hl,(a.each l hl).few,fun x b=>?_⟩⟩;have c:Lx.gJ l.1<=Lx.jq L:=Px.jz (fun l:Lx.Ln=>Lx.gJ l.1) hl;have d:max x.text.length 1+1<=Lx.gJ l.1:=Px.jz (fun x:Lx.W=>max x.text.length 1+1) b;unfold maxLen;omega
theorem Og{G:List (List Px.ag)}(b:Px.dm G):∃L a,Lx.split [] (Px.print G).dropLast=.ok L/\Fit L/\jI (L.map Px.aP) []/\Px.parse fN [] (Px.print G).dropLast=.ok a/\Px.aQ a=Px.aQ G:=by
 by_cases o:G=[]
 ·subst o;have m:Lx.split [] []=.ok []:=by rw[Lx.split,if_neg (by decide),Lx.cP];rfl
  exact⟨[],[],m,⟨by simp,fun _ h=>(V1 h).elim⟩,⟨rfl,fun _ h=>(V1 h).elim⟩,by show Px.parse fN [] []=_;rw[Px.parse,m];rfl,rfl⟩
 obtain⟨L,a,r,t,u,w⟩:=Px.PC (X:=fN) b o;obtain⟨n,z⟩:=Px.Jy t rfl;refine⟨L,a,r,⟨by rw[z];exact b.many,fun l k=>?_⟩,⟨rfl,fun l k=>?_⟩,u,w⟩;. obtain⟨d,j,c,i,e,-⟩:=n l k;exact qX e (b.small d j c i)
 ·obtain⟨q,E,rfl⟩:=V'.1 k;obtain⟨d,j,c,i,e,C⟩:=n q E;refine(Px.xh ((b.right d j).2 c i) (l:=(Px.aP q).1) (by rw[Px.nD];exact e) fun x p=>?_).1;simp only[Px.aP]at p;obtain⟨y,F,rfl⟩:=V'.1 p;exact C y F
namespace Bx
def kR(b:Bd):List Px.Fl:=(if b.note≠[]then[(78,b.note)]else[])++(84,b.table)::(if b.rep=true then[(114,[])]else[])
def gx(b:Bd):List Bytes:=if Px.print b.list≠[]then[(Px.print b.list).dropLast]else[]
def o5(b:Bd):Px.ag:=⟨jf,kR b,bE b.key::gx b,0⟩
def jg:Px.Row:=⟨jf,[98,105,110,100],[110,114,78,58,84,58],1,-1⟩
theorem Gh:Px.found jf=some jg/\Px.aJ jg 114=some false/\Px.aJ jg 78=some true/\Px.aJ jg 84=some true:=by decide+kernel
theorem Ou:([named 9,named 13,named 32,named 127]++bH).all (fun s=>decide (s.head?≠some 45))=true:=by decide+kernel
theorem Oo(h:named e≠[]):(named e).length<=1∨(named e).head?≠some 45:=by
 have c:∀s∈[named 9,named 13,named 32,named 127]++bH,s.head?≠some 45:=fun s d=>by simpa using Wj.1 Ou s d
 by_cases p:e=9;. subst p;exact .inr (c _ (by simp))
 by_cases m:e=13;. subst m;exact .inr (c _ (by simp))
 by_cases o:e=32;. subst o;exact .inr (c _ (by simp))
 by_cases l:e=127;. subst l;exact .inr (c _ (by simp))
 have a:named e=if 1114112<=e/\e<1114143 then bH[(e-1114112).toNat]?.getD []else if 32<e/\e<=1114111/\Lib.validRune e/\0<width e then(Utf8.encode e).data.toList else[]:=by rw[named,if_neg p,if_neg m,if_neg o,if_neg l]
 by_cases d:1114112<=e/\e<1114143;. rw[a,if_pos d];have :=Wj.1 Ea (e-1114112).toNat (by rw[List.mem_range];omega);simp only[Bool.and_eq_true,decide_eq_true_eq]at this;exact .inr (c _ (List.mem_append_right _ this.2))
 rw[if_neg d]at a;by_cases i:32<e/\e<=1114111/\Lib.validRune e/\0<width e
 ·rw[if_pos i]at a;obtain⟨n,rfl⟩:∃n:Nat,e=n:=⟨e.toNat,by omega⟩;have q:Utf8.valid (n:Int)=true:=by have :=i.2.2.1;simp[Lib.validRune,Utf8.valid]at this⊢;omega
  rw[a];rcases(zc q).2.1 with j|⟨b,r,j,k,-⟩;. exact .inl (by omega)
  ·rw[j];refine .inr fun h=>?_;simp at h;rw[h]at k;exact absurd k (by decide)
 ·rw[if_neg i]at a;exact absurd a h
theorem Kn{k:Ky}(h:right k=true)(l:Int):Px.cE ⟨bE k,l,false⟩=false:=by
 have d:named k.code≠[]:=fun e=>by unfold right at h;simp[e]at h
 have b:=Oo d;unfold bE;rw[if_pos h];unfold Px.cE;generalize named k.code=s at*;have q:∀(c:Prop)[Decidable c](a:UInt8)(t:Bytes),(if c then[a,45]else[])++t=if c then a::45::t else t:=fun c _ a t=>by split<;>rfl
 rw[Wh,Wh,q,q,q];split;. simp
 split;. simp
 split;. simp
 ·rcases b with b|b;. simp;intro i;omega
  ·simp;exact fun _=>b
theorem BZ{b:Bd}(y:right b.key=true):Px.words (Px.eE (bZ b))=.ok (o5 b)/\Px.isDir (Px.eE (bZ b))=false:=by
 obtain⟨p,q,r,u⟩:=Gh;have z:=Kn y;have i:Px.cE ⟨[45,114],0,false⟩=true:=rfl;have j:Px.cE ⟨[45,78],0,false⟩=true:=rfl;have a:Px.cE ⟨[45,84],0,false⟩=true:=rfl;have hw:bZ b=jf::((if b.rep=true then[[45,114]]else[])++(if b.note≠[]then[[45,78],b.note]else[])++([45,84]::b.table::bE b.key::gx b)):=by unfold bZ gx jf;simp
 have G:(gx b).length<=1:=by unfold gx;split<;>simp
 rw[hw];refine⟨?_,rfl⟩;unfold o5 kR;generalize gx b=R at*;generalize bE b.key=d at*;have F:∀t,Px.words (Px.eE (jf::t))=match Px.flags jg (Px.eE t)with|none=>.error 9|some (rest,m)=>if(rest.length:Int)<1∨(0<=(-1:Int)/\(-1:Int)<rest.length)then .error 9 else .ok ⟨jf,m,rest.map (·.text),0⟩:=fun t=>by simp only[Px.eE,V8,Px.words,WR,if_false,p];rfl
 rw[F];have C:(Px.eE R).map (·.text)=R:=by simp[Px.eE,W6]
 have w:Px.flags jg (Px.eE ((if b.rep=true then[[45,114]]else[])++(if b.note≠[]then[[45,78],b.note]else[])++([45,84]::b.table::d::R)))=some (⟨d,0,false⟩::Px.eE R,(if b.note≠[]then[(78,b.note)]else[])++(84,b.table)::(if b.rep=true then[(114,[])]else[])):=by
  have k:∀(l:List Px.PW)(m:List Px.Fl),Px.bD jg [114] l m=some (l,Px.bo (114,[]) m):=fun l m=>Px.BO q;have o:∀(x:Px.PW)(l:List Px.PW)(m:List Px.Fl),Px.bD jg [78] (x::l) m=some (l,Px.bo (78,x.text) m):=fun x l m=>Px.uM r;have e:∀(x:Px.PW)(l:List Px.PW)(m:List Px.Fl),Px.bD jg [84] (x::l) m=some (l,Px.bo (84,x.text) m):=fun x l m=>Px.uM u;have h:∀(n:Nat)(m:List Px.Fl),Px.aM jg (n+1) (⟨d,0,false⟩::Px.eE R) m=some (⟨d,0,false⟩::Px.eE R,m):=fun n m=>by simp[Px.aM,z]
  have mk:∀(s:Bytes)(t:List Bytes),Px.eE (s::t)=⟨s,0,false⟩::Px.eE t:=fun _ _=>rfl;by_cases c:b.note=[];. cases E:b.rep with|true=>simp only[c,ne_eq,not_true_eq_false,if_true,if_false,Wa,WH,mk,Px.flags,VM];rw[Px.aM,if_pos i,if_neg (by decide),XG,k];dsimp only;rw[Px.aM,if_pos a,if_neg (by decide),XG,e];dsimp only;rw[h];rfl|false=>simp only[c,ne_eq,not_true_eq_false,if_false,WH,mk,Px.flags,VM,WR];rw[Px.aM,if_pos a,if_neg (by decide),XG,e];dsimp only;rw[h];rfl
  ·cases E:b.rep with|true=>simp only[c,ne_eq,not_false_eq_true,if_true,Wa,WH,mk,Px.flags,VM];rw[Px.aM,if_pos i,if_neg (by decide),XG,k];dsimp only;rw[Px.aM,if_pos j,if_neg (by decide),XG,o];dsimp only;rw[Px.aM,if_pos a,if_neg (by decide),XG,e];dsimp only;rw[h];rfl|false=>simp only[c,ne_eq,not_false_eq_true,if_true,if_false,Wa,WH,mk,Px.flags,VM,WR];rw[Px.aM,if_pos j,if_neg (by decide),XG,o];dsimp only;rw[Px.aM,if_pos a,if_neg (by decide),XG,e];dsimp only;rw[h];rfl
 rw[w];simp only;rw[if_neg (by simp only[VM];omega),V8,C]
structure ly(b:Bd):Prop where
 bz:iC b
 fit:Px.dm b.list
theorem Bc(k:Ky):(bE k).length<=30:=by
 unfold bE;have :=u5 k.code;split
 ·simp only[VK];have a:(if k.aw/4%2=1 then([67,45]:Bytes)else[]).length<=2:=by split<;>simp
  have a2:(if k.aw/2%2=1 then([77,45]:Bytes)else[]).length<=2:=by split<;>simp
  have a3:(if k.aw%2=1 then([83,45]:Bytes)else[]).length<=2:=by split<;>simp
  omega
 ·simp
theorem Nv{b:Bd}(h:ly b):Lx.Small (bZ b):=by
 have c:=kU h.bz.name;have d:=h.bz.note;have e:=h.fit.size;have i:=Bc b.key;refine⟨by simp[bZ],fun x a=>?_,?_⟩
 ·unfold bZ at a;simp only[List.mem_append,List.mem_cons,V1,or_false]at a;rcases a with(((rfl|a)|a)|a)|a;. decide
  ·split at a;. rw[VU.1 a];decide
   ·exact(V1 a).elim
  ·split at a
   ·simp only[List.mem_cons,V1,or_false]at a;rcases a with rfl|rfl;. decide
    ·omega
   ·exact(V1 a).elim
  ·rcases a with rfl|rfl|rfl;. decide
   all_goals omega
  ·split at a;. rw[VU.1 a,List.length_dropLast];omega
   ·exact(V1 a).elim
 ·unfold bZ;simp only[VK];have c1:(if b.rep=true then([[45,114]]:List Bytes)else[]).length<=1:=by split<;>simp
  have c2:(if b.note≠[]then([[45,78],b.note]:List Bytes)else[]).length<=2:=by split<;>simp
  have c3:(if Px.print b.list≠[]then([(Px.print b.list).dropLast]:List Bytes)else[]).length<=1:=by split<;>simp
  simp only[VM,List.length_nil];omega
theorem Qe{T:List Bd}(h:∀b∈T,right b.key=true):print T=Lx.cf (T.map fun b=>[bZ b]):=by unfold print Lx.cf;rw[List.flatMap_map];refine congrArg List.flatten (List.map_congr_left fun b a=>?_);rw[if_pos (h b a)];rfl
end Bx
theorem Pj{T:List Bx.Bd}(k:∀b∈T,Bx.ly b)(r:T.length<=1000)(i:(Bx.print T).length<=65536):∃L j,Lx.split [] (Bx.print T)=.ok L/\Fit L/\jI (L.map Px.aP) []/\Px.parse fN [] (Bx.print T)=.ok j/\Px.aQ j=T.map fun b=>[Bx.o5 b]:=by
 rw[Bx.Qe fun b d=>(k b d).bz.key]at i⊢;have q:∀t∈T.map Bx.bZ,Px.iN t=true:=fun t h=>by obtain⟨b,d,rfl⟩:=V'.1 h;obtain⟨C,E⟩:=Bx.BZ (k b d).bz.key;simp[Px.iN,C,E]
 have u:∀t∈T.map Bx.bZ,Lx.Small t:=fun t h=>by obtain⟨b,d,rfl⟩:=V'.1 h;exact Bx.Nv (k b d)
 have z:(T.map fun b=>[Bx.bZ b])=(T.map Bx.bZ).map fun t=>[t]:=by simp[W6]
 rw[z]at i⊢
 obtain⟨L,n,o⟩:=Lx.wK (env:=[]) (gs:=(T.map Bx.bZ).map fun t=>[t]) (fun c I=>by obtain⟨t,h,rfl⟩:=V'.1 I;exact⟨by simp,fun x m=>by rw[VU.1 m];exact u t h⟩) (by
  have :∀l:List (List Bytes),((l.map fun t=>[t]).map (·.length)).sum=l.length:=fun l=>by induction l with|nil=>rfl|cons a l M=>simp at M⊢;omega
  rw[this,V0];exact r) i;obtain⟨j,F,G⟩:=Px.vx (X:=fN) (T.map Bx.bZ) 1 0 L [] n (by decide) q;obtain⟨H,p⟩:=Px.tU (T.map Bx.bZ) 1 L n;refine⟨L,j,o,⟨by rw[H,V0];exact r,fun l i=>?_⟩,⟨rfl,fun l i=>?_⟩,?_,?_⟩;. obtain⟨t,h,e,-⟩:=p l i;exact qX e (u t h)
 ·obtain⟨w,J,rfl⟩:=V'.1 i;obtain⟨t,h,e,d⟩:=p w J;exact(Px.rk (l:=(Px.aP w).1) (t:=t) (by rw[Px.nD];exact e) (fun x m=>by simp only[Px.aP]at m;obtain⟨y,K,rfl⟩:=V'.1 m;exact d y K) (q t h)).1
 ·rw[Px.parse,o];exact G
 ·rw[F,List.map_map];refine List.map_congr_left fun b d=>?_;show[Px.bq (Bx.bZ b)]=_;rw[Px.bq,(Bx.BZ (k b d).bz.key).1]
end
section
open Lx(Bytes)
namespace Px
def lw(a:List cL):Nat:=(a.map fun l=>wc l.1).sum
def pc(G:List (List ag)):Nat:=(G.map fun g=>(g.map fun c=>(one c).length+3).sum).sum
theorem uR(l:cL)(a:List cL):lw (l::a)=wc l.1+lw a:=by simp[lw]
theorem PH(G:List (List ag))(c:ag):pc (bG G c true)=pc G+((one c).length+3)/\(G≠[]->pc (bG G c false)=pc G+((one c).length+3)):=by refine⟨by simp[bG,pc],fun h=>?_⟩;obtain⟨a,g,rfl⟩:∃a g,G=a++[g]:=⟨_,_,(XX h).symm⟩;simp[bG,pc];omega
theorem OF(G:List (List ag))(c:ag):((bG G c true).map (·.length)).sum=(G.map (·.length)).sum+1/\(G≠[]->((bG G c false).map (·.length)).sum=(G.map (·.length)).sum+1):=by refine⟨by simp[bG],fun h=>?_⟩;obtain⟨a,g,rfl⟩:∃a g,G=a++[g]:=⟨_,_,(XX h).symm⟩;simp[bG];omega
theorem NY{G:List (List ag)}{c:ag}{P:ag->Prop}(b:∀cs∈G,cs≠[]/\∀x∈cs,P x)(e:P c):(∀cs∈bG G c true,cs≠[]/\∀x∈cs,P x)/\(G≠[]->∀cs∈bG G c false,cs≠[]/\∀x∈cs,P x):=by
 refine⟨fun cs h=>?_,fun h cs i=>?_⟩
 ·simp only[bG,if_true,List.mem_append,VU]at h;rcases h with h|rfl;. exact b cs h
  ·exact⟨by simp,fun x a=>by rw[VU.1 a];exact e⟩
 ·obtain⟨d,g,rfl⟩:∃d g,G=d++[g]:=⟨_,_,(XX h).symm⟩;simp[bG]at i;rcases i with h|rfl;. exact b cs (List.mem_append_left _ h)
  ·refine⟨by simp,fun x a=>?_⟩;rcases List.mem_append.1 a with a|a;. exact(b g (by simp)).2 x a
   ·rw[VU.1 a];exact e
theorem A_:∀cs:List ag,(aW ((cs.map one).filter (·≠[]))).length<=(cs.map fun c=>(one c).length+3).sum
|[]=>VQ _
|c::cs=>by
  have b:=A_ cs;rw[V8,V8,Xx,List.filter_cons];split;. generalize(cs.map one).filter (·≠[])=L at b⊢;cases L with|nil=>show(one c).length<=_;omega|cons a L=>show(one c++32::59::32::aW (a::L)).length<=_;rw[VK];simp only[VM];omega
  ·omega
theorem Dn:∀G:List (List ag),(∀cs∈G,cs≠[])->(print G).length<=pc G+G.length
|[],_=>by simp[print]
|g::G,h=>by
  have j:=Dn G fun cs b=>h cs (VT _ b);have d:=A_ g;have e:print (g::G)=cG g++print G:=by simp[print]
  have a:pc (g::G)=(g.map fun c=>(one c).length+3).sum+pc G:=by simp[pc]
  have i:(cG g).length<=(g.map fun c=>(one c).length+3).sum+1:=by
   unfold cG;split;. exact VQ _
   ·rw[VK,List.length_singleton];omega
  rw[e,a,VK,VM];omega
structure iF(ls:List cL)(o:List au)(G:List (List ag)):Prop where
 few:o.length<=16
 each:∀cs∈G,cs≠[]/\∀c∈cs,right c=true/\Lx.Small (bp c)
 cost:pc G+10*lw ls<=5010
 many:(G.map (·.length)).sum+ls.length<=1000
theorem iF.next{l:cL}{a:List cL}{o:List au}{G:List (List ag)}(h:iF (l::a) o G){b:List au}(c:b.length<=16):iF a b G:=⟨c,h.each,by have :=h.cost;rw[uR]at this;omega,by have :=h.many;rw[VM]at this;omega⟩
theorem iF.put{l:cL}{b:List cL}{o:List au}{G:List (List ag)}(h:iF (l::b) o G){c:ag}(d:words l.1=.ok c):iF b o (bG G c true)/\(G≠[]->iF b o (bG G c false)):=by have i:=h.cost;rw[uR]at i;have a:=Ua d (by omega);have p:=a.one;have j:=h.many;rw[VM]at j;obtain⟨r,n⟩:=PH G c;obtain⟨q,m⟩:=OF G c;obtain⟨m1,k⟩:=NY h.each (P:=fun c=>right c=true/\Lx.Small (bp c)) ⟨a.right,a.small⟩;exact⟨⟨h.few,m1,by omega,by omega⟩,fun e=>⟨h.few,k e,by have :=n e;omega,by have :=m e;omega⟩⟩
theorem vI:∀G:List (List ag),(∀cs∈G,cs≠[])->G.length<=(G.map (·.length)).sum|[],_=>VQ _|g::G,h=>by have b:=vI G fun cs a=>h cs (VT _ a);have :0<g.length:=List.length_pos_iff.2 (h g List.mem_cons_self);rw[V8,Xx,VM];omega
theorem iF.fit{G:List (List ag)}(h:iF [] [] G):dm G:=by have e:=Dn G fun cs a=>(h.each cs a).1;have i:=h.cost;have d:=h.many;have j:=vI G fun cs a=>(h.each cs a).1;simp only[List.length_nil]at d;exact⟨fun cs a=>⟨(h.each cs a).1,fun c b=>((h.each cs a).2 c b).1⟩,fun cs a c b=>((h.each cs a).2 c b).2,by omega,by omega⟩
end Px
theorem PF(U:b9 w)(y:∀d,dD d){B:Nat}(q:FE w B)(s:ByteArray)(T:s.size<=500):Calls VI 9 #[.string s,.agg #[.slice none 0 0,.slice none 0 0],.slice none 0 0] w fun e i=>∃(t:Option Addr)(c:Nat)(Z:List (Value×List CQ))(k l:Int),e=.returned (.tuple #[.agg #[.slice t Z.length c],.int .i64 k,.int .i64 l])/\aD i w.heap.size (.slice t Z.length c) Z/\Px.dm (aq Z)/\aa ab w i:=by
 refine(C7 (sv:=.slice none 0 0) (lv:=.slice none 0 0) U (vd w _) (fun a o _ G=>Px.iF a o G) (fun R=>∀G,R=.ok G->Px.dm G) ⟨?_,?_,?_,?_,?_,?_,?_⟩ ?_ ?_).mono ?_;. exact fun a o g G h=>Nat.le_trans h.few (by decide)
 ·exact fun l a o g G h _ _=>h.next h.few
 ·intro l a o g G c h _ _ hw;exact⟨fun _=>(h.put hw).1,fun _ N=>(h.put hw).2 N⟩
 ·intro l a o g G m _ _ _ _ p e;cases e
 ·intro l a o g G h F w1 K ov dv n z E P;have M:l.1.length<=256:=by have :=h.cost;rw[Px.uR]at this;have :=Px.pT l.1;omega
  obtain⟨w0,Q,Y,J⟩:=P;refine(Hw y (q.aC n fun b hb=>by have :=q.iy.le;omega) (Nat.le_trans q.iy.le z) E h.few Q Y J F M).mono ?_;rintro e i(⟨o',O,S⟩|⟨m,H,X⟩);. exact .inl ⟨o',h.next O,S⟩
  ·exact .inr ⟨m,fun _ e=>(by cases e),H,X⟩
 ·intro g G h p e;injection e with e;subst e;exact h.fit
 ·intro o c g G _ p e;cases e
 ·intro x _ p e;cases e
 ·intro L r;have ar:=Lx.Ed r;have j:=Lx.wJ r;have al:(sl s).length<=500:=by rw[aL];exact T
  have ai:Px.lw (L.map Px.aP)=Lx.jq L:=by simp[Px.lw,Lx.jq,Px.aP,W6,Px.TR]
  have I:Fit L:=I6 r (by omega);refine⟨I,⟨by simp,fun _ h=>(V1 h).elim,?_,?_⟩⟩;. have :Px.pc []=0:=rfl;omega
  ·rw[V0];have :=j.many;simpa using this
 ·rintro e i⟨R,C,n,u⟩;cases R with|error x=>subst u;exact⟨none,0,[],_,_,rfl,(aD.of (bB.nil i _)),Px.iF.fit ⟨by simp,fun _ h=>(V1 h).elim,by decide,by decide⟩,n⟩|ok G=>obtain⟨gv,Z,rfl,j,rfl⟩:=u;obtain⟨A,c,rfl⟩:=aE j.outer;exact⟨A,c,Z,0,0,rfl,aD.of j,C _ rfl,n⟩
structure lF where
 kind:Int
 tb:ByteArray
 c:Int
 m:Int
 r:Bool
 nt:ByteArray
 tx:ByteArray
def rN(q:lF):Array Value:=#[.int .i64 q.kind,.string q.tb,.int .i64 q.c,.int .i64 q.m,.bool q.r,.string q.nt,.string q.tx]
theorem rO(h:ad w k 29 #[.int .i64 e,.string s,.int .i64 r,.int .i64 c,.bool b,.string x,.string y]):w.cell? ⟨k,0,none⟩=some (.int .i64 e)/\w.cell? ⟨k,1,none⟩=some (.string s)/\w.cell? ⟨k,2,none⟩=some (.int .i64 r)/\w.cell? ⟨k,3,none⟩=some (.int .i64 c)/\w.cell? ⟨k,4,none⟩=some (.bool b)/\w.cell? ⟨k,5,none⟩=some (.string x)/\w.cell? ⟨k,6,none⟩=some (.string y)/\w.frozen? ⟨k,6,none⟩=false/\k<w.heap.size:=⟨h.cell 0,h.cell 1,h.cell 2,h.cell 3,h.cell 4,h.cell 5,h.cell 6,h.frozen 6,h.lt⟩
theorem Gk(X:b9 w)(N:∀d,dD d){B:Nat}(S:FE w B)(k c m:Int)(r:Bool)(j i n:ByteArray)(U:n.size<=500):Calls VI 7 #[.agg #[.int .i64 k,.string j,.int .i64 c,.int .i64 m,.bool r,.string i,.string n]] w fun e w'=>∃(a:Option Addr)(h:Nat)(Z:List (Value×List CQ)),e=.returned (.agg #[.string j,.int .i64 c,.int .i64 m,.bool r,.string i,.slice a Z.length h])/\aD w' w.heap.size (.slice a Z.length h) Z/\Px.dm (aq Z)/\aa ab w w':=by
 have a1:=VH (fun W(ht:aa ab w W)=>PF (X.still ht) N (S.still ht) n U);have a8:(n.size:Int)<5000:=by omega
 have K:=VH ((ad.new w 29 #[.int .i64 k,.string j,.int .i64 c,.int .i64 m,.bool r,.string i,.string n]).alloc (.cells #[.string ⟨#[]⟩,.int .i64 0,.int .i64 0,.bool false,.string ⟨#[]⟩,.slice none 0 0] 36));have F:=VH (ad.new (w.alloc (.cells #[.int .i64 k,.string j,.int .i64 c,.int .i64 m,.bool r,.string i,.string n] 29)) 36 #[.string ⟨#[]⟩,.int .i64 0,.int .i64 0,.bool false,.string ⟨#[]⟩,.slice none 0 0]);have T2:=VH (((aa.refl ab w).alloc (.cells #[.int .i64 k,.string j,.int .i64 c,.int .i64 m,.bool r,.string i,.string n] 29)).alloc (.cells #[.string ⟨#[]⟩,.int .i64 0,.int .i64 0,.bool false,.string ⟨#[]⟩,.slice none 0 0] 36));rw[show(w.alloc (.cells #[.int .i64 k,.string j,.int .i64 c,.int .i64 m,.bool r,.string i,.string n] 29)).heap.size=w.heap.size+1 by simp[go_sem]]at F;clear X S N U;go_enter func7,ntmps7;go_upto_region 1 with fail;generalize(w.alloc (.cells #[.int .i64 k,.string j,.int .i64 c,.int .i64 m,.bool r,.string i,.string n] 29)).alloc (.cells #[.string ⟨#[]⟩,.int .i64 0,.int .i64 0,.bool false,.string ⟨#[]⟩,.slice none 0 0] 36)=H at*;obtain⟨t,u,x,y,z,C,J,-,E⟩:=rO K.out;go_upto_region 2 with fail;have L:=VH (ad.new H 36 #[.string j,.int .i64 c,.int .i64 m,.bool r,.string i,.slice none 0 0]);have Q:=VH (T2.out.alloc (.cells #[.string j,.int .i64 c,.int .i64 m,.bool r,.string i,.slice none 0 0] 36));have ai:=VH (K.out.alloc (.cells #[.string j,.int .i64 c,.int .i64 m,.bool r,.string i,.slice none 0 0] 36));have al:=VH (F.out.alloc (.cells #[.string j,.int .i64 c,.int .i64 m,.bool r,.string i,.slice none 0 0] 36));have a6:=F.out.lt;clear t u x y z C J E;generalize H.alloc (.cells #[.string j,.int .i64 c,.int .i64 m,.bool r,.string i,.slice none 0 0] 36)=w3 at*;generalize H.heap.size=p at*;obtain⟨t,u,x,y,z,C,J,-,E⟩:=rO ai.out;go_wp2_with fail;refine(a1.out _ Q.out).mono ?_;rintro e q⟨a,h,Z,e1,e2,rfl,G,T,ht⟩;have HG:=VH (VJ G T);have M:=VH ((ht.blk L.out id).alloc (.cells #[.slice a Z.length h] 34));have ar:=VH ((ht.blk al.out id).alloc (.cells #[.slice a Z.length h] 34));have O:=VH (ad.new q 34 #[.slice a Z.length h]);have T5:=VH ((Q.out.same ht).alloc (.cells #[.slice a Z.length h] 34));have av:=VH (G.still ((aa.refl ab q).alloc (.cells #[.slice a Z.length h] 34)));have a7:p<w3.heap.size:=L.out.lt;have o:=VH (VJ a6 a7);clear t u x y z C J E G T ht;go_upto_region 4 with fail;generalize q.alloc (.cells #[.slice a Z.length h] 34)=I at*;generalize q.heap.size=lb at*;have l0:I.cell? ⟨lb,0,none⟩=some (.slice a Z.length h):=O.out.cell 0;have lz:=O.out.lt;obtain⟨Y,y1,y2,y3,y4,y5,l,yz⟩:=bM M.out;have f5:=l 5;clear l;go_upto_region 5 with fail;have B6:=VH (show ad _ p 36 #[.string j,.int .i64 c,.int .i64 m,.bool r,.string i,.slice a Z.length h]from M.out.aj 5 (.slice a Z.length h));have P:=VH (ar.out.an (p:=⟨p,5,none⟩) (by have :=o.out.1;show w.heap.size+1≠p;omega) (.slice a Z.length h));have T6:=VH (T5.out.setCell (p:=⟨p,5,none⟩) (.inr (by have :=o.out.1;show w.heap.size<=p;omega)) (.slice a Z.length h));have aA:=VH (av.out.aC (S:=af p) ((aa.refl (af p) I).setCell (p:=⟨p,5,none⟩) (.inl rfl) (.slice a Z.length h)) fun b e=>by have e:b=p:=e;have :=o.out.2;omega);clear l0 lz Y y1 y2 y3 y4 y5 f5 yz;generalize I.setCell ⟨p,5,none⟩ (.slice a Z.length h)=w6 at*;obtain⟨t,u,x,y,z,C,xf,E⟩:=bM B6.out;obtain⟨Y,y1,y2,y3,y4,y5,l,yz⟩:=bM P.out;have g0:=l 0;have g1:=l 1;have g2:=l 2;have g3:=l 3;have g4:=l 4;have g5:=l 5;clear xf l;go_wp2_with fail;have HF:=me P.out (.string j) (.int .i64 c) (.int .i64 m) (.bool r) (.string i) (.slice a Z.length h);refine bodyPost_ret ((nN results7 _ _ _ ⟨w.heap.size+1,0,none⟩ rfl).trans (gZ _ _ _ _ _ _ _ _ HF)) rfl ?_;refine⟨a,h,Z,rfl,?_,HG.out.2,bT T6.out (.inr (Nat.le_succ _)) _ _ _ _ _ _⟩;refine(aA.out.aC (S:=af (w.heap.size+1)) (bT (S:=af (w.heap.size+1)) (aa.refl _ w6) (.inl rfl) _ _ _ _ _ _) fun b e=>?_).bU (by have :=o.out;omega);have e:b=w.heap.size+1:=e;have :=o.out;omega
end
section
open Lx(Bytes)
def kx(T:List Bx.Bd)(b:Bx.Bd)(E:Int):List Bx.Bd:=if E=0 then Bx.put T (Bx.eo b)else T
theorem qs{T:List Bx.Bd}{b:Bx.Bd}(h:e≠0):kx T b e=T:=if_neg h
theorem tj{T:List Bx.Bd}{b:Bx.Bd}:kx T b 0=Bx.put T (Bx.eo b):=if_pos rfl
theorem nK(h:ad w k 68 #[v,.int .i64 e,.int .i64 r]):w.cell? ⟨k,0,none⟩=some v/\w.cell? ⟨k,1,none⟩=some (.int .i64 e)/\w.cell? ⟨k,2,none⟩=some (.int .i64 r)/\k<w.heap.size:=⟨h.cell 0,h.cell 1,h.cell 2,h.lt⟩
theorem tw{T:List Bx.Bd}(h:bY w k n T)(cn:b9 w)(b:Bx.Bd){Z:List (Value×List CQ)}(hG:gO w (.slice O Z.length m) Z)(hZ:aq Z=b.list)(hF:dj b.list)(hp:dK (Bx.place b))(d':b.note.length<=9223372036854775807):Calls VI 6 #[.pointer (some ⟨k,0,none⟩),b_ b (.slice O Z.length m)] w fun e w'=>e=.returned (.int .i64 (Bx.kA T b))/\bY w' k n (kx T b (Bx.kA T b))/\aa (af n) w w':=by
 have cT:=VH h.ne;obtain⟨X,D,U⟩:=h.cI;have q:=VH U;have de:=VH (fun W(ht:aa ab w W)=>cn.still ht);have F:=fun W(ht:aa ab w W)=>(U.still ht).look (t:=b.table) (k:=b.key) hp;have cz:=VH (fun(h1:Bx.fw b.table=true)(h2:Bx.right b.key=true)(h3:b.note.length<=64)=>show iC (Bx.eo b)from⟨h1,h2,h3,hF.strip,SO b.list⟩);have j:=VH (show Bx.kA T b=if !Bx.fw b.table then 6 else if !Bx.right b.key then 1 else if 64<b.note.length then 2 else if(Bx.find T b.table b.key).isNone&&decide (500<=T.length)then 3 else 0 from rfl);have ds:=VH U.len;have dv:=VH U.map.size;generalize Bx.kA T b=E at j⊢;have l:=VH h.ptr;have HP:=VH hp;have a1:=VH (nj hp);have ai:=VH (VJ hG (VJ hZ hF));obtain⟨vt,vc,vm,vr,vn,vA,vN,vC,cw⟩:=ND (U.looked b.table b.key);rw[cw]at F;have a':=VH (show∀x,b_ (Bx.eo b) x=.agg #[.string ⟨b.table.toArray⟩,.int .i64 b.key.code,.int .i64 b.key.aw,.bool b.rep,.string ⟨b.note.toArray⟩,x]from fun _=>rfl);have b2:∀x,b_ b x=.agg #[.string ⟨b.table.toArray⟩,.int .i64 b.key.code,.int .i64 b.key.aw,.bool b.rep,.string ⟨b.note.toArray⟩,x]:=fun _=>rfl;have cb:Bx.jZ (b.table,b.key)=.agg #[.string ⟨b.table.toArray⟩,.int .i64 b.key.code,.int .i64 b.key.aw]:=rfl;have bx:=VH (show Bx.jZ (Bx.place b)=.agg #[.string ⟨b.table.toArray⟩,.int .i64 b.key.code,.int .i64 b.key.aw]from rfl);rw[b2];simp only[cb]at F;have cq:b.table.length<=maxLen:=hp.1;have a8:=VH (show sl ⟨b.table.toArray⟩=b.table from rfl);have al:=VH (show(⟨b.note.toArray⟩:ByteArray).size=b.note.length by simp[ByteArray.size])
 have b5:(⟨b.table.toArray⟩:ByteArray).size<=9223372036854775807:=by
  have :(⟨b.table.toArray⟩:ByteArray).size=b.table.length:=by simp[ByteArray.size]
  rw[this];unfold maxLen at cq;omega
 have eb:b.key=⟨b.key.code,b.key.aw⟩:=rfl;have a7:=VH (fun W(ht:aa ab w W)=>rq (de.out W ht) b.key.code b.key.aw);rw[bx.out]at a1;clear b2 cb cw cq;generalize(⟨b.table.toArray⟩:ByteArray)=t at F a' a8 a1 b5 bx⊢;generalize(⟨b.note.toArray⟩:ByteArray)=u at a' al⊢;rw[<-a8.out]at F;have a6:=VH (fun W=>Te t W b5);rw[a8.out]at a6 F;rw[show Bx.right ⟨b.key.code,b.key.aw⟩=Bx.right b.key from rfl]at a7;generalize cc:Bx.fw b.table=nb at j a6;generalize cg:Bx.right b.key=rb at j a7;generalize ch:b.note.length=nl at j al;have da:=VH cc;have db:=VH cg;have dc:=VH ch;generalize b.key.code=c at*;generalize b.key.aw=d at*;generalize b.rep=P at*;have b6:(Bx.find T b.table b.key).isNone=!(Bx.find T b.table b.key).isSome:=by cases Bx.find T b.table b.key<;>rfl
 rw[b6]at j;clear b6;generalize cj:(Bx.find T b.table b.key).isSome=fb at F j;have dd:=VH cj;obtain⟨G,bd⟩:∃G,G=Z.length:=⟨_,rfl⟩;rw[<-bd]at ai;rw[<-bd];clear cc cg ch cj h U cn hG hZ hF hp bd;have bt:=VH F;clear F;have B1:=VH ((ad.new w 36 #[.string t,.int .i64 c,.int .i64 d,.bool P,.string u,.slice O G m]).alloc (.cells #[.string t,.int .i64 c,.int .i64 d] 68));have Y:=VH (ad.new (w.alloc (.cells #[.string t,.int .i64 c,.int .i64 d,.bool P,.string u,.slice O G m] 36)) 68 #[.string t,.int .i64 c,.int .i64 d]);rw[show(w.alloc (.cells #[.string t,.int .i64 c,.int .i64 d,.bool P,.string u,.slice O G m] 36)).heap.size=w.heap.size+1 by simp[go_sem]]at Y;have T2:=VH (((aa.refl ab w).alloc (.cells #[.string t,.int .i64 c,.int .i64 d,.bool P,.string u,.slice O G m] 36)).alloc (.cells #[.string t,.int .i64 c,.int .i64 d] 68));go_enter func6,ntmps6;go_wp2_with fail;generalize(w.alloc (.cells #[.string t,.int .i64 c,.int .i64 d,.bool P,.string u,.slice O G m] 36)).alloc (.cells #[.string t,.int .i64 c,.int .i64 d] 68)=H at*;have HS:=VH (fun W(ht:aa ab H W)=>show W.cell? ⟨k,0,none⟩=some (.map (some n))/\W.cell? ⟨w.heap.size+1,0,none⟩=some (.string t)/\W.cell? ⟨w.heap.size+1,1,none⟩=some (.int .i64 c)/\W.cell? ⟨w.heap.size+1,2,none⟩=some (.int .i64 d)/\(Instr.lookup 64 (.map (some n)) (.agg #[.string t,.int .i64 c,.int .i64 d]) true).run VI W=.ok (.tuple #[.agg #[.string vt,.int .i64 vc,.int .i64 vm,.bool vr,.string vn,.slice vA vN vC],.bool fb]) W/\aa ab H W from⟨((T2.out.same ht).blk l.out id).cell 0,(ht.blk Y.out id).cell 0,(ht.blk Y.out id).cell 1,(ht.blk Y.out id).cell 2,bt.out W (T2.out.same ht),ht⟩);go_cut[7](fun s7 wx=>s7=.bool fb/\aa ab H wx);case first=>obtain⟨I,J,K,L,M,o⟩:=HS.out H.drew ((aa.refl _ H).drewN 1);go_region_held3(fun W=>W.cell? ⟨k,0,none⟩=some (.map (some n))/\W.cell? ⟨w.heap.size+1,0,none⟩=some (.string t)/\W.cell? ⟨w.heap.size+1,1,none⟩=some (.int .i64 c)/\W.cell? ⟨w.heap.size+1,2,none⟩=some (.int .i64 d)/\(Instr.lookup 64 (.map (some n)) (.agg #[.string t,.int .i64 c,.int .i64 d]) true).run VI W=.ok (.tuple #[.agg #[.string vt,.int .i64 vc,.int .i64 vm,.bool vr,.string vn,.slice vA vN vC],.bool fb]) W/\aa ab H W)(first|(go_split_ands;exact HS.out _ (aa.alloc (by assumption) _))|exact HS.out _ (by assumption)|exact HS.out _ (((aa.refl _ H).alloc _).drewN 1)|go_keep)(fail);all_goals go_wp2_with fail;go_meet;exact⟨rfl,((aa.refl ab H).alloc _).drewN 1⟩
 case rest=>
  obtain⟨rfl,av⟩:=hcut;have T3:=VH (T2.out.same av);have B3:=VH (av.blk B1.out id);have B4:=VH (av.blk Y.out id);clear av HS bt;generalize wc=w3 at B3 B4 T3⊢;obtain⟨I,J,K,L,M,o,p,y⟩:=bM B3.out;clear p;go_wp2_with fail;refine(a6.out _).mono ?_;rintro e w4⟨rfl,ht⟩;have S:=VH (T3.out.same ht);have B5:=VH (ht.blk B3.out id);have B6:=VH (ht.blk B4.out id);clear I J K L M o y ht B3 B4 T3;obtain⟨I,J,K,L,M,o,p,y⟩:=bM B5.out;clear p
  cases nb with
  |false=>go_wp2_with fail;go_ret;obtain rfl:E=6:=j.out;rw[qs (by decide)];refine⟨rfl,⟨S.out.blk l.out id,X,D,q.out.still S.out⟩,S.out.mono fun _ _ e=>e.elim⟩
  |true=>
   go_wp2_with fail;refine(a7.out _ S.out).mono ?_;rintro e w5⟨rfl,ht⟩;have a:=VH (S.out.same ht);have N:=VH (ht.blk B5.out id);have B8:=VH (ht.blk B6.out id);clear I J K L M o y ht B5 B6 S;obtain⟨I,J,K,L,M,o,p,y⟩:=bM N.out
   cases rb with
   |false=>clear p;go_wp2_with fail;go_ret;obtain rfl:E=1:=j.out;rw[qs (by decide)];refine⟨rfl,⟨a.out.blk l.out id,X,D,q.out.still a.out⟩,a.out.mono fun _ _ e=>e.elim⟩
   |true=>
    by_cases hl:64<nl;. have d1:decide ((64:Int)<u.size)=true:=decide_eq_true (by rw[al.out];omega);have HE:=VH (show E=2 by rw[j.out];simp[hl]);clear p hl;go_wp2_with fail;go_ret;obtain rfl:E=2:=HE.out;rw[qs (by decide)];refine⟨rfl,⟨a.out.blk l.out id,X,D,q.out.still a.out⟩,a.out.mono fun _ _ e=>e.elim⟩
    ·have d1:decide ((64:Int)<u.size)=false:=decide_eq_false (by rw[al.out];omega);have bA:E=if !fb&&decide (500<=T.length)then 3 else 0:=by rw[j.out];simp[hl]
     have b0:iC (Bx.eo b):=cz.out da.out db.out (by rw[dc.out];omega);have cA:=VH b0;clear b0
     have bb:(fb=false/\500<=T.length)∨(fb=true∨¬500<=T.length):=by
      cases fb with
      |true=>exact .inr (.inl rfl)
      |false=>
       by_cases i:500<=T.length;. exact .inl ⟨rfl,i⟩
       ·exact .inr (.inr i)
     have ar:=q.out.still a.out;have b7:=ar.map.own.len underlying64 3;rw[ar.map.size,ar.len]at b7;have p0:w5.cell? ⟨k,0,none⟩=some (.map (some n)):=(a.out.blk l.out id).cell 0;have pz:=(a.out.blk l.out id).lt;have f5:=p 5;have bn:=VH bA;clear p hl ar bA;rcases bb with⟨rfl,i⟩|i;. have d2:decide ((500:Int)<=T.length)=true:=decide_eq_true (by omega);have HE:=VH (show E=3 by rw[bn.out];simp[i]);clear i;go_wp2_with fail;go_ret;obtain rfl:E=3:=HE.out;rw[qs (by decide)];refine⟨rfl,⟨a.out.blk l.out id,X,D,q.out.still a.out⟩,a.out.mono fun _ _ e=>e.elim⟩
     ·have b3:(!fb&&decide (500<=T.length))=false:=by
       rcases i with rfl|i;. rfl
       ·rw[decide_eq_false i];simp
      have HE:=VH (show E=0 by rw[bn.out,b3];rfl)
      have cx:=VH (show(Bx.find T (Bx.eo b).table (Bx.eo b).key).isSome=true∨T.length<500 from by
       have e:(Bx.find T (Bx.eo b).table (Bx.eo b).key).isSome=fb:=dd.out;rw[e];rcases i with h|h;. exact .inl h
       ·exact .inr (by omega));have bb:fb=true∨(fb=false/\decide ((500:Int)<=T.length)=false):=by cases fb with|true=>exact .inl rfl|false=>have h6:¬500<=T.length:=i.resolve_left (by decide);exact .inr ⟨rfl,decide_eq_false (by omega)⟩
      clear b3;rcases bb with rfl|⟨rfl,d2⟩
      all_goals
       clear i;go_wp2_with fail;refine(qu (w:=w5) (Z:=Z) (ai.out.1.still a.out) (dj.bare (by rw[ai.out.2.1];exact ai.out.2.2))).mono ?_;rintro e w6⟨ea,r,rfl,bc,ca,ht⟩;obtain⟨z,C,rfl⟩:=aE bc.outer;have T6:=VH (a.out.same ht);have dz:=VH (a.out);have B9:=VH ((ht.blk N.out id).aj 5 (.slice z r.length C));have bl:=VH ((ht.blk B8.out id).an (p:=⟨w.heap.size,5,none⟩) (by simp) (.slice z r.length C));have T7:=VH (T6.out.setCell (p:=⟨w.heap.size,5,none⟩) (.inr (VN _)) (.slice z r.length C));have dp:=N.out.lt;have bs:=VH (VJ (bc.aC ((aa.refl (af w.heap.size) w6).setCell (p:=⟨w.heap.size,5,none⟩) (.inl rfl) (.slice z r.length C)) fun b e=>by have e:b=w.heap.size:=e;omega) ca);clear I J K L M o y p0 pz f5 b7;have o:w6.cell? ⟨w.heap.size,5,none⟩=some (.slice O G m):=(ht.blk N.out id).cell 5;have f5:w6.frozen? ⟨w.heap.size,5,none⟩=false:=(ht.blk N.out id).frozen 5;have y:w.heap.size<w6.heap.size:=(ht.blk N.out id).lt;clear ht bc ca;go_upto_region 12 with fail;clear o f5 y;generalize w6.setCell ⟨w.heap.size,5,none⟩ (.slice z r.length C)=Q at*;have p0:Q.cell? ⟨k,0,none⟩=some (.map (some n)):=(T7.out.blk l.out id).cell 0;have pz:=(T7.out.blk l.out id).lt;obtain⟨I,J,K,L,M,o,p,y⟩:=bM B9.out;obtain⟨y0,y1,y2,yz⟩:=nK bl.out;clear p;go_still_tail 6,(by kernel_rfl);change wpList _ _ _ _ _ Q.drew;have T8:=VH (T7.out.drewN 1);change Hid (aa ab w Q.drew)at T8;have aA:=VH (VJ (bs.out.1.still ((aa.refl ab Q).drewN 1)) bs.out.2);change Hid (aD Q.drew _ _ _/\_)at aA;have bw:=VH (q.out.still T8.out);clear p0 pz I J K L M o y y0 y1 y2 yz N B8 B9 bl;have b4:n+1<=w5.heap.size:=by have :=(q.out.still a.out).map.lt;exact this
       have dq:=VH b4;have dk:X.length<maxLen:=by have h1:=q.out.len;have h2:=q.out.few;unfold maxLen;omega
       have bm:=VH (show gK Q.drew (n+1) (b_ (Bx.eo b) (.slice z r.length C)) (Bx.eo b)from⟨_,r,rfl,aA.out.1.bU b4,by rw[aA.out.2,ai.out.2.1];rfl⟩);rw[a'.out]at bm;generalize Q.drew=w8 at*;refine wpList_mapUpdate_in _ rfl _ _ _ 64 rfl 68 36 A.kX underlying64 fJ n X.length D rfl bw.out.map.own dk _ _ (eD (Bx.place b)) rfl rfl a1.out (.held (.agg #[.string t,.int .i64 c,.int .i64 d,.bool P,.string u,.slice z r.length C])) [] rfl ?_;intro w9 b' cv;have H9:=VH (VJ b' (sq cv));clear b' cv;go_wp2_with fail;go_ret;have b1:aa (af n) w w9:=(T8.out.mono fun _ _ e=>e.elim).trans H9.out.2 fun b _ e=>e;have dh:gK w9 (n+1) (.agg #[.string t,.int .i64 c,.int .i64 d,.bool P,.string u,.slice z r.length C]) (Bx.eo b):=by obtain⟨gv,Z2,e1,e2,e3⟩:=bm.out;exact⟨gv,Z2,e1,e2.aC H9.out.2 fun b e=>by have e:b=n:=e;omega,e3⟩
       obtain rfl:E=0:=HE.out;rw[tj];refine⟨rfl,⟨b1.blk l.out (fun e=>cT.out e),_,_,bw.out.put cA.out ?_ H9.out.1 H9.out.2 dh⟩,b1⟩;exact cx.out
end
section
open Lx(Bytes)
def vT(t:List Bytes):Bool:=let c:=Px.bq t;decide (c.name=jf)&&(decide (2<=c.args.length)&&(decide (c.args.length<=256)&&((Bx.jY (c.args.headD [])).isSome&&(!(c.args.headD []).isEmpty&&((c.args.headD []).all (fun x=>decide (x.toNat<128))&&(decide ((c.args.headD []).length<=8192)&&((Px.at_ c.flags 110).isNone&&((Px.at_ c.flags 84).isSome&&((Px.at_ c.flags 78).isNone&&(c.args.tail.all (fun x=>decide (x.length<=8192))&&(decide ((Lx.cat c.args.tail).length<=65536)&&(decide (Lx.cost c.args.tail<=3200000)&&(Px.iN c.args.tail&&(decide ((Px.bq c.args.tail).flags.length<=1000000)&&(decide ((Px.bq c.args.tail).args.length<=1000000)&&(decide ((Px.bq c.args.tail).line=0)&&((decide (c.args.length≠2)||decide (Lx.cat c.args.tail=c.args.tail.headD []))&&(Bx.fw (Bx.fq t).table&&Bx.right (Bx.fq t).key))))))))))))))))))
theorem I3:Bx.bV.all vT=true:=by decide+kernel
theorem IY{t:List Bytes}(h:vT t=true){c:Px.ag}(b:Px.strip c=Px.bq t):∃a0 rest w k,sV c a0 rest w [] k [[Px.bq rest]]/\(a0≠[]/\∀x∈a0,x.toNat<128)/\px c w [] k [[Px.bq rest]]=Bx.fq t/\iC (Bx.fq t)/\Bx.eo (Bx.fq t)=Bx.fq t:=by
 have P:(Px.bq t).name=c.name:=by rw[<-b];rfl
 have I:(Px.bq t).flags=c.flags:=by rw[<-b];rfl
 have J:(Px.bq t).args=c.args:=by rw[<-b];rfl
 simp only[vT,Bool.and_eq_true]at h;have K:Bx.fq t=⟨(Px.at_ c.flags 84).getD [112,114,101,102,105,120],(Bx.jY (c.args.headD [])).getD ⟨0,0⟩,(Px.at_ c.flags 114).isSome,(Px.at_ c.flags 78).getD [],[[Px.bq c.args.tail]]⟩:=by rw[<-I,<-J];rfl
 rw[P,I,J,K]at h;rw[K];obtain⟨O,a,q,G,r,H,u,Y,Z,X,E,j,l,F,m,n,o,p,d,i⟩:=h;simp only[decide_eq_true_eq]at O a q u j l m n o;simp only[Bool.or_eq_true,decide_eq_true_eq]at p
 match hargs:c.args,a with
 |a0::rest,a=>
   rw[hargs]at q G r H u E j l F m n o p d i;simp only[List.headD_cons,XG,VM]at a q G r H u E j l F m n o p d i;obtain⟨k,y⟩:=Option.isSome_iff_exists.1 G;obtain⟨w,z⟩:=Option.isSome_iff_exists.1 Z;have S:=Option.isNone_iff_eq_none.1 Y;have M:=Option.isNone_iff_eq_none.1 X;have T:rest≠[]:=by intro e;rw[e]at a;simp at a
   have L:dj [[Px.bq rest]]:=⟨by simp,fun g Q=>by rw[VU.1 Q];exact⟨by simp,fun c b=>by rw[VU.1 b];exact⟨m,n⟩⟩⟩
   have N:Px.aQ [[Px.bq rest]]=[[Px.bq rest]]:=by
    show[[Px.strip (Px.bq rest)]]=_;have :Px.strip (Px.bq rest)=Px.bq rest:=by rw[Px.strip,<-o]
    rw[this]
   simp only[List.headD_cons,XG];rw[z]at d;rw[y]at i;rw[y,z,M];simp only[Option.getD_some,Option.getD_none]at d i⊢
   have U:iS rest=Lx.cat rest:=by
    unfold iS;split
    ·rename_i h1;rcases p with h|h;. exact absurd (by omega) h
     ·exact h.symm
    ·rfl
   refine⟨a0,rest,w,k,⟨O,hargs,by rw[hargs];exact q,y,u,S,z,by rw[M];rfl,l,by rw[U];exact OV ⟨T,fun x C=>of_decide_eq_true (Wj.1 E x C),by omega⟩ j F,L⟩,⟨by intro e;rw[e]at r;simp at r,fun x C=>of_decide_eq_true (Wj.1 H x C)⟩,rfl,⟨d,i,by simp,L,N⟩,?_⟩;. unfold Bx.eo;rw[N]
theorem AK(b:Bx.Bd):∀T:List Bx.Bd,(Bx.ins b T).length=T.length+1
|[]=>rfl
|x::l=>by
  unfold Bx.ins;split;. rfl
  ·rw[VM,AK b l,VM]
theorem Du(T:List Bx.Bd)(b:Bx.Bd):(Bx.put T b).length<=T.length+1:=by rw[Bx.put,AK];have :(Bx.drop T b.table b.key).length<=T.length:=List.length_filter_le _ _;omega
def ft(k:Nat):List Bx.Bd:=((Bx.bV.take k).map Bx.fq).foldl Bx.put []
theorem zL(a:k<Bx.bV.length):ft (k+1)=Bx.put (ft k) (Bx.fq Bx.bV[k]):=by unfold ft;rw[List.take_succ_eq_append_getElem a,List.map_append,List.foldl_append];rfl
theorem uc:∀k,(ft k).length<=k
|0=>VN _
|k+1=>by
  by_cases a:k<Bx.bV.length;. rw[zL a];have b:=Du (ft k) (Bx.fq Bx.bV[k]);have c:=uc k;omega
  ·have :ft (k+1)=ft k:=by unfold ft;rw[V2 (by omega),V2 (by omega)]
   rw[this];have :=uc k;omega
theorem IW:ft Bx.bV.length=Bx.start:=by unfold ft;rw[V2 (VN _)];rfl
theorem ym{T:List Bx.Bd}{b:Bx.Bd}(h:iC b)(e:T.length<500):Bx.kA T b=0:=by have a:=h.name;have c:=h.key;have d:=h.note;unfold Bx.kA;rw[a,c,if_neg (by decide),if_neg (by decide),if_neg (by omega),if_neg (by rw[decide_eq_false (by omega)];simp)]
theorem Q'{Z:List (Value×List CQ)}(h:Px.aQ (aq Z)=Bx.bV.map fun t=>[Px.bq t]):Z.length=Bx.bV.length/\∀k(b:k<Z.length)(c:k<Bx.bV.length),∃q,Z[k].2=[q]/\Px.strip q.1=Px.bq Bx.bV[k]:=by
 have d:Z.length=Bx.bV.length:=by have :=congrArg List.length h;simpa[Px.aQ,aq]using this
 refine⟨d,fun k b c=>?_⟩;have a:=congrArg (fun l=>l[k]?) h;simp only[Px.aQ,aq,List.map_map,List.getElem?_map,List.getElem?_eq_getElem b,List.getElem?_eq_getElem c,Option.map_some,Function.comp]at a;injection a with a;generalize Z[k].2=l at a;cases l with|nil=>simp at a|cons q l=>simp only[V8,List.cons.injEq,List.map_eq_nil_iff]at a;exact⟨q,by rw[a.2],a.1⟩
theorem IX:Bx.bV.length=72:=by decide+kernel
theorem aD.row{B:Nat}{A:Option Addr}{Z:List (Value×List CQ)}(h:aD w B (.slice A Z.length n) Z)(a:k<Z.length){q:CQ}(j:Z[k].2=[q]):∃g off,A=some ⟨g,off,none⟩/\g<w.heap.size/\w.cell? ⟨g,off+k,none⟩=some Z[k].1/\∃b o c2,Z[k].1=.slice (some ⟨b,o,none⟩) 1 c2/\b<w.heap.size/\w.cell? ⟨b,o,none⟩=some (ah q.1.name)/\w.cell? ⟨b,o+1,none⟩=some q.2.1/\w.cell? ⟨b,o+2,none⟩=some q.2.2/\w.cell? ⟨b,o+3,none⟩=some (.int .i64 q.1.line)/\eZ w q.2.1 q.1.flags/\w.ownsRow B 9 1 q.2.2 q.1.args.length (q.1.args.map ah):=by
 have l:=h.rd;obtain⟨G,I,e,m⟩:=l.at_;injection e with e _ _;obtain⟨g,off,r,y,x⟩:=m (by omega);obtain⟨⟨H,c2,c,d⟩,i⟩:=l.each _ (VZ a);rw[j]at d i c;obtain⟨b,o,t,u,p⟩:=d Nat.one_pos;obtain⟨z,C,E,F⟩:=p 0 Nat.one_pos;refine⟨g,off,e.trans r,y,x k a,b,o,c2,by rw[c,t];rfl,u,?_,?_,?_,?_,(i q (by simp)).1,(h.rows _ (VZ a) q (by rw[j];simp)).args⟩;. simpa using z
 ·simpa using C
 ·simpa using E
 ·simpa using F
open Lx(Bytes)
theorem bY.made(w:World):bY ((w.alloc (.map #[] 0)).alloc (.cells #[.map (some w.heap.size)] 66)) (w.heap.size+1) w.heap.size []:=by have c:=World.ownsMap_made (H:=Value) w VI 68 fJ;have a:aa ab (w.alloc (.map #[] 0)) ((w.alloc (.map #[] 0)).alloc (.cells #[.map (some w.heap.size)] 66)):=(aa.refl _ _).alloc _;have h:cR (w.alloc (.map #[] 0)) w.heap.size [] [] (.map []):=⟨⟨c,Bx.cJ.start,List.Pairwise.nil,rfl⟩,.nil,List.Pairwise.nil,fun _ b=>(V1 b).elim,fun _ d=>(V1 d).elim,VQ _⟩;exact⟨bP (by simp[go_sem]),[],_,h.still a⟩
def Ft(w:World)(e:Ending)(a:World):Prop:=∃P M,e=.returned (.pointer (some ⟨P,0,none⟩))/\bY a P M Bx.start/\w.heap.size<=P/\w.heap.size<=M/\aa ab w a
theorem Tf(b2:b9 w):Calls VI 5 #[.bool true] w (Ft w):=by
 obtain⟨L,G',y,P,h3,h4,h5⟩:=I2;have r:=VH (VJ y (VJ P (VJ h3 h4)));have a8:=VH h5;have ar:=VH (fun W(ht:aa ab w W)=>b2.still ht);have TB:=VH (bY.made w);have T2:=VH (((aa.refl ab w).alloc (.map #[] 0)).alloc (.cells #[.map (some w.heap.size)] 66));have cg:= @run_makeMap VI;clear y P h3 h4 h5 b2;go_enter func5,ntmps5;go_upto_region 3 with fail;clear cg;generalize hM:w.heap.size=M at*;have HM:=VH hM;clear hM;generalize(w.alloc (.map #[] 0)).alloc (.cells #[.map (some M)] 66)=w2 at*;go_wp2_with fail;refine(vy (u:=⟨Bx.firstT.toArray⟩) (ar.out _ T2.out) rfl r.out.1 r.out.2.1 r.out.2.2.1 r.out.2.2.2).mono ?_;rintro e X⟨G,O,Z,rfl,p,hp,ht⟩;have c:=(aa.refl ab X).alloc (.cells #[.slice G Z.length O] 34);have T4:=VH ((T2.out.same ht).same c);have cb:=VH ((TB.out.still ht).still c);have HG:=VH ((aD.of p).still c);have L4:=VH (ad.new X 34 #[.slice G Z.length O]);have H:=VH (Q' (by rw[hp];exact a8.out));have ca:=VH (show M<w2.heap.size by obtain⟨m,D,hm⟩:=TB.out.cI;exact hm.map.lt);clear ht p hp c;go_upto_region 4 with fail;clear TB T2 r a8;generalize X.alloc (.cells #[.slice G Z.length O] 34)=d at*;generalize X.heap.size=l at*;have l0:d.cell? ⟨l,0,none⟩=some (.slice G Z.length O):=L4.out.cell 0;have lz:=L4.out.lt;generalize w2.heap.size=B at*;have b5:Z.length=72:=by rw[H.out.1,IX]
 have bd:=VH b5;clear b5;go_wp2_with fail;have ch:aa (af M) d d:=aa.refl _ _;have HN:=VH (fun(W:World)(ht:aa (af M) d W)=>show aa ab w W from T4.out.trans ht fun b hb e=>by have e:b=M:=e;have :=HM.out;omega);have b6:=VH (fun(W:World)(ht:aa (af M) d W)=>HG.out.aC ht fun b e=>by have e:b=M:=e;have :=ca.out;omega);clear ch l0 lz;have cq:(Z.length:Int)<=72:=by have :=bd.out;omega
 go_loopw[26](fun i wr=>∃k,i=.int .i64 (k:Nat)/\k<=Z.length/\bY wr (M+1) M (ft k)/\aa (af M) d wr)(fun i _=>Z.length-(intOf i).toNat);case atStart=>exact⟨0,rfl,VQ _,cb.out,aa.refl _ _⟩
 case round=>
  obtain⟨k,rfl,hk,C,ht⟩:=hrel;have a:=VH (VJ C ht);clear C ht;by_cases U:k<Z.length
  ·have T:k<Bx.bV.length:=by rw[<-H.out.1];exact U
   obtain⟨q,hq,b3⟩:=H.out.2 k U T;have bc:=VH b3;have a':=VH (zL T);have a7:=VH (Wj.1 I3 _ (VZ T));have J:=VH (fun(W:World)(ht:aa (af M) d W)=>(b6.out W ht).row U hq);generalize Bx.bV[k]=t at bc a' a7;generalize Z[k]=z at J;obtain⟨z1,z2⟩:=z;dsimp only at J;obtain⟨g,off,rfl,p,p0,b,o,c2,rfl,-⟩:=J.out _ a.out.2;have cc:(k:Int)<Z.length:=by omega
   clear b3 hq T;go_wp2_with fail;go_loopw[32](fun j wr=>∃n,j=.int .i64 (n:Nat)/\n<=1/\bY wr (M+1) M (ft (k+n))/\aa (af M) d wr)(fun j _=>1-(intOf j).toNat);case atStart=>exact⟨0,rfl,VQ _,a.out.1,a.out.2⟩
   case round=>
    obtain⟨n,rfl,hn,C,ht⟩:=hrel;clear a p0 p;have a:=VH (VJ C ht);clear C ht;rcases(show n=0∨n=1 by omega)with rfl|rfl
    ·obtain⟨g',cv,e1,p,p0,b',o',cj,u,hb,q0,q1,q2,q3,S,Q⟩:=J.out _ a.out.2;injection u with u _ e5;injection u with u;injection u with e3 e4 _;subst e3 e4 e5;clear e1 p0 p;obtain⟨fA,fc,bw,-⟩:=S.at_;obtain⟨rA,rc,bn⟩:=aE Q;rw[bw]at q1 S;rw[bn]at q2 Q;obtain⟨a0,rest,tb,ky,b1,bm,a1,bx,bs⟩:=IY a7.out bc.out;have c:=(aa.refl ab wr).alloc (.cells #[ah q.1.name,.slice fA q.1.flags.length fc,.slice rA q.1.args.length rc,.int .i64 q.1.line] 53);have K:=VH (a.out.2.trans c fun _ _ e=>e.elim);have av:=VH (a.out.1.still c);have I:=VH (Ew (ar.out _ (HN.out _ K.out)) b1 (fun t y P=>Hp bm t y P) (S.still c) (c.own Q fun _ _=>id));rw[a1]at I;have h:=VH (VJ bx (VJ bs (congrArg Bx.Bd.list a1)));simp only[ah]at q0 I c K av;clear b1 bm a1 bx bs c S Q bw bn;generalize(⟨q.1.name.toArray⟩:ByteArray)=nm at*;generalize q.1.line=ln at*;generalize q.1.flags.length=fl at*;generalize q.1.args.length=al at*;obtain⟨t0,c0,m0,F,E,bt⟩:∃(t0:ByteArray)(c0 m0:Int)(F:Bool)(E:ByteArray),∀x,b_ (Bx.fq t) x=.agg #[.string t0,.int .i64 c0,.int .i64 m0,.bool F,.string E,x]:=⟨_,_,_,_,_,fun _=>rfl⟩;have a6:=VH bt;clear bt;have cn:(0:Int)<1:=by decide
     have B5:=VH (ad.new wr 53 #[.string nm,.slice fA fl fc,.slice rA al rc,.int .i64 ln]);go_upto_region 10 with fail;clear q0 q1 q2 q3 hb;generalize wr.alloc (.cells #[.string nm,.slice fA fl fc,.slice rA al rc,.int .i64 ln] 53)=w5 at*;generalize wr.heap.size=bb at*;obtain⟨x0,x1,x2,x3,xz⟩:=il B5.out;go_wp2_with fail;refine I.out.mono ?_;rintro e Y⟨gv,Z2,rfl,aA,b0,ht⟩;obtain⟨A2,c3,rfl⟩:=aE aA.outer;rw[a6.out];have N:=(aa.refl ab Y).alloc (.cells #[.string t0,.int .i64 c0,.int .i64 m0,.bool F,.string E,.slice A2 Z2.length c3] 36);have B7:=VH (ad.new Y 36 #[.string t0,.int .i64 c0,.int .i64 m0,.bool F,.string E,.slice A2 Z2.length c3]);have T7:=VH (K.out.trans (ht.same N) fun _ _ e=>e.elim);have ai:=VH (tw ((av.out.still ht).still N) (ar.out _ (HN.out _ T7.out)) (Bx.fq t) ((aA.still N).rd) (by rw[b0];exact h.out.2.2) h.out.1.list h.out.1.ok (by have :=h.out.1.note;omega));rw[a6.out,ym h.out.1 (by have :=uc (k+0);have :=bd.out;omega),tj,h.out.2.1,show ft (k+0)=ft k from rfl,<-a'.out]at ai;clear ht aA b0 N x0 x1 x2 x3 xz I B5 av K;go_upto_region 11 with fail;generalize Y.alloc (.cells #[.string t0,.int .i64 c0,.int .i64 m0,.bool F,.string E,.slice A2 Z2.length c3] 36)=w7 at*;generalize Y.heap.size=b7 at*;obtain⟨x0,x1,x2,x3,x4,x5,xf,xz⟩:=bM B7.out;clear xf;go_wp2_with fail;refine ai.out.mono ?_;rintro e w8⟨rfl,bl,b4⟩;have H8:=VH (VJ bl (T7.out.same b4));clear bl b4 x0 x1 x2 x3 x4 x5 xz ai;go_wp2_with fail;go_roundw;case rel=>exact⟨1,rfl,VN _,H8.out.1,H8.out.2⟩
     case measure=>simp[intOf]
    ·go_wp2_with fail;go_roundw;case rel=>exact⟨k+1,by go_num,U,a.out.1,a.out.2⟩
     case measure=>simp[intOf];omega
  ·have bA:k=Bx.bV.length:=by rw[<-H.out.1];omega
   have cc:¬((k:Int)<Z.length):=by omega
   have HE:=VH (show ft k=Bx.start by rw[bA];exact IW);clear bA;go_wp2_with fail;go_ret;rw[HE.out]at a;have y:=HM.out;exact⟨M+1,M,rfl,a.out.1,by omega,by omega,HN.out _ a.out.2⟩
end
end Go.Proofs.YtmddhediccmhbaaGreatDoor
