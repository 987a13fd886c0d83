/- bindings, plainly. -/
import Derived.Lib.DecodeN
import Derived.Test.YtmddhediccmhbaaGreatDoorA18
set_option linter.all false
set_option maxHeartbeats 400000000
set_option maxRecDepth 100000
namespace Go.Proofs.YtmddhediccmhbaaGreatDoor
open Go.RowKit
open Go.Proofs.Tryz
open And renaming intro→VJ
open Bool renaming and_eq_true→Wd
open Lib renaming decodeN→YA
open Lib renaming hid→VH
open Lib renaming validRune→Xv
open List renaming length_append→VK
open List renaming length_cons→VM
open List renaming length_map→V0
open List renaming map_cons→V8
open List renaming map_map→W8
open List renaming pairwise_cons→Wn
open List renaming sum_cons→Xx
open Nat renaming lt_of_lt_of_le→VO
open Op renaming bytesLess→WI
open Go.Proofs.Tryz renaming prog→VI
open UInt8 renaming ofNat→Xd
open Utf8 renaming encode→Xj
variable {w w':World}{k g:Nat}{v u:Value}{e:Int}{a:UInt8}{E:List Value}{X:List ByteArray}
section
namespace Lx
variable{env:Env}
theorem Sm{c:List Bytes}(h:Small c)(n:(cat c).length<=65536):∃l:List W,l.map (·.text)=c/\(∀x∈l,x.block=false)/\split env (cat c)=.ok [(l,1)]:=by obtain⟨a,i,j⟩:=h;obtain⟨o,l,b,m,d⟩:=py (env:=env) (rest:=[]) rfl (out:=[]) (g:=1) (line:=1) a i j (by decide);refine⟨l,b,m,?_⟩;have k:l≠[]:=fun e=>a (by rw[<-b,e];rfl);rw[List.append_nil]at d;rw[split,if_neg (by omega),d,cP,fin,if_neg k];rfl
end Lx
namespace Px
open Lx(Bytes)
def er(p:PW):PW:=⟨p.text,0,p.block⟩
theorem BP(r:Row):∀(t:Bytes)(l:List PW)(m:List Fl),bD r t (l.map er) m=(bD r t l m).map fun y=>(y.1.map er,y.2)|[],l,m=>rfl|c::t,l,m=>by simp only[bD];cases aJ r c with|none=>rfl|some v=>cases v with|false=>exact BP r t l _|true=>cases t with|cons u t=>rfl|nil=>cases l with|nil=>rfl|cons x l=>rfl
theorem zP(r:Row):∀(n:Nat)(l:List PW)(m:List Fl),aM r n (l.map er) m=(aM r n l m).map fun y=>(y.1.map er,y.2)
|0,l,m=>by simp[aM]
|n+1,[],m=>rfl
|n+1,x::l,m=>by
  have c:cE (er x)=cE x:=rfl;have d:(er x).text=x.text:=rfl;rw[V8];simp only[aM,c,d];by_cases a:cE x=true
  ·rw[if_pos a,if_pos a];by_cases b:x.text.tail=[45];. rw[if_pos b,if_pos b];rfl
   ·rw[if_neg b,if_neg b,BP];cases bD r x.text.tail l m with|none=>rfl|some y=>exact zP r n y.1 y.2
  ·rw[if_neg a,if_neg a];rfl
theorem TZ(l:List PW):words (l.map er)=(words l).map strip:=by
 cases l with
 |nil=>rfl
 |cons x l=>
  have c:(er x).block=x.block:=rfl;have e:(er x).text=x.text:=rfl;have d:(er x).line=0:=rfl;rw[V8];simp only[words,c,e,d,flags,V0,zP];by_cases a:x.block=true;. rw[if_pos a,if_pos a];rfl
  ·rw[if_neg a,if_neg a]
   cases found x.text with
   |none=>rfl
   |some r=>
    dsimp only
    cases aM r (l.length+1) l []with
    |none=>rfl
    |some y=>
     obtain⟨rest,m⟩:=y;simp only[Option.map,V0];by_cases b:(rest.length:Int)<r.few∨(0<=r.ay/\r.ay<rest.length);. rw[if_pos b,if_pos b];rfl
     ·rw[if_neg b,if_neg b];simp[Except.map,strip,W8,Function.comp_def,er]
def eE(t:List Bytes):List PW:=t.map fun s=>⟨s,0,false⟩
def bq(t:List Bytes):ag:=match words (eE t)with|.ok c=>c|.error _=>⟨[],[],[],0⟩
def iN(t:List Bytes):Bool:=!isDir (eE t)&&match words (eE t)with|.ok _=>true|.error _=>false
theorem N6{l:List PW}{t:List Bytes}(b:l.map (·.text)=t)(a:∀x∈l,x.block=false):l.map er=eE t:=by subst b;rw[eE,W8];refine List.map_congr_left fun x c=>?_;show(⟨x.text,0,x.block⟩:PW)=⟨x.text,0,false⟩;rw[a x c]
theorem rk{l:List PW}{t:List Bytes}(i:l.map (·.text)=t)(e:∀x∈l,x.block=false)(b:iN t=true):isDir l=false/\∃c,words l=.ok c/\strip c=bq t:=by
 have d:=N6 i e;simp only[iN,Wd,Bool.not_eq_true']at b;have h:isDir (l.map er)=isDir l:=by cases l<;>rfl
 refine⟨by rw[<-h,d];exact b.1,?_⟩;have hw:=TZ l;rw[d]at hw;have a:=b.2;rw[bq];rw[hw]at a⊢;cases j:words l with|error k=>rw[j]at a;cases a|ok c=>exact⟨c,rfl,rfl⟩
theorem Pu{X:Bytes->Bytes×Int}{t:List Bytes}(h:Lx.Small t)(k:(Lx.cat t).length<=65536)(j:iN t=true):∃L c,Lx.split [] (Lx.cat t)=.ok L/\(∃l,L=[(l,1)]/\l.map (·.text)=t/\isDir (l.map dV)=false)/\parse X [] (Lx.cat t)=.ok [[c]]/\strip c=bq t:=by obtain⟨l,a,e,b⟩:=Lx.Sm (env:=[]) h k;obtain⟨d,c,i,m⟩:=rk (l:=l.map dV) (t:=t) (by simpa[dV,W8,Function.comp_def]using a) (fun x n=>by obtain⟨y,o,rfl⟩:=List.mem_map.1 n;exact e y o) j;refine⟨_,c,b,⟨l,rfl,a,d⟩,?_,m⟩;rw[parse,b];simp only[V8,List.map_nil,aP,eG,d,i,taken,List.getLast?_nil];simp[bG]
theorem vx{X:Bytes->Bytes×Int}:∀(a:List (List Bytes))(g g0:Nat)(L:List Lx.Ln)(out:List (List ag)),Lx.gN g L (a.map fun t=>[t])->g≠g0->(∀t∈a,iN t=true)->∃b,aQ b=a.map (fun t=>[bq t])/\eG X (L.map aP) [] g0 out=.ok (out++b)
|[],g,g0,L,out,h,_,_=>by cases h;exact⟨[],rfl,by simp[eG]⟩
|t::a,g,g0,_,out,h,u,m=>by
  cases h with
  | @cons _ L M _ _ h E C=>
   have d:=h.texts
   cases L with
   |nil=>simp at d
   |cons l L=>
    cases L with
    |cons F L=>simp at d
    |nil=>
     simp only[V8,List.map_nil,List.cons.injEq,and_true]at d;have k:=h.each l (by simp);obtain⟨r,c,q,w⟩:=rk (l:=(aP l).1) (t:=t) (by rw[nD];exact d) (fun x i=>by simp only[aP]at i;obtain⟨y,z,rfl⟩:=List.mem_map.1 i;exact k.2 y z) (m t (by simp));obtain⟨b,j,p⟩:=vx (X:=X) a (g+1) g M (out++[[c]]) C (by omega) fun x i=>m x (List.mem_cons_of_mem _ i);have n:(aP l).2=g:=k.1;refine⟨[c]::b,by simp[aQ,w]at j⊢;exact j,?_⟩;rw[List.cons_append,List.nil_append,V8,eG,r,q];simp only[Bool.false_eq_true,if_false,taken,List.getLast?_nil,if_true,n];rw[if_pos (.inl (fun e=>u e))];have o:bG out c true=out++[[c]]:=by simp[bG]
     rw[o,p,List.append_assoc];rfl
end Px
namespace Bx
open Lx(Bytes)
structure Ky where
 code:Int
 aw:Int deriving DecidableEq
def bH:List Bytes:=[[85,112],[68,111,119,110],[76,101,102,116],[82,105,103,104,116],[72,111,109,101],[69,110,100],[73,67],[68,67],[80,80,97,103,101],[78,80,97,103,101],[70,49],[70,50],[70,51],[70,52],[70,53],[70,54],[70,55],[70,56],[70,57],[70,49,48],[70,49,49],[70,49,50],[66,84,97,98],[69,115,99,97,112,101],[77,111,117,115,101,68,111,119,110],[77,111,117,115,101,85,112],[77,111,117,115,101,68,114,97,103],[87,104,101,101,108,85,112],[87,104,101,101,108,68,111,119,110],[80,97,115,116,101,66,101,103,105,110],[80,97,115,116,101,69,110,100]]
def mf:Bytes:=[85,112,32,68,111,119,110,32,76,101,102,116,32,82,105,103,104,116,32,72,111,109,101,32,69,110,100,32,73,67,32,68,67,32,80,80,97,103,101,32,78,80,97,103,101,32,70,49,32,70,50,32,70,51,32,70,52,32,70,53,32,70,54,32,70,55,32,70,56,32,70,57,32,70,49,48,32,70,49,49,32,70,49,50,32,66,84,97,98,32,69,115,99,97,112,101,32,77,111,117,115,101,68,111,119,110,32,77,111,117,115,101,85,112,32,77,111,117,115,101,68,114,97,103,32,87,104,101,101,108,85,112,32,87,104,101,101,108,68,111,119,110,32,80,97,115,116,101,66,101,103,105,110,32,80,97,115,116,101,69,110,100]
def xk(r:Int):Bool:=decide ((768<=r/\r<=879)∨(8203<=r/\r<=8207)∨(65024<=r/\r<=65039))
def wZ(r:Int):Bool:=decide ((4352<=r/\r<=4447)∨(11904<=r/\r<=12350)∨(12353<=r/\r<=19903)∨(19968<=r/\r<=42191)∨(44032<=r/\r<=55203)∨(63744<=r/\r<=64255)∨(65072<=r/\r<=65135)∨(65280<=r/\r<=65376)∨(65504<=r/\r<=65510)∨(127744<=r/\r<=128591)∨(129280<=r/\r<=129535)∨(131072<=r/\r<=262141))
def width(r:Int):Int:=if r<32∨r>1114111∨(127<=r/\r<=159)then-1 else if xk r then 0 else if wZ r then 2 else 1
def named(c:Int):Bytes:=if c=9 then[84,97,98]else if c=13 then[69,110,116,101,114]else if c=32 then[83,112,97,99,101]else if c=127 then[66,83,112,97,99,101]else if 1114112<=c/\c<1114143 then bH[(c-1114112).toNat]?.getD []else if 32<c/\c<=1114111/\Xv c/\0<width c then(Xj c).data.toList else[]
def right(k:Ky):Bool:=if named k.code=[]∨k.aw<0∨7<k.aw then false else if(1114112<=k.code/\k.code<=1114133)∨(1114136<=k.code/\k.code<=1114140)then true else if k.code=1114141∨k.code=1114142 then decide (k.aw=0)else if k.aw%2≠0 then false else if k.aw/4=0 then true else decide ((97<=k.code/\k.code<=122/\k.code≠105/\k.code≠109)∨(92<=k.code/\k.code<=95)∨k.code=32)
def bE(k:Ky):Bytes:=if right k then(if k.aw/4%2=1 then[67,45]else[])++(if k.aw/2%2=1 then[77,45]else[])++(if k.aw%2=1 then[83,45]else[])++named k.code else[]
structure Bd where
 table:Bytes
 key:Ky
 rep:Bool
 note:Bytes
 list:List (List Px.ag)
def Cj:Bytes->Bytes->Bool:=WI
def ahead(a b:Bd):Bool:=Cj a.table b.table||(a.table==b.table&&(decide (a.key.code<b.key.code)||(decide (a.key.code=b.key.code)&&decide (a.key.aw<b.key.aw))))
def same(t:Bytes)(k:Ky)(b:Bd):Bool:=b.table==t&&decide (b.key=k)
def find(T:List Bd)(t:Bytes)(k:Ky):Option Bd:=T.find? (same t k)
def drop(T:List Bd)(t:Bytes)(k:Ky):List Bd:=T.filter fun b=>!same t k b
def ins(b:Bd):List Bd->List Bd|[]=>[b]|x::l=>if ahead b x then b::x::l else x::ins b l
def put(T:List Bd)(b:Bd):List Bd:=ins b (drop T b.table b.key)
def gC:Bytes:=[97,98,99,100,101,102,103,104,105,106,107,108,109,110,111,112,113,114,115,116,117,118,119,120,121,122,65,66,67,68,69,70,71,72,73,74,75,76,77,78,79,80,81,82,83,84,85,86,87,88,89,90,48,49,50,51,52,53,54,55,56,57,45,95]
def fw(s:Bytes):Bool:=!s.isEmpty&&decide (s.length<=64)&&s.all (gC.contains ·)
def kA(T:List Bd)(b:Bd):Int:=if !fw b.table then 6 else if !right b.key then 1 else if 64<b.note.length then 2 else if(find T b.table b.key).isNone&&decide (500<=T.length)then 3 else 0
def bZ(b:Bd):List Bytes:=[[98,105,110,100,45,107,101,121]]++(if b.rep then[[45,114]]else[])++(if b.note≠[]then[[45,78],b.note]else[])++[[45,84],b.table,bE b.key]++(if Px.print b.list≠[]then[(Px.print b.list).dropLast]else[])
def print(l:List Bd):Bytes:=l.flatMap fun b=>if right b.key then Lx.cat (bZ b)++[10]else[]
def firstT:Bytes:=[98,105,110,100,45,107,101,121,32,45,84,32,112,114,101,102,105,120,32,67,45,98,32,115,101,110,100,45,112,114,101,102,105,120,10,98,105,110,100,45,107,101,121,32,45,84,32,112,114,101,102,105,120,32,99,32,110,101,119,45,119,105,110,100,111,119,10,98,105,110,100,45,107,101,121,32,45,84,32,112,114,101,102,105,120,32,110,32,110,101,120,116,45,119,105,110,100,111,119,10,98,105,110,100,45,107,101,121,32,45,84,32,112,114,101,102,105,120,32,112,32,112,114,101,118,105,111,117,115,45,119,105,110,100,111,119,10,98,105,110,100,45,107,101,121,32,45,84,32,112,114,101,102,105,120,32,108,32,108,97,115,116,45,119,105,110,100,111,119,10,98,105,110,100,45,107,101,121,32,45,84,32,112,114,101,102,105,120,32,37,32,115,112,108,105,116,45,119,105,110,100,111,119,32,45,104,10,98,105,110,100,45,107,101,121,32,45,84,32,112,114,101,102,105,120,32,39,34,39,32,115,112,108,105,116,45,119,105,110,100,111,119,10,98,105,110,100,45,107,101,121,32,45,84,32,112,114,101,102,105,120,32,120,32,107,105,108,108,45,112,97,110,101,10,98,105,110,100,45,107,101,121,32,45,84,32,112,114,101,102,105,120,32,39,38,39,32,107,105,108,108,45,119,105,110,100,111,119,10,98,105,110,100,45,107,101,121,32,45,84,32,112,114,101,102,105,120,32,100,32,100,101,116,97,99,104,45,99,108,105,101,110,116,10,98,105,110,100,45,107,101,121,32,45,84,32,112,114,101,102,105,120,32,122,32,114,101,115,105,122,101,45,112,97,110,101,32,45,90,10,98,105,110,100,45,107,101,121,32,45,84,32,112,114,101,102,105,120,32,111,32,115,101,108,101,99,116,45,112,97,110,101,32,45,116,32,58,46,43,10,98,105,110,100,45,107,101,121,32,45,84,32,112,114,101,102,105,120,32,39,59,39,32,108,97,115,116,45,112,97,110,101,10,98,105,110,100,45,107,101,121,32,45,84,32,112,114,101,102,105,120,32,39,33,39,32,98,114,101,97,107,45,112,97,110,101,10,98,105,110,100,45,107,101,121,32,45,84,32,112,114,101,102,105,120,32,39,123,39,32,115,119,97,112,45,112,97,110,101,32,45,85,10,98,105,110,100,45,107,101,121,32,45,84,32,112,114,101,102,105,120,32,39,125,39,32,115,119,97,112,45,112,97,110,101,32,45,68,10,98,105,110,100,45,107,101,121,32,45,84,32,112,114,101,102,105,120,32,83,112,97,99,101,32,110,101,120,116,45,108,97,121,111,117,116,10,98,105,110,100,45,107,101,121,32,45,84,32,112,114,101,102,105,120,32,67,45,111,32,114,111,116,97,116,101,45,119,105,110,100,111,119,10,98,105,110,100,45,107,101,121,32,45,84,32,112,114,101,102,105,120,32,39,91,39,32,99,111,112,121,45,109,111,100,101,10,98,105,110,100,45,107,101,121,32,45,84,32,112,114,101,102,105,120,32,39,93,39,32,112,97,115,116,101,45,98,117,102,102,101,114,10,98,105,110,100,45,107,101,121,32,45,84,32,112,114,101,102,105,120,32,39,35,39,32,108,105,115,116,45,98,117,102,102,101,114,115,10,98,105,110,100,45,107,101,121,32,45,84,32,112,114,101,102,105,120,32,39,63,39,32,108,105,115,116,45,107,101,121,115,10,98,105,110,100,45,107,101,121,32,45,84,32,112,114,101,102,105,120,32,115,32,108,105,115,116,45,115,101,115,115,105,111,110,115,10,98,105,110,100,45,107,101,121,32,45,84,32,112,114,101,102,105,120,32,119,32,108,105,115,116,45,119,105,110,100,111,119,115,10,98,105,110,100,45,107,101,121,32,45,84,32,112,114,101,102,105,120,32,39,40,39,32,115,119,105,116,99,104,45,99,108,105,101,110,116,32,45,112,10,98,105,110,100,45,107,101,121,32,45,84,32,112,114,101,102,105,120,32,39,41,39,32,115,119,105,116,99,104,45,99,108,105,101,110,116,32,45,110,10,98,105,110,100,45,107,101,121,32,45,84,32,112,114,101,102,105,120,32,76,32,115,119,105,116,99,104,45,99,108,105,101,110,116,32,45,108,10,98,105,110,100,45,107,101,121,32,45,84,32,112,114,101,102,105,120,32,109,32,115,101,108,101,99,116,45,112,97,110,101,32,45,109,10,98,105,110,100,45,107,101,121,32,45,84,32,112,114,101,102,105,120,32,77,32,115,101,108,101,99,116,45,112,97,110,101,32,45,77,10,98,105,110,100,45,107,101,121,32,45,84,32,112,114,101,102,105,120,32,48,32,115,101,108,101,99,116,45,119,105,110,100,111,119,32,45,116,32,58,48,10,98,105,110,100,45,107,101,121,32,45,84,32,112,114,101,102,105,120,32,49,32,115,101,108,101,99,116,45,119,105,110,100,111,119,32,45,116,32,58,49,10,98,105,110,100,45,107,101,121,32,45,84,32,112,114,101,102,105,120,32,50,32,115,101,108,101,99,116,45,119,105,110,100,111,119,32,45,116,32,58,50,10,98,105,110,100,45,107,101,121,32,45,84,32,112,114,101,102,105,120,32,51,32,115,101,108,101,99,116,45,119,105,110,100,111,119,32,45,116,32,58,51,10,98,105,110,100,45,107,101,121,32,45,84,32,112,114,101,102,105,120,32,52,32,115,101,108,101,99,116,45,119,105,110,100,111,119,32,45,116,32,58,52,10,98,105,110,100,45,107,101,121,32,45,84,32,112,114,101,102,105,120,32,53,32,115,101,108,101,99,116,45,119,105,110,100,111,119,32,45,116,32,58,53,10,98,105,110,100,45,107,101,121,32,45,84,32,112,114,101,102,105,120,32,54,32,115,101,108,101,99,116,45,119,105,110,100,111,119,32,45,116,32,58,54,10,98,105,110,100,45,107,101,121,32,45,84,32,112,114,101,102,105,120,32,55,32,115,101,108,101,99,116,45,119,105,110,100,111,119,32,45,116,32,58,55,10,98,105,110,100,45,107,101,121,32,45,84,32,112,114,101,102,105,120,32,56,32,115,101,108,101,99,116,45,119,105,110,100,111,119,32,45,116,32,58,56,10,98,105,110,100,45,107,101,121,32,45,84,32,112,114,101,102,105,120,32,57,32,115,101,108,101,99,116,45,119,105,110,100,111,119,32,45,116,32,58,57,10,98,105,110,100,45,107,101,121,32,45,114,32,45,84,32,112,114,101,102,105,120,32,85,112,32,115,101,108,101,99,116,45,112,97,110,101,32,45,85,10,98,105,110,100,45,107,101,121,32,45,114,32,45,84,32,112,114,101,102,105,120,32,67,45,85,112,32,114,101,115,105,122,101,45,112,97,110,101,32,45,85,10,98,105,110,100,45,107,101,121,32,45,114,32,45,84,32,112,114,101,102,105,120,32,77,45,85,112,32,114,101,115,105,122,101,45,112,97,110,101,32,45,85,32,53,10,98,105,110,100,45,107,101,121,32,45,114,32,45,84,32,112,114,101,102,105,120,32,68,111,119,110,32,115,101,108,101,99,116,45,112,97,110,101,32,45,68,10,98,105,110,100,45,107,101,121,32,45,114,32,45,84,32,112,114,101,102,105,120,32,67,45,68,111,119,110,32,114,101,115,105,122,101,45,112,97,110,101,32,45,68,10,98,105,110,100,45,107,101,121,32,45,114,32,45,84,32,112,114,101,102,105,120,32,77,45,68,111,119,110,32,114,101,115,105,122,101,45,112,97,110,101,32,45,68,32,53,10,98,105,110,100,45,107,101,121,32,45,114,32,45,84,32,112,114,101,102,105,120,32,76,101,102,116,32,115,101,108,101,99,116,45,112,97,110,101,32,45,76,10,98,105,110,100,45,107,101,121,32,45,114,32,45,84,32,112,114,101,102,105,120,32,67,45,76,101,102,116,32,114,101,115,105,122,101,45,112,97,110,101,32,45,76,10,98,105,110,100,45,107,101,121,32,45,114,32,45,84,32,112,114,101,102,105,120,32,77,45,76,101,102,116,32,114,101,115,105,122,101,45,112,97,110,101,32,45,76,32,53,10,98,105,110,100,45,107,101,121,32,45,114,32,45,84,32,112,114,101,102,105,120,32,82,105,103,104,116,32,115,101,108,101,99,116,45,112,97,110,101,32,45,82,10,98,105,110,100,45,107,101,121,32,45,114,32,45,84,32,112,114,101,102,105,120,32,67,45,82,105,103,104,116,32,114,101,115,105,122,101,45,112,97,110,101,32,45,82,10,98,105,110,100,45,107,101,121,32,45,114,32,45,84,32,112,114,101,102,105,120,32,77,45,82,105,103,104,116,32,114,101,115,105,122,101,45,112,97,110,101,32,45,82,32,53,10,98,105,110,100,45,107,101,121,32,45,84,32,112,114,101,102,105,120,32,77,45,49,32,115,101,108,101,99,116,45,108,97,121,111,117,116,32,101,118,101,110,45,104,111,114,105,122,111,110,116,97,108,10,98,105,110,100,45,107,101,121,32,45,84,32,112,114,101,102,105,120,32,77,45,50,32,115,101,108,101,99,116,45,108,97,121,111,117,116,32,101,118,101,110,45,118,101,114,116,105,99,97,108,10,98,105,110,100,45,107,101,121,32,45,84,32,112,114,101,102,105,120,32,77,45,51,32,115,101,108,101,99,116,45,108,97,121,111,117,116,32,109,97,105,110,45,104,111,114,105,122,111,110,116,97,108,10,98,105,110,100,45,107,101,121,32,45,84,32,112,114,101,102,105,120,32,77,45,52,32,115,101,108,101,99,116,45,108,97,121,111,117,116,32,109,97,105,110,45,118,101,114,116,105,99,97,108,10,98,105,110,100,45,107,101,121,32,45,84,32,112,114,101,102,105,120,32,77,45,53,32,115,101,108,101,99,116,45,108,97,121,111,117,116,32,116,105,108,101,100,10,98,105,110,100,45,107,101,121,32,45,84,32,99,111,112,121,45,109,111,100,101,32,113,32,115,101,110,100,45,107,101,121,115,32,45,88,32,99,97,110,99,101,108,10,98,105,110,100,45,107,101,121,32,45,84,32,99,111,112,121,45,109,111,100,101,32,69,115,99,97,112,101,32,115,101,110,100,45,107,101,121,115,32,45,88,32,99,97,110,99,101,108,10,98,105,110,100,45,107,101,121,32,45,84,32,99,111,112,121,45,109,111,100,101,32,85,112,32,115,101,110,100,45,107,101,121,115,32,45,88,32,99,117,114,115,111,114,45,117,112,10,98,105,110,100,45,107,101,121,32,45,84,32,99,111,112,121,45,109,111,100,101,32,68,111,119,110,32,115,101,110,100,45,107,101,121,115,32,45,88,32,99,117,114,115,111,114,45,100,111,119,110,10,98,105,110,100,45,107,101,121,32,45,84,32,99,111,112,121,45,109,111,100,101,32,76,101,102,116,32,115,101,110,100,45,107,101,121,115,32,45,88,32,99,117,114,115,111,114,45,108,101,102,116,10,98,105,110,100,45,107,101,121,32,45,84,32,99,111,112,121,45,109,111,100,101,32,82,105,103,104,116,32,115,101,110,100,45,107,101,121,115,32,45,88,32,99,117,114,115,111,114,45,114,105,103,104,116,10,98,105,110,100,45,107,101,121,32,45,84,32,99,111,112,121,45,109,111,100,101,32,80,80,97,103,101,32,115,101,110,100,45,107,101,121,115,32,45,88,32,112,97,103,101,45,117,112,10,98,105,110,100,45,107,101,121,32,45,84,32,99,111,112,121,45,109,111,100,101,32,78,80,97,103,101,32,115,101,110,100,45,107,101,121,115,32,45,88,32,112,97,103,101,45,100,111,119,110,10,98,105,110,100,45,107,101,121,32,45,84,32,99,111,112,121,45,109,111,100,101,32,103,32,115,101,110,100,45,107,101,121,115,32,45,88,32,104,105,115,116,111,114,121,45,116,111,112,10,98,105,110,100,45,107,101,121,32,45,84,32,99,111,112,121,45,109,111,100,101,32,71,32,115,101,110,100,45,107,101,121,115,32,45,88,32,104,105,115,116,111,114,121,45,98,111,116,116,111,109,10,98,105,110,100,45,107,101,121,32,45,84,32,99,111,112,121,45,109,111,100,101,32,72,111,109,101,32,115,101,110,100,45,107,101,121,115,32,45,88,32,115,116,97,114,116,45,111,102,45,108,105,110,101,10,98,105,110,100,45,107,101,121,32,45,84,32,99,111,112,121,45,109,111,100,101,32,69,110,100,32,115,101,110,100,45,107,101,121,115,32,45,88,32,101,110,100,45,111,102,45,108,105,110,101,10,98,105,110,100,45,107,101,121,32,45,84,32,99,111,112,121,45,109,111,100,101,32,119,32,115,101,110,100,45,107,101,121,115,32,45,88,32,110,101,120,116,45,119,111,114,100,10,98,105,110,100,45,107,101,121,32,45,84,32,99,111,112,121,45,109,111,100,101,32,98,32,115,101,110,100,45,107,101,121,115,32,45,88,32,112,114,101,118,105,111,117,115,45,119,111,114,100,10,98,105,110,100,45,107,101,121,32,45,84,32,99,111,112,121,45,109,111,100,101,32,83,112,97,99,101,32,115,101,110,100,45,107,101,121,115,32,45,88,32,98,101,103,105,110,45,115,101,108,101,99,116,105,111,110,10,98,105,110,100,45,107,101,121,32,45,84,32,99,111,112,121,45,109,111,100,101,32,69,110,116,101,114,32,115,101,110,100,45,107,101,121,115,32,45,88,32,99,111,112,121,45,115,101,108,101,99,116,105,111,110,45,97,110,100,45,99,97,110,99,101,108,10]
def cutAt(c:UInt8):Bytes->List Bytes|[]=>[[]]|b::r=>if b=c then[]::cutAt c r else match cutAt c r with|[]=>[[b]]|x::t=>(b::x)::t
def bV:List (List Bytes):=(cutAt 10 firstT).dropLast.map fun l=>(cutAt 32 l).map fun w=>w.filter (·!=39)
theorem zM:Lx.cf (bV.map fun t=>[t])=firstT:=by decide+kernel
theorem IZ:(bV.all fun t=>Px.iN t)=true:=by decide+kernel
def br(s:ByteArray):Nat×Nat:=if s.size=0 then(65533,0)else Utf8.decode s 0
def codeOf(s:Bytes):Int:=if s=named 9 then 9 else if s=named 13 then 13 else if s=named 32 then 32 else if s=named 127 then 127 else match bH.idxOf? s with|some i=>1114112+i|none=>let d:=br ⟨s.toArray⟩;if d.2=0∨d.2≠s.length∨(d.1=65533/\d.2=1)∨named d.1≠s then-1 else d.1
def iR(k:Ky):Ky:=let c:=if 65<=k.code/\k.code<=90 then k.code+32 else k.code;let m:=k.aw%4;if c=105 then⟨9,m⟩else if c=109 then⟨13,m⟩else if c=91 then⟨1114135,m⟩else if c=64 then⟨32,k.aw⟩else⟨c,k.aw⟩
def bF(b:UInt8):Int:=if b=67 then 4 else if b=77 then 2 else if b=83 then 1 else 0
def fM:Nat->Bytes->Int->Option (Bytes×Int)|0,s,m=>some (s,m)|n+1,s,m=>match s with|a::d::r=>if d=45/\r≠[]/\bF a≠0 then(if m/bF a%2=1 then none else fM n r (m+bF a))else some (s,m)|_=>some (s,m)
def jY(s:Bytes):Option Ky:=match fM s.length s 0 with|none=>none|some (r,m)=>let k:Ky:=⟨codeOf r,m⟩;let k:=if m/4%2=1 then iR k else k;if right k then some k else none
def fq(t:List Bytes):Bd:=let c:=Px.bq t;⟨(Px.at_ c.flags 84).getD [112,114,101,102,105,120],(jY (c.args.headD [])).getD ⟨0,0⟩,(Px.at_ c.flags 114).isSome,(Px.at_ c.flags 78).getD [],[[Px.bq c.args.tail]]⟩
def start:List Bd:=(bV.map fq).foldl put []
end Bx
end
section
open Lx(Bytes)
theorem mM:∀a:Bytes,WI a a=false
|[]=>rfl
|x::a=>by
  have h:(x<x)=False:=by simp
  simp only[WI,mM a,Bool.and_false,Bool.or_false];simp
theorem yr:∀{a b c:Bytes},WI a b=true->WI b c=true->WI a c=true
|_,_,[],_,h=>by cases‹List UInt8›<;>simp[WI]at h
|_,[],_::_,h,_=>by cases‹List UInt8›<;>simp[WI]at h
|[],_::_,_::_,_,_=>rfl
|x::a,y::b,z::c,e,d=>by
  simp only[WI,Bool.or_eq_true,Wd,decide_eq_true_eq,beq_iff_eq]at e d⊢;rcases e with e|⟨rfl,e⟩
  ·rcases d with d|⟨rfl,d⟩;. exact .inl (by rw[UInt8.lt_iff_toNat_lt]at*;omega)
   ·exact .inl e
  ·rcases d with d|⟨rfl,d⟩;. exact .inl d
   ·exact .inr ⟨rfl,yr e d⟩
theorem qx:∀{a b:Bytes},a≠b->WI a b=true∨WI b a=true
|[],[],h=>absurd rfl h
|[],_::_,_=>.inl rfl
|_::_,[],_=>.inr rfl
|x::a,y::b,h=>by
  simp only[WI,Bool.or_eq_true,Wd,decide_eq_true_eq,beq_iff_eq];by_cases e:x=y
  ·subst e;rcases qx (a:=a) (b:=b) (fun e=>h (by rw[e]))with h|h;. exact .inl (.inr ⟨rfl,h⟩)
   ·exact .inr (.inr ⟨rfl,h⟩)
  ·have :x.toNat≠y.toNat:=fun e2=>e (UInt8.toNat_inj.1 e2);rw[UInt8.lt_iff_toNat_lt,UInt8.lt_iff_toNat_lt];rcases Nat.lt_or_gt_of_ne this with h|h;. exact .inl (.inl h)
   ·exact .inr (.inl h)
theorem nB(a:Int)(w:World):Calls VI 49 #[.int .i64 a] w fun e w'=>e=.returned (.bool false)/\w=w':=by
 have d:(a !=a)=false:=by simp
 go_enter func49,ntmps49;go_wp2_with fail;go_ret;exact⟨rfl,rfl⟩
theorem nC(a:ByteArray)(w:World):Calls VI 48 #[.string a] w fun e w'=>e=.returned (.bool false)/\w=w':=by
 have d:(a.toList !=a.toList)=false:=by simp
 go_enter func48,ntmps48;go_wp2_with fail;go_ret;exact⟨rfl,rfl⟩
def dR(a b:Int):Int:=if a<b then-1 else if b<a then 1 else 0
theorem G6(a b:Int)(w:World):Calls VI 23 #[.int .i64 a,.int .i64 b] w fun e c=>e=.returned (.int .i64 (dR a b))/\w=c:=by
 by_cases h:a<b;. have j:decide (a<b)=true:=decide_eq_true h;have d:=VH (show dR a b=-1 by rw[dR,if_pos h]);go_enter func23,ntmps23;go_wp2_with fail;refine(nB _ _).mono ?_;rintro e c⟨rfl,rfl⟩;go_wp2_with fail;refine(nB _ _).mono ?_;rintro e c⟨rfl,rfl⟩;go_wp2_with fail;go_ret;exact⟨by rw[d.out];rfl,rfl⟩
 ·have j:decide (a<b)=false:=decide_eq_false h;by_cases i:b<a;case' pos=>have k:decide (b<a)=true:=decide_eq_true i;have d:=VH (show dR a b=1 by rw[dR,if_neg h,if_pos i])
  case' neg=>have k:decide (b<a)=false:=decide_eq_false i;have d:=VH (show dR a b=0 by rw[dR,if_neg h,if_neg i])
  all_goals go_enter func23,ntmps23;go_wp2_with fail;refine(nB _ _).mono ?_;rintro e c⟨rfl,rfl⟩;go_wp2_with fail;refine(nB _ _).mono ?_;rintro e c⟨rfl,rfl⟩;go_wp2_with fail;go_ret;exact⟨by rw[d.out];rfl,rfl⟩
def fg(a b:Bytes):Int:=if WI a b then-1 else if WI b a then 1 else 0
theorem G8(a b:ByteArray)(w:World):Calls VI 22 #[.string a,.string b] w fun e d=>e=.returned (.int .i64 (fg (sl a) (sl b)))/\w=d:=by
 by_cases i:WI (sl a) (sl b)=true
 ·have k:WI a.toList b.toList=true:=by rw[aS,aS];exact i
  have j:=VH (show fg (sl a) (sl b)=-1 by rw[fg,if_pos i]);go_enter func22,ntmps22;go_wp2_with fail;refine(nC _ _).mono ?_;rintro e d⟨rfl,rfl⟩;go_wp2_with fail;refine(nC _ _).mono ?_;rintro e d⟨rfl,rfl⟩;go_wp2_with fail;go_ret;exact⟨by rw[j.out];rfl,rfl⟩
 ·have k:WI a.toList b.toList=false:=by rw[aS,aS];simpa using i
  by_cases c:WI (sl b) (sl a)=true
  case' pos=>
   have l:WI b.toList a.toList=true:=by rw[aS,aS];exact c
   have m:(a.toList==b.toList)=false:=nY fun e=>by rw[e,mM]at c;cases c
   have j:=VH (show fg (sl a) (sl b)=1 by rw[fg,if_neg i,if_pos c])
  case' neg=>
   have l:WI b.toList a.toList=false:=by rw[aS,aS];simpa using c
   have m:(a.toList==b.toList)=true:=by
    rw[beq_iff_eq,aS,aS];by_cases e:sl a=sl b;. exact e
    ·rcases qx e with h|h;. exact absurd h i
     ·exact absurd h c
   have j:=VH (show fg (sl a) (sl b)=0 by rw[fg,if_neg i,if_neg c])
  all_goals go_enter func22,ntmps22;go_wp2_with fail;refine(nC _ _).mono ?_;rintro e d⟨rfl,rfl⟩;go_wp2_with fail;refine(nC _ _).mono ?_;rintro e d⟨rfl,rfl⟩;go_wp2_with fail;go_ret;exact⟨by rw[j.out];rfl,rfl⟩
def eP(l:List Int):Int:=(l.find? (·!=0)).getD 0
theorem O_{l:List Int}(h:k<l.length):eP (l.drop k)=if l[k]!=0 then l[k]else eP (l.drop (k+1)):=by
 rw[List.drop_eq_getElem_cons h];by_cases e:(l[k]!=0)=true;. simp only[eP,List.find?_cons,e,if_true,Option.getD]
 ·have e:(l[k]!=0)=false:=by simpa using e
  simp only[eP,List.find?_cons,e];rfl
def kP(l:List Int):List Value:=l.map fun x=>.int .i64 x
theorem Pb{c:Nat}(l:List Int)(o:ad w g 3 (kP l).toArray)(u:l.length<=100):Calls VI 21 #[.slice (some ⟨g,0,none⟩) l.length c] w fun e w'=>e=.returned (.int .i64 (eP l))/\w=w':=by
 have q:=VH o;have y:(l.length:Int)<=100:=by omega
 have j:=VH (show eP (l.drop 0)=eP l from rfl);clear o;go_enter func21,ntmps21;go_wp2_with fail;go_loop[8](fun i=>∃k:Nat,i=.int .i64 k/\k<=l.length/\eP (l.drop k)=eP l)(fun i=>l.length-(intOf i).toNat);case atStart=>exact⟨0,rfl,Nat.zero_le _,j.out⟩
 case round=>
  obtain⟨k,rfl,t,p⟩:=hrel;have m:=VH p;clear p j;by_cases h:k<l.length
  ·have hB:=q.out;have c0:=(hB.cell k).trans (show(kP l).toArray[k]?=some (.int .i64 l[k])by simp[kP,h]);have z:=hB.lt;have d:=O_ h;rw[m.out]at d;have b:=VH d;clear hB d;generalize l[k]=x at c0 b;by_cases n:x=0
   ·subst n;have a:=VH (show eP (l.drop (k+1))=eP l by rw[b.out];rfl);go_wp2_with fail;go_round;case rel=>exact⟨k+1,by go_num,h,a.out⟩
    case measure=>simp[intOf];omega
   ·have r:(x !=0)=true:=by rw[bne_iff_ne];exact n
    have a:=VH (show eP l=x by rw[b.out,r];rfl);clear b;go_wp2_with fail;go_ret;exact⟨by rw[a.out];rfl,rfl⟩
  ·have a:=VH (show eP l=0 by rw[<-m.out,List.drop_eq_nil_of_le (by omega)];rfl);go_wp2_with fail;go_ret;exact⟨by rw[a.out];rfl,rfl⟩
namespace Bx
open Lx(Bytes)
def place(b:Bd):Bytes×Ky:=(b.table,b.key)
theorem mK{a b:Bd}:ahead a b=true↔WI a.table b.table=true∨(a.table=b.table/\(a.key.code<b.key.code∨(a.key.code=b.key.code/\a.key.aw<b.key.aw))):=by simp[ahead,Cj]
theorem oz{a b c:Bd}(e:ahead a b=true)(d:ahead b c=true):ahead a c=true:=by
 rw[mK]at*;rcases e with e|⟨i,e⟩
 ·rcases d with d|⟨h,d⟩;. exact .inl (yr e d)
  ·exact .inl (h▸e)
 ·rcases d with d|⟨h,d⟩;. exact .inl (i▸d)
  ·refine .inr ⟨i.trans h,?_⟩;omega
theorem oy(a:Bd):ahead a a=false:=by
 cases h:ahead a a;. rfl
 ·rw[mK,mM]at h;rcases h with h|⟨-,h⟩;. cases h
  ·omega
theorem tm{a b:Bd}(h:place a≠place b):ahead a b=true∨ahead b a=true:=by
 rw[mK,mK];by_cases e:a.table=b.table
 ·by_cases c:a.key.code=b.key.code
  ·by_cases d:a.key.aw=b.key.aw
   ·refine absurd ?_ h;have :a.key=b.key:=by cases i:a.key;cases j:b.key;rw[i]at c d;rw[j]at c d;simp only at c d;rw[c,d]
    simp[place,e,this]
   ·have :a.key.aw<b.key.aw∨b.key.aw<a.key.aw:=by omega
    rcases this with h|h;. exact .inl (.inr ⟨e,.inr ⟨c,h⟩⟩)
    ·exact .inr (.inr ⟨e.symm,.inr ⟨c.symm,h⟩⟩)
  ·have :a.key.code<b.key.code∨b.key.code<a.key.code:=by omega
   rcases this with h|h;. exact .inl (.inr ⟨e,.inl h⟩)
   ·exact .inr (.inr ⟨e.symm,.inl h⟩)
 ·rcases qx e with h|h;. exact .inl (.inl h)
  ·exact .inr (.inl h)
theorem fE{t:Bytes}{k:Ky}{b:Bd}:same t k b=true↔place b=(t,k):=by simp[same,place]
abbrev aH(T:List Bd):Prop:=T.Pairwise fun a b=>ahead a b=true
theorem D9{T:List Bd}(h:aH T):T.Pairwise fun a b=>place a≠place b:=h.imp fun{a b}c e=>by
 have :ahead a b=ahead a a:=by have d:b.table=a.table:=(congrArg Prod.fst e).symm;have i:b.key=a.key:=(congrArg Prod.snd e).symm;simp only[ahead,d,i]
 rw[this,oy]at c;cases c
theorem o0{b x:Bd}:∀{T:List Bd},x∈ins b T↔x=b∨x∈T
|[]=>by simp[ins]
|y::T=>by
  unfold ins;split;. simp
  ·simp only[List.mem_cons,o0];constructor
   all_goals
    rintro(h|h|h);. exact .inr (.inl h)
    ·exact .inl h
    ·exact .inr (.inr h)
theorem AM{b:Bd}:∀{T:List Bd},aH T->(∀x∈T,place x≠place b)->aH (ins b T)
|[],_,_=>List.pairwise_singleton _ _
|y::T,h,e=>by
  obtain⟨d,i⟩:=Wn.1 h;unfold ins;split
  ·rename_i c
   exact Wn.2 ⟨fun x a=>by
    rcases List.mem_cons.1 a with rfl|a;. exact c
    ·exact oz c (d x a),h⟩
  ·rename_i c;have j:ahead y b=true:=(tm (e y (by simp))).resolve_right (by simpa using c);refine Wn.2 ⟨fun x a=>?_,AM i fun x a=>e x (List.mem_cons_of_mem _ a)⟩;rcases o0.1 a with rfl|a;. exact j
   ·exact d x a
theorem zu{T:List Bd}{t:Bytes}{k:Ky}(h:aH T):aH (drop T t k):=h.filter _
theorem zr{T:List Bd}{t:Bytes}{k:Ky}:∀x∈drop T t k,place x≠(t,k):=fun x a e=>by have :=(List.mem_filter.1 a).2;rw[fE.2 e]at this;cases this
theorem Qw{T:List Bd}(b:Bd)(h:aH T):aH (put T b):=AM (zu h) zr
theorem m_{T:List Bd}{t:Bytes}{k:Ky}:find T t k=none↔∀x∈T,place x≠(t,k):=by rw[find,List.find?_eq_none];exact⟨fun h x a e=>h x a (fE.2 e),fun h x a e=>h x a (fE.1 e)⟩
end Bx
end
section
namespace Bx
open Lx(Bytes)
theorem fU(h:k<256):(Xd k).toNat=k:=by rw[UInt8.toNat_ofNat'];exact Nat.mod_eq_of_lt h
theorem bsize(E:ByteArray):E.size=E.data.toList.length:=by rw[Array.length_toList];rfl
theorem zc(y:Utf8.valid k=true):Utf8.decode (Xj k) 0=(k,(Xj k).size)/\((Xj k).data.toList.length=1∨∃b r,(Xj k).data.toList=b::r/\128<=b.toNat/\r[0]?≠some 45)/\(Xj k).size≠0/\(k=65533->(Xj k).size=3):=by
 have E:k<55296∨(57344<=k/\k<=1114111):=by simp[Utf8.valid]at y;omega
 rw[Lib.decode_at];unfold Xj;simp only[y,if_true,Int.toNat_natCast];have x:∀n:Nat,n<256->Xd n=45->n=45:=fun n h e=>by have :=congrArg UInt8.toNat e;rw[fU h]at this;exact this
 by_cases o:k<128;. rw[if_pos o];refine⟨?_,.inl rfl,Nat.succ_ne_zero _,fun e=>absurd o (by omega)⟩;show YA 1 (Xd k).toNat _ _ _=(k,1);rw[fU (by omega)];unfold YA;simp[o]
 rw[if_neg o];by_cases t:k<2048
 ·rw[if_pos t];refine⟨?_,.inr ⟨_,_,rfl,by rw[fU (by omega)];omega,fun e=>?_⟩,Nat.succ_ne_zero _,fun e=>absurd t (by omega)⟩
  ·show YA 2 (Xd (192+k/64)).toNat (Xd (128+k%64)).toNat _ _=(k,2);rw[fU (by omega),fU (by omega)];unfold YA;obtain⟨a,j⟩:∃a,192+k/64=a:=⟨_,rfl⟩;obtain⟨c,l⟩:∃c,128+k%64=c:=⟨_,rfl⟩;rw[j,l];have i:¬a<128:=by omega
   have a2:a/32=6:=by omega
   have a3:c/64=2:=by omega
   have a4:a%32*64+c%64=k:=by omega
   have a5:128<=k:=by omega
   simp[i,a2,a3,a4,a5]
  ·have e:=Option.some.inj e;have :=x _ (by omega) e;omega
 rw[if_neg t];by_cases u:k<65536
 ·rw[if_pos u];refine⟨?_,.inr ⟨_,_,rfl,by rw[fU (by omega)];omega,fun e=>?_⟩,Nat.succ_ne_zero _,fun _=>rfl⟩
  ·show YA 3 (Xd (224+k/4096)).toNat (Xd (128+k/64%64)).toNat (Xd (128+k%64)).toNat _=(k,3);rw[fU (by omega),fU (by omega),fU (by omega)];unfold YA;obtain⟨a,j⟩:∃a,224+k/4096=a:=⟨_,rfl⟩;obtain⟨c,l⟩:∃c,128+k/64%64=c:=⟨_,rfl⟩;obtain⟨d,w⟩:∃d,128+k%64=d:=⟨_,rfl⟩;rw[j,l,w];have i:¬a<128:=by omega
   have a2:¬a/32=6:=by omega
   have a3:a/16=14:=by omega
   have a5:c/64=2:=by omega
   have p:d/64=2:=by omega
   have a4:a%16*4096+c%64*64+d%64=k:=by omega
   have q:2048<=k:=by omega
   simp[i,a2,a3,a4,a5,p,q];omega
  ·have e:=Option.some.inj e;have :=x _ (by omega) e;omega
 ·rw[if_neg u];refine⟨?_,.inr ⟨_,_,rfl,by rw[fU (by omega)];omega,fun e=>?_⟩,Nat.succ_ne_zero _,fun e=>absurd u (by omega)⟩
  ·show YA 4 (Xd (240+k/262144)).toNat (Xd (128+k/4096%64)).toNat (Xd (128+k/64%64)).toNat (Xd (128+k%64)).toNat=(k,4);rw[fU (by omega),fU (by omega),fU (by omega),fU (by omega)];unfold YA;obtain⟨a,j⟩:∃a,240+k/262144=a:=⟨_,rfl⟩;obtain⟨m,C⟩:∃m,128+k/4096%64=m:=⟨_,rfl⟩;obtain⟨c,l⟩:∃c,128+k/64%64=c:=⟨_,rfl⟩;obtain⟨d,w⟩:∃d,128+k%64=d:=⟨_,rfl⟩;rw[j,C,l,w];have i:¬a<128:=by omega
   have a2:¬a/32=6:=by omega
   have a3:¬a/16=14:=by omega
   have q:a/8=30:=by omega
   have z:m/64=2:=by omega
   have a5:c/64=2:=by omega
   have p:d/64=2:=by omega
   have a4:a%8*262144+m%64*4096+c%64*64+d%64=k:=by omega
   have a9:65536<=k:=by omega
   simp[i,a2,a3,a4,a5,p,q,z,a9];omega
  ·have e:=Option.some.inj e;have :=x _ (by omega) e;omega
theorem Ov:([named 9,named 13,named 32,named 127]++bH).all (fun s=>decide (s.length≠1)&&decide ((s.headD 0).toNat<128)&&decide (s≠[])&&decide (s[1]?≠some 45))=true:=by decide+kernel
theorem Ea:(List.range 31).all (fun i=>decide (codeOf (bH[i]?.getD [])=1114112+(i:Int))&&decide (bH[i]?.getD []∈bH))=true:=by decide+kernel
theorem G4(h:named e≠[]):codeOf (named e)=e/\(named e)[1]?≠some 45:=by
 have d:∀s∈[named 9,named 13,named 32,named 127]++bH,s.length≠1/\(s.headD 0).toNat<128/\s≠[]/\s[1]?≠some 45:=fun s i=>by have :=List.all_eq_true.1 Ov s i;simpa[Wd,and_assoc]using this
 by_cases u:e=9;. subst u;exact⟨by decide+kernel,(d _ (by simp)).2.2.2⟩
 by_cases q:e=13;. subst q;exact⟨by decide+kernel,(d _ (by simp)).2.2.2⟩
 by_cases t:e=32;. subst t;exact⟨by decide+kernel,(d _ (by simp)).2.2.2⟩
 by_cases p:e=127;. subst p;exact⟨by decide+kernel,(d _ (by simp)).2.2.2⟩
 have c:named e=if 1114112<=e/\e<1114143 then bH[(e-1114112).toNat]?.getD []else if 32<e/\e<=1114111/\Xv e/\0<width e then(Xj e).data.toList else[]:=by rw[named,if_neg u,if_neg q,if_neg t,if_neg p]
 by_cases i:1114112<=e/\e<1114143;. rw[c,if_pos i];have :=List.all_eq_true.1 Ea (e-1114112).toNat (by rw[List.mem_range];omega);simp only[Wd,decide_eq_true_eq]at this;exact⟨by rw[this.1];omega,(d _ (List.mem_append_right _ this.2)).2.2.2⟩
 rw[if_neg i]at c;by_cases l:32<e/\e<=1114111/\Xv e/\0<width e
 ·rw[if_pos l]at c;obtain⟨n,rfl⟩:∃n:Nat,e=n:=⟨e.toNat,by omega⟩;have G:Utf8.valid (n:Int)=true:=by have :=l.2.2.1;simp[Xv,Utf8.valid]at this⊢;omega
  obtain⟨w,a,m,x⟩:=zc G
  have j:∀s∈[named 9,named 13,named 32,named 127]++bH,named n≠s:=fun s i e2=>by
   have k:=d s i;rw[<-e2,c]at k;rcases a with a|⟨b,r,a,o,-⟩;. exact k.1 a
   ·rw[a]at k;have :=k.2.1;simp at this;omega
  have z:bH.idxOf? (named n)=none:=List.idxOf?_eq_none_iff.2 fun C=>j _ (List.mem_append_right _ C) rfl;refine⟨?_,?_⟩
  ·unfold codeOf;rw[if_neg (j _ (by simp)),if_neg (j _ (by simp)),if_neg (j _ (by simp)),if_neg (j _ (by simp)),z]
   have y:br ⟨(named n).toArray⟩=(n,(Xj n).size):=by
    have F:∀E:ByteArray,(⟨E.data.toList.toArray⟩:ByteArray)=E:=fun E=>by cases E;simp
    rw[c,F,br,if_neg m];exact w
   simp only[y];rw[if_neg];rintro(h|h|h|h);. exact m h
   ·exact h (by rw[c];exact bsize _)
   ·have :=x h.1;omega
   ·exact h rfl
  ·rw[c];rcases a with a|⟨b,r,a,-,o⟩;. rw[List.getElem?_eq_none (by omega)];simp
   ·rw[a];simpa using o
 ·rw[if_neg l]at c;exact absurd c h
theorem Ob:∀(n:Nat)(s:Bytes)(m:Int),s[1]?≠some 45->fM n s m=some (s,m)|0,_,_,_=>rfl|_+1,[],_,_=>rfl|_+1,[_],_,_=>rfl|n+1,a::d::r,m,h=>by have b:d≠45:=fun e=>h (by simp[e]);simp[fM,b]
theorem Oa{r:Bytes}(b:bF a≠0)(d:r≠[])(c:e/bF a%2≠1):fM (k+1) (a::45::r) e=fM k r (e+bF a):=by simp[fM,b,d,c]
theorem Km{k:Ky}(h:right k=true):jY (bE k)=some k:=by
 have d:named k.code≠[]:=fun e=>by unfold right at h;simp[e]at h
 obtain⟨o,m⟩:=G4 d;have x:0<=k.aw/\k.aw<=7:=by refine⟨Classical.byContradiction fun r=>?_,Classical.byContradiction fun r=>?_⟩<;>(unfold right at h;rw[if_pos (by omega)]at h;cases h)
 have q:fM (bE k).length (bE k) 0=some (named k.code,k.aw):=by
  unfold bE;rw[if_pos h];have l:bF 67=4:=rfl;have j:bF 77=2:=rfl;have i:bF 83=1:=rfl;obtain⟨a,b⟩:=k;dsimp only at*;generalize named a=s at*;have n:b=0∨b=1∨b=2∨b=3∨b=4∨b=5∨b=6∨b=7:=by omega
  rcases n with rfl|rfl|rfl|rfl|rfl|rfl|rfl|rfl
  all_goals
   simp only[Int.reduceDiv,Int.reduceMod,Int.reduceEq,if_true,if_false,List.nil_append,List.append_nil,List.cons_append,VM];repeat(rw[Oa (by decide) (by simp[d]) (by simp[l,j,i])])
   rw[Ob _ _ _ m];try simp[l,j,i]
 unfold jY;rw[q];simp only[o]
 have p:(if k.aw/4%2=1 then iR k else k)=k:=by
  split
  ·rename_i w;obtain⟨a,b⟩:=k;dsimp only at*;unfold right at h;simp only at h;unfold iR;dsimp only
   have c:¬(65<=a/\a<=90)/\a≠105/\a≠109/\a≠91/\a≠64:=by
    by_cases t:(1114112<=a/\a<=1114133)∨(1114136<=a/\a<=1114140);. omega
    by_cases u:a=1114141∨a=1114142;. omega
    rw[if_neg (by simp[d];omega),if_neg t,if_neg u]at h;split at h;. cases h
    ·split at h;. omega
     ·simp at h;omega
   rw[if_neg c.1,if_neg c.2.1,if_neg c.2.2.1,if_neg c.2.2.2.1,if_neg c.2.2.2.2]
  ·rfl
 rw[show(⟨k.code,k.aw⟩:Ky)=k from rfl,p,if_pos h]
end Bx
end
section
open Go.RowKit Go.Lib
open Lx(Bytes)
structure eZ(w:World)(v:Value)(l:List Px.Fl):Prop where
 at_:∃A c,v=.slice A l.length c/\(0<l.length->∃b off,A=some ⟨b,off,none⟩/\b<w.heap.size/\∀i,(h:i<l.length)->w.cell? ⟨b,off+i*2,none⟩=some (.int .u8 l[i].1.toNat)/\w.cell? ⟨b,off+i*2+1,none⟩=some (ah l[i].2))
 few:l.length<=9223372036854775807
theorem eZ.still{l:List Px.Fl}(h:eZ w v l)(d:aa ab w w'):eZ w' v l:=by obtain⟨⟨A,c,rfl,k⟩,m⟩:=h;refine⟨⟨A,c,rfl,fun j=>?_⟩,m⟩;obtain⟨b,off,n,a,e⟩:=k j;exact⟨b,off,n,VO a d.size,fun i hi=>⟨(d.cell (p:=⟨b,_,none⟩) a id).trans (e i hi).1,(d.cell (p:=⟨b,_,none⟩) a id).trans (e i hi).2⟩⟩
theorem vo{B:Nat}{l:List Px.Fl}(h:w.ownsRow B 125 2 v l.length (bN l)):eZ w v l:=by
 rcases h.2 with⟨rfl,b⟩|⟨g,a,j,rfl,m,e,k,d,_⟩;. exact⟨⟨none,0,by rw[b],fun hp=>by omega⟩,by omega⟩
 ·refine⟨⟨_,a,rfl,fun _=>⟨g,0,rfl,(Array.getElem?_eq_some_iff.1 e).1,fun i hi=>?_⟩⟩,by unfold maxLen at d;omega⟩;have c:=qY l i hi;rw[Nat.zero_add,h.cellAt _ (by omega),h.cellAt _ (by omega)];exact c
theorem TK(c:UInt8)(x:Px.Fl)(h:w.cell? ⟨g,0,none⟩=some (.int .u8 c.toNat))(d:g<w.heap.size):Calls VI 63 #[.agg #[.int .u8 x.1.toNat,ah x.2],.pointer (some ⟨g,0,none⟩)] w fun e w'=>e=.returned (.bool (x.1==c))/\aa ab w w':=by
 have b:(x.1==c)=((x.1.toNat:Int)==(c.toNat:Int)):=by rw[Bool.eq_iff_iff,beq_iff_eq,beq_iff_eq,Px.mn];omega
 rw[b];clear b;simp only[ah];generalize(x.1.toNat:Int)=a;go_enter func63,ntmps63;go_wp2_with fail;go_ret;exact⟨rfl,(aa.refl _ _).alloc _⟩
theorem JT(w:World)(A:Option Addr)(a:Nat)(b:Value):Calls VI 62 #[.slice A 0 a,b] w fun e w'=>e=.returned (.int .i64 (-1))/\w=w':=by go_enter func62,ntmps62;go_wp2_with fail;refine wp_loop_rounds 1 ?_;rw[rounds_succ];go_wp2_with fail;go_ret;exact⟨rfl,rfl⟩
theorem Az(c:UInt8):∀(l:List Px.Fl)(i:Nat),(Lib.idxByFrom (fun _(y:Px.Fl)=>y.1==c) default l i=-1/\Px.at_ l c=none)∨∃k,∃b:k<l.length,Lib.idxByFrom (fun _(y:Px.Fl)=>y.1==c) default l i=((i+k:Nat):Int)/\Px.at_ l c=some l[k].2
|[],i=>.inl ⟨rfl,rfl⟩
|x::l,i=>by
  simp only[Lib.idxByFrom];by_cases e:x.1=c;. right;exact⟨0,by simp,by simp[e],by simp[Px.at_,e]⟩
  ·have a:(x.1==c)=false:=beq_false_of_ne e;have m:Px.at_ (x::l) c=Px.at_ l c:=by simp only[Px.at_,List.find?_cons,a]
   simp only[a,m,Bool.false_eq_true,if_false];rcases Az c l (i+1)with h|⟨k,b,d,j⟩;. exact .inl h
   ·exact .inr ⟨k+1,by simpa using b,by rw[show i+(k+1)=i+1+k by omega];exact d,by simpa using j⟩
theorem JS{l:List Px.Fl}(F:eZ w v l)(h:w.cell? ⟨g,0,none⟩=some (.int .u8 a.toNat))(o:g<w.heap.size):Calls VI 62 #[v,.func (.func 63) #[] #[.pointer (some ⟨g,0,none⟩)]] w fun e d=>e=.returned (.int .i64 (Lib.idxBy (fun _(y:Px.Fl)=>y.1==a) l default))/\aa ab w d:=by
 obtain⟨⟨A,m,rfl,t⟩,C⟩:=F
 cases l with
 |nil=>refine(JT w A m _).mono ?_;rintro e d⟨rfl,rfl⟩;exact⟨rfl,aa.refl _ _⟩
 |cons x l=>
  obtain⟨b,off,rfl,r,u⟩:=t (by simp);have q:∀args w,(callFunc 63 args).run VI w=.ok (.enter 63 args) w:=enters_of func63 (by kernel_rfl) rfl;have G:PredBelow VI 63 #[.pointer (some ⟨g,0,none⟩)] (fun y:Px.Fl=>.agg (fL y).toArray) (fun y=>y.1==a) w:=fun W y hW=>(TK (w:=W) (g:=g) a y (by rw[hW.cell (p:=⟨g,0,none⟩) o];exact h) (VO o hW.size)).mono fun e d⟨z,ht⟩=>⟨z,hW.trans (ht.below hW.size fun _ _ e=>e)⟩
  have k:=AnyQ.slices_IndexFunc Tryz.JQ 2 isAgg125 sizeOf125 fL (fun _=>rfl) (fun y:Px.Fl=>y.1==a) 63 #[.pointer (some ⟨g,0,none⟩)] q b off (x::l).length m (x::l) w G (Nat.le_refl _) C r (fun j p i v c=>by
   have n:=u j p;rw[getElem!_pos (x::l) j p]at c;have E:i=0∨i=1:=by have :=(List.getElem?_eq_some_iff.1 c).1;simp[fL]at this;omega
   rcases E with rfl|rfl;. simp[fL]at c;rw[<-c];exact n.1
   ·simp[fL]at c;rw[<-c];exact n.2);change Calls VI 62 _ _ _ at k;rw[List.take_length]at k;refine k.mono ?_;rintro e d⟨rfl,hw⟩;exact⟨rfl,aa.eO hw fun b h1 h2=>absurd h2 (by omega)⟩
theorem wW{nm:ByteArray}{line:Int}{a:List Px.Fl}(c:UInt8)(q:eZ w v a)(K:∃A n d,u=.slice A n d):Calls VI 37 #[.agg #[.string nm,v,u,.int .i64 line],.int .u8 c.toNat] w fun e w'=>e=.returned (.tuple #[ah ((Px.at_ a c).getD []),.bool (Px.at_ a c).isSome])/\aa ab w w':=by
 have P:∀(F:Fn)(first E:Array Value)(w:World),(Instr.makeFunc F first E).run VI w=.ok (.func F first E) w:=fun _ _ _ _=>rfl;obtain⟨m,r,c2,rfl⟩:=K;have L:=Az c a 0;obtain⟨A,d,e,G⟩:=q.at_;subst e;have O:=q.few;have J:=VH q;have I:=VH G;clear q G;have T:=(((aa.refl ab w).alloc (.cells #[.string nm,.slice A a.length d,.slice m r c2,.int .i64 line] 53)).alloc (.cells #[.int .u8 c.toNat] 5));have j:=ad.new (w.alloc (.cells #[.string nm,.slice A a.length d,.slice m r c2,.int .i64 line] 53)) 5 #[.int .u8 c.toNat];rw[show(w.alloc (.cells #[.string nm,.slice A a.length d,.slice m r c2,.int .i64 line] 53)).heap.size=w.heap.size+1 by simp[go_sem]]at j;have C:=VH (JS (J.out.still T) (j.cell 0) j.lt);have o:=VH (VJ ((ad.new w 53 #[.string nm,.slice A a.length d,.slice m r c2,.int .i64 line]).alloc (.cells #[.int .u8 c.toNat] 5)) T);clear T j;rcases L with⟨i,l⟩|⟨k,M,i,l⟩;case' inl=>rw[l];have t:=VH (show Lib.idxBy (fun _(y:Px.Fl)=>y.1==c) a default=-1 from i);clear i l;go_enter func37,ntmps37;go_wp2_with fail;refine C.out.mono ?_;rintro e z⟨rfl,h⟩;have N:z.cell? ⟨w.heap.size,1,none⟩=some (.slice A a.length d):=(h.blk o.out.1 id).cell 1;have p:=VH (o.out.2.same h)
 case' inr=>rw[l];rw[Nat.zero_add]at i;have t:=VH (show Lib.idxBy (fun _(y:Px.Fl)=>y.1==c) a default=(k:Int)from i);clear i l;obtain⟨b,off,rfl,j,H⟩:=I.out (by omega);have x:=(H k M).2;simp only[Option.getD,Option.isSome,ah]at x⊢;generalize(⟨a[k].2.toArray⟩:ByteArray)=Q at x⊢;clear H;go_enter func37,ntmps37;go_wp2_with fail;refine C.out.mono ?_;rintro e z⟨rfl,h⟩;have N:z.cell? ⟨w.heap.size,1,none⟩=some (.slice (some ⟨b,off,none⟩) a.length d):=(h.blk o.out.1 id).cell 1;have p:=VH (o.out.2.same h);have S:=(p.out.cell (p:=⟨b,off+k*2+1,none⟩) j id).trans x
 all_goals clear h;rw[t.out];go_wp2_with fail;refine bodyPost_ret (results_tmp2 rfl _ _ _) rfl ?_;exact⟨rfl,p.out⟩
theorem Ar{nm:ByteArray}{line:Int}{a:List Px.Fl}(c:UInt8)(h:eZ w v a)(m:∃A n d,u=.slice A n d):Calls VI 36 #[.agg #[.string nm,v,u,.int .i64 line],.int .u8 c.toNat] w fun e w'=>e=.returned (.bool (Px.at_ a c).isSome)/\aa ab w w':=by obtain⟨i,k,c2,rfl⟩:=m;obtain⟨A,d,e,p⟩:=h.at_;subst e;have T:=((aa.refl ab w).alloc (.cells #[.string nm,.slice A a.length d,.slice i k c2,.int .i64 line] 53));have b:=VH (VJ (wW (nm:=nm) (line:=line) c (h.still T) ⟨i,k,c2,rfl⟩) T);clear h p T;generalize Px.at_ a c=o at b⊢;go_enter func36,ntmps36;go_wp2_with fail;refine b.out.1.mono ?_;rintro e q⟨rfl,j⟩;have l:=VH (b.out.2.same j);clear j;go_wp2_with fail;go_ret;exact⟨rfl,l.out⟩
end
section
open Lx(Bytes)
namespace Lx
def jn(l:List Bytes):Bytes:=Lib.join (l.map aZ) [32]
def cost(l:List Bytes):Nat:=(l.map fun s=>2*s.length+3).sum
theorem EZ(s:Bytes):(aZ s).length<=2*s.length+2:=by
 unfold aZ;have :=sC s;split;. omega
 ·split<;>simp only[VK,VM,List.length_nil]<;>omega
theorem Kg:jn []=[]:=rfl
theorem Kj(r:List Bytes):(Lib.joinTail [32] (r.map aZ)).length<=cost r:=by induction r with|nil=>simp[Lib.joinTail]|cons x r a=>have :=EZ x;simp only[Lib.joinTail,cost,V8,List.flatten_cons,VK,Xx,VM,List.singleton_append]at a⊢;omega
theorem uB(l:List Bytes):(jn l).length<=cost l:=by cases l with|nil=>simp[Kg]|cons x r=>have a:=Kj r;have b:=EZ x;rw[jn,V8,Lib.join_cons,VK];simp only[cost,V8,Xx]at a⊢;omega
theorem oM(a b:List Bytes):cost (a++b)=cost a+cost b:=by simp[cost]
theorem Hd{l:List Bytes}{s:Bytes}(h:s∈l):2*s.length+3<=cost l:=by
 induction l with
 |nil=>cases h
 |cons x r a=>
  simp only[cost,V8,Xx];rcases List.mem_cons.1 h with rfl|h;. omega
  ·have :=a h;simp only[cost]at this;omega
theorem yY(l:List Bytes):3*l.length<=cost l:=by induction l with|nil=>simp[cost]|cons x r a=>simp only[cost,V8,Xx,VM]at a⊢;omega
end Lx
structure mG(w:World)(B:Nat)(v:Value)(ls:List ByteArray):Prop where
 at_:∃A c,v=.slice A ls.length c/\(0<ls.length->∃b off,A=some ⟨b,off,none⟩/\b<B/\∀i,(h:i<ls.length)->w.cell? ⟨b,off+i,none⟩=some (.string ls[i]))
 small:Lx.cost (ls.map sl)<=3200000
theorem mG.len{B:Nat}(h:mG w B v X):X.length<=1600000:=by have a:=Lx.yY (X.map sl);have b:=h.small;rw[V0]at a;omega
theorem mG.each{B:Nat}(h:mG w B v X)(n:Nat)(c:n<X.length):X[n].size<=1600000:=by have a:=Lx.Hd (List.mem_map.2 ⟨X[n],List.getElem_mem c,rfl⟩:sl X[n]∈X.map sl);have d:=h.small;rw[aL]at a;have b:=Lx.yY (X.map sl);rw[V0]at b;omega
open Lx(Bytes)
theorem A.J2:(VI.info? 9).map (fun i=>(i.zero,i.size,i.bytes))=some (some (.string ⟨#[]⟩),1,16):=by kernel_rfl
def eR(s:ByteArray):ByteArray:=⟨(Lx.aZ (sl s)).toArray⟩
structure iD(w:World)(L:List ByteArray)(v:Value)(wr:World):Prop where
 own:wr.ownsRow w.heap.size 9 1 v L.length (L.map Value.string)
 turns:aa ab w wr
theorem iD.slice{wr:World}(h:iD w X v wr):∃A c,v=.slice A X.length c:=aE h.own
theorem iD.next{wr:World}(o:Obj)(h:iD w X v wr)(a:ByteArray)(c:(wr.alloc o).grownBy w' v.ownBlock)(d:k=X.length+1)(j:E=X.map Value.string++[.string a])(i:w'.ownsRow w.heap.size 9 1 u k E):iD w (X++[a]) u w':=by subst d j;refine⟨by rw[VK,List.map_append];exact i,(h.turns.alloc o).grown c fun b l e=>?_⟩;have :=h.own.lt b e;omega
theorem iD.still{wr:World}(h:iD w X v wr)(a:aa ab wr w'):iD w X v w':=⟨a.own h.own fun _ _=>id,h.turns.same a⟩
theorem Su(w:World)(u:ByteArray):Src VI 1 51 (.slice (some ⟨w.heap.size,0,none⟩) 1 1) 1 [.string u] (w.alloc (.cells #[.string u] 9)):=by
 refine Src.ofSlice _ underlying51 ⟨_,0,none⟩ 1 1 _ rfl (fun j u b=>?_) (by simp[Value.oneCell']);have a:(⟨w.heap.size,0,none⟩:Addr).add j=⟨w.heap.size,j,none⟩:=by unfold Addr.add;split<;>simp_all
 rw[a,cell_of_row _ w.heap.size _ _ _ (0,0) (heap_alloc_new w _),<-b];simp
theorem Qx(a:List ByteArray):(Lib.join ((a.map eR).map (·.data.toList)) (⟨#[32]⟩:ByteArray).data.toList)=Lx.jn (a.map sl):=by rw[Lx.jn,W8,W8];rfl
theorem Qz(s:ByteArray)(d:s.size<=1600000):Calls VI 61 #[.string s] w fun e a=>e=.returned (.string (eR s))/\aa ab w a:=by refine(vR s d).mono ?_;rintro e a⟨u,rfl,h,c⟩;have :u=eR s:=ka h;exact⟨by rw[this],aa.eO c fun b h1 h2=>absurd h2 (by omega)⟩
theorem SL{wr:World}(h:iD w X v wr)(n:(Lib.join (X.map (·.data.toList)) (⟨#[32]⟩:ByteArray).data.toList).length<=140737488355328)(p:X.length<=1600000):Calls VI 58 #[v,.string ⟨#[32]⟩] wr fun e a=>e=.returned (.string ⟨(Lib.join (X.map (·.data.toList)) (⟨#[32]⟩:ByteArray).data.toList).toArray⟩)/\aa ab wr a:=by
 rcases h.own.2 with⟨rfl,k⟩|⟨g,i,o,rfl,c,m,l,_⟩;. have :X=[]:=List.eq_nil_of_length_eq_zero k;subst this;refine(Tryz.strings_Join_none none 0 ⟨#[32]⟩ wr).mono ?_;rintro e a⟨rfl,rfl⟩;exact⟨rfl,aa.refl _ _⟩
 ·refine(Tryz.strings_Join g 0 i X ⟨#[32]⟩ wr (fun j x d=>?_) (Array.getElem?_eq_some_iff.1 m).1 (by omega) l n).mono ?_;. have q:j<X.length:=(List.getElem?_eq_some_iff.1 d).1;rw[Nat.zero_add,h.own.cellAt _ (by omega),List.getElem?_map,d];rfl
  ·rintro e a⟨rfl,c⟩;exact⟨rfl,aa.eO c fun b h1 h2=>absurd h2 (by omega)⟩
theorem AU{ls:List ByteArray}(h:mG w w.heap.size v ls):Calls VI 34 #[v] w fun e w'=>e=.returned (.string ⟨(Lx.jn (ls.map sl)).toArray⟩)/\aa ab w w':=by
 have ar:(ls.length:Int)<=1600000:=by have :=h.len;omega
 have M:=VH h.each;obtain⟨⟨A9,c,rfl,y⟩,I⟩:=h;have L:=VH y;have O:=VH I;clear y I;go_enter func34,ntmps34;go_wp2_with fail;go_loopw[8,3](fun i v wr=>∃n:Nat,i=.int .i64 n/\n<=ls.length/\iD w ((ls.take n).map eR) v wr)(fun i _ _=>ls.length-(intOf i).toNat);case atStart=>exact⟨0,rfl,Nat.zero_le _,⟨World.ownsRow_nil _ _ _ _,aa.refl _ _⟩⟩
 case round=>
  obtain⟨n,rfl,hn,hrel⟩:=hrel;obtain⟨K,c0,rfl⟩:=hrel.slice;have q:((ls.take n).map eR).length=n:=by rw[V0,List.length_take];omega
  rw[q]at hrel⊢;have a:=VH hrel;have r:=VH q;clear hrel q;obtain⟨i0,S,X,Y,Z⟩:=info_parts A.J2;by_cases k:n<ls.length
  ·obtain⟨b,off,rfl,p,z⟩:=L.out (by omega);have x1:=(a.out.turns.cell (p:=⟨b,off+n,none⟩) p id).trans (z n k);have al:b<wr.heap.size:=VO p a.out.turns.size;have T:=M.out n k;clear z p;have U:=VH (show(ls.take (n+1)).map eR=(ls.take n).map eR++[eR ls[n]]by rw[List.take_succ_eq_append_getElem k,List.map_append];rfl);go_wp2_with fail;refine(Qz _ T).mono ?_;rintro e l⟨rfl,j⟩;have o:=VH (a.out.still j);clear j x1;have t:(l.alloc (.cells #[.string (eR ls[n])] 9)).ownsRow w.heap.size 9 1 (.slice K n c0) n (((ls.take n).map eR).map Value.string):=by have h:=o.out.own.alloc (.cells #[.string (eR ls[n])] 9);rw[r.out]at h;exact h
   have u:=Su l (eR ls[n]);have hB:=Nat.le_trans o.out.turns.size (show l.heap.size<=(l.alloc (.cells #[.string (eR ls[n])] 9)).heap.size by simp);have G:n+1<=maxLen:=by simp only[maxLen];omega
   have J:((n+1)+(n+1+768)/4+512)*16<=281474976710656:=by omega
   have d:=VH (VJ t (VJ u (VJ hB (VJ G J))));clear t u hB G J;go_wp2_with(first|(at_builtin;refine aX _ rfl (.tmp 12) (.tmp 15) _ _ rfl _ 9 i0 _ 1 16 underlying51 S X Y Z rfl _ n _ rfl d.out.1 _ 1 [.string (eR ls[n])] rfl d.out.2.1 d.out.2.2.2.1 d.out.2.2.2.2 d.out.2.2.1 ?_;intro A1 ai w3 H E Q;have N:=VH (iD.next _ o.out (eR ls[n]) E (by rw[r.out]) rfl H);clear H E Q));go_roundw;case rel=>refine⟨n+1,by go_num,k,?_⟩;rw[U.out];exact N.out
   case measure=>simp[intOf];omega
  ·obtain rfl:n=ls.length:=by omega
   have x:(ls.take ls.length).map eR=ls.map eR:=by rw[List.take_length]
   rw[x]at a;have F:=Qx ls;have C:(Lx.jn (ls.map sl)).length<=140737488355328:=by have :=Lx.uB (ls.map sl);have :=O.out;omega
   have m:=VH (VJ F C);clear F C x;go_wp2_with fail;refine(SL a.out (by rw[m.out.1];exact m.out.2) (by rw[V0];omega)).mono ?_;rintro e w3⟨rfl,j⟩;rw[m.out.1];have P:=VH j;clear j;go_wp2_with fail;go_ret;exact⟨rfl,a.out.turns.same P.out⟩
end
end Go.Proofs.YtmddhediccmhbaaGreatDoor
