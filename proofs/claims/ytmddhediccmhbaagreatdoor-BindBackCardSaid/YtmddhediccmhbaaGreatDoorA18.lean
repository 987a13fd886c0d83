/- what is written is read. -/
import Derived.Shelf.Strings.SlTrimAscii
import Derived.Test.YtmddhediccmhbaaGreatDoorA17
set_option linter.all false
set_option maxHeartbeats 400000000
set_option maxRecDepth 100000
namespace Go.Proofs.YtmddhediccmhbaaGreatDoor
open Go.RowKit
open Go.Proofs.Tryz
open Bool renaming and_eq_true→Wd
open Lib renaming IsBuilder→YG
open Lib renaming hid→VH
open List renaming all_eq_true→Wj
open List renaming append_assoc→Wh
open List renaming append_nil→Wl
open List.cons renaming injEq→Xi
open List renaming cons_append→Wa
open List renaming eq_nil_of_length_eq_zero→VP
open List renaming flatMap_cons→WQ
open List renaming length_append→VK
open List renaming length_cons→VM
open List renaming length_map→V0
open List renaming length_nil→V9
open List renaming length_singleton→VY
open List renaming length_tail→Xb
open List renaming map_congr_left→X1
open List renaming map_cons→V8
open List renaming mem_append→V_
open List renaming mem_cons→We
open List renaming mem_cons_of_mem→VT
open List renaming mem_cons_self→V6
open List renaming mem_map→V'
open List renaming mem_singleton→VU
open List renaming nil_append→WH
open List renaming not_mem_nil→V1
open List renaming pairwise_cons→Wn
open List renaming sum_cons→Xx
open List renaming take_succ_eq_append_getElem→V4
open Nat renaming le_refl→VN
open Nat renaming zero_le→VQ
open Go.Proofs.Tryz renaming prog→VI
variable {w:World}{k n g:Nat}{sv lv:Value}{s:ByteArray}{a:UInt8}
section
open Go.Shelf
def Tryz.tF:Go.Shelf.Ren:=⟨fun|166=>33|167=>107|240=>60|276=>105|n=>n,fun|0=>0|3=>3|4=>4|9=>9|20=>20|37=>102|70=>101|72=>104|75=>109|164=>198|5=>5|80=>113|12=>12|n=>n,fun|n=>n⟩
theorem Tryz.yC:Go.Proofs.Lays.n166 VI Tryz.tF:={mixed:=by kernel_rfl,f166:=Tryz.func33.trans (congrArg some (by kernel_rfl)),f240:=Tryz.func60.trans (congrArg some (by kernel_rfl)),f276:=Tryz.func105.trans (congrArg some (by kernel_rfl)),t0:=underlying0,a0:=isAgg0,z0:=sizeOf0,v0:=zeroValue0,t3:=underlying3,a3:=isAgg3,z3:=sizeOf3,v3:=zeroValue3,t4:=underlying4,a4:=isAgg4,z4:=sizeOf4,v4:=zeroValue4,t9:=underlying9,a9:=isAgg9,z9:=sizeOf9,v9:=zeroValue9,t20:=underlying20,a20:=isAgg20,z20:=sizeOf20,v20:=zeroValue20,t37:=underlying102,a37:=isAgg102,z37:=sizeOf102,v37:=zeroValue102,t70:=underlying101,a70:=isAgg101,z70:=sizeOf101,v70:=zeroValue101,t72:=underlying104,a72:=isAgg104,z72:=sizeOf104,v72:=zeroValue104,t75:=underlying109,a75:=isAgg109,z75:=sizeOf109,v75:=zeroValue109,t164:=underlying198,a164:=isAgg198,z164:=sizeOf198,v164:=zeroValue198}
theorem Tryz.tE:Builder.Extra VI Tryz.tF:={sizeBuilder:=by kernel_rfl,liesBuilder:=by kernel_rfl,t5:=underlying5,a5:=isAgg5,z5:=sizeOf5,v5:=zeroValue5,infoByte:=by kernel_rfl,cellsByte:=by kernel_rfl,sizeByte:=by kernel_rfl,neB5:=by decide}
theorem Tryz.Gx:Go.Proofs.Lays.n167 VI Tryz.tF:={mixed:=by kernel_rfl,f167:=Tryz.func107.trans (congrArg some (by kernel_rfl)),f240:=Tryz.func60.trans (congrArg some (by kernel_rfl)),f276:=Tryz.func105.trans (congrArg some (by kernel_rfl)),t0:=underlying0,a0:=isAgg0,z0:=sizeOf0,v0:=zeroValue0,t4:=underlying4,a4:=isAgg4,z4:=sizeOf4,v4:=zeroValue4,t5:=underlying5,a5:=isAgg5,z5:=sizeOf5,v5:=zeroValue5,t9:=underlying9,a9:=isAgg9,z9:=sizeOf9,v9:=zeroValue9,t20:=underlying20,a20:=isAgg20,z20:=sizeOf20,v20:=zeroValue20,t37:=underlying102,a37:=isAgg102,z37:=sizeOf102,v37:=zeroValue102,t70:=underlying101,a70:=isAgg101,z70:=sizeOf101,v70:=zeroValue101,t72:=underlying104,a72:=isAgg104,z72:=sizeOf104,v72:=zeroValue104,t75:=underlying109,a75:=isAgg109,z75:=sizeOf109,v75:=zeroValue109,t164:=underlying198,a164:=isAgg198,z164:=sizeOf198,v164:=zeroValue198}
open Go.RowKit in theorem Tryz.Builder_WriteByte(B b:Nat)(a:List Value)(c:Int)(w:World)(h:YG 104 5 B b a w)(i:a.length+1<=140737488355328)(d:B<=w.heap.size):Calls VI 107 #[.pointer (some ⟨b,0,none⟩),.int .u8 c] w fun e w'=>e=.returned .nilIface/\(Lib.BuilderAt 104 5 B b (.pointer (some ⟨b,0,none⟩)) (a++[.int .u8 c]) w'/\Below B w w'):=Any.Builder_WriteByte Tryz.Gx Tryz.tE B b a c w h i d
open Lx(Bytes)
namespace Lx
def dZ:Bytes:=[97,98,99,100,101,102,103,104,105,106,107,108,109,110,111,112,113,114,115,116,117,118,119,120,121,122,65,66,67,68,69,70,71,72,73,74,75,76,77,78,79,80,81,82,83,84,85,86,87,88,89,90,95,48,49,50,51,52,53,54,55,56,57,46,47,58,61,64,37,43,44,45]
def dM(l:Bytes):Bytes:=l.flatMap fun b=>if b=34∨b=92∨b=36 then[92,b]else[b]
def aZ(s:Bytes):Bytes:=if s≠[]/\s.all (dZ.contains ·)then s else if(39:UInt8)∈s then 34::dM s++[34]else 39::s++[39]
theorem sC(l:Bytes):(dM l).length<=2*l.length:=by induction l with|nil=>simp[dM]|cons b l a=>rw[dM,WQ,VK,VM];have :(List.flatMap (fun b=>if b=34∨b=92∨b=36 then[92,b]else[b]) l).length<=2*l.length:=a;split<;>simp only[VM,V9]<;>omega
end Lx
theorem dropWhile_nil{α:Type}(p:α->Bool):∀l:List α,l.dropWhile p=[]↔l.all p=true
|[]=>by simp
|a::l=>by
  rw[List.dropWhile_cons];by_cases h:p a=true;. rw[if_pos h,dropWhile_nil p l];simp[h]
  ·rw[if_neg h];simp[h]
theorem wT(l a:List UInt8):Lib.trimS l a=[]↔l.all (a.contains ·)=true:=by
 unfold Lib.trimS Lib.trimLeftS Lib.trimRightS;rw[dropWhile_nil];constructor
 ·intro h;by_cases b:l.reverse.dropWhile (a.contains ·)=[];. rw[dropWhile_nil]at b;rw[<-List.all_reverse];exact b
  ·exfalso;have c:=List.head_dropWhile_not (a.contains ·) b;rw[List.all_reverse]at h;have d:=Wj.1 h _ (List.head_mem b);rw[d]at c;exact absurd c (by decide)
 ·intro h;have :l.reverse.dropWhile (a.contains ·)=[]:=by rw[dropWhile_nil,List.all_reverse];exact h
  rw[this];rfl
theorem A.E1:∀w,(zeroValue 159).run VI w=.ok (.agg (Array.replicate 256 (.bool false))) w:=fun w=>by kernel_rfl
theorem Tm(s:ByteArray)(w:World)(c:s.size<=9223372036854775807):Calls VI 41 #[.string s,.string ⟨Lx.dZ.toArray⟩] w fun e w'=>e=.returned (.string ⟨(Lib.trimS (sl s) Lx.dZ).toArray⟩)/\Below w.heap.size w w':=by
 have :=Any.strings_Trim_ascii Tryz.uI A.E1 (by kernel_rfl) s ⟨Lx.dZ.toArray⟩ w c (by simp[ByteArray.size,Lx.dZ]) (by
  intro j b a;have :b∈Lx.dZ:=List.mem_of_getElem? a;have h:∀b∈Lx.dZ,b.toNat<128:=by decide
  exact h b this);exact this
theorem uv(c:UInt8):∀l:Bytes,decide (0<=Lib.indexByte l c)=decide (c∈l)
|[]=>by rw[Ay];simp
|x::l=>by
  rw[oX,uv c l];by_cases h:x=c;. subst h;simp
  ·have :¬c=x:=fun e=>h e.symm;simp[h,this]
theorem yW(s:ByteArray)(w:World):Calls VI 106 #[.string s,.string ⟨#[39]⟩] w fun e w'=>e=.returned (.bool (decide ((39:UInt8)∈sl s)))/\w=w':=(Tryz.strings_Contains_one s 39 w).mono fun e w'⟨a,hw⟩=>⟨by rw[a,uv];rfl,hw.symm⟩
theorem sB{B:Nat}{l:Bytes}(h:YG 104 5 B k (eW l) w)(hB:B<=w.heap.size)(i:l.length+1<=10000000)(c:UInt8)(n:Int)(d:n=c.toNat):Calls VI 107 #[.pointer (some ⟨k,0,none⟩),.int .u8 n] w fun e w'=>e=.returned .nilIface/\YG 104 5 B k (eW (l++[c])) w'/\Below B w w':=by subst d;refine(Tryz.Builder_WriteByte B k (eW l) c.toNat w h (by rw[EB];omega) hB).mono fun e w'⟨b,hw,a⟩=>⟨b,.inr ?_,a⟩;rw[wV];exact hw
theorem Gq{B:Nat}{l:Bytes}(h:YG 104 5 B k (eW l) w)(hB:B<=w.heap.size):Calls VI 35 #[.pointer (some ⟨k,0,none⟩)] w fun e w'=>e=.returned (.string ⟨l.toArray⟩)/\Below B w w':=Tryz.Builder_String_any B k l w h hB
theorem Ty(s:ByteArray)(h:k<s.size):(sl s).take (k+1)=(sl s).take k++[s[k]]:=by rw[V4 (by rw[aL];exact h)];rfl
structure qh(w:World)(s:ByteArray)(n:Nat)(wr:World):Prop where
 le:n<=s.size
 eB:YG 104 5 w.heap.size w.heap.size (eW (34::Lx.dM ((sl s).take n))) wr
 below:Below w.heap.size w wr
theorem qh.len{wr:World}(a:qh w s k wr)(d:s.size<=1600000):(34::Lx.dM ((sl s).take k)).length+1<=9000000:=by
 have b:=Lx.sC ((sl s).take k);have c:((sl s).take k).length<=s.size:=by rw[List.length_take,aL];omega
 rw[VM];omega
theorem FA(c:UInt8):0<=Lib.indexByte [34,92,36] c↔(c=34∨c=92∨c=36):=by have h:=uv c [34,92,36];rw[decide_eq_decide]at h;rw[h];simp
theorem EL(l:Bytes)(c:UInt8):Lx.dM (l++[c])=Lx.dM l++(if c=34∨c=92∨c=36 then[92,c]else[c]):=by simp[Lx.dM]
theorem vR(s:ByteArray)(m:s.size<=1600000):Calls VI 61 #[.string s] w fun e w'=>∃u:ByteArray,e=.returned (.string u)/\sl u=Lx.aZ (sl s)/\Below w.heap.size w w':=by
 have S:=VH fun w=>Tm s w (by omega);have U:(s.size:Int)<=1600000:=by omega
 go_enter func61,ntmps61;by_cases o:s=⟨#[]⟩;. subst o;go_wp2_with fail;refine(yW _ _).mono ?_;rintro e k⟨rfl,rfl⟩;rw[show decide ((39:UInt8)∈sl ⟨#[]⟩)=false from rfl];go_wp2_with fail;go_ret;exact⟨_,rfl,rfl,Below.refl _ _⟩
 ·have T:(s.toList==([]:List UInt8))=false:=by rw[beq_eq_false_iff_ne,mh];exact fun e=>o (ka e)
  have H:sl s≠[]:=fun e=>o (ka e);have L:=VH H;clear H;go_wp2_with fail;refine(S.out _).mono ?_;rintro e k⟨rfl,F⟩;have l:=VH F;clear F;by_cases c:(sl s).all (Lx.dZ.contains ·)=true;. have r:=(wT _ _).2 c;rw[r];go_wp2_with fail;go_ret;exact⟨_,rfl,by rw[Lx.aZ,if_pos ⟨L.out,c⟩],l.out⟩
  ·have r:((⟨(Lib.trimS (sl s) Lx.dZ).toArray⟩:ByteArray).toList==([]:List UInt8))=false:=by rw[beq_eq_false_iff_ne,mh];exact fun e=>c ((wT _ _).1 e)
   generalize(⟨(Lib.trimS (sl s) Lx.dZ).toArray⟩:ByteArray)=Y at r;have y:=VH c;clear c;go_wp2_with fail;refine(yW _ _).mono ?_;rintro e K⟨rfl,rfl⟩;by_cases j:(39:UInt8)∈sl s
   ·have p:=VH j;rw[decide_eq_true j];clear j;go_wp2_with fail;refine(sB (l:=[]) (Lib.fresh_isBuilder 104 5 k) (by simp[go_sem]) (by decide) 34 34 rfl).mono ?_;rintro e K⟨rfl,b,hB⟩;have C:qh k s 0 K:=⟨VQ _,by rw[List.take_zero];exact b,((Below.refl _ k).alloc (VN _) _).trans hB⟩;have N:=VH C;clear C b hB;go_wp2_with fail;go_loopw[24](fun i wr=>∃n:Nat,i=.int .i64 n/\qh k s n wr)(fun i _=>s.size-(intOf i).toNat);case atStart=>exact⟨0,rfl,N.out⟩
    case round=>
     obtain⟨n,rfl,hrel⟩:=hrel;by_cases q:n<s.size
     ·have a:=VH hrel;clear hrel;go_wp2_with fail;refine(oY ⟨#[34,92,36]⟩ [34,92,36] rfl s[n] wr).mono ?_;rintro e x⟨rfl,rfl⟩;have J:=VH (Ty s q);have G:=VH (FA s[n]);by_cases I:0<=Lib.indexByte [34,92,36] s[n]
      ·go_wp2_with fail;refine(sB a.out.eB a.out.below.size (by have :=a.out.len m;omega) 92 92 rfl).mono ?_;rintro e x⟨rfl,b,hB⟩;have d:=VH (And.intro b hB);clear b hB;go_wp2_with fail;refine(sB d.out.1 (a.out.below.trans d.out.2).size (by have :=a.out.len m;rw[VK,VY];omega) s[n] _ rfl).mono ?_;rintro e Z⟨rfl,b,hB⟩;have z:=VH (And.intro b hB);clear b hB;go_wp2_with fail;go_roundw;case rel=>refine⟨n+1,by go_num,q,?_,(a.out.below.trans d.out.2).trans z.out.2⟩;have E:=z.out.1;rw[J.out,EL,if_pos (G.out.1 I)];rw[Wh]at E;exact E
       case measure=>simp[intOf];omega
      ·have P:=VH (fun h=>I (G.out.2 h));go_wp2_with fail;refine(sB a.out.eB a.out.below.size (by have :=a.out.len m;omega) s[n] _ rfl).mono ?_;rintro e x⟨rfl,b,hB⟩;have d:=VH (And.intro b hB);clear b hB;go_wp2_with fail;go_roundw;case rel=>refine⟨n+1,by go_num,q,?_,a.out.below.trans d.out.2⟩;rw[J.out,EL,if_neg P.out];exact d.out.1
       case measure=>simp[intOf];omega
     ·obtain rfl:n=s.size:=by have :=hrel.le;omega
      have a:=VH hrel;clear hrel;go_wp2_with fail;refine(Gq a.out.eB a.out.below.size).mono ?_;rintro e x⟨rfl,hB⟩;have Q:=a.out.len m;have M:=VH hB;clear hB;generalize t:(⟨(34::Lx.dM ((sl s).take s.size)).toArray⟩:ByteArray)=u at*;have X:(u.size:Int)<=9000000:=by rw[<-t];show((Array.size (List.toArray _):Nat):Int)<=_;rw[List.size_toArray];omega
      have O:=VH t;clear t Q;go_wp2_with fail;go_ret;refine⟨_,rfl,?_,l.out.trans ((a.out.below.trans M.out).mono l.out.size)⟩;have c:(sl s).take s.size=sl s:=by rw[<-aL,List.take_length]
      rw[Lx.aZ,if_neg (fun h=>y.out h.2),if_pos p.out,<-O.out,c];simp[sl]
   ·have p:=VH j;rw[decide_eq_false j];clear j;go_wp2_with fail;go_ret;exact⟨_,rfl,by rw[Lx.aZ,if_neg (fun h=>y.out h.2),if_neg p.out];simp[sl],l.out⟩
namespace Lx
variable{env:Env}
theorem rX{t u:Bytes}(h:(t++u).length<=8192):put t u=.ok (t++u):=by rw[put,if_neg (by omega)]
theorem E0:∀c∈dZ,(c≠32/\c≠9/\c≠10/\c≠59)/\c≠39/\c≠34/\c≠92/\c≠36/\c≠126/\c≠35/\c≠125/\c≠123:=by decide
theorem vj{r:Bytes}(h:a≠32/\a≠9/\a≠10/\a≠59):over (a::r)=false:=by simp[over,h]
theorem EU{rest:Bytes}(a:over rest=true):∀(x:Bytes)(f:Bool)(t:Bytes),(∀c∈x,c∈dZ)->(t++x).length<=8192->word env f t (x++rest)=.ok (t++x,rest)|[],f,t,_,_=>by rw[WH,Wl,fF _ _ _ _ a]|c::x,f,t,b,hl=>by obtain⟨m,e,i,j,k,l,-⟩:=E0 c (b c (by simp));rw[Wa,fV _ _ _ _ _ (vj m),if_neg e,if_neg i,if_neg j,if_neg k,if_neg (fun h=>l h.1)];rw[rX (by simp only[VK,VM]at hl⊢;simp;omega)];dsimp only;rw[EU a x false (t++[c]) (fun d hd=>b d (by simp[hd])) (by simpa using hl)];simp
theorem D3(rest:Bytes):∀(x t:Bytes),(39:UInt8)∉x->(t++x).length<=8192->single t (x++39::rest)=.ok (t++x,rest)|[],t,_,_=>by rw[WH,single,if_pos rfl,Wl]|c::x,t,a,hl=>by have b:c≠39:=fun e=>a (by simp[e]);rw[Wa,single,if_neg b,rX (by simp only[VK,VM]at hl⊢;simp;omega)];dsimp only;rw[D3 rest x (t++[c]) (fun h=>a (by simp[h])) (by simpa using hl)];simp
theorem Dw(rest:Bytes):∀(x t:Bytes),(t++x).length<=8192->quoted env t (dM x++34::rest)=.ok (t++x,rest)
|[],t,_=>by have e:dM []=[]:=rfl;rw[e,WH,jv,if_pos rfl,Wl]
|c::x,t,hl=>by
  have d:(t++[c]).length<=8192:=by simp only[VK,VM]at hl⊢;simp;omega
  have b:=Dw rest x (t++[c]) (by simpa using hl);have k:t++[c]++x=t++c::x:=by simp
  rw[k]at b;by_cases a:c=34∨c=92∨c=36
  ·have e:dM (c::x)=92::c::dM x:=by rw[dM,WQ,if_pos a];rfl
   have i:c≠10:=by rcases a with h|h|h<;>rw[h]<;>decide
   have j:kI c=[c]:=by rcases a with h|h|h<;>rw[h]<;>rfl
   rw[e,Wa,Wa,jv,if_neg (by decide),if_neg (by decide),if_pos rfl];dsimp only;rw[if_neg i,j,rX d];exact b
  ·have e:dM (c::x)=c::dM x:=by rw[dM,WQ,if_neg a];rfl
   simp only[not_or]at a;rw[e,Wa,jv,if_neg a.1,if_neg a.2.2,if_neg a.2.1,rX d];exact b
theorem TX{rest x:Bytes}(e:over rest=true)(d:x.length<=8192):word env true [] (aZ x++rest)=.ok (x,rest):=by
 unfold aZ;by_cases a:x≠[]/\x.all (dZ.contains ·)=true;. rw[if_pos a];exact EU e x true [] (fun c h=>by simpa using Wj.1 a.2 c h) (by simpa using d)
 ·rw[if_neg a];by_cases b:(39:UInt8)∈x;. rw[if_pos b,show 34::dM x++[34]++rest=34::(dM x++34::rest)by simp,fV _ _ _ _ _ (vj (by decide)),if_neg (by decide),if_pos rfl,Dw rest x [] (by simpa using d)];dsimp only;rw[fF _ _ _ _ e];rfl
  ·rw[if_neg b,show 39::x++[39]++rest=39::(x++39::rest)by simp,fV _ _ _ _ _ (vj (by decide)),if_pos rfl,D3 rest x [] b (by simpa using d)];dsimp only;rw[fF _ _ _ _ e];rfl
theorem Qy(x:Bytes):∃c r,aZ x=c::r/\(c≠32/\c≠9/\c≠10/\c≠59)/\c≠92/\c≠35/\c≠125/\c≠123:=by
 unfold aZ;by_cases a:x≠[]/\x.all (dZ.contains ·)=true;. rw[if_pos a];cases x with|nil=>exact absurd rfl a.1|cons c r=>obtain⟨j,-,-,d,-,-,e,h,i⟩:=E0 c (by simpa using Wj.1 a.2 c (by simp));exact⟨c,r,rfl,j,d,e,h,i⟩
 ·rw[if_neg a];by_cases b:(39:UInt8)∈x;. rw[if_pos b];exact⟨34,_,rfl,by decide,by decide,by decide,by decide,by decide⟩
  ·rw[if_neg b];exact⟨39,_,rfl,by decide,by decide,by decide,by decide,by decide⟩
theorem DF{rest x:Bytes}{line:Nat}{now:List W}{out:List Ln}(n:over rest=true)(l:x.length<=8192)(q:now.length<256)(a:now≠[]∨out.length<1000):∃o,read env line now out g (aZ x++rest)=read env o (now++[⟨x,line,false⟩]) out g rest:=by
 obtain⟨c,r,e,b,d,i,j,k⟩:=Qy x;have hw:=TX (env:=env) n l;rw[e]at hw;rw[Wa]at hw
 have m:¬(now.length=256∨now=[]/\out.length=1000):=by
  rintro(h|⟨h,p⟩);. omega
  ·rcases a with a|a;. exact a h
   ·omega
 refine⟨line+(ax (c::(r++rest))-ax rest),?_⟩;rw[e,Wa,b8,if_neg (by simp[b.1,b.2.1]),if_neg (fun h=>d h.1),if_neg i,if_neg b.2.2.2,if_neg b.2.2.1,if_neg j,if_neg m,if_neg k,hw]
def fj(r:List Bytes):Bytes:=r.flatMap fun y=>32::aZ y
theorem CV(r:List Bytes){rest:Bytes}(a:over rest=true):over (fj r++rest)=true:=by cases r with|nil=>exact a|cons x r=>rfl
theorem DE{rest:Bytes}(h:over rest=true){out:List Ln}{g:Nat}:∀(r:List Bytes)(line:Nat)(now:List W),now≠[]->(∀x∈r,x.length<=8192)->now.length+r.length<=256->∃(c:Nat)(b:List W),b.map (·.text)=r/\(∀x∈b,x.block=false)/\read env line now out g (fj r++rest)=read env c (now++b) out g rest
|[],line,now,d,_,_=>⟨line,[],rfl,by simp,by rw[Wl];rfl⟩
|y::r,line,now,d,hl,l=>by
  simp only[VM]at l;obtain⟨c,m⟩:=DF (env:=env) (line:=line) (now:=now) (out:=out) (g:=g) (CV r h) (hl y (by simp)) (by omega) (.inl d);obtain⟨n,b,i,j,k⟩:=DE h r c (now++[⟨y,line,false⟩]) (by simp) (fun x a=>hl x (by simp[a])) (by simp;omega);refine⟨n,⟨y,line,false⟩::b,by simp[i],?_,?_⟩
  ·intro x a;rcases We.1 a with rfl|a;. rfl
   ·exact j x a
  ·have e:fj (y::r)++rest=32::(aZ y++(fj r++rest)):=by simp[fj]
   rw[e,b8,if_pos (.inl rfl),m,k];simp
def cat:List Bytes->Bytes|[]=>[]|x::r=>aZ x++fj r
theorem py{rest:Bytes}(e:over rest=true){out:List Ln}{line:Nat}{a:List Bytes}(m:a≠[])(d:∀x∈a,x.length<=8192)(k:a.length<=256)(n:out.length<1000):∃(c:Nat)(l:List W),l.map (·.text)=a/\(∀x∈l,x.block=false)/\read env line [] out g (cat a++rest)=read env c l out g rest:=by
 cases a with
 |nil=>exact absurd rfl m
 |cons x r=>
  simp only[VM]at k;obtain⟨c,o⟩:=DF (env:=env) (line:=line) (now:=[]) (out:=out) (g:=g) (CV r e) (d x (by simp)) (by decide) (.inr n);obtain⟨p,a,h,i,j⟩:=DE (env:=env) e (out:=out) (g:=g) r c [⟨x,line,false⟩] (by simp) (fun y b=>d y (by simp[b])) (by simp;omega);refine⟨p,⟨x,line,false⟩::a,by simp[h],?_,?_⟩
  ·intro y b;rcases We.1 b with rfl|b;. rfl
   ·exact i y b
  ·rw[cat,Wh,o,WH,j];rfl
def dT:List (List Bytes)->Bytes|[]=>[]|[c]=>cat c|c::r=>cat c++32::59::32::dT r
def cf(a:List (List (List Bytes))):Bytes:=a.flatMap fun c=>dT c++[10]
def Small(c:List Bytes):Prop:=c≠[]/\(∀x∈c,x.length<=8192)/\c.length<=256
structure pX(g:Nat)(L:List Ln)(c:List (List Bytes)):Prop where
 texts:L.map (fun l=>l.1.map (·.text))=c
 each:∀l∈L,l.2=g/\∀x∈l.1,x.block=false
theorem Gt(out:List Ln)(l:List W)(g:Nat):bump (out++[(l,g)]) g=g+1:=by simp[bump]
theorem vU{rest:Bytes}{g:Nat}:∀(cs:List (List Bytes))(line:Nat)(out:List Ln),cs≠[]->(∀c∈cs,Small c)->out.length+cs.length<=1000->∃(j:Nat)(L:List Ln),pX g L cs/\read env line [] out g (dT cs++10::rest)=read env j [] (out++L) (g+1) rest
|[],_,_,h,_,_=>absurd rfl h
|[c],line,out,_,hs,o=>by
  obtain⟨b,k,m⟩:=hs c (by simp);obtain⟨j,l,i,p,q⟩:=py (env:=env) (rest:=10::rest) rfl (out:=out) (g:=g) (line:=line) b k m (by simp at o;omega);have n:l≠[]:=fun e=>b (by rw[<-i,e];rfl);refine⟨j+1,[(l,g)],⟨by simp[i],fun x a=>?_⟩,?_⟩;. rw[VU.1 a];exact⟨rfl,p⟩
  ·rw[dT,q,b8,if_neg (by decide),if_neg (fun h=>absurd h.1 (by decide)),if_neg (by decide),if_neg (by decide),if_pos rfl,fin,if_neg n,Gt]
|c::d::r,line,out,_,hs,o=>by
  obtain⟨b,k,m⟩:=hs c (by simp);simp only[VM]at o;obtain⟨j,l,i,p,q⟩:=py (env:=env) (rest:=32::59::32::(dT (d::r)++10::rest)) rfl (out:=out) (g:=g) (line:=line) b k m (by omega);have n:l≠[]:=fun e=>b (by rw[<-i,e];rfl);obtain⟨t,L,m1,u⟩:=vU (rest:=rest) (g:=g) (d::r) j (out++[(l,g)]) (by simp) (fun x a=>hs x (VT _ a)) (by simp;omega);refine⟨t,(l,g)::L,⟨by simp[i,m1.texts],fun x a=>?_⟩,?_⟩
  ·rcases We.1 a with rfl|a;. exact⟨rfl,p⟩
   ·exact m1.each x a
  ·have e:dT (c::d::r)++10::rest=cat c++32::59::32::(dT (d::r)++10::rest):=by simp[dT]
   rw[e,q,b8,if_pos (.inl rfl),b8,if_neg (by decide),if_neg (fun h=>absurd h.1 (by decide)),if_neg (by decide),if_pos rfl,fin,if_neg n,b8,if_pos (.inl rfl),u];simp
inductive gN:Nat->List Ln->List (List (List Bytes))->Prop|nil(g:Nat):gN g [] []|cons{g:Nat}{L M:List Ln}{c:List (List Bytes)}{gs:List (List (List Bytes))}(h:pX g L c)(hne:c≠[])(t:gN (g+1) M gs):gN g (L++M) (c::gs)
theorem DB:∀(a:List (List (List Bytes)))(line g:Nat)(out:List Ln),(∀c∈a,c≠[]/\∀x∈c,Small x)->out.length+(a.map (·.length)).sum<=1000->∃L,gN g L a/\read env line [] out g (cf a)=.ok (out++L)
|[],line,g,out,_,_=>⟨[],.nil g,by rw[cf,List.flatMap_nil,cP,fin,if_pos rfl,Wl]⟩
|c::a,line,g,out,hs,j=>by
  simp only[V8,Xx]at j;obtain⟨l,L,b,d⟩:=vU (env:=env) (rest:=cf a) (g:=g) c line out (hs c (by simp)).1 (hs c (by simp)).2 (by omega);have m:L.length=c.length:=by rw[<-b.texts,V0]
  obtain⟨M,h,i⟩:=DB a l (g+1) (out++L) (fun x k=>hs x (VT _ k)) (by rw[VK];omega);refine⟨L++M,.cons b (hs c (by simp)).1 h,?_⟩;have e:cf (c::a)=dT c++10::cf a:=by simp[cf]
  rw[e,d,i,Wh]
theorem wK{gs:List (List (List Bytes))}(e:∀c∈gs,c≠[]/\∀x∈c,Small x)(d:(gs.map (·.length)).sum<=1000)(h:(cf gs).length<=65536):∃L,gN 1 L gs/\split env (cf gs)=.ok L:=by obtain⟨L,a,b⟩:=DB (env:=env) gs 1 1 [] e (by simpa using d);exact⟨L,a,by rw[split,if_neg (by omega),b,WH]⟩
end Lx
end
section
open Lx(Bytes)
def fN:Bytes->Bytes×Int:=fun _=>([],0)
def jI(a:List Px.cL)(o:List Px.au):Prop:=o=[]/\∀l∈a,Px.isDir l.1=false
theorem C8{ev:Value}{es:List (ByteArray×ByteArray)}(u:b9 w)(t:eh w w.heap.size ev es)(X:Bytes->Bytes×Int)(q:∀L,Lx.split (aB es) (sl s)=.ok L->Fit L/\jI (L.map Px.aP) []):Calls VI 9 #[.string s,.agg #[sv,lv],ev] w (qg w (Px.parse X (aB es) (sl s))):=by
 generalize p:Px.parse X (aB es) (sl s)=R;refine(C7 (sv:=sv) (lv:=lv) u t (fun b o g G=>jI b o/\Px.eG X b o g G=R) (fun n=>n=R) ⟨?_,?_,?_,?_,?_,?_,?_⟩ (fun x k=>?_) (fun L j=>?_)).mono ?_;. exact fun b o g G h=>by rw[h.1.1];exact VQ _
 ·intro l b o g G h _ i;rw[h.1.1]at i;cases i
 ·intro l b o g G c h d i hw;have a:=h.2;rw[Px.eG,if_neg (by simp[d]),if_pos (by simp[i])]at a;simp only[hw]at a;have r:jI b o:=⟨h.1.1,fun x k=>h.1.2 x (VT _ k)⟩;exact⟨fun e=>⟨r,by rw[if_pos e]at a;exact a⟩,fun e1 e2=>⟨r,by rw[if_neg (by simp[e1,e2])]at a;exact a⟩⟩
 ·intro l b o g G m h d i hw;have a:=h.2;rw[Px.eG,if_neg (by simp[d]),if_pos (by simp[i])]at a;simp only[hw]at a;exact a
 ·intro l b o g G h d;rw[h.1.2 l V6]at d;cases d
 ·exact fun g G h=>h.2
 ·intro o c g G h;exact absurd h.1.1 (by simp)
 ·rw[<-p,Px.parse,k]
 ·exact⟨(q L j).1,(q L j).2,by rw[<-p,Px.parse,j]⟩
 ·rintro e y⟨n,rfl,h⟩;exact h
namespace Px
open Lx(Bytes)
def ew(r:Row)(p:Option UInt8)(f:Fl):Bool:=(aJ r f.1).isSome&&((aJ r f.1).getD false||f.2.isEmpty)&&match p with|none=>true|some q=>decide (q<f.1)
def cS(r:Row):Option UInt8->List Fl->Bool|_,[]=>true|p,f::l=>ew r p f&&cS r (some f.1) l
def fits(r:Row)(n:Nat):Bool:=decide (r.few<=n)&&(decide (r.ay<0)||decide ((n:Int)<=r.ay))
def right(c:ag):Bool:=match whole c.name with|none=>false|some r=>fits r c.args.length&&cS r none c.flags
def prev(l:List Fl)(k:Nat):Option UInt8:=if k=0 then none else(l[k-1]?).map (·.1)
theorem zX(r:Row)(l:List Fl)(k:Nat)(h:k<l.length):cS r (prev l k) (l.drop k)=(ew r (prev l k) l[k]&&cS r (prev l (k+1)) (l.drop (k+1))):=by
 have e:prev l (k+1)=some l[k].1:=by simp[prev,h]
 rw[e,List.drop_eq_getElem_cons h];rfl
theorem Jb(r:Row)(l:List Fl)(k:Nat)(h:l.length<=k)(p:Option UInt8):cS r p (l.drop k)=true:=by rw[List.drop_eq_nil_of_le h];rfl
def bK(r:Row)(f:Fl):Bytes:=[32,45,f.1]++if(aJ r f.1).getD false then 32::Lx.aZ f.2 else[]
def eK:List Bytes->Bytes|[]=>[]|a::_=>if 1<a.length/\a.head?=some 45 then[32,45,45]else[]
def dW(a:Bytes):Bytes:=32::Lx.aZ a
def one(c:ag):Bytes:=if right c then c.name++c.flags.flatMap (bK ((whole c.name).getD ⟨[],[],[],0,0⟩))++eK c.args++c.args.flatMap dW else[]
/-! the letters of a right command's flags -/
theorem Ep{c:UInt8}:∀{l:Bytes},(lj c l).isSome=true->c∈l
|[],h=>by simp[lj]at h
|x::l,h=>by
  simp only[lj]at h;by_cases e:x=c;. exact e▸V6
  ·rw[if_neg e]at h;exact VT _ (Ep h)
theorem sk{r:Row}(h:(aJ r a).isSome=true):a∈r.flags:=by
 unfold aJ at h;split at h;. simp at h
 ·exact Ep h
theorem EM{s:Bytes}{r:Row}:∀{l:List Row},lu s l=some r->r∈l/\r.name=s
|[],h=>by simp[lu]at h
|x::l,h=>by
  simp only[lu]at h;split at h;. rename_i e;injection h with h;exact⟨h▸V6,h▸e⟩
  ·have :=EM h;exact⟨VT _ this.1,this.2⟩
theorem sD{s:Bytes}{r:Row}(h:whole s=some r):r∈table/\r.name=s:=EM h
theorem kd:∀r∈table,r.flags.length<=20/\r.name.length<=40/\∀c∈r.flags,c<128:=by decide+kernel
theorem SS:∀r∈table,0<=r.few/\r.few<=10/\-1<=r.ay/\r.ay<=10:=by decide+kernel
theorem zV{r:Row}:∀{l:List Fl}{p:Option UInt8},cS r p l=true->∀f∈l,(aJ r f.1).isSome=true
|[],_,_,f,a=>(V1 a).elim
|x::l,p,h,f,a=>by
  simp only[cS,Wd]at h;rcases We.1 a with rfl|a;. have :=h.1;simp only[ew,Wd]at this;exact this.1.1
  ·exact zV h.2 f a
theorem DJ{c:ag}(h:right c=true):∃r,whole c.name=some r/\r∈table/\r.name=c.name/\∀f∈c.flags,(aJ r f.1).isSome=true/\f.1<128:=by
 unfold right at h;split at h;. cases h
 ·rename_i r e;have a:=sD e;refine⟨r,e,a.1,a.2,fun f d=>?_⟩;rw[Wd]at h;have b:=zV h.2 f d;exact⟨b,(kd r a.1).2.2 _ (sk b)⟩
end Px
end
section
namespace Px
open Lx(Bytes)
abbrev OB:Row:=⟨[],[],[],0,0⟩
def rowOf(c:ag):Row:=(whole c.name).getD OB
def eM(r:Row)(f:Fl):List Bytes:=[45,f.1]::if(aJ r f.1).getD false then[f.2]else[]
def gm:List Bytes->List Bytes|[]=>[]|a::_=>if 1<a.length/\a.head?=some 45 then[[45,45]]else[]
def bp(c:ag):List Bytes:=c.name::(c.flags.flatMap (eM (rowOf c))++gm c.args++c.args)
theorem sj:∀r∈table,(r.name≠[]/\r.name.all (Lx.dZ.contains ·)=true/\r.name≠jA/\r.name≠lf/\r.name≠lh/\r.name≠nV)/\∀c∈r.flags,Lx.dZ.contains c=true/\c≠45:=by decide+kernel
theorem Jl:∀r∈table,found r.name=some r:=by decide+kernel
theorem xi{s:Bytes}(h:s≠[])(a:s.all (Lx.dZ.contains ·)=true):Lx.aZ s=s:=by rw[Lx.aZ,if_pos ⟨h,a⟩]
theorem wO(a b:List Bytes):Lx.fj (a++b)=Lx.fj a++Lx.fj b:=by simp[Lx.fj]
theorem SY(l:List Bytes):Lx.fj l=l.flatMap dW:=rfl
theorem SZ(l:List Bytes):Lx.fj (gm l)=eK l:=by
 cases l with
 |nil=>rfl
 |cons a l=>
  simp only[gm,eK];split;. decide
  ·rfl
theorem Em(r:Row):∀(l:List Fl),(∀f∈l,Lx.dZ.contains f.1=true)->Lx.fj (l.flatMap (eM r))=l.flatMap (bK r)|[],_=>rfl|f::l,h=>by rw[WQ,wO,Em r l fun x b=>h x (VT _ b),WQ];congr 1;have a:Lx.aZ [45,f.1]=[45,f.1]:=xi (by simp) (by have :=h f V6;simp only[List.all_cons,List.all_nil,this,Bool.and_true];decide);unfold eM bK Lx.fj;split<;>simp[a]
theorem zU{r:Row}:∀{l:List Fl}{p:Option UInt8},cS r p l=true->(∀q,p=some q->∀f∈l,q<f.1)/\aH l/\∀f∈l,∃v,aJ r f.1=some v/\(v=true∨f.2=[])
|[],_,_=>⟨fun _ _ f a=>(V1 a).elim,.nil,fun f a=>(V1 a).elim⟩
|x::l,p,h=>by
  simp only[cS,Wd]at h;obtain⟨e,m⟩:=h;obtain⟨k,a2,a3⟩:=zU m;simp only[ew,Wd]at e;obtain⟨⟨b,c⟩,d⟩:=e;have j:=k x.1 rfl;refine⟨fun q hq f a=>?_,Wn.2 ⟨fun f a=>j f a,a2⟩,fun f a=>?_⟩
  ·subst hq;simp only[decide_eq_true_eq]at d;rcases We.1 a with rfl|a;. exact d
   ·have :=j f a;rw[cX]at*;omega
  ·rcases We.1 a with rfl|a;. cases i:aJ r f.1 with|none=>rw[i]at b;cases b|some v=>rw[i]at c;refine⟨v,rfl,?_⟩;simpa using c
   ·exact a3 f a
structure qj(c:ag)(r:Row):Prop where
 row:whole c.name=some r
 mem:r∈table
 name:r.name=c.name
 fit:fits r c.args.length=true
 sorted:aH c.flags
 each:∀f∈c.flags,(∃v,aJ r f.1=some v/\(v=true∨f.2=[]))/\Lx.dZ.contains f.1=true/\f.1≠45
theorem im{c:ag}(h:right c=true):∃r,qj c r:=by
 unfold right at h;split at h;. cases h
 ·rename_i r e;rw[Wd]at h;have a:=sD e;obtain⟨-,i,b⟩:=zU h.2;refine⟨r,e,a.1,a.2,h.1,i,fun f d=>⟨b f d,?_⟩⟩;obtain⟨v,j,-⟩:=b f d;exact(sj r a.1).2 _ (sk (by rw[j];rfl))
theorem qj.rowOf{c:ag}{r:Row}(h:qj c r):rowOf c=r:=by rw[Px.rowOf,h.row];rfl
theorem CJ{c:ag}(h:right c=true):one c=Lx.cat (bp c):=by obtain⟨r,b⟩:=im h;have a:=(sj r b.mem).1;rw[b.name]at a;unfold one bp;rw[if_pos h,Lx.cat,xi a.1 a.2.1,wO,wO,Em _ _ (fun f d=>(b.each f d).2.1),SZ,SY];simp[Px.rowOf]
theorem Dq(f:Fl):∀(m:List Fl),(∀x∈m,x.1<f.1)->bo f m=m++[f]
|[],_=>rfl
|x::m,h=>by
  have c:=h x V6;have a:¬f.1<x.1:=fun e=>by rw[cX]at*;omega
  have b:¬f.1=x.1:=fun e=>by rw[e,cX]at c;omega
  rw[bo,if_neg a,if_neg b,Dq f m fun y d=>h y (VT _ d)];rfl
theorem AP{x:PW}(h:x.text=[45,a])(b:x.block=false):cE x=true:=by simp[cE,h,b]
theorem BO{r:Row}{l:List PW}{m:List Fl}(h:aJ r a=some false):bD r [a] l m=some (l,bo (a,[]) m):=by simp only[bD,h]
theorem uM{r:Row}{x:PW}{l:List PW}{m:List Fl}(h:aJ r a=some true):bD r [a] (x::l) m=some (l,bo (a,x.text) m):=by simp only[bD,h]
theorem uh{r:Row}{args:List Bytes}:∀(c:List Fl)(l:List PW)(m:List Fl)(n:Nat),l.length<n->l.map (·.text)=c.flatMap (eM r)++gm args++args->(∀x∈l,x.block=false)->aH c->(∀x∈m,∀f∈c,x.1<f.1)->(∀f∈c,(∃v,aJ r f.1=some v/\(v=true∨f.2=[]))/\f.1≠45)->∃rest,aM r n l m=some (rest,m++c)/\rest.map (·.text)=args
|[],l,m,n,t,hl,h,_,_,_=>by
  cases n with
  |zero=>omega
  |succ n=>
   cases args with
   |nil=>
    have :l=[]:=by simpa[gm]using hl
    subst this;exact⟨[],by simp[aM],rfl⟩
   |cons a N=>
    simp only[List.flatMap_nil,WH,gm]at hl;by_cases p:1<a.length/\a.head?=some 45;. rw[if_pos p]at hl;cases l with|nil=>cases hl|cons y z=>simp only[V8,List.singleton_append,Xi]at hl;have i:=AP hl.1 (h y (by simp));refine⟨z,?_,by rw[hl.2]⟩;simp[aM,i,hl.1]
    ·rw[if_neg p]at hl
     cases l with
     |nil=>cases hl
     |cons y z=>
      simp only[V8,WH,Xi]at hl
      have i:cE y=false:=by
       simp only[cE,h y (by simp),hl.1,Bool.not_false,Bool.true_and];rw[Bool.and_eq_false_iff];by_cases d:1<a.length;. right;rw[beq_eq_false_iff_ne];exact fun e=>p ⟨d,e⟩
       ·left;simpa using d
      refine⟨y::z,?_,by rw[V8,hl.1,hl.2]⟩;simp[aM,i]
|f::c,l,m,n,t,hl,h,hs,u,q=>by
  cases n with
  |zero=>omega
  |succ n=>
   rw[aH,Wn]at hs;obtain⟨⟨v,k,L⟩,I⟩:=q f V6;have F:bo f m=m++[f]:=Dq f m fun x b=>u x b f V6
   have C:∀x∈m++[f],∀g∈c,x.1<g.1:=fun x b g j=>by
    rcases V_.1 b with b|b;. exact u x b g (VT _ j)
    ·rw[VU.1 b];exact hs.1 g j
   cases l with
   |nil=>simp[eM]at hl
   |cons y z=>
    rw[WQ]at hl;have H:y.text=[45,f.1]:=by simp[eM]at hl;exact hl.1
    have i:=AP H (h y (by simp));have G:y.text.tail=[f.1]:=by rw[H];rfl
    have E:¬([f.1]:Bytes)=[45]:=fun e=>I (by injection e)
    cases v with
    |false=>
     have J:f.2=[]:=by simpa using L
     have K:(f.1,([]:Bytes))=f:=by rw[<-J]
     have M:z.map (·.text)=c.flatMap (eM r)++gm args++args:=by simp[eM,k]at hl;simp[hl.2]
     obtain⟨rest,d,o⟩:=uh c z (m++[f]) n (by simp at t;omega) M (fun x b=>h x (VT _ b)) hs.2 C fun g j=>q g (VT _ j);refine⟨rest,?_,o⟩;rw[aM,if_pos i,G,if_neg E,BO k,K,F];dsimp only;rw[d];simp
    |true=>
     cases z with
     |nil=>simp[eM,k]at hl
     |cons x z=>
      have b:x.text=f.2/\z.map (·.text)=c.flatMap (eM r)++gm args++args:=by simp[eM,k]at hl;exact⟨hl.2.1,by simp[hl.2.2]⟩
      obtain⟨rest,d,o⟩:=uh c z (m++[f]) n (by simp at t;omega) b.2 (fun w hw=>h w (VT _ (VT _ hw))) hs.2 C fun g j=>q g (VT _ j);refine⟨rest,?_,o⟩;rw[aM,if_pos i,G,if_neg E,uM k,b.1];dsimp only;rw[F,d];simp
theorem xh{c:ag}(h:right c=true){l:List PW}(d:l.map (·.text)=bp c)(k:∀x∈l,x.block=false):isDir l=false/\words l=.ok ⟨c.name,c.flags,c.args,gw l⟩:=by
 obtain⟨r,a⟩:=im h;have b:=(sj r a.mem).1;rw[a.name]at b
 cases l with
 |nil=>cases d
 |cons x l=>
  simp only[V8,bp,Xi,a.rowOf]at d;have i:=k x (by simp);obtain⟨rest,m,j⟩:=uh (r:=r) (args:=c.args) c.flags l [] (l.length+1) (Nat.lt_succ_self _) d.2 (fun y t=>k y (VT _ t)) a.sorted (fun x i=>(V1 i).elim) fun f e=>⟨(a.each f e).1,(a.each f e).2.2⟩;have e:flags r l=some (rest,c.flags):=m;have p:rest.length=c.args.length:=by rw[<-j,V0]
  refine⟨?_,?_⟩;. simp[isDir,i,d.1,b.2.2.1,b.2.2.2.1,b.2.2.2.2.1,b.2.2.2.2.2]
  ·have o:found x.text=some r:=by rw[d.1,<-a.name];exact Jl r a.mem
   have n:=a.fit;simp only[fits,Wd,Bool.or_eq_true,decide_eq_true_eq]at n;have q:¬((rest.length:Int)<r.few∨(0<=r.ay/\r.ay<rest.length)):=by rw[p];rintro(h|h)<;>omega
   simp only[words,i,o,e,if_neg q,j,a.name];rfl
def strip(c:ag):ag:={c with line:=0}
def aQ(G:List (List ag)):List (List ag):=G.map (·.map strip)
theorem nD(l:Lx.Ln):(aP l).1.map (·.text)=l.1.map (·.text):=by simp[aP,dV]
theorem Ql(out:List (List ag))(d:List ag)(c:ag):bG (out++[d]) c false=out++[d++[c]]:=by simp[bG]
theorem C9{X:Bytes->Bytes×Int}{g:Nat}{out:List (List ag)}{T:List cL}:∀(L:List Lx.Ln)(a d:List ag),Lx.pX g L (a.map bp)->(∀c∈a,right c=true)->∃e,e.map strip=a.map strip/\eG X (L.map aP++T) [] g (out++[d])=eG X T [] g (out++[d++e])
|[],a,d,h,_=>by
  have :a=[]:=by simpa using h.texts.symm
  subst this;exact⟨[],rfl,by simp⟩
|l::L,a,d,h,k=>by cases a with|nil=>have :=h.texts;simp at this|cons c a=>have i:=h.texts;simp only[V8,Xi]at i;have j:=h.each l (by simp);obtain⟨q,r⟩:=xh (c:=c) (l:=(aP l).1) (k c (by simp)) (by rw[nD];exact i.1) (fun x b=>by simp only[aP]at b;obtain⟨y,p,rfl⟩:=V'.1 b;exact j.2 y p);obtain⟨e,n,o⟩:=C9 (X:=X) (out:=out) (T:=T) L a (d++[⟨c.name,c.flags,c.args,gw (aP l).1⟩]) ⟨i.2,fun x b=>h.each x (VT _ b)⟩ fun x b=>k x (VT _ b);refine⟨⟨c.name,c.flags,c.args,gw (aP l).1⟩::e,by simp[n,strip],?_⟩;have m:(aP l).2=g:=j.1;rw[V8,Wa,eG,q,r];simp only[Bool.false_eq_true,if_false,taken,List.getLast?_nil,if_true,m,ne_eq,not_true_eq_false,false_or];rw[if_neg (by simp),Ql,o];simp
theorem vw{X:Bytes->Bytes×Int}:∀(G:List (List ag))(g g0:Nat)(L:List Lx.Ln)(out:List (List ag)),Lx.gN g L (G.map (·.map bp))->g≠g0->(∀b∈G,∀c∈b,right c=true)->∃d,aQ d=aQ G/\eG X (L.map aP) [] g0 out=.ok (out++d)
|[],g,g0,L,out,h,_,_=>by cases h;exact⟨[],rfl,by simp[eG]⟩
|b::G,g,g0,_,out,h,r,e=>by
  cases h with
  | @cons _ L M _ _ h u t=>
   cases b with
   |nil=>exact absurd rfl u
   |cons c b=>
    cases L with
    |nil=>have :=h.texts;simp at this
    |cons l L=>
     have i:=h.texts;simp only[V8,Xi]at i;have m:=h.each l (by simp);obtain⟨z,C⟩:=xh (c:=c) (l:=(aP l).1) (e (c::b) (by simp) c (by simp)) (by rw[nD];exact i.1) (fun x a=>by simp only[aP]at a;obtain⟨y,w,rfl⟩:=V'.1 a;exact m.2 y w);obtain⟨j,o,p⟩:=C9 (X:=X) (out:=out) (T:=M.map aP) L b [⟨c.name,c.flags,c.args,gw (aP l).1⟩] ⟨i.2,fun x a=>h.each x (VT _ a)⟩ fun x a=>e (c::b) (by simp) x (VT _ a);obtain⟨d,k,q⟩:=vw (X:=X) G (g+1) g M (out++[[⟨c.name,c.flags,c.args,gw (aP l).1⟩]++j]) t (by omega) fun x a=>e x (VT _ a);refine⟨([⟨c.name,c.flags,c.args,gw (aP l).1⟩]++j)::d,?_,?_⟩;. simp only[aQ,V8]at k⊢;rw[k];simp[o,strip]
     ·have n:(aP l).2=g:=m.1;rw[Wa,V8,eG,z,C];simp only[Bool.false_eq_true,if_false,taken,List.getLast?_nil,if_true,n];rw[if_pos (.inl r),bG,if_pos rfl,List.map_append,p,q];simp
def aW:List Bytes->Bytes|[]=>[]|[s]=>s|s::r=>s++32::59::32::aW r
def cG(a:List ag):Bytes:=if(a.map one).filter (·≠[])=[]then[]else aW ((a.map one).filter (·≠[]))++[10]
def print(G:List (List ag)):Bytes:=G.flatMap cG
theorem OT{c:ag}(h:right c=true):one c≠[]:=by obtain⟨r,b⟩:=im h;have a:=(sj r b.mem).1;rw[b.name]at a;rw[CJ h,bp,Lx.cat,xi a.1 a.2.1];intro e;exact a.1 (List.append_eq_nil_iff.1 e).1
theorem AW:∀(l:List (List Bytes)),aW (l.map Lx.cat)=Lx.dT l|[]=>rfl|[c]=>rfl|c::d::r=>by have a:=AW (d::r);show Lx.cat c++32::59::32::aW ((d::r).map Lx.cat)=Lx.cat c++32::59::32::Lx.dT (d::r);rw[a]
theorem rV{G:List (List ag)}(e:∀a∈G,a≠[]/\∀c∈a,right c=true):print G=Lx.cf (G.map (·.map bp)):=by
 unfold print Lx.cf
 induction G with
 |nil=>rfl
 |cons a G l=>
  rw[WQ,V8,WQ,l fun x k=>e x (VT _ k)];congr 1;obtain⟨j,d⟩:=e a (by simp);have h:(a.map one).filter (·≠[])=a.map one:=List.filter_eq_self.2 fun s hs=>by obtain⟨c,b,rfl⟩:=V'.1 hs;simpa using OT (d c b)
  have i:a.map one=(a.map bp).map Lx.cat:=by rw[List.map_map];exact X1 fun c b=>CJ (d c b)
  rw[cG,h,if_neg (by simpa using j),i,AW]
theorem OU(c:ag):one (strip c)=one c:=rfl
theorem Qd(a:List ag):cG (a.map strip)=cG a:=by
 have :(a.map strip).map one=a.map one:=by rw[List.map_map];exact X1 fun c _=>OU c
 rw[cG,this,cG]
theorem vM(G:List (List ag)):print (aQ G)=print G:=by unfold print aQ;rw[List.flatMap_map];exact congrArg List.flatten (X1 fun cs _=>Qd cs)
end Px
namespace Px
open Lx(Bytes)
theorem zW{r:Row}:∀{l:List Fl}{p:Option UInt8},(∀q,p=some q->∀f∈l,q<f.1)->aH l->(∀f∈l,∃v,aJ r f.1=some v/\(v=true∨f.2=[]))->cS r p l=true
|[],_,_,_,_=>rfl
|x::l,p,hp,hs,c=>by
  rw[aH,Wn]at hs;obtain⟨v,d,e⟩:=c x V6;have j:=zW (r:=r) (l:=l) (p:=some x.1) (fun q hq f a=>by injection hq with hq;rw[<-hq];exact hs.1 f a) hs.2 fun f a=>c f (VT _ a)
  have i:ew r p x=true:=by
   unfold ew;rw[d]
   have b:(v||x.2.isEmpty)=true:=by
    rcases e with rfl|h;. rfl
    ·rw[h];simp
   cases p with|none=>simp[b]|some q=>simp[b,hp q rfl x V6]
  rw[cS,i,j];rfl
theorem DI{c:ag}{r:Row}(hw:whole c.name=some r)(h:aH c.flags)(d:∀f∈c.flags,∃v,aJ r f.1=some v/\(v=true∨f.2=[]))(a:r.few<=(c.args.length:Int)/\(0<=r.ay->(c.args.length:Int)<=r.ay)):right c=true:=by
 unfold right;rw[hw]
 have b:fits r c.args.length=true:=by
  unfold fits;rw[decide_eq_true a.1];by_cases e:0<=r.ay;. rw[decide_eq_true (a.2 e)];simp
  ·rw[decide_eq_true (show r.ay<0 by omega)];rfl
 show(fits r c.args.length&&cS r none c.flags)=true;rw[b,zW (fun q hq=>by cases hq) h d];rfl
theorem vg:∀(l m:Bytes),l.Nodup->(∀x∈l,x∈m)->l.length<=m.length|[],_,_,_=>VQ _|a::l,m,b,hs=>by rw[List.nodup_cons]at b;have c:=hs a V6;have :=vg l (m.erase a) b.2 fun x d=>(List.mem_erase_of_ne fun e=>b.1 (by rw[<-e];exact d)).2 (hs x (VT _ d));rw[List.length_erase_of_mem c]at this;have :=List.length_pos_of_mem c;rw[VM];omega
theorem CD{l:List Fl}(h:aH l):(l.map (·.1)).Nodup:=by rw[List.Nodup,List.pairwise_map];exact h.imp fun a e=>by rw[e,cX]at a;omega
theorem ui{c:ag}{r:Row}(h:qj c r):c.flags.length<=20:=by
 have b:∀x∈c.flags.map (·.1),x∈r.flags:=fun x e=>by obtain⟨f,a,rfl⟩:=V'.1 e;obtain⟨⟨v,d,-⟩,-⟩:=h.each f a;exact sk (by rw[d];rfl)
 have :=vg _ _ (CD h.sorted) b;rw[V0]at this;exact Nat.le_trans this (kd r h.mem).1
theorem ue(r:Row):∀(l:List Fl),(l.flatMap (eM r)).length<=2*l.length
|[]=>by simp
|f::l=>by
  rw[WQ,VK,VM];have :=ue r l;have :(eM r f).length<=2:=by unfold eM;split<;>simp
  omega
theorem y8(l:List Bytes):(gm l).length<=1:=by cases l with|nil=>simp[gm]|cons a l=>simp only[gm];split<;>simp
theorem Jy{G:List (List ag)}:∀{g:Nat}{L:List Lx.Ln}{d:List (List (List Bytes))},Lx.gN g L d->d=G.map (·.map bp)->(∀l∈L,∃b∈G,∃c∈b,l.1.map (·.text)=bp c/\∀x∈l.1,x.block=false)/\L.length=(G.map (·.length)).sum:=by
 intro g L d h
 induction h generalizing G with
 |nil g=>
  intro e;have :G=[]:=by simpa using e.symm
  subst this;exact⟨fun l a=>(V1 a).elim,rfl⟩
 | @cons g L M c d h w t u=>
  intro e
  cases G with
  |nil=>cases e
  |cons b G=>
   rw[V8]at e;injection e with e1 e2;obtain⟨r,i2⟩:=u e2;have i:=h.texts;rw[e1]at i;refine⟨fun l a=>?_,?_⟩
   ·rcases V_.1 a with a|a;. have j:l.1.map (·.text)∈L.map (fun l=>l.1.map (·.text)):=V'.2 ⟨l,a,rfl⟩;rw[i]at j;obtain⟨c,p,q⟩:=V'.1 j;exact⟨b,by simp,c,p,q.symm,(h.each l a).2⟩
    ·obtain⟨k,m,n⟩:=r l a;exact⟨k,VT _ m,n⟩
   ·have o:L.length=b.length:=by have :=congrArg List.length i;simpa using this
    rw[VK,i2,V8,Xx,o]
end Px
namespace Px
open Lx(Bytes)
theorem SR:∀r∈table,(List.range 20).all (fun i=>match r.flags[i]? with|none=>true|some c=>c==58||(aJ r c==some (r.flags[i+1]?==some 58)&&!(r.flags.take i).contains c))=true:=by decide+kernel
theorem No{r:Row}(b:r∈table)(e:k<r.flags.length)(d:r.flags[k]≠58):aJ r r.flags[k]=some (r.flags[k+1]?==some 58)/\r.flags[k]∉r.flags.take k:=by
 have j:=(kd r b).1;have h:=Wj.1 (SR r b) k (List.mem_range.2 (by omega));rw[List.getElem?_eq_getElem e]at h;simp only[Bool.or_eq_true,Wd,beq_iff_eq,Bool.not_eq_true']at h;rcases h with h|⟨c,a⟩;. exact absurd h d
 ·refine⟨c,fun i=>?_⟩;rw[List.contains_iff_mem.2 i]at a;cases a
structure gd(r:Row)(b i:Nat)(acc:List Fl):Prop where
 sorted:aH acc
 below:∀f∈acc,f.1.toNat<=b/\(f.1.toNat=b->f.1∈r.flags.take i)
 each:∀f∈acc,(∃v,aJ r f.1=some v/\(v=true∨f.2=[]))/\f.2.length<=500
theorem gd.nil(r:Row):gd r 0 0 []:=⟨.nil,fun b a=>(V1 a).elim,fun b a=>(V1 a).elim⟩
theorem gd.skip{r:Row}{a:List Fl}(h:gd r k n a):gd r k (n+1) a:=⟨h.sorted,fun f b=>⟨(h.below f b).1,fun e=>List.mem_of_mem_take (i:=n) (by have :=(h.below f b).2 e;rw[List.take_take,Nat.min_eq_left (Nat.le_succ n)];exact this)⟩,h.each⟩
theorem gd.put{r:Row}(y:r∈table){d:List Fl}(h:gd r k n d)(j:n<r.flags.length)(t:r.flags[n].toNat=k)(i:r.flags[n]≠58){s:Bytes}(z:s.length<=500)(C:(r.flags[n+1]?==some 58)=true∨s=[]):gd r k (n+1) (d++[(r.flags[n],s)]):=by
 obtain⟨m,o⟩:=No y j i
 have u:∀f∈d,f.1<r.flags[n]:=fun f b=>by
  obtain⟨E,p⟩:=h.below f b;rw[cX];by_cases e:f.1.toNat=k;. have l:f.1=r.flags[n]:=mn.2 (by omega);exact absurd (l▸p e) o
  ·omega
 refine⟨?_,fun f b=>?_,fun f b=>?_⟩;. rw[aH,List.pairwise_append];refine⟨h.sorted,List.pairwise_singleton _ _,fun a q c i=>?_⟩;rw[VU.1 i];exact u a q
 ·rcases V_.1 b with b|b;. exact h.skip.below f b
  ·rw[VU.1 b];have w:r.flags[n]∈r.flags.take (n+1):=by rw[V4 j];exact List.mem_append_right _ (VU.2 rfl)
   exact⟨Nat.le_of_eq t,fun _=>w⟩
 ·rcases V_.1 b with b|b;. exact h.each f b
  ·rw[VU.1 b];exact⟨⟨_,m,C⟩,z⟩
theorem gd.right{r:Row}{b i:Nat}{a:List Fl}(h:gd r b i a){c:Bytes}(hw:whole c=some r){args:List Bytes}{line:Int}(e:r.few<=(args.length:Int)/\(0<=r.ay->(args.length:Int)<=r.ay)):Px.right ⟨c,a,args,line⟩=true:=DI (c:=⟨c,a,args,line⟩) hw h.sorted (fun f d=>(h.each f d).1) e
end Px
namespace Px
open Lx(Bytes)
def eU(s:Bytes)(c:ag):Bytes:=(if one c≠[]/\s≠[]then s++[32,59,32]else s)++one c
end Px
namespace Px
open Lx(Bytes)
theorem jz{α:Type}(g:α->Nat):∀{l:List α}{x:α},x∈l->g x<=(l.map g).sum
|[],_,h=>(V1 h).elim
|y::l,x,h=>by
  rw[V8,Xx];rcases We.1 h with rfl|h;. omega
  ·have :=jz g h;omega
theorem sH(s:Bytes):(Lx.aZ s).length<=2*s.length+2:=by
 unfold Lx.aZ;have :=Lx.sC s;split;. omega
 ·split;all_goals simp only[VM,VK,V9];omega
theorem y9(l:List Bytes):(eK l).length<=3:=by cases l with|nil=>exact VQ _|cons a l=>simp only[eK];split<;>simp
end Px
end
section
namespace Lx
theorem j6{t u a:Bytes}(h:put t u=.ok a):a.length=t.length+u.length:=by
 unfold put at h;split at h;. cases h
 ·cases h;exact VK
theorem zq{t r c b:Bytes}(h:cM [] t r=.ok (c,b)):c.length+b.length<=t.length+r.length+1:=by
 unfold cM at h;split at h
 ·rename_i d;have a:=kU d;split at h;. cases h
  ·split at h
   ·rename_i i e;rw[e]at a;split at h;. cases h
    ·rename_i hp;cases h;have :=j6 hp;simp[value]at a this⊢;omega
   ·cases h
 ·have a:=kU r;split at h
  ·split at h;. cases h
   ·rename_i hp;cases h;have :=j6 hp;simp at this;omega
  ·split at h;. cases h
   ·rename_i hp;cases h;have :=j6 hp;simp[value]at this;omega
theorem RV{r:Bytes}:∀{t c a:Bytes},single t r=.ok (c,a)->c.length+a.length<=t.length+r.length:=by
 induction r with
 |nil=>intro t c a h;cases h
 |cons b r e=>
  intro t c a h;unfold single at h;rw[VM];split at h;. cases h;omega
  ·split at h;. cases h
   ·rename_i hp;have d:=j6 hp;have :=e h;rw[VY]at d;omega
theorem Iz(c:UInt8):(kI c).length=1:=by
 unfold kI;split;. rfl
 split;. rfl
 split<;>rfl
theorem QF:∀(n:Nat){t r e d:Bytes},r.length<=n->quoted [] t r=.ok (e,d)->e.length+d.length<=t.length+r.length:=by
 intro n
 induction n with
 |zero=>intro t r e d i h;have :r=[]:=VP (by omega);subst this;rw[j7]at h;cases h
 |succ n c=>
  intro t r e d i h
  cases r with
  |nil=>rw[j7]at h;cases h
  |cons b r=>
   simp only[VM]at i⊢;rw[jv]at h;split at h;. cases h;omega
   split at h
   ·split at h;. cases h
    ·rename_i hd;have a:=zq hd;have j:=gV hd;have :=c (by omega) h;omega
   split at h
   ·split at h;. cases h
    ·simp only[VM]at i⊢;split at h;. have :=c (by omega) h;omega
     ·split at h;. cases h
      ·rename_i hp;have a:=j6 hp;rw[Iz]at a;have :=c (by omega) h;omega
   ·split at h;. cases h
    ·rename_i hp;have a:=j6 hp;rw[VY]at a;have :=c (by omega) h;omega
theorem TY:∀(n:Nat){f:Bool}{t r i d:Bytes},r.length<=n->word [] f t r=.ok (i,d)->i.length+d.length<=t.length+r.length/\over d=true:=by
 intro n
 induction n with
 |zero=>intro f t r i d k h;have :r=[]:=VP (by omega);subst this;rw[xe]at h;cases h;exact⟨VN _,rfl⟩
 |succ n c=>
  intro f t r i d k h
  cases e:over r with
  |true=>rw[fF _ _ _ _ e]at h;cases h;exact⟨VN _,e⟩
  |false=>
   cases r with
   |nil=>cases e
   |cons b r=>
    simp only[VM]at k⊢;rw[fV _ _ _ _ _ e]at h;split at h
    ·split at h;. cases h
     ·rename_i hd;have a:=nS hd;have j:=RV hd;have :=c (by omega) h;exact⟨by omega,this.2⟩
    split at h
    ·split at h;. cases h
     ·rename_i hd;have a:=l9 _ (VN _) hd;have j:=QF _ (VN _) hd;have :=c (by omega) h;exact⟨by omega,this.2⟩
    split at h
    ·split at h;. cases h
     ·simp only[VM]at k⊢;split at h;. have :=c (by omega) h;exact⟨by omega,this.2⟩
      ·split at h;. cases h
       ·rename_i hp;have a:=j6 hp;rw[VY]at a;have :=c (by omega) h;exact⟨by omega,this.2⟩
    split at h
    ·split at h;. cases h
     ·rename_i hd;have a:=gV hd;have j:=zq hd;have :=c (by omega) h;exact⟨by omega,this.2⟩
    split at h
    ·split at h;. cases h
     ·rename_i hp;have a:=j6 hp;have j:(value [] [72,79,77,69]).length=0:=rfl;have :=c (by omega) h;exact⟨by omega,this.2⟩
    ·split at h;. cases h
     ·rename_i hp;have a:=j6 hp;rw[VY]at a;have :=c (by omega) h;exact⟨by omega,this.2⟩
def gJ(l:List W):Nat:=(l.map fun x=>max x.text.length 1+1).sum
def jq(L:List Ln):Nat:=(L.map fun l=>gJ l.1).sum
theorem EK(l:List W)(x:W):gJ (l++[x])=gJ l+(max x.text.length 1+1):=by simp[gJ]
theorem ua(now:List W)(out:List Ln)(g:Nat):jq (fin now out g)=jq out+gJ now:=by
 unfold fin;split;. rename_i e;rw[e];rfl
 ·simp[jq]
def late(r:Bytes):Nat:=if over r=true then 0 else 1
theorem uG(r:Bytes):late r<=1:=by unfold late;split<;>omega
theorem Tg(r:Bytes):late (cQ r)=0:=by
 induction r with
 |nil=>rfl
 |cons b r a=>
  simp only[cQ];split;. rename_i e;rw[e];rfl
  ·exact a
theorem QT:∀(n:Nat){line:Nat}{now:List W}{out:List Ln}{g:Nat}{r:Bytes}{M:List Ln},r.length<=n->read [] line now out g r=.ok M->jq M<=jq out+gJ now+r.length+late r:=by
 intro n
 induction n with
 |zero=>intro line now out g r M i h;have :r=[]:=VP (by omega);subst this;rw[cP]at h;cases h;rw[ua];omega
 |succ n a=>
  intro line now out g r M i h
  cases r with
  |nil=>rw[cP]at h;cases h;rw[ua];omega
  |cons c r=>
   simp only[VM]at i⊢;have t:=uG r;have o:gJ []=0:=rfl;have q:=ua now out g;rw[b8]at h;split at h;. have :=a (by omega) h;omega
   rename_i e1;split at h
   ·rename_i e2;have u:0<r.length:=by cases r with|nil=>exact absurd e2.2 (by simp)|cons _ _=>simp
    have :=a (by rw[Xb];omega) h;have :=uG r.tail;rw[Xb]at*;omega
   split at h;. have b:=lk r;have p:=Tg r;have :=a (by omega) h;omega
   split at h;. have :=a (by omega) h;omega
   rename_i e4;split at h;. have :=a (by omega) h;omega
   rename_i e5;split at h;. cases h
   split at h;. cases h
   have j:over (c::r)=false:=by simp only[not_or]at e1;simp[over,e1,e4,e5]
   have k:late (c::r)=1:=by unfold late;rw[if_neg (by simp[j])]
   rw[k];split at h
   ·split at h;. cases h
    ·rename_i d hd;have e:=jM _ (VN _) hd;split at h
     ·rename_i b;have :=a (by omega) h;have m:late d=0:=by unfold late;rw[if_pos b]
      rw[EK]at this;simp only[List.length_take]at this;omega
     ·cases h
   ·split at h;. cases h
    ·rename_i w d hd;have e:=word_lt j hd;obtain⟨l,b⟩:=TY _ (VN _) hd;simp only[VM,V9]at e l;have :=a (by omega) h;have m:late d=0:=by unfold late;rw[if_pos b]
     rw[EK]at this;simp only at this;omega
theorem Ed{s:Bytes}{M:List Ln}(h:split [] s=.ok M):jq M<=s.length+1:=by
 unfold split at h;split at h;. cases h
 ·have :=QT _ (VN _) h;have :=uG s;have a:gJ []=0:=rfl;have b:jq []=0:=rfl;omega
theorem qW{now:List W}{out:List Ln}(h:∀l∈out,l.1≠[]):∀l∈fin now out g,l.1≠[]:=by
 unfold fin;split;. exact h
 ·rename_i b;intro l a;rcases V_.1 a with a|a;. exact h l a
  ·rw[VU.1 a];exact b
theorem QR{env:Env}:∀(n:Nat){line:Nat}{now:List W}{out:List Ln}{g:Nat}{r:Bytes}{M:List Ln},r.length<=n->(∀l∈out,l.1≠[])->read env line now out g r=.ok M->∀l∈M,l.1≠[]:=by
 intro n
 induction n with
 |zero=>intro line now out g r M e a h;have :r=[]:=VP (by omega);subst this;rw[cP]at h;cases h;exact qW a
 |succ n b=>
  intro line now out g r M e a h
  cases r with
  |nil=>rw[cP]at h;cases h;exact qW a
  |cons c r=>
   simp only[VM]at e;rw[b8]at h;split at h;. exact b (by omega) a h
   rename_i e1;split at h;. exact b (by rw[Xb];omega) a h
   split at h;. have :=lk r;exact b (by omega) a h
   split at h;. exact b (by omega) (qW a) h
   rename_i e4;split at h;. exact b (by omega) (qW a) h
   rename_i e5;split at h;. cases h
   split at h;. cases h
   have i:over (c::r)=false:=by simp only[not_or]at e1;simp[over,e1,e4,e5]
   split at h
   ·split at h;. cases h
    ·rename_i j hd;have d:=jM _ (VN _) hd;split at h;. exact b (by omega) a h
     ·cases h
   ·split at h;. cases h
    ·rename_i k j hd;have d:=word_lt i hd;simp only[VM]at d;exact b (by omega) a h
theorem Sq{env:Env}{s:Bytes}{M:List Ln}(h:split env s=.ok M):∀l∈M,l.1≠[]:=by
 unfold split at h;split at h;. cases h
 ·exact QR _ (VN _) (fun _ h=>(V1 h).elim) h
end Lx
namespace Px
open Lx(Bytes)
def wc(l:List PW):Nat:=(l.map fun x=>max x.text.length 1+1).sum
theorem TR(l:List Lx.W):wc (l.map dV)=Lx.gJ l:=by simp[wc,Lx.gJ,dV,Function.comp_def]
theorem oa(x:PW)(l:List PW):wc (x::l)=max x.text.length 1+1+wc l:=by simp[wc]
def fc(l:List Fl):Nat:=(l.map fun f=>2*f.2.length+6).sum
theorem mX(f:Fl)(l:List Fl):fc (f::l)=2*f.2.length+6+fc l:=by simp[fc]
theorem rW(f:Fl):∀l:List Fl,fc (bo f l)<=fc l+(2*f.2.length+6)/\(bo f l).length<=l.length+1
|[]=>by simp[bo,fc]
|x::l=>by
  have a:=rW f l;simp only[bo];split;. rw[mX];simp;omega
  ·split;. rw[mX,mX];simp;omega
   ·rw[mX,mX];simp only[VM];omega
theorem BQ{r:Row}:∀{t:Bytes}{l:List PW}{m:List Fl}{a:List PW}{b:List Fl},bD r t l m=some (a,b)->fc b+10*wc a<=fc m+8*t.length+10*wc l/\b.length<=m.length+t.length/\wc a<=wc l
|[],l,m,a,b,h=>by simp[bD]at h;rw[h.1,h.2];simp
|c::t,l,m,a,b,h=>by
  simp only[bD]at h;rw[VM];split at h;. cases h
  ·have d:=rW (c,[]) m;have :=BQ h;simp only[V9]at d;omega
  ·split at h
   ·split at h;. cases h
    ·rename_i x i;simp at h;have d:=rW (c,x.text) m;rw[<-h.1,<-h.2,oa];simp only[V9]at*;omega
   ·rename_i u e;simp at h;have d:=rW (c,u::e) m;rw[<-h.1,<-h.2];simp only[VM]at*;omega
def nT(m:List Fl):Nat:=if m.length=0 then 0 else 2
theorem Sa(m:List Fl):nT m<=2:=by unfold nT;split<;>omega
theorem pT:∀l:List PW,2*l.length<=wc l|[]=>VQ _|x::l=>by have :=pT l;rw[oa,VM];omega
theorem zQ{r:Row}:∀{n:Nat}{l:List PW}{m:List Fl}{a:List PW}{b:List Fl},aM r n l m=some (a,b)->fc b+10*wc a<=fc m+10*wc l/\b.length+nT b+2*a.length<=m.length+nT m+wc l
|0,l,m,a,b,h=>by simp[aM]at h;rw[h.1,h.2];have :=pT a;omega
|n+1,[],m,a,b,h=>by simp[aM]at h;rw[h.1,<-h.2];simp[wc]
|n+1,x::l,m,a,b,h=>by
  simp only[aM]at h;rw[oa];split at h
  ·rename_i d;have c:1<x.text.length:=by simp[cE]at d;exact d.1.2
   split at h;. simp at h;rw[<-h.1,<-h.2];have :=pT l;omega
   ·split at h;. cases h
    ·rename_i o m1 e;have i:=BQ e;have j:=zQ h;have k:=Sa m1;rw[Xb]at i;omega
  ·simp at h;have c:=pT (x::l);rw[<-h.1,<-h.2];rw[oa]at c⊢;omega
theorem BT{r:Row}:∀{t:Bytes}{l:List PW}{m:List Fl}{j:List PW}{a:List Fl},(∀f∈m,∃v,aJ r f.1=some v/\(v=true∨f.2=[]))->bD r t l m=some (j,a)->∀f∈a,∃v,aJ r f.1=some v/\(v=true∨f.2=[])
|[],l,m,j,a,d,h=>by simp[bD]at h;exact h.2▸d
|c::t,l,m,j,a,d,h=>by
  have i:∀(s:Bytes)(v:Bool),aJ r c=some v->(v=true∨s=[])->∀f∈bo (c,s) m,∃v,aJ r f.1=some v/\(v=true∨f.2=[]):=fun s v e e2 f b=>by
   rcases vO b with rfl|b;. exact⟨v,e,e2⟩
   ·exact d f b
  simp only[bD]at h;split at h;. cases h
  ·rename_i e;exact BT (i [] _ e (.inr rfl)) h
  ·rename_i e;split at h
   ·split at h;. cases h
    ·simp at h;exact h.2▸i _ _ e (.inl rfl)
   ·simp at h;exact h.2▸i _ _ e (.inl rfl)
theorem zT{r:Row}:∀{n:Nat}{l:List PW}{m:List Fl}{c:List PW}{b:List Fl},(∀f∈m,∃v,aJ r f.1=some v/\(v=true∨f.2=[]))->aM r n l m=some (c,b)->∀f∈b,∃v,aJ r f.1=some v/\(v=true∨f.2=[])
|0,l,m,c,b,a,h=>by simp[aM]at h;exact h.2▸a
|n+1,[],m,c,b,a,h=>by simp[aM]at h;exact h.2▸a
|n+1,x::l,m,c,b,a,h=>by
  simp only[aM]at h;split at h
  ·split at h;. simp at h;exact h.2▸a
   ·split at h;. cases h
    ·rename_i e;exact zT (BT a e) h
  ·simp at h;exact h.2▸a
theorem oV{s:Bytes}{r:Row}:∀(t l:List Row),gr s t l=some r->r∈t∨r∈l
|[],l,h=>by
  simp only[gr]at h;split at h;. injection h with h;exact .inr (by simp[h])
  ·cases h
|x::t,l,h=>by
  simp only[gr]at h;split at h;. injection h with h;exact .inl (by simp[h])
  ·rcases oV _ _ h with h|h;. exact .inl (VT _ h)
   ·split at h
    ·rcases V_.1 h with h|h;. exact .inr h
     ·exact .inl (by rw[VU.1 h];exact V6)
    ·exact .inr h
theorem uk{s:Bytes}{r:Row}(h:found s=some r):r∈table:=(oV _ _ h).resolve_right (by simp)
theorem Jm:found []=none:=by decide+kernel
theorem SU:∀r∈table,r.name.length<=16/\whole r.name=some r/\(r.ay<0->(r.flags.filter (·!=58)).length<=4)/\r.ay<=3:=by decide+kernel
theorem CG:∀l:List Bytes,(l.flatMap dW).length+(eK l).length<=10*(l.map fun a=>max a.length 1+1).sum/\(l.flatMap dW).length<=10*(l.map fun a=>max a.length 1+1).sum
|[]=>by simp[eK]
|a::l=>by
  have e:=CG l;have b:=sH a;have c:=y9 (a::l);rw[WQ,V8,Xx,VK];have d:(dW a).length=(Lx.aZ a).length+1:=by simp[dW]
  omega
theorem CI(r:Row):∀l:List Fl,(l.flatMap (bK r)).length<=fc l
|[]=>by simp
|f::l=>by
  have c:=CI r l;have a:=sH f.2;rw[WQ,VK,mX];have b:(bK r f).length<=2*f.2.length+6:=by unfold bK;split<;>simp<;>omega
  omega
theorem FY(l:List PW):((l.map (·.text)).map fun a=>max a.length 1+1).sum=wc l:=by simp[wc,Function.comp_def]
theorem TQ{l:List PW}{x:PW}(h:x∈l):x.text.length+1<=wc l:=by have :=jz (fun x:PW=>max x.text.length 1+1) h;unfold wc;omega
theorem IK{l:List Fl}{f:Fl}(h:f∈l):2*f.2.length+6<=fc l:=jz (fun f:Fl=>2*f.2.length+6) h
structure Fm(l:List PW)(c:ag):Prop where
 right:right c=true
 one:(one c).length+3<=10*wc l
 small:Lx.Small (bp c)
theorem OC{r:Row}{l:List Fl}(c:aH l)(h:∀f∈l,∃v,aJ r f.1=some v/\(v=true∨f.2=[])):l.length<=(r.flags.filter (·!=58)).length:=by
 have d:∀x∈l.map (·.1),x∈r.flags.filter (·!=58):=fun x i=>by
  obtain⟨f,b,rfl⟩:=V'.1 i;obtain⟨v,a,-⟩:=h f b;refine List.mem_filter.2 ⟨sk (by rw[a];rfl),?_⟩;unfold aJ at a;split at a;. cases a
  ·rename_i e;simpa using e
 have :=vg _ _ (CD c) d;rwa[V0]at this
theorem R9{c:ag}(h:right c=true)(k:∀f∈c.flags,f.2.length<=8192)(i:∀a∈c.args,a.length<=8192)(o:2*c.flags.length+c.args.length<=254):Lx.Small (bp c):=by
 obtain⟨r,e⟩:=im h;refine⟨by simp[bp],fun x b=>?_,?_⟩
 ·simp only[bp,We,V_,List.mem_flatMap]at b;rcases b with rfl|(⟨f,j,b⟩|b)|b;. have :=(kd r e.mem).2.1;rw[e.name]at this;omega
  ·unfold eM at b;rcases We.1 b with rfl|b;. simp
   ·split at b;. rw[VU.1 b];exact k f j
    ·exact(V1 b).elim
  ·cases d:c.args with
   |nil=>rw[d]at b;exact(V1 b).elim
   |cons a l=>
    rw[d,gm]at b;split at b;. rw[VU.1 b];simp
    ·exact(V1 b).elim
  ·exact i x b
 ·simp only[bp,VM,VK];have m:=ue (rowOf c) c.flags;have n:=y8 c.args;omega
theorem Ua{l:List PW}{c:ag}(h:words l=.ok c)(hw:wc l<=501):Fm l c:=by
 cases l with
 |nil=>simp[words]at h
 |cons x l=>
  simp only[words]at h;split at h;. cases h
  ·split at h;. cases h
   ·rename_i r i;split at h;. cases h
    ·rename_i rest m e;split at h;. cases h
     ·rename_i M;injection h with h;subst h;have C:=uk i;obtain⟨O,t2,t3,t4⟩:=SU r C;have n:1<=x.text.length:=by cases n:x.text with|nil=>rw[n,Jm]at i;cases i|cons _ _=>simp
      obtain⟨G,p⟩:=zQ e;have k:=zS List.Pairwise.nil e;have j:=zT (fun f d=>(V1 d).elim) e;have H:fc []=0:=rfl;have I:nT []=0:=rfl;rw[oa]at hw;have b:right ⟨r.name,m,rest.map (·.text),x.line⟩=true:=DI (r:=r) t2 k j ⟨by show r.few<=((rest.map (·.text)).length:Int);rw[V0];omega,by show 0<=r.ay->((rest.map (·.text)).length:Int)<=r.ay;rw[V0];omega⟩;obtain⟨N,E⟩:=im b;refine⟨b,?_,R9 b (fun f d=>?_) (fun a w=>?_) ?_⟩;. rw[oa];unfold one;rw[if_pos b];have J:=CI ((whole r.name).getD ⟨[],[],[],0,0⟩) m;have q:=(CG (rest.map (·.text))).1;rw[FY]at q;simp only[VK];omega
      ·have :2*f.2.length+6<=fc m:=IK d;omega
      ·obtain⟨y,F,rfl⟩:=V'.1 w;have :=TQ F;omega
      ·show 2*m.length+(rest.map (·.text)).length<=254;rw[V0];have t:=ui E;have o:(⟨r.name,m,rest.map (·.text),x.line⟩:ag).flags=m:=rfl;rw[o]at t;by_cases z:r.ay<0;. have K:=OC k j;have L:=t3 z;have u:nT m=if m.length=0 then 0 else 2:=rfl;simp only[V9]at p;split at u<;>omega
       ·omega
end Px
end
end Go.Proofs.YtmddhediccmhbaaGreatDoor
