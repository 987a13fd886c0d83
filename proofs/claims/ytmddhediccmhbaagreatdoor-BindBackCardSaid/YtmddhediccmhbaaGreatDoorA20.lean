/- parse.One, parse.Print. -/
import Derived.Test.YtmddhediccmhbaaGreatDoorA19
set_option linter.all false
set_option maxHeartbeats 400000000
set_option maxRecDepth 100000
namespace Go.Proofs.YtmddhediccmhbaaGreatDoor
open Go.RowKit
open Go.Proofs.Tryz
open And renaming intro→VJ
open _root_.Array renaming getElem?_eq_some_iff→VV
open Ending renaming returned→W4
open Lib renaming hid→VH
open List renaming getElem?_map→W7
open List renaming getElem_mem→VZ
open List renaming length_append→VK
open List renaming length_cons→VM
open List renaming length_map→V0
open List renaming length_nil→V9
open List renaming take_length→XD
open List renaming take_succ_eq_append_getElem→V4
open Nat renaming le_trans→VS
open Nat renaming lt_of_lt_of_le→VO
open Nat renaming mul_le_mul_right→V3
open Nat renaming zero_add→Wv
open Nat renaming zero_le→VQ
open Option renaming getD→XE
open Option renaming isSome→Xq
open Go.Proofs.Tryz renaming prog→VI
variable {w w':World}{k n m g:Nat}{v u z v0 v2:Value}{s x:ByteArray}{a:UInt8}{F:Array Value}
section
open Lx(Bytes)
structure gQ(w wr:World)(K:Nat)(nm:ByteArray)(fv av:Value)(line:Int)(r:Px.Row)(fl:List Px.Fl)(k:Nat):Prop where
 le:k<=fl.length
 box:ad wr w.heap.size 53 #[.string nm,fv,av,.int .i64 line]
 row:ad wr K 143 (eT r)
 spec:Px.cS r (Px.prev fl k) (fl.drop k)=Px.cS r none fl
 turns:aa ab w wr
theorem gQ.still{wr:World}{line:Int}{r:Px.Row}{b:List Px.Fl}(h:gQ w wr k s v u line r b n)(a:aa ab wr w'):gQ w w' k s v u line r b n:=⟨h.le,a.blk h.box id,a.blk h.row id,h.spec,h.turns.same a⟩
theorem gQ.next{wr:World}{line:Int}{r:Px.Row}{a:List Px.Fl}(h:gQ w wr k s v u line r a n)(c:n<a.length)(d:Px.ew r (Px.prev a n) a[n]=true)(e:aa ab wr w'):gQ w w' k s v u line r a (n+1):=by have b:=h.still e;refine⟨c,b.box,b.row,?_,b.turns⟩;rw[<-h.spec,Px.zX r a n c,d,Bool.true_and]
theorem gQ.bad{wr:World}{line:Int}{r:Px.Row}{a:List Px.Fl}(h:gQ w wr k s v u line r a n)(c:n<a.length)(b:Px.ew r (Px.prev a n) a[n]=false):Px.cS r none a=false:=by rw[<-h.spec,Px.zX r a n c,b,Bool.false_and]
theorem gQ.done{wr:World}{line:Int}{r:Px.Row}{a:List Px.Fl}(h:gQ w wr k s v u line r a n)(b:¬n<a.length):Px.cS r none a=true:=by rw[<-h.spec];exact Px.Jb r a n (by omega) _
theorem r7{r:Px.Row}(h:ad w k 143 (eT r)):w.cell? ⟨k,0,none⟩=some (ah r.name)/\w.cell? ⟨k,1,none⟩=some (ah r.others)/\w.cell? ⟨k,2,none⟩=some (ah r.flags)/\w.cell? ⟨k,3,none⟩=some (.int .i64 r.few)/\w.cell? ⟨k,4,none⟩=some (.int .i64 r.ay)/\k<w.heap.size:=⟨h.cell 0,h.cell 1,h.cell 2,h.cell 3,h.cell 4,h.lt⟩
theorem iJ{v3:Value}(h:ad w k 53 #[v0,v,v2,v3]):w.cell? ⟨k,0,none⟩=some v0/\w.cell? ⟨k,1,none⟩=some v/\w.cell? ⟨k,2,none⟩=some v2/\w.cell? ⟨k,3,none⟩=some v3/\k<w.heap.size:=⟨h.cell 0,h.cell 1,h.cell 2,h.cell 3,h.lt⟩
theorem uf(h:ad w k 125 #[v0,v]):w.cell? ⟨k,0,none⟩=some v0/\w.cell? ⟨k,1,none⟩=some v/\k<w.heap.size:=⟨h.cell 0,h.cell 1,h.lt⟩
theorem I9{r:Px.Row}{p:Option UInt8}{f:Px.Fl}(h:Px.aJ r f.1=none):Px.ew r p f=false:=by simp[Px.ew,h]
theorem I_{r:Px.Row}{p:Option UInt8}{f:Px.Fl}(h:Px.aJ r f.1=some false)(a:f.2≠[]):Px.ew r p f=false:=by simp[Px.ew,h,a]
theorem I8{r:Px.Row}{f:Px.Fl}{v:Bool}(h:Px.aJ r f.1=some v)(a:v=true∨f.2=[]):Px.ew r none f=true:=by rcases a with rfl|a<;>simp[Px.ew, *]
theorem zO{r:Px.Row}{f:Px.Fl}{v:Bool}(h:Px.aJ r f.1=some v)(b:v=true∨f.2=[]):Px.ew r (some a) f=decide (a<f.1):=by rcases b with rfl|b<;>simp[Px.ew, *]
theorem Qa{l:List Px.Fl}(h:k<l.length):Px.prev l (k+1)=some l[k].1:=by simp[Px.prev,h]
theorem Q0{nm:ByteArray}{line:Int}{a:List Px.Fl}{args:List Bytes}(hf:eZ w u a)(a8:∃A c,z=.slice A args.length c)(bb:args.length<=1050000):Calls VI 101 #[.agg #[.string nm,u,z,.int .i64 line]] w fun e w'=>e=.returned (.bool (Px.right ⟨sl nm,a,args,line⟩))/\aa ab w w':=by
 obtain⟨F,c2,rfl⟩:=a8;obtain⟨⟨A,I,rfl,l⟩,bd⟩:=hf;have HC:=VH l;clear l;have HB:=VH (ad.new w 53 #[.string nm,.slice A a.length I,.slice F args.length c2,.int .i64 line]);have ha:(args.length:Int)<=1050000:=by omega
 have a6:=VH (show Px.right ⟨sl nm,a,args,line⟩=(match Px.whole (sl nm)with|none=>false|some r=>Px.fits r args.length&&Px.cS r none a)from rfl);rw[a6.out];have HW:=VH (EN (w.alloc (.cells #[.string nm,.slice A a.length I,.slice F args.length c2,.int .i64 line] 53)) nm);have HM:=VH (fun r(h:Px.whole (sl nm)=some r)=>VJ (Px.kd r (Px.sD h).1) (Px.SS r (Px.sD h).1));clear a6;generalize y:Px.whole (sl nm)=q at HW HM⊢;clear y;go_enter func101,ntmps101;go_wp2_with fail;refine HW.out.mono ?_;rintro e T⟨rfl,S⟩;obtain⟨x0,U,x2,x3,x4⟩:=iJ (S.blk HB.out id);have T1:=VH (VJ (((aa.refl ab w).alloc (.cells #[.string nm,.slice A a.length I,.slice F args.length c2,.int .i64 line] 53)).same S) (S.blk HB.out id));clear S HW
 cases q with
 |none=>simp only[eH,ah,mc,XE,Xq,xo];go_wp2_with fail;go_ret;exact⟨rfl,T1.out.1.alloc _⟩
 |some r=>
  obtain⟨⟨bl,-,-⟩,bm,bn,bs,bt⟩:=HM.out r rfl;have R0:gQ w (T.alloc (.cells (eT r) 143)) T.heap.size nm (.slice A a.length I) (.slice F args.length c2) line r a 0:=⟨VQ _,T1.out.2.alloc _,ad.new T _ _,rfl,T1.out.1.alloc _⟩;simp only[mc,XE,Xq,eH,eT,ah]at R0⊢;have O:=VH R0;clear R0;go_upto_region 2 with fail
  have hr:∀b:Bool,(Px.fits r args.length&&b)=(if(args.length:Int)<r.few then false else if 0<=r.ay/\r.ay<args.length then false else b):=by
   intro b;unfold Px.fits;by_cases K:(args.length:Int)<r.few;. rw[if_pos K,decide_eq_false (by omega)];simp
   ·rw[if_neg K,decide_eq_true (by omega)];by_cases L:0<=r.ay/\r.ay<args.length;. rw[if_pos L,decide_eq_false (by omega),decide_eq_false (by omega)];simp
    ·rw[if_neg L];by_cases h3:r.ay<0;. rw[decide_eq_true h3];simp
     ·rw[decide_eq_true (show(args.length:Int)<=r.ay by omega)];simp
  have x:=VH hr;clear hr;obtain⟨y0,y1,y2,y3,y4,y5⟩:=r7 O.out.row;by_cases N:(args.length:Int)<r.few;. have d1:decide ((args.length:Int)<r.few)=true:=decide_eq_true N;have n:=VH (show∀b:Bool,(Px.fits r args.length&&b)=false from fun b=>by rw[x.out,if_pos N]);clear x;go_wp2_with fail;go_ret;exact⟨show W4 (.bool false)=.returned (.bool (Px.fits r args.length&&Px.cS r none a))by rw[n.out],O.out.turns⟩
  ·have d1:decide ((args.length:Int)<r.few)=false:=decide_eq_false N;by_cases P:0<=r.ay/\r.ay<args.length;. obtain⟨d,ar⟩:=P;have d2:decide (0<=r.ay)=true:=decide_eq_true d;have d3:decide (r.ay<(args.length:Int))=true:=decide_eq_true ar;have n:=VH (show∀b:Bool,(Px.fits r args.length&&b)=false from fun b=>by rw[x.out,if_neg N,if_pos ⟨d,ar⟩]);clear x;go_wp2_with fail;go_ret;exact⟨show W4 (.bool false)=.returned (.bool (Px.fits r args.length&&Px.cS r none a))by rw[n.out],O.out.turns⟩
   ·have n:=VH (show∀b:Bool,(Px.fits r args.length&&b)=b from fun b=>by rw[x.out,if_neg N,if_neg P]);clear x
    have a':(0<=r.ay/\decide (0<=r.ay)=true/\¬r.ay<args.length/\decide (r.ay<(args.length:Int))=false)∨(¬0<=r.ay/\decide (0<=r.ay)=false):=by
     by_cases d:0<=r.ay;. have :¬r.ay<args.length:=fun h=>P ⟨d,h⟩;exact .inl ⟨d,decide_eq_true d,this,decide_eq_false this⟩
     ·exact .inr ⟨d,decide_eq_false d⟩
    clear P;rcases a' with⟨d,d2,ar,d3⟩|⟨d,d2⟩
    all_goals
     go_wp2_with fail;clear y0 y1 y2 y3 y4 x0 U x2 x3;go_loopw[41](fun i wr=>∃k:Nat,i=.int .i64 k/\gQ w wr T.heap.size nm (.slice A a.length I) (.slice F args.length c2) line r a k)(fun i _=>a.length-(intOf i).toNat);case atStart=>exact⟨0,rfl,O.out⟩
     case round=>
      obtain⟨k,rfl,j⟩:=hrel;by_cases t:k<a.length
      ·obtain⟨b,off,rfl,M,al⟩:=HC.out (by omega);obtain⟨f0,f1⟩:=al k t;have f0:=(j.turns.cell (p:=⟨b,_,none⟩) M id).trans f0;have f1:=(j.turns.cell (p:=⟨b,_,none⟩) M id).trans f1;have ai:b<wr.heap.size:=VO M j.turns.size;obtain⟨y0,y1,y2,y3,y4,y5⟩:=r7 j.row;obtain⟨x0,U,x2,x3,x5⟩:=iJ j.box;have HN:=VH (ad.new wr 125 #[.int .u8 a[k].1.toNat,ah a[k].2]);have Z:=VH (fun W=>wQ W r a[k].1 (by omega));simp only[eH]at Z;have o:=VH j;clear j;go_wp2_with fail;refine(Z.out _).mono ?_;rintro e w3⟨rfl,a1⟩;have m:∃E:ByteArray,E=⟨a[k].2.toArray⟩:=⟨_,rfl⟩;obtain⟨E,m⟩:=m;have hF:ad w3 wr.heap.size 125 #[.int .u8 a[k].1.toNat,.string E]:=by rw[m];exact a1.blk HN.out id
       obtain⟨g0,g1,g2⟩:=uf hF;have p:=VH (((aa.refl ab wr).alloc _).same a1);have z1:=(p.out.cell (p:=⟨w.heap.size,1,none⟩) x5 id).trans U;have z5:w.heap.size<w3.heap.size:=VO x5 p.out.size;have bc:b<w3.heap.size:=VO ai p.out.size;have HP:=VH (fun q(y:q<a.length)=>(p.out.cell (p:=⟨b,off+q*2,none⟩) ai id).trans ((o.out.turns.cell (p:=⟨b,off+q*2,none⟩) M id).trans (al q y).1));generalize a7:Px.aJ r a[k].1=tk;have G:=VH a7;have HX:=VH m;have Y:=VH (o.out.turns.same p.out);clear a7 m a1 HN Z hF f0 f1 y0 y1 y2 y3 y4 x0 U x2 x3 x5 al M ai;rcases tk with _|v;. simp only[Xq,XE];go_upto_region 8 with fail;go_quiet(fail);go_wp2_with fail;go_ret;exact⟨show W4 (.bool false)=.returned (.bool (Px.fits r args.length&&Px.cS r none a))by rw[n.out,o.out.bad t (I9 G.out)],Y.out.drewN _⟩
       ·simp only[Xq,XE];by_cases C:v=false/\a[k].2≠[]
        ·obtain⟨rfl,aA⟩:=C;have d0:(E.toList==([]:List UInt8))=false:=by rw[beq_eq_false_iff_ne,mh,HX.out];exact aA
         have d4:(E.toList !=([]:List UInt8))=true:=by rw[bne,d0];rfl
         have H:=VH aA;clear aA;go_upto_region 8 with fail;go_quiet(fail);go_wp2_with fail;go_ret;exact⟨show W4 (.bool false)=.returned (.bool (Px.fits r args.length&&Px.cS r none a))by rw[n.out,o.out.bad t (I_ G.out H.out)],Y.out.drewN _⟩
        ·have C:v=true∨a[k].2=[]:=by
          by_cases K:v=true;. exact .inl K
          ·right;by_cases L:a[k].2=[];. exact L
           ·exact absurd ⟨by simpa using K,L⟩ C
         have H:=VH C
         have m:v=true∨(v=false/\E=⟨#[]⟩):=by
          cases v
          ·right;refine⟨rfl,?_⟩;rw[HX.out];rcases C with h|h;. cases h
           ·rw[h]
          ·exact .inl rfl
         clear C;rcases k with _|q
         ·rcases m with rfl|⟨rfl,rfl⟩
          all_goals
           go_upto_region 8 with fail;go_quiet(fail);go_wp2_with fail;go_roundw;case rel=>exact⟨1,by go_num,o.out.next t (I8 G.out H.out) (p.out.drewN _)⟩
           case measure=>simp[intOf];omega
         ·have y:q<a.length:=by omega
          have p0:=HP.out q y;have Q:=Qa y;by_cases l:a[q].1<a[q+1].1
          ·have J:decide ((a[q+1].1.toNat:Int)<=(a[q].1.toNat:Int))=false:=by rw[Px.cX]at l;exact decide_eq_false (by omega)
           have X:=VH (show Px.ew r (Px.prev a (q+1)) a[q+1]=true by rw[Q,zO G.out H.out,decide_eq_true l]);clear Q l;generalize(a[q+1].1.toNat:Int)=ci at g0 J;generalize(a[q].1.toNat:Int)=cj at p0 J;rcases m with rfl|⟨rfl,rfl⟩
           all_goals
            go_upto_region 8 with fail;go_quiet(fail);go_wp2_with fail;go_roundw;case rel=>exact⟨q+1+1,by go_num,o.out.next t X.out (p.out.drewN _)⟩
            case measure=>simp[intOf];omega
          ·have J:decide ((a[q+1].1.toNat:Int)<=(a[q].1.toNat:Int))=true:=by rw[Px.cX]at l;exact decide_eq_true (by omega)
           have X:=VH (show Px.ew r (Px.prev a (q+1)) a[q+1]=false by rw[Q,zO G.out H.out,decide_eq_false l]);clear Q l;generalize(a[q+1].1.toNat:Int)=ci at g0 J;generalize(a[q].1.toNat:Int)=cj at p0 J;rcases m with rfl|⟨rfl,rfl⟩;all_goals go_upto_region 8 with fail;go_quiet(fail);go_wp2_with fail;go_ret;exact⟨show W4 (.bool false)=.returned (.bool (Px.fits r args.length&&Px.cS r none a))by rw[n.out,o.out.bad t X.out],Y.out.drewN _⟩
      ·go_wp2_with fail;go_ret;exact⟨show W4 (.bool true)=.returned (.bool (Px.fits r args.length&&Px.cS r none a))by rw[n.out,j.done t],j.turns⟩
open Lx(Bytes)
structure gR(w:World)(v:Value)(l:List Bytes):Prop where
 at_:∃A c,v=.slice A l.length c/\(0<l.length->∃b off,A=some ⟨b,off,none⟩/\b<w.heap.size/\∀i,(h:i<l.length)->w.cell? ⟨b,off+i,none⟩=some (ah l[i]))
theorem gR.still{l:List Bytes}(h:gR w v l)(d:aa ab w w'):gR w' v l:=by obtain⟨A,c,rfl,j⟩:=h.at_;refine⟨⟨A,c,rfl,fun e=>?_⟩⟩;obtain⟨b,off,k,a,m⟩:=j e;exact⟨b,off,k,VO a d.size,fun i hi=>(d.cell (p:=⟨b,_,none⟩) a id).trans (m i hi)⟩
theorem vq{B:Nat}{l:List Bytes}(h:w.ownsRow B 9 1 v l.length (l.map ah)):gR w v l:=by
 rcases h.2 with⟨rfl,b⟩|⟨g,a,d,rfl,e,c,_⟩;. exact⟨⟨none,0,by rw[b],fun hp=>by omega⟩⟩
 ·refine⟨⟨_,a,rfl,fun _=>⟨g,0,rfl,(VV.1 c).1,fun i hi=>?_⟩⟩⟩;rw[Wv,h.cellAt _ (by omega),W7,List.getElem?_eq_getElem hi];rfl
abbrev gP(B:Nat)(T:Bytes)(w:World):Prop:=Lib.IsBuilderF 104 5 B B (eW T) w
theorem gP.lt{B:Nat}{T:Bytes}{w:World}(h:gP B T w):B<w.heap.size:=h.elim (fun h=>h.lt) fun h=>h.lt
theorem gP.still{B:Nat}{T:Bytes}(h:gP B T w)(a:aa ab w w'):gP B T w':=by have c:w.grownBy w' none:=⟨a.os,a.tape,a.output,a.size,fun k d _=>a.block k d id⟩;refine h.imp ?_ ?_;all_goals intro h;have e:=h.lt;obtain⟨hB,v,b,j,i⟩:=h;exact⟨hB,v,(a.block B e id).trans b,j.kept c (by cases v.ownBlock<;>simp),i⟩
theorem mr{B:Nat}{l:Bytes}(h:gP B l w)(s:ByteArray)(d:l.length+s.size<=140737488355328):Calls VI 33 #[.pointer (some ⟨B,0,none⟩),.string s] w fun e w'=>e=.returned (.tuple #[.int .i64 s.size,.nilIface])/\gP B (l++sl s) w'/\Below B w w'/\Lib.OthersKept 5 (some B) w w':=by have a:=Any.Builder_WriteString_k Tryz.yC Tryz.tE B B (eW l) s w h (by rw[EB];exact d) (Nat.le_of_lt h.lt);change Calls VI 33 _ _ _ at a;refine a.mono fun e w'⟨c,hw,b⟩=>⟨c,.inr ?_,b⟩;rw[wV];exact hw
theorem tD{B:Nat}{l:Bytes}(h:gP B l w):Calls VI 35 #[.pointer (some ⟨B,0,none⟩)] w fun e w'=>e=.returned (.string ⟨l.toArray⟩)/\Below B w w':=(Tryz.Builder_String_any_k B B l w h (Nat.le_of_lt h.lt)).mono fun c d⟨b,_,a,_⟩=>⟨b,a⟩
theorem Ja{B:Nat}(h:ad w g 125 #[v0,v])(b:Lib.OthersKept 5 (some B) w w')(a:g≠B):ad w' g 125 #[v0,v]:=b g _ h (fun e=>a (by injection e)) fun c d e=>by injection e with e1 e2;exact absurd e2 (by decide)
theorem BL{T:Bytes}(h:T.length<=n)(b:s.size<=m)(a:n+m<=140737488355328):T.length+s.size<=140737488355328:=by omega
theorem qB(a b:ByteArray):(a++b).size=a.size+b.size:=ByteArray.size_append
structure fZ(w:World)(K B:Nat)(bx:Array Value)(r:Px.Row)(T:Bytes)(wr:World):Prop where
 box:ad wr w.heap.size 53 bx
 row:ad wr K 143 (eT r)
 eB:gP B T wr
 turns:aa ab w wr
 low:w.heap.size<B/\K<B
theorem fZ.still{w wr c:World}{K B:Nat}{b:Array Value}{r:Px.Row}{T:Bytes}(h:fZ w K B b r T wr)(a:aa ab wr c):fZ w K B b r T c:=⟨a.blk h.box id,a.blk h.row id,h.eB.still a,h.turns.same a,h.low⟩
theorem fZ.wrote{wr:World}{B:Nat}{r:Px.Row}{T T':Bytes}(h:fZ w k B F r T wr)(d:gP B T' w')(c:Below B wr w'):fZ w k B F r T' w':=by have a:aa (fun b=>B<=b) wr w':=aa.eO c fun b h1 h2=>h1;exact⟨a.blk h.box (fun e=>by have :=h.low.1;omega),a.blk h.row (fun e=>by have :=h.low.2;omega),d,h.turns.trans a fun b c e=>by have :=h.low.1;omega,h.low⟩
theorem fZ.ended{wr:World}{B:Nat}{r:Px.Row}{T:Bytes}(h:fZ w k B F r T wr)(a:Below B wr w'):aa ab w w':=by have c:aa (fun b=>B<=b) wr w':=aa.eO a fun b h1 h2=>h1;exact h.turns.trans c fun b a e=>by have :=h.low.1;omega
theorem od(s:Bytes):(Lx.aZ s).length<=2*s.length+2:=by
 unfold Lx.aZ;have :=Lx.sC s;split;. omega
 ·split;all_goals simp only[VM,VK,V9];omega
theorem nf{α:Type}(g:α->Bytes)(M:Nat):∀(l:List α),(∀x∈l,(g x).length<=M)->(l.flatMap g).length<=l.length*M|[],_=>by simp|x::l,h=>by rw[List.flatMap_cons,VK,VM,Nat.succ_mul];have :=nf g M l fun y a=>h y (List.mem_cons_of_mem _ a);have :=h x List.mem_cons_self;omega
theorem z6{α:Type}(g:α->Bytes)(M:Nat)(l:List α)(h:∀x∈l,(g x).length<=M)(k:Nat)(a:k<=l.length):((l.take k).flatMap g).length<=k*M:=by have :=nf g M (l.take k) fun x b=>h x (List.mem_of_mem_take b);rwa[List.length_take,Nat.min_eq_left a]at this
theorem uj{α:Type}(g:α->Bytes)(l:List α)(k:Nat)(h:k<l.length):(l.take (k+1)).flatMap g=(l.take k).flatMap g++g l[k]:=by rw[V4 h,List.flatMap_append];simp
theorem CH(r:Px.Row)(f:Px.Fl)(h:f.2.length<=1600000):(Px.bK r f).length<=4000000:=by have :=od f.2;unfold Px.bK;rw[VK];split;all_goals simp only[VM,V9];omega
theorem OL(a:Bytes)(h:a.length<=1600000):(Px.dW a).length<=4000000:=by have :=od a;simp only[Px.dW,VM];omega
theorem y_(l:List Bytes):(Px.eK l).length<=3:=by cases l with|nil=>simp[Px.eK]|cons a l=>simp only[Px.eK];split<;>simp
def kO:List Bytes->Bool|[]=>false|a::_=>decide (1<a.length/\a.head?=some 45)
theorem Hn(l:List Bytes):Px.eK l=if kO l then[32,45,45]else[]:=by cases l with|nil=>rfl|cons a l=>simp[Px.eK,kO]
theorem GL(c:UInt8)(b:c<128)(w:World):(convert 21 9 (.int .i32 c.toNat)).run VI w=.ok (.string ⟨#[c]⟩) w:=by
 have a:c.toNat<128:=b;have e:Utf8.valid (c.toNat:Int)=true:=by unfold Utf8.valid;simp;omega
 have d:Utf8.encode (c.toNat:Int)=⟨#[c]⟩:=by simp[Utf8.encode,e,a]
 simp[convert,run_underlying underlying21,run_underlying underlying9,Conv.intToString,d]
theorem OS{line:Int}{j:List Px.Fl}{args:List Bytes}(S:eZ w u j)(b5:gR w z args)(bx:j.length<=1050000/\∀f∈j,f.2.length<=1600000)(a':args.length<=1050000/\∀a∈args,a.length<=1600000):Calls VI 57 #[.agg #[.string s,u,z,.int .i64 line]] w fun e w'=>∃x:ByteArray,e=.returned (.string x)/\sl x=Px.one ⟨sl s,j,args,line⟩/\aa ab w w':=by
 obtain⟨F,c2,rfl,cb⟩:=b5.at_;obtain⟨A,I,rfl,hc⟩:=S.at_;have HR:=VH (Q0 (nm:=s) (line:=line) (S.still ((aa.refl ab w).alloc (.cells #[.string s,.slice A j.length I,.slice F args.length c2,.int .i64 line] 53))) ⟨F,c2,rfl⟩ a'.1);have HC:=VH hc;have bd:=VH cb;have H:=VH (VJ bx a');have ha:(args.length:Int)<=1050000:=by have :=a'.1;omega
 have ds:(j.length:Int)<=1050000:=by have :=bx.1;omega
 have HB:=VH (ad.new w 53 #[.string s,.slice A j.length I,.slice F args.length c2,.int .i64 line]);clear S b5 hc cb bx a';have X:=VH (fun(h:Px.right ⟨sl s,j,args,line⟩=true)=>Px.DJ h);have H2:=VH (show Px.one ⟨sl s,j,args,line⟩=if Px.right ⟨sl s,j,args,line⟩then sl s++j.flatMap (Px.bK ((Px.whole (sl s)).getD ⟨[],[],[],0,0⟩))++Px.eK args++args.flatMap Px.dW else[]from rfl);rw[H2.out];clear H2;have HW:=VH (fun W=>EN W s);have X:=VH (show Px.right ⟨sl s,j,args,line⟩=true->∃r,Px.whole (sl s)=some r/\r∈Px.table/\r.name=sl s/\∀f∈j,(Px.aJ r f.1).isSome=true/\f.1<128 from X.out);generalize Px.right ⟨sl s,j,args,line⟩=rt at HR X⊢;generalize Px.whole (sl s)=q at HW X⊢;go_enter func57,ntmps57;go_wp2_with fail;refine HR.out.mono ?_;rintro e w1⟨rfl,b1⟩;have T1:=VH (VJ (((aa.refl ab w).alloc (.cells #[.string s,.slice A j.length I,.slice F args.length c2,.int .i64 line] 53)).same b1) (b1.blk HB.out id));obtain⟨x0,x1,x2,x3,x4⟩:=iJ T1.out.2;clear b1 HR HB
 cases rt with
 |false=>go_wp2_with fail;go_ret;exact⟨_,rfl,rfl,T1.out.1⟩
 |true=>
  obtain⟨r,hw,b0,cw,cq⟩:=X.out rfl;have cv:=(Px.kd r b0).2.1;have cj:=(Px.kd r b0).1;subst hw;have HL:=VH (VJ cq (VJ cv (VJ cj cw)));clear b0 cw cq cv cj X;go_wp2_with fail;refine(HW.out _).mono ?_;rintro e n⟨rfl,bb⟩;have T2:=VH (VJ (T1.out.1.same bb) (bb.blk T1.out.2 id));obtain⟨x0,x1,x2,x3,x4⟩:=iJ T2.out.2;have dq:w1.heap.size<=n.heap.size:=bb.size;clear bb HW;simp only[mc,XE,Xq,eH,ah];have bA:=Lib.fresh_isBuilder 104 5 (n.alloc (.cells (eT r) 143));rw[show(n.alloc (.cells (eT r) 143)).heap.size=n.heap.size+1 by simp[go_sem]]at bA;have cx:(sl s).length<=40:=by have :=HL.out.2.1;rw[HL.out.2.2.2]at this;exact this
  have R0:fZ w n.heap.size (n.heap.size+1) #[.string s,.slice A j.length I,.slice F args.length c2,.int .i64 line] r [] ((n.alloc (.cells (eT r) 143)).alloc (.cells #[.pointer none,.slice none 0 0] 104)):=⟨(T2.out.2.alloc _).alloc _,(ad.new n _ _).alloc _,Lib.IsBuilderF.of bA,(T2.out.1.alloc _).alloc _,by have :=T2.out.1.size;omega,by omega⟩;have a7:=VH R0;have bm:=VH cx;clear R0 bA cx T1 T2;simp only[eT,ah]at a7;go_wp2_with fail;refine(mr a7.out.eB s (by have :=bm.out;rw[aL]at this;simp;omega)).mono ?_;rintro e w3⟨rfl,o,b6,-⟩;have bn:=VH (a7.out.wrote (T':=sl s) o b6);obtain⟨x0,x1,x2,x3,x4⟩:=iJ bn.out.box;have dz:=bn.out.low;clear o b6 a7;have b4:=VH (fun W c=>wQ W r c (by have :=HL.out.2.2.1;omega));simp only[eH,ah]at b4;have Q:=GL;have bw:∀(ci:Int)(c:UInt8),(c.toNat:Int)=ci->∀W:World,Calls VI 98 #[.agg #[.string ⟨r.name.toArray⟩,.string ⟨r.others.toArray⟩,.string ⟨r.flags.toArray⟩,.int .i64 r.few,.int .i64 r.ay],.int .u8 ci] W fun e w'=>e=.returned (.tuple #[.bool (Px.aJ r c).isSome,.bool ((Px.aJ r c).getD false)])/\aa ab W w':=fun ci c h W=>h▸b4.out W c;go_wp2_with fail;go_loopw[27](fun i wr=>∃k:Nat,i=.int .i64 k/\k<=j.length/\fZ w n.heap.size (n.heap.size+1) #[.string s,.slice A j.length I,.slice F args.length c2,.int .i64 line] r (sl s++(j.take k).flatMap (Px.bK r)) wr)(fun i _=>j.length-(intOf i).toNat);case atStart=>exact⟨0,rfl,VQ _,by simpa using bn.out⟩
  case round=>
   obtain⟨k,rfl,hk,m⟩:=hrel;have J:(sl s++(j.take k).flatMap (Px.bK r)).length<=40+k*4000000:=by rw[VK];have :=z6 (Px.bK r) 4000000 j (fun f S=>CH r f (H.out.1.2 f S)) k hk;have :=bm.out;omega
   have a1:k<=1050000:=by have :=H.out.1.1;omega
   have Z:=VH (VJ J a1);clear J a1;by_cases t:k<j.length
   ·obtain⟨b,off,rfl,C,L⟩:=HC.out (by omega);obtain⟨f0,f1⟩:=L k t;have f0:=(m.turns.cell (p:=⟨b,_,none⟩) C id).trans f0;have f1:=(m.turns.cell (p:=⟨b,_,none⟩) C id).trans f1;have ca:b<wr.heap.size:=VO C m.turns.size;obtain⟨y0,y1,y2,y3,y4,y5⟩:=r7 m.row;have HN:=VH (ad.new wr 125 #[.int .u8 j[k].1.toNat,ah j[k].2]);have O:=VH (uj (Px.bK r) j k t);have bt:=(HL.out.1 _ (VZ t)).2;have al:=H.out.1.2 _ (VZ t);have cz:=(HL.out.1 _ (VZ t)).1;have y:=VH m;have Y:=VH (VJ bt (VJ al cz));have Q:=VH (Q j[k].1 bt);generalize de:j[k]=fk at f0 f1 HN O Y Q;obtain⟨c,val⟩:=fk;dsimp only at f0 f1 HN O Y Q;have db:(c.toNat:Int)<128:=by have :=Y.out.1;have :c.toNat<128:=this;omega
    have dc:0<=(c.toNat:Int):=by omega
    have cg:=Q.out;clear m L de bt al cz Q;simp only[ah]at f1;generalize cc:(c.toNat:Int)=ci at f0 HN db dc cg;have c':=VH cc;clear cc;have R3:=VH (y.out.still ((aa.refl ab wr).alloc (.cells #[.int .u8 ci,.string ⟨val.toArray⟩] 125)));have dp:=y.out.eB.lt;go_wp2_with fail;refine(mr R3.out.eB _ (by have :=Z.out;show _+3<=_;omega)).mono ?_;rintro e w4⟨rfl,o,b7,cn⟩;have R4:=VH (R3.out.wrote o b7);have hF:=Ja HN.out cn (by omega);obtain⟨g0,g1,g2⟩:=uf hF;have b3:=VH hF;obtain⟨y0,y1,y2,y3,y4,y5⟩:=r7 R4.out.row;clear o b7 cn hF f0 f1 R3;have HT:=VH (bw ci c c'.out);go_wp2_with fail;refine(HT.out _).mono ?_;rintro e w5⟨rfl,b2⟩;have R5:=VH (R4.out.still b2);obtain⟨g0,g1,g2⟩:=uf (b2.blk b3.out id);clear b2 b3 R4 HT y0 y1 y2 y3 y4 y5 bw cg;have ar:=VH Y.out.2.2;generalize cA:Px.aJ r c=tk at ar;have HK:=VH cA;clear cA;obtain⟨v,rfl⟩:∃v,tk=some v:=by cases tk with|none=>exact absurd ar.out (by simp)|some v=>exact⟨v,rfl⟩
    simp only[Xq,XE]
    cases v with
    |false=>
     have N:=VH (show Px.bK r (c,val)=[32,45,c]by simp[Px.bK,HK.out]);go_wp2_with fail;go_roundw;case rel=>refine⟨k+1,by go_num,t,?_⟩;rw[O.out,N.out,<-List.append_assoc];exact R5.out
     case measure=>simp[intOf];omega
    |true=>
     have N:=VH (show Px.bK r (c,val)=[32,45,c]++32::Lx.aZ val by simp[Px.bK,HK.out]);go_wp2_with fail;refine(vR ⟨val.toArray⟩ (by have :=Y.out.2.1;exact this)).mono ?_;rintro e w6⟨x,rfl,U,aA⟩;have P:=VH (R5.out.still (aa.eO aA fun b p G=>absurd G (by omega)));have a6:x.size<=3200002:=by have p:=od val;have G:=Y.out.2.1;rw[<-aL,U];exact VS p (by omega)
     have dh:(x.size:Int)<=3200002:=by omega
     have HU:=VH (show sl x=Lx.aZ val from U);have bs:=VH a6;clear U aA R5 a6;go_wp2_with fail;refine(mr P.out.eB _ (BL (n:=40+k*4000000+3) (m:=3200003) (by rw[VK];exact Nat.add_le_add Z.out.1 (Nat.le_of_eq rfl)) (by rw[qB];have :=bs.out;show 1+_<=_;omega) (by have :=Z.out.2;omega))).mono ?_;rintro e w7⟨rfl,o,K,-⟩;have R7:=VH (P.out.wrote o K);clear o K P;go_wp2_with fail;go_roundw
     case rel=>
      refine⟨k+1,by go_num,t,?_⟩;have h7:=R7.out;simp only[sa]at h7;rw[HU.out]at h7;rw[O.out,N.out];have he:sl s++((j.take k).flatMap (Px.bK r)++([32,45,c]++32::Lx.aZ val))=sl s++(j.take k).flatMap (Px.bK r)++(sl ⟨#[32,45]⟩++sl ⟨#[c]⟩)++(sl ⟨#[32]⟩++Lx.aZ val):=by simp[sl]
      rw[he];exact h7
     case measure=>simp[intOf];omega
   ·obtain rfl:k=j.length:=by omega
    have m:=m;rw[XD]at m;obtain⟨x0,x1,x2,x3,x4⟩:=iJ m.box;have y:=VH m;clear m;go_upto_region 14 with fail;go_cut[70](fun dk wx=>dk=.bool (kO args)/\wx=wr)
    case first=>
     rcases args with _|⟨a,l⟩;. go_wp2_with fail;go_meet;exact⟨rfl,rfl⟩
     ·obtain⟨b,off,rfl,C,L⟩:=bd.out (by simp);have M:=L 0 (by simp);have M:=(y.out.turns.cell (p:=⟨b,_,none⟩) C id).trans M;rw[Nat.add_zero]at M;simp only[List.getElem_cons_zero,ah]at M;have ca:b<wr.heap.size:=VO C y.out.turns.size;have dv:(0:Int)<((a::l).length:Int):=by simp
      have d':((a::l).length:Int)<=1050000:=ha;clear L C HC bd;rcases a with _|⟨c,_|⟨d,a⟩⟩;. go_wp2_with fail;go_meet;exact⟨rfl,rfl⟩
      ·go_wp2_with fail;go_meet;exact⟨rfl,rfl⟩
      ·obtain⟨E,bc⟩:∃E:ByteArray,E=⟨(c::d::a).toArray⟩:=⟨_,rfl⟩;rw[<-bc]at M;have hs:1<E.size:=by rw[bc];show 1<(List.toArray _).size;simp
       have eb:(1:Int)<E.size:=by omega
       have ea:0<E.size:=by omega
       have h0:E[0]=c:=by subst bc;rfl
       clear bc;by_cases ai:c=45
       ·have N:=VH (show kO ((c::d::a)::l)=true by simp[kO,ai]);have p:(E[0].toNat:Int)=45:=by rw[h0,ai];rfl
        have G:((E[0].toNat:Int)==45)=true:=by simpa using p
        clear ai h0 p;go_wp2_with fail;go_meet;exact⟨show Value.bool true=_ by rw[N.out],rfl⟩
       ·have N:=VH (show kO ((c::d::a)::l)=false by simp[kO,ai]);have p:¬(E[0].toNat:Int)=45:=fun e=>ai (by rw[h0]at e;exact UInt8.toNat_inj.1 (by show c.toNat=45;omega));have G:((E[0].toNat:Int)==45)=false:=by simpa using p
        clear ai h0 p;go_wp2_with fail;go_meet;exact⟨show Value.bool false=_ by rw[N.out],rfl⟩
    case rest=>
     obtain⟨rfl,rfl⟩:=hcut;have J:(sl s++j.flatMap (Px.bK r)).length<=40+1050000*4000000:=by rw[VK];have p:=nf (Px.bK r) 4000000 j (fun f S=>CH r f (H.out.1.2 f S));have G:=bm.out;have h3:=V3 4000000 H.out.1.1;omega
     have Z:=VH J;have HD:=VH (Hn args);have da:=VH (uj Px.dW args);clear J Q bw;have ch:∀(wx:World)(T:Bytes),fZ w n.heap.size (n.heap.size+1) #[.string s,.slice A j.length I,.slice F args.length c2,.int .i64 line] r T wx->T=sl s++j.flatMap (Px.bK r)++Px.eK args->fZ w n.heap.size (n.heap.size+1) #[.string s,.slice A j.length I,.slice F args.length c2,.int .i64 line] r (sl s++j.flatMap (Px.bK r)++Px.eK args) wx:=fun wx T h e=>e▸h;have bl:=VH ch;clear ch;generalize kO args=dd at HD;cases dd;case' true=>go_wp2_with fail;refine(mr y.out.eB _ (by have :=Z.out;show _+3<=_;omega)).mono ?_;rintro e wd⟨rfl,o,K,-⟩;have RD:=VH (bl.out _ _ (y.out.wrote o K) (by rw[HD.out];rfl));obtain⟨x0,x1,x2,x3,x4⟩:=iJ RD.out.box;clear o K y
     case' false=>have RD:=VH (bl.out _ _ y.out (by rw[HD.out];simp));clear y
     all_goals
      clear bl HD;go_wp2_with fail;go_loopw[75](fun i wr=>∃k:Nat,i=.int .i64 k/\k<=args.length/\fZ w n.heap.size (n.heap.size+1) #[.string s,.slice A j.length I,.slice F args.length c2,.int .i64 line] r (sl s++j.flatMap (Px.bK r)++Px.eK args++(args.take k).flatMap Px.dW) wr)(fun i _=>args.length-(intOf i).toNat);case atStart=>exact⟨0,rfl,VQ _,by simpa using RD.out⟩
      case round=>
       obtain⟨k,rfl,hk,m⟩:=hrel;have J:(sl s++j.flatMap (Px.bK r)++Px.eK args++(args.take k).flatMap Px.dW).length<=40+1050000*4000000+3+k*4000000:=by rw[VK,VK];have p:=z6 Px.dW 4000000 args (fun a ha=>OL a (H.out.2.2 a ha)) k hk;have G:=Z.out;have h3:=y_ args;omega
       have a1:k<=1050000:=by have :=H.out.2.1;omega
       have ar:=VH (VJ J a1);clear J a1;by_cases t:k<args.length
       ·obtain⟨b,off,rfl,C,L⟩:=bd.out (by omega);have M:=(m.turns.cell (p:=⟨b,_,none⟩) C id).trans (L k t);have ca:b<wr.heap.size:=VO C m.turns.size;have O:=VH (da.out k t);have al:=VH (H.out.2.2 _ (VZ t));have a8:=VH m;clear m L;generalize args[k]=a at M O al;simp only[ah]at M;go_wp2_with fail;refine(vR ⟨a.toArray⟩ (by have :=al.out;exact this)).mono ?_;rintro e w6⟨x,rfl,U,aA⟩;have P:=VH (a8.out.still (aa.eO aA fun b p G=>absurd G (by omega)));have a6:x.size<=3200002:=by have p:=od a;have G:=al.out;rw[<-aL,show sl x=Lx.aZ a from U];exact VS p (by omega)
        have dh:(x.size:Int)<=3200002:=by omega
        have HU:=VH (show sl x=Lx.aZ a from U);have bs:=VH a6;clear U aA a6;go_wp2_with fail;refine(mr P.out.eB _ (BL (n:=40+1050000*4000000+3+k*4000000) (m:=3200003) ar.out.1 (by rw[qB];have :=bs.out;show 1+_<=_;omega) (by have :=ar.out.2;omega))).mono ?_;rintro e w7⟨rfl,o,K,-⟩;have R7:=VH (P.out.wrote o K);clear o K P;go_wp2_with fail;go_roundw;case rel=>refine⟨k+1,by go_num,t,?_⟩;have h7:=R7.out;rw[sa,HU.out,List.append_assoc]at h7;rw[O.out];exact h7
        case measure=>simp[intOf];omega
       ·obtain rfl:k=args.length:=by omega
        rw[XD]at m;have a8:=VH m;clear m;go_wp2_with fail;refine(tD a8.out.eB).mono ?_;rintro e w8⟨rfl,b'⟩;have cT:=VH b';clear b';go_wp2_with fail;go_ret;exact⟨_,rfl,by simp[sl],a8.out.ended cT.out⟩
end
section
open Lx(Bytes)
/-!### what a command's text may come to -/
structure mA(c:Px.ag):Prop where
 fl:c.flags.length<=256/\∀f∈c.flags,f.2.length<=8192
 ar:c.args.length<=256/\∀a∈c.args,a.length<=8192
theorem OO(r:Px.Row)(f:Px.Fl)(h:f.2.length<=8192):(Px.bK r f).length<=20000:=by have :=od f.2;unfold Px.bK;rw[VK];split;all_goals simp only[VM,V9];omega
theorem OM(a:Bytes)(h:a.length<=8192):(Px.dW a).length<=20000:=by have :=od a;simp only[Px.dW,VM];omega
theorem mA.len{c:Px.ag}(h:mA c):(Px.one c).length<=20000000:=by
 unfold Px.one;split;. rename_i k;obtain⟨r,-,i,j,-⟩:=Px.DJ k;have b:=(Px.kd r i).2.1;rw[j]at b;have l:=nf (Px.bK ((Px.whole c.name).getD ⟨[],[],[],0,0⟩)) 20000 c.flags fun f e=>OO _ f (h.fl.2 f e);have m:=nf Px.dW 20000 c.args fun a d=>OM a (h.ar.2 a d);have n:=y_ c.args;have o:=V3 20000 h.fl.1;have p:=V3 20000 h.ar.1;rw[VK,VK,VK];omega
 ·exact VQ _
theorem AX:∀(l:List Bytes),Px.aW l=Lib.join l [32,59,32]|[]=>rfl|[a]=>(Lib.join_one a _).symm|a::b::l=>by have c:=AX (b::l);rw[Lib.join_cons]at c⊢;show a++32::59::32::Px.aW (b::l)=_;rw[c];simp[Lib.joinTail]
def fO(a:List Px.ag)(k:Nat):List Bytes:=((a.take k).map Px.one).filter (·≠[])
theorem OZ(a:List Px.ag)(k:Nat)(h:k<a.length):fO a (k+1)=if Px.one a[k]=[]then fO a k else fO a k++[Px.one a[k]]:=by unfold fO;rw[V4 h,List.map_append,List.filter_append];split;all_goals rename_i e;simp[e]
theorem OX(a:List Px.ag):fO a a.length=(a.map Px.one).filter (·≠[]):=by rw[fO,XD]
theorem OY(a:List Px.ag)(k:Nat)(b:k<=a.length):(fO a k).length<=k:=by unfold fO;refine VS (List.length_filter_le _ _) ?_;rw[V0,List.length_take];omega
structure dr(w:World)(L:List Bytes)(v:Value)(wr:World):Prop where
 own:wr.ownsRow w.heap.size 9 1 v L.length (L.map ah)
 turns:aa ab w wr
theorem dr.still{wr:World}{L:List Bytes}(h:dr w L v wr)(a:aa ab wr w'):dr w L v w':=⟨a.own h.own fun _ _=>id,h.turns.same a⟩
theorem dr.next{wr:World}{L:List Bytes}{s:Bytes}(h:dr w L v wr)(d:sl x=s)(a:wr.grownBy w' v.ownBlock)(c:w'.ownsRow w.heap.size 9 1 u (L.length+1) (L.map ah++[.string x])):dr w (L++[s]) u w':=by
 have i:Value.string x=ah s:=by rw[<-d];rfl
 refine⟨by rw[VK,List.map_append,List.map_singleton,<-i];exact c,h.turns.grown a fun b j e=>?_⟩;have :=h.own.lt b e;omega
theorem PR{wr:World}{L:List Bytes}(h:dr w L v wr)(i:(Px.aW L).length<=140737488355328)(r:L.length<=1600000):Calls VI 58 #[v,.string ⟨#[32,59,32]⟩] wr fun e c=>e=.returned (ah (Px.aW L))/\aa ab wr c:=by
 rw[AX]at i⊢;have k:∀M:List Bytes,(M.map fun s=>(⟨s.toArray⟩:ByteArray)).map (·.data.toList)=M:=fun M=>by rw[List.map_map];exact List.map_id'' (fun s=>rfl) M
 rcases h.own.2 with⟨rfl,n⟩|⟨g,m,q,rfl,d,p,o,_⟩;. have :L=[]:=List.eq_nil_of_length_eq_zero n;subst this;refine(Tryz.strings_Join_none none 0 ⟨#[32,59,32]⟩ wr).mono ?_;rintro e c⟨rfl,rfl⟩;exact⟨rfl,aa.refl _ _⟩
 ·have a:=Tryz.strings_Join g 0 m (L.map fun s=>⟨s.toArray⟩) ⟨#[32,59,32]⟩ wr (fun j x a=>by rw[W7]at a;obtain⟨s,l,rfl⟩:=Option.map_eq_some_iff.1 a;have t:j<L.length:=(List.getElem?_eq_some_iff.1 l).1;rw[Wv,h.own.cellAt _ (by omega),W7,l];rfl) (VV.1 p).1 (by rw[V0];omega) (by rw[V0];exact o) (by rw[k];exact i);rw[V0,k]at a;refine a.mono ?_;rintro e c⟨rfl,d⟩;exact⟨rfl,aa.eO d fun b h1 h2=>absurd h2 (by omega)⟩
theorem bB.at_{B:Nat}{Z:List (Value×List CQ)}(h:bB w B v Z):∃A c,v=.slice A Z.length c/\∀i(hi:i<Z.length),∃g,A=some ⟨g,0,none⟩/\g<w.heap.size/\w.cell? ⟨g,i,none⟩=some Z[i].1:=by
 rcases h.outer.2 with⟨rfl,b⟩|⟨g,a,e,rfl,j,d,_⟩;. exact⟨none,0,by rw[b],fun i hi=>by omega⟩
 ·refine⟨_,a,rfl,fun i hi=>⟨g,rfl,(VV.1 d).1,?_⟩⟩;rw[h.outer.cellAt _ (by omega),W7,List.getElem?_eq_getElem hi];rfl
theorem tI:∀(l:List CQ)(i:Nat)(h:i<l.length),(dH l)[i*4]?=some (ah l[i].1.name)/\(dH l)[i*4+1]?=some l[i].2.1/\(dH l)[i*4+2]?=some l[i].2.2/\(dH l)[i*4+3]?=some (.int .i64 l[i].1.line)|x::l,0,_=>⟨rfl,rfl,rfl,rfl⟩|x::l,i+1,h=>by have :=tI l i (by simpa using h);have e:dH (x::l)=ah x.1.name::x.2.1::x.2.2::.int .i64 x.1.line::dH l:=rfl;rw[e,show(i+1)*4=i*4+4 by omega];simpa using this
theorem bB.kD{B:Nat}{Z:List (Value×List CQ)}(h:bB w B v Z){z:Value×List CQ}(d:z∈Z):∃A c,z.1=.slice A z.2.length c/\∀i(hi:i<z.2.length),∃g,A=some ⟨g,0,none⟩/\g<w.heap.size/\w.cell? ⟨g,i*4,none⟩=some (ah z.2[i].1.name)/\w.cell? ⟨g,i*4+1,none⟩=some z.2[i].2.1/\w.cell? ⟨g,i*4+2,none⟩=some z.2[i].2.2/\w.cell? ⟨g,i*4+3,none⟩=some (.int .i64 z.2[i].1.line)/\eZ w z.2[i].2.1 z.2[i].1.flags/\gR w z.2[i].2.2 z.2[i].1.args:=by
 have a:=h.inner z d;rcases a.2 with⟨e,k⟩|⟨g,j,m,e,n,l,_⟩;. exact⟨none,0,by rw[e,k],fun i hi=>by omega⟩
 ·refine⟨_,j,e,fun i hi=>⟨g,rfl,(VV.1 l).1,?_⟩⟩;have c:=tI z.2 i hi;have b:=h.rows z d z.2[i] (VZ hi);rw[e]at a;rw[a.cellAt _ (by omega),a.cellAt _ (by omega),a.cellAt _ (by omega),a.cellAt _ (by omega)];exact⟨c.1,c.2.1,c.2.2.1,c.2.2.2,vo b.flags,vq b.args⟩
structure qk(w:World)(v:Value)(l:List CQ):Prop where
 at_:∃A c,v=.slice A l.length c/\(0<l.length->∃b off,A=some ⟨b,off,none⟩/\b<w.heap.size/\∀i,(hi:i<l.length)->w.cell? ⟨b,off+i*4,none⟩=some (ah l[i].1.name)/\w.cell? ⟨b,off+i*4+1,none⟩=some l[i].2.1/\w.cell? ⟨b,off+i*4+2,none⟩=some l[i].2.2/\w.cell? ⟨b,off+i*4+3,none⟩=some (.int .i64 l[i].1.line))
 each:∀q∈l,eZ w q.2.1 q.1.flags/\gR w q.2.2 q.1.args
structure gO(w:World)(v:Value)(Z:List (Value×List CQ)):Prop where
 at_:∃A c,v=.slice A Z.length c/\(0<Z.length->∃b off,A=some ⟨b,off,none⟩/\b<w.heap.size/\∀i,(hi:i<Z.length)->w.cell? ⟨b,off+i,none⟩=some Z[i].1)
 each:∀z∈Z,qk w z.1 z.2
theorem qk.still{l:List CQ}(h:qk w v l)(a:aa ab w w'):qk w' v l:=by obtain⟨⟨A,c,rfl,m⟩,j⟩:=h;refine⟨⟨A,c,rfl,fun k=>?_⟩,fun q hq=>⟨(j q hq).1.still a,(j q hq).2.still a⟩⟩;obtain⟨b,off,n,d,e⟩:=m k;exact⟨b,off,n,VO d a.size,fun i hi=>⟨(a.cell (p:=⟨b,_,none⟩) d id).trans (e i hi).1,(a.cell (p:=⟨b,_,none⟩) d id).trans (e i hi).2.1,(a.cell (p:=⟨b,_,none⟩) d id).trans (e i hi).2.2.1,(a.cell (p:=⟨b,_,none⟩) d id).trans (e i hi).2.2.2⟩⟩
theorem gO.still{Z:List (Value×List CQ)}(h:gO w v Z)(a:aa ab w w'):gO w' v Z:=by obtain⟨⟨A,c,rfl,j⟩,k⟩:=h;refine⟨⟨A,c,rfl,fun e=>?_⟩,fun z n=>(k z n).still a⟩;obtain⟨b,off,l,d,m⟩:=j e;exact⟨b,off,l,VO d a.size,fun i hi=>(a.cell (p:=⟨b,_,none⟩) d id).trans (m i hi)⟩
theorem bB.rd{B:Nat}{Z:List (Value×List CQ)}(h:bB w B v Z):gO w v Z:=by
 obtain⟨A,c,rfl,d⟩:=h.at_;refine⟨⟨A,c,rfl,fun j=>?_⟩,fun z l=>?_⟩;. obtain⟨g,a,k,-⟩:=d 0 j;refine⟨g,0,a,k,fun i hi=>?_⟩;obtain⟨m,b,-,n⟩:=d i hi;rw[a]at b;injection b with e;injection e with e;subst e;rw[Wv];exact n
 ·obtain⟨A,c,e,d⟩:=h.kD l;refine⟨⟨A,c,e,fun j=>?_⟩,fun q hq=>⟨vo (h.rows z l q hq).flags,vq (h.rows z l q hq).args⟩⟩;obtain⟨g,a,k,-⟩:=d 0 j;refine⟨g,0,a,k,fun i hi=>?_⟩;obtain⟨m,b,-,c0,c1,c2,c3,-⟩:=d i hi;rw[a]at b;injection b with e;injection e with e;subst e;rw[Wv];exact⟨c0,c1,c2,c3⟩
structure p_(c:Px.ag):Prop where
 fl:c.flags.length<=1050000/\∀f∈c.flags,f.2.length<=1600000
 ar:c.args.length<=1050000/\∀a∈c.args,a.length<=1600000
theorem mA.fit{c:Px.ag}(h:mA c):p_ c:=⟨⟨VS h.fl.1 (by decide),fun f d=>VS (h.fl.2 f d) (by decide)⟩,⟨VS h.ar.1 (by decide),fun a b=>VS (h.ar.2 a b) (by decide)⟩⟩
theorem take_len{α:Type}(f:α->Bytes)(l:List α)(k:Nat):((l.take k).flatMap f).length<=(l.flatMap f).length:=by have h:=congrArg List.length (congrArg (List.flatMap f) (List.take_append_drop k l));rw[List.flatMap_append,VK]at h;omega
structure jb(w:World)(B:Nat)(T:Bytes)(wr:World):Prop where
 eB:gP B T wr
 turns:aa ab w wr
 low:w.heap.size<=B
theorem jb.still{w wr b:World}{B:Nat}{T:Bytes}(h:jb w B T wr)(a:aa ab wr b):jb w B T b:=⟨h.eB.still a,h.turns.same a,h.low⟩
theorem jb.wrote{wr:World}{B:Nat}{T T':Bytes}(h:jb w B T wr)(c:gP B T' w')(a:Below B wr w'):jb w B T' w':=⟨c,h.turns.trans (aa.eO (S:=fun b=>B<=b) a fun b h1 h2=>h1) fun b a e=>by have :=h.low;omega,h.low⟩
theorem A.AF:(VI.info? 9).map (fun i=>(i.zero,i.size,i.bytes))=some (some (.string ⟨#[]⟩),1,16):=by kernel_rfl
theorem Qf(G:List (List Px.ag))(k:Nat)(h:k<G.length):(G.take (k+1)).flatMap Px.cG=(G.take k).flatMap Px.cG++Px.cG G[k]:=uj Px.cG G k h
theorem Qh(w:World)(u:ByteArray):Src VI 1 51 (.slice (some ⟨w.heap.size,0,none⟩) 1 1) 1 [.string u] (w.alloc (.cells #[.string u] 9)):=fC (size:=1) underlying51 (ad.new w 9 #[.string u]) 1 1 rfl (by simp[Value.oneCell'])
theorem Dp{Z:List (Value×List CQ)}(h:gO w u Z)(hf:∀z∈Z,∀q∈z.2,p_ q.1)(P:Z.length<=1050000/\∀z∈Z,z.2.length<=1050000)(hz:(Px.print (aq Z)).length<=100000000000000):Calls VI 31 #[.agg #[u]] w fun e w'=>∃m:ByteArray,e=.returned (.string m)/\sl m=Px.print (aq Z)/\aa ab w w':=by
 have HG:=VH h;obtain⟨A,c,rfl,al⟩:=h.at_;have b':=VH al;have HF:=VH (VJ hf P);have dd:(Z.length:Int)<=1050000:=by have :=P.1;omega
 have b6:(aq Z).length=Z.length:=by simp[aq]
 have HT:=VH (fun k=>VS (take_len Px.cG (aq Z) k) hz);have a7:=VH b6;clear h al hf P b6 hz;have bc:=Lib.fresh_isBuilder 104 5 (w.alloc (.cells #[.slice A Z.length c] 34));rw[show(w.alloc (.cells #[.slice A Z.length c] 34)).heap.size=w.heap.size+1 by simp[go_sem]]at bc;have HP:=VH (show jb w (w.heap.size+1) [] ((w.alloc (.cells #[.slice A Z.length c] 34)).alloc (.cells #[.pointer none,.slice none 0 0] 104))from⟨Lib.IsBuilderF.of bc,((aa.refl _ w).alloc _).alloc _,Nat.le_succ _⟩);clear bc;go_enter func31,ntmps31;go_wp2_with fail;go_loopw[13](fun i wr=>∃k:Nat,i=.int .i64 k/\k<=Z.length/\jb w (w.heap.size+1) (((aq Z).take k).flatMap Px.cG) wr)(fun i _=>Z.length-(intOf i).toNat);case atStart=>exact⟨0,rfl,VQ _,by simpa using HP.out⟩
 case round=>
  obtain⟨k,rfl,hk,p⟩:=hrel;by_cases r:k<Z.length
  ·obtain⟨g,off,rfl,G,hc⟩:=b'.out (by omega);have p0:=(p.turns.cell (p:=⟨g,_,none⟩) G id).trans (hc k r);have da:g<wr.heap.size:=VO G p.turns.size;have bl:=(HG.out.still p.turns).each _ (VZ r);have ai:=HF.out.2.2 _ (VZ r);have aA:=HF.out.1 _ (VZ r);have bm:=Qf (aq Z) k (by rw[a7.out];exact r);rw[show(aq Z)[k]'(by rw[a7.out];exact r)=Z[k].2.map (·.1)by simp[aq]]at bm;have K:=VH bm;generalize Z[k]=z at p0 bl ai aA K;obtain⟨z1,l⟩:=z;dsimp only at p0 bl ai aA K;obtain⟨⟨A2,c2,rfl,b4⟩,b5⟩:=bl;have bn:=HT.out (k+1);rw[K.out,VK]at bn;have a':=VH bn;have bt:=VH (VJ b4 b5);have cb:=VH aA;have db:(l.length:Int)<=1050000:=by omega
   have cz:=VH ai;have Y:=VH p;clear p hc G b4 b5 bn aA bm ai;generalize cp:wr=w1 at*;clear cp;go_wp2_with fail;have ar:(l.map (·.1)).length=l.length:=V0 _;go_loopw[19,6](fun j v wr=>∃n:Nat,j=.int .i64 n/\n<=l.length/\dr w1 (fO (l.map (·.1)) n) v wr)(fun j _ _=>l.length-(intOf j).toNat);case atStart=>exact⟨0,rfl,VQ _,⟨World.ownsRow_nil _ _ _ _,aa.refl _ _⟩⟩
   case round=>
    obtain⟨n,rfl,P,a⟩:=hrel;have bb:=OY (l.map (·.1)) n (by rw[ar];exact P);obtain⟨A0,c0,rfl⟩:=aE a.own;by_cases x:n<l.length
    ·obtain⟨b,de,rfl,t,b3⟩:=bt.out.1 (by omega);obtain⟨J,S,T,U⟩:=b3 n x;obtain⟨M,O⟩:=bt.out.2 _ (VZ x);have I:=OZ (l.map (·.1)) n (by rw[ar];exact x);rw[show(l.map (·.1))[n]'(by rw[ar];exact x)=l[n].1 by simp]at I;have a1:=cb.out _ (VZ x);generalize l[n]=q at J S T U M O I a1;obtain⟨E,fv,av⟩:=q;dsimp only at J S T U M O I a1;obtain⟨fA,fc,rfl,-⟩:=M.at_;obtain⟨rA,rc,rfl,-⟩:=O.at_;have J:=(a.turns.cell (p:=⟨b,_,none⟩) t id).trans J;have S:=(a.turns.cell (p:=⟨b,_,none⟩) t id).trans S;have T:=(a.turns.cell (p:=⟨b,_,none⟩) t id).trans T;have U:=(a.turns.cell (p:=⟨b,_,none⟩) t id).trans U;have c':b<wr.heap.size:=VO t a.turns.size;simp only[ah]at J;generalize hL:fO (l.map (·.1)) n=L at I a bb⊢;have HS:=VH I;have y:=VH a;have X:=VH (VJ M (VJ O a1));have ch:(L.length:Int)<=1050000:=by omega
     clear I a M O a1 t hL b3;have T4:=VH ((aa.refl ab wr).alloc (.cells #[.string ⟨E.name.toArray⟩,.slice fA E.flags.length fc,.slice rA E.args.length rc,.int .i64 E.line] 53));go_wp2_with fail;refine(OS (X.out.1.still (y.out.turns.same T4.out)) (X.out.2.1.still (y.out.turns.same T4.out)) X.out.2.2.fl X.out.2.2.ar).mono ?_;rintro e w3⟨m,rfl,d,Q⟩;have d:sl m=Px.one E:=d;have bx:=VH (y.out.still (T4.out.same Q));clear Q y T4 J S T U;by_cases H:Px.one E=[]
     ·have cn:m=⟨#[]⟩:=ka (d.trans H);subst cn;have o:=VH (HS.out.trans (if_pos H));clear d H;go_wp2_with fail;go_roundw;case rel=>exact⟨n+1,by go_num,x,by rw[o.out];exact bx.out⟩
      case measure=>simp[intOf];omega
     ·have o:=VH (HS.out.trans (if_neg H));have d0:(m.toList==([]:List UInt8))=false:=by rw[beq_eq_false_iff_ne,mh,d];exact H
      have HU:=VH d;clear d H;obtain⟨i0,cj,cv,cw,cx⟩:=info_parts A.AF;have a:=((bx.out.still ((aa.refl ab w3).alloc (.cells #[.string m] 9))));have hS:=Qh w3 m;have hB:=a.turns.size;have hm:L.length+1<=maxLen:=by simp only[maxLen];omega
      have hy:((L.length+1)+(L.length+1+768)/4+512)*16<=281474976710656:=by omega
      have C:=VH (VJ a (VJ hS (VJ hB (VJ hm hy))));clear a hS hB hm hy;go_wp2_with(first|(at_builtin;refine aX _ rfl (.tmp 27) (.tmp 29) _ _ rfl w1.heap.size 9 i0 _ 1 16 underlying51 cj cv cw cx rfl (.slice A0 L.length c0) L.length _ rfl C.out.1.own _ 1 [.string m] rfl C.out.2.1 C.out.2.2.2.1 C.out.2.2.2.2 C.out.2.2.1 ?_;intro A1 cA w4 ho G al;have HN:=VH (C.out.1.next HU.out G ho);clear ho G al));go_roundw;case rel=>exact⟨n+1,by go_num,x,by rw[o.out];exact HN.out⟩
      case measure=>simp[intOf];omega
    ·obtain rfl:n=l.length:=by omega
     have F:=OX (l.map (·.1));rw[ar]at F;have a6:Px.cG (l.map (·.1))=if fO (l.map (·.1)) l.length=[]then[]else Px.aW (fO (l.map (·.1)) l.length)++[10]:=by rw[F];rfl
     have bd:(Px.aW (fO (l.map (·.1)) l.length)).length<=(Px.cG (l.map (·.1))).length:=by
      rw[a6];split;. rename_i e;rw[e];exact Nat.le_refl _
      ·rw[VK];exact Nat.le_add_right _ _
     generalize fO (l.map (·.1)) l.length=L at a6 bd a bb⊢;have b0:=VH (Y.out.still a.turns);have y:=VH a;have bA:=VH a6;have bw:=VH bd;have ch:(L.length:Int)<=1050000:=by omega
     clear a a6 bd F;by_cases N:L=[]
     ·subst N;have o:=VH (bA.out.trans (if_pos rfl));simp only[V9];go_wp2_with fail;go_roundw;case rel=>exact⟨k+1,by go_num,r,by rw[K.out,o.out,List.append_nil];exact b0.out⟩
      case measure=>simp[intOf];omega
     ·have o:=VH (bA.out.trans (if_neg N));have cT:(0:Int)<(L.length:Int):=by have :=List.length_pos_iff.2 N;omega
      have cc:=VH (VJ N bb);clear N;go_wp2_with fail;refine(PR y.out (by have :=bw.out;have :=a'.out;omega) (by have :=cc.out.2;omega)).mono ?_;rintro e w5⟨rfl,Q⟩;have a8:=VH (b0.out.still Q);have bs:(⟨(Px.aW L).toArray⟩:ByteArray).size<=100000000000000:=by show(List.toArray _).size<=_;rw[List.size_toArray];have :=bw.out;have :=a'.out;omega
      have d:sl ⟨(Px.aW L).toArray⟩=Px.aW L:=rfl;simp only[ah];generalize(⟨(Px.aW L).toArray⟩:ByteArray)=m at bs d⊢;have dc:(m.size:Int)<=140737488355000:=by omega
      have HU:=VH (VJ d bs);clear Q d bs;go_wp2_with fail;have b7:=a'.out;rw[o.out,VK,List.length_singleton,<-HU.out.1,aL]at b7;refine(mr a8.out.eB _ (by rw[qB];show _+(_+1)<=_;omega)).mono ?_;clear b7;rintro e w6⟨rfl,hI,b1,-⟩;have cg:=VH (a8.out.wrote hI b1);clear hI b1 a8;go_wp2_with fail;go_roundw;case rel=>refine⟨k+1,by go_num,r,?_⟩;have h6:=cg.out;rw[sa,HU.out.1]at h6;rw[K.out,o.out];exact h6
      case measure=>simp[intOf];omega
  ·obtain rfl:k=Z.length:=by omega
   have F:(aq Z).take Z.length=aq Z:=List.take_of_length_le (by rw[a7.out];exact Nat.le_refl _);rw[F]at p;have Y:=VH p;clear p F;go_wp2_with fail;refine(tD Y.out.eB).mono ?_;rintro e w8⟨rfl,b2⟩;have ca:=VH b2;clear b2;go_wp2_with fail;go_ret;exact⟨_,rfl,rfl,Y.out.turns.trans (aa.eO (S:=fun b=>w.heap.size+1<=b) ca.out fun b h1 h2=>h1) fun b t e=>by omega⟩
end
end Go.Proofs.YtmddhediccmhbaaGreatDoor
