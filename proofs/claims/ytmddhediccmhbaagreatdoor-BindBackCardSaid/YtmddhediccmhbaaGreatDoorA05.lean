/- the decimal of strconv is shifted and rounded. -/
import Derived.Test.YtmddhediccmhbaaGreatDoorA04
set_option linter.all false
set_option maxHeartbeats 400000000
set_option maxRecDepth 100000
namespace Go.Proofs.YtmddhediccmhbaaGreatDoor
open Go.RowKit
open Tryz
open And renaming intro→VJ
open Int renaming eq_ofNat_of_zero_le→XB
open Int renaming toNat_natCast→WO
open IntKind renaming i64→VL
open IntKind renaming u64→Wf
open IntKind renaming u8→X8
open IntWalk renaming i64_in→VR
open IntWalk renaming u64_in→Wi
open IntWalk renaming u8_in→XR
open Lib renaming hid→VH
open List renaming getD_eq_getElem?_getD→VW
open List renaming getElem?_eq_getElem→VX
open List renaming length_take→WK
open List renaming take_of_length_le→V2
open List renaming take_succ_eq_append_getElem→V4
open Nat renaming le_refl→VN
open Nat renaming lt_succ_self→W5
open Tryz renaming prog→VI
variable {w w':World}{k n m i:Nat}{e r:Int}{b:Bool}{l:List Nat}{S:Nat->Prop}
def ji(k:Nat):ByteArray:=⟨((Go.Pinned.cheatRows.getD k (0,[])).2).toArray⟩
structure xB(w:World)(B:Nat):Prop where
 at_:∃a o cp,a<B/\w.cell? ⟨16,0,none⟩=some (.slice (some ⟨a,o,none⟩) 61 cp)/\∀k:Nat,k<61->w.cell? ⟨a,o+k*2,none⟩=some (.int .i64 ((Dc.dG k).1:Nat))/\w.cell? ⟨a,o+k*2+1,none⟩=some (.string (ji k))
def eQ:List Nat:=[4607182418800017408,4621819117588971520,4636737291354636288,4652007308841189376,4666723172467343360,4681608360884174848,4696837146684686336,4711630319722168320,4726483295884279808,4741671816366391296,4756540486875873280,4771362005757984768,4786511204640096256,4801453603149578240,4816244402031689728,4831355200913801216,4846369599423283200,4861130398305394688,4876203697187506176,4891288408196988160,4906019910204099648,4921056587992461136,4936209963552724370]
def pq:List Nat:=[1,3,6,9,13,16,19,23,26]
def eV(k:Nat):Nat×Nat:=Go.Pinned.pow10Rows.getD k (0,0)
structure xI(w:World):Prop where
 opt:w.cell? ⟨8,0,none⟩=some (.bool true)
 info:w.cell? ⟨11,0,none⟩=some (.int .u64 52)/\w.cell? ⟨11,1,none⟩=some (.int .u64 11)/\w.cell? ⟨11,2,none⟩=some (.int .i64 (-1023))
 iA:∀k:Nat,k<20->w.cell? ⟨9,k,none⟩=some (.int .u64 ((10^k:Nat):Int))
 scale:∀k:Nat,k<696->w.cell? ⟨15,k*2,none⟩=some (.int .u64 ((eV k).1:Nat))/\w.cell? ⟨15,k*2+1,none⟩=some (.int .u64 ((eV k).2:Nat))
structure xN(w:World)(B:Nat):Prop where
 at_:∃a o cp,a<B/\w.cell? ⟨13,0,none⟩=some (.slice (some ⟨a,o,none⟩) 9 cp)/\∀k:Nat,k<9->w.cell? ⟨a,o+k,none⟩=some (.int .i64 (pq.getD k 0:Nat))
structure xL(w:World)(B:Nat):Prop where
 at_:∃a o cp,a<B/\w.cell? ⟨14,0,none⟩=some (.slice (some ⟨a,o,none⟩) 23 cp)/\∀k:Nat,k<23->w.cell? ⟨a,o+k,none⟩=some (.float .f64 (eQ.getD k 0))
structure bC(w:World)(B:Nat):Prop where
 le:B<=w.heap.size
 gl:20<=B
 yO:xB w B
 vK:xN w B
 fP:xL w B
 num:xI w
theorem bC.aC{B:Nat}(h:bC w B)(m:aa S w w')(r:∀b,b<B->¬S b):bC w' B:=by
 have k:∀p:Addr,p.block<B->w'.cell? p=w.cell? p:=fun p hp=>m.cell (Nat.lt_of_lt_of_le hp h.le) (r _ hp);have c:∀g i:Nat,g<20->w'.cell? ⟨g,i,none⟩=w.cell? ⟨g,i,none⟩:=fun g i q=>k ⟨g,i,none⟩ (Nat.lt_of_lt_of_le q h.gl);refine⟨Nat.le_trans h.le m.size,h.gl,?_,?_,?_,?_⟩;. obtain⟨a,o,f,d,j,e⟩:=h.yO.at_;exact⟨a,o,f,d,(c _ _ (by decide)).trans j,fun i hi=>⟨(k _ d).trans (e i hi).1,(k _ d).trans (e i hi).2⟩⟩
 ·obtain⟨a,o,f,d,j,e⟩:=h.vK.at_;exact⟨a,o,f,d,(c _ _ (by decide)).trans j,fun i hi=>(k _ d).trans (e i hi)⟩
 ·obtain⟨a,o,f,d,j,e⟩:=h.fP.at_;exact⟨a,o,f,d,(c _ _ (by decide)).trans j,fun i hi=>(k _ d).trans (e i hi)⟩
 ·obtain⟨n,⟨a2,a3,a4⟩,a5,l⟩:=h.num;exact⟨(c _ _ (by decide)).trans n,⟨(c _ _ (by decide)).trans a2,(c _ _ (by decide)).trans a3,(c _ _ (by decide)).trans a4⟩,fun i hi=>(c _ _ (by decide)).trans (a5 i hi),fun i hi=>⟨(c _ _ (by decide)).trans (l i hi).1,(c _ _ (by decide)).trans (l i hi).2⟩⟩
def DT(k:Nat):Bool:=decide ((eV k).1<18446744073709551616)&&decide ((eV k).2<18446744073709551616)
theorem Rn:(List.range 696).all DT=true:=by decide+kernel
theorem DU(h:k<696):(eV k).1<18446744073709551616/\(eV k).2<18446744073709551616:=by have :=List.all_eq_true.1 Rn k (List.mem_range.2 h);simp only[DT,Bool.and_eq_true,decide_eq_true_eq]at this;exact this
theorem bC.only{B:Nat}(h:bC w B)(b:B<=k)(a:aa (af k) w w'):bC w' B:=h.aC a fun q hq e=>by rw[show q=k from e]at hq;omega
theorem bC.still{B:Nat}(h:bC w B)(a:aa ab w w'):bC w' B:=h.aC a fun _ _ e=>e
theorem bC.drewN{w:World}{B:Nat}(h:bC w B)(n:Nat):bC (w.drewN n) B:=h.still ((aa.refl _ _).drewN n)
def yN(k:Nat):Bool:=decide ((ji k).size<=100)&&decide ((Dc.dG k).1<=19)&&decide (bytesOf (ji k)=(Dc.dG k).2.map (·+48))
theorem GK:(List.range 61).all yN=true:=by decide+kernel
theorem GH(h:k<61):(ji k).size<=100/\(Dc.dG k).1<=19/\bytesOf (ji k)=(Dc.dG k).2.map (·+48):=by have :=List.all_eq_true.1 GK k (List.mem_range.2 h);simp only[yN,Bool.and_eq_true,decide_eq_true_eq]at this;exact⟨this.1.1,this.1.2,this.2⟩
theorem P1:∀(b s:List Nat),(∀x∈b,48<=x)->Dc.c_ b (s.map (·+48))=Dc.c_ (b.map (·-48)) s:=by
 intro b
 induction b with
 |nil=>intro s _;cases s<;>rfl
 |cons x b d=>
  intro s a
  cases s with
  |nil=>rfl
  |cons y s=>
   have e:=a x List.mem_cons_self;show(if x=y+48 then _ else decide (x<y+48))=(if x-48=y then _ else decide (x-48<y));by_cases h:x=y+48;. rw[if_pos h,if_pos (by omega)];exact d s fun z c=>a z (List.mem_cons_of_mem _ c)
   ·rw[if_neg h,if_neg (by omega)];exact decide_eq_decide.2 (by omega)
theorem RH(a:n<=60)(c:48<=k)(d:k<=57):Wf.wrap (((k:Int)-48)*2^n)=(((k-48)*pw n:Nat):Int):=by
 have h:=nM a;have b:(k-48)*pw n<=9*pw n:=Nat.mul_le_mul_right _ (by omega);have e:((k:Int)-48)*2^n=(((k-48)*pw n:Nat):Int):=by rw[Int.natCast_mul,show(((k-48:Nat):Nat):Int)=(k:Int)-48 by omega];congr 1
 rw[e,Wi _ (by omega)]
structure xU(w:World)(b:Nat)(A:List Nat)(nd dp:Int)(neg tr:Bool)(L:List Nat)(v:Nat)(wr:World):Prop where
 at_:∃A' tr',Dc.Lw L A tr v A' tr'/\aI wr b A' nd dp neg tr'/\aa (af b) w wr
theorem NJ{B:Nat}{A:List Nat}{neg:Bool}(h:aI w k A n e neg b)(hn:n<=800)(V:dC A n)(hT:bC w B)(h1:1<=m)(hk:m<=60)(hx:ao A n=i::l)(h0:1<=i)(bt:-1000000000<=e/\e<=1000000000):Calls VI 315 #[.pointer (some ⟨k,0,none⟩),.int .u64 m] w fun S w'=>S=.returned (.tuple #[])/\∃t f ah I,f<=800/\aI w' k t (f:Nat) ah neg I/\dC t f/\bu t f ah I=Dc.cO m (bu A n e b)/\aa (af k) w w':=by
 have H:=VH (VJ h V);have HX:=VH hx;obtain⟨a,o,cp,ha,hg,hc⟩:=hT.yO.at_;obtain⟨c1,c2⟩:=hc m (by omega);obtain⟨a_,bq,aM⟩:=GH (k:=m) (by omega);have hC:=Dc.GG h1 hk;have aY:=VH (Dc.NK hC (by rw[<-hx];exact tN V) h0);have aL:=VH (Dc.Ch m (ao A n));have aA:(ao A n).length=n:=iM (by rw[h.len];omega);have ag:=VH aA;have bo:=VH hC.one;have hp:=fun x=>VH (PZ (w:=w.drewN x) (b:=k) (n:=n) (cp:=800) (B:=A.take n) hn (by rw[WK,h.len];omega) (fun z Y=>by have :=h.cell (show z<800 by omega);rw[show(A.take n).getD z 0=A.getD z 0 by simp[VW,List.getElem?_take,Y]];exact this) h.blk.lt (ji m) a_);have a7:=VH (show Dc.c_ (A.take n) (bytesOf (ji m))=Dc.c_ (i::l) (Dc.dG m).2 from by rw[aM,P1 _ _ (fun y hy=>by obtain⟨z,Y,rfl⟩:=List.getElem_of_mem hy;rw[WK]at Y;have :=V z (by omega);rw[VW,VX (by omega)]at this;rw[List.getElem_take];exact this.1)];show Dc.c_ (ao A n) _=_;rw[hx]);obtain⟨X,T,N,O,F,fz⟩:=h.facts;have bx:(m:Int)<61:=by omega
 have bw:(0:Int)<=(m:Int):=by omega
 generalize(Dc.dG m).1=D at*;clear aM hC;generalize ji m=cs at*;generalize(Dc.dG m).2=C at*;clear h V hx hc hT T N O F;go_enter func315,ntmps315;obtain⟨p,ar⟩:∃p,Dc.c_ (A.take n) (bytesOf cs)=p:=⟨_,rfl⟩;simp only[ar]at hp;have bp:=VH ar;obtain⟨E,hE⟩:∃E,(Dc.aF (Dc.carry m (ao A n)).1).length=E:=⟨_,rfl⟩;have HE:=VH hE
 have az:E+(if p then 1 else 0)=D:=by
  have a1:=aY.out;have a2:=aL.out;rw[HX.out]at a2;have a3:=a7.out;rw[ar]at a3;rw[<-a3]at a1;have a4:(i::l).length=n:=by rw[<-HX.out];exact aA
  rw[<-HX.out]at a1 a2 a4;rw[hE]at a2;cases p<;>simp at a1⊢<;>omega
 have aH:=VH az;have bA:(n:Int)<=800:=by omega
 have bB:(0:Int)<=(n:Int):=by omega
 clear ar hE az aA;go_upto_region 1 with fail;go_cut[30]from 17 to 30(fun bn wx=>bn=.bool p/\∃f,wx=w.drewN f);case first=>go_quiet((go_at_call 329;exact Calls.quiet_of (hp _).out));go_wp2_with fail;go_meet;exact⟨rfl,_,rfl⟩
 case rest=>
  obtain⟨rfl,f,rfl⟩:=hcut;go_upto_if 30 with fail;go_cut[4]from 31 to 32(fun s4 wx=>s4=.int .i64 E/\wx=w.drewN f)
  case first=>
   have aG:=aH
   cases p with
   |true=>
    have e1:VL.wrap ((D:Int)-1)=(E:Int):=by have :=aG.out;rw[VR _ (by omega)];simp at this;omega
    go_wp2_with fail;go_meet;exact⟨rfl,rfl⟩
   |false=>
    have e1:(D:Int)=(E:Int):=by have :=aG.out;simp at this;omega
    have aX:=VH e1;clear e1;go_wp2_with fail;go_meet;exact⟨by rw[aX.out],rfl⟩
  case rest=>
   obtain⟨rfl,rfl⟩:=hcut;have HW:=VH (show aI (w.drewN f) k A n e neg b/\aa (af k) w (w.drewN f)from⟨H.out.1.still ((aa.refl _ _).drewN f),(aa.refl _ _).drewN f⟩);generalize w.drewN f=w5 at*;obtain⟨X,T,N,O,F,fz⟩:=HW.out.1.facts;have az:E<=19:=by have :=aH.out;omega
   have e2:VL.wrap ((n:Int)+(E:Int))=((E+n:Nat):Int):=ak (by omega);have e3:VL.wrap ((n:Int)-1)=(n:Int)-1:=VR _ (by omega);clear hp hg c1 c2 T N O F fz;obtain⟨L,hL⟩:∃L,Dc.bR m (ao A n)=L:=⟨_,rfl⟩;have HL:=VH hL;clear hL;have ad:=VH (show L.length=E+n from by rw[<-HL.out,aL.out,HE.out,ag.out]);have a8:=VH (show L.take E=Dc.aF (Dc.carry m (ao A n)).1 from by rw[<-HE.out,<-HL.out];exact Dc.NM m _);have aE:=VH (show∀r d,r<n->(ao A n).getD r 0=d->L.getD (E+r) 0=((Dc.carry m ((ao A n).drop (r+1))).1+d*2^m)%10 from fun r d Z V=>by rw[<-HL.out,<-HE.out];exact Dc.NH (by rw[ag.out];exact Z) V);have HD:=H.out.2;have HD:=fun z Y=>HD z Y;have aw:∀j d,j<n->(ao A n).getD j 0=d->(Dc.carry m ((ao A n).drop j)).1=((Dc.carry m ((ao A n).drop (j+1))).1+d*2^m)/10:=fun j d hj V=>by rw[Dc.yG (by rw[ag.out];exact hj) V]
   have al:∀j,(Dc.carry m ((ao A n).drop j)).1<pw m:=fun j=>Dc.yF fun y hy=>tN H.out.2 y (List.mem_of_mem_drop hy);go_wp2_with fail;go_loopg[5,6,7]n(fun g s5 s6 s7 wr=>∃j:Nat,g=j/\j<=n/\s5=.int .i64 ((j:Int)-1)/\s6=.int .i64 ((E+j:Nat):Int)/\s7=.int .u64 ((Dc.carry m ((ao A n).drop j)).1:Nat)/\xU w k A n e neg b L (E+j) wr)
   case atStart=>
    refine⟨n,rfl,VN _,rfl,rfl,?_,⟨A,b,?_,HW.out.1,HW.out.2⟩⟩;. rw[List.drop_eq_nil_of_le (by rw[ag.out];exact VN _)];rfl
    ·have :=Dc.Lw.start (L:=L) (A:=A) (tr:=b) H.out.1.len;rwa[ad.out]at this
   case round=>
    obtain⟨j,rfl,hj,rfl,rfl,rfl,ai⟩:=hrel;have aB:=VH ai;clear ai;rcases gk with _|j
    ·have ax:=VH (show L.take E=Dc.aF (Dc.carry m ((ao A n).drop 0)).1/\(Dc.carry m ((ao A n).drop 0)).1<pw m from⟨a8.out,al 0⟩);have aO:((E+0:Nat):Int)=(E:Int):=by omega
     rw[aO];have aZ:=VH (show Dc.bL L from by rw[<-HL.out];exact Dc.Cf m _);generalize(Dc.carry m ((ao A n).drop 0)).1=n0 at*;clear al aw HD aE X e2 e3 aO;go_wp2_with fail;go_loopg[6,7]E(fun g s6 s7 wq=>∃x v:Nat,g=v/\s6=.int .i64 (v:Int)/\s7=.int .u64 (x:Int)/\x<pw m/\v<=E/\(Dc.aF x).length=v/\L.take v=Dc.aF x/\xU w k A n e neg b L v wq);case atStart=>refine⟨n0,E,rfl,rfl,rfl,ax.out.2,VN _,?_,ax.out.1,aB.out⟩;rw[<-ax.out.1,WK,ad.out];omega
     case round=>
      obtain⟨x,v,rfl,rfl,rfl,bD,bG,aR,aV,ai⟩:=hrel;have ae:=VH (VJ aR aV);have av:=VH ai;have aU:=nM hk;clear aR aV ai;by_cases aq:x=0
      ·subst aq;have bk:gk=0:=by have :=ae.out.1;rw[Dc.jR]at this;exact this.symm
       subst bk;obtain⟨t,I,J,G,U⟩:=av.out;have aJ:=VH J.ends;have aD:=VH (show∀z,z<800->z<L.length->48<=t.getD z 0/\t.getD z 0<=57 from fun z h1 h2=>by have h3:=J.hi z (Nat.zero_le _) h1 h2;have h4:L.getD z 0<10:=aZ.out _ (by rw[VW,VX h2];exact List.getElem_mem _);omega);have u:=VH (VJ G U);have a6:=VH (show ao A n≠[]from by rw[HX.out];exact List.cons_ne_nil _ _);obtain⟨X,T,N,O,F,fz⟩:=G.facts;have f8:=F 800;have br:=F 801;clear J G U F N O av ae;have e2:VL.wrap ((n:Int)+(E:Int))=((n:Int)+(E:Int)):=VR _ (by omega);have e3:VL.wrap (e+(E:Int))=e+(E:Int):=VR _ (by omega)
       have an:∀(W:World)(f:Nat),f=min L.length 800->aI W k t (f:Nat) (e+E) neg I->aa (af k) w W->(Calls VI 314 #[.pointer (some ⟨k,0,none⟩)] W fun S w'=>S=.returned (.tuple #[])/\∃t f ah I,f<=800/\aI w' k t (f:Nat) ah neg I/\dC t f/\bu t f ah I=Dc.cO m (bu A n e b)/\aa (af k) w w'):=fun W f hm a' bd=>(by
        refine(qM a' (by omega) (fun z Y=>aD.out z (by omega) (by omega))).mono ?_;rintro S w3⟨rfl,m',bz,hcut,aN,bj⟩;refine⟨rfl,t,m',_,I,by omega,aN,fun z Y=>aD.out z (by omega) (by omega),?_,bd.trans bj (fun q _ P=>P)⟩;have hl:=iM (A:=t) (nd:=m') (by rw[aN.len];omega);have bg:ao t f=(Dc.cut L b).1:=by rw[hm];exact aJ.out.1
        unfold Dc.cO Dc.trim bu;dsimp only;rw[if_neg a6.out,HL.out,<-bg,<-hcut,ag.out,show((L.length:Nat):Int)-(n:Int)=(E:Int)by rw[ad.out];omega,<-aJ.out.2];congr 1;by_cases h:m'=0;. subst h;rfl
        ·rw[if_neg h,if_neg (fun S=>h (by rw[S]at hl;exact hl.symm))]);by_cases h8:E+n<800
       case' pos=>
        have p8:(n:Int)+(E:Int)<800:=by omega
        have bh:((n+E:Nat):Int)=(n:Int)+(E:Int):=by omega
        have HF:=VH<|an _ (n+E) (by rw[ad.out];omega) (by rw[bh];exact(u.out.1.iU ((n:Int)+E)).ir (e+E)) ((u.out.2.setCell (p:=⟨k,800,none⟩) (.inl rfl) _).setCell (p:=⟨k,801,none⟩) (.inl rfl) _)
       case' neg=>
        have p8:(800:Int)<=(n:Int)+(E:Int):=by omega
        have HF:=VH<|an _ 800 (by rw[ad.out];omega) (((u.out.1.iU ((n:Int)+E)).iU 800).ir (e+E)) (((u.out.2.setCell (p:=⟨k,800,none⟩) (.inl rfl) _).setCell (p:=⟨k,800,none⟩) (.inl rfl) _).setCell (p:=⟨k,801,none⟩) (.inl rfl) _)
       all_goals clear an;go_wp2_with fail;refine HF.out.mono ?_;rintro S w3⟨rfl,Z⟩;have ay:=VH Z;clear Z;go_wp2_with fail;go_end0;exact⟨rfl,ay.out⟩
      ·have bE:(0:Int)<(x:Int):=by omega
       rcases gk with _|v;. exfalso;have :=ae.out.1;rw[Dc.oN aq]at this;omega
       ·obtain⟨t1,t2,t3⟩:=Dc.S2 (L:=L) aq (by rw[ae.out.1];exact ae.out.2);have aj:=Dc.oN aq;rw[ae.out.1]at aj;have aj:(Dc.aF (x/10)).length=v:=by omega
        rw[aj]at t1 t2 t3;have HS:=VH (VJ aj (VJ t1 (VJ t2 t3)));clear aj t1 t2 t3;obtain⟨t,I,J,G,U⟩:=av.out;have u:=VH (VJ J (VJ G U));obtain⟨X,T,N,O,F,fz⟩:=G.facts;clear J G U X T N;obtain⟨R,hR⟩:∃R,x%10=R:=⟨_,rfl⟩;obtain⟨Q,hQ⟩:∃Q,x/10=Q:=⟨_,rfl⟩;rw[hR,hQ]at HS;have au:((v+1:Nat):Int)=(v:Int)+1:=by omega
        have e6:VL.wrap ((v:Int)+1-1)=(v:Int):=ak (by omega);have e7:(x:Int)/10=(Q:Int):=by omega
        have e8:(x:Int)-10*(Q:Int)=(R:Int):=by omega
        have bc:R<10:=by omega
        have ba:10*Q<=x:=by omega
        have bb:Q<pw m:=by omega
        clear hR hQ;rw[au];by_cases ab:v<800
        ·have p3:(v:Int)<800:=by omega
         have p4:(0:Int)<=(v:Int):=by omega
         have f8:=F v;have f9:=u.out.2.1.cell ab;have e9:X8.wrap ((R:Int)+48)=(R:Int)+48:=XR _ (by omega);generalize t.getD v 0=y0 at f9;clear F O;go_wp2_with fail;go_roundg v;case measure=>exact W5 v
         case rel=>
          refine⟨Q,v,rfl,rfl,rfl,bb,by omega,HS.out.1,HS.out.2.1,t.set v (R+48),I,?_,?_,?_⟩;. exact u.out.1.put ab HS.out.2.2.1
          ·exact u.out.2.1.k8 ab (R+48)
          ·exact u.out.2.2.setCell (p:=⟨k,v,none⟩) (.inl rfl) _
        ·exfalso;omega
    ·obtain⟨t,I,J,G,U⟩:=aB.out;have aS:j<800:=by omega
     have hx:=HD j (by omega);have fx:=G.cell aS;rw[J.lo j (by omega) aS]at fx;have P:=aE.out j (A.getD j 0-48) (by omega) (lM H.out.1.len (by omega) hn);have aQ:=aw j (A.getD j 0-48) (by omega) (lM H.out.1.len (by omega) hn);have bf:=al (j+1);generalize A.getD j 0=c at*;obtain⟨bl,bm⟩:=hx;have u:=VH (VJ J (VJ G U));have HQ:=VH P;have aC:=VH aQ;obtain⟨X,T,N,O,F,fz⟩:=G.facts;clear J G U P aQ X T N;generalize(Dc.carry m ((ao A n).drop (j+1))).1=x at*;have aU:=nM hk;have aT:(c-48)*pw m<=9*pw m:=Nat.mul_le_mul_right _ (by omega);obtain⟨q,P⟩:∃q,(c-48)*pw m=q:=⟨_,rfl⟩;have e4:Wf.wrap (((c:Int)-48)*2^m)=(q:Int):=by rw[<-P];exact RH hk bl bm
     have K:=VH (show L.getD (E+j) 0=(x+q)%10/\(Dc.carry m ((ao A n).drop j)).1=(x+q)/10 from by rw[<-P];exact⟨HQ.out,aC.out⟩);rw[P]at aT;clear P HQ aC;obtain⟨M,hM⟩:∃M,x+q=M:=⟨_,rfl⟩;rw[hM]at K;have e5:Wf.wrap ((x:Int)+(q:Int))=(M:Int):=by rw[Wi _ (by omega)];omega
     obtain⟨v,hv⟩:∃v,E+j=v:=⟨_,rfl⟩;have au:((E+(j+1):Nat):Int)=(v:Int)+1:=by omega
     have aW:E+(j+1)=v+1:=by omega
     have HV:=VH hv;rw[hv]at K;rw[aW]at u;have e6:VL.wrap ((v:Int)+1-1)=(v:Int):=ak (by omega);obtain⟨R,hR⟩:∃R,M%10=R:=⟨_,rfl⟩;obtain⟨Q,hQ⟩:∃Q,M/10=Q:=⟨_,rfl⟩;rw[hR,hQ]at K;have bs:M<18446744073709551616:=by omega
     have e7:(M:Int)/10=(Q:Int):=by omega
     have e8:(M:Int)-10*(Q:Int)=(R:Int):=by omega
     have bc:R<10:=by omega
     have ba:10*Q<=M:=by omega
     have g0:(((j+1:Nat):Int)-1)=(j:Int):=by omega
     have p1:(0:Int)<=(j:Int):=by omega
     have p2:(j:Int)<800:=by omega
     have aK:=VH (show v<L.length from by have :=ad.out;omega);rw[g0,au];clear hM aT bf aU au aW hR hQ g0 aw al HD;by_cases ab:v<800
     ·have p3:(v:Int)<800:=by omega
      have p4:(0:Int)<=(v:Int):=by omega
      have f8:=F v;have f9:=u.out.2.1.cell ab;have e9:X8.wrap ((R:Int)+48)=((R+48:Nat):Int):=by rw[XR _ (by omega)];omega
      have e9:X8.wrap ((R:Int)+48)=(R:Int)+48:=XR _ (by omega);generalize t.getD v 0=y0 at f9;clear F O;go_wp2_with fail;go_roundg j;case measure=>exact W5 j
      case rel=>
       refine⟨j,rfl,by omega,rfl,by rw[HV.out],by rw[K.out.2],t.set v (R+48),I,?_,?_,?_⟩;. rw[HV.out];exact u.out.1.put ab K.out.1
       ·exact u.out.2.1.k8 ab (R+48)
       ·exact u.out.2.2.setCell (p:=⟨k,v,none⟩) (.inl rfl) _
     ·have p3:¬(v:Int)<800:=by omega
      have f8:=F 803;clear F;by_cases aP:R=0
      ·subst aP;go_wp2_with fail;go_roundg j;case measure=>exact W5 j
       case rel=>refine⟨j,rfl,by omega,rfl,by rw[HV.out],by rw[K.out.2],t,_,?_,u.out.2.1,u.out.2.2⟩;rw[HV.out];have :=u.out.1.off (by omega) aK.out K.out.1;rwa[if_pos rfl]at this
      ·have bF:¬(R:Int)=0:=by omega
       go_wp2_with fail;go_roundg j;case measure=>exact W5 j
       case rel=>refine⟨j,rfl,by omega,rfl,by rw[HV.out],by rw[K.out.2],t,true,?_,u.out.2.1.wm true,u.out.2.2.setCell (p:=⟨k,803,none⟩) (.inl rfl) _⟩;rw[HV.out];have :=u.out.1.off (by omega) aK.out K.out.1;rwa[if_neg aP]at this
def aT(w:World)(b:Nat)(neg:Bool)(d:Dc.D):Prop:=∃A m,m<=800/\aI w b A (m:Nat) d.dp neg d.tr/\dC A m/\ao A m=d.ds
theorem aT.len{w:World}{b:Nat}{neg:Bool}{d:Dc.D}(h:aT w b neg d):d.ds.length<=800/\b<w.heap.size:=by obtain⟨A,m,a,c,f,e⟩:=h;rw[<-e,iM (by rw[c.len];exact a)];exact⟨a,c.blk.lt⟩
theorem aT.at_{neg:Bool}{d:Dc.D}(h:aT w k neg d):∃A,aI w k A (d.ds.length:Nat) d.dp neg d.tr/\dC A d.ds.length/\ao A d.ds.length=d.ds:=by
 obtain⟨A,m,c,a,e,b⟩:=h;have f:d.ds.length=m:=by rw[<-b,iM (by rw[a.len];exact c)]
 rw[f];exact⟨A,a,e,b⟩
theorem aT.still{w a:World}{b:Nat}{neg:Bool}{d:Dc.D}(h:aT w b neg d)(j:aa ab w a):aT a b neg d:=by obtain⟨A,m,c,e,f,i⟩:=h;exact⟨A,m,c,e.still j,f,i⟩
theorem aT.drewN{w:World}{b:Nat}{neg:Bool}{d:Dc.D}(h:aT w b neg d)(n:Nat):aT (w.drewN n) b neg d:=h.still ((aa.refl _ _).drewN n)
theorem qH{A:List Nat}{d:Dc.D}(h:ao A k=d.ds):bu A k d.dp d.tr=d:=by unfold bu;rw[h]
theorem qG{A:List Nat}{neg:Bool}{d:Dc.D}(a:m<=800)(c:aI w k A (m:Nat) e neg b)(f:dC A m)(h:bu A m e b=d):aT w k neg d:=by subst h;exact⟨A,m,a,c,f,rfl⟩
theorem Cg{B:Nat}{neg:Bool}{d:Dc.D}(h:aT w n neg d)(y:Dc.Ok d)(u:d.ds≠[])(q:bC w B)(p:1<=k)(t:k<=60)(r:-1000000000<=d.dp/\d.dp<=1000000000):Calls VI 315 #[.pointer (some ⟨n,0,none⟩),.int .u64 k] w fun e a=>e=.returned (.tuple #[])/\aT a n neg (Dc.cO k d)/\aa (af n) w a:=by obtain⟨A,m,c,a2,a3,a4⟩:=h;obtain⟨x,l,e,z,_⟩:=Dc.js y u;refine(NJ a2 c a3 q p t (a4.trans e) z r).mono ?_;rintro e a⟨rfl,C,F,E,G,f,i,j,b,o⟩;rw[qH a4]at b;exact⟨rfl,qG f i j b,o⟩
theorem DR{neg:Bool}{d:Dc.D}(h:aT w n neg d)(u:Dc.Ok d)(t:d.ds≠[])(p:1<=k)(r:k<=60)(q:-1000000000<=d.dp/\d.dp<=1000000000):Calls VI 316 #[.pointer (some ⟨n,0,none⟩),.int .u64 k] w fun e a=>e=.returned (.tuple #[])/\aT a n neg (Dc.cV k d)/\aa (af n) w a:=by obtain⟨A,m,c,a2,a3,a4⟩:=h;obtain⟨x,l,e,y,_⟩:=Dc.js u t;refine(Rb a2 c a3 p r (a4.trans e) y q).mono ?_;rintro e a⟨rfl,z,E,C,F,f,i,j,b,o⟩;rw[qH a4]at b;exact⟨rfl,qG f i j b,o⟩
theorem QI{neg:Bool}{d:Dc.D}(h:aT w k neg d)(n:Int):Calls VI 319 #[.pointer (some ⟨k,0,none⟩),.int .i64 n] w fun e a=>e=.returned (.tuple #[])/\aT a k neg (Dc.fQ n d)/\aa (af k) w a:=by obtain⟨A,m,c,a2,a3,a4⟩:=h;refine(QH a2 c a3 n).mono ?_;rintro e a⟨rfl,p,o,l,f,b,j⟩;rw[qH a4]at b;exact⟨rfl,qG (by omega) f (fun i hi=>a3 i (by omega)) b,j⟩
theorem EF{neg:Bool}{d:Dc.D}(h:aT w k neg d)(n:Int):Calls VI 317 #[.pointer (some ⟨k,0,none⟩),.int .i64 n] w fun e w'=>e=.returned (.bool (Dc.up n d))/\aa ab w w':=by obtain⟨A,m,a,a2,a3,a4⟩:=h;have :=TC a2 a a3 n;rwa[qH a4]at this
structure xS(w:World)(b B:Nat)(neg:Bool)(g:Nat)(lo hi:Int)(fin:Dc.D)(f:Nat->Dc.D->Dc.D)(wr:World):Prop where
 at_:∃d',f g d'=fin/\aT wr b neg d'/\Dc.Ok d'/\d'.ds≠[]/\lo<=d'.dp/\d'.dp<=hi/\aa (af b) w wr
theorem pH{B:Nat}{neg:Bool}{d:Dc.D}(h:aT w k neg d)(T:Dc.Ok d)(S:bC w B)(hb:B<=k)(f:Int)(hk:-1000000<=f/\f<=1000000)(ak:-100000000<=d.dp/\d.dp<=100000000):Calls VI 282 #[.pointer (some ⟨k,0,none⟩),.int .i64 f] w fun e w'=>e=.returned (.tuple #[])/\aT w' k neg (Dc.shift f d)/\aa (af k) w w':=by
 have H:=VH (VJ h (VJ T S));obtain⟨A,Q,ad,ag⟩:=h.at_;obtain⟨t,V,W,X,Y,fz⟩:=Q.facts;have ai:=h.len.1;clear Q ad ag V W X Y h T S;go_enter func282,ntmps282;by_cases u:d.ds=[]
 ·have l:(d.ds.length:Int)=0:=by rw[u];rfl
  have n:=VH (show Dc.shift f d=d from by rw[Dc.shift,if_pos u]);rw[l]at t;clear u l;go_wp2_with fail;go_end0;exact⟨rfl,by rw[n.out];exact H.out.1,aa.refl _ _⟩
 ·have l:((d.ds.length:Int)==0)=false:=by have :d.ds.length≠0:=fun e=>u (List.eq_nil_of_length_eq_zero e);simp only[beq_eq_false_iff_ne,ne_eq];omega
  have x:=VH u;generalize d.ds.length=len at t l ai;clear u;by_cases y:0<f
  ·obtain⟨K,rfl⟩:=XB (show 0<=f by omega);have n:=VH (show Dc.shift (K:Int) d=Dc.shl K d from by rw[Dc.shift,if_neg x.out,if_pos y,WO]);have ab:decide (0<K)=true:=decide_eq_true (by omega);have a:decide ((0:Int)<(K:Int))=true:=decide_eq_true y;go_wp2_with fail;go_loopg[1]K(fun g s1 wr=>s1=.int .i64 (g:Nat)/\1<=g/\g<=K/\xS w k B neg g (-100000000) (100000000+(K:Int)-(g:Int)) (Dc.shl K d) Dc.shl wr);case atStart=>exact⟨rfl,by omega,VN _,d,rfl,H.out.1,H.out.2.1,x.out,by omega,by omega,aa.refl _ _⟩
   case round=>
    obtain⟨rfl,F,ah,p,r,i,a2,a3,a4,a5,j⟩:=hrel;have O:=VH (H.out.2.2.only hb j);have o:=VH (VJ r (VJ j (Dc.o8 (k:=60) (by decide) a2 a3)));have ae:=Dc.o7 (k:=60) (by decide) a2;by_cases E:60<gk
    ·have m:=VH (Cg (k:=60) i a2 a3 O.out (by decide) (by decide) (by omega));have G:(60:Int)<(gk:Int):=by omega
     have C:-100000000<=(Dc.cO 60 p).dp:=Int.le_trans a4 (Dc.uQ a2 a3);have z:(Dc.cO 60 p).dp<=100000000+(K:Int)-((gk-60:Nat):Int):=by omega
     clear i a2 a3 r j t l;go_wp2_with fail;refine m.out.mono ?_;rintro e N⟨rfl,a,c⟩;have b:=VH (VJ a c);clear a c;go_wp2_with fail;go_roundg(gk-60);case measure=>omega
     case rel=>obtain⟨I,J,L,M,r5⟩:=o.out;exact⟨by congr 1;omega,by omega,by omega,Dc.cO 60 p,by rw[<-I,Dc.wu E],b.out.1,L,M,C,z,J.trans b.out.2 (fun q _ hq=>hq)⟩
    ·have m:=VH (Cg (k:=gk) i a2 a3 O.out F (by omega) (by omega));have G:¬(60:Int)<(gk:Int):=by omega
     have U:Wf.wrap (gk:Int)=(gk:Int):=Wi _ (by omega);clear i a2 a3 r j t l;go_wp2_with fail;refine m.out.mono ?_;rintro e N⟨rfl,a,c⟩;have b:=VH (VJ a c);clear a c;go_wp2_with fail;go_end0;refine⟨rfl,?_,o.out.2.1.trans b.out.2 (fun q _ hq=>hq)⟩;rw[n.out,<-o.out.1,Dc.wz (by omega)];exact b.out.1
  ·by_cases P:f<0
   ·obtain⟨K,Z⟩:=XB (show 0<=-f by omega);obtain rfl:f=-(K:Int):=by omega
    have n:=VH (show Dc.shift (-(K:Int)) d=Dc.shr K d from by rw[Dc.shift,if_neg x.out,if_neg y,if_pos P,Int.neg_neg,WO]);clear Z;have ab:decide (-(K:Int)<0)=true:=decide_eq_true P;have a:decide (0< -(K:Int))=false:=decide_eq_false y;have aj:decide (0<K)=true:=decide_eq_true (by omega);go_wp2_with fail;go_loopg[1]K(fun g s1 wr=>s1=.int .i64 (-(g:Int))/\1<=g/\g<=K/\xS w k B neg g (-100000000-15*((K:Int)-(g:Int))) 100000000 (Dc.shr K d) Dc.shr wr);case atStart=>exact⟨rfl,by omega,VN _,d,rfl,H.out.1,H.out.2.1,x.out,by omega,by omega,aa.refl _ _⟩
    case round=>
     obtain⟨rfl,F,ah,p,r,i,a2,a3,a4,a5,j⟩:=hrel;have o:=VH (VJ r (VJ j (Dc.pF (k:=60) (by decide) (by decide) a2 a3)));have ae:=Dc.pE (k:=60) a2;by_cases E:60<gk
     ·have m:=VH (DR (k:=60) i a2 a3 (by decide) (by decide) (by omega));have G:-(gk:Int)< -60:=by omega
      have z:(Dc.cV 60 p).dp<=100000000:=Int.le_trans (Dc.v_ a2 a3) a5;have C:-100000000-15*((K:Int)-((gk-60:Nat):Int))<=(Dc.cV 60 p).dp:=by omega
      clear i a2 a3 r j t l;go_wp2_with fail;refine m.out.mono ?_;rintro e N⟨rfl,a,c⟩;have b:=VH (VJ a c);clear a c;go_wp2_with fail;go_roundg(gk-60);case measure=>omega
      case rel=>obtain⟨I,J,L,M,r5⟩:=o.out;exact⟨by congr 1;omega,by omega,by omega,Dc.cV 60 p,by rw[<-I,Dc.wD E],b.out.1,L,M,C,z,J.trans b.out.2 (fun q _ hq=>hq)⟩
     ·have m:=VH (DR (k:=gk) i a2 a3 F (by omega) (by omega));have G:¬-(gk:Int)< -60:=by omega
      have U:Wf.wrap (gk:Int)=(gk:Int):=Wi _ (by omega);clear i a2 a3 r j t l;go_wp2_with fail;refine m.out.mono ?_;rintro e N⟨rfl,a,c⟩;have b:=VH (VJ a c);clear a c;go_wp2_with fail;go_end0;refine⟨rfl,?_,o.out.2.1.trans b.out.2 (fun q _ hq=>hq)⟩;rw[n.out,<-o.out.1,Dc.wF (by omega)];exact b.out.1
   ·obtain rfl:f=0:=by omega
    have n:=VH (show Dc.shift 0 d=d from by rw[Dc.shift,if_neg x.out];rfl);go_wp2_with fail;go_end0;exact⟨rfl,by rw[n.out];exact H.out.1,aa.refl _ _⟩
theorem Rk{neg:Bool}{d:Dc.D}(h:aT w k neg d)(ag:-1000000000<=d.dp/\d.dp<=1000000000)(n:Int):Calls VI 318 #[.pointer (some ⟨k,0,none⟩),.int .i64 n] w fun e w'=>e=.returned (.tuple #[])/\aT w' k neg (Dc.iq n d)/\aa (af k) w w':=by
 have H:=VH h;obtain⟨A,q,C,E⟩:=h.at_;obtain⟨J,X,K,L,b,Z⟩:=q.facts;have T:=h.len.1;have a:=VH (VJ q (VJ C E));clear q C E K L h;have F:=VH (rfl:d.ds.length=d.ds.length);generalize x:d.ds.length=len at J T a;have t:=VH x;clear x F;go_enter func318,ntmps318;by_cases O:n<0;. have f:=VH (show Dc.iq n d=d from by rw[Dc.iq,if_pos (.inl O)]);go_wp2_with fail;refine bodyPost_ret (results_none rfl _ _ _) rfl ?_;exact⟨rfl,by rw[f.out];exact H.out,aa.refl _ _⟩
 ·by_cases P:(len:Int)<=n;. have f:=VH (show Dc.iq n d=d from by rw[Dc.iq,if_pos (.inr (by rw[t.out];exact P))]);go_wp2_with fail;refine bodyPost_ret (results_none rfl _ _ _) rfl ?_;exact⟨rfl,by rw[f.out];exact H.out,aa.refl _ _⟩
  ·obtain⟨N,rfl⟩:=XB (show 0<=n by omega);have ae:(N:Int)<(len:Int):=by omega
   have ad:(0:Int)<=(N:Int):=by omega
   have W:VL.wrap ((N:Int)-1)=(N:Int)-1:=VR _ (by omega);have f:=VH (show Dc.iq (N:Int) d=(match Dc.fI d.ds N with|some l=>⟨l,d.dp,d.tr⟩|none=>⟨[1],d.dp+1,d.tr⟩)from by rw[Dc.iq,if_neg (by rw[t.out];omega),WO];rfl);go_wp2_with fail;go_loopg[4]N(fun g s4 wr=>∃j:Nat,g=j/\s4=.int .i64 ((j:Int)-1)/\j<=N/\Dc.fI d.ds j=Dc.fI d.ds N/\w=wr);case atStart=>exact⟨N,rfl,rfl,VN _,rfl,rfl⟩
   case round=>
    obtain⟨j,rfl,rfl,hj,y,rfl⟩:=hrel;have o:=VH y;clear y;rcases gk with _|j
    ·have M:=a.out.1.cell (show 0<800 by decide);generalize A.getD 0 0=y0 at M;have g0:=b 0;have g1:=b 800;have g2:=b 801;have G:VL.wrap (d.dp+1)=d.dp+1:=VR _ (by omega);clear b;go_wp2_with fail;go_end0;refine⟨rfl,?_,(((aa.refl (af k) w).setCell (p:=⟨k,0,none⟩) (.inl rfl) _).setCell (p:=⟨k,800,none⟩) (.inl rfl) _).setCell (p:=⟨k,801,none⟩) (.inl rfl) _⟩;rw[f.out,<-o.out];have r:=((a.out.1.k8 (i:=0) (by decide) 49).iU 1).ir (d.dp+1);refine⟨A.set 0 49,1,by decide,r,fun i hi=>?_,?_⟩
     ·obtain rfl:i=0:=by omega
      rw[uq (by rw[a.out.1.len];decide)];omega
     ·exact mV a.out.1.len (i:=0) (by decide) 49
    ·have m:j<800:=by omega
     have V:=a.out.2.1 j (by omega);have Y:=a.out.1.cell m;have u:=VH (show d.ds.getD j 0=A.getD j 0-48 from by rw[<-a.out.2.2];exact lM a.out.1.len (by omega) (by omega));generalize z:A.getD j 0=c at*;obtain⟨ah,ai⟩:=V;have g0:(((j+1:Nat):Int)-1)=(j:Int):=by omega
     have p1:(0:Int)<=(j:Int):=by omega
     have p2:(j:Int)<800:=by omega
     rw[g0];by_cases h9:c<57
     ·have Q:(c:Int)<57:=by omega
      have p:=VH (show Dc.fI d.ds (j+1)=some (d.ds.take j++[c-48+1])from by rw[Dc.fI,u.out,if_pos (by omega)]);have G:X8.wrap ((c:Int)+1)=(c:Int)+1:=XR _ (by omega);have I:VL.wrap ((j:Int)+1)=(j:Int)+1:=VR _ (by omega);have q0:=b j;have q1:=b 800;clear b z;go_wp2_with fail;go_region;go_wp2_with fail;refine bodyPost_ret (results_none rfl _ _ _) rfl ?_;have r:=(a.out.1.k8 m (c+1)).iU ((j:Int)+1);have S:aa (af k) w _:=(((aa.refl (af k) w).setCell (p:=⟨k,j,none⟩) (.inl rfl) (.int .u8 ((c:Int)+1))).setCell (p:=⟨k,800,none⟩) (.inl rfl) (.int .i64 ((j:Int)+1))).drewN 1;have U:=r.still ((aa.refl ab _).drewN 1);refine⟨rfl,?_,S⟩;rw[f.out,<-o.out,p.out];refine⟨A.set j (c+1),j+1,by omega,U,?_,?_⟩;. refine dC.set (fun i hi=>a.out.2.1 i (by omega)) (by rw[a.out.1.len];exact m) (by omega) (by omega)
      ·rw[mV a.out.1.len m];show _=d.ds.take j++[c-48+1];rw[show c+1-48=c-48+1 by omega];congr 1;rw[<-a.out.2.2];unfold ao;rw[<-List.map_take,List.take_take,Nat.min_eq_left (by omega)]
     ·have Q:¬(c:Int)<57:=by omega
      have p:=VH (show Dc.fI d.ds (j+1)=Dc.fI d.ds j from by rw[Dc.fI,u.out,if_neg (by omega)]);have I:VL.wrap ((j:Int)-1)=(j:Int)-1:=VR _ (by omega);clear z;go_wp2_with fail;go_roundg j;case measure=>exact W5 j
      case rel=>exact⟨j,rfl,rfl,by omega,by rw[<-p.out,o.out],rfl⟩
section
namespace Dc
def round(n:Int)(d:D):D:=if n<0∨(d.ds.length:Int)<=n then d else if up n d then iq n d else fQ n d
theorem QJ{d:D}(h:Ok d)(n:Int):Ok (fQ n d):=by
 unfold fQ;split;. exact h
 ·obtain⟨a,b,c⟩:=S3 h n.toNat;exact Ex ⟨a,b,c⟩
theorem Q8{d:D}(h:Ok d)(n:Int):Ok (round n d):=by
 unfold round;split;. exact h
 ·split;. exact Rl h n
  ·exact QJ h n
def gu(l:List Nat):Nat:=l.foldl (fun a x=>(a*10+x)%18446744073709551616) 0
def whole(a:List Nat)(k:Nat):List Nat:=a.take k++List.replicate (k-a.length) 0
def eS(d:D):Nat:=if 20<d.dp then 18446744073709551615 else(gu (whole d.ds d.dp.toNat)+(if up d.dp d then 1 else 0))%18446744073709551616
def assign(v:Nat)(a:Bool):D:=trim ⟨aF v,(aF v).length,a⟩
end Dc
theorem nZ(n:Nat):Wf.wrap (n:Int)=((n%18446744073709551616:Nat):Int):=by rw[IntKind.wrap_u64];omega
theorem Q7{neg:Bool}{d:Dc.D}(h:aT w k neg d)(I:-1000000000<=d.dp/\d.dp<=1000000000)(n:Int):Calls VI 283 #[.pointer (some ⟨k,0,none⟩),.int .i64 n] w fun e w'=>e=.returned (.tuple #[])/\aT w' k neg (Dc.round n d)/\aa (af k) w w':=by
 have H:=VH h;obtain⟨A,m,G,J⟩:=h.at_;obtain⟨u,x,y,z,C,L⟩:=m.facts;clear m G J x y z C h;generalize o:d.ds.length=len at u;have l:=VH o;clear o;go_enter func283,ntmps283;by_cases E:n<0;. have a:=VH (show Dc.round n d=d from by rw[Dc.round,if_pos (.inl E)]);go_wp2_with fail;refine bodyPost_ret (results_none rfl _ _ _) rfl ?_;exact⟨rfl,by rw[a.out];exact H.out,aa.refl _ _⟩
 ·by_cases F:(len:Int)<=n;. have a:=VH (show Dc.round n d=d from by rw[Dc.round,if_pos (.inr (by rw[l.out];exact F))]);go_wp2_with fail;refine bodyPost_ret (results_none rfl _ _ _) rfl ?_;exact⟨rfl,by rw[a.out];exact H.out,aa.refl _ _⟩
  ·have N:n<(len:Int):=by omega
   have M:0<=n:=by omega
   have a:=VH (show Dc.round n d=if Dc.up n d then Dc.iq n d else Dc.fQ n d from by rw[Dc.round,if_neg (by rw[l.out];omega)]);have t:=VH (EF H.out n);go_wp2_with fail;refine t.out.mono ?_;rintro e O⟨rfl,p⟩;have i:=VH p;clear p;cases r:Dc.up n d with|true=>have j:=VH (Rk (H.out.still i.out) I n);go_wp2_with fail;refine j.out.mono ?_;rintro e K⟨rfl,c,f⟩;have b:=VH (VJ c f);clear c f;go_wp2_with fail;go_end0;refine⟨rfl,?_,(i.out.mono (fun _ _ e=>e.elim)).trans b.out.2 (fun q _ hq=>hq)⟩;rw[a.out,if_pos r];exact b.out.1|false=>have j:=VH (QI (H.out.still i.out) n);go_wp2_with fail;refine j.out.mono ?_;rintro e K⟨rfl,c,f⟩;have b:=VH (VJ c f);clear c f;go_wp2_with fail;go_end0;refine⟨rfl,?_,(i.out.mono (fun _ _ e=>e.elim)).trans b.out.2 (fun q _ hq=>hq)⟩;rw[a.out,if_neg (by rw[r];decide)];exact b.out.1
theorem Dc.uy(l:List Nat)(x:Nat):Dc.gu (l++[x])=(Dc.gu l*10+x)%18446744073709551616:=by simp[Dc.gu]
theorem Dc.AN(l:List Nat):Dc.gu l<18446744073709551616:=by
 rcases List.eq_nil_or_concat l with rfl|⟨l,x,rfl⟩;. decide
 ·rw[List.concat_eq_append,Dc.uy];exact Nat.mod_lt _ (by decide)
theorem Q2{neg:Bool}{d:Dc.D}(h:aT w k neg d)(ah:-1000000000<=d.dp/\d.dp<=1000000000):Calls VI 326 #[.pointer (some ⟨k,0,none⟩)] w fun e w'=>e=.returned (.int .u64 (Dc.eS d:Nat))/\aa ab w w':=by
 have H:=VH h;obtain⟨A,C,N,O⟩:=h.at_;obtain⟨f0,f1,f2,f3,ff,fz⟩:=C.facts;have p:=VH (VJ C (VJ N O));have T:=h.len.1;clear C N O f2 f3 ff h;generalize L:d.ds.length=len at f0 p T;have f:=VH L;clear L;go_enter func326,ntmps326;by_cases K:20<d.dp;. have r:=VH (show Dc.eS d=18446744073709551615 from by rw[Dc.eS,if_pos K]);go_wp2_with fail;go_ret;exact⟨by rw[r.out];rfl,aa.refl _ _⟩
 ·obtain⟨a,hk⟩:∃a,d.dp.toNat=a:=⟨_,rfl⟩;have r:=VH (show Dc.eS d=(Dc.gu (Dc.whole d.ds a)+(if Dc.up d.dp d then 1 else 0))%18446744073709551616 from by rw[Dc.eS,if_neg K,hk]);have HW:=VH (show∀i,len<=i->i<a->Dc.whole d.ds (i+1)=Dc.whole d.ds i++[0]from fun i h1 h2=>by unfold Dc.whole;rw[f.out,V2 (by rw[f.out];omega),V2 (by rw[f.out];omega),show i+1-len=(i-len)+1 by omega,List.replicate_succ',List.append_assoc]);have ad:=VH (show∀i,i<len->Dc.whole d.ds (i+1)=Dc.whole d.ds i++[A.getD i 0-48]from fun i h1=>by unfold Dc.whole;rw[show i+1-d.ds.length=0 by rw[f.out];omega,show i-d.ds.length=0 by rw[f.out];omega];simp only[List.replicate_zero,List.append_nil];rw[V4 (by rw[f.out];exact h1)];congr 1;have :=lM (A:=A) (nd:=len) (i:=i) p.out.1.len h1 T;rw[p.out.2.2,VW,VX (by rw[f.out];exact h1)]at this;rw[<-this];rfl);have HU:=VH (EF H.out d.dp);generalize ai:d.dp=x at*;go_upto_block 0 with fail;go_cut[3,4](fun s3 s4 wx=>∃i n:Nat,i<=a/\s3=.int .i64 (i:Nat)/\s4=.int .u64 (n:Nat)/\n=Dc.gu (Dc.whole d.ds i)/\(i<a->len<=i)/\w=wx)
  case first=>
   go_wp2_with fail;go_loopg[3,4]a(fun g s3 s4 wr=>∃i n:Nat,g=a-i/\i<=a/\s3=.int .i64 (i:Nat)/\s4=.int .u64 (n:Nat)/\n=Dc.gu (Dc.whole d.ds i)/\w=wr);case atStart=>exact⟨0,0,rfl,Nat.zero_le _,rfl,rfl,by simp[Dc.whole,Dc.gu],rfl⟩
   case round=>
    obtain⟨i,n,rfl,E,rfl,rfl,m,rfl⟩:=hrel;have b:=VH m;have V:n<18446744073709551616:=by rw[m];exact Dc.AN _
    clear m;by_cases S:i<len/\(i:Int)<x
    ·obtain⟨l,q⟩:=S;have af:i<800:=by omega
     have hx:=p.out.2.1 i l;have fx:=p.out.1.cell af;have G:=VH (show(n*10+(A.getD i 0-48))%18446744073709551616=Dc.gu (Dc.whole d.ds (i+1))from by rw[ad.out i l,Dc.uy,<-b.out]);generalize A.getD i 0=c at*;obtain⟨aj,al⟩:=hx;have Z:(i:Int)<(len:Int):=by omega
     have p2:(0:Int)<=(i:Int):=by omega
     have p3:(i:Int)<800:=by omega
     obtain⟨M,o⟩:∃M,n*10%18446744073709551616=M:=⟨_,rfl⟩;obtain⟨Q,j⟩:∃Q,(M+(c-48))%18446744073709551616=Q:=⟨_,rfl⟩;have J:Wf.wrap ((n:Int)*10)=(M:Int):=by rw[<-o,<-nZ];rfl
     have e2:X8.wrap ((c:Int)-48)=((c-48:Nat):Int):=by rw[XR _ (by omega)];omega
     obtain⟨y,Y⟩:∃y,c-48=y:=⟨_,rfl⟩;rw[Y]at e2 j G;have e3:Wf.wrap (y:Int)=(y:Int):=Wi _ (by omega);have e4:Wf.wrap ((M:Int)+(y:Int))=(Q:Int):=by rw[<-j,<-nZ];rfl
     have e5:VL.wrap ((i:Int)+1)=((i+1:Nat):Int):=ak (by omega);have z:=VH (show Q=Dc.gu (Dc.whole d.ds (i+1))from by rw[<-G.out];omega);clear o j Y;go_wp2_with fail;go_roundg(a-(i+1));case measure=>omega
     case rel=>exact⟨i+1,Q,rfl,by omega,rfl,rfl,z.out,rfl⟩
    ·by_cases q:(i:Int)<x;case' pos=>have Z:¬(i:Int)<(len:Int):=fun h=>S ⟨by omega,q⟩;have u:=VH Z
     case' neg=>have u:=VH q
     all_goals go_wp2_with fail;go_meet;exact⟨i,n,E,rfl,rfl,b.out,fun _=>by have :=u.out;omega,rfl⟩
  case rest=>
   obtain⟨i0,n0,ae,rfl,rfl,U,P,rfl⟩:=hcut;have F:=VH (VJ U P);clear U P;go_wp2_with fail;go_loopg[3,4](a-i0)(fun g s3 s4 wr=>∃i n:Nat,g=a-i/\i<=a/\s3=.int .i64 (i:Nat)/\s4=.int .u64 (n:Nat)/\n=Dc.gu (Dc.whole d.ds i)/\(i<a->len<=i)/\w=wr);case atStart=>exact⟨i0,n0,rfl,ae,rfl,rfl,F.out.1,F.out.2,rfl⟩
   case round=>
    obtain⟨i,n,rfl,E,rfl,rfl,m,l,rfl⟩:=hrel;have b:=VH (VJ m l);have V:n<18446744073709551616:=by rw[m];exact Dc.AN _
    clear m;by_cases q:(i:Int)<x
    ·obtain⟨M,o⟩:∃M,n*10%18446744073709551616=M:=⟨_,rfl⟩;have J:Wf.wrap ((n:Int)*10)=(M:Int):=by rw[<-o,<-nZ];rfl
     have e5:VL.wrap ((i:Int)+1)=((i+1:Nat):Int):=ak (by omega);have z:=VH (show M=Dc.gu (Dc.whole d.ds (i+1))from by rw[HW.out i (l (by omega)) (by omega),Dc.uy,<-b.out.1,Nat.add_zero,o]);clear o l;go_wp2_with fail;go_roundg(a-(i+1));case measure=>omega
     case rel=>exact⟨i+1,M,rfl,by omega,rfl,rfl,z.out,fun h=>by have :=b.out.2 (by omega);omega,rfl⟩
    ·have u:=VH q;have ag:i=a:=by omega
     clear l;subst ag;go_wp2_with fail;refine HU.out.mono ?_;rintro e w2⟨rfl,W⟩;have I:=VH W;clear W
     cases X:Dc.up x d with
     |true=>
      have t:=VH (show Dc.eS d=(n+1)%18446744073709551616 from by rw[r.out,X,<-b.out.1];rfl);obtain⟨Q,j⟩:∃Q,(n+1)%18446744073709551616=Q:=⟨_,rfl⟩;have J:Wf.wrap ((n:Int)+1)=(Q:Int):=by rw[<-j,<-nZ];rfl
      rw[j]at t;clear j;go_wp2_with fail;go_ret;exact⟨by rw[t.out];rfl,I.out⟩
     |false=>have t:=VH (show Dc.eS d=n from by rw[r.out,X,<-b.out.1];exact Nat.mod_eq_of_lt V);go_wp2_with fail;go_ret;exact⟨by rw[t.out];rfl,I.out⟩
structure eJ(w:World)(g:Nat)(t:TypeId)(L:List Nat):Prop where
 blk:ad w g t (L.map mQ).toArray
section
variable{w w':World}{g:Nat}{t:TypeId}{L:List Nat}
theorem eJ.cell(h:eJ w g t L){i:Nat}(b:i<L.length):w.cell? ⟨g,i,none⟩=some (.int .u8 (L.getD i 0:Nat)):=by rw[h.blk.cell];simp[VW,VX b,mQ]
theorem eJ.frozen(h:eJ w g t L)(i:Nat):w.frozen? ⟨g,i,none⟩=false:=h.blk.frozen i
theorem eJ.set(h:eJ w g t L)(i v:Nat):eJ (w.setCell ⟨g,i,none⟩ (.int .u8 v)) g t (L.set i v):=by refine⟨?_⟩;have :=h.blk.aj i (.int .u8 v);rw[List.setIfInBounds_toArray]at this;rw[List.map_set];exact this
theorem eJ.kept(h:eJ w g t L)(b:aa S w w')(a:¬S g):eJ w' g t L:=⟨b.blk h.blk a⟩
theorem eJ.still(h:eJ w g t L)(a:aa ab w w'):eJ w' g t L:=h.kept a id
end
theorem Ho{A:List Nat}(a:i<A.length)(v:Nat):ao (A.set i v) (i+1)=ao A i++[v-48]:=by unfold ao;rw[V4 (by rw[List.length_set];exact a),List.take_set_of_le (VN i)];simp
theorem F9{A:List Nat}{neg:Bool}(h:aI w k A e r neg b){v:Nat}(hv:v<18446744073709551616):Calls VI 281 #[.pointer (some ⟨k,0,none⟩),.int .u64 v] w fun f w'=>f=.returned (.tuple #[])/\aT w' k neg (Dc.assign v b)/\aa (af k) w w':=by
 have H:=VH h;have hb:=h.blk.lt;have ar:(Dc.aF v).length<=20:=Dc.tQ (Nat.lt_trans hv (by decide));clear h;go_enter func281,ntmps281;go_wp2_with fail;generalize av:w.alloc _=w0;have ah:=VH (show eJ w0 w.heap.size 365 (List.replicate 24 0)/\aa ab w w0 from by rw[<-av];exact⟨⟨ad.new w _ _⟩,(aa.refl _ _).alloc _⟩);clear av;generalize hG:w.heap.size=G at*;have HG:=VH hG;clear hG;go_loopg[1,5](Dc.aF v).length(fun g s1 s5 wr=>∃(n u:Nat)(L:List Nat),g=(Dc.aF u).length/\s1=.int .u64 (u:Nat)/\s5=.int .i64 (n:Nat)/\u<18446744073709551616/\L.length=24/\n+(Dc.aF u).length=(Dc.aF v).length/\Dc.aF v=Dc.aF u++(ao L n).reverse/\dC L n/\eJ wr G 365 L/\aa ab w wr);case atStart=>exact⟨0,v,_,rfl,rfl,rfl,hv,by simp,by omega,by simp[ao],fun i hi=>absurd hi (by omega),ah.out.1,ah.out.2⟩
 case round=>
  obtain⟨n,u,L,rfl,rfl,rfl,hu,z,Z,X,y,l,t⟩:=hrel;have x:=VH (VJ Z (VJ X (VJ y (VJ l t))));have aL:n<=20:=by omega
  by_cases ag:u=0
  ·subst ag;clear y l t X Z;have aj:=VH (show Dc.aF v=(ao L n).reverse/\n=(Dc.aF v).length from by obtain⟨U,I,_⟩:=x.out;rw[Dc.jR]at U I;exact⟨I,U⟩);have d:=H.out.still x.out.2.2.2.2;obtain⟨f0,S,E,F,o,fz⟩:=d.facts;have HD:=VH d;have f8:=o 800;clear d S E F o;have ay:=VH (VJ z ar);have an:k≠G:=by have :=HG.out;omega
   have ak:=VH (show n=(Dc.aF v).length from aj.out.2)
   have aw:=VH (show∀m j,m+(j+1)=n->(Dc.aF v).take (m+1)=(Dc.aF v).take m++[L.getD j 0-48]from fun m j au=>by
    have y:(ao L n).length=n:=iM (by rw[z];omega);rw[aj.out.1,V4 (by rw[List.length_reverse,y];omega)];congr 1;rw[List.getElem_reverse];have aD:(ao L n).length-1-m=j:=by rw[y];omega
    simp only[aD];simp[ao,VW,VX (show j<L.length by omega)]);have e1:VL.wrap ((n:Int)-1)=(n:Int)-1:=VR _ (by omega);have D:=VH (show aI (wr.setCell ⟨k,800,none⟩ (.int .i64 0)) k A 0 r neg b/\eJ (wr.setCell ⟨k,800,none⟩ (.int .i64 0)) G 365 L/\aa (af k) w (wr.setCell ⟨k,800,none⟩ (.int .i64 0))from by have p:aa (af k) wr (wr.setCell ⟨k,800,none⟩ (.int .i64 0)):=(aa.refl (af k) _).setCell (p:=⟨k,800,none⟩) (.inl rfl) _;exact⟨HD.out.iU 0,x.out.2.2.2.1.kept p (fun f=>an f.symm),(x.out.2.2.2.2.mono (fun _ _ f=>f.elim)).same p⟩);clear z ar;go_wp2_with fail;generalize wr.setCell ⟨k,800,none⟩ (.int .i64 0)=ws at D;go_loopg[5]n(fun g s5 wq=>∃(j m:Nat)(a:List Nat),g=j/\m+j=n/\s5=.int .i64 ((j:Int)-1)/\aI wq k a (m:Nat) r neg b/\dC a m/\ao a m=(Dc.aF v).take m/\eJ wq G 365 L/\aa (af k) w wq);case atStart=>exact⟨n,0,A,rfl,by omega,rfl,D.out.1,fun i hi=>absurd hi (by omega),by simp[ao],D.out.2.1,D.out.2.2⟩
   case round=>
    obtain⟨j,m,a,rfl,au,rfl,d,M,W,l,t⟩:=hrel;have C:=VH (VJ d (VJ M (VJ W (VJ l t))));obtain⟨f0,S,E,F,o,fz⟩:=d.facts;rcases gk with _|j
    ·obtain rfl:m=n:=by omega
     have f8:=o 801;have aG:m<=800:=by omega
     have HC:=VH (qM (d.ir (m:Int)) aG M);have ax:=VH (show a.length=800 from d.len);clear d M W l t o E F;go_wp2_with fail;refine HC.out.mono ?_;rintro f w3⟨rfl,m',Y,K,J,O⟩;have HF:=VH (VJ Y (VJ K (VJ J O)));clear Y K J O;go_wp2_with fail;go_end0;obtain⟨Y,K,J,O⟩:=HF.out;refine⟨rfl,qG (m:=m') (A:=a) (by omega) J (fun i hi=>C.out.2.1 i (by omega)) ?_,(C.out.2.2.2.2.setCell (p:=⟨k,801,none⟩) (.inl rfl) _).trans O (fun q _ hq=>hq)⟩;have hl:=iM (A:=a) (nd:=m') (by rw[ax.out];omega);unfold Dc.assign Dc.trim bu;dsimp only;have aq:ao a m=Dc.aF v:=by rw[C.out.2.2.1,V2 (by rw[<-ak.out];exact VN _)]
     rw[<-aq,<-K];congr 1;have aE:((ao a m).length:Int)=(m:Int):=by rw[aq,<-ak.out]
     rw[aE];by_cases h:m'=0;. subst h;rfl
     ·rw[if_neg h,if_neg (fun f=>h (by rw[f]at hl;exact hl.symm))]
    ·have N:m<800:=by omega
     have T:=d.cell N;have q9:=l.cell (i:=j) (by have :=ay.out.1;omega);have az:=x.out.2.2.1 j (by omega);have HX:=VH (aw.out m j au);generalize a.getD m 0=y0 at T;generalize L.getD j 0=c at*;obtain⟨aB,aC⟩:=az;have q8:=o m;have q7:=o 800;have g0:(((j+1:Nat):Int)-1)=(j:Int):=by omega
     have p1:(0:Int)<=(j:Int):=by omega
     have p2:(j:Int)<24:=by omega
     have p3:(0:Int)<=(m:Int):=by omega
     have p4:(m:Int)<800:=by omega
     have e2:VL.wrap ((m:Int)+1)=(m:Int)+1:=VR _ (by omega);have e3:VL.wrap ((j:Int)-1)=(j:Int)-1:=VR _ (by omega);rw[g0];clear d M W l t o S E F;go_wp2_with fail;go_region;go_wp2_with fail;go_roundg j;case measure=>exact W5 j
     case rel=>obtain⟨k1,k2,k3,k4,k5⟩:=C.out;have p:aa (af k) wr ((wr.setCell ⟨k,m,none⟩ (.int .u8 (c:Int))).setCell ⟨k,800,none⟩ (.int .i64 ((m:Int)+1))):=((aa.refl (af k) _).setCell (p:=⟨k,m,none⟩) (.inl rfl) _).setCell (p:=⟨k,800,none⟩) (.inl rfl) _;have p:=p.drewN 1;refine⟨j,m+1,a.set m c,rfl,by omega,rfl,(((k1.k8 N c).iU ((m:Int)+1)).still ((aa.refl ab _).drewN 1)),k2.set (by rw[k1.len];exact N) aB aC,?_,k4.kept p (fun f=>an f.symm),k5.same p⟩;rw[mV k1.len N,k3,HX.out]
  ·have aM:(0:Int)<(u:Int):=by omega
   have ae:=Dc.oN ag;have T:=l.cell (i:=n) (by omega);have f8:=l.frozen n;have ai:=VH (Dc.jQ ag);clear y l t X;generalize L.getD n 0=y0 at T;obtain⟨R,hR⟩:∃R,u%10=R:=⟨_,rfl⟩;obtain⟨Q,V⟩:∃Q,u/10=Q:=⟨_,rfl⟩;rw[V]at ae;rw[V,hR]at ai;have e7:(u:Int)/10=(Q:Int):=by omega
   have e8:(u:Int)-10*(Q:Int)=(R:Int):=by omega
   have aK:R<10:=by omega
   have aJ:10*Q<=u:=by omega
   have e9:X8.wrap ((R:Int)+48)=(R:Int)+48:=XR _ (by omega);have p1:(0:Int)<=(n:Int):=by omega
   have p2:(n:Int)<24:=by omega
   have al:=VH ae;have aA:Q<18446744073709551616:=by omega
   have P:=VH z;clear hR V ae Z z;go_wp2_with fail;go_roundg(Dc.aF Q).length;case measure=>have :=al.out;omega
   case rel=>
    obtain⟨U,I,h3,h4,h5⟩:=x.out;have aH:=Ho (A:=L) (i:=n) (by rw[P.out];omega) (R+48);refine⟨n+1,Q,L.set n (R+48),rfl,rfl,rfl,aA,by rw[List.length_set];exact P.out,by have :=al.out;omega,?_,?_,h4.set n (R+48),h5.setCell (p:=⟨G,n,none⟩) (.inr (by rw[HG.out];exact VN _)) _⟩;. rw[I,ai.out,aH,List.reverse_append,List.append_assoc];simp
    ·exact h3.set (by rw[P.out];omega) (by omega) (by omega)
end
end Go.Proofs.YtmddhediccmhbaaGreatDoor
