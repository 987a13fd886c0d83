/- BindBack: bindings that are printed, parsed and read are the same. -/
import Derived.Test.YtmddhediccmhbaaGreatDoorTie
import Derived.Test.YtmddhediccmhbaaGreatDoorCards
import Derived.SevenTiedAt
import Derived.Stop.Joined
import Derived.ChangeMaps5
import Derived.Test.YtmddhediccmhbaaGreatDoorA31
import Derived.Test.YtmddhediccmhbaaGreatDoorA32
import Derived.Test.YtmddhediccmhbaaGreatDoorA26
import Derived.Test.YtmddhediccmhbaaGreatDoorA27
set_option linter.all false
set_option maxHeartbeats 400000000
set_option maxRecDepth 100000
namespace Go.Proofs.YtmddhediccmhbaaGreatDoor
open Go.RowKit
open Go.Proofs.Tryz
open Go.Proofs.Tryz renaming prog→VI
variable {w w':World}{k n:Nat}{v:Value}
section
open Go.RowKit Go.Sort
theorem Jq{B:Nat}(b:bC w' B)(c:gh w')(j:w'.ownsRow w.heap.size 5 1 v 0 [])(m:aa ab w w')(hB:B<=w.heap.size){s:Bool}(i:k<9218868437227405312)(l:n<=20):Calls VI 260 #[v,.float .f64 (Fl.ae s k),.int .u8 102,.int .i64 (n:Nat)] w' (tc w):=by
 obtain⟨e,M,d,a⟩:=oq.ex k n;by_cases h:¬M=0/\d<=18/\0<d;. exact Jp b c j m hB i l a h
 ·exact Jr b c j m hB i l a (by omega)
end
section
theorem Gb:joinedFacts VI 3 Tryz.f3 Rows.bindBackSpec Rows.bindBackRow=true:=by
 unfold joinedFacts;simp only[Bool.and_eq_true];repeat'(refine And.intro ?_ ?_)
 all_goals(as_aux_lemma=>kernel_rfl)
theorem Kv:laidOutB VI=true:=by kernel_rfl
theorem own:ownKnob VI.godebug=none:=by kernel_rfl
theorem SF(a:Os)(args:Array Value):((World.laidAll VI a listed).forCall (fun _ _=>0) ⟨#[],args,[]⟩).Shaped VI:=World.shaped_of_ZipB (by kernel_rfl) (by kernel_rfl)
theorem B_:(listed.all fun x=>x.2.handleName?.isNone)=true:=by kernel_rfl
theorem SB(a:Os)(args:Array Value):laidMet VI listed ((World.laidAll VI a listed).forCall (fun _ _=>0) ⟨#[],args,[]⟩).memory:=laidMet_laidAll _ (by kernel_rfl) (by kernel_rfl)
theorem Js:xD:=fun _ _ _ a _ c ht hB _ _ _ b hp=>(Jq a.iy a.iA c ht hB b hp).mono fun _ _ h=>h
theorem FT:∀d,dD d:=S_ (IS (JM Js))
namespace bindBack
open Go.ChangeShapes Go.WideShapes Go.ChangeAt Go.RowKit Go.Deep Go.ChangeMaps
theorem lifted(b:Os)(U:b.Started)(H:Type)(a:TypeId×Value->H):ReturnsInHanded {} Tryz.checked b 3 .any (fun w args=>(Rows.bindBackSpec.pre a VI Tryz.f3 Rows.bindBackRow.domain false w args/\laidMetH VI listed w)/\sizedMet a VI Tryz.f3 (OpenSpec.ofChange Rows.bindBackSpec) false w args) (Rows.bindBackSpec.post a VI Tryz.f3 false true false false):=by
 refine returnsInHanded_of_calls own U (by kernel_rfl) (ChangeSpec.witness_shaped (enc:=a) (C:=Tryz.checked) (os:=b) (X:=fun w _=>laidMetH VI listed w) false (World.laidAll VI b listed) #[.slice none 0 0] 8 (World.laidAll_os _ _ _) (SF b _) (by kernel_rfl) (by kernel_rfl) (by kernel_rfl) (by rw[MakeChecks.laidMetH_plain _ _ _ B_];exact SB b _)) ?_;intro w c i _ S _ O Q _;obtain⟨_,_,_,J,L,_,_,_,_,G⟩:=O;have e:J=Tryz.f3:=Option.some.inj (L.symm.trans func3);subst e;obtain⟨⟨⟨I,Z,X,hw,hc⟩,n⟩,hz⟩:=Q;have C:=DataW.Whole.of_heap (w':=w.forCall c i) (by rfl) hw;have z:laidMetH VI listed (w.forCall c i):=n.of_heap (by rfl);have T:=RE S;suffices hs:∃v,Calls VI 3 i.args (w.forCall c i) fun e d=>e=.returned v/\Rows.bindBackSpec.post a VI Tryz.f3 false true false false (w.forCall c i) i.args v d from by obtain⟨v,hs⟩:=hs;refine hs.mono fun e d⟨m,hp⟩=>?_;subst m;exact ChangeSpec.post_blind hp
 generalize w.forCall c i=W at*;generalize i.args=args at*;have F:∀(j:Nat)t v,Tryz.f3.params[j]?=some t->args[j]?=some v->Value.okWide VI W .any w.heap.size t v:=G;have l:=C;obtain⟨p,q,y,K,rfl,_,_⟩:=C;have u:DataW.TrodAll a VI W 0 (fun _=>true) true Tryz.f3.params.toList args.toList I p:=y;rw[Tryz.params3]at u F;obtain⟨v0,Y,rfl,rfl,o⟩:=trodAll_one u;obtain⟨rfl,rfl⟩:=trodVars_none K;clear y G;simp only[List.append_nil]at l;have M:∀x∈p,x.block<W.heap.size:=fun x n=>by simpa using l.lt x n
 obtain⟨ai,P⟩:=O6 (F 0 22 v0 rfl rfl) o;have k:laidMet VI listed W:=by rw[MakeChecks.laidMetH_plain _ _ _ B_]at z;exact z
 obtain⟨r,N⟩:=T;refine⟨_,(Gc (Si k) FT (IP k r N) (Hs k r) P).mono fun e d⟨m,ht⟩=>⟨m,?_⟩⟩;have E:=ht.aC;exact⟨_,_,_,[],p,[],l,trodAll_cons_mk (shut_bool underlying4 _) trodAll_mk0,trodAll_mk1 (Below.trod Kv (by kernel_rfl) (of_decide_eq_true (by kernel_rfl)) o E M),rfl,E.frame _,fun h=>by cases h⟩
theorem said:Rows.BindBackSaid:=OpenClaim.holds_of_wide 3 Tryz.f3 rfl rfl rfl rfl rfl rfl rfl ⟨rfl,rfl,rfl,rfl,rfl⟩ rfl rfl rfl rfl rfl (by kernel_rfl) func3 Gb (of_decide_eq_true (by kernel_rfl)) (by unfold Func.isWrapper;first|(rw[if_pos (by decide+kernel)];kernel_rfl)|(rw[if_neg (by decide+kernel)];exact⟨rfl,rfl⟩)) (fun a b H enc _=>lifted a b H enc)
theorem plain(f:FuncId)(a:Func)(b:Tryz.pinned.checked.prog.funcNamed "mullion/mullionlaw15.BindBack" =some f)(c:Tryz.pinned.checked.prog.funcs[f]?=some a):true=Tryz.pinned.checked.prog.looks []/\∀(j:Nat)t,a.params[j]?=some t->Tryz.pinned.checked.prog.wantsStandIn t=false:=by
 obtain rfl:f=3:=Option.some.inj ((show VI.funcNamed "mullion/mullionlaw15.BindBack" =some 3 by kernel_rfl).symm.trans b)|>.symm;obtain rfl:a=Tryz.f3:=(Option.some.inj (Tryz.func3.symm.trans c)).symm;refine⟨by kernel_rfl,fun j t ht=>?_⟩;rw[Tryz.params3]at ht;have d:=Array.mem_of_getElem? ht;obtain rfl:t=22:=by simpa using d
 exact(show VI.wantsStandIn 22=false by kernel_rfl)
theorem card:Rows.BindBackCardSaid:=Claim7.holds_tied_plain_at .later [] _ _ _ _ said (fun _ h=>by cases h) (by kernel_rfl) (fun _ h=>by cases h) bindBack_row_tie rfl ⟨rfl,rfl⟩ (by kernel_rfl) rfl plain (by kernel_rfl)
end bindBack
end
end Go.Proofs.YtmddhediccmhbaaGreatDoor
