/- SessionBackSaid: for every input the law returns true, and each argument reads as it did. No condition. -/
import Derived.Test.YtflgboncpbmikaaGreatDoorB6
import Derived.Test.YtflgboncpbmikaaGreatDoorB5
import Derived.Test.YtflgboncpbmikaaGreatDoorRows
import Derived.Test.YtflgboncpbmikaaGreatDoorTie
import Derived.Test.YtflgboncpbmikaaGreatDoorCards
import Derived.ProofKit
import Derived.LaidMore
import Derived.OpenShut
import Derived.Stop.Joined
import Derived.SevenTiedAt
namespace Go.Proofs.YtflgboncpbmikaaGreatDoor
set_option linter.unusedVariables false
set_option linter.unusedSimpArgs false
open Go Go.VC Go.ChangeShapes Go.WideShapes Go.ChangeAt Go.RowKit
theorem back_own:ownKnob Tryz.prog.godebug=none:=by kernel_rfl
theorem back_laidOut:laidOutB Tryz.prog=true:=by kernel_rfl
theorem back_door (os:Os) (args:Array Value):laidMetH Tryz.prog Rows.sessionBackRow.laid ((World.doorLaid Tryz.prog 400 os).forCall (fun _ _=>0) ⟨#[],args,[]⟩).memory:=
 laidMetH_of_parts3 (fuel:=8) (laidMet_of_run' 8 (by kernel_rfl) (by kernel_rfl)) (by kernel_rfl) (by kernel_rfl)
set_option maxRecDepth 100000 in
theorem back_lifted (os:Os) (started:os.Started) (H:Type) (enc:TypeId × Value→H):
  ReturnsInHanded {} Tryz.checked os 3 .any (fun w args=>(Rows.sessionBackSpec.pre enc Tryz.prog Tryz.f3 [] false w args∧laidMetH Tryz.prog Rows.sessionBackRow.laid w)∧sizedMet enc Tryz.prog Tryz.f3 (OpenSpec.ofChange Rows.sessionBackSpec) false w args)
   (Rows.sessionBackSpec.post enc Tryz.prog Tryz.f3 false true false false):=by
 refine returnsInHanded_of_change_and (C:=Tryz.checked) (X:=fun w _=>laidMetH Tryz.prog Rows.sessionBackRow.laid w) (fun _ _ _ hh h=>h.of_heap hh) back_own started (by kernel_rfl) Tryz.func3
  (ChangeSpec.witness_shaped (enc:=enc) (C:=Tryz.checked) (os:=os) (X:=fun w _=>laidMetH Tryz.prog Rows.sessionBackRow.laid w) false (World.doorLaid Tryz.prog 400 os) #[.agg #[.int .i64 0,.int .i64 0,.int .i64 0,.int .i64 0,.slice none 0 0],.slice none 0 0] 8 rfl (World.shaped_of_RefB (by kernel_rfl) (by kernel_rfl)) (by kernel_rfl) (by kernel_rfl) (by kernel_rfl) (back_door os _)) ?_
 intro W base args ds gs before hval0 hW _ _ hL _
 have hval:∀ (j:Nat) t v,Tryz.f3.params[j]? =some t→args[j]? =some v→Value.okWide Tryz.prog W .any base t v:=hval0
 have hW':=hW
 obtain ⟨p,q,hA0,hV,rfl,hfz,hnd⟩:=hW
 have hA:DataW.TrodAll enc Tryz.prog W 0 (fun _=>true) true Tryz.f3.params.toList args.toList ds p:=hA0
 rw [Tryz.params3] at hA hval
 obtain ⟨v0,vs0,d0,ds0,p0,q0,hargs,rfl,rfl,h0,r0⟩:=trodAll_cons hA
 obtain ⟨v1,vs1,d1,ds1,p1,q1,rfl,rfl,rfl,h1,r1⟩:=trodAll_cons r0
 obtain ⟨rfl,rfl,rfl⟩:=trodAll_nil r1
 obtain rfl:args=#[v0,v1]:=by cases args;simp_all
 obtain ⟨rfl,rfl⟩:=trodVars_none hV
 have lt0:∀ x∈p0,x.block<W.heap.size:=by obtain ⟨m,hm⟩:=h0;exact DataW.trod_lt m _ _ _ hm
 have lt1:∀ x∈p1,x.block<W.heap.size:=by obtain ⟨m,hm⟩:=h1;exact DataW.trod_lt m _ _ _ hm
 have k0:=h0
 have k1:=h1
 obtain ⟨q0,s0,rfl,hq0,hb0⟩:=ask_in (hval 0 24 v0 rfl rfl) h0
 obtain ⟨s1,ps1,rfl,hp1⟩:=pieces_in (hval 1 25 v1 rfl rfl) h1
 clear hA0 hval0
 refine (sback_lspec hq0 hb0 hp1 (Sat.start W)).use fun v W' ⟨hv,hs⟩=>?_
 subst hv
 have bel:=below_of hs
 exact ⟨_,rfl,_,_,_,[],_,[],hW',trodAll_mk1 (shut_bool Tryz.underlying4 _),(trodAll_cons_mk (Below.trod back_laidOut (by kernel_rfl) (of_decide_eq_true (by kernel_rfl)) k0 bel lt0) (trodAll_cons_mk (Below.trod back_laidOut (by kernel_rfl) (of_decide_eq_true (by kernel_rfl)) k1 bel lt1) trodAll_mk0)),rfl,bel.frame _,fun h=>by cases h⟩
theorem back_facts:joinedFacts Tryz.prog 3 Tryz.f3 Rows.sessionBackSpec Rows.sessionBackRow=true:=by kernel_rfl
theorem back_named:Tryz.prog.funcNamed Rows.sessionBackRow.func=some 3:=by kernel_rfl
theorem back_holds:Rows.SessionBackSaid:=
 OpenClaim.holds_of_wide 3 Tryz.f3 rfl rfl rfl rfl rfl rfl rfl ⟨rfl,rfl,rfl,rfl,rfl⟩ rfl rfl rfl rfl rfl back_named Tryz.func3 back_facts
  (of_decide_eq_true (by kernel_rfl)) (by unfold Func.isWrapper;first|(rw [if_pos (by decide +kernel)];kernel_rfl)|(rw [if_neg (by decide +kernel)];exact ⟨rfl,rfl⟩))
  (fun os started H enc _=>back_lifted os started H enc)
theorem back_card:Rows.SessionBackCardSaid:=
 Claim7.holds_tied_plain_at .later [] [.data, .data, .data] true (true, "2253925df9493dfb42ae53670cfb25c5fc7dc1794886ec97a0d86d251f98d5f1") true
  back_holds (fun _ h=>by cases h) (by kernel_rfl) (fun _ h=>by cases h) sessionBack_row_tie rfl ⟨rfl,rfl⟩ (by kernel_rfl) rfl
  (fun f fn hf hfn=>by
   obtain rfl : f = 3 := Option.some.inj ((show Tryz.prog.funcNamed "jetway/jetwaylaw19.SessionBack" = some 3 by kernel_rfl).symm.trans hf) |>.symm
   obtain rfl:fn=Tryz.f3:=(Option.some.inj (Tryz.func3.symm.trans hfn)).symm
   exact ⟨by kernel_rfl,fun j t ht=>by
    rw [Tryz.params3] at ht
    have hm:t∈[24,25]:=by simpa using Array.mem_of_getElem? ht
    have hall:([24,25].all fun u=>!Tryz.prog.wantsStandIn u)=true:=by kernel_rfl
    exact (show Tryz.prog.wantsStandIn t=false by simpa using List.all_eq_true.1 hall t hm)⟩)
  (by kernel_rfl)
#print axioms back_card
end Go.Proofs.YtflgboncpbmikaaGreatDoor
