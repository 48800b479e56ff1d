/- BookingHoldsSaid: for every input the law returns true, and each argument reads as it did. No condition. -/
import Derived.Test.YtfgbbckfikiomaaGreatDoorB7
import Derived.Test.YtfgbbckfikiomaaGreatDoorB5
import Derived.Test.YtfgbbckfikiomaaGreatDoorRows
import Derived.Test.YtfgbbckfikiomaaGreatDoorTie
import Derived.Test.YtfgbbckfikiomaaGreatDoorCards
import Derived.ProofKit
import Derived.LaidMore
import Derived.OpenShut
import Derived.Stop.Joined
import Derived.SevenTiedAt
set_option linter.unusedVariables false
namespace Go.Proofs.YtfgbbckfikiomaaGreatDoor
section
open Go Go.VC Go.ChangeShapes Go.WideShapes Go.ChangeAt Go.RowKit
theorem holds_own:ownKnob Tryz.prog.godebug=none:=by kernel_rfl
theorem holds_laidOut:laidOutB Tryz.prog=true:=by kernel_rfl
theorem holds_door (os:Os) (args:Array Value):laidMetH Tryz.prog Rows.bookingHoldsRow.laid ((World.doorLaid Tryz.prog 400 os).forCall (fun _ _=>0) ⟨#[],args,[]⟩).memory:=
 laidMetH_of_parts3 (fuel:=8) (laidMet_of_run' 8 (by kernel_rfl) (by kernel_rfl)) (by kernel_rfl) (by kernel_rfl)
set_option maxRecDepth 100000 in
theorem holds_lifted (os:Os) (started:os.Started) (H:Type) (enc:TypeId × Value→H):
  ReturnsInHanded {} Tryz.checked os 10 .any (fun w args=>(Rows.bookingHoldsSpec.pre enc Tryz.prog Tryz.f10 [] false w args∧laidMetH Tryz.prog Rows.bookingHoldsRow.laid w)∧sizedMet enc Tryz.prog Tryz.f10 (OpenSpec.ofChange Rows.bookingHoldsSpec) false w args)
   (Rows.bookingHoldsSpec.post enc Tryz.prog Tryz.f10 false true false false):=by
 refine returnsInHanded_of_change_and (C:=Tryz.checked) (X:=fun w _=>laidMetH Tryz.prog Rows.bookingHoldsRow.laid w) (fun _ _ _ hh h=>h.of_heap hh) holds_own started (by kernel_rfl) Tryz.func10
  (ChangeSpec.witness_shaped (enc:=enc) (C:=Tryz.checked) (os:=os) (X:=fun w _=>laidMetH Tryz.prog Rows.bookingHoldsRow.laid w) false (World.doorLaid Tryz.prog 400 os) #[.slice none 0 0] 8 rfl (World.shaped_of_RefB (by kernel_rfl) (by kernel_rfl)) (by kernel_rfl) (by kernel_rfl) (by kernel_rfl) (holds_door os _)) ?_
 intro W base args ds gs before hval0 hW _ _ hL _
 have hval:∀ (j:Nat) t v,Tryz.f10.params[j]? =some t→args[j]? =some v→Value.okWide Tryz.prog W .any base t v:=hval0
 have hW':=hW
 obtain ⟨p,q,hA0,hV,rfl,hfz,hnd⟩:=hW
 have hA:DataW.TrodAll enc Tryz.prog W 0 (fun _=>true) true Tryz.f10.params.toList args.toList ds p:=hA0
 rw [Tryz.params10] at hA hval
 obtain ⟨v0,vs0,d0,ds0,p0,q0,hargs,rfl,rfl,h0,r0⟩:=trodAll_cons hA
 obtain ⟨rfl,rfl,rfl⟩:=trodAll_nil r0
 obtain rfl:args=#[v0]:=by cases args;simp_all
 obtain ⟨rfl,rfl⟩:=trodVars_none hV
 have lt0:∀ x∈p0,x.block<W.heap.size:=by obtain ⟨m,hm⟩:=h0;exact DataW.trod_lt m _ _ _ hm
 have k0:=h0
 obtain ⟨s0,cs0,rfl,hr0⟩:=Zv3 (hval 0 22 v0 rfl rfl) h0
 clear hA0 hval0
 refine (ZlK hr0 (Sat.start W)).use fun v W' ⟨hv,hs⟩=>?_
 subst hv
 have bel:=Zua hs
 exact ⟨_,rfl,_,_,_,[],_,[],hW',trodAll_mk1 (shut_bool Tryz.underlying4 _),(trodAll_cons_mk (Below.trod holds_laidOut (by kernel_rfl) (of_decide_eq_true (by kernel_rfl)) k0 bel lt0) trodAll_mk0),rfl,bel.frame _,fun h=>by cases h⟩
theorem holds_facts:joinedFacts Tryz.prog 10 Tryz.f10 Rows.bookingHoldsSpec Rows.bookingHoldsRow=true:=by kernel_rfl
theorem holds_named:Tryz.prog.funcNamed Rows.bookingHoldsRow.func=some 10:=by kernel_rfl
theorem holds_holds:Rows.BookingHoldsSaid:=
 OpenClaim.holds_of_wide 10 Tryz.f10 rfl rfl rfl rfl rfl rfl rfl ⟨rfl,rfl,rfl,rfl,rfl⟩ rfl rfl rfl rfl rfl holds_named Tryz.func10 holds_facts
  (of_decide_eq_true (by kernel_rfl)) (by unfold Func.isWrapper;first|(rw [if_pos (by decide +kernel)];kernel_rfl)|(rw [if_neg (by decide +kernel)];exact ⟨rfl,rfl⟩))
  (fun os started H enc _=>holds_lifted os started H enc)
theorem holds_card:Rows.BookingHoldsCardSaid:=
 Claim7.holds_tied_plain_at .later [] [.data, .data, .data] true (true, "cae91f812608bd1ccc85a6e8adf44878454e465912f49210b36da1cc4206cde3") true
  holds_holds (fun _ h=>by cases h) (by kernel_rfl) (fun _ h=>by cases h) bookingHolds_row_tie rfl ⟨rfl,rfl⟩ (by kernel_rfl) rfl
  (fun f fn hf hfn=>by
   obtain rfl : f = 10 := Option.some.inj ((show Tryz.prog.funcNamed "jetway/jetwaylaw18.BookingHolds" = some 10 by kernel_rfl).symm.trans hf) |>.symm
   obtain rfl:fn=Tryz.f10:=(Option.some.inj (Tryz.func10.symm.trans hfn)).symm
   exact ⟨by kernel_rfl,fun j t ht=>by
    rw [Tryz.params10] at ht
    have hm:t∈[22]:=by simpa using Array.mem_of_getElem? ht
    have hall:([22].all fun u=>!Tryz.prog.wantsStandIn u)=true:=by kernel_rfl
    exact (show Tryz.prog.wantsStandIn t=false by simpa using List.all_eq_true.1 hall t hm)⟩)
  (by kernel_rfl)
#print axioms holds_card
end
end Go.Proofs.YtfgbbckfikiomaaGreatDoor
