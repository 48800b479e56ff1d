/- SessionOnceSaid: for every input the law returns true, and each argument reads as it did. No condition. -/
import Derived.Test.YtlplemdmegpoeaaGreatDoorB7
import Derived.Test.YtlplemdmegpoeaaGreatDoorB5
import Derived.Test.YtlplemdmegpoeaaGreatDoorRows
import Derived.Test.YtlplemdmegpoeaaGreatDoorTie
import Derived.Test.YtlplemdmegpoeaaGreatDoorCards
import Derived.ProofKit
import Derived.LaidMore
import Derived.OpenShut
import Derived.Stop.Joined
import Derived.SevenTiedAt
set_option linter.unusedVariables false
set_option linter.unusedSimpArgs false
set_option maxHeartbeats 8000000
namespace Go.Proofs.YtlplemdmegpoeaaGreatDoor
section
open Go Go.VC Go.ChangeShapes Go.WideShapes Go.ChangeAt Go.RowKit
theorem once_own:ownKnob Tryz.prog.godebug=none:=by kernel_rfl
theorem once_laidOut:laidOutB Tryz.prog=true:=by kernel_rfl
theorem once_door (os:Os) (args:Array Value):laidMetH Tryz.prog Rows.sessionOnceRow.laid ((World.doorLaid Tryz.prog 400 os).forCall (fun _ _=>0) ⟨#[],args,[]⟩).memory:=
 laidMetH_of_parts3 (fuel:=8) (laidMet_of_run' 8 (by kernel_rfl) (by kernel_rfl)) (by kernel_rfl) (by kernel_rfl)
set_option maxRecDepth 100000 in
theorem once_lifted (os:Os) (started:os.Started) (H:Type) (enc:TypeId × Value→H):
  ReturnsInHanded {} Tryz.checked os 4 .any (fun w args=>(Rows.sessionOnceSpec.pre enc Tryz.prog Tryz.f4 [] false w args∧laidMetH Tryz.prog Rows.sessionOnceRow.laid w)∧sizedMet enc Tryz.prog Tryz.f4 (OpenSpec.ofChange Rows.sessionOnceSpec) false w args)
   (Rows.sessionOnceSpec.post enc Tryz.prog Tryz.f4 false true false false):=by
 refine returnsInHanded_of_change_and (C:=Tryz.checked) (X:=fun w _=>laidMetH Tryz.prog Rows.sessionOnceRow.laid w) (fun _ _ _ hh h=>h.of_heap hh) once_own started (by kernel_rfl) Tryz.func4
  (ChangeSpec.witness_shaped (enc:=enc) (C:=Tryz.checked) (os:=os) (X:=fun w _=>laidMetH Tryz.prog Rows.sessionOnceRow.laid w) false (World.doorLaid Tryz.prog 400 os) #[.slice none 0 0,.slice none 0 0,.slice none 0 0] 8 rfl (World.shaped_of_RefB (by kernel_rfl) (by kernel_rfl)) (by kernel_rfl) (by kernel_rfl) (by kernel_rfl) (once_door os _)) ?_
 intro W base args ds gs before hval0 hW _ _ hL _
 have hval:∀ (j:Nat) t v,Tryz.f4.params[j]? =some t→args[j]? =some v→Value.okWide Tryz.prog W .any base t v:=hval0
 have hW':=hW
 obtain ⟨p,q,hA0,hV,rfl,hfz,hnd⟩:=hW
 have hA:DataW.TrodAll enc Tryz.prog W 0 (fun _=>true) true Tryz.f4.params.toList args.toList ds p:=hA0
 rw [Tryz.params4] at hA hval
 obtain ⟨v0,vs0,d0,ds0,p0,q0,hargs,rfl,rfl,h0,r0⟩:=trodAll_cons hA
 obtain ⟨v1,vs1,d1,ds1,p1,q1,rfl,rfl,rfl,h1,r1⟩:=trodAll_cons r0
 obtain ⟨v2,vs2,d2,ds2,p2,q2,rfl,rfl,rfl,h2,r2⟩:=trodAll_cons r1
 obtain ⟨rfl,rfl,rfl⟩:=trodAll_nil r2
 obtain rfl:args=#[v0,v1,v2]:=by cases args;simp_all
 obtain ⟨rfl,rfl⟩:=trodVars_none hV
 have lt0:∀ x∈p0,x.block<W.heap.size:=by obtain ⟨m,hm⟩:=h0;exact DataW.trod_lt m _ _ _ hm
 have lt1:∀ x∈p1,x.block<W.heap.size:=by obtain ⟨m,hm⟩:=h1;exact DataW.trod_lt m _ _ _ hm
 have lt2:∀ x∈p2,x.block<W.heap.size:=by obtain ⟨m,hm⟩:=h2;exact DataW.trod_lt m _ _ _ hm
 have k0:=h0
 have k1:=h1
 have k2:=h2
 obtain ⟨s0,ps0,rfl,hp0⟩:=ZlM (hval 0 49 v0 rfl rfl) h0
 obtain ⟨s1,bs1,rfl,hr1,hb1⟩:=Zqm (hval 1 47 v1 rfl rfl) h1
 obtain ⟨s2,ps2,rfl,hp2⟩:=ZlM (hval 2 49 v2 rfl rfl) h2
 clear hA0 hval0
 refine (ZmR hp0 hr1 hb1 hp2 (Sat.start W)).use fun v W' ⟨hv,hs⟩=>?_
 subst hv
 have bel:=ZvL hs
 exact ⟨_,rfl,_,_,_,[],_,[],hW',trodAll_mk1 (shut_bool Tryz.underlying4 _),(trodAll_cons_mk (Below.trod once_laidOut (by kernel_rfl) (of_decide_eq_true (by kernel_rfl)) k0 bel lt0) (trodAll_cons_mk (Below.trod once_laidOut (by kernel_rfl) (of_decide_eq_true (by kernel_rfl)) k1 bel lt1) (trodAll_cons_mk (Below.trod once_laidOut (by kernel_rfl) (of_decide_eq_true (by kernel_rfl)) k2 bel lt2) trodAll_mk0))),rfl,bel.frame _,fun h=>by cases h⟩
theorem once_facts:joinedFacts Tryz.prog 4 Tryz.f4 Rows.sessionOnceSpec Rows.sessionOnceRow=true:=by kernel_rfl
theorem once_named:Tryz.prog.funcNamed Rows.sessionOnceRow.func=some 4:=by kernel_rfl
theorem once_holds:Rows.SessionOnceSaid:=
 OpenClaim.holds_of_wide 4 Tryz.f4 rfl rfl rfl rfl rfl rfl rfl ⟨rfl,rfl,rfl,rfl,rfl⟩ rfl rfl rfl rfl rfl once_named Tryz.func4 once_facts
  (of_decide_eq_true (by kernel_rfl)) (by unfold Func.isWrapper;first|(rw [if_pos (by decide +kernel)];kernel_rfl)|(rw [if_neg (by decide +kernel)];exact ⟨rfl,rfl⟩))
  (fun os started H enc _=>once_lifted os started H enc)
theorem once_card:Rows.SessionOnceCardSaid:=
 Claim7.holds_tied_plain_at .later [] [.data, .data, .data] true (true, "3129ef0c656f331a12e0ae780c0341adaa096e6356435926d3bba9bcb766f7c2") true
  once_holds (fun _ h=>by cases h) (by kernel_rfl) (fun _ h=>by cases h) sessionOnce_row_tie rfl ⟨rfl,rfl⟩ (by kernel_rfl) rfl
  (fun f fn hf hfn=>by
   obtain rfl : f = 4 := Option.some.inj ((show Tryz.prog.funcNamed "jetway/jetwaylaw19.SessionOnce" = some 4 by kernel_rfl).symm.trans hf) |>.symm
   obtain rfl:fn=Tryz.f4:=(Option.some.inj (Tryz.func4.symm.trans hfn)).symm
   exact ⟨by kernel_rfl,fun j t ht=>by
    rw [Tryz.params4] at ht
    have hm:t∈[49,47,49]:=by simpa using Array.mem_of_getElem? ht
    have hall:([49,47,49].all fun u=>!Tryz.prog.wantsStandIn u)=true:=by kernel_rfl
    exact (show Tryz.prog.wantsStandIn t=false by simpa using List.all_eq_true.1 hall t hm)⟩)
  (by kernel_rfl)
#print axioms once_card
end
end Go.Proofs.YtlplemdmegpoeaaGreatDoor
