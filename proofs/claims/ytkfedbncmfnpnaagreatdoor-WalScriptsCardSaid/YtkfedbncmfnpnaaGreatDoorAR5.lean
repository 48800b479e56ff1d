/- WalScriptsSaid: for every input the law returns true, and each argument reads as it did. No condition. -/
import Derived.Test.YtkfedbncmfnpnaaGreatDoorB7
import Derived.Test.YtkfedbncmfnpnaaGreatDoorB5
import Derived.Test.YtkfedbncmfnpnaaGreatDoorRows
import Derived.Test.YtkfedbncmfnpnaaGreatDoorTie
import Derived.Test.YtkfedbncmfnpnaaGreatDoorCards
import Derived.ProofKit
import Derived.LaidMore
import Derived.OpenShut
import Derived.Stop.Joined
import Derived.SevenTiedAt
set_option linter.unusedVariables false
set_option linter.unusedSimpArgs false
namespace Go.Proofs.YtkfedbncmfnpnaaGreatDoor
section
open Go Go.VC Go.ChangeShapes Go.WideShapes Go.ChangeAt Go.RowKit
theorem scripts_own:ownKnob Tryz.prog.godebug=none:=by kernel_rfl
theorem scripts_laidOut:laidOutB Tryz.prog=true:=by kernel_rfl
theorem scripts_door (os:Os) (args:Array Value):laidMetH Tryz.prog Rows.walScriptsRow.laid ((World.doorLaid Tryz.prog 400 os).forCall (fun _ _=>0) ⟨#[],args,[]⟩).memory:=
 laidMetH_of_parts3 (fuel:=8) (laidMet_of_run' 8 (by kernel_rfl) (by kernel_rfl)) (by kernel_rfl) (by kernel_rfl)
set_option maxRecDepth 100000 in
theorem scripts_lifted (os:Os) (started:os.Started) (H:Type) (enc:TypeId × Value→H):
  ReturnsInHanded {} Tryz.checked os 7 .any (fun w args=>(Rows.walScriptsSpec.pre enc Tryz.prog Tryz.f7 [] false w args∧laidMetH Tryz.prog Rows.walScriptsRow.laid w)∧sizedMet enc Tryz.prog Tryz.f7 (OpenSpec.ofChange Rows.walScriptsSpec) false w args)
   (Rows.walScriptsSpec.post enc Tryz.prog Tryz.f7 false true false false):=by
 refine returnsInHanded_of_change_and (C:=Tryz.checked) (X:=fun w _=>laidMetH Tryz.prog Rows.walScriptsRow.laid w) (fun _ _ _ hh h=>h.of_heap hh) scripts_own started (by kernel_rfl) Tryz.func7
  (ChangeSpec.witness_shaped (enc:=enc) (C:=Tryz.checked) (os:=os) (X:=fun w _=>laidMetH Tryz.prog Rows.walScriptsRow.laid w) false (World.doorLaid Tryz.prog 400 os) #[.agg #[.int .i64 0,.int .i64 0],.slice none 0 0] 8 rfl (World.shaped_of_RefB (by kernel_rfl) (by kernel_rfl)) (by kernel_rfl) (by kernel_rfl) (by kernel_rfl) (scripts_door os _)) ?_
 intro W base args ds gs before hval0 hW _ hwt hL _
 have hval:∀ (j:Nat) t v,Tryz.f7.params[j]? =some t→args[j]? =some v→Value.okWide Tryz.prog W .any base t v:=hval0
 have hW':=hW
 obtain ⟨p,q,hA0,hV,rfl,hfz,hnd⟩:=hW
 have hA:DataW.TrodAll enc Tryz.prog W 0 (fun _=>true) true Tryz.f7.params.toList args.toList ds p:=hA0
 rw [Tryz.params7] at hA hval
 obtain ⟨v0,vs0,d0,ds0,p0,q0,hargs,rfl,rfl,h0,r0⟩:=trodAll_cons hA
 obtain ⟨v1,vs1,d1,ds1,p1,q1,rfl,rfl,rfl,h1,r1⟩:=trodAll_cons r0
 obtain ⟨rfl,rfl,rfl⟩:=trodAll_nil r1
 obtain rfl:args=#[v0,v1]:=by cases args;simp_all
 obtain ⟨rfl,rfl⟩:=trodVars_none hV
 have lt0:∀ x∈p0,x.block<W.heap.size:=by obtain ⟨m,hm⟩:=h0;exact DataW.trod_lt m _ _ _ hm
 have lt1:∀ x∈p1,x.block<W.heap.size:=by obtain ⟨m,hm⟩:=h1;exact DataW.trod_lt m _ _ _ hm
 have k0:=h0
 have k1:=h1
 obtain ⟨A0,hA0,rfl,bA0⟩:=Zua Tryz.underlying63 Tryz.underlying3 (by kernel_rfl) (by kernel_rfl) (hval 0 63 v0 rfl rfl) h0
 obtain ⟨s1,es1,rfl,hr1,hq1⟩:=Zq6 (hval 1 44 v1 rfl rfl) h1
 clear hA0 hval0
 refine (Zh3 hA0 (Zlf h1 (ZpS hwt (j:=1) (by kernel_rfl) rfl) hr1 hq1) (fun e he=>(hq1 e he).n) (Zrg (show laidMet Tryz.prog Rows.walScriptsRow.laid W from hL)) (Sat.start W)).use fun v W' ⟨hv,hs⟩=>?_
 subst hv
 have bel:=ZrK hs
 exact ⟨_,rfl,_,_,_,[],_,[],hW',trodAll_mk1 (shut_bool Tryz.underlying4 _),(trodAll_cons_mk (Below.trod scripts_laidOut (by kernel_rfl) (of_decide_eq_true (by kernel_rfl)) k0 bel lt0) (trodAll_cons_mk (Below.trod scripts_laidOut (by kernel_rfl) (of_decide_eq_true (by kernel_rfl)) k1 bel lt1) trodAll_mk0)),rfl,bel.frame _,fun h=>by cases h⟩
theorem scripts_facts:joinedFacts Tryz.prog 7 Tryz.f7 Rows.walScriptsSpec Rows.walScriptsRow=true:=by kernel_rfl
theorem scripts_named:Tryz.prog.funcNamed Rows.walScriptsRow.func=some 7:=by kernel_rfl
theorem scripts_holds:Rows.WalScriptsSaid:=
 OpenClaim.holds_of_wide 7 Tryz.f7 rfl rfl rfl rfl rfl rfl rfl ⟨rfl,rfl,rfl,rfl,rfl⟩ rfl rfl rfl rfl rfl scripts_named Tryz.func7 scripts_facts
  (of_decide_eq_true (by kernel_rfl)) (by unfold Func.isWrapper;first|(rw [if_pos (by decide +kernel)];kernel_rfl)|(rw [if_neg (by decide +kernel)];exact ⟨rfl,rfl⟩))
  (fun os started H enc _=>scripts_lifted os started H enc)
theorem scripts_card:Rows.WalScriptsCardSaid:=
 Claim7.holds_tied_plain_at .later [] [.data, .data, .data, .sentinel, .sentinel] true (true, "c7f536d0f4bf2d116850f0dd5728a9626e01ad0d2a18b651dcd333cbea065072") true
  scripts_holds (fun _ h=>by cases h) (by kernel_rfl) (fun _ h=>by cases h) walScripts_row_tie rfl ⟨rfl,rfl⟩ (by kernel_rfl) rfl
  (fun f fn hf hfn=>by
   obtain rfl : f = 7 := Option.some.inj ((show Tryz.prog.funcNamed "jetway/jetwaylaw06.WalScripts" = some 7 by kernel_rfl).symm.trans hf) |>.symm
   obtain rfl:fn=Tryz.f7:=(Option.some.inj (Tryz.func7.symm.trans hfn)).symm
   exact ⟨by kernel_rfl,fun j t ht=>by
    rw [Tryz.params7] at ht
    have hm:t∈[63,44]:=by simpa using Array.mem_of_getElem? ht
    have hall:([63,44].all fun u=>!Tryz.prog.wantsStandIn u)=true:=by kernel_rfl
    exact (show Tryz.prog.wantsStandIn t=false by simpa using List.all_eq_true.1 hall t hm)⟩)
  (by kernel_rfl)
#print axioms scripts_card
end
end Go.Proofs.YtkfedbncmfnpnaaGreatDoor
