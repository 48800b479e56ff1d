/- WalOpensSaid: for every input the law returns true, and each argument reads as it did. No condition. -/
import Derived.Test.YtkfedbncmfnpnaaGreatDoorB6
import Derived.Test.YtkfedbncmfnpnaaGreatDoorB5
import Derived.Test.YtkfedbncmfnpnaaGreatDoorRows
import Derived.Test.YtkfedbncmfnpnaaGreatDoorTie
import Derived.Test.YtkfedbncmfnpnaaGreatDoorCards
import Derived.ProofKit
import Derived.LaidMore
import Derived.OpenShut
import Derived.Stop.Joined
import Derived.SevenTiedAt
namespace Go.Proofs.YtkfedbncmfnpnaaGreatDoor
set_option linter.unusedVariables false
set_option linter.unusedSimpArgs false
open Go Go.VC Go.ChangeShapes Go.WideShapes Go.ChangeAt Go.RowKit
theorem opens_own:ownKnob Tryz.prog.godebug=none:=by kernel_rfl
theorem opens_laidOut:laidOutB Tryz.prog=true:=by kernel_rfl
theorem opens_door (os:Os) (args:Array Value):laidMetH Tryz.prog Rows.walOpensRow.laid ((World.doorLaid Tryz.prog 400 os).forCall (fun _ _=>0) ⟨#[],args,[]⟩).memory:=
 laidMetH_of_parts3 (fuel:=8) (laidMet_of_run' 8 (by kernel_rfl) (by kernel_rfl)) (by kernel_rfl) (by kernel_rfl)
set_option maxRecDepth 100000 in
theorem opens_lifted (os:Os) (started:os.Started) (H:Type) (enc:TypeId × Value→H):
  ReturnsInHanded {} Tryz.checked os 3 .any (fun w args=>(Rows.walOpensSpec.pre enc Tryz.prog Tryz.f3 [] false w args∧laidMetH Tryz.prog Rows.walOpensRow.laid w)∧sizedMet enc Tryz.prog Tryz.f3 (OpenSpec.ofChange Rows.walOpensSpec) false w args)
   (Rows.walOpensSpec.post enc Tryz.prog Tryz.f3 false true false false):=by
 refine returnsInHanded_of_change_and (C:=Tryz.checked) (X:=fun w _=>laidMetH Tryz.prog Rows.walOpensRow.laid w) (fun _ _ _ hh h=>h.of_heap hh) opens_own started (by kernel_rfl) Tryz.func3
  (ChangeSpec.witness_shaped (enc:=enc) (C:=Tryz.checked) (os:=os) (X:=fun w _=>laidMetH Tryz.prog Rows.walOpensRow.laid w) false (World.doorLaid Tryz.prog 400 os) #[.slice none 0 0,.int .i64 0,.int .i64 0] 8 rfl (World.shaped_of_RefB (by kernel_rfl) (by kernel_rfl)) (by kernel_rfl) (by kernel_rfl) (by kernel_rfl) (opens_door os _)) ?_
 intro W base args ds gs before hval0 hW _ _ hL _
 have hval:∀ (j:Nat) t v,Tryz.f3.params[j]? =some t→args[j]? =some v→Value.okWide Tryz.prog W .any base t v:=hval0
 have hW':=hW
 obtain ⟨p,q,hA0,hV,rfl,hfz,hnd⟩:=hW
 have hA:DataW.TrodAll enc Tryz.prog W 0 (fun _=>true) true Tryz.f3.params.toList args.toList ds p:=hA0
 rw [Tryz.params3] at hA hval
 obtain ⟨v0,vs0,d0,ds0,p0,q0,hargs,rfl,rfl,h0,r0⟩:=trodAll_cons hA
 obtain ⟨v1,vs1,d1,ds1,p1,q1,rfl,rfl,rfl,h1,r1⟩:=trodAll_cons r0
 obtain ⟨v2,vs2,d2,ds2,p2,q2,rfl,rfl,rfl,h2,r2⟩:=trodAll_cons r1
 obtain ⟨rfl,rfl,rfl⟩:=trodAll_nil r2
 obtain rfl:args=#[v0,v1,v2]:=by cases args;simp_all
 obtain ⟨rfl,rfl⟩:=trodVars_none hV
 have lt0:∀ x∈p0,x.block<W.heap.size:=by obtain ⟨m,hm⟩:=h0;exact DataW.trod_lt m _ _ _ hm
 have lt1:∀ x∈p1,x.block<W.heap.size:=by obtain ⟨m,hm⟩:=h1;exact DataW.trod_lt m _ _ _ hm
 have lt2:∀ x∈p2,x.block<W.heap.size:=by obtain ⟨m,hm⟩:=h2;exact DataW.trod_lt m _ _ _ hm
 have k0:=h0
 have k1:=h1
 have k2:=h2
 obtain ⟨s0,es0,rfl,hr0⟩:=files_in (hval 0 22 v0 rfl rfl) h0
 obtain ⟨a1,rfl,_,_,w1⟩:=open_int Tryz.underlying3 (hval 1 3 v1 rfl rfl) h1
 obtain ⟨a2,rfl,_,_,w2⟩:=open_int Tryz.underlying3 (hval 2 3 v2 rfl rfl) h2
 clear hA0 hval0
 refine (opens_lspec hr0 (wf_bd w2).2 (pow_laid (show laidMet Tryz.prog Rows.walOpensRow.laid W from hL)) (Sat.start W)).use fun v W' ⟨hv,hs⟩=>?_
 subst hv
 have bel:=below_of hs
 exact ⟨_,rfl,_,_,_,[],_,[],hW',trodAll_mk1 (shut_bool Tryz.underlying4 _),(trodAll_cons_mk (Below.trod opens_laidOut (by kernel_rfl) (of_decide_eq_true (by kernel_rfl)) k0 bel lt0) (trodAll_cons_mk (Below.trod opens_laidOut (by kernel_rfl) (of_decide_eq_true (by kernel_rfl)) k1 bel lt1) (trodAll_cons_mk (Below.trod opens_laidOut (by kernel_rfl) (of_decide_eq_true (by kernel_rfl)) k2 bel lt2) trodAll_mk0))),rfl,bel.frame _,fun h=>by cases h⟩
theorem opens_facts:joinedFacts Tryz.prog 3 Tryz.f3 Rows.walOpensSpec Rows.walOpensRow=true:=by kernel_rfl
theorem opens_named:Tryz.prog.funcNamed Rows.walOpensRow.func=some 3:=by kernel_rfl
theorem opens_holds:Rows.WalOpensSaid:=
 OpenClaim.holds_of_wide 3 Tryz.f3 rfl rfl rfl rfl rfl rfl rfl ⟨rfl,rfl,rfl,rfl,rfl⟩ rfl rfl rfl rfl rfl opens_named Tryz.func3 opens_facts
  (of_decide_eq_true (by kernel_rfl)) (by unfold Func.isWrapper;first|(rw [if_pos (by decide +kernel)];kernel_rfl)|(rw [if_neg (by decide +kernel)];exact ⟨rfl,rfl⟩))
  (fun os started H enc _=>opens_lifted os started H enc)
theorem opens_card:Rows.WalOpensCardSaid:=
 Claim7.holds_tied_plain_at .later [] [.data, .data, .data, .sentinel, .sentinel] true (true, "c7f536d0f4bf2d116850f0dd5728a9626e01ad0d2a18b651dcd333cbea065072") true
  opens_holds (fun _ h=>by cases h) (by kernel_rfl) (fun _ h=>by cases h) walOpens_row_tie rfl ⟨rfl,rfl⟩ (by kernel_rfl) rfl
  (fun f fn hf hfn=>by
   obtain rfl : f = 3 := Option.some.inj ((show Tryz.prog.funcNamed "jetway/jetwaylaw06.WalOpens" = some 3 by kernel_rfl).symm.trans hf) |>.symm
   obtain rfl:fn=Tryz.f3:=(Option.some.inj (Tryz.func3.symm.trans hfn)).symm
   exact ⟨by kernel_rfl,fun j t ht=>by
    rw [Tryz.params3] at ht
    have hm:t∈[22,3,3]:=by simpa using Array.mem_of_getElem? ht
    have hall:([22,3,3].all fun u=>!Tryz.prog.wantsStandIn u)=true:=by kernel_rfl
    exact (show Tryz.prog.wantsStandIn t=false by simpa using List.all_eq_true.1 hall t hm)⟩)
  (by kernel_rfl)
#print axioms opens_card
end Go.Proofs.YtkfedbncmfnpnaaGreatDoor
