/- RaftAloneSaid: for every input the law returns true, and each argument reads as it did. No condition. -/
import Derived.Test.YthpmfnffkjjlnaaGreatB4
import Derived.Test.YthpmfnffkjjlnaaGreatRows
namespace Go.Proofs.YthpmfnffkjjlnaaGreat
set_option linter.unusedVariables false
set_option linter.unusedSimpArgs false
open Go Go.VC Go.ChangeShapes Go.WideShapes Go.ChangeAt Go.RowKit
theorem alone_own:ownKnob Tryz.prog.godebug=none:=by kernel_rfl
theorem alone_laidOut:laidOutB Tryz.prog=true:=by kernel_rfl
set_option maxRecDepth 100000 in
theorem alone_lifted (os:Os) (started:os.Started) (H:Type) (enc:TypeId × Value→H):
  ReturnsInHanded {} Tryz.checked os 3 .any (Rows.raftAloneSpec.pre6 enc Tryz.prog Tryz.f3 Rows.raftAloneRow.domain false) (Rows.raftAloneSpec.post enc Tryz.prog Tryz.f3 false true false false):=by
 refine returnsInHanded_of_change (C:=Tryz.checked) alone_own started (by kernel_rfl) Tryz.func3
  (ChangeSpec.witness6 (enc:=enc) (C:=Tryz.checked) false ⟨#[],#[.slice none 0 0,.int .i64 0],[]⟩ 8 (by kernel_rfl) (by kernel_rfl) (by kernel_rfl) (by kernel_rfl)) ?_
 intro W base args ds gs before hval0 hW hcnd _
 have hval:∀ (j:Nat) t v,Tryz.f3.params[j]? =some t→args[j]? =some v→Value.okWide Tryz.prog W .any base t v:=hval0
 have hW':=hW
 obtain ⟨p,q,hA0,hV,rfl,hfz,hnd⟩:=hW
 have hA:DataW.TrodAll enc Tryz.prog W 0 (fun _=>true) true Tryz.f3.params.toList args.toList ds p:=hA0
 rw [Tryz.params3] at hA hval
 obtain ⟨v0,vs0,d0,ds0,p0,q0,hargs,rfl,rfl,h0,r0⟩:=trodAll_cons hA
 obtain ⟨v1,vs1,d1,ds1,p1,q1,rfl,rfl,rfl,h1,r1⟩:=trodAll_cons r0
 obtain ⟨rfl,rfl,rfl⟩:=trodAll_nil r1
 obtain rfl:args=#[v0,v1]:=by cases args;simp_all
 obtain ⟨rfl,rfl⟩:=trodVars_none hV
 have lt0:∀ x∈p0,x.block<W.heap.size:=by obtain ⟨m,hm⟩:=h0;exact DataW.trod_lt m _ _ _ hm
 have lt1:∀ x∈p1,x.block<W.heap.size:=by obtain ⟨m,hm⟩:=h1;exact DataW.trod_lt m _ _ _ hm
 have k0:=h0
 have k1:=h1
 obtain ⟨m0,ps0',rfl,hp0⟩:=piecesR_in (hval 0 22 v0 rfl rfl) h0
 obtain ⟨a1,rfl,_,_,w1⟩:=open_int Tryz.underlying3 (hval 1 3 v1 rfl rfl) h1
 clear hA0 hval0
 refine (alone_lspec hp0 (Sat.start W)).use fun v W' ⟨hv,hs⟩=>?_
 subst hv
 have bel:=below_of hs
 exact ⟨_,rfl,_,_,_,[],_,[],hW',trodAll_mk1 (shut_bool Tryz.underlying4 _),(trodAll_cons_mk (Below.trod alone_laidOut (by kernel_rfl) (of_decide_eq_true (by kernel_rfl)) k0 bel lt0) (trodAll_cons_mk (Below.trod alone_laidOut (by kernel_rfl) (of_decide_eq_true (by kernel_rfl)) k1 bel lt1) trodAll_mk0)),rfl,bel.frame _,fun h=>by cases h⟩
theorem alone_facts:joinedFacts Tryz.prog 3 Tryz.f3 Rows.raftAloneSpec Rows.raftAloneRow=true:=by kernel_rfl
theorem alone_named:Tryz.prog.funcNamed Rows.raftAloneRow.func=some 3:=by kernel_rfl
theorem alone_holds:Rows.RaftAloneSaid:=
 OpenClaim.holds_of_wide 3 Tryz.f3 rfl rfl rfl rfl rfl rfl rfl ⟨rfl,rfl,rfl,rfl,rfl⟩ rfl rfl rfl rfl rfl alone_named Tryz.func3 alone_facts
  (of_decide_eq_true (by kernel_rfl)) (by unfold Func.isWrapper;first|(rw [if_pos (by decide +kernel)];kernel_rfl)|(rw [if_neg (by decide +kernel)];exact ⟨rfl,rfl⟩))
  (fun os started H enc _=>alone_lifted os started H enc)
#print axioms alone_holds
end Go.Proofs.YthpmfnffkjjlnaaGreat
