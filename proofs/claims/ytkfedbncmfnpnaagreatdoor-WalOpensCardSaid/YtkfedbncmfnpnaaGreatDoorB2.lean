/- VY, part 1: regions and code inside the wide fence, in a round or out of one, with calls of 'yield'. (Made by mkvy.py out of JwVc6, JwVc7.) No condition. -/
import Derived.Test.YtkfedbncmfnpnaaGreatDoorB1
import Derived.TacticsIn
import Derived.OrdersIn
import Derived.RangeFuncSeq
import Derived.Deep.AppendSrc
import Derived.Deep.DeepAppendWide
import Derived.Laws.AppendOwn
import Derived.Laws.IdiomCopy
import Derived.Sort.Grow
import Derived.Lib.SliceRun
import GoSem.Instr.MapUpdate
import GoSem.Builtin.Delete
import Derived.MapKept
import Derived.Lib.ConvBytes
import Derived.Laws.BytesArg
import Derived.Laws.Strings
import Derived.Below
import Derived.Sort.KeysCollected
import Derived.Maps.Own
import Derived.Laws.BitsAllLaws
import Derived.Lib.AppendZeros
import Derived.RangeFuncLeaves
namespace Go.VC
set_option linter.unusedVariables false
set_option linter.unusedSimpArgs false
def wf (r:Option Nat):Fence:={ Fence.wide with round:=r }
theorem wf_fn (r:Option Nat) (f:FuncId):(wf r).fn f:=trivial
def noDef (o:Oper):Bool:=match o.op with| .defer _=>false|_=>true
theorem semAt_y {r:Option Nat} {ρ:Operand→Value} {o:Oper} (h:noDef o=true):o.semAt (wf r).round ρ=execOp ρ o:=
 Oper.semAt_eq _ ρ o fun c hc=>by unfold noDef at h;rw [hc] at h;cases h
theorem calls_y {r:Option Nat} {n:Nat} {P:Program} {f:FuncId} {args:Array Value} {w:World} {R:Ending→World→Prop} (h:Calls P f args w R):CallsIn (wf r) n P f args w R:=
 (callsIn_wide (n:=n)).2 h
theorem rows_y {r:Option Nat} {n:Nat} {P:Program} {row:String} {args:Array Value} {w:World} {R:Value→World→Prop} (h:Rows P row args w R):RowsIn (wf r) n P row args w R:=
 fun c cs _=>let ⟨v,w',hr,s⟩:=h c cs;⟨v,w',hr,stepsIn_wide.2 s⟩
theorem upon_y {r:Option Nat} {n:Nat} {P:Program} {o:Oper} {a:Act} {next:Act→World→Prop} {Q:Exit→Act→World→Prop} {res:Result Next} (h:o.upon P a next Q res):o.uponIn (wf r) n P a next Q res:=by
 cases res with
 |ok x w'=>
  cases x<;>simp only [Oper.upon] at h<;>simp only [Oper.uponIn]<;>
   first
    |exact h
    |exact ⟨(fun h=>by cases h),calls_y h⟩
    |exact ⟨(fun h=>by cases h),rows_y h⟩
 |halt x w'=>cases x<;>simp only [Oper.upon] at h<;>simp only [Oper.uponIn]<;>exact h
theorem YieldsIf.wpOpY {r:Option Nat} {nn:Nat} {P:Program} {ops:Array Oper} {Q:Exit→Act→World→Prop} {S:World→Prop} {i:Nat} {o:Oper} {v:Value} {a:Act} (hnd:noDef o=true) (hi:ops[i]? =some o) (hy:YieldsIf P ops S o v a)
  {K:Act→World→Prop} {w:World} (hS:S w) (h:K (a.put o.dst v) w):wpOpIn (wf r) nn P ops Q i K a w:=by
 unfold Go.wpOpIn
 simp only [hi]
 rcases hy with ⟨hw,hv⟩|⟨hw,rfl⟩
 ·simp only [hw,if_true,Oper.wpIn,semAt_y hnd,hv w hS,Oper.uponIn];exact ⟨fun f _=>wf_fn r f,h⟩
 ·simp only [hw,Bool.false_eq_true,if_false];exact ⟨fun f _=>wf_fn r f,h⟩
theorem wpOpIn_putIf {r:Option Nat} {nn:Nat} {P:Program} {ops:Array Oper} {Q:Exit→Act→World→Prop} {S:World→Prop} {j:Nat} {oi oj:Oper} {v:Value} (hnd:noDef oj=true) (hj:ops[j]? =some oj) (hap:oi.apart ops oj=true)
  (hsi:∀ cs b,oi.op≠.select cs b) (hsj:∀ cs b,oj.op≠.select cs b)
  (hQ:∀ c a w,Q (.panic c) (a.put oi.dst v) w→Q (.panic c) a w) {K:Act→World→Prop} {a:Act} {w:World}
  (hy:YieldsIf P ops S oi v a) (h:wpOpIn (wf r) nn P ops Q j K (a.put oi.dst v) w):
  wpOpIn (wf r) nn P ops Q j (fun a' w'=>YieldsIf P ops S oi v a'∧K (a'.put oi.dst v) w') a w:=by
 obtain ⟨h1,h2,h3⟩:=Oper.apart_spec hap
 have keep:∀ (a:Act),YieldsIf P ops S oi v a→∀ u,YieldsIf P ops S oi v (a.put oj.dst u):=fun a hy u=>
  hy.of_same (execOp_put oi hsi a oj.dst u h3) (wanted_put oi a oj.dst u h3)
 have keepD:∀ d,YieldsIf P ops S oi v { a with defers:=d::a.defers }:=fun d=>hy.of_same rfl rfl
 unfold wpOpIn at *
 simp only [hj] at *
 rw [wanted_put oj a oi.dst v h1] at h
 split
 ·rename_i hw
  simp only [hw,if_true] at h
  unfold Oper.wpIn at *
  refine ⟨fun f _=>wf_fn r f,?_⟩
  have h:=h.2
  rw [semAt_y hnd,execOp_put oj hsj a oi.dst v h1] at h
  rw [semAt_y hnd]
  generalize (execOp a.eval oj).run P w=res at *
  cases res with
  |ok x w'=>
   cases x<;>simp only [Oper.uponIn] at h ⊢
   case value u=>exact ⟨keep a hy u,by rw [←Act.put_comm a v u h2];exact h⟩
   case skip=>exact ⟨keep a hy _,by rw [←Act.put_comm a v undef h2];exact h⟩
   case defer d=>
    refine ⟨keep _ (keepD d) _,?_⟩
    rw [←Act.put_comm _ v undef h2,←Act.put_defers]
    exact h
   case enter f args=>
    refine ⟨h.1,CallsIn.mono h.2 fun e w'' he=>?_⟩
    cases e with
    |returned u=>exact ⟨keep a hy u,by rw [←Act.put_comm a v u h2];exact he⟩
    |panicked c=>exact hQ _ _ _ he
    |outgrown=>exact he
   case row row args=>exact ⟨h.1,RowsIn.mono h.2 fun u w'' he=>⟨keep a hy u,by rw [←Act.put_comm a v u h2];exact he⟩⟩
   case round l f tmps assign body=>
    refine ⟨h.1,RoundIn.mono h.2 fun e w'' he=>?_⟩
    cases e with
    |returned u=>exact ⟨keep a hy u,by rw [←Act.put_comm a v u h2];exact he⟩
    |panicked c=>exact hQ _ _ _ he
    |outgrown=>exact he
  |halt x w'=>
   cases x<;>simp only [Oper.uponIn] at h ⊢
   case panic u=>exact hQ _ _ _ h
 ·rename_i hw
  simp only [hw] at h
  exact ⟨fun f _=>wf_fn r f,keep a hy _,by rw [←Act.put_comm a v undef h2];exact h.2⟩
section
variable {r:Option Nat} {nn:Nat} {P:Program} {ops:Array Oper} {Q:Exit→Act→World→Prop} {md:Region.Mode} {S:World→Prop} {need look:Nat→Bool}
def wpTy (r:Option Nat) (nn:Nat) (P:Program) (md:Region.Mode) (ops:Array Oper) (Q:Exit→Act→World→Prop) (S:World→Prop) (need look:Nat→Bool):Nat→Array Bool→Act→World→Prop
 |0,listed,a,w=>Region.ready md ops listed=[]∧Q .normal a w
 |fuel + 1,listed,a,w=>
  (Region.ready md ops listed=[]→Q .normal a w)∧
  ∀ i∈Region.ready md ops listed,wpOpIn (wf r) nn P ops Q i (fun a' w'=>((need i=true→S w')∧(look i=true→w'=w))∧wpTy r nn P md ops Q S need look fuel (listed.setIfInBounds i true) a' w') a w
theorem wpTy_any:∀ (fuel:Nat) (listed:Array Bool) (a:Act) (w:World),wpTy r nn P md ops Q S need look fuel listed a w→wpAnyIn (wf r) nn P md ops Q fuel listed a w
 |0,_,_,_,h=>h
 |fuel + 1,_,_,_,h=>⟨h.1,fun i hi=>wpOpIn_mono (fun a' w' h'=>wpTy_any fuel _ a' w' h'.2) (h.2 i hi)⟩
theorem wpTy_first {T:World→Prop} {i:Nat} {oi:Oper} {v:Value} (hi:ops[i]? =some oi) (hsel:∀ (j:Nat) (o:Oper) cs b,ops[j]? =some o→o.op≠.select cs b)
  (hQ:∀ c a w,Q (.panic c) (a.put oi.dst v) w→Q (.panic c) a w) (hni:need i=false) (hnd:∀ (j:Nat) (o:Oper),ops[j]? =some o→noDef o=true):
  ∀ (fuel:Nat) (listed:Array Bool) (a:Act) (w:World),
   (∀ j oj,ops[j]? =some oj→j≠i→listed.getD j true=false→(∀ e∈oj.after,Region.binds md e=true→e.on≠i)→
    oi.apart ops oj=true∧∀ w w',T w→(need j=true→S w')→(look j=true→w'=w)→T w')→
   i∈Region.ready md ops listed→YieldsIf P ops T oi v a→T w→
   wpTy r nn P md ops Q S need look fuel (listed.setIfInBounds i true) (a.put oi.dst v) w→wpTy r nn P md ops Q S need look (fuel + 1) listed a w:=by
 intro fuel
 induction fuel with
 |zero=>
  intro listed a w hfree hr hy hT H
  refine ⟨fun h=>(by rw [h] at hr;cases hr),fun j hj=>?_⟩
  by_cases hji:j=i
  ·subst hji
   exact YieldsIf.wpOpY (hnd _ _ hi) hi hy hT ⟨⟨fun h=>(by rw [hni] at h;cases h),fun _=>rfl⟩,H⟩
  ·have:=ready_mono hj hji
   rw [H.1] at this
   cases this
 |succ fuel ih=>
  intro listed a w hfree hr hy hT H
  refine ⟨fun h=>(by rw [h] at hr;cases hr),fun j hj=>?_⟩
  by_cases hji:j=i
  ·subst hji
   exact YieldsIf.wpOpY (hnd _ _ hi) hi hy hT ⟨⟨fun h=>(by rw [hni] at h;cases h),fun _=>rfl⟩,H⟩
  ·have h1:=H.2 j (ready_mono hj hji)
   obtain ⟨hjun,oj,hoj,hall⟩:=mem_ready.1 hj
   have hnot:∀ e∈oj.after,Region.binds md e=true→e.on≠i:=fun e he hb heq=>by
    have h1:=hall e he hb
    have h0:=(mem_ready.1 hr).1
    rw [heq] at h1
    rcases Nat.lt_or_ge i listed.size with h'|h'
    ·simp [h'] at h0 h1;rw [h0] at h1;cases h1
    ·simp [Array.getElem?_eq_none h'] at h1
   obtain ⟨hap,hkeep⟩:=hfree j oj hoj hji hjun hnot
   have h2:=wpOpIn_putIf (hnd _ _ hoj) hoj hap (fun cs b=>hsel i oi cs b hi) (fun cs b=>hsel j oj cs b hoj) hQ hy h1
   refine wpOpIn_mono (fun a' w' h3=>⟨h3.2.1,ih (listed.setIfInBounds j true) a' w' ?_ (ready_mono hr (Ne.symm hji)) h3.1 (hkeep w w' hT h3.2.1.1 h3.2.1.2) ?_⟩) h2
   ·intro k ok hk hki hun hno
    refine hfree k ok hk hki ?_ hno
    by_cases hjk:j=k
    ·subst hjk;exact hjun
    ·rw [getD_set_ne true hjk] at hun;exact hun
   ·rw [Array.setIfInBounds_comm _ _ hji]
    exact h3.2.2
end
def yieldOf (ρ:Env) (o:Oper):Option (Nat × List Value):=
 match o.op with
 | .call c=>(match c.callee with
  | .value f=>(match ρ.ev f with
   | .func fn first captured=>(match fn with
    | .yield l=>some (l,first.toList++(c.args.map ρ.ev).toList)
    |_=>none)
   |_=>none)
  |_=>none)
 |_=>none
abbrev YF:=Nat→List Value→World→(Ending→World→Prop)→Prop
def opFy (P:Program) (cl:FuncId→Bool) (Y:YF) (ρ:Env) (o:Oper) (K:Value→World→Prop) (w:World):Prop:=
 match yieldOf ρ o with
 |some (l,args)=>Y l args w fun e w'=>(rtOf P o.type).ex fun v=>e=.returned v∧K v w'
 |none=>opF P cl ρ o K w
theorem opFy_sound {P:Program} {cl:FuncId→Bool} {r:Option Nat} {nn:Nat} (hcl:∀ g,cl g=true→callable P g=true) {a:Act} {e:Env} {o:Oper} {K:Value→World→Prop} {w:World} {Y:YF} (hY:∀ l args w Q,Y l args w Q→YieldAt (wf r) (nn - 1) P l args.toArray w Q)
  {Q:Exit→Act→World→Prop} (hok:opOk P o.op=true) (h:opFy P cl Y e o K w):o.uponIn (wf r) nn P a (After a o.dst K) Q ((execOp e.ev o).run P w):=by
 unfold opFy at h
 split at h
 ·rename_i l args hy
  unfold yieldOf at hy
  obtain ⟨dst,op,ty,pos,after,guard⟩:=o
  dsimp only at hy h
  split at hy
  case h_2=>cases hy
  rename_i c
  obtain ⟨callee,cargs,ats⟩:=c
  dsimp only at hy
  split at hy
  case h_2=>cases hy
  rename_i f
  split at hy
  case h_2=>cases hy
  rename_i fn first captured hf
  split at hy
  case h_2=>cases hy
  rename_i l'
  simp only [Option.some.injEq,Prod.mk.injEq] at hy
  obtain ⟨rfl,rfl⟩:=hy
  obtain ⟨fn,tmps,assign,body,hrun,hround⟩:=hY _ _ _ _ h
  have hargs:first++cargs.map e.ev=(first.toList++(cargs.map e.ev).toList).toArray:=by
   apply Array.ext';simp
  have:(execOp e.ev ⟨dst,.call ⟨.value f,cargs,ats⟩,ty,pos,after,guard⟩).run P w=.ok (.round l' fn tmps assign body) w:=by
   simp only [execOp,resolve,hf,Deferred.ofValue]
   simp only [Sem.run_bind,Sem.run_pure,Result.andThen_ok,invoke,hargs]
   exact hrun
  rw [this]
  refine ⟨fun h=>(by cases h),RoundIn.mono hround ?_⟩
  rintro en w' hx
  obtain ⟨v,rfl,hK⟩:=Rt.ex_some hx
  exact ⟨v,rfl,hK⟩
 ·exact upon_y (opF_sound hcl hok h)
def opsFy (P:Program) (cl:FuncId→Bool) (Y:YF) (ops:Array Oper):List Oper→Env→(Env→World→Prop)→World→Prop
 |[],ρ,K,w=>K ρ w
 |o::rest,ρ,K,w=>guardF ops ρ o
   (fun ρ=>opFy P cl Y ρ o (fun v w=>opsFy P cl Y ops rest (ρ.put o.dst v) K w) w)
   (fun ρ=>opsFy P cl Y ops rest (ρ.put o.dst undef) K w)
def anyFy (P:Program) (cl:FuncId→Bool) (Y:YF) (ops:Array Oper) (S:World→Prop):Nat→Bool→Array Bool→Env→(Env→World→Prop)→World→Prop
 |0,_,listed,ρ,K,w=>(match Region.ready .any ops listed with
  |[]=>K ρ w
  |_=>False)
 |fuel + 1,hs,listed,ρ,K,w=>(match Region.ready .any ops listed with
  |[]=>K ρ w
  |r::rs=>(match pickF P ops listed (r::rs) with
   |some i=>(match ops[i]? with
    |some o=>guardF ops ρ o
      (fun ρ=>seeF P S hs ρ o fun v=>anyFy P cl Y ops S fuel hs (listed.setIfInBounds i true) (ρ.put o.dst v) K w)
      (fun ρ=>anyFy P cl Y ops S fuel hs (listed.setIfInBounds i true) (ρ.put o.dst undef) K w)
    |none=>False)
   |none=>allF (fun i=>match ops[i]? with
    |some o=>guardF ops ρ o
      (fun ρ=>(match isPure P o.op||isRead P o.op with
       |true=>False
       |false=>match needs P ops i with
       |true=>opFy P cl Y ρ o (fun v w=>S w∧anyFy P cl Y ops S fuel hs (listed.setIfInBounds i true) (ρ.put o.dst v) K w) w
       |false=>opFy P cl Y ρ o (fun v w=>anyFy P cl Y ops S fuel false (listed.setIfInBounds i true) (ρ.put o.dst v) K w) w))
      (fun ρ=>(match isPure P o.op||isRead P o.op with
       |true=>False
       |false=>match needs P ops i with
       |true=>(match hs with
        |true=>anyFy P cl Y ops S fuel true (listed.setIfInBounds i true) (ρ.put o.dst undef) K w
        |false=>False)
       |false=>anyFy P cl Y ops S fuel false (listed.setIfInBounds i true) (ρ.put o.dst undef) K w))
    |none=>False) (r::rs)))
section
variable {r:Option Nat} {nn:Nat} {Y:YF} {P:Program} {cl:FuncId→Bool} {ops:Array Oper} {Q:Exit→Act→World→Prop} {n:Nat} {pw:Nat→Bool} {a0:Env}
theorem opsFy_sound (hcl:∀ g,cl g=true→callable P g=true) (hY:∀ l args w Q,Y l args w Q→YieldAt (wf r) (nn - 1) P l args.toArray w Q) {K:Env→World→Prop}
  (hQ:∀ a w,Kept n pw a0 a→K a.env w→Q .normal a w):∀ (l:List Oper) (_:∀ o∈l,opOk P o.op=true∧dstIn n pw o=true∧noDef o=true) (a:Act) (w:World),
   Kept n pw a0 a→opsFy P cl Y ops l a.env K w→wpListIn (wf r) nn P ops Q l a w
 |[],_,a,w,hk,h=>hQ a w hk h
 |o::rest,hl,a,w,hk,h=>by
  have ho:=hl o (List.mem_cons_self ..)
  have hrest:=fun x hx=>hl x (List.mem_cons_of_mem _ hx)
  unfold opsFy at h
  unfold wpListIn
  rcases guardF_sound h with ⟨hw,h⟩|⟨hw,h⟩
  ·rw [if_pos hw]
   refine ⟨fun f _=>wf_fn r f,?_⟩
   have:=opFy_sound hcl (nn:=nn) (r:=r) (a:=a) (Q:=Q) hY ho.1 h
   rw [env_ev] at this
   rw [semAt_y ho.2.2]
   refine upon_mono ?_ this
   rintro a' w' ⟨v,rfl,hv⟩
   refine opsFy_sound hcl hY hQ rest hrest _ w' (hk.put ho.2.1 v) ?_
   rw [hk.envput ho.2.1];exact hv
  ·rw [hw]
   simp only [Bool.false_eq_true,if_false]
   refine ⟨fun f _=>wf_fn r f,?_⟩
   refine opsFy_sound hcl hY hQ rest hrest _ w (hk.put ho.2.1 _) ?_
   rw [hk.envput ho.2.1];exact h
where
 upon_mono {o:Oper} {a:Act} {K K':Act→World→Prop} {res:Result Next} (h:∀ a w,K a w→K' a w) (hh:o.uponIn (wf r) nn P a K Q res):o.uponIn (wf r) nn P a K' Q res:=by
  cases res with
  |ok x w'=>
   cases x<;>simp only [Oper.uponIn] at hh ⊢<;>
    first
     |exact h _ _ hh
     |exact ⟨hh.1,CallsIn.mono hh.2 (fun e w'' he=>by cases e<;>first|exact h _ _ he|exact he)⟩
     |exact ⟨hh.1,RowsIn.mono hh.2 (fun _ _ he=>h _ _ he)⟩
     |exact ⟨hh.1,RoundIn.mono hh.2 (fun e w'' he=>by cases e<;>first|exact h _ _ he|exact he)⟩
  |halt x w'=>cases x<;>simp only [Oper.uponIn] at hh ⊢<;>exact hh
theorem wpOpY_of {i:Nat} {o:Oper} {a:Act} {w:World} {K:Act→World→Prop} (hnd:noDef o=true) (hi:ops[i]? =some o)
  (h:(Region.wanted o (yielded ops a.tmps)=true∧o.uponIn (wf r) nn P a K Q ((execOp a.eval o).run P w))∨(Region.wanted o (yielded ops a.tmps)=false∧K (a.put o.dst undef) w)):wpOpIn (wf r) nn P ops Q i K a w:=by
 unfold wpOpIn
 rw [hi]
 rcases h with ⟨hw,h⟩|⟨hw,h⟩
 ·simp only [hw,if_true]
  exact ⟨fun f _=>wf_fn r f,by rw [semAt_y hnd];exact h⟩
 ·simp only [hw,Bool.false_eq_true,if_false];exact ⟨fun f _=>wf_fn r f,h⟩
theorem anyFy_sound (hcl:∀ g,cl g=true→callable P g=true) (hY:∀ l args w Q,Y l args w Q→YieldAt (wf r) (nn - 1) P l args.toArray w Q) (hsel:Region.noSelect ops=true) {K:Env→World→Prop} {S:World→Prop}
  (hQ:∀ a w,Kept n pw a0 a→K a.env w→Q .normal a w) (hQp:∀ c a w,¬ Q (.panic c) a w) (hops:∀ (i:Nat) (o:Oper),ops[i]? =some o→opOk P o.op=true∧dstIn n pw o=true∧noDef o=true):
  ∀ (fuel:Nat) (hs:Bool) (listed:Array Bool) (a:Act) (w:World),Kept n pw a0 a→(hs=true→S w)→anyFy P cl Y ops S fuel hs listed a.env K w→
   wpTy r nn P .any ops Q S (needs P ops) (looks P ops) fuel listed a w:=by
 intro fuel
 induction fuel with
 |zero=>
  intro hs listed a w hk hS h
  unfold anyFy at h
  split at h
  ·rename_i hr;exact ⟨hr,hQ a w hk h⟩
  ·exact h.elim
 |succ fuel ih=>
  intro hs listed a w hk hS h
  unfold anyFy at h
  split at h
  ·rename_i hr
   exact ⟨fun _=>hQ a w hk h,fun i hi=>by rw [hr] at hi;cases hi⟩
  ·rename_i r rs hr
   split at h
   ·rename_i i hp
    obtain ⟨hmem,o,ho,hpr,hfree⟩:=pickF_some hp
    rw [ho] at h
    simp only at h
    obtain ⟨hok,hd,hnd⟩:=hops i o ho
    have hni:needs P ops i=false:=by
     unfold needs;rw [ho]
     simp only
     rcases Bool.or_eq_true _ _|>.mp hpr with hp|hp<;>simp [hp]
    have hrdy:i∈Region.ready .any ops listed:=by rw [hr];exact hmem
    have hfs:=Region.free_spec (md:=.any) ho hfree
    have hself:=Region.noSelect_spec hsel
    rcases guardF_sound h with ⟨hw,h⟩|⟨hw,h⟩
    ·rcases seeF_sound hok hpr h with ⟨hp,v,hv,hK⟩|⟨hp,hhs,v,hv,hK⟩
     ·refine wpTy_first (T:=fun _=>True) ho hself (fun c a w hc=>absurd hc (hQp c _ w)) hni (fun j o ho=>(hops j o ho).2.2) fuel listed a w (fun j oj hj hne hun hno=>⟨hfs j oj hj hne hun hno,fun _ _ _ _ _=>trivial⟩) hrdy (.inl ⟨hw,?_⟩) trivial
       (ih hs (listed.setIfInBounds i true) (a.put o.dst v) w (hk.put hd v) hS ?_)
      ·rw [←env_ev];exact hv
      ·rw [hk.envput hd];exact hK
     ·have hri:isRead P o.op=true:=by rw [hp] at hpr;simpa using hpr
      refine wpTy_first (T:=S) ho hself (fun c a w hc=>absurd hc (hQp c _ w)) hni (fun j o ho=>(hops j o ho).2.2) fuel listed a w (fun j oj hj hne hun hno=>⟨hfs j oj hj hne hun hno,fun w w' hw hneed hlook=>?_⟩) hrdy (.inl ⟨hw,?_⟩) (hS hhs)
       (ih hs (listed.setIfInBounds i true) (a.put o.dst v) w (hk.put hd v) hS ?_)
      ·cases hl:(isPure P oj.op||isRead P oj.op) with
       |true=>have:=hlook (by unfold looks;rw [hj];exact hl);rw [this];exact hw
       |false=>exact hneed (needs_of ho hj hri hl hno)
      ·rw [←env_ev];exact hv
      ·rw [hk.envput hd];exact hK
    ·refine wpTy_first (T:=fun _=>True) ho hself (fun c a w hc=>absurd hc (hQp c _ w)) hni (fun j o ho=>(hops j o ho).2.2) fuel listed a w (fun j oj hj hne hun hno=>⟨hfs j oj hj hne hun hno,fun _ _ _ _ _=>trivial⟩) hrdy (.inr ⟨hw,rfl⟩) trivial
       (ih hs (listed.setIfInBounds i true) (a.put o.dst undef) w (hk.put hd _) hS ?_)
     rw [hk.envput hd];exact h
   ·refine ⟨fun h0=>absurd (hr ▸ h0) (by simp),fun i hi=>?_⟩
    rw [hr] at hi
    have h:=allF_mem h i hi
    split at h
    case h_2=>exact h.elim
    rename_i o ho
    obtain ⟨hok,hd,hnd⟩:=hops i o ho
    refine wpOpY_of hnd ho ?_
    rcases guardF_sound h with ⟨hw,h⟩|⟨hw,h⟩
    ·refine .inl ⟨hw,?_⟩
     split at h
     ·exact h.elim
     ·rename_i hl
      have hlk:looks P ops i=false:=by unfold looks;rw [ho];exact hl
      split at h
      ·rename_i hnd
       have:=opFy_sound hcl (nn:=nn) (r:=r) (a:=a) (Q:=Q) hY hok h
       rw [env_ev] at this
       refine opsFy_sound.upon_mono ?_ this
       rintro a' w' ⟨v,rfl,hSw,hK⟩
       refine ⟨⟨fun _=>hSw,fun hh=>(by rw [hlk] at hh;cases hh)⟩,ih hs _ _ w' (hk.put hd v) (fun _=>hSw) ?_⟩
       rw [hk.envput hd];exact hK
      ·rename_i hnd
       have:=opFy_sound hcl (nn:=nn) (r:=r) (a:=a) (Q:=Q) hY hok h
       rw [env_ev] at this
       refine opsFy_sound.upon_mono ?_ this
       rintro a' w' ⟨v,rfl,hK⟩
       refine ⟨⟨fun hh=>(by rw [hnd] at hh;cases hh),fun hh=>(by rw [hlk] at hh;cases hh)⟩,ih false _ _ w' (hk.put hd v) (fun hh=>by cases hh) ?_⟩
       rw [hk.envput hd];exact hK
    ·refine .inr ⟨hw,?_⟩
     split at h
     ·exact h.elim
     ·rename_i hl
      have hlk:looks P ops i=false:=by unfold looks;rw [ho];exact hl
      split at h
      ·split at h
       ·have hSw:=hS rfl
        refine ⟨⟨fun _=>hSw,fun _=>rfl⟩,ih true _ _ w (hk.put hd _) (fun _=>hSw) ?_⟩
        rw [hk.envput hd];exact h
       ·exact h.elim
      ·rename_i hnd
       refine ⟨⟨fun hh=>(by rw [hnd] at hh;cases hh),fun _=>rfl⟩,ih false _ _ w (hk.put hd _) (fun hh=>by cases hh) ?_⟩
       rw [hk.envput hd];exact h
end
def deny (P:Program) (cl:FuncId→Bool) (Y:YF):Code→Sk→Env→Cont→World→Prop
 | .skip,_,ρ,K,w=>K.nrm ρ w
 | .label _,_,ρ,K,w=>K.nrm ρ w
 | .region _ ops d,_,ρ,K,w=>(match d with
  |false=>opsFy P cl Y ops ops.toList ρ K.nrm w
  |true=>Drw w fun S w'=>anyFy P cl Y ops S ops.size true (Array.replicate ops.size false) ρ K.nrm w')
 | .seq a b,sk,ρ,K,w=>(match sk with
  | .cut ms ts W _ _=>cutF ts ms W ρ (fun k=>deny P cl Y a sk.l ρ { K with nrm:=k } w) (fun ρ' w'=>deny P cl Y b sk.r ρ' K w')
  |_=>deny P cl Y a sk.l ρ { K with nrm:=fun ρ' w'=>deny P cl Y b sk.r ρ' K w' } w)
 | .cond c a b,sk,ρ,K,w=>(match ρ.ev c with
  | .bool t=>Br t (deny P cl Y a sk.l ρ K w) (deny P cl Y b sk.r ρ K w)
  |_=>False)
 | .block id a,sk,ρ,K,w=>deny P cl Y a sk.l ρ { K with ex:=fun i=>match Nat.beq i id with|true=>K.nrm|false=>K.ex i } w
 | .loop a,sk,ρ,K,w=>(match sk with
  | .loop ms ts W _=>loopF ts ms W ρ (fun ρ' k w'=>deny P cl Y a sk.l ρ' { K with nrm:=k } w') w
  |_=>False)
 | .scope a,sk,ρ,K,w=>deny P cl Y a sk.l ρ K w
 | .exit id,_,ρ,K,w=>K.ex id ρ w
 | .ret,_,ρ,K,w=>K.ret ρ w
 |_,_,_,_,_=>False
def codeOky (P:Program) (n:Nat):Code→Bool
 | .region _ ops _=>Region.noSelect ops && ops.all fun o=>opOk P o.op && noDef o && (match o.dst with|some d=>Nat.blt d n|none=>true)
 | .seq a b| .cond _ a b=>codeOky P n a && codeOky P n b
 | .block _ a| .loop a=>codeOky P n a
 | .scope _=>false
 | .rangeFunc _ _ _ _=>false
 |_=>true
variable {r:Option Nat} {nn:Nat} {Y:YF} {P:Program} {cl:FuncId→Bool} {n:Nat}
theorem regiony_sound (hcl:∀ g,cl g=true→callable P g=true) (hY:∀ l args w Q,Y l args w Q→YieldAt (wf r) (nn - 1) P l args.toArray w Q) (hmix:P.follows .mixedOrders=true) {pw:Nat→Bool} {a0:Env} {id:Nat} {ops:Array Oper} {d:Bool}
  (hc:codeOky P n (.region id ops d)=true) (hw:wrIn pw (.region id ops d)=true) {sk:Sk} {K:Cont} {a:Act} {w:World} (hk:Kept n pw a0 a)
  (h:deny P cl Y (.region id ops d) sk a.env K w):(Code.region id ops d).wpIn (wf r) nn P (PK n pw a0 K) a w:=by
 simp only [codeOky,Bool.and_eq_true,Array.all_eq_true_iff_forall_mem] at hc
 simp only [wrIn,Array.all_eq_true_iff_forall_mem] at hw
 have hops:∀ o∈ops,opOk P o.op=true∧dstIn n pw o=true∧noDef o=true:=fun o ho=>by
  have h1:=hc.2 o ho
  have h2:=hw o ho
  refine ⟨h1.1.1,?_,h1.1.2⟩
  unfold dstIn
  cases hd:o.dst with
  |none=>rfl
  |some x=>rw [hd] at h1 h2;simp only [Bool.and_eq_true];exact ⟨h1.2,h2⟩
 unfold deny at h
 cases d with
 |false=>
  exact wpIn_region_list (opsFy_sound (Q:=PK n pw a0 K) hcl hY (fun a w hk h=>⟨hk,h⟩) ops.toList (fun o ho=>hops o (by simpa using ho)) a w hk h)
 |true=>
  obtain ⟨S0,S,hS,h⟩:=h
  obtain ⟨hS,h⟩:=h _ hS
  refine wpIn_region_any hmix (wpTy_any _ _ _ _ (anyFy_sound (Q:=PK n pw a0 K) hcl hY hc.1 (fun a w hk h=>⟨hk,h⟩) (fun _ _ _ h=>h) (fun i o ho=>hops o (Array.mem_of_getElem? ho)) _ _ _ _ _ hk (fun _=>hS) h))
theorem deny_sound (hcl:∀ g,cl g=true→callable P g=true) (hY:∀ l args w Q,Y l args w Q→YieldAt (wf r) (nn - 1) P l args.toArray w Q) (hmix:P.follows .mixedOrders=true):∀ (c:Code) (sk:Sk) (pw:Nat→Bool) (a0:Env),
  codeOky P n c=true→wrIn pw c=true→skOk c sk=true→∀ (a:Act) (K:Cont) (w:World),Kept n pw a0 a→deny P cl Y c sk a.env K w→c.wpIn (wf r) nn P (PK n pw a0 K) a w
 | .skip,sk,pw,a0,_,_,_,a,K,w,hk,h=>wpIn_skip ⟨hk,h⟩
 | .label _,sk,pw,a0,_,_,_,a,K,w,hk,h=>wpIn_label ⟨hk,h⟩
 | .exit _,sk,pw,a0,_,_,_,a,K,w,hk,h=>wpIn_exit ⟨hk,h⟩
 | .ret,sk,pw,a0,_,_,_,a,K,w,hk,h=>wpIn_ret ⟨hk,h⟩
 | .region id ops d,sk,pw,a0,hc,hw,_,a,K,w,hk,h=>regiony_sound hcl hY hmix hc hw hk h
 | .goto _,sk,pw,a0,_,_,_,a,K,w,hk,h=>h.elim
 | .refuse _,sk,pw,a0,_,_,_,a,K,w,hk,h=>h.elim
 | .rangeFunc _ _ _ _,sk,pw,a0,_,_,_,a,K,w,hk,h=>h.elim
 | .scope c,sk,pw,a0,hc,hw,hs,a,K,w,hk,h=>by cases hc
 | .block id c,sk,pw,a0,hc,hw,hs,a,K,w,hk,h=>by
  refine wpIn_block ?_
  refine Code.wpIn_mono ?_ (deny_sound hcl hY hmix c sk.l pw a0 hc hw hs a _ w hk h)
  intro e a w hq
  cases e with
  |exit i=>
   obtain ⟨hk,hq⟩:=hq
   show if i=id then _ else _
   by_cases hi:i=id
   ·subst hi
    rw [if_pos rfl]
    have:Nat.beq i i=true:=by simp
    simp only [this] at hq
    exact ⟨hk,hq⟩
   ·rw [if_neg hi]
    have:Nat.beq i id=false:=by
     cases hb:Nat.beq i id with
     |false=>rfl
     |true=>exact absurd (Nat.eq_of_beq_eq_true hb) hi
    simp only [this] at hq
    exact ⟨hk,hq⟩
  |normal=>exact hq
  |ret=>exact hq
  |_=>exact hq.elim
 | .cond c x y,sk,pw,a0,hc,hw,hs,a,K,w,hk,h=>by
  simp only [codeOky,wrIn,skOk,Bool.and_eq_true] at hc hw hs
  unfold deny at h
  split at h
  ·rename_i t ht
   rw [env_ev] at ht
   refine wpIn_cond_split ht (fun hb=>?_) (fun hb=>?_)
   ·subst hb;exact deny_sound hcl hY hmix x sk.l pw a0 hc.1 hw.1 hs.1 a K w hk h
   ·subst hb;exact deny_sound hcl hY hmix y sk.r pw a0 hc.2 hw.2 hs.2 a K w hk h
  ·exact h.elim
 | .seq x y,sk,pw,a0,hc,hw,hs,a,K,w,hk,h=>by
  simp only [codeOky,wrIn,skOk,Bool.and_eq_true] at hc hw hs
  refine wpIn_seq ?_
  have plain:deny P cl Y x sk.l a.env { K with nrm:=fun ρ' w'=>deny P cl Y y sk.r ρ' K w' } w→x.wpIn (wf r) nn P (Exit.then (y.wpIn (wf r) nn P (PK n pw a0 K)) (PK n pw a0 K)) a w:=fun h=>by
   refine Code.wpIn_mono ?_ (deny_sound hcl hY hmix x sk.l pw a0 hc.1 hw.1 hs.1.2 a _ w hk h)
   intro e a w hq
   cases e with
   |normal=>exact deny_sound hcl hY hmix y sk.r pw a0 hc.2 hw.2 hs.2 a K w hq.1 hq.2
   |_=>exact hq
  cases sk with
  |cut ms ts W l r=>
   simp only [Bool.and_eq_true] at hs
   obtain ⟨J,h1,h2⟩:=(show cutF ts ms W a.env (fun k=>deny P cl Y x l a.env { K with nrm:=k } w) (fun ρ' w'=>deny P cl Y y r ρ' K w') from h)
   have:=deny_sound hcl hY hmix x l (fun i=>pw i && memB i W) a.env hc.1 (wrIn_and hw.1 hs.1.1.1) hs.1.2 a _ w (Kept.refl hk.size hk.defers) h1
   refine Code.wpIn_mono ?_ this
   intro e b w' hq
   cases e with
   |normal=>
    obtain ⟨hkb,hq⟩:=hq
    have hall:=h2 b.env
    have hb:=app_all (by rw [vals_len];exact Nat.eq_of_beq_eq_true hs.1.1.2) hq hall w' hq
    rw [mix_env (fun i hi=>hkb.same i (by simp [hi]))] at hb
    exact deny_sound hcl hY hmix y r pw a0 hc.2 hw.2 hs.2 b K w' (hk.trans hkb) hb
   |exit i=>exact ⟨hk.trans hq.1,hq.2⟩
   |ret=>exact ⟨hk.trans hq.1,hq.2⟩
   |_=>exact hq.elim
  |leaf=>exact plain h
  |seq l r=>exact plain h
  |cond l r=>exact plain h
  |block l=>exact plain h
  |loop ms ts W l=>exact plain h
 | .loop c,sk,pw,a0,hc,hw,hs,a,K,w,hk,h=>by
  cases sk with
  |loop ms ts W l=>
   simp only [skOk,Bool.and_eq_true] at hs
   have hc:codeOky P n c=true:=hc
   have hw:wrIn pw c=true:=hw
   obtain ⟨I,μ,h0,hstep⟩:=(show loopF ts ms W a.env (fun ρ' k w'=>deny P cl Y c l ρ' { K with nrm:=k } w') w from h)
   have hlen:∀ e:Env,(vals ms e).length=ts.length:=fun e=>by rw [vals_len];exact Nat.eq_of_beq_eq_true hs.1.2
   refine wpIn_loop (fun b v=>Kept n pw a0 b∧(∀ i,memB i W=false→b.env i=a.env i)∧app ts I (vals ms b.env) (fun p=>p v))
    (fun b v=>getC (fun _=>0) ts μ (vals ms b.env) v) ⟨hk,fun _ _=>rfl,h0⟩ ?_
   rintro b v ⟨hkb,hsame,hI⟩
   have hb:=app_all (hlen b.env) hI (hstep b.env) v hI
   rw [mix_env hsame] at hb
   have:=deny_sound hcl hY hmix c l (fun i=>pw i && memB i W) b.env hc (wrIn_and hw hs.1.1) hs.2 b _ v (Kept.refl hkb.size hkb.defers) hb
   refine Code.wpIn_mono ?_ this
   intro e b' v' hq
   cases e with
   |normal=>
    obtain ⟨hkb',hI',hμ⟩:=hq
    exact ⟨⟨hkb.trans hkb',fun i hi=>(hkb'.same i (by simp [hi])).trans (hsame i hi),hI'⟩,by
     have h1:=app_get (d:=fun _=>0) hμ
     exact app_get (d:=fun _=>0) h1⟩
   |exit i=>exact ⟨hkb.trans hq.1,hq.2⟩
   |ret=>exact ⟨hkb.trans hq.1,hq.2⟩
   |_=>exact hq.elim
  |_=>exact False.elim h
end Go.VC
/- SL, part 1: memory told by blocks: a read-only part R, and a list of predicates over disjoint parts of the rest. No condition. -/
namespace Go.VC
set_option linter.unusedVariables false
set_option linter.unusedSimpArgs false
abbrev Heap:=Nat→Option Obj
def Heap.none:Heap:=fun _=>Option.none
def Heap.one (b:Nat) (o:Obj):Heap:=fun i=>if i=b then some o else Option.none
def Heap.add (R h:Heap):Heap:=fun i=>match R i with|some o=>some o| .none=>h i
def Heap.set (R:Heap) (b:Nat) (o:Obj):Heap:=fun i=>if i=b then some o else R i
def Heap.dis (R h:Heap):Prop:=∀ i,h i≠.none→R i=.none
abbrev HP:=Heap→Prop
structure Cx where
 m:Heap
 os:Os
 tape:Nat→Question→Nat
 output:Array (Nat × ByteArray)
def Cx.add (R:Cx) (h:Heap):Cx:={ R with m:=R.m.add h }
def Cx.set (R:Cx) (b:Nat) (o:Obj):Cx:={ R with m:=R.m.set b o }
def Cx.dis (R:Cx) (h:Heap):Prop:=R.m.dis h
def Sat:Cx→List HP→World→Prop
 |R,[],w=>(∀ b o,R.m b=some o→w.heap[b]? =some o)∧w.os=R.os∧w.tape=R.tape∧w.output=R.output
 |R,H::Hs,w=>∃ h,H h∧R.dis h∧Sat (R.add h) Hs w
def pts (b:Nat) (o:Obj):HP:=fun h=>h=Heap.one b o
def pur (p:Prop):HP:=fun h=>p∧h=Heap.none
def exs {α:Type} (f:α→HP):HP:=fun h=>∃ x,f x h
def Star:List HP→HP
 |[]=>fun h=>h=Heap.none
 |H::Hs=>fun h=>∃ h1 h2,H h1∧Star Hs h2∧h1.dis h2∧h=h1.add h2
theorem Heap.add_none (R:Heap):R.add Heap.none=R:=by
 funext i;unfold Heap.add Heap.none;cases R i<;>rfl
theorem Heap.add_assoc (R a b:Heap):(R.add a).add b=R.add (a.add b):=by
 funext i;simp only [Heap.add];cases R i<;>simp
theorem Heap.add_comm {a b:Heap} (h:a.dis b):a.add b=b.add a:=by
 funext i
 simp only [Heap.add]
 cases hb:b i with
 |none=>cases a i<;>rfl
 |some o=>rw [h i (by rw [hb];simp)]
theorem Heap.dis_symm {a b:Heap} (h:a.dis b):b.dis a:=fun i hi=>by
 cases hb:b i with
 |none=>rfl
 |some o=>exact absurd (h i (by rw [hb];simp)) hi
theorem Heap.dis_add {R a b:Heap} (h1:R.dis a) (h2:(R.add a).dis b):R.dis (a.add b):=fun i hi=>by
 cases ha:a i with
 |some o=>exact h1 i (by rw [ha];simp)
 |none=>
  have hb:b i≠.none:=by simpa [Heap.add,ha] using hi
  have:=h2 i hb
  simp only [Heap.add] at this
  cases hr:R i with
  |none=>rfl
  |some o=>rw [hr] at this;cases this
theorem Heap.dis_of_add {R a b:Heap} (h2:(R.add a).dis b):R.dis b∧a.dis b:=by
 refine ⟨fun i hi=>?_,fun i hi=>?_⟩
 ·have:=h2 i hi;simp only [Heap.add] at this;cases hr:R i with
  |none=>rfl
  |some o=>rw [hr] at this;cases this
 ·have:=h2 i hi;simp only [Heap.add] at this;cases hr:R i with
  |none=>rw [hr] at this;exact this
  |some o=>rw [hr] at this;cases this
theorem Heap.add_dis {R a b:Heap} (h1:R.dis b) (h2:a.dis b):(R.add a).dis b:=fun i hi=>by
 simp only [Heap.add,h1 i hi,h2 i hi]
theorem Cx.add_none (R:Cx):R.add Heap.none=R:=by unfold Cx.add;rw [Heap.add_none]
theorem Cx.add_assoc (R:Cx) (a b:Heap):(R.add a).add b=R.add (a.add b):=by unfold Cx.add;simp only [Heap.add_assoc]
theorem Cx.dis_add {R:Cx} {a b:Heap} (h1:R.dis a) (h2:(R.add a).dis b):R.dis (a.add b):=Heap.dis_add h1 h2
theorem Cx.dis_of_add {R:Cx} {a b:Heap} (h2:(R.add a).dis b):R.dis b∧a.dis b:=Heap.dis_of_add h2
theorem Cx.add_dis {R:Cx} {a b:Heap} (h1:R.dis b) (h2:a.dis b):(R.add a).dis b:=Heap.add_dis h1 h2
theorem Cx.m_add (R:Cx) (h:Heap):(R.add h).m=R.m.add h:=rfl
def Cx.like (R R':Cx):Prop:=R'.os=R.os∧R'.tape=R.tape∧R'.output=R.output
theorem Sat.of_ro:∀ {Hs:List HP} {R:Cx} {w:World} {b:Nat} {o:Obj},Sat R Hs w→R.m b=some o→w.heap[b]? =some o
 |[],_,_,_,_,h,hb=>h.1 _ _ hb
 |_::_,_,_,b,o,h,hb=>by
  obtain ⟨h',_,_,hs⟩:=h
  exact hs.of_ro (by simp only [Cx.m_add,Heap.add,hb])
theorem Sat.streams:∀ {Hs:List HP} {R:Cx} {w:World},Sat R Hs w→w.os=R.os∧w.tape=R.tape∧w.output=R.output
 |[],_,_,h=>h.2
 |_::_,_,_,h=>let ⟨_,_,_,hs⟩:=h;hs.streams
structure Alk (w w':World):Prop where
 heap:w'.heap=w.heap
 os:w'.os=w.os
 tape:w'.tape=w.tape
 output:w'.output=w.output
theorem Sat.alk:∀ {Hs:List HP} {R:Cx} {w w':World},Sat R Hs w→Alk w w'→Sat R Hs w'
 |[],_,_,_,h,e=>⟨fun b o hb=>by rw [e.heap];exact h.1 b o hb,e.os.trans h.2.1,e.tape.trans h.2.2.1,e.output.trans h.2.2.2⟩
 |_::_,_,_,_,h,e=>let ⟨h',hH,hd,hs⟩:=h;⟨h',hH,hd,hs.alk e⟩
theorem Sat.drew {R:Cx} {Hs:List HP} {w:World} (h:Sat R Hs w):Sat R Hs w.drew:=h.alk ⟨rfl,rfl,rfl,rfl⟩
theorem Sat.swap {R:Cx} {A B:HP} {Hs:List HP} {w:World} (h:Sat R (A::B::Hs) w):Sat R (B::A::Hs) w:=by
 obtain ⟨a,hA,hda,b,hB,hdb,hs⟩:=h
 obtain ⟨h1,h2⟩:=Cx.dis_of_add hdb
 refine ⟨b,hB,h1,a,hA,Cx.add_dis hda (Heap.dis_symm h2),?_⟩
 rw [Cx.add_assoc,←Heap.add_comm h2,←Cx.add_assoc]
 exact hs
theorem Sat.cons {R:Cx} {A:HP} {Hs Hs':List HP} {w w':World} (k:∀ R',Sat R' Hs w→Sat R' Hs' w') (h:Sat R (A::Hs) w):Sat R (A::Hs') w':=
 let ⟨a,hA,hd,hs⟩:=h;⟨a,hA,hd,k _ hs⟩
theorem Sat.perm {Hs Hs':List HP} (p:Hs.Perm Hs'):∀ {R:Cx} {w:World},Sat R Hs w→Sat R Hs' w:=by
 induction p with
 |nil=>exact fun h=>h
 |cons x _ ih=>exact fun h=>h.cons fun _=>ih
 |swap x y l=>exact fun h=>h.swap
 |trans _ _ ih1 ih2=>exact fun h=>ih2 (ih1 h)
theorem Sat.ro_of:∀ {Hs:List HP} {R R':Cx} {w:World},(∀ b o,R'.m b=some o→R.m b=some o)→R.like R'→Sat R Hs w→Sat R' Hs w
 |[],_,_,_,k,e,h=>⟨fun b o hb=>h.1 b o (k b o hb),h.2.1.trans e.1.symm,h.2.2.1.trans e.2.1.symm,h.2.2.2.trans e.2.2.symm⟩
 |_::_,R,R',_,k,e,h=>by
  obtain ⟨a,hA,hd,hs⟩:=h
  refine ⟨a,hA,fun i hi=>?_,Sat.ro_of (R:=R.add a) (R':=R'.add a) (fun b o hb=>?_) e hs⟩
  ·cases hr:R'.m i with
   |none=>rfl
   |some o=>have:=hd i hi;rw [k i o hr] at this;cases this
  ·simp only [Cx.m_add,Heap.add] at hb ⊢
   cases hr':R'.m b with
   |some o'=>rw [hr'] at hb;rw [k b o' hr'];exact hb
   |none=>
    rw [hr'] at hb
    have hn:=hd b (by simp only at hb;rw [hb];simp)
    rw [hn];exact hb
theorem Sat.drop {R:Cx} {A:HP} {Hs:List HP} {w:World} (h:Sat R (A::Hs) w):Sat R Hs w:=by
 obtain ⟨a,_,hd,hs⟩:=h
 exact Sat.ro_of (R:=R.add a) (R':=R) (fun b o hb=>by simp only [Cx.m_add,Heap.add,hb]) ⟨rfl,rfl,rfl⟩ hs
theorem Sat.lend {R:Cx} {b:Nat} {o:Obj} {Hs:List HP} {w:World}:Sat R (pts b o::Hs) w↔R.m b=.none∧Sat (R.add (Heap.one b o)) Hs w:=by
 constructor
 ·rintro ⟨a,rfl,hd,hs⟩
  exact ⟨hd b (by simp [Heap.one]),hs⟩
 ·rintro ⟨hb,hs⟩
  refine ⟨_,rfl,fun i hi=>?_,hs⟩
  by_cases h:i=b
  ·subst h;exact hb
  ·simp [Heap.one,h] at hi
theorem Cx.lent {R:Cx} {b:Nat} {o:Obj} (h:R.m b=.none):(R.add (Heap.one b o)).m b=some o:=by
 simp [Cx.m_add,Heap.add,h,Heap.one]
theorem Cx.kept {R:Cx} {h:Heap} {b:Nat} {o:Obj} (hb:R.m b=some o):(R.add h).m b=some o:=by
 simp only [Cx.m_add,Heap.add,hb]
theorem Sat.at {R:Cx} {b:Nat} {o:Obj} {Hs:List HP} {w:World} (h:Sat R (pts b o::Hs) w):w.heap[b]? =some o:=
 let ⟨hb,hs⟩:=Sat.lend.1 h
 hs.of_ro (Cx.lent hb)
theorem Sat.pur {R:Cx} {p:Prop} {Hs:List HP} {w:World}:Sat R (VC.pur p::Hs) w↔p∧Sat R Hs w:=by
 constructor
 ·rintro ⟨a,⟨hp,rfl⟩,_,hs⟩
  rw [Cx.add_none] at hs
  exact ⟨hp,hs⟩
 ·rintro ⟨hp,hs⟩
  exact ⟨Heap.none,⟨hp,rfl⟩,fun i hi=>absurd rfl hi,by rw [Cx.add_none];exact hs⟩
theorem Sat.exs {α:Type} {R:Cx} {f:α→HP} {Hs:List HP} {w:World}:Sat R (VC.exs f::Hs) w↔∃ x,Sat R (f x::Hs) w:=by
 constructor
 ·rintro ⟨a,⟨x,hx⟩,hd,hs⟩;exact ⟨x,a,hx,hd,hs⟩
 ·rintro ⟨x,a,hx,hd,hs⟩;exact ⟨a,⟨x,hx⟩,hd,hs⟩
theorem Sat.star {w:World}:∀ {l:List HP} {R:Cx} {Hs:List HP},Sat R (Star l::Hs) w↔Sat R (l++Hs) w
 |[],R,Hs=>by
  constructor
  ·rintro ⟨a,rfl,_,hs⟩;rw [Cx.add_none] at hs;exact hs
  ·intro hs;exact ⟨Heap.none,rfl,fun i hi=>absurd rfl hi,by rw [Cx.add_none];exact hs⟩
 |A::l,R,Hs=>by
  constructor
  ·rintro ⟨x,⟨h1,h2,hA,hl,hd,rfl⟩,hdx,hs⟩
   have d1:R.dis h1:=fun i hi=>hdx i (by simp only [Heap.add];cases h:h1 i<;>simp_all)
   refine ⟨h1,hA,d1,Sat.star.1 ⟨h2,hl,Cx.add_dis (fun i hi=>hdx i ?_) hd,by rw [Cx.add_assoc];exact hs⟩⟩
   simp only [Heap.add];cases h:h1 i<;>simp_all
  ·rintro ⟨h1,hA,d1,hs⟩
   obtain ⟨h2,hl,d2,hs⟩:=Sat.star.2 hs
   refine ⟨h1.add h2,⟨h1,h2,hA,hl,(Cx.dis_of_add d2).2,rfl⟩,Cx.dis_add d1 d2,by rw [←Cx.add_assoc];exact hs⟩
def _root_.Go.World.setBlock (w:World) (b:Nat) (o:Obj):World:={ w with heap:=w.heap.setIfInBounds b o }
theorem Heap.set_add {R h:Heap} {b:Nat} {o o':Obj} (hb:R b=some o):(R.set b o').add h=(R.add h).set b o':=by
 funext i
 simp only [Heap.add,Heap.set]
 by_cases hi:i=b
 ·subst hi;simp
 ·simp [hi]
theorem Cx.set_add {R:Cx} {h:Heap} {b:Nat} {o o':Obj} (hb:R.m b=some o):(R.set b o').add h=(R.add h).set b o':=by
 unfold Cx.set Cx.add;simp only [Heap.set_add hb]
theorem Sat.upd:∀ {Hs:List HP} {R:Cx} {w:World} {b:Nat} {o:Obj} (o':Obj),Sat R Hs w→R.m b=some o→Sat (R.set b o') Hs (w.setBlock b o')
 |[],R,w,b,o,o',h,hb=>by
  refine ⟨fun i x hx=>?_,h.2⟩
  have hlt:b<w.heap.size:=(Array.getElem?_eq_some_iff.1 (h.1 b o hb)).1
  simp only [Cx.set,Heap.set] at hx
  simp only [World.setBlock]
  by_cases hi:i=b
  ·subst hi
   simp only [if_true,Option.some.injEq] at hx
   subst hx
   simp [hlt]
  ·rw [if_neg hi] at hx
   rw [Array.getElem?_setIfInBounds_ne (Ne.symm hi)]
   exact h.1 i x hx
 |H::Hs,R,w,b,o,o',h,hb=>by
  obtain ⟨a,hA,hd,hs⟩:=h
  have:=Sat.upd o' hs (b:=b) (o:=o) (Cx.kept hb)
  refine ⟨a,hA,fun i hi=>?_,?_⟩
  ·have hr:=hd i hi
   simp only [Cx.set,Heap.set]
   by_cases h:i=b
   ·subst h;rw [hb] at hr;cases hr
   ·rw [if_neg h];exact hr
  ·rw [Cx.set_add hb];exact this
theorem Sat.setPts {R:Cx} {b:Nat} {o:Obj} {Hs:List HP} {w:World} (o':Obj) (h:Sat R (pts b o::Hs) w):Sat R (pts b o'::Hs) (w.setBlock b o'):=by
 obtain ⟨hb,hs⟩:=Sat.lend.1 h
 refine Sat.lend.2 ⟨hb,?_⟩
 have h1:=Sat.upd o' hs (b:=b) (o:=o) (Cx.lent hb)
 have e:(R.add (Heap.one b o)).set b o'=R.add (Heap.one b o'):=by
  unfold Cx.set Cx.add
  congr 1
  funext i
  simp only [Heap.add,Heap.set,Heap.one]
  by_cases hi:i=b
  ·subst hi;simp [hb]
  ·simp [hi]
 rw [e] at h1
 exact h1
theorem Sat.ro_lt {R:Cx} {Hs:List HP} {w:World} (h:Sat R Hs w) {b:Nat} (hb:w.heap.size≤b):R.m b=.none:=by
 cases hr:R.m b with
 |none=>rfl
 |some o=>
  have:=h.of_ro hr
  rw [Array.getElem?_eq_none hb] at this
  cases this
theorem Sat.grow:∀ {Hs:List HP} {R:Cx} {w:World} (o:Obj),Sat R Hs w→Sat (R.add (Heap.one w.heap.size o)) Hs (w.alloc o)
 |[],R,w,o,h=>by
  refine ⟨fun b x hx=>?_,h.2⟩
  simp only [Cx.m_add,Heap.add,Heap.one] at hx
  cases hr:R.m b with
  |some y=>
   rw [hr] at hx
   have:=h.1 b y hr
   have hlt:b<w.heap.size:=(Array.getElem?_eq_some_iff.1 this).1
   simp only at hx
   simp only [World.alloc]
   rw [Array.getElem?_push_lt hlt,←Array.getElem?_eq_getElem,this,hx]
  |none=>
   rw [hr] at hx
   simp only at hx
   split at hx
   ·rename_i hb;subst hb;cases hx;show (w.heap.push o)[w.heap.size]? =_;simp
   ·cases hx
 |H::Hs,R,w,o,h=>by
  have hR:R.m w.heap.size=.none:=Sat.ro_lt h (Nat.le_refl _)
  obtain ⟨a,hA,hd,hs⟩:=h
  have hadd:(R.add a).m w.heap.size=.none:=Sat.ro_lt hs (Nat.le_refl _)
  have ha:a w.heap.size=.none:=by simpa [Cx.m_add,Heap.add,hR] using hadd
  have:=Sat.grow o hs
  have hdis:(Heap.one w.heap.size o).dis a:=by
   intro i hi
   simp only [Heap.one]
   split
   ·rename_i h;subst h;exact absurd ha hi
   ·rfl
  refine ⟨a,hA,Cx.add_dis hd hdis,?_⟩
  rw [Cx.add_assoc,Heap.add_comm hdis,←Cx.add_assoc]
  exact this
theorem Sat.alloc {R:Cx} {Hs:List HP} {w:World} (o:Obj) (h:Sat R Hs w):Sat R (pts w.heap.size o::Hs) (w.alloc o):=
 Sat.lend.2 ⟨Sat.ro_lt h (Nat.le_refl _),Sat.grow o h⟩
def Cx.of (w:World):Cx:={ m:=fun b=>w.heap[b]?,os:=w.os,tape:=w.tape,output:=w.output }
theorem Sat.start (w:World):Sat (Cx.of w) [] w:=⟨fun _ _ h=>h,rfl,rfl,rfl⟩
end Go.VC
/- SL, part 2: rules for the formulas of single operations. No condition. -/
namespace Go.VC
set_option linter.unusedVariables false
set_option linter.unusedSimpArgs false
class TakeP (b:Nat) (Hs:List HP) (o:outParam Obj) (Rest:outParam (List HP)):Prop where
 perm:Hs.Perm (pts b o::Rest)
instance (priority:=2000) TakeP.head {b:Nat} {o:Obj} {Hs:List HP}:TakeP b (pts b o::Hs) o Hs:=⟨List.Perm.refl _⟩
instance TakeP.tail {b:Nat} {H:HP} {Hs:List HP} {o:Obj} {Rest:List HP} [t:TakeP b Hs o Rest]:TakeP b (H::Hs) o (H::Rest):=
 ⟨(t.perm.cons H).trans (.swap _ _ _)⟩
class Take (A:HP) (Hs:List HP) (Rest:outParam (List HP)):Prop where
 perm:Hs.Perm (A::Rest)
instance (priority:=2000) Take.head {A:HP} {Hs:List HP}:Take A (A::Hs) Hs:=⟨List.Perm.refl _⟩
instance Take.tail {A H:HP} {Hs:List HP} {Rest:List HP} [t:Take A Hs Rest]:Take A (H::Hs) (H::Rest):=
 ⟨(t.perm.cons H).trans (.swap _ _ _)⟩
theorem Sat.takeP {R:Cx} {Hs Rest:List HP} {w:World} {b:Nat} {o:Obj} (h:Sat R Hs w) (t:TakeP b Hs o Rest):Sat R (pts b o::Rest) w:=h.perm t.perm
theorem Sat.take {R:Cx} {Hs Rest:List HP} {w:World} (A:HP) [t:Take A Hs Rest] (h:Sat R Hs w):Sat R (A::Rest) w:=h.perm t.perm
theorem Sat.look {R:Cx} {Hs Rest:List HP} {w:World} {o:Obj} (b:Nat) [t:TakeP b Hs o Rest] (h:Sat R Hs w):w.heap[b]? =some o:=(h.takeP t).at
theorem eqS {R:Cx} {Hs:List HP} {w:World} (h:Sat R Hs w):∀ w',(fun w'=>w'=w) w'→Sat R Hs w':=fun _ e=>by rw [show _=w from e];exact h
theorem selfS {R:Cx} {Hs:List HP}:∀ w',Sat R Hs w'→Sat R Hs w':=fun _ h=>h
def Pre:List Value→List Value→Prop
 |[],_=>True
 |v::vs,x::l=>v=x∧Pre vs l
 |_::_,[]=>False
theorem Pre.get:∀ {vs l:List Value},Pre vs l→∀ (i:Nat) (v:Value),vs[i]? =some v→l[i]? =some v
 |[],_,_,i,v,h=>by simp at h
 |x::vs,y::l,hp,0,v,h=>by simp only [List.getElem?_cons_zero] at h ⊢;rw [←hp.1];exact h
 |x::vs,y::l,hp,i + 1,v,h=>by simp only [List.getElem?_cons_succ] at h ⊢;exact hp.2.get i v h
 |_::_,[],hp,_,_,_=>hp.elim
theorem cell_of {w:World} {b:Nat} {l:List Value} {T:TypeId} {fr:Nat × Nat} (h:w.heap[b]? =some (.cells l.toArray T fr)) (i:Nat):w.cell? ⟨b,i,none⟩=l[i]?:=by
 simp [World.cell?,h]
theorem add_off (b o i:Nat):Addr.add ⟨b,o,none⟩ i=⟨b,o + i,none⟩:=by
 unfold Addr.add;split
 ·rename_i h;subst h;rfl
 ·rfl
theorem At.mk {S:World→Prop} {b off:Nat} {vs l:List Value} {T:TypeId} {fr:Nat × Nat} (h:∀ w,S w→w.heap[b]? =some (.cells l.toArray T fr)) (hp:Pre vs (l.drop off)):At S ⟨b,off,none⟩ vs:=by
 intro w hw i v hv
 have:=hp.get i v hv
 rw [List.getElem?_drop] at this
 rw [add_off,cell_of (h w hw),this]
theorem At.own {S:World→Prop} {R:Cx} {Hs Rest:List HP} {b off:Nat} {vs l:List Value} {T:TypeId} {fr:Nat × Nat} (hS:∀ w,S w→Sat R Hs w)
  [t:TakeP b Hs (.cells l.toArray T fr) Rest] (hp:Pre vs (l.drop off)):At S ⟨b,off,none⟩ vs:=At.mk (fun w hw=>(hS w hw).look b) hp
theorem At.ro {S:World→Prop} {R:Cx} {Hs:List HP} {b off:Nat} {vs l:List Value} {T:TypeId} {fr:Nat × Nat} (hS:∀ w,S w→Sat R Hs w)
  (hR:R.m b=some (.cells l.toArray T fr)) (hp:Pre vs (l.drop off)):At S ⟨b,off,none⟩ vs:=At.mk (fun w hw=>(hS w hw).of_ro hR) hp
theorem new_rule {R:Cx} {Hs:List HP} {w:World} {o:Obj} {K:Nat→World→Prop} (hw:Sat R Hs w) (k:∀ b w',Sat R (pts b o::Hs) w'→K b w'):New o K w:=
 k _ _ (Sat.alloc o hw)
theorem drw_rule {R:Cx} {Hs:List HP} {w:World} {F:(World→Prop)→World→Prop} (hw:Sat R Hs w) (k:∀ w',Sat R Hs w'→F (Sat R Hs) w'):Drw w F:=
 ⟨Sat R Hs,Sat R Hs,hw.drew,fun w' h=>⟨h,k w' h⟩⟩
theorem drw_rule' {R:Cx} {Hs:List HP} {w:World} {F:(World→Prop)→World→Prop} (S:World→Prop) (hw:Sat R Hs w) (hS:∀ w',Sat R Hs w'→S w') (k:∀ w',Sat R Hs w'→F S w'):Drw w F:=
 ⟨Sat R Hs,S,hw.drew,fun w' h=>⟨hS w' h,k w' h⟩⟩
def tru:HP:=fun _=>True
theorem Sat.tru {R:Cx} {Hs:List HP} {w:World} (h:Sat R Hs w):Sat R (VC.tru::Hs) w:=⟨Heap.none,trivial,fun _ hi=>absurd rfl hi,by rw [Cx.add_none];exact h⟩
theorem Sat.absorb {R:Cx} {A:HP} {Hs:List HP} {w:World} (h:Sat R (A::VC.tru::Hs) w):Sat R (VC.tru::Hs) w:=by
 obtain ⟨a,_,hda,b,_,hdb,hs⟩:=h
 refine ⟨a.add b,trivial,Cx.dis_add hda hdb,?_⟩
 rw [←Cx.add_assoc];exact hs
theorem drw_ruleT {R:Cx} {Hs:List HP} {w:World} {F:(World→Prop)→World→Prop} (hw:Sat R Hs w) (k:∀ w',Sat R (VC.tru::Hs) w'→F (Sat R (VC.tru::Hs)) w'):Drw w F:=
 ⟨_,_,hw.tru.drew,fun w' h=>⟨h,k w' h⟩⟩
theorem wrap64 {x:Int} (h0: -9223372036854775808≤x) (h1:x<9223372036854775808):IntKind.i64.wrap x=x:=by
 have:IntKind.i64.wrap x=(x + 9223372036854775808) % 18446744073709551616 - 9223372036854775808:=by
  rw [IntKind.wrap_i64]
 rw [this];omega
def Sl.v (s:Sl):Value:=.slice s.a s.len s.cap
structure Ro (R:Cx) (s:Sl) (xs:List Value):Prop where
 len:s.len=xs.length
 bound:xs.length≤9223372036854775807
 mem:xs≠[]→∃ b off l T fr,s.a=some ⟨b,off,none⟩∧R.m b=some (.cells l T fr)∧∀ (i:Nat) v,xs[i]? =some v→l[off + i]? =some v
theorem Ro.add {R:Cx} {h:Heap} {s:Sl} {xs:List Value} (hr:Ro R s xs):Ro (R.add h) s xs:=
 ⟨hr.len,hr.bound,fun hx=>let ⟨b,off,l,T,fr,ha,hb,hl⟩:=hr.mem hx;⟨b,off,l,T,fr,ha,Cx.kept hb,hl⟩⟩
theorem Ro.addr {R:Cx} {s:Sl} {xs:List Value} (hr:Ro R s xs) {k:Nat} (hk:k<xs.length):∃ a,s.a=some a∧
  ∀ {S:World→Prop} {Hs:List HP},(∀ w,S w→Sat R Hs w)→At S (a.add k) [xs[k]]:=by
 obtain ⟨b,off,l,T,fr,ha,hb,hl⟩:=hr.mem (by intro h;rw [h] at hk;simp at hk)
 refine ⟨_,ha,fun hS w hw i v hv=>?_⟩
 have hi:i=0:=by
  cases i with
  |zero=>rfl
  |succ i=>simp at hv
 subst hi
 simp only [List.getElem?_cons_zero,Option.some.injEq] at hv
 subst hv
 rw [add_off,add_off]
 have:=(hS w hw).of_ro hb
 simp only [World.cell?,this,Option.isSome_none,Bool.false_eq_true,if_false]
 exact hl k _ (List.getElem?_eq_getElem hk)
abbrev RoI (R:Cx) (s:Sl) (xs:List Int):Prop:=Ro R s (xs.map (Value.int .i64))
theorem RoI.len {R:Cx} {s:Sl} {xs:List Int} (h:RoI R s xs):s.len=xs.length:=by rw [Ro.len h];simp
theorem RoI.bound {R:Cx} {s:Sl} {xs:List Int} (h:RoI R s xs):xs.length≤9223372036854775807:=by have:=Ro.bound h;simpa using this
theorem RoI.addr {R:Cx} {s:Sl} {xs:List Int} (hr:RoI R s xs) {k:Nat} (hk:k<xs.length):∃ a,s.a=some a∧
  ∀ {S:World→Prop} {Hs:List HP},(∀ w,S w→Sat R Hs w)→At S (a.add k) [.int .i64 xs[k]]:=by
 obtain ⟨a,ha,h⟩:=Ro.addr hr (k:=k) (by simpa using hk)
 refine ⟨a,ha,fun hS=>?_⟩
 have:=h hS
 simpa using this
theorem RoI.idx {S:World→Prop} {R:Cx} {Hs:List HP} {s:Sl} {xs:List Int} (hr:RoI R s xs) (hS:∀ w,S w→Sat R Hs w) {k:Nat} (hk:k<xs.length) {F:Int→Prop} (h:F xs[k]):
  Rng (k:Int) s.len (NilP s.a fun a=>∃ t:Int,(At S (a.add (k:Int).toNat) [.int .i64 t])∧F t):=by
 obtain ⟨a,ha,hat⟩:=RoI.addr hr hk
 have hl:=RoI.len hr
 exact Rng.mk (by omega) (by omega) (NilP.mk ha ⟨xs[k],hat hS,h⟩)
theorem Ro.idxS {S:World→Prop} {R:Cx} {Hs:List HP} {m:Sl} {ms:List Sl} (hr:Ro R m (ms.map Sl.v)) (hS:∀ w,S w→Sat R Hs w) {k:Nat} (hk:k<ms.length) {F:Sl→Prop} (h:F ms[k]):
  Rng (k:Int) m.len (NilP m.a fun a=>∃ t:Sl,(At S (a.add (k:Int).toNat) [.slice t.a t.len t.cap])∧F t):=by
 obtain ⟨a,ha,hat⟩:=hr.addr (k:=k) (by simpa using hk)
 have hl:m.len=ms.length:=by have:=hr.len;simpa using this
 refine Rng.mk (by omega) (by omega) (NilP.mk ha ⟨ms[k],?_,h⟩)
 have:=hat hS
 simpa [Sl.v] using this
end Go.VC
/- SL, part 3: rules for stores, for a slice that one owns, for append. Condition of the last: a bound on the new length. -/
namespace Go.VC
set_option linter.unusedVariables false
set_option linter.unusedSimpArgs false
def putL:List Value→Nat→List Value→List Value
 |l,_,[]=>l
 |l,o,v::vs=>putL (l.set o v) (o + 1) vs
theorem putL_len:∀ (vs l:List Value) (o:Nat),(putL l o vs).length=l.length
 |[],_,_=>rfl
 |_::vs,l,o=>by rw [putL,putL_len vs,List.length_set]
theorem putL_eq:∀ (vs l:List Value) (o:Nat),o + vs.length≤l.length→putL l o vs=l.take o++vs++l.drop (o + vs.length)
 |[],l,o,_=>by simp [putL]
 |v::vs,l,o,h=>by
  simp only [List.length_cons] at h
  rw [putL,putL_eq vs (l.set o v) (o + 1) (by simp;omega)]
  have e1:(l.set o v).take (o + 1)=l.take o++[v]:=by
   rw [List.take_succ_eq_append_getElem (by simp;omega)]
   simp [List.take_set_of_le]
  have e2:(l.set o v).drop (o + 1 + vs.length)=l.drop (o + (vs.length + 1)):=by
   rw [List.drop_set_of_lt (by omega)];congr 1;omega
  rw [e1,e2];simp
theorem setCell_block {w:World} {b o:Nat} {l:List Value} {T:TypeId} {fr:Nat × Nat} (h:w.heap[b]? =some (.cells l.toArray T fr)) (v:Value):
  w.setCell ⟨b,o,none⟩ v=w.setBlock b (.cells (l.set o v).toArray T fr):=by
 unfold World.setCell World.setBlock
 congr 1
 apply Array.ext_getElem?
 intro i
 rw [Array.getElem?_modify,Array.getElem?_setIfInBounds]
 by_cases hi:b=i
 ·subst hi
  obtain ⟨hlt,hg⟩:=Array.getElem?_eq_some_iff.1 h
  simp [hlt,hg]
 ·simp [hi]
theorem setCells_sat {R:Cx} {Hs:List HP} {b:Nat} {T:TypeId} {fr:Nat × Nat}:∀ (vs l:List Value) (o:Nat) (w:World),Sat R (pts b (.cells l.toArray T fr)::Hs) w→
  Sat R (pts b (.cells (putL l o vs).toArray T fr)::Hs) (w.setCells b o vs)
 |[],_,_,_,h=>h
 |v::vs,l,o,w,h=>by
  rw [World.setCells,setCell_block h.at,putL]
  exact setCells_sat vs (l.set o v) (o + 1) _ (h.setPts _)
def okFr (n:Nat) (fr:Nat × Nat):Prop:=fr.2=0∨n≤fr.1
theorem okFr.le {n m:Nat} {fr:Nat × Nat} (h:okFr n fr) (hm:m≤n):okFr m fr:=h.imp id fun h=>Nat.le_trans hm h
theorem frozen_no {w:World} {b:Nat} {l:Array Value} {T:TypeId} {fr:Nat × Nat} {n:Nat} (h:w.heap[b]? =some (.cells l T fr)) (hf:okFr n fr) {i:Nat} (hi:i<n):w.frozen? ⟨b,i,none⟩=false:=by
 obtain ⟨lo,hi'⟩:=fr
 simp only [World.frozen?,h]
 rcases hf with hf|hf<;>simp only at hf<;>simp<;>omega
def oneAll (vs:List Value):Bool:=vs.all (·.oneCell')
theorem store_rule {P:Program} {R:Cx} {Hs Rest:List HP} {w:World} {b o:Nat} {l:List Value} {T t:TypeId} {fr:Nat × Nat} {v:Value} {K:World→Prop}
  (hw:Sat R Hs w) [tk:TakeP b Hs (.cells l.toArray T fr) Rest] (hsz:(P.info? t).map (·.size)=some v.cells.toList.length) (h1:oneAll v.cells.toList=true) (hb:o + v.cells.toList.length≤l.length)
  (k:∀ w',Sat R (pts b (.cells (putL l o v.cells.toList).toArray T fr)::Rest) w'→K w') (hfr:okFr l.length fr:=by first|assumption|exact Or.inl rfl):
  ∃ w',(Instr.storeAt t (.pointer (some ⟨b,o,none⟩)) v).run P w=.ok () w'∧K w':=by
 have hp:=hw.takeP tk
 have hat:=hp.at
 obtain ⟨i,hi,hsz⟩:=Option.map_eq_some_iff.1 hsz
 refine ⟨w.setCells b o v.cells.toList,?_,k _ (setCells_sat _ _ _ _ hp)⟩
 have hst:=run_storeCells_cells (P:=P) b o v.cells.toList 0 w (fun j hj=>by
   simp only [Nat.add_zero]
   rw [cell_of hat];simp;omega) (fun j hj=>frozen_no hat hfr (by omega)) (fun u hu=>List.all_eq_true.1 h1 u hu)
 simp only [Nat.add_zero] at hst
 simp [Instr.storeAt,Instr.sureAddr,storeVar,sizeOf,typeInfo,hi,hsz,hst]
def Own (s:Sl) (T:TypeId) (xs:List Value):HP:=fun h=>
 (s=⟨none,0,0⟩∧xs=[]∧h=Heap.none)∨∃ b rest fr,s=⟨some ⟨b,0,none⟩,xs.length,(xs++rest).length⟩∧okFr (xs++rest).length fr∧h=Heap.one b (.cells (xs++rest).toArray T fr)
theorem Own.nil {R:Cx} {Hs:List HP} {w:World} {T:TypeId} (h:Sat R Hs w):Sat R (Own ⟨none,0,0⟩ T []::Hs) w:=
 ⟨Heap.none,.inl ⟨rfl,rfl,rfl⟩,fun i hi=>absurd rfl hi,by rw [Cx.add_none];exact h⟩
theorem Own.of_pts {R:Cx} {Hs:List HP} {w:World} {T:TypeId} {b:Nat} {fr:Nat × Nat} {xs rest:List Value} (h:Sat R (pts b (.cells (xs++rest).toArray T fr)::Hs) w) (hf:okFr (xs++rest).length fr:=by first|assumption|exact Or.inl rfl):
  Sat R (Own ⟨some ⟨b,0,none⟩,xs.length,(xs++rest).length⟩ T xs::Hs) w:=
 let ⟨a,ha,hd,hs⟩:=h;⟨a,.inr ⟨b,rest,fr,rfl,hf,ha⟩,hd,hs⟩
theorem Own.cases {R:Cx} {Hs:List HP} {w:World} {T:TypeId} {s:Sl} {xs:List Value} (h:Sat R (Own s T xs::Hs) w):
  (s=⟨none,0,0⟩∧xs=[]∧Sat R Hs w)∨∃ b rest fr,s=⟨some ⟨b,0,none⟩,xs.length,(xs++rest).length⟩∧okFr (xs++rest).length fr∧Sat R (pts b (.cells (xs++rest).toArray T fr)::Hs) w:=by
 obtain ⟨a,ha,hd,hs⟩:=h
 rcases ha with ⟨h1,h2,rfl⟩|⟨b,rest,fr,h1,hf,rfl⟩
 ·rw [Cx.add_none] at hs;exact .inl ⟨h1,h2,hs⟩
 ·exact .inr ⟨b,rest,fr,h1,hf,_,rfl,hd,hs⟩
theorem Own.len {R:Cx} {Hs:List HP} {w:World} {T:TypeId} {s:Sl} {xs:List Value} (h:Sat R (Own s T xs::Hs) w):s.len=xs.length:=by
 rcases Own.cases h with ⟨rfl,rfl,_⟩|⟨b,rest,fr,rfl,_,_⟩<;>rfl
theorem Own.lend {R:Cx} {Hs:List HP} {w:World} {T:TypeId} {s:Sl} {xs:List Value} (h:Sat R (Own s T xs::Hs) w) (hb:xs.length≤9223372036854775807):
  ∃ R':Cx,Ro R' s xs∧(∀ s' xs',Ro R s' xs'→Ro R' s' xs')∧Sat R' Hs w∧∀ {Hs' w'},Sat R' Hs' w'→Sat R (Own s T xs::Hs') w':=by
 rcases Own.cases h with ⟨rfl,rfl,h2⟩|⟨b,rest,fr,rfl,hf,h2⟩
 ·exact ⟨R,⟨rfl,by simp,fun h=>absurd rfl h⟩,fun _ _ h=>h,h2,fun h=>Own.nil h⟩
 ·obtain ⟨hn,h3⟩:=Sat.lend.1 h2
  refine ⟨_,⟨rfl,hb,fun _=>⟨b,0,_,T,fr,rfl,Cx.lent hn,fun i v hv=>?_⟩⟩,fun _ _ h=>h.add,h3,fun h=>Own.of_pts (Sat.lend.2 ⟨hn,h⟩)⟩
  obtain ⟨hi,rfl⟩:=List.getElem?_eq_some_iff.1 hv
  simp [List.getElem?_append_left hi]
def elB (P:Program) (T:TypeId) (bytes:Nat):Bool:=
 match P.info? T with
 |some i=>match i.zero with
  |some z=>i.size==1 && i.bytes==bytes && z.cells.size==1
  |none=>false
 |none=>false
theorem elB_out {P:Program} {T:TypeId} {bytes:Nat} (h:elB P T bytes=true):∃ i z,P.info? T=some i∧i.zero=some z∧i.size=1∧i.bytes=bytes∧z.cells.size=1:=by
 unfold elB at h
 split at h
 ·rename_i i hi
  split at h
  ·rename_i z hz
   simp only [Bool.and_eq_true,beq_iff_eq] at h
   exact ⟨i,z,hi,hz,h.1.1,h.1.2,h.2⟩
  ·cases h
 ·cases h
structure El (P:Program) (t1 t2 T:TypeId) (bytes:Nat):Prop where
 ht:P.underlying t1=some (.slice T)
 hk:∃ e',P.underlying t2=some (.slice e')
 hi:elB P T bytes=true
theorem append_rule {P:Program} {t1 t2 ty T:TypeId} {bytes:Nat} (E:El P t1 t2 T bytes) {R:Cx} {Hs:List HP} {w:World} {s:Sl} {xs ys:List Value} {src:Value} {n:Nat} {K:Sl→World→Prop}
  (hw:Sat R (Own s T xs::Hs) w) (hs:Src P 1 t2 src n ys w) (h1:oneAll xs=true) (hb:2 * (xs.length + n) * bytes≤281474976710656) (hb':xs.length + n≤9223372036854775807)
  (k:∀ s' w',Sat R (Own s' T (xs++ys)::Hs) w'→K s' w'):
  ∃ w',∃ t:Sl,(Builtin.append_ #[t1,t2] ty #[.slice s.a s.len s.cap,src]).run P w=.ok (.slice t.a t.len t.cap) w'∧K t w':=by
 obtain ⟨i,z,hi,hz,hsize,hbytes,hzc⟩:=elB_out E.hi
 have hyn:ys.length=n:=by have:=hs.newsLen;simpa using this
 have hs':Src P i.size t2 src n ys w:=by rw [hsize];exact hs
 have hlen:=Own.len hw
 have fit:∀ cap,cap<xs.length + n→Builtin.nextslicecap (xs.length + n) cap * i.bytes≤281474976710656:=fun cap hc=>by
  have h2:Builtin.nextslicecap (xs.length + n) cap≤2 * (xs.length + n):=by
   unfold Builtin.nextslicecap
   split
   ·omega
   ·split
    ·omega
    ·have:=nextslicecap_le_wide hc
     unfold Builtin.nextslicecap at this
     rw [if_neg (by assumption),if_neg (by assumption)] at this
     omega
  rw [hbytes]
  exact Nat.le_trans (Nat.mul_le_mul_right _ h2) hb
 -- a new row
 have grow:∀ (base:Option Addr) (cap:Nat) (olds:List Value),olds=xs→cap<xs.length + n→(Builtin.firstCells i.size xs.length (.slice base xs.length cap)).run P w.drew=.ok olds.toArray w.drew→Sat R Hs w→
   ∃ w',∃ t:Sl,(Builtin.append_ #[t1,t2] ty #[.slice base xs.length cap,src]).run P w=.ok (.slice t.a t.len t.cap) w'∧K t w':=fun base cap olds ho hc hold hw=>by
  have hr:=run_append_grow_src w t1 t2 ty T i z E.ht hi hz base xs.length cap olds hold src n ys hs' hc (by omega) (fit cap hc)
  refine ⟨_,⟨some ⟨w.heap.size,0,none⟩,xs.length + n,grownCap w (xs.length + n) cap T⟩,hr,k _ _ ?_⟩
  have hz0:(Builtin.zeroCells z.cells (grownCap w (xs.length + n) cap T - (xs.length + n))).size=grownCap w (xs.length + n) cap T - (xs.length + n):=by
   simp [Builtin.zeroCells,hzc]
  have hg:=grownCap_ge w (xs.length + n) cap T
  have ho':Obj.cells ((olds++ys).toArray++Builtin.zeroCells z.cells (grownCap w (xs.length + n) cap T - (xs.length + n))) T=.cells ((xs++ys)++(Builtin.zeroCells z.cells (grownCap w (xs.length + n) cap T - (xs.length + n))).toList).toArray T (0,0):=by
   rw [ho]
   congr 1
   apply Array.ext';simp
  have:=Sat.alloc (Obj.cells ((olds++ys).toArray++Builtin.zeroCells z.cells (grownCap w (xs.length + n) cap T - (xs.length + n))) T) (Sat.drew hw)
  rw [ho'] at this ⊢
  have h3:=Own.of_pts this
  have e:(⟨some ⟨w.drew.heap.size,0,none⟩,(xs++ys).length,(xs++ys++(Builtin.zeroCells z.cells (grownCap w (xs.length + n) cap T - (xs.length + n))).toList).length⟩:Sl)=⟨some ⟨w.heap.size,0,none⟩,xs.length + n,grownCap w (xs.length + n) cap T⟩:=by
   simp only [List.length_append,Array.length_toList,hz0,World.size_drew,hyn]
   congr 1
   omega
  rw [e] at h3
  exact h3
 rcases Own.cases hw with ⟨rfl,rfl,hz2⟩|⟨b,rest,fr,rfl,hfr,hp⟩
 ·by_cases hn0:n=0
  ·subst hn0
   have hy:ys=[]:=List.length_eq_zero_iff.1 hyn
   subst hy
   obtain ⟨e',he'⟩:=E.hk
   refine ⟨w,⟨none,0,0⟩,?_,k _ _ (by simpa using Own.nil hz2)⟩
   have hcz:=hs'.cells
   simp [Builtin.append_,run_underlying E.ht,run_underlying he',sizeOf,typeInfo,hi,hs'.len,hcz]
  ·exact grow none 0 [] rfl (by simp;omega) (run_firstCells_none w.drew i.size 0 0 0) hz2
 ·by_cases hroom:xs.length + n≤(xs++rest).length
  ·have hat:=hp.at
   have hr:=run_append_room_src w t1 t2 ty T i E.ht hi b 0 xs.length (xs++rest).length src n ys hs' hroom
    (fun j hj=>by rw [cell_of hat,hsize];simp at hroom ⊢;omega) (fun j hj=>frozen_no hat hfr (by rw [hsize,Nat.mul_one];simp only [List.length_append] at hroom ⊢;omega))
   refine ⟨_,⟨some ⟨b,0,none⟩,xs.length + n,(xs++rest).length⟩,hr,k _ _ ?_⟩
   have h2:=setCells_sat ys (xs++rest) xs.length w hp
   have e1:putL (xs++rest) xs.length ys=(xs++ys)++rest.drop n:=by
    rw [putL_eq _ _ _ (by rw [hyn];exact hroom),List.take_left',List.drop_append]
    ·simp [hyn]
    ·rfl
   rw [e1] at h2
   rw [hsize,Nat.zero_add,Nat.mul_one]
   have h3:=Own.of_pts h2 (hfr.le (by simp only [List.length_append,List.length_drop] at hroom ⊢;omega))
   have e:(⟨some ⟨b,0,none⟩,(xs++ys).length,(xs++ys++rest.drop n).length⟩:Sl)=⟨some ⟨b,0,none⟩,xs.length + n,(xs++rest).length⟩:=by
    simp only [List.length_append,List.length_drop,hyn] at hroom ⊢
    congr 1
    omega
   rw [e] at h3
   exact h3
  ·have hat:=hp.at
   refine grow (some ⟨b,0,none⟩) (xs++rest).length xs rfl (by omega) ?_ hp.drop
   refine run_firstCells_some w.drew i.size xs.length ⟨b,0,none⟩ xs.length _ xs (by rw [hsize];simp) ?_
   intro j u hj
   rw [World.cell?_drew,add_off,cell_of hat,Nat.zero_add]
   obtain ⟨hlt,rfl⟩:=List.getElem?_eq_some_iff.1 hj
   simp [List.getElem?_append_left hlt]
theorem Src_one {P:Program} {t2:TypeId} (hk:∃ e',P.underlying t2=some (.slice e')) {R:Cx} {Hs Rest:List HP} {w:World} {b:Nat} {x:Value} {T:TypeId} {fr:Nat × Nat} (c:Nat)
  (hw:Sat R Hs w) [t:TakeP b Hs (.cells [x].toArray T fr) Rest] (h1:x.oneCell'=true):Src P 1 t2 (.slice (some ⟨b,0,none⟩) 1 c) 1 [x] w:=by
 obtain ⟨e',he'⟩:=hk
 refine Go.Src.ofSlice w he' _ 1 c [x] rfl ?_ ?_
 ·intro j u hj
  have:=hw.look b
  rw [add_off,cell_of this];simpa using hj
 ·intro u hu;simp at hu;subst hu;exact h1
theorem push_rule {P:Program} {t1 t2 ty T T':TypeId} {bytes:Nat} (E:El P t1 t2 T bytes) {R:Cx} {Hs:List HP} {w:World} {s:Sl} {xs:List Value} {x:Value} {K:Sl→World→Prop}
  (hw:Sat R (Own s T xs::Hs) w) (h1:oneAll xs=true) (hx:x.oneCell'=true) (hb:2 * (xs.length + 1) * bytes≤281474976710656) (hb':xs.length + 1≤9223372036854775807)
  (k:∀ s' w',Sat R (Own s' T (xs++[x])::Hs) w'→K s' w'):
  New (.cells #[x] T' (0,0)) (fun b w=>∃ w',∃ t:Sl,(Builtin.append_ #[t1,t2] ty #[.slice s.a s.len s.cap,.slice (some ⟨b,0,none⟩) 1 1]).run P w=.ok (.slice t.a t.len t.cap) w'∧K t w') w:=by
 refine new_rule hw fun b w hw=>?_
 have hw:Sat R (pts b (.cells [x].toArray T' (0,0))::Own s T xs::Hs) w:=hw
 exact append_rule E hw.swap (Src_one E.hk 1 hw hx) h1 hb hb' fun s' w' h=>k s' w' h.swap.drop
theorem pushI_rule {P:Program} {t1 t2 ty T T':TypeId} (E:El P t1 t2 T 8) {R:Cx} {Hs:List HP} {w:World} {s:Sl} {xs:List Int} {x:Int} {K:Sl→World→Prop}
  (hw:Sat R (Own s T (xs.map (Value.int .i64))::Hs) w) (hb:xs.length<1000000000000)
  (k:∀ s' w',Sat R (Own s' T ((xs++[x]).map (Value.int .i64))::Hs) w'→K s' w'):
  New (.cells #[.int .i64 x] T' (0,0)) (fun b w=>∃ w',∃ t:Sl,(Builtin.append_ #[t1,t2] ty #[.slice s.a s.len s.cap,.slice (some ⟨b,0,none⟩) 1 1]).run P w=.ok (.slice t.a t.len t.cap) w'∧K t w') w:=
 push_rule E hw (by unfold oneAll;simp [Value.oneCell']) rfl (by rw [List.length_map];omega) (by rw [List.length_map];omega) fun s' w' h=>k s' w' (by simpa using h)
end Go.VC
/- SL, part 4: what a sort leaves; elements of a row of ints of one's own. No condition. -/
namespace Go.VC
set_option linter.unusedVariables false
set_option linter.unusedSimpArgs false
theorem Sat.grows {R:Cx} {Hs:List HP}:∀ (os:List Obj) {w:World},Sat R Hs w→Sat R Hs (Go.Sort.grow w os.toArray)
 |[],w,h=>by simpa using h
 |o::os,w,h=>by
  have h1:=Sat.grows os (Sat.alloc o h).drop
  rw [Go.Sort.alloc_eq_grow,Go.Sort.grow_grow] at h1
  have e:(#[o]++os.toArray:Array Obj)=(o::os).toArray:=by simp
  rw [e] at h1;exact h1
theorem Pre.refl:∀ l:List Value,Pre l l
 |[]=>trivial
 |_::l=>⟨rfl,Pre.refl l⟩
theorem storeI_rule {P:Program} {R:Cx} {Hs Rest:List HP} {w:World} {b i:Nat} {l:List Int} {T t:TypeId} {kd:IntKind} {x:Int} {K:World→Prop}
  (hsz:(P.info? t).map (·.size)=some 1) (hw:Sat R Hs w) [tk:TakeP b Hs (.cells (l.map (Value.int kd)).toArray T (0,0)) Rest] (hi:i<l.length)
  (k:∀ w',Sat R (pts b (.cells ((l.set i x).map (Value.int kd)).toArray T (0,0))::Rest) w'→K w'):
  ∃ w',(Instr.storeAt t (.pointer (some (Addr.add ⟨b,0,none⟩ i))) (.int kd x)).run P w=.ok () w'∧K w':=by
 rw [add_off]
 refine store_rule hw (tk:=tk) (by rw [hsz];rfl) rfl (by simp [Value.cells];omega) fun w' h=>k w' ?_
 have e:putL (l.map (Value.int kd)) (0 + i) (Value.int kd x).cells.toList=(l.set i x).map (Value.int kd):=by
  simp [putL,Value.cells,List.map_set]
 rw [e] at h;exact h
end Go.VC
/- SL, part 5: elements of a slice of one's own, loads, stores, clear; stores of structs. No condition. -/
namespace Go.VC
set_option linter.unusedVariables false
set_option linter.unusedSimpArgs false
variable {P:Program} {R:Cx} {Hs Rest:List HP} {w:World} {s:Sl} {T:TypeId}
theorem Own.addr {xs:List Value} (hw:Sat R (Own s T xs::Hs) w) {k:Nat} (hk:k<xs.length):∃ b,s.a=some ⟨b,0,none⟩∧
  ∀ {S:World→Prop} {Hs'},(∀ w,S w→Sat R (Own s T xs::Hs') w)→At S (Addr.add ⟨b,0,none⟩ k) [xs[k]]:=by
 rcases Own.cases hw with ⟨_,rfl,_⟩|⟨b,rest,fr,rfl,_,_⟩
 ·simp at hk
 ·refine ⟨b,rfl,fun hS w hs i v hv=>?_⟩
  have hi:i=0:=by
   cases i with
   |zero=>rfl
   |succ i=>simp at hv
  subst hi
  simp only [List.getElem?_cons_zero,Option.some.injEq] at hv
  subst hv
  rcases Own.cases (hS w hs) with ⟨h0,_,_⟩|⟨b',rest',fr',he,_,h⟩
  ·cases h0
  ·simp only [Sl.mk.injEq,Option.some.injEq,Addr.mk.injEq,and_true] at he
   obtain ⟨rfl,_⟩:=he
   rw [add_off,add_off,cell_of h.at]
   simp [List.getElem?_append_left hk]
theorem Own.cap {xs:List Value} (hw:Sat R (Own s T xs::Hs) w):s.len≤s.cap:=by
 rcases Own.cases hw with ⟨rfl,_,_⟩|⟨b,rest,fr,rfl,_,_⟩
 ·exact Nat.le_refl _
 ·simp
theorem Own.idx {kd:IntKind} {xs:List Int} {S:World→Prop} {Hs':List HP} (hw:Sat R (Own s T (xs.map (Value.int kd))::Hs) w) (hS:∀ w,S w→Sat R (Own s T (xs.map (Value.int kd))::Hs') w) {k:Nat} (hk:k<xs.length) {F:Int→Prop} (h:F xs[k]):
  Rng (k:Int) s.len (NilP s.a fun a=>∃ t:Int,(At S (a.add (k:Int).toNat) [.int kd t])∧F t):=by
 obtain ⟨b,ha,hat⟩:=Own.addr hw (k:=k) (by simpa using hk)
 have hl:=Own.len hw
 rw [List.length_map] at hl
 refine Rng.mk (by omega) (by omega) (NilP.mk ha ⟨xs[k],?_,h⟩)
 have:=hat hS
 simpa using this
theorem Own.store {t:TypeId} {kd:IntKind} {xs:List Int} (hsz:(P.info? t).map (·.size)=some 1) (hw:Sat R (Own s T (xs.map (Value.int kd))::Hs) w) {k:Nat} (hk:k<xs.length) {x:Int} {K:World→Prop}
  (h:∀ w',Sat R (Own s T ((xs.set k x).map (Value.int kd))::Hs) w'→K w'):
  Rng (k:Int) s.len (NilP s.a fun a=>∃ w',(Instr.storeAt t (.pointer (some (Addr.add a (k:Int).toNat))) (.int kd x)).run P w=.ok () w'∧K w'):=by
 have hl:=Own.len hw
 rw [List.length_map] at hl
 rcases Own.cases hw with ⟨_,h0,_⟩|⟨b,rest,fr,rfl,hfr,hp⟩
 ·simp at h0;subst h0;simp at hk
 ·refine Rng.mk (by omega) (by simp only at hl ⊢;omega) (NilP.mk rfl ?_)
  rw [add_off]
  refine store_rule hp (by rw [hsz];rfl) rfl (by simp [Value.cells];omega) fun w' h2=>h w' ?_
  have e:putL (xs.map (Value.int kd)++rest) (0 + (k:Int).toNat) (Value.int kd x).cells.toList=(xs.set k x).map (Value.int kd)++rest:=by
   simp only [putL,Value.cells,Nat.zero_add,Int.toNat_natCast]
   rw [List.set_append_left _ _ (by simpa using hk),List.map_set]
  rw [e] at h2
  have h3:=Own.of_pts h2 (hfr.le (by simp))
  simpa using h3
end Go.VC
/- SL, part 6: maps with keys that are strings or integers: lookup, update, delete. No condition. -/
namespace Go.VC
set_option linter.unusedVariables false
set_option linter.unusedSimpArgs false
class KeyK (α:Type) [BEq α] where
 enc:α→Value
 desc:TypeDesc
 same:∀ a b,Instr.sameNow desc (enc a) (enc b)=some (a==b)
 bits:∀ a,Instr.sameBits 10000 (enc a) (enc a)=true
 eq:∀ a b:α,(a==b)=true→a=b
 check:∀ (P:Program) (em:Bool) (K:TypeId) (a:α) (w:World),P.underlying K=some desc→(Instr.checkKey em 10000 K (enc a)).run P w=.ok () w
instance:KeyK ByteArray where
 enc:=Value.string
 desc:=.string
 same a b:=rfl
 bits a:=by
  have:∀ n,Instr.sameBits n (.string a) (.string a)=(a==a):=fun n=>by cases n<;>rfl
  rw [this];exact (MapKept.bytes_beq a a).2 rfl
 eq a b h:=(MapKept.bytes_beq a b).1 h
 check P em K a w h:=by
  show (Instr.checkKey em (9999 + 1) K (.string a)).run P w=_
  unfold Instr.checkKey
  simp [run_underlying h]
variable {α:Type} [BEq α] [KeyK α]
abbrev En (α:Type):=α × Value × Nat
def mkE (e:En α):MapEntry:={ key:=KeyK.enc e.1,val:=e.2.1,born:=e.2.2 }
def getE (k:α):List (En α)→Option Value
 |[]=>none
 |e::es=>if k==e.1 then some e.2.1 else getE k es
def setE (k:α) (v:Value):List (En α)→List (En α)
 |[]=>[]
 |e::es=>if k==e.1 then (e.1,v,e.2.2)::es else e::setE k v es
def delE (k:α):List (En α)→List (En α)
 |[]=>[]
 |e::es=>if k==e.1 then es else e::delE k es
def hasE (k:α) (es:List (En α)):Bool:=(getE k es).isSome
def putE (k:α) (v:Value) (es:List (En α)) (clock:Nat):List (En α):=if hasE k es then setE k v es else es++[(k,v,clock)]
def idxE (k:α):List (En α)→Nat→Option (Nat × Value)
 |[],_=>none
 |e::es,i=>if k==e.1 then some (i,e.2.1) else idxE k es (i + 1)
theorem findNow_eq (k:α):∀ (es:List (En α)) (i:Nat),Instr.findNow (KeyK.desc α) (KeyK.enc k) (es.map mkE) i=some (idxE k es i)
 |[],_=>rfl
 |e::es,i=>by
  rw [List.map_cons,Instr.findNow,mkE,KeyK.same,idxE]
  cases h:(k==e.1)
  ·simpa using findNow_eq k es (i + 1)
  ·rfl
omit [KeyK α] in
theorem idxE_val (k:α):∀ (es:List (En α)) (i:Nat),(idxE k es i).map (·.2)=getE k es
 |[],_=>rfl
 |e::es,i=>by
  rw [idxE,getE]
  cases h:(k==e.1)
  ·exact idxE_val k es (i + 1)
  ·rfl
theorem run_findKey {P:Program} {K:TypeId} (hK:P.underlying K=some (KeyK.desc α)) (k:α) (es:List (En α)) (w:World):
  (Instr.findKey K (KeyK.enc k) (es.map mkE)).run P w=.ok (idxE k es 0) w:=by
 unfold Instr.findKey
 simp [run_underlying hK,findNow_eq]
theorem run_keyThatStays {P:Program} (k:α) (w:World):(Instr.keyThatStays (KeyK.enc k) (KeyK.enc k)).run P w=.ok (KeyK.enc k) w:=by
 unfold Instr.keyThatStays
 rw [if_pos (KeyK.bits k)];rfl
theorem lookup_run {P:Program} {T K E:TypeId} (hT:P.underlying T=some (.map K E)) (hK:P.underlying K=some (KeyK.desc α)) {z:Value} (hz:∀ w,(zeroValue E).run P w=.ok z w)
  {w:World} {m clock:Nat} {es:List (En α)} (hm:w.heap[m]? =some (.map (es.map mkE).toArray clock)) (k:α) (c:Bool):
  (Instr.lookup T (.map (some m)) (KeyK.enc k) c).run P w=.ok (if c then .tuple #[(getE k es).getD z,.bool (hasE k es)] else (getE k es).getD z) w:=by
 have hv:=idxE_val k es 0
 have hck:=KeyK.check P (es.map mkE).toArray.isEmpty K k w hK
 have hfk:=run_findKey hK k es w
 unfold Instr.lookup
 cases hi:idxE k es 0 with
 |none=>
  rw [hi] at hv hfk
  simp only [Option.map_none] at hv
  simp only [Sem.run_bind,run_underlying hT,Result.andThen,MapKept.run_getObj_map hm,Sem.run_pure,hck,hfk,hz,hasE,←hv]
  rfl
 |some p=>
  rw [hi] at hv hfk
  simp only [Option.map_some] at hv
  simp only [Sem.run_bind,run_underlying hT,Result.andThen,MapKept.run_getObj_map hm,Sem.run_pure,hck,hfk,hasE,←hv]
  rfl
omit [KeyK α] in
theorem idxE_set (k:α):∀ (es:List (En α)) (i:Nat),(∀ p,idxE k es i=some p→i≤p.1)
 |[],i,p,h=>by cases h
 |e::es,i,p,h=>by
  rw [idxE] at h
  cases hk:(k==e.1)
  ·rw [hk] at h;have:=idxE_set k es (i + 1) p (by simpa using h);omega
  ·rw [hk] at h;simp at h;subst h;exact Nat.le_refl _
theorem modify_eq (k:α) (v:Value):∀ (es:List (En α)) (i:Nat) (p:Nat × Value),idxE k es i=some p→
  (es.map mkE).modify (p.1 - i) (fun e=>{ e with key:=KeyK.enc k,val:=v })=(setE k v es).map mkE
 |[],_,_,h=>by cases h
 |e::es,i,p,h=>by
  have hle:=idxE_set k (e::es) i p h
  rw [idxE] at h
  cases hk:(k==e.1)
  ·rw [hk] at h
   have h':idxE k es (i + 1)=some p:=by simpa using h
   have hle2:=idxE_set k es (i + 1) p h'
   obtain ⟨j,hj⟩:∃ j,p.1 - i=j + 1:=⟨p.1 - (i + 1),by omega⟩
   have ih:=modify_eq k v es (i + 1) p h'
   rw [show p.1 - (i + 1)=j by omega] at ih
   rw [hj,setE,hk]
   simp only [List.map_cons,List.modify_succ_cons,Bool.false_eq_true,if_false,List.cons.injEq,true_and]
   exact ih
  ·rw [hk] at h
   simp at h;subst h
   have:=KeyK.eq _ _ hk
   subst this
   rw [setE,hk]
   simp [mkE]
theorem erase_eq (k:α):∀ (es:List (En α)) (i:Nat) (p:Nat × Value),idxE k es i=some p→(es.map mkE).eraseIdx (p.1 - i)=(delE k es).map mkE
 |[],_,_,h=>by cases h
 |e::es,i,p,h=>by
  rw [idxE] at h
  cases hk:(k==e.1)
  ·rw [hk] at h
   have h':idxE k es (i + 1)=some p:=by simpa using h
   have hle2:=idxE_set k es (i + 1) p h'
   obtain ⟨j,hj⟩:∃ j,p.1 - i=j + 1:=⟨p.1 - (i + 1),by omega⟩
   have ih:=erase_eq k es (i + 1) p h'
   rw [show p.1 - (i + 1)=j by omega] at ih
   rw [hj,delE,hk]
   simp only [List.map_cons,List.eraseIdx_cons_succ,Bool.false_eq_true,if_false,List.cons.injEq,true_and]
   exact ih
  ·rw [hk] at h
   simp at h;subst h
   rw [delE,hk];simp
omit [KeyK α] in
theorem idxE_none (k:α) (es:List (En α)) (i:Nat):idxE k es i=none↔hasE k es=false:=by
 unfold hasE;rw [←idxE_val k es i];cases idxE k es i<;>simp
omit [KeyK α] in
theorem delE_none (k:α):∀ (es:List (En α)),hasE k es=false→delE k es=es
 |[],_=>rfl
 |e::es,h=>by
  unfold hasE getE at h
  cases hk:(k==e.1)
  ·rw [hk] at h
   rw [delE,hk]
   simp only [Bool.false_eq_true,if_false,List.cons.injEq,true_and]
   exact delE_none k es (by unfold hasE;simpa using h)
  ·rw [hk] at h;simp at h
theorem idxE_lt (k:α):∀ (es:List (En α)) (i:Nat) (p:Nat × Value),idxE k es i=some p→p.1<i + es.length∧∃ e,(es.map mkE)[p.1 - i]? =some e∧e.key=KeyK.enc k
 |[],_,_,h=>by cases h
 |e::es,i,p,h=>by
  rw [idxE] at h
  cases hk:(k==e.1)
  ·rw [hk] at h
   have h':idxE k es (i + 1)=some p:=by simpa using h
   have hle2:=idxE_set k es (i + 1) p h'
   obtain ⟨h1,e',h2,h3⟩:=idxE_lt k es (i + 1) p h'
   refine ⟨by simp only [List.length_cons];omega,e',?_,h3⟩
   obtain ⟨j,hj⟩:∃ j,p.1 - i=j + 1:=⟨p.1 - (i + 1),by omega⟩
   rw [hj,List.map_cons,List.getElem?_cons_succ,show j=p.1 - (i + 1) by omega]
   exact h2
  ·rw [hk] at h
   simp at h;subst h
   refine ⟨by simp,mkE e,by simp,?_⟩
   rw [KeyK.eq _ _ hk];rfl
theorem update_run {P:Program} {T K E:TypeId} (hT:P.underlying T=some (.map K E)) (hK:P.underlying K=some (KeyK.desc α))
  {w:World} {m clock:Nat} {es:List (En α)} (hm:w.heap[m]? =some (.map (es.map mkE).toArray clock)) (k:α) (v:Value):
  (Instr.mapUpdate T (.map (some m)) (KeyK.enc k) v).run P w=.ok () (w.setBlock m (.map ((putE k v es clock).map mkE).toArray (if hasE k es then clock else clock + 1))):=by
 have hck:=KeyK.check P false K k w hK
 have hfk:=run_findKey hK k es w
 unfold Instr.mapUpdate
 cases hi:idxE k es 0 with
 |none=>
  have hn:=(idxE_none k es 0).1 hi
  rw [hi] at hfk
  simp only [Sem.run_bind,run_underlying hT,Result.andThen,MapKept.run_getObj_map hm,hck,hfk,MapKept.run_setObj_map _ hm,putE,hn,World.setBlock,Bool.false_eq_true,if_false]
  simp [mkE]
 |some p=>
  have hh:hasE k es=true:=by
   cases h:hasE k es
   ·rw [(idxE_none k es 0).2 h] at hi;cases hi
   ·rfl
  obtain ⟨_,e,he,hek⟩:=idxE_lt k es 0 p hi
  have hmod:=modify_eq k v es 0 p hi
  rw [Nat.sub_zero] at he hmod
  rw [hi] at hfk
  have hkey:(((es.map mkE).toArray[p.1]?).map (·.key)).getD (KeyK.enc k)=KeyK.enc k:=by
   have:(es.map mkE).toArray[p.1]? =some e:=by simpa using he
   rw [this];exact hek
  simp only [Sem.run_bind,run_underlying hT,Result.andThen,MapKept.run_getObj_map hm,hck,hfk,hkey,run_keyThatStays,MapKept.run_setObj_map _ hm,putE,hh,World.setBlock,if_true]
  congr 4
  apply Array.ext'
  rw [←hmod]
  simp
theorem delete_run {P:Program} {T K E ty t2:TypeId} (hT:P.underlying T=some (.map K E)) (hK:P.underlying K=some (KeyK.desc α))
  {w:World} {m clock:Nat} {es:List (En α)} (hm:w.heap[m]? =some (.map (es.map mkE).toArray clock)) (k:α):
  (Builtin.delete_ #[T,t2] ty #[.map (some m),KeyK.enc k]).run P w=.ok (.tuple #[]) (w.setBlock m (.map ((delE k es).map mkE).toArray clock)):=by
 have hck:=KeyK.check P (es.map mkE).toArray.isEmpty K k w hK
 have hfk:=run_findKey hK k es w
 have h0:(#[T,t2]:Array TypeId)[0]? =some T:=rfl
 have h1:(#[Value.map (some m),KeyK.enc k]:Array Value)[0]? =some (.map (some m)):=rfl
 have h2:(#[Value.map (some m),KeyK.enc k]:Array Value)[1]? =some (KeyK.enc k):=rfl
 unfold Builtin.delete_
 rw [h0,h1,h2]
 cases hi:idxE k es 0 with
 |none=>
  have hn:=(idxE_none k es 0).1 hi
  rw [hi] at hfk
  simp only [Sem.run_bind,run_underlying hT,Result.andThen,MapKept.run_getObj_map hm,hck,hfk,MapKept.run_setObj_map _ hm,World.setBlock,delE_none k es hn,Sem.run_pure]
 |some p=>
  have her:=erase_eq k es 0 p hi
  obtain ⟨hlt,_⟩:=idxE_lt k es 0 p hi
  rw [Nat.sub_zero] at her
  rw [hi] at hfk
  have e:(es.map mkE).toArray.eraseIdxIfInBounds p.1=((delE k es).map mkE).toArray:=by
   apply Array.ext'
   rw [←her]
   simp [Array.eraseIdxIfInBounds,show p.1<es.length by omega]
  simp only [Sem.run_bind,run_underlying hT,Result.andThen,MapKept.run_getObj_map hm,hck,hfk,MapKept.run_setObj_map _ hm,World.setBlock,e,Sem.run_pure]
end Go.VC
/- SL, part 7: a map of one's own, by its keys and values; opening of what holds for some x. No condition. -/
namespace Go.VC
set_option linter.unusedVariables false
set_option linter.unusedSimpArgs false
variable {α:Type} [BEq α] [KeyK α]
def getM {β:Type} (k:α):List (α × β)→Option β
 |[]=>none
 |e::es=>if k==e.1 then some e.2 else getM k es
def setM {β:Type} (k:α) (v:β):List (α × β)→List (α × β)
 |[]=>[]
 |e::es=>if k==e.1 then (e.1,v)::es else e::setM k v es
def delM {β:Type} (k:α):List (α × β)→List (α × β)
 |[]=>[]
 |e::es=>if k==e.1 then es else e::delM k es
def putM {β:Type} (k:α) (v:β) (es:List (α × β)):List (α × β):=if (getM k es).isSome then setM k v es else es++[(k,v)]
abbrev strip (es:List (En α)):List (α × Value):=es.map fun e=>(e.1,e.2.1)
omit [KeyK α] in
theorem getE_strip (k:α):∀ es:List (En α),getE k es=getM k (strip es)
 |[]=>rfl
 |e::es=>by rw [getE,strip,List.map_cons,getM,getE_strip k es]
omit [KeyK α] in
theorem hasE_strip (k:α) (es:List (En α)):hasE k es=(getM k (strip es)).isSome:=by unfold hasE;rw [getE_strip]
omit [KeyK α] in
theorem setE_strip (k:α) (v:Value):∀ es:List (En α),strip (setE k v es)=setM k v (strip es)
 |[]=>rfl
 |e::es=>by
  have ih:=setE_strip k v es
  unfold strip at *
  rw [List.map_cons,setE,setM]
  split
  ·simp
  ·simp [ih]
omit [KeyK α] in
theorem delE_strip (k:α):∀ es:List (En α),strip (delE k es)=delM k (strip es)
 |[]=>rfl
 |e::es=>by
  have ih:=delE_strip k es
  unfold strip at *
  rw [List.map_cons,delE,delM]
  split
  ·rfl
  ·simp [ih]
omit [KeyK α] in
theorem putE_strip (k:α) (v:Value) (es:List (En α)) (c:Nat):strip (putE k v es c)=putM k v (strip es):=by
 unfold putE putM
 rw [hasE_strip]
 split
 ·exact setE_strip k v es
 ·simp [strip]
def StampsOk (l:List (En α)) (c:Nat):Prop:=(∀ e∈l,e.2.2<c)∧(l.map (·.2.2)).Nodup
omit [KeyK α] in
theorem setE_stamps (k:α) (v:Value):∀ l:List (En α),(setE k v l).map (·.2.2)=l.map (·.2.2)
 |[]=>rfl
 |e::es=>by
  rw [setE]
  split
  ·rfl
  ·rw [List.map_cons,List.map_cons,setE_stamps k v es]
omit [KeyK α] in
theorem delE_sub (k:α):∀ l:List (En α),(delE k l).Sublist l
 |[]=>List.Sublist.refl _
 |e::es=>by
  rw [delE]
  split
  ·exact List.sublist_cons_self _ _
  ·exact (delE_sub k es).cons_cons _
omit [KeyK α] in
theorem stamps_put {l:List (En α)} {c:Nat} (h:StampsOk l c) (k:α) (v:Value):StampsOk (putE k v l c) (if hasE k l then c else c + 1):=by
 unfold putE
 split
 ·refine ⟨fun e he=>?_,by rw [setE_stamps];exact h.2⟩
  have:e.2.2∈(setE k v l).map (·.2.2):=List.mem_map_of_mem he
  rw [setE_stamps] at this
  obtain ⟨x,hx,hxe⟩:=List.mem_map.1 this
  rw [←hxe];exact h.1 x hx
 ·refine ⟨fun e he=>?_,?_⟩
  ·rcases List.mem_append.1 he with he|he
   ·have:=h.1 e he;omega
   ·simp at he;subst he;simp
  ·rw [List.map_append,List.nodup_append]
   refine ⟨h.2,by simp,fun x hx y hy=>?_⟩
   simp at hy
   obtain ⟨e,he,rfl⟩:=List.mem_map.1 hx
   have:=h.1 e he
   omega
omit [KeyK α] in
theorem stamps_del {l:List (En α)} {c:Nat} (h:StampsOk l c) (k:α):StampsOk (delE k l) c:=
 ⟨fun e he=>h.1 e ((delE_sub k l).subset he),((delE_sub k l).map _).nodup h.2⟩
def MapAt (m:Nat) (es:List (α × Value)):HP:=fun h=>∃ (l:List (En α)) (c:Nat),strip l=es∧StampsOk l c∧h=Heap.one m (.map (l.map mkE).toArray c)
theorem MapAt.iff {R:Cx} {Hs:List HP} {w:World} {m:Nat} {es:List (α × Value)}:Sat R (MapAt m es::Hs) w↔∃ l c,strip l=es∧StampsOk l c∧Sat R (pts m (.map (l.map (mkE (α:=α))).toArray c)::Hs) w:=by
 constructor
 ·rintro ⟨a,⟨l,c,h1,h3,h2⟩,hd,hs⟩;exact ⟨l,c,h1,h3,a,h2,hd,hs⟩
 ·rintro ⟨l,c,h1,h3,a,h2,hd,hs⟩;exact ⟨a,⟨l,c,h1,h3,h2⟩,hd,hs⟩
structure MapT (P:Program) (T:TypeId) (α:Type) [BEq α] [KeyK α] (K E:TypeId) (z:Value):Prop where
 hT:P.underlying T=some (.map K E)
 hK:P.underlying K=some (KeyK.desc α)
 hz:∀ w,(zeroValue E).run P w=.ok z w
variable {P:Program} {R:Cx} {Hs:List HP} {w:World} {m:Nat} {es:List (α × Value)} {T K E:TypeId} {z:Value}
theorem MapAt.look (M:MapT P T α K E z) (hw:Sat R (MapAt m es::Hs) w) (k:α) (c:Bool):
  (Instr.lookup T (.map (some m)) (KeyK.enc k) c).run P w=.ok (if c then .tuple #[(getM k es).getD z,.bool (getM k es).isSome] else (getM k es).getD z) w:=by
 obtain ⟨l,clk,rfl,_,hp⟩:=MapAt.iff.1 hw
 rw [lookup_run M.hT M.hK M.hz hp.at k c,getE_strip,hasE_strip]
theorem MapAt.put (M:MapT P T α K E z) (hw:Sat R (MapAt m es::Hs) w) (k:α) (v:Value) {Q:World→Prop} (h:∀ w',Sat R (MapAt m (putM k v es)::Hs) w'→Q w'):
  ∃ w',(Instr.mapUpdate T (.map (some m)) (KeyK.enc k) v).run P w=.ok () w'∧Q w':=by
 obtain ⟨l,clk,rfl,hst,hp⟩:=MapAt.iff.1 hw
 refine ⟨_,update_run M.hT M.hK hp.at k v,h _ (MapAt.iff.2 ⟨putE k v l clk,_,putE_strip k v l clk,stamps_put hst k v,hp.setPts _⟩)⟩
theorem MapAt.del {t2 ty:TypeId} (M:MapT P T α K E z) (hw:Sat R (MapAt m es::Hs) w) (k:α) {Q:World→Prop} (h:∀ w',Sat R (MapAt m (delM k es)::Hs) w'→Q w'):
  ∃ w',(Builtin.delete_ #[T,t2] ty #[.map (some m),KeyK.enc k]).run P w=.ok (.tuple #[]) w'∧Q w':=by
 obtain ⟨l,clk,rfl,hst,hp⟩:=MapAt.iff.1 hw
 exact ⟨_,delete_run M.hT M.hK hp.at k,h _ (MapAt.iff.2 ⟨delE k l,_,delE_strip k l,stamps_del hst k,hp.setPts _⟩)⟩
theorem MapAt.new {o:Obj} (ho:o=.map #[] 0) (hw:Sat R (pts m o::Hs) w):Sat R (MapAt (α:=α) m []::Hs) w:=by
 subst ho
 exact MapAt.iff.2 ⟨[],0,rfl,⟨fun _ h=>(by cases h),List.nodup_nil⟩,hw⟩
section
variable {β:Type}
omit [KeyK α] in
theorem getM_app {k:α} {v:β}:∀ {a b:List (α × β)},getM k a=none→(k==k)=true→getM k (a++(k,v)::b)=some v
 |[],b,_,hk=>by simp [getM,hk]
 |e::a,b,h,hk=>by
  rw [getM] at h
  split at h
  ·cases h
  ·rename_i hne
   rw [List.cons_append,getM,if_neg hne]
   exact getM_app h hk
omit [KeyK α] in
theorem delM_app {k:α} {v:β}:∀ {a b:List (α × β)},getM k a=none→(k==k)=true→delM k (a++(k,v)::b)=a++b
 |[],b,_,hk=>by simp [delM,hk]
 |e::a,b,h,hk=>by
  rw [getM] at h
  split at h
  ·cases h
  ·rename_i hne
   rw [List.cons_append,delM,if_neg hne,delM_app h hk];rfl
theorem getM_split {k:α} {v:β}:∀ {l:List (α × β)},getM k l=some v→∃ a b,l=a++(k,v)::b∧getM k a=none
 |[],h=>by cases h
 |e::l,h=>by
  rw [getM] at h
  split at h
  ·rename_i hk
   cases h
   have:=KeyK.eq _ _ hk
   subst this
   exact ⟨[],l,rfl,rfl⟩
  ·rename_i hne
   obtain ⟨a,b,rfl,ha⟩:=getM_split h
   exact ⟨e::a,b,rfl,by rw [getM,if_neg hne];exact ha⟩
omit [KeyK α] in
theorem getM_map {γ:Type} (f:β→γ) (k:α):∀ l:List (α × β),getM k (l.map fun e=>(e.1,f e.2))=(getM k l).map f
 |[]=>rfl
 |e::l=>by
  rw [List.map_cons,getM,getM,getM_map f k l]
  split<;>rfl
end
end Go.VC
/- SL, part 8: slices of any one-cell elements; bytes and strings. No condition. -/
namespace Go.VC
set_option linter.unusedVariables false
set_option linter.unusedSimpArgs false
variable {P:Program} {R:Cx} {Hs:List HP} {w:World} {s:Sl} {T:TypeId}
theorem Ro.idxK {kd:IntKind} {xs:List Int} {S:World→Prop} (hr:Ro R s (xs.map (Value.int kd))) (hS:∀ w,S w→Sat R Hs w) {k:Nat} (hk:k<xs.length) {F:Int→Prop} (h:F xs[k]):
  Rng (k:Int) s.len (NilP s.a fun a=>∃ t:Int,(At S (a.add (k:Int).toNat) [.int kd t])∧F t):=by
 obtain ⟨a,ha,hat⟩:=hr.addr (k:=k) (by simpa using hk)
 have hl:s.len=xs.length:=by have:=hr.len;simpa using this
 refine Rng.mk (by omega) (by omega) (NilP.mk ha ⟨xs[k],?_,h⟩)
 have:=hat hS
 simpa using this
theorem Ro.idxStr {xs:List ByteArray} {S:World→Prop} (hr:Ro R s (xs.map Value.string)) (hS:∀ w,S w→Sat R Hs w) {k:Nat} (hk:k<xs.length) {F:ByteArray→Prop} (h:F xs[k]):
  Rng (k:Int) s.len (NilP s.a fun a=>∃ t:ByteArray,(At S (a.add (k:Int).toNat) [.string t])∧F t):=by
 obtain ⟨a,ha,hat⟩:=hr.addr (k:=k) (by simpa using hk)
 have hl:s.len=xs.length:=by have:=hr.len;simpa using this
 refine Rng.mk (by omega) (by omega) (NilP.mk ha ⟨xs[k],?_,h⟩)
 have:=hat hS
 simpa using this
theorem srcRo {t2 e':TypeId} (ht:P.underlying t2=some (.slice e')) {xs:List Value} (hw:Sat R Hs w) (hs:Ro R s xs) (h1:oneAll xs=true):Src P 1 t2 (.slice s.a s.len s.cap) xs.length xs w:=by
 have hl:s.len=xs.length:=hs.len
 by_cases hx:xs=[]
 ·subst hx
  obtain ⟨a,n,c⟩:=s
  simp only [List.length_nil] at hl
  subst hl
  cases a with
  |none=>exact Go.Src.ofNil _ ht _
  |some a=>exact Go.Src.ofSlice w ht _ 0 _ [] rfl (fun j u hj=>by simp at hj) (fun u hu=>by cases hu)
 ·obtain ⟨b,off,l,T,fr,ha,hb,hel⟩:=hs.mem hx
  obtain ⟨a,n,c⟩:=s
  simp only at ha hl
  subst ha hl
  refine Go.Src.ofSlice w ht _ _ _ _ (by simp) (fun j u hj=>?_) (fun u hu=>List.all_eq_true.1 h1 u hu)
  rw [add_off]
  have:=hw.of_ro hb
  simp only [World.cell?,this,Option.isSome_none,Bool.false_eq_true,if_false]
  exact hel j u hj
def bytesL (s:ByteArray):List Int:=s.data.toList.map fun b=>(b.toNat:Int)
theorem bytesL_len (s:ByteArray):(bytesL s).length=s.size:=by simp [bytesL]
theorem world_heap_ext {a b:World} (h:a.heap=b.heap) (h2:{ a with heap:=b.heap }=b):a=b:=by rw [←h2,←h]
theorem bytesWorld_alloc (w:World) (e:TypeId) (s:ByteArray):
  Lib.bytesWorld w e s=w.drew.alloc (.cells (Lib.bytesCells w e s) e ((Lib.bytesCells w e s).size,(Lib.bytesCells w e s).size + 1)):=by
 have:(Lib.bytesWorld w e s).heap=(w.drew.alloc (.cells (Lib.bytesCells w e s) e ((Lib.bytesCells w e s).size,(Lib.bytesCells w e s).size + 1))).heap:=by
  apply Array.ext_getElem?
  intro i
  by_cases hi:i<w.heap.size
  ·rw [Lib.bytesWorld_at_old w e s i hi]
   simp [World.alloc,World.drew,-World.alloc_eq,-World.drew_eq,Array.getElem?_push,Nat.ne_of_lt hi]
  ·by_cases h2:i=w.heap.size
   ·subst h2
    rw [Lib.bytesWorld_at_new]
    simp [World.alloc,World.drew,-World.alloc_eq,-World.drew_eq]
   ·rw [Array.getElem?_eq_none (by rw [Lib.bytesWorld_size];omega),Array.getElem?_eq_none (by simp [World.alloc,World.drew,-World.alloc_eq,-World.drew_eq];omega)]
 exact world_heap_ext this rfl
theorem convB_rule {src dst:TypeId} {u:TypeDesc} (hs:P.underlying src=some u) (hd:P.underlying dst=some (.slice T)) (he:P.underlying T=some (.int .u8)) {b:ByteArray} {K:Sl→World→Prop}
  (hw:Sat R Hs w) (k:∀ t w',Sat R (Own t T ((bytesL b).map (Value.int .u8))::Hs) w'→K t w'):
  ∃ w',∃ t:Sl,(convert src dst (.string b)).run P w=.ok (.slice t.a t.len t.cap) w'∧K t w':=by
 refine ⟨_,⟨some ⟨w.heap.size,0,none⟩,b.size,grownCap w b.size 0 T⟩,Lib.run_convert_string_bytes w src dst T b hs hd he,k _ _ ?_⟩
 rw [bytesWorld_alloc]
 have hc:Lib.bytesCells w T b=((bytesL b).map (Value.int .u8)++List.replicate (grownCap w b.size 0 T - b.size) (Value.int .u8 0)).toArray:=by
  apply Array.ext'
  simp [Lib.bytesCells,bytesL,Function.comp_def]
 have h1:=Sat.alloc (Obj.cells (Lib.bytesCells w T b) T ((Lib.bytesCells w T b).size,(Lib.bytesCells w T b).size + 1)) hw.drew
 have hg:=grownCap_ge w b.size 0 T
 rw [hc] at h1 ⊢
 have h2:=Own.of_pts h1 (.inr (by simp))
 have e:(⟨some ⟨w.drew.heap.size,0,none⟩,((bytesL b).map (Value.int .u8)).length,((bytesL b).map (Value.int .u8)++List.replicate (grownCap w b.size 0 T - b.size) (Value.int .u8 0)).length⟩:Sl)=⟨some ⟨w.heap.size,0,none⟩,b.size,grownCap w b.size 0 T⟩:=by
  simp only [List.length_append,List.length_map,List.length_replicate,bytesL_len,World.size_drew]
  congr 1
  omega
 rw [e] at h2
 exact h2
def strOf (xs:List Int):ByteArray:=⟨(xs.map fun n=>UInt8.ofNat n.toNat).toArray⟩
theorem convS_ro {src dst:TypeId} (hs:P.underlying src=some (.slice T)) (he:P.underlying T=some (.int .u8)) (hd:P.underlying dst=some .string) {xs:List Int}
  (hw:Sat R Hs w) (hr:Ro R s (xs.map (Value.int .u8))):(convert src dst (.slice s.a s.len s.cap)).run P w=.ok (.string (strOf xs)) w:=by
 have hl:s.len=xs.length:=by have:=hr.len;simpa using this
 by_cases hx:xs=[]
 ·subst hx
  obtain ⟨a,n,c⟩:=s
  simp only [List.length_nil] at hl
  subst hl
  cases a with
  |none=>exact run_convert_bytes_nil w src T hs he _ _ dst hd
  |some a=>
   rw [run_convert_bytes_string w src dst T _ _ _ hs he hd,run_bytesToString w a 0 c [] (by simpa using run_loadCells_list (P:=P) w a [] (fun j v hj=>by simp at hj))]
   rfl
 ·obtain ⟨b,off,l,T',fr,ha,hb,hel⟩:=hr.mem (by simpa using hx)
  obtain ⟨a,n,c⟩:=s
  simp only at ha hl
  subst ha hl
  refine (run_convert_bytes_arg w src T hs he b off _ c xs rfl (fun i hi=>?_) dst hd).trans rfl
  have:=hw.of_ro hb
  simp only [World.cell?,this,Option.isSome_none,Bool.false_eq_true,if_false]
  refine hel i _ ?_
  simp [hi,List.getD]
theorem strOf_bytesL (b:ByteArray):strOf (bytesL b)=b:=by
 unfold strOf bytesL
 rw [List.map_map]
 have:(List.map ((fun n:Int=>UInt8.ofNat n.toNat) ∘ fun b:UInt8=>(b.toNat:Int)) b.data.toList)=b.data.toList:=by
  conv=>rhs;rw [←List.map_id b.data.toList]
  apply List.map_congr_left
  intro x _
  simp
 rw [this]
theorem bytesL_strOf {xs:List Int} (h:∀ n∈xs,0≤n∧n<256):bytesL (strOf xs)=xs:=by
 unfold strOf bytesL
 simp only [List.map_map]
 conv=>rhs;rw [←List.map_id xs]
 apply List.map_congr_left
 intro x hx
 have:=h x hx
 simp
 omega
end Go.VC
/- SL, part 9: what a call of the library leaves that changes no block that lay before: a new row of cells. No condition. -/
namespace Go.VC
set_option linter.unusedVariables false
set_option linter.unusedSimpArgs false
open Go Go.RowKit
structure Keeps (w w':World):Prop where
 os:w'.os=w.os
 tape:w'.tape=w.tape
 output:w'.output=w.output
 block:∀ k,k<w.heap.size→w'.heap[k]? =w.heap[k]?
theorem Keeps.of_below {w w':World} (h:Below w.heap.size w w'):Keeps w w':=⟨h.os,h.tape,h.output,h.block⟩
theorem Sat.keeps:∀ {Hs:List HP} {R:Cx} {w w':World},Sat R Hs w→Keeps w w'→Sat R Hs w'
 |[],_,w,_,h,e=>⟨fun b o hb=>by
   have:=h.1 b o hb
   rw [e.block b (Array.getElem?_eq_some_iff.1 this).1];exact this,e.os.trans h.2.1,e.tape.trans h.2.2.1,e.output.trans h.2.2.2⟩
 |_::_,_,_,_,h,e=>let ⟨h',hH,hd,hs⟩:=h;⟨h',hH,hd,hs.keeps e⟩
theorem Sat.grewTo:∀ {Hs:List HP} {R:Cx} {w w':World} {b:Nat} {o:Obj},Sat R Hs w→Keeps w w'→w.heap.size≤b→w'.heap[b]? =some o→Sat (R.add (Heap.one b o)) Hs w'
 |[],R,w,w',b,o,h,e,hb,ho=>by
  refine ⟨fun i x hx=>?_,e.os.trans h.2.1,e.tape.trans h.2.2.1,e.output.trans h.2.2.2⟩
  simp only [Cx.m_add,Heap.add,Heap.one] at hx
  cases hr:R.m i with
  |some y=>
   rw [hr] at hx
   have:=h.1 i y hr
   rw [e.block i (Array.getElem?_eq_some_iff.1 this).1,this]
   exact hx
  |none=>
   rw [hr] at hx
   simp only at hx
   split at hx
   ·rename_i hi;subst hi;rw [ho];exact hx
   ·cases hx
 |H::Hs,R,w,w',b,o,h,e,hb,ho=>by
  have hR:R.m b=.none:=Sat.ro_lt h hb
  obtain ⟨a,hA,hd,hs⟩:=h
  have hadd:(R.add a).m b=.none:=Sat.ro_lt hs hb
  have ha:a b=.none:=by simpa [Cx.m_add,Heap.add,hR] using hadd
  have:=Sat.grewTo hs e hb ho
  have hdis:(Heap.one b o).dis a:=by
   intro i hi
   simp only [Heap.one]
   split
   ·rename_i h;subst h;exact absurd ha hi
   ·rfl
  refine ⟨a,hA,Cx.add_dis hd hdis,?_⟩
  rw [Cx.add_assoc,Heap.add_comm hdis,←Cx.add_assoc]
  exact this
theorem Sat.fresh {R:Cx} {Hs:List HP} {w w':World} {b:Nat} {o:Obj} (h:Sat R Hs w) (e:Keeps w w') (hb:w.heap.size≤b) (ho:w'.heap[b]? =some o):Sat R (pts b o::Hs) w':=
 Sat.lend.2 ⟨Sat.ro_lt h hb,Sat.grewTo h e hb ho⟩
theorem Sat.ownsRow {R:Cx} {Hs:List HP} {w w':World} {T:TypeId} {v:Value} {n:Nat} {xs:List Value} (h:Sat R Hs w) (e:Below w.heap.size w w') (hr:w'.ownsRow w.heap.size T 1 v n xs):
  ∃ s:Sl,v=.slice s.a s.len s.cap∧Sat R (Own s T xs::Hs) w':=by
 obtain ⟨hl,h1|⟨g,cap,cur,rfl,hg,hb,hn,hc,hcs,ht⟩⟩:=hr
 ·obtain ⟨rfl,rfl⟩:=h1
  have:xs=[]:=by simpa using hl
  subst this
  exact ⟨⟨none,0,0⟩,rfl,Own.nil (h.keeps (.of_below e))⟩
 ·rw [Nat.mul_one] at *
  have h2:=h.fresh (.of_below e) hg hb
  have e1:cur=(xs++cur.toList.drop n).toArray:=by
   apply Array.ext'
   rw [←ht];simp
  rw [e1] at h2
  have h3:=Own.of_pts h2
  refine ⟨_,?_,h3⟩
  have:(xs++cur.toList.drop n).length=cap:=by
   have e2:cur.toList.length=cap:=by rw [Array.length_toList];exact hcs
   rw [List.length_append,List.length_drop,e2,hl];omega
  simp only [this,hl]
end Go.VC
/- SL, part 10: slices whose elements are structs of n cells: one's own, or only read; elements, stores, append. No condition but bounds on lengths. -/
namespace Go.VC
set_option linter.unusedVariables false
set_option linter.unusedSimpArgs false
open Go Go.RowKit
variable {P:Program} {R:Cx} {Hs Rest:List HP} {w:World} {s:Sl} {T:TypeId} {n:Nat}
def Wid (n:Nat) (rows:List (List Value)):Prop:=∀ x∈rows,x.length=n
theorem Wid.nil {n:Nat}:Wid n []:=fun _ h=>by cases h
theorem Wid.app {n:Nat} {a b:List (List Value)} (ha:Wid n a) (hb:Wid n b):Wid n (a++b):=fun x hx=>(List.mem_append.1 hx).elim (ha x) (hb x)
theorem Wid.one {n:Nat} {x:List Value} (h:x.length=n):Wid n [x]:=fun y hy=>by simp at hy;rw [hy];exact h
theorem Wid.len {n:Nat}:∀ {rows:List (List Value)},Wid n rows→rows.flatten.length=rows.length * n
 |[],_=>by simp
 |x::rows,h=>by
  rw [List.flatten_cons,List.length_append,h x List.mem_cons_self,Wid.len (rows:=rows) (fun y hy=>h y (List.mem_cons_of_mem _ hy)),List.length_cons,Nat.add_mul]
  omega
theorem Wid.drop_flat {n:Nat}:∀ {rows:List (List Value)} (k:Nat),Wid n rows→rows.flatten.drop (k * n)=(rows.drop k).flatten
 |rows,0,_=>by simp
 |[],k + 1,_=>by simp
 |x::rows,k + 1,h=>by
  have hx:=h x List.mem_cons_self
  rw [List.flatten_cons,List.drop_succ_cons,←Wid.drop_flat (rows:=rows) k (fun y hy=>h y (List.mem_cons_of_mem _ hy)),List.drop_append]
  have e1:x.drop ((k + 1) * n)=[]:=List.drop_eq_nil_of_le (by rw [hx,Nat.add_mul];omega)
  have e2:(k + 1) * n - x.length=k * n:=by rw [hx,Nat.add_mul];omega
  rw [e1,e2,List.nil_append]
theorem Wid.take_flat {n:Nat} {rows:List (List Value)} (k:Nat) (h:Wid n rows):rows.flatten.take (k * n)=(rows.take k).flatten:=by
 by_cases hk:k≤rows.length
 ·have e:rows.flatten=(rows.take k).flatten++(rows.drop k).flatten:=by rw [←List.flatten_append,List.take_append_drop]
  rw [e,List.take_left']
  rw [Wid.len (fun x hx=>h x (List.mem_of_mem_take hx)),List.length_take,Nat.min_eq_left hk]
 ·rw [List.take_of_length_le (by rw [h.len];exact Nat.mul_le_mul_right _ (by omega)),List.take_of_length_le (by omega)]
theorem Wid.take {n k:Nat} {rows:List (List Value)} (h:Wid n rows):Wid n (rows.take k):=fun x hx=>h x (List.mem_of_mem_take hx)
theorem Wid.drop {n k:Nat} {rows:List (List Value)} (h:Wid n rows):Wid n (rows.drop k):=fun x hx=>h x (List.mem_of_mem_drop hx)
theorem Wid.set {n k:Nat} {rows:List (List Value)} {x:List Value} (h:Wid n rows) (hx:x.length=n):Wid n (rows.set k x):=fun y hy=>by
 rcases List.mem_or_eq_of_mem_set hy with hy|rfl
 ·exact h y hy
 ·exact hx
theorem Pre.app:∀ {vs a:List Value} (b:List Value),Pre vs a→Pre vs (a++b)
 |[],_,_,_=>trivial
 |_::_,_::_,b,h=>⟨h.1,Pre.app b h.2⟩
 |_::_,[],_,h=>h.elim
theorem Pre.len:∀ {vs a:List Value},Pre vs a→vs.length≤a.length
 |[],_,_=>Nat.zero_le _
 |_::_,_::_,h=>by simp only [List.length_cons];exact Nat.succ_le_succ (Pre.len h.2)
 |_::_,[],h=>h.elim
theorem Wid.pre {n k j:Nat} {rows:List (List Value)} (rest:List Value) (h:Wid n rows) (hk:k<rows.length) {vs:List Value} (hp:Pre vs (rows[k].drop j)):Pre vs ((rows.flatten++rest).drop (k * n + j)):=by
 cases vs with
 |nil=>trivial
 |cons v vs=>
  have hj:j<rows[k].length:=by
   have:=Pre.len hp;simp only [List.length_cons,List.length_drop] at this;omega
  have hx:rows[k].length=n:=h _ (List.getElem_mem _)
  have hle:k * n + j≤rows.flatten.length:=by
   rw [h.len]
   have:(k + 1) * n≤rows.length * n:=Nat.mul_le_mul_right _ (by omega)
   rw [Nat.add_mul] at this
   omega
  rw [List.drop_append_of_le_length hle,Nat.add_comm (k * n) j,←List.drop_drop]
  rw [Nat.add_comm] at hle
  rw [List.drop_drop,Nat.add_comm j,←List.drop_drop,h.drop_flat,List.drop_eq_getElem_cons hk,List.flatten_cons,List.drop_append_of_le_length (by omega),List.append_assoc]
  exact hp.app _
theorem set_flat {n:Nat}:∀ {rows:List (List Value)} {k j:Nat} (v:Value),Wid n rows→(hk:k<rows.length)→j<n→rows.flatten.set (k * n + j) v=(rows.set k (rows[k].set j v)).flatten
 |[],k,j,v,_,hk,_=>by simp at hk
 |x::rows,0,j,v,h,_,hj=>by
  have hx:=h x List.mem_cons_self
  simp only [Nat.zero_mul,Nat.zero_add,List.flatten_cons,List.getElem_cons_zero,List.set_cons_zero]
  rw [List.set_append_left _ _ (by omega)]
 |x::rows,k + 1,j,v,h,hk,hj=>by
  have hx:=h x List.mem_cons_self
  have hk':k<rows.length:=by simpa using hk
  simp only [List.flatten_cons,List.getElem_cons_succ,List.set_cons_succ]
  rw [List.set_append_right _ _ (by rw [hx,Nat.add_mul];omega)]
  have e:(k + 1) * n + j - x.length=k * n + j:=by rw [hx,Nat.add_mul];omega
  rw [e,set_flat v (fun y hy=>h y (List.mem_cons_of_mem _ hy)) hk' hj]
theorem putL_flat {n:Nat} {rest:List Value}:∀ (vs:List Value) {rows:List (List Value)} {k j:Nat},Wid n rows→(hk:k<rows.length)→j + vs.length≤n→
  putL (rows.flatten++rest) (k * n + j) vs=(rows.set k (putL rows[k] j vs)).flatten++rest
 |[],rows,k,j,_,hk,_=>by simp [putL]
 |v::vs,rows,k,j,h,hk,hj=>by
  simp only [List.length_cons] at hj
  have hb:k * n + j<rows.flatten.length:=by
   rw [h.len]
   have:(k + 1) * n≤rows.length * n:=Nat.mul_le_mul_right _ (by omega)
   rw [Nat.add_mul] at this
   omega
  rw [putL,List.set_append_left _ _ hb,set_flat v h hk (by omega),Nat.add_assoc,putL_flat vs (h.set (by rw [List.length_set];exact h _ (List.getElem_mem _))) (by simpa using hk) (by omega)]
  simp [putL]
def OwnN (n:Nat) (s:Sl) (T:TypeId) (rows:List (List Value)):HP:=fun h=>
 Wid n rows∧((s=⟨none,0,0⟩∧rows=[]∧h=Heap.none)∨
  ∃ b rest fr cap,s=⟨some ⟨b,0,none⟩,rows.length,cap⟩∧(rows.flatten++rest).length=cap * n∧okFr (cap * n) fr∧h=Heap.one b (.cells (rows.flatten++rest).toArray T fr))
theorem OwnN.nil (h:Sat R Hs w):Sat R (OwnN n ⟨none,0,0⟩ T []::Hs) w:=
 ⟨Heap.none,⟨Wid.nil,.inl ⟨rfl,rfl,rfl⟩⟩,fun i hi=>absurd rfl hi,by rw [Cx.add_none];exact h⟩
theorem OwnN.of_pts {b cap:Nat} {fr:Nat × Nat} {rows:List (List Value)} {rest:List Value} (hwid:Wid n rows) (hl:(rows.flatten++rest).length=cap * n) (h:Sat R (pts b (.cells (rows.flatten++rest).toArray T fr)::Hs) w)
  (hf:okFr (cap * n) fr:=by first|assumption|exact Or.inl rfl):Sat R (OwnN n ⟨some ⟨b,0,none⟩,rows.length,cap⟩ T rows::Hs) w:=
 let ⟨a,ha,hd,hs⟩:=h;⟨a,⟨hwid,.inr ⟨b,rest,fr,cap,rfl,hl,hf,ha⟩⟩,hd,hs⟩
theorem OwnN.cases {rows:List (List Value)} (h:Sat R (OwnN n s T rows::Hs) w):Wid n rows∧
  ((s=⟨none,0,0⟩∧rows=[]∧Sat R Hs w)∨∃ b rest fr cap,s=⟨some ⟨b,0,none⟩,rows.length,cap⟩∧(rows.flatten++rest).length=cap * n∧okFr (cap * n) fr∧Sat R (pts b (.cells (rows.flatten++rest).toArray T fr)::Hs) w):=by
 obtain ⟨a,⟨hwid,ha⟩,hd,hs⟩:=h
 refine ⟨hwid,?_⟩
 rcases ha with ⟨h1,h2,rfl⟩|⟨b,rest,fr,cap,h1,h3,hf,rfl⟩
 ·rw [Cx.add_none] at hs;exact .inl ⟨h1,h2,hs⟩
 ·exact .inr ⟨b,rest,fr,cap,h1,h3,hf,_,rfl,hd,hs⟩
theorem OwnN.wid {rows:List (List Value)} (h:Sat R (OwnN n s T rows::Hs) w):Wid n rows:=(OwnN.cases h).1
theorem OwnN.len {rows:List (List Value)} (h:Sat R (OwnN n s T rows::Hs) w):s.len=rows.length:=by
 rcases (OwnN.cases h).2 with ⟨rfl,rfl,_⟩|⟨b,rest,fr,cap,rfl,_,_⟩<;>rfl
theorem OwnN.cap {rows:List (List Value)} (hn:0<n) (h:Sat R (OwnN n s T rows::Hs) w):s.len≤s.cap:=by
 have hwid:=(OwnN.cases h).1
 rcases (OwnN.cases h).2 with ⟨rfl,rfl,_⟩|⟨b,rest,fr,cap,rfl,hl,_⟩
 ·exact Nat.le_refl _
 ·rw [List.length_append,hwid.len] at hl
  simp only
  have:rows.length * n≤cap * n:=by omega
  exact Nat.le_of_mul_le_mul_right this hn
def ReadsN (n:Nat) (s:Sl) (rows:List (List Value)) (S:World→Prop):Prop:=
 s.len=rows.length∧∀ k (hk:k<rows.length),∃ b off,s.a=some ⟨b,off,none⟩∧∀ j vs,Pre vs (rows[k].drop j)→At S ⟨b,off + (k * n + j),none⟩ vs
theorem OwnN.reads {rows:List (List Value)} (hw:Sat R (OwnN n s T rows::Hs) w) {S:World→Prop} {Hs'} (hS:∀ w,S w→Sat R (OwnN n s T rows::Hs') w):ReadsN n s rows S:=by
 refine ⟨OwnN.len hw,fun k hk=>?_⟩
 obtain ⟨hwid,⟨_,rfl,_⟩|⟨b,rest,fr,cap,rfl,hl,_,_⟩⟩:=OwnN.cases hw
 ·simp at hk
 ·refine ⟨b,0,rfl,fun j vs hp w hw i v hv=>?_⟩
  obtain ⟨_,⟨h0,_,_⟩|⟨b',rest',fr',cap',he,_,_,h⟩⟩:=OwnN.cases (hS w hw)
  ·cases h0
  ·simp only [Sl.mk.injEq,Option.some.injEq,Addr.mk.injEq,and_true] at he
   obtain ⟨rfl,_⟩:=he
   have:=(Wid.pre rest' hwid hk hp).get i v hv
   rw [List.getElem?_drop] at this
   rw [add_off,Nat.zero_add,cell_of h.at,this]
theorem ReadsN.rng {S:World→Prop} {rows:List (List Value)} (h:ReadsN n s rows S) {k:Nat} (hk:k<rows.length) {F:Addr→Prop} (f:∀ b off,s.a=some ⟨b,off,none⟩→(∀ j vs,Pre vs (rows[k].drop j)→At S ⟨b,off + (k * n + j),none⟩ vs)→F ⟨b,off,none⟩):
  Rng (k:Int) s.len (NilP s.a F):=by
 obtain ⟨b,off,ha,hat⟩:=h.2 k hk
 have:=h.1
 exact Rng.mk (by omega) (by omega) (NilP.mk ha (f b off ha hat))
theorem elt_addr (b off k n j:Nat):(⟨(Addr.add ⟨b,off,none⟩ (mulS k n)).block,(Addr.add ⟨b,off,none⟩ (mulS k n)).off + j,none⟩:Addr)=⟨b,off + (k * n + j),none⟩:=by
 rw [add_off,mulS_eq];simp only [Addr.mk.injEq,and_true,true_and];omega
theorem elt_addr0 (b off k n:Nat):Addr.add ⟨b,off,none⟩ (mulS k n)=⟨b,off + (k * n + 0),none⟩:=by
 rw [add_off,mulS_eq];rfl
theorem OwnN.store {rows:List (List Value)} {t:TypeId} {v:Value} {k j:Nat} {b off:Nat} {K:World→Prop} (hw:Sat R (OwnN n s T rows::Hs) w) (ha:s.a=some ⟨b,off,none⟩) (hsz:(P.info? t).map (·.size)=some v.cells.toList.length) (h1:oneAll v.cells.toList=true)
  (hk:k<rows.length) (hj:j + v.cells.toList.length≤n) (h:∀ w',Sat R (OwnN n s T (rows.set k (putL rows[k] j v.cells.toList))::Hs) w'→K w'):
  ∃ w',(Instr.storeAt t (.pointer (some ⟨b,off + (k * n + j),none⟩)) v).run P w=.ok () w'∧K w':=by
 obtain ⟨hwid,⟨rfl,_,_⟩|⟨b',rest,fr,cap,rfl,hl,hf,hp⟩⟩:=OwnN.cases hw
 ·cases ha
 ·simp only [Option.some.injEq,Addr.mk.injEq,and_true] at ha
  obtain ⟨rfl,rfl⟩:=ha
  have hlt:(k + 1) * n≤rows.length * n:=Nat.mul_le_mul_right _ (by omega)
  rw [Nat.add_mul] at hlt
  have hll:=hl
  rw [List.length_append,hwid.len] at hll
  rw [Nat.zero_add]
  refine store_rule hp hsz h1 (by rw [List.length_append,hwid.len];omega) (fun w' h2=>h w' ?_) (by rw [hl];exact hf)
  rw [putL_flat _ hwid hk hj] at h2
  have hl2:(putL rows[k] j v.cells.toList).length=n:=by rw [putL_len];exact hwid _ (List.getElem_mem _)
  have:=OwnN.of_pts (cap:=cap) (hwid.set hl2) (by rw [←hl,List.length_append,List.length_append,(hwid.set hl2).len,List.length_set,hwid.len]) h2
  rw [List.length_set] at this
  exact this
structure RoN (n:Nat) (R:Cx) (s:Sl) (rows:List (List Value)):Prop where
 wid:Wid n rows
 len:s.len=rows.length
 mem:rows≠[]→∃ b off l T fr,s.a=some ⟨b,off,none⟩∧R.m b=some (.cells l T fr)∧∀ (i:Nat) v,rows.flatten[i]? =some v→l[off + i]? =some v
theorem RoN.add {h:Heap} {rows:List (List Value)} (hr:RoN n R s rows):RoN n (R.add h) s rows:=
 ⟨hr.wid,hr.len,fun hx=>let ⟨b,off,l,T,fr,ha,hb,hl⟩:=hr.mem hx;⟨b,off,l,T,fr,ha,Cx.kept hb,hl⟩⟩
theorem RoN.reads {rows:List (List Value)} (hr:RoN n R s rows) {S:World→Prop} {Hs'} (hS:∀ w,S w→Sat R Hs' w):ReadsN n s rows S:=by
 refine ⟨hr.len,fun k hk=>?_⟩
 obtain ⟨b,off,l,T,fr,ha,hb,hl⟩:=hr.mem (fun h=>by rw [h] at hk;simp at hk)
 refine ⟨b,off,ha,fun j vs hp w hw i v hv=>?_⟩
 have h1:=(Wid.pre [] hr.wid hk hp).get i v hv
 rw [List.append_nil,List.getElem?_drop] at h1
 have:=(hS w hw).of_ro hb
 rw [add_off]
 simp only [World.cell?,this,Option.isSome_none,Bool.false_eq_true,if_false]
 rw [Nat.add_assoc]
 exact hl _ _ h1
theorem OwnN.lend {rows:List (List Value)} (h:Sat R (OwnN n s T rows::Hs) w):
  ∃ R':Cx,RoN n R' s rows∧(∃ x,R'=R.add x)∧Sat R' Hs w∧∀ {Hs' w'},Sat R' Hs' w'→Sat R (OwnN n s T rows::Hs') w':=by
 obtain ⟨hwid,⟨rfl,rfl,h2⟩|⟨b,rest,fr,cap,rfl,hl,hf,h2⟩⟩:=OwnN.cases h
 ·exact ⟨R,⟨hwid,rfl,fun h=>absurd rfl h⟩,⟨Heap.none,(Cx.add_none R).symm⟩,h2,fun h=>OwnN.nil h⟩
 ·obtain ⟨hn,h3⟩:=Sat.lend.1 h2
  refine ⟨_,⟨hwid,rfl,fun _=>⟨b,0,_,T,fr,rfl,Cx.lent hn,fun i v hv=>?_⟩⟩,⟨_,rfl⟩,h3,fun h=>OwnN.of_pts hwid hl (Sat.lend.2 ⟨hn,h⟩)⟩
  obtain ⟨hi,rfl⟩:=List.getElem?_eq_some_iff.1 hv
  simp [List.getElem?_append_left hi]
theorem RoN.sub {rows:List (List Value)} (hr:RoN n R s rows) {l h m:Nat} (hlh:l≤h) (hh:h≤rows.length) (hm:m=l→h=l):RoN n R ⟨cutA s.a l m n,h - l,m - l⟩ ((rows.take h).drop l):=by
 have hwid:Wid n ((rows.take h).drop l):=hr.wid.take.drop
 refine ⟨hwid,by simp;omega,fun hne=>?_⟩
 have hlt:l<h:=by
  have:0<((rows.take h).drop l).length:=List.length_pos_iff.2 hne
  simp at this;omega
 obtain ⟨b,off,ls,T,fr,ha,hb,hl⟩:=hr.mem (fun h0=>by rw [h0] at hh;simp at hh;omega)
 refine ⟨b,off + l * n,ls,T,fr,?_,hb,fun i v hv=>?_⟩
 ·unfold cutA
  rw [if_neg (fun e=>by have:=hm e;omega),ha]
  simp [add_off]
 ·rw [Nat.add_assoc]
  refine hl _ _ ?_
  have e1:((rows.take h).drop l).flatten=(rows.flatten.take (h * n)).drop (l * n):=by
   rw [hr.wid.take_flat,hr.wid.take.drop_flat]
  rw [e1,List.getElem?_drop] at hv
  rw [List.getElem?_take] at hv
  split at hv
  ·exact hv
  ·cases hv
theorem RoN.take {rows:List (List Value)} (hr:RoN n R s rows) {h:Nat} (hh:h≤rows.length) (c:Nat):RoN n R ⟨s.a,h,c⟩ (rows.take h):=
 ⟨hr.wid.take,by simp;omega,fun hne=>by
  obtain ⟨b,off,ls,T,fr,ha,hb,hl⟩:=hr.mem (fun h0=>hne (by rw [h0];simp))
  refine ⟨b,off,ls,T,fr,ha,hb,fun i v hv=>hl _ _ ?_⟩
  rw [←hr.wid.take_flat,List.getElem?_take] at hv
  split at hv
  ·exact hv
  ·cases hv⟩
def elBN (P:Program) (T:TypeId) (n bytes:Nat):Bool:=
 match P.info? T with
 |some i=>match i.zero with
  |some z=>i.size==n && i.bytes==bytes && z.cells.size==n
  |none=>false
 |none=>false
structure ElN (P:Program) (t1 t2 T:TypeId) (n bytes:Nat):Prop where
 ht:P.underlying t1=some (.slice T)
 hk:∃ e',P.underlying t2=some (.slice e')
 hi:elBN P T n bytes=true
theorem elBN_out {P:Program} {T:TypeId} {n bytes:Nat} (h:elBN P T n bytes=true):∃ i z,P.info? T=some i∧i.zero=some z∧i.size=n∧i.bytes=bytes∧z.cells.size=n:=by
 unfold elBN at h
 split at h
 ·rename_i i hi
  split at h
  ·rename_i z hz
   simp only [Bool.and_eq_true,beq_iff_eq] at h
   exact ⟨i,z,hi,hz,h.1.1,h.1.2,h.2⟩
  ·cases h
 ·cases h
theorem appendN_rule {t1 t2 ty:TypeId} {bytes:Nat} (E:ElN P t1 t2 T n bytes) {rows ys:List (List Value)} {src:Value} {K:Sl→World→Prop}
  (hw:Sat R (OwnN n s T rows::Hs) w) (hs:Src P n t2 src ys.length ys.flatten w) (hy:Wid n ys) (hb:2 * (rows.length + ys.length) * bytes≤281474976710656) (hb':rows.length + ys.length≤9223372036854775807)
  (k:∀ s' w',Sat R (OwnN n s' T (rows++ys)::Hs) w'→K s' w'):
  ∃ w',∃ t:Sl,(Builtin.append_ #[t1,t2] ty #[.slice s.a s.len s.cap,src]).run P w=.ok (.slice t.a t.len t.cap) w'∧K t w':=by
 obtain ⟨i,z,hi,hz,hsize,hbytes,hzc⟩:=elBN_out E.hi
 have hs':Src P i.size t2 src ys.length ys.flatten w:=by rw [hsize];exact hs
 have hlen:=OwnN.len hw
 have hwid:=OwnN.wid hw
 have hwid2:=hwid.app hy
 generalize hcn:ys.length=c at *
 have fit:∀ cap,cap<rows.length + c→Builtin.nextslicecap (rows.length + c) cap * i.bytes≤281474976710656:=fun cap hc=>by
  have h2:Builtin.nextslicecap (rows.length + c) cap≤2 * (rows.length + c):=by
   unfold Builtin.nextslicecap
   split
   ·omega
   ·split
    ·omega
    ·have:=nextslicecap_le_wide hc
     unfold Builtin.nextslicecap at this
     rw [if_neg (by assumption),if_neg (by assumption)] at this
     omega
  rw [hbytes]
  exact Nat.le_trans (Nat.mul_le_mul_right _ h2) hb
 -- a new row
 have grow:∀ (base:Option Addr) (cap:Nat),cap<rows.length + c→(Builtin.firstCells i.size rows.length (.slice base rows.length cap)).run P w.drew=.ok rows.flatten.toArray w.drew→Sat R Hs w→
   ∃ w',∃ t:Sl,(Builtin.append_ #[t1,t2] ty #[.slice base rows.length cap,src]).run P w=.ok (.slice t.a t.len t.cap) w'∧K t w':=fun base cap hc hold hw=>by
  have hr:=run_append_grow_src w t1 t2 ty T i z E.ht hi hz base rows.length cap rows.flatten hold src c ys.flatten hs' hc (by omega) (fit cap hc)
  refine ⟨_,⟨some ⟨w.heap.size,0,none⟩,rows.length + c,grownCap w (rows.length + c) cap T⟩,hr,k _ _ ?_⟩
  have hz0:(Builtin.zeroCells z.cells (grownCap w (rows.length + c) cap T - (rows.length + c))).size=(grownCap w (rows.length + c) cap T - (rows.length + c)) * n:=by
   simp [Builtin.zeroCells,hzc]
  have hg:=grownCap_ge w (rows.length + c) cap T
  generalize hG:grownCap w (rows.length + c) cap T=G at *
  have ho':Obj.cells ((rows.flatten++ys.flatten).toArray++Builtin.zeroCells z.cells (G - (rows.length + c))) T=.cells ((rows++ys).flatten++(Builtin.zeroCells z.cells (G - (rows.length + c))).toList).toArray T (0,0):=by
   congr 1
   apply Array.ext';simp
  have:=Sat.alloc (Obj.cells ((rows.flatten++ys.flatten).toArray++Builtin.zeroCells z.cells (G - (rows.length + c))) T) (Sat.drew hw)
  rw [ho'] at this ⊢
  have hlenG:((rows++ys).flatten++(Builtin.zeroCells z.cells (G - (rows.length + c))).toList).length=G * n:=by
   have hz1:(Builtin.zeroCells z.cells (G - (rows.length + c))).toList.length=(G - (rows.length + c)) * n:=by rw [Array.length_toList];exact hz0
   rw [List.length_append,hz1,hwid2.len,List.length_append,hcn,←Nat.add_mul]
   congr 1;omega
  have h3:=OwnN.of_pts (cap:=G) hwid2 hlenG this
  have e:(⟨some ⟨w.drew.heap.size,0,none⟩,(rows++ys).length,G⟩:Sl)=⟨some ⟨w.heap.size,0,none⟩,rows.length + c,G⟩:=by
   simp only [List.length_append,World.size_drew,hcn]
  rw [e] at h3
  exact h3
 obtain ⟨_,⟨rfl,rfl,hz2⟩|⟨b,rest,fr,cap,rfl,hl,hfr,hp⟩⟩:=OwnN.cases hw
 ·by_cases hn0:c=0
  ·subst hn0
   have hy0:ys=[]:=List.length_eq_zero_iff.1 hcn
   subst hy0
   obtain ⟨e',he'⟩:=E.hk
   refine ⟨w,⟨none,0,0⟩,?_,k _ _ (by simpa using OwnN.nil hz2)⟩
   have hcz:=hs'.cells
   simp [Builtin.append_,run_underlying E.ht,run_underlying he',sizeOf,typeInfo,hi,hs'.len,hcz]
  ·exact grow none 0 (by simp;omega) (run_firstCells_none w.drew i.size 0 0 0) hz2
 ·have hl0:=hl
  rw [List.length_append,hwid.len] at hl
  by_cases hroom:rows.length + c≤cap
  ·have hat:=hp.at
   have hcapn:(rows.length + c) * n≤cap * n:=Nat.mul_le_mul_right _ hroom
   rw [Nat.add_mul] at hcapn
   have hyl:ys.flatten.length=c * n:=by rw [hy.len,hcn]
   have hr:=run_append_room_src w t1 t2 ty T i E.ht hi b 0 rows.length cap src c ys.flatten hs' hroom
    (fun j hj=>by
     rw [cell_of hat,hsize,List.getElem?_eq_getElem (by rw [hl0];omega)];rfl) (fun j hj=>frozen_no hat hfr (by rw [hsize];omega))
   refine ⟨_,⟨some ⟨b,0,none⟩,rows.length + c,cap⟩,hr,k _ _ ?_⟩
   have h2:=setCells_sat ys.flatten (rows.flatten++rest) (rows.length * n) w hp
   have e1:putL (rows.flatten++rest) (rows.length * n) ys.flatten=(rows++ys).flatten++rest.drop (c * n):=by
    rw [putL_eq _ _ _ (by rw [hyl,hl0];omega),List.take_left' hwid.len,hyl,←List.drop_drop,List.drop_left' hwid.len]
    simp
   rw [e1] at h2
   rw [hsize,Nat.zero_add]
   have h3:=OwnN.of_pts (cap:=cap) hwid2 (by rw [List.length_append,hwid2.len,List.length_append,hcn,List.length_drop,Nat.add_mul];omega) h2
   rw [List.length_append,hcn] at h3
   exact h3
  ·have hat:=hp.at
   refine grow (some ⟨b,0,none⟩) cap (by omega) ?_ hp.drop
   refine run_firstCells_some w.drew i.size rows.length ⟨b,0,none⟩ rows.length _ rows.flatten (by rw [hsize,hwid.len]) ?_
   intro j u hj
   rw [World.cell?_drew,add_off,cell_of hat,Nat.zero_add]
   obtain ⟨hlt,rfl⟩:=List.getElem?_eq_some_iff.1 hj
   simp [List.getElem?_append_left hlt]
theorem SrcN_one {t2:TypeId} (hk:∃ e',P.underlying t2=some (.slice e')) {b:Nat} {x:List Value} {fr:Nat × Nat} (c:Nat)
  (hw:Sat R Hs w) [t:TakeP b Hs (.cells x.toArray T fr) Rest] (hx:x.length=n) (h1:oneAll x=true):Src P n t2 (.slice (some ⟨b,0,none⟩) 1 c) [x].length [x].flatten w:=by
 obtain ⟨e',he'⟩:=hk
 refine Go.Src.ofSlice w he' _ 1 c _ (by simp [hx]) ?_ ?_
 ·intro j u hj
  have:=hw.look b
  rw [add_off,cell_of this];simpa using hj
 ·intro u hu;simp at hu;exact List.all_eq_true.1 h1 u hu
theorem srcRoN {t2:TypeId} (ht:∃ e',P.underlying t2=some (.slice e')) {rows:List (List Value)} (hw:Sat R Hs w) (hs:RoN n R s rows) (h1:oneAll rows.flatten=true):Src P n t2 (.slice s.a s.len s.cap) rows.length rows.flatten w:=by
 obtain ⟨e',ht⟩:=ht
 have hl:s.len=rows.length:=hs.len
 by_cases hx:rows=[]
 ·subst hx
  obtain ⟨a,n,c⟩:=s
  simp only [List.length_nil] at hl
  subst hl
  cases a with
  |none=>exact Go.Src.ofNil _ ht _
  |some a=>exact Go.Src.ofSlice w ht _ 0 _ [] (by simp) (fun j u hj=>by simp at hj) (fun u hu=>by cases hu)
 ·obtain ⟨b,off,l,T,fr,ha,hb,hel⟩:=hs.mem hx
  obtain ⟨a,n,c⟩:=s
  simp only at ha hl
  subst ha hl
  refine Go.Src.ofSlice w ht _ _ _ _ (by rw [hs.wid.len]) (fun j u hj=>?_) (fun u hu=>List.all_eq_true.1 h1 u hu)
  rw [add_off]
  have:=hw.of_ro hb
  simp only [World.cell?,this,Option.isSome_none,Bool.false_eq_true,if_false]
  exact hel j u hj
theorem pushN_rule {t1 t2 ty T':TypeId} {bytes:Nat} (E:ElN P t1 t2 T n bytes) {rows:List (List Value)} {x:List Value} {K:Sl→World→Prop}
  (hw:Sat R (OwnN n s T rows::Hs) w) (hx:x.length=n) (h1:oneAll x=true) (hb:2 * (rows.length + 1) * bytes≤281474976710656) (hb':rows.length + 1≤9223372036854775807)
  (k:∀ s' w',Sat R (OwnN n s' T (rows++[x])::Hs) w'→K s' w'):
  New (.cells x.toArray T' (0,0)) (fun b w=>∃ w',∃ t:Sl,(Builtin.append_ #[t1,t2] ty #[.slice s.a s.len s.cap,.slice (some ⟨b,0,none⟩) 1 1]).run P w=.ok (.slice t.a t.len t.cap) w'∧K t w') w:=by
 refine new_rule hw fun b w hw=>?_
 have hw:Sat R (pts b (.cells x.toArray T' (0,0))::OwnN n s T rows::Hs) w:=hw
 exact appendN_rule E hw.swap (SrcN_one E.hk 1 hw hx h1) (Wid.one hx) hb hb' fun s' w' h=>k s' w' h.swap.drop
theorem OwnN.empty {b:Nat} {fr:Nat × Nat} (h:Sat R (pts b (.cells #[] T fr)::Hs) w):Sat R (OwnN n ⟨some ⟨b,0,none⟩,0,0⟩ T []::Hs) w:=
 OwnN.of_pts (rows:=[]) (rest:=[]) (cap:=0) Wid.nil (by simp) h (.inr (by simp))
theorem appendN0_rule {t1 t2 ty:TypeId} {bytes b:Nat} {fr:Nat × Nat} (E:ElN P t1 t2 T n bytes) {ys:List (List Value)} {src:Value} {K:Sl→World→Prop}
  (hw:Sat R Hs w) [tk:TakeP b Hs (.cells ([]:List Value).toArray T fr) Rest] (hs:Src P n t2 src ys.length ys.flatten w) (hy:Wid n ys) (hb:2 * ys.length * bytes≤281474976710656) (hb':ys.length≤9223372036854775807)
  (k:∀ s' w',Sat R (OwnN n s' T ys::Rest) w'→K s' w'):
  ∃ w',∃ t:Sl,(Builtin.append_ #[t1,t2] ty #[.slice (some ⟨b,0,none⟩) 0 0,src]).run P w=.ok (.slice t.a t.len t.cap) w'∧K t w':=by
 have h2:=appendN_rule (ty:=ty) (s:=⟨some ⟨b,0,none⟩,0,0⟩) (K:=K) E (OwnN.empty (hw.takeP tk)) hs hy (by simpa using hb) (by simpa using hb') (by simpa using k)
 exact h2
theorem append0_rule {t1 t2 ty:TypeId} {bytes b:Nat} {fr:Nat × Nat} (E:El P t1 t2 T bytes) {ys:List Value} {src:Value} {m:Nat} {K:Sl→World→Prop}
  (hw:Sat R Hs w) [tk:TakeP b Hs (.cells ([]:List Value).toArray T fr) Rest] (hs:Src P 1 t2 src m ys w) (hb:2 * m * bytes≤281474976710656) (hb':m≤9223372036854775807)
  (k:∀ s' w',Sat R (Own s' T ys::Rest) w'→K s' w'):
  ∃ w',∃ t:Sl,(Builtin.append_ #[t1,t2] ty #[.slice (some ⟨b,0,none⟩) 0 0,src]).run P w=.ok (.slice t.a t.len t.cap) w'∧K t w':=by
 have h0:Sat R (Own ⟨some ⟨b,0,none⟩,0,0⟩ T []::Rest) w:=Own.of_pts (xs:=[]) (rest:=[]) (hw.takeP tk) (.inr (by simp))
 have h2:=append_rule (ty:=ty) (s:=⟨some ⟨b,0,none⟩,0,0⟩) (K:=K) E h0 hs rfl (by simpa using hb) (by simpa using hb') (by simpa using k)
 exact h2
structure Elt (n:Nat) (S:World→Prop) (a:Addr) (k:Nat) (row:List Value):Prop where
 f:∀ (j:Nat) {vs:List Value},Pre vs (row.drop j)→At S ⟨(Addr.add a (mulS (k:Int).toNat n)).block,(Addr.add a (mulS (k:Int).toNat n)).off + j,none⟩ vs
 z:∀ {vs:List Value},Pre vs row→At S (Addr.add a (mulS (k:Int).toNat n)) vs
 zz:∀ {vs:List Value},Pre vs row→At S (Addr.add (Addr.add a (mulS (k:Int).toNat n)) 0) vs
theorem elt_addr00 (b off k n:Nat):Addr.add (Addr.add ⟨b,off,none⟩ (mulS k n)) 0=⟨b,off + (k * n + 0),none⟩:=by
 rw [elt_addr0,add_off];rfl
theorem ReadsN.rngM {α:Type} {E:List α} {g:α→List Value} {S:World→Prop} (h:ReadsN n s (E.map g) S) {k:Nat} (hk:k<E.length) {F:Addr→Prop} (f:∀ a,s.a=some a→Elt n S a k (g E[k])→F a):Rng (k:Int) s.len (NilP s.a F):=by
 have hg:(E.map g)[k]'(by simpa using hk)=g E[k]:=by simp
 refine h.rng (k:=k) (by simpa using hk) fun b off ha hat=>f _ ha ⟨fun j vs hp=>?_,fun hp=>?_,fun hp=>?_⟩
 ·rw [Int.toNat_natCast,elt_addr];exact hat j _ (by rw [hg];exact hp)
 ·rw [Int.toNat_natCast,elt_addr0];exact hat 0 _ (by rw [hg];exact hp)
 ·rw [Int.toNat_natCast,elt_addr00];exact hat 0 _ (by rw [hg];exact hp)
theorem OwnN.readsM {rows:List (List Value)} (hw:Sat R Hs w) [t:Take (OwnN n s T rows) Hs Rest] {S:World→Prop} (hS:∀ w,S w→Sat R Hs w):ReadsN n s rows S:=
 OwnN.reads (hw.perm t.perm) fun w h=>(hS w h).perm t.perm
theorem OwnN.storeM {α:Type} {E:List α} {g:α→List Value} {t:TypeId} {v:Value} {k:Nat} {a:Addr} {K:World→Prop} (j:Nat) (e':α) (hw:Sat R Hs w) [tk:Take (OwnN n s T (E.map g)) Hs Rest] (ha:s.a=some a) (hk:k<E.length)
  (hsz:(P.info? t).map (·.size)=some v.cells.toList.length) (h1:oneAll v.cells.toList=true) (hj:j + v.cells.toList.length≤n) (he:putL (g E[k]) j v.cells.toList=g e')
  (h:∀ w',Sat R (OwnN n s T ((E.set k e').map g)::Rest) w'→K w'):
  ∃ w',(Instr.storeAt t (.pointer (some ⟨(Addr.add a (mulS (k:Int).toNat n)).block,(Addr.add a (mulS (k:Int).toNat n)).off + j,none⟩)) v).run P w=.ok () w'∧K w':=by
 have hw:=hw.perm tk.perm
 have hg:(E.map g)[k]'(by simpa using hk)=g E[k]:=by simp
 have hb:∃ b off,a=⟨b,off,none⟩:=by
  obtain ⟨_,⟨rfl,_,_⟩|⟨b',rest,fr,cap,rfl,hl,hf,hp⟩⟩:=OwnN.cases hw
  ·cases ha
  ·simp only [Option.some.injEq] at ha;exact ⟨b',0,ha.symm⟩
 obtain ⟨b,off,rfl⟩:=hb
 rw [Int.toNat_natCast,elt_addr]
 refine OwnN.store hw ha hsz h1 (by simpa using hk) hj fun w' h2=>h w' ?_
 rw [hg,he] at h2
 rw [List.map_set];exact h2
class Arr (Hs Hs':List HP):Prop where
 perm:Hs.Perm Hs'
instance (priority:=2000) Arr.refl {Hs:List HP}:Arr Hs Hs:=⟨List.Perm.refl _⟩
instance Arr.cons {A:HP} {Hs Rest Hs':List HP} [t:Take A Hs Rest] [r:Arr Rest Hs']:Arr Hs (A::Hs'):=⟨t.perm.trans (r.perm.cons A)⟩
theorem Sat.arr {Hs':List HP} (h:Sat R Hs w) [a:Arr Hs Hs']:Sat R Hs' w:=h.perm a.perm
theorem Br.d {p:Prop} {inst:Decidable p} {A B:Prop} (h:p→A) (h':¬ p→B):Br (@decide p inst) A B:=Br.mk (fun e=>h (of_decide_eq_true e)) (fun e=>h' (of_decide_eq_false e))
theorem Br.nd {p:Prop} {inst:Decidable p} {A B:Prop} (h:¬ p→A) (h':p→B):Br (!@decide p inst) A B:=Br.mk (fun e=>h (by simpa using e)) (fun e=>h' (by simpa using e))
theorem Br.e {x y:Int} {A B:Prop} (h:x=y→A) (h':¬ x=y→B):Br (x==y) A B:=Br.mk (fun e=>h (by simpa using e)) (fun e=>h' (by simpa using e))
theorem Br.ne {x y:Int} {A B:Prop} (h:¬ x=y→A) (h':x=y→B):Br (x !=y) A B:=Br.mk (fun e=>h (by simpa using e)) (fun e=>h' (by simpa using e))
theorem Br.nne {x y:Int} {A B:Prop} (h:¬ x=y→A) (h':x=y→B):Br (!(x==y)) A B:=Br.mk (fun e=>h (by simpa using e)) (fun e=>h' (by simpa using e))
theorem Br.nb {b:Bool} {A B:Prop} (h:b=false→A) (h':b=true→B):Br (!b) A B:=Br.mk (fun e=>h (by simpa using e)) (fun e=>h' (by simpa using e))
theorem str_eql (a b:ByteArray):(a.toList==b.toList)=decide (a=b):=by
 rw [ByteArray.toList_eq,ByteArray.toList_eq]
 by_cases h:a=b
 ·simp [h]
 ·have:a.data≠b.data:=fun h2=>h (by cases a;cases b;simp_all)
  simp [h,this]
theorem Br.se {x y:ByteArray} {A B:Prop} (h:x=y→A) (h':¬ x=y→B):Br (x.toList==y.toList) A B:=by rw [str_eql];exact Br.d h h'
theorem Br.sne {x y:ByteArray} {A B:Prop} (h:¬ x=y→A) (h':x=y→B):Br (!(x.toList==y.toList)) A B:=by rw [str_eql];exact Br.nd h h'
end Go.VC
/- Integers of other kinds: wrapping, bits, shifts, as the formulas ask for them. No condition but ranges. -/
namespace Go.VC
set_option linter.unusedVariables false
set_option linter.unusedSimpArgs false
theorem wrapU8 {x:Int} (h0:0≤x) (h1:x<256):IntKind.u8.wrap x=x:=by rw [IntKind.wrap_u8'];omega
theorem wrapU8m (x:Int):IntKind.u8.wrap x=x % 256:=IntKind.wrap_u8' x
theorem wrapU32 {x:Int} (h0:0≤x) (h1:x<4294967296):IntKind.u32.wrap x=x:=by rw [IntKind.wrap_u32'];omega
theorem wrapU32m (x:Int):IntKind.u32.wrap x=x % 4294967296:=IntKind.wrap_u32' x
theorem wrapU64 {x:Int} (h0:0≤x) (h1:x<18446744073709551616):IntKind.u64.wrap x=x:=by rw [IntKind.wrap_u64];omega
theorem bv_toNat (n x:Nat) (h:x<2 ^ n):(BitVec.ofInt n (x:Int)).toNat=x:=by
 rw [BitVec.toNat_ofInt]
 have:((x:Int) % (2 ^ n:Nat))=x:=Int.emod_eq_of_lt (by omega) (by exact_mod_cast h)
 rw [this];rfl
theorem xorU32 {x y:Nat} (hx:x<4294967296) (hy:y<4294967296):bitI .xor .u32 x y=((x ^^^ y:Nat):Int):=by
 have e:(BitVec.ofInt 32 (x:Int) ^^^ BitVec.ofInt 32 (y:Int)).toNat=x ^^^ y:=by rw [BitVec.toNat_xor,bv_toNat 32 x hx,bv_toNat 32 y hy]
 show IntKind.u32.wrap (((BitVec.ofInt 32 (x:Int) ^^^ BitVec.ofInt 32 (y:Int)).toNat:Nat):Int)=_
 rw [e]
 have:x ^^^ y<4294967296:=Nat.xor_lt_two_pow (n:=32) hx hy
 exact wrapU32 (by omega) (by omega)
theorem andU32 {x y:Nat} (hx:x<4294967296) (hy:y<4294967296):bitI .and .u32 x y=((x &&& y:Nat):Int):=by
 have e:(BitVec.ofInt 32 (x:Int) &&& BitVec.ofInt 32 (y:Int)).toNat=x &&& y:=by rw [BitVec.toNat_and,bv_toNat 32 x hx,bv_toNat 32 y hy]
 show IntKind.u32.wrap (((BitVec.ofInt 32 (x:Int) &&& BitVec.ofInt 32 (y:Int)).toNat:Nat):Int)=_
 rw [e]
 have:x &&& y<4294967296:=Nat.and_lt_two_pow (n:=32) x hy
 exact wrapU32 (by omega) (by omega)
theorem orU32 {x y:Nat} (hx:x<4294967296) (hy:y<4294967296):bitI .or .u32 x y=((x|||y:Nat):Int):=by
 have e:(BitVec.ofInt 32 (x:Int)|||BitVec.ofInt 32 (y:Int)).toNat=x|||y:=by rw [BitVec.toNat_or,bv_toNat 32 x hx,bv_toNat 32 y hy]
 show IntKind.u32.wrap (((BitVec.ofInt 32 (x:Int)|||BitVec.ofInt 32 (y:Int)).toNat:Nat):Int)=_
 rw [e]
 have:x|||y<4294967296:=Nat.or_lt_two_pow (n:=32) hx hy
 exact wrapU32 (by omega) (by omega)
theorem xorU8 {x y:Nat} (hx:x<256) (hy:y<256):bitI .xor .u8 x y=((x ^^^ y:Nat):Int):=by
 have e:(BitVec.ofInt 8 (x:Int) ^^^ BitVec.ofInt 8 (y:Int)).toNat=x ^^^ y:=by rw [BitVec.toNat_xor,bv_toNat 8 x hx,bv_toNat 8 y hy]
 show IntKind.u8.wrap (((BitVec.ofInt 8 (x:Int) ^^^ BitVec.ofInt 8 (y:Int)).toNat:Nat):Int)=_
 rw [e]
 have:x ^^^ y<256:=Nat.xor_lt_two_pow (n:=8) hx hy
 exact wrapU8 (by omega) (by omega)
theorem orU64 {x y:Nat} (hx:x<18446744073709551616) (hy:y<18446744073709551616):bitI .or .u64 x y=((x|||y:Nat):Int):=by
 have e:(BitVec.ofInt 64 (x:Int)|||BitVec.ofInt 64 (y:Int)).toNat=x|||y:=by rw [BitVec.toNat_or,bv_toNat 64 x hx,bv_toNat 64 y hy]
 show IntKind.u64.wrap (((BitVec.ofInt 64 (x:Int)|||BitVec.ofInt 64 (y:Int)).toNat:Nat):Int)=_
 rw [e]
 have:x|||y<18446744073709551616:=Nat.or_lt_two_pow (n:=64) hx hy
 exact wrapU64 (by omega) (by omega)
theorem or_byte (x y:Nat) (hy:y<256):x * 256|||y=x * 256 + y:=by
 have:=Nat.two_pow_add_eq_or_of_lt (i:=8) (b:=y) (by omega) x
 rw [Nat.mul_comm] at this
 exact this.symm
end Go.VC
/- SL, part 11: slices that are only read, as memory of one's own: lent, cut, given back. No condition. -/
namespace Go.VC
set_option linter.unusedVariables false
set_option linter.unusedSimpArgs false
variable {P:Program} {R:Cx} {Hs Rest:List HP} {w:World} {s:Sl}
structure SlR (h:Heap) (s:Sl) (xs:List Value):Prop where
 len:s.len=xs.length
 cap:s.len≤s.cap
 mem:xs≠[]→∃ b off l T fr,s.a=some ⟨b,off,none⟩∧h b=some (.cells l T fr)∧∀ (i:Nat) v,xs[i]? =some v→l[off + i]? =some v
def Reads (s:Sl) (xs:List Value):HP:=fun h=>SlR h s xs
theorem SlR.add {h h':Heap} {xs:List Value} (a:SlR h s xs):SlR (h.add h') s xs:=
 ⟨a.len,a.cap,fun hx=>let ⟨b,off,l,T,fr,ha,hb,hl⟩:=a.mem hx;⟨b,off,l,T,fr,ha,by simp only [Heap.add,hb],hl⟩⟩
theorem SlR.addR {h h':Heap} {xs:List Value} (hd:h'.dis h) (a:SlR h s xs):SlR (h'.add h) s xs:=
 ⟨a.len,a.cap,fun hx=>let ⟨b,off,l,T,fr,ha,hb,hl⟩:=a.mem hx;⟨b,off,l,T,fr,ha,by
  simp only [Heap.add,hd b (by rw [hb];simp)];exact hb,hl⟩⟩
theorem SlR.ro {xs:List Value} (a:SlR R.m s xs) (hb:xs.length≤9223372036854775807):Ro R s xs:=
 ⟨a.len,hb,a.mem⟩
theorem SlR.take {h:Heap} {xs:List Value} (a:SlR h s xs) {k:Nat} (hk:k≤xs.length):SlR h ⟨s.a,k,s.cap⟩ (xs.take k):=
 ⟨by simp;omega,by have:=a.len;have:=a.cap;simp only;omega,fun hx=>by
  obtain ⟨b,off,l,T,fr,ha,hb,hl⟩:=a.mem (fun h0=>hx (by rw [h0];simp))
  refine ⟨b,off,l,T,fr,ha,hb,fun i v hv=>hl i v ?_⟩
  rw [List.getElem?_take] at hv
  split at hv
  ·exact hv
  ·cases hv⟩
theorem SlR.drop {h:Heap} {xs:List Value} (a:SlR h s xs) {k:Nat} (hk:k≤xs.length):SlR h ⟨cutA s.a k s.cap 1,s.len - k,s.cap - k⟩ (xs.drop k):=by
 have hlen:=a.len
 have hcap:=a.cap
 refine ⟨by simp;omega,by simp only;omega,fun hx=>?_⟩
 obtain ⟨b,off,l,T,fr,ha,hb,hl⟩:=a.mem (fun h0=>hx (by rw [h0];simp))
 have hlt:0<(xs.drop k).length:=List.length_pos_iff.2 hx
 rw [List.length_drop] at hlt
 refine ⟨b,off + k,l,T,fr,?_,hb,fun i v hv=>?_⟩
 ·unfold cutA
  rw [if_neg (by omega),ha]
  simp [add_off]
 ·rw [List.getElem?_drop] at hv
  rw [Nat.add_assoc]
  exact hl _ _ hv
theorem Reads.lend {xs:List Value} (h:Sat R (Reads s xs::Hs) w):∃ x:Heap,R.dis x∧SlR (R.add x).m s xs∧Sat (R.add x) Hs w∧SlR x s xs:=by
 obtain ⟨x,hx,hd,hs⟩:=h
 exact ⟨x,hd,SlR.addR hd hx,hs,hx⟩
theorem Reads.back {xs:List Value} {x:Heap} (hd:R.dis x) (hx:SlR x s xs) (h:Sat (R.add x) Hs w):Sat R (Reads s xs::Hs) w:=⟨x,hx,hd,h⟩
theorem Own.reads {T:TypeId} {xs:List Value} (h:Sat R (Own s T xs::Hs) w):Sat R (Reads s xs::Hs) w:=by
 rcases Own.cases h with ⟨rfl,rfl,h2⟩|⟨b,rest,fr,rfl,hf,h2⟩
 ·exact ⟨Heap.none,⟨rfl,Nat.le_refl _,fun h=>absurd rfl h⟩,fun i hi=>absurd rfl hi,by rw [Cx.add_none];exact h2⟩
 ·obtain ⟨a,ha,hd,hs⟩:=h2
  refine ⟨a,⟨rfl,by simp,fun _=>⟨b,0,(xs++rest).toArray,T,fr,rfl,by rw [ha];simp [Heap.one],fun i v hv=>?_⟩⟩,hd,hs⟩
  obtain ⟨hi,rfl⟩:=List.getElem?_eq_some_iff.1 hv
  simp [List.getElem?_append_left hi]
theorem SlR.idxK {kd:IntKind} {xs:List Int} {S:World→Prop} (hr:SlR R.m s (xs.map (Value.int kd))) (hS:∀ w,S w→Sat R Hs w) {k:Nat} (hk:k<xs.length) {F:Int→Prop} (h:F xs[k]):
  Rng (k:Int) s.len (NilP s.a fun a=>∃ t:Int,(At S (a.add (k:Int).toNat) [.int kd t])∧F t):=by
 have hl:s.len=xs.length:=by have:=hr.len;simpa using this
 obtain ⟨b,off,l,T,fr,ha,hb,hel⟩:=hr.mem (by intro h0;rw [List.map_eq_nil_iff] at h0;rw [h0] at hk;simp at hk)
 refine Rng.mk (by omega) (by omega) (NilP.mk ha ⟨xs[k],fun w hw i v hv=>?_,h⟩)
 have hi:i=0:=by
  cases i with
  |zero=>rfl
  |succ i=>simp at hv
 subst hi
 simp only [List.getElem?_cons_zero,Option.some.injEq] at hv
 subst hv
 rw [Int.toNat_natCast,add_off,add_off]
 have:=(hS w hw).of_ro hb
 simp only [World.cell?,this,Option.isSome_none,Bool.false_eq_true,if_false]
 exact hel k _ (by simp [hk])
end Go.VC
/- SL, part 12: 'append(nil, make([]T, n)...)'; a panic that does not come. No condition. -/
namespace Go.VC
set_option linter.unusedVariables false
set_option linter.unusedSimpArgs false
variable {P:Program} {R:Cx} {Hs Rest:List HP} {w:World} {s:Sl}
theorem zeros_rule {t1 t2 ty T:TypeId} {bytes n:Nat} {k kn:IntKind} {K:Sl→World→Prop} (ht:P.underlying t1=some (.slice T)) (hn:P.underlying t2=some (.int kn)) (hi:elB P T bytes=true) (h0:0<n) (h48:n * bytes≤281474976710656)
  (h63:(n:Int)≤9223372036854775807) (hw:Sat R Hs w) (h:∀ t w',Sat R (Own ⟨t.a,0,t.cap⟩ T []::Hs) w'→K t w'):
  ∃ w',∃ t:Sl,(Builtin.append_ #[t1,t2] ty #[.slice none 0 0,.int k n]).run P w=.ok (.slice t.a t.len t.cap) w'∧K t w':=by
 obtain ⟨i,z,hi,hz,hsize,hbytes,hzc⟩:=elB_out hi
 have hr:=Lib.run_append_nil_zeros (P:=P) w t1 t2 ty T i z k kn ht hn hi hz n h0 (by omega) h63 (by rw [hbytes];exact h48)
 refine ⟨_,⟨some ⟨w.heap.size,0,none⟩,n,grownCap w n 0 T⟩,hr,h _ _ ?_⟩
 have:=Sat.alloc (Obj.cells (Builtin.zeroCells z.cells n++Builtin.zeroCells z.cells (grownCap w n 0 T - n)) T) (Sat.drew hw)
 have hg:=grownCap_ge w n 0 T
 have e:Obj.cells (Builtin.zeroCells z.cells n++Builtin.zeroCells z.cells (grownCap w n 0 T - n)) T=.cells ([]++(Builtin.zeroCells z.cells n++Builtin.zeroCells z.cells (grownCap w n 0 T - n)).toList).toArray T (0,0):=by
  congr 1
 rw [e] at this ⊢
 have h3:=Own.of_pts this
 have e2:(⟨some ⟨w.drew.heap.size,0,none⟩,([]:List Value).length,([]++(Builtin.zeroCells z.cells n++Builtin.zeroCells z.cells (grownCap w n 0 T - n)).toList).length⟩:Sl)=⟨some ⟨w.heap.size,0,none⟩,0,grownCap w n 0 T⟩:=by
  simp [Builtin.zeroCells,hzc]
  omega
 rw [e2] at h3
 exact h3
theorem GetsX.gets {f:FuncId} {args:Array Value} {K:Value→World→Prop} (h:GetsX P f args w (fun _ _=>False) K):Gets P f args w K:=
 Calls.mono h fun e w' he=>by
  rcases he with ⟨v,rfl,hq⟩|⟨_,_,hf⟩
  ·exact ⟨v,rfl,hq⟩
  ·exact hf.elim
end Go.VC
/- VY, part 2: an iterator's call; one round; the statement 'for x := range f { .. }', over memory of one's own. No condition. -/
namespace Go.VC
set_option linter.unusedVariables false
set_option linter.unusedSimpArgs false
variable {P:Program} {cl:FuncId→Bool} {n nn m:Nat} {R:Cx} {Hs Hs':List HP} {w W:World}
def fnOky (P:Program) (n:Nat) (fn:Func) (sk:Sk):Bool:=
 Nat.beq n fn.ntmps && (match fn.body with|some c=>codeOky P n c && wrIn (fun _=>true) c && skOk c sk|none=>false) &&
  fn.results.all fun r=>match r with| .tmp _=>true| .cell _ t=>ldOk P t
def fnFy (P:Program) (cl:FuncId→Bool) (Y:YF) (fn:Func) (sk:Sk) (args:List Value) (K:Value→World→Prop) (w:World):Prop:=
 match fn.body with
 |some c=>deny P cl Y c sk (argEnv args) { nrm:=fun ρ w=>resF P ρ K fn.results.toList [] w,ex:=fun _ _ _=>False,ret:=fun ρ w=>resF P ρ K fn.results.toList [] w } w
 |none=>False
theorem callsy_of {Y:YF} {f:FuncId} {fn:Func} {sk:Sk} (hcl:∀ g,cl g=true→callable P g=true) (hmix:P.follows .mixedOrders=true) (hY:∀ l args w Q,Y l args w Q→YieldAt Fence.wide (nn - 1) P l args.toArray w Q)
  (hf:P.funcs[f]? =some fn) (hok:fnOky P fn.ntmps fn sk=true) {args:List Value} {K:Value→World→Prop} {w:World} (hargs:args.length≤fn.ntmps)
  (h:fnFy P cl Y fn sk args K w):CallsIn Fence.wide nn P f args.toArray w fun e w'=>∃ v,e=.returned v∧K v w':=by
 unfold fnFy at h
 unfold fnOky at hok
 simp only [Bool.and_eq_true] at hok
 obtain ⟨⟨_,hbody⟩,hres⟩:=hok
 split at h
 case h_2=>exact h.elim
 rename_i c hb
 rw [hb] at hbody
 simp only [Bool.and_eq_true] at hbody
 refine callsIn_of_wp hf hb trivial ?_
 have henv:=enter_env (fn:=fn) (args:=args)
 rw [←henv] at h
 have fin:∀ (a:Act) (w:World),a.defers=[]→resF P a.env K fn.results.toList [] w→
   a.defers=[]∧∃ v,(results fn a.tmps).run P w=.ok v w∧(∃ v',Ending.returned v=.returned v'∧K v' w):=fun a w hd hr=>by
  obtain ⟨v,h1,h2⟩:=res_of hres hr
  exact ⟨hd,v,h1,v,rfl,h2⟩
 refine Code.wpIn_mono ?_ (deny_sound (r:=none) (nn:=nn) (n:=fn.ntmps) hcl hY hmix c sk (fun _=>true) _ hbody.1.1 hbody.1.2 hbody.2 _ _ w (Kept.refl (by simp;omega) rfl) h)
 intro e a w hq
 cases e with
 |normal=>exact fin a w hq.1.defers hq.2
 |ret=>exact fin a w hq.1.defers hq.2
 |exit i=>exact hq.2.elim
 |_=>exact hq.elim
abbrev lrec (st:LoopState) (fn:FuncId) (tmps:Array Value) (ps:Array Tmp) (assign body:Code) (D:Nat):Obj:=
 .loop { state:=st,pending:=none,fn:=fn,tmps:=tmps,params:=ps,assign:=assign,body:=body,defers:=D }
theorem round_rule {L D:Nat} {fn:FuncId} {tmps:Array Value} {ps:Array Tmp} {assign body:Code} {args:Array Value} {Q:Ending→World→Prop}
  (hw:Sat R (pts L (lrec .ready fn tmps ps assign body D)::Hs) W) (hsz:args.size=ps.size)
  (h:assign.wpIn (wf (some L)) m P (Exit.then (fun a1 W1=>Sat R (pts L (lrec .ready fn tmps ps assign body D)::Hs) W1∧∀ W2,Sat R (pts L (lrec .busy fn tmps ps assign body D)::Hs) W2→
    body.wpIn (wf (some L)) m P (fun e _ W3=>e=.normal∧∃ Hs',Sat R (pts L (lrec .busy fn tmps ps assign body D)::Hs') W3∧∀ W4,Sat R (pts L (lrec .ready fn tmps ps assign body D)::Hs') W4→Q (.returned (.bool true)) W4) a1 W2) (fun _ _ _=>False))
   { tmps:=(ps.zip args).foldl (fun t (p,v)=>t.setIfInBounds p v) tmps,defers:=[] } W):
  YieldAt Fence.wide m P L args W Q:=by
 refine ⟨fn,_,assign,body,run_yield hw.at hsz,roundIn_of_wpIn trivial (Code.wpIn_mono ?_ h)⟩
 intro e a w hq
 cases e with
 |normal=>
  obtain ⟨hw1,hb⟩:=hq
  refine ⟨_,run_beginRound hw1.at rfl,?_⟩
  refine Code.wpIn_mono ?_ (hb _ (hw1.setPts _))
  rintro e a w ⟨rfl,Hs',hw3,hq⟩
  exact ⟨_,_,run_endRound none hw3.at,hq _ (hw3.setPts _)⟩
 |_=>exact hq.elim
theorem rangeY_rule {g:Operand} {ps:Array Tmp} {assign body:Code} {Q:Exit→Act→World→Prop} {a:Act} {gf:Nat} {lb:Array Value} (hg:a.eval g=.func (.func gf) #[] lb) (hc:callable P gf=true) (hw:Sat R Hs w)
  (h:∀ fn D L W1,Sat R (pts L (lrec .ready fn a.tmps ps assign body D)::pts D (.deferred (some []))::Hs) W1→
   CallsIn Fence.wide (nn - 1) P gf (#[.func (.yield L) #[] #[]]++lb) W1 fun e W2=>(∃ v,e=.returned v)∧∃ Hs',Sat R (pts L (lrec .ready fn a.tmps ps assign body D)::pts D (.deferred (some []))::Hs') W2∧
    ∀ W3,Sat R (pts D (.deferred (some []))::Hs') W3→Q .normal { a with defers:={ target:=.collected D,args:=#[] }::a.defers } W3):
  (Code.rangeFunc g ps assign body).wpIn Fence.wide nn P Q a w:=by
 refine wpIn_rangeFunc ?_
 intro fn hfn
 have hw1:=(hw.alloc (.deferred (some []))).alloc (lrec .ready fn a.tmps ps assign body w.heap.size)
 have hsz:(w.alloc (.deferred (some []))).heap.size=w.heap.size + 1:=by simp
 rw [hsz] at hw1
 have he:=run_enterLoop_outer (P:=P) (w:=w) fn a.tmps ps assign body
 generalize hD:w.heap.size=D at hw1 he
 generalize hW1:(w.alloc (.deferred (some []))).alloc (lrec .ready fn a.tmps ps assign body D)=W1 at hw1
 have he:(Instr.enterLoop fn a.tmps ps assign body none).run P w=.ok (D + 1,[{ target:=.collected D,args:=#[] }]) W1:=by rw [he,←hW1]
 clear hW1 hsz
 have hres:(resolve a.eval (rangeCall g (D + 1)) 0).run P W1=.ok { target:=.fn (.func gf) lb,args:=#[.func (.yield (D + 1)) #[] #[]] } W1:=by
  simp only [resolve,hg]
  simp [go_sem]
 refine ⟨D + 1,[{ target:=.collected D,args:=#[] }],W1,{ target:=.fn (.func gf) lb,args:=#[.func (.yield (D + 1)) #[] #[]] },W1,gf,
  #[.func (.yield (D + 1)) #[] #[]]++lb,W1,he,hres,fun f' _=>trivial,?_,(fun h=>by cases h),?_⟩
 ·simp only [invoke]
  exact callFunc_run hc _ _
 ·have key:∀ (e:Ending) (W2:World),((∃ v,e=.returned v)∧∃ Hs',Sat R (pts (D + 1) (lrec .ready fn a.tmps ps assign body D)::pts D (.deferred (some []))::Hs') W2∧
    ∀ W3,Sat R (pts D (.deferred (some []))::Hs') W3→Q .normal { a with defers:={ target:=.collected D,args:=#[] }::a.defers } W3)→
    rangePost Fence.wide nn P (D + 1) Q { a with defers:=[{ target:=.collected D,args:=#[] }]++a.defers } e W2:=by
   intro e W2 hh
   obtain ⟨⟨v,hv⟩,Hs',hw2,hq⟩:=hh
   rw [hv]
   have h2:=run_endLoop (P:=P) hw2.at (by simp)
   exact ⟨none,_,h2,hq _ (hw2.setPts _).drop⟩
  exact CallsIn.mono (h fn D (D + 1) W1 hw1) key
theorem leave_marks {fn:Func} {a:Act} {D:Nat} {K:Value→World→Prop} (hd:a.defers=[{ target:=.collected D,args:=#[] }]) (hres:(fn.results.all fun r=>match r with| .tmp _=>true| .cell _ t=>ldOk P t)=true) (hw:Sat R (pts D (.deferred (some []))::Hs) W)
  (h:∀ W',Sat R Hs W'→resF P a.env K fn.results.toList [] W'):LeavesInM Fence.wide nn P fn a.tmps (fun e w'=>∃ v,e=.returned v∧K v w') a.defers .returning W:=by
 rw [hd]
 refine ⟨by simp,.inl ⟨D,_,rfl,run_takeDeferred hw.at,?_⟩⟩
 have hw2:=(hw.setPts (.deferred none)).drop
 obtain ⟨v,h1,h2⟩:=res_of hres (h _ hw2)
 exact ⟨v,h1,v,rfl,h2⟩
end Go.VC
/- VY, part 3: a function whose body ranges over a function, once, behind four pieces of code. No condition. -/
namespace Go.VC
set_option linter.unusedVariables false
set_option linter.unusedSimpArgs false
variable {P:Program} {cl:FuncId→Bool}
def slotsOk (ρ:Env) (tmps:Array Value):List Nat→Prop
 |[]=>True
 |i::is=>tmps.getD i undef=ρ i∧slotsOk ρ tmps is
theorem slotsOk_env (a:Act):∀ sl,slotsOk a.env a.tmps sl
 |[]=>trivial
 |_::is=>⟨rfl,slotsOk_env a is⟩
def RngV (P:Program) (cl:FuncId→Bool) (n:Nat) (ps:Array Tmp) (assign body:Code) (f:Value) (T:Array Value→Prop) (K:Nat→World→Prop) (w:World):Prop:=
 match f with
 | .func fn first captured=>(match fn with
  | .func gf=>(match cl gf with
   |true=>(match first.toList with
    |[]=>∃ (R:Cx) (Hs:List HP),Sat R Hs w∧∀ (nn:Nat) (tmps:Array Value) (fn D L:Nat) (W1:World),tmps.size=n→T tmps→Sat R (pts L (lrec .ready fn tmps ps assign body D)::pts D (.deferred (some []))::Hs) W1→
      CallsIn Fence.wide nn P gf (.func (.yield L) #[] #[]::captured.toList).toArray W1 fun e W2=>(∃ v,e=.returned v)∧∃ Hs',Sat R (pts L (lrec .ready fn tmps ps assign body D)::pts D (.deferred (some []))::Hs') W2∧
       ∀ W3,Sat R (pts D (.deferred (some []))::Hs') W3→K D W3
    |_=>False)
   |false=>False)
  |_=>False)
 |_=>False
theorem RngV.mk {n:Nat} {ps:Array Tmp} {assign body:Code} {gf:FuncId} {captured:Array Value} {T:Array Value→Prop} {K:Nat→World→Prop} {w:World} {R:Cx} {Hs:List HP} (hc:cl gf=true) (hw:Sat R Hs w)
  (h:∀ (nn:Nat) (tmps:Array Value) (fn D L:Nat) (W1:World),tmps.size=n→T tmps→Sat R (pts L (lrec .ready fn tmps ps assign body D)::pts D (.deferred (some []))::Hs) W1→
      CallsIn Fence.wide nn P gf (.func (.yield L) #[] #[]::captured.toList).toArray W1 fun e W2=>(∃ v,e=.returned v)∧∃ Hs',Sat R (pts L (lrec .ready fn tmps ps assign body D)::pts D (.deferred (some []))::Hs') W2∧
       ∀ W3,Sat R (pts D (.deferred (some []))::Hs') W3→K D W3):RngV P cl n ps assign body (.func (.func gf) #[] captured) T K w:=by
 unfold RngV
 simp only [hc]
 exact ⟨R,Hs,hw,h⟩
def RngF (P:Program) (cl:FuncId→Bool) (n:Nat) (sl:List Nat) (g:Operand) (ps:Array Tmp) (assign body:Code) (ρ:Env) (K:Nat→World→Prop) (w:World):Prop:=
 RngV P cl n ps assign body (ρ.ev g) (fun tmps=>slotsOk ρ tmps sl) K w
def loopParts (fn:Func):Array Tmp × Code × Code:=
 match fn.body with
 |some (.seq _ (.seq _ (.seq _ (.seq (.seq _ (.block _ (.rangeFunc _ ps assign body))) _))))=>(ps,assign,body)
 |_=>(#[],.skip,.skip)
def lpPs (fn:Func):Array Tmp:=(loopParts fn).1
def lpAssign (fn:Func):Code:=(loopParts fn).2.1
def lpBody (fn:Func):Code:=(loopParts fn).2.2
def noC (k:Env→World→Prop):Cont:={ nrm:=k,ex:=fun _ _ _=>False,ret:=fun _ _=>False }
def finD (P:Program) (fn:Func) (K:Value→World→Prop) (D:Nat) (ρ:Env) (w:World):Prop:=
 resF P ρ (fun v w=>∃ (R:Cx) (Hs:List HP),Sat R (pts D (.deferred (some []))::Hs) w∧∀ w',Sat R Hs w'→K v w') fn.results.toList [] w
def rngF (P:Program) (cl:FuncId→Bool) (fn:Func) (sk:Sk) (sl:List Nat) (args:List Value) (K:Value→World→Prop) (w:World):Prop:=
 match fn.body with
 |some (.seq r0 (.seq r1 (.seq r2 (.seq (.seq r3 (.block _ (.rangeFunc g ps assign body))) rest))))=>
  den P cl r0 .leaf (argEnv args) (noC fun ρ w=>den P cl r1 .leaf ρ (noC fun ρ w=>den P cl r2 .leaf ρ (noC fun ρ w=>den P cl r3 .leaf ρ (noC fun ρ w=>
   RngF P cl fn.ntmps sl g ps assign body ρ (fun D w=>denx P cl (fun _ _ _=>False) [] rest sk ρ { nrm:=finD P fn K D,ex:=fun _ _ _=>False,ret:=finD P fn K D } w) w) w) w) w) w
 |_=>False
def rngOk (P:Program) (fn:Func) (sk:Sk):Bool:=
 (match fn.body with
 |some (.seq r0 (.seq r1 (.seq r2 (.seq (.seq r3 (.block _ (.rangeFunc _ _ _ _))) rest))))=>
  (codeOk P fn.ntmps r0 && wrIn (fun _=>true) r0 && skOk r0 .leaf) && (codeOk P fn.ntmps r1 && wrIn (fun _=>true) r1 && skOk r1 .leaf) && (codeOk P fn.ntmps r2 && wrIn (fun _=>true) r2 && skOk r2 .leaf) && (codeOk P fn.ntmps r3 && wrIn (fun _=>true) r3 && skOk r3 .leaf) &&
   (codeOkx P fn.ntmps [] rest && wrIn (fun _=>true) rest && skOk rest sk)
 |_=>false) && fn.results.all fun r=>match r with| .tmp _=>true| .cell _ _=>false
theorem resF_tmp {ρ:Env} {K:Value→World→Prop} {w:World}:∀ {rs:List ResultVar} {acc:List Value},(∀ r∈rs,(match r with| .tmp _=>true| .cell _ _=>false)=true)→resF P ρ K rs acc w→
  ∃ v,K v w∧∀ (K':Value→World→Prop) (w':World),K' v w'→resF P ρ K' rs acc w'
 |[],acc,_,h=>by
  unfold resF fin1 at h
  unfold resF fin1
  cases hl:acc.reverse with
  |nil=>rw [hl] at h;exact ⟨_,h,fun _ _ h=>h⟩
  |cons x xs=>
   rw [hl] at h
   cases xs with
   |nil=>exact ⟨_,h,fun _ _ h=>h⟩
   |cons y ys=>exact ⟨_,h,fun _ _ h=>h⟩
 | .tmp t::rs,acc,hall,h=>resF_tmp (rs:=rs) (acc:=ρ t::acc) (fun r hr=>hall r (List.mem_cons_of_mem _ hr)) h
 | .cell _ _::rs,acc,hall,_=>by have:=hall _ (List.mem_cons_self ..);cases this
theorem callsr_of {f:FuncId} {fn:Func} {sk:Sk} {sl:List Nat} (hcl:∀ g,cl g=true→callable P g=true) (hmix:P.follows .mixedOrders=true)
  (hf:P.funcs[f]? =some fn) (hok:rngOk P fn sk=true) {args:List Value} {K:Value→World→Prop} {w:World} (hargs:args.length≤fn.ntmps)
  (h:rngF P cl fn sk sl args K w):Gets P f args.toArray w K:=by
 unfold Gets
 refine (callsIn_wide (n:=5)).1 ?_
 unfold rngF at h
 unfold rngOk at hok
 rw [Bool.and_eq_true] at hok
 obtain ⟨hok,hres⟩:=hok
 have hres1:∀ r∈fn.results.toList,(match r with| .tmp _=>true| .cell _ _=>false)=true:=fun r hr=>by
  rw [Array.all_eq_true_iff_forall_mem] at hres
  exact hres r (by simpa using hr)
 have hres2:(fn.results.all fun r=>match r with| .tmp _=>true| .cell _ t=>ldOk P t)=true:=by
  rw [Array.all_eq_true_iff_forall_mem] at hres ⊢
  intro r hr
  have:=hres r hr
  cases r<;>simp_all
 split at h
 case h_2=>exact h.elim
 rename_i r0 r1 r2 r3 bid g ps assign body rest hb
 rw [hb] at hok
 simp only [Bool.and_eq_true] at hok
 obtain ⟨⟨⟨⟨h0,h1⟩,h2⟩,h3⟩,h4⟩:=hok
 refine callsIn_of_wp_marks hf hb trivial ?_
 have henv:=enter_env (fn:=fn) (args:=args)
 generalize hA:({ tmps:=args.toArray++Array.replicate (fn.ntmps - args.toArray.size) undef,defers:=[] }:Act)=A at henv
 have hAs:A.tmps.size=fn.ntmps:=by rw [←hA];simp;omega
 have hAd:A.defers=[]:=by rw [←hA]
 rw [←henv] at h
 have step:∀ {c c':Code} {Q:Exit→Act→World→Prop} {a:Act} {w:World} {k:Env→World→Prop},((codeOk P fn.ntmps c=true∧wrIn (fun _=>true) c=true)∧skOk c .leaf=true)→a.tmps.size=fn.ntmps→a.defers=[]→
   den P cl c .leaf a.env (noC k) w→(∀ a' w',a'.tmps.size=fn.ntmps→a'.defers=[]→k a'.env w'→c'.wpIn Fence.wide 5 P Q a' w')→(Code.seq c c').wpIn Fence.wide 5 P Q a w:=fun {c c' Q a w k} hc hs hd h hk=>by
  refine wpIn_seq (wpIn_wide.2 (Code.wp_mono ?_ (den_sound (n:=fn.ntmps) hcl hmix c .leaf (fun _=>true) a.env hc.1.1 hc.1.2 hc.2 a _ w (Kept.refl hs hd) h)))
  intro e a' w' hq
  cases e with
  |normal=>exact hk a' w' hq.1.size hq.1.defers hq.2
  |exit i=>exact hq.2.elim
  |ret=>exact hq.2.elim
  |_=>exact hq.elim
 refine step h0 hAs hAd h ?_
 clear h hAs hAd henv hA
 intro a w hs hd h
 refine step h1 hs hd h ?_
 clear h hs hd a w
 intro a w hs hd h
 refine step h2 hs hd h ?_
 clear h hs hd a w
 intro a w hs hd h
 refine wpIn_seq ?_
 refine step h3 hs hd h ?_
 clear h hs hd a w
 intro a w hs hd h
 refine wpIn_block ?_
 unfold RngF RngV at h
 split at h
 case h_2=>exact h.elim
 rename_i fv first captured hg
 rw [env_ev] at hg
 split at h
 case h_2=>exact h.elim
 rename_i gf
 split at h
 case h_2=>exact h.elim
 rename_i hcg
 split at h
 case h_2=>exact h.elim
 rename_i hfirst
 have hfirst:first=#[]:=Array.ext' hfirst
 subst hfirst
 obtain ⟨R,Hs,hw,h⟩:=h
 refine rangeY_rule hg (hcl gf hcg) hw ?_
 intro fnid D L W1 hw1
 have hargs2:#[Value.func (.yield L) #[] #[]]++captured=(Value.func (.yield L) #[] #[]::captured.toList).toArray:=by apply Array.ext';simp
 rw [hargs2]
 refine CallsIn.mono (h _ a.tmps fnid D L W1 hs (slotsOk_env a sl) hw1) ?_
 rintro e W2 ⟨hv,Hs',hw2,hq⟩
 refine ⟨hv,Hs',hw2,fun W3 hw3=>?_⟩
 have hx:=hq W3 hw3
 show rest.wpIn Fence.wide 5 P _ _ W3
 generalize hA2:({ a with defers:={ target:=.collected D,args:=#[] }::a.defers }:Act)=B
 have hBe:B.env=a.env:=by rw [←hA2];rfl
 have hBs:B.tmps.size=fn.ntmps:=by rw [←hA2];exact hs
 have hBd:B.defers=[{ target:=.collected D,args:=#[] }]:=by rw [←hA2,hd]
 rw [←hBe] at hx
 refine wpIn_wide.2 (Code.wp_mono ?_ (denx_sound (n:=fn.ntmps) (ds:=[{ target:=.collected D,args:=#[] }]) hcl hmix rest sk (fun _=>true) B.env h4.1.1 h4.1.2 h4.2 B _ W3 (KeptD.refl' hBs hBd) hx))
 have fin:∀ (a:Act) (w:World),a.defers=[{ target:=.collected D,args:=#[] }]→finD P fn K D a.env w→LeavesInM Fence.wide 5 P fn a.tmps (fun e w'=>∃ v,e=.returned v∧K v w') a.defers .returning w:=fun a w hd hr=>by
  obtain ⟨v,⟨R,Hs,hw,hk⟩,hall⟩:=resF_tmp hres1 hr
  exact leave_marks hd hres2 hw fun W' hw'=>hall _ _ (hk W' hw')
 intro e a w hq
 cases e with
 |normal=>exact fin a w hq.1.defers hq.2
 |ret=>exact fin a w hq.1.defers hq.2
 |exit i=>exact hq.2.elim
 |panic ch=>exact hq.2.elim
 |_=>exact hq.elim
end Go.VC
/- The formulas of record.Scan, records and its closure at this seat. (Printed by genscan.py.) No condition. -/
namespace Go.Proofs.YtkfedbncmfnpnaaGreatDoor
open Go Go.VC
set_option linter.unusedVariables false
def B154 (b0:Sl) (K:Value→World→Prop) (w:World):Prop:=
  New (.cells #[.slice b0.a b0.len b0.cap] 53 (0,0)) (fun b_b1 w_1=>
  K (.func (.func 188) #[] #[.pointer ((some ⟨b_b1,0,none⟩))]) w_1) w
def sk154:Sk:=.leaf
theorem ok154:fnOk Tryz.prog Tryz.f154.ntmps Tryz.f154 sk154=true:=by kernel_rfl
theorem eq154 (b0:Sl) (K:Value→World→Prop) (w:World):fnF Tryz.prog cl Tryz.f154 sk154 [.slice b0.a b0.len b0.cap] K w=B154 b0 K w:=by kernel_rfl
theorem call154 (b0:Sl) (K:Value→World→Prop) (w:World) (h:B154 b0 K w):Gets Tryz.prog 154 #[.slice b0.a b0.len b0.cap] w K:=
  calls_of (sk:=sk154) cl_ok mixed Tryz.func154 ok154 (args:=[.slice b0.a b0.len b0.cap]) (Nat.le_of_ble_eq_true (by kernel_rfl)) (by rw [eq154];exact h)
def B188 (Y:YF) (l0:Nat) (c1:Option Addr) (K:Value→World→Prop) (w:World):Prop:=
  ∃ (I:World→Prop) (μ:World→Nat),(I  w)∧∀ (z:Env)  (w_1:World),I  w_1→
  NilP c1 fun a_t5=>
  ∃ t5:Sl,(At (fun w'=>w'=w_1) a_t5 [.slice t5.a t5.len t5.cap])∧
  Br (decide ((↑t5.len:Int) ≥ 8))
   (NilP c1 fun a_t8=>
    ∃ t8:Sl,(At (fun w'=>w'=w_1) a_t8 [.slice t8.a t8.len t8.cap])∧
    ((0:Int)≤4)∧
    ((4:Int)≤(↑t8.cap:Int))∧
    Calls Tryz.prog 189 #[.slice t8.a 4 t8.cap] w_1 fun e w_2=>
    ∃ t10:Int,(e=.returned (.int .u32 t10))∧
    ∃ (J:World→Prop),(Br (decide (t10>65536))
       (K (.tuple #[]) w_2)
       (NilP c1 fun a_t16=>
        ∃ t16:Sl,(At (fun w'=>w'=w_2) a_t16 [.slice t16.a t16.len t16.cap])∧
        Br (decide (IntKind.i64.wrap t10>IntKind.i64.wrap ((↑t16.len:Int) - 8)))
         (K (.tuple #[]) w_2)
         (J  w_2)))∧
    ∀ (z_1:Env)  (w_3:World),J  w_3→
    NilP c1 fun a_t21=>
    ∃ t21:Sl,(At (fun w'=>w'=w_3) a_t21 [.slice t21.a t21.len t21.cap])∧
    ((0:Int)≤IntKind.i64.wrap (8 + IntKind.i64.wrap t10))∧
    ((IntKind.i64.wrap (8 + IntKind.i64.wrap t10):Int)≤(↑t21.cap:Int))∧
    ((0:Int)≤8)∧
    ((8:Int)≤(↑(IntKind.i64.wrap (8 + IntKind.i64.wrap t10)).toNat:Int))∧
    Drw w_3 fun S w_4=>
    NilP c1 fun a_t26=>
    ∃ t26:Sl,(At S a_t26 [.slice t26.a t26.len t26.cap])∧
    ((0:Int)≤4)∧
    ((4:Int)≤(↑t26.cap:Int))∧
    NilP c1 fun a_t31=>
    ∃ t31:Sl,(At S a_t31 [.slice t31.a t31.len t31.cap])∧
    ((0:Int)≤8)∧
    ((8:Int)≤(↑t31.cap:Int))∧
    ((0:Int)≤4)∧
    ((4:Int)≤8)∧
    Calls Tryz.prog 164 #[.slice t26.a 4 t26.cap] w_4 fun e_1 w_5=>
    ∃ t28:Int,(e_1=.returned (.int .u32 t28))∧
    (S w_5)∧
    Calls Tryz.prog 163 #[.int .u32 t28,.slice (cutA t21.a (Int.toNat 8) t21.cap 1) ((IntKind.i64.wrap (8 + IntKind.i64.wrap t10)).toNat - Int.toNat 8) (t21.cap - Int.toNat 8)] w_5 fun e_2 w_6=>
    ∃ t30:Int,(e_2=.returned (.int .u32 t30))∧
    (S w_6)∧
    Calls Tryz.prog 189 #[.slice (cutA t31.a (Int.toNat 4) t31.cap 1) 4 (t31.cap - Int.toNat 4)] w_6 fun e_3 w_7=>
    ∃ t33:Int,(e_3=.returned (.int .u32 t33))∧
    (S w_7)∧
    Br (t30 !=t33)
     (K (.tuple #[]) w_7)
     (Y l0 [.slice (cutA t21.a (Int.toNat 8) t21.cap 1) ((IntKind.i64.wrap (8 + IntKind.i64.wrap t10)).toNat - Int.toNat 8) (t21.cap - Int.toNat 8)] w_7 fun e_4 w_8=>
      ∃ t38:Bool,(e_4=.returned (.bool t38))∧
      (S w_8)∧
      Br (!t38)
       (K (.tuple #[]) w_8)
       (NilP c1 fun a_t41=>
        ∃ t41:Sl,(At (fun w'=>w'=w_8) a_t41 [.slice t41.a t41.len t41.cap])∧
        ((0:Int)≤IntKind.i64.wrap (8 + IntKind.i64.wrap t10))∧
        ((IntKind.i64.wrap (8 + IntKind.i64.wrap t10):Int)≤(↑t41.len:Int))∧
        ∃ w_9:World,((Instr.storeAt 53 (.pointer c1) (.slice (cutA t41.a (IntKind.i64.wrap (8 + IntKind.i64.wrap t10)).toNat t41.cap 1) (t41.len - (IntKind.i64.wrap (8 + IntKind.i64.wrap t10)).toNat) (t41.cap - (IntKind.i64.wrap (8 + IntKind.i64.wrap t10)).toNat))).run Tryz.prog w_8=.ok () w_9)∧
        (I  w_9)∧μ  w_9<μ  w_1)))
   (K (.tuple #[]) w_1)
def sk188:Sk:=(.block (.loop [] [] [3,4,5,6,7,8,9,10,11,12,13,14,15,16,17,18,19,20,21,22,23,24,25,26,27,28,29,30,31,32,33,34,35,36,37,38,39,40,41,42,43,44,45] (.seq .leaf (.block (.seq .leaf (.cut [] [] [11,12,13,14,15,16,17,18,19,20] .leaf .leaf))))))
theorem ok188:fnOky Tryz.prog Tryz.f188.ntmps Tryz.f188 sk188=true:=by kernel_rfl
theorem eq188 (Y:YF) (l0:Nat) (c1:Option Addr) (K:Value→World→Prop) (w:World):fnFy Tryz.prog cl Y Tryz.f188 sk188 [.func (.yield l0) #[] #[],.pointer c1] K w=B188 Y l0 c1 K w:=by kernel_rfl
theorem cally188 {nn:Nat} (l0:Nat) (c1:Option Addr) (K:Value→World→Prop) (w:World) (h:B188 (fun l args w Q=>YieldAt Fence.wide (nn - 1) Tryz.prog l args.toArray w Q) l0 c1 K w):
    CallsIn Fence.wide nn Tryz.prog 188 #[.func (.yield l0) #[] #[],.pointer c1] w fun e w'=>∃ v,e=.returned v∧K v w':=
  callsy_of (sk:=sk188) cl_ok mixed (fun _ _ _ _ h=>h) Tryz.func188 ok188 (args:=[.func (.yield l0) #[] #[],.pointer c1]) (Nat.le_of_ble_eq_true (by kernel_rfl)) (by rw [eq188];exact h)
def Bb108 (out4:Option Addr) (size5:Option Addr) (body6:Sl) (K:World→Prop) (w:World):Prop:=
  Drw w fun S w_1=>
  NilP out4 fun a_t10=>
  ∃ t10:Sl,(At S a_t10 [.slice t10.a t10.len t10.cap])∧
  Calls Tryz.prog 98 #[.slice body6.a body6.len body6.cap] w_1 fun e w_2=>
  ∃ t12:Sl,(e=.returned (.slice t12.a t12.len t12.cap))∧
  (S w_2)∧
  New (.cells #[.slice t12.a t12.len t12.cap] 53 (0,0)) (fun b_t13 w_3=>
  (S w_3)∧
  ∃ w_4:World,∃ t14:Sl,((Builtin.append_ #[139,139] 139 #[.slice t10.a t10.len t10.cap,.slice ((some ⟨b_t13,0,none⟩)) 1 1]).run Tryz.prog w_3=.ok (.slice t14.a t14.len t14.cap) w_4)∧
  ∃ w_5:World,((Instr.storeAt 139 (.pointer out4) (.slice t14.a t14.len t14.cap)).run Tryz.prog w_4=.ok () w_5)∧
  NilP size5 fun a_t15=>
  ∃ t15:Int,(At (fun w'=>w'=w_5) a_t15 [.int .i64 t15])∧
  ∃ w_6:World,((Instr.storeAt 3 (.pointer size5) (.int .i64 (IntKind.i64.wrap (t15 + IntKind.i64.wrap (8 + (↑body6.len:Int)))))).run Tryz.prog w_5=.ok () w_6)∧
  K w_6) w_2
theorem eqb108 (Y:YF) (ρ:Env) (out4 size5:Option Addr) (body6:Sl) (K:World→Prop) (w:World):
    deny Tryz.prog cl Y (lpBody Tryz.f108) .leaf (((ρ.set 4 (.pointer out4)).set 5 (.pointer size5)).set 6 (.slice body6.a body6.len body6.cap)) (noC fun _ w=>K w) w=Bb108 out4 size5 body6 K w:=by kernel_rfl
theorem eqa108 (Y:YF) (ρ:Env) (x:Value) (k:Env→World→Prop) (w:World):deny Tryz.prog cl Y (lpAssign Tryz.f108) .leaf (ρ.set 9 x) (noC k) w=k ((ρ.set 9 x).set 6 x) w:=by kernel_rfl
theorem okb108:(codeOky Tryz.prog 22 (lpBody Tryz.f108) && wrIn (fun _=>true) (lpBody Tryz.f108) && skOk (lpBody Tryz.f108) .leaf)=true:=by kernel_rfl
theorem oka108:(codeOky Tryz.prog 22 (lpAssign Tryz.f108) && wrIn (fun i=>memB i [6]) (lpAssign Tryz.f108) && skOk (lpAssign Tryz.f108) .leaf)=true:=by kernel_rfl
theorem ps108:lpPs Tryz.f108=#[9]:=by kernel_rfl
def B108 (b0:Sl) (K:Value→World→Prop) (w:World):Prop:=
  New (.cells #[.slice none 0 0] 139 (0,0)) (fun b_t4 w_1=>
  New (.cells #[.int .i64 0] 3 (0,0)) (fun b_t5 w_2=>
  ∃ w_3:World,((Instr.storeAt 3 (.pointer (some ⟨b_t5,0,none⟩)) (.int .i64 0)).run Tryz.prog w_2=.ok () w_3)∧
  Calls Tryz.prog 154 #[.slice b0.a b0.len b0.cap] w_3 fun e w_4=>
  ∃ t8:Value,(e=.returned t8)∧
  RngV Tryz.prog cl 22 (lpPs Tryz.f108) (lpAssign Tryz.f108) (lpBody Tryz.f108) t8 (fun tmps=>tmps.getD 4 undef=.pointer (some ⟨b_t4,0,none⟩)∧tmps.getD 5 undef=.pointer (some ⟨b_t5,0,none⟩)∧True) (fun D w_5=>
    Drw w_5 fun S w_6=>
    ∃ t20:Sl,(At S ⟨b_t4,0,none⟩ [.slice t20.a t20.len t20.cap])∧
    ∃ t21:Int,(At S ⟨b_t5,0,none⟩ [.int .i64 t21])∧
    ∃ (R:Cx) (Hs:List HP),Sat R (pts D (.deferred (some []))::Hs) w_6∧∀ w',Sat R Hs w'→K (.tuple #[.slice t20.a t20.len t20.cap,.int .i64 t21]) w') w_4) w_1) w
theorem ok108:rngOk Tryz.prog Tryz.f108 .leaf=true:=by kernel_rfl
theorem eq108 (b0:Sl) (K:Value→World→Prop) (w:World):rngF Tryz.prog cl Tryz.f108 .leaf [4,5] [.slice b0.a b0.len b0.cap] K w=B108 b0 K w:=by kernel_rfl
theorem call108 (b0:Sl) (K:Value→World→Prop) (w:World) (h:B108 b0 K w):Gets Tryz.prog 108 #[.slice b0.a b0.len b0.cap] w K:=
  callsr_of (sk:=.leaf) (sl:=[4,5]) cl_ok mixed Tryz.func108 ok108 (args:=[.slice b0.a b0.len b0.cap]) (Nat.le_of_ble_eq_true (by kernel_rfl)) (by rw [eq108];exact h)
end Go.Proofs.YtkfedbncmfnpnaaGreatDoor
/- The formulas of functions of this seat's translation, printed by a program of mine off the translation; each is proved equal to 'fnF' of the function's body, so it is enough for the call. No condition. -/
namespace Go.Proofs.YtkfedbncmfnpnaaGreatDoor
open Go Go.VC
set_option linter.unusedVariables false
set_option maxRecDepth 10000
def B17 (a:Int) (K:Value→World→Prop) (w:World):Prop:=
 Br (decide (a<1))
 (K (.tuple #[.pointer none,.int .i64 1]) w)
 (Br (decide (a>16777216))
 (K (.tuple #[.pointer none,.int .i64 1]) w)
 (New (.map #[] 0) (fun b d=>
 New (.cells #[.int .i64 a,.int .i64 0,.map ((some b)),.int .i64 ((-1)),.int .i64 ((-1)),.bool false] 78 (0,0)) (fun c e=>
 K (.tuple #[.pointer ((some ⟨c,0,none⟩)),.int .i64 0]) e) d) w))
theorem call17 (a:Int) (K:Value→World→Prop) (w:World) (h:B17 a K w):Gets Tryz.prog 17 #[.int .i64 a] w K:=cq (sk:=.leaf) Tryz.func17 (by kernel_rfl) (by kernel_rfl) (by kernel_rfl) h
def B35 (m:Option Addr) (o:ByteArray) (b:Sl) (K:Value→World→Prop) (w:World):Prop:=
 New (.cells #[.pointer m] 25 (0,0)) (fun e p=>
 New (.cells #[.string o] 9 (0,0)) (fun f q=>
 New (.cells #[.slice b.a b.len b.cap] 53 (0,0)) (fun k d=>
 ∃ i:Option Addr,(At (fun c=>c=d) ⟨e,0,none⟩ [.pointer i])∧
 ∃ j:ByteArray,(At (fun c=>c=d) ⟨f,0,none⟩ [.string j])∧
 New (.cells #[.string j] 9 (0,0)) (fun l r=>
 Calls Tryz.prog 77 #[.pointer i,.func (.func 78) #[] #[.pointer ((some ⟨e,0,none⟩)),.pointer ((some ⟨k,0,none⟩)),.pointer ((some ⟨f,0,none⟩))],.slice ((some ⟨l,0,none⟩)) 1 1] r fun n s=>
 ∃ g:Int,(n=.returned (.int .i64 g))∧
 K (.int .i64 g) s) d) q) p) w
theorem call35 (c:Option Addr) (d:ByteArray) (b:Sl) (K:Value→World→Prop) (w:World) (h:B35 c d b K w):Gets Tryz.prog 35 #[.pointer c,.string d,.slice b.a b.len b.cap] w K:=cq (sk:=.leaf) Tryz.func35 (by kernel_rfl) (by kernel_rfl) (by kernel_rfl) h
def B37 (a:Option Addr) (b:ByteArray) (K:Value→World→Prop) (w:World):Prop:=
 Calls Tryz.prog 83 #[.pointer a,.string b,.func (.func 84) #[] #[]] w fun f i=>
 ∃ d:Value,(f=.returned (d))∧
 New (.cells #[.string b] 9 (0,0)) (fun e j=>
 Calls Tryz.prog 77 #[.pointer a,d,.slice ((some ⟨e,0,none⟩)) 1 1] j fun g k=>
 ∃ c:Int,(g=.returned (.int .i64 c))∧
 K (.int .i64 c) k) i
theorem call37 (a:Option Addr) (b:ByteArray) (K:Value→World→Prop) (w:World) (h:B37 a b K w):Gets Tryz.prog 37 #[.pointer a,.string b] w K:=cq (sk:=.leaf) Tryz.func37 (by kernel_rfl) (by kernel_rfl) (by kernel_rfl) h
def B44 (i:Option Addr) (j:ByteArray) (K:Value→World→Prop) (w:World):Prop:=
 NilP i fun f=>
 ∃ k:Bool,(At (fun b=>b=w) ⟨f.block,f.off + 5,none⟩ [.bool k])∧
 Br k
 (K (.tuple #[.slice none 0 0,.int .i64 5]) w)
 (New (.cells #[.string j] 9 (0,0)) (fun q t=>
 Calls Tryz.prog 97 #[.slice ((some ⟨q,0,none⟩)) 1 1] t fun r e=>
 ∃ l:Bool,(r=.returned (.bool l))∧
 Br (!l)
 (K (.tuple #[.slice none 0 0,.int .i64 1]) e)
 (NilP i fun g=>
 ∃ m:Option Nat,(At (fun b=>b=e) ⟨g.block,g.off + 2,none⟩ [.map m])∧
 ∃ n:Option Addr,∃ o:Bool,(∀ b,(fun b=>b=e) b→((Instr.lookup 76 (.map m) (.string j) true)).run Tryz.prog b=.ok (.tuple #[.pointer n,.bool o]) b)∧
 Br (!o)
 (K (.tuple #[.slice none 0 0,.int .i64 2]) e)
 (NilP n fun p=>
 ∃ c:Sl,(At (fun b=>b=e) (Addr.add p 0) [.slice c.a c.len c.cap])∧
 Calls Tryz.prog 98 #[.slice c.a c.len c.cap] e fun s u=>
 ∃ d:Sl,(s=.returned (.slice d.a d.len d.cap))∧
 K (.tuple #[.slice d.a d.len d.cap,.int .i64 0]) u))) w)
theorem call44 (a:Option Addr) (b:ByteArray) (K:Value→World→Prop) (w:World) (h:B44 a b K w):Gets Tryz.prog 44 #[.pointer a,.string b] w K:=cq (sk:=.leaf) Tryz.func44 (by kernel_rfl) (by kernel_rfl) (by kernel_rfl) h
def B77 (b:Option Addr) (v:Value) (d:Sl) (K:Value→World→Prop) (w:World):Prop:=
 Calls Tryz.prog 97 #[.slice d.a d.len d.cap] w fun r c=>
 ∃ n:Bool,(r=.returned (.bool n))∧
 Br (!n)
 (K (.int .i64 1) c)
 (NilP b fun e=>
 ∃ j:Bool,(At (fun x=>x=c) ⟨e.block,e.off + 5,none⟩ [.bool j])∧
 Br j
 (K (.int .i64 5) c)
 (NilP b fun f=>
 Calls Tryz.prog 122 #[.pointer ((some ⟨f.block,f.off + 4,none⟩))] c fun s o=>
 ∃ k:Bool,(s=.returned (.bool k))∧
 Br k
 (NilP b fun g=>
 ∃ p:World,((Instr.storeAt 4 (.pointer ((some ⟨g.block,g.off + 5,none⟩))) (.bool true)).run Tryz.prog o=.ok () p)∧
 K (.int .i64 5) p)
 (NilP b fun i=>
 Calls Tryz.prog 122 #[.pointer ((some ⟨i.block,i.off + 3,none⟩))] o fun t q=>
 ∃ l:Bool,(t=.returned (.bool l))∧
 Br l
 (K (.int .i64 4) q)
 (CalW Tryz.prog cl v [] q fun u y=>
 ∃ m:Int,(u=.returned (.int .i64 m))∧
 K (.int .i64 m) y))))
theorem call77 (c:Option Addr) (d:Value) (b:Sl) (K:Value→World→Prop) (w:World) (h:B77 c d b K w):Gets Tryz.prog 77 #[.pointer c,d,.slice b.a b.len b.cap] w K:=cq (sk:=.leaf) Tryz.func77 (by kernel_rfl) (by kernel_rfl) (by kernel_rfl) h
def B78 (f:Option Addr) (n:Option Addr) (y:Option Addr) (K:Value→World→Prop) (w:World):Prop:=
 Drw w fun e O=>
 NilP f fun al=>
 ∃ M:Option Addr,(At e al [.pointer M])∧
 NilP M fun v=>
 ∃ N:Int,(At e ⟨v.block,v.off + 1,none⟩ [.int .i64 N])∧
 NilP n fun Z=>
 ∃ i:Sl,(At e Z [.slice i.a i.len i.cap])∧
 NilP f fun aa=>
 ∃ z:Option Addr,(At e aa [.pointer z])∧
 NilP z fun ab=>
 ∃ A:Int,(At e (Addr.add ab 0) [.int .i64 A])∧
 Br (decide (IntKind.i64.wrap (N + (↑i.len:Int))>A))
 (K (.int .i64 3) O)
 (Drw O fun g T=>
 NilP f fun ac=>
 ∃ C:Option Addr,(At g ac [.pointer C])∧
 NilP C fun r=>
 ∃ D:Option Nat,(At g ⟨r.block,r.off + 2,none⟩ [.map D])∧
 NilP y fun ad=>
 ∃ E:ByteArray,(At g ad [.string E])∧
 ∃ F:Option Addr,∃ G:Bool,(∀ w',g w'→((Instr.lookup 76 (.map D) (.string E) true)).run Tryz.prog w'=.ok (.tuple #[.pointer F,.bool G]) w')∧
 ∃ (k:Option Addr→World→Prop),(Br (!G)
 (New (.cells #[.slice none 0 0,.int .i64 0] 106 (0,0)) (fun x an=>
 Drw an fun l ao=>
 NilP f fun ae=>
 ∃ H:Option Addr,(At l ae [.pointer H])∧
 NilP H fun s=>
 ∃ I:Option Nat,(At l ⟨s.block,s.off + 2,none⟩ [.map I])∧
 NilP y fun af=>
 ∃ J:ByteArray,(At l af [.string J])∧
 ∃ U:World,((Instr.mapUpdate 76 (.map I) (.string J) (.pointer ((some ⟨x,0,none⟩)))).run Tryz.prog ao=.ok () U)∧
 k ((some ⟨x,0,none⟩)) U) T)
 (k F T))∧
 ∀ (aq:Env) (o:Option Addr) (V:World),k o V→
 Drw V fun q ap=>
 NilP o fun ag=>
 ∃ b:Sl,(At q (Addr.add ag 0) [.slice b.a b.len b.cap])∧
 NilP n fun ah=>
 ∃ c:Sl,(At q ah [.slice c.a c.len c.cap])∧
 ∃ X:World,∃ d:Sl,((Builtin.append_ #[53,53] 53 #[.slice b.a b.len b.cap,.slice c.a c.len c.cap]).run Tryz.prog ap=.ok (.slice d.a d.len d.cap) X)∧
 NilP o fun ai=>
 ∃ Y:World,((Instr.storeAt 53 (.pointer ((some (Addr.add ai 0)))) (.slice d.a d.len d.cap)).run Tryz.prog X=.ok () Y)∧
 Drw Y fun m am=>
 NilP f fun aj=>
 ∃ p:Option Addr,(At m aj [.pointer p])∧
 NilP p fun t=>
 ∃ L:Int,(At m ⟨t.block,t.off + 1,none⟩ [.int .i64 L])∧
 NilP n fun ak=>
 ∃ j:Sl,(At m ak [.slice j.a j.len j.cap])∧
 NilP p fun u=>
 ∃ Q:World,((Instr.storeAt 3 (.pointer ((some ⟨u.block,u.off + 1,none⟩))) (.int .i64 (IntKind.i64.wrap (L + (↑j.len:Int))))).run Tryz.prog am=.ok () Q)∧
 K (.int .i64 0) Q)
def sk78:Sk:=(.seq .leaf (.seq .leaf (.seq .leaf (.cut [4] [.ptr] [4,27,28,29,30,31,32,33,34,35,36] .leaf .leaf))))
theorem call78 (a:Option Addr) (b:Option Addr) (c:Option Addr) (K:Value→World→Prop) (w:World) (h:B78 a b c K w):Gets Tryz.prog 78 #[.pointer a,.pointer b,.pointer c] w K:=cq (sk:=sk78) Tryz.func78 (by kernel_rfl) (by kernel_rfl) (by kernel_rfl) h
def B83 (d:Option Addr) (f:ByteArray) (e:Value) (K:Value→World→Prop) (w:World):Prop:=
 New (.cells #[.pointer d] 25 (0,0)) (fun a g=>
 New (.cells #[.string f] 9 (0,0)) (fun c i=>
 New (.cells (Value.cells e) 123 (0,0)) (fun b j=>
 K (.func (.func 123) #[] #[.pointer ((some ⟨a,0,none⟩)),.pointer ((some ⟨c,0,none⟩)),.pointer ((some ⟨b,0,none⟩))]) j) i) g) w
theorem call83 (a:Option Addr) (c:ByteArray) (b:Value) (K:Value→World→Prop) (w:World) (h:B83 a c b K w):Gets Tryz.prog 83 #[.pointer a,.string c,b] w K:=cq (sk:=.leaf) Tryz.func83 (by kernel_rfl) (by kernel_rfl) (by kernel_rfl) h
def B84 (d:Option Addr) (K:Value→World→Prop) (w:World):Prop:=
 NilP d fun f=>
 ∃ b:Sl,(At (fun g=>g=w) (Addr.add f 0) [.slice b.a b.len b.cap])∧
 NilP d fun c=>
 ∃ e:World,((Instr.storeAt 3 (.pointer ((some ⟨c.block,c.off + 1,none⟩))) (.int .i64 ((↑b.len:Int)))).run Tryz.prog w=.ok () e)∧
 K (.tuple #[]) e
theorem call84 (a:Option Addr) (K:Value→World→Prop) (w:World) (h:B84 a K w):Gets Tryz.prog 84 #[.pointer a] w K:=cq (sk:=.leaf) Tryz.func84 (by kernel_rfl) (by kernel_rfl) (by kernel_rfl) h
def B97 (m:Sl) (K:Value→World→Prop) (w:World):Prop:=
 ∃ (l:Int→World→Prop) (r:Int→World→Nat),(l 0 w)∧∀ (u:Env) (g:Int) (i:World),l g i→
 Br (decide (g<(↑m.len:Int)))
 (Rng g m.len (NilP m.a fun s=>
 ∃ k:ByteArray,(At (fun n=>n=i) (Addr.add s g.toNat) [.string k])∧
 ∃ (o:World→Prop),(Br (k.toList==(ByteArray.mk #[]).toList)
 (K (.bool false) i)
 (Br (decide ((↑k.size:Int)>64))
 (K (.bool false) i)
 (o  i)))∧
 ∀ (v:Env)  (p:World),o  p→
 ∃ q:World,∃ j:Sl,((convert 9 53 (.string k)).run Tryz.prog p=.ok (.slice j.a j.len j.cap) q)∧
 ∃ (f:Int→World→Prop) (d:Int→World→Nat),(f 0 q)∧∀ (x:Env) (c:Int) (b:World),f c b→
 Br (decide (c<(↑j.len:Int)))
 (Rng c j.len (NilP j.a fun t=>
 ∃ e:Int,(At (fun n=>n=b) (Addr.add t c.toNat) [.int .u8 e])∧
 Br (decide (e<97))
 (Br (decide (e<48))
 (Br (e !=46)
 (Br (e !=45)
 (K (.bool false) b)
 ((f (IntKind.i64.wrap (c + 1)) b)∧d (IntKind.i64.wrap (c + 1)) b<d c b))
 ((f (IntKind.i64.wrap (c + 1)) b)∧d (IntKind.i64.wrap (c + 1)) b<d c b))
 (Br (decide (e>57))
 (Br (e !=46)
 (Br (e !=45)
 (K (.bool false) b)
 ((f (IntKind.i64.wrap (c + 1)) b)∧d (IntKind.i64.wrap (c + 1)) b<d c b))
 ((f (IntKind.i64.wrap (c + 1)) b)∧d (IntKind.i64.wrap (c + 1)) b<d c b))
 ((f (IntKind.i64.wrap (c + 1)) b)∧d (IntKind.i64.wrap (c + 1)) b<d c b)))
 (Br (decide (e>122))
 (Br (decide (e<48))
 (Br (e !=46)
 (Br (e !=45)
 (K (.bool false) b)
 ((f (IntKind.i64.wrap (c + 1)) b)∧d (IntKind.i64.wrap (c + 1)) b<d c b))
 ((f (IntKind.i64.wrap (c + 1)) b)∧d (IntKind.i64.wrap (c + 1)) b<d c b))
 (Br (decide (e>57))
 (Br (e !=46)
 (Br (e !=45)
 (K (.bool false) b)
 ((f (IntKind.i64.wrap (c + 1)) b)∧d (IntKind.i64.wrap (c + 1)) b<d c b))
 ((f (IntKind.i64.wrap (c + 1)) b)∧d (IntKind.i64.wrap (c + 1)) b<d c b))
 ((f (IntKind.i64.wrap (c + 1)) b)∧d (IntKind.i64.wrap (c + 1)) b<d c b)))
 ((f (IntKind.i64.wrap (c + 1)) b)∧d (IntKind.i64.wrap (c + 1)) b<d c b))))
 ((l (IntKind.i64.wrap (g + 1)) b)∧r (IntKind.i64.wrap (g + 1)) b<r g i)))
 (K (.bool true) i)
def sk97:Sk:=(.seq .leaf (.seq (.seq .leaf (.block (.loop [9] [(.int .i64)] [2,4,6,9,10,11,12,13,14,15,16,17,18,19,20,21,22,23,24,25,26,27,28,29,30,31,32,33,34,35,36,37,38,39,40,41,42,43,44,45,46,47,48,49,50] (.seq .leaf (.seq .leaf (.seq (.block (.seq .leaf (.cut [] [] [2,13,14,15,16,17,18,19] .leaf (.seq .leaf (.block (.loop [23] [(.int .i64)] [2,6,23,24,25,26,27,28,29,30,31,32,33,34,35,36,37,38,39,40,41,42,43,44,45,46,47,48,49] .leaf)))))) .leaf)))))) .leaf))
theorem call97 (b:Sl) (K:Value→World→Prop) (w:World) (h:B97 b K w):Gets Tryz.prog 97 #[.slice b.a b.len b.cap] w K:=cq (sk:=sk97) Tryz.func97 (by kernel_rfl) (by kernel_rfl) (by kernel_rfl) h
def B122 (b:Option Addr) (K:Value→World→Prop) (w:World):Prop:=
 NilP b fun j=>
 ∃ e:Int,(At (fun a=>a=w) j [.int .i64 e])∧
 Br (e==-1)
 (K (.bool false) w)
 (NilP b fun k=>
 ∃ f:Int,(At (fun a=>a=w) k [.int .i64 f])∧
 NilP b fun g=>
 ∃ c:World,((Instr.storeAt 3 (.pointer ((some (g)))) (.int .i64 (IntKind.i64.wrap (f - 1)))).run Tryz.prog w=.ok () c)∧
 NilP b fun i=>
 ∃ d:Int,(At (fun a=>a=c) i [.int .i64 d])∧
 K (.bool (d==-1)) c)
theorem call122 (a:Option Addr) (K:Value→World→Prop) (w:World) (h:B122 a K w):Gets Tryz.prog 122 #[.pointer a] w K:=cq (sk:=.leaf) Tryz.func122 (by kernel_rfl) (by kernel_rfl) (by kernel_rfl) h
def B123 (o:Option Addr) (p:Option Addr) (q:Option Addr) (K:Value→World→Prop) (w:World):Prop:=
 Drw w fun b c=>
 NilP o fun n=>
 ∃ k:Option Addr,(At b n [.pointer k])∧
 NilP k fun d=>
 ∃ e:Option Nat,(At b ⟨d.block,d.off + 2,none⟩ [.map e])∧
 NilP p fun l=>
 ∃ f:ByteArray,(At b l [.string f])∧
 ∃ g:Option Addr,∃ i:Bool,(∀ a,b a→((Instr.lookup 76 (.map e) (.string f) true)).run Tryz.prog a=.ok (.tuple #[.pointer g,.bool i]) a)∧
 Br (!i)
 (K (.int .i64 2) c)
 (NilP q fun m=>
 ∃ j:Value,(At (fun a=>a=c) m [j])∧
 CalW Tryz.prog cl j [.pointer g] c fun r s=>
 (r=.returned (.tuple #[]))∧
 K (.int .i64 0) s)
theorem call123 (a:Option Addr) (b:Option Addr) (c:Option Addr) (K:Value→World→Prop) (w:World) (h:B123 a b c K w):Gets Tryz.prog 123 #[.pointer a,.pointer b,.pointer c] w K:=cq (sk:=.leaf) Tryz.func123 (by kernel_rfl) (by kernel_rfl) (by kernel_rfl) h
def B11 (c:Option Addr) (e:Int) (K:Value→World→Prop) (w:World):Prop:=
 NilP c fun a=>
 Calls Tryz.prog 39 #[.pointer ((some ⟨a.block,a.off + 3,none⟩)),.int .i64 e] w fun d f=>
 ∃ b:Int,(d=.returned (.int .i64 b))∧
 K (.int .i64 b) f
theorem call11 (a:Option Addr) (b:Int) (K:Value→World→Prop) (w:World) (h:B11 a b K w):Gets Tryz.prog 11 #[.pointer a,.int .i64 b] w K:=cq (sk:=.leaf) Tryz.func11 (by kernel_rfl) (by kernel_rfl) (by kernel_rfl) h
def B40 (c:Option Addr) (K:Value→World→Prop) (w:World):Prop:=
 NilP c fun a=>
 ∃ b:Bool,(At (fun d=>d=w) ⟨a.block,a.off + 5,none⟩ [.bool b])∧
 K (.bool b) w
theorem call40 (a:Option Addr) (K:Value→World→Prop) (w:World) (h:B40 a K w):Gets Tryz.prog 40 #[.pointer a] w K:=cq (sk:=.leaf) Tryz.func40 (by kernel_rfl) (by kernel_rfl) (by kernel_rfl) h
def B39 (d:Option Addr) (a:Int) (K:Value→World→Prop) (w:World):Prop:=
 Br (decide (a<0))
 (K (.int .i64 1) w)
 (NilP d fun c=>
 ∃ b:World,((Instr.storeAt 3 (.pointer ((some (c)))) (.int .i64 a)).run Tryz.prog w=.ok () b)∧
 K (.int .i64 0) b)
theorem call39 (b:Option Addr) (a:Int) (K:Value→World→Prop) (w:World) (h:B39 b a K w):Gets Tryz.prog 39 #[.pointer b,.int .i64 a] w K:=cq (sk:=.leaf) Tryz.func39 (by kernel_rfl) (by kernel_rfl) (by kernel_rfl) h
end Go.Proofs.YtkfedbncmfnpnaaGreatDoor
/- The formulas of functions of this seat's translation, printed by a program of mine off the translation; each is proved equal to 'fnF' of the function's body, so it is enough for the call. No condition. -/
namespace Go.Proofs.YtkfedbncmfnpnaaGreatDoor
open Go Go.VC
set_option linter.unusedVariables false
set_option maxRecDepth 10000
def B130 (y:Option Addr) (E:ByteArray) (F:ByteArray) (K:Value→World→Prop) (w:World):Prop:=
 New (.cells #[.pointer y] 25 (0,0)) (fun b G=>
 New (.cells #[.string E] 9 (0,0)) (fun c H=>
 New (.cells #[.string F] 9 (0,0)) (fun d I=>
 Drw I fun a p=>
 ∃ g:Option Addr,(At a ⟨b,0,none⟩ [.pointer g])∧
 ∃ i:Option Addr,(At a ⟨b,0,none⟩ [.pointer i])∧
 ∃ j:ByteArray,(At a ⟨c,0,none⟩ [.string j])∧
 ∃ e:ByteArray,(At a ⟨c,0,none⟩ [.string e])∧
 ∃ f:ByteArray,(At a ⟨d,0,none⟩ [.string f])∧
 (Calls Tryz.prog 83 #[.pointer i,.string j,.func (.func 172) #[] #[.pointer ((some ⟨c,0,none⟩)),.pointer ((some ⟨d,0,none⟩)),.pointer ((some ⟨b,0,none⟩))]] p fun z q=>
 ∃ k:Value,(z=.returned (k))∧
 (a q)∧
 New (.cells #[.string e,.string f] 9 (0,0)) (fun v r=>
 (a r)∧
 Calls Tryz.prog 77 #[.pointer g,k,.slice ((some ⟨v,0,none⟩)) 2 2] r fun A s=>
 ∃ m:Int,(A=.returned (.int .i64 m))∧
 (a s)∧
 K (.int .i64 m) s) q)∧
 New (.cells #[.string e,.string f] 9 (0,0)) (fun x t=>
 (a t)∧
 Calls Tryz.prog 83 #[.pointer i,.string j,.func (.func 172) #[] #[.pointer ((some ⟨c,0,none⟩)),.pointer ((some ⟨d,0,none⟩)),.pointer ((some ⟨b,0,none⟩))]] t fun C u=>
 ∃ l:Value,(C=.returned (l))∧
 (a u)∧
 Calls Tryz.prog 77 #[.pointer g,l,.slice ((some ⟨x,0,none⟩)) 2 2] u fun D o=>
 ∃ n:Int,(D=.returned (.int .i64 n))∧
 (a o)∧
 K (.int .i64 n) o) p) H) G) w
theorem call130 (a:Option Addr) (b:ByteArray) (c:ByteArray) (K:Value→World→Prop) (w:World) (h:B130 a b c K w):Gets Tryz.prog 130 #[.pointer a,.string b,.string c] w K:=cq (sk:=.leaf) Tryz.func130 (by kernel_rfl) (by kernel_rfl) (by kernel_rfl) h
def B104 (v:Option Addr) (C:ByteArray) (K:Value→World→Prop) (w:World):Prop:=
 New (.cells #[.pointer v] 25 (0,0)) (fun b D=>
 New (.cells #[.string C] 9 (0,0)) (fun c E=>
 Drw E fun a m=>
 ∃ e:Option Addr,(At a ⟨b,0,none⟩ [.pointer e])∧
 ∃ f:Option Addr,(At a ⟨b,0,none⟩ [.pointer f])∧
 ∃ g:ByteArray,(At a ⟨c,0,none⟩ [.string g])∧
 ∃ d:ByteArray,(At a ⟨c,0,none⟩ [.string d])∧
 (Calls Tryz.prog 83 #[.pointer f,.string g,.func (.func 141) #[] #[.pointer ((some ⟨b,0,none⟩)),.pointer ((some ⟨c,0,none⟩))]] m fun x n=>
 ∃ k:Value,(x=.returned (k))∧
 (a n)∧
 New (.cells #[.string d] 9 (0,0)) (fun t o=>
 (a o)∧
 Calls Tryz.prog 77 #[.pointer e,k,.slice ((some ⟨t,0,none⟩)) 1 1] o fun y p=>
 ∃ i:Int,(y=.returned (.int .i64 i))∧
 (a p)∧
 K (.int .i64 i) p) n)∧
 New (.cells #[.string d] 9 (0,0)) (fun u q=>
 (a q)∧
 Calls Tryz.prog 83 #[.pointer f,.string g,.func (.func 141) #[] #[.pointer ((some ⟨b,0,none⟩)),.pointer ((some ⟨c,0,none⟩))]] q fun z r=>
 ∃ l:Value,(z=.returned (l))∧
 (a r)∧
 Calls Tryz.prog 77 #[.pointer e,l,.slice ((some ⟨u,0,none⟩)) 1 1] r fun A s=>
 ∃ j:Int,(A=.returned (.int .i64 j))∧
 (a s)∧
 K (.int .i64 j) s) m) D) w
theorem call104 (a:Option Addr) (b:ByteArray) (K:Value→World→Prop) (w:World) (h:B104 a b K w):Gets Tryz.prog 104 #[.pointer a,.string b] w K:=cq (sk:=.leaf) Tryz.func104 (by kernel_rfl) (by kernel_rfl) (by kernel_rfl) h
def B172 (G:Option Addr) (j:Option Addr) (d:Option Addr) (e:Option Addr) (K:Value→World→Prop) (w:World):Prop:=
 NilP j fun A=>
 ∃ q:ByteArray,(At (fun a=>a=w) A [.string q])∧
 NilP d fun C=>
 ∃ r:ByteArray,(At (fun a=>a=w) C [.string r])∧
 Br (q.toList==r.toList)
 (K (.tuple #[]) w)
 (NilP e fun D=>
 ∃ s:Option Addr,(At (fun a=>a=w) D [.pointer s])∧
 NilP d fun E=>
 ∃ t:ByteArray,(At (fun a=>a=w) E [.string t])∧
 Calls Tryz.prog 142 #[.pointer s,.string t] w fun F H=>
 (F=.returned (.tuple #[]))∧
 Drw H fun b I=>
 NilP e fun v=>
 ∃ k:Option Addr,(At b v [.pointer k])∧
 NilP k fun g=>
 ∃ l:Option Nat,(At b ⟨g.block,g.off + 2,none⟩ [.map l])∧
 NilP j fun x=>
 ∃ m:ByteArray,(At b x [.string m])∧
 ∃ f:World,((Builtin.delete_ #[76,9] 0 #[.map l,.string m]).run Tryz.prog I=.ok (.tuple #[]) f)∧
 (b f)∧
 Drw f fun c J=>
 NilP e fun y=>
 ∃ n:Option Addr,(At c y [.pointer n])∧
 NilP n fun i=>
 ∃ o:Option Nat,(At c ⟨i.block,i.off + 2,none⟩ [.map o])∧
 NilP d fun z=>
 ∃ p:ByteArray,(At c z [.string p])∧
 ∃ u:World,((Instr.mapUpdate 76 (.map o) (.string p) (.pointer G)).run Tryz.prog J=.ok () u)∧
 K (.tuple #[]) u)
theorem call172 (d:Option Addr) (a:Option Addr) (b:Option Addr) (c:Option Addr) (K:Value→World→Prop) (w:World) (h:B172 d a b c K w):Gets Tryz.prog 172 #[.pointer d,.pointer a,.pointer b,.pointer c] w K:=cq (sk:=.leaf) Tryz.func172 (by kernel_rfl) (by kernel_rfl) (by kernel_rfl) h
def B142 (c:Option Addr) (l:ByteArray) (K:Value→World→Prop) (w:World):Prop:=
 NilP c fun k=>
 ∃ m:Option Nat,(At (fun b=>b=w) ⟨k.block,k.off + 2,none⟩ [.map m])∧
 ∃ n:Option Addr,∃ o:Bool,(∀ b,(fun b=>b=w) b→((Instr.lookup 76 (.map m) (.string l) true)).run Tryz.prog b=.ok (.tuple #[.pointer n,.bool o]) b)∧
 Br o
 (Drw w fun f t=>
 NilP c fun g=>
 ∃ p:Int,(At f ⟨g.block,g.off + 1,none⟩ [.int .i64 p])∧
 NilP n fun s=>
 ∃ d:Sl,(At f (Addr.add s 0) [.slice d.a d.len d.cap])∧
 NilP c fun i=>
 ∃ e:World,((Instr.storeAt 3 (.pointer ((some ⟨i.block,i.off + 1,none⟩))) (.int .i64 (IntKind.i64.wrap (p - (↑d.len:Int))))).run Tryz.prog t=.ok () e)∧
 NilP c fun j=>
 ∃ q:Option Nat,(At (fun b=>b=e) ⟨j.block,j.off + 2,none⟩ [.map q])∧
 ∃ r:World,((Builtin.delete_ #[76,9] 0 #[.map q,.string l]).run Tryz.prog e=.ok (.tuple #[]) r)∧
 K (.tuple #[]) r)
 (K (.tuple #[]) w)
theorem call142 (a:Option Addr) (b:ByteArray) (K:Value→World→Prop) (w:World) (h:B142 a b K w):Gets Tryz.prog 142 #[.pointer a,.string b] w K:=cq (sk:=.leaf) Tryz.func142 (by kernel_rfl) (by kernel_rfl) (by kernel_rfl) h
def B141 (k:Option Addr) (f:Option Addr) (g:Option Addr) (K:Value→World→Prop) (w:World):Prop:=
 NilP f fun d=>
 ∃ b:Option Addr,(At (fun a=>a=w) d [.pointer b])∧
 NilP g fun e=>
 ∃ c:ByteArray,(At (fun a=>a=w) e [.string c])∧
 Calls Tryz.prog 142 #[.pointer b,.string c] w fun i j=>
 (i=.returned (.tuple #[]))∧
 K (.tuple #[]) j
theorem call141 (c:Option Addr) (a:Option Addr) (b:Option Addr) (K:Value→World→Prop) (w:World) (h:B141 c a b K w):Gets Tryz.prog 141 #[.pointer c,.pointer a,.pointer b] w K:=cq (sk:=.leaf) Tryz.func141 (by kernel_rfl) (by kernel_rfl) (by kernel_rfl) h
end Go.Proofs.YtkfedbncmfnpnaaGreatDoor
/- The formulas of functions of this seat's translation, printed by a program of mine off the translation; each is proved equal to 'fnF' of the function's body, so it is enough for the call. No condition. -/
namespace Go.Proofs.YtkfedbncmfnpnaaGreatDoor
open Go Go.VC
set_option linter.unusedVariables false
set_option maxRecDepth 10000
def B33 (f:Option Addr) (K:Value→World→Prop) (w:World):Prop:=
 NilP f fun c=>
 ∃ d:Option Nat,(At (fun j=>j=w) ⟨c.block,c.off + 2,none⟩ [.map d])∧
 Calls Tryz.prog 76 #[.map d] w fun g k=>
 ∃ e:Value,(g=.returned (e))∧
 Calls Tryz.prog 75 #[e] k fun i l=>
 ∃ b:Sl,(i=.returned (.slice b.a b.len b.cap))∧
 K (.slice b.a b.len b.cap) l
theorem call33 (a:Option Addr) (K:Value→World→Prop) (w:World) (h:B33 a K w):Gets Tryz.prog 33 #[.pointer a] w K:=cq (sk:=.leaf) Tryz.func33 (by kernel_rfl) (by kernel_rfl) (by kernel_rfl) h
end Go.Proofs.YtkfedbncmfnpnaaGreatDoor
/- The formulas of functions of this seat's translation, printed by a program of mine off the translation; each is proved equal to 'fnF' of the function's body, so it is enough for the call. No condition. -/
namespace Go.Proofs.YtkfedbncmfnpnaaGreatDoor
open Go Go.VC
set_option linter.unusedVariables false
set_option maxRecDepth 10000
def B85 (b:Sl) (e:ByteArray) (K:Value→World→Prop) (w:World):Prop:=
 Calls Tryz.prog 124 #[.slice b.a b.len b.cap,.string e] w fun d f=>
 ∃ c:Int,(d=.returned (.int .i64 c))∧
 K (.bool (decide (c ≥ 0))) f
theorem call85 (b:Sl) (c:ByteArray) (K:Value→World→Prop) (w:World) (h:B85 b c K w):Gets Tryz.prog 85 #[.slice b.a b.len b.cap,.string c] w K:=cq (sk:=.leaf) Tryz.func85 (by kernel_rfl) (by kernel_rfl) (by kernel_rfl) h
def B124 (e:Sl) (j:ByteArray) (K:Value→World→Prop) (w:World):Prop:=
 ∃ (d:Int→World→Prop) (g:Int→World→Nat),(d 0 w)∧∀ (l:Env) (b:Int) (c:World),d b c→
 Br (decide (b<(↑e.len:Int)))
 (Rng b e.len (NilP e.a fun i=>
 ∃ f:ByteArray,(At (fun k=>k=c) (Addr.add i b.toNat) [.string f])∧
 Br (j.toList==f.toList)
 (K (.int .i64 b) c)
 ((d (IntKind.i64.wrap (b + 1)) c)∧g (IntKind.i64.wrap (b + 1)) c<g b c)))
 (K (.int .i64 ((-1))) c)
def sk124:Sk:=(.seq .leaf (.seq (.seq .leaf (.block (.loop [8] [(.int .i64)] [4,5,8,9,10,11,12,13,14,15,16,17,18] .leaf))) .leaf))
theorem call124 (b:Sl) (c:ByteArray) (K:Value→World→Prop) (w:World) (h:B124 b c K w):Gets Tryz.prog 124 #[.slice b.a b.len b.cap,.string c] w K:=cq (sk:=sk124) Tryz.func124 (by kernel_rfl) (by kernel_rfl) (by kernel_rfl) h
def B57 (i:Int) (j:Int) (k:Int) (K:Value→World→Prop) (w:World):Prop:=
 New (.cells #[.int .i64 i,.int .i64 j,.int .i64 k] 96 (0,0)) (fun e d=>
 ∃ c:Int,(At (fun l=>l=d) ⟨e,0,none⟩ [.int .i64 c])∧
 Calls Tryz.prog 105 #[.int .i64 c] d fun f m=>
 ∃ b:ByteArray,(f=.returned (.string b))∧
 Calls Tryz.prog 106 #[.string (ByteArray.mk #[48]),.int .i64 (IntKind.i64.wrap (8 - (↑b.size:Int)))] m fun g n=>
 ∃ a:ByteArray,(g=.returned (.string a))∧
 (((↑((ByteArray.mk #[119,97,108,45]).size + a.size):Int):Int)≤9223372036854775807)∧
 (((↑((ByteArray.mk #[119,97,108,45]++a).size + b.size):Int):Int)≤9223372036854775807)∧
 K (.string (ByteArray.mk #[119,97,108,45]++a++b)) n) w
theorem call57 (a:Int) (b:Int) (c:Int) (K:Value→World→Prop) (w:World) (h:B57 a b c K w):Gets Tryz.prog 57 #[.agg #[.int .i64 a,.int .i64 b,.int .i64 c]] w K:=cq (sk:=.leaf) Tryz.func57 (by kernel_rfl) (by kernel_rfl) (by kernel_rfl) h
def B64 (m:Sl) (y:Bool) (n:Sl) (K:Value→World→Prop) (w:World):Prop:=
 ∃ (l:Sl→Int→World→Prop) (r:Sl→Int→World→Nat),(l ⟨none,0,0⟩ 0 w)∧∀ (H:Env) (b:Sl) (c:Int) (j:World),l b c j→
 Br (decide (c<(↑n.len:Int)))
 (Rng c n.len (NilP n.a fun s=>
 ∃ p:Int,(At (fun C=>C=j) (Addr.add s c.toNat) [.int .i64 p])∧
 Calls Tryz.prog 113 #[.int .u64 (IntKind.u64.wrap p)] j fun t D=>
 ∃ d:Sl,(t=.returned (.slice d.a d.len d.cap))∧
 ∃ o:World,∃ k:Sl,((Builtin.append_ #[53,53] 53 #[.slice b.a b.len b.cap,.slice d.a d.len d.cap]).run Tryz.prog D=.ok (.slice k.a k.len k.cap) o)∧
 (l k (IntKind.i64.wrap (c + 1)) o)∧r k (IntKind.i64.wrap (c + 1)) o<r b c j))
 (Br y
 (Calls Tryz.prog 114 #[.slice m.a m.len m.cap] j fun u E=>
 ∃ e:Sl,(u=.returned (.slice e.a e.len e.cap))∧
 ∃ q:World,∃ f:Sl,((Builtin.append_ #[53,53] 53 #[.slice b.a b.len b.cap,.slice e.a e.len e.cap]).run Tryz.prog E=.ok (.slice f.a f.len f.cap) q)∧
 Calls Tryz.prog 112 #[.slice f.a f.len f.cap] q fun v F=>
 ∃ g:Sl,∃ z:Int,(v=.returned (.tuple #[.slice g.a g.len g.cap,.int .i64 z]))∧
 K (.slice g.a g.len g.cap) F)
 (Calls Tryz.prog 112 #[.slice b.a b.len b.cap] j fun x G=>
 ∃ i:Sl,∃ A:Int,(x=.returned (.tuple #[.slice i.a i.len i.cap,.int .i64 A]))∧
 K (.slice i.a i.len i.cap) G))
def sk64:Sk:=(.seq .leaf (.seq .leaf (.seq (.seq .leaf (.block (.loop [7,14] [.sl,(.int .i64)] [7,9,14,15,16,17,18,19,20,21,22,23] .leaf))) .leaf)))
theorem call64 (b:Sl) (d:Bool) (c:Sl) (K:Value→World→Prop) (w:World) (h:B64 b d c K w):Gets Tryz.prog 64 #[.slice b.a b.len b.cap,.bool d,.slice c.a c.len c.cap] w K:=cq (sk:=sk64) Tryz.func64 (by kernel_rfl) (by kernel_rfl) (by kernel_rfl) h
def B156 (c:Option Addr) (K:Value→World→Prop) (w:World):Prop:=
 Calls Tryz.prog 155 #[.pointer c,.int .u64 1099511627777] w fun b d=>
 ∃ a:Int,(b=.returned (.int .u64 a))∧
 K (.int .i64 (IntKind.i64.wrap a)) d
theorem call156 (a:Option Addr) (K:Value→World→Prop) (w:World) (h:B156 a K w):Gets Tryz.prog 156 #[.pointer a] w K:=cq (sk:=.leaf) Tryz.func156 (by kernel_rfl) (by kernel_rfl) (by kernel_rfl) h
def B52 (e:Option Addr) (K:Value→World→Prop) (w:World):Prop:=
 Drw w fun c i=>
 NilP e fun g=>
 ∃ f:Int,(At c (Addr.add g 0) [.int .i64 f])∧
 NilP e fun d=>
 ∃ b:Sl,(At c ⟨d.block,d.off + 1,none⟩ [.slice b.a b.len b.cap])∧
 K (.int .i64 (IntKind.i64.wrap (f + (↑b.len:Int)))) i
theorem call52 (a:Option Addr) (K:Value→World→Prop) (w:World) (h:B52 a K w):Gets Tryz.prog 52 #[.pointer a] w K:=cq (sk:=.leaf) Tryz.func52 (by kernel_rfl) (by kernel_rfl) (by kernel_rfl) h
def B110 (d:Option Addr) (a:Option Addr) (K:Value→World→Prop) (w:World):Prop:=
 Calls Tryz.prog 155 #[.pointer a,.int .u64 3] w fun i c=>
 ∃ b:Int,(i=.returned (.int .u64 b))∧
 Br (b==1)
 (Calls Tryz.prog 158 #[.pointer d,.pointer a] c fun j m=>
 ∃ e:Bool,(j=.returned (.bool e))∧
 K (.bool e) m)
 (Br (b==2)
 (Calls Tryz.prog 159 #[.pointer d,.pointer a] c fun k n=>
 ∃ f:Bool,(k=.returned (.bool f))∧
 K (.bool f) n)
 (Br (b==3)
 (Calls Tryz.prog 160 #[.pointer d,.pointer a] c fun l o=>
 ∃ g:Bool,(l=.returned (.bool g))∧
 K (.bool g) o)
 (K (.bool false) c)))
theorem call110 (a:Option Addr) (b:Option Addr) (K:Value→World→Prop) (w:World) (h:B110 a b K w):Gets Tryz.prog 110 #[.pointer a,.pointer b] w K:=cq (sk:=.leaf) Tryz.func110 (by kernel_rfl) (by kernel_rfl) (by kernel_rfl) h
def B158 (l:Option Addr) (g:Option Addr) (K:Value→World→Prop) (w:World):Prop:=
 Calls Tryz.prog 156 #[.pointer g] w fun J T=>
 ∃ A:Int,(J=.returned (.int .i64 A))∧
 Calls Tryz.prog 155 #[.pointer g,.int .u64 1099511627776] T fun L V=>
 ∃ C:Int,(L=.returned (.int .u64 C))∧
 Calls Tryz.prog 155 #[.pointer g,.int .u64 7] V fun M X=>
 ∃ r:Int,(M=.returned (.int .u64 r))∧
 New (.cells #[.int .i64 0,.int .i64 0,.int .i64 0,.slice none 0 0] 55 (0,0)) (fun f Y=>
 ∃ G:World,((Instr.storeAt 55 (.pointer ((some ⟨f,0,none⟩))) (.agg #[.int .i64 A,.int .i64 (IntKind.i64.wrap C),.int .i64 (IntKind.i64.wrap r),.slice none 0 0])).run Tryz.prog Y=.ok () G)∧
 Calls Tryz.prog 194 #[.pointer g,.int .i64 4096] G fun N Z=>
 ∃ b:Sl,(N=.returned (.slice b.a b.len b.cap))∧
 ∃ H:World,((Instr.storeAt 53 (.pointer ((some ⟨f,0 + 3,none⟩))) (.slice b.a b.len b.cap)).run Tryz.prog Z=.ok () H)∧
 ∃ (o:World→Prop),(Drw H fun i aa=>
 Calls Tryz.prog 157 #[.pointer g] aa fun O k=>
 ∃ s:Bool,(O=.returned (.bool s))∧
 (i k)∧
 Br (!s)
 (K (.bool false) k)
 (∃ t:Int,(At i ⟨f,0,none⟩ [.int .i64 t])∧
 Br (decide (t>1099511627776))
 (K (.bool false) k)
 (∃ u:Int,(At i ⟨f,0,none⟩ [.int .i64 u])∧
 Calls Tryz.prog 52 #[.pointer l] k fun Q m=>
 ∃ v:Int,(Q=.returned (.int .i64 v))∧
 (i m)∧
 Br (u !=IntKind.i64.wrap (v + 1))
 (K (.bool false) m)
 (o  m))))∧
 ∀ (ab:Env)  (D:World),o  D→
 Drw D fun j U=>
 NilP l fun p=>
 ∃ c:Sl,(At j ⟨p.block,p.off + 1,none⟩ [.slice c.a c.len c.cap])∧
 ∃ x:Int,∃ y:Int,∃ z:Int,∃ d:Sl,(At j ⟨f,0,none⟩ [.int .i64 x,.int .i64 y,.int .i64 z,.slice d.a d.len d.cap])∧
 New (.cells #[.int .i64 x,.int .i64 y,.int .i64 z,.slice d.a d.len d.cap] 55 (0,0)) (fun I E=>
 (j E)∧
 ∃ n:World,∃ e:Sl,((Builtin.append_ #[40,40] 40 #[.slice c.a c.len c.cap,.slice ((some ⟨I,0,none⟩)) 1 1]).run Tryz.prog E=.ok (.slice e.a e.len e.cap) n)∧
 (j n)∧
 NilP l fun q=>
 ∃ F:World,((Instr.storeAt 40 (.pointer ((some ⟨q.block,q.off + 1,none⟩))) (.slice e.a e.len e.cap)).run Tryz.prog n=.ok () F)∧
 K (.bool true) F) U) X
def sk158:Sk:=(.seq .leaf (.seq .leaf (.seq .leaf (.cut [] [] [4,18,19,20,21,22,23,24,25,26,27,28,29,30,31,32,33] .leaf .leaf))))
theorem call158 (a:Option Addr) (b:Option Addr) (K:Value→World→Prop) (w:World) (h:B158 a b K w):Gets Tryz.prog 158 #[.pointer a,.pointer b] w K:=cq (sk:=sk158) Tryz.func158 (by kernel_rfl) (by kernel_rfl) (by kernel_rfl) h
def B159 (c:Option Addr) (m:Option Addr) (K:Value→World→Prop) (w:World):Prop:=
 Calls Tryz.prog 156 #[.pointer m] w fun A G=>
 ∃ b:Int,(A=.returned (.int .i64 b))∧
 ∃ (i:Bool→World→Prop),(Calls Tryz.prog 157 #[.pointer m] G fun C r=>
 ∃ n:Bool,(C=.returned (.bool n))∧
 Br (!n)
 (i true r)
 (i (decide (b<1)) r))∧
 ∀ (I:Env) (q:Bool) (f:World),i q f→
 Br q
 (K (.bool false) f)
 (NilP c fun x=>
 ∃ o:Int,(At (fun F=>F=f) (Addr.add x 0) [.int .i64 o])∧
 Br (decide (b≤o))
 (NilP c fun y=>
 ∃ s:World,((Instr.storeAt 83 (.pointer ((some (y)))) (.agg #[.int .i64 (IntKind.i64.wrap (b - 1)),.slice none 0 0])).run Tryz.prog f=.ok () s)∧
 K (.bool true) s)
 (Calls Tryz.prog 52 #[.pointer c] f fun D t=>
 ∃ p:Int,(D=.returned (.int .i64 p))∧
 Br (decide (b≤p))
 (Drw t fun j H=>
 NilP c fun k=>
 ∃ d:Sl,(At j ⟨k.block,k.off + 1,none⟩ [.slice d.a d.len d.cap])∧
 NilP c fun z=>
 ∃ g:Int,(At j (Addr.add z 0) [.int .i64 g])∧
 ((0:Int)≤IntKind.i64.wrap (IntKind.i64.wrap (b - 1) - g))∧
 ((IntKind.i64.wrap (IntKind.i64.wrap (b - 1) - g):Int)≤(↑d.cap:Int))∧
 Calls Tryz.prog 65 #[.slice d.a ((IntKind.i64.wrap (IntKind.i64.wrap (b - 1) - g)).toNat) d.cap] H fun E u=>
 ∃ e:Sl,(E=.returned (.slice e.a e.len e.cap))∧
 (j u)∧
 NilP c fun l=>
 ∃ v:World,((Instr.storeAt 40 (.pointer ((some ⟨l.block,l.off + 1,none⟩))) (.slice e.a e.len e.cap)).run Tryz.prog u=.ok () v)∧
 K (.bool true) v)
 (K (.bool true) t)))
def sk159:Sk:=(.seq .leaf (.seq .leaf (.seq (.block (.cut [8] [.bool] [8,9,10,11,12,13,14,15] .leaf .leaf)) .leaf)))
theorem call159 (a:Option Addr) (b:Option Addr) (K:Value→World→Prop) (w:World) (h:B159 a b K w):Gets Tryz.prog 159 #[.pointer a,.pointer b] w K:=cq (sk:=sk159) Tryz.func159 (by kernel_rfl) (by kernel_rfl) (by kernel_rfl) h
def B160 (j:Option Addr) (c:Option Addr) (K:Value→World→Prop) (w:World):Prop:=
 Calls Tryz.prog 156 #[.pointer c] w fun g k=>
 ∃ a:Int,(g=.returned (.int .i64 a))∧
 Calls Tryz.prog 157 #[.pointer c] k fun i b=>
 ∃ d:Bool,(i=.returned (.bool d))∧
 Br (!d)
 (K (.bool false) b)
 (Br (decide (a<1))
 (K (.bool false) b)
 (NilP j fun f=>
 ∃ e:World,((Instr.storeAt 83 (.pointer ((some (f)))) (.agg #[.int .i64 (IntKind.i64.wrap (a - 1)),.slice none 0 0])).run Tryz.prog b=.ok () e)∧
 K (.bool true) e))
theorem call160 (a:Option Addr) (b:Option Addr) (K:Value→World→Prop) (w:World) (h:B160 a b K w):Gets Tryz.prog 160 #[.pointer a,.pointer b] w K:=cq (sk:=.leaf) Tryz.func160 (by kernel_rfl) (by kernel_rfl) (by kernel_rfl) h
def B109 (c:Sl) (n:Int) (K:Value→World→Prop) (w:World):Prop:=
 Calls Tryz.prog 111 #[.slice c.a c.len c.cap] w fun i p=>
 ∃ b:Option Addr,(i=.returned (.pointer b))∧
 Calls Tryz.prog 155 #[.pointer b,.int .u64 0] p fun j q=>
 ∃ o:Int,(j=.returned (.int .u64 o))∧
 Calls Tryz.prog 155 #[.pointer b,.int .u64 99999999] q fun k r=>
 ∃ e:Int,(k=.returned (.int .u64 e))∧
 Calls Tryz.prog 156 #[.pointer b] r fun l s=>
 ∃ f:Int,(l=.returned (.int .i64 f))∧
 Calls Tryz.prog 157 #[.pointer b] s fun m d=>
 ∃ g:Bool,(m=.returned (.bool g))∧
 Br (!g)
 (K (.int .i64 0) d)
 (Br (IntKind.i64.wrap e !=n)
 (K (.int .i64 0) d)
 (K (.int .i64 f) d))
theorem call109 (b:Sl) (c:Int) (K:Value→World→Prop) (w:World) (h:B109 b c K w):Gets Tryz.prog 109 #[.slice b.a b.len b.cap,.int .i64 c] w K:=cq (sk:=.leaf) Tryz.func109 (by kernel_rfl) (by kernel_rfl) (by kernel_rfl) h
def B107 (k:Sl) (K:Value→World→Prop) (w:World):Prop:=
 ∃ (f:Sl→Int→World→Prop) (d:Sl→Int→World→Nat),(f ⟨none,0,0⟩ 0 w)∧∀ (E:Env) (b:Sl) (c:Int) (e:World),f b c e→
 Br (decide (c<(↑k.len:Int)))
 (Rng c k.len (NilP k.a fun u=>
 ∃ q:ByteArray,(At (fun C=>C=e) (Addr.add u c.toNat) [.string q])∧
 Calls Tryz.prog 150 #[.string q,.string (ByteArray.mk #[119,97,108,45])] e fun x i=>
 ∃ j:ByteArray,∃ r:Bool,(x=.returned (.tuple #[.string j,.bool r]))∧
 ∃ (p:World→Prop),(Br (!r)
 ((f b (IntKind.i64.wrap (c + 1)) i)∧d b (IntKind.i64.wrap (c + 1)) i<d b c e)
 (Br ((↑j.size:Int) !=8)
 ((f b (IntKind.i64.wrap (c + 1)) i)∧d b (IntKind.i64.wrap (c + 1)) i<d b c e)
 (Calls Tryz.prog 152 #[.string j,.func (.func 151) #[] #[]] i fun y m=>
 ∃ s:Bool,(y=.returned (.bool s))∧
 Br s
 ((f b (IntKind.i64.wrap (c + 1)) m)∧d b (IntKind.i64.wrap (c + 1)) m<d b c e)
 (p  m))))∧
 ∀ (F:Env)  (t:World),p  t→
 Calls Tryz.prog 153 #[.string j] t fun z n=>
 ∃ l:Int,∃ A:Value,(z=.returned (.tuple #[.int .i64 l,A]))∧
 Br (decide (l>0))
 (New (.cells #[.int .i64 l] 3 (0,0)) (fun v D=>
 ∃ o:World,∃ g:Sl,((Builtin.append_ #[41,41] 41 #[.slice b.a b.len b.cap,.slice ((some ⟨v,0,none⟩)) 1 1]).run Tryz.prog D=.ok (.slice g.a g.len g.cap) o)∧
 (f g (IntKind.i64.wrap (c + 1)) o)∧d g (IntKind.i64.wrap (c + 1)) o<d b c e) n)
 ((f b (IntKind.i64.wrap (c + 1)) n)∧d b (IntKind.i64.wrap (c + 1)) n<d b c e)))
 (K (.slice b.a b.len b.cap) e)
def sk107:Sk:=(.seq .leaf (.seq .leaf (.seq (.seq .leaf (.block (.loop [3,13] [.sl,(.int .i64)] [3,5,6,7,8,9,10,13,14,15,16,17,18,19,20,21,22,23,24,25,26,27,28,29,30,31,32,33,34,35,36,37,38,39,40,41,42,43,44,45] (.seq .leaf (.seq .leaf (.seq (.block (.seq .leaf (.seq .leaf (.seq .leaf (.cut [] [] [22,23,24,25,26,27,28,29,30,31,32,33] .leaf .leaf))))) .leaf)))))) .leaf)))
theorem call107 (b:Sl) (K:Value→World→Prop) (w:World) (h:B107 b K w):Gets Tryz.prog 107 #[.slice b.a b.len b.cap] w K:=cq (sk:=sk107) Tryz.func107 (by kernel_rfl) (by kernel_rfl) (by kernel_rfl) h
def B151 (a:Int) (K:Value→World→Prop) (w:World):Prop:=
 Br (decide (a<48))
 (K (.bool true) w)
 (K (.bool (decide (a>57))) w)
theorem call151 (a:Int) (K:Value→World→Prop) (w:World) (h:B151 a K w):Gets Tryz.prog 151 #[.int .i32 a] w K:=cq (sk:=.leaf) Tryz.func151 (by kernel_rfl) (by kernel_rfl) (by kernel_rfl) h
def B58 (i:Option Addr) (K:Value→World→Prop) (w:World):Prop:=
 NilP i fun V=>
 ∃ av:World,((Instr.storeAt 83 (.pointer ((some ⟨V.block,V.off + 2,none⟩))) (.agg #[.int .i64 0,.slice none 0 0])).run Tryz.prog w=.ok () av)∧
 NilP i fun X=>
 ∃ L:World,((Instr.storeAt 84 (.pointer ((some ⟨X.block,X.off + 4,none⟩))) (.slice none 0 0)).run Tryz.prog av=.ok () L)∧
 NilP i fun be=>
 ∃ ag:Option Addr,(At (fun e=>e=L) (Addr.add be 0) [.pointer ag])∧
 Calls Tryz.prog 33 #[.pointer ag] L fun bm b7=>
 ∃ p:Sl,(bm=.returned (.slice p.a p.len p.cap))∧
 Calls Tryz.prog 107 #[.slice p.a p.len p.cap] b7 fun bn cc=>
 ∃ c:Sl,(bn=.returned (.slice c.a c.len c.cap))∧
 ∃ (E:Int→World→Prop) (bb:Int→World→Nat),(E 0 cc)∧∀ (cj:Env) (b:Int) (y:World),E b y→
 Br (decide (b<(↑c.len:Int)))
 (Rng b c.len (NilP c.a fun bf=>
 ∃ q:Int,(At (fun e=>e=y) (Addr.add bf b.toNat) [.int .i64 q])∧
 New (.cells #[.int .i64 0,.int .i64 0,.int .i64 0] 96 (0,0)) (fun d cd=>
 ∃ a9:World,((Instr.storeAt 96 (.pointer ((some ⟨d,0,none⟩))) (.agg #[.int .i64 q,.int .i64 0,.int .i64 0])).run Tryz.prog cd=.ok () a9)∧
 Drw a9 fun A ce=>
 NilP i fun bg=>
 ∃ ah:Option Addr,(At A (Addr.add bg 0) [.pointer ah])∧
 ∃ ai:Int,∃ aj:Int,∃ ak:Int,(At A ⟨d,0,none⟩ [.int .i64 ai,.int .i64 aj,.int .i64 ak])∧
 Calls Tryz.prog 57 #[.agg #[.int .i64 ai,.int .i64 aj,.int .i64 ak]] ce fun bq ba=>
 ∃ al:ByteArray,(bq=.returned (.string al))∧
 (A ba)∧
 Calls Tryz.prog 44 #[.pointer ah,.string al] ba fun br aw=>
 ∃ j:Sl,∃ b0:Int,(br=.returned (.tuple #[.slice j.a j.len j.cap,.int .i64 b0]))∧
 (A aw)∧
 Calls Tryz.prog 108 #[.slice j.a j.len j.cap] aw fun bs l=>
 ∃ f:Sl,∃ I:Int,(bs=.returned (.tuple #[.slice f.a f.len f.cap,.int .i64 I]))∧
 ∃ (t:World→Prop),(Br (decide ((↑f.len:Int)>0))
 (Br (b==0)
 (Rng 0 f.len (NilP f.a fun bi=>
 ∃ r:Sl,(At (fun e=>e=l) (Addr.add bi 0) [.slice r.a r.len r.cap])∧
 Calls Tryz.prog 109 #[.slice r.a r.len r.cap,.int .i64 q] l fun bt b1=>
 ∃ an:Int,(bt=.returned (.int .i64 an))∧
 ∃ ax:World,((Instr.storeAt 3 (.pointer ((some ⟨d,0 + 1,none⟩))) (.int .i64 an)).run Tryz.prog b1=.ok () ax)∧
 t  ax))
 (Rng (IntKind.i64.wrap (b - 1)) c.len (NilP c.a fun bh=>
 ∃ am:Int,(At (fun e=>e=l) (Addr.add bh ((IntKind.i64.wrap (b - 1)).toNat)) [.int .i64 am])∧
 Br (q==IntKind.i64.wrap (am + 1))
 (Rng 0 f.len (NilP f.a fun bj=>
 ∃ s:Sl,(At (fun e=>e=l) (Addr.add bj 0) [.slice s.a s.len s.cap])∧
 Calls Tryz.prog 109 #[.slice s.a s.len s.cap,.int .i64 q] l fun bu b2=>
 ∃ ao:Int,(bu=.returned (.int .i64 ao))∧
 ∃ ay:World,((Instr.storeAt 3 (.pointer ((some ⟨d,0 + 1,none⟩))) (.int .i64 ao)).run Tryz.prog b2=.ok () ay)∧
 t  ay))
 (t  l))))
 (t  l))∧
 ∀ (ck:Env)  (az:World),t  az→
 ∃ (G:World→Prop),(∃ (z:Bool→World→Prop),(Drw az fun H J=>
 ∃ aq:Int,(At H ⟨d,0 + 1,none⟩ [.int .i64 aq])∧
 Br (aq==0)
 (z true J)
 (Br (decide (b>0))
 (∃ ar:Int,(At H ⟨d,0 + 1,none⟩ [.int .i64 ar])∧
 NilP i fun Y=>
 Calls Tryz.prog 52 #[.pointer ((some ⟨Y.block,Y.off + 2,none⟩))] J fun bv a0=>
 ∃ au:Int,(bv=.returned (.int .i64 au))∧
 (H a0)∧
 z (ar !=IntKind.i64.wrap (au + 1)) a0)
 (z false J)))∧
 ∀ (cl:Env) (ap:Bool) (x:World),z ap x→
 Br ap
 (Drw x fun cf b3=>
 ((0:Int)≤IntKind.i64.wrap (b + 1))∧
 ((IntKind.i64.wrap (b + 1):Int)≤(↑c.len:Int))∧
 K (.tuple #[.pointer ((some ⟨d,0,none⟩)),.slice (cutA c.a (IntKind.i64.wrap (b + 1)).toNat c.cap 1) (c.len - (IntKind.i64.wrap (b + 1)).toNat) (c.cap - (IntKind.i64.wrap (b + 1)).toNat)]) b3)
 (Br (b==0)
 (∃ Z:Int,(At (fun e=>e=x) ⟨d,0 + 1,none⟩ [.int .i64 Z])∧
 NilP i fun O=>
 ∃ a1:World,((Instr.storeAt 3 (.pointer ((some ⟨O.block,O.off + 2,none⟩))) (.int .i64 (IntKind.i64.wrap (Z - 1)))).run Tryz.prog x=.ok () a1)∧
 G  a1)
 (G  x)))∧
 ∀ (cm:Env)  (a2:World),G  a2→
 ∃ a3:World,((Instr.storeAt 3 (.pointer ((some ⟨d,0 + 2,none⟩))) (.int .i64 ((↑j.len:Int)))).run Tryz.prog a2=.ok () a3)∧
 Drw a3 fun C b4=>
 NilP i fun Q=>
 ∃ n:Sl,(At C ⟨Q.block,Q.off + 4,none⟩ [.slice n.a n.len n.cap])∧
 ∃ aa:Int,∃ ab:Int,∃ ac:Int,(At C ⟨d,0,none⟩ [.int .i64 aa,.int .i64 ab,.int .i64 ac])∧
 New (.cells #[.int .i64 aa,.int .i64 ab,.int .i64 ac] 96 (0,0)) (fun bk a4=>
 (C a4)∧
 ∃ M:World,∃ o:Sl,((Builtin.append_ #[84,84] 84 #[.slice n.a n.len n.cap,.slice ((some ⟨bk,0,none⟩)) 1 1]).run Tryz.prog a4=.ok (.slice o.a o.len o.cap) M)∧
 (C M)∧
 NilP i fun T=>
 ∃ N:World,((Instr.storeAt 84 (.pointer ((some ⟨T.block,T.off + 4,none⟩))) (.slice o.a o.len o.cap)).run Tryz.prog M=.ok () N)∧
 ∃ ad:Int,(At (fun e=>e=N) ⟨d,0 + 1,none⟩ [.int .i64 ad])∧
 New (.cells #[.int .i64 0,.int .i64 q,.int .i64 ad] 3 (0,0)) (fun bl b5=>
 Calls Tryz.prog 64 #[.slice none 0 0,.bool false,.slice ((some ⟨bl,0,none⟩)) 3 3] b5 fun bw b6=>
 ∃ D:Sl,(bw=.returned (.slice D.a D.len D.cap))∧
 ((0:Int)≤1)∧
 ((1:Int)≤(↑f.len:Int))∧
 ∃ (F:Int→Int→World→Prop) (bc:Int→Int→World→Nat),(F ((↑D.len:Int)) 0 b6)∧∀ (cn:Env) (u:Int) (k:Int) (m:World),F u k m→
 Br (decide (k<(↑(f.len - Int.toNat 1):Int)))
 (Rng k (f.len - Int.toNat 1) (NilP (cutA f.a (Int.toNat 1) f.cap 1) fun bd=>
 ∃ g:Sl,(At (fun e=>e=m) (Addr.add bd k.toNat) [.slice g.a g.len g.cap])∧
 Drw m fun cg b8=>
 NilP i fun U=>
 Calls Tryz.prog 111 #[.slice g.a g.len g.cap] b8 fun bx b9=>
 ∃ ae:Option Addr,(bx=.returned (.pointer ae))∧
 Calls Tryz.prog 110 #[.pointer ((some ⟨U.block,U.off + 2,none⟩)),.pointer ae] b9 fun bo a5=>
 ∃ af:Bool,(bo=.returned (.bool af))∧
 Br (!af)
 (∃ a6:World,((Instr.storeAt 3 (.pointer ((some ⟨d,0 + 2,none⟩))) (.int .i64 u)).run Tryz.prog a5=.ok () a6)∧
 Drw a6 fun ch ca=>
 ((0:Int)≤IntKind.i64.wrap (b + 1))∧
 ((IntKind.i64.wrap (b + 1):Int)≤(↑c.len:Int))∧
 K (.tuple #[.pointer ((some ⟨d,0,none⟩)),.slice (cutA c.a (IntKind.i64.wrap (b + 1)).toNat c.cap 1) (c.len - (IntKind.i64.wrap (b + 1)).toNat) (c.cap - (IntKind.i64.wrap (b + 1)).toNat)]) ca)
 (Calls Tryz.prog 112 #[.slice g.a g.len g.cap] a5 fun bp a7=>
 ∃ v:Sl,∃ bz:Int,(bp=.returned (.tuple #[.slice v.a v.len v.cap,.int .i64 bz]))∧
 (F (IntKind.i64.wrap (u + (↑v.len:Int))) (IntKind.i64.wrap (k + 1)) a7)∧bc (IntKind.i64.wrap (u + (↑v.len:Int))) (IntKind.i64.wrap (k + 1)) a7<bc u k m)))
 (Br (I==(↑j.len:Int))
 ((E (IntKind.i64.wrap (b + 1)) m)∧bb (IntKind.i64.wrap (b + 1)) m<bb b y)
 (∃ a8:World,((Instr.storeAt 3 (.pointer ((some ⟨d,0 + 2,none⟩))) (.int .i64 I)).run Tryz.prog m=.ok () a8)∧
 Drw a8 fun ci cb=>
 ((0:Int)≤IntKind.i64.wrap (b + 1))∧
 ((IntKind.i64.wrap (b + 1):Int)≤(↑c.len:Int))∧
 K (.tuple #[.pointer ((some ⟨d,0,none⟩)),.slice (cutA c.a (IntKind.i64.wrap (b + 1)).toNat c.cap 1) (c.len - (IntKind.i64.wrap (b + 1)).toNat) (c.cap - (IntKind.i64.wrap (b + 1)).toNat)]) cb))) N) b4) y))
 (K (.tuple #[.pointer none,.slice none 0 0]) y)
def sk58:Sk:=(.seq .leaf (.block (.seq .leaf (.seq .leaf (.seq .leaf (.seq (.seq .leaf (.block (.loop [32] [(.int .i64)] [2,3,5,6,7,8,9,10,11,12,14,15,16,32,33,34,35,36,37,38,39,40,41,42,43,44,45,46,47,48,49,50,51,52,53,54,55,56,57,58,59,60,61,62,63,64,65,66,67,68,69,70,71,72,73,74,75,76,77,78,79,80,81,82,83,84,85,86,87,88,89,90,91,92,93,94,95,96,97,98,99,100,101,102,103,104,105,106,107,108,109,110,111,112,113,114,115,116,117,118,119,120,121,122,123,124,125,126,127,128,129,130,131,132,133,134,135,136,137,138,139,140,141,142,143,144,145,146,147,148,149,150,151,152,153,154,155,156,157,158,159,160,161,162,163,164,165,166,167,168] (.seq .leaf (.seq .leaf (.seq (.block (.seq .leaf (.seq .leaf (.seq .leaf (.seq .leaf (.cut [] [] [54,55,56,57,58,59,60,61,62,63,64,65,66,67,68,69,70,71,72,73,74,75,76] .leaf (.cut [] [] [2,3,77,78,79,80,81,82,83,84,85,86,87,88,89,90,91,92,93,94,95,96,97,98,99,100,101,102,103,104,105,106,107,108] (.block (.cut [77] [.bool] [77,78,79,80,81,82,83,84,85,86,87,88,89,90,91,92,93,94] .leaf .leaf)) (.seq .leaf (.seq .leaf (.seq .leaf (.seq (.seq .leaf (.block (.loop [12,131] [(.int .i64),(.int .i64)] [2,3,12,14,15,16,131,132,133,134,135,136,137,138,139,140,141,142,143,144,145,146,147,148,149,150,151,152,153,154,155,156,157] .leaf))) .leaf))))))))))) .leaf)))))) .leaf))))))
theorem call58 (a:Option Addr) (K:Value→World→Prop) (w:World) (h:B58 a K w):Gets Tryz.prog 58 #[.pointer a] w K:=cq (sk:=sk58) Tryz.func58 (by kernel_rfl) (by kernel_rfl) (by kernel_rfl) h
def B13 (a:Option Addr) (b:Int) (K:Value→World→Prop) (w:World):Prop:=
 ∃ (d:World→Prop),(Br a.isNone
 (K (.tuple #[.pointer none,.int .i64 1]) w)
 (Br (decide (b<32))
 (K (.tuple #[.pointer none,.int .i64 1]) w)
 (Br (decide (b>65536))
 (K (.tuple #[.pointer none,.int .i64 1]) w)
 (Calls Tryz.prog 40 #[.pointer a] w fun k g=>
 ∃ f:Bool,(k=.returned (.bool f))∧
 Br f
 (K (.tuple #[.pointer none,.int .i64 5]) g)
 (d  g)))))∧
 ∀ (n:Env)  (i:World),d  i→
 New (.cells #[.pointer a,.int .i64 b,.int .i64 0,.slice none 0 0,.slice none 0 0,.bool false] 86 (0,0)) (fun e m=>
 Calls Tryz.prog 41 #[.pointer ((some ⟨e,0,none⟩))] m fun l j=>
 ∃ c:Int,(l=.returned (.int .i64 c))∧
 Br (c !=0)
 (K (.tuple #[.pointer none,.int .i64 c]) j)
 (K (.tuple #[.pointer ((some ⟨e,0,none⟩)),.int .i64 0]) j)) i
def sk13:Sk:=(.seq .leaf (.cut [] [] [4,5,8,9,10,11,12,13,14,15,16,17,18,19,20,21] .leaf .leaf))
theorem call13 (a:Option Addr) (b:Int) (K:Value→World→Prop) (w:World) (h:B13 a b K w):Gets Tryz.prog 13 #[.pointer a,.int .i64 b] w K:=cq (sk:=sk13) Tryz.func13 (by kernel_rfl) (by kernel_rfl) (by kernel_rfl) h
def B90 (e:Sl) (K:Value→World→Prop) (w:World):Prop:=
 ∃ (d:Int→World→Prop) (j:Int→World→Nat),(d 0 w)∧∀ (n:Env) (b:Int) (c:World),d b c→
 Br (decide (b<(↑e.len:Int)))
 (Rng b e.len (NilP e.a fun k=>
 ∃ i:Value,(At (fun m=>m=c) (Addr.add k b.toNat) [i])∧
 CalW Tryz.prog cl i [] c fun l g=>
 ∃ f:Int,(l=.returned (.int .i64 f))∧
 Br (f !=0)
 (K (.int .i64 f) g)
 ((d (IntKind.i64.wrap (b + 1)) g)∧j (IntKind.i64.wrap (b + 1)) g<j b c)))
 (K (.int .i64 0) c)
def sk90:Sk:=(.seq .leaf (.seq (.seq .leaf (.block (.loop [8] [(.int .i64)] [2,4,5,8,9,10,11,12,13,14,15,16,17] .leaf))) .leaf))
theorem call90 (b:Sl) (K:Value→World→Prop) (w:World) (h:B90 b K w):Gets Tryz.prog 90 #[.slice b.a b.len b.cap] w K:=cq (sk:=sk90) Tryz.func90 (by kernel_rfl) (by kernel_rfl) (by kernel_rfl) h
def B56 (d:Option Addr) (c:ByteArray) (K:Value→World→Prop) (w:World):Prop:=
 New (.cells #[.pointer d] 31 (0,0)) (fun b e=>
 New (.cells #[.string c] 9 (0,0)) (fun a f=>
 K (.func (.func 103) #[] #[.pointer ((some ⟨b,0,none⟩)),.pointer ((some ⟨a,0,none⟩))]) f) e) w
theorem call56 (b:Option Addr) (a:ByteArray) (K:Value→World→Prop) (w:World) (h:B56 b a K w):Gets Tryz.prog 56 #[.pointer b,.string a] w K:=cq (sk:=.leaf) Tryz.func56 (by kernel_rfl) (by kernel_rfl) (by kernel_rfl) h
def B103 (k:Option Addr) (l:Option Addr) (K:Value→World→Prop) (w:World):Prop:=
 Drw w fun a n=>
 NilP k fun g=>
 ∃ b:Option Addr,(At a g [.pointer b])∧
 NilP b fun i=>
 ∃ c:Option Addr,(At a (Addr.add i 0) [.pointer c])∧
 NilP l fun j=>
 ∃ d:ByteArray,(At a j [.string d])∧
 Calls Tryz.prog 104 #[.pointer c,.string d] n fun m f=>
 ∃ e:Int,(m=.returned (.int .i64 e))∧
 (a f)∧
 K (.int .i64 e) f
theorem call103 (a:Option Addr) (b:Option Addr) (K:Value→World→Prop) (w:World) (h:B103 a b K w):Gets Tryz.prog 103 #[.pointer a,.pointer b] w K:=cq (sk:=.leaf) Tryz.func103 (by kernel_rfl) (by kernel_rfl) (by kernel_rfl) h
def B86 (m:Option Addr) (n:Option Addr) (K:Value→World→Prop) (w:World):Prop:=
 Drw w fun a p=>
 NilP m fun j=>
 ∃ b:Option Addr,(At a j [.pointer b])∧
 NilP n fun k=>
 ∃ c:Option Addr,(At a k [.pointer c])∧
 NilP c fun l=>
 ∃ d:Int,∃ e:Int,∃ f:Int,(At a l [.int .i64 d,.int .i64 e,.int .i64 f])∧
 Calls Tryz.prog 87 #[.pointer b,.agg #[.int .i64 d,.int .i64 e,.int .i64 f]] p fun o i=>
 ∃ g:Int,(o=.returned (.int .i64 g))∧
 (a i)∧
 K (.int .i64 g) i
theorem call86 (a:Option Addr) (b:Option Addr) (K:Value→World→Prop) (w:World) (h:B86 a b K w):Gets Tryz.prog 86 #[.pointer a,.pointer b] w K:=cq (sk:=.leaf) Tryz.func86 (by kernel_rfl) (by kernel_rfl) (by kernel_rfl) h
def B88 (d:Option Addr) (K:Value→World→Prop) (w:World):Prop:=
 NilP d fun c=>
 ∃ a:Option Addr,(At (fun f=>f=w) c [.pointer a])∧
 Calls Tryz.prog 89 #[.pointer a,.int .i64 1,.int .i64 1] w fun e g=>
 ∃ b:Int,(e=.returned (.int .i64 b))∧
 K (.int .i64 b) g
theorem call88 (a:Option Addr) (K:Value→World→Prop) (w:World) (h:B88 a K w):Gets Tryz.prog 88 #[.pointer a] w K:=cq (sk:=.leaf) Tryz.func88 (by kernel_rfl) (by kernel_rfl) (by kernel_rfl) h
def B87 (br:Option Addr) (bo:Int) (bp:Int) (bq:Int) (K:Value→World→Prop) (w:World):Prop:=
 New (.cells #[.pointer br] 31 (0,0)) (fun c bs=>
 New (.cells #[.int .i64 bo,.int .i64 bp,.int .i64 bq] 96 (0,0)) (fun d p=>
 ∃ (A:World→Prop),(∃ ao:Int,(At (fun o=>o=p) ⟨d,0 + 1,none⟩ [.int .i64 ao])∧
 Br (ao==0)
 (Drw p fun k bw=>
 ∃ N:Option Addr,(At k ⟨c,0,none⟩ [.pointer N])∧
 NilP N fun a9=>
 ∃ Q:Option Addr,(At k (Addr.add a9 0) [.pointer Q])∧
 ∃ U:Int,∃ V:Int,∃ X:Int,(At k ⟨d,0,none⟩ [.int .i64 U,.int .i64 V,.int .i64 X])∧
 Calls Tryz.prog 57 #[.agg #[.int .i64 U,.int .i64 V,.int .i64 X]] bw fun bd a4=>
 ∃ ab:ByteArray,(bd=.returned (.string ab))∧
 (k a4)∧
 Calls Tryz.prog 104 #[.pointer Q,.string ab] a4 fun be a5=>
 ∃ ad:Int,(be=.returned (.int .i64 ad))∧
 (k a5)∧
 K (.int .i64 ad) a5)
 (∃ L:Option Addr,(At (fun o=>o=p) ⟨c,0,none⟩ [.pointer L])∧
 NilP L fun C=>
 ∃ e:Sl,(At (fun o=>o=p) ⟨C.block,C.off + 4,none⟩ [.slice e.a e.len e.cap])∧
 Calls Tryz.prog 125 #[.slice e.a e.len e.cap,.func (.func 126) #[] #[.pointer ((some ⟨d,0,none⟩))]] p fun bg a6=>
 ∃ M:Bool,(bg=.returned (.bool M))∧
 Br (!M)
 (Drw a6 fun l bx=>
 ∃ O:Option Addr,(At l ⟨c,0,none⟩ [.pointer O])∧
 NilP O fun ba=>
 ∃ T:Option Addr,(At l (Addr.add ba 0) [.pointer T])∧
 ∃ Y:Int,∃ Z:Int,∃ aa:Int,(At l ⟨d,0,none⟩ [.int .i64 Y,.int .i64 Z,.int .i64 aa])∧
 Calls Tryz.prog 57 #[.agg #[.int .i64 Y,.int .i64 Z,.int .i64 aa]] bx fun bh a7=>
 ∃ ac:ByteArray,(bh=.returned (.string ac))∧
 (l a7)∧
 Calls Tryz.prog 104 #[.pointer T,.string ac] a7 fun bi a8=>
 ∃ ae:Int,(bi=.returned (.int .i64 ae))∧
 (l a8)∧
 K (.int .i64 ae) a8)
 (A  a6)))∧
 ∀ (bz:Env)  (ap:World),A  ap→
 ∃ (q:Option Addr→Int→World→Prop),(Drw ap fun b aq=>
 ∃ af:Option Addr,(At b ⟨c,0,none⟩ [.pointer af])∧
 NilP af fun bb=>
 ∃ r:Option Addr,(At b (Addr.add bb 0) [.pointer r])∧
 ∃ t:Int,∃ u:Int,∃ v:Int,(At b ⟨d,0,none⟩ [.int .i64 t,.int .i64 u,.int .i64 v])∧
 (Calls Tryz.prog 57 #[.agg #[.int .i64 t,.int .i64 u,.int .i64 v]] aq fun bj y=>
 ∃ x:ByteArray,(bj=.returned (.string x))∧
 (b y)∧
 (Calls Tryz.prog 44 #[.pointer r,.string x] y fun bk ar=>
 ∃ f:Sl,∃ ah:Int,(bk=.returned (.tuple #[.slice f.a f.len f.cap,.int .i64 ah]))∧
 (b ar)∧
 New (.cells #[.slice none 0 0] 53 (0,0)) (fun H au=>
 (b au)∧
 ∃ av:World,((Instr.storeAt 53 (.pointer ((some ⟨H,0,none⟩))) (.slice f.a f.len f.cap)).run Tryz.prog au=.ok () av)∧
 q ((some ⟨H,0,none⟩)) ah av) ar)∧
 New (.cells #[.slice none 0 0] 53 (0,0)) (fun I aw=>
 (b aw)∧
 Calls Tryz.prog 44 #[.pointer r,.string x] aw fun bl ax=>
 ∃ g:Sl,∃ ai:Int,(bl=.returned (.tuple #[.slice g.a g.len g.cap,.int .i64 ai]))∧
 (b ax)∧
 ∃ ay:World,((Instr.storeAt 53 (.pointer ((some ⟨I,0,none⟩))) (.slice g.a g.len g.cap)).run Tryz.prog ax=.ok () ay)∧
 q ((some ⟨I,0,none⟩)) ai ay) y)∧
 New (.cells #[.slice none 0 0] 53 (0,0)) (fun J az=>
 (b az)∧
 Calls Tryz.prog 57 #[.agg #[.int .i64 t,.int .i64 u,.int .i64 v]] az fun bm a0=>
 ∃ ag:ByteArray,(bm=.returned (.string ag))∧
 (b a0)∧
 Calls Tryz.prog 44 #[.pointer r,.string ag] a0 fun bn a1=>
 ∃ i:Sl,∃ aj:Int,(bn=.returned (.tuple #[.slice i.a i.len i.cap,.int .i64 aj]))∧
 (b a1)∧
 ∃ a2:World,((Instr.storeAt 53 (.pointer ((some ⟨J,0,none⟩))) (.slice i.a i.len i.cap)).run Tryz.prog a1=.ok () a2)∧
 q ((some ⟨J,0,none⟩)) aj a2) aq)∧
 ∀ (b0:Env) (G:Option Addr) (s:Int) (z:World),q G s z→
 Br (s !=0)
 (K (.int .i64 s) z)
 (Drw z fun m bt=>
 ∃ ak:Option Addr,(At m ⟨c,0,none⟩ [.pointer ak])∧
 NilP ak fun D=>
 ∃ n:Sl,(At m ⟨D.block,D.off + 4,none⟩ [.slice n.a n.len n.cap])∧
 ∃ al:Option Addr,(At m ⟨c,0,none⟩ [.pointer al])∧
 NilP al fun E=>
 ∃ j:Sl,(At m ⟨E.block,E.off + 4,none⟩ [.slice j.a j.len j.cap])∧
 ∃ am:Int,(At m ⟨d,0 + 2,none⟩ [.int .i64 am])∧
 Rng (IntKind.i64.wrap ((↑j.len:Int) - 1)) n.len (NilP n.a fun F=>
 ∃ a3:World,((Instr.storeAt 3 (.pointer ((some ⟨(F.add (mulS (IntKind.i64.wrap ((↑j.len:Int) - 1)).toNat 3)).block,(F.add (mulS (IntKind.i64.wrap ((↑j.len:Int) - 1)).toNat 3)).off + 2,none⟩))) (.int .i64 am)).run Tryz.prog bt=.ok () a3)∧
 New (.cells #[.func (.func 127) #[] #[.pointer ((some ⟨c,0,none⟩)),.pointer G,.pointer ((some ⟨d,0,none⟩))],.func (.func 128) #[] #[.pointer ((some ⟨c,0,none⟩))],.func (.func 129) #[] #[.pointer ((some ⟨c,0,none⟩)),.pointer ((some ⟨d,0,none⟩))]] 52 (0,0)) (fun bc bu=>
 Calls Tryz.prog 90 #[.slice ((some ⟨bc,0,none⟩)) 3 3] bu fun bf bv=>
 ∃ an:Int,(bf=.returned (.int .i64 an))∧
 K (.int .i64 an) bv) a3))) bs) w
def sk87:Sk:=(.seq .leaf (.cut [] [] [4,7,8,9,10,11,12,13,14,15,16,17,18,19,20,21,22,23,24,25] .leaf (.cut [5,6] [.ptr,(.int .i64)] [5,6,26,27,28,29,30,31,32,33,34,35] .leaf .leaf)))
theorem call87 (d:Option Addr) (a:Int) (b:Int) (c:Int) (K:Value→World→Prop) (w:World) (h:B87 d a b c K w):Gets Tryz.prog 87 #[.pointer d,.agg #[.int .i64 a,.int .i64 b,.int .i64 c]] w K:=cq (sk:=sk87) Tryz.func87 (by kernel_rfl) (by kernel_rfl) (by kernel_rfl) h
def B126 (i:Int) (j:Int) (k:Int) (g:Option Addr) (K:Value→World→Prop) (w:World):Prop:=
 New (.cells #[.int .i64 i,.int .i64 j,.int .i64 k] 96 (0,0)) (fun f b=>
 ∃ c:Int,(At (fun a=>a=b) ⟨f,0,none⟩ [.int .i64 c])∧
 NilP g fun e=>
 ∃ d:Int,(At (fun a=>a=b) (Addr.add e 0) [.int .i64 d])∧
 K (.bool (c==d)) b) w
theorem call126 (b:Int) (c:Int) (d:Int) (a:Option Addr) (K:Value→World→Prop) (w:World) (h:B126 b c d a K w):Gets Tryz.prog 126 #[.agg #[.int .i64 b,.int .i64 c,.int .i64 d],.pointer a] w K:=cq (sk:=.leaf) Tryz.func126 (by kernel_rfl) (by kernel_rfl) (by kernel_rfl) h
def B127 (n:Option Addr) (o:Option Addr) (p:Option Addr) (K:Value→World→Prop) (w:World):Prop:=
 Drw w fun c r=>
 NilP n fun k=>
 ∃ g:Option Addr,(At c k [.pointer g])∧
 NilP g fun l=>
 ∃ i:Option Addr,(At c (Addr.add l 0) [.pointer i])∧
 NilP o fun m=>
 ∃ b:Sl,(At c m [.slice b.a b.len b.cap])∧
 NilP p fun e=>
 ∃ d:Int,(At c ⟨e.block,e.off + 2,none⟩ [.int .i64 d])∧
 ((0:Int)≤d)∧
 ((d:Int)≤(↑b.cap:Int))∧
 Calls Tryz.prog 35 #[.pointer i,.string (ByteArray.mk #[119,97,108,46,110,101,119]),.slice b.a d.toNat b.cap] r fun q j=>
 ∃ f:Int,(q=.returned (.int .i64 f))∧
 (c j)∧
 K (.int .i64 f) j
theorem call127 (a:Option Addr) (b:Option Addr) (c:Option Addr) (K:Value→World→Prop) (w:World) (h:B127 a b c K w):Gets Tryz.prog 127 #[.pointer a,.pointer b,.pointer c] w K:=cq (sk:=.leaf) Tryz.func127 (by kernel_rfl) (by kernel_rfl) (by kernel_rfl) h
def B128 (g:Option Addr) (K:Value→World→Prop) (w:World):Prop:=
 NilP g fun e=>
 ∃ b:Option Addr,(At (fun a=>a=w) e [.pointer b])∧
 NilP b fun f=>
 ∃ c:Option Addr,(At (fun a=>a=w) (Addr.add f 0) [.pointer c])∧
 Calls Tryz.prog 37 #[.pointer c,.string (ByteArray.mk #[119,97,108,46,110,101,119])] w fun i j=>
 ∃ d:Int,(i=.returned (.int .i64 d))∧
 K (.int .i64 d) j
theorem call128 (a:Option Addr) (K:Value→World→Prop) (w:World) (h:B128 a K w):Gets Tryz.prog 128 #[.pointer a] w K:=cq (sk:=.leaf) Tryz.func128 (by kernel_rfl) (by kernel_rfl) (by kernel_rfl) h
def B129 (o:Option Addr) (p:Option Addr) (K:Value→World→Prop) (w:World):Prop:=
 Drw w fun a s=>
 NilP o fun l=>
 ∃ b:Option Addr,(At a l [.pointer b])∧
 NilP b fun m=>
 ∃ c:Option Addr,(At a (Addr.add m 0) [.pointer c])∧
 NilP p fun n=>
 ∃ d:Int,∃ e:Int,∃ f:Int,(At a n [.int .i64 d,.int .i64 e,.int .i64 f])∧
 Calls Tryz.prog 57 #[.agg #[.int .i64 d,.int .i64 e,.int .i64 f]] s fun q j=>
 ∃ g:ByteArray,(q=.returned (.string g))∧
 (a j)∧
 Calls Tryz.prog 130 #[.pointer c,.string (ByteArray.mk #[119,97,108,46,110,101,119]),.string g] j fun r k=>
 ∃ i:Int,(r=.returned (.int .i64 i))∧
 (a k)∧
 K (.int .i64 i) k
theorem call129 (a:Option Addr) (b:Option Addr) (K:Value→World→Prop) (w:World) (h:B129 a b K w):Gets Tryz.prog 129 #[.pointer a,.pointer b] w K:=cq (sk:=.leaf) Tryz.func129 (by kernel_rfl) (by kernel_rfl) (by kernel_rfl) h
def B89 (r:Option Addr) (j:Int) (i:Int) (K:Value→World→Prop) (w:World):Prop:=
 New (.cells #[.pointer r] 31 (0,0)) (fun f s=>
 New (.cells #[.int .i64 0,.int .i64 j,.int .i64 i] 3 (0,0)) (fun m t=>
 Calls Tryz.prog 64 #[.slice none 0 0,.bool false,.slice ((some ⟨m,0,none⟩)) 3 3] t fun o u=>
 ∃ b:Sl,(o=.returned (.slice b.a b.len b.cap))∧
 New (.cells #[.slice none 0 0] 53 (0,0)) (fun e v=>
 ∃ g:World,((Instr.storeAt 53 (.pointer ((some ⟨e,0,none⟩))) (.slice b.a b.len b.cap)).run Tryz.prog v=.ok () g)∧
 ∃ d:Sl,(At (fun q=>q=g) ⟨e,0,none⟩ [.slice d.a d.len d.cap])∧
 New (.cells #[.int .i64 0,.int .i64 0,.int .i64 0] 96 (0,0)) (fun c x=>
 ∃ l:World,((Instr.storeAt 96 (.pointer ((some ⟨c,0,none⟩))) (.agg #[.int .i64 j,.int .i64 i,.int .i64 ((↑d.len:Int))])).run Tryz.prog x=.ok () l)∧
 New (.cells #[.func (.func 131) #[] #[.pointer ((some ⟨f,0,none⟩)),.pointer ((some ⟨c,0,none⟩)),.pointer ((some ⟨e,0,none⟩))],.func (.func 132) #[] #[.pointer ((some ⟨f,0,none⟩)),.pointer ((some ⟨c,0,none⟩))],.func (.func 133) #[] #[.pointer ((some ⟨f,0,none⟩)),.pointer ((some ⟨c,0,none⟩))]] 52 (0,0)) (fun n y=>
 Calls Tryz.prog 90 #[.slice ((some ⟨n,0,none⟩)) 3 3] y fun p z=>
 ∃ k:Int,(p=.returned (.int .i64 k))∧
 K (.int .i64 k) z) l) g) u) s) w
theorem call89 (c:Option Addr) (b:Int) (a:Int) (K:Value→World→Prop) (w:World) (h:B89 c b a K w):Gets Tryz.prog 89 #[.pointer c,.int .i64 b,.int .i64 a] w K:=cq (sk:=.leaf) Tryz.func89 (by kernel_rfl) (by kernel_rfl) (by kernel_rfl) h
def B131 (r:Option Addr) (s:Option Addr) (t:Option Addr) (K:Value→World→Prop) (w:World):Prop:=
 Drw w fun b x=>
 NilP r fun o=>
 ∃ e:Option Addr,(At b o [.pointer e])∧
 NilP e fun p=>
 ∃ f:Option Addr,(At b (Addr.add p 0) [.pointer f])∧
 NilP s fun q=>
 ∃ g:Int,∃ i:Int,∃ j:Int,(At b q [.int .i64 g,.int .i64 i,.int .i64 j])∧
 NilP t fun n=>
 ∃ c:Sl,(At b n [.slice c.a c.len c.cap])∧
 Calls Tryz.prog 57 #[.agg #[.int .i64 g,.int .i64 i,.int .i64 j]] x fun u l=>
 ∃ k:ByteArray,(u=.returned (.string k))∧
 (b l)∧
 Calls Tryz.prog 35 #[.pointer f,.string k,.slice c.a c.len c.cap] l fun v m=>
 ∃ d:Int,(v=.returned (.int .i64 d))∧
 (b m)∧
 K (.int .i64 d) m
theorem call131 (a:Option Addr) (b:Option Addr) (c:Option Addr) (K:Value→World→Prop) (w:World) (h:B131 a b c K w):Gets Tryz.prog 131 #[.pointer a,.pointer b,.pointer c] w K:=cq (sk:=.leaf) Tryz.func131 (by kernel_rfl) (by kernel_rfl) (by kernel_rfl) h
def B132 (o:Option Addr) (p:Option Addr) (K:Value→World→Prop) (w:World):Prop:=
 Drw w fun a s=>
 NilP o fun l=>
 ∃ b:Option Addr,(At a l [.pointer b])∧
 NilP b fun m=>
 ∃ c:Option Addr,(At a (Addr.add m 0) [.pointer c])∧
 NilP p fun n=>
 ∃ d:Int,∃ e:Int,∃ f:Int,(At a n [.int .i64 d,.int .i64 e,.int .i64 f])∧
 Calls Tryz.prog 57 #[.agg #[.int .i64 d,.int .i64 e,.int .i64 f]] s fun q j=>
 ∃ g:ByteArray,(q=.returned (.string g))∧
 (a j)∧
 Calls Tryz.prog 37 #[.pointer c,.string g] j fun r k=>
 ∃ i:Int,(r=.returned (.int .i64 i))∧
 (a k)∧
 K (.int .i64 i) k
theorem call132 (a:Option Addr) (b:Option Addr) (K:Value→World→Prop) (w:World) (h:B132 a b K w):Gets Tryz.prog 132 #[.pointer a,.pointer b] w K:=cq (sk:=.leaf) Tryz.func132 (by kernel_rfl) (by kernel_rfl) (by kernel_rfl) h
def B133 (i:Option Addr) (u:Option Addr) (K:Value→World→Prop) (w:World):Prop:=
 Drw w fun b v=>
 NilP i fun q=>
 ∃ j:Option Addr,(At b q [.pointer j])∧
 NilP i fun r=>
 ∃ k:Option Addr,(At b r [.pointer k])∧
 NilP k fun g=>
 ∃ d:Sl,(At b ⟨g.block,g.off + 4,none⟩ [.slice d.a d.len d.cap])∧
 NilP u fun s=>
 ∃ l:Int,∃ m:Int,∃ n:Int,(At b s [.int .i64 l,.int .i64 m,.int .i64 n])∧
 New (.cells #[.int .i64 l,.int .i64 m,.int .i64 n] 96 (0,0)) (fun t o=>
 (b o)∧
 ∃ e:World,∃ c:Sl,((Builtin.append_ #[84,84] 84 #[.slice d.a d.len d.cap,.slice ((some ⟨t,0,none⟩)) 1 1]).run Tryz.prog o=.ok (.slice c.a c.len c.cap) e)∧
 (b e)∧
 NilP j fun f=>
 ∃ p:World,((Instr.storeAt 84 (.pointer ((some ⟨f.block,f.off + 4,none⟩))) (.slice c.a c.len c.cap)).run Tryz.prog e=.ok () p)∧
 K (.int .i64 0) p) v
theorem call133 (a:Option Addr) (b:Option Addr) (K:Value→World→Prop) (w:World) (h:B133 a b K w):Gets Tryz.prog 133 #[.pointer a,.pointer b] w K:=cq (sk:=.leaf) Tryz.func133 (by kernel_rfl) (by kernel_rfl) (by kernel_rfl) h
def B125 (b:Sl) (e:Value) (K:Value→World→Prop) (w:World):Prop:=
 Calls Tryz.prog 171 #[.slice b.a b.len b.cap,e] w fun d f=>
 ∃ c:Int,(d=.returned (.int .i64 c))∧
 K (.bool (decide (c ≥ 0))) f
theorem call125 (b:Sl) (c:Value) (K:Value→World→Prop) (w:World) (h:B125 b c K w):Gets Tryz.prog 125 #[.slice b.a b.len b.cap,c] w K:=cq (sk:=.leaf) Tryz.func125 (by kernel_rfl) (by kernel_rfl) (by kernel_rfl) h
def B171 (e:Sl) (o:Value) (K:Value→World→Prop) (w:World):Prop:=
 ∃ (d:Int→World→Prop) (l:Int→World→Nat),(d 0 w)∧∀ (q:Env) (b:Int) (c:World),d b c→
 Br (decide (b<(↑e.len:Int)))
 (Rng b e.len (NilP e.a fun m=>
 ∃ g:Int,∃ i:Int,∃ j:Int,(At (fun p=>p=c) (Addr.add m (mulS b.toNat 3)) [.int .i64 g,.int .i64 i,.int .i64 j])∧
 CalW Tryz.prog cl o [.agg #[.int .i64 g,.int .i64 i,.int .i64 j]] c fun n f=>
 ∃ k:Bool,(n=.returned (.bool k))∧
 Br k
 (K (.int .i64 b) f)
 ((d (IntKind.i64.wrap (b + 1)) f)∧l (IntKind.i64.wrap (b + 1)) f<l b c)))
 (K (.int .i64 ((-1))) c)
def sk171:Sk:=(.seq .leaf (.seq (.seq .leaf (.block (.loop [8] [(.int .i64)] [4,5,8,9,10,11,12,13,14,15,16,17,18] .leaf))) .leaf))
theorem call171 (b:Sl) (c:Value) (K:Value→World→Prop) (w:World) (h:B171 b c K w):Gets Tryz.prog 171 #[.slice b.a b.len b.cap,c] w K:=cq (sk:=sk171) Tryz.func171 (by kernel_rfl) (by kernel_rfl) (by kernel_rfl) h
def B152 (d:ByteArray) (c:Value) (K:Value→World→Prop) (w:World):Prop:=
 Calls Tryz.prog 185 #[.string d,c] w fun b e=>
 ∃ a:Int,(b=.returned (.int .i64 a))∧
 K (.bool (decide (a ≥ 0))) e
theorem call152 (b:ByteArray) (a:Value) (K:Value→World→Prop) (w:World) (h:B152 b a K w):Gets Tryz.prog 152 #[.string b,a] w K:=cq (sk:=.leaf) Tryz.func152 (by kernel_rfl) (by kernel_rfl) (by kernel_rfl) h
def B185 (d:ByteArray) (c:Value) (K:Value→World→Prop) (w:World):Prop:=
 Calls Tryz.prog 215 #[.string d,c,.bool true] w fun b e=>
 ∃ a:Int,(b=.returned (.int .i64 a))∧
 K (.int .i64 a) e
theorem call185 (b:ByteArray) (a:Value) (K:Value→World→Prop) (w:World) (h:B185 b a K w):Gets Tryz.prog 185 #[.string b,a] w K:=cq (sk:=.leaf) Tryz.func185 (by kernel_rfl) (by kernel_rfl) (by kernel_rfl) h
def B215 (l:ByteArray) (j:Value) (m:Bool) (K:Value→World→Prop) (w:World):Prop:=
 New (.stringIter l 0) (fun f n=>
 ∃ (a:World→Prop) (e:World→Nat),(a  n)∧∀ (q:Env)  (b:World),a  b→
 NextS ((some ⟨f,0,none⟩)) (fun k g o=>
 CalW Tryz.prog cl j [.int .i32 g] o fun i c=>
 ∃ d:Bool,(i=.returned (.bool d))∧
 Br (d==m)
 (K (.int .i64 k) c)
 ((a  c)∧e  c<e  b))
 (fun p=>
 K (.int .i64 ((-1))) p) b) w
def sk215:Sk:=(.seq .leaf (.seq (.seq .leaf (.block (.loop [] [] [6,7,8,11,12,13,14,15,16,17,18,19,20] .leaf))) .leaf))
theorem call215 (b:ByteArray) (a:Value) (c:Bool) (K:Value→World→Prop) (w:World) (h:B215 b a c K w):Gets Tryz.prog 215 #[.string b,a,.bool c] w K:=cq (sk:=sk215) Tryz.func215 (by kernel_rfl) (by kernel_rfl) (by kernel_rfl) h
end Go.Proofs.YtkfedbncmfnpnaaGreatDoor
/- The disk: its state, what its memory holds, and what its small functions give. Condition: none. -/
namespace Go.Proofs.YtkfedbncmfnpnaaGreatDoor
set_option linter.unusedVariables false
set_option linter.unusedSimpArgs false
open Go Go.VC
variable {R:Cx} {Hs Rest:List HP} {w:World}
structure Fl where
 b:List Int
 sure:Nat
abbrev Fs:=List (ByteArray × Fl)
def total (fs:Fs):Int:=(fs.map fun e=>(e.2.b.length:Int)).foldr (· + ·) 0
structure DS where
 room:Int
 fs:Fs
 fail:Int
 arm:Int
 off:Bool
def okCh (c:Int):Bool:=(decide (97≤c) && decide (c≤122))||(decide (48≤c) && decide (c≤57))||c==46||c==45
def nameOk (s:ByteArray):Bool:=decide (s.size≠0) && decide (s.size≤64) && (bytesL s).all okCh
theorem eql_empty (s:ByteArray):(s.toList==(ByteArray.mk #[]).toList)=decide (s.size=0):=by
 have:(ByteArray.mk #[]).toList=[]:=by rw [ByteArray.toList_eq]
 rw [ByteArray.toList_eq,this,show s.size=s.data.toList.length from (Array.length_toList (xs:=s.data)).symm]
 cases s.data.toList<;>simp
theorem drop_get {α:Type} {l:List α} {k:Nat} (h:k<l.length):l.drop k=l[k]::l.drop (k + 1):=List.drop_eq_getElem_cons h
theorem named_spec {s:Sl} {names:List ByteArray} (hw:Sat R Hs w) (hs:Ro R s (names.map Value.string)) (hn:names.length≤1000):
  Gets Tryz.prog 97 #[.slice s.a s.len s.cap] w fun r w'=>r=.bool (names.all nameOk)∧Sat R Hs w':=by
 have hl:s.len=names.length:=by have:=hs.len;simpa using this
 apply call97
 refine ⟨fun i w=>∃ k:Nat,i=k∧k≤names.length∧names.all nameOk=(names.drop k).all nameOk∧Sat R Hs w,fun i _=>names.length - i.toNat,⟨0,rfl,Nat.zero_le _,rfl,hw⟩,?_⟩
 rintro z _ w ⟨k,rfl,hk,he,hw⟩
 refine Br.mk (fun h=>?_) (fun h=>?_)<;>simp only [decide_eq_true_eq,decide_eq_false_iff_not] at h
 ·have hk':k<names.length:=by omega
  rw [drop_get hk',List.all_cons] at he
  refine hs.idxStr (eqS hw) hk' ?_
  refine ⟨fun w=>names[k].size≠0∧names[k].size≤64∧Sat R Hs w,?_,?_⟩
  ·rw [eql_empty]
   refine Br.mk (fun h1=>⟨?_,hw⟩) (fun h1=>Br.mk (fun h2=>⟨?_,hw⟩) (fun h2=>?_))
   ·rw [he];simp only [decide_eq_true_eq] at h1;simp [nameOk,h1]
   ·rw [he];simp only [decide_eq_true_eq] at h2;simp [nameOk];omega
   ·simp only [decide_eq_false_iff_not] at h1 h2;exact ⟨h1,by omega,hw⟩
  rintro z w ⟨h1,h2,hw⟩
  refine convB_rule Tryz.underlying9 Tryz.underlying53 Tryz.underlying5 hw fun t w hw=>?_
  have hbl:=bytesL_len names[k]
  have hok:nameOk names[k]=(bytesL names[k]).all okCh:=by simp [nameOk,h1,h2]
  have ht:=Own.len hw
  rw [List.length_map] at ht
  refine ⟨fun j w=>∃ i:Nat,j=i∧i≤(bytesL names[k]).length∧nameOk names[k]=((bytesL names[k]).drop i).all okCh∧Sat R (Own t 5 ((bytesL names[k]).map (Value.int .u8))::Hs) w,fun j _=>(bytesL names[k]).length - j.toNat,⟨0,rfl,Nat.zero_le _,hok,hw⟩,?_⟩
  rintro z _ w ⟨i,rfl,hi,hio,hw⟩
  refine Br.mk (fun h3=>?_) (fun h3=>?_)<;>simp only [decide_eq_true_eq,decide_eq_false_iff_not] at h3
  ·have hi':i<(bytesL names[k]).length:=by omega
   rw [drop_get hi',List.all_cons] at hio
   refine Own.idx hw (eqS hw) hi' ?_
   generalize (bytesL names[k])[i]=c at hio
   rw [wrap64 (by omega) (by omega)]
   have yes:okCh c=true→(∃ i':Nat,((i:Int) + 1)=i'∧i'≤(bytesL names[k]).length∧nameOk names[k]=((bytesL names[k]).drop i').all okCh∧Sat R (Own t 5 ((bytesL names[k]).map (Value.int .u8))::Hs) w)∧
     (bytesL names[k]).length - ((i:Int) + 1).toNat<(bytesL names[k]).length - (i:Int).toNat:=fun hc=>by
    rw [hc,Bool.true_and] at hio
    exact ⟨⟨i + 1,by omega,by omega,hio,hw⟩,by omega⟩
   have no:okCh c=false→Value.bool false=.bool (names.all nameOk)∧Sat R Hs w:=fun hc=>by
    rw [hc,Bool.false_and] at hio
    rw [hio,Bool.false_and] at he
    exact ⟨by rw [he],hw.drop⟩
   have hd:okCh c=((decide (97≤c) && decide (c≤122))||(decide (48≤c) && decide (c≤57))||c==46||c==45):=rfl
   have p:∀ {q:Prop} [Decidable q],decide q=true→q:=of_decide_eq_true
   refine Br.mk (fun a1=>Br.mk (fun a2=>Br.mk (fun a3=>Br.mk (fun a4=>no ?_) (fun a4=>yes ?_)) (fun a3=>yes ?_)) (fun a2=>Br.mk (fun a3=>Br.mk (fun a4=>Br.mk (fun a5=>no ?_) (fun a5=>yes ?_)) (fun a4=>yes ?_)) (fun a3=>yes ?_)))
    (fun a1=>Br.mk (fun a2=>Br.mk (fun a3=>Br.mk (fun a4=>Br.mk (fun a5=>no ?_) (fun a5=>yes ?_)) (fun a4=>yes ?_)) (fun a3=>Br.mk (fun a4=>Br.mk (fun a5=>Br.mk (fun a6=>no ?_) (fun a6=>yes ?_)) (fun a5=>yes ?_)) (fun a4=>yes ?_))) (fun a2=>yes ?_))
   all_goals
    simp only [decide_eq_true_eq,decide_eq_false_iff_not,bne_iff_ne,ne_eq,bne_eq_false_iff_eq] at *
    simp only [okCh,Bool.or_eq_true,Bool.and_eq_true,decide_eq_true_eq,beq_iff_eq,Bool.or_eq_false_iff,Bool.and_eq_false_iff,decide_eq_false_iff_not,beq_eq_false_iff_ne,ne_eq]
    omega
  ·have:i=(bytesL names[k]).length:=by omega
   subst this
   rw [List.drop_length] at hio
   rw [hio] at he
   rw [wrap64 (by omega) (by omega)]
   exact ⟨⟨k + 1,by omega,by omega,by rw [he];rfl,hw.drop⟩,by dsimp only;omega⟩
 ·have:k=names.length:=by omega
  subst this
  rw [List.drop_length] at he
  exact ⟨by rw [he];rfl,hw⟩
end Go.Proofs.YtkfedbncmfnpnaaGreatDoor
/- Slices of bytes: Clone. No condition. -/
namespace Go.Proofs.YtkfedbncmfnpnaaGreatDoor
set_option linter.unusedVariables false
set_option linter.unusedSimpArgs false
open Go Go.VC
variable {R:Cx} {Hs Rest:List HP} {w:World}
theorem _root_.Go.VC.Sat.re {A:HP} (B:HP) (h:Sat R (A::Hs) w) (e:A=B:=by rfl):Sat R (B::Hs) w:=e ▸ h
abbrev b8 (l:List Int):List Value:=l.map (Value.int .u8)
theorem elB8:El Tryz.prog 53 53 5 1:=⟨Tryz.underlying53,⟨_,Tryz.underlying53⟩,by kernel_rfl⟩
theorem one_b8 (xs:List Int):oneAll (b8 xs)=true:=by unfold oneAll;simp [Value.oneCell']
theorem clone_spec {s:Sl} {xs:List Int} (hs:Ro R s (b8 xs)) (hl:xs.length≤1099511627776) (hw:Sat R Hs w):
  Gets Tryz.prog 98 #[.slice s.a s.len s.cap] w fun r w'=>∃ t:Sl,r=.slice t.a t.len t.cap∧Sat R (Own t 5 (b8 xs)::Hs) w':=by
 apply call98
 refine Br.mk (fun h=>?_) (fun h=>?_)
 ·have hx:xs=[]:=by
   by_cases hx:b8 xs=[]
   ·simpa using hx
   ·obtain ⟨b,off,_,_,_,ha,_⟩:=hs.mem hx
    rw [ha] at h;cases h
  subst hx
  exact ⟨⟨none,0,0⟩,rfl,Own.nil hw⟩
 ·refine new_rule hw fun b w hw=>?_
  have h0:Sat R (Own ⟨some ⟨b,0,none⟩,0,0⟩ 5 []::Hs) w:=Own.of_pts (xs:=[]) (rest:=[]) hw
  have hsrc:Src Tryz.prog 1 53 (.slice s.a s.len s.cap) xs.length (b8 xs) w:=by
   have:=srcRo Tryz.underlying53 h0 hs (one_b8 xs)
   simpa using this
  have:=append_rule (ty:=53) (K:=fun t w'=>∃ u:Sl,Value.slice t.a t.len t.cap=.slice u.a u.len u.cap∧Sat R (Own u 5 (b8 xs)::Hs) w') elB8 h0 hsrc rfl (by simp;omega) (by simp;omega) fun t w hw=>⟨t,rfl,by simpa using hw⟩
  exact this
end Go.Proofs.YtkfedbncmfnpnaaGreatDoor
