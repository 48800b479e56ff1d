/- VC, part 1: readable formulas for single operations of the model, each proved to be enough for the model's own run of that operation. No condition. -/
import Derived.OrdersHeld
import Derived.KernelRfl
import Derived.Laws.Entries
import Derived.Laws.Cells
import Derived.Laws.World
import Derived.Tactics
import Derived.Scope
import Derived.Defers
import Derived.Recover
import Derived.Test.YtlplemdmegpoeaaGreatDoorProg
import Derived.Deep.AppendSrc
import Derived.Deep.DeepAppendWide
import Derived.Laws.AppendOwn
import Derived.Laws.IdiomCopy
import Derived.Sort.Grow
import Derived.Lib.SliceRun
namespace Go.VC
set_option linter.unusedVariables false
set_option linter.unusedSimpArgs false
structure Sl where
 a:Option Addr
 len:Nat
 cap:Nat
inductive Ty where
 |int (k:IntKind)|bool|str|sl|ptr|map|flt|any
@[reducible] def Ty.T:Ty→Type
 | .int _=>Int| .bool=>Bool| .str=>ByteArray| .sl=>Sl| .ptr=>Option Addr| .map=>Option Nat| .flt=>Nat| .any=>Value
def Ty.enc:(t:Ty)→t.T→Value
 | .int k,n=>.int k n
 | .bool,b=>.bool b
 | .str,s=>.string s
 | .sl,s=>.slice s.a s.len s.cap
 | .ptr,p=>.pointer p
 | .map,m=>.map m
 | .flt,n=>.float .f64 n
 | .any,v=>v
def Ty.un:(t:Ty)→Value→(t.T→Prop)→Prop
 | .int k,v,φ=>match v with| .int k' n=>(match decide (k=k') with|true=>φ n|false=>False)|_=>False
 | .bool,v,φ=>match v with| .bool b=>φ b|_=>False
 | .str,v,φ=>match v with| .string s=>φ s|_=>False
 | .sl,v,φ=>match v with| .slice a n c=>φ ⟨a,n,c⟩|_=>False
 | .ptr,v,φ=>match v with| .pointer p=>φ p|_=>False
 | .map,v,φ=>match v with| .map m=>φ m|_=>False
 | .flt,v,φ=>match v with| .float .f64 n=>φ n|_=>False
 | .any,v,φ=>φ v
theorem Ty.un_enc {t:Ty} {v:Value} {φ:t.T→Prop} (h:t.un v φ):∃ x,v=t.enc x∧φ x:=by
 cases t<;>simp only [Ty.un] at h
 case int k=>
  split at h
  ·split at h
   ·rename_i hk;have:=of_decide_eq_true hk;subst this;exact ⟨_,rfl,h⟩
   ·exact h.elim
  ·exact h.elim
 case any=>exact ⟨v,rfl,h⟩
 all_goals (split at h<;>first|exact ⟨_,rfl,h⟩|exact h.elim)
def Ty.ex:(t:Ty)→(Value→Prop)→Prop
 | .int k,φ=>∃ n:Int,φ (.int k n)
 | .bool,φ=>∃ b:Bool,φ (.bool b)
 | .str,φ=>∃ s:ByteArray,φ (.string s)
 | .sl,φ=>∃ s:Sl,φ (.slice s.a s.len s.cap)
 | .ptr,φ=>∃ p:Option Addr,φ (.pointer p)
 | .map,φ=>∃ m:Option Nat,φ (.map m)
 | .flt,φ=>∃ n:Nat,φ (.float .f64 n)
 | .any,φ=>∃ v:Value,φ v
theorem Ty.ex_some {t:Ty} {φ:Value→Prop} (h:t.ex φ):∃ v,φ v:=by
 cases t<;>(obtain ⟨x,h⟩:=h;exact ⟨_,h⟩)
def exAll:List Ty→(List Value→Prop)→Prop
 |[],φ=>φ []
 |t::ts,φ=>t.ex fun v=>exAll ts fun vs=>φ (v::vs)
theorem exAll_some:∀ {ts:List Ty} {φ:List Value→Prop},exAll ts φ→∃ vs,φ vs
 |[],_,h=>⟨[],h⟩
 |_::_,_,h=>let ⟨v,h⟩:=Ty.ex_some h;let ⟨vs,h⟩:=exAll_some h;⟨v::vs,h⟩
inductive Vt where
 |one (t:Ty)|agg (ts:List Ty)
def Vt.ex:Vt→(Value→Prop)→Prop
 | .one t,φ=>t.ex φ
 | .agg ts,φ=>exAll ts fun vs=>φ (.agg vs.toArray)
theorem Vt.ex_some {t:Vt} {φ:Value→Prop} (h:t.ex φ):∃ v,φ v:=by
 cases t with
 |one t=>exact Ty.ex_some h
 |agg ts=>let ⟨vs,h⟩:=exAll_some h;exact ⟨_,h⟩
def exAllV:List Vt→(List Value→Prop)→Prop
 |[],φ=>φ []
 |t::ts,φ=>t.ex fun v=>exAllV ts fun vs=>φ (v::vs)
theorem exAllV_some:∀ {ts:List Vt} {φ:List Value→Prop},exAllV ts φ→∃ vs,φ vs
 |[],_,h=>⟨[],h⟩
 |_::_,_,h=>let ⟨v,h⟩:=Vt.ex_some h;let ⟨vs,h⟩:=exAllV_some h;⟨v::vs,h⟩
inductive Rt where
 |val (t:Vt)|tup (ts:List Vt)
def Rt.ex:Rt→(Value→Prop)→Prop
 | .val t,φ=>t.ex φ
 | .tup ts,φ=>exAllV ts fun vs=>φ (.tuple vs.toArray)
theorem Rt.ex_some {t:Rt} {φ:Value→Prop} (h:t.ex φ):∃ v,φ v:=by
 cases t with
 |val t=>exact Vt.ex_some h
 |tup ts=>let ⟨vs,h⟩:=exAllV_some h;exact ⟨_,h⟩
def tyOf (P:Program) (t:TypeId):Ty:=
 match P.underlying t with
 |some .bool=>.bool
 |some (.int k)=>.int k
 |some .string=>.str
 |some (.pointer _)=>.ptr
 |some (.slice _)=>.sl
 |some (.map _ _)=>.map
 |some (.float .f64)=>.flt
 |_=>.any
def flatAll (f:TypeId→Option (List Ty)):List Field→Option (List Ty)
 |[]=>some []
 |x::xs=>match f x.type with
  |none=>none
  |some l=>match flatAll f xs with
   |none=>none
   |some m=>some (l++m)
def flat (P:Program):Nat→TypeId→Option (List Ty)
 |0,_=>none
 |d + 1,t=>match P.underlying t with
  |some (.struct fs)=>flatAll (flat P d) fs.toList
  |some (.array n e)=>match Nat.ble n 4 with
   |true=>match flat P d e with
    |some l=>some (List.replicate n l).flatten
    |none=>none
   |false=>none
  |_=>some [tyOf P t]
def vtOf (P:Program) (t:TypeId):Vt:=
 match P.underlying t with
 |some (.struct _)|some (.array _ _)=>match flat P 6 t with
  |some l=>.agg l
  |none=>.one .any
 |_=>.one (tyOf P t)
def rtOf (P:Program) (t:TypeId):Rt:=
 match P.underlying t with
 |some (.tuple ts)=>.tup (ts.toList.map (vtOf P))
 |_=>.val (vtOf P t)
abbrev Env:=Nat→Value
def Env.set (ρ:Env) (d:Nat) (v:Value):Env:=fun i=>match Nat.beq i d with|true=>v|false=>ρ i
def Env.put (ρ:Env) (d:Option Tmp) (v:Value):Env:=match d with|some d=>ρ.set d v|none=>ρ
def Env.ev (ρ:Env):Operand→Value
 | .tmp t=>ρ t
 | .const v=>v
 | .global g=>.pointer (some ⟨g,0,none⟩)
 | .func f=>.func (.func f) #[] #[]
end Go.VC
/- VC, part 2: formulas for binary operations, with their proofs. No condition. -/
namespace Go.VC
set_option linter.unusedVariables false
set_option linter.unusedSimpArgs false
def Br (b:Bool) (A B:Prop):Prop:=match b with|true=>A|false=>B
theorem Br.mk {b:Bool} {A B:Prop} (h:b=true→A) (h':b=false→B):Br b A B:=by
 cases b
 ·exact h' rfl
 ·exact h rfl
theorem Br.t {b:Bool} {A B:Prop} (hb:b=true) (h:A):Br b A B:=by subst hb;exact h
theorem Br.f {b:Bool} {A B:Prop} (hb:b=false) (h:B):Br b A B:=by subst hb;exact h
def Nz (b:Int) (A:Prop):Prop:=match decide (b=0) with|true=>False|false=>A
theorem Nz.out {b:Int} {A:Prop} (h:Nz b A):b≠0∧A:=by
 unfold Nz at h;split at h
 ·exact h.elim
 ·rename_i hb;exact ⟨of_decide_eq_false hb,h⟩
def bitI (op:BinOp) (k:IntKind) (x y:Int):Int:=
 let a:=BitVec.ofInt k.bits x
 let b:=BitVec.ofInt k.bits y
 k.wrap (match op with| .and=>(a &&& b).toNat| .or=>(a|||b).toNat| .xor=>(a ^^^ b).toNat|_=>(a &&& ~~~b).toNat:Nat)
def shlI (k:IntKind) (x y:Int):Int:=k.wrap (x * 2 ^ min y.toNat k.bits)
def shrI (k:IntKind) (x y:Int):Int:=x.fdiv (2 ^ min y.toNat k.bits)
def Ge0 (y:Int) (A:Prop):Prop:=match decide (y<0) with|true=>False|false=>A
theorem Ge0.mk {y:Int} {A:Prop} (hy:0≤y) (h:A):Ge0 y A:=by unfold Ge0;rw [decide_eq_false (by omega)];exact h
def ariF (op:BinOp) (k:IntKind) (a b:Int) (K:Value→Prop):Prop:=
 match op with
 | .add=>K (.int k (k.wrap (a + b)))
 | .sub=>K (.int k (k.wrap (a - b)))
 | .mul=>K (.int k (k.wrap (a * b)))
 | .quo=>Nz b (K (.int k (k.wrap (a.tdiv b))))
 | .rem=>Nz b (K (.int k (a.tmod b)))
 | .and=>K (.int k (bitI .and k a b))
 | .or=>K (.int k (bitI .or k a b))
 | .xor=>K (.int k (bitI .xor k a b))
 | .andNot=>K (.int k (bitI .andNot k a b))
 | .eql=>K (.bool (a==b))
 | .neq=>K (.bool (a !=b))
 | .lss=>K (.bool (decide (a<b)))
 | .leq=>K (.bool (decide (a≤b)))
 | .gtr=>K (.bool (decide (a>b)))
 | .geq=>K (.bool (decide (a ≥ b)))
 |_=>False
def strF (op:BinOp) (a b:ByteArray) (K:Value→Prop):Prop:=
 match op with
 | .add=>((a.size + b.size:Nat):Int)≤IntKind.i64.max∧K (.string (a++b))
 | .eql=>K (.bool (a.toList==b.toList))
 | .neq=>K (.bool !(a.toList==b.toList))
 | .lss=>K (.bool (Op.bytesLess a.toList b.toList))
 | .leq=>K (.bool (Op.bytesLess a.toList b.toList||a.toList==b.toList))
 | .gtr=>K (.bool !(Op.bytesLess a.toList b.toList||a.toList==b.toList))
 | .geq=>K (.bool !(Op.bytesLess a.toList b.toList))
 |_=>False
def eqF (op:BinOp) (b:Bool) (K:Value→Prop):Prop:=
 match op with
 | .eql=>K (.bool b)
 | .neq=>K (.bool !b)
 |_=>False
def binKind (P:Program) (T:TypeId):Nat:=
 match P.underlying T with
 |some (.int _)=>1
 |some .string=>2
 |some .bool=>3
 |some (.pointer _)=>4
 |some (.slice _)=>5
 |some (.map _ _)=>6
 |some (.func _ _ _)=>7
 |_=>0
def isShift:BinOp→Bool| .shl| .shr=>true|_=>false
def shiftF (op:BinOp) (k:IntKind) (a y:Int) (K:Value→Prop):Prop:=
 Ge0 y (match op with
 | .shl=>K (.int k (shlI k a y))
 |_=>K (.int k (shrI k a y)))
def intF (op:BinOp) (x y:Value) (K:Value→Prop):Prop:=
 match x with
 | .int k a=>match y with
  | .int k' b=>(match isShift op with
   |true=>shiftF op k a b K
   |false=>(match decide (k=k') with|true=>ariF op k a b K|false=>False))
  |_=>False
 |_=>False
def binF (P:Program) (op:BinOp) (T:TypeId) (x y:Value) (K:Value→Prop):Prop:=
 match binKind P T with
 |1=>intF op x y K
 |2=>match x with
  | .string a=>match y with| .string b=>strF op a b K|_=>False
  |_=>False
 |3=>match x with
  | .bool a=>match y with| .bool b=>eqF op (a==b) K|_=>False
  |_=>False
 |4=>match x with
  | .pointer p=>match y with| .pointer none=>eqF op p.isNone K|_=>False
  |_=>False
 |5=>match x with
  | .slice a _ _=>match y with| .slice none _ _=>eqF op a.isNone K|_=>False
  |_=>False
 |6=>match x with
  | .map m=>match y with| .map none=>eqF op m.isNone K|_=>False
  |_=>False
 |7=>match y with
  | .nilFunc=>match x with| .nilFunc=>eqF op true K| .func _ _ _=>eqF op false K|_=>False
  |_=>False
 |_=>False
theorem eq_sound {P:Program} {T:TypeId} {x y:Value} {b:Bool} (h:∀ d w,(Op.equalIn (d + 1) T x y).run P w=.ok b w) (op:BinOp) {K:Value→Prop} (ox oy:Operand)
  (hop:eqF op b K) (hb:binOp .eql T x y=(do pure (.bool (←Op.equal T x y)):Sem Value)) (hb':binOp .neq T x y=(do pure (.bool (!(←Op.equal T x y))):Sem Value))
  (hg:∀ w,(eqGuard op T ox oy x y).run P w=.ok () w):
  ∃ v,(∀ w,(do eqGuard op T ox oy x y;binOp op T x y:Sem Value).run P w=.ok v w)∧K v:=by
 have h':∀ w,(Op.equal T x y).run P w=.ok b w:=h 9999
 cases op<;>simp only [eqF] at hop
 ·exact ⟨_,fun w=>by rw [Sem.run_bind,hg w,hb];simp [h'],hop⟩
 ·exact ⟨_,fun w=>by rw [Sem.run_bind,hg w,hb'];simp [h'],hop⟩
theorem binF_sound {P:Program} {op:BinOp} {T:TypeId} {x y:Value} {K:Value→Prop} (h:binF P op T x y K) (ox oy:Operand):
  ∃ v,(∀ w,(do eqGuard op T ox oy x y;binOp op T x y:Sem Value).run P w=.ok v w)∧K v:=by
 unfold binF at h
 split at h
 ·-- integers
  unfold intF at h
  split at h
  ·rename_i k a
   split at h
   ·rename_i k' b
    split at h
    ·rename_i hs
     unfold shiftF Ge0 at h
     split at h
     ·exact h.elim
     ·rename_i hy
      have hy:=of_decide_eq_false hy
      have e:∀ s:Sem Value,(do eqGuard op T ox oy (.int k a) (.int k' b);s:Sem Value)=s:=fun s=>by
       unfold eqGuard;cases op<;>simp [isShift] at hs<;>rfl
      cases op<;>simp only [isShift,Bool.false_eq_true] at hs<;>simp only at h
      ·exact ⟨_,fun w=>by simp only [e,binOp,Op.shift,if_neg hy];rfl,h⟩
      ·exact ⟨_,fun w=>by simp only [e,binOp,Op.shift,if_neg hy];rfl,h⟩
    ·split at h
     ·rename_i hk
      have hk:=of_decide_eq_true hk
      subst hk
      unfold ariF at h
      cases op<;>simp only at h
      case add=>exact ⟨_,fun w=>by simp [eqGuard,binOp,Op.intArith],h⟩
      case sub=>exact ⟨_,fun w=>by simp [eqGuard,binOp,Op.intArith],h⟩
      case mul=>exact ⟨_,fun w=>by simp [eqGuard,binOp,Op.intArith],h⟩
      case quo=>obtain ⟨hb,h⟩:=h.out;exact ⟨_,fun w=>by simp [eqGuard,binOp,Op.intDiv,hb],h⟩
      case rem=>obtain ⟨hb,h⟩:=h.out;exact ⟨_,fun w=>by simp [eqGuard,binOp,Op.intDiv,hb],h⟩
      case and=>exact ⟨_,fun w=>by simp [eqGuard,binOp,Op.intBits,bitI],h⟩
      case or=>exact ⟨_,fun w=>by simp [eqGuard,binOp,Op.intBits,bitI],h⟩
      case xor=>exact ⟨_,fun w=>by simp [eqGuard,binOp,Op.intBits,bitI],h⟩
      case andNot=>exact ⟨_,fun w=>by simp [eqGuard,binOp,Op.intBits,bitI],h⟩
      case eql=>exact ⟨_,fun w=>by simp [eqGuard,binOp,Op.intCmp],h⟩
      case neq=>exact ⟨_,fun w=>by simp [eqGuard,binOp,Op.intCmp],h⟩
      case lss=>exact ⟨_,fun w=>by simp [eqGuard,binOp,Op.intCmp],h⟩
      case leq=>exact ⟨_,fun w=>by simp [eqGuard,binOp,Op.intCmp],h⟩
      case gtr=>exact ⟨_,fun w=>by simp [eqGuard,binOp,Op.intCmp],h⟩
      case geq=>exact ⟨_,fun w=>by simp [eqGuard,binOp,Op.intCmp],h⟩
     ·exact h.elim
   ·exact h.elim
  ·exact h.elim
 ·split at h
  ·split at h
   ·rename_i a _ b
    unfold strF at h
    cases op<;>simp only at h
    case add=>
     obtain ⟨hb,h⟩:=h
     exact ⟨_,fun w=>by simp only [eqGuard,binOp,Op.stringOp];rw [if_neg (Int.not_lt.2 hb)];simp,h⟩
    all_goals exact ⟨_,fun w=>by simp [eqGuard,binOp,Op.stringOp],h⟩
   ·exact h.elim
  ·exact h.elim
 ·rename_i hT
  have hT:P.underlying T=some .bool:=by
   unfold binKind at hT;split at hT<;>first|assumption|simp at hT
  split at h
  ·split at h
   ·exact eq_sound (fun d w=>by simp [Op.equalIn,run_underlying hT]) op ox oy h rfl rfl (fun w=>by cases op<;>rfl)
   ·exact h.elim
  ·exact h.elim
 ·rename_i hT
  obtain ⟨e,hT⟩:∃ e,P.underlying T=some (.pointer e):=by
   unfold binKind at hT;split at hT<;>first|exact ⟨_,by assumption⟩|simp at hT
  split at h
  ·split at h
   ·rename_i p _
    exact eq_sound (fun d w=>by cases p<;>simp [Op.equalIn,run_underlying hT]) op ox oy h (by cases p<;>rfl) (by cases p<;>rfl) (fun w=>by cases op<;>rfl)
   ·exact h.elim
  ·exact h.elim
 ·rename_i hT
  obtain ⟨e,hT⟩:∃ e,P.underlying T=some (.slice e):=by
   unfold binKind at hT;split at hT<;>first|exact ⟨_,by assumption⟩|simp at hT
  split at h
  ·split at h
   ·rename_i a _ _ _ _ _
    exact eq_sound (fun d w=>by cases a<;>simp [Op.equalIn,run_underlying hT]) op ox oy h rfl rfl (fun w=>by cases op<;>rfl)
   ·exact h.elim
  ·exact h.elim
 ·rename_i hT
  obtain ⟨e,e',hT⟩:∃ e e',P.underlying T=some (.map e e'):=by
   unfold binKind at hT;split at hT<;>first|exact ⟨_,_,by assumption⟩|simp at hT
  split at h
  ·split at h
   ·rename_i m _
    exact eq_sound (fun d w=>by cases m<;>simp [Op.equalIn,run_underlying hT]) op ox oy h rfl rfl (fun w=>by cases op<;>rfl)
   ·exact h.elim
  ·exact h.elim
 ·rename_i hT
  obtain ⟨e,e',e'',hT⟩:∃ e e' e'',P.underlying T=some (.func e e' e''):=by
   unfold binKind at hT;split at hT<;>first|exact ⟨_,_,_,by assumption⟩|simp at hT
  split at h
  ·split at h
   ·exact eq_sound (fun d w=>by simp [Op.equalIn,run_underlying hT]) op ox oy h rfl rfl (fun w=>by cases op<;>rfl)
   ·exact eq_sound (fun d w=>by simp [Op.equalIn,run_underlying hT]) op ox oy h rfl rfl (fun w=>by cases op<;>rfl)
   ·exact h.elim
  ·exact h.elim
 ·exact h.elim
end Go.VC
/- VC, part 3: formulas for operations that look at no memory, with their proofs. No condition. -/
namespace Go.VC
set_option linter.unusedVariables false
set_option linter.unusedSimpArgs false
def pureRun {α:Type} (P:Program):Sem α→Option α
 | .pure a=>some a
 | .program k=>pureRun P (k P)
 | .mark _ k=>pureRun P k
 |_=>none
theorem pureRun_sound {α:Type} {P:Program} {s:Sem α} {a:α} (h:pureRun P s=some a) (w:World):s.run P w=.ok a w:=by
 induction s with
 |pure b=>simp only [pureRun,Option.some.injEq] at h;subst h;rfl
 |program k ih=>exact ih P h
 |mark m k ih=>exact ih h
 |_=>simp [pureRun] at h
def newRun {α:Type} (P:Program):Sem α→Option (Obj × (Nat→Option α))
 | .program k=>newRun P (k P)
 | .mark _ k=>newRun P k
 | .new o k=>some (o,fun b=>pureRun P (k b))
 |_=>none
theorem newRun_sound {α:Type} {P:Program} {s:Sem α} {o:Obj} {f:Nat→Option α} (h:newRun P s=some (o,f)) (w:World) {a:α} (ha:f w.heap.size=some a):
  s.run P w=.ok a (w.alloc o):=by
 induction s with
 |program k ih=>exact ih P h
 |mark m k ih=>exact ih h
 |new o' k ih=>
  simp only [newRun,Option.some.injEq,Prod.mk.injEq] at h
  obtain ⟨rfl,rfl⟩:=h
  exact pureRun_sound ha _
 |_=>simp [newRun] at h
def PR (P:Program) (s:Sem Next) (K:Value→Prop):Prop:=
 match pureRun P s with
 |some (.value v)=>K v
 |_=>False
def szOf (P:Program) (t:TypeId):Nat:=match P.info? t with|some i=>i.size|none=>0
def NilP (p:Option Addr) (K:Addr→Prop):Prop:=match p with|some a=>K a|none=>False
theorem NilP.mk {p:Option Addr} {a:Addr} {K:Addr→Prop} (hp:p=some a) (h:K a):NilP p K:=by subst hp;exact h
def NilCk (x:Value) (K:Value→Prop):Prop:=
 match x with
 | .pointer p=>NilP p fun a=>K (.pointer (some a))
 | .func (.func f) first captured=>K (.func (.func f) first captured)
 | .iface t v=>K (.iface t v)
 |_=>False
def mulS (i n:Nat):Nat:=match n with|1=>i|n=>i * n
theorem mulS_eq (i n:Nat):mulS i n=i * n:=by unfold mulS;split<;>simp
def Rng (i:Int) (n:Nat) (A:Prop):Prop:=match decide (0≤i∧i<(n:Int)) with|true=>A|false=>False
theorem Rng.mk {i:Int} {n:Nat} {A:Prop} (h0:0≤i) (h1:i<(n:Int)) (h:A):Rng i n A:=by unfold Rng;rw [decide_eq_true ⟨h0,h1⟩];exact h
theorem Rng.out {i:Int} {n:Nat} {A:Prop} (h:Rng i n A):0≤i∧i<(n:Int)∧A:=by
 unfold Rng at h;split at h
 ·rename_i hb;have:=of_decide_eq_true hb;exact ⟨this.1,this.2,h⟩
 ·exact h.elim
theorem NilP.out {p:Option Addr} {K:Addr→Prop} (h:NilP p K):∃ a,p=some a∧K a:=by
 unfold NilP at h;split at h
 ·exact ⟨_,rfl,h⟩
 ·exact h.elim
def idxA (base:Option Addr) (len:Nat) (i:Int) (size:Nat) (K:Value→Prop):Prop:=
 Rng i len (NilP base fun a=>K (.pointer (some (a.add (mulS i.toNat size)))))
def idxAddrF (P:Program) (T:TypeId) (x i:Value) (K:Value→Prop):Prop:=
 match i with
 | .int _ n=>match P.underlying T with
  |some (.slice e)=>(match x with| .slice a len _=>idxA a len n (szOf P e) K|_=>False)
  |some (.array len e)=>(match x with| .pointer p=>idxA p len n (szOf P e) K|_=>False)
  |_=>False
 |_=>False
def isAggT (P:Program) (t:TypeId):Bool:=match P.underlying t with|some (.struct _)|some (.array _ _)=>true|_=>false
def idxF (P:Program) (T:TypeId) (x i:Value) (K:Value→Prop):Prop:=
 match i with
 | .int _ n=>match P.underlying T with
  |some .string=>(match x with| .string s=>∃ c:UInt8,0≤n∧s[n.toNat]? =some c∧K (.int .u8 c.toNat)|_=>False)
  |some (.array len e)=>(match x with
   | .agg cs=>Rng n len (match isAggT P e with
    |true=>K (.agg (cs.extract (mulS n.toNat (szOf P e)) (mulS n.toNat (szOf P e) + szOf P e)))
    |false=>(tyOf P e).ex fun v=>cs[mulS n.toNat (szOf P e)]? =some v∧K v)
   |_=>False)
  |_=>False
 |_=>False
def bnd (x:Option Value) (d y:Nat) (φ:Nat→Prop):Prop:=
 match x with
 |none=>φ d
 |some v=>match v with| .int _ i=>0≤i∧i≤(y:Int)∧φ i.toNat|_=>False
def cutA (a:Option Addr) (l m size:Nat):Option Addr:=if m=l then a else a.map (·.add (l * size))
def sliceF (P:Program) (T:TypeId) (x:Value) (lo hi mx:Option Value) (K:Value→Prop):Prop:=
 match P.underlying T with
 |some .string=>(match x with
  | .string s=>(match mx with
   |some _=>False
   |none=>bnd hi s.size s.size fun h=>bnd lo 0 h fun l=>K (.string (s.extract l h)))
  |_=>False)
 |some (.slice e)=>(match x with
  | .slice a n c=>bnd mx c c fun m=>(match hi,mx with
   |none,some _=>False
   |_,_=>bnd hi n m fun h=>(match lo with
    |none=>K (.slice a h m)
    |some v=>bnd (some v) 0 h fun l=>K (.slice (cutA a l m (szOf P e)) (h - l) (m - l))))
  |_=>False)
 |some (.array n e)=>(match x with
  | .pointer p=>∃ a:Addr,p=some a∧bnd mx n n fun m=>(match hi,mx with
   |none,some _=>False
   |_,_=>bnd hi n m fun h=>(match lo with
    |none=>K (.slice (some a) h m)
    |some v=>bnd (some v) 0 h fun l=>K (.slice (cutA (some a) l m (szOf P e)) (h - l) (m - l))))
  |_=>False)
 |_=>False
def pureKind (P:Program) (op:Op):Nat:=
 match op with
 | .move _| .assign _| .pick _ _ _| .field _ _ _| .build _ _| .extract _ _| .makeFunc _ _ _| .makeInterface _ _| .unOp _ _ _=>1
 | .convert src dst _=>(match P.underlying dst with|some (.int _)=>(match P.underlying src with|some (.float _)=>0|_=>1)|_=>0)
 | .call c=>(match c.callee with
  | .builtin .len| .builtin .cap=>(match c.argTypes[0]? with
   |some t=>(match P.underlying t with|some (.map _ _)|some (.chan _ _)=>0|_=>1)
   |none=>0)
  | .builtin .min| .builtin .max=>1
  |_=>0)
 | .binOp _ T _ _ _=>(match binKind P T with|0=>0|_=>2)
 | .nilCheck _=>3
 | .indexAddr _ _ _=>4
 | .index _ _ _=>5
 | .slice _ _ _ _ _=>6
 | .fieldAddr _ _ _=>7
 |_=>0
def fldAddrF (P:Program) (T:TypeId) (x:Value) (i:Nat) (K:Value→Prop):Prop:=
 match x with
 | .pointer p=>NilP p fun a=>PR P (do pure (.value (←Instr.fieldAt T (.pointer (some a)) i))) K
 |_=>False
def pureF (P:Program) (ρ:Env) (o:Oper) (K:Value→Prop):Prop:=
 match pureKind P o.op with
 |1=>PR P (execOp ρ.ev o) K
 |_=>match o.op with
  | .binOp op T x y _=>binF P op T (ρ.ev x) (ρ.ev y) K
  | .nilCheck x=>NilCk (ρ.ev x) K
  | .indexAddr T x i=>idxAddrF P T (ρ.ev x) (ρ.ev i) K
  | .index T x i=>idxF P T (ρ.ev x) (ρ.ev i) K
  | .slice T x lo hi mx=>sliceF P T (ρ.ev x) (lo.map ρ.ev) (hi.map ρ.ev) (mx.map ρ.ev) K
  | .fieldAddr T x i=>fldAddrF P T (ρ.ev x) i K
  |_=>False
def Gives (P:Program) (S:World→Prop) (s:Sem Next) (K:Value→Prop):Prop:=∃ v,(∀ w,S w→s.run P w=.ok (.value v) w)∧K v
theorem run_typeInfo_of {P:Program} {t:TypeId} {i:TypeInfo} (h:P.info? t=some i) (w:World):(typeInfo t).run P w=.ok i w:=by
 simp [typeInfo,h]
theorem value_run {P:Program} {s:Sem Value} {v:Value} {w w':World} (h:s.run P w=.ok v w'):(do pure (.value (←s)):Sem Next).run P w=.ok (.value v) w':=by
 simp [h]
theorem NilCk_sound {P:Program} {ρ:Operand→Value} {dst:Option Tmp} {ty:TypeId} {pos:String} {after:Array Edge} {guard:Option (Nat × Bool)} {x:Operand} {K:Value→Prop} (h:NilCk (ρ x) K):
  Gives P (fun _=>True) (execOp ρ ⟨dst,.nilCheck x,ty,pos,after,guard⟩) K:=by
 unfold NilCk at h
 split at h
 ·rename_i hx
  unfold NilP at h
  split at h
  ·exact ⟨_,fun w _=>by simp only [execOp,hx];rfl,h⟩
  ·exact h.elim
 ·rename_i hx;exact ⟨_,fun w _=>by simp only [execOp,hx];rfl,h⟩
 ·rename_i hx;exact ⟨_,fun w _=>by simp only [execOp,hx];rfl,h⟩
 ·exact h.elim
end Go.VC
/- VC, part 4: the formulas of part 3 are enough. No condition. -/
namespace Go.VC
set_option linter.unusedVariables false
set_option linter.unusedSimpArgs false
variable {P:Program} {ρ:Operand→Value} {dst:Option Tmp} {ty:TypeId} {pos:String} {after:Array Edge} {guard:Option (Nat × Bool)} {K:Value→Prop}
theorem isAgg_run {P:Program} {t:TypeId} {d:TypeDesc} (h:P.underlying t=some d) (w:World):(isAgg t).run P w=.ok (isAggT P t) w:=by
 unfold isAggT;rw [h];simp only [isAgg,Sem.run_bind,run_underlying h,Result.andThen_ok]
 cases d<;>rfl
theorem sizeOf_run {P:Program} {t:TypeId} {i:TypeInfo} (h:P.info? t=some i) (w:World):(sizeOf t).run P w=.ok (szOf P t) w:=by
 unfold szOf;simp [sizeOf,run_typeInfo_of h,h]
theorem szOf_pos {P:Program} {t:TypeId} (h:szOf P t≠0):∃ i,P.info? t=some i:=by
 unfold szOf at h;split at h
 ·exact ⟨_,by assumption⟩
 ·exact absurd rfl h
def elemOk (P:Program) (T:TypeId):Bool:=
 match P.underlying T with
 |some (.slice e)|some (.array _ e)=>(P.info? e).isSome
 |_=>true
theorem idxAddrF_sound {T:TypeId} {x i:Operand} (hok:elemOk P T=true) (h:idxAddrF P T (ρ x) (ρ i) K):
  Gives P (fun _=>True) (execOp ρ ⟨dst,.indexAddr T x i,ty,pos,after,guard⟩) K:=by
 unfold idxAddrF at h
 unfold elemOk at hok
 split at h
 case h_2=>exact h.elim
 rename_i k n hi
 split at h
 ·rename_i e hT
  rw [hT] at hok
  obtain ⟨ie,hie⟩:=Option.isSome_iff_exists.1 hok
  split at h
  ·rename_i a len c hx
   obtain ⟨h0,h1,h⟩:=Rng.out h
   obtain ⟨ad,rfl,h⟩:=NilP.out h
   refine ⟨_,fun w _=>?_,h⟩
   simp only [execOp,hx,hi]
   refine value_run ?_
   simp [Instr.indexAt,asIntOf,run_underlying hT,h0,h1,sizeOf_run hie,mulS_eq]
  ·exact h.elim
 ·rename_i len e hT
  rw [hT] at hok
  obtain ⟨ie,hie⟩:=Option.isSome_iff_exists.1 hok
  split at h
  ·rename_i p hx
   obtain ⟨h0,h1,h⟩:=Rng.out h
   obtain ⟨ad,rfl,h⟩:=NilP.out h
   refine ⟨_,fun w _=>?_,h⟩
   simp only [execOp,hx,hi]
   refine value_run ?_
   simp [Instr.indexAt,Instr.sureAddr,asIntOf,run_underlying hT,h0,h1,sizeOf_run hie,mulS_eq]
  ·exact h.elim
 ·exact h.elim
def partOk (P:Program) (T:TypeId):Bool:=
 match P.underlying T with
 |some (.slice e)|some (.array _ e)=>(P.info? e).isSome && (P.underlying e).isSome
 |_=>true
theorem idxF_sound {T:TypeId} {x i:Operand} (hok:partOk P T=true) (h:idxF P T (ρ x) (ρ i) K):
  Gives P (fun _=>True) (execOp ρ ⟨dst,.index T x i,ty,pos,after,guard⟩) K:=by
 unfold idxF at h
 unfold partOk at hok
 split at h
 case h_2=>exact h.elim
 rename_i k n hi
 split at h
 ·rename_i hT
  split at h
  ·rename_i s hx
   obtain ⟨c,h0,hc,h⟩:=h
   refine ⟨_,fun w _=>?_,h⟩
   simp only [execOp,hx,hi]
   refine value_run ?_
   simp [Instr.index,asIntOf,run_underlying hT,h0,hc]
  ·exact h.elim
 ·rename_i len e hT
  rw [hT] at hok
  simp only [Bool.and_eq_true] at hok
  obtain ⟨ie,hie⟩:=Option.isSome_iff_exists.1 hok.1
  obtain ⟨de,hde⟩:=Option.isSome_iff_exists.1 hok.2
  split at h
  ·rename_i cs hx
   obtain ⟨h0,h1,h⟩:=Rng.out h
   split at h
   ·rename_i hag
    refine ⟨_,fun w _=>?_,h⟩
    simp only [execOp,hx,hi]
    refine value_run ?_
    simp [Instr.index,asIntOf,run_underlying hT,h0,h1,sizeOf_run hie,part,isAgg_run hde,hag,mulS_eq]
   ·rename_i hag
    obtain ⟨v,hv,h⟩:=Ty.ex_some h
    refine ⟨_,fun w _=>?_,h⟩
    simp only [execOp,hx,hi]
    refine value_run ?_
    rw [mulS_eq] at hv
    simp [Instr.index,asIntOf,run_underlying hT,h0,h1,sizeOf_run hie,part,isAgg_run hde,hag,hv]
  ·exact h.elim
 ·exact h.elim
theorem bnd_some {v:Value} {d y:Nat} {φ:Nat→Prop} {code:BoundsCode} (h:bnd (some v) d y φ):∃ l,(∀ w,(Instr.sliceBound v y code).run P w=.ok l w)∧φ l:=by
 unfold bnd at h
 split at h
 ·rename_i hh;cases hh
 ·rename_i hh
  cases hh
  split at h
  ·obtain ⟨h0,h1,h⟩:=h
   exact ⟨_,fun w=>by simp [Instr.sliceBound,asIntOf,h0,h1],h⟩
  ·exact h.elim
theorem bounds_sound {isS:Bool} {len cap:Nat} {lo hi mx:Option Value} {φ:Nat→Nat→Nat→Prop}
  (h:bnd mx cap cap fun m=>(match hi,mx with
   |none,some _=>False
   |_,_=>bnd hi len m fun h=>bnd lo 0 h fun l=>φ l h m)):
  ∃ l h m,(∀ w,(Instr.sliceBounds isS len cap lo hi mx).run P w=.ok (l,h,m) w)∧φ l h m:=by
 cases mx with
 |none=>
  cases hi with
  |none=>
   cases lo with
   |none=>exact ⟨0,len,cap,fun w=>by simp [Instr.sliceBounds],h⟩
   |some u=>
    obtain ⟨l,rl,h⟩:=bnd_some (P:=P) (code:=.sliceB) (φ:=fun l=>φ l len cap) (d:=0) (y:=len) (v:=u) h
    exact ⟨l,len,cap,fun w=>by simp [Instr.sliceBounds,rl],h⟩
  |some v=>
   obtain ⟨h',rh,h⟩:=bnd_some (P:=P) (code:=if isS then .sliceAcap else .sliceAlen) (φ:=fun h=>bnd lo 0 h fun l=>φ l h cap) (d:=len) (y:=cap) (v:=v) h
   cases lo with
   |none=>exact ⟨0,h',cap,fun w=>by simp [Instr.sliceBounds,rh],h⟩
   |some u=>
    obtain ⟨l,rl,h⟩:=bnd_some (P:=P) (code:=.sliceB) (φ:=fun l=>φ l h' cap) (d:=0) (y:=h') (v:=u) h
    exact ⟨l,h',cap,fun w=>by simp [Instr.sliceBounds,rh,rl],h⟩
 |some x=>
  obtain ⟨m,rm,h⟩:=bnd_some (P:=P) (code:=if isS then .slice3Acap else .slice3Alen) h
  cases hi with
  |none=>exact h.elim
  |some v=>
   obtain ⟨h',rh,h⟩:=bnd_some (P:=P) (code:=.slice3B) (φ:=fun h=>bnd lo 0 h fun l=>φ l h m) (d:=len) (y:=m) (v:=v) h
   cases lo with
   |none=>exact ⟨0,h',m,fun w=>by simp [Instr.sliceBounds,rm,rh],h⟩
   |some u=>
    obtain ⟨l,rl,h⟩:=bnd_some (P:=P) (code:=.slice3C) (φ:=fun l=>φ l h' m) (d:=0) (y:=h') (v:=u) h
    exact ⟨l,h',m,fun w=>by simp [Instr.sliceBounds,rm,rh,rl],h⟩
theorem cutA_zero (a:Option Addr) (m size:Nat):cutA a 0 m size=a:=by
 unfold cutA;split
 ·rfl
 ·cases a<;>simp [Addr.add]
theorem sliceF_sound {T:TypeId} {x:Operand} {lo hi mx:Option Operand} (hok:elemOk P T=true)
  (h:sliceF P T (ρ x) (lo.map ρ) (hi.map ρ) (mx.map ρ) K):
  Gives P (fun _=>True) (execOp ρ ⟨dst,.slice T x lo hi mx,ty,pos,after,guard⟩) K:=by
 unfold sliceF at h
 unfold elemOk at hok
 split at h
 ·rename_i hT
  split at h
  ·rename_i s hx
   split at h
   ·exact h.elim
   ·rename_i hmx
    obtain ⟨l,h',m,hr,h⟩:=bounds_sound (P:=P) (isS:=false) (len:=s.size) (cap:=s.size) (lo:=lo.map ρ) (hi:=hi.map ρ) (mx:=none) (φ:=fun l h _=>K (.string (s.extract l h))) (by
     revert h
     generalize hi.map ρ=hi'
     intro h
     cases hi' with
     |none=>exact h
     |some v=>exact h)
    refine ⟨_,fun w _=>?_,h⟩
    simp only [execOp,hx,hmx]
    refine value_run ?_
    simp [Instr.sliceAt,Instr.slice,run_underlying hT,hr]
  ·exact h.elim
 ·rename_i e hT
  rw [hT] at hok
  obtain ⟨ie,hie⟩:=Option.isSome_iff_exists.1 hok
  split at h
  ·rename_i a n c hx
   obtain ⟨l,h',m,hr,h⟩:=bounds_sound (P:=P) (isS:=true) (len:=n) (cap:=c) (lo:=lo.map ρ) (hi:=hi.map ρ) (mx:=mx.map ρ) (φ:=fun l h m=>K (.slice (cutA a l m (szOf P e)) (h - l) (m - l))) (by
    revert h
    generalize hi.map ρ=hi'
    generalize mx.map ρ=mx'
    generalize lo.map ρ=lo'
    intro h
    cases lo' with
    |some v=>exact h
    |none=>
     cases mx' with
     |none=>cases hi' with
      |none=>simpa [bnd,cutA_zero] using h
      |some v=>simpa [bnd,cutA_zero] using h
     |some u=>cases hi' with
      |none=>simpa [bnd] using h
      |some v=>simpa [bnd,cutA_zero] using h)
   refine ⟨_,fun w _=>?_,h⟩
   simp only [execOp,hx]
   refine value_run ?_
   simp [Instr.sliceAt,Instr.slice,run_underlying hT,hr,sizeOf_run hie,cutA]
  ·exact h.elim
 ·rename_i n e hT
  rw [hT] at hok
  obtain ⟨ie,hie⟩:=Option.isSome_iff_exists.1 hok
  split at h
  ·rename_i p hx
   obtain ⟨a,rfl,h⟩:=h
   obtain ⟨l,h',m,hr,h⟩:=bounds_sound (P:=P) (isS:=false) (len:=n) (cap:=n) (lo:=lo.map ρ) (hi:=hi.map ρ) (mx:=mx.map ρ) (φ:=fun l h m=>K (.slice (cutA (some a) l m (szOf P e)) (h - l) (m - l))) (by
    revert h
    generalize hi.map ρ=hi'
    generalize mx.map ρ=mx'
    generalize lo.map ρ=lo'
    intro h
    cases lo' with
    |some v=>exact h
    |none=>
     cases mx' with
     |none=>cases hi' with
      |none=>simpa [bnd,cutA_zero] using h
      |some v=>simpa [bnd,cutA_zero] using h
     |some u=>cases hi' with
      |none=>simpa [bnd] using h
      |some v=>simpa [bnd,cutA_zero] using h)
   refine ⟨_,fun w _=>?_,h⟩
   simp only [execOp,hx]
   refine value_run ?_
   have hc:(if m=l then some a else some (a.add (l * szOf P e)))=cutA (some a) l m (szOf P e):=by unfold cutA;split<;>rfl
   have hc':some (if m=l then a else a.add (l * szOf P e))=cutA (some a) l m (szOf P e):=by unfold cutA;split<;>rfl
   simp [Instr.sliceAt,Instr.sureAddr,run_underlying hT,hr,sizeOf_run hie,hc']
  ·exact h.elim
 ·exact h.elim
def tabOk (P:Program) (op:Op):Bool:=
 match op with
 | .indexAddr T _ _| .slice T _ _ _ _=>elemOk P T
 | .index T _ _=>partOk P T
 |_=>true
theorem PR_sound {s:Sem Next} (h:PR P s K):Gives P (fun _=>True) s K:=by
 unfold PR at h
 split at h
 ·rename_i v hv;exact ⟨v,fun w _=>pureRun_sound hv w,h⟩
 ·exact h.elim
theorem pureF_sound {e:Env} {o:Oper} (hok:tabOk P o.op=true) (h:pureF P e o K):Gives P (fun _=>True) (execOp e.ev o) K:=by
 unfold pureF at h
 split at h
 ·exact PR_sound h
 ·obtain ⟨dst,op,ty,pos,after,guard⟩:=o
  cases op<;>simp only at h hok<;>first|exact h.elim|skip
  case binOp op T x y T'=>
   obtain ⟨v,hv,hK⟩:=binF_sound h _ _
   exact ⟨v,fun w _=>value_run (hv w),hK⟩
  case nilCheck x=>exact NilCk_sound h
  case indexAddr T x i=>exact idxAddrF_sound hok h
  case index T x i=>exact idxF_sound hok h
  case slice T x lo hi mx=>exact sliceF_sound hok h
  case fieldAddr T x i=>
   unfold fldAddrF at h
   split at h
   ·rename_i p hx
    obtain ⟨a,rfl,h⟩:=NilP.out h
    obtain ⟨v,hv,hK⟩:=PR_sound h
    exact ⟨v,fun w _=>by simp only [execOp,hx];exact hv w trivial,hK⟩
   ·exact h.elim
end Go.VC
/- VC, part 5: formulas for operations that read or change memory, and for calls; each is enough. No condition. -/
namespace Go.VC
set_option linter.unusedVariables false
set_option linter.unusedSimpArgs false
def At (S:World→Prop) (p:Addr) (vs:List Value):Prop:=∀ w,S w→∀ i v,vs[i]? =some v→w.cell? (p.add i)=some v
def loadF (P:Program) (S:World→Prop) (T:TypeId) (x:Value) (K:Value→Prop):Prop:=
 match x with
 | .pointer q=>NilP q fun p=>(match isAggT P T with
   |true=>(match flat P 6 T with
    |some ts=>exAll ts fun vs=>At S p vs∧K (.agg vs.toArray)
    |none=>∃ vs:List Value,vs.length=szOf P T∧At S p vs∧K (.agg vs.toArray))
   |false=>(tyOf P T).ex fun v=>At S p [v]∧K v)
 |_=>False
def Giv (P:Program) (S:World→Prop) (s:Sem Value) (t:Rt) (K:Value→Prop):Prop:=
 t.ex fun v=>(∀ w,S w→s.run P w=.ok v w)∧K v
def readKind (P:Program) (op:Op):Nat:=
 match op with
 | .load _ _=>1
 | .lookup _ _ _ _=>2
 | .entry _=>2
 | .typeAssert _ _ _ _=>2
 | .binOp _ T _ _ _=>(match binKind P T with|0=>2|_=>0)
 | .convert src dst _=>(match P.underlying dst with|some .string=>(match P.underlying src with|some (.slice _)=>2|some .string=>2|_=>0)|some (.int _)=>(match P.underlying src with|some (.float _)=>2|_=>0)|_=>0)
 | .call c=>(match c.callee with
  | .builtin .len=>(match c.argTypes[0]? with
   |some t=>(match P.underlying t with|some (.map _ _)=>2|_=>0)
   |none=>0)
  |_=>0)
 |_=>0
def valSem (ρ:Operand→Value) (o:Oper):Sem Value:=
 match o.op with
 | .lookup T x i ok=>Instr.lookup T (ρ x) (ρ i) ok
 | .entry it=>Instr.entry (ρ it)
 | .typeAssert x T T' ok=>Instr.typeAssert (ρ x) T T' ok
 | .binOp op T x y _=>(do eqGuard op T x y (ρ x) (ρ y);binOp op T (ρ x) (ρ y))
 | .convert src dst x=>convert src dst (ρ x)
 | .makeSlice T l c=>Instr.makeSlice T (ρ l) (ρ c)
 | .mapEntry T m k=>Instr.mapEntry T (ρ m) (ρ k)
 | .range T x=>Instr.range T (ρ x)
 | .next it isString=>Instr.next (ρ it) isString o.type
 | .call c=>(match c.callee with
  | .builtin .append=>Builtin.append_ c.argTypes o.type (c.args.map ρ)
  | .builtin .copy=>Builtin.copy_ c.argTypes o.type (c.args.map ρ)
  | .builtin .delete=>Builtin.delete_ c.argTypes o.type (c.args.map ρ)
  | .builtin .clear=>Builtin.clear_ c.argTypes o.type (c.args.map ρ)
  | .builtin .len=>Builtin.len_ c.argTypes o.type (c.args.map ρ)
  | _ => stuck "")
 | _ => stuck ""
def valOp (op:Op):Bool:=
 match op with
 | .lookup _ _ _ _| .entry _| .typeAssert _ _ _ _| .binOp _ _ _ _ _| .convert _ _ _| .makeSlice _ _ _| .mapEntry _ _ _| .range _ _| .next _ _=>true
 | .call c=>(match c.callee with
  | .builtin .append| .builtin .copy| .builtin .delete| .builtin .clear| .builtin .len=>true
  |_=>false)
 |_=>false
theorem valSem_run {P:Program} {ρ:Operand→Value} {o:Oper} (h:valOp o.op=true) {v:Value} {w w':World} (hr:(valSem ρ o).run P w=.ok v w'):
  (execOp ρ o).run P w=.ok (.value v) w':=by
 obtain ⟨dst,op,ty,pos,after,guard⟩:=o
 cases op<;>simp only [valOp,Bool.false_eq_true] at h
 case call c=>
  obtain ⟨callee,args,ats⟩:=c
  cases callee<;>simp only [Bool.false_eq_true] at h
  case builtin b=>
   cases b<;>simp only [Bool.false_eq_true] at h<;>exact value_run (s:=_) hr
 all_goals exact value_run (s:=_) hr
def readF (P:Program) (S:World→Prop) (ρ:Env) (o:Oper) (K:Value→Prop):Prop:=
 match readKind P o.op with
 |1=>(match o.op with| .load T x=>loadF P S T (ρ.ev x) K|_=>False)
 |_=>Giv P S (valSem ρ.ev o) (rtOf P o.type) K
theorem exAll_len:∀ {ts:List Ty} {φ:List Value→Prop},exAll ts φ→∃ vs,vs.length=ts.length∧φ vs
 |[],_,h=>⟨[],rfl,h⟩
 |_::_,_,h=>let ⟨v,h⟩:=Ty.ex_some h;let ⟨vs,hl,h⟩:=exAll_len h;⟨v::vs,by simp [hl],h⟩
def ldOk (P:Program) (T:TypeId):Bool:=
 (P.info? T).isSome && (P.underlying T).isSome && (match isAggT P T with
 |true=>(match flat P 6 T with
  |some ts=>Nat.beq ts.length (szOf P T)
  |none=>true)
 |false=>true)
theorem loadCells_run {P:Program} {p:Addr} {vs:List Value} {w:World} (h:∀ i v,vs[i]? =some v→w.cell? (p.add i)=some v):
  (loadCells p vs.length).run P w=.ok vs.toArray w:=by
 have:=run_loadCells_list (P:=P) (w:=w) p vs h
 simpa using this
theorem loadF_sound {P:Program} {S:World→Prop} {ρ:Operand→Value} {dst:Option Tmp} {ty:TypeId} {pos:String} {after:Array Edge} {guard:Option (Nat × Bool)} {K:Value→Prop}
  {T:TypeId} {x:Operand} (hok:ldOk P T=true) (h:loadF P S T (ρ x) K):Gives P S (execOp ρ ⟨dst,.load T x,ty,pos,after,guard⟩) K:=by
 unfold loadF at h
 unfold ldOk at hok
 simp only [Bool.and_eq_true] at hok
 obtain ⟨⟨hinfo,hund⟩,hok⟩:=hok
 obtain ⟨d,hd⟩:=Option.isSome_iff_exists.1 hund
 obtain ⟨i,hi⟩:=Option.isSome_iff_exists.1 hinfo
 split at h
 case h_2=>exact h.elim
 rename_i q hx
 unfold NilP at h
 split at h
 case h_2=>exact h.elim
 rename_i p
 split at h
 ·rename_i hag
  have key:∀ vs:List Value,vs.length=szOf P T→At S p vs→K (.agg vs.toArray)→Gives P S (execOp ρ ⟨dst,.load T x,ty,pos,after,guard⟩) K:=fun vs hl hat hK=>by
   refine ⟨_,fun w hw=>?_,hK⟩
   simp only [execOp,hx]
   refine value_run ?_
   simp only [Instr.loadAt,Instr.sureAddr,loadVar,Sem.run_bind,Sem.run_pure,Result.andThen_ok,isAgg_run hd,hag,if_true,sizeOf_run hi,←hl,loadCells_run (hat w hw)]
  split at h
  ·rename_i ts hts
   rw [hag] at hok;simp only [hts] at hok
   obtain ⟨vs,hl,hat,hK⟩:=exAll_len h
   exact key vs (by rw [hl];exact Nat.eq_of_beq_eq_true hok) hat hK
  ·obtain ⟨vs,hl,hat,hK⟩:=h
   exact key vs hl hat hK
 ·rename_i hag
  obtain ⟨v,hat,hK⟩:=Ty.ex_some h
  refine ⟨_,fun w hw=>?_,hK⟩
  have hc:w.cell? p=some v:=by have:=hat w hw 0 v rfl;simpa [Addr.add] using this
  simp only [execOp,hx]
  refine value_run ?_
  simp [Instr.loadAt,Instr.sureAddr,loadVar,isAgg_run hd,hag,hc]
def ldOk' (P:Program) (op:Op):Bool:=match op with| .load T _=>ldOk P T|_=>true
theorem readF_sound {P:Program} {S:World→Prop} {e:Env} {o:Oper} {K:Value→Prop} (hk:readKind P o.op≠0)
  (hok:ldOk' P o.op=true) (h:readF P S e o K):Gives P S (execOp e.ev o) K:=by
 unfold readF at h
 split at h
 ·rename_i hk1
  obtain ⟨dst,op,ty,pos,after,guard⟩:=o
  cases op<;>simp only at h hok<;>first|exact h.elim|skip
  exact loadF_sound hok h
 ·rename_i hk1
  obtain ⟨v,hv,hK⟩:=Rt.ex_some h
  refine ⟨v,fun w hw=>valSem_run ?_ (hv w hw),hK⟩
  obtain ⟨dst,op,ty,pos,after,guard⟩:=o
  cases op<;>simp only [readKind,ne_eq,not_true_eq_false] at hk hk1<;>first|rfl|exact (hk1 trivial).elim|skip
  case call c=>
   obtain ⟨callee,args,ats⟩:=c
   cases callee<;>simp only [not_true_eq_false] at hk
   case builtin b=>cases b<;>simp only [not_true_eq_false] at hk<;>rfl
def New (o:Obj) (K:Nat→World→Prop) (w:World):Prop:=K w.heap.size (w.alloc o)
def newF (P:Program) (s:Sem Next) (K:Value→World→Prop) (w:World):Prop:=
 match newRun P s with
 |some (o,f)=>New o (fun b w=>match f b with|some (.value v)=>K v w|_=>False) w
 |none=>False
def RunV (P:Program) (s:Sem Value) (t:Rt) (K:Value→World→Prop) (w:World):Prop:=∃ w',t.ex fun v=>s.run P w=.ok v w'∧K v w'
def RunU (P:Program) (s:Sem Unit) (K:World→Prop) (w:World):Prop:=∃ w',s.run P w=.ok () w'∧K w'
def NextS (p:Option Addr) (A:Int→Int→World→Prop) (B:World→Prop) (w:World):Prop:=
 ∃ r s pos,p=some ⟨r,0,none⟩∧w.heap[r]? =some (.stringIter s pos)∧
  (pos<s.size→A (pos:Int) ((Utf8.decode s pos).1:Int) { w with heap:=w.heap.setIfInBounds r (.stringIter s (pos + (Utf8.decode s pos).2)) })∧(¬ pos<s.size→B w)
def rangeF (P:Program) (T:TypeId) (x:Value) (K:Value→World→Prop) (w:World):Prop:=
 match P.underlying T with
 |some .string=>(match x with| .string s=>New (.stringIter s 0) (fun b w=>K (.pointer (some ⟨b,0,none⟩)) w) w|_=>False)
 |some (.map _ _)=>RunV P (Instr.range T x) (.val (.one .ptr)) K w
 |_=>False
def NextM (P:Program) (s:Sem Value) (K:Value→World→Prop) (w:World):Prop:=
 ∃ w',(s.run P w=.ok (.tuple #[.bool false]) w'∧K (.tuple #[.bool false]) w')∨
  (∃ k v,s.run P w=.ok (.tuple #[.bool true,k,v]) w'∧K (.tuple #[.bool true,k,v]) w')
theorem NextM_sound {P:Program} {s:Sem Value} {K:Value→World→Prop} {w:World} (h:NextM P s K w):∃ v w',s.run P w=.ok v w'∧K v w':=by
 obtain ⟨w',h|⟨k,v,h⟩⟩:=h
 ·exact ⟨_,w',h.1,h.2⟩
 ·exact ⟨_,w',h.1,h.2⟩
def nextF (x:Value) (K:Value→World→Prop) (w:World):Prop:=
 match x with
 | .pointer p=>NextS p (fun i c w=>K (.tuple #[.bool true,.int .i64 i,.int .i32 c]) w) (fun w=>K (.tuple #[.bool false]) w) w
 |_=>False
theorem rangeF_sound {P:Program} {T:TypeId} {x:Value} {K:Value→World→Prop} {w:World} (h:rangeF P T x K w):∃ v w',(Instr.range T x).run P w=.ok v w'∧K v w':=by
 unfold rangeF at h
 split at h
 case h_3=>exact h.elim
 case h_2=>
  obtain ⟨w',h⟩:=h
  obtain ⟨v,h⟩:=Rt.ex_some h
  exact ⟨v,w',h⟩
 rename_i hT
 split at h
 case h_2=>exact h.elim
 rename_i s
 refine ⟨_,_,?_,h⟩
 simp [Instr.range,run_underlying hT]
theorem nextF_sound {P:Program} {T:TypeId} {x:Value} {K:Value→World→Prop} {w:World} (h:nextF x K w):∃ v w',(Instr.next x true T).run P w=.ok v w'∧K v w':=by
 unfold nextF at h
 split at h
 case h_2=>exact h.elim
 obtain ⟨r,s,pos,rfl,hk,hA,hB⟩:=h
 by_cases hp:pos<s.size
 ·refine ⟨_,_,?_,hA hp⟩
  simp only [Instr.next,getObj,setObj,Sem.run_bind,Sem.run,hk,Result.andThen,hp,if_true]
  simp [goInt]
 ·refine ⟨_,_,?_,hB hp⟩
  simp [Instr.next,getObj,Sem.run,hk,hp]
def Ext (P:Program) (g:FuncId) (args:Array Value) (w:World) (Q:Ending→World→Prop):Prop:=∃ v w',(callFunc g args).run P w=.ok (.value v) w'∧Q (.returned v) w'
def CalW (P:Program) (cl:FuncId→Bool) (f:Value) (args:List Value) (w:World) (Q:Ending→World→Prop):Prop:=
 match f with
 | .func fn first captured=>(match fn with
  | .func g=>(match cl g with
   |true=>Calls P g (first.toList++(args++captured.toList)).toArray w Q
   |false=>Ext P g (first.toList++(args++captured.toList)).toArray w Q)
  |_=>False)
 |_=>False
theorem CalW.mono {P:Program} {cl:FuncId→Bool} {f:Value} {args:List Value} {w:World} {Q Q':Ending→World→Prop} (h:CalW P cl f args w Q) (hq:∀ e w,Q e w→Q' e w):CalW P cl f args w Q':=by
 unfold CalW at *
 split at h
 ·split at h
  ·split at h
   ·exact Calls.mono h hq
   ·obtain ⟨v,w',h1,h2⟩:=h;exact ⟨v,w',h1,hq _ _ h2⟩
  ·exact h.elim
 ·exact h.elim
def calV (P:Program) (cl:FuncId→Bool) (f:Value) (args:Array Value) (t:Rt) (K:Value→World→Prop) (w:World):Prop:=
 CalW P cl f args.toList w fun e w'=>t.ex fun v=>e=.returned v∧K v w'
def rawF (P:Program) (s:Sem Next) (K:Value→World→Prop) (w:World):Prop:=
 match s.run P w with
 | .ok (.value v) w'=>K v w'
 | .ok .skip w'=>K undef w'
 |_=>False
def effKind (op:Op):Nat:=
 match op with
 | .alloc _| .box _ _| .buildSlice _ _ _| .makeMap _ _=>1
 | .makeSlice _ _ _| .mapEntry _ _ _| .convert _ _ _=>2
 | .range _ _=>7
 | .next _ s=>(match s with|true=>8|false=>9)
 | .store _ _ _=>3
 | .mapUpdate _ _ _ _| .insert _ _ _ _=>4
 | .entryStore _ _ _ _=>5
 | .call c=>(match c.callee with
  | .builtin .append| .builtin .copy| .builtin .delete| .builtin .clear=>2
  | .value _=>6
  |_=>0)
 |_=>0
def fnOne (P:Program) (op:Op):Bool:=
 match op with
 | .buildSlice t len _=>(match Nat.beq len 1 with
  |true=>(match P.underlying t with
   |some (.slice e)=>(match P.underlying e with
    |some (.func _ _ _)=>true
    |_=>false)
   |_=>false)
  |false=>false)
 |_=>false
def rtME (P:Program) (o:Oper):Rt:=
 match o.op with
 | .mapEntry T _ _=>(match P.underlying T with
  |some (.map _ E)=>.tup [vtOf P E,.one (.int .i64)]
  |_=>rtOf P o.type)
 |_=>rtOf P o.type
def effF (P:Program) (cl:FuncId→Bool) (ρ:Env) (o:Oper) (K:Value→World→Prop) (w:World):Prop:=
 match effKind o.op with
 |1=>(match fnOne P o.op with
  |true=>(match o.op with| .buildSlice t len parts=>RunV P (Instr.buildSlice t len (parts.map fun (i,x)=>(i,ρ.ev x))) (rtOf P o.type) K w|_=>False)
  |false=>newF P (execOp ρ.ev o) K w)
 |2=>RunV P (valSem ρ.ev o) (rtME P o) K w
 |3=>(match o.op with| .store T a x=>RunU P (Instr.storeAt T (ρ.ev a) (ρ.ev x)) (K undef) w|_=>False)
 |4=>(match o.op with| .mapUpdate T m k x| .insert T m k x=>RunU P (Instr.mapUpdate T (ρ.ev m) (ρ.ev k) (ρ.ev x)) (K undef) w|_=>False)
 |5=>(match o.op with| .entryStore T m s x=>RunU P (Instr.entryStore T (ρ.ev m) (ρ.ev s) (ρ.ev x)) (K undef) w|_=>False)
 |6=>(match o.op with| .call c=>(match c.callee with| .value f=>calV P cl (ρ.ev f) (c.args.map ρ.ev) (rtOf P o.type) K w|_=>False)|_=>False)
 |7=>(match o.op with| .range T x=>rangeF P T (ρ.ev x) K w|_=>False)
 |8=>(match o.op with| .next it _=>nextF (ρ.ev it) K w|_=>False)
 |9=>(match o.op with| .next it _=>NextM P (Instr.next (ρ.ev it) false o.type) K w|_=>False)
 |_=>rawF P (execOp ρ.ev o) K w
def callable (P:Program) (g:FuncId):Bool:=
 match P.funcs[g]? with
 | some fn => fn.body.isSome && !(fn.name == "runtime.NumGoroutine")
 |none=>false
theorem callFunc_run {P:Program} {g:FuncId} (h:callable P g=true) (args:Array Value) (w:World):(callFunc g args).run P w=.ok (.enter g args) w:=by
 unfold callable at h
 split at h
 ·rename_i fn hf
  simp only [Bool.and_eq_true,Bool.not_eq_true'] at h
  have hb:fn.body.isNone=false:=by cases hb:fn.body<;>simp_all
  simp only [callFunc,Sem.run_bind,run_program,Result.andThen_ok,hf,h.2,hb,Bool.false_eq_true,if_false]
  rfl
 ·simp at h
abbrev After (a:Act) (d:Option Tmp) (K:Value→World→Prop):Act→World→Prop:=fun a' w'=>∃ v,a'=a.put d v∧K v w'
theorem effF_sound {P:Program} {cl:FuncId→Bool} (hcl:∀ g,cl g=true→callable P g=true) {a:Act} {e:Env} {o:Oper} {K:Value→World→Prop} {w:World}
  {Q:Exit→Act→World→Prop} (h:effF P cl e o K w):o.upon P a (After a o.dst K) Q ((execOp e.ev o).run P w):=by
 unfold effF at h
 split at h
 ·split at h
  ·clear hcl
   obtain ⟨dst,op,ty,pos,after,guard⟩:=o
   cases op<;>simp only at h<;>first|exact h.elim|skip
   rename_i t len parts _ _
   obtain ⟨w',h⟩:=h
   obtain ⟨v,hr,hK⟩:=Rt.ex_some h
   have:(execOp e.ev ⟨dst,.buildSlice t len parts,ty,pos,after,guard⟩).run P w=.ok (.value v) w':=by
    simp only [execOp];simp [hr]
   rw [this]
   exact ⟨v,rfl,hK⟩
  unfold newF at h
  split at h
  ·rename_i ob f hn
   unfold New at h
   dsimp only at h
   split at h
   ·rename_i v hv
    rw [newRun_sound hn w hv]
    exact ⟨v,rfl,h⟩
   ·exact h.elim
  ·exact h.elim
 ·rename_i hk
  obtain ⟨w',h⟩:=h
  obtain ⟨v,hr,hK⟩:=Rt.ex_some h
  have hv:valOp o.op=true:=by
   obtain ⟨dst,op,ty,pos,after,guard⟩:=o
   cases op<;>simp [effKind] at hk<;>first|rfl|skip
   case call c=>
    obtain ⟨callee,args,ats⟩:=c
    cases callee<;>simp at hk
    case builtin b=>cases b<;>simp at hk<;>rfl
  rw [valSem_run hv hr]
  exact ⟨v,rfl,hK⟩
 ·rename_i hk
  clear hk
  obtain ⟨dst,op,ty,pos,after,guard⟩:=o
  cases op<;>simp only at h<;>first|exact h.elim|skip
  rename_i T a' x
  obtain ⟨w',hr,hK⟩:=h
  have:(execOp e.ev ⟨dst,.store T a' x,ty,pos,after,guard⟩).run P w=.ok .skip w':=by simp only [execOp];simp [hr]
  rw [this]
  exact ⟨undef,rfl,hK⟩
 ·rename_i hk
  clear hk
  obtain ⟨dst,op,ty,pos,after,guard⟩:=o
  cases op<;>simp only at h<;>first|exact h.elim|skip
  case insert T m k x=>
   obtain ⟨w',hr,hK⟩:=h
   have:(execOp e.ev ⟨dst,.insert T m k x,ty,pos,after,guard⟩).run P w=.ok .skip w':=by simp only [execOp];simp [hr]
   rw [this]
   exact ⟨undef,rfl,hK⟩
  case mapUpdate T m k x=>
   obtain ⟨w',hr,hK⟩:=h
   have:(execOp e.ev ⟨dst,.mapUpdate T m k x,ty,pos,after,guard⟩).run P w=.ok .skip w':=by simp only [execOp];simp [hr]
   rw [this]
   exact ⟨undef,rfl,hK⟩
 ·rename_i hk
  clear hk
  obtain ⟨dst,op,ty,pos,after,guard⟩:=o
  cases op<;>simp only at h<;>first|exact h.elim|skip
  rename_i T m s x
  obtain ⟨w',hr,hK⟩:=h
  have:(execOp e.ev ⟨dst,.entryStore T m s x,ty,pos,after,guard⟩).run P w=.ok .skip w':=by simp only [execOp];simp [hr]
  rw [this]
  exact ⟨undef,rfl,hK⟩
 ·rename_i hk
  clear hk
  obtain ⟨dst,op,ty,pos,after,guard⟩:=o
  cases op<;>simp only at h<;>first|exact h.elim|skip
  case call c=>
   obtain ⟨callee,args,ats⟩:=c
   cases callee<;>simp only at h<;>first|exact h.elim|skip
   case value f=>
    unfold calV CalW at h
    split at h
    case h_2=>exact h.elim
    rename_i fn first captured hf
    split at h
    case h_2=>exact h.elim
    rename_i g
    have hargs:(first++args.map e.ev)++captured=(first.toList++((args.map e.ev).toList++captured.toList)).toArray:=by
     apply Array.ext';simp
    split at h
    case h_2=>
     obtain ⟨v',w',hr,hx⟩:=h
     have:(execOp e.ev ⟨dst,.call ⟨.value f,args,ats⟩,ty,pos,after,guard⟩).run P w=.ok (.value v') w':=by
      simp only [execOp,resolve,hf,Deferred.ofValue]
      simp only [Sem.run_bind,Sem.run_pure,Result.andThen_ok,invoke,←hargs] at hr ⊢
      exact hr
     rw [this]
     obtain ⟨v,hv,hK⟩:=Rt.ex_some hx
     cases hv
     exact ⟨_,rfl,hK⟩
    rename_i hg
    have:(execOp e.ev ⟨dst,.call ⟨.value f,args,ats⟩,ty,pos,after,guard⟩).run P w=.ok (.enter g (first.toList++((args.map e.ev).toList++captured.toList)).toArray) w:=by
     simp only [execOp,resolve,hf,Deferred.ofValue]
     simp only [Sem.run_bind,Sem.run_pure,Result.andThen_ok,invoke,←hargs]
     exact callFunc_run (hcl g hg) _ w
    rw [this]
    refine Calls.mono h ?_
    intro en w' hx
    obtain ⟨v,rfl,hK⟩:=Rt.ex_some hx
    exact ⟨v,rfl,hK⟩
 ·rename_i hk
  clear hk
  obtain ⟨dst,op,ty,pos,after,guard⟩:=o
  cases op<;>simp only at h<;>first|exact h.elim|skip
  obtain ⟨v,w',hr,hK⟩:=rangeF_sound h
  rw [valSem_run (o:=⟨dst,_,ty,pos,after,guard⟩) rfl hr]
  exact ⟨v,rfl,hK⟩
 ·rename_i hk
  obtain ⟨dst,op,ty,pos,after,guard⟩:=o
  cases op<;>simp only at h<;>first|exact h.elim|skip
  rename_i it b
  cases b
  ·simp [effKind] at hk
  obtain ⟨v,w',hr,hK⟩:=nextF_sound (T:=ty) h
  rw [valSem_run (o:=⟨dst,.next it true,ty,pos,after,guard⟩) rfl hr]
  exact ⟨v,rfl,hK⟩
 ·rename_i hk
  obtain ⟨dst,op,ty,pos,after,guard⟩:=o
  cases op<;>simp only at h<;>first|exact h.elim|skip
  rename_i it b
  cases b
  rotate_left
  ·simp [effKind] at hk
  obtain ⟨v,w',hr,hK⟩:=NextM_sound h
  rw [valSem_run (o:=⟨dst,.next it false,ty,pos,after,guard⟩) rfl hr]
  exact ⟨v,rfl,hK⟩
 ·unfold rawF at h
  split at h
  ·rename_i hr;rw [hr];exact ⟨_,rfl,h⟩
  ·rename_i hr;rw [hr];exact ⟨undef,rfl,h⟩
  ·exact h.elim
def opF (P:Program) (cl:FuncId→Bool) (ρ:Env) (o:Oper) (K:Value→World→Prop) (w:World):Prop:=
 match pureKind P o.op with
 |0=>(match readKind P o.op with
  |0=>effF P cl ρ o K w
  |_=>readF P (fun w'=>w'=w) ρ o (fun v=>K v w))
 |_=>pureF P ρ o (fun v=>K v w)
def opOk (P:Program) (op:Op):Bool:=
 match op with
 | .load T _=>ldOk P T
 |op=>tabOk P op
theorem Gives.upon {P:Program} {S:World→Prop} {e:Env} {o:Oper} {K:Value→World→Prop} {a:Act} {w:World} {Q:Exit→Act→World→Prop}
  (hS:S w) (h:Gives P S (execOp e.ev o) (fun v=>K v w)):o.upon P a (After a o.dst K) Q ((execOp e.ev o).run P w):=by
 obtain ⟨v,hv,hK⟩:=h
 rw [hv w hS]
 exact ⟨v,rfl,hK⟩
theorem opOk_tab {P:Program} {op:Op} (h:opOk P op=true):tabOk P op=true:=by
 cases op<;>first|exact h|rfl
theorem opOk_ld {P:Program} {op:Op} (h:opOk P op=true):ldOk' P op=true:=by
 cases op<;>first|exact h|rfl
theorem opF_sound {P:Program} {cl:FuncId→Bool} (hcl:∀ g,cl g=true→callable P g=true) {a:Act} {e:Env} {o:Oper} {K:Value→World→Prop} {w:World}
  {Q:Exit→Act→World→Prop} (hok:opOk P o.op=true) (h:opF P cl e o K w):o.upon P a (After a o.dst K) Q ((execOp e.ev o).run P w):=by
 unfold opF at h
 split at h
 ·split at h
  ·exact effF_sound hcl h
  ·rename_i hk
   exact Gives.upon (S:=fun w'=>w'=w) rfl (readF_sound hk (opOk_ld hok) h)
 ·exact Gives.upon (S:=fun _=>True) trivial (pureF_sound (opOk_tab hok) h)
end Go.VC
/- VC, part 6: regions: a list of operations, in the order of the text or in whatever order the tape draws; the formula is enough. No condition. -/
namespace Go.VC
set_option linter.unusedVariables false
set_option linter.unusedSimpArgs false
section
variable {P:Program} {ops:Array Oper} {Q:Exit→Act→World→Prop} {md:Region.Mode} {S:World→Prop} {need look:Nat→Bool}
def wpT (P:Program) (md:Region.Mode) (ops:Array Oper) (Q:Exit→Act→World→Prop) (S:World→Prop) (need look:Nat→Bool):Nat→Array Bool→Act→World→Prop
 |0,listed,a,w=>Region.ready md ops listed=[]∧Q .normal a w
 |fuel + 1,listed,a,w=>
  (Region.ready md ops listed=[]→Q .normal a w)∧
  ∀ i∈Region.ready md ops listed,wpOp P ops Q i (fun a' w'=>((need i=true→S w')∧(look i=true→w'=w))∧wpT P md ops Q S need look fuel (listed.setIfInBounds i true) a' w') a w
theorem wpT_any:∀ (fuel:Nat) (listed:Array Bool) (a:Act) (w:World),wpT P md ops Q S need look fuel listed a w→wpAny P md ops Q fuel listed a w
 |0,_,_,_,h=>h
 |fuel + 1,_,_,_,h=>⟨h.1,fun i hi=>wpOp_mono (fun a' w' h'=>wpT_any fuel _ a' w' h'.2) (h.2 i hi)⟩
theorem wpT_first {T:World→Prop} {i:Nat} {oi:Oper} {v:Value} (hi:ops[i]? =some oi) (hsel:∀ (j:Nat) (o:Oper) cs b,ops[j]? =some o→o.op≠.select cs b)
  (hQ:∀ c a w,Q (.panic c) (a.put oi.dst v) w→Q (.panic c) a w) (hni:need i=false):
  ∀ (fuel:Nat) (listed:Array Bool) (a:Act) (w:World),
   (∀ j oj,ops[j]? =some oj→j≠i→listed.getD j true=false→(∀ e∈oj.after,Region.binds md e=true→e.on≠i)→
    oi.apart ops oj=true∧∀ w w',T w→(need j=true→S w')→(look j=true→w'=w)→T w')→
   i∈Region.ready md ops listed→YieldsIf P ops T oi v a→T w→
   wpT P md ops Q S need look fuel (listed.setIfInBounds i true) (a.put oi.dst v) w→wpT P md ops Q S need look (fuel + 1) listed a w:=by
 intro fuel
 induction fuel with
 |zero=>
  intro listed a w hfree hr hy hT H
  refine ⟨fun h=>(by rw [h] at hr;cases hr),fun j hj=>?_⟩
  by_cases hji:j=i
  ·subst hji
   exact hy.wpOp hi hT ⟨⟨fun h=>(by rw [hni] at h;cases h),fun _=>rfl⟩,H⟩
  ·have:=ready_mono hj hji
   rw [H.1] at this
   cases this
 |succ fuel ih=>
  intro listed a w hfree hr hy hT H
  refine ⟨fun h=>(by rw [h] at hr;cases hr),fun j hj=>?_⟩
  by_cases hji:j=i
  ·subst hji
   exact hy.wpOp hi hT ⟨⟨fun h=>(by rw [hni] at h;cases h),fun _=>rfl⟩,H⟩
  ·have h1:=H.2 j (ready_mono hj hji)
   obtain ⟨hjun,oj,hoj,hall⟩:=mem_ready.1 hj
   have hnot:∀ e∈oj.after,Region.binds md e=true→e.on≠i:=fun e he hb heq=>by
    have h1:=hall e he hb
    have h0:=(mem_ready.1 hr).1
    rw [heq] at h1
    rcases Nat.lt_or_ge i listed.size with h'|h'
    ·simp [h'] at h0 h1;rw [h0] at h1;cases h1
    ·simp [Array.getElem?_eq_none h'] at h1
   obtain ⟨hap,hkeep⟩:=hfree j oj hoj hji hjun hnot
   have h2:=wpOp_putIf hoj hap (fun cs b=>hsel i oi cs b hi) (fun cs b=>hsel j oj cs b hoj) hQ hy h1
   refine wpOp_mono (fun a' w' h3=>⟨h3.2.1,ih (listed.setIfInBounds j true) a' w' ?_ (ready_mono hr (Ne.symm hji)) h3.1 (hkeep w w' hT h3.2.1.1 h3.2.1.2) ?_⟩) h2
   ·intro k ok hk hki hun hno
    refine hfree k ok hk hki ?_ hno
    by_cases hjk:j=k
    ·subst hjk;exact hjun
    ·rw [getD_set_ne true hjk] at hun;exact hun
   ·rw [Array.setIfInBounds_comm _ _ hji]
    exact h3.2.2
theorem wpT_firstD {T:World→Prop} {D:Nat→Bool} {i:Nat} {oi:Oper} {v:Value} (hi:ops[i]? =some oi) (hsel:∀ (j:Nat) (o:Oper) cs b,ops[j]? =some o→o.op≠.select cs b)
  (hQ:∀ c a w,Q (.panic c) (a.put oi.dst v) w→Q (.panic c) a w) (hni:need i=false)
  (hD:∀ j oj,D j=true→j≠i→ops[j]? =some oj→∃ e∈oj.after,Region.binds md e=true∧D e.on=true):
  ∀ (fuel:Nat) (listed:Array Bool) (a:Act) (w:World),
   (∀ j oj,ops[j]? =some oj→j≠i→listed.getD j true=false→D j=false→(∀ e∈oj.after,Region.binds md e=true→e.on≠i)→
    oi.apart ops oj=true∧∀ w w',T w→(need j=true→S w')→(look j=true→w'=w)→T w')→
   (∀ j,D j=true→listed.getD j true=false)→i∈Region.ready md ops listed→YieldsIf P ops T oi v a→T w→
   wpT P md ops Q S need look fuel (listed.setIfInBounds i true) (a.put oi.dst v) w→wpT P md ops Q S need look (fuel + 1) listed a w:=by
 intro fuel
 induction fuel with
 |zero=>
  intro listed a w hfree hun hr hy hT H
  refine ⟨fun h=>(by rw [h] at hr;cases hr),fun j hj=>?_⟩
  by_cases hji:j=i
  ·subst hji
   exact hy.wpOp hi hT ⟨⟨fun h=>(by rw [hni] at h;cases h),fun _=>rfl⟩,H⟩
  ·have:=ready_mono hj hji
   rw [H.1] at this
   cases this
 |succ fuel ih=>
  intro listed a w hfree hun hr hy hT H
  refine ⟨fun h=>(by rw [h] at hr;cases hr),fun j hj=>?_⟩
  by_cases hji:j=i
  ·subst hji
   exact hy.wpOp hi hT ⟨⟨fun h=>(by rw [hni] at h;cases h),fun _=>rfl⟩,H⟩
  ·have h1:=H.2 j (ready_mono hj hji)
   obtain ⟨hjun,oj,hoj,hall⟩:=mem_ready.1 hj
   have hnot:∀ e∈oj.after,Region.binds md e=true→e.on≠i:=fun e he hb heq=>by
    have h1:=hall e he hb
    have h0:=(mem_ready.1 hr).1
    rw [heq] at h1
    rcases Nat.lt_or_ge i listed.size with h'|h'
    ·simp [h'] at h0 h1;rw [h0] at h1;cases h1
    ·simp [Array.getElem?_eq_none h'] at h1
   have hDj:D j=false:=by
    cases hd:D j with
    |false=>rfl
    |true=>
     obtain ⟨e,he,hb,hde⟩:=hD j oj hd hji hoj
     have h1:=hall e he hb
     have h0:=hun e.on hde
     rcases Nat.lt_or_ge e.on listed.size with h'|h'
     ·simp [h'] at h0 h1;rw [h0] at h1;cases h1
     ·simp [Array.getElem?_eq_none h'] at h1
   obtain ⟨hap,hkeep⟩:=hfree j oj hoj hji hjun hDj hnot
   have h2:=wpOp_putIf hoj hap (fun cs b=>hsel i oi cs b hi) (fun cs b=>hsel j oj cs b hoj) hQ hy h1
   refine wpOp_mono (fun a' w' h3=>⟨h3.2.1,ih (listed.setIfInBounds j true) a' w' ?_ ?_ (ready_mono hr (Ne.symm hji)) h3.1 (hkeep w w' hT h3.2.1.1 h3.2.1.2) ?_⟩) h2
   ·intro k ok hk hki hun hdk hno
    refine hfree k ok hk hki ?_ hdk hno
    by_cases hjk:j=k
    ·subst hjk;exact hjun
    ·rw [getD_set_ne true hjk] at hun;exact hun
   ·intro k hdk
    have hjk:j≠k:=fun h=>by rw [h,hdk] at hDj;cases hDj
    rw [getD_set_ne true hjk]
    exact hun k hdk
   ·rw [Array.setIfInBounds_comm _ _ hji]
    exact h3.2.2
end
def guardF (ops:Array Oper) (ρ:Env) (o:Oper) (run skip:Env→Prop):Prop:=
 match o.guard with
 |none=>run ρ
 |some (j,want)=>(match (ops[j]?).bind (·.dst) with
  |none=>skip ρ
  |some d=>(match ρ d with
   | .bool b=>(match want with
    |true=>Br b (run (ρ.set d (.bool true))) (skip (ρ.set d (.bool false)))
    |false=>Br b (skip (ρ.set d (.bool true))) (run (ρ.set d (.bool false))))
   |_=>skip ρ))
def extOf (d k:Nat):List Oper→Option TypeId
 |[]=>none
 |o::os=>match o.op with
  | .extract x j=>(match x with
   | .tmp t=>(match Nat.beq t d && Nat.beq j k with
    |true=>some o.type
    |false=>extOf d k os)
   |_=>extOf d k os)
  |_=>extOf d k os
def vtE (P:Program) (t:Option TypeId):Vt:=match t with|some t=>vtOf P t|none=>.one .any
def isEntry (op:Op):Bool:=match op with| .entry _=>true|_=>false
def entF (P:Program) (S:World→Prop) (ops:Array Oper) (ρ:Env) (o:Oper) (K:Value→Prop):Prop:=
 match o.op with
 | .entry x=>(match o.dst with
  |some d=>Giv P S (Instr.entry (ρ.ev x)) (.tup [vtE P (extOf d 0 ops.toList),vtE P (extOf d 1 ops.toList)]) K
  |none=>False)
 |_=>False
def opE (P:Program) (cl:FuncId→Bool) (ops:Array Oper) (ρ:Env) (o:Oper) (K:Value→World→Prop) (w:World):Prop:=
 match isEntry o.op with
 |true=>entF P (fun w'=>w'=w) ops ρ o (fun v=>K v w)
 |false=>opF P cl ρ o K w
def opsF (P:Program) (cl:FuncId→Bool) (ops:Array Oper):List Oper→Env→(Env→World→Prop)→World→Prop
 |[],ρ,K,w=>K ρ w
 |o::rest,ρ,K,w=>guardF ops ρ o
   (fun ρ=>opE P cl ops ρ o (fun v w=>opsF P cl ops rest (ρ.put o.dst v) K w) w)
   (fun ρ=>opsF P cl ops rest (ρ.put o.dst undef) K w)
def isRead (P:Program) (op:Op):Bool:=match pureKind P op with|0=>(match readKind P op with|0=>false|_=>true)|_=>false
def isPure (P:Program) (op:Op):Bool:=match pureKind P op with|0=>false|_=>true
def needs (P:Program) (ops:Array Oper) (j:Nat):Bool:=
 match ops[j]? with
 |none=>false
 |some oj=>!isRead P oj.op && !isPure P oj.op && (List.range ops.size).any fun i=>match ops[i]? with
  |some oi=>isRead P oi.op && !oj.after.any (fun e=>Region.binds .any e && Nat.beq e.on i)
  |none=>false
def seeF (P:Program) (S:World→Prop) (hs:Bool) (ρ:Env) (o:Oper) (K:Value→Prop):Prop:=
 match isPure P o.op with
 |true=>pureF P ρ o K
 |false=>(match hs with
  |true=>readF P S ρ o K
  |false=>False)
def seeE (P:Program) (ops:Array Oper) (S:World→Prop) (hs:Bool) (ρ:Env) (o:Oper) (K:Value→Prop):Prop:=
 match isEntry o.op with
 |true=>(match hs with
  |true=>entF P S ops ρ o K
  |false=>False)
 |false=>seeF P S hs ρ o K
def pickF (P:Program) (ops:Array Oper) (listed:Array Bool):List Nat→Option Nat
 |[]=>none
 |i::is=>match ops[i]? with
  |some o=>(match isPure P o.op||isRead P o.op with
   |true=>(match Region.free .any ops listed i with
    |true=>some i
    |false=>pickF P ops listed is)
   |false=>pickF P ops listed is)
  |none=>pickF P ops listed is
def allF (f:Nat→Prop):List Nat→Prop
 |[]=>True
 |[i]=>f i
 |i::is=>f i∧allF f is
def behB (ops:Array Oper) (listed:Array Bool) (i:Nat):Nat→Nat→Bool
 |0,j=>Nat.beq j i
 |n + 1,j=>Nat.beq j i||(!listed.getD j true && match ops[j]? with
  |some oj=>oj.after.any (fun e=>Region.binds .any e && behB ops listed i n e.on)
  |none=>false)
def exactB (P:Program) (ops:Array Oper) (listed:Array Bool) (i:Nat):Bool:=(List.range ops.size).all fun j=>listed.getD j true||(behB ops listed i 8 j||match ops[j]? with
 |some oj=>(isPure P oj.op||isRead P oj.op)
 |none=>true)
def anyF (P:Program) (cl:FuncId→Bool) (ops:Array Oper) (S:World→Prop) (ex:Bool):Nat→Bool→Array Bool→Env→(Env→World→Prop)→World→Prop
 |0,_,listed,ρ,K,w=>(match Region.ready .any ops listed with
  |[]=>K ρ w
  |_=>False)
 |fuel + 1,hs,listed,ρ,K,w=>(match Region.ready .any ops listed with
  |[]=>K ρ w
  |r::rs=>(match pickF P ops listed (r::rs) with
   |some i=>(match ops[i]? with
    |some o=>guardF ops ρ o
      (fun ρ=>(match ex && exactB P ops listed i with
       |true=>seeE P ops (fun w'=>w'=w) true ρ o fun v=>anyF P cl ops S ex fuel hs (listed.setIfInBounds i true) (ρ.put o.dst v) K w
       |false=>seeE P ops S hs ρ o fun v=>anyF P cl ops S ex fuel hs (listed.setIfInBounds i true) (ρ.put o.dst v) K w))
      (fun ρ=>anyF P cl ops S ex fuel hs (listed.setIfInBounds i true) (ρ.put o.dst undef) K w)
    |none=>False)
   |none=>allF (fun i=>match ops[i]? with
    |some o=>guardF ops ρ o
      (fun ρ=>(match isPure P o.op||isRead P o.op with
       |true=>False
       |false=>match needs P ops i with
       |true=>opF P cl ρ o (fun v w=>S w∧anyF P cl ops S ex fuel hs (listed.setIfInBounds i true) (ρ.put o.dst v) K w) w
       |false=>opF P cl ρ o (fun v w=>anyF P cl ops S ex fuel false (listed.setIfInBounds i true) (ρ.put o.dst v) K w) w))
      (fun ρ=>(match isPure P o.op||isRead P o.op with
       |true=>False
       |false=>match needs P ops i with
       |true=>(match hs with
        |true=>anyF P cl ops S ex fuel true (listed.setIfInBounds i true) (ρ.put o.dst undef) K w
        |false=>False)
       |false=>anyF P cl ops S ex fuel false (listed.setIfInBounds i true) (ρ.put o.dst undef) K w))
    |none=>False) (r::rs)))
def Drw (w:World) (F:(World→Prop)→World→Prop):Prop:=∃ S0 S:World→Prop,S0 w.drew∧∀ w',S0 w'→S w'∧F S w'
def _root_.Go.Act.env (a:Act):Env:=fun i=>a.tmps.getD i undef
theorem env_ev (a:Act):a.env.ev=a.eval:=by funext x;cases x<;>rfl
theorem env_put {a:Act} {d:Option Tmp} {v:Value} (h:∀ x,d=some x→x<a.tmps.size):(a.put d v).env=a.env.put d v:=by
 cases d with
 |none=>rfl
 |some d=>
  have hd:=h d rfl
  funext i
  simp only [Act.env,Act.put,Env.put,Env.set]
  by_cases hi:i=d
  ·subst hi;simp [hd]
  ·have:Nat.beq i d=false:=by
    cases hb:Nat.beq i d with
    |false=>rfl
    |true=>exact absurd (Nat.eq_of_beq_eq_true hb) hi
   simp [this,Array.getElem?_setIfInBounds_ne (Ne.symm hi)]
theorem env_set_same {ρ:Env} {d:Nat} {v:Value} (h:ρ d=v):ρ.set d v=ρ:=by
 funext i
 simp only [Env.set]
 split
 ·rename_i hb;rw [Nat.eq_of_beq_eq_true hb,h]
 ·rfl
theorem put_size (a:Act) (d:Option Tmp) (v:Value):(a.put d v).tmps.size=a.tmps.size:=by
 cases d<;>simp [Act.put]
theorem put_defers (a:Act) (d:Option Tmp) (v:Value):(a.put d v).defers=a.defers:=by
 cases d<;>rfl
structure Kept (n:Nat) (pw:Nat→Bool) (a0:Env) (a:Act):Prop where
 size:a.tmps.size=n
 defers:a.defers=[]
 same:∀ i,pw i=false→a.env i=a0 i
def dstIn (n:Nat) (pw:Nat→Bool) (o:Oper):Bool:=match o.dst with|some d=>Nat.blt d n && pw d|none=>true
theorem Kept.put {n:Nat} {pw:Nat→Bool} {a0:Env} {a:Act} (h:Kept n pw a0 a) {o:Oper} (ho:dstIn n pw o=true) (v:Value):Kept n pw a0 (a.put o.dst v):=by
 refine ⟨by rw [put_size];exact h.size,by rw [put_defers];exact h.defers,fun i hi=>?_⟩
 unfold dstIn at ho
 have hd:∀ x,o.dst=some x→x<a.tmps.size:=fun x hx=>by
  rw [hx] at ho;simp only [Bool.and_eq_true] at ho;rw [h.size];exact Nat.blt_eq.mp ho.1
 rw [env_put hd]
 cases hx:o.dst with
 |none=>exact h.same i hi
 |some d=>
  rw [hx] at ho;simp only [Bool.and_eq_true] at ho
  simp only [Env.put,Env.set]
  split
  ·rename_i hb;have:=Nat.eq_of_beq_eq_true hb;subst this;rw [hi] at ho;simp at ho
  ·exact h.same i hi
theorem Kept.envput {n:Nat} {pw:Nat→Bool} {a0:Env} {a:Act} (h:Kept n pw a0 a) {o:Oper} (ho:dstIn n pw o=true) (v:Value):(a.put o.dst v).env=a.env.put o.dst v:=by
 refine env_put fun x hx=>?_
 unfold dstIn at ho
 rw [hx] at ho;simp only [Bool.and_eq_true] at ho;rw [h.size];exact Nat.blt_eq.mp ho.1
theorem yielded_env (ops:Array Oper) (a:Act) (j:Nat):yielded ops a.tmps j=match (ops[j]?).bind (·.dst) with
  |none=>none
  |some d=>match a.env d with| .bool b=>some b|_=>none:=by
 unfold yielded
 cases (ops[j]?).bind (·.dst) with
 |none=>rfl
 |some d=>
  simp only [Option.bind_some,Act.env,Array.getD_eq_getD_getElem?]
  cases a.tmps[d]? with
  |none=>simp [undef]
  |some v=>cases v<;>rfl
theorem guardF_sound {ops:Array Oper} {a:Act} {o:Oper} {run skip:Env→Prop} (h:guardF ops a.env o run skip):
  (Region.wanted o (yielded ops a.tmps)=true∧run a.env)∨(Region.wanted o (yielded ops a.tmps)=false∧skip a.env):=by
 unfold guardF at h
 unfold Region.wanted
 split at h
 ·rename_i hg;rw [hg];exact .inl ⟨rfl,h⟩
 ·rename_i j want hg
  rw [hg]
  simp only [yielded_env]
  split at h
  ·exact .inr ⟨rfl,h⟩
  ·rename_i d hd
   split at h
   ·rename_i b hb
    cases b with
    |true=>
     rw [env_set_same hb] at h
     cases want with
     |true=>exact .inl ⟨rfl,h⟩
     |false=>exact .inr ⟨rfl,h⟩
    |false=>
     rw [env_set_same hb] at h
     cases want with
     |true=>exact .inr ⟨rfl,h⟩
     |false=>exact .inl ⟨rfl,h⟩
   ·rename_i hb
    refine .inr ⟨?_,h⟩
    cases hv:a.env d<;>first|rfl|exact absurd hv (hb _)
theorem entF_sound {P:Program} {S:World→Prop} {ops:Array Oper} {e:Env} {o:Oper} {K:Value→Prop} (h:entF P S ops e o K):Gives P S (execOp e.ev o) K:=by
 unfold entF at h
 split at h
 case h_2=>exact h.elim
 rename_i x hop
 split at h
 case h_2=>exact h.elim
 obtain ⟨v,hv,hK⟩:=Rt.ex_some h
 obtain ⟨dst,op,ty,pos,after,guard⟩:=o
 simp only at hop
 subst hop
 exact ⟨v,fun w hw=>valSem_run rfl (hv w hw),hK⟩
theorem opE_sound {P:Program} {cl:FuncId→Bool} {ops:Array Oper} (hcl:∀ g,cl g=true→callable P g=true) {a:Act} {e:Env} {o:Oper} {K:Value→World→Prop} {w:World}
  {Q:Exit→Act→World→Prop} (hok:opOk P o.op=true) (h:opE P cl ops e o K w):o.upon P a (After a o.dst K) Q ((execOp e.ev o).run P w):=by
 unfold opE at h
 split at h
 ·exact Gives.upon (S:=fun w'=>w'=w) rfl (entF_sound h)
 ·exact opF_sound hcl hok h
section
variable {P:Program} {cl:FuncId→Bool} {ops:Array Oper} {Q:Exit→Act→World→Prop} {n:Nat} {pw:Nat→Bool} {a0:Env}
theorem opsF_sound (hcl:∀ g,cl g=true→callable P g=true) {K:Env→World→Prop}
  (hQ:∀ a w,Kept n pw a0 a→K a.env w→Q .normal a w):∀ (l:List Oper) (_:∀ o∈l,opOk P o.op=true∧dstIn n pw o=true) (a:Act) (w:World),
   Kept n pw a0 a→opsF P cl ops l a.env K w→wpList P ops Q l a w
 |[],_,a,w,hk,h=>hQ a w hk h
 |o::rest,hl,a,w,hk,h=>by
  have ho:=hl o (List.mem_cons_self ..)
  have hrest:=fun x hx=>hl x (List.mem_cons_of_mem _ hx)
  unfold opsF at h
  unfold wpList
  rcases guardF_sound h with ⟨hw,h⟩|⟨hw,h⟩
  ·rw [if_pos hw]
   refine .inl ?_
   have:=opE_sound hcl (a:=a) (Q:=Q) ho.1 h
   rw [env_ev] at this
   unfold Oper.wp
   refine upon_mono ?_ this
   rintro a' w' ⟨v,rfl,hv⟩
   refine opsF_sound hcl hQ rest hrest _ w' (hk.put ho.2 v) ?_
   rw [hk.envput ho.2];exact hv
  ·rw [hw]
   simp only [Bool.false_eq_true,if_false]
   refine opsF_sound hcl hQ rest hrest _ w (hk.put ho.2 _) ?_
   rw [hk.envput ho.2];exact h
where
 upon_mono {o:Oper} {a:Act} {K K':Act→World→Prop} {r:Result Next} (h:∀ a w,K a w→K' a w) (hh:o.upon P a K Q r):o.upon P a K' Q r:=by
  cases r with
  |ok x w'=>
   cases x<;>simp only [Oper.upon] at hh ⊢<;>
    first
     |exact h _ _ hh
     |exact Calls.mono hh (fun e w'' he=>by cases e<;>first|exact h _ _ he|exact he)
     |exact Rows.mono hh (fun _ _ he=>h _ _ he)
  |halt x w'=>cases x<;>simp only [Oper.upon] at hh ⊢<;>exact hh
theorem seeF_sound {S:World→Prop} {hs:Bool} {e:Env} {o:Oper} {K:Value→Prop} (hok:opOk P o.op=true) (hr:(isPure P o.op||isRead P o.op)=true) (h:seeF P S hs e o K):
  (isPure P o.op=true∧Gives P (fun _=>True) (execOp e.ev o) K)∨(isPure P o.op=false∧hs=true∧Gives P S (execOp e.ev o) K):=by
 unfold seeF at h
 split at h
 ·rename_i hp;exact .inl ⟨hp,pureF_sound (opOk_tab hok) h⟩
 ·rename_i hp
  split at h
  ·refine .inr ⟨hp,rfl,readF_sound ?_ (opOk_ld hok) h⟩
   rw [hp] at hr
   simp only [Bool.false_or] at hr
   unfold isRead at hr
   intro hk
   rw [hk] at hr
   split at hr<;>simp at hr
  ·exact h.elim
theorem seeE_sound {ops:Array Oper} {S:World→Prop} {hs:Bool} {e:Env} {o:Oper} {K:Value→Prop} (hok:opOk P o.op=true) (hr:(isPure P o.op||isRead P o.op)=true) (h:seeE P ops S hs e o K):
  (isPure P o.op=true∧Gives P (fun _=>True) (execOp e.ev o) K)∨(isPure P o.op=false∧hs=true∧Gives P S (execOp e.ev o) K):=by
 unfold seeE at h
 split at h
 ·rename_i he
  split at h
  ·refine .inr ⟨?_,rfl,entF_sound h⟩
   unfold isEntry at he
   split at he
   ·rename_i hop
    rw [hop];rfl
   ·cases he
  ·exact h.elim
 ·exact seeF_sound hok hr h
theorem pickF_some {listed:Array Bool}:∀ {l:List Nat} {i:Nat},pickF P ops listed l=some i→i∈l∧∃ o,ops[i]? =some o∧(isPure P o.op||isRead P o.op)=true∧Region.free .any ops listed i=true
 |[],_,h=>by cases h
 |j::l,i,h=>by
  unfold pickF at h
  split at h
  ·rename_i o ho
   split at h
   ·rename_i hp
    split at h
    ·rename_i hf
     cases h
     exact ⟨List.mem_cons_self ..,o,ho,hp,hf⟩
    ·have:=pickF_some h;exact ⟨List.mem_cons_of_mem _ this.1,this.2⟩
   ·have:=pickF_some h;exact ⟨List.mem_cons_of_mem _ this.1,this.2⟩
  ·have:=pickF_some h;exact ⟨List.mem_cons_of_mem _ this.1,this.2⟩
theorem allF_mem {f:Nat→Prop}:∀ {l:List Nat},allF f l→∀ i∈l,f i
 |[],_,i,hi=>by cases hi
 |[j],h,i,hi=>by simp at hi;subst hi;exact h
 |j::k::l,h,i,hi=>by
  rcases List.mem_cons.1 hi with rfl|hi
  ·exact h.1
  ·exact allF_mem h.2 i hi
theorem behB_up {listed:Array Bool} {i:Nat}:∀ (n j:Nat),behB ops listed i n j=true→behB ops listed i (n + 1) j=true
 |0,j,h=>by
  unfold behB at h
  unfold behB
  rw [h];rfl
 |n + 1,j,h=>by
  unfold behB at h
  unfold behB
  rcases Bool.or_eq_true _ _|>.mp h with h1|h1
  ·rw [h1];rfl
  ·rw [Bool.and_eq_true] at h1
   obtain ⟨h2,h3⟩:=h1
   rw [h2]
   split at h3
   ·rename_i oj ho
    obtain ⟨e,he,hb⟩:=Array.any_eq_true'.1 h3
    rw [Bool.and_eq_true] at hb
    have:oj.after.any (fun e=>Region.binds .any e && behB ops listed i (n + 1) e.on)=true:=Array.any_eq_true'.2 ⟨e,he,by rw [hb.1,behB_up n e.on hb.2];rfl⟩
    rw [this];simp
   ·cases h3
theorem behB_un {listed:Array Bool} {i:Nat} (hi:listed.getD i true=false):∀ (n j:Nat),behB ops listed i n j=true→listed.getD j true=false
 |0,j,h=>by unfold behB at h;rw [Nat.eq_of_beq_eq_true h];exact hi
 |n + 1,j,h=>by
  unfold behB at h
  rcases Bool.or_eq_true _ _|>.mp h with h1|h1
  ·rw [Nat.eq_of_beq_eq_true h1];exact hi
  ·rw [Bool.and_eq_true] at h1
   simpa using h1.1
theorem behB_edge {listed:Array Bool} {i j:Nat} {oj:Oper}:∀ (n:Nat),behB ops listed i n j=true→j≠i→ops[j]? =some oj→∃ e∈oj.after,Region.binds .any e=true∧behB ops listed i n e.on=true
 |0,h,hji,_=>by unfold behB at h;exact absurd (Nat.eq_of_beq_eq_true h) hji
 |n + 1,h,hji,ho=>by
  unfold behB at h
  rcases Bool.or_eq_true _ _|>.mp h with h1|h1
  ·exact absurd (Nat.eq_of_beq_eq_true h1) hji
  ·rw [Bool.and_eq_true,ho] at h1
   obtain ⟨e,he,hb⟩:=Array.any_eq_true'.1 h1.2
   rw [Bool.and_eq_true] at hb
   exact ⟨e,he,hb.1,behB_up n e.on hb.2⟩
theorem exactB_out {listed:Array Bool} {i j:Nat} {oj:Oper} (h:exactB P ops listed i=true) (hj:ops[j]? =some oj) (hun:listed.getD j true=false) (hno:behB ops listed i 8 j=false):(isPure P oj.op||isRead P oj.op)=true:=by
 unfold exactB at h
 have h1:=List.all_eq_true.1 h j (List.mem_range.2 (Array.getElem?_eq_some_iff.1 hj).1)
 rw [hun,hj,hno] at h1
 simpa using h1
theorem needs_of {i j:Nat} {oi oj:Oper} (hi:ops[i]? =some oi) (hj:ops[j]? =some oj) (hri:isRead P oi.op=true)
  (hjr:(isPure P oj.op||isRead P oj.op)=false) (hno:∀ e∈oj.after,Region.binds .any e=true→e.on≠i):needs P ops j=true:=by
 unfold needs
 rw [hj]
 simp only [Bool.or_eq_false_iff] at hjr
 simp only [hjr.1,hjr.2,Bool.not_false,Bool.true_and,List.any_eq_true,List.mem_range]
 refine ⟨i,(Array.getElem?_eq_some_iff.1 hi).1,?_⟩
 rw [hi]
 simp only [hri,Bool.true_and,Bool.not_eq_true']
 rw [←Bool.not_eq_true,Array.any_eq_true']
 rintro ⟨e,he,hb⟩
 simp only [Bool.and_eq_true] at hb
 exact hno e he hb.1 (Nat.eq_of_beq_eq_true hb.2)
theorem wpOp_of {i:Nat} {o:Oper} {a:Act} {w:World} {K:Act→World→Prop} (hi:ops[i]? =some o)
  (h:(Region.wanted o (yielded ops a.tmps)=true∧o.upon P a K Q ((execOp a.eval o).run P w))∨(Region.wanted o (yielded ops a.tmps)=false∧K (a.put o.dst undef) w)):wpOp P ops Q i K a w:=by
 unfold wpOp
 rw [hi]
 rcases h with ⟨hw,h⟩|⟨hw,h⟩
 ·simp only [hw,if_true];exact .inl h
 ·simp only [hw,Bool.false_eq_true,if_false];exact h
def looks (P:Program) (ops:Array Oper) (j:Nat):Bool:=match ops[j]? with|some o=>isPure P o.op||isRead P o.op|none=>false
theorem anyF_sound (hcl:∀ g,cl g=true→callable P g=true) (hsel:Region.noSelect ops=true) {K:Env→World→Prop} {S:World→Prop} {ex:Bool}
  (hQ:∀ a w,Kept n pw a0 a→K a.env w→Q .normal a w) (hQp:∀ c a w,¬ Q (.panic c) a w) (hops:∀ (i:Nat) (o:Oper),ops[i]? =some o→opOk P o.op=true∧dstIn n pw o=true):
  ∀ (fuel:Nat) (hs:Bool) (listed:Array Bool) (a:Act) (w:World),Kept n pw a0 a→(hs=true→S w)→anyF P cl ops S ex fuel hs listed a.env K w→
   wpT P .any ops Q S (needs P ops) (looks P ops) fuel listed a w:=by
 intro fuel
 induction fuel with
 |zero=>
  intro hs listed a w hk hS h
  unfold anyF at h
  split at h
  ·rename_i hr;exact ⟨hr,hQ a w hk h⟩
  ·exact h.elim
 |succ fuel ih=>
  intro hs listed a w hk hS h
  unfold anyF at h
  split at h
  ·rename_i hr
   exact ⟨fun _=>hQ a w hk h,fun i hi=>by rw [hr] at hi;cases hi⟩
  ·rename_i r rs hr
   split at h
   ·rename_i i hp
    obtain ⟨hmem,o,ho,hpr,hfree⟩:=pickF_some hp
    rw [ho] at h
    simp only at h
    obtain ⟨hok,hd⟩:=hops i o ho
    have hni:needs P ops i=false:=by
     unfold needs;rw [ho]
     simp only
     rcases Bool.or_eq_true _ _|>.mp hpr with hp|hp<;>simp [hp]
    have hrdy:i∈Region.ready .any ops listed:=by rw [hr];exact hmem
    have hfs:=Region.free_spec (md:=.any) ho hfree
    have hself:=Region.noSelect_spec hsel
    rcases guardF_sound h with ⟨hw,h⟩|⟨hw,h⟩
    ·cases hex:(ex && exactB P ops listed i) with
     |true=>
      rw [hex] at h
      have hx:exactB P ops listed i=true:=by rw [Bool.and_eq_true] at hex;exact hex.2
      rcases seeE_sound hok hpr h with ⟨hp,v,hv,hK⟩|⟨hp,hhs,v,hv,hK⟩
      ·refine wpT_first (T:=fun _=>True) ho hself (fun c a w hc=>absurd hc (hQp c _ w)) hni fuel listed a w (fun j oj hj hne hun hno=>⟨hfs j oj hj hne hun hno,fun _ _ _ _ _=>trivial⟩) hrdy (.inl ⟨hw,?_⟩) trivial
        (ih hs (listed.setIfInBounds i true) (a.put o.dst v) w (hk.put hd v) hS ?_)
       ·rw [←env_ev];exact hv
       ·rw [hk.envput hd];exact hK
      ·have hun0:listed.getD i true=false:=(mem_ready.1 hrdy).1
       refine wpT_firstD (T:=fun w'=>w'=w) (D:=behB ops listed i 8) ho hself (fun c a w hc=>absurd hc (hQp c _ w)) hni (fun j oj hd hji hj=>behB_edge 8 hd hji hj) fuel listed a w (fun j oj hj hne hun hdj hno=>⟨hfs j oj hj hne hun hno,fun w1 w2 hw1 hneed hlook=>?_⟩) (fun j hd=>behB_un hun0 8 j hd) hrdy (.inl ⟨hw,?_⟩) rfl
        (ih hs (listed.setIfInBounds i true) (a.put o.dst v) w (hk.put hd v) hS ?_)
       ·have:=hlook (by unfold looks;rw [hj];exact exactB_out hx hj hun hdj)
        rw [this];exact hw1
       ·rw [←env_ev];exact hv
       ·rw [hk.envput hd];exact hK
     |false=>
     rw [hex] at h
     rcases seeE_sound hok hpr h with ⟨hp,v,hv,hK⟩|⟨hp,hhs,v,hv,hK⟩
     ·refine wpT_first (T:=fun _=>True) ho hself (fun c a w hc=>absurd hc (hQp c _ w)) hni fuel listed a w (fun j oj hj hne hun hno=>⟨hfs j oj hj hne hun hno,fun _ _ _ _ _=>trivial⟩) hrdy (.inl ⟨hw,?_⟩) trivial
       (ih hs (listed.setIfInBounds i true) (a.put o.dst v) w (hk.put hd v) hS ?_)
      ·rw [←env_ev];exact hv
      ·rw [hk.envput hd];exact hK
     ·have hri:isRead P o.op=true:=by rw [hp] at hpr;simpa using hpr
      refine wpT_first (T:=S) ho hself (fun c a w hc=>absurd hc (hQp c _ w)) hni fuel listed a w (fun j oj hj hne hun hno=>⟨hfs j oj hj hne hun hno,fun w w' hw hneed hlook=>?_⟩) hrdy (.inl ⟨hw,?_⟩) (hS hhs)
       (ih hs (listed.setIfInBounds i true) (a.put o.dst v) w (hk.put hd v) hS ?_)
      ·cases hl:(isPure P oj.op||isRead P oj.op) with
       |true=>have:=hlook (by unfold looks;rw [hj];exact hl);rw [this];exact hw
       |false=>exact hneed (needs_of ho hj hri hl hno)
      ·rw [←env_ev];exact hv
      ·rw [hk.envput hd];exact hK
    ·refine wpT_first (T:=fun _=>True) ho hself (fun c a w hc=>absurd hc (hQp c _ w)) hni fuel listed a w (fun j oj hj hne hun hno=>⟨hfs j oj hj hne hun hno,fun _ _ _ _ _=>trivial⟩) hrdy (.inr ⟨hw,rfl⟩) trivial
       (ih hs (listed.setIfInBounds i true) (a.put o.dst undef) w (hk.put hd _) hS ?_)
     rw [hk.envput hd];exact h
   ·refine ⟨fun h0=>absurd (hr ▸ h0) (by simp),fun i hi=>?_⟩
    rw [hr] at hi
    have h:=allF_mem h i hi
    split at h
    case h_2=>exact h.elim
    rename_i o ho
    obtain ⟨hok,hd⟩:=hops i o ho
    refine wpOp_of ho ?_
    rcases guardF_sound h with ⟨hw,h⟩|⟨hw,h⟩
    ·refine .inl ⟨hw,?_⟩
     split at h
     ·exact h.elim
     ·rename_i hl
      have hlk:looks P ops i=false:=by unfold looks;rw [ho];exact hl
      split at h
      ·rename_i hnd
       have:=opF_sound hcl (a:=a) (Q:=Q) hok h
       rw [env_ev] at this
       refine opsF_sound.upon_mono ?_ this
       rintro a' w' ⟨v,rfl,hSw,hK⟩
       refine ⟨⟨fun _=>hSw,fun hh=>(by rw [hlk] at hh;cases hh)⟩,ih hs _ _ w' (hk.put hd v) (fun _=>hSw) ?_⟩
       rw [hk.envput hd];exact hK
      ·rename_i hnd
       have:=opF_sound hcl (a:=a) (Q:=Q) hok h
       rw [env_ev] at this
       refine opsF_sound.upon_mono ?_ this
       rintro a' w' ⟨v,rfl,hK⟩
       refine ⟨⟨fun hh=>(by rw [hnd] at hh;cases hh),fun hh=>(by rw [hlk] at hh;cases hh)⟩,ih false _ _ w' (hk.put hd v) (fun hh=>by cases hh) ?_⟩
       rw [hk.envput hd];exact hK
    ·refine .inr ⟨hw,?_⟩
     split at h
     ·exact h.elim
     ·rename_i hl
      have hlk:looks P ops i=false:=by unfold looks;rw [ho];exact hl
      split at h
      ·split at h
       ·have hSw:=hS rfl
        refine ⟨⟨fun _=>hSw,fun _=>rfl⟩,ih true _ _ w (hk.put hd _) (fun _=>hSw) ?_⟩
        rw [hk.envput hd];exact h
       ·exact h.elim
      ·rename_i hnd
       refine ⟨⟨fun hh=>(by rw [hnd] at hh;cases hh),fun _=>rfl⟩,ih false _ _ w (hk.put hd _) (fun hh=>by cases hh) ?_⟩
       rw [hk.envput hd];exact h
end
end Go.VC
/- Regions that draw their order, in which what a call has made is read: such reads in each order, of the world as it is. No condition. -/
namespace Go.VC
set_option linter.unusedVariables false
set_option linter.unusedSimpArgs false
def lateB (P:Program) (ops:Array Oper):Nat→Nat→Bool
 |0,_=>false
 |n + 1,i=>match ops[i]? with
  |some oi=>oi.after.any (fun e=>Region.binds .any e && match ops[e.on]? with
   |some ok=>(match isPure P ok.op with
    |true=>lateB P ops n e.on
    |false=>!isRead P ok.op)
   |none=>false)
  |none=>false
def pickG (P:Program) (ops:Array Oper) (listed:Array Bool):List Nat→Option Nat
 |[]=>none
 |i::is=>match ops[i]? with
  |some o=>(match isPure P o.op||isRead P o.op with
   |true=>(match Region.free .any ops listed i && !(isRead P o.op && lateB P ops 8 i) with
    |true=>some i
    |false=>pickG P ops listed is)
   |false=>pickG P ops listed is)
  |none=>pickG P ops listed is
def anyG (P:Program) (cl:FuncId→Bool) (ops:Array Oper) (S:World→Prop):Nat→Bool→Array Bool→Env→(Env→World→Prop)→World→Prop
 |0,_,listed,ρ,K,w=>(match Region.ready .any ops listed with
  |[]=>K ρ w
  |_=>False)
 |fuel + 1,hs,listed,ρ,K,w=>(match Region.ready .any ops listed with
  |[]=>K ρ w
  |r::rs=>(match pickG P ops listed (r::rs) with
   |some i=>(match ops[i]? with
    |some o=>guardF ops ρ o
      (fun ρ=>(match exactB P ops listed i with
       |true=>seeE P ops (fun w'=>w'=w) true ρ o fun v=>anyG P cl ops S fuel hs (listed.setIfInBounds i true) (ρ.put o.dst v) K w
       |false=>seeE P ops S hs ρ o fun v=>anyG P cl ops S fuel hs (listed.setIfInBounds i true) (ρ.put o.dst v) K w))
      (fun ρ=>anyG P cl ops S fuel hs (listed.setIfInBounds i true) (ρ.put o.dst undef) K w)
    |none=>False)
   |none=>allF (fun i=>match ops[i]? with
    |some o=>guardF ops ρ o
      (fun ρ=>(match isPure P o.op||isRead P o.op with
       |true=>seeE P ops (fun w'=>w'=w) true ρ o fun v=>anyG P cl ops S fuel hs (listed.setIfInBounds i true) (ρ.put o.dst v) K w
       |false=>match needs P ops i with
       |true=>opF P cl ρ o (fun v w=>S w∧anyG P cl ops S fuel hs (listed.setIfInBounds i true) (ρ.put o.dst v) K w) w
       |false=>opF P cl ρ o (fun v w=>anyG P cl ops S fuel false (listed.setIfInBounds i true) (ρ.put o.dst v) K w) w))
      (fun ρ=>(match isPure P o.op||isRead P o.op with
       |true=>anyG P cl ops S fuel hs (listed.setIfInBounds i true) (ρ.put o.dst undef) K w
       |false=>match needs P ops i with
       |true=>(match hs with
        |true=>anyG P cl ops S fuel true (listed.setIfInBounds i true) (ρ.put o.dst undef) K w
        |false=>False)
       |false=>anyG P cl ops S fuel false (listed.setIfInBounds i true) (ρ.put o.dst undef) K w))
    |none=>False) (r::rs)))
section
variable {P:Program} {cl:FuncId→Bool} {ops:Array Oper} {Q:Exit→Act→World→Prop} {n:Nat} {pw:Nat→Bool} {a0:Env}
theorem pickG_some {listed:Array Bool}:∀ {l:List Nat} {i:Nat},pickG P ops listed l=some i→i∈l∧∃ o,ops[i]? =some o∧(isPure P o.op||isRead P o.op)=true∧Region.free .any ops listed i=true
 |[],_,h=>by cases h
 |j::l,i,h=>by
  unfold pickG at h
  split at h
  ·rename_i o ho
   split at h
   ·rename_i hp
    split at h
    ·rename_i hf
     cases h
     rw [Bool.and_eq_true] at hf
     exact ⟨List.mem_cons_self ..,o,ho,hp,hf.1⟩
    ·have:=pickG_some h;exact ⟨List.mem_cons_of_mem _ this.1,this.2⟩
   ·have:=pickG_some h;exact ⟨List.mem_cons_of_mem _ this.1,this.2⟩
  ·have:=pickG_some h;exact ⟨List.mem_cons_of_mem _ this.1,this.2⟩
theorem anyG_sound (hcl:∀ g,cl g=true→callable P g=true) (hsel:Region.noSelect ops=true) {K:Env→World→Prop} {S:World→Prop}
  (hQ:∀ a w,Kept n pw a0 a→K a.env w→Q .normal a w) (hQp:∀ c a w,¬ Q (.panic c) a w) (hops:∀ (i:Nat) (o:Oper),ops[i]? =some o→opOk P o.op=true∧dstIn n pw o=true):
  ∀ (fuel:Nat) (hs:Bool) (listed:Array Bool) (a:Act) (w:World),Kept n pw a0 a→(hs=true→S w)→anyG P cl ops S fuel hs listed a.env K w→
   wpT P .any ops Q S (needs P ops) (looks P ops) fuel listed a w:=by
 intro fuel
 induction fuel with
 |zero=>
  intro hs listed a w hk hS h
  unfold anyG at h
  split at h
  ·rename_i hr;exact ⟨hr,hQ a w hk h⟩
  ·exact h.elim
 |succ fuel ih=>
  intro hs listed a w hk hS h
  unfold anyG at h
  split at h
  ·rename_i hr
   exact ⟨fun _=>hQ a w hk h,fun i hi=>by rw [hr] at hi;cases hi⟩
  ·rename_i r rs hr
   split at h
   ·rename_i i hp
    obtain ⟨hmem,o,ho,hpr,hfree⟩:=pickG_some hp
    rw [ho] at h
    simp only at h
    obtain ⟨hok,hd⟩:=hops i o ho
    have hni:needs P ops i=false:=by
     unfold needs;rw [ho]
     simp only
     rcases Bool.or_eq_true _ _|>.mp hpr with hp|hp<;>simp [hp]
    have hrdy:i∈Region.ready .any ops listed:=by rw [hr];exact hmem
    have hfs:=Region.free_spec (md:=.any) ho hfree
    have hself:=Region.noSelect_spec hsel
    rcases guardF_sound h with ⟨hw,h⟩|⟨hw,h⟩
    ·cases hex:exactB P ops listed i with
     |true=>
      rw [hex] at h
      have hx:exactB P ops listed i=true:=hex
      rcases seeE_sound hok hpr h with ⟨hp,v,hv,hK⟩|⟨hp,hhs,v,hv,hK⟩
      ·refine wpT_first (T:=fun _=>True) ho hself (fun c a w hc=>absurd hc (hQp c _ w)) hni fuel listed a w (fun j oj hj hne hun hno=>⟨hfs j oj hj hne hun hno,fun _ _ _ _ _=>trivial⟩) hrdy (.inl ⟨hw,?_⟩) trivial
        (ih hs (listed.setIfInBounds i true) (a.put o.dst v) w (hk.put hd v) hS ?_)
       ·rw [←env_ev];exact hv
       ·rw [hk.envput hd];exact hK
      ·have hun0:listed.getD i true=false:=(mem_ready.1 hrdy).1
       refine wpT_firstD (T:=fun w'=>w'=w) (D:=behB ops listed i 8) ho hself (fun c a w hc=>absurd hc (hQp c _ w)) hni (fun j oj hd hji hj=>behB_edge 8 hd hji hj) fuel listed a w (fun j oj hj hne hun hdj hno=>⟨hfs j oj hj hne hun hno,fun w1 w2 hw1 hneed hlook=>?_⟩) (fun j hd=>behB_un hun0 8 j hd) hrdy (.inl ⟨hw,?_⟩) rfl
        (ih hs (listed.setIfInBounds i true) (a.put o.dst v) w (hk.put hd v) hS ?_)
       ·have:=hlook (by unfold looks;rw [hj];exact exactB_out hx hj hun hdj)
        rw [this];exact hw1
       ·rw [←env_ev];exact hv
       ·rw [hk.envput hd];exact hK
     |false=>
     rw [hex] at h
     rcases seeE_sound hok hpr h with ⟨hp,v,hv,hK⟩|⟨hp,hhs,v,hv,hK⟩
     ·refine wpT_first (T:=fun _=>True) ho hself (fun c a w hc=>absurd hc (hQp c _ w)) hni fuel listed a w (fun j oj hj hne hun hno=>⟨hfs j oj hj hne hun hno,fun _ _ _ _ _=>trivial⟩) hrdy (.inl ⟨hw,?_⟩) trivial
       (ih hs (listed.setIfInBounds i true) (a.put o.dst v) w (hk.put hd v) hS ?_)
      ·rw [←env_ev];exact hv
      ·rw [hk.envput hd];exact hK
     ·have hri:isRead P o.op=true:=by rw [hp] at hpr;simpa using hpr
      refine wpT_first (T:=S) ho hself (fun c a w hc=>absurd hc (hQp c _ w)) hni fuel listed a w (fun j oj hj hne hun hno=>⟨hfs j oj hj hne hun hno,fun w w' hw hneed hlook=>?_⟩) hrdy (.inl ⟨hw,?_⟩) (hS hhs)
       (ih hs (listed.setIfInBounds i true) (a.put o.dst v) w (hk.put hd v) hS ?_)
      ·cases hl:(isPure P oj.op||isRead P oj.op) with
       |true=>have:=hlook (by unfold looks;rw [hj];exact hl);rw [this];exact hw
       |false=>exact hneed (needs_of ho hj hri hl hno)
      ·rw [←env_ev];exact hv
      ·rw [hk.envput hd];exact hK
    ·refine wpT_first (T:=fun _=>True) ho hself (fun c a w hc=>absurd hc (hQp c _ w)) hni fuel listed a w (fun j oj hj hne hun hno=>⟨hfs j oj hj hne hun hno,fun _ _ _ _ _=>trivial⟩) hrdy (.inr ⟨hw,rfl⟩) trivial
       (ih hs (listed.setIfInBounds i true) (a.put o.dst undef) w (hk.put hd _) hS ?_)
     rw [hk.envput hd];exact h
   ·refine ⟨fun h0=>absurd (hr ▸ h0) (by simp),fun i hi=>?_⟩
    rw [hr] at hi
    have h:=allF_mem h i hi
    split at h
    case h_2=>exact h.elim
    rename_i o ho
    obtain ⟨hok,hd⟩:=hops i o ho
    refine wpOp_of ho ?_
    rcases guardF_sound h with ⟨hw,h⟩|⟨hw,h⟩
    ·refine .inl ⟨hw,?_⟩
     split at h
     ·rename_i hl
      have hlk:looks P ops i=true:=by unfold looks;rw [ho];exact hl
      have hni:needs P ops i=false:=by
       unfold needs;rw [ho]
       simp only
       rcases Bool.or_eq_true _ _|>.mp hl with hp|hp<;>simp [hp]
      obtain ⟨v,hv,hK⟩:∃ v,(∀ w',w'=w→(execOp a.env.ev o).run P w'=.ok (.value v) w')∧anyG P cl ops S fuel hs (listed.setIfInBounds i true) (a.env.put o.dst v) K w:=by
       rcases seeE_sound hok hl h with ⟨_,v,hv,hK⟩|⟨_,_,v,hv,hK⟩
       ·exact ⟨v,fun w' _=>hv w' trivial,hK⟩
       ·exact ⟨v,hv,hK⟩
      have:=Gives.upon (S:=fun w'=>w'=w) (a:=a) (Q:=Q) (K:=fun v' w'=>v'=v∧w'=w) rfl ⟨v,hv,rfl,rfl⟩
      rw [env_ev] at this
      refine opsF_sound.upon_mono ?_ this
      rintro a' w' ⟨v',rfl,rfl,rfl⟩
      refine ⟨⟨fun hh=>(by rw [hni] at hh;cases hh),fun _=>rfl⟩,ih hs _ _ w' (hk.put hd v') hS ?_⟩
      rw [hk.envput hd];exact hK
     ·rename_i hl
      have hlk:looks P ops i=false:=by unfold looks;rw [ho];exact hl
      split at h
      ·rename_i hnd
       have:=opF_sound hcl (a:=a) (Q:=Q) hok h
       rw [env_ev] at this
       refine opsF_sound.upon_mono ?_ this
       rintro a' w' ⟨v,rfl,hSw,hK⟩
       refine ⟨⟨fun _=>hSw,fun hh=>(by rw [hlk] at hh;cases hh)⟩,ih hs _ _ w' (hk.put hd v) (fun _=>hSw) ?_⟩
       rw [hk.envput hd];exact hK
      ·rename_i hnd
       have:=opF_sound hcl (a:=a) (Q:=Q) hok h
       rw [env_ev] at this
       refine opsF_sound.upon_mono ?_ this
       rintro a' w' ⟨v,rfl,hK⟩
       refine ⟨⟨fun hh=>(by rw [hnd] at hh;cases hh),fun hh=>(by rw [hlk] at hh;cases hh)⟩,ih false _ _ w' (hk.put hd v) (fun hh=>by cases hh) ?_⟩
       rw [hk.envput hd];exact hK
    ·refine .inr ⟨hw,?_⟩
     split at h
     ·rename_i hl
      have hni:needs P ops i=false:=by
       unfold needs;rw [ho]
       simp only
       rcases Bool.or_eq_true _ _|>.mp hl with hp|hp<;>simp [hp]
      refine ⟨⟨fun hh=>(by rw [hni] at hh;cases hh),fun _=>rfl⟩,ih hs _ _ w (hk.put hd _) hS ?_⟩
      rw [hk.envput hd];exact h
     ·rename_i hl
      have hlk:looks P ops i=false:=by unfold looks;rw [ho];exact hl
      split at h
      ·split at h
       ·have hSw:=hS rfl
        refine ⟨⟨fun _=>hSw,fun _=>rfl⟩,ih true _ _ w (hk.put hd _) (fun _=>hSw) ?_⟩
        rw [hk.envput hd];exact h
       ·exact h.elim
      ·rename_i hnd
       refine ⟨⟨fun hh=>(by rw [hnd] at hh;cases hh),fun _=>rfl⟩,ih false _ _ w (hk.put hd _) (fun hh=>by cases hh) ?_⟩
       rw [hk.envput hd];exact h
end
end Go.VC
/- Regions that draw their order, in which the last call changes what has been read: the condition need hold only while a read may yet come. No condition. -/
namespace Go.VC
set_option linter.unusedVariables false
set_option linter.unusedSimpArgs false
def needsT (P:Program) (ops:Array Oper) (j:Nat):Bool:=
 match ops[j]? with
 |none=>false
 |some oj=>!isRead P oj.op && !isPure P oj.op && (List.range ops.size).any fun i=>match ops[i]? with
  |some oi=>isRead P oi.op && !behB ops (Array.replicate ops.size false) i 8 j
  |none=>false
def okT (P:Program) (ops:Array Oper) (listed:Array Bool) (i:Nat):Bool:=(List.range ops.size).all fun j=>listed.getD j true||(behB ops listed i 8 j||(needsT P ops j||match ops[j]? with
 |some oj=>(isPure P oj.op||isRead P oj.op)
 |none=>true))
def anyT (P:Program) (cl:FuncId→Bool) (ops:Array Oper) (S:World→Prop):Nat→Bool→Array Bool→Env→(Env→World→Prop)→World→Prop
 |0,_,listed,ρ,K,w=>(match Region.ready .any ops listed with
  |[]=>K ρ w
  |_=>False)
 |fuel + 1,hs,listed,ρ,K,w=>(match Region.ready .any ops listed with
  |[]=>K ρ w
  |r::rs=>(match pickF P ops listed (r::rs) with
   |some i=>(match ops[i]? with
    |some o=>guardF ops ρ o
      (fun ρ=>(match exactB P ops listed i with
       |true=>seeE P ops (fun w'=>w'=w) true ρ o fun v=>anyT P cl ops S fuel hs (listed.setIfInBounds i true) (ρ.put o.dst v) K w
       |false=>(match isPure P o.op||okT P ops listed i with
        |true=>seeE P ops S hs ρ o fun v=>anyT P cl ops S fuel hs (listed.setIfInBounds i true) (ρ.put o.dst v) K w
        |false=>False)))
      (fun ρ=>anyT P cl ops S fuel hs (listed.setIfInBounds i true) (ρ.put o.dst undef) K w)
    |none=>False)
   |none=>allF (fun i=>match ops[i]? with
    |some o=>guardF ops ρ o
      (fun ρ=>(match isPure P o.op||isRead P o.op with
       |true=>False
       |false=>match needsT P ops i with
       |true=>opF P cl ρ o (fun v w=>S w∧anyT P cl ops S fuel hs (listed.setIfInBounds i true) (ρ.put o.dst v) K w) w
       |false=>opF P cl ρ o (fun v w=>anyT P cl ops S fuel false (listed.setIfInBounds i true) (ρ.put o.dst v) K w) w))
      (fun ρ=>(match isPure P o.op||isRead P o.op with
       |true=>False
       |false=>match needsT P ops i with
       |true=>(match hs with
        |true=>anyT P cl ops S fuel true (listed.setIfInBounds i true) (ρ.put o.dst undef) K w
        |false=>False)
       |false=>anyT P cl ops S fuel false (listed.setIfInBounds i true) (ρ.put o.dst undef) K w))
    |none=>False) (r::rs)))
section
variable {P:Program} {cl:FuncId→Bool} {ops:Array Oper} {Q:Exit→Act→World→Prop} {n:Nat} {pw:Nat→Bool} {a0:Env}
theorem okT_out {listed:Array Bool} {i j:Nat} {oj:Oper} (h:okT P ops listed i=true) (hj:ops[j]? =some oj) (hun:listed.getD j true=false) (hno:behB ops listed i 8 j=false):needsT P ops j=true∨(isPure P oj.op||isRead P oj.op)=true:=by
 unfold okT at h
 have h1:=List.all_eq_true.1 h j (List.mem_range.2 (Array.getElem?_eq_some_iff.1 hj).1)
 rw [hun,hj,hno] at h1
 simpa using h1
theorem anyT_sound (hcl:∀ g,cl g=true→callable P g=true) (hsel:Region.noSelect ops=true) {K:Env→World→Prop} {S:World→Prop}
  (hQ:∀ a w,Kept n pw a0 a→K a.env w→Q .normal a w) (hQp:∀ c a w,¬ Q (.panic c) a w) (hops:∀ (i:Nat) (o:Oper),ops[i]? =some o→opOk P o.op=true∧dstIn n pw o=true):
  ∀ (fuel:Nat) (hs:Bool) (listed:Array Bool) (a:Act) (w:World),Kept n pw a0 a→(hs=true→S w)→anyT P cl ops S fuel hs listed a.env K w→
   wpT P .any ops Q S (needsT P ops) (looks P ops) fuel listed a w:=by
 intro fuel
 induction fuel with
 |zero=>
  intro hs listed a w hk hS h
  unfold anyT at h
  split at h
  ·rename_i hr;exact ⟨hr,hQ a w hk h⟩
  ·exact h.elim
 |succ fuel ih=>
  intro hs listed a w hk hS h
  unfold anyT at h
  split at h
  ·rename_i hr
   exact ⟨fun _=>hQ a w hk h,fun i hi=>by rw [hr] at hi;cases hi⟩
  ·rename_i r rs hr
   split at h
   ·rename_i i hp
    obtain ⟨hmem,o,ho,hpr,hfree⟩:=pickF_some hp
    rw [ho] at h
    simp only at h
    obtain ⟨hok,hd⟩:=hops i o ho
    have hni:needsT P ops i=false:=by
     unfold needsT;rw [ho]
     simp only
     rcases Bool.or_eq_true _ _|>.mp hpr with hp|hp<;>simp [hp]
    have hrdy:i∈Region.ready .any ops listed:=by rw [hr];exact hmem
    have hfs:=Region.free_spec (md:=.any) ho hfree
    have hself:=Region.noSelect_spec hsel
    rcases guardF_sound h with ⟨hw,h⟩|⟨hw,h⟩
    ·cases hex:exactB P ops listed i with
     |true=>
      rw [hex] at h
      have hx:exactB P ops listed i=true:=hex
      rcases seeE_sound hok hpr h with ⟨hp,v,hv,hK⟩|⟨hp,hhs,v,hv,hK⟩
      ·refine wpT_first (T:=fun _=>True) ho hself (fun c a w hc=>absurd hc (hQp c _ w)) hni fuel listed a w (fun j oj hj hne hun hno=>⟨hfs j oj hj hne hun hno,fun _ _ _ _ _=>trivial⟩) hrdy (.inl ⟨hw,?_⟩) trivial
        (ih hs (listed.setIfInBounds i true) (a.put o.dst v) w (hk.put hd v) hS ?_)
       ·rw [←env_ev];exact hv
       ·rw [hk.envput hd];exact hK
      ·have hun0:listed.getD i true=false:=(mem_ready.1 hrdy).1
       refine wpT_firstD (T:=fun w'=>w'=w) (D:=behB ops listed i 8) ho hself (fun c a w hc=>absurd hc (hQp c _ w)) hni (fun j oj hd hji hj=>behB_edge 8 hd hji hj) fuel listed a w (fun j oj hj hne hun hdj hno=>⟨hfs j oj hj hne hun hno,fun w1 w2 hw1 hneed hlook=>?_⟩) (fun j hd=>behB_un hun0 8 j hd) hrdy (.inl ⟨hw,?_⟩) rfl
        (ih hs (listed.setIfInBounds i true) (a.put o.dst v) w (hk.put hd v) hS ?_)
       ·have:=hlook (by unfold looks;rw [hj];exact exactB_out hx hj hun hdj)
        rw [this];exact hw1
       ·rw [←env_ev];exact hv
       ·rw [hk.envput hd];exact hK
     |false=>
     rw [hex] at h
     simp only at h
     cases hokt:(isPure P o.op||okT P ops listed i) with
     |false=>rw [hokt] at h;exact h.elim
     |true=>
     rw [hokt] at h
     simp only at h
     rcases seeE_sound hok hpr h with ⟨hp,v,hv,hK⟩|⟨hp,hhs,v,hv,hK⟩
     ·refine wpT_first (T:=fun _=>True) ho hself (fun c a w hc=>absurd hc (hQp c _ w)) hni fuel listed a w (fun j oj hj hne hun hno=>⟨hfs j oj hj hne hun hno,fun _ _ _ _ _=>trivial⟩) hrdy (.inl ⟨hw,?_⟩) trivial
       (ih hs (listed.setIfInBounds i true) (a.put o.dst v) w (hk.put hd v) hS ?_)
      ·rw [←env_ev];exact hv
      ·rw [hk.envput hd];exact hK
     ·have hri:isRead P o.op=true:=by rw [hp] at hpr;simpa using hpr
      have hun0:listed.getD i true=false:=(mem_ready.1 hrdy).1
      have hot:okT P ops listed i=true:=by rw [hp] at hokt;simpa using hokt
      refine wpT_firstD (T:=S) (D:=behB ops listed i 8) ho hself (fun c a w hc=>absurd hc (hQp c _ w)) hni (fun j oj hd hji hj=>behB_edge 8 hd hji hj) fuel listed a w (fun j oj hj hne hun hdj hno=>⟨hfs j oj hj hne hun hno,fun w w' hw hneed hlook=>?_⟩) (fun j hd=>behB_un hun0 8 j hd) hrdy (.inl ⟨hw,?_⟩) (hS hhs)
       (ih hs (listed.setIfInBounds i true) (a.put o.dst v) w (hk.put hd v) hS ?_)
      ·rcases okT_out hot hj hun hdj with h1|h1
       ·exact hneed h1
       ·have:=hlook (by unfold looks;rw [hj];exact h1);rw [this];exact hw
      ·rw [←env_ev];exact hv
      ·rw [hk.envput hd];exact hK
    ·refine wpT_first (T:=fun _=>True) ho hself (fun c a w hc=>absurd hc (hQp c _ w)) hni fuel listed a w (fun j oj hj hne hun hno=>⟨hfs j oj hj hne hun hno,fun _ _ _ _ _=>trivial⟩) hrdy (.inr ⟨hw,rfl⟩) trivial
       (ih hs (listed.setIfInBounds i true) (a.put o.dst undef) w (hk.put hd _) hS ?_)
     rw [hk.envput hd];exact h
   ·refine ⟨fun h0=>absurd (hr ▸ h0) (by simp),fun i hi=>?_⟩
    rw [hr] at hi
    have h:=allF_mem h i hi
    split at h
    case h_2=>exact h.elim
    rename_i o ho
    obtain ⟨hok,hd⟩:=hops i o ho
    refine wpOp_of ho ?_
    rcases guardF_sound h with ⟨hw,h⟩|⟨hw,h⟩
    ·refine .inl ⟨hw,?_⟩
     split at h
     ·exact h.elim
     ·rename_i hl
      have hlk:looks P ops i=false:=by unfold looks;rw [ho];exact hl
      split at h
      ·rename_i hnd
       have:=opF_sound hcl (a:=a) (Q:=Q) hok h
       rw [env_ev] at this
       refine opsF_sound.upon_mono ?_ this
       rintro a' w' ⟨v,rfl,hSw,hK⟩
       refine ⟨⟨fun _=>hSw,fun hh=>(by rw [hlk] at hh;cases hh)⟩,ih hs _ _ w' (hk.put hd v) (fun _=>hSw) ?_⟩
       rw [hk.envput hd];exact hK
      ·rename_i hnd
       have:=opF_sound hcl (a:=a) (Q:=Q) hok h
       rw [env_ev] at this
       refine opsF_sound.upon_mono ?_ this
       rintro a' w' ⟨v,rfl,hK⟩
       refine ⟨⟨fun hh=>(by rw [hnd] at hh;cases hh),fun hh=>(by rw [hlk] at hh;cases hh)⟩,ih false _ _ w' (hk.put hd v) (fun hh=>by cases hh) ?_⟩
       rw [hk.envput hd];exact hK
    ·refine .inr ⟨hw,?_⟩
     split at h
     ·exact h.elim
     ·rename_i hl
      have hlk:looks P ops i=false:=by unfold looks;rw [ho];exact hl
      split at h
      ·split at h
       ·have hSw:=hS rfl
        refine ⟨⟨fun _=>hSw,fun _=>rfl⟩,ih true _ _ w (hk.put hd _) (fun _=>hSw) ?_⟩
        rw [hk.envput hd];exact h
       ·exact h.elim
      ·rename_i hnd
       refine ⟨⟨fun hh=>(by rw [hnd] at hh;cases hh),fun _=>rfl⟩,ih false _ _ w (hk.put hd _) (fun hh=>by cases hh) ?_⟩
       rw [hk.envput hd];exact h
end
end Go.VC
/- VC, part 7: whole functions: the formula 'den' of a body is enough for the call. No condition. -/
namespace Go.VC
set_option linter.unusedVariables false
set_option linter.unusedSimpArgs false
def Cur (R:Type):List Ty→Type
 |[]=>R
 |t::ts=>t.T→Cur R ts
def app {R:Type}:(ts:List Ty)→Cur R ts→List Value→(R→Prop)→Prop
 |[],f,_,φ=>φ f
 |t::ts,f,v::vs,φ=>t.un v fun x=>app ts (f x) vs φ
 |_::_,_,[],_=>False
def Ty.all:(t:Ty)→(Value→Prop)→Prop
 | .int k,φ=>∀ n:Int,φ (.int k n)
 | .bool,φ=>∀ b:Bool,φ (.bool b)
 | .str,φ=>∀ s:ByteArray,φ (.string s)
 | .sl,φ=>∀ s:Sl,φ (.slice s.a s.len s.cap)
 | .ptr,φ=>∀ p:Option Addr,φ (.pointer p)
 | .map,φ=>∀ m:Option Nat,φ (.map m)
 | .flt,φ=>∀ n:Nat,φ (.float .f64 n)
 | .any,φ=>∀ v:Value,φ v
theorem Ty.all_enc {t:Ty} {φ:Value→Prop} (h:t.all φ) (x:t.T):φ (t.enc x):=by
 cases t<;>exact h x
def allT:List Ty→(List Value→Prop)→Prop
 |[],φ=>φ []
 |t::ts,φ=>t.all fun v=>allT ts fun vs=>φ (v::vs)
theorem app_all {R:Type}:∀ {ts:List Ty} {f:Cur R ts} {vs:List Value} {φ:R→Prop} {ψ:List Value→Prop},vs.length=ts.length→app ts f vs φ→allT ts ψ→ψ vs
 |[],_,vs,_,_,hl,_,h=>by
  cases vs with
  |nil=>exact h
  |cons v vs=>simp at hl
 |t::ts,f,[],_,_,hl,_,_=>by simp at hl
 |t::ts,f,v::vs,φ,ψ,hl,ha,h=>by
  obtain ⟨x,rfl,ha'⟩:=Ty.un_enc (show t.un v fun x=>app ts (f x) vs φ from ha)
  have hx:allT ts fun vs=>ψ (t.enc x::vs):=Ty.all_enc (t:=t) (φ:=fun v=>allT ts fun vs=>ψ (v::vs)) h x
  exact app_all (ψ:=fun vs=>ψ (t.enc x::vs)) (by simpa using hl) ha' hx
def getC {R:Type} (d:R):(ts:List Ty)→Cur R ts→List Value→R
 |[],f,_=>f
 |t::ts,f,v::vs=>match t,f,v with
  | .int k,f,.int k' n=>if k=k' then getC d ts (f n) vs else d
  | .bool,f,.bool b=>getC d ts (f b) vs
  | .str,f,.string s=>getC d ts (f s) vs
  | .sl,f,.slice a n c=>getC d ts (f ⟨a,n,c⟩) vs
  | .ptr,f,.pointer p=>getC d ts (f p) vs
  | .map,f,.map m=>getC d ts (f m) vs
  | .flt,f,.float .f64 n=>getC d ts (f n) vs
  | .any,f,v=>getC d ts (f v) vs
  |_,_,_=>d
 |_::_,_,[]=>d
theorem app_get {R:Type} {d:R}:∀ {ts:List Ty} {f:Cur R ts} {vs:List Value} {φ:R→Prop},app ts f vs φ→φ (getC d ts f vs)
 |[],_,_,_,h=>h
 |t::ts,f,[],_,h=>h.elim
 |t::ts,f,v::vs,φ,h=>by
  obtain ⟨x,rfl,ha⟩:=Ty.un_enc (show t.un v fun x=>app ts (f x) vs φ from h)
  cases t<;>simp only [getC,Ty.enc,if_true]<;>exact app_get ha
structure Cont where
 nrm:Env→World→Prop
 ex:Nat→Env→World→Prop
 ret:Env→World→Prop
inductive Sk where
 |leaf
 |seq (a b:Sk)
 |cond (a b:Sk)
 |block (a:Sk)
 |loop (ms:List Nat) (ts:List Ty) (W:List Nat) (a:Sk)
 |cut (ms:List Nat) (ts:List Ty) (W:List Nat) (a b:Sk)
def Sk.l:Sk→Sk
 | .seq a _| .cond a _| .block a| .loop _ _ _ a| .cut _ _ _ a _=>a
 |_=>.leaf
def Sk.r:Sk→Sk
 | .seq _ b| .cond _ b| .cut _ _ _ _ b=>b
 |_=>.leaf
def memB (i:Nat):List Nat→Bool
 |[]=>false
 |j::js=>match Nat.beq i j with|true=>true|false=>memB i js
def look:List Nat→List Value→Nat→Option Value
 |m::ms,v::vs,i=>match Nat.beq i m with|true=>some v|false=>look ms vs i
 |_,_,_=>none
def mix (ρ:Env) (W ms:List Nat) (vs:List Value) (z:Env):Env:=fun i=>
 match look ms vs i with
 |some v=>v
 |none=>match memB i W with
  |true=>z i
  |false=>ρ i
def vals (ms:List Nat) (ρ:Env):List Value:=ms.map ρ
def loopF (ts:List Ty) (ms W:List Nat) (ρ:Env) (body:Env→(Env→World→Prop)→World→Prop) (w:World):Prop:=
 ∃ (I:Cur (World→Prop) ts) (μ:Cur (World→Nat) ts),app ts I (vals ms ρ) (fun p=>p w)∧
  ∀ z:Env,allT ts fun vs=>∀ w,app ts I vs (fun p=>p w)→
   body (mix ρ W ms vs z) (fun ρ' w'=>app ts I (vals ms ρ') (fun p=>p w')∧app ts μ (vals ms ρ') (fun m'=>app ts μ vs (fun m=>m' w'<m w))) w
def cutF (ts:List Ty) (ms W:List Nat) (ρ:Env) (first:(Env→World→Prop)→Prop) (rest:Env→World→Prop):Prop:=
 ∃ J:Cur (World→Prop) ts,first (fun ρ' w'=>app ts J (vals ms ρ') (fun p=>p w'))∧
  ∀ z:Env,allT ts fun vs=>∀ w,app ts J vs (fun p=>p w)→rest (mix ρ W ms vs z) w
def den (P:Program) (cl:FuncId→Bool):Code→Sk→Env→Cont→World→Prop
 | .skip,_,ρ,K,w=>K.nrm ρ w
 | .label _,_,ρ,K,w=>K.nrm ρ w
 | .region _ ops d,sk,ρ,K,w=>(match d with
  |false=>opsF P cl ops ops.toList ρ K.nrm w
  |true=>(match sk with
   | .block _=>Drw w fun S w'=>anyF P cl ops S true ops.size true (Array.replicate ops.size false) ρ K.nrm w'
   | .seq _ _=>Drw w fun S w'=>anyG P cl ops S ops.size true (Array.replicate ops.size false) ρ K.nrm w'
   | .cond _ _=>Drw w fun S w'=>anyT P cl ops S ops.size true (Array.replicate ops.size false) ρ K.nrm w'
   |_=>Drw w fun S w'=>anyF P cl ops S false ops.size true (Array.replicate ops.size false) ρ K.nrm w'))
 | .seq a b,sk,ρ,K,w=>(match sk with
  | .cut ms ts W _ _=>cutF ts ms W ρ (fun k=>den P cl a sk.l ρ { K with nrm:=k } w) (fun ρ' w'=>den P cl b sk.r ρ' K w')
  |_=>den P cl a sk.l ρ { K with nrm:=fun ρ' w'=>den P cl b sk.r ρ' K w' } w)
 | .cond c a b,sk,ρ,K,w=>(match ρ.ev c with
  | .bool t=>Br t (den P cl a sk.l ρ K w) (den P cl b sk.r ρ K w)
  |_=>False)
 | .block id a,sk,ρ,K,w=>den P cl a sk.l ρ { K with ex:=fun i=>match Nat.beq i id with|true=>K.nrm|false=>K.ex i } w
 | .loop a,sk,ρ,K,w=>(match sk with
  | .loop ms ts W _=>loopF ts ms W ρ (fun ρ' k w'=>den P cl a sk.l ρ' { K with nrm:=k } w') w
  |_=>False)
 | .scope a,sk,ρ,K,w=>den P cl a sk.l ρ K w
 | .exit id,_,ρ,K,w=>K.ex id ρ w
 | .ret,_,ρ,K,w=>K.ret ρ w
 |_,_,_,_,_=>False
def wrIn (pw:Nat→Bool):Code→Bool
 | .region _ ops _=>ops.all fun o=>match o.dst with|some d=>pw d|none=>true
 | .seq a b| .cond _ a b=>wrIn pw a && wrIn pw b
 | .block _ a| .loop a| .scope a=>wrIn pw a
 | .rangeFunc _ _ _ _=>false
 |_=>true
def codeOk (P:Program) (n:Nat):Code→Bool
 | .region _ ops _=>Region.noSelect ops && ops.all fun o=>opOk P o.op && (match o.dst with|some d=>Nat.blt d n|none=>true)
 | .seq a b| .cond _ a b=>codeOk P n a && codeOk P n b
 | .block _ a| .loop a| .scope a=>codeOk P n a
 | .rangeFunc _ _ _ _=>false
 |_=>true
def skOk:Code→Sk→Bool
 | .seq a b,sk=>(match sk with
  | .cut ms ts W _ _=>wrIn (fun i=>memB i W) a && Nat.beq ms.length ts.length
  |_=>true) && skOk a sk.l && skOk b sk.r
 | .cond _ a b,sk=>skOk a sk.l && skOk b sk.r
 | .block _ a,sk| .scope a,sk=>skOk a sk.l
 | .loop a,sk=>(match sk with
  | .loop ms ts W _=>wrIn (fun i=>memB i W) a && Nat.beq ms.length ts.length
  |_=>true) && skOk a sk.l
 |_,_=>true
def PK (n:Nat) (pw:Nat→Bool) (a0:Env) (K:Cont):Exit→Act→World→Prop
 | .normal,a,w=>Kept n pw a0 a∧K.nrm a.env w
 | .exit i,a,w=>Kept n pw a0 a∧K.ex i a.env w
 | .ret,a,w=>Kept n pw a0 a∧K.ret a.env w
 |_,_,_=>False
theorem look_vals {ms:List Nat} {ρ:Env} {i:Nat} {v:Value} (h:look ms (vals ms ρ) i=some v):v=ρ i:=by
 induction ms with
 |nil=>cases h
 |cons m ms ih=>
  simp only [vals,List.map_cons,look] at h
  split at h
  ·rename_i hb
   cases h
   rw [Nat.eq_of_beq_eq_true hb]
  ·exact ih h
theorem mix_env {ρ e:Env} {W ms:List Nat} (h:∀ i,memB i W=false→e i=ρ i):mix ρ W ms (vals ms e) e=e:=by
 funext i
 unfold mix
 split
 ·rename_i v hv;exact look_vals hv
 ·split
  ·rfl
  ·rename_i hm;exact (h i hm).symm
theorem vals_len (ms:List Nat) (ρ:Env):(vals ms ρ).length=ms.length:=by simp [vals]
theorem wrIn_and {p q:Nat→Bool}:∀ {c:Code},wrIn p c=true→wrIn q c=true→wrIn (fun i=>p i && q i) c=true
 | .region _ ops _,hp,hq=>by
  simp only [wrIn,Array.all_eq_true_iff_forall_mem] at *
  intro o ho
  have:=hp o ho
  have:=hq o ho
  cases hd:o.dst<;>simp_all
 | .seq a b,hp,hq=>by
  simp only [wrIn,Bool.and_eq_true] at *
  exact ⟨wrIn_and hp.1 hq.1,wrIn_and hp.2 hq.2⟩
 | .cond _ a b,hp,hq=>by
  simp only [wrIn,Bool.and_eq_true] at *
  exact ⟨wrIn_and hp.1 hq.1,wrIn_and hp.2 hq.2⟩
 | .block _ a,hp,hq=>wrIn_and (c:=a) hp hq
 | .loop a,hp,hq=>wrIn_and (c:=a) hp hq
 | .scope a,hp,hq=>wrIn_and (c:=a) hp hq
 | .rangeFunc _ _ _ _,hp,_=>by cases hp
 | .skip,_,_=>rfl
 | .exit _,_,_=>rfl
 | .label _,_,_=>rfl
 | .goto _,_,_=>rfl
 | .ret,_,_=>rfl
 | .refuse _,_,_=>rfl
theorem Kept.refl {n:Nat} {pw:Nat→Bool} {a:Act} (h:a.tmps.size=n) (hd:a.defers=[]):Kept n pw a.env a:=⟨h,hd,fun _ _=>rfl⟩
theorem Kept.trans {n:Nat} {pw:Nat→Bool} {q:Nat→Bool} {a0:Env} {a b:Act} (h:Kept n pw a0 a) (h':Kept n (fun i=>pw i && q i) a.env b):Kept n pw a0 b:=
 ⟨h'.size,h'.defers,fun i hi=>(h'.same i (by simp [hi])).trans (h.same i hi)⟩
variable {P:Program} {cl:FuncId→Bool} {n:Nat}
theorem region_sound (hcl:∀ g,cl g=true→callable P g=true) (hmix:P.follows .mixedOrders=true) {pw:Nat→Bool} {a0:Env} {id:Nat} {ops:Array Oper} {d:Bool}
  (hc:codeOk P n (.region id ops d)=true) (hw:wrIn pw (.region id ops d)=true) {sk:Sk} {K:Cont} {a:Act} {w:World} (hk:Kept n pw a0 a)
  (h:den P cl (.region id ops d) sk a.env K w):(Code.region id ops d).wp P (PK n pw a0 K) a w:=by
 simp only [codeOk,Bool.and_eq_true,Array.all_eq_true_iff_forall_mem] at hc
 simp only [wrIn,Array.all_eq_true_iff_forall_mem] at hw
 have hops:∀ o∈ops,opOk P o.op=true∧dstIn n pw o=true:=fun o ho=>by
  have h1:=hc.2 o ho
  have h2:=hw o ho
  refine ⟨h1.1,?_⟩
  unfold dstIn
  cases hd:o.dst with
  |none=>rfl
  |some x=>rw [hd] at h1 h2;simp only [Bool.and_eq_true];exact ⟨h1.2,h2⟩
 unfold den at h
 cases d with
 |false=>
  exact wp_region_list (opsF_sound (Q:=PK n pw a0 K) hcl (fun a w hk h=>⟨hk,h⟩) ops.toList (fun o ho=>hops o (by simpa using ho)) a w hk h)
 |true=>
  have key:∀ ex:Bool,(Drw w fun S w'=>anyF P cl ops S ex ops.size true (Array.replicate ops.size false) a.env K.nrm w')→(Code.region id ops true).wp P (PK n pw a0 K) a w:=fun ex h=>by
   obtain ⟨S0,S,hS,h⟩:=h
   obtain ⟨hS,h⟩:=h _ hS
   exact wp_region_any hmix (wpT_any _ _ _ _ (anyF_sound (Q:=PK n pw a0 K) hcl hc.1 (fun a w hk h=>⟨hk,h⟩) (fun _ _ _ h=>h) (fun i o ho=>hops o (Array.mem_of_getElem? ho)) _ _ _ _ _ hk (fun _=>hS) h))
  have keyG:(Drw w fun S w'=>anyG P cl ops S ops.size true (Array.replicate ops.size false) a.env K.nrm w')→(Code.region id ops true).wp P (PK n pw a0 K) a w:=fun h=>by
   obtain ⟨S0,S,hS,h⟩:=h
   obtain ⟨hS,h⟩:=h _ hS
   exact wp_region_any hmix (wpT_any _ _ _ _ (anyG_sound (Q:=PK n pw a0 K) hcl hc.1 (fun a w hk h=>⟨hk,h⟩) (fun _ _ _ h=>h) (fun i o ho=>hops o (Array.mem_of_getElem? ho)) _ _ _ _ _ hk (fun _=>hS) h))
  have keyT:(Drw w fun S w'=>anyT P cl ops S ops.size true (Array.replicate ops.size false) a.env K.nrm w')→(Code.region id ops true).wp P (PK n pw a0 K) a w:=fun h=>by
   obtain ⟨S0,S,hS,h⟩:=h
   obtain ⟨hS,h⟩:=h _ hS
   exact wp_region_any hmix (wpT_any _ _ _ _ (anyT_sound (Q:=PK n pw a0 K) hcl hc.1 (fun a w hk h=>⟨hk,h⟩) (fun _ _ _ h=>h) (fun i o ho=>hops o (Array.mem_of_getElem? ho)) _ _ _ _ _ hk (fun _=>hS) h))
  cases sk<;>first|exact key _ h|exact keyG h|exact keyT h
theorem den_sound (hcl:∀ g,cl g=true→callable P g=true) (hmix:P.follows .mixedOrders=true):∀ (c:Code) (sk:Sk) (pw:Nat→Bool) (a0:Env),
  codeOk P n c=true→wrIn pw c=true→skOk c sk=true→∀ (a:Act) (K:Cont) (w:World),Kept n pw a0 a→den P cl c sk a.env K w→c.wp P (PK n pw a0 K) a w
 | .skip,sk,pw,a0,_,_,_,a,K,w,hk,h=>wp_skip ⟨hk,h⟩
 | .label _,sk,pw,a0,_,_,_,a,K,w,hk,h=>wp_label ⟨hk,h⟩
 | .exit _,sk,pw,a0,_,_,_,a,K,w,hk,h=>wp_exit ⟨hk,h⟩
 | .ret,sk,pw,a0,_,_,_,a,K,w,hk,h=>wp_ret ⟨hk,h⟩
 | .region id ops d,sk,pw,a0,hc,hw,_,a,K,w,hk,h=>region_sound hcl hmix hc hw hk h
 | .goto _,sk,pw,a0,_,_,_,a,K,w,hk,h=>h.elim
 | .refuse _,sk,pw,a0,_,_,_,a,K,w,hk,h=>h.elim
 | .rangeFunc _ _ _ _,sk,pw,a0,_,_,_,a,K,w,hk,h=>h.elim
 | .scope c,sk,pw,a0,hc,hw,hs,a,K,w,hk,h=>by
  refine wp_scope_straight ?_
  refine Code.wp_mono ?_ (den_sound hcl hmix c sk.l pw a0 hc hw hs a K w hk h)
  intro e a w hq
  cases e<;>first|exact hq|exact hq.elim
 | .block id c,sk,pw,a0,hc,hw,hs,a,K,w,hk,h=>by
  refine wp_block ?_
  refine Code.wp_mono ?_ (den_sound hcl hmix c sk.l pw a0 hc hw hs a _ w hk h)
  intro e a w hq
  cases e with
  |exit i=>
   obtain ⟨hk,hq⟩:=hq
   show if i=id then _ else _
   by_cases hi:i=id
   ·subst hi
    rw [if_pos rfl]
    have:Nat.beq i i=true:=by simp
    simp only [this] at hq
    exact ⟨hk,hq⟩
   ·rw [if_neg hi]
    have:Nat.beq i id=false:=by
     cases hb:Nat.beq i id with
     |false=>rfl
     |true=>exact absurd (Nat.eq_of_beq_eq_true hb) hi
    simp only [this] at hq
    exact ⟨hk,hq⟩
  |normal=>exact hq
  |ret=>exact hq
  |_=>exact hq.elim
 | .cond c x y,sk,pw,a0,hc,hw,hs,a,K,w,hk,h=>by
  simp only [codeOk,wrIn,skOk,Bool.and_eq_true] at hc hw hs
  unfold den at h
  split at h
  ·rename_i t ht
   rw [env_ev] at ht
   refine wp_cond_split ht (fun hb=>?_) (fun hb=>?_)
   ·subst hb;exact den_sound hcl hmix x sk.l pw a0 hc.1 hw.1 hs.1 a K w hk h
   ·subst hb;exact den_sound hcl hmix y sk.r pw a0 hc.2 hw.2 hs.2 a K w hk h
  ·exact h.elim
 | .seq x y,sk,pw,a0,hc,hw,hs,a,K,w,hk,h=>by
  simp only [codeOk,wrIn,skOk,Bool.and_eq_true] at hc hw hs
  refine wp_seq ?_
  have plain:den P cl x sk.l a.env { K with nrm:=fun ρ' w'=>den P cl y sk.r ρ' K w' } w→x.wp P (Exit.then (y.wp P (PK n pw a0 K)) (PK n pw a0 K)) a w:=fun h=>by
   refine Code.wp_mono ?_ (den_sound hcl hmix x sk.l pw a0 hc.1 hw.1 hs.1.2 a _ w hk h)
   intro e a w hq
   cases e with
   |normal=>exact den_sound hcl hmix y sk.r pw a0 hc.2 hw.2 hs.2 a K w hq.1 hq.2
   |_=>exact hq
  cases sk with
  |cut ms ts W l r=>
   simp only [Bool.and_eq_true] at hs
   obtain ⟨J,h1,h2⟩:=(show cutF ts ms W a.env (fun k=>den P cl x l a.env { K with nrm:=k } w) (fun ρ' w'=>den P cl y r ρ' K w') from h)
   have:=den_sound hcl hmix x l (fun i=>pw i && memB i W) a.env hc.1 (wrIn_and hw.1 hs.1.1.1) hs.1.2 a _ w (Kept.refl hk.size hk.defers) h1
   refine Code.wp_mono ?_ this
   intro e b w' hq
   cases e with
   |normal=>
    obtain ⟨hkb,hq⟩:=hq
    have hall:=h2 b.env
    have hb:=app_all (by rw [vals_len];exact Nat.eq_of_beq_eq_true hs.1.1.2) hq hall w' hq
    rw [mix_env (fun i hi=>hkb.same i (by simp [hi]))] at hb
    exact den_sound hcl hmix y r pw a0 hc.2 hw.2 hs.2 b K w' (hk.trans hkb) hb
   |exit i=>exact ⟨hk.trans hq.1,hq.2⟩
   |ret=>exact ⟨hk.trans hq.1,hq.2⟩
   |_=>exact hq.elim
  |leaf=>exact plain h
  |seq l r=>exact plain h
  |cond l r=>exact plain h
  |block l=>exact plain h
  |loop ms ts W l=>exact plain h
 | .loop c,sk,pw,a0,hc,hw,hs,a,K,w,hk,h=>by
  cases sk with
  |loop ms ts W l=>
   simp only [skOk,Bool.and_eq_true] at hs
   have hc:codeOk P n c=true:=hc
   have hw:wrIn pw c=true:=hw
   obtain ⟨I,μ,h0,hstep⟩:=(show loopF ts ms W a.env (fun ρ' k w'=>den P cl c l ρ' { K with nrm:=k } w') w from h)
   have hlen:∀ e:Env,(vals ms e).length=ts.length:=fun e=>by rw [vals_len];exact Nat.eq_of_beq_eq_true hs.1.2
   refine wp_loop (fun b v=>Kept n pw a0 b∧(∀ i,memB i W=false→b.env i=a.env i)∧app ts I (vals ms b.env) (fun p=>p v))
    (fun b v=>getC (fun _=>0) ts μ (vals ms b.env) v) ⟨hk,fun _ _=>rfl,h0⟩ ?_
   rintro b v ⟨hkb,hsame,hI⟩
   have hb:=app_all (hlen b.env) hI (hstep b.env) v hI
   rw [mix_env hsame] at hb
   have:=den_sound hcl hmix c l (fun i=>pw i && memB i W) b.env hc (wrIn_and hw hs.1.1) hs.2 b _ v (Kept.refl hkb.size hkb.defers) hb
   refine Code.wp_mono ?_ this
   intro e b' v' hq
   cases e with
   |normal=>
    obtain ⟨hkb',hI',hμ⟩:=hq
    exact ⟨⟨hkb.trans hkb',fun i hi=>(hkb'.same i (by simp [hi])).trans (hsame i hi),hI'⟩,by
     have h1:=app_get (d:=fun _=>0) hμ
     exact app_get (d:=fun _=>0) h1⟩
   |exit i=>exact ⟨hkb.trans hq.1,hq.2⟩
   |ret=>exact ⟨hkb.trans hq.1,hq.2⟩
   |_=>exact hq.elim
  |_=>exact False.elim h
def argEnv:List Value→Env
 |[],_=>undef
 |v::vs,i=>match i with
  |0=>v
  |i + 1=>argEnv vs i
def fin1 (K:Value→World→Prop) (vs:List Value) (w:World):Prop:=
 match vs with
 |[v]=>K v w
 |vs=>K (.tuple vs.toArray) w
def resF (P:Program) (ρ:Env) (K:Value→World→Prop):List ResultVar→List Value→World→Prop
 |[],acc,w=>fin1 K acc.reverse w
 | .tmp t::rs,acc,w=>resF P ρ K rs (ρ t::acc) w
 | .cell a t::rs,acc,w=>loadF P (fun w'=>w'=w) t (ρ a) fun v=>resF P ρ K rs (v::acc) w
def fnOk (P:Program) (n:Nat) (fn:Func) (sk:Sk):Bool:=
 Nat.beq n fn.ntmps && (match fn.body with|some c=>codeOk P n c && wrIn (fun _=>true) c && skOk c sk|none=>false) &&
  fn.results.all fun r=>match r with| .tmp _=>true| .cell _ t=>ldOk P t
def fnF (P:Program) (cl:FuncId→Bool) (fn:Func) (sk:Sk) (args:List Value) (K:Value→World→Prop) (w:World):Prop:=
 match fn.body with
 |some c=>den P cl c sk (argEnv args) { nrm:=fun ρ w=>resF P ρ K fn.results.toList [] w,ex:=fun _ _ _=>False,ret:=fun ρ w=>resF P ρ K fn.results.toList [] w } w
 |none=>False
theorem argEnv_get:∀ (vs:List Value) (i:Nat),argEnv vs i=vs.getD i undef
 |[],i=>by simp [argEnv]
 |v::vs,0=>rfl
 |v::vs,i + 1=>by simpa [argEnv] using argEnv_get vs i
def resSem (tmps:Array Value):ResultVar→Sem Value
 | .tmp t=>pure (tmps.getD t undef)
 | .cell a t=>do loadVar t (←asAddr (tmps.getD a undef))
theorem results_eq (fn:Func) (tmps:Array Value):results fn tmps=(do
  let vs←fn.results.mapM (resSem tmps)
  pure (if h:vs.size=1 then vs[0] else .tuple vs)):=by
 unfold results
 congr 1
theorem resF_sound {a:Act} {K:Value→World→Prop} {w:World}:∀ (rs:List ResultVar) (acc:List Value),(∀ r∈rs,(match r with| .tmp _=>true| .cell _ t=>ldOk P t)=true)→
  resF P a.env K rs acc w→∃ vs:List Value,(rs.mapM (resSem a.tmps)).run P w=.ok vs w∧fin1 K (acc.reverse++vs) w
 |[],acc,_,h=>⟨[],rfl,by rw [List.append_nil];exact h⟩
 | .tmp t::rs,acc,hok,h=>by
  obtain ⟨vs,hr,hf⟩:=resF_sound rs (a.env t::acc) (fun r hr=>hok r (List.mem_cons_of_mem _ hr)) h
  refine ⟨a.env t::vs,?_,by simpa using hf⟩
  simp only [List.mapM_cons,Sem.run_bind,resSem,Sem.run_pure,Result.andThen_ok,hr]
  rfl
 | .cell p t::rs,acc,hok,h=>by
  obtain ⟨v, hv, h⟩ := loadF_sound (ρ := fun _ => a.env p) (dst := none) (ty := 0) (pos := "") (after := #[]) (guard := none) (T := t) (x := .tmp 0) (hok _ (List.mem_cons_self ..)) h
  obtain ⟨vs,hr,hf⟩:=resF_sound rs (v::acc) (fun r hr=>hok r (List.mem_cons_of_mem _ hr)) h
  refine ⟨v::vs,?_,by simpa using hf⟩
  have hv:=hv w rfl
  simp only [execOp,Sem.run_bind,Instr.loadAt] at hv
  have h2:(resSem a.tmps (.cell p t)).run P w=.ok v w:=by
   have ep:a.env p=a.tmps.getD p undef:=rfl
   rw [ep] at hv
   simp only [resSem]
   generalize a.tmps.getD p undef=x at *
   cases x<;>simp [Instr.sureAddr] at hv
   case pointer q=>
    cases q<;>simp at hv
    case some ad=>
     simp only [asAddr,Sem.run_bind,Sem.run_pure,Result.andThen_ok]
     generalize (loadVar t ad).run P w=r at *
     cases r<;>simp at hv
     case ok x w'=>rw [hv.1,hv.2]
  rw [List.mapM_cons,Sem.run_bind,h2,Result.andThen_ok,Sem.run_bind,hr]
  rfl
def Gets (P:Program) (f:FuncId) (args:Array Value) (w:World) (Q:Value→World→Prop):Prop:=Calls P f args w fun e w'=>∃ v,e=.returned v∧Q v w'
theorem Gets.use {f:FuncId} {args:Array Value} {w:World} {Q:Value→World→Prop} {R:Ending→World→Prop} (h:Gets P f args w Q) (k:∀ v w',Q v w'→R (.returned v) w'):Calls P f args w R:=
 Calls.mono h fun _ w' ⟨v,he,hq⟩=>by rw [he];exact k v w' hq
theorem Gets.mono {f:FuncId} {args:Array Value} {w:World} {Q Q':Value→World→Prop} (h:Gets P f args w Q) (k:∀ v w',Q v w'→Q' v w'):Gets P f args w Q':=
 Calls.mono h fun _ w' ⟨v,he,hq⟩=>⟨v,he,k v w' hq⟩
theorem calls_of {f:FuncId} {fn:Func} {sk:Sk} (hcl:∀ g,cl g=true→callable P g=true) (hmix:P.follows .mixedOrders=true)
  (hf:P.funcs[f]? =some fn) (hok:fnOk P fn.ntmps fn sk=true) {args:List Value} {K:Value→World→Prop} {w:World} (hargs:args.length≤fn.ntmps)
  (h:fnF P cl fn sk args K w):Gets P f args.toArray w K:=by
 unfold Gets
 unfold fnF at h
 unfold fnOk at hok
 simp only [Bool.and_eq_true] at hok
 obtain ⟨⟨_,hbody⟩,hres⟩:=hok
 split at h
 case h_2=>exact h.elim
 rename_i c hb
 rw [hb] at hbody
 simp only [Bool.and_eq_true] at hbody
 refine calls_of_wp hf hb ?_
 have henv:({ tmps:=args.toArray++Array.replicate (fn.ntmps - args.toArray.size) undef,defers:=[] }:Act).env=argEnv args:=by
  funext i
  rw [argEnv_get]
  simp only [Act.env]
  rcases Nat.lt_or_ge i args.length with hi|hi
  ·simp [Array.getElem?_append,hi]
  ·simp only [Array.getD_eq_getD_getElem?,Array.getElem?_append,List.size_toArray,if_neg (Nat.not_lt.2 hi),Array.getElem?_replicate,List.getD_eq_getElem?_getD,List.getElem?_eq_none hi]
   split<;>rfl
 rw [←henv] at h
 have hres':∀ r∈fn.results.toList,(match r with| .tmp _=>true| .cell _ t=>ldOk P t)=true:=fun r hr=>by
  rw [Array.all_eq_true_iff_forall_mem] at hres
  exact hres r (by simpa using hr)
 have fin:∀ (a:Act) (w:World),a.defers=[]→resF P a.env K fn.results.toList [] w→
   a.defers=[]∧∃ v,(results fn a.tmps).run P w=.ok v w∧(∃ v',Ending.returned v=.returned v'∧K v' w):=fun a w hd hr=>by
  obtain ⟨vs,hvs,hf⟩:=resF_sound fn.results.toList [] hres' hr
  refine ⟨hd,?_⟩
  have hm:(fn.results.mapM (resSem a.tmps)).run P w=.ok vs.toArray w:=by
   rw [Array.mapM_eq_mapM_toList]
   simp only [Sem.run_map,hvs,Result.andThen_ok]
  refine ⟨_,by rw [results_eq,Sem.run_bind,hm];rfl,?_⟩
  cases vs with
  |nil=>exact ⟨_,rfl,hf⟩
  |cons v vs=>cases vs with
   |nil=>exact ⟨_,rfl,hf⟩
   |cons u us=>exact ⟨_,rfl,hf⟩
 refine Code.wp_mono ?_ (den_sound (n:=fn.ntmps) hcl hmix c sk (fun _=>true) _ hbody.1.1 hbody.1.2 hbody.2 _ _ w (Kept.refl (by simp;omega) rfl) h)
 intro e a w hq
 cases e with
 |normal=>exact fin a w hq.1.defers hq.2
 |ret=>exact fin a w hq.1.defers hq.2
 |exit i=>exact hq.2.elim
 |_=>exact hq.elim
end Go.VC
/- VX, part 1: operations that may panic: calls, and 'panic' itself. No condition. -/
namespace Go.VC
set_option linter.unusedVariables false
set_option linter.unusedSimpArgs false
def calVx (P:Program) (cl:FuncId→Bool) (X:List PanicEntry→World→Prop) (f:Value) (args:Array Value) (t:Rt) (K:Value→World→Prop) (w:World):Prop:=
 CalW P cl f args.toList w fun e w'=>(t.ex fun v=>e=.returned v∧K v w')∨∃ ch,e=.panicked ch∧X ch w'
def thrF (X:List PanicEntry→World→Prop) (x:Value) (w:World):Prop:=
 match x with
 | .iface t v=>X [{ v:=.iface t v,recovered:=false }] w
 |_=>False
def effKindx (op:Op):Nat:=
 match op with
 | .call c=>(match c.callee with| .value _=>6|_=>0)
 | .panic _=>7
 |_=>0
def effFx (P:Program) (cl:FuncId→Bool) (X:List PanicEntry→World→Prop) (ρ:Env) (o:Oper) (K:Value→World→Prop) (w:World):Prop:=
 match effKindx o.op with
 |6=>(match o.op with| .call c=>(match c.callee with| .value f=>calVx P cl X (ρ.ev f) (c.args.map ρ.ev) (rtOf P o.type) K w|_=>False)|_=>False)
 |7=>(match o.op with| .panic x=>thrF X (ρ.ev x) w|_=>False)
 |_=>effF P cl ρ o K w
theorem effFx_sound {P:Program} {cl:FuncId→Bool} (hcl:∀ g,cl g=true→callable P g=true) {X:List PanicEntry→World→Prop} {a:Act} {e:Env} {o:Oper} {K:Value→World→Prop} {w:World}
  {Q:Exit→Act→World→Prop} (hX:∀ ch w,X ch w→Q (.panic ch) a w) (h:effFx P cl X e o K w):o.upon P a (After a o.dst K) Q ((execOp e.ev o).run P w):=by
 unfold effFx at h
 split at h
 ·rename_i hk
  clear hk
  obtain ⟨dst,op,ty,pos,after,guard⟩:=o
  cases op<;>simp only at h<;>first|exact h.elim|skip
  case call c=>
   obtain ⟨callee,args,ats⟩:=c
   cases callee<;>simp only at h<;>first|exact h.elim|skip
   case value f=>
    unfold calVx CalW at h
    split at h
    case h_2=>exact h.elim
    rename_i fn first captured hf
    split at h
    case h_2=>exact h.elim
    rename_i g
    have hargs:(first++args.map e.ev)++captured=(first.toList++((args.map e.ev).toList++captured.toList)).toArray:=by
     apply Array.ext';simp
    split at h
    case h_2=>
     obtain ⟨v',w',hr,hx⟩:=h
     have:(execOp e.ev ⟨dst,.call ⟨.value f,args,ats⟩,ty,pos,after,guard⟩).run P w=.ok (.value v') w':=by
      simp only [execOp,resolve,hf,Deferred.ofValue]
      simp only [Sem.run_bind,Sem.run_pure,Result.andThen_ok,invoke,←hargs] at hr ⊢
      exact hr
     rw [this]
     rcases hx with hx|⟨ch,hc,_⟩
     ·obtain ⟨v,hv,hK⟩:=Rt.ex_some hx
      cases hv
      exact ⟨_,rfl,hK⟩
     ·cases hc
    rename_i hg
    have:(execOp e.ev ⟨dst,.call ⟨.value f,args,ats⟩,ty,pos,after,guard⟩).run P w=.ok (.enter g (first.toList++((args.map e.ev).toList++captured.toList)).toArray) w:=by
     simp only [execOp,resolve,hf,Deferred.ofValue]
     simp only [Sem.run_bind,Sem.run_pure,Result.andThen_ok,invoke,←hargs]
     exact callFunc_run (hcl g hg) _ w
    rw [this]
    refine Calls.mono h ?_
    rintro en w' (hx|⟨ch,rfl,hx⟩)
    ·obtain ⟨v,rfl,hK⟩:=Rt.ex_some hx
     exact ⟨v,rfl,hK⟩
    ·exact hX ch w' hx
 ·rename_i hk
  clear hk
  obtain ⟨dst,op,ty,pos,after,guard⟩:=o
  cases op<;>simp only at h<;>first|exact h.elim|skip
  case panic x=>
   unfold thrF at h
   split at h
   ·rename_i t v hx
    have:(execOp e.ev ⟨dst,.panic x,ty,pos,after,guard⟩).run P w=.halt (.panic (.iface t v)) w:=by
     simp only [execOp,hx]
     rfl
    rw [this]
    exact hX _ w h
   ·exact h.elim
 ·exact effF_sound hcl h
def opFx (P:Program) (cl:FuncId→Bool) (X:List PanicEntry→World→Prop) (ρ:Env) (o:Oper) (K:Value→World→Prop) (w:World):Prop:=
 match pureKind P o.op with
 |0=>(match readKind P o.op with
  |0=>effFx P cl X ρ o K w
  |_=>readF P (fun w'=>w'=w) ρ o (fun v=>K v w))
 |_=>pureF P ρ o (fun v=>K v w)
theorem opFx_sound {P:Program} {cl:FuncId→Bool} (hcl:∀ g,cl g=true→callable P g=true) {X:List PanicEntry→World→Prop} {a:Act} {e:Env} {o:Oper} {K:Value→World→Prop} {w:World}
  {Q:Exit→Act→World→Prop} (hX:∀ ch w,X ch w→Q (.panic ch) a w) (hok:opOk P o.op=true) (h:opFx P cl X e o K w):o.upon P a (After a o.dst K) Q ((execOp e.ev o).run P w):=by
 unfold opFx at h
 split at h
 ·split at h
  ·exact effFx_sound hcl hX h
  ·rename_i hk
   exact Gives.upon (S:=fun w'=>w'=w) rfl (readF_sound hk (opOk_ld hok) h)
 ·exact Gives.upon (S:=fun _=>True) trivial (pureF_sound (opOk_tab hok) h)
end Go.VC
/- VX, part 2: regions whose operations may panic. No condition. -/
namespace Go.VC
set_option linter.unusedVariables false
set_option linter.unusedSimpArgs false
def opsFx (P:Program) (cl:FuncId→Bool) (X:List PanicEntry→List Value→World→Prop) (ps:List Nat) (ops:Array Oper):List Oper→Env→(Env→World→Prop)→World→Prop
 |[],ρ,K,w=>K ρ w
 |o::rest,ρ,K,w=>guardF ops ρ o
   (fun ρ=>opFx P cl (fun ch w=>X ch (vals ps ρ) w) ρ o (fun v w=>opsFx P cl X ps ops rest (ρ.put o.dst v) K w) w)
   (fun ρ=>opsFx P cl X ps ops rest (ρ.put o.dst undef) K w)
def anyFx (P:Program) (cl:FuncId→Bool) (X:List PanicEntry→List Value→World→Prop) (ps:List Nat) (ops:Array Oper) (S:World→Prop):Nat→Bool→Array Bool→Env→(Env→World→Prop)→World→Prop
 |0,_,listed,ρ,K,w=>(match Region.ready .any ops listed with
  |[]=>K ρ w
  |_=>False)
 |fuel + 1,hs,listed,ρ,K,w=>(match Region.ready .any ops listed with
  |[]=>K ρ w
  |r::rs=>(match pickF P ops listed (r::rs) with
   |some i=>(match ops[i]? with
    |some o=>guardF ops ρ o
      (fun ρ=>seeF P S hs ρ o fun v=>anyFx P cl X ps ops S fuel hs (listed.setIfInBounds i true) (ρ.put o.dst v) K w)
      (fun ρ=>anyFx P cl X ps ops S fuel hs (listed.setIfInBounds i true) (ρ.put o.dst undef) K w)
    |none=>False)
   |none=>allF (fun i=>match ops[i]? with
    |some o=>guardF ops ρ o
      (fun ρ=>(match isPure P o.op||isRead P o.op with
       |true=>False
       |false=>match needs P ops i with
       |true=>opFx P cl (fun ch w=>X ch (vals ps ρ) w) ρ o (fun v w=>S w∧anyFx P cl X ps ops S fuel hs (listed.setIfInBounds i true) (ρ.put o.dst v) K w) w
       |false=>opFx P cl (fun ch w=>X ch (vals ps ρ) w) ρ o (fun v w=>anyFx P cl X ps ops S fuel false (listed.setIfInBounds i true) (ρ.put o.dst v) K w) w))
      (fun ρ=>(match isPure P o.op||isRead P o.op with
       |true=>False
       |false=>match needs P ops i with
       |true=>(match hs with
        |true=>anyFx P cl X ps ops S fuel true (listed.setIfInBounds i true) (ρ.put o.dst undef) K w
        |false=>False)
       |false=>anyFx P cl X ps ops S fuel false (listed.setIfInBounds i true) (ρ.put o.dst undef) K w))
    |none=>False) (r::rs)))
structure KeptD (n:Nat) (ds:List Deferred) (pw:Nat→Bool) (a0:Env) (a:Act):Prop where
 size:a.tmps.size=n
 defers:a.defers=ds
 same:∀ i,pw i=false→a.env i=a0 i
theorem KeptD.put {n:Nat} {ds:List Deferred} {pw:Nat→Bool} {a0:Env} {a:Act} (h:KeptD n ds pw a0 a) {o:Oper} (ho:dstIn n pw o=true) (v:Value):KeptD n ds pw a0 (a.put o.dst v):=by
 refine ⟨by rw [put_size];exact h.size,by rw [put_defers];exact h.defers,fun i hi=>?_⟩
 unfold dstIn at ho
 have hd:∀ x,o.dst=some x→x<a.tmps.size:=fun x hx=>by
  rw [hx] at ho;simp only [Bool.and_eq_true] at ho;rw [h.size];exact Nat.blt_eq.mp ho.1
 rw [env_put hd]
 cases hx:o.dst with
 |none=>exact h.same i hi
 |some d=>
  rw [hx] at ho;simp only [Bool.and_eq_true] at ho
  simp only [Env.put,Env.set]
  split
  ·rename_i hb;have:=Nat.eq_of_beq_eq_true hb;subst this;rw [hi] at ho;simp at ho
  ·exact h.same i hi
theorem KeptD.envput {n:Nat} {ds:List Deferred} {pw:Nat→Bool} {a0:Env} {a:Act} (h:KeptD n ds pw a0 a) {o:Oper} (ho:dstIn n pw o=true) (v:Value):(a.put o.dst v).env=a.env.put o.dst v:=by
 refine env_put fun x hx=>?_
 unfold dstIn at ho
 rw [hx] at ho;simp only [Bool.and_eq_true] at ho;rw [h.size];exact Nat.blt_eq.mp ho.1
theorem KeptD.unput {n:Nat} {ds:List Deferred} {pw:Nat→Bool} {a0:Env} {a:Act} {o:Oper} (ho:dstIn n pw o=true) {v:Value} (h:KeptD n ds pw a0 (a.put o.dst v)):KeptD n ds pw a0 a:=by
 have hs:a.tmps.size=n:=by rw [←put_size a o.dst v];exact h.size
 have hd0:a.defers=ds:=by rw [←put_defers a o.dst v];exact h.defers
 refine ⟨hs,hd0,fun i hi=>?_⟩
 have:=h.same i hi
 have hd:∀ x,o.dst=some x→x<a.tmps.size:=fun x hx=>by
  unfold dstIn at ho
  rw [hx] at ho;simp only [Bool.and_eq_true] at ho;rw [hs];exact Nat.blt_eq.mp ho.1
 rw [env_put hd] at this
 unfold dstIn at ho
 cases hx:o.dst with
 |none=>rw [hx] at this;exact this
 |some d=>
  rw [hx] at this ho
  simp only [Bool.and_eq_true] at ho
  simp only [Env.put,Env.set] at this
  split at this
  ·rename_i hb;have:=Nat.eq_of_beq_eq_true hb;subst this;rw [hi] at ho;simp at ho
  ·exact this
def offPs (ps:List Nat) (o:Oper):Bool:=match o.dst with|some d=>!memB d ps|none=>true
theorem vals_put {n:Nat} {pw:Nat→Bool} {ps:List Nat} {a:Act} {o:Oper} (ho:dstIn n pw o=true) (hs:a.tmps.size=n) (hp:offPs ps o=true) (v:Value):vals ps (a.put o.dst v).env=vals ps a.env:=by
 have hd:∀ x,o.dst=some x→x<a.tmps.size:=fun x hx=>by
  unfold dstIn at ho
  rw [hx] at ho;simp only [Bool.and_eq_true] at ho;rw [hs];exact Nat.blt_eq.mp ho.1
 rw [env_put hd]
 unfold offPs at hp
 cases hx:o.dst with
 |none=>rfl
 |some d=>
  rw [hx] at hp
  simp only [Bool.not_eq_true'] at hp
  unfold vals
  apply List.map_congr_left
  intro i hi
  simp only [Env.put,Env.set]
  split
  ·rename_i hb
   have:=Nat.eq_of_beq_eq_true hb
   subst this
   have:∀ l:List Nat,i∈l→memB i l=true:=fun l=>by
    induction l with
    |nil=>intro h;cases h
    |cons j l ih=>
     intro h
     unfold memB
     cases hb:Nat.beq i j with
     |true=>rfl
     |false=>
      rcases List.mem_cons.1 h with rfl|h
      ·simp at hb
      ·exact ih h
   rw [this ps hi] at hp;cases hp
  ·rfl
section
variable {P:Program} {cl:FuncId→Bool} {X:List PanicEntry→List Value→World→Prop} {ps:List Nat} {ops:Array Oper} {Q:Exit→Act→World→Prop} {n:Nat} {ds:List Deferred} {pw:Nat→Bool} {a0:Env}
theorem opsFx_sound (hcl:∀ g,cl g=true→callable P g=true) {K:Env→World→Prop}
  (hQ:∀ a w,KeptD n ds pw a0 a→K a.env w→Q .normal a w) (hX:∀ ch a w,KeptD n ds pw a0 a→X ch (vals ps a.env) w→Q (.panic ch) a w):∀ (l:List Oper) (_:∀ o∈l,opOk P o.op=true∧dstIn n pw o=true) (a:Act) (w:World),
   KeptD n ds pw a0 a→opsFx P cl X ps ops l a.env K w→wpList P ops Q l a w
 |[],_,a,w,hk,h=>hQ a w hk h
 |o::rest,hl,a,w,hk,h=>by
  have ho:=hl o (List.mem_cons_self ..)
  have hrest:=fun x hx=>hl x (List.mem_cons_of_mem _ hx)
  unfold opsFx at h
  unfold wpList
  rcases guardF_sound h with ⟨hw,h⟩|⟨hw,h⟩
  ·rw [if_pos hw]
   refine .inl ?_
   have:=opFx_sound hcl (fun ch w hx=>hX ch a w hk (by exact hx)) ho.1 h
   rw [env_ev] at this
   unfold Oper.wp
   refine upon_mono ?_ this
   rintro a' w' ⟨v,rfl,hv⟩
   refine opsFx_sound hcl hQ hX rest hrest _ w' (hk.put ho.2 v) ?_
   rw [hk.envput ho.2];exact hv
  ·rw [hw]
   simp only [Bool.false_eq_true,if_false]
   refine opsFx_sound hcl hQ hX rest hrest _ w (hk.put ho.2 _) ?_
   rw [hk.envput ho.2];exact h
where
 upon_mono {o:Oper} {a:Act} {K K':Act→World→Prop} {r:Result Next} (h:∀ a w,K a w→K' a w) (hh:o.upon P a K Q r):o.upon P a K' Q r:=by
  cases r with
  |ok x w'=>
   cases x<;>simp only [Oper.upon] at hh ⊢<;>
    first
     |exact h _ _ hh
     |exact Calls.mono hh (fun e w'' he=>by cases e<;>first|exact h _ _ he|exact he)
     |exact Rows.mono hh (fun _ _ he=>h _ _ he)
  |halt x w'=>cases x<;>simp only [Oper.upon] at hh ⊢<;>exact hh
theorem anyFx_sound (hcl:∀ g,cl g=true→callable P g=true) (hsel:Region.noSelect ops=true) {K:Env→World→Prop} {S:World→Prop}
  (hQ:∀ a w,KeptD n ds pw a0 a→K a.env w→Q .normal a w) (hX:∀ ch a w,KeptD n ds pw a0 a→X ch (vals ps a.env) w→Q (.panic ch) a w) (hQp:∀ (i:Nat) (o:Oper) (v:Value) c a w,ops[i]? =some o→Q (.panic c) (a.put o.dst v) w→Q (.panic c) a w) (hops:∀ (i:Nat) (o:Oper),ops[i]? =some o→opOk P o.op=true∧dstIn n pw o=true):
  ∀ (fuel:Nat) (hs:Bool) (listed:Array Bool) (a:Act) (w:World),KeptD n ds pw a0 a→(hs=true→S w)→anyFx P cl X ps ops S fuel hs listed a.env K w→
   wpT P .any ops Q S (needs P ops) (looks P ops) fuel listed a w:=by
 intro fuel
 induction fuel with
 |zero=>
  intro hs listed a w hk hS h
  unfold anyFx at h
  split at h
  ·rename_i hr;exact ⟨hr,hQ a w hk h⟩
  ·exact h.elim
 |succ fuel ih=>
  intro hs listed a w hk hS h
  unfold anyFx at h
  split at h
  ·rename_i hr
   exact ⟨fun _=>hQ a w hk h,fun i hi=>by rw [hr] at hi;cases hi⟩
  ·rename_i r rs hr
   split at h
   ·rename_i i hp
    obtain ⟨hmem,o,ho,hpr,hfree⟩:=pickF_some hp
    rw [ho] at h
    simp only at h
    obtain ⟨hok,hd⟩:=hops i o ho
    have hni:needs P ops i=false:=by
     unfold needs;rw [ho]
     simp only
     rcases Bool.or_eq_true _ _|>.mp hpr with hp|hp<;>simp [hp]
    have hrdy:i∈Region.ready .any ops listed:=by rw [hr];exact hmem
    have hfs:=Region.free_spec (md:=.any) ho hfree
    have hself:=Region.noSelect_spec hsel
    rcases guardF_sound h with ⟨hw,h⟩|⟨hw,h⟩
    ·rcases seeF_sound hok hpr h with ⟨hp,v,hv,hK⟩|⟨hp,hhs,v,hv,hK⟩
     ·refine wpT_first (T:=fun _=>True) ho hself (fun c a w hc=>hQp i o _ c a w ho hc) hni fuel listed a w (fun j oj hj hne hun hno=>⟨hfs j oj hj hne hun hno,fun _ _ _ _ _=>trivial⟩) hrdy (.inl ⟨hw,?_⟩) trivial
       (ih hs (listed.setIfInBounds i true) (a.put o.dst v) w (hk.put hd v) hS ?_)
      ·rw [←env_ev];exact hv
      ·rw [hk.envput hd];exact hK
     ·have hri:isRead P o.op=true:=by rw [hp] at hpr;simpa using hpr
      refine wpT_first (T:=S) ho hself (fun c a w hc=>hQp i o _ c a w ho hc) hni fuel listed a w (fun j oj hj hne hun hno=>⟨hfs j oj hj hne hun hno,fun w w' hw hneed hlook=>?_⟩) hrdy (.inl ⟨hw,?_⟩) (hS hhs)
       (ih hs (listed.setIfInBounds i true) (a.put o.dst v) w (hk.put hd v) hS ?_)
      ·cases hl:(isPure P oj.op||isRead P oj.op) with
       |true=>have:=hlook (by unfold looks;rw [hj];exact hl);rw [this];exact hw
       |false=>exact hneed (needs_of ho hj hri hl hno)
      ·rw [←env_ev];exact hv
      ·rw [hk.envput hd];exact hK
    ·refine wpT_first (T:=fun _=>True) ho hself (fun c a w hc=>hQp i o _ c a w ho hc) hni fuel listed a w (fun j oj hj hne hun hno=>⟨hfs j oj hj hne hun hno,fun _ _ _ _ _=>trivial⟩) hrdy (.inr ⟨hw,rfl⟩) trivial
       (ih hs (listed.setIfInBounds i true) (a.put o.dst undef) w (hk.put hd _) hS ?_)
     rw [hk.envput hd];exact h
   ·refine ⟨fun h0=>absurd (hr ▸ h0) (by simp),fun i hi=>?_⟩
    rw [hr] at hi
    have h:=allF_mem h i hi
    split at h
    case h_2=>exact h.elim
    rename_i o ho
    obtain ⟨hok,hd⟩:=hops i o ho
    refine wpOp_of ho ?_
    rcases guardF_sound h with ⟨hw,h⟩|⟨hw,h⟩
    ·refine .inl ⟨hw,?_⟩
     split at h
     ·exact h.elim
     ·rename_i hl
      have hlk:looks P ops i=false:=by unfold looks;rw [ho];exact hl
      split at h
      ·rename_i hnd
       have:=opFx_sound hcl (fun ch w hx=>hX ch a w hk (by exact hx)) hok h
       rw [env_ev] at this
       refine opsFx_sound.upon_mono ?_ this
       rintro a' w' ⟨v,rfl,hSw,hK⟩
       refine ⟨⟨fun _=>hSw,fun hh=>(by rw [hlk] at hh;cases hh)⟩,ih hs _ _ w' (hk.put hd v) (fun _=>hSw) ?_⟩
       rw [hk.envput hd];exact hK
      ·rename_i hnd
       have:=opFx_sound hcl (fun ch w hx=>hX ch a w hk (by exact hx)) hok h
       rw [env_ev] at this
       refine opsFx_sound.upon_mono ?_ this
       rintro a' w' ⟨v,rfl,hK⟩
       refine ⟨⟨fun hh=>(by rw [hnd] at hh;cases hh),fun hh=>(by rw [hlk] at hh;cases hh)⟩,ih false _ _ w' (hk.put hd v) (fun hh=>by cases hh) ?_⟩
       rw [hk.envput hd];exact hK
    ·refine .inr ⟨hw,?_⟩
     split at h
     ·exact h.elim
     ·rename_i hl
      have hlk:looks P ops i=false:=by unfold looks;rw [ho];exact hl
      split at h
      ·split at h
       ·have hSw:=hS rfl
        refine ⟨⟨fun _=>hSw,fun _=>rfl⟩,ih true _ _ w (hk.put hd _) (fun _=>hSw) ?_⟩
        rw [hk.envput hd];exact h
       ·exact h.elim
      ·rename_i hnd
       refine ⟨⟨fun hh=>(by rw [hnd] at hh;cases hh),fun _=>rfl⟩,ih false _ _ w (hk.put hd _) (fun hh=>by cases hh) ?_⟩
       rw [hk.envput hd];exact h
end
end Go.VC
/- VX, part 3: functions that may panic; functions with one deferred call. No condition. -/
namespace Go.VC
set_option linter.unusedVariables false
set_option linter.unusedSimpArgs false
def denx (P:Program) (cl:FuncId→Bool) (X:List PanicEntry→List Value→World→Prop) (ps:List Nat):Code→Sk→Env→Cont→World→Prop
 | .skip,_,ρ,K,w=>K.nrm ρ w
 | .label _,_,ρ,K,w=>K.nrm ρ w
 | .region _ ops d,_,ρ,K,w=>(match d with
  |false=>opsFx P cl X ps ops ops.toList ρ K.nrm w
  |true=>Drw w fun S w'=>anyFx P cl X ps ops S ops.size true (Array.replicate ops.size false) ρ K.nrm w')
 | .seq a b,sk,ρ,K,w=>(match sk with
  | .cut ms ts W _ _=>cutF ts ms W ρ (fun k=>denx P cl X ps a sk.l ρ { K with nrm:=k } w) (fun ρ' w'=>denx P cl X ps b sk.r ρ' K w')
  |_=>denx P cl X ps a sk.l ρ { K with nrm:=fun ρ' w'=>denx P cl X ps b sk.r ρ' K w' } w)
 | .cond c a b,sk,ρ,K,w=>(match ρ.ev c with
  | .bool t=>Br t (denx P cl X ps a sk.l ρ K w) (denx P cl X ps b sk.r ρ K w)
  |_=>False)
 | .block id a,sk,ρ,K,w=>denx P cl X ps a sk.l ρ { K with ex:=fun i=>match Nat.beq i id with|true=>K.nrm|false=>K.ex i } w
 | .loop a,sk,ρ,K,w=>(match sk with
  | .loop ms ts W _=>loopF ts ms W ρ (fun ρ' k w'=>denx P cl X ps a sk.l ρ' { K with nrm:=k } w') w
  |_=>False)
 | .scope a,sk,ρ,K,w=>denx P cl X ps a sk.l ρ K w
 | .exit id,_,ρ,K,w=>K.ex id ρ w
 | .ret,_,ρ,K,w=>K.ret ρ w
 |_,_,_,_,_=>False
def codeOkx (P:Program) (n:Nat) (ps:List Nat):Code→Bool
 | .region _ ops d=>Region.noSelect ops && (ops.all fun o=>opOk P o.op && (match o.dst with|some d=>Nat.blt d n|none=>true)) && (match d with|true=>ops.all (offPs ps)|false=>true)
 | .seq a b| .cond _ a b=>codeOkx P n ps a && codeOkx P n ps b
 | .block _ a| .loop a| .scope a=>codeOkx P n ps a
 | .rangeFunc _ _ _ _=>false
 |_=>true
def PKx (n:Nat) (ds:List Deferred) (pw:Nat→Bool) (X:List PanicEntry→List Value→World→Prop) (ps:List Nat) (a0:Env) (K:Cont):Exit→Act→World→Prop
 | .normal,a,w=>KeptD n ds pw a0 a∧K.nrm a.env w
 | .exit i,a,w=>KeptD n ds pw a0 a∧K.ex i a.env w
 | .ret,a,w=>KeptD n ds pw a0 a∧K.ret a.env w
 | .panic ch,a,w=>KeptD n ds pw a0 a∧X ch (vals ps a.env) w
 |_,_,_=>False
theorem KeptD.refl' {n:Nat} {ds:List Deferred} {pw:Nat→Bool} {a:Act} (h:a.tmps.size=n) (hd:a.defers=ds):KeptD n ds pw a.env a:=⟨h,hd,fun _ _=>rfl⟩
theorem KeptD.trans {n:Nat} {ds:List Deferred} {pw:Nat→Bool} {q:Nat→Bool} {a0:Env} {a b:Act} (h:KeptD n ds pw a0 a) (h':KeptD n ds (fun i=>pw i && q i) a.env b):KeptD n ds pw a0 b:=
 ⟨h'.size,h'.defers,fun i hi=>(h'.same i (by simp [hi])).trans (h.same i hi)⟩
variable {P:Program} {cl:FuncId→Bool} {X:List PanicEntry→List Value→World→Prop} {ps:List Nat} {n:Nat} {ds:List Deferred}
theorem regionx_sound (hcl:∀ g,cl g=true→callable P g=true) (hmix:P.follows .mixedOrders=true) {pw:Nat→Bool} {a0:Env} {id:Nat} {ops:Array Oper} {d:Bool}
  (hc:codeOkx P n ps (.region id ops d)=true) (hw:wrIn pw (.region id ops d)=true) {sk:Sk} {K:Cont} {a:Act} {w:World} (hk:KeptD n ds pw a0 a)
  (h:denx P cl X ps (.region id ops d) sk a.env K w):(Code.region id ops d).wp P (PKx n ds pw X ps a0 K) a w:=by
 simp only [codeOkx,Bool.and_eq_true] at hc
 obtain ⟨⟨hsel,hall⟩,hps⟩:=hc
 rw [Array.all_eq_true_iff_forall_mem] at hall
 simp only [Bool.and_eq_true] at hall
 simp only [wrIn,Array.all_eq_true_iff_forall_mem] at hw
 have hops:∀ o∈ops,opOk P o.op=true∧dstIn n pw o=true:=fun o ho=>by
  have h1:=hall o ho
  have h2:=hw o ho
  refine ⟨h1.1,?_⟩
  unfold dstIn
  cases hd:o.dst with
  |none=>rfl
  |some x=>rw [hd] at h1 h2;simp only [Bool.and_eq_true];exact ⟨h1.2,h2⟩
 unfold denx at h
 cases d with
 |false=>
  exact wp_region_list (opsFx_sound (X:=X) (ps:=ps) (Q:=PKx n ds pw X ps a0 K) hcl (fun a w hk h=>⟨hk,h⟩) (fun ch a w hk h=>⟨hk,h⟩) ops.toList (fun o ho=>hops o (by simpa using ho)) a w hk h)
 |true=>
  obtain ⟨S0,S,hS,h⟩:=h
  obtain ⟨hS,h⟩:=h _ hS
  refine wp_region_any hmix (wpT_any _ _ _ _ (anyFx_sound (X:=X) (ps:=ps) (Q:=PKx n ds pw X ps a0 K) hcl hsel (fun a w hk h=>⟨hk,h⟩) (fun ch a w hk h=>⟨hk,h⟩) (fun i o v c a w ho h=>by
   have hm:=Array.mem_of_getElem? ho
   have hd:=(hops o hm).2
   rw [Array.all_eq_true_iff_forall_mem] at hps
   have hk2:=KeptD.unput hd h.1
   exact ⟨hk2,by rw [←vals_put hd hk2.size (hps o hm) v];exact h.2⟩) (fun i o ho=>hops o (Array.mem_of_getElem? ho)) _ _ _ _ _ hk (fun _=>hS) h))
theorem denx_sound (hcl:∀ g,cl g=true→callable P g=true) (hmix:P.follows .mixedOrders=true):∀ (c:Code) (sk:Sk) (pw:Nat→Bool) (a0:Env),
  codeOkx P n ps c=true→wrIn pw c=true→skOk c sk=true→∀ (a:Act) (K:Cont) (w:World),KeptD n ds pw a0 a→denx P cl X ps c sk a.env K w→c.wp P (PKx n ds pw X ps a0 K) a w
 | .skip,sk,pw,a0,_,_,_,a,K,w,hk,h=>wp_skip ⟨hk,h⟩
 | .label _,sk,pw,a0,_,_,_,a,K,w,hk,h=>wp_label ⟨hk,h⟩
 | .exit _,sk,pw,a0,_,_,_,a,K,w,hk,h=>wp_exit ⟨hk,h⟩
 | .ret,sk,pw,a0,_,_,_,a,K,w,hk,h=>wp_ret ⟨hk,h⟩
 | .region id ops d,sk,pw,a0,hc,hw,_,a,K,w,hk,h=>regionx_sound hcl hmix hc hw hk h
 | .goto _,sk,pw,a0,_,_,_,a,K,w,hk,h=>h.elim
 | .refuse _,sk,pw,a0,_,_,_,a,K,w,hk,h=>h.elim
 | .rangeFunc _ _ _ _,sk,pw,a0,_,_,_,a,K,w,hk,h=>h.elim
 | .scope c,sk,pw,a0,hc,hw,hs,a,K,w,hk,h=>by
  refine wp_scope_straight ?_
  refine Code.wp_mono ?_ (denx_sound hcl hmix c sk.l pw a0 hc hw hs a K w hk h)
  intro e a w hq
  cases e<;>first|exact hq|exact hq.elim
 | .block id c,sk,pw,a0,hc,hw,hs,a,K,w,hk,h=>by
  refine wp_block ?_
  refine Code.wp_mono ?_ (denx_sound hcl hmix c sk.l pw a0 hc hw hs a _ w hk h)
  intro e a w hq
  cases e with
  |exit i=>
   obtain ⟨hk,hq⟩:=hq
   show if i=id then _ else _
   by_cases hi:i=id
   ·subst hi
    rw [if_pos rfl]
    have:Nat.beq i i=true:=by simp
    simp only [this] at hq
    exact ⟨hk,hq⟩
   ·rw [if_neg hi]
    have:Nat.beq i id=false:=by
     cases hb:Nat.beq i id with
     |false=>rfl
     |true=>exact absurd (Nat.eq_of_beq_eq_true hb) hi
    simp only [this] at hq
    exact ⟨hk,hq⟩
  |normal=>exact hq
  |ret=>exact hq
  |panic ch=>exact hq
  |_=>exact hq.elim
 | .cond c x y,sk,pw,a0,hc,hw,hs,a,K,w,hk,h=>by
  simp only [codeOkx,wrIn,skOk,Bool.and_eq_true] at hc hw hs
  unfold denx at h
  split at h
  ·rename_i t ht
   rw [env_ev] at ht
   refine wp_cond_split ht (fun hb=>?_) (fun hb=>?_)
   ·subst hb;exact denx_sound hcl hmix x sk.l pw a0 hc.1 hw.1 hs.1 a K w hk h
   ·subst hb;exact denx_sound hcl hmix y sk.r pw a0 hc.2 hw.2 hs.2 a K w hk h
  ·exact h.elim
 | .seq x y,sk,pw,a0,hc,hw,hs,a,K,w,hk,h=>by
  simp only [codeOkx,wrIn,skOk,Bool.and_eq_true] at hc hw hs
  refine wp_seq ?_
  have plain:denx P cl X ps x sk.l a.env { K with nrm:=fun ρ' w'=>denx P cl X ps y sk.r ρ' K w' } w→x.wp P (Exit.then (y.wp P (PKx n ds pw X ps a0 K)) (PKx n ds pw X ps a0 K)) a w:=fun h=>by
   refine Code.wp_mono ?_ (denx_sound hcl hmix x sk.l pw a0 hc.1 hw.1 hs.1.2 a _ w hk h)
   intro e a w hq
   cases e with
   |normal=>exact denx_sound hcl hmix y sk.r pw a0 hc.2 hw.2 hs.2 a K w hq.1 hq.2
   |_=>exact hq
  cases sk with
  |cut ms ts W l r=>
   simp only [Bool.and_eq_true] at hs
   obtain ⟨J,h1,h2⟩:=(show cutF ts ms W a.env (fun k=>denx P cl X ps x l a.env { K with nrm:=k } w) (fun ρ' w'=>denx P cl X ps y r ρ' K w') from h)
   have:=denx_sound hcl hmix x l (fun i=>pw i && memB i W) a.env hc.1 (wrIn_and hw.1 hs.1.1.1) hs.1.2 a _ w (KeptD.refl' hk.size hk.defers) h1
   refine Code.wp_mono ?_ this
   intro e b w' hq
   cases e with
   |normal=>
    obtain ⟨hkb,hq⟩:=hq
    have hall:=h2 b.env
    have hb:=app_all (by rw [vals_len];exact Nat.eq_of_beq_eq_true hs.1.1.2) hq hall w' hq
    rw [mix_env (fun i hi=>hkb.same i (by simp [hi]))] at hb
    exact denx_sound hcl hmix y r pw a0 hc.2 hw.2 hs.2 b K w' (hk.trans hkb) hb
   |exit i=>exact ⟨hk.trans hq.1,hq.2⟩
   |ret=>exact ⟨hk.trans hq.1,hq.2⟩
   |panic ch=>exact ⟨hk.trans hq.1,hq.2⟩
   |_=>exact hq.elim
  |leaf=>exact plain h
  |seq l r=>exact plain h
  |cond l r=>exact plain h
  |block l=>exact plain h
  |loop ms ts W l=>exact plain h
 | .loop c,sk,pw,a0,hc,hw,hs,a,K,w,hk,h=>by
  cases sk with
  |loop ms ts W l=>
   simp only [skOk,Bool.and_eq_true] at hs
   have hc:codeOkx P n ps c=true:=hc
   have hw:wrIn pw c=true:=hw
   obtain ⟨I,μ,h0,hstep⟩:=(show loopF ts ms W a.env (fun ρ' k w'=>denx P cl X ps c l ρ' { K with nrm:=k } w') w from h)
   have hlen:∀ e:Env,(vals ms e).length=ts.length:=fun e=>by rw [vals_len];exact Nat.eq_of_beq_eq_true hs.1.2
   refine wp_loop (fun b v=>KeptD n ds pw a0 b∧(∀ i,memB i W=false→b.env i=a.env i)∧app ts I (vals ms b.env) (fun p=>p v))
    (fun b v=>getC (fun _=>0) ts μ (vals ms b.env) v) ⟨hk,fun _ _=>rfl,h0⟩ ?_
   rintro b v ⟨hkb,hsame,hI⟩
   have hb:=app_all (hlen b.env) hI (hstep b.env) v hI
   rw [mix_env hsame] at hb
   have:=denx_sound hcl hmix c l (fun i=>pw i && memB i W) b.env hc (wrIn_and hw hs.1.1) hs.2 b _ v (KeptD.refl' hkb.size hkb.defers) hb
   refine Code.wp_mono ?_ this
   intro e b' v' hq
   cases e with
   |normal=>
    obtain ⟨hkb',hI',hμ⟩:=hq
    exact ⟨⟨hkb.trans hkb',fun i hi=>(hkb'.same i (by simp [hi])).trans (hsame i hi),hI'⟩,by
     have h1:=app_get (d:=fun _=>0) hμ
     exact app_get (d:=fun _=>0) h1⟩
   |exit i=>exact ⟨hkb.trans hq.1,hq.2⟩
   |ret=>exact ⟨hkb.trans hq.1,hq.2⟩
   |panic ch=>exact ⟨hkb.trans hq.1,hq.2⟩
   |_=>exact hq.elim
  |_=>exact False.elim h
def fnOkx (P:Program) (n:Nat) (fn:Func) (sk:Sk) (ps:List Nat):Bool:=
 Nat.beq n fn.ntmps && (match fn.body with|some c=>codeOkx P n ps c && wrIn (fun _=>true) c && skOk c sk|none=>false) &&
  fn.results.all fun r=>match r with| .tmp _=>true| .cell _ t=>ldOk P t
def fnFx (P:Program) (cl:FuncId→Bool) (X:List PanicEntry→World→Prop) (fn:Func) (sk:Sk) (args:List Value) (K:Value→World→Prop) (w:World):Prop:=
 match fn.body with
 |some c=>denx P cl (fun ch _ w=>X ch w) [] c sk (argEnv args) { nrm:=fun ρ w=>resF P ρ K fn.results.toList [] w,ex:=fun _ _ _=>False,ret:=fun ρ w=>resF P ρ K fn.results.toList [] w } w
 |none=>False
def GetsX (P:Program) (f:FuncId) (args:Array Value) (w:World) (X:List PanicEntry→World→Prop) (K:Value→World→Prop):Prop:=
 Calls P f args w fun e w'=>(∃ v,e=.returned v∧K v w')∨∃ ch,e=.panicked ch∧X ch w'
theorem GetsX.use {f:FuncId} {args:Array Value} {w:World} {X:List PanicEntry→World→Prop} {K:Value→World→Prop} {R:Ending→World→Prop} (h:GetsX P f args w X K) (k:∀ v w',K v w'→R (.returned v) w') (kx:∀ ch w',X ch w'→R (.panicked ch) w'):Calls P f args w R:=
 Calls.mono h fun e w' he=>by
  rcases he with ⟨v,rfl,hq⟩|⟨ch,rfl,hq⟩
  ·exact k v w' hq
  ·exact kx ch w' hq
theorem enter_env {fn:Func} {args:List Value}:({ tmps:=args.toArray++Array.replicate (fn.ntmps - args.toArray.size) undef,defers:=[] }:Act).env=argEnv args:=by
 funext i
 rw [argEnv_get]
 simp only [Act.env]
 rcases Nat.lt_or_ge i args.length with hi|hi
 ·simp [Array.getElem?_append,hi]
 ·simp only [Array.getD_eq_getD_getElem?,Array.getElem?_append,List.size_toArray,if_neg (Nat.not_lt.2 hi),Array.getElem?_replicate,List.getD_eq_getElem?_getD,List.getElem?_eq_none hi]
  split<;>rfl
theorem res_of {fn:Func} (hres:(fn.results.all fun r=>match r with| .tmp _=>true| .cell _ t=>ldOk P t)=true) {a:Act} {K:Value→World→Prop} {w:World} (hr:resF P a.env K fn.results.toList [] w):
  ∃ v,(results fn a.tmps).run P w=.ok v w∧K v w:=by
 obtain ⟨vs,hvs,hf⟩:=resF_sound fn.results.toList [] (fun r hr=>by
  rw [Array.all_eq_true_iff_forall_mem] at hres
  exact hres r (by simpa using hr)) hr
 have hm:(fn.results.mapM (resSem a.tmps)).run P w=.ok vs.toArray w:=by
  rw [Array.mapM_eq_mapM_toList]
  simp only [Sem.run_map,hvs,Result.andThen_ok]
 refine ⟨_,by rw [results_eq,Sem.run_bind,hm];rfl,?_⟩
 cases vs with
 |nil=>exact hf
 |cons v vs=>cases vs with
  |nil=>exact hf
  |cons u us=>exact hf
theorem callsx_of {f:FuncId} {fn:Func} {sk:Sk} (hcl:∀ g,cl g=true→callable P g=true) (hmix:P.follows .mixedOrders=true)
  (hf:P.funcs[f]? =some fn) (hok:fnOkx P fn.ntmps fn sk []=true) {args:List Value} {X:List PanicEntry→World→Prop} {K:Value→World→Prop} {w:World} (hargs:args.length≤fn.ntmps)
  (h:fnFx P cl X fn sk args K w):GetsX P f args.toArray w X K:=by
 unfold GetsX
 unfold fnFx at h
 unfold fnOkx at hok
 simp only [Bool.and_eq_true] at hok
 obtain ⟨⟨_,hbody⟩,hres⟩:=hok
 split at h
 case h_2=>exact h.elim
 rename_i c hb
 rw [hb] at hbody
 simp only [Bool.and_eq_true] at hbody
 refine calls_of_wp hf hb ?_
 rw [←enter_env (fn:=fn)] at h
 refine Code.wp_mono ?_ (denx_sound (n:=fn.ntmps) (ds:=[]) hcl hmix c sk (fun _=>true) _ hbody.1.1 hbody.1.2 hbody.2 _ _ w (KeptD.refl' (by simp;omega) rfl) h)
 intro e a w hq
 cases e with
 |normal=>obtain ⟨v,h1,h2⟩:=res_of hres hq.2;exact ⟨hq.1.defers,v,h1,.inl ⟨v,rfl,h2⟩⟩
 |ret=>obtain ⟨v,h1,h2⟩:=res_of hres hq.2;exact ⟨hq.1.defers,v,h1,.inl ⟨v,rfl,h2⟩⟩
 |exit i=>exact hq.2.elim
 |panic ch=>exact ⟨hq.1.defers,.inr ⟨ch,rfl,hq.2⟩⟩
 |_=>exact hq.elim
end Go.VC
/- VX, part 4: deferred functions that recover; functions that defer one call, at their beginning. No condition. -/
namespace Go.VC
set_option linter.unusedVariables false
set_option linter.unusedSimpArgs false
open Go
section
variable {P:Program} {cl:FuncId→Bool}
theorem opsF_S (hcl:∀ g,cl g=true→callable P g=true) {ops:Array Oper} {K:Env→World→Prop} {n:Nat} {pw:Nat→Bool} {a0:Env} {cs:List Frame} {Q:Exit→Act→List Frame→World→Prop}
    (hQ:∀ a w,Kept n pw a0 a→K a.env w→Q .normal a cs w):∀ (l:List Nat) (os:List Oper) (_:l.map (fun i=>ops[i]?)=os.map some) (_:∀ o∈os,opOk P o.op=true∧dstIn n pw o=true) (a:Act) (w:World),
      Kept n pw a0 a→opsF P cl ops os a.env K w→wpOpsS P ops Q l a cs w
  |[],os,hl,_,a,w,hk,h=>by
    have:os=[]:=by cases os with
      |nil=>rfl
      |cons _ _=>simp at hl
    subst this
    exact hQ a w hk h
  |i::l,os,hl,hok,a,w,hk,h=>by
    cases os with
    |nil=>simp at hl
    |cons o os=>
      simp only [List.map_cons,List.cons.injEq] at hl
      obtain ⟨hi,hl⟩:=hl
      have ho:=hok o (List.mem_cons_self ..)
      have hrest:=fun x hx=>hok x (List.mem_cons_of_mem _ hx)
      unfold opsF at h
      simp only [wpOpsS,hi]
      rcases guardF_sound h with ⟨hw,h⟩|⟨hw,h⟩
      · rw [if_pos hw]
        have h2:=opE_sound hcl (a:=a) (Q:=fun e a' w'=>Q e a' cs w') ho.1 h
        rw [env_ev] at h2
        have key:o.upon P a (fun a' w'=>wpOpsS P ops Q l a' cs w') (fun e a' w'=>Q e a' cs w') ((execOp a.eval o).run P w):=by
          refine opsF_sound.upon_mono ?_ h2
          rintro a' w' ⟨v,rfl,hv⟩
          refine opsF_S hcl hQ l os hl hrest _ w' (hk.put ho.2 v) ?_
          rw [hk.envput ho.2];exact hv
        split
        · rename_i w' hr
          rw [hr] at key
          exact key.elim
        · exact key
      · rw [hw]
        simp only [Bool.false_eq_true,if_false]
        refine opsF_S hcl hQ l os hl hrest _ w (hk.put ho.2 _) ?_
        rw [hk.envput ho.2];exact h
def recF (P:Program) (cl:FuncId→Bool) (fn:Func) (sk:Sk) (args:List Value) (x:Value) (K:World→Prop) (w:World):Prop:=
  match fn.body with
  |some (.seq (.region _ o0 false) rest)=>(match o0.toList with
    |orec::tl=>opsF P cl o0 tl ((argEnv args).put orec.dst x) (fun ρ w=>den P cl rest sk ρ { nrm:=fun _ w=>K w,ex:=fun _ _ _=>False,ret:=fun _ w=>K w } w) w
    |[]=>False)
  |_=>False
def recOk (P:Program) (fn:Func) (sk:Sk):Bool:=
  (match fn.body with
  |some (.seq (.region _ o0 false) rest)=>(match o0.toList with
    |orec::tl=>(match orec.op with| .call ⟨.builtin .recover,_,_⟩=>true|_=>false) && orec.guard.isNone && (match orec.dst with|some d=>Nat.blt d fn.ntmps|none=>true) &&
        (tl.all fun o=>opOk P o.op && dstIn fn.ntmps (fun _=>true) o) && codeOk P fn.ntmps rest && wrIn (fun _=>true) rest && skOk rest sk
    |[]=>false)
  |_=>false) && fn.results.isEmpty
theorem rec_key (hcl:∀ g,cl g=true→callable P g=true) (hmix:P.follows .mixedOrders=true) {f:FuncId} {fn:Func} {sk:Sk} (hf:P.funcs[f]? =some fn) (hok:recOk P fn sk=true) {args:List Value} (hargs:args.length≤fn.ntmps)
    {K:World→Prop} {w:World} {u u':FrameMode} {x:Value} (hrec:∀ (c₀:Frame) (cs:List Frame),c₀.mode=u→(recoverD (c₀::cs)=some (x,{ c₀ with mode:=u' }::cs))∨(recoverD (c₀::cs)=none∧x=.nilIface∧u'=u))
    (h:recF P cl fn sk args x K w):CallsD P f args.toArray u w fun e v w'=>(∃ y,e=.returned y)∧v=u'∧K w':=by
  unfold recOk at hok
  unfold recF at h
  rw [Bool.and_eq_true] at hok
  obtain ⟨hok,hres⟩:=hok
  split at h
  case h_2=>exact h.elim
  rename_i id o0 rest hb
  rw [hb] at hok
  simp only at hok
  split at h
  case h_2=>exact h.elim
  rename_i orec tl ho
  rw [ho] at hok
  simp only [Bool.and_eq_true] at hok
  obtain ⟨⟨⟨⟨⟨⟨hop,hg⟩,hd⟩,htl⟩,hco⟩,hwr⟩,hsk⟩:=hok
  have henv:=enter_env (fn:=fn) (args:=args)
  refine callsD_of_wpS hf hb fun c₀ cs hc=>wpS_seq (wpS_region ?_)
  generalize hA:({ tmps:=args.toArray++Array.replicate (fn.ntmps - args.toArray.size) undef,defers:=[] }:Act)=A at henv
  have hAs:A.tmps.size=fn.ntmps:=by rw [←hA];simp;omega
  have hAd:A.defers=[]:=by rw [←hA]
  have hres0:fn.results=#[]:=by simpa using hres
  have hsize:o0.size=tl.length + 1:=by rw [←Array.length_toList,ho];simp
  have hrange:List.range o0.size=0::(List.range tl.length).map (· + 1):=by rw [hsize,List.range_succ_eq_map]
  rw [hrange]
  have h0:o0[0]? =some orec:=by rw [←Array.getElem?_toList,ho];rfl
  have hmap:((List.range tl.length).map (· + 1)).map (fun i=>o0[i]?)=tl.map some:=by
    rw [List.map_map]
    apply List.ext_getElem?
    intro i
    simp only [List.getElem?_map]
    by_cases hi:i<tl.length
    · simp only [List.getElem?_range hi,Option.map_some,Function.comp]
      rw [←Array.getElem?_toList,ho,List.getElem?_cons_succ]
      simp [hi]
    · rw [List.getElem?_eq_none (by simpa using hi),List.getElem?_eq_none (by omega)];rfl
  have hrun:(execOp A.eval orec).run P w=.ok .recover w:=by
    obtain ⟨dst,op,ty,pos,after,guard⟩:=orec
    dsimp only at hop
    split at hop
    · rfl
    · cases hop
  have hwant:Region.wanted orec (yielded o0 A.tmps)=true:=by
    unfold Region.wanted
    rw [Option.isNone_iff_eq_none.1 hg]
  have hdst:dstIn fn.ntmps (fun _=>true) orec=true:=by
    unfold dstIn
    cases hx:orec.dst with
    |none=>rfl
    |some d=>rw [hx] at hd;simpa using hd
  have hk0:Kept fn.ntmps (fun _=>true) A.env A:=Kept.refl hAs hAd
  have go:∀ (cs':List Frame),cs'={ c₀ with mode:=u' }::cs→wpOpsS P o0 (Exit.thenS (rest.wpS P (bodyPostS P fn c₀ cs fun e v w'=>(∃ y,e=.returned y)∧v=u'∧K w')) (bodyPostS P fn c₀ cs fun e v w'=>(∃ y,e=.returned y)∧v=u'∧K w'))
      ((List.range tl.length).map (· + 1)) (A.put orec.dst x) cs' w:=fun cs' hcs=>by
    refine opsF_S (n:=fn.ntmps) (pw:=fun _=>true) (a0:=A.env) (K:=fun ρ w=>den P cl rest sk ρ { nrm:=fun _ w=>K w,ex:=fun _ _ _=>False,ret:=fun _ w=>K w } w) hcl ?_ _ tl hmap (fun o hm=>by
      have:=List.all_eq_true.1 htl o hm
      simpa using this) _ w (hk0.put hdst x) ?_
    · intro a w hk hden
      refine wpS_of_wp ?_
      refine Code.wp_mono ?_ (den_sound (n:=fn.ntmps) hcl hmix rest sk (fun _=>true) a.env hco hwr hsk a _ w (Kept.refl hk.size hk.defers) hden)
      have fin:∀ (a:Act) (w:World),a.defers=[]→K w→a.defers=[]∧∃ u'',cs'={ c₀ with mode:=u'' }::cs∧∃ v,(results fn a.tmps).run P w=.ok v w∧((∃ y,Ending.returned v=.returned y)∧u''=u'∧K w):=fun a w hd hK=>
        ⟨hd,u',hcs,.tuple #[],by
          simp [results,hres0],⟨_,rfl⟩,rfl,hK⟩
      intro e b w hq
      cases e with
      |normal=>exact fin b w hq.1.defers hq.2
      |ret=>exact fin b w hq.1.defers hq.2
      |exit i=>exact hq.2.elim
      |_=>exact hq.elim
    · rw [hk0.envput hdst,henv];exact h
  simp only [wpOpsS,h0,hwant,if_true,hrun]
  rcases hrec c₀ cs hc with hr|⟨hr,rfl,rfl⟩
  · rw [hr];exact go _ rfl
  · rw [hr];exact go _ (by rw [←hc])
theorem rec_panic (hcl:∀ g,cl g=true→callable P g=true) (hmix:P.follows .mixedOrders=true) {f:FuncId} {fn:Func} {sk:Sk} (hf:P.funcs[f]? =some fn) (hok:recOk P fn sk=true) {args:List Value} (hargs:args.length≤fn.ntmps)
    {K:World→Prop} {w:World} {x:Value} (h:recF P cl fn sk args x K w):
    CallsD P f args.toArray (.panicking [{ v:=x,recovered:=false }]) w fun e v w'=>(∃ y,e=.returned y)∧v=.panicking [{ v:=x,recovered:=true }]∧K w':=
  rec_key hcl hmix hf hok hargs (fun c₀ cs hc=>.inl (by simp [recoverD,hc])) h
theorem rec_return (hcl:∀ g,cl g=true→callable P g=true) (hmix:P.follows .mixedOrders=true) {f:FuncId} {fn:Func} {sk:Sk} (hf:P.funcs[f]? =some fn) (hok:recOk P fn sk=true) {args:List Value} (hargs:args.length≤fn.ntmps)
    {K:World→Prop} {w:World} (h:recF P cl fn sk args .nilIface K w):
    CallsD P f args.toArray .returning w fun e v w'=>(∃ y,e=.returned y)∧v=.returning∧K w':=
  rec_key hcl hmix hf hok hargs (fun c₀ cs hc=>.inr ⟨by simp [recoverD,hc],rfl,rfl⟩) h
def resFv (P:Program) (K:Value→World→Prop):List ResultVar→List Value→List Value→World→Prop
  |[],_,acc,w=>fin1 K acc.reverse w
  | .tmp _::rs,v::vs,acc,w=>resFv P K rs vs (v::acc) w
  | .cell _ t::rs,v::vs,acc,w=>loadF P (fun w'=>w'=w) t v fun x=>resFv P K rs vs (x::acc) w
  |_::_,[],_,_=>False
def slotOf:ResultVar→Nat| .tmp t=>t| .cell a _=>a
theorem resFv_eq {ρ:Env} {K:Value→World→Prop}:∀ (rs:List ResultVar) (acc:List Value) (w:World),resFv P K rs (vals (rs.map slotOf) ρ) acc w→resF P ρ K rs acc w
  |[],_,_,h=>h
  | .tmp t::rs,acc,w,h=>resFv_eq rs (ρ t::acc) w h
  | .cell a t::rs,acc,w,h=>by
    have h:loadF P (fun w'=>w'=w) t (ρ a) fun x=>resFv P K rs (vals (rs.map slotOf) ρ) (x::acc) w:=h
    show loadF P (fun w'=>w'=w) t (ρ a) fun x=>resF P ρ K rs (x::acc) w
    have mono:∀ {F G:Value→Prop},(∀ x,F x→G x)→loadF P (fun w'=>w'=w) t (ρ a) F→loadF P (fun w'=>w'=w) t (ρ a) G:=fun {F G} hFG hl=>by
      have exm:∀ {ty:Ty} {F G:Value→Prop},(∀ x,F x→G x)→ty.ex F→ty.ex G:=fun {ty F G} hFG h=>by
        cases ty<;>(obtain ⟨y,hy⟩:=h;exact ⟨y,hFG _ hy⟩)
      have exA:∀ {ts:List Ty} {F G:List Value→Prop},(∀ x,F x→G x)→exAll ts F→exAll ts G:=fun {ts}=>by
        induction ts with
        |nil=>exact fun hFG h=>hFG _ h
        |cons ty ts ih=>exact fun hFG h=>exm (fun v hv=>ih (fun x hx=>hFG _ hx) hv) h
      unfold loadF at hl ⊢
      split at hl
      · unfold NilP at hl ⊢
        split at hl
        · cases hagg:isAggT P t
          · simp only [hagg] at hl ⊢
            exact exm (fun x hx=>⟨hx.1,hFG _ hx.2⟩) hl
          · simp only [hagg] at hl ⊢
            split at hl
            · exact exA (fun x hx=>⟨hx.1,hFG _ hx.2⟩) hl
            · obtain ⟨vs,h1,h2,h3⟩:=hl
              exact ⟨vs,h1,h2,hFG _ h3⟩
        · exact hl.elim
      · exact hl.elim
    exact mono (fun x hx=>resFv_eq rs (x::acc) w hx) h
def LeaveF (P:Program) (g:FuncId) (args:List Value) (u:FrameMode) (Kr:World→Prop) (w:World):Prop:=
  CallsD P g args.toArray u w fun e u' w'=>(∃ y,e=.returned y)∧settle u'=.returning∧Kr w'
def tgtF (cl:FuncId→Bool) (f:Value) (K:FuncId→List Value→List Value→Prop):Prop:=
  match f with
  | .func fn first captured=>(match fn with
    | .func g=>(match cl g with
      |true=>K g first.toList captured.toList
      |false=>False)
    |_=>False)
  |_=>False
def defF (P:Program) (cl:FuncId→Bool) (fn:Func) (sk:Sk) (args:List Value) (K:Value→World→Prop) (w:World):Prop:=
  match fn.body with
  |some (.seq (.region _ o0 false) (.seq (.region _ o1 false) rest))=>
    opsF P cl o0 o0.toList (argEnv args) (fun ρ w=>opsF P cl o1 o1.toList.dropLast ρ (fun ρ w=>
      match o1.toList.getLast? with
      |some od=>(match od.op with
        | .defer c=>(match c.callee with
          | .value f=>tgtF cl (ρ.ev f) fun g first captured=>
              denx P cl (fun ch vs w=>LeaveF P g (first++((c.args.map ρ.ev).toList++captured)) (.panicking ch) (resFv P K fn.results.toList vs []) w) (fn.results.toList.map slotOf) rest sk ρ
                { nrm:=fun ρ' w=>LeaveF P g (first++((c.args.map ρ.ev).toList++captured)) .returning (resFv P K fn.results.toList (vals (fn.results.toList.map slotOf) ρ') []) w,ex:=fun _ _ _=>False,
                  ret:=fun ρ' w=>LeaveF P g (first++((c.args.map ρ.ev).toList++captured)) .returning (resFv P K fn.results.toList (vals (fn.results.toList.map slotOf) ρ') []) w } w
          |_=>False)
        |_=>False)
      |none=>False) w) w
  |_=>False
def defOk (P:Program) (cl:FuncId→Bool) (fn:Func) (sk:Sk):Bool:=
  (match fn.body with
  |some (.seq (.region _ o0 false) (.seq (.region _ o1 false) rest))=>
    (o0.toList.all fun o=>opOk P o.op && dstIn fn.ntmps (fun _=>true) o) && (o1.toList.dropLast.all fun o=>opOk P o.op && dstIn fn.ntmps (fun _=>true) o) &&
      (match o1.toList.getLast? with|some od=>od.guard.isNone && od.dst.isNone|none=>false) &&
      codeOkx P fn.ntmps (fn.results.toList.map slotOf) rest && wrIn (fun _=>true) rest && skOk rest sk
  |_=>false) && fn.results.all fun r=>match r with| .tmp _=>true| .cell _ t=>ldOk P t
theorem wpList_app {ops:Array Oper} {Q:Exit→Act→World→Prop}:∀ (l l':List Oper) (a:Act) (w:World),wpList P ops (Exit.then (fun a w=>wpList P ops Q l' a w) Q) l a w→wpList P ops Q (l++l') a w
  |[],l',a,w,h=>h
  |o::l,l',a,w,h=>by
    unfold wpList at h
    rw [List.cons_append]
    unfold wpList
    by_cases hw:Region.wanted o (yielded ops a.tmps)=true
    · rw [if_pos hw] at h ⊢
      rcases h with h|h
      · refine .inl ?_
        unfold Oper.wp at h ⊢
        revert h
        cases (execOp a.eval o).run P w with
        |ok x w'=>
          cases x<;>simp only [Oper.upon]<;>
            first
              |exact fun h=>wpList_app l l' _ _ h
              |(intro h;refine Calls.mono h ?_;intro e w'' he;cases e<;>first|exact wpList_app l l' _ _ he|exact he)
              |(intro h;exact Rows.mono h fun _ _ he=>wpList_app l l' _ _ he)
              |exact fun h=>h
        |halt x w'=>cases x<;>simp only [Oper.upon]<;>exact fun h=>h
      · exact .inr h
    · rw [if_neg hw] at h ⊢
      exact wpList_app l l' _ _ h
theorem CallsD.mono {f:FuncId} {args:Array Value} {u:FrameMode} {w:World} {R R':Ending→FrameMode→World→Prop} (h:CallsD P f args u w R) (k:∀ e u w,R e u w→R' e u w):CallsD P f args u w R':=
  fun c cs hc=>let ⟨e,u',w',fr,r,s⟩:=h c cs hc;⟨e,u',w',fr,k _ _ _ r,s⟩
theorem leave_sound (hcl:∀ g,cl g=true→callable P g=true) {fn:Func} (hres:(fn.results.all fun r=>match r with| .tmp _=>true| .cell _ t=>ldOk P t)=true) {a:Act} {g:FuncId} (hg:cl g=true) {first cargs captured:Array Value} {u:FrameMode} (hu:u≠.run)
    {K:Value→World→Prop} {w:World} (h:LeaveF P g (first.toList++(cargs.toList++captured.toList)) u (resFv P K fn.results.toList (vals (fn.results.toList.map slotOf) a.env) []) w):
    Leaves P fn a.tmps (fun e w'=>∃ v,e=.returned v∧K v w') [{ target:=.fn (.func g) captured,args:=first++cargs }] u w:=by
  refine ⟨hu,_,_,g,(first.toList++(cargs.toList++captured.toList)).toArray,rfl,?_,?_⟩
  · have e:(first++cargs)++captured=(first.toList++(cargs.toList++captured.toList)).toArray:=by apply Array.ext';simp
    simp only [invoke,e]
    exact callFunc_run (hcl g hg) _ w
  · refine CallsD.mono h ?_
    rintro e u' w' ⟨⟨y,rfl⟩,hs,hr⟩
    show Leaves P fn a.tmps _ [] (settle u') w'
    rw [hs]
    obtain ⟨v,h1,h2⟩:=res_of hres (resFv_eq _ _ _ hr)
    exact ⟨v,h1,v,rfl,h2⟩
theorem callsd_of (hcl:∀ g,cl g=true→callable P g=true) (hmix:P.follows .mixedOrders=true) {f:FuncId} {fn:Func} {sk:Sk} (hf:P.funcs[f]? =some fn) (hok:defOk P cl fn sk=true) {args:List Value} (hargs:args.length≤fn.ntmps)
    {K:Value→World→Prop} {w:World} (h:defF P cl fn sk args K w):Gets P f args.toArray w K:=by
  unfold Gets
  unfold defOk at hok
  unfold defF at h
  rw [Bool.and_eq_true] at hok
  obtain ⟨hok,hres⟩:=hok
  split at h
  case h_2=>exact h.elim
  rename_i i0 o0 i1 o1 rest hb
  rw [hb] at hok
  simp only [Bool.and_eq_true] at hok
  obtain ⟨⟨⟨⟨⟨h0,h1⟩,hlast⟩,hco⟩,hwr⟩,hsk⟩:=hok
  refine calls_of_wp_defers hf hb ?_
  have henv:=enter_env (fn:=fn) (args:=args)
  generalize hA:({ tmps:=args.toArray++Array.replicate (fn.ntmps - args.toArray.size) undef,defers:=[] }:Act)=A at henv
  have hAs:A.tmps.size=fn.ntmps:=by rw [←hA];simp;omega
  have hAd:A.defers=[]:=by rw [←hA]
  rw [←henv] at h
  refine wp_seq (wp_region_list (opsF_sound (n:=fn.ntmps) (pw:=fun _=>true) (a0:=A.env) hcl ?_ o0.toList (fun o ho=>by have:=List.all_eq_true.1 h0 o ho;simpa using this) A w (Kept.refl hAs hAd) h))
  clear h
  intro a w hk h
  show (Code.seq (.region i1 o1 false) rest).wp P _ a w
  refine wp_seq (wp_region_list ?_)
  cases hl:o1.toList.getLast? with
  |none=>rw [hl] at hlast;cases hlast
  |some od=>
    rw [hl] at hlast
    simp only [Bool.and_eq_true] at hlast
    have hsplit:o1.toList=o1.toList.dropLast++[od]:=by
      obtain ⟨l,hl2⟩:=List.getLast?_eq_some_iff.1 hl
      rw [hl2];simp
    rw [hsplit]
    refine wpList_app _ _ _ _ ?_
    refine opsF_sound (n:=fn.ntmps) (pw:=fun _=>true) (a0:=a.env) hcl ?_ o1.toList.dropLast (fun o ho=>by have:=List.all_eq_true.1 h1 o ho;simpa using this) a w (Kept.refl hk.size hk.defers) h
    clear h
    intro b w hkb h
    show wpList P o1 _ [od] b w
    unfold wpList
    have hwant:Region.wanted od (yielded o1 b.tmps)=true:=by
      unfold Region.wanted
      rw [Option.isNone_iff_eq_none.1 hlast.1]
    rw [if_pos hwant]
    refine .inl ?_
    rw [hl] at h
    simp only at h
    clear hsplit hl hwant h1
    obtain ⟨dst,op,ty,pos,after,guard⟩:=od
    dsimp only at h hlast
    obtain ⟨hg0,hd0⟩:=hlast
    have hd0:=Option.isNone_iff_eq_none.1 hd0
    subst hd0
    split at h
    case h_2=>exact h.elim
    rename_i c
    obtain ⟨callee,cargs,ats⟩:=c
    dsimp only at h
    split at h
    case h_2=>exact h.elim
    rename_i fv
    unfold tgtF at h
    split at h
    case h_2=>exact h.elim
    rename_i fn' first captured hfv
    split at h
    case h_2=>exact h.elim
    rename_i g
    split at h
    case h_2=>exact h.elim
    rename_i hg
    have hrun:(execOp b.eval ⟨none,.defer ⟨.value fv,cargs,ats⟩,ty,pos,after,guard⟩).run P w=.ok (.defer { target:=.fn (.func g) captured,args:=first++cargs.map b.eval }) w:=by
      rw [env_ev] at hfv
      simp only [execOp,resolve,hfv,Deferred.ofValue]
      simp
    unfold Oper.wp
    rw [hrun]
    rw [env_ev] at h
    generalize hB:({ tmps:=b.tmps,defers:={ target:=.fn (.func g) captured,args:=first++cargs.map b.eval }::b.defers }:Act)=B
    have hBe:B.env=b.env:=by rw [←hB];rfl
    have hBs:B.tmps.size=fn.ntmps:=by rw [←hB];exact hkb.size
    have hBd:B.defers=[{ target:=.fn (.func g) captured,args:=first++cargs.map b.eval }]:=by rw [←hB];simp [hkb.defers]
    rw [Oper.upon_defer]
    show wpList P o1 _ [] ({ b with defers:={ target:=.fn (.func g) captured,args:=first++cargs.map b.eval }::b.defers }.put none undef) w
    show rest.wp P _ ({ b with defers:={ target:=.fn (.func g) captured,args:=first++cargs.map b.eval }::b.defers }.put none undef) w
    have hput:({ b with defers:={ target:=.fn (.func g) captured,args:=first++cargs.map b.eval }::b.defers }:Act).put none undef=B:=hB
    rw [hput]
    rw [←hBe] at h
    refine Code.wp_mono ?_ (denx_sound (n:=fn.ntmps) (ds:=[{ target:=.fn (.func g) captured,args:=first++cargs.map b.eval }]) hcl hmix rest sk (fun _=>true) B.env hco hwr hsk B _ w (KeptD.refl' hBs hBd) h)
    intro e a' w' hq
    cases e with
    |normal=>
      show Leaves P fn a'.tmps _ a'.defers .returning w'
      rw [hq.1.defers]
      exact leave_sound hcl hres hg (by simp) hq.2
    |ret=>
      show Leaves P fn a'.tmps _ a'.defers .returning w'
      rw [hq.1.defers]
      exact leave_sound hcl hres hg (by simp) hq.2
    |exit i=>exact hq.2.elim
    |panic ch=>
      show Leaves P fn a'.tmps _ a'.defers (.panicking ch) w'
      rw [hq.1.defers]
      exact leave_sound hcl hres hg (by simp) hq.2
    |_=>exact hq.elim
end
end Go.VC
/- The formulas of functions of this seat's translation, printed by a program of mine off the translation; each is proved equal to 'fnF' of the function's body, so it is enough for the call. No condition. -/
namespace Go.Proofs.YtlplemdmegpoeaaGreatDoor
open Go Go.VC
set_option linter.unusedVariables false
set_option maxRecDepth 10000
def clList:List Nat:=[3,4,5,6,7,8,9,10,11,12,13,14,15,16,17,18,19,20,21,22,23,24,25,26,27,28,29,30,31,32,33,34,35,36,37,38,39,40,41,42,43,44,45,46,47,48,49,50,51,52,53,54,55,56,57,58,59,60,61,62,63,64,65,66,67,68,69,70,71,72,73,74,75,76,77,78,79,80,81,82,83,84,85,86,87,88,89,90,91,92,93,94,95,96,97,98,99,100,101,102,103,104,105,106,107,108,109,110,111,112,113,114,115,116,117,118,119,120,121,122,123,124,125,126,127,128,129,130,131,132,133,134,135,136,137,138,139,140,141,142,143,144,145,146,147,148,149,150,151,152,153,154,155,156,157,158,159,160,161,162,163,164,165,166,167,168,169,170,171,172,173,174,175,176,177,178,179,180,181,182,183,184,185,186,187,188,189,190,191,192,193,194,195,196,197,198,199,200,201,202,203,204,205,206,207,208,209,211,212,213,214,215,216,217,218,219,220,221,223,224,225,226,227,228,229,230,231,232,233,234,235,236,237,238,239,240,241,242,243,244,246,247,248,249,250,251,252,253,254,255,256,257,258,259,260,261,262,263,264,265,266,267,268,269,270,271,272,273,274,275,276,277,278,279,280,281,283,284,286,287,288,289,290,292,293,294,295,296,297,298,299,300,301,302,303,304,305,306,307,308,309,311,312,313,314,315,316,317]
def cl:FuncId→Bool:=fun g=>memB g clList
theorem clList_ok:clList.all (callable Tryz.prog)=true:=by kernel_rfl
theorem cl_ok (g:FuncId) (h:cl g=true):callable Tryz.prog g=true:=by
  have key:∀ l:List Nat,memB g l=true→l.all (callable Tryz.prog)=true→callable Tryz.prog g=true:=fun l=>by
    induction l with
    |nil=>intro h;cases h
    |cons x l ih=>
      intro h h2
      simp only [List.all_cons,Bool.and_eq_true] at h2
      simp only [memB] at h
      split at h
      · rename_i hb;rw [Nat.eq_of_beq_eq_true hb];exact h2.1
      · exact ih h h2.2
  exact key _ h clList_ok
theorem mixed:Tryz.prog.follows .mixedOrders=true:=by kernel_rfl
theorem cq {f:FuncId} {fn:Func} {sk:Sk} {args:List Value} {K:Value→World→Prop} {w:World} {B:Prop} (h:B) (hf:Tryz.prog.funcs[f]? =some fn) (hok:fnOk Tryz.prog fn.ntmps fn sk=true:=by kernel_rfl) (ha:Nat.ble args.length fn.ntmps=true:=by kernel_rfl) (he:fnF Tryz.prog cl fn sk args K w=B:=by kernel_rfl):Gets Tryz.prog f args.toArray w K:=calls_of cl_ok mixed hf hok (Nat.le_of_ble_eq_true ha) (Eq.mpr he h)
theorem cqx {f:FuncId} {fn:Func} {sk:Sk} {args:List Value} {X:List PanicEntry→World→Prop} {K:Value→World→Prop} {w:World} {B:Prop} (h:B) (hf:Tryz.prog.funcs[f]? =some fn) (hok:fnOkx Tryz.prog fn.ntmps fn sk []=true:=by kernel_rfl) (ha:Nat.ble args.length fn.ntmps=true:=by kernel_rfl) (he:fnFx Tryz.prog cl X fn sk args K w=B:=by kernel_rfl):GetsX Tryz.prog f args.toArray w X K:=callsx_of cl_ok mixed hf hok (Nat.le_of_ble_eq_true ha) (Eq.mpr he h)
theorem cqd {f:FuncId} {fn:Func} {sk:Sk} {args:List Value} {K:Value→World→Prop} {w:World} {B:Prop} (h:B) (hf:Tryz.prog.funcs[f]? =some fn) (hok:defOk Tryz.prog cl fn sk=true:=by kernel_rfl) (ha:Nat.ble args.length fn.ntmps=true:=by kernel_rfl) (he:defF Tryz.prog cl fn sk args K w=B:=by kernel_rfl):Gets Tryz.prog f args.toArray w K:=callsd_of cl_ok mixed hf hok (Nat.le_of_ble_eq_true ha) (Eq.mpr he h)
def B75 (c:Sl) (K:Value→World→Prop) (w:World):Prop:=
 Br c.a.isNone
 (K (.slice none 0 0) w)
 (New (.cells #[] 5 (0,0)) (fun e f=>
 ∃ d:World,∃ b:Sl,((Builtin.append_ #[47,47] 47 #[.slice ((some ⟨e,0,none⟩)) 0 0,.slice c.a c.len c.cap]).run Tryz.prog f=.ok (.slice b.a b.len b.cap) d)∧
 K (.slice b.a b.len b.cap) d) w)
theorem call75 (b:Sl) (K:Value→World→Prop) (w:World) (h:B75 b K w):Gets Tryz.prog 75 #[.slice b.a b.len b.cap] w K:=cq (sk:=.leaf) h Tryz.func75
def B128 (j:Int) (K:Value→World→Prop) (w:World):Prop:=
 Calls Tryz.prog 205 #[.int .u64 j] w fun n o=>
 ∃ g:Int,(n=.returned (.int .i64 g))∧
 New (.cells #[.int .u8 (IntKind.u8.wrap (IntKind.i64.wrap ((IntKind.i64.wrap (g + 7)).tdiv 8)))] 5 (0,0)) (fun l p=>
 ∃ (f:Int→Sl→World→Prop) (k:Int→Sl→World→Nat),(f (IntKind.i64.wrap ((IntKind.i64.wrap (g + 7)).tdiv 8)) ⟨(some ⟨l,0,none⟩),1,1⟩ p)∧∀ (r:Env) (c:Int) (b:Sl) (e:World),f c b e→
 Br (decide (c>0))
 (Ge0 (IntKind.i64.wrap (8 * IntKind.i64.wrap (c - 1))) (New (.cells #[.int .u8 (IntKind.u8.wrap (shrI IntKind.u64 j (IntKind.i64.wrap (8 * IntKind.i64.wrap (c - 1)))))] 5 (0,0)) (fun m q=>
 ∃ i:World,∃ d:Sl,((Builtin.append_ #[47,47] 47 #[.slice b.a b.len b.cap,.slice ((some ⟨m,0,none⟩)) 1 1]).run Tryz.prog q=.ok (.slice d.a d.len d.cap) i)∧
 (f (IntKind.i64.wrap (c - 1)) d i)∧k (IntKind.i64.wrap (c - 1)) d i<k c b e) e))
 (K (.slice b.a b.len b.cap) e)) o
def sk128:Sk:=(.seq .leaf (.seq .leaf (.seq .leaf (.seq (.block (.loop [3,4] [(.int .i64),.sl] [3,4,12,13,14,15,16,17,18,19,20,21,22,23] .leaf)) .leaf))))
theorem call128 (a:Int) (K:Value→World→Prop) (w:World) (h:B128 a K w):Gets Tryz.prog 128 #[.int .u64 a] w K:=cq (sk:=sk128) h Tryz.func128
def B91 (c:Sl) (K:Value→World→Prop) (w:World):Prop:=
 Calls Tryz.prog 75 #[.slice c.a c.len c.cap] w fun e f=>
 ∃ b:Sl,(e=.returned (.slice b.a b.len b.cap))∧
 New (.cells #[.slice b.a b.len b.cap,.bool false] 207 (0,0)) (fun d g=>
 K (.pointer ((some ⟨d,0,none⟩))) g) f
theorem call91 (b:Sl) (K:Value→World→Prop) (w:World) (h:B91 b K w):Gets Tryz.prog 91 #[.slice b.a b.len b.cap] w K:=cq (sk:=.leaf) h Tryz.func91
def B93 (i:Option Addr) (g:Int) (K:Value→World→Prop) (w:World):Prop:=
 New (.cells #[.int .u64 g] 141 (0,0)) (fun e k=>
 New (.cells #[.int .u64 0] 141 (0,0)) (fun a l=>
 ∃ c:World,((Instr.storeAt 141 (.pointer ((some ⟨a,0,none⟩))) (.int .u64 0)).run Tryz.prog l=.ok () c)∧
 Calls Tryz.prog 149 #[.pointer i,.func (.func 150) #[] #[.pointer ((some ⟨e,0,none⟩)),.pointer ((some ⟨a,0,none⟩))]] c fun f d=>
 (f=.returned (.tuple #[]))∧
 ∃ b:Int,(At (fun j=>j=d) ⟨a,0,none⟩ [.int .u64 b])∧
 K (.int .u64 b) d) k) w
theorem call93 (b:Option Addr) (a:Int) (K:Value→World→Prop) (w:World) (h:B93 b a K w):Gets Tryz.prog 93 #[.pointer b,.int .u64 a] w K:=cq (sk:=.leaf) h Tryz.func93
def B96 (e:Option Addr) (K:Value→World→Prop) (w:World):Prop:=
 NilP e fun d=>
 ∃ f:Bool,(At (fun c=>c=w) ⟨d.block,d.off + 1,none⟩ [.bool f])∧
 Br (!f)
 (NilP e fun g=>
 ∃ b:Sl,(At (fun c=>c=w) (Addr.add g 0) [.slice b.a b.len b.cap])∧
 K (.bool ((↑b.len:Int)==0)) w)
 (K (.bool false) w)
theorem call96 (a:Option Addr) (K:Value→World→Prop) (w:World) (h:B96 a K w):Gets Tryz.prog 96 #[.pointer a] w K:=cq (sk:=.leaf) h Tryz.func96
def B149 (z:Option Addr) (y:Value) (K:Value→World→Prop) (w:World):Prop:=
 New (.cells #[.pointer z] 153 (0,0)) (fun c j=>
 ∃ r:Option Addr,(At (fun b=>b=j) ⟨c,0,none⟩ [.pointer r])∧
 NilP r fun k=>
 ∃ s:Bool,(At (fun b=>b=j) ⟨k.block,k.off + 1,none⟩ [.bool s])∧
 Calls Tryz.prog 152 #[.bool (!s)] j fun n f=>
 ((n=.returned (.tuple #[]))∧
 ∃ p:Option Addr,(At (fun b=>b=f) ⟨c,0,none⟩ [.pointer p])∧
 NilP p fun v=>
 ∃ d:Sl,(At (fun b=>b=f) (Addr.add v 0) [.slice d.a d.len d.cap])∧
 New (.cells #[.slice none 0 0] 47 (0,0)) (fun i A=>
 ∃ t:World,((Instr.storeAt 47 (.pointer ((some ⟨i,0,none⟩))) (.slice d.a d.len d.cap)).run Tryz.prog A=.ok () t)∧
 CalW Tryz.prog cl y [.pointer ((some ⟨i,0,none⟩))] t fun o g=>
 ((o=.returned (.tuple #[]))∧
 ∃ q:Option Addr,(At (fun b=>b=g) ⟨c,0,none⟩ [.pointer q])∧
 ∃ e:Sl,(At (fun b=>b=g) ⟨i,0,none⟩ [.slice e.a e.len e.cap])∧
 NilP q fun x=>
 ∃ u:World,((Instr.storeAt 47 (.pointer ((some (Addr.add x 0)))) (.slice e.a e.len e.cap)).run Tryz.prog g=.ok () u)∧
 LeaveF Tryz.prog 223 [.pointer ((some ⟨c,0,none⟩))] .returning (fun C=>K (.tuple #[]) C) u)∨
 (∃ m:List PanicEntry,(o=.panicked m)∧LeaveF Tryz.prog 223 [.pointer ((some ⟨c,0,none⟩))] (.panicking m) (fun D=>K (.tuple #[]) D) g)) f)∨
 (∃ l:List PanicEntry,(n=.panicked l)∧LeaveF Tryz.prog 223 [.pointer ((some ⟨c,0,none⟩))] (.panicking l) (fun E=>K (.tuple #[]) E) f)) w
theorem call149 (b:Option Addr) (a:Value) (K:Value→World→Prop) (w:World) (h:B149 b a K w):Gets Tryz.prog 149 #[.pointer b,a] w K:=cqd (sk:=.leaf) h Tryz.func149
def B150 (t:Option Addr) (s:Option Addr) (d:Option Addr) (c:List PanicEntry→World→Prop) (K:Value→World→Prop) (w:World):Prop:=
 Calls Tryz.prog 151 #[.pointer t] w fun i b=>
 (∃ a:Int,∃ m:Bool,(i=.returned (.tuple #[.int .u64 a,.bool m]))∧
 Br (!m)
 (NilP s fun r=>
 ∃ l:Int,(At (fun u=>u=b) r [.int .u64 l])∧
 Calls Tryz.prog 152 #[.bool (decide (a≤l))] b fun j n=>
 ((j=.returned (.tuple #[]))∧
 ∃ o:World,((Instr.storeAt 141 (.pointer d) (.int .u64 a)).run Tryz.prog n=.ok () o)∧
 K (.tuple #[]) o)∨
 (∃ f:List PanicEntry,(j=.panicked f)∧c f n))
 (Calls Tryz.prog 152 #[.bool false] b fun k p=>
 ((k=.returned (.tuple #[]))∧
 ∃ q:World,((Instr.storeAt 141 (.pointer d) (.int .u64 a)).run Tryz.prog p=.ok () q)∧
 K (.tuple #[]) q)∨
 (∃ g:List PanicEntry,(k=.panicked g)∧c g p)))∨
 (∃ e:List PanicEntry,(i=.panicked e)∧c e b)
theorem call150 (d:Option Addr) (b:Option Addr) (c:Option Addr) (a:List PanicEntry→World→Prop) (K:Value→World→Prop) (w:World) (h:B150 d b c a K w):GetsX Tryz.prog 150 #[.pointer d,.pointer b,.pointer c] w a K:=cqx (sk:=.leaf) h Tryz.func150
def B151 (J:Option Addr) (c:List PanicEntry→World→Prop) (K:Value→World→Prop) (w:World):Prop:=
 Calls Tryz.prog 154 #[.pointer J,.int .i64 1] w fun A j=>
 (∃ l:Sl,(A=.returned (.slice l.a l.len l.cap))∧
 Rng 0 l.len (NilP l.a fun U=>
 ∃ e:Int,(At (fun o=>o=j) (Addr.add U 0) [.int .u8 e])∧
 ∃ (k:World→Prop),(Br (decide (e<32))
 (Br (decide (IntKind.i64.wrap (bitI BinOp.andNot IntKind.u8 e 16)≤8))
 (Br (decide (IntKind.i64.wrap (bitI BinOp.andNot IntKind.u8 e 16)>0))
 (Calls Tryz.prog 152 #[.bool true] j fun C L=>
 ((C=.returned (.tuple #[]))∧
 k  L)∨
 (∃ s:List PanicEntry,(C=.panicked s)∧c s L))
 (Calls Tryz.prog 152 #[.bool (!decide (e ≥ 16))] j fun D M=>
 ((D=.returned (.tuple #[]))∧
 k  M)∨
 (∃ t:List PanicEntry,(D=.panicked t)∧c t M)))
 (Calls Tryz.prog 152 #[.bool false] j fun E N=>
 ((E=.returned (.tuple #[]))∧
 k  N)∨
 (∃ u:List PanicEntry,(E=.panicked u)∧c u N)))
 (Calls Tryz.prog 152 #[.bool false] j fun F O=>
 ((F=.returned (.tuple #[]))∧
 k  O)∨
 (∃ v:List PanicEntry,(F=.panicked v)∧c v O)))∧
 ∀ (X:Env)  (Q:World),k  Q→
 Calls Tryz.prog 154 #[.pointer J,.int .i64 (IntKind.i64.wrap (bitI BinOp.andNot IntKind.u8 e 16))] Q fun G T=>
 (∃ g:Sl,(G=.returned (.slice g.a g.len g.cap))∧
 ∃ (m:Int→Int→World→Prop) (n:Int→Int→World→Nat),(m 0 0 T)∧∀ (Y:Env) (d:Int) (b:Int) (f:World),m d b f→
 Br (decide (b<(↑g.len:Int)))
 (Rng b g.len (NilP g.a fun V=>
 ∃ i:Int,(At (fun o=>o=f) (Addr.add V b.toNat) [.int .u8 i])∧
 Br (decide (b>0))
 (Calls Tryz.prog 152 #[.bool true] f fun H q=>
 ((H=.returned (.tuple #[]))∧
 (m (bitI BinOp.or IntKind.u64 (shlI IntKind.u64 d 8) (IntKind.u64.wrap i)) (IntKind.i64.wrap (b + 1)) q)∧n (bitI BinOp.or IntKind.u64 (shlI IntKind.u64 d 8) (IntKind.u64.wrap i)) (IntKind.i64.wrap (b + 1)) q<n d b f)∨
 (∃ y:List PanicEntry,(H=.panicked y)∧c y q))
 (Calls Tryz.prog 152 #[.bool (decide (i>0))] f fun I p=>
 ((I=.returned (.tuple #[]))∧
 (m (bitI BinOp.or IntKind.u64 (shlI IntKind.u64 d 8) (IntKind.u64.wrap i)) (IntKind.i64.wrap (b + 1)) p)∧n (bitI BinOp.or IntKind.u64 (shlI IntKind.u64 d 8) (IntKind.u64.wrap i)) (IntKind.i64.wrap (b + 1)) p<n d b f)∨
 (∃ z:List PanicEntry,(I=.panicked z)∧c z p))))
 (K (.tuple #[.int .u64 d,.bool (decide (e ≥ 16))]) f))∨
 (∃ x:List PanicEntry,(G=.panicked x)∧c x T)))∨
 (∃ r:List PanicEntry,(A=.panicked r)∧c r j)
def sk151:Sk:=(.seq .leaf (.seq .leaf (.seq .leaf (.seq .leaf (.cut [] [] [19,20,21,22,23,24,25,26,27,28,29,30,31,32,33] .leaf (.seq .leaf (.seq (.seq .leaf (.block (.loop [7,38] [(.int .u64),(.int .i64)] [7,8,9,38,39,40,41,42,43,44,45,46,47,48,49,50,51,52,53,54,55] .leaf))) .leaf)))))))
theorem call151 (b:Option Addr) (a:List PanicEntry→World→Prop) (K:Value→World→Prop) (w:World) (h:B151 b a K w):GetsX Tryz.prog 151 #[.pointer b] w a K:=cqx (sk:=sk151) h Tryz.func151
def B152 (b:Bool) (a:List PanicEntry→World→Prop) (K:Value→World→Prop) (w:World):Prop:=
 Br (!b)
 (a [⟨.iface 274 (.agg #[]),false,false⟩] w)
 (K (.tuple #[]) w)
theorem call152 (b:Bool) (a:List PanicEntry→World→Prop) (K:Value→World→Prop) (w:World) (h:B152 b a K w):GetsX Tryz.prog 152 #[.bool b] w a K:=cqx (sk:=.leaf) h Tryz.func152
def B223 (i:Option Addr) (f:Value) (K:World→Prop) (w:World):Prop:=
 ∃ c:Bool,(∀ a,(fun a=>a=w) a→((do eqGuard BinOp.neq 20 (Operand.tmp 3) (Operand.const Value.nilIface) f .nilIface;binOp BinOp.neq 20 f .nilIface:Sem Value)).run Tryz.prog a=.ok (.bool c) a)∧
 Br c
 (NilP i fun g=>
 ∃ d:Option Addr,(At (fun a=>a=w) g [.pointer d])∧
 NilP d fun b=>
 ∃ e:World,((Instr.storeAt 4 (.pointer ((some ⟨b.block,b.off + 1,none⟩))) (.bool true)).run Tryz.prog w=.ok () e)∧
 K e)
 (K w)
theorem callP223 (b:Option Addr) (a:Value) (K:World→Prop) (w:World) (h:B223 b a K w):CallsD Tryz.prog 223 #[.pointer b] (.panicking [⟨a,false,false⟩]) w fun c d e=>(∃ f,c=.returned f)∧d=.panicking [⟨a,true,false⟩]∧K e:=
 rec_panic (sk:=.leaf) cl_ok mixed Tryz.func223 (by kernel_rfl) (Nat.le_of_ble_eq_true (by kernel_rfl)) (cast (by kernel_rfl) h)
theorem callR223 (a:Option Addr) (K:World→Prop) (w:World) (h:B223 a .nilIface K w):CallsD Tryz.prog 223 #[.pointer a] .returning w fun b c d=>(∃ e,b=.returned e)∧c=.returning∧K d:=
 rec_return (sk:=.leaf) cl_ok mixed Tryz.func223 (by kernel_rfl) (Nat.le_of_ble_eq_true (by kernel_rfl)) (cast (by kernel_rfl) h)
def B154 (f:Option Addr) (b:Int) (m:List PanicEntry→World→Prop) (K:Value→World→Prop) (w:World):Prop:=
 NilP f fun q=>
 ∃ g:Sl,(At (fun e=>e=w) q [.slice g.a g.len g.cap])∧
 Calls Tryz.prog 152 #[.bool (decide (b≤(↑g.len:Int)))] w fun k i=>
 ((k=.returned (.tuple #[]))∧
 NilP f fun n=>
 ∃ d:Sl,(At (fun e=>e=i) n [.slice d.a d.len d.cap])∧
 ((0:Int)≤b)∧
 ((b:Int)≤(↑d.cap:Int))∧
 NilP f fun o=>
 ∃ c:Sl,(At (fun e=>e=i) o [.slice c.a c.len c.cap])∧
 ((0:Int)≤b)∧
 ((b:Int)≤(↑c.len:Int))∧
 NilP f fun p=>
 ∃ l:World,((Instr.storeAt 47 (.pointer ((some (p)))) (.slice (cutA c.a b.toNat c.cap 1) (c.len - b.toNat) (c.cap - b.toNat))).run Tryz.prog i=.ok () l)∧
 K (.slice d.a b.toNat d.cap) l)∨
 (∃ j:List PanicEntry,(k=.panicked j)∧m j i)
theorem call154 (b:Option Addr) (c:Int) (a:List PanicEntry→World→Prop) (K:Value→World→Prop) (w:World) (h:B154 b c a K w):GetsX Tryz.prog 154 #[.pointer b,.int .i64 c] w a K:=cqx (sk:=.leaf) h Tryz.func154
def B205 (j:Int) (K:Value→World→Prop) (w:World):Prop:=
 ∃ (c:Int→Int→World→Prop),(Br (decide (j ≥ 4294967296))
 (c (shrI IntKind.u64 j 32) 32 w)
 (c j 0 w))∧
 ∀ (m:Env) (b:Int) (e:Int) (g:World),c b e g→
 ∃ (d:Int→Int→World→Prop),(Br (decide (b ≥ 65536))
 (d (shrI IntKind.u64 b 16) (IntKind.i64.wrap (e + 16)) g)
 (d b e g))∧
 ∀ (n:Env) (a:Int) (f:Int) (i:World),d a f i→
 Br (decide (a ≥ 256))
 (∃ k:UInt8,((0:Int)≤IntKind.u8.wrap (shrI IntKind.u64 a 8))∧
 ((ByteArray.mk (([0,1,2,2,3,3,3,3,4,4,4,4,4,4,4,4,5,5,5,5,5,5,5,5,5,5,5,5,5,5,5,5,6,6,6,6,6,6,6,6,6,6,6,6,6,6,6,6,6,6,6,6,6,6,6,6,6,6,6,6,6,6,6,6].append [7,7,7,7,7,7,7,7,7,7,7,7,7,7,7,7,7,7,7,7,7,7,7,7,7,7,7,7,7,7,7,7,7,7,7,7,7,7,7,7,7,7,7,7,7,7,7,7,7,7,7,7,7,7,7,7,7,7,7,7,7,7,7,7]).append ([8,8,8,8,8,8,8,8,8,8,8,8,8,8,8,8,8,8,8,8,8,8,8,8,8,8,8,8,8,8,8,8,8,8,8,8,8,8,8,8,8,8,8,8,8,8,8,8,8,8,8,8,8,8,8,8,8,8,8,8,8,8,8,8].append [8,8,8,8,8,8,8,8,8,8,8,8,8,8,8,8,8,8,8,8,8,8,8,8,8,8,8,8,8,8,8,8,8,8,8,8,8,8,8,8,8,8,8,8,8,8,8,8,8,8,8,8,8,8,8,8,8,8,8,8,8,8,8,8])).toArray)[(IntKind.u8.wrap (shrI IntKind.u64 a 8)).toNat]? =some k)∧
 K (.int .i64 (IntKind.i64.wrap (IntKind.i64.wrap (f + 8) + IntKind.i64.wrap (↑k.toNat:Int)))) i)
 (∃ l:UInt8,((0:Int)≤IntKind.u8.wrap a)∧
 ((ByteArray.mk (([0,1,2,2,3,3,3,3,4,4,4,4,4,4,4,4,5,5,5,5,5,5,5,5,5,5,5,5,5,5,5,5,6,6,6,6,6,6,6,6,6,6,6,6,6,6,6,6,6,6,6,6,6,6,6,6,6,6,6,6,6,6,6,6].append [7,7,7,7,7,7,7,7,7,7,7,7,7,7,7,7,7,7,7,7,7,7,7,7,7,7,7,7,7,7,7,7,7,7,7,7,7,7,7,7,7,7,7,7,7,7,7,7,7,7,7,7,7,7,7,7,7,7,7,7,7,7,7,7]).append ([8,8,8,8,8,8,8,8,8,8,8,8,8,8,8,8,8,8,8,8,8,8,8,8,8,8,8,8,8,8,8,8,8,8,8,8,8,8,8,8,8,8,8,8,8,8,8,8,8,8,8,8,8,8,8,8,8,8,8,8,8,8,8,8].append [8,8,8,8,8,8,8,8,8,8,8,8,8,8,8,8,8,8,8,8,8,8,8,8,8,8,8,8,8,8,8,8,8,8,8,8,8,8,8,8,8,8,8,8,8,8,8,8,8,8,8,8,8,8,8,8,8,8,8,8,8,8,8,8])).toArray)[(IntKind.u8.wrap a).toNat]? =some l)∧
 K (.int .i64 (IntKind.i64.wrap (f + IntKind.i64.wrap (↑l.toNat:Int)))) i)
def sk205:Sk:=(.seq .leaf (.cut [0,2] [(.int .u64),(.int .i64)] [0,2,3,4,5,6] .leaf (.cut [0,2] [(.int .u64),(.int .i64)] [0,2,7,8,9,10,11,12] .leaf .leaf)))
theorem call205 (a:Int) (K:Value→World→Prop) (w:World) (h:B205 a K w):Gets Tryz.prog 205 #[.int .u64 a] w K:=cq (sk:=sk205) h Tryz.func205
def B83 (d:Sl) (K:Value→World→Prop) (w:World):Prop:=
 Calls Tryz.prog 128 #[.int .u64 (IntKind.u64.wrap (↑d.len:Int))] w fun f g=>
 ∃ b:Sl,(f=.returned (.slice b.a b.len b.cap))∧
 ∃ e:World,∃ c:Sl,((Builtin.append_ #[47,47] 47 #[.slice b.a b.len b.cap,.slice d.a d.len d.cap]).run Tryz.prog g=.ok (.slice c.a c.len c.cap) e)∧
 K (.slice c.a c.len c.cap) e
theorem call83 (b:Sl) (K:Value→World→Prop) (w:World) (h:B83 b K w):Gets Tryz.prog 83 #[.slice b.a b.len b.cap] w K:=cq (sk:=.leaf) h Tryz.func83
def B94 (i:Option Addr) (g:Int) (K:Value→World→Prop) (w:World):Prop:=
 New (.cells #[.int .i64 g] 3 (0,0)) (fun e k=>
 New (.cells #[.slice none 0 0] 47 (0,0)) (fun c l=>
 Calls Tryz.prog 149 #[.pointer i,.func (.func 153) #[] #[.pointer ((some ⟨e,0,none⟩)),.pointer ((some ⟨c,0,none⟩))]] l fun f d=>
 (f=.returned (.tuple #[]))∧
 ∃ b:Sl,(At (fun j=>j=d) ⟨c,0,none⟩ [.slice b.a b.len b.cap])∧
 K (.slice b.a b.len b.cap) d) k) w
theorem call94 (b:Option Addr) (a:Int) (K:Value→World→Prop) (w:World) (h:B94 b a K w):Gets Tryz.prog 94 #[.pointer b,.int .i64 a] w K:=cq (sk:=.leaf) h Tryz.func94
def B153 (e:Option Addr) (r:Option Addr) (p:Option Addr) (b:List PanicEntry→World→Prop) (K:Value→World→Prop) (w:World):Prop:=
 Calls Tryz.prog 151 #[.pointer e] w fun H c=>
 (∃ d:Int,∃ ab:Bool,(H=.returned (.tuple #[.int .u64 d,.bool ab]))∧
 Br (!ab)
 (NilP r fun au=>
 ∃ Z:Int,(At (fun o=>o=c) au [.int .i64 Z])∧
 Br (decide (Z ≥ 0))
 (NilP r fun av=>
 ∃ aa:Int,(At (fun o=>o=c) av [.int .i64 aa])∧
 Br (decide (d≤IntKind.u64.wrap aa))
 (NilP e fun aw=>
 ∃ q:Sl,(At (fun o=>o=c) aw [.slice q.a q.len q.cap])∧
 Calls Tryz.prog 152 #[.bool (decide (d≤IntKind.u64.wrap (↑q.len:Int)))] c fun I ak=>
 ((I=.returned (.tuple #[]))∧
 Calls Tryz.prog 154 #[.pointer e,.int .i64 (IntKind.i64.wrap d)] ak fun N al=>
 (∃ f:Sl,(N=.returned (.slice f.a f.len f.cap))∧
 Calls Tryz.prog 75 #[.slice f.a f.len f.cap] al fun O am=>
 (∃ k:Sl,(O=.returned (.slice k.a k.len k.cap))∧
 ∃ an:World,((Instr.storeAt 47 (.pointer p) (.slice k.a k.len k.cap)).run Tryz.prog am=.ok () an)∧
 K (.tuple #[]) an)∨
 (∃ z:List PanicEntry,(O=.panicked z)∧b z am))∨
 (∃ y:List PanicEntry,(N=.panicked y)∧b y al))∨
 (∃ t:List PanicEntry,(I=.panicked t)∧b t ak))
 (Calls Tryz.prog 152 #[.bool false] c fun Q ao=>
 ((Q=.returned (.tuple #[]))∧
 Calls Tryz.prog 154 #[.pointer e,.int .i64 (IntKind.i64.wrap d)] ao fun T ap=>
 (∃ g:Sl,(T=.returned (.slice g.a g.len g.cap))∧
 Calls Tryz.prog 75 #[.slice g.a g.len g.cap] ap fun U aq=>
 (∃ l:Sl,(U=.returned (.slice l.a l.len l.cap))∧
 ∃ ar:World,((Instr.storeAt 47 (.pointer p) (.slice l.a l.len l.cap)).run Tryz.prog aq=.ok () ar)∧
 K (.tuple #[]) ar)∨
 (∃ D:List PanicEntry,(U=.panicked D)∧b D aq))∨
 (∃ C:List PanicEntry,(T=.panicked C)∧b C ap))∨
 (∃ A:List PanicEntry,(Q=.panicked A)∧b A ao)))
 (Calls Tryz.prog 152 #[.bool false] c fun V ac=>
 ((V=.returned (.tuple #[]))∧
 Calls Tryz.prog 154 #[.pointer e,.int .i64 (IntKind.i64.wrap d)] ac fun X ad=>
 (∃ i:Sl,(X=.returned (.slice i.a i.len i.cap))∧
 Calls Tryz.prog 75 #[.slice i.a i.len i.cap] ad fun Y ae=>
 (∃ m:Sl,(Y=.returned (.slice m.a m.len m.cap))∧
 ∃ af:World,((Instr.storeAt 47 (.pointer p) (.slice m.a m.len m.cap)).run Tryz.prog ae=.ok () af)∧
 K (.tuple #[]) af)∨
 (∃ G:List PanicEntry,(Y=.panicked G)∧b G ae))∨
 (∃ F:List PanicEntry,(X=.panicked F)∧b F ad))∨
 (∃ E:List PanicEntry,(V=.panicked E)∧b E ac)))
 (Calls Tryz.prog 152 #[.bool false] c fun J ag=>
 ((J=.returned (.tuple #[]))∧
 Calls Tryz.prog 154 #[.pointer e,.int .i64 (IntKind.i64.wrap d)] ag fun L ah=>
 (∃ j:Sl,(L=.returned (.slice j.a j.len j.cap))∧
 Calls Tryz.prog 75 #[.slice j.a j.len j.cap] ah fun M ai=>
 (∃ n:Sl,(M=.returned (.slice n.a n.len n.cap))∧
 ∃ aj:World,((Instr.storeAt 47 (.pointer p) (.slice n.a n.len n.cap)).run Tryz.prog ai=.ok () aj)∧
 K (.tuple #[]) aj)∨
 (∃ x:List PanicEntry,(M=.panicked x)∧b x ai))∨
 (∃ v:List PanicEntry,(L=.panicked v)∧b v ah))∨
 (∃ u:List PanicEntry,(J=.panicked u)∧b u ag)))∨
 (∃ s:List PanicEntry,(H=.panicked s)∧b s c)
theorem call153 (d:Option Addr) (b:Option Addr) (c:Option Addr) (a:List PanicEntry→World→Prop) (K:Value→World→Prop) (w:World) (h:B153 d b c a K w):GetsX Tryz.prog 153 #[.pointer d,.pointer b,.pointer c] w a K:=cqx (sk:=.leaf) h Tryz.func153
end Go.Proofs.YtlplemdmegpoeaaGreatDoor
/- SL, part 1: memory told by blocks: a read-only part R, and a list of predicates over disjoint parts of the rest. No condition. -/
namespace Go.VC
set_option linter.unusedVariables false
set_option linter.unusedSimpArgs false
abbrev Heap:=Nat→Option Obj
def Heap.none:Heap:=fun _=>Option.none
def Heap.one (b:Nat) (o:Obj):Heap:=fun i=>if i=b then some o else Option.none
def Heap.add (R h:Heap):Heap:=fun i=>match R i with|some o=>some o| .none=>h i
def Heap.set (R:Heap) (b:Nat) (o:Obj):Heap:=fun i=>if i=b then some o else R i
def Heap.dis (R h:Heap):Prop:=∀ i,h i≠.none→R i=.none
abbrev HP:=Heap→Prop
structure Cx where
 m:Heap
 os:Os
 tape:Nat→Question→Nat
 output:Array (Nat × ByteArray)
def Cx.add (R:Cx) (h:Heap):Cx:={ R with m:=R.m.add h }
def Cx.set (R:Cx) (b:Nat) (o:Obj):Cx:={ R with m:=R.m.set b o }
def Cx.dis (R:Cx) (h:Heap):Prop:=R.m.dis h
def Sat:Cx→List HP→World→Prop
 |R,[],w=>(∀ b o,R.m b=some o→w.heap[b]? =some o)∧w.os=R.os∧w.tape=R.tape∧w.output=R.output
 |R,H::Hs,w=>∃ h,H h∧R.dis h∧Sat (R.add h) Hs w
def pts (b:Nat) (o:Obj):HP:=fun h=>h=Heap.one b o
def pur (p:Prop):HP:=fun h=>p∧h=Heap.none
def exs {α:Type} (f:α→HP):HP:=fun h=>∃ x,f x h
def Star:List HP→HP
 |[]=>fun h=>h=Heap.none
 |H::Hs=>fun h=>∃ h1 h2,H h1∧Star Hs h2∧h1.dis h2∧h=h1.add h2
theorem Heap.add_none (R:Heap):R.add Heap.none=R:=by
 funext i;unfold Heap.add Heap.none;cases R i<;>rfl
theorem Heap.add_assoc (R a b:Heap):(R.add a).add b=R.add (a.add b):=by
 funext i;simp only [Heap.add];cases R i<;>simp
theorem Heap.add_comm {a b:Heap} (h:a.dis b):a.add b=b.add a:=by
 funext i
 simp only [Heap.add]
 cases hb:b i with
 |none=>cases a i<;>rfl
 |some o=>rw [h i (by rw [hb];simp)]
theorem Heap.dis_symm {a b:Heap} (h:a.dis b):b.dis a:=fun i hi=>by
 cases hb:b i with
 |none=>rfl
 |some o=>exact absurd (h i (by rw [hb];simp)) hi
theorem Heap.dis_add {R a b:Heap} (h1:R.dis a) (h2:(R.add a).dis b):R.dis (a.add b):=fun i hi=>by
 cases ha:a i with
 |some o=>exact h1 i (by rw [ha];simp)
 |none=>
  have hb:b i≠.none:=by simpa [Heap.add,ha] using hi
  have:=h2 i hb
  simp only [Heap.add] at this
  cases hr:R i with
  |none=>rfl
  |some o=>rw [hr] at this;cases this
theorem Heap.dis_of_add {R a b:Heap} (h2:(R.add a).dis b):R.dis b∧a.dis b:=by
 refine ⟨fun i hi=>?_,fun i hi=>?_⟩
 ·have:=h2 i hi;simp only [Heap.add] at this;cases hr:R i with
  |none=>rfl
  |some o=>rw [hr] at this;cases this
 ·have:=h2 i hi;simp only [Heap.add] at this;cases hr:R i with
  |none=>rw [hr] at this;exact this
  |some o=>rw [hr] at this;cases this
theorem Heap.add_dis {R a b:Heap} (h1:R.dis b) (h2:a.dis b):(R.add a).dis b:=fun i hi=>by
 simp only [Heap.add,h1 i hi,h2 i hi]
theorem Cx.add_none (R:Cx):R.add Heap.none=R:=by unfold Cx.add;rw [Heap.add_none]
theorem Cx.add_assoc (R:Cx) (a b:Heap):(R.add a).add b=R.add (a.add b):=by unfold Cx.add;simp only [Heap.add_assoc]
theorem Cx.dis_add {R:Cx} {a b:Heap} (h1:R.dis a) (h2:(R.add a).dis b):R.dis (a.add b):=Heap.dis_add h1 h2
theorem Cx.dis_of_add {R:Cx} {a b:Heap} (h2:(R.add a).dis b):R.dis b∧a.dis b:=Heap.dis_of_add h2
theorem Cx.add_dis {R:Cx} {a b:Heap} (h1:R.dis b) (h2:a.dis b):(R.add a).dis b:=Heap.add_dis h1 h2
theorem Cx.m_add (R:Cx) (h:Heap):(R.add h).m=R.m.add h:=rfl
def Cx.like (R R':Cx):Prop:=R'.os=R.os∧R'.tape=R.tape∧R'.output=R.output
theorem Sat.of_ro:∀ {Hs:List HP} {R:Cx} {w:World} {b:Nat} {o:Obj},Sat R Hs w→R.m b=some o→w.heap[b]? =some o
 |[],_,_,_,_,h,hb=>h.1 _ _ hb
 |_::_,_,_,b,o,h,hb=>by
  obtain ⟨h',_,_,hs⟩:=h
  exact hs.of_ro (by simp only [Cx.m_add,Heap.add,hb])
theorem Sat.streams:∀ {Hs:List HP} {R:Cx} {w:World},Sat R Hs w→w.os=R.os∧w.tape=R.tape∧w.output=R.output
 |[],_,_,h=>h.2
 |_::_,_,_,h=>let ⟨_,_,_,hs⟩:=h;hs.streams
structure Alk (w w':World):Prop where
 heap:w'.heap=w.heap
 os:w'.os=w.os
 tape:w'.tape=w.tape
 output:w'.output=w.output
theorem Sat.alk:∀ {Hs:List HP} {R:Cx} {w w':World},Sat R Hs w→Alk w w'→Sat R Hs w'
 |[],_,_,_,h,e=>⟨fun b o hb=>by rw [e.heap];exact h.1 b o hb,e.os.trans h.2.1,e.tape.trans h.2.2.1,e.output.trans h.2.2.2⟩
 |_::_,_,_,_,h,e=>let ⟨h',hH,hd,hs⟩:=h;⟨h',hH,hd,hs.alk e⟩
theorem Sat.drew {R:Cx} {Hs:List HP} {w:World} (h:Sat R Hs w):Sat R Hs w.drew:=h.alk ⟨rfl,rfl,rfl,rfl⟩
theorem Sat.swap {R:Cx} {A B:HP} {Hs:List HP} {w:World} (h:Sat R (A::B::Hs) w):Sat R (B::A::Hs) w:=by
 obtain ⟨a,hA,hda,b,hB,hdb,hs⟩:=h
 obtain ⟨h1,h2⟩:=Cx.dis_of_add hdb
 refine ⟨b,hB,h1,a,hA,Cx.add_dis hda (Heap.dis_symm h2),?_⟩
 rw [Cx.add_assoc,←Heap.add_comm h2,←Cx.add_assoc]
 exact hs
theorem Sat.cons {R:Cx} {A:HP} {Hs Hs':List HP} {w w':World} (k:∀ R',Sat R' Hs w→Sat R' Hs' w') (h:Sat R (A::Hs) w):Sat R (A::Hs') w':=
 let ⟨a,hA,hd,hs⟩:=h;⟨a,hA,hd,k _ hs⟩
theorem Sat.perm {Hs Hs':List HP} (p:Hs.Perm Hs'):∀ {R:Cx} {w:World},Sat R Hs w→Sat R Hs' w:=by
 induction p with
 |nil=>exact fun h=>h
 |cons x _ ih=>exact fun h=>h.cons fun _=>ih
 |swap x y l=>exact fun h=>h.swap
 |trans _ _ ih1 ih2=>exact fun h=>ih2 (ih1 h)
theorem Sat.ro_of:∀ {Hs:List HP} {R R':Cx} {w:World},(∀ b o,R'.m b=some o→R.m b=some o)→R.like R'→Sat R Hs w→Sat R' Hs w
 |[],_,_,_,k,e,h=>⟨fun b o hb=>h.1 b o (k b o hb),h.2.1.trans e.1.symm,h.2.2.1.trans e.2.1.symm,h.2.2.2.trans e.2.2.symm⟩
 |_::_,R,R',_,k,e,h=>by
  obtain ⟨a,hA,hd,hs⟩:=h
  refine ⟨a,hA,fun i hi=>?_,Sat.ro_of (R:=R.add a) (R':=R'.add a) (fun b o hb=>?_) e hs⟩
  ·cases hr:R'.m i with
   |none=>rfl
   |some o=>have:=hd i hi;rw [k i o hr] at this;cases this
  ·simp only [Cx.m_add,Heap.add] at hb ⊢
   cases hr':R'.m b with
   |some o'=>rw [hr'] at hb;rw [k b o' hr'];exact hb
   |none=>
    rw [hr'] at hb
    have hn:=hd b (by simp only at hb;rw [hb];simp)
    rw [hn];exact hb
theorem Sat.drop {R:Cx} {A:HP} {Hs:List HP} {w:World} (h:Sat R (A::Hs) w):Sat R Hs w:=by
 obtain ⟨a,_,hd,hs⟩:=h
 exact Sat.ro_of (R:=R.add a) (R':=R) (fun b o hb=>by simp only [Cx.m_add,Heap.add,hb]) ⟨rfl,rfl,rfl⟩ hs
theorem Sat.lend {R:Cx} {b:Nat} {o:Obj} {Hs:List HP} {w:World}:Sat R (pts b o::Hs) w↔R.m b=.none∧Sat (R.add (Heap.one b o)) Hs w:=by
 constructor
 ·rintro ⟨a,rfl,hd,hs⟩
  exact ⟨hd b (by simp [Heap.one]),hs⟩
 ·rintro ⟨hb,hs⟩
  refine ⟨_,rfl,fun i hi=>?_,hs⟩
  by_cases h:i=b
  ·subst h;exact hb
  ·simp [Heap.one,h] at hi
theorem Cx.lent {R:Cx} {b:Nat} {o:Obj} (h:R.m b=.none):(R.add (Heap.one b o)).m b=some o:=by
 simp [Cx.m_add,Heap.add,h,Heap.one]
theorem Cx.kept {R:Cx} {h:Heap} {b:Nat} {o:Obj} (hb:R.m b=some o):(R.add h).m b=some o:=by
 simp only [Cx.m_add,Heap.add,hb]
theorem Sat.at {R:Cx} {b:Nat} {o:Obj} {Hs:List HP} {w:World} (h:Sat R (pts b o::Hs) w):w.heap[b]? =some o:=
 let ⟨hb,hs⟩:=Sat.lend.1 h
 hs.of_ro (Cx.lent hb)
theorem Sat.pur {R:Cx} {p:Prop} {Hs:List HP} {w:World}:Sat R (VC.pur p::Hs) w↔p∧Sat R Hs w:=by
 constructor
 ·rintro ⟨a,⟨hp,rfl⟩,_,hs⟩
  rw [Cx.add_none] at hs
  exact ⟨hp,hs⟩
 ·rintro ⟨hp,hs⟩
  exact ⟨Heap.none,⟨hp,rfl⟩,fun i hi=>absurd rfl hi,by rw [Cx.add_none];exact hs⟩
theorem Sat.exs {α:Type} {R:Cx} {f:α→HP} {Hs:List HP} {w:World}:Sat R (VC.exs f::Hs) w↔∃ x,Sat R (f x::Hs) w:=by
 constructor
 ·rintro ⟨a,⟨x,hx⟩,hd,hs⟩;exact ⟨x,a,hx,hd,hs⟩
 ·rintro ⟨x,a,hx,hd,hs⟩;exact ⟨a,⟨x,hx⟩,hd,hs⟩
theorem Sat.star {w:World}:∀ {l:List HP} {R:Cx} {Hs:List HP},Sat R (Star l::Hs) w↔Sat R (l++Hs) w
 |[],R,Hs=>by
  constructor
  ·rintro ⟨a,rfl,_,hs⟩;rw [Cx.add_none] at hs;exact hs
  ·intro hs;exact ⟨Heap.none,rfl,fun i hi=>absurd rfl hi,by rw [Cx.add_none];exact hs⟩
 |A::l,R,Hs=>by
  constructor
  ·rintro ⟨x,⟨h1,h2,hA,hl,hd,rfl⟩,hdx,hs⟩
   have d1:R.dis h1:=fun i hi=>hdx i (by simp only [Heap.add];cases h:h1 i<;>simp_all)
   refine ⟨h1,hA,d1,Sat.star.1 ⟨h2,hl,Cx.add_dis (fun i hi=>hdx i ?_) hd,by rw [Cx.add_assoc];exact hs⟩⟩
   simp only [Heap.add];cases h:h1 i<;>simp_all
  ·rintro ⟨h1,hA,d1,hs⟩
   obtain ⟨h2,hl,d2,hs⟩:=Sat.star.2 hs
   refine ⟨h1.add h2,⟨h1,h2,hA,hl,(Cx.dis_of_add d2).2,rfl⟩,Cx.dis_add d1 d2,by rw [←Cx.add_assoc];exact hs⟩
def _root_.Go.World.setBlock (w:World) (b:Nat) (o:Obj):World:={ w with heap:=w.heap.setIfInBounds b o }
theorem Heap.set_add {R h:Heap} {b:Nat} {o o':Obj} (hb:R b=some o):(R.set b o').add h=(R.add h).set b o':=by
 funext i
 simp only [Heap.add,Heap.set]
 by_cases hi:i=b
 ·subst hi;simp
 ·simp [hi]
theorem Cx.set_add {R:Cx} {h:Heap} {b:Nat} {o o':Obj} (hb:R.m b=some o):(R.set b o').add h=(R.add h).set b o':=by
 unfold Cx.set Cx.add;simp only [Heap.set_add hb]
theorem Sat.upd:∀ {Hs:List HP} {R:Cx} {w:World} {b:Nat} {o:Obj} (o':Obj),Sat R Hs w→R.m b=some o→Sat (R.set b o') Hs (w.setBlock b o')
 |[],R,w,b,o,o',h,hb=>by
  refine ⟨fun i x hx=>?_,h.2⟩
  have hlt:b<w.heap.size:=(Array.getElem?_eq_some_iff.1 (h.1 b o hb)).1
  simp only [Cx.set,Heap.set] at hx
  simp only [World.setBlock]
  by_cases hi:i=b
  ·subst hi
   simp only [if_true,Option.some.injEq] at hx
   subst hx
   simp [hlt]
  ·rw [if_neg hi] at hx
   rw [Array.getElem?_setIfInBounds_ne (Ne.symm hi)]
   exact h.1 i x hx
 |H::Hs,R,w,b,o,o',h,hb=>by
  obtain ⟨a,hA,hd,hs⟩:=h
  have:=Sat.upd o' hs (b:=b) (o:=o) (Cx.kept hb)
  refine ⟨a,hA,fun i hi=>?_,?_⟩
  ·have hr:=hd i hi
   simp only [Cx.set,Heap.set]
   by_cases h:i=b
   ·subst h;rw [hb] at hr;cases hr
   ·rw [if_neg h];exact hr
  ·rw [Cx.set_add hb];exact this
theorem Sat.setPts {R:Cx} {b:Nat} {o:Obj} {Hs:List HP} {w:World} (o':Obj) (h:Sat R (pts b o::Hs) w):Sat R (pts b o'::Hs) (w.setBlock b o'):=by
 obtain ⟨hb,hs⟩:=Sat.lend.1 h
 refine Sat.lend.2 ⟨hb,?_⟩
 have h1:=Sat.upd o' hs (b:=b) (o:=o) (Cx.lent hb)
 have e:(R.add (Heap.one b o)).set b o'=R.add (Heap.one b o'):=by
  unfold Cx.set Cx.add
  congr 1
  funext i
  simp only [Heap.add,Heap.set,Heap.one]
  by_cases hi:i=b
  ·subst hi;simp [hb]
  ·simp [hi]
 rw [e] at h1
 exact h1
theorem Sat.ro_lt {R:Cx} {Hs:List HP} {w:World} (h:Sat R Hs w) {b:Nat} (hb:w.heap.size≤b):R.m b=.none:=by
 cases hr:R.m b with
 |none=>rfl
 |some o=>
  have:=h.of_ro hr
  rw [Array.getElem?_eq_none hb] at this
  cases this
theorem Sat.grow:∀ {Hs:List HP} {R:Cx} {w:World} (o:Obj),Sat R Hs w→Sat (R.add (Heap.one w.heap.size o)) Hs (w.alloc o)
 |[],R,w,o,h=>by
  refine ⟨fun b x hx=>?_,h.2⟩
  simp only [Cx.m_add,Heap.add,Heap.one] at hx
  cases hr:R.m b with
  |some y=>
   rw [hr] at hx
   have:=h.1 b y hr
   have hlt:b<w.heap.size:=(Array.getElem?_eq_some_iff.1 this).1
   simp only at hx
   simp only [World.alloc]
   rw [Array.getElem?_push_lt hlt,←Array.getElem?_eq_getElem,this,hx]
  |none=>
   rw [hr] at hx
   simp only at hx
   split at hx
   ·rename_i hb;subst hb;cases hx;show (w.heap.push o)[w.heap.size]? =_;simp
   ·cases hx
 |H::Hs,R,w,o,h=>by
  have hR:R.m w.heap.size=.none:=Sat.ro_lt h (Nat.le_refl _)
  obtain ⟨a,hA,hd,hs⟩:=h
  have hadd:(R.add a).m w.heap.size=.none:=Sat.ro_lt hs (Nat.le_refl _)
  have ha:a w.heap.size=.none:=by simpa [Cx.m_add,Heap.add,hR] using hadd
  have:=Sat.grow o hs
  have hdis:(Heap.one w.heap.size o).dis a:=by
   intro i hi
   simp only [Heap.one]
   split
   ·rename_i h;subst h;exact absurd ha hi
   ·rfl
  refine ⟨a,hA,Cx.add_dis hd hdis,?_⟩
  rw [Cx.add_assoc,Heap.add_comm hdis,←Cx.add_assoc]
  exact this
theorem Sat.alloc {R:Cx} {Hs:List HP} {w:World} (o:Obj) (h:Sat R Hs w):Sat R (pts w.heap.size o::Hs) (w.alloc o):=
 Sat.lend.2 ⟨Sat.ro_lt h (Nat.le_refl _),Sat.grow o h⟩
def Cx.of (w:World):Cx:={ m:=fun b=>w.heap[b]?,os:=w.os,tape:=w.tape,output:=w.output }
theorem Sat.start (w:World):Sat (Cx.of w) [] w:=⟨fun _ _ h=>h,rfl,rfl,rfl⟩
end Go.VC
/- SL, part 2: rules for the formulas of single operations. No condition. -/
namespace Go.VC
set_option linter.unusedVariables false
set_option linter.unusedSimpArgs false
class TakeP (b:Nat) (Hs:List HP) (o:outParam Obj) (Rest:outParam (List HP)):Prop where
 perm:Hs.Perm (pts b o::Rest)
instance (priority:=2000) TakeP.head {b:Nat} {o:Obj} {Hs:List HP}:TakeP b (pts b o::Hs) o Hs:=⟨List.Perm.refl _⟩
instance TakeP.tail {b:Nat} {H:HP} {Hs:List HP} {o:Obj} {Rest:List HP} [t:TakeP b Hs o Rest]:TakeP b (H::Hs) o (H::Rest):=
 ⟨(t.perm.cons H).trans (.swap _ _ _)⟩
class Take (A:HP) (Hs:List HP) (Rest:outParam (List HP)):Prop where
 perm:Hs.Perm (A::Rest)
instance (priority:=2000) Take.head {A:HP} {Hs:List HP}:Take A (A::Hs) Hs:=⟨List.Perm.refl _⟩
instance Take.tail {A H:HP} {Hs:List HP} {Rest:List HP} [t:Take A Hs Rest]:Take A (H::Hs) (H::Rest):=
 ⟨(t.perm.cons H).trans (.swap _ _ _)⟩
theorem Sat.takeP {R:Cx} {Hs Rest:List HP} {w:World} {b:Nat} {o:Obj} (h:Sat R Hs w) (t:TakeP b Hs o Rest):Sat R (pts b o::Rest) w:=h.perm t.perm
theorem Sat.take {R:Cx} {Hs Rest:List HP} {w:World} (A:HP) [t:Take A Hs Rest] (h:Sat R Hs w):Sat R (A::Rest) w:=h.perm t.perm
theorem Sat.look {R:Cx} {Hs Rest:List HP} {w:World} {o:Obj} (b:Nat) [t:TakeP b Hs o Rest] (h:Sat R Hs w):w.heap[b]? =some o:=(h.takeP t).at
theorem eqS {R:Cx} {Hs:List HP} {w:World} (h:Sat R Hs w):∀ w',(fun w'=>w'=w) w'→Sat R Hs w':=fun _ e=>by rw [show _=w from e];exact h
theorem selfS {R:Cx} {Hs:List HP}:∀ w',Sat R Hs w'→Sat R Hs w':=fun _ h=>h
def Pre:List Value→List Value→Prop
 |[],_=>True
 |v::vs,x::l=>v=x∧Pre vs l
 |_::_,[]=>False
theorem Pre.get:∀ {vs l:List Value},Pre vs l→∀ (i:Nat) (v:Value),vs[i]? =some v→l[i]? =some v
 |[],_,_,i,v,h=>by simp at h
 |x::vs,y::l,hp,0,v,h=>by simp only [List.getElem?_cons_zero] at h ⊢;rw [←hp.1];exact h
 |x::vs,y::l,hp,i + 1,v,h=>by simp only [List.getElem?_cons_succ] at h ⊢;exact hp.2.get i v h
 |_::_,[],hp,_,_,_=>hp.elim
theorem cell_of {w:World} {b:Nat} {l:List Value} {T:TypeId} {fr:Nat × Nat} (h:w.heap[b]? =some (.cells l.toArray T fr)) (i:Nat):w.cell? ⟨b,i,none⟩=l[i]?:=by
 simp [World.cell?,h]
theorem add_off (b o i:Nat):Addr.add ⟨b,o,none⟩ i=⟨b,o + i,none⟩:=by
 unfold Addr.add;split
 ·rename_i h;subst h;rfl
 ·rfl
theorem At.mk {S:World→Prop} {b off:Nat} {vs l:List Value} {T:TypeId} {fr:Nat × Nat} (h:∀ w,S w→w.heap[b]? =some (.cells l.toArray T fr)) (hp:Pre vs (l.drop off)):At S ⟨b,off,none⟩ vs:=by
 intro w hw i v hv
 have:=hp.get i v hv
 rw [List.getElem?_drop] at this
 rw [add_off,cell_of (h w hw),this]
theorem At.own {S:World→Prop} {R:Cx} {Hs Rest:List HP} {b off:Nat} {vs l:List Value} {T:TypeId} {fr:Nat × Nat} (hS:∀ w,S w→Sat R Hs w)
  [t:TakeP b Hs (.cells l.toArray T fr) Rest] (hp:Pre vs (l.drop off)):At S ⟨b,off,none⟩ vs:=At.mk (fun w hw=>(hS w hw).look b) hp
theorem new_rule {R:Cx} {Hs:List HP} {w:World} {o:Obj} {K:Nat→World→Prop} (hw:Sat R Hs w) (k:∀ b w',Sat R (pts b o::Hs) w'→K b w'):New o K w:=
 k _ _ (Sat.alloc o hw)
theorem drw_rule {R:Cx} {Hs:List HP} {w:World} {F:(World→Prop)→World→Prop} (hw:Sat R Hs w) (k:∀ w',Sat R Hs w'→F (Sat R Hs) w'):Drw w F:=
 ⟨Sat R Hs,Sat R Hs,hw.drew,fun w' h=>⟨h,k w' h⟩⟩
theorem drw_rule' {R:Cx} {Hs:List HP} {w:World} {F:(World→Prop)→World→Prop} (S:World→Prop) (hw:Sat R Hs w) (hS:∀ w',Sat R Hs w'→S w') (k:∀ w',Sat R Hs w'→F S w'):Drw w F:=
 ⟨Sat R Hs,S,hw.drew,fun w' h=>⟨hS w' h,k w' h⟩⟩
def tru:HP:=fun _=>True
theorem Sat.tru {R:Cx} {Hs:List HP} {w:World} (h:Sat R Hs w):Sat R (VC.tru::Hs) w:=⟨Heap.none,trivial,fun _ hi=>absurd rfl hi,by rw [Cx.add_none];exact h⟩
theorem Sat.absorb {R:Cx} {A:HP} {Hs:List HP} {w:World} (h:Sat R (A::VC.tru::Hs) w):Sat R (VC.tru::Hs) w:=by
 obtain ⟨a,_,hda,b,_,hdb,hs⟩:=h
 refine ⟨a.add b,trivial,Cx.dis_add hda hdb,?_⟩
 rw [←Cx.add_assoc];exact hs
theorem drw_ruleT {R:Cx} {Hs:List HP} {w:World} {F:(World→Prop)→World→Prop} (hw:Sat R Hs w) (k:∀ w',Sat R (VC.tru::Hs) w'→F (Sat R (VC.tru::Hs)) w'):Drw w F:=
 ⟨_,_,hw.tru.drew,fun w' h=>⟨h,k w' h⟩⟩
theorem wrap64 {x:Int} (h0: -9223372036854775808≤x) (h1:x<9223372036854775808):IntKind.i64.wrap x=x:=by
 have:IntKind.i64.wrap x=(x + 9223372036854775808) % 18446744073709551616 - 9223372036854775808:=by
  rw [IntKind.wrap_i64]
 rw [this];omega
structure Ro (R:Cx) (s:Sl) (xs:List Value):Prop where
 len:s.len=xs.length
 bound:xs.length≤9223372036854775807
 mem:xs≠[]→∃ b off l T fr,s.a=some ⟨b,off,none⟩∧R.m b=some (.cells l T fr)∧∀ (i:Nat) v,xs[i]? =some v→l[off + i]? =some v
theorem Ro.add {R:Cx} {h:Heap} {s:Sl} {xs:List Value} (hr:Ro R s xs):Ro (R.add h) s xs:=
 ⟨hr.len,hr.bound,fun hx=>let ⟨b,off,l,T,fr,ha,hb,hl⟩:=hr.mem hx;⟨b,off,l,T,fr,ha,Cx.kept hb,hl⟩⟩
theorem Ro.addr {R:Cx} {s:Sl} {xs:List Value} (hr:Ro R s xs) {k:Nat} (hk:k<xs.length):∃ a,s.a=some a∧
  ∀ {S:World→Prop} {Hs:List HP},(∀ w,S w→Sat R Hs w)→At S (a.add k) [xs[k]]:=by
 obtain ⟨b,off,l,T,fr,ha,hb,hl⟩:=hr.mem (by intro h;rw [h] at hk;simp at hk)
 refine ⟨_,ha,fun hS w hw i v hv=>?_⟩
 have hi:i=0:=by
  cases i with
  |zero=>rfl
  |succ i=>simp at hv
 subst hi
 simp only [List.getElem?_cons_zero,Option.some.injEq] at hv
 subst hv
 rw [add_off,add_off]
 have:=(hS w hw).of_ro hb
 simp only [World.cell?,this,Option.isSome_none,Bool.false_eq_true,if_false]
 exact hl k _ (List.getElem?_eq_getElem hk)
abbrev RoI (R:Cx) (s:Sl) (xs:List Int):Prop:=Ro R s (xs.map (Value.int .i64))
theorem RoI.len {R:Cx} {s:Sl} {xs:List Int} (h:RoI R s xs):s.len=xs.length:=by rw [Ro.len h];simp
theorem RoI.bound {R:Cx} {s:Sl} {xs:List Int} (h:RoI R s xs):xs.length≤9223372036854775807:=by have:=Ro.bound h;simpa using this
theorem RoI.addr {R:Cx} {s:Sl} {xs:List Int} (hr:RoI R s xs) {k:Nat} (hk:k<xs.length):∃ a,s.a=some a∧
  ∀ {S:World→Prop} {Hs:List HP},(∀ w,S w→Sat R Hs w)→At S (a.add k) [.int .i64 xs[k]]:=by
 obtain ⟨a,ha,h⟩:=Ro.addr hr (k:=k) (by simpa using hk)
 refine ⟨a,ha,fun hS=>?_⟩
 have:=h hS
 simpa using this
theorem RoI.idx {S:World→Prop} {R:Cx} {Hs:List HP} {s:Sl} {xs:List Int} (hr:RoI R s xs) (hS:∀ w,S w→Sat R Hs w) {k:Nat} (hk:k<xs.length) {F:Int→Prop} (h:F xs[k]):
  Rng (k:Int) s.len (NilP s.a fun a=>∃ t:Int,(At S (a.add (k:Int).toNat) [.int .i64 t])∧F t):=by
 obtain ⟨a,ha,hat⟩:=RoI.addr hr hk
 have hl:=RoI.len hr
 exact Rng.mk (by omega) (by omega) (NilP.mk ha ⟨xs[k],hat hS,h⟩)
end Go.VC
/- SL, part 3: rules for stores, for a slice that one owns, for append. Condition of the last: a bound on the new length. -/
namespace Go.VC
set_option linter.unusedVariables false
set_option linter.unusedSimpArgs false
def putL:List Value→Nat→List Value→List Value
 |l,_,[]=>l
 |l,o,v::vs=>putL (l.set o v) (o + 1) vs
theorem putL_len:∀ (vs l:List Value) (o:Nat),(putL l o vs).length=l.length
 |[],_,_=>rfl
 |_::vs,l,o=>by rw [putL,putL_len vs,List.length_set]
theorem putL_eq:∀ (vs l:List Value) (o:Nat),o + vs.length≤l.length→putL l o vs=l.take o++vs++l.drop (o + vs.length)
 |[],l,o,_=>by simp [putL]
 |v::vs,l,o,h=>by
  simp only [List.length_cons] at h
  rw [putL,putL_eq vs (l.set o v) (o + 1) (by simp;omega)]
  have e1:(l.set o v).take (o + 1)=l.take o++[v]:=by
   rw [List.take_succ_eq_append_getElem (by simp;omega)]
   simp [List.take_set_of_le]
  have e2:(l.set o v).drop (o + 1 + vs.length)=l.drop (o + (vs.length + 1)):=by
   rw [List.drop_set_of_lt (by omega)];congr 1;omega
  rw [e1,e2];simp
theorem setCell_block {w:World} {b o:Nat} {l:List Value} {T:TypeId} {fr:Nat × Nat} (h:w.heap[b]? =some (.cells l.toArray T fr)) (v:Value):
  w.setCell ⟨b,o,none⟩ v=w.setBlock b (.cells (l.set o v).toArray T fr):=by
 unfold World.setCell World.setBlock
 congr 1
 apply Array.ext_getElem?
 intro i
 rw [Array.getElem?_modify,Array.getElem?_setIfInBounds]
 by_cases hi:b=i
 ·subst hi
  obtain ⟨hlt,hg⟩:=Array.getElem?_eq_some_iff.1 h
  simp [hlt,hg]
 ·simp [hi]
theorem setCells_sat {R:Cx} {Hs:List HP} {b:Nat} {T:TypeId} {fr:Nat × Nat}:∀ (vs l:List Value) (o:Nat) (w:World),Sat R (pts b (.cells l.toArray T fr)::Hs) w→
  Sat R (pts b (.cells (putL l o vs).toArray T fr)::Hs) (w.setCells b o vs)
 |[],_,_,_,h=>h
 |v::vs,l,o,w,h=>by
  rw [World.setCells,setCell_block h.at,putL]
  exact setCells_sat vs (l.set o v) (o + 1) _ (h.setPts _)
def okFr (n:Nat) (fr:Nat × Nat):Prop:=fr.2=0∨n≤fr.1
theorem okFr.le {n m:Nat} {fr:Nat × Nat} (h:okFr n fr) (hm:m≤n):okFr m fr:=h.imp id fun h=>Nat.le_trans hm h
theorem frozen_no {w:World} {b:Nat} {l:Array Value} {T:TypeId} {fr:Nat × Nat} {n:Nat} (h:w.heap[b]? =some (.cells l T fr)) (hf:okFr n fr) {i:Nat} (hi:i<n):w.frozen? ⟨b,i,none⟩=false:=by
 obtain ⟨lo,hi'⟩:=fr
 simp only [World.frozen?,h]
 rcases hf with hf|hf<;>simp only at hf<;>simp<;>omega
def oneAll (vs:List Value):Bool:=vs.all (·.oneCell')
theorem store_rule {P:Program} {R:Cx} {Hs Rest:List HP} {w:World} {b o:Nat} {l:List Value} {T t:TypeId} {fr:Nat × Nat} {v:Value} {K:World→Prop}
  (hw:Sat R Hs w) [tk:TakeP b Hs (.cells l.toArray T fr) Rest] (hsz:(P.info? t).map (·.size)=some v.cells.toList.length) (h1:oneAll v.cells.toList=true) (hb:o + v.cells.toList.length≤l.length)
  (k:∀ w',Sat R (pts b (.cells (putL l o v.cells.toList).toArray T fr)::Rest) w'→K w') (hfr:okFr l.length fr:=by first|assumption|exact Or.inl rfl):
  ∃ w',(Instr.storeAt t (.pointer (some ⟨b,o,none⟩)) v).run P w=.ok () w'∧K w':=by
 have hp:=hw.takeP tk
 have hat:=hp.at
 obtain ⟨i,hi,hsz⟩:=Option.map_eq_some_iff.1 hsz
 refine ⟨w.setCells b o v.cells.toList,?_,k _ (setCells_sat _ _ _ _ hp)⟩
 have hst:=run_storeCells_cells (P:=P) b o v.cells.toList 0 w (fun j hj=>by
   simp only [Nat.add_zero]
   rw [cell_of hat];simp;omega) (fun j hj=>frozen_no hat hfr (by omega)) (fun u hu=>List.all_eq_true.1 h1 u hu)
 simp only [Nat.add_zero] at hst
 simp [Instr.storeAt,Instr.sureAddr,storeVar,sizeOf,typeInfo,hi,hsz,hst]
def Own (s:Sl) (T:TypeId) (xs:List Value):HP:=fun h=>
 (s=⟨none,0,0⟩∧xs=[]∧h=Heap.none)∨∃ b rest fr,s=⟨some ⟨b,0,none⟩,xs.length,(xs++rest).length⟩∧okFr (xs++rest).length fr∧h=Heap.one b (.cells (xs++rest).toArray T fr)
theorem Own.nil {R:Cx} {Hs:List HP} {w:World} {T:TypeId} (h:Sat R Hs w):Sat R (Own ⟨none,0,0⟩ T []::Hs) w:=
 ⟨Heap.none,.inl ⟨rfl,rfl,rfl⟩,fun i hi=>absurd rfl hi,by rw [Cx.add_none];exact h⟩
theorem Own.of_pts {R:Cx} {Hs:List HP} {w:World} {T:TypeId} {b:Nat} {fr:Nat × Nat} {xs rest:List Value} (h:Sat R (pts b (.cells (xs++rest).toArray T fr)::Hs) w) (hf:okFr (xs++rest).length fr:=by first|assumption|exact Or.inl rfl):
  Sat R (Own ⟨some ⟨b,0,none⟩,xs.length,(xs++rest).length⟩ T xs::Hs) w:=
 let ⟨a,ha,hd,hs⟩:=h;⟨a,.inr ⟨b,rest,fr,rfl,hf,ha⟩,hd,hs⟩
theorem Own.cases {R:Cx} {Hs:List HP} {w:World} {T:TypeId} {s:Sl} {xs:List Value} (h:Sat R (Own s T xs::Hs) w):
  (s=⟨none,0,0⟩∧xs=[]∧Sat R Hs w)∨∃ b rest fr,s=⟨some ⟨b,0,none⟩,xs.length,(xs++rest).length⟩∧okFr (xs++rest).length fr∧Sat R (pts b (.cells (xs++rest).toArray T fr)::Hs) w:=by
 obtain ⟨a,ha,hd,hs⟩:=h
 rcases ha with ⟨h1,h2,rfl⟩|⟨b,rest,fr,h1,hf,rfl⟩
 ·rw [Cx.add_none] at hs;exact .inl ⟨h1,h2,hs⟩
 ·exact .inr ⟨b,rest,fr,h1,hf,_,rfl,hd,hs⟩
theorem Own.len {R:Cx} {Hs:List HP} {w:World} {T:TypeId} {s:Sl} {xs:List Value} (h:Sat R (Own s T xs::Hs) w):s.len=xs.length:=by
 rcases Own.cases h with ⟨rfl,rfl,_⟩|⟨b,rest,fr,rfl,_,_⟩<;>rfl
theorem Own.lend {R:Cx} {Hs:List HP} {w:World} {T:TypeId} {s:Sl} {xs:List Value} (h:Sat R (Own s T xs::Hs) w) (hb:xs.length≤9223372036854775807):
  ∃ R':Cx,Ro R' s xs∧(∀ s' xs',Ro R s' xs'→Ro R' s' xs')∧Sat R' Hs w∧∀ {Hs' w'},Sat R' Hs' w'→Sat R (Own s T xs::Hs') w':=by
 rcases Own.cases h with ⟨rfl,rfl,h2⟩|⟨b,rest,fr,rfl,hf,h2⟩
 ·exact ⟨R,⟨rfl,by simp,fun h=>absurd rfl h⟩,fun _ _ h=>h,h2,fun h=>Own.nil h⟩
 ·obtain ⟨hn,h3⟩:=Sat.lend.1 h2
  refine ⟨_,⟨rfl,hb,fun _=>⟨b,0,_,T,fr,rfl,Cx.lent hn,fun i v hv=>?_⟩⟩,fun _ _ h=>h.add,h3,fun h=>Own.of_pts (Sat.lend.2 ⟨hn,h⟩)⟩
  obtain ⟨hi,rfl⟩:=List.getElem?_eq_some_iff.1 hv
  simp [List.getElem?_append_left hi]
def elB (P:Program) (T:TypeId) (bytes:Nat):Bool:=
 match P.info? T with
 |some i=>match i.zero with
  |some z=>i.size==1 && i.bytes==bytes && z.cells.size==1
  |none=>false
 |none=>false
theorem elB_out {P:Program} {T:TypeId} {bytes:Nat} (h:elB P T bytes=true):∃ i z,P.info? T=some i∧i.zero=some z∧i.size=1∧i.bytes=bytes∧z.cells.size=1:=by
 unfold elB at h
 split at h
 ·rename_i i hi
  split at h
  ·rename_i z hz
   simp only [Bool.and_eq_true,beq_iff_eq] at h
   exact ⟨i,z,hi,hz,h.1.1,h.1.2,h.2⟩
  ·cases h
 ·cases h
structure El (P:Program) (t1 t2 T:TypeId) (bytes:Nat):Prop where
 ht:P.underlying t1=some (.slice T)
 hk:∃ e',P.underlying t2=some (.slice e')
 hi:elB P T bytes=true
theorem append_rule {P:Program} {t1 t2 ty T:TypeId} {bytes:Nat} (E:El P t1 t2 T bytes) {R:Cx} {Hs:List HP} {w:World} {s:Sl} {xs ys:List Value} {src:Value} {n:Nat} {K:Sl→World→Prop}
  (hw:Sat R (Own s T xs::Hs) w) (hs:Src P 1 t2 src n ys w) (h1:oneAll xs=true) (hb:2 * (xs.length + n) * bytes≤281474976710656) (hb':xs.length + n≤9223372036854775807)
  (k:∀ s' w',Sat R (Own s' T (xs++ys)::Hs) w'→K s' w'):
  ∃ w',∃ t:Sl,(Builtin.append_ #[t1,t2] ty #[.slice s.a s.len s.cap,src]).run P w=.ok (.slice t.a t.len t.cap) w'∧K t w':=by
 obtain ⟨i,z,hi,hz,hsize,hbytes,hzc⟩:=elB_out E.hi
 have hyn:ys.length=n:=by have:=hs.newsLen;simpa using this
 have hs':Src P i.size t2 src n ys w:=by rw [hsize];exact hs
 have hlen:=Own.len hw
 have fit:∀ cap,cap<xs.length + n→Builtin.nextslicecap (xs.length + n) cap * i.bytes≤281474976710656:=fun cap hc=>by
  have h2:Builtin.nextslicecap (xs.length + n) cap≤2 * (xs.length + n):=by
   unfold Builtin.nextslicecap
   split
   ·omega
   ·split
    ·omega
    ·have:=nextslicecap_le_wide hc
     unfold Builtin.nextslicecap at this
     rw [if_neg (by assumption),if_neg (by assumption)] at this
     omega
  rw [hbytes]
  exact Nat.le_trans (Nat.mul_le_mul_right _ h2) hb
 -- a new row
 have grow:∀ (base:Option Addr) (cap:Nat) (olds:List Value),olds=xs→cap<xs.length + n→(Builtin.firstCells i.size xs.length (.slice base xs.length cap)).run P w.drew=.ok olds.toArray w.drew→Sat R Hs w→
   ∃ w',∃ t:Sl,(Builtin.append_ #[t1,t2] ty #[.slice base xs.length cap,src]).run P w=.ok (.slice t.a t.len t.cap) w'∧K t w':=fun base cap olds ho hc hold hw=>by
  have hr:=run_append_grow_src w t1 t2 ty T i z E.ht hi hz base xs.length cap olds hold src n ys hs' hc (by omega) (fit cap hc)
  refine ⟨_,⟨some ⟨w.heap.size,0,none⟩,xs.length + n,grownCap w (xs.length + n) cap T⟩,hr,k _ _ ?_⟩
  have hz0:(Builtin.zeroCells z.cells (grownCap w (xs.length + n) cap T - (xs.length + n))).size=grownCap w (xs.length + n) cap T - (xs.length + n):=by
   simp [Builtin.zeroCells,hzc]
  have hg:=grownCap_ge w (xs.length + n) cap T
  have ho':Obj.cells ((olds++ys).toArray++Builtin.zeroCells z.cells (grownCap w (xs.length + n) cap T - (xs.length + n))) T=.cells ((xs++ys)++(Builtin.zeroCells z.cells (grownCap w (xs.length + n) cap T - (xs.length + n))).toList).toArray T (0,0):=by
   rw [ho]
   congr 1
   apply Array.ext';simp
  have:=Sat.alloc (Obj.cells ((olds++ys).toArray++Builtin.zeroCells z.cells (grownCap w (xs.length + n) cap T - (xs.length + n))) T) (Sat.drew hw)
  rw [ho'] at this ⊢
  have h3:=Own.of_pts this
  have e:(⟨some ⟨w.drew.heap.size,0,none⟩,(xs++ys).length,(xs++ys++(Builtin.zeroCells z.cells (grownCap w (xs.length + n) cap T - (xs.length + n))).toList).length⟩:Sl)=⟨some ⟨w.heap.size,0,none⟩,xs.length + n,grownCap w (xs.length + n) cap T⟩:=by
   simp only [List.length_append,Array.length_toList,hz0,World.size_drew,hyn]
   congr 1
   omega
  rw [e] at h3
  exact h3
 rcases Own.cases hw with ⟨rfl,rfl,hz2⟩|⟨b,rest,fr,rfl,hfr,hp⟩
 ·by_cases hn0:n=0
  ·subst hn0
   have hy:ys=[]:=List.length_eq_zero_iff.1 hyn
   subst hy
   obtain ⟨e',he'⟩:=E.hk
   refine ⟨w,⟨none,0,0⟩,?_,k _ _ (by simpa using Own.nil hz2)⟩
   have hcz:=hs'.cells
   simp [Builtin.append_,run_underlying E.ht,run_underlying he',sizeOf,typeInfo,hi,hs'.len,hcz]
  ·exact grow none 0 [] rfl (by simp;omega) (run_firstCells_none w.drew i.size 0 0 0) hz2
 ·by_cases hroom:xs.length + n≤(xs++rest).length
  ·have hat:=hp.at
   have hr:=run_append_room_src w t1 t2 ty T i E.ht hi b 0 xs.length (xs++rest).length src n ys hs' hroom
    (fun j hj=>by rw [cell_of hat,hsize];simp at hroom ⊢;omega) (fun j hj=>frozen_no hat hfr (by rw [hsize,Nat.mul_one];simp only [List.length_append] at hroom ⊢;omega))
   refine ⟨_,⟨some ⟨b,0,none⟩,xs.length + n,(xs++rest).length⟩,hr,k _ _ ?_⟩
   have h2:=setCells_sat ys (xs++rest) xs.length w hp
   have e1:putL (xs++rest) xs.length ys=(xs++ys)++rest.drop n:=by
    rw [putL_eq _ _ _ (by rw [hyn];exact hroom),List.take_left',List.drop_append]
    ·simp [hyn]
    ·rfl
   rw [e1] at h2
   rw [hsize,Nat.zero_add,Nat.mul_one]
   have h3:=Own.of_pts h2 (hfr.le (by simp only [List.length_append,List.length_drop] at hroom ⊢;omega))
   have e:(⟨some ⟨b,0,none⟩,(xs++ys).length,(xs++ys++rest.drop n).length⟩:Sl)=⟨some ⟨b,0,none⟩,xs.length + n,(xs++rest).length⟩:=by
    simp only [List.length_append,List.length_drop,hyn] at hroom ⊢
    congr 1
    omega
   rw [e] at h3
   exact h3
  ·have hat:=hp.at
   refine grow (some ⟨b,0,none⟩) (xs++rest).length xs rfl (by omega) ?_ hp.drop
   refine run_firstCells_some w.drew i.size xs.length ⟨b,0,none⟩ xs.length _ xs (by rw [hsize];simp) ?_
   intro j u hj
   rw [World.cell?_drew,add_off,cell_of hat,Nat.zero_add]
   obtain ⟨hlt,rfl⟩:=List.getElem?_eq_some_iff.1 hj
   simp [List.getElem?_append_left hlt]
theorem Src_one {P:Program} {t2:TypeId} (hk:∃ e',P.underlying t2=some (.slice e')) {R:Cx} {Hs Rest:List HP} {w:World} {b:Nat} {x:Value} {T:TypeId} {fr:Nat × Nat} (c:Nat)
  (hw:Sat R Hs w) [t:TakeP b Hs (.cells [x].toArray T fr) Rest] (h1:x.oneCell'=true):Src P 1 t2 (.slice (some ⟨b,0,none⟩) 1 c) 1 [x] w:=by
 obtain ⟨e',he'⟩:=hk
 refine Go.Src.ofSlice w he' _ 1 c [x] rfl ?_ ?_
 ·intro j u hj
  have:=hw.look b
  rw [add_off,cell_of this];simpa using hj
 ·intro u hu;simp at hu;subst hu;exact h1
theorem push_rule {P:Program} {t1 t2 ty T T':TypeId} {bytes:Nat} (E:El P t1 t2 T bytes) {R:Cx} {Hs:List HP} {w:World} {s:Sl} {xs:List Value} {x:Value} {K:Sl→World→Prop}
  (hw:Sat R (Own s T xs::Hs) w) (h1:oneAll xs=true) (hx:x.oneCell'=true) (hb:2 * (xs.length + 1) * bytes≤281474976710656) (hb':xs.length + 1≤9223372036854775807)
  (k:∀ s' w',Sat R (Own s' T (xs++[x])::Hs) w'→K s' w'):
  New (.cells #[x] T' (0,0)) (fun b w=>∃ w',∃ t:Sl,(Builtin.append_ #[t1,t2] ty #[.slice s.a s.len s.cap,.slice (some ⟨b,0,none⟩) 1 1]).run P w=.ok (.slice t.a t.len t.cap) w'∧K t w') w:=by
 refine new_rule hw fun b w hw=>?_
 have hw:Sat R (pts b (.cells [x].toArray T' (0,0))::Own s T xs::Hs) w:=hw
 exact append_rule E hw.swap (Src_one E.hk 1 hw hx) h1 hb hb' fun s' w' h=>k s' w' h.swap.drop
theorem pushI_rule {P:Program} {t1 t2 ty T T':TypeId} (E:El P t1 t2 T 8) {R:Cx} {Hs:List HP} {w:World} {s:Sl} {xs:List Int} {x:Int} {K:Sl→World→Prop}
  (hw:Sat R (Own s T (xs.map (Value.int .i64))::Hs) w) (hb:xs.length<1000000000000)
  (k:∀ s' w',Sat R (Own s' T ((xs++[x]).map (Value.int .i64))::Hs) w'→K s' w'):
  New (.cells #[.int .i64 x] T' (0,0)) (fun b w=>∃ w',∃ t:Sl,(Builtin.append_ #[t1,t2] ty #[.slice s.a s.len s.cap,.slice (some ⟨b,0,none⟩) 1 1]).run P w=.ok (.slice t.a t.len t.cap) w'∧K t w') w:=
 push_rule E hw (by unfold oneAll;simp [Value.oneCell']) rfl (by rw [List.length_map];omega) (by rw [List.length_map];omega) fun s' w' h=>k s' w' (by simpa using h)
end Go.VC
/- SL, part 4: what a sort leaves; elements of a row of ints of one's own. No condition. -/
namespace Go.VC
set_option linter.unusedVariables false
set_option linter.unusedSimpArgs false
theorem Own.lendI {R:Cx} {Hs:List HP} {w:World} {T:TypeId} {s:Sl} {xs:List Int} (h:Sat R (Own s T (xs.map (Value.int .i64))::Hs) w) (hb:xs.length≤9223372036854775807):
  ∃ R':Cx,RoI R' s xs∧(∀ s' xs',Ro R s' xs'→Ro R' s' xs')∧Sat R' Hs w∧∀ {Hs' w'},Sat R' Hs' w'→Sat R (Own s T (xs.map (Value.int .i64))::Hs') w':=
 Own.lend h (by simpa using hb)
end Go.VC
/- SL, part 5: elements of a slice of one's own, loads, stores, clear; stores of structs. No condition. -/
namespace Go.VC
set_option linter.unusedVariables false
set_option linter.unusedSimpArgs false
variable {P:Program} {R:Cx} {Hs Rest:List HP} {w:World} {s:Sl} {T:TypeId}
theorem Own.addr {xs:List Value} (hw:Sat R (Own s T xs::Hs) w) {k:Nat} (hk:k<xs.length):∃ b,s.a=some ⟨b,0,none⟩∧
  ∀ {S:World→Prop} {Hs'},(∀ w,S w→Sat R (Own s T xs::Hs') w)→At S (Addr.add ⟨b,0,none⟩ k) [xs[k]]:=by
 rcases Own.cases hw with ⟨_,rfl,_⟩|⟨b,rest,fr,rfl,_,_⟩
 ·simp at hk
 ·refine ⟨b,rfl,fun hS w hs i v hv=>?_⟩
  have hi:i=0:=by
   cases i with
   |zero=>rfl
   |succ i=>simp at hv
  subst hi
  simp only [List.getElem?_cons_zero,Option.some.injEq] at hv
  subst hv
  rcases Own.cases (hS w hs) with ⟨h0,_,_⟩|⟨b',rest',fr',he,_,h⟩
  ·cases h0
  ·simp only [Sl.mk.injEq,Option.some.injEq,Addr.mk.injEq,and_true] at he
   obtain ⟨rfl,_⟩:=he
   rw [add_off,add_off,cell_of h.at]
   simp [List.getElem?_append_left hk]
theorem Own.cap {xs:List Value} (hw:Sat R (Own s T xs::Hs) w):s.len≤s.cap:=by
 rcases Own.cases hw with ⟨rfl,_,_⟩|⟨b,rest,fr,rfl,_,_⟩
 ·exact Nat.le_refl _
 ·simp
theorem Own.idx {kd:IntKind} {xs:List Int} {S:World→Prop} {Hs':List HP} (hw:Sat R (Own s T (xs.map (Value.int kd))::Hs) w) (hS:∀ w,S w→Sat R (Own s T (xs.map (Value.int kd))::Hs') w) {k:Nat} (hk:k<xs.length) {F:Int→Prop} (h:F xs[k]):
  Rng (k:Int) s.len (NilP s.a fun a=>∃ t:Int,(At S (a.add (k:Int).toNat) [.int kd t])∧F t):=by
 obtain ⟨b,ha,hat⟩:=Own.addr hw (k:=k) (by simpa using hk)
 have hl:=Own.len hw
 rw [List.length_map] at hl
 refine Rng.mk (by omega) (by omega) (NilP.mk ha ⟨xs[k],?_,h⟩)
 have:=hat hS
 simpa using this
theorem Own.store {t:TypeId} {kd:IntKind} {xs:List Int} (hsz:(P.info? t).map (·.size)=some 1) (hw:Sat R (Own s T (xs.map (Value.int kd))::Hs) w) {k:Nat} (hk:k<xs.length) {x:Int} {K:World→Prop}
  (h:∀ w',Sat R (Own s T ((xs.set k x).map (Value.int kd))::Hs) w'→K w'):
  Rng (k:Int) s.len (NilP s.a fun a=>∃ w',(Instr.storeAt t (.pointer (some (Addr.add a (k:Int).toNat))) (.int kd x)).run P w=.ok () w'∧K w'):=by
 have hl:=Own.len hw
 rw [List.length_map] at hl
 rcases Own.cases hw with ⟨_,h0,_⟩|⟨b,rest,fr,rfl,hfr,hp⟩
 ·simp at h0;subst h0;simp at hk
 ·refine Rng.mk (by omega) (by simp only at hl ⊢;omega) (NilP.mk rfl ?_)
  rw [add_off]
  refine store_rule hp (by rw [hsz];rfl) rfl (by simp [Value.cells];omega) fun w' h2=>h w' ?_
  have e:putL (xs.map (Value.int kd)++rest) (0 + (k:Int).toNat) (Value.int kd x).cells.toList=(xs.set k x).map (Value.int kd)++rest:=by
   simp only [putL,Value.cells,Nat.zero_add,Int.toNat_natCast]
   rw [List.set_append_left _ _ (by simpa using hk),List.map_set]
  rw [e] at h2
  have h3:=Own.of_pts h2 (hfr.le (by simp))
  simpa using h3
end Go.VC
