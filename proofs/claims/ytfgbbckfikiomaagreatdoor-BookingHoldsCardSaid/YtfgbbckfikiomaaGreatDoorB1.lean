/- VC, part 1: readable formulas for single operations of the model, each proved to be enough for the model's own run of that operation. No condition. -/
import Derived.OrdersHeld
import Derived.KernelRfl
import Derived.Laws.Entries
import Derived.Laws.Cells
import Derived.Laws.World
import Derived.Tactics
import Derived.Scope
import Derived.Defers
import Derived.Recover
import Derived.Test.YtfgbbckfikiomaaGreatDoorProg
import Derived.Deep.AppendSrc
import Derived.Deep.DeepAppendWide
import Derived.Laws.AppendOwn
import Derived.Laws.IdiomCopy
import Derived.Sort.Grow
import Derived.Lib.SliceRun
import GoSem.Instr.MapUpdate
import GoSem.Builtin.Delete
import Derived.MapKept
import Derived.Lib.ConvBytes
import Derived.Laws.BytesArg
import Derived.Laws.Strings
import Derived.Below
import Derived.Sort.KeysCollected
import Derived.Maps.Own
set_option linter.unusedVariables false
namespace Go.VC
structure Sl where
 a:Option Addr
 len:Nat
 cap:Nat
inductive Ty where
 |int (k:IntKind)|bool|str|sl|ptr|map|flt|any
@[reducible] def Ty.T:Ty->Type
 | .int _=>Int| .bool=>Bool| .str=>ByteArray| .sl=>Sl| .ptr=>Option Addr| .map=>Option Nat| .flt=>Nat| .any=>Value
def Ty.enc:(t:Ty)->t.T->Value
 | .int k,n=>.int k n
 | .bool,b=>.bool b
 | .str,s=>.string s
 | .sl,s=>.slice s.a s.len s.cap
 | .ptr,p=>.pointer p
 | .map,m=>.map m
 | .flt,n=>.float .f64 n
 | .any,v=>v
def Ty.un:(t:Ty)->Value->(t.T->Prop)->Prop
 | .int k,v,φ=>match v with| .int k' n=>(match decide (k=k') with|true=>φ n|false=>False)|_=>False
 | .bool,v,φ=>match v with| .bool b=>φ b|_=>False
 | .str,v,φ=>match v with| .string s=>φ s|_=>False
 | .sl,v,φ=>match v with| .slice a n c=>φ ⟨a,n,c⟩|_=>False
 | .ptr,v,φ=>match v with| .pointer p=>φ p|_=>False
 | .map,v,φ=>match v with| .map m=>φ m|_=>False
 | .flt,v,φ=>match v with| .float .f64 n=>φ n|_=>False
 | .any,v,φ=>φ v
theorem Ty.un_enc {t:Ty} {v:Value} {φ:t.T->Prop} (h:t.un v φ):∃ x,v=t.enc x/\φ x:=by
 cases t<;>simp only [Ty.un] at h
 case int k=>
  split at h
  ·split at h
   ·rename_i hk;have:=of_decide_eq_true hk;subst this;exact ⟨_,rfl,h⟩
   ·exact h.elim
  ·exact h.elim
 case any=>exact ⟨v,rfl,h⟩
 all_goals (split at h<;>first|exact ⟨_,rfl,h⟩|exact h.elim)
def Ty.ex:(t:Ty)->(Value->Prop)->Prop
 | .int k,φ=>∃ n:Int,φ (.int k n)
 | .bool,φ=>∃ b:Bool,φ (.bool b)
 | .str,φ=>∃ s:ByteArray,φ (.string s)
 | .sl,φ=>∃ s:Sl,φ (.slice s.a s.len s.cap)
 | .ptr,φ=>∃ p:Option Addr,φ (.pointer p)
 | .map,φ=>∃ m:Option Nat,φ (.map m)
 | .flt,φ=>∃ n:Nat,φ (.float .f64 n)
 | .any,φ=>∃ v:Value,φ v
theorem Ty.ex_some {t:Ty} {φ:Value->Prop} (h:t.ex φ):∃ v,φ v:=by
 cases t<;>(obtain ⟨x,h⟩:=h;exact ⟨_,h⟩)
def ZmE:List Ty->(List Value->Prop)->Prop
 |[],φ=>φ []
 |t::ts,φ=>t.ex λ v=>ZmE ts λ vs=>φ (v::vs)
theorem ZiL:∀ {ts:List Ty} {φ:List Value->Prop},ZmE ts φ->∃ vs,φ vs
 |[],_,h=>⟨[],h⟩
 |_::_,_,h=>let ⟨v,h⟩:=Ty.ex_some h;let ⟨vs,h⟩:=ZiL h;⟨v::vs,h⟩
inductive Vt where
 |one (t:Ty)|agg (ts:List Ty)
def Vt.ex:Vt->(Value->Prop)->Prop
 | .one t,φ=>t.ex φ
 | .agg ts,φ=>ZmE ts λ vs=>φ (.agg vs.toArray)
theorem Vt.ex_some {t:Vt} {φ:Value->Prop} (h:t.ex φ):∃ v,φ v:=by
 cases t with
 |one t=>exact Ty.ex_some h
 |agg ts=>let ⟨vs,h⟩:=ZiL h;exact ⟨_,h⟩
def ZrC:List Vt->(List Value->Prop)->Prop
 |[],φ=>φ []
 |t::ts,φ=>t.ex λ v=>ZrC ts λ vs=>φ (v::vs)
theorem ZhD:∀ {ts:List Vt} {φ:List Value->Prop},ZrC ts φ->∃ vs,φ vs
 |[],_,h=>⟨[],h⟩
 |_::_,_,h=>let ⟨v,h⟩:=Vt.ex_some h;let ⟨vs,h⟩:=ZhD h;⟨v::vs,h⟩
inductive Rt where
 |val (t:Vt)|tup (ts:List Vt)
def Rt.ex:Rt->(Value->Prop)->Prop
 | .val t,φ=>t.ex φ
 | .tup ts,φ=>ZrC ts λ vs=>φ (.tuple vs.toArray)
theorem Rt.ex_some {t:Rt} {φ:Value->Prop} (h:t.ex φ):∃ v,φ v:=by
 cases t with
 |val t=>exact Vt.ex_some h
 |tup ts=>let ⟨vs,h⟩:=ZhD h;exact ⟨_,h⟩
def ZzH (P:Program) (t:TypeId):Ty:=
 match P.underlying t with
 |some .bool=>.bool
 |some (.int k)=>.int k
 |some .string=>.str
 |some (.pointer _)=>.ptr
 |some (.slice _)=>.sl
 |some (.map _ _)=>.map
 |some (.float .f64)=>.flt
 |_=>.any
def Zrw (f:TypeId->Option (List Ty)):List Field->Option (List Ty)
 |[]=>some []
 |x::xs=>match f x.type with
  |none=>none
  |some l=>match Zrw f xs with
   |none=>none
   |some m=>some (l++m)
def ZyJ (P:Program):Nat->TypeId->Option (List Ty)
 |0,_=>none
 |d + 1,t=>match P.underlying t with
  |some (.struct fs)=>Zrw (ZyJ P d) fs.toList
  |some (.array n e)=>match Nat.ble n 4 with
   |true=>match ZyJ P d e with
    |some l=>some (List.replicate n l).flatten
    |none=>none
   |false=>none
  |_=>some [ZzH P t]
def ZzU (P:Program) (t:TypeId):Vt:=
 match P.underlying t with
 |some (.struct _)|some (.array _ _)=>match ZyJ P 6 t with
  |some l=>.agg l
  |none=>.one .any
 |_=>.one (ZzH P t)
def ZzJ (P:Program) (t:TypeId):Rt:=
 match P.underlying t with
 |some (.tuple ts)=>.tup (ts.toList.map (ZzU P))
 |_=>.val (ZzU P t)
abbrev Env:=Nat->Value
def Env.set (ρ:Env) (d:Nat) (v:Value):Env:=λ i=>match Nat.beq i d with|true=>v|false=>ρ i
def Env.put (ρ:Env) (d:Option Tmp) (v:Value):Env:=match d with|some d=>ρ.set d v|none=>ρ
def Env.ev (ρ:Env):Operand->Value
 | .tmp t=>ρ t
 | .const v=>v
 | .global g=>.pointer (some ⟨g,0,none⟩)
 | .func f=>.func (.func f) #[] #[]
def Br (b:Bool) (A B:Prop):Prop:=match b with|true=>A|false=>B
theorem Br.mk {b:Bool} {A B:Prop} (h:b=true->A) (h':b=false->B):Br b A B:=by
 cases b
 ·exact h' rfl
 ·exact h rfl
theorem Br.t {b:Bool} {A B:Prop} (hb:b=true) (h:A):Br b A B:=by subst hb;exact h
theorem Br.f {b:Bool} {A B:Prop} (hb:b=false) (h:B):Br b A B:=by subst hb;exact h
def Nz (b:Int) (A:Prop):Prop:=match decide (b=0) with|true=>False|false=>A
theorem Nz.mk {b:Int} {A:Prop} (hb:b≠0) (h:A):Nz b A:=by unfold Nz;rw [decide_eq_false hb];exact h
theorem Nz.out {b:Int} {A:Prop} (h:Nz b A):b≠0/\A:=by
 unfold Nz at h;split at h
 ·exact h.elim
 ·rename_i hb;exact ⟨of_decide_eq_false hb,h⟩
def Zfo (op:BinOp) (k:IntKind) (x y:Int):Int:=
 let a:=BitVec.ofInt k.bits x
 let b:=BitVec.ofInt k.bits y
 k.wrap (match op with| .and=>(a &&& b).toNat| .or=>(a|||b).toNat| .xor=>(a ^^^ b).toNat|_=>(a &&& ~~~b).toNat:Nat)
def Zuh (k:IntKind) (x y:Int):Int:=k.wrap (x * 2 ^ min y.toNat k.bits)
def Zf8 (k:IntKind) (x y:Int):Int:=x.fdiv (2 ^ min y.toNat k.bits)
def Ge0 (y:Int) (A:Prop):Prop:=match decide (y<0) with|true=>False|false=>A
theorem Ge0.mk {y:Int} {A:Prop} (hy:0<=y) (h:A):Ge0 y A:=by unfold Ge0;rw [decide_eq_false (by omega)];exact h
def ariF (op:BinOp) (k:IntKind) (a b:Int) (K:Value->Prop):Prop:=
 match op with
 | .add=>K (.int k (k.wrap (a + b)))
 | .sub=>K (.int k (k.wrap (a - b)))
 | .mul=>K (.int k (k.wrap (a * b)))
 | .quo=>Nz b (K (.int k (k.wrap (a.tdiv b))))
 | .rem=>Nz b (K (.int k (a.tmod b)))
 | .and=>K (.int k (Zfo .and k a b))
 | .or=>K (.int k (Zfo .or k a b))
 | .xor=>K (.int k (Zfo .xor k a b))
 | .andNot=>K (.int k (Zfo .andNot k a b))
 | .eql=>K (.bool (a==b))
 | .neq=>K (.bool (a !=b))
 | .lss=>K (.bool (decide (a<b)))
 | .leq=>K (.bool (decide (a<=b)))
 | .gtr=>K (.bool (decide (a>b)))
 | .geq=>K (.bool (decide (a >= b)))
 |_=>False
def strF (op:BinOp) (a b:ByteArray) (K:Value->Prop):Prop:=
 match op with
 | .add=>((a.size + b.size:Nat):Int)<=IntKind.i64.max/\K (.string (a++b))
 | .eql=>K (.bool (a.toList==b.toList))
 | .neq=>K (.bool !(a.toList==b.toList))
 | .lss=>K (.bool (Op.bytesLess a.toList b.toList))
 | .leq=>K (.bool (Op.bytesLess a.toList b.toList||a.toList==b.toList))
 | .gtr=>K (.bool !(Op.bytesLess a.toList b.toList||a.toList==b.toList))
 | .geq=>K (.bool !(Op.bytesLess a.toList b.toList))
 |_=>False
def eqF (op:BinOp) (b:Bool) (K:Value->Prop):Prop:=
 match op with
 | .eql=>K (.bool b)
 | .neq=>K (.bool !b)
 |_=>False
def ZdN (P:Program) (T:TypeId):Nat:=
 match P.underlying T with
 |some (.int _)=>1
 |some .string=>2
 |some .bool=>3
 |some (.pointer _)=>4
 |some (.slice _)=>5
 |some (.map _ _)=>6
 |some (.func _ _ _)=>7
 |_=>0
def Zmt:BinOp->Bool| .shl| .shr=>true|_=>false
def Zui (op:BinOp) (k:IntKind) (a y:Int) (K:Value->Prop):Prop:=
 Ge0 y (match op with
 | .shl=>K (.int k (Zuh k a y))
 |_=>K (.int k (Zf8 k a y)))
def intF (op:BinOp) (x y:Value) (K:Value->Prop):Prop:=
 match x with
 | .int k a=>match y with
  | .int k' b=>(match Zmt op with
   |true=>Zui op k a b K
   |false=>(match decide (k=k') with|true=>ariF op k a b K|false=>False))
  |_=>False
 |_=>False
def ZAX (P:Program) (op:BinOp) (T:TypeId) (x y:Value) (K:Value->Prop):Prop:=
 match ZdN P T with
 |1=>intF op x y K
 |2=>match x with
  | .string a=>match y with| .string b=>strF op a b K|_=>False
  |_=>False
 |3=>match x with
  | .bool a=>match y with| .bool b=>eqF op (a==b) K|_=>False
  |_=>False
 |4=>match x with
  | .pointer p=>match y with| .pointer none=>eqF op p.isNone K|_=>False
  |_=>False
 |5=>match x with
  | .slice a _ _=>match y with| .slice none _ _=>eqF op a.isNone K|_=>False
  |_=>False
 |6=>match x with
  | .map m=>match y with| .map none=>eqF op m.isNone K|_=>False
  |_=>False
 |7=>match y with
  | .nilFunc=>match x with| .nilFunc=>eqF op true K| .func _ _ _=>eqF op false K|_=>False
  |_=>False
 |_=>False
theorem Zd8 {P:Program} {T:TypeId} {x y:Value} {b:Bool} (h:∀ d w,(Op.equalIn (d + 1) T x y).run P w=.ok b w) (op:BinOp) {K:Value->Prop} (ox oy:Operand)
  (hop:eqF op b K) (hb:binOp .eql T x y=(do pure (.bool (<-Op.equal T x y)):Sem Value)) (hb':binOp .neq T x y=(do pure (.bool (!(<-Op.equal T x y))):Sem Value))
  (hg:∀ w,(eqGuard op T ox oy x y).run P w=.ok () w):
  ∃ v,(∀ w,(do eqGuard op T ox oy x y;binOp op T x y:Sem Value).run P w=.ok v w)/\K v:=by
 have h':∀ w,(Op.equal T x y).run P w=.ok b w:=h 9999;cases op<;>simp only [eqF] at hop
 ·exact ⟨_,λ w=>by rw [Sem.run_bind,hg w,hb];simp [h'],hop⟩
 ·exact ⟨_,λ w=>by rw [Sem.run_bind,hg w,hb'];simp [h'],hop⟩
theorem Zpg {P:Program} {op:BinOp} {T:TypeId} {x y:Value} {K:Value->Prop} (h:ZAX P op T x y K) (ox oy:Operand):
  ∃ v,(∀ w,(do eqGuard op T ox oy x y;binOp op T x y:Sem Value).run P w=.ok v w)/\K v:=by
 unfold ZAX at h;split at h
 ·-- integers
  unfold intF at h;split at h
  ·rename_i k a
   split at h
   ·rename_i k' b
    split at h
    ·rename_i hs
     unfold Zui Ge0 at h;split at h
     ·exact h.elim
     ·rename_i hy
      have hy:=of_decide_eq_false hy;have e:∀ s:Sem Value,(do eqGuard op T ox oy (.int k a) (.int k' b);s:Sem Value)=s:=λ s=>by
       unfold eqGuard;cases op<;>simp [Zmt] at hs<;>rfl
      cases op<;>simp only [Zmt,Bool.false_eq_true] at hs<;>simp only at h
      ·exact ⟨_,λ w=>by simp only [e,binOp,Op.shift,if_neg hy];rfl,h⟩
      ·exact ⟨_,λ w=>by simp only [e,binOp,Op.shift,if_neg hy];rfl,h⟩
    ·split at h
     ·rename_i hk
      have hk:=of_decide_eq_true hk;subst hk;unfold ariF at h;cases op<;>simp only at h
      case add=>exact ⟨_,λ w=>by simp [eqGuard,binOp,Op.intArith],h⟩
      case sub=>exact ⟨_,λ w=>by simp [eqGuard,binOp,Op.intArith],h⟩
      case mul=>exact ⟨_,λ w=>by simp [eqGuard,binOp,Op.intArith],h⟩
      case quo=>obtain ⟨hb,h⟩:=h.out;exact ⟨_,λ w=>by simp [eqGuard,binOp,Op.intDiv,hb],h⟩
      case rem=>obtain ⟨hb,h⟩:=h.out;exact ⟨_,λ w=>by simp [eqGuard,binOp,Op.intDiv,hb],h⟩
      case and=>exact ⟨_,λ w=>by simp [eqGuard,binOp,Op.intBits,Zfo],h⟩
      case or=>exact ⟨_,λ w=>by simp [eqGuard,binOp,Op.intBits,Zfo],h⟩
      case xor=>exact ⟨_,λ w=>by simp [eqGuard,binOp,Op.intBits,Zfo],h⟩
      case andNot=>exact ⟨_,λ w=>by simp [eqGuard,binOp,Op.intBits,Zfo],h⟩
      case eql=>exact ⟨_,λ w=>by simp [eqGuard,binOp,Op.intCmp],h⟩
      case neq=>exact ⟨_,λ w=>by simp [eqGuard,binOp,Op.intCmp],h⟩
      case lss=>exact ⟨_,λ w=>by simp [eqGuard,binOp,Op.intCmp],h⟩
      case leq=>exact ⟨_,λ w=>by simp [eqGuard,binOp,Op.intCmp],h⟩
      case gtr=>exact ⟨_,λ w=>by simp [eqGuard,binOp,Op.intCmp],h⟩
      case geq=>exact ⟨_,λ w=>by simp [eqGuard,binOp,Op.intCmp],h⟩
     ·exact h.elim
   ·exact h.elim
  ·exact h.elim
 ·split at h
  ·split at h
   ·rename_i a _ b
    unfold strF at h;cases op<;>simp only at h
    case add=>
     obtain ⟨hb,h⟩:=h;exact ⟨_,λ w=>by simp only [eqGuard,binOp,Op.stringOp];rw [if_neg (Int.not_lt.2 hb)];simp,h⟩
    all_goals exact ⟨_,λ w=>by simp [eqGuard,binOp,Op.stringOp],h⟩
   ·exact h.elim
  ·exact h.elim
 ·rename_i hT
  have hT:P.underlying T=some .bool:=by
   unfold ZdN at hT;split at hT<;>first|assumption|simp at hT
  split at h
  ·split at h
   ·exact Zd8 (λ d w=>by simp [Op.equalIn,run_underlying hT]) op ox oy h rfl rfl (λ w=>by cases op<;>rfl)
   ·exact h.elim
  ·exact h.elim
 ·rename_i hT
  obtain ⟨e,hT⟩:∃ e,P.underlying T=some (.pointer e):=by
   unfold ZdN at hT;split at hT<;>first|exact ⟨_,by assumption⟩|simp at hT
  split at h
  ·split at h
   ·rename_i p _
    exact Zd8 (λ d w=>by cases p<;>simp [Op.equalIn,run_underlying hT]) op ox oy h (by cases p<;>rfl) (by cases p<;>rfl) (λ w=>by cases op<;>rfl)
   ·exact h.elim
  ·exact h.elim
 ·rename_i hT
  obtain ⟨e,hT⟩:∃ e,P.underlying T=some (.slice e):=by
   unfold ZdN at hT;split at hT<;>first|exact ⟨_,by assumption⟩|simp at hT
  split at h
  ·split at h
   ·rename_i a _ _ _ _ _
    exact Zd8 (λ d w=>by cases a<;>simp [Op.equalIn,run_underlying hT]) op ox oy h rfl rfl (λ w=>by cases op<;>rfl)
   ·exact h.elim
  ·exact h.elim
 ·rename_i hT
  obtain ⟨e,e',hT⟩:∃ e e',P.underlying T=some (.map e e'):=by
   unfold ZdN at hT;split at hT<;>first|exact ⟨_,_,by assumption⟩|simp at hT
  split at h
  ·split at h
   ·rename_i m _
    exact Zd8 (λ d w=>by cases m<;>simp [Op.equalIn,run_underlying hT]) op ox oy h rfl rfl (λ w=>by cases op<;>rfl)
   ·exact h.elim
  ·exact h.elim
 ·rename_i hT
  obtain ⟨e,e',e'',hT⟩:∃ e e' e'',P.underlying T=some (.func e e' e''):=by
   unfold ZdN at hT;split at hT<;>first|exact ⟨_,_,_,by assumption⟩|simp at hT
  split at h
  ·split at h
   ·exact Zd8 (λ d w=>by simp [Op.equalIn,run_underlying hT]) op ox oy h rfl rfl (λ w=>by cases op<;>rfl)
   ·exact Zd8 (λ d w=>by simp [Op.equalIn,run_underlying hT]) op ox oy h rfl rfl (λ w=>by cases op<;>rfl)
   ·exact h.elim
  ·exact h.elim
 ·exact h.elim
def ZeC {α:Type} (P:Program):Sem α->Option α
 | .pure a=>some a
 | .program k=>ZeC P (k P)
 | .mark _ k=>ZeC P k
 |_=>none
theorem ZeZ {α:Type} {P:Program} {s:Sem α} {a:α} (h:ZeC P s=some a) (w:World):s.run P w=.ok a w:=by
 induction s with
 |pure b=>simp only [ZeC,Option.some.injEq] at h;subst h;rfl
 |program k ih=>exact ih P h
 |mark m k ih=>exact ih h
 |_=>simp [ZeC] at h
def Ziu {α:Type} (P:Program):Sem α->Option (Obj × (Nat->Option α))
 | .program k=>Ziu P (k P)
 | .mark _ k=>Ziu P k
 | .new o k=>some (o,λ b=>ZeC P (k b))
 |_=>none
theorem Zlb {α:Type} {P:Program} {s:Sem α} {o:Obj} {f:Nat->Option α} (h:Ziu P s=some (o,f)) (w:World) {a:α} (ha:f w.heap.size=some a):
  s.run P w=.ok a (w.alloc o):=by
 induction s with
 |program k ih=>exact ih P h
 |mark m k ih=>exact ih h
 |new o' k ih=>
  simp only [Ziu,Option.some.injEq,Prod.mk.injEq] at h;obtain ⟨rfl,rfl⟩:=h;exact ZeZ ha _
 |_=>simp [Ziu] at h
def PR (P:Program) (s:Sem Next) (K:Value->Prop):Prop:=
 match ZeC P s with
 |some (.value v)=>K v
 |_=>False
def ZgS (P:Program) (t:TypeId):Nat:=match P.info? t with|some i=>i.size|none=>0
def Zc (p:Option Addr) (K:Addr->Prop):Prop:=match p with|some a=>K a|none=>False
theorem Zc.mk {p:Option Addr} {a:Addr} {K:Addr->Prop} (hp:p=some a) (h:K a):Zc p K:=by subst hp;exact h
def Zyc (x:Value) (K:Value->Prop):Prop:=
 match x with
 | .pointer p=>Zc p λ a=>K (.pointer (some a))
 | .func (.func f) first captured=>K (.func (.func f) first captured)
 | .iface t v=>K (.iface t v)
 |_=>False
def Za6 (i n:Nat):Nat:=match n with|1=>i|n=>i * n
theorem ZfJ (i n:Nat):Za6 i n=i * n:=by unfold Za6;split<;>simp
def Rng (i:Int) (n:Nat) (A:Prop):Prop:=match decide (0<=i/\i<(n:Int)) with|true=>A|false=>False
theorem Rng.mk {i:Int} {n:Nat} {A:Prop} (h0:0<=i) (h1:i<(n:Int)) (h:A):Rng i n A:=by unfold Rng;rw [decide_eq_true ⟨h0,h1⟩];exact h
theorem Rng.out {i:Int} {n:Nat} {A:Prop} (h:Rng i n A):0<=i/\i<(n:Int)/\A:=by
 unfold Rng at h;split at h
 ·rename_i hb;have:=of_decide_eq_true hb;exact ⟨this.1,this.2,h⟩
 ·exact h.elim
theorem Zc.out {p:Option Addr} {K:Addr->Prop} (h:Zc p K):∃ a,p=some a/\K a:=by
 unfold Zc at h;split at h
 ·exact ⟨_,rfl,h⟩
 ·exact h.elim
def idxA (base:Option Addr) (len:Nat) (i:Int) (size:Nat) (K:Value->Prop):Prop:=
 Rng i len (Zc base λ a=>K (.pointer (some (a.add (Za6 i.toNat size)))))
def ZjM (P:Program) (T:TypeId) (x i:Value) (K:Value->Prop):Prop:=
 match i with
 | .int _ n=>match P.underlying T with
  |some (.slice e)=>(match x with| .slice a len _=>idxA a len n (ZgS P e) K|_=>False)
  |some (.array len e)=>(match x with| .pointer p=>idxA p len n (ZgS P e) K|_=>False)
  |_=>False
 |_=>False
def ZiC (P:Program) (t:TypeId):Bool:=match P.underlying t with|some (.struct _)|some (.array _ _)=>true|_=>false
def ZAP (P:Program) (T:TypeId) (x i:Value) (K:Value->Prop):Prop:=
 match i with
 | .int _ n=>match P.underlying T with
  |some .string=>(match x with| .string s=>∃ c:UInt8,0<=n/\s[n.toNat]? =some c/\K (.int .u8 c.toNat)|_=>False)
  |some (.array len e)=>(match x with
   | .agg cs=>Rng n len (match ZiC P e with
    |true=>K (.agg (cs.extract (Za6 n.toNat (ZgS P e)) (Za6 n.toNat (ZgS P e) + ZgS P e)))
    |false=>(ZzH P e).ex λ v=>cs[Za6 n.toNat (ZgS P e)]? =some v/\K v)
   |_=>False)
  |_=>False
 |_=>False
def bnd (x:Option Value) (d y:Nat) (φ:Nat->Prop):Prop:=
 match x with
 |none=>φ d
 |some v=>match v with| .int _ i=>0<=i/\i<=(y:Int)/\φ i.toNat|_=>False
def Zb1 (a:Option Addr) (l m size:Nat):Option Addr:=if m=l then a else a.map (·.add (l * size))
def ZpV (P:Program) (T:TypeId) (x:Value) (lo hi mx:Option Value) (K:Value->Prop):Prop:=
 match P.underlying T with
 |some .string=>(match x with
  | .string s=>(match mx with
   |some _=>False
   |none=>bnd hi s.size s.size λ h=>bnd lo 0 h λ l=>K (.string (s.extract l h)))
  |_=>False)
 |some (.slice e)=>(match x with
  | .slice a n c=>bnd mx c c λ m=>(match hi,mx with
   |none,some _=>False
   |_,_=>bnd hi n m λ h=>(match lo with
    |none=>K (.slice a h m)
    |some v=>bnd (some v) 0 h λ l=>K (.slice (Zb1 a l m (ZgS P e)) (h - l) (m - l))))
  |_=>False)
 |some (.array n e)=>(match x with
  | .pointer p=>∃ a:Addr,p=some a/\bnd mx n n λ m=>(match hi,mx with
   |none,some _=>False
   |_,_=>bnd hi n m λ h=>(match lo with
    |none=>K (.slice (some a) h m)
    |some v=>bnd (some v) 0 h λ l=>K (.slice (Zb1 (some a) l m (ZgS P e)) (h - l) (m - l))))
  |_=>False)
 |_=>False
def Ze0 (P:Program) (op:Op):Nat:=
 match op with
 | .move _| .assign _| .pick _ _ _| .field _ _ _| .build _ _| .extract _ _| .makeFunc _ _ _| .makeInterface _ _| .unOp _ _ _=>1
 | .convert src dst _=>(match P.underlying dst with|some (.int _)=>(match P.underlying src with|some (.float _)=>0|_=>1)|_=>0)
 | .call c=>(match c.callee with
  | .builtin .len| .builtin .cap=>(match c.argTypes[0]? with
   |some t=>(match P.underlying t with|some (.map _ _)|some (.chan _ _)=>0|_=>1)
   |none=>0)
  | .builtin .min| .builtin .max=>1
  |_=>0)
 | .binOp _ T _ _ _=>(match ZdN P T with|0=>0|_=>2)
 | .nilCheck _=>3
 | .indexAddr _ _ _=>4
 | .index _ _ _=>5
 | .slice _ _ _ _ _=>6
 | .fieldAddr _ _ _=>7
 |_=>0
def ZnI (P:Program) (T:TypeId) (x:Value) (i:Nat) (K:Value->Prop):Prop:=
 match x with
 | .pointer p=>Zc p λ a=>PR P (do pure (.value (<-Instr.fieldAt T (.pointer (some a)) i))) K
 |_=>False
def Zqv (P:Program) (ρ:Env) (o:Oper) (K:Value->Prop):Prop:=
 match Ze0 P o.op with
 |1=>PR P (execOp ρ.ev o) K
 |_=>match o.op with
  | .binOp op T x y _=>ZAX P op T (ρ.ev x) (ρ.ev y) K
  | .nilCheck x=>Zyc (ρ.ev x) K
  | .indexAddr T x i=>ZjM P T (ρ.ev x) (ρ.ev i) K
  | .index T x i=>ZAP P T (ρ.ev x) (ρ.ev i) K
  | .slice T x lo hi mx=>ZpV P T (ρ.ev x) (lo.map ρ.ev) (hi.map ρ.ev) (mx.map ρ.ev) K
  | .fieldAddr T x i=>ZnI P T (ρ.ev x) i K
  |_=>False
def ZcB (P:Program) (S:World->Prop) (s:Sem Next) (K:Value->Prop):Prop:=∃ v,(∀ w,S w->s.run P w=.ok (.value v) w)/\K v
theorem ZgY {P:Program} {t:TypeId} {i:TypeInfo} (h:P.info? t=some i) (w:World):(typeInfo t).run P w=.ok i w:=by
 simp [typeInfo,h]
theorem ZaB {P:Program} {s:Sem Value} {v:Value} {w w':World} (h:s.run P w=.ok v w'):(do pure (.value (<-s)):Sem Next).run P w=.ok (.value v) w':=by
 simp [h]
theorem ZmT {P:Program} {ρ:Operand->Value} {dst:Option Tmp} {ty:TypeId} {pos:String} {after:Array Edge} {guard:Option (Nat × Bool)} {x:Operand} {K:Value->Prop} (h:Zyc (ρ x) K):
  ZcB P (λ _=>True) (execOp ρ ⟨dst,.nilCheck x,ty,pos,after,guard⟩) K:=by
 unfold Zyc at h;split at h
 ·rename_i hx
  unfold Zc at h;split at h
  ·exact ⟨_,λ w _=>by simp only [execOp,hx];rfl,h⟩
  ·exact h.elim
 ·rename_i hx;exact ⟨_,λ w _=>by simp only [execOp,hx];rfl,h⟩
 ·rename_i hx;exact ⟨_,λ w _=>by simp only [execOp,hx];rfl,h⟩
 ·exact h.elim
section
variable {P:Program} {ρ:Operand->Value} {dst:Option Tmp} {ty:TypeId} {pos:String} {after:Array Edge} {guard:Option (Nat × Bool)} {K:Value->Prop}
theorem Zfa {P:Program} {t:TypeId} {d:TypeDesc} (h:P.underlying t=some d) (w:World):(isAgg t).run P w=.ok (ZiC P t) w:=by
 unfold ZiC;rw [h];simp only [isAgg,Sem.run_bind,run_underlying h,Result.andThen_ok];cases d<;>rfl
theorem Za2 {P:Program} {t:TypeId} {i:TypeInfo} (h:P.info? t=some i) (w:World):(sizeOf t).run P w=.ok (ZgS P t) w:=by
 unfold ZgS;simp [sizeOf,ZgY h,h]
theorem Zm3 {P:Program} {t:TypeId} (h:ZgS P t≠0):∃ i,P.info? t=some i:=by
 unfold ZgS at h;split at h
 ·exact ⟨_,by assumption⟩
 ·exact absurd rfl h
def ZlA (P:Program) (T:TypeId):Bool:=
 match P.underlying T with
 |some (.slice e)|some (.array _ e)=>(P.info? e).isSome
 |_=>true
theorem Zh1 {T:TypeId} {x i:Operand} (hok:ZlA P T=true) (h:ZjM P T (ρ x) (ρ i) K):
  ZcB P (λ _=>True) (execOp ρ ⟨dst,.indexAddr T x i,ty,pos,after,guard⟩) K:=by
 unfold ZjM at h;unfold ZlA at hok;split at h
 case h_2=>exact h.elim
 rename_i k n hi;split at h
 ·rename_i e hT
  rw [hT] at hok;obtain ⟨ie,hie⟩:=Option.isSome_iff_exists.1 hok;split at h
  ·rename_i a len c hx
   obtain ⟨h0,h1,h⟩:=Rng.out h;obtain ⟨ad,rfl,h⟩:=Zc.out h;refine ⟨_,λ w _=>?_,h⟩;simp only [execOp,hx,hi];refine ZaB ?_;simp [Instr.indexAt,asIntOf,run_underlying hT,h0,h1,Za2 hie,ZfJ]
  ·exact h.elim
 ·rename_i len e hT
  rw [hT] at hok;obtain ⟨ie,hie⟩:=Option.isSome_iff_exists.1 hok;split at h
  ·rename_i p hx
   obtain ⟨h0,h1,h⟩:=Rng.out h;obtain ⟨ad,rfl,h⟩:=Zc.out h;refine ⟨_,λ w _=>?_,h⟩;simp only [execOp,hx,hi];refine ZaB ?_;simp [Instr.indexAt,Instr.sureAddr,asIntOf,run_underlying hT,h0,h1,Za2 hie,ZfJ]
  ·exact h.elim
 ·exact h.elim
def ZqD (P:Program) (T:TypeId):Bool:=
 match P.underlying T with
 |some (.slice e)|some (.array _ e)=>(P.info? e).isSome && (P.underlying e).isSome
 |_=>true
theorem ZoW {T:TypeId} {x i:Operand} (hok:ZqD P T=true) (h:ZAP P T (ρ x) (ρ i) K):
  ZcB P (λ _=>True) (execOp ρ ⟨dst,.index T x i,ty,pos,after,guard⟩) K:=by
 unfold ZAP at h;unfold ZqD at hok;split at h
 case h_2=>exact h.elim
 rename_i k n hi;split at h
 ·rename_i hT
  split at h
  ·rename_i s hx
   obtain ⟨c,h0,hc,h⟩:=h;refine ⟨_,λ w _=>?_,h⟩;simp only [execOp,hx,hi];refine ZaB ?_;simp [Instr.index,asIntOf,run_underlying hT,h0,hc]
  ·exact h.elim
 ·rename_i len e hT
  rw [hT] at hok;simp only [Bool.and_eq_true] at hok;obtain ⟨ie,hie⟩:=Option.isSome_iff_exists.1 hok.1;obtain ⟨de,hde⟩:=Option.isSome_iff_exists.1 hok.2;split at h
  ·rename_i cs hx
   obtain ⟨h0,h1,h⟩:=Rng.out h;split at h
   ·rename_i hag
    refine ⟨_,λ w _=>?_,h⟩;simp only [execOp,hx,hi];refine ZaB ?_;simp [Instr.index,asIntOf,run_underlying hT,h0,h1,Za2 hie,part,Zfa hde,hag,ZfJ]
   ·rename_i hag
    obtain ⟨v,hv,h⟩:=Ty.ex_some h;refine ⟨_,λ w _=>?_,h⟩;simp only [execOp,hx,hi];refine ZaB ?_;rw [ZfJ] at hv;simp [Instr.index,asIntOf,run_underlying hT,h0,h1,Za2 hie,part,Zfa hde,hag,hv]
  ·exact h.elim
 ·exact h.elim
theorem Zee {v:Value} {d y:Nat} {φ:Nat->Prop} {code:BoundsCode} (h:bnd (some v) d y φ):∃ l,(∀ w,(Instr.sliceBound v y code).run P w=.ok l w)/\φ l:=by
 unfold bnd at h;split at h
 ·rename_i hh;cases hh
 ·rename_i hh
  cases hh;split at h
  ·obtain ⟨h0,h1,h⟩:=h
   exact ⟨_,λ w=>by simp [Instr.sliceBound,asIntOf,h0,h1],h⟩
  ·exact h.elim
theorem ZdM {isS:Bool} {len cap:Nat} {lo hi mx:Option Value} {φ:Nat->Nat->Nat->Prop}
  (h:bnd mx cap cap λ m=>(match hi,mx with
   |none,some _=>False
   |_,_=>bnd hi len m λ h=>bnd lo 0 h λ l=>φ l h m)):
  ∃ l h m,(∀ w,(Instr.sliceBounds isS len cap lo hi mx).run P w=.ok (l,h,m) w)/\φ l h m:=by
 cases mx with
 |none=>
  cases hi with
  |none=>
   cases lo with
   |none=>exact ⟨0,len,cap,λ w=>by simp [Instr.sliceBounds],h⟩
   |some u=>
    obtain ⟨l,rl,h⟩:=Zee (P:=P) (code:=.sliceB) (φ:=λ l=>φ l len cap) (d:=0) (y:=len) (v:=u) h;exact ⟨l,len,cap,λ w=>by simp [Instr.sliceBounds,rl],h⟩
  |some v=>
   obtain ⟨h',rh,h⟩:=Zee (P:=P) (code:=if isS then .sliceAcap else .sliceAlen) (φ:=λ h=>bnd lo 0 h λ l=>φ l h cap) (d:=len) (y:=cap) (v:=v) h
   cases lo with
   |none=>exact ⟨0,h',cap,λ w=>by simp [Instr.sliceBounds,rh],h⟩
   |some u=>
    obtain ⟨l,rl,h⟩:=Zee (P:=P) (code:=.sliceB) (φ:=λ l=>φ l h' cap) (d:=0) (y:=h') (v:=u) h;exact ⟨l,h',cap,λ w=>by simp [Instr.sliceBounds,rh,rl],h⟩
 |some x=>
  obtain ⟨m,rm,h⟩:=Zee (P:=P) (code:=if isS then .slice3Acap else .slice3Alen) h
  cases hi with
  |none=>exact h.elim
  |some v=>
   obtain ⟨h',rh,h⟩:=Zee (P:=P) (code:=.slice3B) (φ:=λ h=>bnd lo 0 h λ l=>φ l h m) (d:=len) (y:=m) (v:=v) h;cases lo with
   |none=>exact ⟨0,h',m,λ w=>by simp [Instr.sliceBounds,rm,rh],h⟩
   |some u=>
    obtain ⟨l,rl,h⟩:=Zee (P:=P) (code:=.slice3C) (φ:=λ l=>φ l h' m) (d:=0) (y:=h') (v:=u) h;exact ⟨l,h',m,λ w=>by simp [Instr.sliceBounds,rm,rh,rl],h⟩
theorem Zc0 (a:Option Addr) (m size:Nat):Zb1 a 0 m size=a:=by
 unfold Zb1;split
 ·rfl
 ·cases a<;>simp [Addr.add]
theorem Zkz {T:TypeId} {x:Operand} {lo hi mx:Option Operand} (hok:ZlA P T=true)
  (h:ZpV P T (ρ x) (lo.map ρ) (hi.map ρ) (mx.map ρ) K):
  ZcB P (λ _=>True) (execOp ρ ⟨dst,.slice T x lo hi mx,ty,pos,after,guard⟩) K:=by
 unfold ZpV at h;unfold ZlA at hok;split at h
 ·rename_i hT
  split at h
  ·rename_i s hx
   split at h
   ·exact h.elim
   ·rename_i hmx
    obtain ⟨l,h',m,hr,h⟩:=ZdM (P:=P) (isS:=false) (len:=s.size) (cap:=s.size) (lo:=lo.map ρ) (hi:=hi.map ρ) (mx:=none) (φ:=λ l h _=>K (.string (s.extract l h))) (by
     revert h
     generalize hi.map ρ=hi';intro h;cases hi' with
     |none=>exact h
     |some v=>exact h)
    refine ⟨_,λ w _=>?_,h⟩;simp only [execOp,hx,hmx];refine ZaB ?_;simp [Instr.sliceAt,Instr.slice,run_underlying hT,hr]
  ·exact h.elim
 ·rename_i e hT
  rw [hT] at hok;obtain ⟨ie,hie⟩:=Option.isSome_iff_exists.1 hok;split at h
  ·rename_i a n c hx
   obtain ⟨l,h',m,hr,h⟩:=ZdM (P:=P) (isS:=true) (len:=n) (cap:=c) (lo:=lo.map ρ) (hi:=hi.map ρ) (mx:=mx.map ρ) (φ:=λ l h m=>K (.slice (Zb1 a l m (ZgS P e)) (h - l) (m - l))) (by
    revert h
    generalize hi.map ρ=hi';generalize mx.map ρ=mx';generalize lo.map ρ=lo';intro h;cases lo' with
    |some v=>exact h
    |none=>
     cases mx' with
     |none=>cases hi' with
      |none=>simpa [bnd,Zc0] using h
      |some v=>simpa [bnd,Zc0] using h
     |some u=>cases hi' with
      |none=>simpa [bnd] using h
      |some v=>simpa [bnd,Zc0] using h)
   refine ⟨_,λ w _=>?_,h⟩;simp only [execOp,hx];refine ZaB ?_;simp [Instr.sliceAt,Instr.slice,run_underlying hT,hr,Za2 hie,Zb1]
  ·exact h.elim
 ·rename_i n e hT
  rw [hT] at hok;obtain ⟨ie,hie⟩:=Option.isSome_iff_exists.1 hok;split at h
  ·rename_i p hx
   obtain ⟨a,rfl,h⟩:=h;obtain ⟨l,h',m,hr,h⟩:=ZdM (P:=P) (isS:=false) (len:=n) (cap:=n) (lo:=lo.map ρ) (hi:=hi.map ρ) (mx:=mx.map ρ) (φ:=λ l h m=>K (.slice (Zb1 (some a) l m (ZgS P e)) (h - l) (m - l))) (by
    revert h
    generalize hi.map ρ=hi';generalize mx.map ρ=mx';generalize lo.map ρ=lo';intro h;cases lo' with
    |some v=>exact h
    |none=>
     cases mx' with
     |none=>cases hi' with
      |none=>simpa [bnd,Zc0] using h
      |some v=>simpa [bnd,Zc0] using h
     |some u=>cases hi' with
      |none=>simpa [bnd] using h
      |some v=>simpa [bnd,Zc0] using h)
   refine ⟨_,λ w _=>?_,h⟩;simp only [execOp,hx];refine ZaB ?_;have hc:(if m=l then some a else some (a.add (l * ZgS P e)))=Zb1 (some a) l m (ZgS P e):=by unfold Zb1;split<;>rfl
   have hc':some (if m=l then a else a.add (l * ZgS P e))=Zb1 (some a) l m (ZgS P e):=by unfold Zb1;split<;>rfl
   simp [Instr.sliceAt,Instr.sureAddr,run_underlying hT,hr,Za2 hie,hc']
  ·exact h.elim
 ·exact h.elim
def ZuT (P:Program) (op:Op):Bool:=
 match op with
 | .indexAddr T _ _| .slice T _ _ _ _=>ZlA P T
 | .index T _ _=>ZqD P T
 |_=>true
theorem Zn0 {s:Sem Next} (h:PR P s K):ZcB P (λ _=>True) s K:=by
 unfold PR at h;split at h
 ·rename_i v hv;exact ⟨v,λ w _=>ZeZ hv w,h⟩
 ·exact h.elim
theorem ZeD {e:Env} {o:Oper} (hok:ZuT P o.op=true) (h:Zqv P e o K):ZcB P (λ _=>True) (execOp e.ev o) K:=by
 unfold Zqv at h;split at h
 ·exact Zn0 h
 ·obtain ⟨dst,op,ty,pos,after,guard⟩:=o
  cases op<;>simp only at h hok<;>first|exact h.elim|skip
  case binOp op T x y T'=>
   obtain ⟨v,hv,hK⟩:=Zpg h _ _;exact ⟨v,λ w _=>ZaB (hv w),hK⟩
  case nilCheck x=>exact ZmT h
  case indexAddr T x i=>exact Zh1 hok h
  case index T x i=>exact ZoW hok h
  case slice T x lo hi mx=>exact Zkz hok h
  case fieldAddr T x i=>
   unfold ZnI at h;split at h
   ·rename_i p hx
    obtain ⟨a,rfl,h⟩:=Zc.out h;obtain ⟨v,hv,hK⟩:=Zn0 h;exact ⟨v,λ w _=>by simp only [execOp,hx];exact hv w trivial,hK⟩
   ·exact h.elim
end
def At (S:World->Prop) (p:Addr) (vs:List Value):Prop:=∀ w,S w->∀ i v,vs[i]? =some v->w.cell? (p.add i)=some v
def Zh0 (P:Program) (S:World->Prop) (T:TypeId) (x:Value) (K:Value->Prop):Prop:=
 match x with
 | .pointer q=>Zc q λ p=>(match ZiC P T with
   |true=>(match ZyJ P 6 T with
    |some ts=>ZmE ts λ vs=>At S p vs/\K (.agg vs.toArray)
    |none=>∃ vs:List Value,vs.length=ZgS P T/\At S p vs/\K (.agg vs.toArray))
   |false=>(ZzH P T).ex λ v=>At S p [v]/\K v)
 |_=>False
def Giv (P:Program) (S:World->Prop) (s:Sem Value) (t:Rt) (K:Value->Prop):Prop:=
 t.ex λ v=>(∀ w,S w->s.run P w=.ok v w)/\K v
def ZdU (P:Program) (op:Op):Nat:=
 match op with
 | .load _ _=>1
 | .lookup _ _ _ _=>2
 | .entry _=>2
 | .typeAssert _ _ _ _=>2
 | .binOp _ T _ _ _=>(match ZdN P T with|0=>2|_=>0)
 | .convert src dst _=>(match P.underlying dst with|some .string=>(match P.underlying src with|some (.slice _)=>2|some .string=>2|_=>0)|some (.int _)=>(match P.underlying src with|some (.float _)=>2|_=>0)|_=>0)
 | .call c=>(match c.callee with
  | .builtin .len=>(match c.argTypes[0]? with
   |some t=>(match P.underlying t with|some (.map _ _)=>2|_=>0)
   |none=>0)
  |_=>0)
 |_=>0
def Zpz (ρ:Operand->Value) (o:Oper):Sem Value:=
 match o.op with
 | .lookup T x i ok=>Instr.lookup T (ρ x) (ρ i) ok
 | .entry it=>Instr.entry (ρ it)
 | .typeAssert x T T' ok=>Instr.typeAssert (ρ x) T T' ok
 | .binOp op T x y _=>(do eqGuard op T x y (ρ x) (ρ y);binOp op T (ρ x) (ρ y))
 | .convert src dst x=>convert src dst (ρ x)
 | .makeSlice T l c=>Instr.makeSlice T (ρ l) (ρ c)
 | .mapEntry T m k=>Instr.mapEntry T (ρ m) (ρ k)
 | .range T x=>Instr.range T (ρ x)
 | .next it isString=>Instr.next (ρ it) isString o.type
 | .call c=>(match c.callee with
  | .builtin .append=>Builtin.append_ c.argTypes o.type (c.args.map ρ)
  | .builtin .copy=>Builtin.copy_ c.argTypes o.type (c.args.map ρ)
  | .builtin .delete=>Builtin.delete_ c.argTypes o.type (c.args.map ρ)
  | .builtin .clear=>Builtin.clear_ c.argTypes o.type (c.args.map ρ)
  | .builtin .len=>Builtin.len_ c.argTypes o.type (c.args.map ρ)
  | _ => stuck "")
 | _ => stuck ""
def ZuP (op:Op):Bool:=
 match op with
 | .lookup _ _ _ _| .entry _| .typeAssert _ _ _ _| .binOp _ _ _ _ _| .convert _ _ _| .makeSlice _ _ _| .mapEntry _ _ _| .range _ _| .next _ _=>true
 | .call c=>(match c.callee with
  | .builtin .append| .builtin .copy| .builtin .delete| .builtin .clear| .builtin .len=>true
  |_=>false)
 |_=>false
theorem Zcc {P:Program} {ρ:Operand->Value} {o:Oper} (h:ZuP o.op=true) {v:Value} {w w':World} (hr:(Zpz ρ o).run P w=.ok v w'):
  (execOp ρ o).run P w=.ok (.value v) w':=by
 obtain ⟨dst,op,ty,pos,after,guard⟩:=o;cases op<;>simp only [ZuP,Bool.false_eq_true] at h
 case call c=>
  obtain ⟨callee,args,ats⟩:=c;cases callee<;>simp only [Bool.false_eq_true] at h
  case builtin b=>
   cases b<;>simp only [Bool.false_eq_true] at h<;>exact ZaB (s:=_) hr
 all_goals exact ZaB (s:=_) hr
def Zqf (P:Program) (S:World->Prop) (ρ:Env) (o:Oper) (K:Value->Prop):Prop:=
 match ZdU P o.op with
 |1=>(match o.op with| .load T x=>Zh0 P S T (ρ.ev x) K|_=>False)
 |_=>Giv P S (Zpz ρ.ev o) (ZzJ P o.type) K
theorem Zlx:∀ {ts:List Ty} {φ:List Value->Prop},ZmE ts φ->∃ vs,vs.length=ts.length/\φ vs
 |[],_,h=>⟨[],rfl,h⟩
 |_::_,_,h=>let ⟨v,h⟩:=Ty.ex_some h;let ⟨vs,hl,h⟩:=Zlx h;⟨v::vs,by simp [hl],h⟩
def Zq7 (P:Program) (T:TypeId):Bool:=
 (P.info? T).isSome && (P.underlying T).isSome && (match ZiC P T with
 |true=>(match ZyJ P 6 T with
  |some ts=>Nat.beq ts.length (ZgS P T)
  |none=>true)
 |false=>true)
theorem ZjA {P:Program} {p:Addr} {vs:List Value} {w:World} (h:∀ i v,vs[i]? =some v->w.cell? (p.add i)=some v):
  (loadCells p vs.length).run P w=.ok vs.toArray w:=by
 have:=run_loadCells_list (P:=P) (w:=w) p vs h;simpa using this
theorem Zhk {P:Program} {S:World->Prop} {ρ:Operand->Value} {dst:Option Tmp} {ty:TypeId} {pos:String} {after:Array Edge} {guard:Option (Nat × Bool)} {K:Value->Prop}
  {T:TypeId} {x:Operand} (hok:Zq7 P T=true) (h:Zh0 P S T (ρ x) K):ZcB P S (execOp ρ ⟨dst,.load T x,ty,pos,after,guard⟩) K:=by
 unfold Zh0 at h;unfold Zq7 at hok;simp only [Bool.and_eq_true] at hok;obtain ⟨⟨hinfo,hund⟩,hok⟩:=hok;obtain ⟨d,hd⟩:=Option.isSome_iff_exists.1 hund;obtain ⟨i,hi⟩:=Option.isSome_iff_exists.1 hinfo;split at h
 case h_2=>exact h.elim
 rename_i q hx;unfold Zc at h;split at h
 case h_2=>exact h.elim
 rename_i p;split at h
 ·rename_i hag
  have key:∀ vs:List Value,vs.length=ZgS P T->At S p vs->K (.agg vs.toArray)->ZcB P S (execOp ρ ⟨dst,.load T x,ty,pos,after,guard⟩) K:=λ vs hl hat hK=>by
   refine ⟨_,λ w hw=>?_,hK⟩;simp only [execOp,hx];refine ZaB ?_;simp only [Instr.loadAt,Instr.sureAddr,loadVar,Sem.run_bind,Sem.run_pure,Result.andThen_ok,Zfa hd,hag,if_true,Za2 hi,<-hl,ZjA (hat w hw)]
  split at h
  ·rename_i ts hts
   rw [hag] at hok;simp only [hts] at hok;obtain ⟨vs,hl,hat,hK⟩:=Zlx h;exact key vs (by rw [hl];exact Nat.eq_of_beq_eq_true hok) hat hK
  ·obtain ⟨vs,hl,hat,hK⟩:=h
   exact key vs hl hat hK
 ·rename_i hag
  obtain ⟨v,hat,hK⟩:=Ty.ex_some h;refine ⟨_,λ w hw=>?_,hK⟩;have hc:w.cell? p=some v:=by have:=hat w hw 0 v rfl;simpa [Addr.add] using this
  simp only [execOp,hx];refine ZaB ?_;simp [Instr.loadAt,Instr.sureAddr,loadVar,Zfa hd,hag,hc]
def ZyB (P:Program) (op:Op):Bool:=match op with| .load T _=>Zq7 P T|_=>true
theorem Zey {P:Program} {S:World->Prop} {e:Env} {o:Oper} {K:Value->Prop} (hk:ZdU P o.op≠0)
  (hok:ZyB P o.op=true) (h:Zqf P S e o K):ZcB P S (execOp e.ev o) K:=by
 unfold Zqf at h;split at h
 ·rename_i hk1
  obtain ⟨dst,op,ty,pos,after,guard⟩:=o;cases op<;>simp only at h hok<;>first|exact h.elim|skip
  exact Zhk hok h
 ·rename_i hk1
  obtain ⟨v,hv,hK⟩:=Rt.ex_some h;refine ⟨v,λ w hw=>Zcc ?_ (hv w hw),hK⟩;obtain ⟨dst,op,ty,pos,after,guard⟩:=o;cases op<;>simp only [ZdU,ne_eq,not_true_eq_false] at hk hk1<;>first|rfl|exact (hk1 trivial).elim|skip
  case call c=>
   obtain ⟨callee,args,ats⟩:=c;cases callee<;>simp only [not_true_eq_false] at hk
   case builtin b=>cases b<;>simp only [not_true_eq_false] at hk<;>rfl
def New (o:Obj) (K:Nat->World->Prop) (w:World):Prop:=K w.heap.size (w.alloc o)
def newF (P:Program) (s:Sem Next) (K:Value->World->Prop) (w:World):Prop:=
 match Ziu P s with
 |some (o,f)=>New o (λ b w=>match f b with|some (.value v)=>K v w|_=>False) w
 |none=>False
def RunV (P:Program) (s:Sem Value) (t:Rt) (K:Value->World->Prop) (w:World):Prop:=∃ w',t.ex λ v=>s.run P w=.ok v w'/\K v w'
def ZAY (P:Program) (s:Sem Unit) (K:World->Prop) (w:World):Prop:=∃ w',s.run P w=.ok () w'/\K w'
def Zuc (p:Option Addr) (A:Int->Int->World->Prop) (B:World->Prop) (w:World):Prop:=
 ∃ r s pos,p=some ⟨r,0,none⟩/\w.heap[r]? =some (.stringIter s pos)/\
  (pos<s.size->A (pos:Int) ((Utf8.decode s pos).1:Int) { w with heap:=w.heap.setIfInBounds r (.stringIter s (pos + (Utf8.decode s pos).2)) })/\(¬ pos<s.size->B w)
def Zql (P:Program) (T:TypeId) (x:Value) (K:Value->World->Prop) (w:World):Prop:=
 match P.underlying T with
 |some .string=>(match x with| .string s=>New (.stringIter s 0) (λ b w=>K (.pointer (some ⟨b,0,none⟩)) w) w|_=>False)
 |some (.map _ _)=>RunV P (Instr.range T x) (.val (.one .ptr)) K w
 |_=>False
def ZzG (P:Program) (s:Sem Value) (K:Value->World->Prop) (w:World):Prop:=
 ∃ w',(s.run P w=.ok (.tuple #[.bool false]) w'/\K (.tuple #[.bool false]) w')\/
  (∃ k v,s.run P w=.ok (.tuple #[.bool true,k,v]) w'/\K (.tuple #[.bool true,k,v]) w')
theorem ZmU {P:Program} {s:Sem Value} {K:Value->World->Prop} {w:World} (h:ZzG P s K w):∃ v w',s.run P w=.ok v w'/\K v w':=by
 obtain ⟨w',h|⟨k,v,h⟩⟩:=h
 ·exact ⟨_,w',h.1,h.2⟩
 ·exact ⟨_,w',h.1,h.2⟩
def Zvn (x:Value) (K:Value->World->Prop) (w:World):Prop:=
 match x with
 | .pointer p=>Zuc p (λ i c w=>K (.tuple #[.bool true,.int .i64 i,.int .i32 c]) w) (λ w=>K (.tuple #[.bool false]) w) w
 |_=>False
theorem ZkW {P:Program} {T:TypeId} {x:Value} {K:Value->World->Prop} {w:World} (h:Zql P T x K w):∃ v w',(Instr.range T x).run P w=.ok v w'/\K v w':=by
 unfold Zql at h;split at h
 case h_3=>exact h.elim
 case h_2=>
  obtain ⟨w',h⟩:=h;obtain ⟨v,h⟩:=Rt.ex_some h;exact ⟨v,w',h⟩
 rename_i hT;split at h
 case h_2=>exact h.elim
 rename_i s;refine ⟨_,_,?_,h⟩;simp [Instr.range,run_underlying hT]
theorem Zmj {P:Program} {T:TypeId} {x:Value} {K:Value->World->Prop} {w:World} (h:Zvn x K w):∃ v w',(Instr.next x true T).run P w=.ok v w'/\K v w':=by
 unfold Zvn at h;split at h
 case h_2=>exact h.elim
 obtain ⟨r,s,pos,rfl,hk,hA,hB⟩:=h;by_cases hp:pos<s.size
 ·refine ⟨_,_,?_,hA hp⟩
  simp only [Instr.next,getObj,setObj,Sem.run_bind,Sem.run,hk,Result.andThen,hp,if_true];simp [goInt]
 ·refine ⟨_,_,?_,hB hp⟩
  simp [Instr.next,getObj,Sem.run,hk,hp]
def Ext (P:Program) (g:FuncId) (args:Array Value) (w:World) (Q:Ending->World->Prop):Prop:=∃ v w',(callFunc g args).run P w=.ok (.value v) w'/\Q (.returned v) w'
def ZaK (P:Program) (cl:FuncId->Bool) (f:Value) (args:List Value) (w:World) (Q:Ending->World->Prop):Prop:=
 match f with
 | .func fn first captured=>(match fn with
  | .func g=>(match cl g with
   |true=>Calls P g (first.toList++(args++captured.toList)).toArray w Q
   |false=>Ext P g (first.toList++(args++captured.toList)).toArray w Q)
  |_=>False)
 |_=>False
theorem ZaK.mono {P:Program} {cl:FuncId->Bool} {f:Value} {args:List Value} {w:World} {Q Q':Ending->World->Prop} (h:ZaK P cl f args w Q) (hq:∀ e w,Q e w->Q' e w):ZaK P cl f args w Q':=by
 unfold ZaK at *;split at h
 ·split at h
  ·split at h
   ·exact Calls.mono h hq
   ·obtain ⟨v,w',h1,h2⟩:=h;exact ⟨v,w',h1,hq _ _ h2⟩
  ·exact h.elim
 ·exact h.elim
def calV (P:Program) (cl:FuncId->Bool) (f:Value) (args:Array Value) (t:Rt) (K:Value->World->Prop) (w:World):Prop:=
 ZaK P cl f args.toList w λ e w'=>t.ex λ v=>e=.returned v/\K v w'
def rawF (P:Program) (s:Sem Next) (K:Value->World->Prop) (w:World):Prop:=
 match s.run P w with
 | .ok (.value v) w'=>K v w'
 | .ok .skip w'=>K undef w'
 |_=>False
def ZjY (op:Op):Nat:=
 match op with
 | .alloc _| .box _ _| .buildSlice _ _ _| .makeMap _ _=>1
 | .makeSlice _ _ _| .mapEntry _ _ _| .convert _ _ _=>2
 | .range _ _=>7
 | .next _ s=>(match s with|true=>8|false=>9)
 | .store _ _ _=>3
 | .mapUpdate _ _ _ _| .insert _ _ _ _=>4
 | .entryStore _ _ _ _=>5
 | .call c=>(match c.callee with
  | .builtin .append| .builtin .copy| .builtin .delete| .builtin .clear=>2
  | .value _=>6
  |_=>0)
 |_=>0
def ZzP (P:Program) (cl:FuncId->Bool) (ρ:Env) (o:Oper) (K:Value->World->Prop) (w:World):Prop:=
 match ZjY o.op with
 |1=>newF P (execOp ρ.ev o) K w
 |2=>RunV P (Zpz ρ.ev o) (ZzJ P o.type) K w
 |3=>(match o.op with| .store T a x=>ZAY P (Instr.storeAt T (ρ.ev a) (ρ.ev x)) (K undef) w|_=>False)
 |4=>(match o.op with| .mapUpdate T m k x| .insert T m k x=>ZAY P (Instr.mapUpdate T (ρ.ev m) (ρ.ev k) (ρ.ev x)) (K undef) w|_=>False)
 |5=>(match o.op with| .entryStore T m s x=>ZAY P (Instr.entryStore T (ρ.ev m) (ρ.ev s) (ρ.ev x)) (K undef) w|_=>False)
 |6=>(match o.op with| .call c=>(match c.callee with| .value f=>calV P cl (ρ.ev f) (c.args.map ρ.ev) (ZzJ P o.type) K w|_=>False)|_=>False)
 |7=>(match o.op with| .range T x=>Zql P T (ρ.ev x) K w|_=>False)
 |8=>(match o.op with| .next it _=>Zvn (ρ.ev it) K w|_=>False)
 |9=>(match o.op with| .next it _=>ZzG P (Instr.next (ρ.ev it) false o.type) K w|_=>False)
 |_=>rawF P (execOp ρ.ev o) K w
def ZO (P:Program) (g:FuncId):Bool:=
 match P.funcs[g]? with
 | some fn => fn.body.isSome && !(fn.name == "runtime.NumGoroutine")
 |none=>false
theorem ZdL {P:Program} {g:FuncId} (h:ZO P g=true) (args:Array Value) (w:World):(callFunc g args).run P w=.ok (.enter g args) w:=by
 unfold ZO at h;split at h
 ·rename_i fn hf
  simp only [Bool.and_eq_true,Bool.not_eq_true'] at h;have hb:fn.body.isNone=false:=by cases hb:fn.body<;>simp_all
  simp only [callFunc,Sem.run_bind,run_program,Result.andThen_ok,hf,h.2,hb,Bool.false_eq_true,if_false];rfl
 ·simp at h
abbrev Zpr (a:Act) (d:Option Tmp) (K:Value->World->Prop):Act->World->Prop:=λ a' w'=>∃ v,a'=a.put d v/\K v w'
theorem ZiO {P:Program} {cl:FuncId->Bool} (hcl:∀ g,cl g=true->ZO P g=true) {a:Act} {e:Env} {o:Oper} {K:Value->World->Prop} {w:World}
  {Q:Exit->Act->World->Prop} (h:ZzP P cl e o K w):o.upon P a (Zpr a o.dst K) Q ((execOp e.ev o).run P w):=by
 unfold ZzP at h;split at h
 ·unfold newF at h
  split at h
  ·rename_i ob f hn
   unfold New at h;dsimp only at h;split at h
   ·rename_i v hv
    rw [Zlb hn w hv];exact ⟨v,rfl,h⟩
   ·exact h.elim
  ·exact h.elim
 ·rename_i hk
  obtain ⟨w',h⟩:=h;obtain ⟨v,hr,hK⟩:=Rt.ex_some h;have hv:ZuP o.op=true:=by
   obtain ⟨dst,op,ty,pos,after,guard⟩:=o;cases op<;>simp [ZjY] at hk<;>first|rfl|skip
   case call c=>
    obtain ⟨callee,args,ats⟩:=c;cases callee<;>simp at hk
    case builtin b=>cases b<;>simp at hk<;>rfl
  rw [Zcc hv hr];exact ⟨v,rfl,hK⟩
 ·rename_i hk
  clear hk;obtain ⟨dst,op,ty,pos,after,guard⟩:=o;cases op<;>simp only at h<;>first|exact h.elim|skip
  rename_i T a' x;obtain ⟨w',hr,hK⟩:=h;have:(execOp e.ev ⟨dst,.store T a' x,ty,pos,after,guard⟩).run P w=.ok .skip w':=by simp only [execOp];simp [hr]
  rw [this];exact ⟨undef,rfl,hK⟩
 ·rename_i hk
  clear hk;obtain ⟨dst,op,ty,pos,after,guard⟩:=o;cases op<;>simp only at h<;>first|exact h.elim|skip
  case insert T m k x=>
   obtain ⟨w',hr,hK⟩:=h;have:(execOp e.ev ⟨dst,.insert T m k x,ty,pos,after,guard⟩).run P w=.ok .skip w':=by simp only [execOp];simp [hr]
   rw [this];exact ⟨undef,rfl,hK⟩
  case mapUpdate T m k x=>
   obtain ⟨w',hr,hK⟩:=h;have:(execOp e.ev ⟨dst,.mapUpdate T m k x,ty,pos,after,guard⟩).run P w=.ok .skip w':=by simp only [execOp];simp [hr]
   rw [this];exact ⟨undef,rfl,hK⟩
 ·rename_i hk
  clear hk;obtain ⟨dst,op,ty,pos,after,guard⟩:=o;cases op<;>simp only at h<;>first|exact h.elim|skip
  rename_i T m s x;obtain ⟨w',hr,hK⟩:=h;have:(execOp e.ev ⟨dst,.entryStore T m s x,ty,pos,after,guard⟩).run P w=.ok .skip w':=by simp only [execOp];simp [hr]
  rw [this];exact ⟨undef,rfl,hK⟩
 ·rename_i hk
  clear hk;obtain ⟨dst,op,ty,pos,after,guard⟩:=o;cases op<;>simp only at h<;>first|exact h.elim|skip
  case call c=>
   obtain ⟨callee,args,ats⟩:=c;cases callee<;>simp only at h<;>first|exact h.elim|skip
   case value f=>
    unfold calV ZaK at h;split at h
    case h_2=>exact h.elim
    rename_i fn first captured hf
    split at h
    case h_2=>exact h.elim
    rename_i g;have hargs:(first++args.map e.ev)++captured=(first.toList++((args.map e.ev).toList++captured.toList)).toArray:=by
     apply Array.ext';simp
    split at h
    case h_2=>
     obtain ⟨v',w',hr,hx⟩:=h;have:(execOp e.ev ⟨dst,.call ⟨.value f,args,ats⟩,ty,pos,after,guard⟩).run P w=.ok (.value v') w':=by
      simp only [execOp,resolve,hf,Deferred.ofValue];simp only [Sem.run_bind,Sem.run_pure,Result.andThen_ok,invoke,<-hargs] at hr ⊢;exact hr
     rw [this];obtain ⟨v,hv,hK⟩:=Rt.ex_some hx;cases hv;exact ⟨_,rfl,hK⟩
    rename_i hg;have:(execOp e.ev ⟨dst,.call ⟨.value f,args,ats⟩,ty,pos,after,guard⟩).run P w=.ok (.enter g (first.toList++((args.map e.ev).toList++captured.toList)).toArray) w:=by
     simp only [execOp,resolve,hf,Deferred.ofValue];simp only [Sem.run_bind,Sem.run_pure,Result.andThen_ok,invoke,<-hargs];exact ZdL (hcl g hg) _ w
    rw [this];refine Calls.mono h ?_;intro en w' hx;obtain ⟨v,rfl,hK⟩:=Rt.ex_some hx;exact ⟨v,rfl,hK⟩
 ·rename_i hk
  clear hk;obtain ⟨dst,op,ty,pos,after,guard⟩:=o;cases op<;>simp only at h<;>first|exact h.elim|skip
  obtain ⟨v,w',hr,hK⟩:=ZkW h;rw [Zcc (o:=⟨dst,_,ty,pos,after,guard⟩) rfl hr];exact ⟨v,rfl,hK⟩
 ·rename_i hk
  obtain ⟨dst,op,ty,pos,after,guard⟩:=o;cases op<;>simp only at h<;>first|exact h.elim|skip
  rename_i it b;cases b
  ·simp [ZjY] at hk
  obtain ⟨v,w',hr,hK⟩:=Zmj (T:=ty) h;rw [Zcc (o:=⟨dst,.next it true,ty,pos,after,guard⟩) rfl hr];exact ⟨v,rfl,hK⟩
 ·rename_i hk
  obtain ⟨dst,op,ty,pos,after,guard⟩:=o;cases op<;>simp only at h<;>first|exact h.elim|skip
  rename_i it b;cases b
  rotate_left
  ·simp [ZjY] at hk
  obtain ⟨v,w',hr,hK⟩:=ZmU h;rw [Zcc (o:=⟨dst,.next it false,ty,pos,after,guard⟩) rfl hr];exact ⟨v,rfl,hK⟩
 ·unfold rawF at h
  split at h
  ·rename_i hr;rw [hr];exact ⟨_,rfl,h⟩
  ·rename_i hr;rw [hr];exact ⟨undef,rfl,h⟩
  ·exact h.elim
def opF (P:Program) (cl:FuncId->Bool) (ρ:Env) (o:Oper) (K:Value->World->Prop) (w:World):Prop:=
 match Ze0 P o.op with
 |0=>(match ZdU P o.op with
  |0=>ZzP P cl ρ o K w
  |_=>Zqf P (λ w'=>w'=w) ρ o (λ v=>K v w))
 |_=>Zqv P ρ o (λ v=>K v w)
def Zis (P:Program) (op:Op):Bool:=
 match op with
 | .load T _=>Zq7 P T
 |op=>ZuT P op
theorem ZcB.upon {P:Program} {S:World->Prop} {e:Env} {o:Oper} {K:Value->World->Prop} {a:Act} {w:World} {Q:Exit->Act->World->Prop}
  (hS:S w) (h:ZcB P S (execOp e.ev o) (λ v=>K v w)):o.upon P a (Zpr a o.dst K) Q ((execOp e.ev o).run P w):=by
 obtain ⟨v,hv,hK⟩:=h;rw [hv w hS];exact ⟨v,rfl,hK⟩
theorem Zjp {P:Program} {op:Op} (h:Zis P op=true):ZuT P op=true:=by
 cases op<;>first|exact h|rfl
theorem Zmg {P:Program} {op:Op} (h:Zis P op=true):ZyB P op=true:=by
 cases op<;>first|exact h|rfl
theorem Zdx {P:Program} {cl:FuncId->Bool} (hcl:∀ g,cl g=true->ZO P g=true) {a:Act} {e:Env} {o:Oper} {K:Value->World->Prop} {w:World}
  {Q:Exit->Act->World->Prop} (hok:Zis P o.op=true) (h:opF P cl e o K w):o.upon P a (Zpr a o.dst K) Q ((execOp e.ev o).run P w):=by
 unfold opF at h;split at h
 ·split at h
  ·exact ZiO hcl h
  ·rename_i hk
   exact ZcB.upon (S:=λ w'=>w'=w) rfl (Zey hk (Zmg hok) h)
 ·exact ZcB.upon (S:=λ _=>True) trivial (ZeD (Zjp hok) h)
section
section
variable {P:Program} {ops:Array Oper} {Q:Exit->Act->World->Prop} {md:Region.Mode} {S:World->Prop} {need look:Nat->Bool}
def wpT (P:Program) (md:Region.Mode) (ops:Array Oper) (Q:Exit->Act->World->Prop) (S:World->Prop) (need look:Nat->Bool):Nat->Array Bool->Act->World->Prop
 |0,listed,a,w=>Region.ready md ops listed=[]/\Q .normal a w
 |fuel + 1,listed,a,w=>
  (Region.ready md ops listed=[]->Q .normal a w)/\
  ∀ i∈Region.ready md ops listed,wpOp P ops Q i (λ a' w'=>((need i=true->S w')/\(look i=true->w'=w))/\wpT P md ops Q S need look fuel (listed.setIfInBounds i true) a' w') a w
theorem Zi0:∀ (fuel:Nat) (listed:Array Bool) (a:Act) (w:World),wpT P md ops Q S need look fuel listed a w->wpAny P md ops Q fuel listed a w
 |0,_,_,_,h=>h
 |fuel + 1,_,_,_,h=>⟨h.1,λ i hi=>wpOp_mono (λ a' w' h'=>Zi0 fuel _ a' w' h'.2) (h.2 i hi)⟩
theorem ZaY {T:World->Prop} {i:Nat} {oi:Oper} {v:Value} (hi:ops[i]? =some oi) (hsel:∀ (j:Nat) (o:Oper) cs b,ops[j]? =some o->o.op≠.select cs b)
  (hQ:∀ c a w,Q (.panic c) (a.put oi.dst v) w->Q (.panic c) a w) (hni:need i=false):
  ∀ (fuel:Nat) (listed:Array Bool) (a:Act) (w:World),
   (∀ j oj,ops[j]? =some oj->j≠i->listed.getD j true=false->(∀ e∈oj.after,Region.binds md e=true->e.on≠i)->
    oi.apart ops oj=true/\∀ w w',T w->(need j=true->S w')->(look j=true->w'=w)->T w')->
   i∈Region.ready md ops listed->YieldsIf P ops T oi v a->T w->
   wpT P md ops Q S need look fuel (listed.setIfInBounds i true) (a.put oi.dst v) w->wpT P md ops Q S need look (fuel + 1) listed a w:=by
 intro fuel
 induction fuel with
 |zero=>
  intro listed a w hfree hr hy hT H;refine ⟨λ h=>(by rw [h] at hr;cases hr),λ j hj=>?_⟩;by_cases hji:j=i
  ·subst hji
   exact hy.wpOp hi hT ⟨⟨λ h=>(by rw [hni] at h;cases h),λ _=>rfl⟩,H⟩
  ·have:=ready_mono hj hji
   rw [H.1] at this;cases this
 |succ fuel ih=>
  intro listed a w hfree hr hy hT H;refine ⟨λ h=>(by rw [h] at hr;cases hr),λ j hj=>?_⟩;by_cases hji:j=i
  ·subst hji
   exact hy.wpOp hi hT ⟨⟨λ h=>(by rw [hni] at h;cases h),λ _=>rfl⟩,H⟩
  ·have h1:=H.2 j (ready_mono hj hji)
   obtain ⟨hjun,oj,hoj,hall⟩:=mem_ready.1 hj;have hnot:∀ e∈oj.after,Region.binds md e=true->e.on≠i:=λ e he hb heq=>by
    have h1:=hall e he hb;have h0:=(mem_ready.1 hr).1;rw [heq] at h1;rcases Nat.lt_or_ge i listed.size with h'|h'
    ·simp [h'] at h0 h1;rw [h0] at h1;cases h1
    ·simp [Array.getElem?_eq_none h'] at h1
   obtain ⟨hap,hkeep⟩:=hfree j oj hoj hji hjun hnot;have h2:=wpOp_putIf hoj hap (λ cs b=>hsel i oi cs b hi) (λ cs b=>hsel j oj cs b hoj) hQ hy h1;refine wpOp_mono (λ a' w' h3=>⟨h3.2.1,ih (listed.setIfInBounds j true) a' w' ?_ (ready_mono hr (Ne.symm hji)) h3.1 (hkeep w w' hT h3.2.1.1 h3.2.1.2) ?_⟩) h2
   ·intro k ok hk hki hun hno
    refine hfree k ok hk hki ?_ hno;by_cases hjk:j=k
    ·subst hjk;exact hjun
    ·rw [getD_set_ne true hjk] at hun;exact hun
   ·rw [Array.setIfInBounds_comm _ _ hji]
    exact h3.2.2
theorem Zh4 {T:World->Prop} {D:Nat->Bool} {i:Nat} {oi:Oper} {v:Value} (hi:ops[i]? =some oi) (hsel:∀ (j:Nat) (o:Oper) cs b,ops[j]? =some o->o.op≠.select cs b)
  (hQ:∀ c a w,Q (.panic c) (a.put oi.dst v) w->Q (.panic c) a w) (hni:need i=false)
  (hD:∀ j oj,D j=true->j≠i->ops[j]? =some oj->∃ e∈oj.after,Region.binds md e=true/\D e.on=true):
  ∀ (fuel:Nat) (listed:Array Bool) (a:Act) (w:World),
   (∀ j oj,ops[j]? =some oj->j≠i->listed.getD j true=false->D j=false->(∀ e∈oj.after,Region.binds md e=true->e.on≠i)->
    oi.apart ops oj=true/\∀ w w',T w->(need j=true->S w')->(look j=true->w'=w)->T w')->
   (∀ j,D j=true->listed.getD j true=false)->i∈Region.ready md ops listed->YieldsIf P ops T oi v a->T w->
   wpT P md ops Q S need look fuel (listed.setIfInBounds i true) (a.put oi.dst v) w->wpT P md ops Q S need look (fuel + 1) listed a w:=by
 intro fuel
 induction fuel with
 |zero=>
  intro listed a w hfree hun hr hy hT H;refine ⟨λ h=>(by rw [h] at hr;cases hr),λ j hj=>?_⟩;by_cases hji:j=i
  ·subst hji
   exact hy.wpOp hi hT ⟨⟨λ h=>(by rw [hni] at h;cases h),λ _=>rfl⟩,H⟩
  ·have:=ready_mono hj hji
   rw [H.1] at this;cases this
 |succ fuel ih=>
  intro listed a w hfree hun hr hy hT H;refine ⟨λ h=>(by rw [h] at hr;cases hr),λ j hj=>?_⟩;by_cases hji:j=i
  ·subst hji
   exact hy.wpOp hi hT ⟨⟨λ h=>(by rw [hni] at h;cases h),λ _=>rfl⟩,H⟩
  ·have h1:=H.2 j (ready_mono hj hji)
   obtain ⟨hjun,oj,hoj,hall⟩:=mem_ready.1 hj;have hnot:∀ e∈oj.after,Region.binds md e=true->e.on≠i:=λ e he hb heq=>by
    have h1:=hall e he hb;have h0:=(mem_ready.1 hr).1;rw [heq] at h1;rcases Nat.lt_or_ge i listed.size with h'|h'
    ·simp [h'] at h0 h1;rw [h0] at h1;cases h1
    ·simp [Array.getElem?_eq_none h'] at h1
   have hDj:D j=false:=by
    cases hd:D j with
    |false=>rfl
    |true=>
     obtain ⟨e,he,hb,hde⟩:=hD j oj hd hji hoj;have h1:=hall e he hb;have h0:=hun e.on hde;rcases Nat.lt_or_ge e.on listed.size with h'|h'
     ·simp [h'] at h0 h1;rw [h0] at h1;cases h1
     ·simp [Array.getElem?_eq_none h'] at h1
   obtain ⟨hap,hkeep⟩:=hfree j oj hoj hji hjun hDj hnot;have h2:=wpOp_putIf hoj hap (λ cs b=>hsel i oi cs b hi) (λ cs b=>hsel j oj cs b hoj) hQ hy h1;refine wpOp_mono (λ a' w' h3=>⟨h3.2.1,ih (listed.setIfInBounds j true) a' w' ?_ ?_ (ready_mono hr (Ne.symm hji)) h3.1 (hkeep w w' hT h3.2.1.1 h3.2.1.2) ?_⟩) h2
   ·intro k ok hk hki hun hdk hno
    refine hfree k ok hk hki ?_ hdk hno;by_cases hjk:j=k
    ·subst hjk;exact hjun
    ·rw [getD_set_ne true hjk] at hun;exact hun
   ·intro k hdk
    have hjk:j≠k:=λ h=>by rw [h,hdk] at hDj;cases hDj
    rw [getD_set_ne true hjk];exact hun k hdk
   ·rw [Array.setIfInBounds_comm _ _ hji]
    exact h3.2.2
end
def Zeq (ops:Array Oper) (ρ:Env) (o:Oper) (run skip:Env->Prop):Prop:=
 match o.guard with
 |none=>run ρ
 |some (j,want)=>(match (ops[j]?).bind (·.dst) with
  |none=>skip ρ
  |some d=>(match ρ d with
   | .bool b=>(match want with
    |true=>Br b (run (ρ.set d (.bool true))) (skip (ρ.set d (.bool false)))
    |false=>Br b (skip (ρ.set d (.bool true))) (run (ρ.set d (.bool false))))
   |_=>skip ρ))
def ZrA (d k:Nat):List Oper->Option TypeId
 |[]=>none
 |o::os=>match o.op with
  | .extract x j=>(match x with
   | .tmp t=>(match Nat.beq t d && Nat.beq j k with
    |true=>some o.type
    |false=>ZrA d k os)
   |_=>ZrA d k os)
  |_=>ZrA d k os
def vtE (P:Program) (t:Option TypeId):Vt:=match t with|some t=>ZzU P t|none=>.one .any
def Zmu (op:Op):Bool:=match op with| .entry _=>true|_=>false
def ZzN (P:Program) (S:World->Prop) (ops:Array Oper) (ρ:Env) (o:Oper) (K:Value->Prop):Prop:=
 match o.op with
 | .entry x=>(match o.dst with
  |some d=>Giv P S (Instr.entry (ρ.ev x)) (.tup [vtE P (ZrA d 0 ops.toList),vtE P (ZrA d 1 ops.toList)]) K
  |none=>False)
 |_=>False
def opE (P:Program) (cl:FuncId->Bool) (ops:Array Oper) (ρ:Env) (o:Oper) (K:Value->World->Prop) (w:World):Prop:=
 match Zmu o.op with
 |true=>ZzN P (λ w'=>w'=w) ops ρ o (λ v=>K v w)
 |false=>opF P cl ρ o K w
def ZsC (P:Program) (cl:FuncId->Bool) (ops:Array Oper):List Oper->Env->(Env->World->Prop)->World->Prop
 |[],ρ,K,w=>K ρ w
 |o::rest,ρ,K,w=>Zeq ops ρ o
   (λ ρ=>opE P cl ops ρ o (λ v w=>ZsC P cl ops rest (ρ.put o.dst v) K w) w)
   (λ ρ=>ZsC P cl ops rest (ρ.put o.dst undef) K w)
def Zay (P:Program) (op:Op):Bool:=match Ze0 P op with|0=>(match ZdU P op with|0=>false|_=>true)|_=>false
def ZaH (P:Program) (op:Op):Bool:=match Ze0 P op with|0=>false|_=>true
def ZcM (P:Program) (ops:Array Oper) (j:Nat):Bool:=
 match ops[j]? with
 |none=>false
 |some oj=>!Zay P oj.op && !ZaH P oj.op && (List.range ops.size).any λ i=>match ops[i]? with
  |some oi=>Zay P oi.op && !oj.after.any (λ e=>Region.binds .any e && Nat.beq e.on i)
  |none=>false
def ZzI (P:Program) (S:World->Prop) (hs:Bool) (ρ:Env) (o:Oper) (K:Value->Prop):Prop:=
 match ZaH P o.op with
 |true=>Zqv P ρ o K
 |false=>(match hs with
  |true=>Zqf P S ρ o K
  |false=>False)
def ZuX (P:Program) (ops:Array Oper) (S:World->Prop) (hs:Bool) (ρ:Env) (o:Oper) (K:Value->Prop):Prop:=
 match Zmu o.op with
 |true=>(match hs with
  |true=>ZzN P S ops ρ o K
  |false=>False)
 |false=>ZzI P S hs ρ o K
def Zmf (P:Program) (ops:Array Oper) (listed:Array Bool):List Nat->Option Nat
 |[]=>none
 |i::is=>match ops[i]? with
  |some o=>(match ZaH P o.op||Zay P o.op with
   |true=>(match Region.free .any ops listed i with
    |true=>some i
    |false=>Zmf P ops listed is)
   |false=>Zmf P ops listed is)
  |none=>Zmf P ops listed is
def ZzC (f:Nat->Prop):List Nat->Prop
 |[]=>True
 |[i]=>f i
 |i::is=>f i/\ZzC f is
def Zkd (ops:Array Oper) (listed:Array Bool) (i:Nat):Nat->Nat->Bool
 |0,j=>Nat.beq j i
 |n + 1,j=>Nat.beq j i||(!listed.getD j true && match ops[j]? with
  |some oj=>oj.after.any (λ e=>Region.binds .any e && Zkd ops listed i n e.on)
  |none=>false)
def Zgi (P:Program) (ops:Array Oper) (listed:Array Bool) (i:Nat):Bool:=(List.range ops.size).all λ j=>listed.getD j true||(Zkd ops listed i 8 j||match ops[j]? with
 |some oj=>(ZaH P oj.op||Zay P oj.op)
 |none=>true)
def Zpn (P:Program) (cl:FuncId->Bool) (ops:Array Oper) (S:World->Prop) (ex:Bool):Nat->Bool->Array Bool->Env->(Env->World->Prop)->World->Prop
 |0,_,listed,ρ,K,w=>(match Region.ready .any ops listed with
  |[]=>K ρ w
  |_=>False)
 |fuel + 1,hs,listed,ρ,K,w=>(match Region.ready .any ops listed with
  |[]=>K ρ w
  |r::rs=>(match Zmf P ops listed (r::rs) with
   |some i=>(match ops[i]? with
    |some o=>Zeq ops ρ o
      (λ ρ=>(match ex && Zgi P ops listed i with
       |true=>ZuX P ops (λ w'=>w'=w) true ρ o λ v=>Zpn P cl ops S ex fuel hs (listed.setIfInBounds i true) (ρ.put o.dst v) K w
       |false=>ZuX P ops S hs ρ o λ v=>Zpn P cl ops S ex fuel hs (listed.setIfInBounds i true) (ρ.put o.dst v) K w))
      (λ ρ=>Zpn P cl ops S ex fuel hs (listed.setIfInBounds i true) (ρ.put o.dst undef) K w)
    |none=>False)
   |none=>ZzC (λ i=>match ops[i]? with
    |some o=>Zeq ops ρ o
      (λ ρ=>(match ZaH P o.op||Zay P o.op with
       |true=>False
       |false=>match ZcM P ops i with
       |true=>opF P cl ρ o (λ v w=>S w/\Zpn P cl ops S ex fuel hs (listed.setIfInBounds i true) (ρ.put o.dst v) K w) w
       |false=>opF P cl ρ o (λ v w=>Zpn P cl ops S ex fuel false (listed.setIfInBounds i true) (ρ.put o.dst v) K w) w))
      (λ ρ=>(match ZaH P o.op||Zay P o.op with
       |true=>False
       |false=>match ZcM P ops i with
       |true=>(match hs with
        |true=>Zpn P cl ops S ex fuel true (listed.setIfInBounds i true) (ρ.put o.dst undef) K w
        |false=>False)
       |false=>Zpn P cl ops S ex fuel false (listed.setIfInBounds i true) (ρ.put o.dst undef) K w))
    |none=>False) (r::rs)))
def Drw (w:World) (F:(World->Prop)->World->Prop):Prop:=∃ S0 S:World->Prop,S0 w.drew/\∀ w',S0 w'->S w'/\F S w'
def _root_.Go.Act.env (a:Act):Env:=λ i=>a.tmps.getD i undef
theorem ZaU (a:Act):a.env.ev=a.eval:=by funext x;cases x<;>rfl
theorem ZfW {a:Act} {d:Option Tmp} {v:Value} (h:∀ x,d=some x->x<a.tmps.size):(a.put d v).env=a.env.put d v:=by
 cases d with
 |none=>rfl
 |some d=>
  have hd:=h d rfl
  funext i
  simp only [Act.env,Act.put,Env.put,Env.set];by_cases hi:i=d
  ·subst hi;simp [hd]
  ·have:Nat.beq i d=false:=by
    cases hb:Nat.beq i d with
    |false=>rfl
    |true=>exact absurd (Nat.eq_of_beq_eq_true hb) hi
   simp [this,Array.getElem?_setIfInBounds_ne (Ne.symm hi)]
theorem Zgk {ρ:Env} {d:Nat} {v:Value} (h:ρ d=v):ρ.set d v=ρ:=by
 funext i
 simp only [Env.set];split
 ·rename_i hb;rw [Nat.eq_of_beq_eq_true hb,h]
 ·rfl
theorem Zjl (a:Act) (d:Option Tmp) (v:Value):(a.put d v).tmps.size=a.tmps.size:=by
 cases d<;>simp [Act.put]
theorem ZfE (a:Act) (d:Option Tmp) (v:Value):(a.put d v).defers=a.defers:=by
 cases d<;>rfl
structure Zcz (n:Nat) (pw:Nat->Bool) (a0:Env) (a:Act):Prop where
 size:a.tmps.size=n
 defers:a.defers=[]
 same:∀ i,pw i=false->a.env i=a0 i
def ZbD (n:Nat) (pw:Nat->Bool) (o:Oper):Bool:=match o.dst with|some d=>Nat.blt d n && pw d|none=>true
theorem Zcz.put {n:Nat} {pw:Nat->Bool} {a0:Env} {a:Act} (h:Zcz n pw a0 a) {o:Oper} (ho:ZbD n pw o=true) (v:Value):Zcz n pw a0 (a.put o.dst v):=by
 refine ⟨by rw [Zjl];exact h.size,by rw [ZfE];exact h.defers,λ i hi=>?_⟩;unfold ZbD at ho;have hd:∀ x,o.dst=some x->x<a.tmps.size:=λ x hx=>by
  rw [hx] at ho;simp only [Bool.and_eq_true] at ho;rw [h.size];exact Nat.blt_eq.mp ho.1
 rw [ZfW hd];cases hx:o.dst with
 |none=>exact h.same i hi
 |some d=>
  rw [hx] at ho;simp only [Bool.and_eq_true] at ho;simp only [Env.put,Env.set];split
  ·rename_i hb;have:=Nat.eq_of_beq_eq_true hb;subst this;rw [hi] at ho;simp at ho
  ·exact h.same i hi
theorem Zcz.envput {n:Nat} {pw:Nat->Bool} {a0:Env} {a:Act} (h:Zcz n pw a0 a) {o:Oper} (ho:ZbD n pw o=true) (v:Value):(a.put o.dst v).env=a.env.put o.dst v:=by
 refine ZfW λ x hx=>?_;unfold ZbD at ho;rw [hx] at ho;simp only [Bool.and_eq_true] at ho;rw [h.size];exact Nat.blt_eq.mp ho.1
theorem ZlU (ops:Array Oper) (a:Act) (j:Nat):yielded ops a.tmps j=match (ops[j]?).bind (·.dst) with
  |none=>none
  |some d=>match a.env d with| .bool b=>some b|_=>none:=by
 unfold yielded;cases (ops[j]?).bind (·.dst) with
 |none=>rfl
 |some d=>
  simp only [Option.bind_some,Act.env,Array.getD_eq_getD_getElem?];cases a.tmps[d]? with
  |none=>simp [undef]
  |some v=>cases v<;>rfl
theorem Zaq {ops:Array Oper} {a:Act} {o:Oper} {run skip:Env->Prop} (h:Zeq ops a.env o run skip):
  (Region.wanted o (yielded ops a.tmps)=true/\run a.env)\/(Region.wanted o (yielded ops a.tmps)=false/\skip a.env):=by
 unfold Zeq at h;unfold Region.wanted;split at h
 ·rename_i hg;rw [hg];exact .inl ⟨rfl,h⟩
 ·rename_i j want hg
  rw [hg];simp only [ZlU];split at h
  ·exact .inr ⟨rfl,h⟩
  ·rename_i d hd
   split at h
   ·rename_i b hb
    cases b with
    |true=>
     rw [Zgk hb] at h;cases want with
     |true=>exact .inl ⟨rfl,h⟩
     |false=>exact .inr ⟨rfl,h⟩
    |false=>
     rw [Zgk hb] at h;cases want with
     |true=>exact .inr ⟨rfl,h⟩
     |false=>exact .inl ⟨rfl,h⟩
   ·rename_i hb
    refine .inr ⟨?_,h⟩;cases hv:a.env d<;>first|rfl|exact absurd hv (hb _)
theorem ZiM {P:Program} {S:World->Prop} {ops:Array Oper} {e:Env} {o:Oper} {K:Value->Prop} (h:ZzN P S ops e o K):ZcB P S (execOp e.ev o) K:=by
 unfold ZzN at h;split at h
 case h_2=>exact h.elim
 rename_i x hop;split at h
 case h_2=>exact h.elim
 obtain ⟨v,hv,hK⟩:=Rt.ex_some h;obtain ⟨dst,op,ty,pos,after,guard⟩:=o;simp only at hop;subst hop;exact ⟨v,λ w hw=>Zcc rfl (hv w hw),hK⟩
theorem Zk8 {P:Program} {cl:FuncId->Bool} {ops:Array Oper} (hcl:∀ g,cl g=true->ZO P g=true) {a:Act} {e:Env} {o:Oper} {K:Value->World->Prop} {w:World}
  {Q:Exit->Act->World->Prop} (hok:Zis P o.op=true) (h:opE P cl ops e o K w):o.upon P a (Zpr a o.dst K) Q ((execOp e.ev o).run P w):=by
 unfold opE at h;split at h
 ·exact ZcB.upon (S:=λ w'=>w'=w) rfl (ZiM h)
 ·exact Zdx hcl hok h
section
variable {P:Program} {cl:FuncId->Bool} {ops:Array Oper} {Q:Exit->Act->World->Prop} {n:Nat} {pw:Nat->Bool} {a0:Env}
theorem ZaC (hcl:∀ g,cl g=true->ZO P g=true) {K:Env->World->Prop}
  (hQ:∀ a w,Zcz n pw a0 a->K a.env w->Q .normal a w):∀ (l:List Oper) (_:∀ o∈l,Zis P o.op=true/\ZbD n pw o=true) (a:Act) (w:World),
   Zcz n pw a0 a->ZsC P cl ops l a.env K w->wpList P ops Q l a w
 |[],_,a,w,hk,h=>hQ a w hk h
 |o::rest,hl,a,w,hk,h=>by
  have ho:=hl o (List.mem_cons_self ..);have hrest:=λ x hx=>hl x (List.mem_cons_of_mem _ hx);unfold ZsC at h;unfold wpList;rcases Zaq h with ⟨hw,h⟩|⟨hw,h⟩
  ·rw [if_pos hw]
   refine .inl ?_;have:=Zk8 hcl (a:=a) (Q:=Q) ho.1 h;rw [ZaU] at this;unfold Oper.wp;refine upon_mono ?_ this;rintro a' w' ⟨v,rfl,hv⟩;refine ZaC hcl hQ rest hrest _ w' (hk.put ho.2 v) ?_;rw [hk.envput ho.2];exact hv
  ·rw [hw]
   simp only [Bool.false_eq_true,if_false];refine ZaC hcl hQ rest hrest _ w (hk.put ho.2 _) ?_;rw [hk.envput ho.2];exact h
where
 upon_mono {o:Oper} {a:Act} {K K':Act->World->Prop} {r:Result Next} (h:∀ a w,K a w->K' a w) (hh:o.upon P a K Q r):o.upon P a K' Q r:=by
  cases r with
  |ok x w'=>
   cases x<;>simp only [Oper.upon] at hh ⊢<;>
    first
     |exact h _ _ hh
     |exact Calls.mono hh (λ e w'' he=>by cases e<;>first|exact h _ _ he|exact he)
     |exact Rows.mono hh (λ _ _ he=>h _ _ he)
  |halt x w'=>cases x<;>simp only [Oper.upon] at hh ⊢<;>exact hh
theorem Zic {S:World->Prop} {hs:Bool} {e:Env} {o:Oper} {K:Value->Prop} (hok:Zis P o.op=true) (hr:(ZaH P o.op||Zay P o.op)=true) (h:ZzI P S hs e o K):
  (ZaH P o.op=true/\ZcB P (λ _=>True) (execOp e.ev o) K)\/(ZaH P o.op=false/\hs=true/\ZcB P S (execOp e.ev o) K):=by
 unfold ZzI at h;split at h
 ·rename_i hp;exact .inl ⟨hp,ZeD (Zjp hok) h⟩
 ·rename_i hp
  split at h
  ·refine .inr ⟨hp,rfl,Zey ?_ (Zmg hok) h⟩
   rw [hp] at hr;simp only [Bool.false_or] at hr;unfold Zay at hr;intro hk;rw [hk] at hr;split at hr<;>simp at hr
  ·exact h.elim
theorem ZcS {ops:Array Oper} {S:World->Prop} {hs:Bool} {e:Env} {o:Oper} {K:Value->Prop} (hok:Zis P o.op=true) (hr:(ZaH P o.op||Zay P o.op)=true) (h:ZuX P ops S hs e o K):
  (ZaH P o.op=true/\ZcB P (λ _=>True) (execOp e.ev o) K)\/(ZaH P o.op=false/\hs=true/\ZcB P S (execOp e.ev o) K):=by
 unfold ZuX at h;split at h
 ·rename_i he
  split at h
  ·refine .inr ⟨?_,rfl,ZiM h⟩
   unfold Zmu at he;split at he
   ·rename_i hop
    rw [hop];rfl
   ·cases he
  ·exact h.elim
 ·exact Zic hok hr h
theorem ZcY {listed:Array Bool}:∀ {l:List Nat} {i:Nat},Zmf P ops listed l=some i->i∈l/\∃ o,ops[i]? =some o/\(ZaH P o.op||Zay P o.op)=true/\Region.free .any ops listed i=true
 |[],_,h=>by cases h
 |j::l,i,h=>by
  unfold Zmf at h;split at h
  ·rename_i o ho
   split at h
   ·rename_i hp
    split at h
    ·rename_i hf
     cases h;exact ⟨List.mem_cons_self ..,o,ho,hp,hf⟩
    ·have:=ZcY h;exact ⟨List.mem_cons_of_mem _ this.1,this.2⟩
   ·have:=ZcY h;exact ⟨List.mem_cons_of_mem _ this.1,this.2⟩
  ·have:=ZcY h;exact ⟨List.mem_cons_of_mem _ this.1,this.2⟩
theorem ZgH {f:Nat->Prop}:∀ {l:List Nat},ZzC f l->∀ i∈l,f i
 |[],_,i,hi=>by cases hi
 |[j],h,i,hi=>by simp at hi;subst hi;exact h
 |j::k::l,h,i,hi=>by
  rcases List.mem_cons.1 hi with rfl|hi
  ·exact h.1
  ·exact ZgH h.2 i hi
theorem Zsk {listed:Array Bool} {i:Nat}:∀ (n j:Nat),Zkd ops listed i n j=true->Zkd ops listed i (n + 1) j=true
 |0,j,h=>by
  unfold Zkd at h;unfold Zkd;rw [h];rfl
 |n + 1,j,h=>by
  unfold Zkd at h;unfold Zkd;rcases Bool.or_eq_true _ _|>.mp h with h1|h1
  ·rw [h1];rfl
  ·rw [Bool.and_eq_true] at h1
   obtain ⟨h2,h3⟩:=h1;rw [h2];split at h3
   ·rename_i oj ho
    obtain ⟨e,he,hb⟩:=Array.any_eq_true'.1 h3;rw [Bool.and_eq_true] at hb;have:oj.after.any (λ e=>Region.binds .any e && Zkd ops listed i (n + 1) e.on)=true:=Array.any_eq_true'.2 ⟨e,he,by rw [hb.1,Zsk n e.on hb.2];rfl⟩;rw [this];simp
   ·cases h3
theorem Zsl {listed:Array Bool} {i:Nat} (hi:listed.getD i true=false):∀ (n j:Nat),Zkd ops listed i n j=true->listed.getD j true=false
 |0,j,h=>by unfold Zkd at h;rw [Nat.eq_of_beq_eq_true h];exact hi
 |n + 1,j,h=>by
  unfold Zkd at h;rcases Bool.or_eq_true _ _|>.mp h with h1|h1
  ·rw [Nat.eq_of_beq_eq_true h1];exact hi
  ·rw [Bool.and_eq_true] at h1
   simpa using h1.1
theorem ZlM {listed:Array Bool} {i j:Nat} {oj:Oper}:∀ (n:Nat),Zkd ops listed i n j=true->j≠i->ops[j]? =some oj->∃ e∈oj.after,Region.binds .any e=true/\Zkd ops listed i n e.on=true
 |0,h,hji,_=>by unfold Zkd at h;exact absurd (Nat.eq_of_beq_eq_true h) hji
 |n + 1,h,hji,ho=>by
  unfold Zkd at h;rcases Bool.or_eq_true _ _|>.mp h with h1|h1
  ·exact absurd (Nat.eq_of_beq_eq_true h1) hji
  ·rw [Bool.and_eq_true,ho] at h1
   obtain ⟨e,he,hb⟩:=Array.any_eq_true'.1 h1.2;rw [Bool.and_eq_true] at hb;exact ⟨e,he,hb.1,Zsk n e.on hb.2⟩
theorem ZiK {listed:Array Bool} {i j:Nat} {oj:Oper} (h:Zgi P ops listed i=true) (hj:ops[j]? =some oj) (hun:listed.getD j true=false) (hno:Zkd ops listed i 8 j=false):(ZaH P oj.op||Zay P oj.op)=true:=by
 unfold Zgi at h;have h1:=List.all_eq_true.1 h j (List.mem_range.2 (Array.getElem?_eq_some_iff.1 hj).1);rw [hun,hj,hno] at h1;simpa using h1
theorem Zju {i j:Nat} {oi oj:Oper} (hi:ops[i]? =some oi) (hj:ops[j]? =some oj) (hri:Zay P oi.op=true)
  (hjr:(ZaH P oj.op||Zay P oj.op)=false) (hno:∀ e∈oj.after,Region.binds .any e=true->e.on≠i):ZcM P ops j=true:=by
 unfold ZcM;rw [hj];simp only [Bool.or_eq_false_iff] at hjr;simp only [hjr.1,hjr.2,Bool.not_false,Bool.true_and,List.any_eq_true,List.mem_range];refine ⟨i,(Array.getElem?_eq_some_iff.1 hi).1,?_⟩;rw [hi];simp only [hri,Bool.true_and,Bool.not_eq_true'];rw [<-Bool.not_eq_true,Array.any_eq_true'];rintro ⟨e,he,hb⟩;simp only [Bool.and_eq_true] at hb;exact hno e he hb.1 (Nat.eq_of_beq_eq_true hb.2)
theorem ZlX {i:Nat} {o:Oper} {a:Act} {w:World} {K:Act->World->Prop} (hi:ops[i]? =some o)
  (h:(Region.wanted o (yielded ops a.tmps)=true/\o.upon P a K Q ((execOp a.eval o).run P w))\/(Region.wanted o (yielded ops a.tmps)=false/\K (a.put o.dst undef) w)):wpOp P ops Q i K a w:=by
 unfold wpOp;rw [hi];rcases h with ⟨hw,h⟩|⟨hw,h⟩
 ·simp only [hw,if_true];exact .inl h
 ·simp only [hw,Bool.false_eq_true,if_false];exact h
def looks (P:Program) (ops:Array Oper) (j:Nat):Bool:=match ops[j]? with|some o=>ZaH P o.op||Zay P o.op|none=>false
theorem Zpm (hcl:∀ g,cl g=true->ZO P g=true) (hsel:Region.noSelect ops=true) {K:Env->World->Prop} {S:World->Prop} {ex:Bool}
  (hQ:∀ a w,Zcz n pw a0 a->K a.env w->Q .normal a w) (hQp:∀ c a w,¬ Q (.panic c) a w) (hops:∀ (i:Nat) (o:Oper),ops[i]? =some o->Zis P o.op=true/\ZbD n pw o=true):
  ∀ (fuel:Nat) (hs:Bool) (listed:Array Bool) (a:Act) (w:World),Zcz n pw a0 a->(hs=true->S w)->Zpn P cl ops S ex fuel hs listed a.env K w->
   wpT P .any ops Q S (ZcM P ops) (looks P ops) fuel listed a w:=by
 intro fuel
 induction fuel with
 |zero=>
  intro hs listed a w hk hS h;unfold Zpn at h;split at h
  ·rename_i hr;exact ⟨hr,hQ a w hk h⟩
  ·exact h.elim
 |succ fuel ih=>
  intro hs listed a w hk hS h;unfold Zpn at h;split at h
  ·rename_i hr
   exact ⟨λ _=>hQ a w hk h,λ i hi=>by rw [hr] at hi;cases hi⟩
  ·rename_i r rs hr
   split at h
   ·rename_i i hp
    obtain ⟨hmem,o,ho,hpr,hfree⟩:=ZcY hp;rw [ho] at h;simp only at h;obtain ⟨hok,hd⟩:=hops i o ho;have hni:ZcM P ops i=false:=by
     unfold ZcM;rw [ho];simp only;rcases Bool.or_eq_true _ _|>.mp hpr with hp|hp<;>simp [hp]
    have hrdy:i∈Region.ready .any ops listed:=by rw [hr];exact hmem
    have hfs:=Region.free_spec (md:=.any) ho hfree;have hself:=Region.noSelect_spec hsel;rcases Zaq h with ⟨hw,h⟩|⟨hw,h⟩
    ·cases hex:(ex && Zgi P ops listed i) with
     |true=>
      rw [hex] at h;have hx:Zgi P ops listed i=true:=by rw [Bool.and_eq_true] at hex;exact hex.2
      rcases ZcS hok hpr h with ⟨hp,v,hv,hK⟩|⟨hp,hhs,v,hv,hK⟩
      ·refine ZaY (T:=λ _=>True) ho hself (λ c a w hc=>absurd hc (hQp c _ w)) hni fuel listed a w (λ j oj hj hne hun hno=>⟨hfs j oj hj hne hun hno,λ _ _ _ _ _=>trivial⟩) hrdy (.inl ⟨hw,?_⟩) trivial
        (ih hs (listed.setIfInBounds i true) (a.put o.dst v) w (hk.put hd v) hS ?_)
       ·rw [<-ZaU];exact hv
       ·rw [hk.envput hd];exact hK
      ·have hun0:listed.getD i true=false:=(mem_ready.1 hrdy).1
       refine Zh4 (T:=λ w'=>w'=w) (D:=Zkd ops listed i 8) ho hself (λ c a w hc=>absurd hc (hQp c _ w)) hni (λ j oj hd hji hj=>ZlM 8 hd hji hj) fuel listed a w (λ j oj hj hne hun hdj hno=>⟨hfs j oj hj hne hun hno,λ w1 w2 hw1 hneed hlook=>?_⟩) (λ j hd=>Zsl hun0 8 j hd) hrdy (.inl ⟨hw,?_⟩) rfl
        (ih hs (listed.setIfInBounds i true) (a.put o.dst v) w (hk.put hd v) hS ?_)
       ·have:=hlook (by unfold looks;rw [hj];exact ZiK hx hj hun hdj)
        rw [this];exact hw1
       ·rw [<-ZaU];exact hv
       ·rw [hk.envput hd];exact hK
     |false=>
     rw [hex] at h;rcases ZcS hok hpr h with ⟨hp,v,hv,hK⟩|⟨hp,hhs,v,hv,hK⟩
     ·refine ZaY (T:=λ _=>True) ho hself (λ c a w hc=>absurd hc (hQp c _ w)) hni fuel listed a w (λ j oj hj hne hun hno=>⟨hfs j oj hj hne hun hno,λ _ _ _ _ _=>trivial⟩) hrdy (.inl ⟨hw,?_⟩) trivial
       (ih hs (listed.setIfInBounds i true) (a.put o.dst v) w (hk.put hd v) hS ?_)
      ·rw [<-ZaU];exact hv
      ·rw [hk.envput hd];exact hK
     ·have hri:Zay P o.op=true:=by rw [hp] at hpr;simpa using hpr
      refine ZaY (T:=S) ho hself (λ c a w hc=>absurd hc (hQp c _ w)) hni fuel listed a w (λ j oj hj hne hun hno=>⟨hfs j oj hj hne hun hno,λ w w' hw hneed hlook=>?_⟩) hrdy (.inl ⟨hw,?_⟩) (hS hhs)
       (ih hs (listed.setIfInBounds i true) (a.put o.dst v) w (hk.put hd v) hS ?_)
      ·cases hl:(ZaH P oj.op||Zay P oj.op) with
       |true=>have:=hlook (by unfold looks;rw [hj];exact hl);rw [this];exact hw
       |false=>exact hneed (Zju ho hj hri hl hno)
      ·rw [<-ZaU];exact hv
      ·rw [hk.envput hd];exact hK
    ·refine ZaY (T:=λ _=>True) ho hself (λ c a w hc=>absurd hc (hQp c _ w)) hni fuel listed a w (λ j oj hj hne hun hno=>⟨hfs j oj hj hne hun hno,λ _ _ _ _ _=>trivial⟩) hrdy (.inr ⟨hw,rfl⟩) trivial
       (ih hs (listed.setIfInBounds i true) (a.put o.dst undef) w (hk.put hd _) hS ?_)
     rw [hk.envput hd];exact h
   ·refine ⟨λ h0=>absurd (hr ▸ h0) (by simp),λ i hi=>?_⟩
    rw [hr] at hi;have h:=ZgH h i hi;split at h
    case h_2=>exact h.elim
    rename_i o ho;obtain ⟨hok,hd⟩:=hops i o ho;refine ZlX ho ?_;rcases Zaq h with ⟨hw,h⟩|⟨hw,h⟩
    ·refine .inl ⟨hw,?_⟩
     split at h
     ·exact h.elim
     ·rename_i hl
      have hlk:looks P ops i=false:=by unfold looks;rw [ho];exact hl
      split at h
      ·rename_i hnd
       have:=Zdx hcl (a:=a) (Q:=Q) hok h;rw [ZaU] at this;refine ZaC.upon_mono ?_ this;rintro a' w' ⟨v,rfl,hSw,hK⟩;refine ⟨⟨λ _=>hSw,λ hh=>(by rw [hlk] at hh;cases hh)⟩,ih hs _ _ w' (hk.put hd v) (λ _=>hSw) ?_⟩;rw [hk.envput hd];exact hK
      ·rename_i hnd
       have:=Zdx hcl (a:=a) (Q:=Q) hok h;rw [ZaU] at this;refine ZaC.upon_mono ?_ this;rintro a' w' ⟨v,rfl,hK⟩;refine ⟨⟨λ hh=>(by rw [hnd] at hh;cases hh),λ hh=>(by rw [hlk] at hh;cases hh)⟩,ih false _ _ w' (hk.put hd v) (λ hh=>by cases hh) ?_⟩;rw [hk.envput hd];exact hK
    ·refine .inr ⟨hw,?_⟩
     split at h
     ·exact h.elim
     ·rename_i hl
      have hlk:looks P ops i=false:=by unfold looks;rw [ho];exact hl
      split at h
      ·split at h
       ·have hSw:=hS rfl
        refine ⟨⟨λ _=>hSw,λ _=>rfl⟩,ih true _ _ w (hk.put hd _) (λ _=>hSw) ?_⟩;rw [hk.envput hd];exact h
       ·exact h.elim
      ·rename_i hnd
       refine ⟨⟨λ hh=>(by rw [hnd] at hh;cases hh),λ _=>rfl⟩,ih false _ _ w (hk.put hd _) (λ hh=>by cases hh) ?_⟩;rw [hk.envput hd];exact h
end
end
section
def ZyC (P:Program) (ops:Array Oper):Nat->Nat->Bool
 |0,_=>false
 |n + 1,i=>match ops[i]? with
  |some oi=>oi.after.any (λ e=>Region.binds .any e && match ops[e.on]? with
   |some ok=>(match ZaH P ok.op with
    |true=>ZyC P ops n e.on
    |false=>!Zay P ok.op)
   |none=>false)
  |none=>false
def ZoB (P:Program) (ops:Array Oper) (listed:Array Bool):List Nat->Option Nat
 |[]=>none
 |i::is=>match ops[i]? with
  |some o=>(match ZaH P o.op||Zay P o.op with
   |true=>(match Region.free .any ops listed i && !(Zay P o.op && ZyC P ops 8 i) with
    |true=>some i
    |false=>ZoB P ops listed is)
   |false=>ZoB P ops listed is)
  |none=>ZoB P ops listed is
def ZmR (P:Program) (cl:FuncId->Bool) (ops:Array Oper) (S:World->Prop):Nat->Bool->Array Bool->Env->(Env->World->Prop)->World->Prop
 |0,_,listed,ρ,K,w=>(match Region.ready .any ops listed with
  |[]=>K ρ w
  |_=>False)
 |fuel + 1,hs,listed,ρ,K,w=>(match Region.ready .any ops listed with
  |[]=>K ρ w
  |r::rs=>(match ZoB P ops listed (r::rs) with
   |some i=>(match ops[i]? with
    |some o=>Zeq ops ρ o
      (λ ρ=>(match Zgi P ops listed i with
       |true=>ZuX P ops (λ w'=>w'=w) true ρ o λ v=>ZmR P cl ops S fuel hs (listed.setIfInBounds i true) (ρ.put o.dst v) K w
       |false=>ZuX P ops S hs ρ o λ v=>ZmR P cl ops S fuel hs (listed.setIfInBounds i true) (ρ.put o.dst v) K w))
      (λ ρ=>ZmR P cl ops S fuel hs (listed.setIfInBounds i true) (ρ.put o.dst undef) K w)
    |none=>False)
   |none=>ZzC (λ i=>match ops[i]? with
    |some o=>Zeq ops ρ o
      (λ ρ=>(match ZaH P o.op||Zay P o.op with
       |true=>ZuX P ops (λ w'=>w'=w) true ρ o λ v=>ZmR P cl ops S fuel hs (listed.setIfInBounds i true) (ρ.put o.dst v) K w
       |false=>match ZcM P ops i with
       |true=>opF P cl ρ o (λ v w=>S w/\ZmR P cl ops S fuel hs (listed.setIfInBounds i true) (ρ.put o.dst v) K w) w
       |false=>opF P cl ρ o (λ v w=>ZmR P cl ops S fuel false (listed.setIfInBounds i true) (ρ.put o.dst v) K w) w))
      (λ ρ=>(match ZaH P o.op||Zay P o.op with
       |true=>ZmR P cl ops S fuel hs (listed.setIfInBounds i true) (ρ.put o.dst undef) K w
       |false=>match ZcM P ops i with
       |true=>(match hs with
        |true=>ZmR P cl ops S fuel true (listed.setIfInBounds i true) (ρ.put o.dst undef) K w
        |false=>False)
       |false=>ZmR P cl ops S fuel false (listed.setIfInBounds i true) (ρ.put o.dst undef) K w))
    |none=>False) (r::rs)))
section
variable {P:Program} {cl:FuncId->Bool} {ops:Array Oper} {Q:Exit->Act->World->Prop} {n:Nat} {pw:Nat->Bool} {a0:Env}
theorem Zd0 {listed:Array Bool}:∀ {l:List Nat} {i:Nat},ZoB P ops listed l=some i->i∈l/\∃ o,ops[i]? =some o/\(ZaH P o.op||Zay P o.op)=true/\Region.free .any ops listed i=true
 |[],_,h=>by cases h
 |j::l,i,h=>by
  unfold ZoB at h;split at h
  ·rename_i o ho
   split at h
   ·rename_i hp
    split at h
    ·rename_i hf
     cases h;rw [Bool.and_eq_true] at hf;exact ⟨List.mem_cons_self ..,o,ho,hp,hf.1⟩
    ·have:=Zd0 h;exact ⟨List.mem_cons_of_mem _ this.1,this.2⟩
   ·have:=Zd0 h;exact ⟨List.mem_cons_of_mem _ this.1,this.2⟩
  ·have:=Zd0 h;exact ⟨List.mem_cons_of_mem _ this.1,this.2⟩
theorem Zpl (hcl:∀ g,cl g=true->ZO P g=true) (hsel:Region.noSelect ops=true) {K:Env->World->Prop} {S:World->Prop}
  (hQ:∀ a w,Zcz n pw a0 a->K a.env w->Q .normal a w) (hQp:∀ c a w,¬ Q (.panic c) a w) (hops:∀ (i:Nat) (o:Oper),ops[i]? =some o->Zis P o.op=true/\ZbD n pw o=true):
  ∀ (fuel:Nat) (hs:Bool) (listed:Array Bool) (a:Act) (w:World),Zcz n pw a0 a->(hs=true->S w)->ZmR P cl ops S fuel hs listed a.env K w->
   wpT P .any ops Q S (ZcM P ops) (looks P ops) fuel listed a w:=by
 intro fuel
 induction fuel with
 |zero=>
  intro hs listed a w hk hS h;unfold ZmR at h;split at h
  ·rename_i hr;exact ⟨hr,hQ a w hk h⟩
  ·exact h.elim
 |succ fuel ih=>
  intro hs listed a w hk hS h;unfold ZmR at h;split at h
  ·rename_i hr
   exact ⟨λ _=>hQ a w hk h,λ i hi=>by rw [hr] at hi;cases hi⟩
  ·rename_i r rs hr
   split at h
   ·rename_i i hp
    obtain ⟨hmem,o,ho,hpr,hfree⟩:=Zd0 hp;rw [ho] at h;simp only at h;obtain ⟨hok,hd⟩:=hops i o ho;have hni:ZcM P ops i=false:=by
     unfold ZcM;rw [ho];simp only;rcases Bool.or_eq_true _ _|>.mp hpr with hp|hp<;>simp [hp]
    have hrdy:i∈Region.ready .any ops listed:=by rw [hr];exact hmem
    have hfs:=Region.free_spec (md:=.any) ho hfree;have hself:=Region.noSelect_spec hsel;rcases Zaq h with ⟨hw,h⟩|⟨hw,h⟩
    ·cases hex:Zgi P ops listed i with
     |true=>
      rw [hex] at h;have hx:Zgi P ops listed i=true:=hex;rcases ZcS hok hpr h with ⟨hp,v,hv,hK⟩|⟨hp,hhs,v,hv,hK⟩
      ·refine ZaY (T:=λ _=>True) ho hself (λ c a w hc=>absurd hc (hQp c _ w)) hni fuel listed a w (λ j oj hj hne hun hno=>⟨hfs j oj hj hne hun hno,λ _ _ _ _ _=>trivial⟩) hrdy (.inl ⟨hw,?_⟩) trivial
        (ih hs (listed.setIfInBounds i true) (a.put o.dst v) w (hk.put hd v) hS ?_)
       ·rw [<-ZaU];exact hv
       ·rw [hk.envput hd];exact hK
      ·have hun0:listed.getD i true=false:=(mem_ready.1 hrdy).1
       refine Zh4 (T:=λ w'=>w'=w) (D:=Zkd ops listed i 8) ho hself (λ c a w hc=>absurd hc (hQp c _ w)) hni (λ j oj hd hji hj=>ZlM 8 hd hji hj) fuel listed a w (λ j oj hj hne hun hdj hno=>⟨hfs j oj hj hne hun hno,λ w1 w2 hw1 hneed hlook=>?_⟩) (λ j hd=>Zsl hun0 8 j hd) hrdy (.inl ⟨hw,?_⟩) rfl
        (ih hs (listed.setIfInBounds i true) (a.put o.dst v) w (hk.put hd v) hS ?_)
       ·have:=hlook (by unfold looks;rw [hj];exact ZiK hx hj hun hdj)
        rw [this];exact hw1
       ·rw [<-ZaU];exact hv
       ·rw [hk.envput hd];exact hK
     |false=>
     rw [hex] at h;rcases ZcS hok hpr h with ⟨hp,v,hv,hK⟩|⟨hp,hhs,v,hv,hK⟩
     ·refine ZaY (T:=λ _=>True) ho hself (λ c a w hc=>absurd hc (hQp c _ w)) hni fuel listed a w (λ j oj hj hne hun hno=>⟨hfs j oj hj hne hun hno,λ _ _ _ _ _=>trivial⟩) hrdy (.inl ⟨hw,?_⟩) trivial
       (ih hs (listed.setIfInBounds i true) (a.put o.dst v) w (hk.put hd v) hS ?_)
      ·rw [<-ZaU];exact hv
      ·rw [hk.envput hd];exact hK
     ·have hri:Zay P o.op=true:=by rw [hp] at hpr;simpa using hpr
      refine ZaY (T:=S) ho hself (λ c a w hc=>absurd hc (hQp c _ w)) hni fuel listed a w (λ j oj hj hne hun hno=>⟨hfs j oj hj hne hun hno,λ w w' hw hneed hlook=>?_⟩) hrdy (.inl ⟨hw,?_⟩) (hS hhs)
       (ih hs (listed.setIfInBounds i true) (a.put o.dst v) w (hk.put hd v) hS ?_)
      ·cases hl:(ZaH P oj.op||Zay P oj.op) with
       |true=>have:=hlook (by unfold looks;rw [hj];exact hl);rw [this];exact hw
       |false=>exact hneed (Zju ho hj hri hl hno)
      ·rw [<-ZaU];exact hv
      ·rw [hk.envput hd];exact hK
    ·refine ZaY (T:=λ _=>True) ho hself (λ c a w hc=>absurd hc (hQp c _ w)) hni fuel listed a w (λ j oj hj hne hun hno=>⟨hfs j oj hj hne hun hno,λ _ _ _ _ _=>trivial⟩) hrdy (.inr ⟨hw,rfl⟩) trivial
       (ih hs (listed.setIfInBounds i true) (a.put o.dst undef) w (hk.put hd _) hS ?_)
     rw [hk.envput hd];exact h
   ·refine ⟨λ h0=>absurd (hr ▸ h0) (by simp),λ i hi=>?_⟩
    rw [hr] at hi;have h:=ZgH h i hi;split at h
    case h_2=>exact h.elim
    rename_i o ho;obtain ⟨hok,hd⟩:=hops i o ho;refine ZlX ho ?_;rcases Zaq h with ⟨hw,h⟩|⟨hw,h⟩
    ·refine .inl ⟨hw,?_⟩
     split at h
     ·rename_i hl
      have hlk:looks P ops i=true:=by unfold looks;rw [ho];exact hl
      have hni:ZcM P ops i=false:=by
       unfold ZcM;rw [ho];simp only;rcases Bool.or_eq_true _ _|>.mp hl with hp|hp<;>simp [hp]
      obtain ⟨v,hv,hK⟩:∃ v,(∀ w',w'=w->(execOp a.env.ev o).run P w'=.ok (.value v) w')/\ZmR P cl ops S fuel hs (listed.setIfInBounds i true) (a.env.put o.dst v) K w:=by
       rcases ZcS hok hl h with ⟨_,v,hv,hK⟩|⟨_,_,v,hv,hK⟩
       ·exact ⟨v,λ w' _=>hv w' trivial,hK⟩
       ·exact ⟨v,hv,hK⟩
      have:=ZcB.upon (S:=λ w'=>w'=w) (a:=a) (Q:=Q) (K:=λ v' w'=>v'=v/\w'=w) rfl ⟨v,hv,rfl,rfl⟩;rw [ZaU] at this;refine ZaC.upon_mono ?_ this;rintro a' w' ⟨v',rfl,rfl,rfl⟩;refine ⟨⟨λ hh=>(by rw [hni] at hh;cases hh),λ _=>rfl⟩,ih hs _ _ w' (hk.put hd v') hS ?_⟩;rw [hk.envput hd];exact hK
     ·rename_i hl
      have hlk:looks P ops i=false:=by unfold looks;rw [ho];exact hl
      split at h
      ·rename_i hnd
       have:=Zdx hcl (a:=a) (Q:=Q) hok h;rw [ZaU] at this;refine ZaC.upon_mono ?_ this;rintro a' w' ⟨v,rfl,hSw,hK⟩;refine ⟨⟨λ _=>hSw,λ hh=>(by rw [hlk] at hh;cases hh)⟩,ih hs _ _ w' (hk.put hd v) (λ _=>hSw) ?_⟩;rw [hk.envput hd];exact hK
      ·rename_i hnd
       have:=Zdx hcl (a:=a) (Q:=Q) hok h;rw [ZaU] at this;refine ZaC.upon_mono ?_ this;rintro a' w' ⟨v,rfl,hK⟩;refine ⟨⟨λ hh=>(by rw [hnd] at hh;cases hh),λ hh=>(by rw [hlk] at hh;cases hh)⟩,ih false _ _ w' (hk.put hd v) (λ hh=>by cases hh) ?_⟩;rw [hk.envput hd];exact hK
    ·refine .inr ⟨hw,?_⟩
     split at h
     ·rename_i hl
      have hni:ZcM P ops i=false:=by
       unfold ZcM;rw [ho];simp only;rcases Bool.or_eq_true _ _|>.mp hl with hp|hp<;>simp [hp]
      refine ⟨⟨λ hh=>(by rw [hni] at hh;cases hh),λ _=>rfl⟩,ih hs _ _ w (hk.put hd _) hS ?_⟩;rw [hk.envput hd];exact h
     ·rename_i hl
      have hlk:looks P ops i=false:=by unfold looks;rw [ho];exact hl
      split at h
      ·split at h
       ·have hSw:=hS rfl
        refine ⟨⟨λ _=>hSw,λ _=>rfl⟩,ih true _ _ w (hk.put hd _) (λ _=>hSw) ?_⟩;rw [hk.envput hd];exact h
       ·exact h.elim
      ·rename_i hnd
       refine ⟨⟨λ hh=>(by rw [hnd] at hh;cases hh),λ _=>rfl⟩,ih false _ _ w (hk.put hd _) (λ hh=>by cases hh) ?_⟩;rw [hk.envput hd];exact h
end
end
section
def Cur (R:Type):List Ty->Type
 |[]=>R
 |t::ts=>t.T->Cur R ts
def app {R:Type}:(ts:List Ty)->Cur R ts->List Value->(R->Prop)->Prop
 |[],f,_,φ=>φ f
 |t::ts,f,v::vs,φ=>t.un v λ x=>app ts (f x) vs φ
 |_::_,_,[],_=>False
def Ty.all:(t:Ty)->(Value->Prop)->Prop
 | .int k,φ=>∀ n:Int,φ (.int k n)
 | .bool,φ=>∀ b:Bool,φ (.bool b)
 | .str,φ=>∀ s:ByteArray,φ (.string s)
 | .sl,φ=>∀ s:Sl,φ (.slice s.a s.len s.cap)
 | .ptr,φ=>∀ p:Option Addr,φ (.pointer p)
 | .map,φ=>∀ m:Option Nat,φ (.map m)
 | .flt,φ=>∀ n:Nat,φ (.float .f64 n)
 | .any,φ=>∀ v:Value,φ v
theorem Ty.all_enc {t:Ty} {φ:Value->Prop} (h:t.all φ) (x:t.T):φ (t.enc x):=by
 cases t<;>exact h x
def Zyj:List Ty->(List Value->Prop)->Prop
 |[],φ=>φ []
 |t::ts,φ=>t.all λ v=>Zyj ts λ vs=>φ (v::vs)
theorem ZhP {R:Type}:∀ {ts:List Ty} {f:Cur R ts} {vs:List Value} {φ:R->Prop} {ψ:List Value->Prop},vs.length=ts.length->app ts f vs φ->Zyj ts ψ->ψ vs
 |[],_,vs,_,_,hl,_,h=>by
  cases vs with
  |nil=>exact h
  |cons v vs=>simp at hl
 |t::ts,f,[],_,_,hl,_,_=>by simp at hl
 |t::ts,f,v::vs,φ,ψ,hl,ha,h=>by
  obtain ⟨x,rfl,ha'⟩:=Ty.un_enc (show t.un v λ x=>app ts (f x) vs φ from ha)
  have hx:Zyj ts λ vs=>ψ (t.enc x::vs):=Ty.all_enc (t:=t) (φ:=λ v=>Zyj ts λ vs=>ψ (v::vs)) h x;exact ZhP (ψ:=λ vs=>ψ (t.enc x::vs)) (by simpa using hl) ha' hx
def Zpt {R:Type} (d:R):(ts:List Ty)->Cur R ts->List Value->R
 |[],f,_=>f
 |t::ts,f,v::vs=>match t,f,v with
  | .int k,f,.int k' n=>if k=k' then Zpt d ts (f n) vs else d
  | .bool,f,.bool b=>Zpt d ts (f b) vs
  | .str,f,.string s=>Zpt d ts (f s) vs
  | .sl,f,.slice a n c=>Zpt d ts (f ⟨a,n,c⟩) vs
  | .ptr,f,.pointer p=>Zpt d ts (f p) vs
  | .map,f,.map m=>Zpt d ts (f m) vs
  | .flt,f,.float .f64 n=>Zpt d ts (f n) vs
  | .any,f,v=>Zpt d ts (f v) vs
  |_,_,_=>d
 |_::_,_,[]=>d
theorem ZhO {R:Type} {d:R}:∀ {ts:List Ty} {f:Cur R ts} {vs:List Value} {φ:R->Prop},app ts f vs φ->φ (Zpt d ts f vs)
 |[],_,_,_,h=>h
 |t::ts,f,[],_,h=>h.elim
 |t::ts,f,v::vs,φ,h=>by
  obtain ⟨x,rfl,ha⟩:=Ty.un_enc (show t.un v λ x=>app ts (f x) vs φ from h)
  cases t<;>simp only [Zpt,Ty.enc,if_true]<;>exact ZhO ha
structure ZuK where
 nrm:Env->World->Prop
 ex:Nat->Env->World->Prop
 ret:Env->World->Prop
inductive Sk where
 |leaf
 |seq (a b:Sk)
 |cond (a b:Sk)
 |block (a:Sk)
 |loop (ms:List Nat) (ts:List Ty) (W:List Nat) (a:Sk)
 |cut (ms:List Nat) (ts:List Ty) (W:List Nat) (a b:Sk)
def Sk.l:Sk->Sk
 | .seq a _| .cond a _| .block a| .loop _ _ _ a| .cut _ _ _ a _=>a
 |_=>.leaf
def Sk.r:Sk->Sk
 | .seq _ b| .cond _ b| .cut _ _ _ _ b=>b
 |_=>.leaf
def Zlg (i:Nat):List Nat->Bool
 |[]=>false
 |j::js=>match Nat.beq i j with|true=>true|false=>Zlg i js
def look:List Nat->List Value->Nat->Option Value
 |m::ms,v::vs,i=>match Nat.beq i m with|true=>some v|false=>look ms vs i
 |_,_,_=>none
def mix (ρ:Env) (W ms:List Nat) (vs:List Value) (z:Env):Env:=λ i=>
 match look ms vs i with
 |some v=>v
 |none=>match Zlg i W with
  |true=>z i
  |false=>ρ i
def vals (ms:List Nat) (ρ:Env):List Value:=ms.map ρ
def Ztm (ts:List Ty) (ms W:List Nat) (ρ:Env) (body:Env->(Env->World->Prop)->World->Prop) (w:World):Prop:=
 ∃ (I:Cur (World->Prop) ts) (μ:Cur (World->Nat) ts),app ts I (vals ms ρ) (λ p=>p w)/\
  ∀ z:Env,Zyj ts λ vs=>∀ w,app ts I vs (λ p=>p w)->
   body (mix ρ W ms vs z) (λ ρ' w'=>app ts I (vals ms ρ') (λ p=>p w')/\app ts μ (vals ms ρ') (λ m'=>app ts μ vs (λ m=>m' w'<m w))) w
def ZzQ (ts:List Ty) (ms W:List Nat) (ρ:Env) (first:(Env->World->Prop)->Prop) (rest:Env->World->Prop):Prop:=
 ∃ J:Cur (World->Prop) ts,first (λ ρ' w'=>app ts J (vals ms ρ') (λ p=>p w'))/\
  ∀ z:Env,Zyj ts λ vs=>∀ w,app ts J vs (λ p=>p w)->rest (mix ρ W ms vs z) w
def den (P:Program) (cl:FuncId->Bool):Code->Sk->Env->ZuK->World->Prop
 | .skip,_,ρ,K,w=>K.nrm ρ w
 | .label _,_,ρ,K,w=>K.nrm ρ w
 | .region _ ops d,sk,ρ,K,w=>(match d with
  |false=>ZsC P cl ops ops.toList ρ K.nrm w
  |true=>(match sk with
   | .block _=>Drw w λ S w'=>Zpn P cl ops S true ops.size true (Array.replicate ops.size false) ρ K.nrm w'
   | .seq _ _=>Drw w λ S w'=>ZmR P cl ops S ops.size true (Array.replicate ops.size false) ρ K.nrm w'
   |_=>Drw w λ S w'=>Zpn P cl ops S false ops.size true (Array.replicate ops.size false) ρ K.nrm w'))
 | .seq a b,sk,ρ,K,w=>(match sk with
  | .cut ms ts W _ _=>ZzQ ts ms W ρ (λ k=>den P cl a sk.l ρ { K with nrm:=k } w) (λ ρ' w'=>den P cl b sk.r ρ' K w')
  |_=>den P cl a sk.l ρ { K with nrm:=λ ρ' w'=>den P cl b sk.r ρ' K w' } w)
 | .cond c a b,sk,ρ,K,w=>(match ρ.ev c with
  | .bool t=>Br t (den P cl a sk.l ρ K w) (den P cl b sk.r ρ K w)
  |_=>False)
 | .block id a,sk,ρ,K,w=>den P cl a sk.l ρ { K with ex:=λ i=>match Nat.beq i id with|true=>K.nrm|false=>K.ex i } w
 | .loop a,sk,ρ,K,w=>(match sk with
  | .loop ms ts W _=>Ztm ts ms W ρ (λ ρ' k w'=>den P cl a sk.l ρ' { K with nrm:=k } w') w
  |_=>False)
 | .scope a,sk,ρ,K,w=>den P cl a sk.l ρ K w
 | .exit id,_,ρ,K,w=>K.ex id ρ w
 | .ret,_,ρ,K,w=>K.ret ρ w
 |_,_,_,_,_=>False
def Zfs (pw:Nat->Bool):Code->Bool
 | .region _ ops _=>ops.all λ o=>match o.dst with|some d=>pw d|none=>true
 | .seq a b| .cond _ a b=>Zfs pw a && Zfs pw b
 | .block _ a| .loop a| .scope a=>Zfs pw a
 | .rangeFunc _ _ _ _=>false
 |_=>true
def ZdK (P:Program) (n:Nat):Code->Bool
 | .region _ ops _=>Region.noSelect ops && ops.all λ o=>Zis P o.op && (match o.dst with|some d=>Nat.blt d n|none=>true)
 | .seq a b| .cond _ a b=>ZdK P n a && ZdK P n b
 | .block _ a| .loop a| .scope a=>ZdK P n a
 | .rangeFunc _ _ _ _=>false
 |_=>true
def Zki:Code->Sk->Bool
 | .seq a b,sk=>(match sk with
  | .cut ms ts W _ _=>Zfs (λ i=>Zlg i W) a && Nat.beq ms.length ts.length
  |_=>true) && Zki a sk.l && Zki b sk.r
 | .cond _ a b,sk=>Zki a sk.l && Zki b sk.r
 | .block _ a,sk| .scope a,sk=>Zki a sk.l
 | .loop a,sk=>(match sk with
  | .loop ms ts W _=>Zfs (λ i=>Zlg i W) a && Nat.beq ms.length ts.length
  |_=>true) && Zki a sk.l
 |_,_=>true
def PK (n:Nat) (pw:Nat->Bool) (a0:Env) (K:ZuK):Exit->Act->World->Prop
 | .normal,a,w=>Zcz n pw a0 a/\K.nrm a.env w
 | .exit i,a,w=>Zcz n pw a0 a/\K.ex i a.env w
 | .ret,a,w=>Zcz n pw a0 a/\K.ret a.env w
 |_,_,_=>False
theorem ZqW {ms:List Nat} {ρ:Env} {i:Nat} {v:Value} (h:look ms (vals ms ρ) i=some v):v=ρ i:=by
 induction ms with
 |nil=>cases h
 |cons m ms ih=>
  simp only [vals,List.map_cons,look] at h;split at h
  ·rename_i hb
   cases h;rw [Nat.eq_of_beq_eq_true hb]
  ·exact ih h
theorem Zjy {ρ e:Env} {W ms:List Nat} (h:∀ i,Zlg i W=false->e i=ρ i):mix ρ W ms (vals ms e) e=e:=by
 funext i
 unfold mix;split
 ·rename_i v hv;exact ZqW hv
 ·split
  ·rfl
  ·rename_i hm;exact (h i hm).symm
theorem Zgx (ms:List Nat) (ρ:Env):(vals ms ρ).length=ms.length:=by simp [vals]
theorem Zbq {p q:Nat->Bool}:∀ {c:Code},Zfs p c=true->Zfs q c=true->Zfs (λ i=>p i && q i) c=true
 | .region _ ops _,hp,hq=>by
  simp only [Zfs,Array.all_eq_true_iff_forall_mem] at *;intro o ho;have:=hp o ho;have:=hq o ho;cases hd:o.dst<;>simp_all
 | .seq a b,hp,hq=>by
  simp only [Zfs,Bool.and_eq_true] at *;exact ⟨Zbq hp.1 hq.1,Zbq hp.2 hq.2⟩
 | .cond _ a b,hp,hq=>by
  simp only [Zfs,Bool.and_eq_true] at *;exact ⟨Zbq hp.1 hq.1,Zbq hp.2 hq.2⟩
 | .block _ a,hp,hq=>Zbq (c:=a) hp hq
 | .loop a,hp,hq=>Zbq (c:=a) hp hq
 | .scope a,hp,hq=>Zbq (c:=a) hp hq
 | .rangeFunc _ _ _ _,hp,_=>by cases hp
 | .skip,_,_=>rfl
 | .exit _,_,_=>rfl
 | .label _,_,_=>rfl
 | .goto _,_,_=>rfl
 | .ret,_,_=>rfl
 | .refuse _,_,_=>rfl
theorem Zcz.refl {n:Nat} {pw:Nat->Bool} {a:Act} (h:a.tmps.size=n) (hd:a.defers=[]):Zcz n pw a.env a:=⟨h,hd,λ _ _=>rfl⟩
theorem Zcz.trans {n:Nat} {pw:Nat->Bool} {q:Nat->Bool} {a0:Env} {a b:Act} (h:Zcz n pw a0 a) (h':Zcz n (λ i=>pw i && q i) a.env b):Zcz n pw a0 b:=
 ⟨h'.size,h'.defers,λ i hi=>(h'.same i (by simp [hi])).trans (h.same i hi)⟩
variable {P:Program} {cl:FuncId->Bool} {n:Nat}
theorem ZkQ (hcl:∀ g,cl g=true->ZO P g=true) (hmix:P.follows .mixedOrders=true) {pw:Nat->Bool} {a0:Env} {id:Nat} {ops:Array Oper} {d:Bool}
  (hc:ZdK P n (.region id ops d)=true) (hw:Zfs pw (.region id ops d)=true) {sk:Sk} {K:ZuK} {a:Act} {w:World} (hk:Zcz n pw a0 a)
  (h:den P cl (.region id ops d) sk a.env K w):(Code.region id ops d).wp P (PK n pw a0 K) a w:=by
 simp only [ZdK,Bool.and_eq_true,Array.all_eq_true_iff_forall_mem] at hc;simp only [Zfs,Array.all_eq_true_iff_forall_mem] at hw;have hops:∀ o∈ops,Zis P o.op=true/\ZbD n pw o=true:=λ o ho=>by
  have h1:=hc.2 o ho;have h2:=hw o ho;refine ⟨h1.1,?_⟩;unfold ZbD;cases hd:o.dst with
  |none=>rfl
  |some x=>rw [hd] at h1 h2;simp only [Bool.and_eq_true];exact ⟨h1.2,h2⟩
 unfold den at h;cases d with
 |false=>
  exact wp_region_list (ZaC (Q:=PK n pw a0 K) hcl (λ a w hk h=>⟨hk,h⟩) ops.toList (λ o ho=>hops o (by simpa using ho)) a w hk h)
 |true=>
  have key:∀ ex:Bool,(Drw w λ S w'=>Zpn P cl ops S ex ops.size true (Array.replicate ops.size false) a.env K.nrm w')->(Code.region id ops true).wp P (PK n pw a0 K) a w:=λ ex h=>by
   obtain ⟨S0,S,hS,h⟩:=h;obtain ⟨hS,h⟩:=h _ hS;exact wp_region_any hmix (Zi0 _ _ _ _ (Zpm (Q:=PK n pw a0 K) hcl hc.1 (λ a w hk h=>⟨hk,h⟩) (λ _ _ _ h=>h) (λ i o ho=>hops o (Array.mem_of_getElem? ho)) _ _ _ _ _ hk (λ _=>hS) h))
  have keyG:(Drw w λ S w'=>ZmR P cl ops S ops.size true (Array.replicate ops.size false) a.env K.nrm w')->(Code.region id ops true).wp P (PK n pw a0 K) a w:=λ h=>by
   obtain ⟨S0,S,hS,h⟩:=h;obtain ⟨hS,h⟩:=h _ hS;exact wp_region_any hmix (Zi0 _ _ _ _ (Zpl (Q:=PK n pw a0 K) hcl hc.1 (λ a w hk h=>⟨hk,h⟩) (λ _ _ _ h=>h) (λ i o ho=>hops o (Array.mem_of_getElem? ho)) _ _ _ _ _ hk (λ _=>hS) h))
  cases sk<;>first|exact key _ h|exact keyG h
theorem Za0 (hcl:∀ g,cl g=true->ZO P g=true) (hmix:P.follows .mixedOrders=true):∀ (c:Code) (sk:Sk) (pw:Nat->Bool) (a0:Env),
  ZdK P n c=true->Zfs pw c=true->Zki c sk=true->∀ (a:Act) (K:ZuK) (w:World),Zcz n pw a0 a->den P cl c sk a.env K w->c.wp P (PK n pw a0 K) a w
 | .skip,sk,pw,a0,_,_,_,a,K,w,hk,h=>wp_skip ⟨hk,h⟩
 | .label _,sk,pw,a0,_,_,_,a,K,w,hk,h=>wp_label ⟨hk,h⟩
 | .exit _,sk,pw,a0,_,_,_,a,K,w,hk,h=>wp_exit ⟨hk,h⟩
 | .ret,sk,pw,a0,_,_,_,a,K,w,hk,h=>wp_ret ⟨hk,h⟩
 | .region id ops d,sk,pw,a0,hc,hw,_,a,K,w,hk,h=>ZkQ hcl hmix hc hw hk h
 | .goto _,sk,pw,a0,_,_,_,a,K,w,hk,h=>h.elim
 | .refuse _,sk,pw,a0,_,_,_,a,K,w,hk,h=>h.elim
 | .rangeFunc _ _ _ _,sk,pw,a0,_,_,_,a,K,w,hk,h=>h.elim
 | .scope c,sk,pw,a0,hc,hw,hs,a,K,w,hk,h=>by
  refine wp_scope_straight ?_;refine Code.wp_mono ?_ (Za0 hcl hmix c sk.l pw a0 hc hw hs a K w hk h);intro e a w hq;cases e<;>first|exact hq|exact hq.elim
 | .block id c,sk,pw,a0,hc,hw,hs,a,K,w,hk,h=>by
  refine wp_block ?_;refine Code.wp_mono ?_ (Za0 hcl hmix c sk.l pw a0 hc hw hs a _ w hk h);intro e a w hq;cases e with
  |exit i=>
   obtain ⟨hk,hq⟩:=hq;show if i=id then _ else _
   by_cases hi:i=id
   ·subst hi
    rw [if_pos rfl];have:Nat.beq i i=true:=by simp
    simp only [this] at hq;exact ⟨hk,hq⟩
   ·rw [if_neg hi]
    have:Nat.beq i id=false:=by
     cases hb:Nat.beq i id with
     |false=>rfl
     |true=>exact absurd (Nat.eq_of_beq_eq_true hb) hi
    simp only [this] at hq;exact ⟨hk,hq⟩
  |normal=>exact hq
  |ret=>exact hq
  |_=>exact hq.elim
 | .cond c x y,sk,pw,a0,hc,hw,hs,a,K,w,hk,h=>by
  simp only [ZdK,Zfs,Zki,Bool.and_eq_true] at hc hw hs;unfold den at h;split at h
  ·rename_i t ht
   rw [ZaU] at ht;refine wp_cond_split ht (λ hb=>?_) (λ hb=>?_)
   ·subst hb;exact Za0 hcl hmix x sk.l pw a0 hc.1 hw.1 hs.1 a K w hk h
   ·subst hb;exact Za0 hcl hmix y sk.r pw a0 hc.2 hw.2 hs.2 a K w hk h
  ·exact h.elim
 | .seq x y,sk,pw,a0,hc,hw,hs,a,K,w,hk,h=>by
  simp only [ZdK,Zfs,Zki,Bool.and_eq_true] at hc hw hs;refine wp_seq ?_;have plain:den P cl x sk.l a.env { K with nrm:=λ ρ' w'=>den P cl y sk.r ρ' K w' } w->x.wp P (Exit.then (y.wp P (PK n pw a0 K)) (PK n pw a0 K)) a w:=λ h=>by
   refine Code.wp_mono ?_ (Za0 hcl hmix x sk.l pw a0 hc.1 hw.1 hs.1.2 a _ w hk h);intro e a w hq;cases e with
   |normal=>exact Za0 hcl hmix y sk.r pw a0 hc.2 hw.2 hs.2 a K w hq.1 hq.2
   |_=>exact hq
  cases sk with
  |cut ms ts W l r=>
   simp only [Bool.and_eq_true] at hs;obtain ⟨J,h1,h2⟩:=(show ZzQ ts ms W a.env (λ k=>den P cl x l a.env { K with nrm:=k } w) (λ ρ' w'=>den P cl y r ρ' K w') from h)
   have:=Za0 hcl hmix x l (λ i=>pw i && Zlg i W) a.env hc.1 (Zbq hw.1 hs.1.1.1) hs.1.2 a _ w (Zcz.refl hk.size hk.defers) h1;refine Code.wp_mono ?_ this;intro e b w' hq;cases e with
   |normal=>
    obtain ⟨hkb,hq⟩:=hq;have hall:=h2 b.env;have hb:=ZhP (by rw [Zgx];exact Nat.eq_of_beq_eq_true hs.1.1.2) hq hall w' hq;rw [Zjy (λ i hi=>hkb.same i (by simp [hi]))] at hb;exact Za0 hcl hmix y r pw a0 hc.2 hw.2 hs.2 b K w' (hk.trans hkb) hb
   |exit i=>exact ⟨hk.trans hq.1,hq.2⟩
   |ret=>exact ⟨hk.trans hq.1,hq.2⟩
   |_=>exact hq.elim
  |leaf=>exact plain h
  |seq l r=>exact plain h
  |cond l r=>exact plain h
  |block l=>exact plain h
  |loop ms ts W l=>exact plain h
 | .loop c,sk,pw,a0,hc,hw,hs,a,K,w,hk,h=>by
  cases sk with
  |loop ms ts W l=>
   simp only [Zki,Bool.and_eq_true] at hs;have hc:ZdK P n c=true:=hc;have hw:Zfs pw c=true:=hw;obtain ⟨I,μ,h0,hstep⟩:=(show Ztm ts ms W a.env (λ ρ' k w'=>den P cl c l ρ' { K with nrm:=k } w') w from h)
   have hlen:∀ e:Env,(vals ms e).length=ts.length:=λ e=>by rw [Zgx];exact Nat.eq_of_beq_eq_true hs.1.2
   refine wp_loop (λ b v=>Zcz n pw a0 b/\(∀ i,Zlg i W=false->b.env i=a.env i)/\app ts I (vals ms b.env) (λ p=>p v))
    (λ b v=>Zpt (λ _=>0) ts μ (vals ms b.env) v) ⟨hk,λ _ _=>rfl,h0⟩ ?_
   rintro b v ⟨hkb,hsame,hI⟩;have hb:=ZhP (hlen b.env) hI (hstep b.env) v hI;rw [Zjy hsame] at hb;have:=Za0 hcl hmix c l (λ i=>pw i && Zlg i W) b.env hc (Zbq hw hs.1.1) hs.2 b _ v (Zcz.refl hkb.size hkb.defers) hb;refine Code.wp_mono ?_ this;intro e b' v' hq;cases e with
   |normal=>
    obtain ⟨hkb',hI',hμ⟩:=hq;exact ⟨⟨hkb.trans hkb',λ i hi=>(hkb'.same i (by simp [hi])).trans (hsame i hi),hI'⟩,by
     have h1:=ZhO (d:=λ _=>0) hμ;exact ZhO (d:=λ _=>0) h1⟩
   |exit i=>exact ⟨hkb.trans hq.1,hq.2⟩
   |ret=>exact ⟨hkb.trans hq.1,hq.2⟩
   |_=>exact hq.elim
  |_=>exact False.elim h
def Zes:List Value->Env
 |[],_=>undef
 |v::vs,i=>match i with
  |0=>v
  |i + 1=>Zes vs i
def ZAT (K:Value->World->Prop) (vs:List Value) (w:World):Prop:=
 match vs with
 |[v]=>K v w
 |vs=>K (.tuple vs.toArray) w
def Zp9 (P:Program) (ρ:Env) (K:Value->World->Prop):List ResultVar->List Value->World->Prop
 |[],acc,w=>ZAT K acc.reverse w
 | .tmp t::rs,acc,w=>Zp9 P ρ K rs (ρ t::acc) w
 | .cell a t::rs,acc,w=>Zh0 P (λ w'=>w'=w) t (ρ a) λ v=>Zp9 P ρ K rs (v::acc) w
def ZAR (P:Program) (n:Nat) (fn:Func) (sk:Sk):Bool:=
 Nat.beq n fn.ntmps && (match fn.body with|some c=>ZdK P n c && Zfs (λ _=>true) c && Zki c sk|none=>false) &&
  fn.results.all λ r=>match r with| .tmp _=>true| .cell _ t=>Zq7 P t
def fnF (P:Program) (cl:FuncId->Bool) (fn:Func) (sk:Sk) (args:List Value) (K:Value->World->Prop) (w:World):Prop:=
 match fn.body with
 |some c=>den P cl c sk (Zes args) { nrm:=λ ρ w=>Zp9 P ρ K fn.results.toList [] w,ex:=λ _ _ _=>False,ret:=λ ρ w=>Zp9 P ρ K fn.results.toList [] w } w
 |none=>False
theorem Zf2:∀ (vs:List Value) (i:Nat),Zes vs i=vs.getD i undef
 |[],i=>by simp [Zes]
 |v::vs,0=>rfl
 |v::vs,i + 1=>by simpa [Zes] using Zf2 vs i
def Zg1 (tmps:Array Value):ResultVar->Sem Value
 | .tmp t=>pure (tmps.getD t undef)
 | .cell a t=>do loadVar t (<-asAddr (tmps.getD a undef))
theorem Zii (fn:Func) (tmps:Array Value):results fn tmps=(do
  let vs<-fn.results.mapM (Zg1 tmps)
  pure (if h:vs.size=1 then vs[0] else .tuple vs)):=by
 unfold results
 congr 1
theorem ZdT {a:Act} {K:Value->World->Prop} {w:World}:∀ (rs:List ResultVar) (acc:List Value),(∀ r∈rs,(match r with| .tmp _=>true| .cell _ t=>Zq7 P t)=true)->
  Zp9 P a.env K rs acc w->∃ vs:List Value,(rs.mapM (Zg1 a.tmps)).run P w=.ok vs w/\ZAT K (acc.reverse++vs) w
 |[],acc,_,h=>⟨[],rfl,by rw [List.append_nil];exact h⟩
 | .tmp t::rs,acc,hok,h=>by
  obtain ⟨vs,hr,hf⟩:=ZdT rs (a.env t::acc) (λ r hr=>hok r (List.mem_cons_of_mem _ hr)) h;refine ⟨a.env t::vs,?_,by simpa using hf⟩;simp only [List.mapM_cons,Sem.run_bind,Zg1,Sem.run_pure,Result.andThen_ok,hr];rfl
 | .cell p t::rs,acc,hok,h=>by
  obtain ⟨v, hv, h⟩ := Zhk (ρ := fun _ => a.env p) (dst := none) (ty := 0) (pos := "") (after := #[]) (guard := none) (T := t) (x := .tmp 0) (hok _ (List.mem_cons_self ..)) h
  obtain ⟨vs,hr,hf⟩:=ZdT rs (v::acc) (λ r hr=>hok r (List.mem_cons_of_mem _ hr)) h;refine ⟨v::vs,?_,by simpa using hf⟩;have hv:=hv w rfl;simp only [execOp,Sem.run_bind,Instr.loadAt] at hv;have h2:(Zg1 a.tmps (.cell p t)).run P w=.ok v w:=by
   have ep:a.env p=a.tmps.getD p undef:=rfl;rw [ep] at hv;simp only [Zg1];generalize a.tmps.getD p undef=x at *;cases x<;>simp [Instr.sureAddr] at hv
   case pointer q=>
    cases q<;>simp at hv
    case some ad=>
     simp only [asAddr,Sem.run_bind,Sem.run_pure,Result.andThen_ok];generalize (loadVar t ad).run P w=r at *;cases r<;>simp at hv
     case ok x w'=>rw [hv.1,hv.2]
  rw [List.mapM_cons,Sem.run_bind,h2,Result.andThen_ok,Sem.run_bind,hr];rfl
def Zm (P:Program) (f:FuncId) (args:Array Value) (w:World) (Q:Value->World->Prop):Prop:=Calls P f args w λ e w'=>∃ v,e=.returned v/\Q v w'
theorem Zm.use {f:FuncId} {args:Array Value} {w:World} {Q:Value->World->Prop} {R:Ending->World->Prop} (h:Zm P f args w Q) (k:∀ v w',Q v w'->R (.returned v) w'):Calls P f args w R:=
 Calls.mono h λ _ w' ⟨v,he,hq⟩=>by rw [he];exact k v w' hq
theorem Zm.mono {f:FuncId} {args:Array Value} {w:World} {Q Q':Value->World->Prop} (h:Zm P f args w Q) (k:∀ v w',Q v w'->Q' v w'):Zm P f args w Q':=
 Calls.mono h λ _ w' ⟨v,he,hq⟩=>⟨v,he,k v w' hq⟩
theorem Zt0 {f:FuncId} {fn:Func} {sk:Sk} (hcl:∀ g,cl g=true->ZO P g=true) (hmix:P.follows .mixedOrders=true)
  (hf:P.funcs[f]? =some fn) (hok:ZAR P fn.ntmps fn sk=true) {args:List Value} {K:Value->World->Prop} {w:World} (hargs:args.length<=fn.ntmps)
  (h:fnF P cl fn sk args K w):Zm P f args.toArray w K:=by
 unfold Zm;unfold fnF at h;unfold ZAR at hok;simp only [Bool.and_eq_true] at hok;obtain ⟨⟨_,hbody⟩,hres⟩:=hok;split at h
 case h_2=>exact h.elim
 rename_i c hb;rw [hb] at hbody;simp only [Bool.and_eq_true] at hbody;refine calls_of_wp hf hb ?_;have henv:({ tmps:=args.toArray++Array.replicate (fn.ntmps - args.toArray.size) undef,defers:=[] }:Act).env=Zes args:=by
  funext i
  rw [Zf2];simp only [Act.env];rcases Nat.lt_or_ge i args.length with hi|hi
  ·simp [Array.getElem?_append,hi]
  ·simp only [Array.getD_eq_getD_getElem?,Array.getElem?_append,List.size_toArray,if_neg (Nat.not_lt.2 hi),Array.getElem?_replicate,List.getD_eq_getElem?_getD,List.getElem?_eq_none hi]
   split<;>rfl
 rw [<-henv] at h;have hres':∀ r∈fn.results.toList,(match r with| .tmp _=>true| .cell _ t=>Zq7 P t)=true:=λ r hr=>by
  rw [Array.all_eq_true_iff_forall_mem] at hres;exact hres r (by simpa using hr)
 have fin:∀ (a:Act) (w:World),a.defers=[]->Zp9 P a.env K fn.results.toList [] w->
   a.defers=[]/\∃ v,(results fn a.tmps).run P w=.ok v w/\(∃ v',Ending.returned v=.returned v'/\K v' w):=λ a w hd hr=>by
  obtain ⟨vs,hvs,hf⟩:=ZdT fn.results.toList [] hres' hr;refine ⟨hd,?_⟩;have hm:(fn.results.mapM (Zg1 a.tmps)).run P w=.ok vs.toArray w:=by
   rw [Array.mapM_eq_mapM_toList];simp only [Sem.run_map,hvs,Result.andThen_ok]
  refine ⟨_,by rw [Zii,Sem.run_bind,hm];rfl,?_⟩;cases vs with
  |nil=>exact ⟨_,rfl,hf⟩
  |cons v vs=>cases vs with
   |nil=>exact ⟨_,rfl,hf⟩
   |cons u us=>exact ⟨_,rfl,hf⟩
 refine Code.wp_mono ?_ (Za0 (n:=fn.ntmps) hcl hmix c sk (λ _=>true) _ hbody.1.1 hbody.1.2 hbody.2 _ _ w (Zcz.refl (by simp;omega) rfl) h);intro e a w hq;cases e with
 |normal=>exact fin a w hq.1.defers hq.2
 |ret=>exact fin a w hq.1.defers hq.2
 |exit i=>exact hq.2.elim
 |_=>exact hq.elim
end
def Zzy (P:Program) (cl:FuncId->Bool) (X:List PanicEntry->World->Prop) (f:Value) (args:Array Value) (t:Rt) (K:Value->World->Prop) (w:World):Prop:=
 ZaK P cl f args.toList w λ e w'=>(t.ex λ v=>e=.returned v/\K v w')\/∃ ch,e=.panicked ch/\X ch w'
def thrF (X:List PanicEntry->World->Prop) (x:Value) (w:World):Prop:=
 match x with
 | .iface t v=>X [{ v:=.iface t v,recovered:=false }] w
 |_=>False
def ZtO (op:Op):Nat:=
 match op with
 | .call c=>(match c.callee with| .value _=>6|_=>0)
 | .panic _=>7
 |_=>0
def ZvV (P:Program) (cl:FuncId->Bool) (X:List PanicEntry->World->Prop) (ρ:Env) (o:Oper) (K:Value->World->Prop) (w:World):Prop:=
 match ZtO o.op with
 |6=>(match o.op with| .call c=>(match c.callee with| .value f=>Zzy P cl X (ρ.ev f) (c.args.map ρ.ev) (ZzJ P o.type) K w|_=>False)|_=>False)
 |7=>(match o.op with| .panic x=>thrF X (ρ.ev x) w|_=>False)
 |_=>ZzP P cl ρ o K w
theorem ZmG {P:Program} {cl:FuncId->Bool} (hcl:∀ g,cl g=true->ZO P g=true) {X:List PanicEntry->World->Prop} {a:Act} {e:Env} {o:Oper} {K:Value->World->Prop} {w:World}
  {Q:Exit->Act->World->Prop} (hX:∀ ch w,X ch w->Q (.panic ch) a w) (h:ZvV P cl X e o K w):o.upon P a (Zpr a o.dst K) Q ((execOp e.ev o).run P w):=by
 unfold ZvV at h;split at h
 ·rename_i hk
  clear hk;obtain ⟨dst,op,ty,pos,after,guard⟩:=o;cases op<;>simp only at h<;>first|exact h.elim|skip
  case call c=>
   obtain ⟨callee,args,ats⟩:=c;cases callee<;>simp only at h<;>first|exact h.elim|skip
   case value f=>
    unfold Zzy ZaK at h;split at h
    case h_2=>exact h.elim
    rename_i fn first captured hf
    split at h
    case h_2=>exact h.elim
    rename_i g;have hargs:(first++args.map e.ev)++captured=(first.toList++((args.map e.ev).toList++captured.toList)).toArray:=by
     apply Array.ext';simp
    split at h
    case h_2=>
     obtain ⟨v',w',hr,hx⟩:=h;have:(execOp e.ev ⟨dst,.call ⟨.value f,args,ats⟩,ty,pos,after,guard⟩).run P w=.ok (.value v') w':=by
      simp only [execOp,resolve,hf,Deferred.ofValue];simp only [Sem.run_bind,Sem.run_pure,Result.andThen_ok,invoke,<-hargs] at hr ⊢;exact hr
     rw [this];rcases hx with hx|⟨ch,hc,_⟩
     ·obtain ⟨v,hv,hK⟩:=Rt.ex_some hx
      cases hv;exact ⟨_,rfl,hK⟩
     ·cases hc
    rename_i hg;have:(execOp e.ev ⟨dst,.call ⟨.value f,args,ats⟩,ty,pos,after,guard⟩).run P w=.ok (.enter g (first.toList++((args.map e.ev).toList++captured.toList)).toArray) w:=by
     simp only [execOp,resolve,hf,Deferred.ofValue];simp only [Sem.run_bind,Sem.run_pure,Result.andThen_ok,invoke,<-hargs];exact ZdL (hcl g hg) _ w
    rw [this];refine Calls.mono h ?_;rintro en w' (hx|⟨ch,rfl,hx⟩)
    ·obtain ⟨v,rfl,hK⟩:=Rt.ex_some hx
     exact ⟨v,rfl,hK⟩
    ·exact hX ch w' hx
 ·rename_i hk
  clear hk;obtain ⟨dst,op,ty,pos,after,guard⟩:=o;cases op<;>simp only at h<;>first|exact h.elim|skip
  case panic x=>
   unfold thrF at h;split at h
   ·rename_i t v hx
    have:(execOp e.ev ⟨dst,.panic x,ty,pos,after,guard⟩).run P w=.halt (.panic (.iface t v)) w:=by
     simp only [execOp,hx];rfl
    rw [this];exact hX _ w h
   ·exact h.elim
 ·exact ZiO hcl h
def Zyv (P:Program) (cl:FuncId->Bool) (X:List PanicEntry->World->Prop) (ρ:Env) (o:Oper) (K:Value->World->Prop) (w:World):Prop:=
 match Ze0 P o.op with
 |0=>(match ZdU P o.op with
  |0=>ZvV P cl X ρ o K w
  |_=>Zqf P (λ w'=>w'=w) ρ o (λ v=>K v w))
 |_=>Zqv P ρ o (λ v=>K v w)
theorem ZfH {P:Program} {cl:FuncId->Bool} (hcl:∀ g,cl g=true->ZO P g=true) {X:List PanicEntry->World->Prop} {a:Act} {e:Env} {o:Oper} {K:Value->World->Prop} {w:World}
  {Q:Exit->Act->World->Prop} (hX:∀ ch w,X ch w->Q (.panic ch) a w) (hok:Zis P o.op=true) (h:Zyv P cl X e o K w):o.upon P a (Zpr a o.dst K) Q ((execOp e.ev o).run P w):=by
 unfold Zyv at h;split at h
 ·split at h
  ·exact ZmG hcl hX h
  ·rename_i hk
   exact ZcB.upon (S:=λ w'=>w'=w) rfl (Zey hk (Zmg hok) h)
 ·exact ZcB.upon (S:=λ _=>True) trivial (ZeD (Zjp hok) h)
section
def ZqJ (P:Program) (cl:FuncId->Bool) (X:List PanicEntry->List Value->World->Prop) (ps:List Nat) (ops:Array Oper):List Oper->Env->(Env->World->Prop)->World->Prop
 |[],ρ,K,w=>K ρ w
 |o::rest,ρ,K,w=>Zeq ops ρ o
   (λ ρ=>Zyv P cl (λ ch w=>X ch (vals ps ρ) w) ρ o (λ v w=>ZqJ P cl X ps ops rest (ρ.put o.dst v) K w) w)
   (λ ρ=>ZqJ P cl X ps ops rest (ρ.put o.dst undef) K w)
def Zh3 (P:Program) (cl:FuncId->Bool) (X:List PanicEntry->List Value->World->Prop) (ps:List Nat) (ops:Array Oper) (S:World->Prop):Nat->Bool->Array Bool->Env->(Env->World->Prop)->World->Prop
 |0,_,listed,ρ,K,w=>(match Region.ready .any ops listed with
  |[]=>K ρ w
  |_=>False)
 |fuel + 1,hs,listed,ρ,K,w=>(match Region.ready .any ops listed with
  |[]=>K ρ w
  |r::rs=>(match Zmf P ops listed (r::rs) with
   |some i=>(match ops[i]? with
    |some o=>Zeq ops ρ o
      (λ ρ=>ZzI P S hs ρ o λ v=>Zh3 P cl X ps ops S fuel hs (listed.setIfInBounds i true) (ρ.put o.dst v) K w)
      (λ ρ=>Zh3 P cl X ps ops S fuel hs (listed.setIfInBounds i true) (ρ.put o.dst undef) K w)
    |none=>False)
   |none=>ZzC (λ i=>match ops[i]? with
    |some o=>Zeq ops ρ o
      (λ ρ=>(match ZaH P o.op||Zay P o.op with
       |true=>False
       |false=>match ZcM P ops i with
       |true=>Zyv P cl (λ ch w=>X ch (vals ps ρ) w) ρ o (λ v w=>S w/\Zh3 P cl X ps ops S fuel hs (listed.setIfInBounds i true) (ρ.put o.dst v) K w) w
       |false=>Zyv P cl (λ ch w=>X ch (vals ps ρ) w) ρ o (λ v w=>Zh3 P cl X ps ops S fuel false (listed.setIfInBounds i true) (ρ.put o.dst v) K w) w))
      (λ ρ=>(match ZaH P o.op||Zay P o.op with
       |true=>False
       |false=>match ZcM P ops i with
       |true=>(match hs with
        |true=>Zh3 P cl X ps ops S fuel true (listed.setIfInBounds i true) (ρ.put o.dst undef) K w
        |false=>False)
       |false=>Zh3 P cl X ps ops S fuel false (listed.setIfInBounds i true) (ρ.put o.dst undef) K w))
    |none=>False) (r::rs)))
structure Zbg (n:Nat) (ds:List Deferred) (pw:Nat->Bool) (a0:Env) (a:Act):Prop where
 size:a.tmps.size=n
 defers:a.defers=ds
 same:∀ i,pw i=false->a.env i=a0 i
theorem Zbg.put {n:Nat} {ds:List Deferred} {pw:Nat->Bool} {a0:Env} {a:Act} (h:Zbg n ds pw a0 a) {o:Oper} (ho:ZbD n pw o=true) (v:Value):Zbg n ds pw a0 (a.put o.dst v):=by
 refine ⟨by rw [Zjl];exact h.size,by rw [ZfE];exact h.defers,λ i hi=>?_⟩;unfold ZbD at ho;have hd:∀ x,o.dst=some x->x<a.tmps.size:=λ x hx=>by
  rw [hx] at ho;simp only [Bool.and_eq_true] at ho;rw [h.size];exact Nat.blt_eq.mp ho.1
 rw [ZfW hd];cases hx:o.dst with
 |none=>exact h.same i hi
 |some d=>
  rw [hx] at ho;simp only [Bool.and_eq_true] at ho;simp only [Env.put,Env.set];split
  ·rename_i hb;have:=Nat.eq_of_beq_eq_true hb;subst this;rw [hi] at ho;simp at ho
  ·exact h.same i hi
theorem Zbg.envput {n:Nat} {ds:List Deferred} {pw:Nat->Bool} {a0:Env} {a:Act} (h:Zbg n ds pw a0 a) {o:Oper} (ho:ZbD n pw o=true) (v:Value):(a.put o.dst v).env=a.env.put o.dst v:=by
 refine ZfW λ x hx=>?_;unfold ZbD at ho;rw [hx] at ho;simp only [Bool.and_eq_true] at ho;rw [h.size];exact Nat.blt_eq.mp ho.1
theorem Zbg.unput {n:Nat} {ds:List Deferred} {pw:Nat->Bool} {a0:Env} {a:Act} {o:Oper} (ho:ZbD n pw o=true) {v:Value} (h:Zbg n ds pw a0 (a.put o.dst v)):Zbg n ds pw a0 a:=by
 have hs:a.tmps.size=n:=by rw [<-Zjl a o.dst v];exact h.size
 have hd0:a.defers=ds:=by rw [<-ZfE a o.dst v];exact h.defers
 refine ⟨hs,hd0,λ i hi=>?_⟩;have:=h.same i hi;have hd:∀ x,o.dst=some x->x<a.tmps.size:=λ x hx=>by
  unfold ZbD at ho;rw [hx] at ho;simp only [Bool.and_eq_true] at ho;rw [hs];exact Nat.blt_eq.mp ho.1
 rw [ZfW hd] at this;unfold ZbD at ho;cases hx:o.dst with
 |none=>rw [hx] at this;exact this
 |some d=>
  rw [hx] at this ho;simp only [Bool.and_eq_true] at ho;simp only [Env.put,Env.set] at this;split at this
  ·rename_i hb;have:=Nat.eq_of_beq_eq_true hb;subst this;rw [hi] at ho;simp at ho
  ·exact this
def Zvl (ps:List Nat) (o:Oper):Bool:=match o.dst with|some d=>!Zlg d ps|none=>true
theorem ZsK {n:Nat} {pw:Nat->Bool} {ps:List Nat} {a:Act} {o:Oper} (ho:ZbD n pw o=true) (hs:a.tmps.size=n) (hp:Zvl ps o=true) (v:Value):vals ps (a.put o.dst v).env=vals ps a.env:=by
 have hd:∀ x,o.dst=some x->x<a.tmps.size:=λ x hx=>by
  unfold ZbD at ho;rw [hx] at ho;simp only [Bool.and_eq_true] at ho;rw [hs];exact Nat.blt_eq.mp ho.1
 rw [ZfW hd];unfold Zvl at hp;cases hx:o.dst with
 |none=>rfl
 |some d=>
  rw [hx] at hp;simp only [Bool.not_eq_true'] at hp;unfold vals;apply List.map_congr_left;intro i hi;simp only [Env.put,Env.set];split
  ·rename_i hb
   have:=Nat.eq_of_beq_eq_true hb;subst this;have:∀ l:List Nat,i∈l->Zlg i l=true:=λ l=>by
    induction l with
    |nil=>intro h;cases h
    |cons j l ih=>
     intro h;unfold Zlg;cases hb:Nat.beq i j with
     |true=>rfl
     |false=>
      rcases List.mem_cons.1 h with rfl|h
      ·simp at hb
      ·exact ih h
   rw [this ps hi] at hp;cases hp
  ·rfl
section
variable {P:Program} {cl:FuncId->Bool} {X:List PanicEntry->List Value->World->Prop} {ps:List Nat} {ops:Array Oper} {Q:Exit->Act->World->Prop} {n:Nat} {ds:List Deferred} {pw:Nat->Bool} {a0:Env}
theorem Zcj (hcl:∀ g,cl g=true->ZO P g=true) {K:Env->World->Prop}
  (hQ:∀ a w,Zbg n ds pw a0 a->K a.env w->Q .normal a w) (hX:∀ ch a w,Zbg n ds pw a0 a->X ch (vals ps a.env) w->Q (.panic ch) a w):∀ (l:List Oper) (_:∀ o∈l,Zis P o.op=true/\ZbD n pw o=true) (a:Act) (w:World),
   Zbg n ds pw a0 a->ZqJ P cl X ps ops l a.env K w->wpList P ops Q l a w
 |[],_,a,w,hk,h=>hQ a w hk h
 |o::rest,hl,a,w,hk,h=>by
  have ho:=hl o (List.mem_cons_self ..);have hrest:=λ x hx=>hl x (List.mem_cons_of_mem _ hx);unfold ZqJ at h;unfold wpList;rcases Zaq h with ⟨hw,h⟩|⟨hw,h⟩
  ·rw [if_pos hw]
   refine .inl ?_;have:=ZfH hcl (λ ch w hx=>hX ch a w hk (by exact hx)) ho.1 h;rw [ZaU] at this;unfold Oper.wp;refine upon_mono ?_ this;rintro a' w' ⟨v,rfl,hv⟩;refine Zcj hcl hQ hX rest hrest _ w' (hk.put ho.2 v) ?_;rw [hk.envput ho.2];exact hv
  ·rw [hw]
   simp only [Bool.false_eq_true,if_false];refine Zcj hcl hQ hX rest hrest _ w (hk.put ho.2 _) ?_;rw [hk.envput ho.2];exact h
where
 upon_mono {o:Oper} {a:Act} {K K':Act->World->Prop} {r:Result Next} (h:∀ a w,K a w->K' a w) (hh:o.upon P a K Q r):o.upon P a K' Q r:=by
  cases r with
  |ok x w'=>
   cases x<;>simp only [Oper.upon] at hh ⊢<;>
    first
     |exact h _ _ hh
     |exact Calls.mono hh (λ e w'' he=>by cases e<;>first|exact h _ _ he|exact he)
     |exact Rows.mono hh (λ _ _ he=>h _ _ he)
  |halt x w'=>cases x<;>simp only [Oper.upon] at hh ⊢<;>exact hh
theorem ZmS (hcl:∀ g,cl g=true->ZO P g=true) (hsel:Region.noSelect ops=true) {K:Env->World->Prop} {S:World->Prop}
  (hQ:∀ a w,Zbg n ds pw a0 a->K a.env w->Q .normal a w) (hX:∀ ch a w,Zbg n ds pw a0 a->X ch (vals ps a.env) w->Q (.panic ch) a w) (hQp:∀ (i:Nat) (o:Oper) (v:Value) c a w,ops[i]? =some o->Q (.panic c) (a.put o.dst v) w->Q (.panic c) a w) (hops:∀ (i:Nat) (o:Oper),ops[i]? =some o->Zis P o.op=true/\ZbD n pw o=true):
  ∀ (fuel:Nat) (hs:Bool) (listed:Array Bool) (a:Act) (w:World),Zbg n ds pw a0 a->(hs=true->S w)->Zh3 P cl X ps ops S fuel hs listed a.env K w->
   wpT P .any ops Q S (ZcM P ops) (looks P ops) fuel listed a w:=by
 intro fuel
 induction fuel with
 |zero=>
  intro hs listed a w hk hS h;unfold Zh3 at h;split at h
  ·rename_i hr;exact ⟨hr,hQ a w hk h⟩
  ·exact h.elim
 |succ fuel ih=>
  intro hs listed a w hk hS h;unfold Zh3 at h;split at h
  ·rename_i hr
   exact ⟨λ _=>hQ a w hk h,λ i hi=>by rw [hr] at hi;cases hi⟩
  ·rename_i r rs hr
   split at h
   ·rename_i i hp
    obtain ⟨hmem,o,ho,hpr,hfree⟩:=ZcY hp;rw [ho] at h;simp only at h;obtain ⟨hok,hd⟩:=hops i o ho;have hni:ZcM P ops i=false:=by
     unfold ZcM;rw [ho];simp only;rcases Bool.or_eq_true _ _|>.mp hpr with hp|hp<;>simp [hp]
    have hrdy:i∈Region.ready .any ops listed:=by rw [hr];exact hmem
    have hfs:=Region.free_spec (md:=.any) ho hfree;have hself:=Region.noSelect_spec hsel;rcases Zaq h with ⟨hw,h⟩|⟨hw,h⟩
    ·rcases Zic hok hpr h with ⟨hp,v,hv,hK⟩|⟨hp,hhs,v,hv,hK⟩
     ·refine ZaY (T:=λ _=>True) ho hself (λ c a w hc=>hQp i o _ c a w ho hc) hni fuel listed a w (λ j oj hj hne hun hno=>⟨hfs j oj hj hne hun hno,λ _ _ _ _ _=>trivial⟩) hrdy (.inl ⟨hw,?_⟩) trivial
       (ih hs (listed.setIfInBounds i true) (a.put o.dst v) w (hk.put hd v) hS ?_)
      ·rw [<-ZaU];exact hv
      ·rw [hk.envput hd];exact hK
     ·have hri:Zay P o.op=true:=by rw [hp] at hpr;simpa using hpr
      refine ZaY (T:=S) ho hself (λ c a w hc=>hQp i o _ c a w ho hc) hni fuel listed a w (λ j oj hj hne hun hno=>⟨hfs j oj hj hne hun hno,λ w w' hw hneed hlook=>?_⟩) hrdy (.inl ⟨hw,?_⟩) (hS hhs)
       (ih hs (listed.setIfInBounds i true) (a.put o.dst v) w (hk.put hd v) hS ?_)
      ·cases hl:(ZaH P oj.op||Zay P oj.op) with
       |true=>have:=hlook (by unfold looks;rw [hj];exact hl);rw [this];exact hw
       |false=>exact hneed (Zju ho hj hri hl hno)
      ·rw [<-ZaU];exact hv
      ·rw [hk.envput hd];exact hK
    ·refine ZaY (T:=λ _=>True) ho hself (λ c a w hc=>hQp i o _ c a w ho hc) hni fuel listed a w (λ j oj hj hne hun hno=>⟨hfs j oj hj hne hun hno,λ _ _ _ _ _=>trivial⟩) hrdy (.inr ⟨hw,rfl⟩) trivial
       (ih hs (listed.setIfInBounds i true) (a.put o.dst undef) w (hk.put hd _) hS ?_)
     rw [hk.envput hd];exact h
   ·refine ⟨λ h0=>absurd (hr ▸ h0) (by simp),λ i hi=>?_⟩
    rw [hr] at hi;have h:=ZgH h i hi;split at h
    case h_2=>exact h.elim
    rename_i o ho;obtain ⟨hok,hd⟩:=hops i o ho;refine ZlX ho ?_;rcases Zaq h with ⟨hw,h⟩|⟨hw,h⟩
    ·refine .inl ⟨hw,?_⟩
     split at h
     ·exact h.elim
     ·rename_i hl
      have hlk:looks P ops i=false:=by unfold looks;rw [ho];exact hl
      split at h
      ·rename_i hnd
       have:=ZfH hcl (λ ch w hx=>hX ch a w hk (by exact hx)) hok h;rw [ZaU] at this;refine Zcj.upon_mono ?_ this;rintro a' w' ⟨v,rfl,hSw,hK⟩;refine ⟨⟨λ _=>hSw,λ hh=>(by rw [hlk] at hh;cases hh)⟩,ih hs _ _ w' (hk.put hd v) (λ _=>hSw) ?_⟩;rw [hk.envput hd];exact hK
      ·rename_i hnd
       have:=ZfH hcl (λ ch w hx=>hX ch a w hk (by exact hx)) hok h;rw [ZaU] at this;refine Zcj.upon_mono ?_ this;rintro a' w' ⟨v,rfl,hK⟩;refine ⟨⟨λ hh=>(by rw [hnd] at hh;cases hh),λ hh=>(by rw [hlk] at hh;cases hh)⟩,ih false _ _ w' (hk.put hd v) (λ hh=>by cases hh) ?_⟩;rw [hk.envput hd];exact hK
    ·refine .inr ⟨hw,?_⟩
     split at h
     ·exact h.elim
     ·rename_i hl
      have hlk:looks P ops i=false:=by unfold looks;rw [ho];exact hl
      split at h
      ·split at h
       ·have hSw:=hS rfl
        refine ⟨⟨λ _=>hSw,λ _=>rfl⟩,ih true _ _ w (hk.put hd _) (λ _=>hSw) ?_⟩;rw [hk.envput hd];exact h
       ·exact h.elim
      ·rename_i hnd
       refine ⟨⟨λ hh=>(by rw [hnd] at hh;cases hh),λ _=>rfl⟩,ih false _ _ w (hk.put hd _) (λ hh=>by cases hh) ?_⟩;rw [hk.envput hd];exact h
end
end
section
def ZiQ (P:Program) (cl:FuncId->Bool) (X:List PanicEntry->List Value->World->Prop) (ps:List Nat):Code->Sk->Env->ZuK->World->Prop
 | .skip,_,ρ,K,w=>K.nrm ρ w
 | .label _,_,ρ,K,w=>K.nrm ρ w
 | .region _ ops d,_,ρ,K,w=>(match d with
  |false=>ZqJ P cl X ps ops ops.toList ρ K.nrm w
  |true=>Drw w λ S w'=>Zh3 P cl X ps ops S ops.size true (Array.replicate ops.size false) ρ K.nrm w')
 | .seq a b,sk,ρ,K,w=>(match sk with
  | .cut ms ts W _ _=>ZzQ ts ms W ρ (λ k=>ZiQ P cl X ps a sk.l ρ { K with nrm:=k } w) (λ ρ' w'=>ZiQ P cl X ps b sk.r ρ' K w')
  |_=>ZiQ P cl X ps a sk.l ρ { K with nrm:=λ ρ' w'=>ZiQ P cl X ps b sk.r ρ' K w' } w)
 | .cond c a b,sk,ρ,K,w=>(match ρ.ev c with
  | .bool t=>Br t (ZiQ P cl X ps a sk.l ρ K w) (ZiQ P cl X ps b sk.r ρ K w)
  |_=>False)
 | .block id a,sk,ρ,K,w=>ZiQ P cl X ps a sk.l ρ { K with ex:=λ i=>match Nat.beq i id with|true=>K.nrm|false=>K.ex i } w
 | .loop a,sk,ρ,K,w=>(match sk with
  | .loop ms ts W _=>Ztm ts ms W ρ (λ ρ' k w'=>ZiQ P cl X ps a sk.l ρ' { K with nrm:=k } w') w
  |_=>False)
 | .scope a,sk,ρ,K,w=>ZiQ P cl X ps a sk.l ρ K w
 | .exit id,_,ρ,K,w=>K.ex id ρ w
 | .ret,_,ρ,K,w=>K.ret ρ w
 |_,_,_,_,_=>False
def Zcu (P:Program) (n:Nat) (ps:List Nat):Code->Bool
 | .region _ ops d=>Region.noSelect ops && (ops.all λ o=>Zis P o.op && (match o.dst with|some d=>Nat.blt d n|none=>true)) && (match d with|true=>ops.all (Zvl ps)|false=>true)
 | .seq a b| .cond _ a b=>Zcu P n ps a && Zcu P n ps b
 | .block _ a| .loop a| .scope a=>Zcu P n ps a
 | .rangeFunc _ _ _ _=>false
 |_=>true
def PKx (n:Nat) (ds:List Deferred) (pw:Nat->Bool) (X:List PanicEntry->List Value->World->Prop) (ps:List Nat) (a0:Env) (K:ZuK):Exit->Act->World->Prop
 | .normal,a,w=>Zbg n ds pw a0 a/\K.nrm a.env w
 | .exit i,a,w=>Zbg n ds pw a0 a/\K.ex i a.env w
 | .ret,a,w=>Zbg n ds pw a0 a/\K.ret a.env w
 | .panic ch,a,w=>Zbg n ds pw a0 a/\X ch (vals ps a.env) w
 |_,_,_=>False
theorem Zbg.refl' {n:Nat} {ds:List Deferred} {pw:Nat->Bool} {a:Act} (h:a.tmps.size=n) (hd:a.defers=ds):Zbg n ds pw a.env a:=⟨h,hd,λ _ _=>rfl⟩
theorem Zbg.trans {n:Nat} {ds:List Deferred} {pw:Nat->Bool} {q:Nat->Bool} {a0:Env} {a b:Act} (h:Zbg n ds pw a0 a) (h':Zbg n ds (λ i=>pw i && q i) a.env b):Zbg n ds pw a0 b:=
 ⟨h'.size,h'.defers,λ i hi=>(h'.same i (by simp [hi])).trans (h.same i hi)⟩
variable {P:Program} {cl:FuncId->Bool} {X:List PanicEntry->List Value->World->Prop} {ps:List Nat} {n:Nat} {ds:List Deferred}
theorem Zjh (hcl:∀ g,cl g=true->ZO P g=true) (hmix:P.follows .mixedOrders=true) {pw:Nat->Bool} {a0:Env} {id:Nat} {ops:Array Oper} {d:Bool}
  (hc:Zcu P n ps (.region id ops d)=true) (hw:Zfs pw (.region id ops d)=true) {sk:Sk} {K:ZuK} {a:Act} {w:World} (hk:Zbg n ds pw a0 a)
  (h:ZiQ P cl X ps (.region id ops d) sk a.env K w):(Code.region id ops d).wp P (PKx n ds pw X ps a0 K) a w:=by
 simp only [Zcu,Bool.and_eq_true] at hc;obtain ⟨⟨hsel,hall⟩,hps⟩:=hc;rw [Array.all_eq_true_iff_forall_mem] at hall;simp only [Bool.and_eq_true] at hall;simp only [Zfs,Array.all_eq_true_iff_forall_mem] at hw;have hops:∀ o∈ops,Zis P o.op=true/\ZbD n pw o=true:=λ o ho=>by
  have h1:=hall o ho;have h2:=hw o ho;refine ⟨h1.1,?_⟩;unfold ZbD;cases hd:o.dst with
  |none=>rfl
  |some x=>rw [hd] at h1 h2;simp only [Bool.and_eq_true];exact ⟨h1.2,h2⟩
 unfold ZiQ at h;cases d with
 |false=>
  exact wp_region_list (Zcj (X:=X) (ps:=ps) (Q:=PKx n ds pw X ps a0 K) hcl (λ a w hk h=>⟨hk,h⟩) (λ ch a w hk h=>⟨hk,h⟩) ops.toList (λ o ho=>hops o (by simpa using ho)) a w hk h)
 |true=>
  obtain ⟨S0,S,hS,h⟩:=h;obtain ⟨hS,h⟩:=h _ hS;refine wp_region_any hmix (Zi0 _ _ _ _ (ZmS (X:=X) (ps:=ps) (Q:=PKx n ds pw X ps a0 K) hcl hsel (λ a w hk h=>⟨hk,h⟩) (λ ch a w hk h=>⟨hk,h⟩) (λ i o v c a w ho h=>by
   have hm:=Array.mem_of_getElem? ho;have hd:=(hops o hm).2;rw [Array.all_eq_true_iff_forall_mem] at hps;have hk2:=Zbg.unput hd h.1;exact ⟨hk2,by rw [<-ZsK hd hk2.size (hps o hm) v];exact h.2⟩) (λ i o ho=>hops o (Array.mem_of_getElem? ho)) _ _ _ _ _ hk (λ _=>hS) h))
theorem ZaF (hcl:∀ g,cl g=true->ZO P g=true) (hmix:P.follows .mixedOrders=true):∀ (c:Code) (sk:Sk) (pw:Nat->Bool) (a0:Env),
  Zcu P n ps c=true->Zfs pw c=true->Zki c sk=true->∀ (a:Act) (K:ZuK) (w:World),Zbg n ds pw a0 a->ZiQ P cl X ps c sk a.env K w->c.wp P (PKx n ds pw X ps a0 K) a w
 | .skip,sk,pw,a0,_,_,_,a,K,w,hk,h=>wp_skip ⟨hk,h⟩
 | .label _,sk,pw,a0,_,_,_,a,K,w,hk,h=>wp_label ⟨hk,h⟩
 | .exit _,sk,pw,a0,_,_,_,a,K,w,hk,h=>wp_exit ⟨hk,h⟩
 | .ret,sk,pw,a0,_,_,_,a,K,w,hk,h=>wp_ret ⟨hk,h⟩
 | .region id ops d,sk,pw,a0,hc,hw,_,a,K,w,hk,h=>Zjh hcl hmix hc hw hk h
 | .goto _,sk,pw,a0,_,_,_,a,K,w,hk,h=>h.elim
 | .refuse _,sk,pw,a0,_,_,_,a,K,w,hk,h=>h.elim
 | .rangeFunc _ _ _ _,sk,pw,a0,_,_,_,a,K,w,hk,h=>h.elim
 | .scope c,sk,pw,a0,hc,hw,hs,a,K,w,hk,h=>by
  refine wp_scope_straight ?_;refine Code.wp_mono ?_ (ZaF hcl hmix c sk.l pw a0 hc hw hs a K w hk h);intro e a w hq;cases e<;>first|exact hq|exact hq.elim
 | .block id c,sk,pw,a0,hc,hw,hs,a,K,w,hk,h=>by
  refine wp_block ?_;refine Code.wp_mono ?_ (ZaF hcl hmix c sk.l pw a0 hc hw hs a _ w hk h);intro e a w hq;cases e with
  |exit i=>
   obtain ⟨hk,hq⟩:=hq;show if i=id then _ else _
   by_cases hi:i=id
   ·subst hi
    rw [if_pos rfl];have:Nat.beq i i=true:=by simp
    simp only [this] at hq;exact ⟨hk,hq⟩
   ·rw [if_neg hi]
    have:Nat.beq i id=false:=by
     cases hb:Nat.beq i id with
     |false=>rfl
     |true=>exact absurd (Nat.eq_of_beq_eq_true hb) hi
    simp only [this] at hq;exact ⟨hk,hq⟩
  |normal=>exact hq
  |ret=>exact hq
  |panic ch=>exact hq
  |_=>exact hq.elim
 | .cond c x y,sk,pw,a0,hc,hw,hs,a,K,w,hk,h=>by
  simp only [Zcu,Zfs,Zki,Bool.and_eq_true] at hc hw hs;unfold ZiQ at h;split at h
  ·rename_i t ht
   rw [ZaU] at ht;refine wp_cond_split ht (λ hb=>?_) (λ hb=>?_)
   ·subst hb;exact ZaF hcl hmix x sk.l pw a0 hc.1 hw.1 hs.1 a K w hk h
   ·subst hb;exact ZaF hcl hmix y sk.r pw a0 hc.2 hw.2 hs.2 a K w hk h
  ·exact h.elim
 | .seq x y,sk,pw,a0,hc,hw,hs,a,K,w,hk,h=>by
  simp only [Zcu,Zfs,Zki,Bool.and_eq_true] at hc hw hs;refine wp_seq ?_;have plain:ZiQ P cl X ps x sk.l a.env { K with nrm:=λ ρ' w'=>ZiQ P cl X ps y sk.r ρ' K w' } w->x.wp P (Exit.then (y.wp P (PKx n ds pw X ps a0 K)) (PKx n ds pw X ps a0 K)) a w:=λ h=>by
   refine Code.wp_mono ?_ (ZaF hcl hmix x sk.l pw a0 hc.1 hw.1 hs.1.2 a _ w hk h);intro e a w hq;cases e with
   |normal=>exact ZaF hcl hmix y sk.r pw a0 hc.2 hw.2 hs.2 a K w hq.1 hq.2
   |_=>exact hq
  cases sk with
  |cut ms ts W l r=>
   simp only [Bool.and_eq_true] at hs;obtain ⟨J,h1,h2⟩:=(show ZzQ ts ms W a.env (λ k=>ZiQ P cl X ps x l a.env { K with nrm:=k } w) (λ ρ' w'=>ZiQ P cl X ps y r ρ' K w') from h)
   have:=ZaF hcl hmix x l (λ i=>pw i && Zlg i W) a.env hc.1 (Zbq hw.1 hs.1.1.1) hs.1.2 a _ w (Zbg.refl' hk.size hk.defers) h1;refine Code.wp_mono ?_ this;intro e b w' hq;cases e with
   |normal=>
    obtain ⟨hkb,hq⟩:=hq;have hall:=h2 b.env;have hb:=ZhP (by rw [Zgx];exact Nat.eq_of_beq_eq_true hs.1.1.2) hq hall w' hq;rw [Zjy (λ i hi=>hkb.same i (by simp [hi]))] at hb;exact ZaF hcl hmix y r pw a0 hc.2 hw.2 hs.2 b K w' (hk.trans hkb) hb
   |exit i=>exact ⟨hk.trans hq.1,hq.2⟩
   |ret=>exact ⟨hk.trans hq.1,hq.2⟩
   |panic ch=>exact ⟨hk.trans hq.1,hq.2⟩
   |_=>exact hq.elim
  |leaf=>exact plain h
  |seq l r=>exact plain h
  |cond l r=>exact plain h
  |block l=>exact plain h
  |loop ms ts W l=>exact plain h
 | .loop c,sk,pw,a0,hc,hw,hs,a,K,w,hk,h=>by
  cases sk with
  |loop ms ts W l=>
   simp only [Zki,Bool.and_eq_true] at hs;have hc:Zcu P n ps c=true:=hc;have hw:Zfs pw c=true:=hw;obtain ⟨I,μ,h0,hstep⟩:=(show Ztm ts ms W a.env (λ ρ' k w'=>ZiQ P cl X ps c l ρ' { K with nrm:=k } w') w from h)
   have hlen:∀ e:Env,(vals ms e).length=ts.length:=λ e=>by rw [Zgx];exact Nat.eq_of_beq_eq_true hs.1.2
   refine wp_loop (λ b v=>Zbg n ds pw a0 b/\(∀ i,Zlg i W=false->b.env i=a.env i)/\app ts I (vals ms b.env) (λ p=>p v))
    (λ b v=>Zpt (λ _=>0) ts μ (vals ms b.env) v) ⟨hk,λ _ _=>rfl,h0⟩ ?_
   rintro b v ⟨hkb,hsame,hI⟩;have hb:=ZhP (hlen b.env) hI (hstep b.env) v hI;rw [Zjy hsame] at hb;have:=ZaF hcl hmix c l (λ i=>pw i && Zlg i W) b.env hc (Zbq hw hs.1.1) hs.2 b _ v (Zbg.refl' hkb.size hkb.defers) hb;refine Code.wp_mono ?_ this;intro e b' v' hq;cases e with
   |normal=>
    obtain ⟨hkb',hI',hμ⟩:=hq;exact ⟨⟨hkb.trans hkb',λ i hi=>(hkb'.same i (by simp [hi])).trans (hsame i hi),hI'⟩,by
     have h1:=ZhO (d:=λ _=>0) hμ;exact ZhO (d:=λ _=>0) h1⟩
   |exit i=>exact ⟨hkb.trans hq.1,hq.2⟩
   |ret=>exact ⟨hkb.trans hq.1,hq.2⟩
   |panic ch=>exact ⟨hkb.trans hq.1,hq.2⟩
   |_=>exact hq.elim
  |_=>exact False.elim h
def ZvE (P:Program) (n:Nat) (fn:Func) (sk:Sk) (ps:List Nat):Bool:=
 Nat.beq n fn.ntmps && (match fn.body with|some c=>Zcu P n ps c && Zfs (λ _=>true) c && Zki c sk|none=>false) &&
  fn.results.all λ r=>match r with| .tmp _=>true| .cell _ t=>Zq7 P t
def ZAS (P:Program) (cl:FuncId->Bool) (X:List PanicEntry->World->Prop) (fn:Func) (sk:Sk) (args:List Value) (K:Value->World->Prop) (w:World):Prop:=
 match fn.body with
 |some c=>ZiQ P cl (λ ch _ w=>X ch w) [] c sk (Zes args) { nrm:=λ ρ w=>Zp9 P ρ K fn.results.toList [] w,ex:=λ _ _ _=>False,ret:=λ ρ w=>Zp9 P ρ K fn.results.toList [] w } w
 |none=>False
def ZaX (P:Program) (f:FuncId) (args:Array Value) (w:World) (X:List PanicEntry->World->Prop) (K:Value->World->Prop):Prop:=
 Calls P f args w λ e w'=>(∃ v,e=.returned v/\K v w')\/∃ ch,e=.panicked ch/\X ch w'
theorem ZaX.use {f:FuncId} {args:Array Value} {w:World} {X:List PanicEntry->World->Prop} {K:Value->World->Prop} {R:Ending->World->Prop} (h:ZaX P f args w X K) (k:∀ v w',K v w'->R (.returned v) w') (kx:∀ ch w',X ch w'->R (.panicked ch) w'):Calls P f args w R:=
 Calls.mono h λ e w' he=>by
  rcases he with ⟨v,rfl,hq⟩|⟨ch,rfl,hq⟩
  ·exact k v w' hq
  ·exact kx ch w' hq
theorem ZhE {fn:Func} {args:List Value}:({ tmps:=args.toArray++Array.replicate (fn.ntmps - args.toArray.size) undef,defers:=[] }:Act).env=Zes args:=by
 funext i
 rw [Zf2];simp only [Act.env];rcases Nat.lt_or_ge i args.length with hi|hi
 ·simp [Array.getElem?_append,hi]
 ·simp only [Array.getD_eq_getD_getElem?,Array.getElem?_append,List.size_toArray,if_neg (Nat.not_lt.2 hi),Array.getElem?_replicate,List.getD_eq_getElem?_getD,List.getElem?_eq_none hi]
  split<;>rfl
theorem Zp8 {fn:Func} (hres:(fn.results.all λ r=>match r with| .tmp _=>true| .cell _ t=>Zq7 P t)=true) {a:Act} {K:Value->World->Prop} {w:World} (hr:Zp9 P a.env K fn.results.toList [] w):
  ∃ v,(results fn a.tmps).run P w=.ok v w/\K v w:=by
 obtain ⟨vs,hvs,hf⟩:=ZdT fn.results.toList [] (λ r hr=>by
  rw [Array.all_eq_true_iff_forall_mem] at hres;exact hres r (by simpa using hr)) hr
 have hm:(fn.results.mapM (Zg1 a.tmps)).run P w=.ok vs.toArray w:=by
  rw [Array.mapM_eq_mapM_toList];simp only [Sem.run_map,hvs,Result.andThen_ok]
 refine ⟨_,by rw [Zii,Sem.run_bind,hm];rfl,?_⟩;cases vs with
 |nil=>exact hf
 |cons v vs=>cases vs with
  |nil=>exact hf
  |cons u us=>exact hf
theorem ZrW {f:FuncId} {fn:Func} {sk:Sk} (hcl:∀ g,cl g=true->ZO P g=true) (hmix:P.follows .mixedOrders=true)
  (hf:P.funcs[f]? =some fn) (hok:ZvE P fn.ntmps fn sk []=true) {args:List Value} {X:List PanicEntry->World->Prop} {K:Value->World->Prop} {w:World} (hargs:args.length<=fn.ntmps)
  (h:ZAS P cl X fn sk args K w):ZaX P f args.toArray w X K:=by
 unfold ZaX;unfold ZAS at h;unfold ZvE at hok;simp only [Bool.and_eq_true] at hok;obtain ⟨⟨_,hbody⟩,hres⟩:=hok;split at h
 case h_2=>exact h.elim
 rename_i c hb;rw [hb] at hbody;simp only [Bool.and_eq_true] at hbody;refine calls_of_wp hf hb ?_;rw [<-ZhE (fn:=fn)] at h;refine Code.wp_mono ?_ (ZaF (n:=fn.ntmps) (ds:=[]) hcl hmix c sk (λ _=>true) _ hbody.1.1 hbody.1.2 hbody.2 _ _ w (Zbg.refl' (by simp;omega) rfl) h);intro e a w hq;cases e with
 |normal=>obtain ⟨v,h1,h2⟩:=Zp8 hres hq.2;exact ⟨hq.1.defers,v,h1,.inl ⟨v,rfl,h2⟩⟩
 |ret=>obtain ⟨v,h1,h2⟩:=Zp8 hres hq.2;exact ⟨hq.1.defers,v,h1,.inl ⟨v,rfl,h2⟩⟩
 |exit i=>exact hq.2.elim
 |panic ch=>exact ⟨hq.1.defers,.inr ⟨ch,rfl,hq.2⟩⟩
 |_=>exact hq.elim
end
section
open Go
section
variable {P:Program} {cl:FuncId->Bool}
theorem ZqK (hcl:∀ g,cl g=true->ZO P g=true) {ops:Array Oper} {K:Env->World->Prop} {n:Nat} {pw:Nat->Bool} {a0:Env} {cs:List Frame} {Q:Exit->Act->List Frame->World->Prop}
    (hQ:∀ a w,Zcz n pw a0 a->K a.env w->Q .normal a cs w):∀ (l:List Nat) (os:List Oper) (_:l.map (λ i=>ops[i]?)=os.map some) (_:∀ o∈os,Zis P o.op=true/\ZbD n pw o=true) (a:Act) (w:World),
      Zcz n pw a0 a->ZsC P cl ops os a.env K w->wpOpsS P ops Q l a cs w
  |[],os,hl,_,a,w,hk,h=>by
    have:os=[]:=by cases os with
      |nil=>rfl
      |cons _ _=>simp at hl
    subst this;exact hQ a w hk h
  |i::l,os,hl,hok,a,w,hk,h=>by
    cases os with
    |nil=>simp at hl
    |cons o os=>
      simp only [List.map_cons,List.cons.injEq] at hl;obtain ⟨hi,hl⟩:=hl;have ho:=hok o (List.mem_cons_self ..);have hrest:=λ x hx=>hok x (List.mem_cons_of_mem _ hx);unfold ZsC at h;simp only [wpOpsS,hi];rcases Zaq h with ⟨hw,h⟩|⟨hw,h⟩
      · rw [if_pos hw]
        have h2:=Zk8 hcl (a:=a) (Q:=λ e a' w'=>Q e a' cs w') ho.1 h;rw [ZaU] at h2;have key:o.upon P a (λ a' w'=>wpOpsS P ops Q l a' cs w') (λ e a' w'=>Q e a' cs w') ((execOp a.eval o).run P w):=by
          refine ZaC.upon_mono ?_ h2;rintro a' w' ⟨v,rfl,hv⟩;refine ZqK hcl hQ l os hl hrest _ w' (hk.put ho.2 v) ?_;rw [hk.envput ho.2];exact hv
        split
        · rename_i w' hr
          rw [hr] at key;exact key.elim
        · exact key
      · rw [hw]
        simp only [Bool.false_eq_true,if_false];refine ZqK hcl hQ l os hl hrest _ w (hk.put ho.2 _) ?_;rw [hk.envput ho.2];exact h
def ZzK (P:Program) (cl:FuncId->Bool) (fn:Func) (sk:Sk) (args:List Value) (x:Value) (K:World->Prop) (w:World):Prop:=
  match fn.body with
  |some (.seq (.region _ o0 false) rest)=>(match o0.toList with
    |orec::tl=>ZsC P cl o0 tl ((Zes args).put orec.dst x) (λ ρ w=>den P cl rest sk ρ { nrm:=λ _ w=>K w,ex:=λ _ _ _=>False,ret:=λ _ w=>K w } w) w
    |[]=>False)
  |_=>False
def ZsX (P:Program) (fn:Func) (sk:Sk):Bool:=
  (match fn.body with
  |some (.seq (.region _ o0 false) rest)=>(match o0.toList with
    |orec::tl=>(match orec.op with| .call ⟨.builtin .recover,_,_⟩=>true|_=>false) && orec.guard.isNone && (match orec.dst with|some d=>Nat.blt d fn.ntmps|none=>true) &&
        (tl.all λ o=>Zis P o.op && ZbD fn.ntmps (λ _=>true) o) && ZdK P fn.ntmps rest && Zfs (λ _=>true) rest && Zki rest sk
    |[]=>false)
  |_=>false) && fn.results.isEmpty
theorem Zqa (hcl:∀ g,cl g=true->ZO P g=true) (hmix:P.follows .mixedOrders=true) {f:FuncId} {fn:Func} {sk:Sk} (hf:P.funcs[f]? =some fn) (hok:ZsX P fn sk=true) {args:List Value} (hargs:args.length<=fn.ntmps)
    {K:World->Prop} {w:World} {u u':FrameMode} {x:Value} (hrec:∀ (c₀:Frame) (cs:List Frame),c₀.mode=u->(recoverD (c₀::cs)=some (x,{ c₀ with mode:=u' }::cs))\/(recoverD (c₀::cs)=none/\x=.nilIface/\u'=u))
    (h:ZzK P cl fn sk args x K w):CallsD P f args.toArray u w λ e v w'=>(∃ y,e=.returned y)/\v=u'/\K w':=by
  unfold ZsX at hok;unfold ZzK at h;rw [Bool.and_eq_true] at hok;obtain ⟨hok,hres⟩:=hok;split at h
  case h_2=>exact h.elim
  rename_i id o0 rest hb;rw [hb] at hok;simp only at hok;split at h
  case h_2=>exact h.elim
  rename_i orec tl ho;rw [ho] at hok;simp only [Bool.and_eq_true] at hok;obtain ⟨⟨⟨⟨⟨⟨hop,hg⟩,hd⟩,htl⟩,hco⟩,hwr⟩,hsk⟩:=hok;have henv:=ZhE (fn:=fn) (args:=args);refine callsD_of_wpS hf hb λ c₀ cs hc=>wpS_seq (wpS_region ?_);generalize hA:({ tmps:=args.toArray++Array.replicate (fn.ntmps - args.toArray.size) undef,defers:=[] }:Act)=A at henv;have hAs:A.tmps.size=fn.ntmps:=by rw [<-hA];simp;omega
  have hAd:A.defers=[]:=by rw [<-hA]
  have hres0:fn.results=#[]:=by simpa using hres
  have hsize:o0.size=tl.length + 1:=by rw [<-Array.length_toList,ho];simp
  have hrange:List.range o0.size=0::(List.range tl.length).map (· + 1):=by rw [hsize,List.range_succ_eq_map]
  rw [hrange];have h0:o0[0]? =some orec:=by rw [<-Array.getElem?_toList,ho];rfl
  have hmap:((List.range tl.length).map (· + 1)).map (λ i=>o0[i]?)=tl.map some:=by
    rw [List.map_map];apply List.ext_getElem?;intro i;simp only [List.getElem?_map];by_cases hi:i<tl.length
    · simp only [List.getElem?_range hi,Option.map_some,Function.comp]
      rw [<-Array.getElem?_toList,ho,List.getElem?_cons_succ];simp [hi]
    · rw [List.getElem?_eq_none (by simpa using hi),List.getElem?_eq_none (by omega)];rfl
  have hrun:(execOp A.eval orec).run P w=.ok .recover w:=by
    obtain ⟨dst,op,ty,pos,after,guard⟩:=orec;dsimp only at hop;split at hop
    · rfl
    · cases hop
  have hwant:Region.wanted orec (yielded o0 A.tmps)=true:=by
    unfold Region.wanted;rw [Option.isNone_iff_eq_none.1 hg]
  have hdst:ZbD fn.ntmps (λ _=>true) orec=true:=by
    unfold ZbD;cases hx:orec.dst with
    |none=>rfl
    |some d=>rw [hx] at hd;simpa using hd
  have hk0:Zcz fn.ntmps (λ _=>true) A.env A:=Zcz.refl hAs hAd;have go:∀ (cs':List Frame),cs'={ c₀ with mode:=u' }::cs->wpOpsS P o0 (Exit.thenS (rest.wpS P (bodyPostS P fn c₀ cs λ e v w'=>(∃ y,e=.returned y)/\v=u'/\K w')) (bodyPostS P fn c₀ cs λ e v w'=>(∃ y,e=.returned y)/\v=u'/\K w'))
      ((List.range tl.length).map (· + 1)) (A.put orec.dst x) cs' w:=λ cs' hcs=>by
    refine ZqK (n:=fn.ntmps) (pw:=λ _=>true) (a0:=A.env) (K:=λ ρ w=>den P cl rest sk ρ { nrm:=λ _ w=>K w,ex:=λ _ _ _=>False,ret:=λ _ w=>K w } w) hcl ?_ _ tl hmap (λ o hm=>by
      have:=List.all_eq_true.1 htl o hm;simpa using this) _ w (hk0.put hdst x) ?_
    · intro a w hk hden
      refine wpS_of_wp ?_;refine Code.wp_mono ?_ (Za0 (n:=fn.ntmps) hcl hmix rest sk (λ _=>true) a.env hco hwr hsk a _ w (Zcz.refl hk.size hk.defers) hden);have fin:∀ (a:Act) (w:World),a.defers=[]->K w->a.defers=[]/\∃ u'',cs'={ c₀ with mode:=u'' }::cs/\∃ v,(results fn a.tmps).run P w=.ok v w/\((∃ y,Ending.returned v=.returned y)/\u''=u'/\K w):=λ a w hd hK=>
        ⟨hd,u',hcs,.tuple #[],by
          simp [results,hres0],⟨_,rfl⟩,rfl,hK⟩
      intro e b w hq;cases e with
      |normal=>exact fin b w hq.1.defers hq.2
      |ret=>exact fin b w hq.1.defers hq.2
      |exit i=>exact hq.2.elim
      |_=>exact hq.elim
    · rw [hk0.envput hdst,henv];exact h
  simp only [wpOpsS,h0,hwant,if_true,hrun];rcases hrec c₀ cs hc with hr|⟨hr,rfl,rfl⟩
  · rw [hr];exact go _ rfl
  · rw [hr];exact go _ (by rw [<-hc])
theorem Zg2 (hcl:∀ g,cl g=true->ZO P g=true) (hmix:P.follows .mixedOrders=true) {f:FuncId} {fn:Func} {sk:Sk} (hf:P.funcs[f]? =some fn) (hok:ZsX P fn sk=true) {args:List Value} (hargs:args.length<=fn.ntmps)
    {K:World->Prop} {w:World} {x:Value} (h:ZzK P cl fn sk args x K w):
    CallsD P f args.toArray (.panicking [{ v:=x,recovered:=false }]) w λ e v w'=>(∃ y,e=.returned y)/\v=.panicking [{ v:=x,recovered:=true }]/\K w':=
  Zqa hcl hmix hf hok hargs (λ c₀ cs hc=>.inl (by simp [recoverD,hc])) h
theorem ZfA (hcl:∀ g,cl g=true->ZO P g=true) (hmix:P.follows .mixedOrders=true) {f:FuncId} {fn:Func} {sk:Sk} (hf:P.funcs[f]? =some fn) (hok:ZsX P fn sk=true) {args:List Value} (hargs:args.length<=fn.ntmps)
    {K:World->Prop} {w:World} (h:ZzK P cl fn sk args .nilIface K w):
    CallsD P f args.toArray .returning w λ e v w'=>(∃ y,e=.returned y)/\v=.returning/\K w':=
  Zqa hcl hmix hf hok hargs (λ c₀ cs hc=>.inr ⟨by simp [recoverD,hc],rfl,rfl⟩) h
def ZkO (P:Program) (K:Value->World->Prop):List ResultVar->List Value->List Value->World->Prop
  |[],_,acc,w=>ZAT K acc.reverse w
  | .tmp _::rs,v::vs,acc,w=>ZkO P K rs vs (v::acc) w
  | .cell _ t::rs,v::vs,acc,w=>Zh0 P (λ w'=>w'=w) t v λ x=>ZkO P K rs vs (x::acc) w
  |_::_,[],_,_=>False
def ZgT:ResultVar->Nat| .tmp t=>t| .cell a _=>a
theorem Zjf {ρ:Env} {K:Value->World->Prop}:∀ (rs:List ResultVar) (acc:List Value) (w:World),ZkO P K rs (vals (rs.map ZgT) ρ) acc w->Zp9 P ρ K rs acc w
  |[],_,_,h=>h
  | .tmp t::rs,acc,w,h=>Zjf rs (ρ t::acc) w h
  | .cell a t::rs,acc,w,h=>by
    have h:Zh0 P (λ w'=>w'=w) t (ρ a) λ x=>ZkO P K rs (vals (rs.map ZgT) ρ) (x::acc) w:=h;show Zh0 P (λ w'=>w'=w) t (ρ a) λ x=>Zp9 P ρ K rs (x::acc) w;have mono:∀ {F G:Value->Prop},(∀ x,F x->G x)->Zh0 P (λ w'=>w'=w) t (ρ a) F->Zh0 P (λ w'=>w'=w) t (ρ a) G:=λ {F G} hFG hl=>by
      have exm:∀ {ty:Ty} {F G:Value->Prop},(∀ x,F x->G x)->ty.ex F->ty.ex G:=λ {ty F G} hFG h=>by
        cases ty<;>(obtain ⟨y,hy⟩:=h;exact ⟨y,hFG _ hy⟩)
      have exA:∀ {ts:List Ty} {F G:List Value->Prop},(∀ x,F x->G x)->ZmE ts F->ZmE ts G:=λ {ts}=>by
        induction ts with
        |nil=>exact λ hFG h=>hFG _ h
        |cons ty ts ih=>exact λ hFG h=>exm (λ v hv=>ih (λ x hx=>hFG _ hx) hv) h
      unfold Zh0 at hl ⊢;split at hl
      · unfold Zc at hl ⊢
        split at hl
        · cases hagg:ZiC P t
          · simp only [hagg] at hl ⊢
            exact exm (λ x hx=>⟨hx.1,hFG _ hx.2⟩) hl
          · simp only [hagg] at hl ⊢
            split at hl
            · exact exA (λ x hx=>⟨hx.1,hFG _ hx.2⟩) hl
            · obtain ⟨vs,h1,h2,h3⟩:=hl
              exact ⟨vs,h1,h2,hFG _ h3⟩
        · exact hl.elim
      · exact hl.elim
    exact mono (λ x hx=>Zjf rs (x::acc) w hx) h
def Zu (P:Program) (g:FuncId) (args:List Value) (u:FrameMode) (Kr:World->Prop) (w:World):Prop:=
  CallsD P g args.toArray u w λ e u' w'=>(∃ y,e=.returned y)/\settle u'=.returning/\Kr w'
def tgtF (cl:FuncId->Bool) (f:Value) (K:FuncId->List Value->List Value->Prop):Prop:=
  match f with
  | .func fn first captured=>(match fn with
    | .func g=>(match cl g with
      |true=>K g first.toList captured.toList
      |false=>False)
    |_=>False)
  |_=>False
def ZAV (P:Program) (cl:FuncId->Bool) (fn:Func) (sk:Sk) (args:List Value) (K:Value->World->Prop) (w:World):Prop:=
  match fn.body with
  |some (.seq (.region _ o0 false) (.seq (.region _ o1 false) rest))=>
    ZsC P cl o0 o0.toList (Zes args) (λ ρ w=>ZsC P cl o1 o1.toList.dropLast ρ (λ ρ w=>
      match o1.toList.getLast? with
      |some od=>(match od.op with
        | .defer c=>(match c.callee with
          | .value f=>tgtF cl (ρ.ev f) λ g first captured=>
              ZiQ P cl (λ ch vs w=>Zu P g (first++((c.args.map ρ.ev).toList++captured)) (.panicking ch) (ZkO P K fn.results.toList vs []) w) (fn.results.toList.map ZgT) rest sk ρ
                { nrm:=λ ρ' w=>Zu P g (first++((c.args.map ρ.ev).toList++captured)) .returning (ZkO P K fn.results.toList (vals (fn.results.toList.map ZgT) ρ') []) w,ex:=λ _ _ _=>False,
                  ret:=λ ρ' w=>Zu P g (first++((c.args.map ρ.ev).toList++captured)) .returning (ZkO P K fn.results.toList (vals (fn.results.toList.map ZgT) ρ') []) w } w
          |_=>False)
        |_=>False)
      |none=>False) w) w
  |_=>False
def ZvZ (P:Program) (cl:FuncId->Bool) (fn:Func) (sk:Sk):Bool:=
  (match fn.body with
  |some (.seq (.region _ o0 false) (.seq (.region _ o1 false) rest))=>
    (o0.toList.all λ o=>Zis P o.op && ZbD fn.ntmps (λ _=>true) o) && (o1.toList.dropLast.all λ o=>Zis P o.op && ZbD fn.ntmps (λ _=>true) o) &&
      (match o1.toList.getLast? with|some od=>od.guard.isNone && od.dst.isNone|none=>false) &&
      Zcu P fn.ntmps (fn.results.toList.map ZgT) rest && Zfs (λ _=>true) rest && Zki rest sk
  |_=>false) && fn.results.all λ r=>match r with| .tmp _=>true| .cell _ t=>Zq7 P t
theorem ZcO {ops:Array Oper} {Q:Exit->Act->World->Prop}:∀ (l l':List Oper) (a:Act) (w:World),wpList P ops (Exit.then (λ a w=>wpList P ops Q l' a w) Q) l a w->wpList P ops Q (l++l') a w
  |[],l',a,w,h=>h
  |o::l,l',a,w,h=>by
    unfold wpList at h;rw [List.cons_append];unfold wpList;by_cases hw:Region.wanted o (yielded ops a.tmps)=true
    · rw [if_pos hw] at h ⊢
      rcases h with h|h
      · refine .inl ?_
        unfold Oper.wp at h ⊢
        revert h
        cases (execOp a.eval o).run P w with
        |ok x w'=>
          cases x<;>simp only [Oper.upon]<;>
            first
              |exact λ h=>ZcO l l' _ _ h
              |(intro h;refine Calls.mono h ?_;intro e w'' he;cases e<;>first|exact ZcO l l' _ _ he|exact he)
              |(intro h;exact Rows.mono h λ _ _ he=>ZcO l l' _ _ he)
              |exact λ h=>h
        |halt x w'=>cases x<;>simp only [Oper.upon]<;>exact λ h=>h
      · exact .inr h
    · rw [if_neg hw] at h ⊢
      exact ZcO l l' _ _ h
theorem CallsD.mono {f:FuncId} {args:Array Value} {u:FrameMode} {w:World} {R R':Ending->FrameMode->World->Prop} (h:CallsD P f args u w R) (k:∀ e u w,R e u w->R' e u w):CallsD P f args u w R':=
  λ c cs hc=>let ⟨e,u',w',fr,r,s⟩:=h c cs hc;⟨e,u',w',fr,k _ _ _ r,s⟩
theorem ZeG (hcl:∀ g,cl g=true->ZO P g=true) {fn:Func} (hres:(fn.results.all λ r=>match r with| .tmp _=>true| .cell _ t=>Zq7 P t)=true) {a:Act} {g:FuncId} (hg:cl g=true) {first cargs captured:Array Value} {u:FrameMode} (hu:u≠.run)
    {K:Value->World->Prop} {w:World} (h:Zu P g (first.toList++(cargs.toList++captured.toList)) u (ZkO P K fn.results.toList (vals (fn.results.toList.map ZgT) a.env) []) w):
    Leaves P fn a.tmps (λ e w'=>∃ v,e=.returned v/\K v w') [{ target:=.fn (.func g) captured,args:=first++cargs }] u w:=by
  refine ⟨hu,_,_,g,(first.toList++(cargs.toList++captured.toList)).toArray,rfl,?_,?_⟩
  · have e:(first++cargs)++captured=(first.toList++(cargs.toList++captured.toList)).toArray:=by apply Array.ext';simp
    simp only [invoke,e];exact ZdL (hcl g hg) _ w
  · refine CallsD.mono h ?_
    rintro e u' w' ⟨⟨y,rfl⟩,hs,hr⟩;show Leaves P fn a.tmps _ [] (settle u') w';rw [hs];obtain ⟨v,h1,h2⟩:=Zp8 hres (Zjf _ _ _ hr);exact ⟨v,h1,v,rfl,h2⟩
theorem ZrX (hcl:∀ g,cl g=true->ZO P g=true) (hmix:P.follows .mixedOrders=true) {f:FuncId} {fn:Func} {sk:Sk} (hf:P.funcs[f]? =some fn) (hok:ZvZ P cl fn sk=true) {args:List Value} (hargs:args.length<=fn.ntmps)
    {K:Value->World->Prop} {w:World} (h:ZAV P cl fn sk args K w):Zm P f args.toArray w K:=by
  unfold Zm;unfold ZvZ at hok;unfold ZAV at h;rw [Bool.and_eq_true] at hok;obtain ⟨hok,hres⟩:=hok;split at h
  case h_2=>exact h.elim
  rename_i i0 o0 i1 o1 rest hb;rw [hb] at hok;simp only [Bool.and_eq_true] at hok;obtain ⟨⟨⟨⟨⟨h0,h1⟩,hlast⟩,hco⟩,hwr⟩,hsk⟩:=hok;refine calls_of_wp_defers hf hb ?_;have henv:=ZhE (fn:=fn) (args:=args);generalize hA:({ tmps:=args.toArray++Array.replicate (fn.ntmps - args.toArray.size) undef,defers:=[] }:Act)=A at henv;have hAs:A.tmps.size=fn.ntmps:=by rw [<-hA];simp;omega
  have hAd:A.defers=[]:=by rw [<-hA]
  rw [<-henv] at h;refine wp_seq (wp_region_list (ZaC (n:=fn.ntmps) (pw:=λ _=>true) (a0:=A.env) hcl ?_ o0.toList (λ o ho=>by have:=List.all_eq_true.1 h0 o ho;simpa using this) A w (Zcz.refl hAs hAd) h));clear h;intro a w hk h;show (Code.seq (.region i1 o1 false) rest).wp P _ a w;refine wp_seq (wp_region_list ?_);cases hl:o1.toList.getLast? with
  |none=>rw [hl] at hlast;cases hlast
  |some od=>
    rw [hl] at hlast;simp only [Bool.and_eq_true] at hlast;have hsplit:o1.toList=o1.toList.dropLast++[od]:=by
      obtain ⟨l,hl2⟩:=List.getLast?_eq_some_iff.1 hl;rw [hl2];simp
    rw [hsplit];refine ZcO _ _ _ _ ?_;refine ZaC (n:=fn.ntmps) (pw:=λ _=>true) (a0:=a.env) hcl ?_ o1.toList.dropLast (λ o ho=>by have:=List.all_eq_true.1 h1 o ho;simpa using this) a w (Zcz.refl hk.size hk.defers) h;clear h;intro b w hkb h;show wpList P o1 _ [od] b w;unfold wpList;have hwant:Region.wanted od (yielded o1 b.tmps)=true:=by
      unfold Region.wanted;rw [Option.isNone_iff_eq_none.1 hlast.1]
    rw [if_pos hwant];refine .inl ?_;rw [hl] at h;simp only at h;clear hsplit hl hwant h1;obtain ⟨dst,op,ty,pos,after,guard⟩:=od;dsimp only at h hlast;obtain ⟨hg0,hd0⟩:=hlast;have hd0:=Option.isNone_iff_eq_none.1 hd0;subst hd0;split at h
    case h_2=>exact h.elim
    rename_i c;obtain ⟨callee,cargs,ats⟩:=c;dsimp only at h;split at h
    case h_2=>exact h.elim
    rename_i fv;unfold tgtF at h;split at h
    case h_2=>exact h.elim
    rename_i fn' first captured hfv
    split at h
    case h_2=>exact h.elim
    rename_i g;split at h
    case h_2=>exact h.elim
    rename_i hg;have hrun:(execOp b.eval ⟨none,.defer ⟨.value fv,cargs,ats⟩,ty,pos,after,guard⟩).run P w=.ok (.defer { target:=.fn (.func g) captured,args:=first++cargs.map b.eval }) w:=by
      rw [ZaU] at hfv;simp only [execOp,resolve,hfv,Deferred.ofValue];simp
    unfold Oper.wp;rw [hrun];rw [ZaU] at h;generalize hB:({ tmps:=b.tmps,defers:={ target:=.fn (.func g) captured,args:=first++cargs.map b.eval }::b.defers }:Act)=B
    have hBe:B.env=b.env:=by rw [<-hB];rfl
    have hBs:B.tmps.size=fn.ntmps:=by rw [<-hB];exact hkb.size
    have hBd:B.defers=[{ target:=.fn (.func g) captured,args:=first++cargs.map b.eval }]:=by rw [<-hB];simp [hkb.defers]
    rw [Oper.upon_defer];show wpList P o1 _ [] ({ b with defers:={ target:=.fn (.func g) captured,args:=first++cargs.map b.eval }::b.defers }.put none undef) w
    show rest.wp P _ ({ b with defers:={ target:=.fn (.func g) captured,args:=first++cargs.map b.eval }::b.defers }.put none undef) w
    have hput:({ b with defers:={ target:=.fn (.func g) captured,args:=first++cargs.map b.eval }::b.defers }:Act).put none undef=B:=hB
    rw [hput];rw [<-hBe] at h;refine Code.wp_mono ?_ (ZaF (n:=fn.ntmps) (ds:=[{ target:=.fn (.func g) captured,args:=first++cargs.map b.eval }]) hcl hmix rest sk (λ _=>true) B.env hco hwr hsk B _ w (Zbg.refl' hBs hBd) h)
    intro e a' w' hq;cases e with
    |normal=>
      show Leaves P fn a'.tmps _ a'.defers .returning w';rw [hq.1.defers];exact ZeG hcl hres hg (by simp) hq.2
    |ret=>
      show Leaves P fn a'.tmps _ a'.defers .returning w';rw [hq.1.defers];exact ZeG hcl hres hg (by simp) hq.2
    |exit i=>exact hq.2.elim
    |panic ch=>
      show Leaves P fn a'.tmps _ a'.defers (.panicking ch) w';rw [hq.1.defers];exact ZeG hcl hres hg (by simp) hq.2
    |_=>exact hq.elim
end
end
end Go.VC
namespace Go.Proofs.YtfgbbckfikiomaaGreatDoor
section
open Go Go.VC Tryz
set_option maxRecDepth 10000
def ZuC:List Nat:=[3,4,5,6,7,8,9,10,11,12,13,14,15,16,17,18,19,20,21,22,23,24,25,26,27,28,29,30,31,32,33,34,35,36,37,38,39,40,41,42,43,44,45,46,47,48,49,50,51,52,53,54,55,56,57,58,59,60,61,62,63,64,65,66,67,68,69,70,71,72,73,74,75,76,77,78,79,80,81,82,83,84,85,86,87,88,89,90,91,92,93,94,95,96,97,98,99,100,101,102,103,104,105,106,107,108,109,110,111,112,113,114,115,116,117,118,119,120,121,122,123,124,125,126,127,128,129,130,131,132,133,134,135,136,137,138,139,140,141,142,143,144,145,146,147,148,150,152,153,154,155,156,157,158,159,160,161,162,163,164,165,166,167,168,169,170,171,172,173,174,175,176,177,178,179,180,181,182,183,184,185,186,187,188,189,190,191,192,193,194,195,196,197,198,199,200,201,202,203,204,205,206,207,208,209,210,211,212,213,214,215,216,217,218,219,220,221,222,223,224,225,226,227,228,229,230,231,233,234,235,236,237,238,239,240,241,242,243,244,245,246,247,248,249,250,251,252,253,254,255,256,257,258,259,260,261,262,263,265,266,268,269,270,271,272,273,275,276,277,278,279,280,281,282,283,284,285,286,287,288,289,290,291,293,294,295,296,297,298,299]
def cl:FuncId->Bool:=λ g=>Zlg g ZuC
theorem ZrU:ZuC.all (ZO prog)=true:=by kernel_rfl
theorem Zka (g:FuncId) (h:cl g=true):ZO prog g=true:=by
  have key:∀ l:List Nat,Zlg g l=true->l.all (ZO prog)=true->ZO prog g=true:=λ l=>by
    induction l with
    |nil=>intro h;cases h
    |cons x l ih=>
      intro h h2;simp only [List.all_cons,Bool.and_eq_true] at h2;simp only [Zlg] at h;split at h
      · rename_i hb;rw [Nat.eq_of_beq_eq_true hb];exact h2.1
      · exact ih h h2.2
  exact key _ h ZrU
theorem mixed:prog.follows .mixedOrders=true:=by kernel_rfl
abbrev _root_.Go.VC.Sl.v (s:Sl):Value:=.slice s.a s.len s.cap
abbrev Aw (w:World) (a:Addr) (l:List Value):Prop:=At (λ w'=>w'=w) a l
abbrev St (t:TypeId) (a:Addr) (v:Value) (w w':World):Prop:=(Instr.storeAt t (.pointer (some a)) v).run prog w=.ok () w'
theorem cq {f:FuncId} {fn:Func} {sk:Sk} {args:List Value} {K:Value->World->Prop} {w:World} {B:Prop} (hf:prog.funcs[f]? =some fn) (hok:ZAR prog fn.ntmps fn sk=true) (ha:Nat.ble args.length fn.ntmps=true) (he:fnF prog cl fn sk args K w=B) (h:B):Zm prog f args.toArray w K:=Zt0 Zka mixed hf hok (Nat.le_of_ble_eq_true ha) (Eq.mpr he h)
theorem cqx {f:FuncId} {fn:Func} {sk:Sk} {args:List Value} {X:List PanicEntry->World->Prop} {K:Value->World->Prop} {w:World} {B:Prop} (hf:prog.funcs[f]? =some fn) (hok:ZvE prog fn.ntmps fn sk []=true) (ha:Nat.ble args.length fn.ntmps=true) (he:ZAS prog cl X fn sk args K w=B) (h:B):ZaX prog f args.toArray w X K:=ZrW Zka mixed hf hok (Nat.le_of_ble_eq_true ha) (Eq.mpr he h)
theorem cqd {f:FuncId} {fn:Func} {sk:Sk} {args:List Value} {K:Value->World->Prop} {w:World} {B:Prop} (hf:prog.funcs[f]? =some fn) (hok:ZvZ prog cl fn sk=true) (ha:Nat.ble args.length fn.ntmps=true) (he:ZAV prog cl fn sk args K w=B) (h:B):Zm prog f args.toArray w K:=ZrX Zka mixed hf hok (Nat.le_of_ble_eq_true ha) (Eq.mpr he h)
def B146 (c:Sl) (K:Value->World->Prop) (w:World):Prop:=
 Br c.a.isNone
 (K (.slice none 0 0) w)
 (New (.cells #[] 5 (0,0)) (λ e f=>
 ∃ d:World,∃ b:Sl,((Builtin.append_ #[42,42] 42 #[.slice ((some ⟨e,0,none⟩)) 0 0,c.v]).run prog f=.ok (b.v) d)/\
 K (b.v) d) w)
theorem ZxB (b:Sl) (K:Value->World->Prop) (w:World) (h:B146 b K w):Zm prog 146 #[b.v] w K:=cq (sk:=.leaf) func146 (by kernel_rfl) (by kernel_rfl) (by kernel_rfl) h
def B120 (j:Int) (K:Value->World->Prop) (w:World):Prop:=
 Calls prog 193 #[.int .u64 j] w λ n o=>
 ∃ g,(n=.returned (.int .i64 g))/\
 New (.cells #[.int .u8 (IntKind.u8.wrap (IntKind.i64.wrap ((IntKind.i64.wrap (g + 7)).tdiv 8)))] 5 (0,0)) (λ l p=>
 ∃ (f:Int->Sl->World->Prop) (k:Int->Sl->World->Nat),(f (IntKind.i64.wrap ((IntKind.i64.wrap (g + 7)).tdiv 8)) ⟨(some ⟨l,0,none⟩),1,1⟩ p)/\∀ (r:Env) (c:Int) (b:Sl) (e:World),f c b e->
 Br (decide (c>0))
 (Ge0 (IntKind.i64.wrap (8 * IntKind.i64.wrap (c - 1))) (New (.cells #[.int .u8 (IntKind.u8.wrap (Zf8 IntKind.u64 j (IntKind.i64.wrap (8 * IntKind.i64.wrap (c - 1)))))] 5 (0,0)) (λ m q=>
 ∃ i:World,∃ d:Sl,((Builtin.append_ #[42,42] 42 #[b.v,.slice ((some ⟨m,0,none⟩)) 1 1]).run prog q=.ok (d.v) i)/\
 (f (IntKind.i64.wrap (c - 1)) d i)/\k (IntKind.i64.wrap (c - 1)) d i<k c b e) e))
 (K (b.v) e)) o
def ZAv:Sk:=(.seq .leaf (.seq .leaf (.seq .leaf (.seq (.block (.loop [3,4] [(.int .i64),.sl] [3,4,12,13,14,15,16,17,18,19,20,21,22,23] .leaf)) .leaf))))
theorem ZxK (a:Int) (K:Value->World->Prop) (w:World) (h:B120 a K w):Zm prog 120 #[.int .u64 a] w K:=cq (sk:=ZAv) func120 (by kernel_rfl) (by kernel_rfl) (by kernel_rfl) h
def B76 (c:Sl) (K:Value->World->Prop) (w:World):Prop:=
 Calls prog 146 #[c.v] w λ e f=>
 ∃ b:Sl,(e=.returned (b.v))/\
 New (.cells #[b.v,.bool false] 188 (0,0)) (λ d g=>
 K (.pointer ((some ⟨d,0,none⟩))) g) f
theorem Zy6 (b:Sl) (K:Value->World->Prop) (w:World) (h:B76 b K w):Zm prog 76 #[b.v] w K:=cq (sk:=.leaf) func76 (by kernel_rfl) (by kernel_rfl) (by kernel_rfl) h
def B147 (i:Option Addr) (g:Int) (K:Value->World->Prop) (w:World):Prop:=
 New (.cells #[.int .u64 g] 134 (0,0)) (λ e k=>
 New (.cells #[.int .u64 0] 134 (0,0)) (λ a l=>
 ∃ c:World,(St 134 ⟨a,0,none⟩ (.int .u64 0) l c)/\
 Calls prog 164 #[.pointer i,.func (.func 213) #[] #[.pointer ((some ⟨e,0,none⟩)),.pointer ((some ⟨a,0,none⟩))]] c λ f d=>
 (f=.returned (.tuple #[]))/\
 ∃ b,(Aw d ⟨a,0,none⟩ [.int .u64 b])/\
 K (.int .u64 b) d) k) w
theorem ZxA (b:Option Addr) (a:Int) (K:Value->World->Prop) (w:World) (h:B147 b a K w):Zm prog 147 #[.pointer b,.int .u64 a] w K:=cq (sk:=.leaf) func147 (by kernel_rfl) (by kernel_rfl) (by kernel_rfl) h
def B83 (e:Option Addr) (K:Value->World->Prop) (w:World):Prop:=
 Zc e λ d=>
 ∃ f,(Aw w ⟨d.block,d.off + 1,none⟩ [.bool f])/\
 Br (!f)
 (Zc e λ g=>
 ∃ b:Sl,(Aw w (Addr.add g 0) [b.v])/\
 K (.bool ((↑b.len:Int)==0)) w)
 (K (.bool false) w)
theorem Zy4 (a:Option Addr) (K:Value->World->Prop) (w:World) (h:B83 a K w):Zm prog 83 #[.pointer a] w K:=cq (sk:=.leaf) func83 (by kernel_rfl) (by kernel_rfl) (by kernel_rfl) h
def B164 (z:Option Addr) (y:Value) (K:Value->World->Prop) (w:World):Prop:=
 New (.cells #[.pointer z] 123 (0,0)) (λ c j=>
 ∃ r,(Aw j ⟨c,0,none⟩ [.pointer r])/\
 Zc r λ k=>
 ∃ s,(Aw j ⟨k.block,k.off + 1,none⟩ [.bool s])/\
 Calls prog 167 #[.bool (!s)] j λ n f=>
 ((n=.returned (.tuple #[]))/\
 ∃ p,(Aw f ⟨c,0,none⟩ [.pointer p])/\
 Zc p λ v=>
 ∃ d:Sl,(Aw f (Addr.add v 0) [d.v])/\
 New (.cells #[.slice none 0 0] 42 (0,0)) (λ i A=>
 ∃ t:World,(St 42 ⟨i,0,none⟩ (d.v) A t)/\
 ZaK prog cl y [.pointer ((some ⟨i,0,none⟩))] t λ o g=>
 ((o=.returned (.tuple #[]))/\
 ∃ q,(Aw g ⟨c,0,none⟩ [.pointer q])/\
 ∃ e:Sl,(Aw g ⟨i,0,none⟩ [e.v])/\
 Zc q λ x=>
 ∃ u:World,(St 42 (Addr.add x 0) (e.v) g u)/\
 Zu prog 219 [.pointer ((some ⟨c,0,none⟩))] .returning (λ C=>K (.tuple #[]) C) u)\/
 (∃ m:List PanicEntry,(o=.panicked m)/\Zu prog 219 [.pointer ((some ⟨c,0,none⟩))] (.panicking m) (λ D=>K (.tuple #[]) D) g)) f)\/
 (∃ l:List PanicEntry,(n=.panicked l)/\Zu prog 219 [.pointer ((some ⟨c,0,none⟩))] (.panicking l) (λ E=>K (.tuple #[]) E) f)) w
theorem Zxl (b:Option Addr) (a:Value) (K:Value->World->Prop) (w:World) (h:B164 b a K w):Zm prog 164 #[.pointer b,a] w K:=cqd (sk:=.leaf) func164 (by kernel_rfl) (by kernel_rfl) (by kernel_rfl) h
def B213 (t:Option Addr) (s:Option Addr) (d:Option Addr) (c:List PanicEntry->World->Prop) (K:Value->World->Prop) (w:World):Prop:=
 Calls prog 166 #[.pointer t] w λ i b=>
 (∃ a m,(i=.returned (.tuple #[.int .u64 a,.bool m]))/\
 Br (!m)
 (Zc s λ r=>
 ∃ l,(Aw b r [.int .u64 l])/\
 Calls prog 167 #[.bool (decide (a<=l))] b λ j n=>
 ((j=.returned (.tuple #[]))/\
 ∃ o:World,((Instr.storeAt 134 (.pointer d) (.int .u64 a)).run prog n=.ok () o)/\
 K (.tuple #[]) o)\/
 (∃ f:List PanicEntry,(j=.panicked f)/\c f n))
 (Calls prog 167 #[.bool false] b λ k p=>
 ((k=.returned (.tuple #[]))/\
 ∃ q:World,((Instr.storeAt 134 (.pointer d) (.int .u64 a)).run prog p=.ok () q)/\
 K (.tuple #[]) q)\/
 (∃ g:List PanicEntry,(k=.panicked g)/\c g p)))\/
 (∃ e:List PanicEntry,(i=.panicked e)/\c e b)
theorem ZwM (d:Option Addr) (b:Option Addr) (c:Option Addr) (a:List PanicEntry->World->Prop) (K:Value->World->Prop) (w:World) (h:B213 d b c a K w):ZaX prog 213 #[.pointer d,.pointer b,.pointer c] w a K:=cqx (sk:=.leaf) func213 (by kernel_rfl) (by kernel_rfl) (by kernel_rfl) h
def B166 (J:Option Addr) (c:List PanicEntry->World->Prop) (K:Value->World->Prop) (w:World):Prop:=
 Calls prog 168 #[.pointer J,.int .i64 1] w λ A j=>
 (∃ l:Sl,(A=.returned (l.v))/\
 Rng 0 l.len (Zc l.a λ U=>
 ∃ e,(Aw j (Addr.add U 0) [.int .u8 e])/\
 ∃ (k:World->Prop),(Br (decide (e<32))
 (Br (decide (IntKind.i64.wrap (Zfo BinOp.andNot IntKind.u8 e 16)<=8))
 (Br (decide (IntKind.i64.wrap (Zfo BinOp.andNot IntKind.u8 e 16)>0))
 (Calls prog 167 #[.bool true] j λ C L=>
 ((C=.returned (.tuple #[]))/\
 k  L)\/
 (∃ s:List PanicEntry,(C=.panicked s)/\c s L))
 (Calls prog 167 #[.bool (!decide (e >= 16))] j λ D M=>
 ((D=.returned (.tuple #[]))/\
 k  M)\/
 (∃ t:List PanicEntry,(D=.panicked t)/\c t M)))
 (Calls prog 167 #[.bool false] j λ E N=>
 ((E=.returned (.tuple #[]))/\
 k  N)\/
 (∃ u:List PanicEntry,(E=.panicked u)/\c u N)))
 (Calls prog 167 #[.bool false] j λ F O=>
 ((F=.returned (.tuple #[]))/\
 k  O)\/
 (∃ v:List PanicEntry,(F=.panicked v)/\c v O)))/\
 ∀ (X:Env)  (Q:World),k  Q->
 Calls prog 168 #[.pointer J,.int .i64 (IntKind.i64.wrap (Zfo BinOp.andNot IntKind.u8 e 16))] Q λ G T=>
 (∃ g:Sl,(G=.returned (g.v))/\
 ∃ (m:Int->Int->World->Prop) (n:Int->Int->World->Nat),(m 0 0 T)/\∀ (Y:Env) (d:Int) (b:Int) (f:World),m d b f->
 Br (decide (b<(↑g.len:Int)))
 (Rng b g.len (Zc g.a λ V=>
 ∃ i,(Aw f (Addr.add V b.toNat) [.int .u8 i])/\
 Br (decide (b>0))
 (Calls prog 167 #[.bool true] f λ H q=>
 ((H=.returned (.tuple #[]))/\
 (m (Zfo BinOp.or IntKind.u64 (Zuh IntKind.u64 d 8) (IntKind.u64.wrap i)) (IntKind.i64.wrap (b + 1)) q)/\n (Zfo BinOp.or IntKind.u64 (Zuh IntKind.u64 d 8) (IntKind.u64.wrap i)) (IntKind.i64.wrap (b + 1)) q<n d b f)\/
 (∃ y:List PanicEntry,(H=.panicked y)/\c y q))
 (Calls prog 167 #[.bool (decide (i>0))] f λ I p=>
 ((I=.returned (.tuple #[]))/\
 (m (Zfo BinOp.or IntKind.u64 (Zuh IntKind.u64 d 8) (IntKind.u64.wrap i)) (IntKind.i64.wrap (b + 1)) p)/\n (Zfo BinOp.or IntKind.u64 (Zuh IntKind.u64 d 8) (IntKind.u64.wrap i)) (IntKind.i64.wrap (b + 1)) p<n d b f)\/
 (∃ z:List PanicEntry,(I=.panicked z)/\c z p))))
 (K (.tuple #[.int .u64 d,.bool (decide (e >= 16))]) f))\/
 (∃ x:List PanicEntry,(G=.panicked x)/\c x T)))\/
 (∃ r:List PanicEntry,(A=.panicked r)/\c r j)
def ZAj:Sk:=(.seq .leaf (.seq .leaf (.seq .leaf (.seq .leaf (.cut [] [] [19,20,21,22,23,24,25,26,27,28,29,30,31,32,33] .leaf (.seq .leaf (.seq (.seq .leaf (.block (.loop [7,38] [(.int .u64),(.int .i64)] [7,8,9,38,39,40,41,42,43,44,45,46,47,48,49,50,51,52,53,54,55] .leaf))) .leaf)))))))
theorem Zxj (b:Option Addr) (a:List PanicEntry->World->Prop) (K:Value->World->Prop) (w:World) (h:B166 b a K w):ZaX prog 166 #[.pointer b] w a K:=cqx (sk:=ZAj) func166 (by kernel_rfl) (by kernel_rfl) (by kernel_rfl) h
def B167 (b:Bool) (a:List PanicEntry->World->Prop) (K:Value->World->Prop) (w:World):Prop:=
 Br (!b)
 (a [⟨.iface 246 (.agg #[]),false,false⟩] w)
 (K (.tuple #[]) w)
theorem Zxi (b:Bool) (a:List PanicEntry->World->Prop) (K:Value->World->Prop) (w:World) (h:B167 b a K w):ZaX prog 167 #[.bool b] w a K:=cqx (sk:=.leaf) func167 (by kernel_rfl) (by kernel_rfl) (by kernel_rfl) h
def B219 (i:Option Addr) (f:Value) (K:World->Prop) (w:World):Prop:=
 ∃ c:Bool,(∀ a,(λ a=>a=w) a->((do eqGuard BinOp.neq 20 (Operand.tmp 3) (Operand.const Value.nilIface) f .nilIface;binOp BinOp.neq 20 f .nilIface:Sem Value)).run prog a=.ok (.bool c) a)/\
 Br c
 (Zc i λ g=>
 ∃ d,(Aw w g [.pointer d])/\
 Zc d λ b=>
 ∃ e:World,(St 4 ⟨b.block,b.off + 1,none⟩ (.bool true) w e)/\
 K e)
 (K w)
theorem Zt2 (b:Option Addr) (a:Value) (K:World->Prop) (w:World) (h:B219 b a K w):CallsD prog 219 #[.pointer b] (.panicking [⟨a,false,false⟩]) w λ c d e=>(∃ f,c=.returned f)/\d=.panicking [⟨a,true,false⟩]/\K e:=
 Zg2 (sk:=.leaf) Zka mixed func219 (by kernel_rfl) (Nat.le_of_ble_eq_true (by kernel_rfl)) (cast (by kernel_rfl) h)
theorem Zt1 (a:Option Addr) (K:World->Prop) (w:World) (h:B219 a .nilIface K w):CallsD prog 219 #[.pointer a] .returning w λ b c d=>(∃ e,b=.returned e)/\c=.returning/\K d:=
 ZfA (sk:=.leaf) Zka mixed func219 (by kernel_rfl) (Nat.le_of_ble_eq_true (by kernel_rfl)) (cast (by kernel_rfl) h)
def B168 (f:Option Addr) (b:Int) (m:List PanicEntry->World->Prop) (K:Value->World->Prop) (w:World):Prop:=
 Zc f λ q=>
 ∃ g:Sl,(Aw w q [g.v])/\
 Calls prog 167 #[.bool (decide (b<=(↑g.len:Int)))] w λ k i=>
 ((k=.returned (.tuple #[]))/\
 Zc f λ n=>
 ∃ d:Sl,(Aw i n [d.v])/\
 ((0:Int)<=b)/\
 ((b:Int)<=(↑d.cap:Int))/\
 Zc f λ o=>
 ∃ c:Sl,(Aw i o [c.v])/\
 ((0:Int)<=b)/\
 ((b:Int)<=(↑c.len:Int))/\
 Zc f λ p=>
 ∃ l:World,(St 42 (p) (.slice (Zb1 c.a b.toNat c.cap 1) (c.len - b.toNat) (c.cap - b.toNat)) i l)/\
 K (.slice d.a b.toNat d.cap) l)\/
 (∃ j:List PanicEntry,(k=.panicked j)/\m j i)
theorem Zxh (b:Option Addr) (c:Int) (a:List PanicEntry->World->Prop) (K:Value->World->Prop) (w:World) (h:B168 b c a K w):ZaX prog 168 #[.pointer b,.int .i64 c] w a K:=cqx (sk:=.leaf) func168 (by kernel_rfl) (by kernel_rfl) (by kernel_rfl) h
def B193 (j:Int) (K:Value->World->Prop) (w:World):Prop:=
 ∃ (c:Int->Int->World->Prop),(Br (decide (j >= 4294967296))
 (c (Zf8 IntKind.u64 j 32) 32 w)
 (c j 0 w))/\
 ∀ (m:Env) (b:Int) (e:Int) (g:World),c b e g->
 ∃ (d:Int->Int->World->Prop),(Br (decide (b >= 65536))
 (d (Zf8 IntKind.u64 b 16) (IntKind.i64.wrap (e + 16)) g)
 (d b e g))/\
 ∀ (n:Env) (a:Int) (f:Int) (i:World),d a f i->
 Br (decide (a >= 256))
 (∃ k:UInt8,((0:Int)<=IntKind.u8.wrap (Zf8 IntKind.u64 a 8))/\
 ((ByteArray.mk (([0,1,2,2,3,3,3,3,4,4,4,4,4,4,4,4,5,5,5,5,5,5,5,5,5,5,5,5,5,5,5,5,6,6,6,6,6,6,6,6,6,6,6,6,6,6,6,6,6,6,6,6,6,6,6,6,6,6,6,6,6,6,6,6].append [7,7,7,7,7,7,7,7,7,7,7,7,7,7,7,7,7,7,7,7,7,7,7,7,7,7,7,7,7,7,7,7,7,7,7,7,7,7,7,7,7,7,7,7,7,7,7,7,7,7,7,7,7,7,7,7,7,7,7,7,7,7,7,7]).append ([8,8,8,8,8,8,8,8,8,8,8,8,8,8,8,8,8,8,8,8,8,8,8,8,8,8,8,8,8,8,8,8,8,8,8,8,8,8,8,8,8,8,8,8,8,8,8,8,8,8,8,8,8,8,8,8,8,8,8,8,8,8,8,8].append [8,8,8,8,8,8,8,8,8,8,8,8,8,8,8,8,8,8,8,8,8,8,8,8,8,8,8,8,8,8,8,8,8,8,8,8,8,8,8,8,8,8,8,8,8,8,8,8,8,8,8,8,8,8,8,8,8,8,8,8,8,8,8,8])).toArray)[(IntKind.u8.wrap (Zf8 IntKind.u64 a 8)).toNat]? =some k)/\
 K (.int .i64 (IntKind.i64.wrap (IntKind.i64.wrap (f + 8) + IntKind.i64.wrap (↑k.toNat:Int)))) i)
 (∃ l:UInt8,((0:Int)<=IntKind.u8.wrap a)/\
 ((ByteArray.mk (([0,1,2,2,3,3,3,3,4,4,4,4,4,4,4,4,5,5,5,5,5,5,5,5,5,5,5,5,5,5,5,5,6,6,6,6,6,6,6,6,6,6,6,6,6,6,6,6,6,6,6,6,6,6,6,6,6,6,6,6,6,6,6,6].append [7,7,7,7,7,7,7,7,7,7,7,7,7,7,7,7,7,7,7,7,7,7,7,7,7,7,7,7,7,7,7,7,7,7,7,7,7,7,7,7,7,7,7,7,7,7,7,7,7,7,7,7,7,7,7,7,7,7,7,7,7,7,7,7]).append ([8,8,8,8,8,8,8,8,8,8,8,8,8,8,8,8,8,8,8,8,8,8,8,8,8,8,8,8,8,8,8,8,8,8,8,8,8,8,8,8,8,8,8,8,8,8,8,8,8,8,8,8,8,8,8,8,8,8,8,8,8,8,8,8].append [8,8,8,8,8,8,8,8,8,8,8,8,8,8,8,8,8,8,8,8,8,8,8,8,8,8,8,8,8,8,8,8,8,8,8,8,8,8,8,8,8,8,8,8,8,8,8,8,8,8,8,8,8,8,8,8,8,8,8,8,8,8,8,8])).toArray)[(IntKind.u8.wrap a).toNat]? =some l)/\
 K (.int .i64 (IntKind.i64.wrap (f + IntKind.i64.wrap (↑l.toNat:Int)))) i)
def ZAd:Sk:=(.seq .leaf (.cut [0,2] [(.int .u64),(.int .i64)] [0,2,3,4,5,6] .leaf (.cut [0,2] [(.int .u64),(.int .i64)] [0,2,7,8,9,10,11,12] .leaf .leaf)))
theorem ZwU (a:Int) (K:Value->World->Prop) (w:World) (h:B193 a K w):Zm prog 193 #[.int .u64 a] w K:=cq (sk:=ZAd) func193 (by kernel_rfl) (by kernel_rfl) (by kernel_rfl) h
def B124 (d:Sl) (K:Value->World->Prop) (w:World):Prop:=
 Calls prog 120 #[.int .u64 (IntKind.u64.wrap (↑d.len:Int))] w λ f g=>
 ∃ b:Sl,(f=.returned (.slice b.a b.len b.cap))/\
 ∃ e:World,∃ c:Sl,((Builtin.append_ #[42,42] 42 #[.slice b.a b.len b.cap,.slice d.a d.len d.cap]).run prog g=.ok (.slice c.a c.len c.cap) e)/\
 K (.slice c.a c.len c.cap) e
theorem ZxJ (b:Sl) (K:Value->World->Prop) (w:World) (h:B124 b K w):Zm prog 124 #[.slice b.a b.len b.cap] w K:=cq (sk:=.leaf) func124 (by kernel_rfl) (by kernel_rfl) (by kernel_rfl) h
def B102 (i:Option Addr) (g:Int) (K:Value->World->Prop) (w:World):Prop:=
 New (.cells #[.int .i64 g] 3 (0,0)) (λ e k=>
 New (.cells #[.slice none 0 0] 42 (0,0)) (λ c l=>
 Calls prog 164 #[.pointer i,.func (.func 165) #[] #[.pointer ((some ⟨e,0,none⟩)),.pointer ((some ⟨c,0,none⟩))]] l λ f d=>
 (f=.returned (.tuple #[]))/\
 ∃ b:Sl,(Aw d ⟨c,0,none⟩ [b.v])/\
 K (b.v) d) k) w
theorem Zx1 (b:Option Addr) (a:Int) (K:Value->World->Prop) (w:World) (h:B102 b a K w):Zm prog 102 #[.pointer b,.int .i64 a] w K:=cq (sk:=.leaf) func102 (by kernel_rfl) (by kernel_rfl) (by kernel_rfl) h
def B165 (e:Option Addr) (r:Option Addr) (p:Option Addr) (b:List PanicEntry->World->Prop) (K:Value->World->Prop) (w:World):Prop:=
 Calls prog 166 #[.pointer e] w λ H c=>
 (∃ d ab,(H=.returned (.tuple #[.int .u64 d,.bool ab]))/\
 Br (!ab)
 (Zc r λ au=>
 ∃ Z,(Aw c au [.int .i64 Z])/\
 Br (decide (Z >= 0))
 (Zc r λ av=>
 ∃ aa,(Aw c av [.int .i64 aa])/\
 Br (decide (d<=IntKind.u64.wrap aa))
 (Zc e λ aw=>
 ∃ q:Sl,(Aw c aw [q.v])/\
 Calls prog 167 #[.bool (decide (d<=IntKind.u64.wrap (↑q.len:Int)))] c λ I ak=>
 ((I=.returned (.tuple #[]))/\
 Calls prog 168 #[.pointer e,.int .i64 (IntKind.i64.wrap d)] ak λ N al=>
 (∃ f:Sl,(N=.returned (f.v))/\
 Calls prog 146 #[f.v] al λ O am=>
 (∃ k:Sl,(O=.returned (k.v))/\
 ∃ an:World,((Instr.storeAt 42 (.pointer p) (k.v)).run prog am=.ok () an)/\
 K (.tuple #[]) an)\/
 (∃ z:List PanicEntry,(O=.panicked z)/\b z am))\/
 (∃ y:List PanicEntry,(N=.panicked y)/\b y al))\/
 (∃ t:List PanicEntry,(I=.panicked t)/\b t ak))
 (Calls prog 167 #[.bool false] c λ Q ao=>
 ((Q=.returned (.tuple #[]))/\
 Calls prog 168 #[.pointer e,.int .i64 (IntKind.i64.wrap d)] ao λ T ap=>
 (∃ g:Sl,(T=.returned (g.v))/\
 Calls prog 146 #[g.v] ap λ U aq=>
 (∃ l:Sl,(U=.returned (l.v))/\
 ∃ ar:World,((Instr.storeAt 42 (.pointer p) (l.v)).run prog aq=.ok () ar)/\
 K (.tuple #[]) ar)\/
 (∃ D:List PanicEntry,(U=.panicked D)/\b D aq))\/
 (∃ C:List PanicEntry,(T=.panicked C)/\b C ap))\/
 (∃ A:List PanicEntry,(Q=.panicked A)/\b A ao)))
 (Calls prog 167 #[.bool false] c λ V ac=>
 ((V=.returned (.tuple #[]))/\
 Calls prog 168 #[.pointer e,.int .i64 (IntKind.i64.wrap d)] ac λ X ad=>
 (∃ i:Sl,(X=.returned (i.v))/\
 Calls prog 146 #[i.v] ad λ Y ae=>
 (∃ m:Sl,(Y=.returned (m.v))/\
 ∃ af:World,((Instr.storeAt 42 (.pointer p) (m.v)).run prog ae=.ok () af)/\
 K (.tuple #[]) af)\/
 (∃ G:List PanicEntry,(Y=.panicked G)/\b G ae))\/
 (∃ F:List PanicEntry,(X=.panicked F)/\b F ad))\/
 (∃ E:List PanicEntry,(V=.panicked E)/\b E ac)))
 (Calls prog 167 #[.bool false] c λ J ag=>
 ((J=.returned (.tuple #[]))/\
 Calls prog 168 #[.pointer e,.int .i64 (IntKind.i64.wrap d)] ag λ L ah=>
 (∃ j:Sl,(L=.returned (j.v))/\
 Calls prog 146 #[j.v] ah λ M ai=>
 (∃ n:Sl,(M=.returned (n.v))/\
 ∃ aj:World,((Instr.storeAt 42 (.pointer p) (n.v)).run prog ai=.ok () aj)/\
 K (.tuple #[]) aj)\/
 (∃ x:List PanicEntry,(M=.panicked x)/\b x ai))\/
 (∃ v:List PanicEntry,(L=.panicked v)/\b v ah))\/
 (∃ u:List PanicEntry,(J=.panicked u)/\b u ag)))\/
 (∃ s:List PanicEntry,(H=.panicked s)/\b s c)
theorem Zxk (d:Option Addr) (b:Option Addr) (c:Option Addr) (a:List PanicEntry->World->Prop) (K:Value->World->Prop) (w:World) (h:B165 d b c a K w):ZaX prog 165 #[.pointer d,.pointer b,.pointer c] w a K:=cqx (sk:=.leaf) func165 (by kernel_rfl) (by kernel_rfl) (by kernel_rfl) h
end
end Go.Proofs.YtfgbbckfikiomaaGreatDoor
namespace Go.VC
abbrev ZU:=Nat->Option Obj
def ZU.none:ZU:=λ _=>Option.none
def ZU.one (b:Nat) (o:Obj):ZU:=λ i=>if i=b then some o else Option.none
def ZU.add (R h:ZU):ZU:=λ i=>match R i with|some o=>some o| .none=>h i
def ZU.set (R:ZU) (b:Nat) (o:Obj):ZU:=λ i=>if i=b then some o else R i
def ZU.dis (R h:ZU):Prop:=∀ i,h i≠.none->R i=.none
abbrev HP:=ZU->Prop
structure Cx where
 m:ZU
 os:Os
 tape:Nat->Question->Nat
 output:Array (Nat × ByteArray)
def Cx.add (R:Cx) (h:ZU):Cx:={ R with m:=R.m.add h }
def Cx.set (R:Cx) (b:Nat) (o:Obj):Cx:={ R with m:=R.m.set b o }
def Cx.dis (R:Cx) (h:ZU):Prop:=R.m.dis h
def Sat:Cx->List HP->World->Prop
 |R,[],w=>(∀ b o,R.m b=some o->w.heap[b]? =some o)/\w.os=R.os/\w.tape=R.tape/\w.output=R.output
 |R,H::Hs,w=>∃ h,H h/\R.dis h/\Sat (R.add h) Hs w
def pts (b:Nat) (o:Obj):HP:=λ h=>h=ZU.one b o
def pur (p:Prop):HP:=λ h=>p/\h=ZU.none
def exs {α:Type} (f:α->HP):HP:=λ h=>∃ x,f x h
def Zgu:List HP->HP
 |[]=>λ h=>h=ZU.none
 |H::Hs=>λ h=>∃ h1 h2,H h1/\Zgu Hs h2/\h1.dis h2/\h=h1.add h2
theorem ZU.add_none (R:ZU):R.add ZU.none=R:=by
 funext i;unfold ZU.add ZU.none;cases R i<;>rfl
theorem ZU.add_assoc (R a b:ZU):(R.add a).add b=R.add (a.add b):=by
 funext i;simp only [ZU.add];cases R i<;>simp
theorem ZU.add_comm {a b:ZU} (h:a.dis b):a.add b=b.add a:=by
 funext i
 simp only [ZU.add];cases hb:b i with
 |none=>cases a i<;>rfl
 |some o=>rw [h i (by rw [hb];simp)]
theorem ZU.dis_symm {a b:ZU} (h:a.dis b):b.dis a:=λ i hi=>by
 cases hb:b i with
 |none=>rfl
 |some o=>exact absurd (h i (by rw [hb];simp)) hi
theorem ZU.dis_add {R a b:ZU} (h1:R.dis a) (h2:(R.add a).dis b):R.dis (a.add b):=λ i hi=>by
 cases ha:a i with
 |some o=>exact h1 i (by rw [ha];simp)
 |none=>
  have hb:b i≠.none:=by simpa [ZU.add,ha] using hi
  have:=h2 i hb;simp only [ZU.add] at this;cases hr:R i with
  |none=>rfl
  |some o=>rw [hr] at this;cases this
theorem ZU.dis_of_add {R a b:ZU} (h2:(R.add a).dis b):R.dis b/\a.dis b:=by
 refine ⟨λ i hi=>?_,λ i hi=>?_⟩
 ·have:=h2 i hi;simp only [ZU.add] at this;cases hr:R i with
  |none=>rfl
  |some o=>rw [hr] at this;cases this
 ·have:=h2 i hi;simp only [ZU.add] at this;cases hr:R i with
  |none=>rw [hr] at this;exact this
  |some o=>rw [hr] at this;cases this
theorem ZU.add_dis {R a b:ZU} (h1:R.dis b) (h2:a.dis b):(R.add a).dis b:=λ i hi=>by
 simp only [ZU.add,h1 i hi,h2 i hi]
theorem Cx.add_none (R:Cx):R.add ZU.none=R:=by unfold Cx.add;rw [ZU.add_none]
theorem Cx.add_assoc (R:Cx) (a b:ZU):(R.add a).add b=R.add (a.add b):=by unfold Cx.add;simp only [ZU.add_assoc]
theorem Cx.dis_add {R:Cx} {a b:ZU} (h1:R.dis a) (h2:(R.add a).dis b):R.dis (a.add b):=ZU.dis_add h1 h2
theorem Cx.dis_of_add {R:Cx} {a b:ZU} (h2:(R.add a).dis b):R.dis b/\a.dis b:=ZU.dis_of_add h2
theorem Cx.add_dis {R:Cx} {a b:ZU} (h1:R.dis b) (h2:a.dis b):(R.add a).dis b:=ZU.add_dis h1 h2
theorem Cx.m_add (R:Cx) (h:ZU):(R.add h).m=R.m.add h:=rfl
def Cx.like (R R':Cx):Prop:=R'.os=R.os/\R'.tape=R.tape/\R'.output=R.output
theorem Sat.of_ro:∀ {Hs:List HP} {R:Cx} {w:World} {b:Nat} {o:Obj},Sat R Hs w->R.m b=some o->w.heap[b]? =some o
 |[],_,_,_,_,h,hb=>h.1 _ _ hb
 |_::_,_,_,b,o,h,hb=>by
  obtain ⟨h',_,_,hs⟩:=h;exact hs.of_ro (by simp only [Cx.m_add,ZU.add,hb])
theorem Sat.streams:∀ {Hs:List HP} {R:Cx} {w:World},Sat R Hs w->w.os=R.os/\w.tape=R.tape/\w.output=R.output
 |[],_,_,h=>h.2
 |_::_,_,_,h=>let ⟨_,_,_,hs⟩:=h;hs.streams
structure Alk (w w':World):Prop where
 heap:w'.heap=w.heap
 os:w'.os=w.os
 tape:w'.tape=w.tape
 output:w'.output=w.output
theorem Sat.alk:∀ {Hs:List HP} {R:Cx} {w w':World},Sat R Hs w->Alk w w'->Sat R Hs w'
 |[],_,_,_,h,e=>⟨λ b o hb=>by rw [e.heap];exact h.1 b o hb,e.os.trans h.2.1,e.tape.trans h.2.2.1,e.output.trans h.2.2.2⟩
 |_::_,_,_,_,h,e=>let ⟨h',hH,hd,hs⟩:=h;⟨h',hH,hd,hs.alk e⟩
theorem Sat.drew {R:Cx} {Hs:List HP} {w:World} (h:Sat R Hs w):Sat R Hs w.drew:=h.alk ⟨rfl,rfl,rfl,rfl⟩
theorem Sat.swap {R:Cx} {A B:HP} {Hs:List HP} {w:World} (h:Sat R (A::B::Hs) w):Sat R (B::A::Hs) w:=by
 obtain ⟨a,hA,hda,b,hB,hdb,hs⟩:=h;obtain ⟨h1,h2⟩:=Cx.dis_of_add hdb;refine ⟨b,hB,h1,a,hA,Cx.add_dis hda (ZU.dis_symm h2),?_⟩;rw [Cx.add_assoc,<-ZU.add_comm h2,<-Cx.add_assoc];exact hs
theorem Sat.cons {R:Cx} {A:HP} {Hs Hs':List HP} {w w':World} (k:∀ R',Sat R' Hs w->Sat R' Hs' w') (h:Sat R (A::Hs) w):Sat R (A::Hs') w':=
 let ⟨a,hA,hd,hs⟩:=h;⟨a,hA,hd,k _ hs⟩
theorem Sat.perm {Hs Hs':List HP} (p:Hs.Perm Hs'):∀ {R:Cx} {w:World},Sat R Hs w->Sat R Hs' w:=by
 induction p with
 |nil=>exact λ h=>h
 |cons x _ ih=>exact λ h=>h.cons λ _=>ih
 |swap x y l=>exact λ h=>h.swap
 |trans _ _ ih1 ih2=>exact λ h=>ih2 (ih1 h)
theorem Sat.ro_of:∀ {Hs:List HP} {R R':Cx} {w:World},(∀ b o,R'.m b=some o->R.m b=some o)->R.like R'->Sat R Hs w->Sat R' Hs w
 |[],_,_,_,k,e,h=>⟨λ b o hb=>h.1 b o (k b o hb),h.2.1.trans e.1.symm,h.2.2.1.trans e.2.1.symm,h.2.2.2.trans e.2.2.symm⟩
 |_::_,R,R',_,k,e,h=>by
  obtain ⟨a,hA,hd,hs⟩:=h;refine ⟨a,hA,λ i hi=>?_,Sat.ro_of (R:=R.add a) (R':=R'.add a) (λ b o hb=>?_) e hs⟩
  ·cases hr:R'.m i with
   |none=>rfl
   |some o=>have:=hd i hi;rw [k i o hr] at this;cases this
  ·simp only [Cx.m_add,ZU.add] at hb ⊢
   cases hr':R'.m b with
   |some o'=>rw [hr'] at hb;rw [k b o' hr'];exact hb
   |none=>
    rw [hr'] at hb;have hn:=hd b (by simp only at hb;rw [hb];simp);rw [hn];exact hb
theorem Sat.drop {R:Cx} {A:HP} {Hs:List HP} {w:World} (h:Sat R (A::Hs) w):Sat R Hs w:=by
 obtain ⟨a,_,hd,hs⟩:=h;exact Sat.ro_of (R:=R.add a) (R':=R) (λ b o hb=>by simp only [Cx.m_add,ZU.add,hb]) ⟨rfl,rfl,rfl⟩ hs
theorem Sat.lend {R:Cx} {b:Nat} {o:Obj} {Hs:List HP} {w:World}:Sat R (pts b o::Hs) w↔R.m b=.none/\Sat (R.add (ZU.one b o)) Hs w:=by
 constructor
 ·rintro ⟨a,rfl,hd,hs⟩
  exact ⟨hd b (by simp [ZU.one]),hs⟩
 ·rintro ⟨hb,hs⟩
  refine ⟨_,rfl,λ i hi=>?_,hs⟩;by_cases h:i=b
  ·subst h;exact hb
  ·simp [ZU.one,h] at hi
theorem Cx.lent {R:Cx} {b:Nat} {o:Obj} (h:R.m b=.none):(R.add (ZU.one b o)).m b=some o:=by
 simp [Cx.m_add,ZU.add,h,ZU.one]
theorem Cx.kept {R:Cx} {h:ZU} {b:Nat} {o:Obj} (hb:R.m b=some o):(R.add h).m b=some o:=by
 simp only [Cx.m_add,ZU.add,hb]
theorem Sat.at {R:Cx} {b:Nat} {o:Obj} {Hs:List HP} {w:World} (h:Sat R (pts b o::Hs) w):w.heap[b]? =some o:=
 let ⟨hb,hs⟩:=Sat.lend.1 h
 hs.of_ro (Cx.lent hb)
theorem Sat.pur {R:Cx} {p:Prop} {Hs:List HP} {w:World}:Sat R (VC.pur p::Hs) w↔p/\Sat R Hs w:=by
 constructor
 ·rintro ⟨a,⟨hp,rfl⟩,_,hs⟩
  rw [Cx.add_none] at hs;exact ⟨hp,hs⟩
 ·rintro ⟨hp,hs⟩
  exact ⟨ZU.none,⟨hp,rfl⟩,λ i hi=>absurd rfl hi,by rw [Cx.add_none];exact hs⟩
theorem Sat.exs {α:Type} {R:Cx} {f:α->HP} {Hs:List HP} {w:World}:Sat R (VC.exs f::Hs) w↔∃ x,Sat R (f x::Hs) w:=by
 constructor
 ·rintro ⟨a,⟨x,hx⟩,hd,hs⟩;exact ⟨x,a,hx,hd,hs⟩
 ·rintro ⟨x,a,hx,hd,hs⟩;exact ⟨a,⟨x,hx⟩,hd,hs⟩
theorem Sat.star {w:World}:∀ {l:List HP} {R:Cx} {Hs:List HP},Sat R (Zgu l::Hs) w↔Sat R (l++Hs) w
 |[],R,Hs=>by
  constructor
  ·rintro ⟨a,rfl,_,hs⟩;rw [Cx.add_none] at hs;exact hs
  ·intro hs;exact ⟨ZU.none,rfl,λ i hi=>absurd rfl hi,by rw [Cx.add_none];exact hs⟩
 |A::l,R,Hs=>by
  constructor
  ·rintro ⟨x,⟨h1,h2,hA,hl,hd,rfl⟩,hdx,hs⟩
   have d1:R.dis h1:=λ i hi=>hdx i (by simp only [ZU.add];cases h:h1 i<;>simp_all);refine ⟨h1,hA,d1,Sat.star.1 ⟨h2,hl,Cx.add_dis (λ i hi=>hdx i ?_) hd,by rw [Cx.add_assoc];exact hs⟩⟩;simp only [ZU.add];cases h:h1 i<;>simp_all
  ·rintro ⟨h1,hA,d1,hs⟩
   obtain ⟨h2,hl,d2,hs⟩:=Sat.star.2 hs;refine ⟨h1.add h2,⟨h1,h2,hA,hl,(Cx.dis_of_add d2).2,rfl⟩,Cx.dis_add d1 d2,by rw [<-Cx.add_assoc];exact hs⟩
def _root_.Go.World.setBlock (w:World) (b:Nat) (o:Obj):World:={ w with heap:=w.heap.setIfInBounds b o }
theorem ZU.set_add {R h:ZU} {b:Nat} {o o':Obj} (hb:R b=some o):(R.set b o').add h=(R.add h).set b o':=by
 funext i
 simp only [ZU.add,ZU.set];by_cases hi:i=b
 ·subst hi;simp
 ·simp [hi]
theorem Cx.set_add {R:Cx} {h:ZU} {b:Nat} {o o':Obj} (hb:R.m b=some o):(R.set b o').add h=(R.add h).set b o':=by
 unfold Cx.set Cx.add;simp only [ZU.set_add hb]
theorem Sat.upd:∀ {Hs:List HP} {R:Cx} {w:World} {b:Nat} {o:Obj} (o':Obj),Sat R Hs w->R.m b=some o->Sat (R.set b o') Hs (w.setBlock b o')
 |[],R,w,b,o,o',h,hb=>by
  refine ⟨λ i x hx=>?_,h.2⟩;have hlt:b<w.heap.size:=(Array.getElem?_eq_some_iff.1 (h.1 b o hb)).1;simp only [Cx.set,ZU.set] at hx;simp only [World.setBlock];by_cases hi:i=b
  ·subst hi
   simp only [if_true,Option.some.injEq] at hx;subst hx;simp [hlt]
  ·rw [if_neg hi] at hx
   rw [Array.getElem?_setIfInBounds_ne (Ne.symm hi)];exact h.1 i x hx
 |H::Hs,R,w,b,o,o',h,hb=>by
  obtain ⟨a,hA,hd,hs⟩:=h;have:=Sat.upd o' hs (b:=b) (o:=o) (Cx.kept hb);refine ⟨a,hA,λ i hi=>?_,?_⟩
  ·have hr:=hd i hi
   simp only [Cx.set,ZU.set];by_cases h:i=b
   ·subst h;rw [hb] at hr;cases hr
   ·rw [if_neg h];exact hr
  ·rw [Cx.set_add hb];exact this
theorem Sat.setPts {R:Cx} {b:Nat} {o:Obj} {Hs:List HP} {w:World} (o':Obj) (h:Sat R (pts b o::Hs) w):Sat R (pts b o'::Hs) (w.setBlock b o'):=by
 obtain ⟨hb,hs⟩:=Sat.lend.1 h;refine Sat.lend.2 ⟨hb,?_⟩;have h1:=Sat.upd o' hs (b:=b) (o:=o) (Cx.lent hb);have e:(R.add (ZU.one b o)).set b o'=R.add (ZU.one b o'):=by
  unfold Cx.set Cx.add
  congr 1
  funext i
  simp only [ZU.add,ZU.set,ZU.one];by_cases hi:i=b
  ·subst hi;simp [hb]
  ·simp [hi]
 rw [e] at h1;exact h1
theorem Sat.ro_lt {R:Cx} {Hs:List HP} {w:World} (h:Sat R Hs w) {b:Nat} (hb:w.heap.size<=b):R.m b=.none:=by
 cases hr:R.m b with
 |none=>rfl
 |some o=>
  have:=h.of_ro hr;rw [Array.getElem?_eq_none hb] at this;cases this
theorem Sat.grow:∀ {Hs:List HP} {R:Cx} {w:World} (o:Obj),Sat R Hs w->Sat (R.add (ZU.one w.heap.size o)) Hs (w.alloc o)
 |[],R,w,o,h=>by
  refine ⟨λ b x hx=>?_,h.2⟩;simp only [Cx.m_add,ZU.add,ZU.one] at hx;cases hr:R.m b with
  |some y=>
   rw [hr] at hx;have:=h.1 b y hr;have hlt:b<w.heap.size:=(Array.getElem?_eq_some_iff.1 this).1;simp only at hx;simp only [World.alloc];rw [Array.getElem?_push_lt hlt,<-Array.getElem?_eq_getElem,this,hx]
  |none=>
   rw [hr] at hx;simp only at hx;split at hx
   ·rename_i hb;subst hb;cases hx;show (w.heap.push o)[w.heap.size]? =_;simp
   ·cases hx
 |H::Hs,R,w,o,h=>by
  have hR:R.m w.heap.size=.none:=Sat.ro_lt h (Nat.le_refl _);obtain ⟨a,hA,hd,hs⟩:=h;have hadd:(R.add a).m w.heap.size=.none:=Sat.ro_lt hs (Nat.le_refl _);have ha:a w.heap.size=.none:=by simpa [Cx.m_add,ZU.add,hR] using hadd
  have:=Sat.grow o hs;have hdis:(ZU.one w.heap.size o).dis a:=by
   intro i hi;simp only [ZU.one];split
   ·rename_i h;subst h;exact absurd ha hi
   ·rfl
  refine ⟨a,hA,Cx.add_dis hd hdis,?_⟩;rw [Cx.add_assoc,ZU.add_comm hdis,<-Cx.add_assoc];exact this
theorem Sat.alloc {R:Cx} {Hs:List HP} {w:World} (o:Obj) (h:Sat R Hs w):Sat R (pts w.heap.size o::Hs) (w.alloc o):=
 Sat.lend.2 ⟨Sat.ro_lt h (Nat.le_refl _),Sat.grow o h⟩
def Cx.of (w:World):Cx:={ m:=λ b=>w.heap[b]?,os:=w.os,tape:=w.tape,output:=w.output }
theorem Sat.start (w:World):Sat (Cx.of w) [] w:=⟨λ _ _ h=>h,rfl,rfl,rfl⟩
class ZdO (b:Nat) (Hs:List HP) (o:outParam Obj) (Rest:outParam (List HP)):Prop where
 perm:Hs.Perm (pts b o::Rest)
instance (priority:=2000) ZdO.head {b:Nat} {o:Obj} {Hs:List HP}:ZdO b (pts b o::Hs) o Hs:=⟨List.Perm.refl _⟩
instance ZdO.tail {b:Nat} {H:HP} {Hs:List HP} {o:Obj} {Rest:List HP} [t:ZdO b Hs o Rest]:ZdO b (H::Hs) o (H::Rest):=
 ⟨(t.perm.cons H).trans (.swap _ _ _)⟩
class Zkk (A:HP) (Hs:List HP) (Rest:outParam (List HP)):Prop where
 perm:Hs.Perm (A::Rest)
instance (priority:=2000) Zkk.head {A:HP} {Hs:List HP}:Zkk A (A::Hs) Hs:=⟨List.Perm.refl _⟩
instance Zkk.tail {A H:HP} {Hs:List HP} {Rest:List HP} [t:Zkk A Hs Rest]:Zkk A (H::Hs) (H::Rest):=
 ⟨(t.perm.cons H).trans (.swap _ _ _)⟩
theorem Sat.takeP {R:Cx} {Hs Rest:List HP} {w:World} {b:Nat} {o:Obj} (h:Sat R Hs w) (t:ZdO b Hs o Rest):Sat R (pts b o::Rest) w:=h.perm t.perm
theorem Sat.take {R:Cx} {Hs Rest:List HP} {w:World} (A:HP) [t:Zkk A Hs Rest] (h:Sat R Hs w):Sat R (A::Rest) w:=h.perm t.perm
theorem Sat.look {R:Cx} {Hs Rest:List HP} {w:World} {o:Obj} (b:Nat) [t:ZdO b Hs o Rest] (h:Sat R Hs w):w.heap[b]? =some o:=(h.takeP t).at
theorem eqS {R:Cx} {Hs:List HP} {w:World} (h:Sat R Hs w):∀ w',(λ w'=>w'=w) w'->Sat R Hs w':=λ _ e=>by rw [show _=w from e];exact h
theorem Zao {R:Cx} {Hs:List HP}:∀ w',Sat R Hs w'->Sat R Hs w':=λ _ h=>h
def Pre:List Value->List Value->Prop
 |[],_=>True
 |v::vs,x::l=>v=x/\Pre vs l
 |_::_,[]=>False
theorem Pre.get:∀ {vs l:List Value},Pre vs l->∀ (i:Nat) (v:Value),vs[i]? =some v->l[i]? =some v
 |[],_,_,i,v,h=>by simp at h
 |x::vs,y::l,hp,0,v,h=>by simp only [List.getElem?_cons_zero] at h ⊢;rw [<-hp.1];exact h
 |x::vs,y::l,hp,i + 1,v,h=>by simp only [List.getElem?_cons_succ] at h ⊢;exact hp.2.get i v h
 |_::_,[],hp,_,_,_=>hp.elim
theorem Zau {w:World} {b:Nat} {l:List Value} {T:TypeId} {fr:Nat × Nat} (h:w.heap[b]? =some (.cells l.toArray T fr)) (i:Nat):w.cell? ⟨b,i,none⟩=l[i]?:=by
 simp [World.cell?,h]
theorem Zy (b o i:Nat):Addr.add ⟨b,o,none⟩ i=⟨b,o + i,none⟩:=by
 unfold Addr.add;split
 ·rename_i h;subst h;rfl
 ·rfl
theorem At.mk {S:World->Prop} {b off:Nat} {vs l:List Value} {T:TypeId} {fr:Nat × Nat} (h:∀ w,S w->w.heap[b]? =some (.cells l.toArray T fr)) (hp:Pre vs (l.drop off)):At S ⟨b,off,none⟩ vs:=by
 intro w hw i v hv;have:=hp.get i v hv;rw [List.getElem?_drop] at this;rw [Zy,Zau (h w hw),this]
theorem At.own {S:World->Prop} {R:Cx} {Hs Rest:List HP} {b off:Nat} {vs l:List Value} {T:TypeId} {fr:Nat × Nat} (hS:∀ w,S w->Sat R Hs w)
  [t:ZdO b Hs (.cells l.toArray T fr) Rest] (hp:Pre vs (l.drop off)):At S ⟨b,off,none⟩ vs:=At.mk (λ w hw=>(hS w hw).look b) hp
theorem oA {R : Cx} {Hs Rest : List HP} {w : World} {b off : Nat} {vs l : List Value} {T : TypeId} {fr : Nat × Nat} (h : Sat R Hs w) [t : ZdO b Hs (.cells l.toArray T fr) Rest] (hp : Pre vs (l.drop off) := by exact ⟨rfl, trivial⟩) : At (λ w' => w' = w) ⟨b, off, none⟩ vs := At.own (eqS h) hp
theorem oS {R : Cx} {Hs Rest : List HP} {b off : Nat} {vs l : List Value} {T : TypeId} {fr : Nat × Nat} [t : ZdO b Hs (.cells l.toArray T fr) Rest] (hp : Pre vs (l.drop off) := by exact ⟨rfl, trivial⟩) : At (Sat R Hs) ⟨b, off, none⟩ vs := At.own Zao hp
theorem Zb {R:Cx} {Hs:List HP} {w:World} {o:Obj} {K:Nat->World->Prop} (hw:Sat R Hs w) (k:∀ b w',Sat R (pts b o::Hs) w'->K b w'):New o K w:=
 k _ _ (Sat.alloc o hw)
theorem Zo {R:Cx} {Hs:List HP} {w:World} {F:(World->Prop)->World->Prop} (hw:Sat R Hs w) (k:∀ w',Sat R Hs w'->F (Sat R Hs) w'):Drw w F:=
 ⟨Sat R Hs,Sat R Hs,hw.drew,λ w' h=>⟨h,k w' h⟩⟩
theorem ZE {R:Cx} {Hs:List HP} {w:World} {F:(World->Prop)->World->Prop} (S:World->Prop) (hw:Sat R Hs w) (hS:∀ w',Sat R Hs w'->S w') (k:∀ w',Sat R Hs w'->F S w'):Drw w F:=
 ⟨Sat R Hs,S,hw.drew,λ w' h=>⟨hS w' h,k w' h⟩⟩
def tru:HP:=λ _=>True
theorem Sat.tru {R:Cx} {Hs:List HP} {w:World} (h:Sat R Hs w):Sat R (VC.tru::Hs) w:=⟨ZU.none,trivial,λ _ hi=>absurd rfl hi,by rw [Cx.add_none];exact h⟩
theorem Sat.absorb {R:Cx} {A:HP} {Hs:List HP} {w:World} (h:Sat R (A::VC.tru::Hs) w):Sat R (VC.tru::Hs) w:=by
 obtain ⟨a,_,hda,b,_,hdb,hs⟩:=h;refine ⟨a.add b,trivial,Cx.dis_add hda hdb,?_⟩;rw [<-Cx.add_assoc];exact hs
theorem ZaN {R:Cx} {Hs:List HP} {w:World} {F:(World->Prop)->World->Prop} (hw:Sat R Hs w) (k:∀ w',Sat R (VC.tru::Hs) w'->F (Sat R (VC.tru::Hs)) w'):Drw w F:=
 ⟨_,_,hw.tru.drew,λ w' h=>⟨h,k w' h⟩⟩
theorem Zh {x:Int} (h0: -9223372036854775808<=x) (h1:x<9223372036854775808):IntKind.i64.wrap x=x:=by
 have:IntKind.i64.wrap x=(x + 9223372036854775808) % 18446744073709551616 - 9223372036854775808:=by
  rw [IntKind.wrap_i64]
 rw [this];omega
structure Ro (R:Cx) (s:Sl) (xs:List Value):Prop where
 len:s.len=xs.length
 bound:xs.length<=9223372036854775807
 mem:xs≠[]->∃ b off l T fr,s.a=some ⟨b,off,none⟩/\R.m b=some (.cells l T fr)/\∀ (i:Nat) v,xs[i]? =some v->l[off + i]? =some v
theorem Ro.add {R:Cx} {h:ZU} {s:Sl} {xs:List Value} (hr:Ro R s xs):Ro (R.add h) s xs:=
 ⟨hr.len,hr.bound,λ hx=>let ⟨b,off,l,T,fr,ha,hb,hl⟩:=hr.mem hx;⟨b,off,l,T,fr,ha,Cx.kept hb,hl⟩⟩
theorem Ro.addr {R:Cx} {s:Sl} {xs:List Value} (hr:Ro R s xs) {k:Nat} (hk:k<xs.length):∃ a,s.a=some a/\
  ∀ {S:World->Prop} {Hs:List HP},(∀ w,S w->Sat R Hs w)->At S (a.add k) [xs[k]]:=by
 obtain ⟨b,off,l,T,fr,ha,hb,hl⟩:=hr.mem (by intro h;rw [h] at hk;simp at hk);refine ⟨_,ha,λ hS w hw i v hv=>?_⟩;have hi:i=0:=by
  cases i with
  |zero=>rfl
  |succ i=>simp at hv
 subst hi;simp only [List.getElem?_cons_zero,Option.some.injEq] at hv;subst hv;rw [Zy,Zy];have:=(hS w hw).of_ro hb;simp only [World.cell?,this,Option.isSome_none,Bool.false_eq_true,if_false];exact hl k _ (List.getElem?_eq_getElem hk)
abbrev RoI (R:Cx) (s:Sl) (xs:List Int):Prop:=Ro R s (xs.map (Value.int .i64))
theorem RoI.len {R:Cx} {s:Sl} {xs:List Int} (h:RoI R s xs):s.len=xs.length:=by rw [Ro.len h];simp
theorem RoI.bound {R:Cx} {s:Sl} {xs:List Int} (h:RoI R s xs):xs.length<=9223372036854775807:=by have:=Ro.bound h;simpa using this
theorem RoI.addr {R:Cx} {s:Sl} {xs:List Int} (hr:RoI R s xs) {k:Nat} (hk:k<xs.length):∃ a,s.a=some a/\
  ∀ {S:World->Prop} {Hs:List HP},(∀ w,S w->Sat R Hs w)->At S (a.add k) [.int .i64 xs[k]]:=by
 obtain ⟨a,ha,h⟩:=Ro.addr hr (k:=k) (by simpa using hk);refine ⟨a,ha,λ hS=>?_⟩;have:=h hS;simpa using this
theorem RoI.idx {S:World->Prop} {R:Cx} {Hs:List HP} {s:Sl} {xs:List Int} (hr:RoI R s xs) (hS:∀ w,S w->Sat R Hs w) {k:Nat} (hk:k<xs.length) {F:Int->Prop} (h:F xs[k]):
  Rng (k:Int) s.len (Zc s.a λ a=>∃ t:Int,(At S (a.add (k:Int).toNat) [.int .i64 t])/\F t):=by
 obtain ⟨a,ha,hat⟩:=RoI.addr hr hk;have hl:=RoI.len hr;exact Rng.mk (by omega) (by omega) (Zc.mk ha ⟨xs[k],hat hS,h⟩)
def Zei:List Value->Nat->List Value->List Value
 |l,_,[]=>l
 |l,o,v::vs=>Zei (l.set o v) (o + 1) vs
theorem Zbv:∀ (vs l:List Value) (o:Nat),(Zei l o vs).length=l.length
 |[],_,_=>rfl
 |_::vs,l,o=>by rw [Zei,Zbv vs,List.length_set]
theorem ZeB:∀ (vs l:List Value) (o:Nat),o + vs.length<=l.length->Zei l o vs=l.take o++vs++l.drop (o + vs.length)
 |[],l,o,_=>by simp [Zei]
 |v::vs,l,o,h=>by
  simp only [List.length_cons] at h;rw [Zei,ZeB vs (l.set o v) (o + 1) (by simp;omega)];have e1:(l.set o v).take (o + 1)=l.take o++[v]:=by
   rw [List.take_succ_eq_append_getElem (by simp;omega)];simp [List.take_set_of_le]
  have e2:(l.set o v).drop (o + 1 + vs.length)=l.drop (o + (vs.length + 1)):=by
   rw [List.drop_set_of_lt (by omega)];congr 1;omega
  rw [e1,e2];simp
theorem Zja {w:World} {b o:Nat} {l:List Value} {T:TypeId} {fr:Nat × Nat} (h:w.heap[b]? =some (.cells l.toArray T fr)) (v:Value):
  w.setCell ⟨b,o,none⟩ v=w.setBlock b (.cells (l.set o v).toArray T fr):=by
 unfold World.setCell World.setBlock
 congr 1
 apply Array.ext_getElem?;intro i;rw [Array.getElem?_modify,Array.getElem?_setIfInBounds];by_cases hi:b=i
 ·subst hi
  obtain ⟨hlt,hg⟩:=Array.getElem?_eq_some_iff.1 h;simp [hlt,hg]
 ·simp [hi]
theorem ZaG {R:Cx} {Hs:List HP} {b:Nat} {T:TypeId} {fr:Nat × Nat}:∀ (vs l:List Value) (o:Nat) (w:World),Sat R (pts b (.cells l.toArray T fr)::Hs) w->
  Sat R (pts b (.cells (Zei l o vs).toArray T fr)::Hs) (w.setCells b o vs)
 |[],_,_,_,h=>h
 |v::vs,l,o,w,h=>by
  rw [World.setCells,Zja h.at,Zei];exact ZaG vs (l.set o v) (o + 1) _ (h.setPts _)
def Znn (n:Nat) (fr:Nat × Nat):Prop:=fr.2=0\/n<=fr.1
theorem Znn.le {n m:Nat} {fr:Nat × Nat} (h:Znn n fr) (hm:m<=n):Znn m fr:=h.imp id λ h=>Nat.le_trans hm h
theorem Zct {w:World} {b:Nat} {l:Array Value} {T:TypeId} {fr:Nat × Nat} {n:Nat} (h:w.heap[b]? =some (.cells l T fr)) (hf:Znn n fr) {i:Nat} (hi:i<n):w.frozen? ⟨b,i,none⟩=false:=by
 obtain ⟨lo,hi'⟩:=fr;simp only [World.frozen?,h];rcases hf with hf|hf<;>simp only at hf<;>simp<;>omega
def ZaS (vs:List Value):Bool:=vs.all (·.oneCell')
theorem Za {P:Program} {R:Cx} {Hs Rest:List HP} {w:World} {b o:Nat} {l:List Value} {T t:TypeId} {fr:Nat × Nat} {v:Value} {K:World->Prop}
  (hw:Sat R Hs w) [tk:ZdO b Hs (.cells l.toArray T fr) Rest] (hsz:(P.info? t).map (·.size)=some v.cells.toList.length) (h1:ZaS v.cells.toList=true) (hb:o + v.cells.toList.length<=l.length)
  (k:∀ w',Sat R (pts b (.cells (Zei l o v.cells.toList).toArray T fr)::Rest) w'->K w') (hfr:Znn l.length fr:=by first|assumption|exact Or.inl rfl):
  ∃ w',(Instr.storeAt t (.pointer (some ⟨b,o,none⟩)) v).run P w=.ok () w'/\K w':=by
 have hp:=hw.takeP tk;have hat:=hp.at;obtain ⟨i,hi,hsz⟩:=Option.map_eq_some_iff.1 hsz;refine ⟨w.setCells b o v.cells.toList,?_,k _ (ZaG _ _ _ _ hp)⟩;have hst:=run_storeCells_cells (P:=P) b o v.cells.toList 0 w (λ j hj=>by
   simp only [Nat.add_zero];rw [Zau hat];simp;omega) (λ j hj=>Zct hat hfr (by omega)) (λ u hu=>List.all_eq_true.1 h1 u hu)
 simp only [Nat.add_zero] at hst;simp [Instr.storeAt,Instr.sureAddr,storeVar,sizeOf,typeInfo,hi,hsz,hst]
def Own (s:Sl) (T:TypeId) (xs:List Value):HP:=λ h=>
 (s=⟨none,0,0⟩/\xs=[]/\h=ZU.none)\/∃ b rest fr,s=⟨some ⟨b,0,none⟩,xs.length,(xs++rest).length⟩/\Znn (xs++rest).length fr/\h=ZU.one b (.cells (xs++rest).toArray T fr)
theorem Own.nil {R:Cx} {Hs:List HP} {w:World} {T:TypeId} (h:Sat R Hs w):Sat R (Own ⟨none,0,0⟩ T []::Hs) w:=
 ⟨ZU.none,.inl ⟨rfl,rfl,rfl⟩,λ i hi=>absurd rfl hi,by rw [Cx.add_none];exact h⟩
theorem Own.of_pts {R:Cx} {Hs:List HP} {w:World} {T:TypeId} {b:Nat} {fr:Nat × Nat} {xs rest:List Value} (h:Sat R (pts b (.cells (xs++rest).toArray T fr)::Hs) w) (hf:Znn (xs++rest).length fr:=by first|assumption|exact Or.inl rfl):
  Sat R (Own ⟨some ⟨b,0,none⟩,xs.length,(xs++rest).length⟩ T xs::Hs) w:=
 let ⟨a,ha,hd,hs⟩:=h;⟨a,.inr ⟨b,rest,fr,rfl,hf,ha⟩,hd,hs⟩
theorem Own.cases {R:Cx} {Hs:List HP} {w:World} {T:TypeId} {s:Sl} {xs:List Value} (h:Sat R (Own s T xs::Hs) w):
  (s=⟨none,0,0⟩/\xs=[]/\Sat R Hs w)\/∃ b rest fr,s=⟨some ⟨b,0,none⟩,xs.length,(xs++rest).length⟩/\Znn (xs++rest).length fr/\Sat R (pts b (.cells (xs++rest).toArray T fr)::Hs) w:=by
 obtain ⟨a,ha,hd,hs⟩:=h;rcases ha with ⟨h1,h2,rfl⟩|⟨b,rest,fr,h1,hf,rfl⟩
 ·rw [Cx.add_none] at hs;exact .inl ⟨h1,h2,hs⟩
 ·exact .inr ⟨b,rest,fr,h1,hf,_,rfl,hd,hs⟩
theorem Own.len {R:Cx} {Hs:List HP} {w:World} {T:TypeId} {s:Sl} {xs:List Value} (h:Sat R (Own s T xs::Hs) w):s.len=xs.length:=by
 rcases Own.cases h with ⟨rfl,rfl,_⟩|⟨b,rest,fr,rfl,_,_⟩<;>rfl
theorem Own.lend {R:Cx} {Hs:List HP} {w:World} {T:TypeId} {s:Sl} {xs:List Value} (h:Sat R (Own s T xs::Hs) w) (hb:xs.length<=9223372036854775807):
  ∃ R':Cx,Ro R' s xs/\(∀ s' xs',Ro R s' xs'->Ro R' s' xs')/\Sat R' Hs w/\∀ {Hs' w'},Sat R' Hs' w'->Sat R (Own s T xs::Hs') w':=by
 rcases Own.cases h with ⟨rfl,rfl,h2⟩|⟨b,rest,fr,rfl,hf,h2⟩
 ·exact ⟨R,⟨rfl,by simp,λ h=>absurd rfl h⟩,λ _ _ h=>h,h2,λ h=>Own.nil h⟩
 ·obtain ⟨hn,h3⟩:=Sat.lend.1 h2
  refine ⟨_,⟨rfl,hb,λ _=>⟨b,0,_,T,fr,rfl,Cx.lent hn,λ i v hv=>?_⟩⟩,λ _ _ h=>h.add,h3,λ h=>Own.of_pts (Sat.lend.2 ⟨hn,h⟩)⟩;obtain ⟨hi,rfl⟩:=List.getElem?_eq_some_iff.1 hv;simp [List.getElem?_append_left hi]
def elB (P:Program) (T:TypeId) (bytes:Nat):Bool:=
 match P.info? T with
 |some i=>match i.zero with
  |some z=>i.size==1 && i.bytes==bytes && z.cells.size==1
  |none=>false
 |none=>false
theorem ZmF {P:Program} {T:TypeId} {bytes:Nat} (h:elB P T bytes=true):∃ i z,P.info? T=some i/\i.zero=some z/\i.size=1/\i.bytes=bytes/\z.cells.size=1:=by
 unfold elB at h;split at h
 ·rename_i i hi
  split at h
  ·rename_i z hz
   simp only [Bool.and_eq_true,beq_iff_eq] at h;exact ⟨i,z,hi,hz,h.1.1,h.1.2,h.2⟩
  ·cases h
 ·cases h
structure El (P:Program) (t1 t2 T:TypeId) (bytes:Nat):Prop where
 ht:P.underlying t1=some (.slice T)
 hk:∃ e',P.underlying t2=some (.slice e')
 hi:elB P T bytes=true
theorem Zcw {P:Program} {t1 t2 ty T:TypeId} {bytes:Nat} (E:El P t1 t2 T bytes) {R:Cx} {Hs:List HP} {w:World} {s:Sl} {xs ys:List Value} {src:Value} {n:Nat} {K:Sl->World->Prop}
  (hw:Sat R (Own s T xs::Hs) w) (hs:Src P 1 t2 src n ys w) (h1:ZaS xs=true) (hb:2 * (xs.length + n) * bytes<=281474976710656) (hb':xs.length + n<=9223372036854775807)
  (k:∀ s' w',Sat R (Own s' T (xs++ys)::Hs) w'->K s' w'):
  ∃ w',∃ t:Sl,(Builtin.append_ #[t1,t2] ty #[.slice s.a s.len s.cap,src]).run P w=.ok (.slice t.a t.len t.cap) w'/\K t w':=by
 obtain ⟨i,z,hi,hz,hsize,hbytes,hzc⟩:=ZmF E.hi;have hyn:ys.length=n:=by have:=hs.newsLen;simpa using this
 have hs':Src P i.size t2 src n ys w:=by rw [hsize];exact hs
 have hlen:=Own.len hw;have fit:∀ cap,cap<xs.length + n->Builtin.nextslicecap (xs.length + n) cap * i.bytes<=281474976710656:=λ cap hc=>by
  have h2:Builtin.nextslicecap (xs.length + n) cap<=2 * (xs.length + n):=by
   unfold Builtin.nextslicecap;split
   ·omega
   ·split
    ·omega
    ·have:=nextslicecap_le_wide hc
     unfold Builtin.nextslicecap at this;rw [if_neg (by assumption),if_neg (by assumption)] at this;omega
  rw [hbytes];exact Nat.le_trans (Nat.mul_le_mul_right _ h2) hb
 -- a new row
 have grow:∀ (base:Option Addr) (cap:Nat) (olds:List Value),olds=xs->cap<xs.length + n->(Builtin.firstCells i.size xs.length (.slice base xs.length cap)).run P w.drew=.ok olds.toArray w.drew->Sat R Hs w->
   ∃ w',∃ t:Sl,(Builtin.append_ #[t1,t2] ty #[.slice base xs.length cap,src]).run P w=.ok (.slice t.a t.len t.cap) w'/\K t w':=λ base cap olds ho hc hold hw=>by
  have hr:=run_append_grow_src w t1 t2 ty T i z E.ht hi hz base xs.length cap olds hold src n ys hs' hc (by omega) (fit cap hc);refine ⟨_,⟨some ⟨w.heap.size,0,none⟩,xs.length + n,grownCap w (xs.length + n) cap T⟩,hr,k _ _ ?_⟩;have hz0:(Builtin.zeroCells z.cells (grownCap w (xs.length + n) cap T - (xs.length + n))).size=grownCap w (xs.length + n) cap T - (xs.length + n):=by
   simp [Builtin.zeroCells,hzc]
  have hg:=grownCap_ge w (xs.length + n) cap T;have ho':Obj.cells ((olds++ys).toArray++Builtin.zeroCells z.cells (grownCap w (xs.length + n) cap T - (xs.length + n))) T=.cells ((xs++ys)++(Builtin.zeroCells z.cells (grownCap w (xs.length + n) cap T - (xs.length + n))).toList).toArray T (0,0):=by
   rw [ho]
   congr 1
   apply Array.ext';simp
  have:=Sat.alloc (Obj.cells ((olds++ys).toArray++Builtin.zeroCells z.cells (grownCap w (xs.length + n) cap T - (xs.length + n))) T) (Sat.drew hw);rw [ho'] at this ⊢;have h3:=Own.of_pts this;have e:(⟨some ⟨w.drew.heap.size,0,none⟩,(xs++ys).length,(xs++ys++(Builtin.zeroCells z.cells (grownCap w (xs.length + n) cap T - (xs.length + n))).toList).length⟩:Sl)=⟨some ⟨w.heap.size,0,none⟩,xs.length + n,grownCap w (xs.length + n) cap T⟩:=by
   simp only [List.length_append,Array.length_toList,hz0,World.size_drew,hyn]
   congr 1
   omega
  rw [e] at h3;exact h3
 rcases Own.cases hw with ⟨rfl,rfl,hz2⟩|⟨b,rest,fr,rfl,hfr,hp⟩
 ·by_cases hn0:n=0
  ·subst hn0
   have hy:ys=[]:=List.length_eq_zero_iff.1 hyn;subst hy;obtain ⟨e',he'⟩:=E.hk;refine ⟨w,⟨none,0,0⟩,?_,k _ _ (by simpa using Own.nil hz2)⟩;have hcz:=hs'.cells;simp [Builtin.append_,run_underlying E.ht,run_underlying he',sizeOf,typeInfo,hi,hs'.len,hcz]
  ·exact grow none 0 [] rfl (by simp;omega) (run_firstCells_none w.drew i.size 0 0 0) hz2
 ·by_cases hroom:xs.length + n<=(xs++rest).length
  ·have hat:=hp.at
   have hr:=run_append_room_src w t1 t2 ty T i E.ht hi b 0 xs.length (xs++rest).length src n ys hs' hroom
    (λ j hj=>by rw [Zau hat,hsize];simp at hroom ⊢;omega) (λ j hj=>Zct hat hfr (by rw [hsize,Nat.mul_one];simp only [List.length_append] at hroom ⊢;omega))
   refine ⟨_,⟨some ⟨b,0,none⟩,xs.length + n,(xs++rest).length⟩,hr,k _ _ ?_⟩;have h2:=ZaG ys (xs++rest) xs.length w hp;have e1:Zei (xs++rest) xs.length ys=(xs++ys)++rest.drop n:=by
    rw [ZeB _ _ _ (by rw [hyn];exact hroom),List.take_left',List.drop_append]
    ·simp [hyn]
    ·rfl
   rw [e1] at h2;rw [hsize,Nat.zero_add,Nat.mul_one];have h3:=Own.of_pts h2 (hfr.le (by simp only [List.length_append,List.length_drop] at hroom ⊢;omega));have e:(⟨some ⟨b,0,none⟩,(xs++ys).length,(xs++ys++rest.drop n).length⟩:Sl)=⟨some ⟨b,0,none⟩,xs.length + n,(xs++rest).length⟩:=by
    simp only [List.length_append,List.length_drop,hyn] at hroom ⊢
    congr 1
    omega
   rw [e] at h3;exact h3
  ·have hat:=hp.at
   refine grow (some ⟨b,0,none⟩) (xs++rest).length xs rfl (by omega) ?_ hp.drop;refine run_firstCells_some w.drew i.size xs.length ⟨b,0,none⟩ xs.length _ xs (by rw [hsize];simp) ?_;intro j u hj;rw [World.cell?_drew,Zy,Zau hat,Nat.zero_add];obtain ⟨hlt,rfl⟩:=List.getElem?_eq_some_iff.1 hj;simp [List.getElem?_append_left hlt]
theorem Zsv {P:Program} {t2:TypeId} (hk:∃ e',P.underlying t2=some (.slice e')) {R:Cx} {Hs Rest:List HP} {w:World} {b:Nat} {x:Value} {T:TypeId} {fr:Nat × Nat} (c:Nat)
  (hw:Sat R Hs w) [t:ZdO b Hs (.cells [x].toArray T fr) Rest] (h1:x.oneCell'=true):Src P 1 t2 (.slice (some ⟨b,0,none⟩) 1 c) 1 [x] w:=by
 obtain ⟨e',he'⟩:=hk;refine Go.Src.ofSlice w he' _ 1 c [x] rfl ?_ ?_
 ·intro j u hj
  have:=hw.look b;rw [Zy,Zau this];simpa using hj
 ·intro u hu;simp at hu;subst hu;exact h1
theorem Zha {P:Program} {t1 t2 ty T T':TypeId} {bytes:Nat} (E:El P t1 t2 T bytes) {R:Cx} {Hs:List HP} {w:World} {s:Sl} {xs:List Value} {x:Value} {K:Sl->World->Prop}
  (hw:Sat R (Own s T xs::Hs) w) (h1:ZaS xs=true) (hx:x.oneCell'=true) (hb:2 * (xs.length + 1) * bytes<=281474976710656) (hb':xs.length + 1<=9223372036854775807)
  (k:∀ s' w',Sat R (Own s' T (xs++[x])::Hs) w'->K s' w'):
  New (.cells #[x] T' (0,0)) (λ b w=>∃ w',∃ t:Sl,(Builtin.append_ #[t1,t2] ty #[.slice s.a s.len s.cap,.slice (some ⟨b,0,none⟩) 1 1]).run P w=.ok (.slice t.a t.len t.cap) w'/\K t w') w:=by
 refine Zb hw λ b w hw=>?_;have hw:Sat R (pts b (.cells [x].toArray T' (0,0))::Own s T xs::Hs) w:=hw;exact Zcw E hw.swap (Zsv E.hk 1 hw hx) h1 hb hb' λ s' w' h=>k s' w' h.swap.drop
theorem Zbn {P:Program} {t1 t2 ty T T':TypeId} (E:El P t1 t2 T 8) {R:Cx} {Hs:List HP} {w:World} {s:Sl} {xs:List Int} {x:Int} {K:Sl->World->Prop}
  (hw:Sat R (Own s T (xs.map (Value.int .i64))::Hs) w) (hb:xs.length<1000000000000)
  (k:∀ s' w',Sat R (Own s' T ((xs++[x]).map (Value.int .i64))::Hs) w'->K s' w'):
  New (.cells #[.int .i64 x] T' (0,0)) (λ b w=>∃ w',∃ t:Sl,(Builtin.append_ #[t1,t2] ty #[.slice s.a s.len s.cap,.slice (some ⟨b,0,none⟩) 1 1]).run P w=.ok (.slice t.a t.len t.cap) w'/\K t w') w:=
 Zha E hw (by unfold ZaS;simp [Value.oneCell']) rfl (by rw [List.length_map];omega) (by rw [List.length_map];omega) λ s' w' h=>k s' w' (by simpa using h)
theorem Own.lendI {R:Cx} {Hs:List HP} {w:World} {T:TypeId} {s:Sl} {xs:List Int} (h:Sat R (Own s T (xs.map (Value.int .i64))::Hs) w) (hb:xs.length<=9223372036854775807):
  ∃ R':Cx,RoI R' s xs/\(∀ s' xs',Ro R s' xs'->Ro R' s' xs')/\Sat R' Hs w/\∀ {Hs' w'},Sat R' Hs' w'->Sat R (Own s T (xs.map (Value.int .i64))::Hs') w':=
 Own.lend h (by simpa using hb)
section
variable {P:Program} {R:Cx} {Hs Rest:List HP} {w:World} {s:Sl} {T:TypeId}
theorem Own.addr {xs:List Value} (hw:Sat R (Own s T xs::Hs) w) {k:Nat} (hk:k<xs.length):∃ b,s.a=some ⟨b,0,none⟩/\
  ∀ {S:World->Prop} {Hs'},(∀ w,S w->Sat R (Own s T xs::Hs') w)->At S (Addr.add ⟨b,0,none⟩ k) [xs[k]]:=by
 rcases Own.cases hw with ⟨_,rfl,_⟩|⟨b,rest,fr,rfl,_,_⟩
 ·simp at hk
 ·refine ⟨b,rfl,λ hS w hs i v hv=>?_⟩
  have hi:i=0:=by
   cases i with
   |zero=>rfl
   |succ i=>simp at hv
  subst hi;simp only [List.getElem?_cons_zero,Option.some.injEq] at hv;subst hv;rcases Own.cases (hS w hs) with ⟨h0,_,_⟩|⟨b',rest',fr',he,_,h⟩
  ·cases h0
  ·simp only [Sl.mk.injEq,Option.some.injEq,Addr.mk.injEq,and_true] at he
   obtain ⟨rfl,_⟩:=he;rw [Zy,Zy,Zau h.at];simp [List.getElem?_append_left hk]
theorem Own.cap {xs:List Value} (hw:Sat R (Own s T xs::Hs) w):s.len<=s.cap:=by
 rcases Own.cases hw with ⟨rfl,_,_⟩|⟨b,rest,fr,rfl,_,_⟩
 ·exact Nat.le_refl _
 ·simp
theorem Own.idx {kd:IntKind} {xs:List Int} {S:World->Prop} {Hs':List HP} (hw:Sat R (Own s T (xs.map (Value.int kd))::Hs) w) (hS:∀ w,S w->Sat R (Own s T (xs.map (Value.int kd))::Hs') w) {k:Nat} (hk:k<xs.length) {F:Int->Prop} (h:F xs[k]):
  Rng (k:Int) s.len (Zc s.a λ a=>∃ t:Int,(At S (a.add (k:Int).toNat) [.int kd t])/\F t):=by
 obtain ⟨b,ha,hat⟩:=Own.addr hw (k:=k) (by simpa using hk);have hl:=Own.len hw;rw [List.length_map] at hl;refine Rng.mk (by omega) (by omega) (Zc.mk ha ⟨xs[k],?_,h⟩);have:=hat hS;simpa using this
theorem Own.store {t:TypeId} {kd:IntKind} {xs:List Int} (hsz:(P.info? t).map (·.size)=some 1) (hw:Sat R (Own s T (xs.map (Value.int kd))::Hs) w) {k:Nat} (hk:k<xs.length) {x:Int} {K:World->Prop}
  (h:∀ w',Sat R (Own s T ((xs.set k x).map (Value.int kd))::Hs) w'->K w'):
  Rng (k:Int) s.len (Zc s.a λ a=>∃ w',(Instr.storeAt t (.pointer (some (Addr.add a (k:Int).toNat))) (.int kd x)).run P w=.ok () w'/\K w'):=by
 have hl:=Own.len hw;rw [List.length_map] at hl;rcases Own.cases hw with ⟨_,h0,_⟩|⟨b,rest,fr,rfl,hfr,hp⟩
 ·simp at h0;subst h0;simp at hk
 ·refine Rng.mk (by omega) (by simp only at hl ⊢;omega) (Zc.mk rfl ?_)
  rw [Zy];refine Za hp (by rw [hsz];rfl) rfl (by simp [Value.cells];omega) λ w' h2=>h w' ?_;have e:Zei (xs.map (Value.int kd)++rest) (0 + (k:Int).toNat) (Value.int kd x).cells.toList=(xs.set k x).map (Value.int kd)++rest:=by
   simp only [Zei,Value.cells,Nat.zero_add,Int.toNat_natCast];rw [List.set_append_left _ _ (by simpa using hk),List.map_set]
  rw [e] at h2;have h3:=Own.of_pts h2 (hfr.le (by simp));simpa using h3
end
section
class Zbp (α:Type) [BEq α] where
 enc:α->Value
 desc:TypeDesc
 same:∀ a b,Instr.sameNow desc (enc a) (enc b)=some (a==b)
 bits:∀ a,Instr.sameBits 10000 (enc a) (enc a)=true
 eq:∀ a b:α,(a==b)=true->a=b
 check:∀ (P:Program) (em:Bool) (K:TypeId) (a:α) (w:World),P.underlying K=some desc->(Instr.checkKey em 10000 K (enc a)).run P w=.ok () w
instance:Zbp ByteArray where
 enc:=Value.string
 desc:=.string
 same a b:=rfl
 bits a:=by
  have:∀ n,Instr.sameBits n (.string a) (.string a)=(a==a):=λ n=>by cases n<;>rfl
  rw [this];exact (MapKept.bytes_beq a a).2 rfl
 eq a b h:=(MapKept.bytes_beq a b).1 h
 check P em K a w h:=by
  show (Instr.checkKey em (9999 + 1) K (.string a)).run P w=_;unfold Instr.checkKey;simp [run_underlying h]
variable {α:Type} [BEq α] [Zbp α]
abbrev En (α:Type):=α × Value × Nat
def mkE (e:En α):MapEntry:={ key:=Zbp.enc e.1,val:=e.2.1,born:=e.2.2 }
def ZtG (k:α):List (En α)->Option Value
 |[]=>none
 |e::es=>if k==e.1 then some e.2.1 else ZtG k es
def ZsA (k:α) (v:Value):List (En α)->List (En α)
 |[]=>[]
 |e::es=>if k==e.1 then (e.1,v,e.2.2)::es else e::ZsA k v es
def ZnP (k:α):List (En α)->List (En α)
 |[]=>[]
 |e::es=>if k==e.1 then es else e::ZnP k es
def ZmA (k:α) (es:List (En α)):Bool:=(ZtG k es).isSome
def Zum (k:α) (v:Value) (es:List (En α)) (clock:Nat):List (En α):=if ZmA k es then ZsA k v es else es++[(k,v,clock)]
def ZhS (k:α):List (En α)->Nat->Option (Nat × Value)
 |[],_=>none
 |e::es,i=>if k==e.1 then some (i,e.2.1) else ZhS k es (i + 1)
theorem ZiJ (k:α):∀ (es:List (En α)) (i:Nat),Instr.findNow (Zbp.desc α) (Zbp.enc k) (es.map mkE) i=some (ZhS k es i)
 |[],_=>rfl
 |e::es,i=>by
  rw [List.map_cons,Instr.findNow,mkE,Zbp.same,ZhS];cases h:(k==e.1)
  ·simpa using ZiJ k es (i + 1)
  ·rfl
omit [Zbp α] in
theorem ZjL (k:α):∀ (es:List (En α)) (i:Nat),(ZhS k es i).map (·.2)=ZtG k es
 |[],_=>rfl
 |e::es,i=>by
  rw [ZhS,ZtG];cases h:(k==e.1)
  ·exact ZjL k es (i + 1)
  ·rfl
theorem Zex {P:Program} {K:TypeId} (hK:P.underlying K=some (Zbp.desc α)) (k:α) (es:List (En α)) (w:World):
  (Instr.findKey K (Zbp.enc k) (es.map mkE)).run P w=.ok (ZhS k es 0) w:=by
 unfold Instr.findKey;simp [run_underlying hK,ZiJ]
theorem Zgq {P:Program} (k:α) (w:World):(Instr.keyThatStays (Zbp.enc k) (Zbp.enc k)).run P w=.ok (Zbp.enc k) w:=by
 unfold Instr.keyThatStays;rw [if_pos (Zbp.bits k)];rfl
theorem ZoJ {P:Program} {T K E:TypeId} (hT:P.underlying T=some (.map K E)) (hK:P.underlying K=some (Zbp.desc α)) {z:Value} (hz:∀ w,(zeroValue E).run P w=.ok z w)
  {w:World} {m clock:Nat} {es:List (En α)} (hm:w.heap[m]? =some (.map (es.map mkE).toArray clock)) (k:α) (c:Bool):
  (Instr.lookup T (.map (some m)) (Zbp.enc k) c).run P w=.ok (if c then .tuple #[(ZtG k es).getD z,.bool (ZmA k es)] else (ZtG k es).getD z) w:=by
 have hv:=ZjL k es 0;have hck:=Zbp.check P (es.map mkE).toArray.isEmpty K k w hK;have hfk:=Zex hK k es w;unfold Instr.lookup;cases hi:ZhS k es 0 with
 |none=>
  rw [hi] at hv hfk;simp only [Option.map_none] at hv;simp only [Sem.run_bind,run_underlying hT,Result.andThen,MapKept.run_getObj_map hm,Sem.run_pure,hck,hfk,hz,ZmA,<-hv];rfl
 |some p=>
  rw [hi] at hv hfk;simp only [Option.map_some] at hv;simp only [Sem.run_bind,run_underlying hT,Result.andThen,MapKept.run_getObj_map hm,Sem.run_pure,hck,hfk,ZmA,<-hv];rfl
omit [Zbp α] in
theorem Zfb (k:α):∀ (es:List (En α)) (i:Nat),(∀ p,ZhS k es i=some p->i<=p.1)
 |[],i,p,h=>by cases h
 |e::es,i,p,h=>by
  rw [ZhS] at h;cases hk:(k==e.1)
  ·rw [hk] at h;have:=Zfb k es (i + 1) p (by simpa using h);omega
  ·rw [hk] at h;simp at h;subst h;exact Nat.le_refl _
theorem Zlf (k:α) (v:Value):∀ (es:List (En α)) (i:Nat) (p:Nat × Value),ZhS k es i=some p->
  (es.map mkE).modify (p.1 - i) (λ e=>{ e with key:=Zbp.enc k,val:=v })=(ZsA k v es).map mkE
 |[],_,_,h=>by cases h
 |e::es,i,p,h=>by
  have hle:=Zfb k (e::es) i p h;rw [ZhS] at h;cases hk:(k==e.1)
  ·rw [hk] at h
   have h':ZhS k es (i + 1)=some p:=by simpa using h
   have hle2:=Zfb k es (i + 1) p h';obtain ⟨j,hj⟩:∃ j,p.1 - i=j + 1:=⟨p.1 - (i + 1),by omega⟩;have ih:=Zlf k v es (i + 1) p h';rw [show p.1 - (i + 1)=j by omega] at ih;rw [hj,ZsA,hk];simp only [List.map_cons,List.modify_succ_cons,Bool.false_eq_true,if_false,List.cons.injEq,true_and];exact ih
  ·rw [hk] at h
   simp at h;subst h;have:=Zbp.eq _ _ hk;subst this;rw [ZsA,hk];simp [mkE]
theorem ZnK (k:α):∀ (es:List (En α)) (i:Nat) (p:Nat × Value),ZhS k es i=some p->(es.map mkE).eraseIdx (p.1 - i)=(ZnP k es).map mkE
 |[],_,_,h=>by cases h
 |e::es,i,p,h=>by
  rw [ZhS] at h;cases hk:(k==e.1)
  ·rw [hk] at h
   have h':ZhS k es (i + 1)=some p:=by simpa using h
   have hle2:=Zfb k es (i + 1) p h';obtain ⟨j,hj⟩:∃ j,p.1 - i=j + 1:=⟨p.1 - (i + 1),by omega⟩;have ih:=ZnK k es (i + 1) p h';rw [show p.1 - (i + 1)=j by omega] at ih;rw [hj,ZnP,hk];simp only [List.map_cons,List.eraseIdx_cons_succ,Bool.false_eq_true,if_false,List.cons.injEq,true_and];exact ih
  ·rw [hk] at h
   simp at h;subst h;rw [ZnP,hk];simp
omit [Zbp α] in
theorem Zhr (k:α) (es:List (En α)) (i:Nat):ZhS k es i=none↔ZmA k es=false:=by
 unfold ZmA;rw [<-ZjL k es i];cases ZhS k es i<;>simp
omit [Zbp α] in
theorem ZlB (k:α):∀ (es:List (En α)),ZmA k es=false->ZnP k es=es
 |[],_=>rfl
 |e::es,h=>by
  unfold ZmA ZtG at h;cases hk:(k==e.1)
  ·rw [hk] at h
   rw [ZnP,hk];simp only [Bool.false_eq_true,if_false,List.cons.injEq,true_and];exact ZlB k es (by unfold ZmA;simpa using h)
  ·rw [hk] at h;simp at h
theorem Zmx (k:α):∀ (es:List (En α)) (i:Nat) (p:Nat × Value),ZhS k es i=some p->p.1<i + es.length/\∃ e,(es.map mkE)[p.1 - i]? =some e/\e.key=Zbp.enc k
 |[],_,_,h=>by cases h
 |e::es,i,p,h=>by
  rw [ZhS] at h;cases hk:(k==e.1)
  ·rw [hk] at h
   have h':ZhS k es (i + 1)=some p:=by simpa using h
   have hle2:=Zfb k es (i + 1) p h';obtain ⟨h1,e',h2,h3⟩:=Zmx k es (i + 1) p h';refine ⟨by simp only [List.length_cons];omega,e',?_,h3⟩;obtain ⟨j,hj⟩:∃ j,p.1 - i=j + 1:=⟨p.1 - (i + 1),by omega⟩;rw [hj,List.map_cons,List.getElem?_cons_succ,show j=p.1 - (i + 1) by omega];exact h2
  ·rw [hk] at h
   simp at h;subst h;refine ⟨by simp,mkE e,by simp,?_⟩;rw [Zbp.eq _ _ hk];rfl
theorem Zn7 {P:Program} {T K E:TypeId} (hT:P.underlying T=some (.map K E)) (hK:P.underlying K=some (Zbp.desc α))
  {w:World} {m clock:Nat} {es:List (En α)} (hm:w.heap[m]? =some (.map (es.map mkE).toArray clock)) (k:α) (v:Value):
  (Instr.mapUpdate T (.map (some m)) (Zbp.enc k) v).run P w=.ok () (w.setBlock m (.map ((Zum k v es clock).map mkE).toArray (if ZmA k es then clock else clock + 1))):=by
 have hck:=Zbp.check P false K k w hK;have hfk:=Zex hK k es w;unfold Instr.mapUpdate;cases hi:ZhS k es 0 with
 |none=>
  have hn:=(Zhr k es 0).1 hi;rw [hi] at hfk;simp only [Sem.run_bind,run_underlying hT,Result.andThen,MapKept.run_getObj_map hm,hck,hfk,MapKept.run_setObj_map _ hm,Zum,hn,World.setBlock,Bool.false_eq_true,if_false];simp [mkE]
 |some p=>
  have hh:ZmA k es=true:=by
   cases h:ZmA k es
   ·rw [(Zhr k es 0).2 h] at hi;cases hi
   ·rfl
  obtain ⟨_,e,he,hek⟩:=Zmx k es 0 p hi;have hmod:=Zlf k v es 0 p hi;rw [Nat.sub_zero] at he hmod;rw [hi] at hfk;have hkey:(((es.map mkE).toArray[p.1]?).map (·.key)).getD (Zbp.enc k)=Zbp.enc k:=by
   have:(es.map mkE).toArray[p.1]? =some e:=by simpa using he
   rw [this];exact hek
  simp only [Sem.run_bind,run_underlying hT,Result.andThen,MapKept.run_getObj_map hm,hck,hfk,hkey,Zgq,MapKept.run_setObj_map _ hm,Zum,hh,World.setBlock,if_true]
  congr 4
  apply Array.ext';rw [<-hmod];simp
theorem Zo7 {P:Program} {T K E ty t2:TypeId} (hT:P.underlying T=some (.map K E)) (hK:P.underlying K=some (Zbp.desc α))
  {w:World} {m clock:Nat} {es:List (En α)} (hm:w.heap[m]? =some (.map (es.map mkE).toArray clock)) (k:α):
  (Builtin.delete_ #[T,t2] ty #[.map (some m),Zbp.enc k]).run P w=.ok (.tuple #[]) (w.setBlock m (.map ((ZnP k es).map mkE).toArray clock)):=by
 have hck:=Zbp.check P (es.map mkE).toArray.isEmpty K k w hK;have hfk:=Zex hK k es w;have h0:(#[T,t2]:Array TypeId)[0]? =some T:=rfl;have h1:(#[Value.map (some m),Zbp.enc k]:Array Value)[0]? =some (.map (some m)):=rfl;have h2:(#[Value.map (some m),Zbp.enc k]:Array Value)[1]? =some (Zbp.enc k):=rfl;unfold Builtin.delete_;rw [h0,h1,h2];cases hi:ZhS k es 0 with
 |none=>
  have hn:=(Zhr k es 0).1 hi;rw [hi] at hfk;simp only [Sem.run_bind,run_underlying hT,Result.andThen,MapKept.run_getObj_map hm,hck,hfk,MapKept.run_setObj_map _ hm,World.setBlock,ZlB k es hn,Sem.run_pure]
 |some p=>
  have her:=ZnK k es 0 p hi;obtain ⟨hlt,_⟩:=Zmx k es 0 p hi;rw [Nat.sub_zero] at her;rw [hi] at hfk;have e:(es.map mkE).toArray.eraseIdxIfInBounds p.1=((ZnP k es).map mkE).toArray:=by
   apply Array.ext';rw [<-her];simp [Array.eraseIdxIfInBounds,show p.1<es.length by omega]
  simp only [Sem.run_bind,run_underlying hT,Result.andThen,MapKept.run_getObj_map hm,hck,hfk,MapKept.run_setObj_map _ hm,World.setBlock,e,Sem.run_pure]
end
section
variable {α:Type} [BEq α] [Zbp α]
def ZH {β:Type} (k:α):List (α × β)->Option β
 |[]=>none
 |e::es=>if k==e.1 then some e.2 else ZH k es
def ZeO {β:Type} (k:α) (v:β):List (α × β)->List (α × β)
 |[]=>[]
 |e::es=>if k==e.1 then (e.1,v)::es else e::ZeO k v es
def Zfj {β:Type} (k:α):List (α × β)->List (α × β)
 |[]=>[]
 |e::es=>if k==e.1 then es else e::Zfj k es
def ZdZ {β:Type} (k:α) (v:β) (es:List (α × β)):List (α × β):=if (ZH k es).isSome then ZeO k v es else es++[(k,v)]
abbrev Zdr (es:List (En α)):List (α × Value):=es.map λ e=>(e.1,e.2.1)
omit [Zbp α] in
theorem ZfR (k:α):∀ es:List (En α),ZtG k es=ZH k (Zdr es)
 |[]=>rfl
 |e::es=>by rw [ZtG,Zdr,List.map_cons,ZH,ZfR k es]
omit [Zbp α] in
theorem ZiH (k:α) (es:List (En α)):ZmA k es=(ZH k (Zdr es)).isSome:=by unfold ZmA;rw [ZfR]
omit [Zbp α] in
theorem Zib (k:α) (v:Value):∀ es:List (En α),Zdr (ZsA k v es)=ZeO k v (Zdr es)
 |[]=>rfl
 |e::es=>by
  have ih:=Zib k v es;unfold Zdr at *;rw [List.map_cons,ZsA,ZeO];split
  ·simp
  ·simp [ih]
omit [Zbp α] in
theorem ZiS (k:α):∀ es:List (En α),Zdr (ZnP k es)=Zfj k (Zdr es)
 |[]=>rfl
 |e::es=>by
  have ih:=ZiS k es;unfold Zdr at *;rw [List.map_cons,ZnP,Zfj];split
  ·rfl
  ·simp [ih]
omit [Zbp α] in
theorem Zoz (k:α) (v:Value) (es:List (En α)) (c:Nat):Zdr (Zum k v es c)=ZdZ k v (Zdr es):=by
 unfold Zum ZdZ;rw [ZiH];split
 ·exact Zib k v es
 ·simp [Zdr]
def Zdj (l:List (En α)) (c:Nat):Prop:=(∀ e∈l,e.2.2<c)/\(l.map (·.2.2)).Nodup
omit [Zbp α] in
theorem Zev (k:α) (v:Value):∀ l:List (En α),(ZsA k v l).map (·.2.2)=l.map (·.2.2)
 |[]=>rfl
 |e::es=>by
  rw [ZsA];split
  ·rfl
  ·rw [List.map_cons,List.map_cons,Zev k v es]
omit [Zbp α] in
theorem Zj2 (k:α):∀ l:List (En α),(ZnP k l).Sublist l
 |[]=>List.Sublist.refl _
 |e::es=>by
  rw [ZnP];split
  ·exact List.sublist_cons_self _ _
  ·exact (Zj2 k es).cons_cons _
omit [Zbp α] in
theorem Zog {l:List (En α)} {c:Nat} (h:Zdj l c) (k:α) (v:Value):Zdj (Zum k v l c) (if ZmA k l then c else c + 1):=by
 unfold Zum;split
 ·refine ⟨λ e he=>?_,by rw [Zev];exact h.2⟩
  have:e.2.2∈(ZsA k v l).map (·.2.2):=List.mem_map_of_mem he;rw [Zev] at this;obtain ⟨x,hx,hxe⟩:=List.mem_map.1 this;rw [<-hxe];exact h.1 x hx
 ·refine ⟨λ e he=>?_,?_⟩
  ·rcases List.mem_append.1 he with he|he
   ·have:=h.1 e he;omega
   ·simp at he;subst he;simp
  ·rw [List.map_append,List.nodup_append]
   refine ⟨h.2,by simp,λ x hx y hy=>?_⟩;simp at hy;obtain ⟨e,he,rfl⟩:=List.mem_map.1 hx;have:=h.1 e he;omega
omit [Zbp α] in
theorem Zoh {l:List (En α)} {c:Nat} (h:Zdj l c) (k:α):Zdj (ZnP k l) c:=
 ⟨λ e he=>h.1 e ((Zj2 k l).subset he),((Zj2 k l).map _).nodup h.2⟩
def MapAt (m:Nat) (es:List (α × Value)):HP:=λ h=>∃ (l:List (En α)) (c:Nat),Zdr l=es/\Zdj l c/\h=ZU.one m (.map (l.map mkE).toArray c)
theorem MapAt.iff {R:Cx} {Hs:List HP} {w:World} {m:Nat} {es:List (α × Value)}:Sat R (MapAt m es::Hs) w↔∃ l c,Zdr l=es/\Zdj l c/\Sat R (pts m (.map (l.map (mkE (α:=α))).toArray c)::Hs) w:=by
 constructor
 ·rintro ⟨a,⟨l,c,h1,h3,h2⟩,hd,hs⟩;exact ⟨l,c,h1,h3,a,h2,hd,hs⟩
 ·rintro ⟨l,c,h1,h3,a,h2,hd,hs⟩;exact ⟨a,⟨l,c,h1,h3,h2⟩,hd,hs⟩
structure Zye (P:Program) (T:TypeId) (α:Type) [BEq α] [Zbp α] (K E:TypeId) (z:Value):Prop where
 hT:P.underlying T=some (.map K E)
 hK:P.underlying K=some (Zbp.desc α)
 hz:∀ w,(zeroValue E).run P w=.ok z w
variable {P:Program} {R:Cx} {Hs:List HP} {w:World} {m:Nat} {es:List (α × Value)} {T K E:TypeId} {z:Value}
theorem MapAt.look (M:Zye P T α K E z) (hw:Sat R (MapAt m es::Hs) w) (k:α) (c:Bool):
  (Instr.lookup T (.map (some m)) (Zbp.enc k) c).run P w=.ok (if c then .tuple #[(ZH k es).getD z,.bool (ZH k es).isSome] else (ZH k es).getD z) w:=by
 obtain ⟨l,clk,rfl,_,hp⟩:=MapAt.iff.1 hw;rw [ZoJ M.hT M.hK M.hz hp.at k c,ZfR,ZiH]
theorem MapAt.put (M:Zye P T α K E z) (hw:Sat R (MapAt m es::Hs) w) (k:α) (v:Value) {Q:World->Prop} (h:∀ w',Sat R (MapAt m (ZdZ k v es)::Hs) w'->Q w'):
  ∃ w',(Instr.mapUpdate T (.map (some m)) (Zbp.enc k) v).run P w=.ok () w'/\Q w':=by
 obtain ⟨l,clk,rfl,hst,hp⟩:=MapAt.iff.1 hw;refine ⟨_,Zn7 M.hT M.hK hp.at k v,h _ (MapAt.iff.2 ⟨Zum k v l clk,_,Zoz k v l clk,Zog hst k v,hp.setPts _⟩)⟩
theorem MapAt.del {t2 ty:TypeId} (M:Zye P T α K E z) (hw:Sat R (MapAt m es::Hs) w) (k:α) {Q:World->Prop} (h:∀ w',Sat R (MapAt m (Zfj k es)::Hs) w'->Q w'):
  ∃ w',(Builtin.delete_ #[T,t2] ty #[.map (some m),Zbp.enc k]).run P w=.ok (.tuple #[]) w'/\Q w':=by
 obtain ⟨l,clk,rfl,hst,hp⟩:=MapAt.iff.1 hw;exact ⟨_,Zo7 M.hT M.hK hp.at k,h _ (MapAt.iff.2 ⟨ZnP k l,_,ZiS k l,Zoh hst k,hp.setPts _⟩)⟩
theorem MapAt.new {o:Obj} (ho:o=.map #[] 0) (hw:Sat R (pts m o::Hs) w):Sat R (MapAt (α:=α) m []::Hs) w:=by
 subst ho;exact MapAt.iff.2 ⟨[],0,rfl,⟨λ _ h=>(by cases h),List.nodup_nil⟩,hw⟩
section
variable {β:Type}
omit [Zbp α] in
theorem ZnD {k:α} {v:β}:∀ {a b:List (α × β)},ZH k a=none->(k==k)=true->ZH k (a++(k,v)::b)=some v
 |[],b,_,hk=>by simp [ZH,hk]
 |e::a,b,h,hk=>by
  rw [ZH] at h;split at h
  ·cases h
  ·rename_i hne
   rw [List.cons_append,ZH,if_neg hne];exact ZnD h hk
omit [Zbp α] in
theorem ZeV {k:α} {v v':β}:∀ {a b:List (α × β)},ZH k a=none->(k==k)=true->ZeO k v' (a++(k,v)::b)=a++(k,v')::b
 |[],b,_,hk=>by simp [ZeO,hk]
 |e::a,b,h,hk=>by
  rw [ZH] at h;split at h
  ·cases h
  ·rename_i hne
   rw [List.cons_append,ZeO,if_neg hne,ZeV h hk];rfl
omit [Zbp α] in
theorem Zfi {k:α} {v:β}:∀ {a b:List (α × β)},ZH k a=none->(k==k)=true->Zfj k (a++(k,v)::b)=a++b
 |[],b,_,hk=>by simp [Zfj,hk]
 |e::a,b,h,hk=>by
  rw [ZH] at h;split at h
  ·cases h
  ·rename_i hne
   rw [List.cons_append,Zfj,if_neg hne,Zfi h hk];rfl
theorem Zan {k:α} {v:β}:∀ {l:List (α × β)},ZH k l=some v->∃ a b,l=a++(k,v)::b/\ZH k a=none
 |[],h=>by cases h
 |e::l,h=>by
  rw [ZH] at h;split at h
  ·rename_i hk
   cases h;have:=Zbp.eq _ _ hk;subst this;exact ⟨[],l,rfl,rfl⟩
  ·rename_i hne
   obtain ⟨a,b,rfl,ha⟩:=Zan h;exact ⟨e::a,b,rfl,by rw [ZH,if_neg hne];exact ha⟩
omit [Zbp α] in
theorem Zfd {γ:Type} (f:β->γ) (k:α):∀ l:List (α × β),ZH k (l.map λ e=>(e.1,f e.2))=(ZH k l).map f
 |[]=>rfl
 |e::l=>by
  rw [List.map_cons,ZH,ZH,Zfd f k l];split<;>rfl
end
end
section
variable {P:Program} {R:Cx} {Hs:List HP} {w:World} {s:Sl} {T:TypeId}
theorem Ro.idxK {kd:IntKind} {xs:List Int} {S:World->Prop} (hr:Ro R s (xs.map (Value.int kd))) (hS:∀ w,S w->Sat R Hs w) {k:Nat} (hk:k<xs.length) {F:Int->Prop} (h:F xs[k]):
  Rng (k:Int) s.len (Zc s.a λ a=>∃ t:Int,(At S (a.add (k:Int).toNat) [.int kd t])/\F t):=by
 obtain ⟨a,ha,hat⟩:=hr.addr (k:=k) (by simpa using hk);have hl:s.len=xs.length:=by have:=hr.len;simpa using this
 refine Rng.mk (by omega) (by omega) (Zc.mk ha ⟨xs[k],?_,h⟩);have:=hat hS;simpa using this
theorem ZuV {t2 e':TypeId} (ht:P.underlying t2=some (.slice e')) {xs:List Value} (hw:Sat R Hs w) (hs:Ro R s xs) (h1:ZaS xs=true):Src P 1 t2 (.slice s.a s.len s.cap) xs.length xs w:=by
 have hl:s.len=xs.length:=hs.len;by_cases hx:xs=[]
 ·subst hx
  obtain ⟨a,n,c⟩:=s;simp only [List.length_nil] at hl;subst hl;cases a with
  |none=>exact Go.Src.ofNil _ ht _
  |some a=>exact Go.Src.ofSlice w ht _ 0 _ [] rfl (λ j u hj=>by simp at hj) (λ u hu=>by cases hu)
 ·obtain ⟨b,off,l,T,fr,ha,hb,hel⟩:=hs.mem hx
  obtain ⟨a,n,c⟩:=s;simp only at ha hl;subst ha hl;refine Go.Src.ofSlice w ht _ _ _ _ (by simp) (λ j u hj=>?_) (λ u hu=>List.all_eq_true.1 h1 u hu);rw [Zy];have:=hw.of_ro hb;simp only [World.cell?,this,Option.isSome_none,Bool.false_eq_true,if_false];exact hel j u hj
def Z8 (s:ByteArray):List Int:=s.data.toList.map λ b=>(b.toNat:Int)
theorem Zec (s:ByteArray):(Z8 s).length=s.size:=by simp [Z8]
theorem Zr5 (s:ByteArray):∀ n∈Z8 s,0<=n/\n<256:=by
 intro n hn;obtain ⟨b,_,rfl⟩:=List.mem_map.1 hn;have:=b.toNat_lt;omega
def strOf (xs:List Int):ByteArray:=⟨(xs.map λ n=>UInt8.ofNat n.toNat).toArray⟩
theorem Zj5 {src dst:TypeId} (hs:P.underlying src=some (.slice T)) (he:P.underlying T=some (.int .u8)) (hd:P.underlying dst=some .string) {xs:List Int}
  (hw:Sat R Hs w) (hr:Ro R s (xs.map (Value.int .u8))):(convert src dst (.slice s.a s.len s.cap)).run P w=.ok (.string (strOf xs)) w:=by
 have hl:s.len=xs.length:=by have:=hr.len;simpa using this
 by_cases hx:xs=[]
 ·subst hx
  obtain ⟨a,n,c⟩:=s;simp only [List.length_nil] at hl;subst hl;cases a with
  |none=>exact run_convert_bytes_nil w src T hs he _ _ dst hd
  |some a=>
   rw [run_convert_bytes_string w src dst T _ _ _ hs he hd,run_bytesToString w a 0 c [] (by simpa using run_loadCells_list (P:=P) w a [] (λ j v hj=>by simp at hj))];rfl
 ·obtain ⟨b,off,l,T',fr,ha,hb,hel⟩:=hr.mem (by simpa using hx)
  obtain ⟨a,n,c⟩:=s;simp only at ha hl;subst ha hl;refine (run_convert_bytes_arg w src T hs he b off _ c xs rfl (λ i hi=>?_) dst hd).trans rfl;have:=hw.of_ro hb;simp only [World.cell?,this,Option.isSome_none,Bool.false_eq_true,if_false];refine hel i _ ?_;simp [hi,List.getD]
theorem Zku (b:ByteArray):strOf (Z8 b)=b:=by
 unfold strOf Z8;rw [List.map_map];have:(List.map ((λ n:Int=>UInt8.ofNat n.toNat) ∘ λ b:UInt8=>(b.toNat:Int)) b.data.toList)=b.data.toList:=by
  conv=>rhs;rw [<-List.map_id b.data.toList]
  apply List.map_congr_left;intro x _;simp
 rw [this]
theorem ZlG {xs:List Int} (h:∀ n∈xs,0<=n/\n<256):Z8 (strOf xs)=xs:=by
 unfold strOf Z8;simp only [List.map_map]
 conv=>rhs;rw [<-List.map_id xs]
 apply List.map_congr_left;intro x hx;have:=h x hx;simp;omega
end
section
open Go Go.RowKit
structure Zsy (w w':World):Prop where
 os:w'.os=w.os
 tape:w'.tape=w.tape
 output:w'.output=w.output
 block:∀ k,k<w.heap.size->w'.heap[k]? =w.heap[k]?
theorem Zsy.of_below {w w':World} (h:Below w.heap.size w w'):Zsy w w':=⟨h.os,h.tape,h.output,h.block⟩
theorem Sat.keeps:∀ {Hs:List HP} {R:Cx} {w w':World},Sat R Hs w->Zsy w w'->Sat R Hs w'
 |[],_,w,_,h,e=>⟨λ b o hb=>by
   have:=h.1 b o hb;rw [e.block b (Array.getElem?_eq_some_iff.1 this).1];exact this,e.os.trans h.2.1,e.tape.trans h.2.2.1,e.output.trans h.2.2.2⟩
 |_::_,_,_,_,h,e=>let ⟨h',hH,hd,hs⟩:=h;⟨h',hH,hd,hs.keeps e⟩
theorem Sat.grewTo:∀ {Hs:List HP} {R:Cx} {w w':World} {b:Nat} {o:Obj},Sat R Hs w->Zsy w w'->w.heap.size<=b->w'.heap[b]? =some o->Sat (R.add (ZU.one b o)) Hs w'
 |[],R,w,w',b,o,h,e,hb,ho=>by
  refine ⟨λ i x hx=>?_,e.os.trans h.2.1,e.tape.trans h.2.2.1,e.output.trans h.2.2.2⟩;simp only [Cx.m_add,ZU.add,ZU.one] at hx;cases hr:R.m i with
  |some y=>
   rw [hr] at hx;have:=h.1 i y hr;rw [e.block i (Array.getElem?_eq_some_iff.1 this).1,this];exact hx
  |none=>
   rw [hr] at hx;simp only at hx;split at hx
   ·rename_i hi;subst hi;rw [ho];exact hx
   ·cases hx
 |H::Hs,R,w,w',b,o,h,e,hb,ho=>by
  have hR:R.m b=.none:=Sat.ro_lt h hb;obtain ⟨a,hA,hd,hs⟩:=h;have hadd:(R.add a).m b=.none:=Sat.ro_lt hs hb;have ha:a b=.none:=by simpa [Cx.m_add,ZU.add,hR] using hadd
  have:=Sat.grewTo hs e hb ho;have hdis:(ZU.one b o).dis a:=by
   intro i hi;simp only [ZU.one];split
   ·rename_i h;subst h;exact absurd ha hi
   ·rfl
  refine ⟨a,hA,Cx.add_dis hd hdis,?_⟩;rw [Cx.add_assoc,ZU.add_comm hdis,<-Cx.add_assoc];exact this
theorem Sat.fresh {R:Cx} {Hs:List HP} {w w':World} {b:Nat} {o:Obj} (h:Sat R Hs w) (e:Zsy w w') (hb:w.heap.size<=b) (ho:w'.heap[b]? =some o):Sat R (pts b o::Hs) w':=
 Sat.lend.2 ⟨Sat.ro_lt h hb,Sat.grewTo h e hb ho⟩
theorem Sat.ownsRow {R:Cx} {Hs:List HP} {w w':World} {T:TypeId} {v:Value} {n:Nat} {xs:List Value} (h:Sat R Hs w) (e:Below w.heap.size w w') (hr:w'.ownsRow w.heap.size T 1 v n xs):
  ∃ s:Sl,v=.slice s.a s.len s.cap/\Sat R (Own s T xs::Hs) w':=by
 obtain ⟨hl,h1|⟨g,cap,cur,rfl,hg,hb,hn,hc,hcs,ht⟩⟩:=hr
 ·obtain ⟨rfl,rfl⟩:=h1
  have:xs=[]:=by simpa using hl
  subst this;exact ⟨⟨none,0,0⟩,rfl,Own.nil (h.keeps (.of_below e))⟩
 ·rw [Nat.mul_one] at *
  have h2:=h.fresh (.of_below e) hg hb;have e1:cur=(xs++cur.toList.drop n).toArray:=by
   apply Array.ext';rw [<-ht];simp
  rw [e1] at h2;have h3:=Own.of_pts h2;refine ⟨_,?_,h3⟩;have:(xs++cur.toList.drop n).length=cap:=by
   have e2:cur.toList.length=cap:=by rw [Array.length_toList];exact hcs
   rw [List.length_append,List.length_drop,e2,hl];omega
  simp only [this,hl]
end
end Go.VC
