/- VC, part 1: readable formulas for single operations of the model, each proved to be enough for the model's own run of that operation. No condition. -/
import Derived.OrdersHeld
import Derived.KernelRfl
import Derived.Laws.Entries
import Derived.Laws.Cells
import Derived.Laws.World
import Derived.Tactics
import Derived.Scope
import Derived.Defers
import Derived.Recover
import Derived.Test.YtlplemdmegpoeaaGreatDoorProg
import Derived.Deep.AppendSrc
import Derived.Deep.DeepAppendWide
import Derived.Laws.AppendOwn
import Derived.Laws.IdiomCopy
import Derived.Sort.Grow
import Derived.Lib.SliceRun
import GoSem.Instr.MapUpdate
import GoSem.Builtin.Delete
import Derived.MapKept
set_option linter.unusedVariables false
set_option linter.unusedSimpArgs false
namespace Go.VC
structure Sl where
 a:Option Addr
 len:Nat
 cap:Nat
abbrev Sl.v (s : Sl) : Value := .slice s.a s.len s.cap
inductive Ty where
 |int (k:IntKind)|bool|str|sl|ptr|map|flt|any
@[reducible] def Ty.T:Ty->Type
 | .int _=>Int| .bool=>Bool| .str=>ByteArray| .sl=>Sl| .ptr=>Option Addr| .map=>Option Nat| .flt=>Nat| .any=>Value
def Ty.enc:(t:Ty)->t.T->Value
 | .int k,n=>.int k n
 | .bool,b=>.bool b
 | .str,s=>.string s
 | .sl,s=>.slice s.a s.len s.cap
 | .ptr,p=>.pointer p
 | .map,m=>.map m
 | .flt,n=>.float .f64 n
 | .any,v=>v
def Ty.un:(t:Ty)->Value->(t.T->Prop)->Prop
 | .int k,v,φ=>match v with| .int k' n=>(match decide (k=k') with|true=>φ n|false=>False)|_=>False
 | .bool,v,φ=>match v with| .bool b=>φ b|_=>False
 | .str,v,φ=>match v with| .string s=>φ s|_=>False
 | .sl,v,φ=>match v with| .slice a n c=>φ ⟨a,n,c⟩|_=>False
 | .ptr,v,φ=>match v with| .pointer p=>φ p|_=>False
 | .map,v,φ=>match v with| .map m=>φ m|_=>False
 | .flt,v,φ=>match v with| .float .f64 n=>φ n|_=>False
 | .any,v,φ=>φ v
theorem Ty.un_enc {t:Ty} {v:Value} {φ:t.T->Prop} (h:t.un v φ):∃ x,v=t.enc x/\φ x:=by
 cases t<;>simp only [Ty.un] at h
 case int k=>
  split at h
  ·split at h
   ·rename_i hk;have:=of_decide_eq_true hk;subst this;exact ⟨_,rfl,h⟩
   ·exact h.elim
  ·exact h.elim
 case any=>exact ⟨v,rfl,h⟩
 all_goals (split at h<;>first|exact ⟨_,rfl,h⟩|exact h.elim)
def Ty.ex:(t:Ty)->(Value->Prop)->Prop
 | .int k,φ=>∃ n:Int,φ (.int k n)
 | .bool,φ=>∃ b:Bool,φ (.bool b)
 | .str,φ=>∃ s:ByteArray,φ (.string s)
 | .sl,φ=>∃ s:Sl,φ (.slice s.a s.len s.cap)
 | .ptr,φ=>∃ p:Option Addr,φ (.pointer p)
 | .map,φ=>∃ m:Option Nat,φ (.map m)
 | .flt,φ=>∃ n:Nat,φ (.float .f64 n)
 | .any,φ=>∃ v:Value,φ v
theorem Ty.ex_some {t:Ty} {φ:Value->Prop} (h:t.ex φ):∃ v,φ v:=by
 cases t<;>(obtain ⟨x,h⟩:=h;exact ⟨_,h⟩)
def ZmV:List Ty->(List Value->Prop)->Prop
 |[],φ=>φ []
 |t::ts,φ=>t.ex λ v=>ZmV ts λ vs=>φ (v::vs)
theorem Zi5:∀ {ts:List Ty} {φ:List Value->Prop},ZmV ts φ->∃ vs,φ vs
 |[],_,h=>⟨[],h⟩
 |_::_,_,h=>let ⟨v,h⟩:=Ty.ex_some h;let ⟨vs,h⟩:=Zi5 h;⟨v::vs,h⟩
inductive Vt where
 |one (t:Ty)|agg (ts:List Ty)
def Vt.ex:Vt->(Value->Prop)->Prop
 | .one t,φ=>t.ex φ
 | .agg ts,φ=>ZmV ts λ vs=>φ (.agg vs.toArray)
theorem Vt.ex_some {t:Vt} {φ:Value->Prop} (h:t.ex φ):∃ v,φ v:=by
 cases t with
 |one t=>exact Ty.ex_some h
 |agg ts=>let ⟨vs,h⟩:=Zi5 h;exact ⟨_,h⟩
def Zss:List Vt->(List Value->Prop)->Prop
 |[],φ=>φ []
 |t::ts,φ=>t.ex λ v=>Zss ts λ vs=>φ (v::vs)
theorem ZhV:∀ {ts:List Vt} {φ:List Value->Prop},Zss ts φ->∃ vs,φ vs
 |[],_,h=>⟨[],h⟩
 |_::_,_,h=>let ⟨v,h⟩:=Vt.ex_some h;let ⟨vs,h⟩:=ZhV h;⟨v::vs,h⟩
inductive Rt where
 |val (t:Vt)|tup (ts:List Vt)
def Rt.ex:Rt->(Value->Prop)->Prop
 | .val t,φ=>t.ex φ
 | .tup ts,φ=>Zss ts λ vs=>φ (.tuple vs.toArray)
theorem Rt.ex_some {t:Rt} {φ:Value->Prop} (h:t.ex φ):∃ v,φ v:=by
 cases t with
 |val t=>exact Vt.ex_some h
 |tup ts=>let ⟨vs,h⟩:=ZhV h;exact ⟨_,h⟩
def ZAS (P:Program) (t:TypeId):Ty:=
 match P.underlying t with
 |some .bool=>.bool
 |some (.int k)=>.int k
 |some .string=>.str
 |some (.pointer _)=>.ptr
 |some (.slice _)=>.sl
 |some (.map _ _)=>.map
 |some (.float .f64)=>.flt
 |_=>.any
def Zsk (f:TypeId->Option (List Ty)):List Field->Option (List Ty)
 |[]=>some []
 |x::xs=>match f x.type with
  |none=>none
  |some l=>match Zsk f xs with
   |none=>none
   |some m=>some (l++m)
def ZzR (P:Program):Nat->TypeId->Option (List Ty)
 |0,_=>none
 |d + 1,t=>match P.underlying t with
  |some (.struct fs)=>Zsk (ZzR P d) fs.toList
  |some (.array n e)=>match Nat.ble n 4 with
   |true=>match ZzR P d e with
    |some l=>some (List.replicate n l).flatten
    |none=>none
   |false=>none
  |_=>some [ZAS P t]
def ZAR (P:Program) (t:TypeId):Vt:=
 match P.underlying t with
 |some (.struct _)|some (.array _ _)=>match ZzR P 6 t with
  |some l=>.agg l
  |none=>.one .any
 |_=>.one (ZAS P t)
def Zza (P:Program) (t:TypeId):Rt:=
 match P.underlying t with
 |some (.tuple ts)=>.tup (ts.toList.map (ZAR P))
 |_=>.val (ZAR P t)
abbrev Env:=Nat->Value
def Env.set (ρ:Env) (d:Nat) (v:Value):Env:=λ i=>match Nat.beq i d with|true=>v|false=>ρ i
def Env.put (ρ:Env) (d:Option Tmp) (v:Value):Env:=match d with|some d=>ρ.set d v|none=>ρ
def Env.ev (ρ:Env):Operand->Value
 | .tmp t=>ρ t
 | .const v=>v
 | .global g=>.pointer (some ⟨g,0,none⟩)
 | .func f=>.func (.func f) #[] #[]
def Br (b:Bool) (A B:Prop):Prop:=match b with|true=>A|false=>B
theorem Br.mk {b:Bool} {A B:Prop} (h:b=true->A) (h':b=false->B):Br b A B:=by
 cases b
 ·exact h' rfl
 ·exact h rfl
theorem Br.t {b:Bool} {A B:Prop} (hb:b=true) (h:A):Br b A B:=by subst hb;exact h
theorem Br.f {b:Bool} {A B:Prop} (hb:b=false) (h:B):Br b A B:=by subst hb;exact h
def Nz (b:Int) (A:Prop):Prop:=match decide (b=0) with|true=>False|false=>A
theorem Nz.mk {b:Int} {A:Prop} (hb:b≠0) (h:A):Nz b A:=by unfold Nz;rw [decide_eq_false hb];exact h
theorem Nz.out {b:Int} {A:Prop} (h:Nz b A):b≠0/\A:=by
 unfold Nz at h;split at h
 ·exact h.elim
 ·rename_i hb;exact ⟨of_decide_eq_false hb,h⟩
def ZfM (op:BinOp) (k:IntKind) (x y:Int):Int:=
 let a:=BitVec.ofInt k.bits x
 let b:=BitVec.ofInt k.bits y
 k.wrap (match op with| .and=>(a &&& b).toNat| .or=>(a|||b).toNat| .xor=>(a ^^^ b).toNat|_=>(a &&& ~~~b).toNat:Nat)
def Zvb (k:IntKind) (x y:Int):Int:=k.wrap (x * 2 ^ min y.toNat k.bits)
def Zgu (k:IntKind) (x y:Int):Int:=x.fdiv (2 ^ min y.toNat k.bits)
def Ge0 (y:Int) (A:Prop):Prop:=match decide (y<0) with|true=>False|false=>A
theorem Ge0.mk {y:Int} {A:Prop} (hy:0<=y) (h:A):Ge0 y A:=by unfold Ge0;rw [decide_eq_false (by omega)];exact h
def ariF (op:BinOp) (k:IntKind) (a b:Int) (K:Value->Prop):Prop:=
 match op with
 | .add=>K (.int k (k.wrap (a + b)))
 | .sub=>K (.int k (k.wrap (a - b)))
 | .mul=>K (.int k (k.wrap (a * b)))
 | .quo=>Nz b (K (.int k (k.wrap (a.tdiv b))))
 | .rem=>Nz b (K (.int k (a.tmod b)))
 | .and=>K (.int k (ZfM .and k a b))
 | .or=>K (.int k (ZfM .or k a b))
 | .xor=>K (.int k (ZfM .xor k a b))
 | .andNot=>K (.int k (ZfM .andNot k a b))
 | .eql=>K (.bool (a==b))
 | .neq=>K (.bool (a !=b))
 | .lss=>K (.bool (decide (a<b)))
 | .leq=>K (.bool (decide (a<=b)))
 | .gtr=>K (.bool (decide (a>b)))
 | .geq=>K (.bool (decide (a >= b)))
 |_=>False
def strF (op:BinOp) (a b:ByteArray) (K:Value->Prop):Prop:=
 match op with
 | .add=>((a.size + b.size:Nat):Int)<=IntKind.i64.max/\K (.string (a++b))
 | .eql=>K (.bool (a.toList==b.toList))
 | .neq=>K (.bool !(a.toList==b.toList))
 | .lss=>K (.bool (Op.bytesLess a.toList b.toList))
 | .leq=>K (.bool (Op.bytesLess a.toList b.toList||a.toList==b.toList))
 | .gtr=>K (.bool !(Op.bytesLess a.toList b.toList||a.toList==b.toList))
 | .geq=>K (.bool !(Op.bytesLess a.toList b.toList))
 |_=>False
def eqF (op:BinOp) (b:Bool) (K:Value->Prop):Prop:=
 match op with
 | .eql=>K (.bool b)
 | .neq=>K (.bool !b)
 |_=>False
def Zec (P:Program) (T:TypeId):Nat:=
 match P.underlying T with
 |some (.int _)=>1
 |some .string=>2
 |some .bool=>3
 |some (.pointer _)=>4
 |some (.slice _)=>5
 |some (.map _ _)=>6
 |some (.func _ _ _)=>7
 |_=>0
def ZmM:BinOp->Bool| .shl| .shr=>true|_=>false
def Zvc (op:BinOp) (k:IntKind) (a y:Int) (K:Value->Prop):Prop:=
 Ge0 y (match op with
 | .shl=>K (.int k (Zvb k a y))
 |_=>K (.int k (Zgu k a y)))
def intF (op:BinOp) (x y:Value) (K:Value->Prop):Prop:=
 match x with
 | .int k a=>match y with
  | .int k' b=>(match ZmM op with
   |true=>Zvc op k a b K
   |false=>(match decide (k=k') with|true=>ariF op k a b K|false=>False))
  |_=>False
 |_=>False
def ZBZ (P:Program) (op:BinOp) (T:TypeId) (x y:Value) (K:Value->Prop):Prop:=
 match Zec P T with
 |1=>intF op x y K
 |2=>match x with
  | .string a=>match y with| .string b=>strF op a b K|_=>False
  |_=>False
 |3=>match x with
  | .bool a=>match y with| .bool b=>eqF op (a==b) K|_=>False
  |_=>False
 |4=>match x with
  | .pointer p=>match y with| .pointer none=>eqF op p.isNone K|_=>False
  |_=>False
 |5=>match x with
  | .slice a _ _=>match y with| .slice none _ _=>eqF op a.isNone K|_=>False
  |_=>False
 |6=>match x with
  | .map m=>match y with| .map none=>eqF op m.isNone K|_=>False
  |_=>False
 |7=>match y with
  | .nilFunc=>match x with| .nilFunc=>eqF op true K| .func _ _ _=>eqF op false K|_=>False
  |_=>False
 |_=>False
theorem Zew {P:Program} {T:TypeId} {x y:Value} {b:Bool} (h:∀ d w,(Op.equalIn (d + 1) T x y).run P w=.ok b w) (op:BinOp) {K:Value->Prop} (ox oy:Operand)
  (hop:eqF op b K) (hb:binOp .eql T x y=(do pure (.bool (<-Op.equal T x y)):Sem Value)) (hb':binOp .neq T x y=(do pure (.bool (!(<-Op.equal T x y))):Sem Value))
  (hg:∀ w,(eqGuard op T ox oy x y).run P w=.ok () w):
  ∃ v,(∀ w,(do eqGuard op T ox oy x y;binOp op T x y:Sem Value).run P w=.ok v w)/\K v:=by
 have h':∀ w,(Op.equal T x y).run P w=.ok b w:=h 9999;cases op<;>simp only [eqF] at hop
 ·exact ⟨_,λ w=>by rw [Sem.run_bind,hg w,hb];simp [h'],hop⟩
 ·exact ⟨_,λ w=>by rw [Sem.run_bind,hg w,hb'];simp [h'],hop⟩
theorem ZpI {P:Program} {op:BinOp} {T:TypeId} {x y:Value} {K:Value->Prop} (h:ZBZ P op T x y K) (ox oy:Operand):
  ∃ v,(∀ w,(do eqGuard op T ox oy x y;binOp op T x y:Sem Value).run P w=.ok v w)/\K v:=by
 unfold ZBZ at h;split at h
 ·-- integers
  unfold intF at h;split at h
  ·rename_i k a
   split at h
   ·rename_i k' b
    split at h
    ·rename_i hs
     unfold Zvc Ge0 at h;split at h
     ·exact h.elim
     ·rename_i hy
      have hy:=of_decide_eq_false hy;have e:∀ s:Sem Value,(do eqGuard op T ox oy (.int k a) (.int k' b);s:Sem Value)=s:=λ s=>by
       unfold eqGuard;cases op<;>simp [ZmM] at hs<;>rfl
      cases op<;>simp only [ZmM,Bool.false_eq_true] at hs<;>simp only at h
      ·exact ⟨_,λ w=>by simp only [e,binOp,Op.shift,if_neg hy];rfl,h⟩
      ·exact ⟨_,λ w=>by simp only [e,binOp,Op.shift,if_neg hy];rfl,h⟩
    ·split at h
     ·rename_i hk
      have hk:=of_decide_eq_true hk;subst hk;unfold ariF at h;cases op<;>simp only at h
      case add=>exact ⟨_,λ w=>by simp [eqGuard,binOp,Op.intArith],h⟩
      case sub=>exact ⟨_,λ w=>by simp [eqGuard,binOp,Op.intArith],h⟩
      case mul=>exact ⟨_,λ w=>by simp [eqGuard,binOp,Op.intArith],h⟩
      case quo=>obtain ⟨hb,h⟩:=h.out;exact ⟨_,λ w=>by simp [eqGuard,binOp,Op.intDiv,hb],h⟩
      case rem=>obtain ⟨hb,h⟩:=h.out;exact ⟨_,λ w=>by simp [eqGuard,binOp,Op.intDiv,hb],h⟩
      case and=>exact ⟨_,λ w=>by simp [eqGuard,binOp,Op.intBits,ZfM],h⟩
      case or=>exact ⟨_,λ w=>by simp [eqGuard,binOp,Op.intBits,ZfM],h⟩
      case xor=>exact ⟨_,λ w=>by simp [eqGuard,binOp,Op.intBits,ZfM],h⟩
      case andNot=>exact ⟨_,λ w=>by simp [eqGuard,binOp,Op.intBits,ZfM],h⟩
      case eql=>exact ⟨_,λ w=>by simp [eqGuard,binOp,Op.intCmp],h⟩
      case neq=>exact ⟨_,λ w=>by simp [eqGuard,binOp,Op.intCmp],h⟩
      case lss=>exact ⟨_,λ w=>by simp [eqGuard,binOp,Op.intCmp],h⟩
      case leq=>exact ⟨_,λ w=>by simp [eqGuard,binOp,Op.intCmp],h⟩
      case gtr=>exact ⟨_,λ w=>by simp [eqGuard,binOp,Op.intCmp],h⟩
      case geq=>exact ⟨_,λ w=>by simp [eqGuard,binOp,Op.intCmp],h⟩
     ·exact h.elim
   ·exact h.elim
  ·exact h.elim
 ·split at h
  ·split at h
   ·rename_i a _ b
    unfold strF at h;cases op<;>simp only at h
    case add=>
     obtain ⟨hb,h⟩:=h;exact ⟨_,λ w=>by simp only [eqGuard,binOp,Op.stringOp];rw [if_neg (Int.not_lt.2 hb)];simp,h⟩
    all_goals exact ⟨_,λ w=>by simp [eqGuard,binOp,Op.stringOp],h⟩
   ·exact h.elim
  ·exact h.elim
 ·rename_i hT
  have hT:P.underlying T=some .bool:=by
   unfold Zec at hT;split at hT<;>first|assumption|simp at hT
  split at h
  ·split at h
   ·exact Zew (λ d w=>by simp [Op.equalIn,run_underlying hT]) op ox oy h rfl rfl (λ w=>by cases op<;>rfl)
   ·exact h.elim
  ·exact h.elim
 ·rename_i hT
  obtain ⟨e,hT⟩:∃ e,P.underlying T=some (.pointer e):=by
   unfold Zec at hT;split at hT<;>first|exact ⟨_,by assumption⟩|simp at hT
  split at h
  ·split at h
   ·rename_i p _
    exact Zew (λ d w=>by cases p<;>simp [Op.equalIn,run_underlying hT]) op ox oy h (by cases p<;>rfl) (by cases p<;>rfl) (λ w=>by cases op<;>rfl)
   ·exact h.elim
  ·exact h.elim
 ·rename_i hT
  obtain ⟨e,hT⟩:∃ e,P.underlying T=some (.slice e):=by
   unfold Zec at hT;split at hT<;>first|exact ⟨_,by assumption⟩|simp at hT
  split at h
  ·split at h
   ·rename_i a _ _ _ _ _
    exact Zew (λ d w=>by cases a<;>simp [Op.equalIn,run_underlying hT]) op ox oy h rfl rfl (λ w=>by cases op<;>rfl)
   ·exact h.elim
  ·exact h.elim
 ·rename_i hT
  obtain ⟨e,e',hT⟩:∃ e e',P.underlying T=some (.map e e'):=by
   unfold Zec at hT;split at hT<;>first|exact ⟨_,_,by assumption⟩|simp at hT
  split at h
  ·split at h
   ·rename_i m _
    exact Zew (λ d w=>by cases m<;>simp [Op.equalIn,run_underlying hT]) op ox oy h rfl rfl (λ w=>by cases op<;>rfl)
   ·exact h.elim
  ·exact h.elim
 ·rename_i hT
  obtain ⟨e,e',e'',hT⟩:∃ e e' e'',P.underlying T=some (.func e e' e''):=by
   unfold Zec at hT;split at hT<;>first|exact ⟨_,_,_,by assumption⟩|simp at hT
  split at h
  ·split at h
   ·exact Zew (λ d w=>by simp [Op.equalIn,run_underlying hT]) op ox oy h rfl rfl (λ w=>by cases op<;>rfl)
   ·exact Zew (λ d w=>by simp [Op.equalIn,run_underlying hT]) op ox oy h rfl rfl (λ w=>by cases op<;>rfl)
   ·exact h.elim
  ·exact h.elim
 ·exact h.elim
def ZeY {α:Type} (P:Program):Sem α->Option α
 | .pure a=>some a
 | .program k=>ZeY P (k P)
 | .mark _ k=>ZeY P k
 |_=>none
theorem Zfl {α:Type} {P:Program} {s:Sem α} {a:α} (h:ZeY P s=some a) (w:World):s.run P w=.ok a w:=by
 induction s with
 |pure b=>simp only [ZeY,Option.some.injEq] at h;subst h;rfl
 |program k ih=>exact ih P h
 |mark m k ih=>exact ih h
 |_=>simp [ZeY] at h
def ZiO {α:Type} (P:Program):Sem α->Option (Obj × (Nat->Option α))
 | .program k=>ZiO P (k P)
 | .mark _ k=>ZiO P k
 | .new o k=>some (o,λ b=>ZeY P (k b))
 |_=>none
theorem Zlk {α:Type} {P:Program} {s:Sem α} {o:Obj} {f:Nat->Option α} (h:ZiO P s=some (o,f)) (w:World) {a:α} (ha:f w.heap.size=some a):
  s.run P w=.ok a (w.alloc o):=by
 induction s with
 |program k ih=>exact ih P h
 |mark m k ih=>exact ih h
 |new o' k ih=>
  simp only [ZiO,Option.some.injEq,Prod.mk.injEq] at h;obtain ⟨rfl,rfl⟩:=h;exact Zfl ha _
 |_=>simp [ZiO] at h
def PR (P:Program) (s:Sem Next) (K:Value->Prop):Prop:=
 match ZeY P s with
 |some (.value v)=>K v
 |_=>False
def Zhc (P:Program) (t:TypeId):Nat:=match P.info? t with|some i=>i.size|none=>0
def Zd (p:Option Addr) (K:Addr->Prop):Prop:=match p with|some a=>K a|none=>False
theorem Zd.mk {p:Option Addr} {a:Addr} {K:Addr->Prop} (hp:p=some a) (h:K a):Zd p K:=by subst hp;exact h
def Zy6 (x:Value) (K:Value->Prop):Prop:=
 match x with
 | .pointer p=>Zd p λ a=>K (.pointer (some a))
 | .func (.func f) first captured=>K (.func (.func f) first captured)
 | .iface t v=>K (.iface t v)
 |_=>False
def ZgL (i n:Nat):Nat:=match n with|1=>i|n=>i * n
theorem Zf6 (i n:Nat):ZgL i n=i * n:=by unfold ZgL;split<;>simp
def Rng (i:Int) (n:Nat) (A:Prop):Prop:=match decide (0<=i/\i<(n:Int)) with|true=>A|false=>False
theorem Rng.mk {i:Int} {n:Nat} {A:Prop} (h0:0<=i) (h1:i<(n:Int)) (h:A):Rng i n A:=by unfold Rng;rw [decide_eq_true ⟨h0,h1⟩];exact h
theorem Rng.out {i:Int} {n:Nat} {A:Prop} (h:Rng i n A):0<=i/\i<(n:Int)/\A:=by
 unfold Rng at h;split at h
 ·rename_i hb;have:=of_decide_eq_true hb;exact ⟨this.1,this.2,h⟩
 ·exact h.elim
theorem Zd.out {p:Option Addr} {K:Addr->Prop} (h:Zd p K):∃ a,p=some a/\K a:=by
 unfold Zd at h;split at h
 ·exact ⟨_,rfl,h⟩
 ·exact h.elim
def idxA (base:Option Addr) (len:Nat) (i:Int) (size:Nat) (K:Value->Prop):Prop:=
 Rng i len (Zd base λ a=>K (.pointer (some (a.add (ZgL i.toNat size)))))
def Zj1 (P:Program) (T:TypeId) (x i:Value) (K:Value->Prop):Prop:=
 match i with
 | .int _ n=>match P.underlying T with
  |some (.slice e)=>(match x with| .slice a len _=>idxA a len n (Zhc P e) K|_=>False)
  |some (.array len e)=>(match x with| .pointer p=>idxA p len n (Zhc P e) K|_=>False)
  |_=>False
 |_=>False
def ZiZ (P:Program) (t:TypeId):Bool:=match P.underlying t with|some (.struct _)|some (.array _ _)=>true|_=>false
def ZBQ (P:Program) (T:TypeId) (x i:Value) (K:Value->Prop):Prop:=
 match i with
 | .int _ n=>match P.underlying T with
  |some .string=>(match x with| .string s=>∃ c:UInt8,0<=n/\s[n.toNat]? =some c/\K (.int .u8 c.toNat)|_=>False)
  |some (.array len e)=>(match x with
   | .agg cs=>Rng n len (match ZiZ P e with
    |true=>K (.agg (cs.extract (ZgL n.toNat (Zhc P e)) (ZgL n.toNat (Zhc P e) + Zhc P e)))
    |false=>(ZAS P e).ex λ v=>cs[ZgL n.toNat (Zhc P e)]? =some v/\K v)
   |_=>False)
  |_=>False
 |_=>False
def bnd (x:Option Value) (d y:Nat) (φ:Nat->Prop):Prop:=
 match x with
 |none=>φ d
 |some v=>match v with| .int _ i=>0<=i/\i<=(y:Int)/\φ i.toNat|_=>False
def Zcn (a:Option Addr) (l m size:Nat):Option Addr:=if m=l then a else a.map (·.add (l * size))
def Zqw (P:Program) (T:TypeId) (x:Value) (lo hi mx:Option Value) (K:Value->Prop):Prop:=
 match P.underlying T with
 |some .string=>(match x with
  | .string s=>(match mx with
   |some _=>False
   |none=>bnd hi s.size s.size λ h=>bnd lo 0 h λ l=>K (.string (s.extract l h)))
  |_=>False)
 |some (.slice e)=>(match x with
  | .slice a n c=>bnd mx c c λ m=>(match hi,mx with
   |none,some _=>False
   |_,_=>bnd hi n m λ h=>(match lo with
    |none=>K (.slice a h m)
    |some v=>bnd (some v) 0 h λ l=>K (.slice (Zcn a l m (Zhc P e)) (h - l) (m - l))))
  |_=>False)
 |some (.array n e)=>(match x with
  | .pointer p=>∃ a:Addr,p=some a/\bnd mx n n λ m=>(match hi,mx with
   |none,some _=>False
   |_,_=>bnd hi n m λ h=>(match lo with
    |none=>K (.slice (some a) h m)
    |some v=>bnd (some v) 0 h λ l=>K (.slice (Zcn (some a) l m (Zhc P e)) (h - l) (m - l))))
  |_=>False)
 |_=>False
def Zfm (P:Program) (op:Op):Nat:=
 match op with
 | .move _| .assign _| .pick _ _ _| .field _ _ _| .build _ _| .extract _ _| .makeFunc _ _ _| .makeInterface _ _| .unOp _ _ _=>1
 | .convert src dst _=>(match P.underlying dst with|some (.int _)=>(match P.underlying src with|some (.float _)=>0|_=>1)|_=>0)
 | .call c=>(match c.callee with
  | .builtin .len| .builtin .cap=>(match c.argTypes[0]? with
   |some t=>(match P.underlying t with|some (.map _ _)|some (.chan _ _)=>0|_=>1)
   |none=>0)
  | .builtin .min| .builtin .max=>1
  |_=>0)
 | .binOp _ T _ _ _=>(match Zec P T with|0=>0|_=>2)
 | .nilCheck _=>3
 | .indexAddr _ _ _=>4
 | .index _ _ _=>5
 | .slice _ _ _ _ _=>6
 | .fieldAddr _ _ _=>7
 |_=>0
def Zn5 (P:Program) (T:TypeId) (x:Value) (i:Nat) (K:Value->Prop):Prop:=
 match x with
 | .pointer p=>Zd p λ a=>PR P (do pure (.value (<-Instr.fieldAt T (.pointer (some a)) i))) K
 |_=>False
def Zrb (P:Program) (ρ:Env) (o:Oper) (K:Value->Prop):Prop:=
 match Zfm P o.op with
 |1=>PR P (execOp ρ.ev o) K
 |_=>match o.op with
  | .binOp op T x y _=>ZBZ P op T (ρ.ev x) (ρ.ev y) K
  | .nilCheck x=>Zy6 (ρ.ev x) K
  | .indexAddr T x i=>Zj1 P T (ρ.ev x) (ρ.ev i) K
  | .index T x i=>ZBQ P T (ρ.ev x) (ρ.ev i) K
  | .slice T x lo hi mx=>Zqw P T (ρ.ev x) (lo.map ρ.ev) (hi.map ρ.ev) (mx.map ρ.ev) K
  | .fieldAddr T x i=>Zn5 P T (ρ.ev x) i K
  |_=>False
def ZcQ (P:Program) (S:World->Prop) (s:Sem Next) (K:Value->Prop):Prop:=∃ v,(∀ w,S w->s.run P w=.ok (.value v) w)/\K v
theorem Zhk {P:Program} {t:TypeId} {i:TypeInfo} (h:P.info? t=some i) (w:World):(typeInfo t).run P w=.ok i w:=by
 simp [typeInfo,h]
theorem ZaD {P:Program} {s:Sem Value} {v:Value} {w w':World} (h:s.run P w=.ok v w'):(do pure (.value (<-s)):Sem Next).run P w=.ok (.value v) w':=by
 simp [h]
theorem Zna {P:Program} {ρ:Operand->Value} {dst:Option Tmp} {ty:TypeId} {pos:String} {after:Array Edge} {guard:Option (Nat × Bool)} {x:Operand} {K:Value->Prop} (h:Zy6 (ρ x) K):
  ZcQ P (λ _=>True) (execOp ρ ⟨dst,.nilCheck x,ty,pos,after,guard⟩) K:=by
 unfold Zy6 at h;split at h
 ·rename_i hx
  unfold Zd at h;split at h
  ·exact ⟨_,λ w _=>by simp only [execOp,hx];rfl,h⟩
  ·exact h.elim
 ·rename_i hx;exact ⟨_,λ w _=>by simp only [execOp,hx];rfl,h⟩
 ·rename_i hx;exact ⟨_,λ w _=>by simp only [execOp,hx];rfl,h⟩
 ·exact h.elim
section
variable {P:Program} {ρ:Operand->Value} {dst:Option Tmp} {ty:TypeId} {pos:String} {after:Array Edge} {guard:Option (Nat × Bool)} {K:Value->Prop}
theorem Zfz {P:Program} {t:TypeId} {d:TypeDesc} (h:P.underlying t=some d) (w:World):(isAgg t).run P w=.ok (ZiZ P t) w:=by
 unfold ZiZ;rw [h];simp only [isAgg,Sem.run_bind,run_underlying h,Result.andThen_ok];cases d<;>rfl
theorem Za6 {P:Program} {t:TypeId} {i:TypeInfo} (h:P.info? t=some i) (w:World):(sizeOf t).run P w=.ok (Zhc P t) w:=by
 unfold Zhc;simp [sizeOf,Zhk h,h]
theorem Zni {P:Program} {t:TypeId} (h:Zhc P t≠0):∃ i,P.info? t=some i:=by
 unfold Zhc at h;split at h
 ·exact ⟨_,by assumption⟩
 ·exact absurd rfl h
def ZlN (P:Program) (T:TypeId):Bool:=
 match P.underlying T with
 |some (.slice e)|some (.array _ e)=>(P.info? e).isSome
 |_=>true
theorem Zil {T:TypeId} {x i:Operand} (hok:ZlN P T=true) (h:Zj1 P T (ρ x) (ρ i) K):
  ZcQ P (λ _=>True) (execOp ρ ⟨dst,.indexAddr T x i,ty,pos,after,guard⟩) K:=by
 unfold Zj1 at h;unfold ZlN at hok;split at h
 case h_2=>exact h.elim
 rename_i k n hi;split at h
 ·rename_i e hT
  rw [hT] at hok;obtain ⟨ie,hie⟩:=Option.isSome_iff_exists.1 hok;split at h
  ·rename_i a len c hx
   obtain ⟨h0,h1,h⟩:=Rng.out h;obtain ⟨ad,rfl,h⟩:=Zd.out h;refine ⟨_,λ w _=>?_,h⟩;simp only [execOp,hx,hi];refine ZaD ?_;simp [Instr.indexAt,asIntOf,run_underlying hT,h0,h1,Za6 hie,Zf6]
  ·exact h.elim
 ·rename_i len e hT
  rw [hT] at hok;obtain ⟨ie,hie⟩:=Option.isSome_iff_exists.1 hok;split at h
  ·rename_i p hx
   obtain ⟨h0,h1,h⟩:=Rng.out h;obtain ⟨ad,rfl,h⟩:=Zd.out h;refine ⟨_,λ w _=>?_,h⟩;simp only [execOp,hx,hi];refine ZaD ?_;simp [Instr.indexAt,Instr.sureAddr,asIntOf,run_underlying hT,h0,h1,Za6 hie,Zf6]
  ·exact h.elim
 ·exact h.elim
def Zrj (P:Program) (T:TypeId):Bool:=
 match P.underlying T with
 |some (.slice e)|some (.array _ e)=>(P.info? e).isSome && (P.underlying e).isSome
 |_=>true
theorem Zpm {T:TypeId} {x i:Operand} (hok:Zrj P T=true) (h:ZBQ P T (ρ x) (ρ i) K):
  ZcQ P (λ _=>True) (execOp ρ ⟨dst,.index T x i,ty,pos,after,guard⟩) K:=by
 unfold ZBQ at h;unfold Zrj at hok;split at h
 case h_2=>exact h.elim
 rename_i k n hi;split at h
 ·rename_i hT
  split at h
  ·rename_i s hx
   obtain ⟨c,h0,hc,h⟩:=h;refine ⟨_,λ w _=>?_,h⟩;simp only [execOp,hx,hi];refine ZaD ?_;simp [Instr.index,asIntOf,run_underlying hT,h0,hc]
  ·exact h.elim
 ·rename_i len e hT
  rw [hT] at hok;simp only [Bool.and_eq_true] at hok;obtain ⟨ie,hie⟩:=Option.isSome_iff_exists.1 hok.1;obtain ⟨de,hde⟩:=Option.isSome_iff_exists.1 hok.2;split at h
  ·rename_i cs hx
   obtain ⟨h0,h1,h⟩:=Rng.out h;split at h
   ·rename_i hag
    refine ⟨_,λ w _=>?_,h⟩;simp only [execOp,hx,hi];refine ZaD ?_;simp [Instr.index,asIntOf,run_underlying hT,h0,h1,Za6 hie,part,Zfz hde,hag,Zf6]
   ·rename_i hag
    obtain ⟨v,hv,h⟩:=Ty.ex_some h;refine ⟨_,λ w _=>?_,h⟩;simp only [execOp,hx,hi];refine ZaD ?_;rw [Zf6] at hv;simp [Instr.index,asIntOf,run_underlying hT,h0,h1,Za6 hie,part,Zfz hde,hag,hv]
  ·exact h.elim
 ·exact h.elim
theorem ZeD {v:Value} {d y:Nat} {φ:Nat->Prop} {code:BoundsCode} (h:bnd (some v) d y φ):∃ l,(∀ w,(Instr.sliceBound v y code).run P w=.ok l w)/\φ l:=by
 unfold bnd at h;split at h
 ·rename_i hh;cases hh
 ·rename_i hh
  cases hh;split at h
  ·obtain ⟨h0,h1,h⟩:=h
   exact ⟨_,λ w=>by simp [Instr.sliceBound,asIntOf,h0,h1],h⟩
  ·exact h.elim
theorem Zeb {isS:Bool} {len cap:Nat} {lo hi mx:Option Value} {φ:Nat->Nat->Nat->Prop}
  (h:bnd mx cap cap λ m=>(match hi,mx with
   |none,some _=>False
   |_,_=>bnd hi len m λ h=>bnd lo 0 h λ l=>φ l h m)):
  ∃ l h m,(∀ w,(Instr.sliceBounds isS len cap lo hi mx).run P w=.ok (l,h,m) w)/\φ l h m:=by
 cases mx with
 |none=>
  cases hi with
  |none=>
   cases lo with
   |none=>exact ⟨0,len,cap,λ w=>by simp [Instr.sliceBounds],h⟩
   |some u=>
    obtain ⟨l,rl,h⟩:=ZeD (P:=P) (code:=.sliceB) (φ:=λ l=>φ l len cap) (d:=0) (y:=len) (v:=u) h;exact ⟨l,len,cap,λ w=>by simp [Instr.sliceBounds,rl],h⟩
  |some v=>
   obtain ⟨h',rh,h⟩:=ZeD (P:=P) (code:=if isS then .sliceAcap else .sliceAlen) (φ:=λ h=>bnd lo 0 h λ l=>φ l h cap) (d:=len) (y:=cap) (v:=v) h
   cases lo with
   |none=>exact ⟨0,h',cap,λ w=>by simp [Instr.sliceBounds,rh],h⟩
   |some u=>
    obtain ⟨l,rl,h⟩:=ZeD (P:=P) (code:=.sliceB) (φ:=λ l=>φ l h' cap) (d:=0) (y:=h') (v:=u) h;exact ⟨l,h',cap,λ w=>by simp [Instr.sliceBounds,rh,rl],h⟩
 |some x=>
  obtain ⟨m,rm,h⟩:=ZeD (P:=P) (code:=if isS then .slice3Acap else .slice3Alen) h
  cases hi with
  |none=>exact h.elim
  |some v=>
   obtain ⟨h',rh,h⟩:=ZeD (P:=P) (code:=.slice3B) (φ:=λ h=>bnd lo 0 h λ l=>φ l h m) (d:=len) (y:=m) (v:=v) h;cases lo with
   |none=>exact ⟨0,h',m,λ w=>by simp [Instr.sliceBounds,rm,rh],h⟩
   |some u=>
    obtain ⟨l,rl,h⟩:=ZeD (P:=P) (code:=.slice3C) (φ:=λ l=>φ l h' m) (d:=0) (y:=h') (v:=u) h;exact ⟨l,h',m,λ w=>by simp [Instr.sliceBounds,rm,rh,rl],h⟩
theorem Zdk (a:Option Addr) (m size:Nat):Zcn a 0 m size=a:=by
 unfold Zcn;split
 ·rfl
 ·cases a<;>simp [Addr.add]
theorem ZkR {T:TypeId} {x:Operand} {lo hi mx:Option Operand} (hok:ZlN P T=true)
  (h:Zqw P T (ρ x) (lo.map ρ) (hi.map ρ) (mx.map ρ) K):
  ZcQ P (λ _=>True) (execOp ρ ⟨dst,.slice T x lo hi mx,ty,pos,after,guard⟩) K:=by
 unfold Zqw at h;unfold ZlN at hok;split at h
 ·rename_i hT
  split at h
  ·rename_i s hx
   split at h
   ·exact h.elim
   ·rename_i hmx
    obtain ⟨l,h',m,hr,h⟩:=Zeb (P:=P) (isS:=false) (len:=s.size) (cap:=s.size) (lo:=lo.map ρ) (hi:=hi.map ρ) (mx:=none) (φ:=λ l h _=>K (.string (s.extract l h))) (by
     revert h
     generalize hi.map ρ=hi';intro h;cases hi' with
     |none=>exact h
     |some v=>exact h)
    refine ⟨_,λ w _=>?_,h⟩;simp only [execOp,hx,hmx];refine ZaD ?_;simp [Instr.sliceAt,Instr.slice,run_underlying hT,hr]
  ·exact h.elim
 ·rename_i e hT
  rw [hT] at hok;obtain ⟨ie,hie⟩:=Option.isSome_iff_exists.1 hok;split at h
  ·rename_i a n c hx
   obtain ⟨l,h',m,hr,h⟩:=Zeb (P:=P) (isS:=true) (len:=n) (cap:=c) (lo:=lo.map ρ) (hi:=hi.map ρ) (mx:=mx.map ρ) (φ:=λ l h m=>K (.slice (Zcn a l m (Zhc P e)) (h - l) (m - l))) (by
    revert h
    generalize hi.map ρ=hi';generalize mx.map ρ=mx';generalize lo.map ρ=lo';intro h;cases lo' with
    |some v=>exact h
    |none=>
     cases mx' with
     |none=>cases hi' with
      |none=>simpa [bnd,Zdk] using h
      |some v=>simpa [bnd,Zdk] using h
     |some u=>cases hi' with
      |none=>simpa [bnd] using h
      |some v=>simpa [bnd,Zdk] using h)
   refine ⟨_,λ w _=>?_,h⟩;simp only [execOp,hx];refine ZaD ?_;simp [Instr.sliceAt,Instr.slice,run_underlying hT,hr,Za6 hie,Zcn]
  ·exact h.elim
 ·rename_i n e hT
  rw [hT] at hok;obtain ⟨ie,hie⟩:=Option.isSome_iff_exists.1 hok;split at h
  ·rename_i p hx
   obtain ⟨a,rfl,h⟩:=h;obtain ⟨l,h',m,hr,h⟩:=Zeb (P:=P) (isS:=false) (len:=n) (cap:=n) (lo:=lo.map ρ) (hi:=hi.map ρ) (mx:=mx.map ρ) (φ:=λ l h m=>K (.slice (Zcn (some a) l m (Zhc P e)) (h - l) (m - l))) (by
    revert h
    generalize hi.map ρ=hi';generalize mx.map ρ=mx';generalize lo.map ρ=lo';intro h;cases lo' with
    |some v=>exact h
    |none=>
     cases mx' with
     |none=>cases hi' with
      |none=>simpa [bnd,Zdk] using h
      |some v=>simpa [bnd,Zdk] using h
     |some u=>cases hi' with
      |none=>simpa [bnd] using h
      |some v=>simpa [bnd,Zdk] using h)
   refine ⟨_,λ w _=>?_,h⟩;simp only [execOp,hx];refine ZaD ?_;have hc:(if m=l then some a else some (a.add (l * Zhc P e)))=Zcn (some a) l m (Zhc P e):=by unfold Zcn;split<;>rfl
   have hc':some (if m=l then a else a.add (l * Zhc P e))=Zcn (some a) l m (Zhc P e):=by unfold Zcn;split<;>rfl
   simp [Instr.sliceAt,Instr.sureAddr,run_underlying hT,hr,Za6 hie,hc']
  ·exact h.elim
 ·exact h.elim
def ZvW (P:Program) (op:Op):Bool:=
 match op with
 | .indexAddr T _ _| .slice T _ _ _ _=>ZlN P T
 | .index T _ _=>Zrj P T
 |_=>true
theorem Zop {s:Sem Next} (h:PR P s K):ZcQ P (λ _=>True) s K:=by
 unfold PR at h;split at h
 ·rename_i v hv;exact ⟨v,λ w _=>Zfl hv w,h⟩
 ·exact h.elim
theorem ZeZ {e:Env} {o:Oper} (hok:ZvW P o.op=true) (h:Zrb P e o K):ZcQ P (λ _=>True) (execOp e.ev o) K:=by
 unfold Zrb at h;split at h
 ·exact Zop h
 ·obtain ⟨dst,op,ty,pos,after,guard⟩:=o
  cases op<;>simp only at h hok<;>first|exact h.elim|skip
  case binOp op T x y T'=>
   obtain ⟨v,hv,hK⟩:=ZpI h _ _;exact ⟨v,λ w _=>ZaD (hv w),hK⟩
  case nilCheck x=>exact Zna h
  case indexAddr T x i=>exact Zil hok h
  case index T x i=>exact Zpm hok h
  case slice T x lo hi mx=>exact ZkR hok h
  case fieldAddr T x i=>
   unfold Zn5 at h;split at h
   ·rename_i p hx
    obtain ⟨a,rfl,h⟩:=Zd.out h;obtain ⟨v,hv,hK⟩:=Zop h;exact ⟨v,λ w _=>by simp only [execOp,hx];exact hv w trivial,hK⟩
   ·exact h.elim
end
def At (S:World->Prop) (p:Addr) (vs:List Value):Prop:=∀ w,S w->∀ i v,vs[i]? =some v->w.cell? (p.add i)=some v
def Zik (P:Program) (S:World->Prop) (T:TypeId) (x:Value) (K:Value->Prop):Prop:=
 match x with
 | .pointer q=>Zd q λ p=>(match ZiZ P T with
   |true=>(match ZzR P 6 T with
    |some ts=>ZmV ts λ vs=>At S p vs/\K (.agg vs.toArray)
    |none=>∃ vs:List Value,vs.length=Zhc P T/\At S p vs/\K (.agg vs.toArray))
   |false=>(ZAS P T).ex λ v=>At S p [v]/\K v)
 |_=>False
def Giv (P:Program) (S:World->Prop) (s:Sem Value) (t:Rt) (K:Value->Prop):Prop:=
 t.ex λ v=>(∀ w,S w->s.run P w=.ok v w)/\K v
def Zel (P:Program) (op:Op):Nat:=
 match op with
 | .load _ _=>1
 | .lookup _ _ _ _=>2
 | .entry _=>2
 | .typeAssert _ _ _ _=>2
 | .binOp _ T _ _ _=>(match Zec P T with|0=>2|_=>0)
 | .convert src dst _=>(match P.underlying dst with|some .string=>(match P.underlying src with|some (.slice _)=>2|some .string=>2|_=>0)|some (.int _)=>(match P.underlying src with|some (.float _)=>2|_=>0)|_=>0)
 | .call c=>(match c.callee with
  | .builtin .len=>(match c.argTypes[0]? with
   |some t=>(match P.underlying t with|some (.map _ _)=>2|_=>0)
   |none=>0)
  |_=>0)
 |_=>0
def Zp9 (ρ:Operand->Value) (o:Oper):Sem Value:=
 match o.op with
 | .lookup T x i ok=>Instr.lookup T (ρ x) (ρ i) ok
 | .entry it=>Instr.entry (ρ it)
 | .typeAssert x T T' ok=>Instr.typeAssert (ρ x) T T' ok
 | .binOp op T x y _=>(do eqGuard op T x y (ρ x) (ρ y);binOp op T (ρ x) (ρ y))
 | .convert src dst x=>convert src dst (ρ x)
 | .makeSlice T l c=>Instr.makeSlice T (ρ l) (ρ c)
 | .mapEntry T m k=>Instr.mapEntry T (ρ m) (ρ k)
 | .range T x=>Instr.range T (ρ x)
 | .next it isString=>Instr.next (ρ it) isString o.type
 | .call c=>(match c.callee with
  | .builtin .append=>Builtin.append_ c.argTypes o.type (c.args.map ρ)
  | .builtin .copy=>Builtin.copy_ c.argTypes o.type (c.args.map ρ)
  | .builtin .delete=>Builtin.delete_ c.argTypes o.type (c.args.map ρ)
  | .builtin .clear=>Builtin.clear_ c.argTypes o.type (c.args.map ρ)
  | .builtin .len=>Builtin.len_ c.argTypes o.type (c.args.map ρ)
  | _ => stuck "")
 | _ => stuck ""
def ZvQ (op:Op):Bool:=
 match op with
 | .lookup _ _ _ _| .entry _| .typeAssert _ _ _ _| .binOp _ _ _ _ _| .convert _ _ _| .makeSlice _ _ _| .mapEntry _ _ _| .range _ _| .next _ _=>true
 | .call c=>(match c.callee with
  | .builtin .append| .builtin .copy| .builtin .delete| .builtin .clear| .builtin .len=>true
  |_=>false)
 |_=>false
theorem Zco {P:Program} {ρ:Operand->Value} {o:Oper} (h:ZvQ o.op=true) {v:Value} {w w':World} (hr:(Zp9 ρ o).run P w=.ok v w'):
  (execOp ρ o).run P w=.ok (.value v) w':=by
 obtain ⟨dst,op,ty,pos,after,guard⟩:=o;cases op<;>simp only [ZvQ,Bool.false_eq_true] at h
 case call c=>
  obtain ⟨callee,args,ats⟩:=c;cases callee<;>simp only [Bool.false_eq_true] at h
  case builtin b=>
   cases b<;>simp only [Bool.false_eq_true] at h<;>exact ZaD (s:=_) hr
 all_goals exact ZaD (s:=_) hr
def ZqV (P:Program) (S:World->Prop) (ρ:Env) (o:Oper) (K:Value->Prop):Prop:=
 match Zel P o.op with
 |1=>(match o.op with| .load T x=>Zik P S T (ρ.ev x) K|_=>False)
 |_=>Giv P S (Zp9 ρ.ev o) (Zza P o.type) K
theorem ZlJ:∀ {ts:List Ty} {φ:List Value->Prop},ZmV ts φ->∃ vs,vs.length=ts.length/\φ vs
 |[],_,h=>⟨[],rfl,h⟩
 |_::_,_,h=>let ⟨v,h⟩:=Ty.ex_some h;let ⟨vs,hl,h⟩:=ZlJ h;⟨v::vs,by simp [hl],h⟩
def ZrS (P:Program) (T:TypeId):Bool:=
 (P.info? T).isSome && (P.underlying T).isSome && (match ZiZ P T with
 |true=>(match ZzR P 6 T with
  |some ts=>Nat.beq ts.length (Zhc P T)
  |none=>true)
 |false=>true)
theorem ZjQ {P:Program} {p:Addr} {vs:List Value} {w:World} (h:∀ i v,vs[i]? =some v->w.cell? (p.add i)=some v):
  (loadCells p vs.length).run P w=.ok vs.toArray w:=by
 have:=run_loadCells_list (P:=P) (w:=w) p vs h;simpa using this
theorem ZhF {P:Program} {S:World->Prop} {ρ:Operand->Value} {dst:Option Tmp} {ty:TypeId} {pos:String} {after:Array Edge} {guard:Option (Nat × Bool)} {K:Value->Prop}
  {T:TypeId} {x:Operand} (hok:ZrS P T=true) (h:Zik P S T (ρ x) K):ZcQ P S (execOp ρ ⟨dst,.load T x,ty,pos,after,guard⟩) K:=by
 unfold Zik at h;unfold ZrS at hok;simp only [Bool.and_eq_true] at hok;obtain ⟨⟨hinfo,hund⟩,hok⟩:=hok;obtain ⟨d,hd⟩:=Option.isSome_iff_exists.1 hund;obtain ⟨i,hi⟩:=Option.isSome_iff_exists.1 hinfo;split at h
 case h_2=>exact h.elim
 rename_i q hx;unfold Zd at h;split at h
 case h_2=>exact h.elim
 rename_i p;split at h
 ·rename_i hag
  have key:∀ vs:List Value,vs.length=Zhc P T->At S p vs->K (.agg vs.toArray)->ZcQ P S (execOp ρ ⟨dst,.load T x,ty,pos,after,guard⟩) K:=λ vs hl hat hK=>by
   refine ⟨_,λ w hw=>?_,hK⟩;simp only [execOp,hx];refine ZaD ?_;simp only [Instr.loadAt,Instr.sureAddr,loadVar,Sem.run_bind,Sem.run_pure,Result.andThen_ok,Zfz hd,hag,if_true,Za6 hi,<-hl,ZjQ (hat w hw)]
  split at h
  ·rename_i ts hts
   rw [hag] at hok;simp only [hts] at hok;obtain ⟨vs,hl,hat,hK⟩:=ZlJ h;exact key vs (by rw [hl];exact Nat.eq_of_beq_eq_true hok) hat hK
  ·obtain ⟨vs,hl,hat,hK⟩:=h
   exact key vs hl hat hK
 ·rename_i hag
  obtain ⟨v,hat,hK⟩:=Ty.ex_some h;refine ⟨_,λ w hw=>?_,hK⟩;have hc:w.cell? p=some v:=by have:=hat w hw 0 v rfl;simpa [Addr.add] using this
  simp only [execOp,hx];refine ZaD ?_;simp [Instr.loadAt,Instr.sureAddr,loadVar,Zfz hd,hag,hc]
def ZzI (P:Program) (op:Op):Bool:=match op with| .load T _=>ZrS P T|_=>true
theorem ZeW {P:Program} {S:World->Prop} {e:Env} {o:Oper} {K:Value->Prop} (hk:Zel P o.op≠0)
  (hok:ZzI P o.op=true) (h:ZqV P S e o K):ZcQ P S (execOp e.ev o) K:=by
 unfold ZqV at h;split at h
 ·rename_i hk1
  obtain ⟨dst,op,ty,pos,after,guard⟩:=o;cases op<;>simp only at h hok<;>first|exact h.elim|skip
  exact ZhF hok h
 ·rename_i hk1
  obtain ⟨v,hv,hK⟩:=Rt.ex_some h;refine ⟨v,λ w hw=>Zco ?_ (hv w hw),hK⟩;obtain ⟨dst,op,ty,pos,after,guard⟩:=o;cases op<;>simp only [Zel,ne_eq,not_true_eq_false] at hk hk1<;>first|rfl|exact (hk1 trivial).elim|skip
  case call c=>
   obtain ⟨callee,args,ats⟩:=c;cases callee<;>simp only [not_true_eq_false] at hk
   case builtin b=>cases b<;>simp only [not_true_eq_false] at hk<;>rfl
def New (o:Obj) (K:Nat->World->Prop) (w:World):Prop:=K w.heap.size (w.alloc o)
def newF (P:Program) (s:Sem Next) (K:Value->World->Prop) (w:World):Prop:=
 match ZiO P s with
 |some (o,f)=>New o (λ b w=>match f b with|some (.value v)=>K v w|_=>False) w
 |none=>False
def ZB0 (P:Program) (s:Sem Value) (t:Rt) (K:Value->World->Prop) (w:World):Prop:=∃ w',t.ex λ v=>s.run P w=.ok v w'/\K v w'
def ZB1 (P:Program) (s:Sem Unit) (K:World->Prop) (w:World):Prop:=∃ w',s.run P w=.ok () w'/\K w'
def Zu8 (p:Option Addr) (A:Int->Int->World->Prop) (B:World->Prop) (w:World):Prop:=
 ∃ r s pos,p=some ⟨r,0,none⟩/\w.heap[r]? =some (.stringIter s pos)/\
  (pos<s.size->A (pos:Int) ((Utf8.decode s pos).1:Int) { w with heap:=w.heap.setIfInBounds r (.stringIter s (pos + (Utf8.decode s pos).2)) })/\(¬ pos<s.size->B w)
def Zq1 (P:Program) (T:TypeId) (x:Value) (K:Value->World->Prop) (w:World):Prop:=
 match P.underlying T with
 |some .string=>(match x with| .string s=>New (.stringIter s 0) (λ b w=>K (.pointer (some ⟨b,0,none⟩)) w) w|_=>False)
 |some (.map _ _)=>ZB0 P (Instr.range T x) (.val (.one .ptr)) K w
 |_=>False
def ZAQ (P:Program) (s:Sem Value) (K:Value->World->Prop) (w:World):Prop:=
 ∃ w',(s.run P w=.ok (.tuple #[.bool false]) w'/\K (.tuple #[.bool false]) w')\/
  (∃ k v,s.run P w=.ok (.tuple #[.bool true,k,v]) w'/\K (.tuple #[.bool true,k,v]) w')
theorem Znb {P:Program} {s:Sem Value} {K:Value->World->Prop} {w:World} (h:ZAQ P s K w):∃ v w',s.run P w=.ok v w'/\K v w':=by
 obtain ⟨w',h|⟨k,v,h⟩⟩:=h
 ·exact ⟨_,w',h.1,h.2⟩
 ·exact ⟨_,w',h.1,h.2⟩
def Zws (x:Value) (K:Value->World->Prop) (w:World):Prop:=
 match x with
 | .pointer p=>Zu8 p (λ i c w=>K (.tuple #[.bool true,.int .i64 i,.int .i32 c]) w) (λ w=>K (.tuple #[.bool false]) w) w
 |_=>False
theorem Zk7 {P:Program} {T:TypeId} {x:Value} {K:Value->World->Prop} {w:World} (h:Zq1 P T x K w):∃ v w',(Instr.range T x).run P w=.ok v w'/\K v w':=by
 unfold Zq1 at h;split at h
 case h_3=>exact h.elim
 case h_2=>
  obtain ⟨w',h⟩:=h;obtain ⟨v,h⟩:=Rt.ex_some h;exact ⟨v,w',h⟩
 rename_i hT;split at h
 case h_2=>exact h.elim
 rename_i s;refine ⟨_,_,?_,h⟩;simp [Instr.range,run_underlying hT]
theorem ZmB {P:Program} {T:TypeId} {x:Value} {K:Value->World->Prop} {w:World} (h:Zws x K w):∃ v w',(Instr.next x true T).run P w=.ok v w'/\K v w':=by
 unfold Zws at h;split at h
 case h_2=>exact h.elim
 obtain ⟨r,s,pos,rfl,hk,hA,hB⟩:=h;by_cases hp:pos<s.size
 ·refine ⟨_,_,?_,hA hp⟩
  simp only [Instr.next,getObj,setObj,Sem.run_bind,Sem.run,hk,Result.andThen,hp,if_true];simp [goInt]
 ·refine ⟨_,_,?_,hB hp⟩
  simp [Instr.next,getObj,Sem.run,hk,hp]
def Ext (P:Program) (g:FuncId) (args:Array Value) (w:World) (Q:Ending->World->Prop):Prop:=∃ v w',(callFunc g args).run P w=.ok (.value v) w'/\Q (.returned v) w'
def Zak (P:Program) (cl:FuncId->Bool) (f:Value) (args:List Value) (w:World) (Q:Ending->World->Prop):Prop:=
 match f with
 | .func fn first captured=>(match fn with
  | .func g=>(match cl g with
   |true=>Calls P g (first.toList++(args++captured.toList)).toArray w Q
   |false=>Ext P g (first.toList++(args++captured.toList)).toArray w Q)
  |_=>False)
 |_=>False
theorem Zak.mono {P:Program} {cl:FuncId->Bool} {f:Value} {args:List Value} {w:World} {Q Q':Ending->World->Prop} (h:Zak P cl f args w Q) (hq:∀ e w,Q e w->Q' e w):Zak P cl f args w Q':=by
 unfold Zak at *;split at h
 ·split at h
  ·split at h
   ·exact Calls.mono h hq
   ·obtain ⟨v,w',h1,h2⟩:=h;exact ⟨v,w',h1,hq _ _ h2⟩
  ·exact h.elim
 ·exact h.elim
def calV (P:Program) (cl:FuncId->Bool) (f:Value) (args:Array Value) (t:Rt) (K:Value->World->Prop) (w:World):Prop:=
 Zak P cl f args.toList w λ e w'=>t.ex λ v=>e=.returned v/\K v w'
def rawF (P:Program) (s:Sem Next) (K:Value->World->Prop) (w:World):Prop:=
 match s.run P w with
 | .ok (.value v) w'=>K v w'
 | .ok .skip w'=>K undef w'
 |_=>False
def Zkh (op:Op):Nat:=
 match op with
 | .alloc _| .box _ _| .buildSlice _ _ _| .makeMap _ _=>1
 | .makeSlice _ _ _| .mapEntry _ _ _| .convert _ _ _=>2
 | .range _ _=>7
 | .next _ s=>(match s with|true=>8|false=>9)
 | .store _ _ _=>3
 | .mapUpdate _ _ _ _| .insert _ _ _ _=>4
 | .entryStore _ _ _ _=>5
 | .call c=>(match c.callee with
  | .builtin .append| .builtin .copy| .builtin .delete| .builtin .clear=>2
  | .value _=>6
  |_=>0)
 |_=>0
def ZBS (P:Program) (op:Op):Bool:=
 match op with
 | .buildSlice t len _=>(match Nat.beq len 1 with
  |true=>(match P.underlying t with
   |some (.slice e)=>(match P.underlying e with
    |some (.func _ _ _)=>true
    |_=>false)
   |_=>false)
  |false=>false)
 |_=>false
def rtME (P:Program) (o:Oper):Rt:=
 match o.op with
 | .mapEntry T _ _=>(match P.underlying T with
  |some (.map _ E)=>.tup [ZAR P E,.one (.int .i64)]
  |_=>Zza P o.type)
 |_=>Zza P o.type
def ZAY (P:Program) (cl:FuncId->Bool) (ρ:Env) (o:Oper) (K:Value->World->Prop) (w:World):Prop:=
 match Zkh o.op with
 |1=>(match ZBS P o.op with
  |true=>(match o.op with| .buildSlice t len parts=>ZB0 P (Instr.buildSlice t len (parts.map λ (i,x)=>(i,ρ.ev x))) (Zza P o.type) K w|_=>False)
  |false=>newF P (execOp ρ.ev o) K w)
 |2=>ZB0 P (Zp9 ρ.ev o) (rtME P o) K w
 |3=>(match o.op with| .store T a x=>ZB1 P (Instr.storeAt T (ρ.ev a) (ρ.ev x)) (K undef) w|_=>False)
 |4=>(match o.op with| .mapUpdate T m k x| .insert T m k x=>ZB1 P (Instr.mapUpdate T (ρ.ev m) (ρ.ev k) (ρ.ev x)) (K undef) w|_=>False)
 |5=>(match o.op with| .entryStore T m s x=>ZB1 P (Instr.entryStore T (ρ.ev m) (ρ.ev s) (ρ.ev x)) (K undef) w|_=>False)
 |6=>(match o.op with| .call c=>(match c.callee with| .value f=>calV P cl (ρ.ev f) (c.args.map ρ.ev) (Zza P o.type) K w|_=>False)|_=>False)
 |7=>(match o.op with| .range T x=>Zq1 P T (ρ.ev x) K w|_=>False)
 |8=>(match o.op with| .next it _=>Zws (ρ.ev it) K w|_=>False)
 |9=>(match o.op with| .next it _=>ZAQ P (Instr.next (ρ.ev it) false o.type) K w|_=>False)
 |_=>rawF P (execOp ρ.ev o) K w
def ZQ (P:Program) (g:FuncId):Bool:=
 match P.funcs[g]? with
 | some fn => fn.body.isSome && !(fn.name == "runtime.NumGoroutine")
 |none=>false
theorem Zea {P:Program} {g:FuncId} (h:ZQ P g=true) (args:Array Value) (w:World):(callFunc g args).run P w=.ok (.enter g args) w:=by
 unfold ZQ at h;split at h
 ·rename_i fn hf
  simp only [Bool.and_eq_true,Bool.not_eq_true'] at h;have hb:fn.body.isNone=false:=by cases hb:fn.body<;>simp_all
  simp only [callFunc,Sem.run_bind,run_program,Result.andThen_ok,hf,h.2,hb,Bool.false_eq_true,if_false];rfl
 ·simp at h
abbrev ZpU (a:Act) (d:Option Tmp) (K:Value->World->Prop):Act->World->Prop:=λ a' w'=>∃ v,a'=a.put d v/\K v w'
theorem Zi8 {P:Program} {cl:FuncId->Bool} (hcl:∀ g,cl g=true->ZQ P g=true) {a:Act} {e:Env} {o:Oper} {K:Value->World->Prop} {w:World}
  {Q:Exit->Act->World->Prop} (h:ZAY P cl e o K w):o.upon P a (ZpU a o.dst K) Q ((execOp e.ev o).run P w):=by
 unfold ZAY at h;split at h
 ·split at h
  ·clear hcl
   obtain ⟨dst,op,ty,pos,after,guard⟩:=o;cases op<;>simp only at h<;>first|exact h.elim|skip
   rename_i t len parts _ _;obtain ⟨w',h⟩:=h;obtain ⟨v,hr,hK⟩:=Rt.ex_some h;have:(execOp e.ev ⟨dst,.buildSlice t len parts,ty,pos,after,guard⟩).run P w=.ok (.value v) w':=by
    simp only [execOp];simp [hr]
   rw [this];exact ⟨v,rfl,hK⟩
  unfold newF at h;split at h
  ·rename_i ob f hn
   unfold New at h;dsimp only at h;split at h
   ·rename_i v hv
    rw [Zlk hn w hv];exact ⟨v,rfl,h⟩
   ·exact h.elim
  ·exact h.elim
 ·rename_i hk
  obtain ⟨w',h⟩:=h;obtain ⟨v,hr,hK⟩:=Rt.ex_some h;have hv:ZvQ o.op=true:=by
   obtain ⟨dst,op,ty,pos,after,guard⟩:=o;cases op<;>simp [Zkh] at hk<;>first|rfl|skip
   case call c=>
    obtain ⟨callee,args,ats⟩:=c;cases callee<;>simp at hk
    case builtin b=>cases b<;>simp at hk<;>rfl
  rw [Zco hv hr];exact ⟨v,rfl,hK⟩
 ·rename_i hk
  clear hk;obtain ⟨dst,op,ty,pos,after,guard⟩:=o;cases op<;>simp only at h<;>first|exact h.elim|skip
  rename_i T a' x;obtain ⟨w',hr,hK⟩:=h;have:(execOp e.ev ⟨dst,.store T a' x,ty,pos,after,guard⟩).run P w=.ok .skip w':=by simp only [execOp];simp [hr]
  rw [this];exact ⟨undef,rfl,hK⟩
 ·rename_i hk
  clear hk;obtain ⟨dst,op,ty,pos,after,guard⟩:=o;cases op<;>simp only at h<;>first|exact h.elim|skip
  case insert T m k x=>
   obtain ⟨w',hr,hK⟩:=h;have:(execOp e.ev ⟨dst,.insert T m k x,ty,pos,after,guard⟩).run P w=.ok .skip w':=by simp only [execOp];simp [hr]
   rw [this];exact ⟨undef,rfl,hK⟩
  case mapUpdate T m k x=>
   obtain ⟨w',hr,hK⟩:=h;have:(execOp e.ev ⟨dst,.mapUpdate T m k x,ty,pos,after,guard⟩).run P w=.ok .skip w':=by simp only [execOp];simp [hr]
   rw [this];exact ⟨undef,rfl,hK⟩
 ·rename_i hk
  clear hk;obtain ⟨dst,op,ty,pos,after,guard⟩:=o;cases op<;>simp only at h<;>first|exact h.elim|skip
  rename_i T m s x;obtain ⟨w',hr,hK⟩:=h;have:(execOp e.ev ⟨dst,.entryStore T m s x,ty,pos,after,guard⟩).run P w=.ok .skip w':=by simp only [execOp];simp [hr]
  rw [this];exact ⟨undef,rfl,hK⟩
 ·rename_i hk
  clear hk;obtain ⟨dst,op,ty,pos,after,guard⟩:=o;cases op<;>simp only at h<;>first|exact h.elim|skip
  case call c=>
   obtain ⟨callee,args,ats⟩:=c;cases callee<;>simp only at h<;>first|exact h.elim|skip
   case value f=>
    unfold calV Zak at h;split at h
    case h_2=>exact h.elim
    rename_i fn first captured hf
    split at h
    case h_2=>exact h.elim
    rename_i g;have hargs:(first++args.map e.ev)++captured=(first.toList++((args.map e.ev).toList++captured.toList)).toArray:=by
     apply Array.ext';simp
    split at h
    case h_2=>
     obtain ⟨v',w',hr,hx⟩:=h;have:(execOp e.ev ⟨dst,.call ⟨.value f,args,ats⟩,ty,pos,after,guard⟩).run P w=.ok (.value v') w':=by
      simp only [execOp,resolve,hf,Deferred.ofValue];simp only [Sem.run_bind,Sem.run_pure,Result.andThen_ok,invoke,<-hargs] at hr ⊢;exact hr
     rw [this];obtain ⟨v,hv,hK⟩:=Rt.ex_some hx;cases hv;exact ⟨_,rfl,hK⟩
    rename_i hg;have:(execOp e.ev ⟨dst,.call ⟨.value f,args,ats⟩,ty,pos,after,guard⟩).run P w=.ok (.enter g (first.toList++((args.map e.ev).toList++captured.toList)).toArray) w:=by
     simp only [execOp,resolve,hf,Deferred.ofValue];simp only [Sem.run_bind,Sem.run_pure,Result.andThen_ok,invoke,<-hargs];exact Zea (hcl g hg) _ w
    rw [this];refine Calls.mono h ?_;intro en w' hx;obtain ⟨v,rfl,hK⟩:=Rt.ex_some hx;exact ⟨v,rfl,hK⟩
 ·rename_i hk
  clear hk;obtain ⟨dst,op,ty,pos,after,guard⟩:=o;cases op<;>simp only at h<;>first|exact h.elim|skip
  obtain ⟨v,w',hr,hK⟩:=Zk7 h;rw [Zco (o:=⟨dst,_,ty,pos,after,guard⟩) rfl hr];exact ⟨v,rfl,hK⟩
 ·rename_i hk
  obtain ⟨dst,op,ty,pos,after,guard⟩:=o;cases op<;>simp only at h<;>first|exact h.elim|skip
  rename_i it b;cases b
  ·simp [Zkh] at hk
  obtain ⟨v,w',hr,hK⟩:=ZmB (T:=ty) h;rw [Zco (o:=⟨dst,.next it true,ty,pos,after,guard⟩) rfl hr];exact ⟨v,rfl,hK⟩
 ·rename_i hk
  obtain ⟨dst,op,ty,pos,after,guard⟩:=o;cases op<;>simp only at h<;>first|exact h.elim|skip
  rename_i it b;cases b
  rotate_left
  ·simp [Zkh] at hk
  obtain ⟨v,w',hr,hK⟩:=Znb h;rw [Zco (o:=⟨dst,.next it false,ty,pos,after,guard⟩) rfl hr];exact ⟨v,rfl,hK⟩
 ·unfold rawF at h
  split at h
  ·rename_i hr;rw [hr];exact ⟨_,rfl,h⟩
  ·rename_i hr;rw [hr];exact ⟨undef,rfl,h⟩
  ·exact h.elim
def opF (P:Program) (cl:FuncId->Bool) (ρ:Env) (o:Oper) (K:Value->World->Prop) (w:World):Prop:=
 match Zfm P o.op with
 |0=>(match Zel P o.op with
  |0=>ZAY P cl ρ o K w
  |_=>ZqV P (λ w'=>w'=w) ρ o (λ v=>K v w))
 |_=>Zrb P ρ o (λ v=>K v w)
def Zii (P:Program) (op:Op):Bool:=
 match op with
 | .load T _=>ZrS P T
 |op=>ZvW P op
theorem ZcQ.upon {P:Program} {S:World->Prop} {e:Env} {o:Oper} {K:Value->World->Prop} {a:Act} {w:World} {Q:Exit->Act->World->Prop}
  (hS:S w) (h:ZcQ P S (execOp e.ev o) (λ v=>K v w)):o.upon P a (ZpU a o.dst K) Q ((execOp e.ev o).run P w):=by
 obtain ⟨v,hv,hK⟩:=h;rw [hv w hS];exact ⟨v,rfl,hK⟩
theorem ZjE {P:Program} {op:Op} (h:Zii P op=true):ZvW P op=true:=by
 cases op<;>first|exact h|rfl
theorem Zmz {P:Program} {op:Op} (h:Zii P op=true):ZzI P op=true:=by
 cases op<;>first|exact h|rfl
theorem ZcB {P:Program} {cl:FuncId->Bool} (hcl:∀ g,cl g=true->ZQ P g=true) {a:Act} {e:Env} {o:Oper} {K:Value->World->Prop} {w:World}
  {Q:Exit->Act->World->Prop} (hok:Zii P o.op=true) (h:opF P cl e o K w):o.upon P a (ZpU a o.dst K) Q ((execOp e.ev o).run P w):=by
 unfold opF at h;split at h
 ·split at h
  ·exact Zi8 hcl h
  ·rename_i hk
   exact ZcQ.upon (S:=λ w'=>w'=w) rfl (ZeW hk (Zmz hok) h)
 ·exact ZcQ.upon (S:=λ _=>True) trivial (ZeZ (ZjE hok) h)
section
section
variable {P:Program} {ops:Array Oper} {Q:Exit->Act->World->Prop} {md:Region.Mode} {S:World->Prop} {need look:Nat->Bool}
def wpT (P:Program) (md:Region.Mode) (ops:Array Oper) (Q:Exit->Act->World->Prop) (S:World->Prop) (need look:Nat->Bool):Nat->Array Bool->Act->World->Prop
 |0,listed,a,w=>Region.ready md ops listed=[]/\Q .normal a w
 |fuel + 1,listed,a,w=>
  (Region.ready md ops listed=[]->Q .normal a w)/\
  ∀ i∈Region.ready md ops listed,wpOp P ops Q i (λ a' w'=>((need i=true->S w')/\(look i=true->w'=w))/\wpT P md ops Q S need look fuel (listed.setIfInBounds i true) a' w') a w
theorem Zg4:∀ (fuel:Nat) (listed:Array Bool) (a:Act) (w:World),wpT P md ops Q S need look fuel listed a w->wpAny P md ops Q fuel listed a w
 |0,_,_,_,h=>h
 |fuel + 1,_,_,_,h=>⟨h.1,λ i hi=>wpOp_mono (λ a' w' h'=>Zg4 fuel _ a' w' h'.2) (h.2 i hi)⟩
theorem Zas {T:World->Prop} {i:Nat} {oi:Oper} {v:Value} (hi:ops[i]? =some oi) (hsel:∀ (j:Nat) (o:Oper) cs b,ops[j]? =some o->o.op≠.select cs b)
  (hQ:∀ c a w,Q (.panic c) (a.put oi.dst v) w->Q (.panic c) a w) (hni:need i=false):
  ∀ (fuel:Nat) (listed:Array Bool) (a:Act) (w:World),
   (∀ j oj,ops[j]? =some oj->j≠i->listed.getD j true=false->(∀ e∈oj.after,Region.binds md e=true->e.on≠i)->
    oi.apart ops oj=true/\∀ w w',T w->(need j=true->S w')->(look j=true->w'=w)->T w')->
   i∈Region.ready md ops listed->YieldsIf P ops T oi v a->T w->
   wpT P md ops Q S need look fuel (listed.setIfInBounds i true) (a.put oi.dst v) w->wpT P md ops Q S need look (fuel + 1) listed a w:=by
 intro fuel
 induction fuel with
 |zero=>
  intro listed a w hfree hr hy hT H;refine ⟨λ h=>(by rw [h] at hr;cases hr),λ j hj=>?_⟩;by_cases hji:j=i
  ·subst hji
   exact hy.wpOp hi hT ⟨⟨λ h=>(by rw [hni] at h;cases h),λ _=>rfl⟩,H⟩
  ·have:=ready_mono hj hji
   rw [H.1] at this;cases this
 |succ fuel ih=>
  intro listed a w hfree hr hy hT H;refine ⟨λ h=>(by rw [h] at hr;cases hr),λ j hj=>?_⟩;by_cases hji:j=i
  ·subst hji
   exact hy.wpOp hi hT ⟨⟨λ h=>(by rw [hni] at h;cases h),λ _=>rfl⟩,H⟩
  ·have h1:=H.2 j (ready_mono hj hji)
   obtain ⟨hjun,oj,hoj,hall⟩:=mem_ready.1 hj;have hnot:∀ e∈oj.after,Region.binds md e=true->e.on≠i:=λ e he hb heq=>by
    have h1:=hall e he hb;have h0:=(mem_ready.1 hr).1;rw [heq] at h1;rcases Nat.lt_or_ge i listed.size with h'|h'
    ·simp [h'] at h0 h1;rw [h0] at h1;cases h1
    ·simp [Array.getElem?_eq_none h'] at h1
   obtain ⟨hap,hkeep⟩:=hfree j oj hoj hji hjun hnot;have h2:=wpOp_putIf hoj hap (λ cs b=>hsel i oi cs b hi) (λ cs b=>hsel j oj cs b hoj) hQ hy h1;refine wpOp_mono (λ a' w' h3=>⟨h3.2.1,ih (listed.setIfInBounds j true) a' w' ?_ (ready_mono hr (Ne.symm hji)) h3.1 (hkeep w w' hT h3.2.1.1 h3.2.1.2) ?_⟩) h2
   ·intro k ok hk hki hun hno
    refine hfree k ok hk hki ?_ hno;by_cases hjk:j=k
    ·subst hjk;exact hjun
    ·rw [getD_set_ne true hjk] at hun;exact hun
   ·rw [Array.setIfInBounds_comm _ _ hji]
    exact h3.2.2
theorem Zed {T:World->Prop} {D:Nat->Bool} {i:Nat} {oi:Oper} {v:Value} (hi:ops[i]? =some oi) (hsel:∀ (j:Nat) (o:Oper) cs b,ops[j]? =some o->o.op≠.select cs b)
  (hQ:∀ c a w,Q (.panic c) (a.put oi.dst v) w->Q (.panic c) a w) (hni:need i=false)
  (hD:∀ j oj,D j=true->j≠i->ops[j]? =some oj->∃ e∈oj.after,Region.binds md e=true/\D e.on=true):
  ∀ (fuel:Nat) (listed:Array Bool) (a:Act) (w:World),
   (∀ j oj,ops[j]? =some oj->j≠i->listed.getD j true=false->D j=false->(∀ e∈oj.after,Region.binds md e=true->e.on≠i)->
    oi.apart ops oj=true/\∀ w w',T w->(need j=true->S w')->(look j=true->w'=w)->T w')->
   (∀ j,D j=true->listed.getD j true=false)->i∈Region.ready md ops listed->YieldsIf P ops T oi v a->T w->
   wpT P md ops Q S need look fuel (listed.setIfInBounds i true) (a.put oi.dst v) w->wpT P md ops Q S need look (fuel + 1) listed a w:=by
 intro fuel
 induction fuel with
 |zero=>
  intro listed a w hfree hun hr hy hT H;refine ⟨λ h=>(by rw [h] at hr;cases hr),λ j hj=>?_⟩;by_cases hji:j=i
  ·subst hji
   exact hy.wpOp hi hT ⟨⟨λ h=>(by rw [hni] at h;cases h),λ _=>rfl⟩,H⟩
  ·have:=ready_mono hj hji
   rw [H.1] at this;cases this
 |succ fuel ih=>
  intro listed a w hfree hun hr hy hT H;refine ⟨λ h=>(by rw [h] at hr;cases hr),λ j hj=>?_⟩;by_cases hji:j=i
  ·subst hji
   exact hy.wpOp hi hT ⟨⟨λ h=>(by rw [hni] at h;cases h),λ _=>rfl⟩,H⟩
  ·have h1:=H.2 j (ready_mono hj hji)
   obtain ⟨hjun,oj,hoj,hall⟩:=mem_ready.1 hj;have hnot:∀ e∈oj.after,Region.binds md e=true->e.on≠i:=λ e he hb heq=>by
    have h1:=hall e he hb;have h0:=(mem_ready.1 hr).1;rw [heq] at h1;rcases Nat.lt_or_ge i listed.size with h'|h'
    ·simp [h'] at h0 h1;rw [h0] at h1;cases h1
    ·simp [Array.getElem?_eq_none h'] at h1
   have hDj:D j=false:=by
    cases hd:D j with
    |false=>rfl
    |true=>
     obtain ⟨e,he,hb,hde⟩:=hD j oj hd hji hoj;have h1:=hall e he hb;have h0:=hun e.on hde;rcases Nat.lt_or_ge e.on listed.size with h'|h'
     ·simp [h'] at h0 h1;rw [h0] at h1;cases h1
     ·simp [Array.getElem?_eq_none h'] at h1
   obtain ⟨hap,hkeep⟩:=hfree j oj hoj hji hjun hDj hnot;have h2:=wpOp_putIf hoj hap (λ cs b=>hsel i oi cs b hi) (λ cs b=>hsel j oj cs b hoj) hQ hy h1;refine wpOp_mono (λ a' w' h3=>⟨h3.2.1,ih (listed.setIfInBounds j true) a' w' ?_ ?_ (ready_mono hr (Ne.symm hji)) h3.1 (hkeep w w' hT h3.2.1.1 h3.2.1.2) ?_⟩) h2
   ·intro k ok hk hki hun hdk hno
    refine hfree k ok hk hki ?_ hdk hno;by_cases hjk:j=k
    ·subst hjk;exact hjun
    ·rw [getD_set_ne true hjk] at hun;exact hun
   ·intro k hdk
    have hjk:j≠k:=λ h=>by rw [h,hdk] at hDj;cases hDj
    rw [getD_set_ne true hjk];exact hun k hdk
   ·rw [Array.setIfInBounds_comm _ _ hji]
    exact h3.2.2
end
def ZdH (ops:Array Oper) (ρ:Env) (o:Oper) (run skip:Env->Prop):Prop:=
 match o.guard with
 |none=>run ρ
 |some (j,want)=>(match (ops[j]?).bind (·.dst) with
  |none=>skip ρ
  |some d=>(match ρ d with
   | .bool b=>(match want with
    |true=>Br b (run (ρ.set d (.bool true))) (skip (ρ.set d (.bool false)))
    |false=>Br b (skip (ρ.set d (.bool true))) (run (ρ.set d (.bool false))))
   |_=>skip ρ))
def Zsq (d k:Nat):List Oper->Option TypeId
 |[]=>none
 |o::os=>match o.op with
  | .extract x j=>(match x with
   | .tmp t=>(match Nat.beq t d && Nat.beq j k with
    |true=>some o.type
    |false=>Zsq d k os)
   |_=>Zsq d k os)
  |_=>Zsq d k os
def vtE (P:Program) (t:Option TypeId):Vt:=match t with|some t=>ZAR P t|none=>.one .any
def ZmN (op:Op):Bool:=match op with| .entry _=>true|_=>false
def ZAX (P:Program) (S:World->Prop) (ops:Array Oper) (ρ:Env) (o:Oper) (K:Value->Prop):Prop:=
 match o.op with
 | .entry x=>(match o.dst with
  |some d=>Giv P S (Instr.entry (ρ.ev x)) (.tup [vtE P (Zsq d 0 ops.toList),vtE P (Zsq d 1 ops.toList)]) K
  |none=>False)
 |_=>False
def opE (P:Program) (cl:FuncId->Bool) (ops:Array Oper) (ρ:Env) (o:Oper) (K:Value->World->Prop) (w:World):Prop:=
 match ZmN o.op with
 |true=>ZAX P (λ w'=>w'=w) ops ρ o (λ v=>K v w)
 |false=>opF P cl ρ o K w
def Ztr (P:Program) (cl:FuncId->Bool) (ops:Array Oper):List Oper->Env->(Env->World->Prop)->World->Prop
 |[],ρ,K,w=>K ρ w
 |o::rest,ρ,K,w=>ZdH ops ρ o
   (λ ρ=>opE P cl ops ρ o (λ v w=>Ztr P cl ops rest (ρ.put o.dst v) K w) w)
   (λ ρ=>Ztr P cl ops rest (ρ.put o.dst undef) K w)
def Z9 (P:Program) (op:Op):Bool:=match Zfm P op with|0=>(match Zel P op with|0=>false|_=>true)|_=>false
def Zae (P:Program) (op:Op):Bool:=match Zfm P op with|0=>false|_=>true
def Zc5 (P:Program) (ops:Array Oper) (j:Nat):Bool:=
 match ops[j]? with
 |none=>false
 |some oj=>!Z9 P oj.op && !Zae P oj.op && (List.range ops.size).any λ i=>match ops[i]? with
  |some oi=>Z9 P oi.op && !oj.after.any (λ e=>Region.binds .any e && Nat.beq e.on i)
  |none=>false
def ZAT (P:Program) (S:World->Prop) (hs:Bool) (ρ:Env) (o:Oper) (K:Value->Prop):Prop:=
 match Zae P o.op with
 |true=>Zrb P ρ o K
 |false=>(match hs with
  |true=>ZqV P S ρ o K
  |false=>False)
def ZtL (P:Program) (ops:Array Oper) (S:World->Prop) (hs:Bool) (ρ:Env) (o:Oper) (K:Value->Prop):Prop:=
 match ZmN o.op with
 |true=>(match hs with
  |true=>ZAX P S ops ρ o K
  |false=>False)
 |false=>ZAT P S hs ρ o K
def Zlg (P:Program) (ops:Array Oper) (listed:Array Bool):List Nat->Option Nat
 |[]=>none
 |i::is=>match ops[i]? with
  |some o=>(match Zae P o.op||Z9 P o.op with
   |true=>(match Region.free .any ops listed i with
    |true=>some i
    |false=>Zlg P ops listed is)
   |false=>Zlg P ops listed is)
  |none=>Zlg P ops listed is
def Zzh (f:Nat->Prop):List Nat->Prop
 |[]=>True
 |[i]=>f i
 |i::is=>f i/\Zzh f is
def Zg1 (ops:Array Oper) (listed:Array Bool) (i:Nat):Nat->Nat->Bool
 |0,j=>Nat.beq j i
 |n + 1,j=>Nat.beq j i||(!listed.getD j true && match ops[j]? with
  |some oj=>oj.after.any (λ e=>Region.binds .any e && Zg1 ops listed i n e.on)
  |none=>false)
def Zd5 (P:Program) (ops:Array Oper) (listed:Array Bool) (i:Nat):Bool:=(List.range ops.size).all λ j=>listed.getD j true||(Zg1 ops listed i 8 j||match ops[j]? with
 |some oj=>(Zae P oj.op||Z9 P oj.op)
 |none=>true)
def ZpP (P:Program) (cl:FuncId->Bool) (ops:Array Oper) (S:World->Prop) (ex:Bool):Nat->Bool->Array Bool->Env->(Env->World->Prop)->World->Prop
 |0,_,listed,ρ,K,w=>(match Region.ready .any ops listed with
  |[]=>K ρ w
  |_=>False)
 |fuel + 1,hs,listed,ρ,K,w=>(match Region.ready .any ops listed with
  |[]=>K ρ w
  |r::rs=>(match Zlg P ops listed (r::rs) with
   |some i=>(match ops[i]? with
    |some o=>ZdH ops ρ o
      (λ ρ=>(match ex && Zd5 P ops listed i with
       |true=>ZtL P ops (λ w'=>w'=w) true ρ o λ v=>ZpP P cl ops S ex fuel hs (listed.setIfInBounds i true) (ρ.put o.dst v) K w
       |false=>ZtL P ops S hs ρ o λ v=>ZpP P cl ops S ex fuel hs (listed.setIfInBounds i true) (ρ.put o.dst v) K w))
      (λ ρ=>ZpP P cl ops S ex fuel hs (listed.setIfInBounds i true) (ρ.put o.dst undef) K w)
    |none=>False)
   |none=>Zzh (λ i=>match ops[i]? with
    |some o=>ZdH ops ρ o
      (λ ρ=>(match Zae P o.op||Z9 P o.op with
       |true=>False
       |false=>match Zc5 P ops i with
       |true=>opF P cl ρ o (λ v w=>S w/\ZpP P cl ops S ex fuel hs (listed.setIfInBounds i true) (ρ.put o.dst v) K w) w
       |false=>opF P cl ρ o (λ v w=>ZpP P cl ops S ex fuel false (listed.setIfInBounds i true) (ρ.put o.dst v) K w) w))
      (λ ρ=>(match Zae P o.op||Z9 P o.op with
       |true=>False
       |false=>match Zc5 P ops i with
       |true=>(match hs with
        |true=>ZpP P cl ops S ex fuel true (listed.setIfInBounds i true) (ρ.put o.dst undef) K w
        |false=>False)
       |false=>ZpP P cl ops S ex fuel false (listed.setIfInBounds i true) (ρ.put o.dst undef) K w))
    |none=>False) (r::rs)))
def Drw (w:World) (F:(World->Prop)->World->Prop):Prop:=∃ S0 S:World->Prop,S0 w.drew/\∀ w',S0 w'->S w'/\F S w'
def _root_.Go.Act.env (a:Act):Env:=λ i=>a.tmps.getD i undef
theorem Zap (a:Act):a.env.ev=a.eval:=by funext x;cases x<;>rfl
theorem Zgi {a:Act} {d:Option Tmp} {v:Value} (h:∀ x,d=some x->x<a.tmps.size):(a.put d v).env=a.env.put d v:=by
 cases d with
 |none=>rfl
 |some d=>
  have hd:=h d rfl
  funext i
  simp only [Act.env,Act.put,Env.put,Env.set];by_cases hi:i=d
  ·subst hi;simp [hd]
  ·have:Nat.beq i d=false:=by
    cases hb:Nat.beq i d with
    |false=>rfl
    |true=>exact absurd (Nat.eq_of_beq_eq_true hb) hi
   simp [this,Array.getElem?_setIfInBounds_ne (Ne.symm hi)]
theorem ZgC {ρ:Env} {d:Nat} {v:Value} (h:ρ d=v):ρ.set d v=ρ:=by
 funext i
 simp only [Env.set];split
 ·rename_i hb;rw [Nat.eq_of_beq_eq_true hb,h]
 ·rfl
theorem Zjy (a:Act) (d:Option Tmp) (v:Value):(a.put d v).tmps.size=a.tmps.size:=by
 cases d<;>simp [Act.put]
theorem Zf1 (a:Act) (d:Option Tmp) (v:Value):(a.put d v).defers=a.defers:=by
 cases d<;>rfl
structure Zcr (n:Nat) (pw:Nat->Bool) (a0:Env) (a:Act):Prop where
 size:a.tmps.size=n
 defers:a.defers=[]
 same:∀ i,pw i=false->a.env i=a0 i
def ZbD (n:Nat) (pw:Nat->Bool) (o:Oper):Bool:=match o.dst with|some d=>Nat.blt d n && pw d|none=>true
theorem Zcr.put {n:Nat} {pw:Nat->Bool} {a0:Env} {a:Act} (h:Zcr n pw a0 a) {o:Oper} (ho:ZbD n pw o=true) (v:Value):Zcr n pw a0 (a.put o.dst v):=by
 refine ⟨by rw [Zjy];exact h.size,by rw [Zf1];exact h.defers,λ i hi=>?_⟩;unfold ZbD at ho;have hd:∀ x,o.dst=some x->x<a.tmps.size:=λ x hx=>by
  rw [hx] at ho;simp only [Bool.and_eq_true] at ho;rw [h.size];exact Nat.blt_eq.mp ho.1
 rw [Zgi hd];cases hx:o.dst with
 |none=>exact h.same i hi
 |some d=>
  rw [hx] at ho;simp only [Bool.and_eq_true] at ho;simp only [Env.put,Env.set];split
  ·rename_i hb;have:=Nat.eq_of_beq_eq_true hb;subst this;rw [hi] at ho;simp at ho
  ·exact h.same i hi
theorem Zcr.envput {n:Nat} {pw:Nat->Bool} {a0:Env} {a:Act} (h:Zcr n pw a0 a) {o:Oper} (ho:ZbD n pw o=true) (v:Value):(a.put o.dst v).env=a.env.put o.dst v:=by
 refine Zgi λ x hx=>?_;unfold ZbD at ho;rw [hx] at ho;simp only [Bool.and_eq_true] at ho;rw [h.size];exact Nat.blt_eq.mp ho.1
theorem Zma (ops:Array Oper) (a:Act) (j:Nat):yielded ops a.tmps j=match (ops[j]?).bind (·.dst) with
  |none=>none
  |some d=>match a.env d with| .bool b=>some b|_=>none:=by
 unfold yielded;cases (ops[j]?).bind (·.dst) with
 |none=>rfl
 |some d=>
  simp only [Option.bind_some,Act.env,Array.getD_eq_getD_getElem?];cases a.tmps[d]? with
  |none=>simp [undef]
  |some v=>cases v<;>rfl
theorem Zaa {ops:Array Oper} {a:Act} {o:Oper} {run skip:Env->Prop} (h:ZdH ops a.env o run skip):
  (Region.wanted o (yielded ops a.tmps)=true/\run a.env)\/(Region.wanted o (yielded ops a.tmps)=false/\skip a.env):=by
 unfold ZdH at h;unfold Region.wanted;split at h
 ·rename_i hg;rw [hg];exact .inl ⟨rfl,h⟩
 ·rename_i j want hg
  rw [hg];simp only [Zma];split at h
  ·exact .inr ⟨rfl,h⟩
  ·rename_i d hd
   split at h
   ·rename_i b hb
    cases b with
    |true=>
     rw [ZgC hb] at h;cases want with
     |true=>exact .inl ⟨rfl,h⟩
     |false=>exact .inr ⟨rfl,h⟩
    |false=>
     rw [ZgC hb] at h;cases want with
     |true=>exact .inr ⟨rfl,h⟩
     |false=>exact .inl ⟨rfl,h⟩
   ·rename_i hb
    refine .inr ⟨?_,h⟩;cases hv:a.env d<;>first|rfl|exact absurd hv (hb _)
theorem Zi6 {P:Program} {S:World->Prop} {ops:Array Oper} {e:Env} {o:Oper} {K:Value->Prop} (h:ZAX P S ops e o K):ZcQ P S (execOp e.ev o) K:=by
 unfold ZAX at h;split at h
 case h_2=>exact h.elim
 rename_i x hop;split at h
 case h_2=>exact h.elim
 obtain ⟨v,hv,hK⟩:=Rt.ex_some h;obtain ⟨dst,op,ty,pos,after,guard⟩:=o;simp only at hop;subst hop;exact ⟨v,λ w hw=>Zco rfl (hv w hw),hK⟩
theorem Zli {P:Program} {cl:FuncId->Bool} {ops:Array Oper} (hcl:∀ g,cl g=true->ZQ P g=true) {a:Act} {e:Env} {o:Oper} {K:Value->World->Prop} {w:World}
  {Q:Exit->Act->World->Prop} (hok:Zii P o.op=true) (h:opE P cl ops e o K w):o.upon P a (ZpU a o.dst K) Q ((execOp e.ev o).run P w):=by
 unfold opE at h;split at h
 ·exact ZcQ.upon (S:=λ w'=>w'=w) rfl (Zi6 h)
 ·exact ZcB hcl hok h
section
variable {P:Program} {cl:FuncId->Bool} {ops:Array Oper} {Q:Exit->Act->World->Prop} {n:Nat} {pw:Nat->Bool} {a0:Env}
theorem Zai (hcl:∀ g,cl g=true->ZQ P g=true) {K:Env->World->Prop}
  (hQ:∀ a w,Zcr n pw a0 a->K a.env w->Q .normal a w):∀ (l:List Oper) (_:∀ o∈l,Zii P o.op=true/\ZbD n pw o=true) (a:Act) (w:World),
   Zcr n pw a0 a->Ztr P cl ops l a.env K w->wpList P ops Q l a w
 |[],_,a,w,hk,h=>hQ a w hk h
 |o::rest,hl,a,w,hk,h=>by
  have ho:=hl o (List.mem_cons_self ..);have hrest:=λ x hx=>hl x (List.mem_cons_of_mem _ hx);unfold Ztr at h;unfold wpList;rcases Zaa h with ⟨hw,h⟩|⟨hw,h⟩
  ·rw [if_pos hw]
   refine .inl ?_;have:=Zli hcl (a:=a) (Q:=Q) ho.1 h;rw [Zap] at this;unfold Oper.wp;refine upon_mono ?_ this;rintro a' w' ⟨v,rfl,hv⟩;refine Zai hcl hQ rest hrest _ w' (hk.put ho.2 v) ?_;rw [hk.envput ho.2];exact hv
  ·rw [hw]
   simp only [Bool.false_eq_true,if_false];refine Zai hcl hQ rest hrest _ w (hk.put ho.2 _) ?_;rw [hk.envput ho.2];exact h
where
 upon_mono {o:Oper} {a:Act} {K K':Act->World->Prop} {r:Result Next} (h:∀ a w,K a w->K' a w) (hh:o.upon P a K Q r):o.upon P a K' Q r:=by
  cases r with
  |ok x w'=>
   cases x<;>simp only [Oper.upon] at hh ⊢<;>
    first
     |exact h _ _ hh
     |exact Calls.mono hh (λ e w'' he=>by cases e<;>first|exact h _ _ he|exact he)
     |exact Rows.mono hh (λ _ _ he=>h _ _ he)
  |halt x w'=>cases x<;>simp only [Oper.upon] at hh ⊢<;>exact hh
theorem Ziy {S:World->Prop} {hs:Bool} {e:Env} {o:Oper} {K:Value->Prop} (hok:Zii P o.op=true) (hr:(Zae P o.op||Z9 P o.op)=true) (h:ZAT P S hs e o K):
  (Zae P o.op=true/\ZcQ P (λ _=>True) (execOp e.ev o) K)\/(Zae P o.op=false/\hs=true/\ZcQ P S (execOp e.ev o) K):=by
 unfold ZAT at h;split at h
 ·rename_i hp;exact .inl ⟨hp,ZeZ (ZjE hok) h⟩
 ·rename_i hp
  split at h
  ·refine .inr ⟨hp,rfl,ZeW ?_ (Zmz hok) h⟩
   rw [hp] at hr;simp only [Bool.false_or] at hr;unfold Z9 at hr;intro hk;rw [hk] at hr;split at hr<;>simp at hr
  ·exact h.elim
theorem ZbN {ops:Array Oper} {S:World->Prop} {hs:Bool} {e:Env} {o:Oper} {K:Value->Prop} (hok:Zii P o.op=true) (hr:(Zae P o.op||Z9 P o.op)=true) (h:ZtL P ops S hs e o K):
  (Zae P o.op=true/\ZcQ P (λ _=>True) (execOp e.ev o) K)\/(Zae P o.op=false/\hs=true/\ZcQ P S (execOp e.ev o) K):=by
 unfold ZtL at h;split at h
 ·rename_i he
  split at h
  ·refine .inr ⟨?_,rfl,Zi6 h⟩
   unfold ZmN at he;split at he
   ·rename_i hop
    rw [hop];rfl
   ·cases he
  ·exact h.elim
 ·exact Ziy hok hr h
theorem Zcq {listed:Array Bool}:∀ {l:List Nat} {i:Nat},Zlg P ops listed l=some i->i∈l/\∃ o,ops[i]? =some o/\(Zae P o.op||Z9 P o.op)=true/\Region.free .any ops listed i=true
 |[],_,h=>by cases h
 |j::l,i,h=>by
  unfold Zlg at h;split at h
  ·rename_i o ho
   split at h
   ·rename_i hp
    split at h
    ·rename_i hf
     cases h;exact ⟨List.mem_cons_self ..,o,ho,hp,hf⟩
    ·have:=Zcq h;exact ⟨List.mem_cons_of_mem _ this.1,this.2⟩
   ·have:=Zcq h;exact ⟨List.mem_cons_of_mem _ this.1,this.2⟩
  ·have:=Zcq h;exact ⟨List.mem_cons_of_mem _ this.1,this.2⟩
theorem ZfQ {f:Nat->Prop}:∀ {l:List Nat},Zzh f l->∀ i∈l,f i
 |[],_,i,hi=>by cases hi
 |[j],h,i,hi=>by simp at hi;subst hi;exact h
 |j::k::l,h,i,hi=>by
  rcases List.mem_cons.1 hi with rfl|hi
  ·exact h.1
  ·exact ZfQ h.2 i hi
theorem Zta {listed:Array Bool} {i:Nat}:∀ (n j:Nat),Zg1 ops listed i n j=true->Zg1 ops listed i (n + 1) j=true
 |0,j,h=>by
  unfold Zg1 at h;unfold Zg1;rw [h];rfl
 |n + 1,j,h=>by
  unfold Zg1 at h;unfold Zg1;rcases Bool.or_eq_true _ _|>.mp h with h1|h1
  ·rw [h1];rfl
  ·rw [Bool.and_eq_true] at h1
   obtain ⟨h2,h3⟩:=h1;rw [h2];split at h3
   ·rename_i oj ho
    obtain ⟨e,he,hb⟩:=Array.any_eq_true'.1 h3;rw [Bool.and_eq_true] at hb;have:oj.after.any (λ e=>Region.binds .any e && Zg1 ops listed i (n + 1) e.on)=true:=Array.any_eq_true'.2 ⟨e,he,by rw [hb.1,Zta n e.on hb.2];rfl⟩;rw [this];simp
   ·cases h3
theorem Zkt {listed:Array Bool} {i:Nat} (hi:listed.getD i true=false):∀ (n j:Nat),Zg1 ops listed i n j=true->listed.getD j true=false
 |0,j,h=>by unfold Zg1 at h;rw [Nat.eq_of_beq_eq_true h];exact hi
 |n + 1,j,h=>by
  unfold Zg1 at h;rcases Bool.or_eq_true _ _|>.mp h with h1|h1
  ·rw [Nat.eq_of_beq_eq_true h1];exact hi
  ·rw [Bool.and_eq_true] at h1
   simpa using h1.1
theorem ZfN {listed:Array Bool} {i j:Nat} {oj:Oper}:∀ (n:Nat),Zg1 ops listed i n j=true->j≠i->ops[j]? =some oj->∃ e∈oj.after,Region.binds .any e=true/\Zg1 ops listed i n e.on=true
 |0,h,hji,_=>by unfold Zg1 at h;exact absurd (Nat.eq_of_beq_eq_true h) hji
 |n + 1,h,hji,ho=>by
  unfold Zg1 at h;rcases Bool.or_eq_true _ _|>.mp h with h1|h1
  ·exact absurd (Nat.eq_of_beq_eq_true h1) hji
  ·rw [Bool.and_eq_true,ho] at h1
   obtain ⟨e,he,hb⟩:=Array.any_eq_true'.1 h1.2;rw [Bool.and_eq_true] at hb;exact ⟨e,he,hb.1,Zta n e.on hb.2⟩
theorem Zgh {listed:Array Bool} {i j:Nat} {oj:Oper} (h:Zd5 P ops listed i=true) (hj:ops[j]? =some oj) (hun:listed.getD j true=false) (hno:Zg1 ops listed i 8 j=false):(Zae P oj.op||Z9 P oj.op)=true:=by
 unfold Zd5 at h;have h1:=List.all_eq_true.1 h j (List.mem_range.2 (Array.getElem?_eq_some_iff.1 hj).1);rw [hun,hj,hno] at h1;simpa using h1
theorem ZjK {i j:Nat} {oi oj:Oper} (hi:ops[i]? =some oi) (hj:ops[j]? =some oj) (hri:Z9 P oi.op=true)
  (hjr:(Zae P oj.op||Z9 P oj.op)=false) (hno:∀ e∈oj.after,Region.binds .any e=true->e.on≠i):Zc5 P ops j=true:=by
 unfold Zc5;rw [hj];simp only [Bool.or_eq_false_iff] at hjr;simp only [hjr.1,hjr.2,Bool.not_false,Bool.true_and,List.any_eq_true,List.mem_range];refine ⟨i,(Array.getElem?_eq_some_iff.1 hi).1,?_⟩;rw [hi];simp only [hri,Bool.true_and,Bool.not_eq_true'];rw [<-Bool.not_eq_true,Array.any_eq_true'];rintro ⟨e,he,hb⟩;simp only [Bool.and_eq_true] at hb;exact hno e he hb.1 (Nat.eq_of_beq_eq_true hb.2)
theorem Zjf {i:Nat} {o:Oper} {a:Act} {w:World} {K:Act->World->Prop} (hi:ops[i]? =some o)
  (h:(Region.wanted o (yielded ops a.tmps)=true/\o.upon P a K Q ((execOp a.eval o).run P w))\/(Region.wanted o (yielded ops a.tmps)=false/\K (a.put o.dst undef) w)):wpOp P ops Q i K a w:=by
 unfold wpOp;rw [hi];rcases h with ⟨hw,h⟩|⟨hw,h⟩
 ·simp only [hw,if_true];exact .inl h
 ·simp only [hw,Bool.false_eq_true,if_false];exact h
def looks (P:Program) (ops:Array Oper) (j:Nat):Bool:=match ops[j]? with|some o=>Zae P o.op||Z9 P o.op|none=>false
theorem ZpO (hcl:∀ g,cl g=true->ZQ P g=true) (hsel:Region.noSelect ops=true) {K:Env->World->Prop} {S:World->Prop} {ex:Bool}
  (hQ:∀ a w,Zcr n pw a0 a->K a.env w->Q .normal a w) (hQp:∀ c a w,¬ Q (.panic c) a w) (hops:∀ (i:Nat) (o:Oper),ops[i]? =some o->Zii P o.op=true/\ZbD n pw o=true):
  ∀ (fuel:Nat) (hs:Bool) (listed:Array Bool) (a:Act) (w:World),Zcr n pw a0 a->(hs=true->S w)->ZpP P cl ops S ex fuel hs listed a.env K w->
   wpT P .any ops Q S (Zc5 P ops) (looks P ops) fuel listed a w:=by
 intro fuel
 induction fuel with
 |zero=>
  intro hs listed a w hk hS h;unfold ZpP at h;split at h
  ·rename_i hr;exact ⟨hr,hQ a w hk h⟩
  ·exact h.elim
 |succ fuel ih=>
  intro hs listed a w hk hS h;unfold ZpP at h;split at h
  ·rename_i hr
   exact ⟨λ _=>hQ a w hk h,λ i hi=>by rw [hr] at hi;cases hi⟩
  ·rename_i r rs hr
   split at h
   ·rename_i i hp
    obtain ⟨hmem,o,ho,hpr,hfree⟩:=Zcq hp;rw [ho] at h;simp only at h;obtain ⟨hok,hd⟩:=hops i o ho;have hni:Zc5 P ops i=false:=by
     unfold Zc5;rw [ho];simp only;rcases Bool.or_eq_true _ _|>.mp hpr with hp|hp<;>simp [hp]
    have hrdy:i∈Region.ready .any ops listed:=by rw [hr];exact hmem
    have hfs:=Region.free_spec (md:=.any) ho hfree;have hself:=Region.noSelect_spec hsel;rcases Zaa h with ⟨hw,h⟩|⟨hw,h⟩
    ·cases hex:(ex && Zd5 P ops listed i) with
     |true=>
      rw [hex] at h;have hx:Zd5 P ops listed i=true:=by rw [Bool.and_eq_true] at hex;exact hex.2
      rcases ZbN hok hpr h with ⟨hp,v,hv,hK⟩|⟨hp,hhs,v,hv,hK⟩
      ·refine Zas (T:=λ _=>True) ho hself (λ c a w hc=>absurd hc (hQp c _ w)) hni fuel listed a w (λ j oj hj hne hun hno=>⟨hfs j oj hj hne hun hno,λ _ _ _ _ _=>trivial⟩) hrdy (.inl ⟨hw,?_⟩) trivial
        (ih hs (listed.setIfInBounds i true) (a.put o.dst v) w (hk.put hd v) hS ?_)
       ·rw [<-Zap];exact hv
       ·rw [hk.envput hd];exact hK
      ·have hun0:listed.getD i true=false:=(mem_ready.1 hrdy).1
       refine Zed (T:=λ w'=>w'=w) (D:=Zg1 ops listed i 8) ho hself (λ c a w hc=>absurd hc (hQp c _ w)) hni (λ j oj hd hji hj=>ZfN 8 hd hji hj) fuel listed a w (λ j oj hj hne hun hdj hno=>⟨hfs j oj hj hne hun hno,λ w1 w2 hw1 hneed hlook=>?_⟩) (λ j hd=>Zkt hun0 8 j hd) hrdy (.inl ⟨hw,?_⟩) rfl
        (ih hs (listed.setIfInBounds i true) (a.put o.dst v) w (hk.put hd v) hS ?_)
       ·have:=hlook (by unfold looks;rw [hj];exact Zgh hx hj hun hdj)
        rw [this];exact hw1
       ·rw [<-Zap];exact hv
       ·rw [hk.envput hd];exact hK
     |false=>
     rw [hex] at h;rcases ZbN hok hpr h with ⟨hp,v,hv,hK⟩|⟨hp,hhs,v,hv,hK⟩
     ·refine Zas (T:=λ _=>True) ho hself (λ c a w hc=>absurd hc (hQp c _ w)) hni fuel listed a w (λ j oj hj hne hun hno=>⟨hfs j oj hj hne hun hno,λ _ _ _ _ _=>trivial⟩) hrdy (.inl ⟨hw,?_⟩) trivial
       (ih hs (listed.setIfInBounds i true) (a.put o.dst v) w (hk.put hd v) hS ?_)
      ·rw [<-Zap];exact hv
      ·rw [hk.envput hd];exact hK
     ·have hri:Z9 P o.op=true:=by rw [hp] at hpr;simpa using hpr
      refine Zas (T:=S) ho hself (λ c a w hc=>absurd hc (hQp c _ w)) hni fuel listed a w (λ j oj hj hne hun hno=>⟨hfs j oj hj hne hun hno,λ w w' hw hneed hlook=>?_⟩) hrdy (.inl ⟨hw,?_⟩) (hS hhs)
       (ih hs (listed.setIfInBounds i true) (a.put o.dst v) w (hk.put hd v) hS ?_)
      ·cases hl:(Zae P oj.op||Z9 P oj.op) with
       |true=>have:=hlook (by unfold looks;rw [hj];exact hl);rw [this];exact hw
       |false=>exact hneed (ZjK ho hj hri hl hno)
      ·rw [<-Zap];exact hv
      ·rw [hk.envput hd];exact hK
    ·refine Zas (T:=λ _=>True) ho hself (λ c a w hc=>absurd hc (hQp c _ w)) hni fuel listed a w (λ j oj hj hne hun hno=>⟨hfs j oj hj hne hun hno,λ _ _ _ _ _=>trivial⟩) hrdy (.inr ⟨hw,rfl⟩) trivial
       (ih hs (listed.setIfInBounds i true) (a.put o.dst undef) w (hk.put hd _) hS ?_)
     rw [hk.envput hd];exact h
   ·refine ⟨λ h0=>absurd (hr ▸ h0) (by simp),λ i hi=>?_⟩
    rw [hr] at hi;have h:=ZfQ h i hi;split at h
    case h_2=>exact h.elim
    rename_i o ho;obtain ⟨hok,hd⟩:=hops i o ho;refine Zjf ho ?_;rcases Zaa h with ⟨hw,h⟩|⟨hw,h⟩
    ·refine .inl ⟨hw,?_⟩
     split at h
     ·exact h.elim
     ·rename_i hl
      have hlk:looks P ops i=false:=by unfold looks;rw [ho];exact hl
      split at h
      ·rename_i hnd
       have:=ZcB hcl (a:=a) (Q:=Q) hok h;rw [Zap] at this;refine Zai.upon_mono ?_ this;rintro a' w' ⟨v,rfl,hSw,hK⟩;refine ⟨⟨λ _=>hSw,λ hh=>(by rw [hlk] at hh;cases hh)⟩,ih hs _ _ w' (hk.put hd v) (λ _=>hSw) ?_⟩;rw [hk.envput hd];exact hK
      ·rename_i hnd
       have:=ZcB hcl (a:=a) (Q:=Q) hok h;rw [Zap] at this;refine Zai.upon_mono ?_ this;rintro a' w' ⟨v,rfl,hK⟩;refine ⟨⟨λ hh=>(by rw [hnd] at hh;cases hh),λ hh=>(by rw [hlk] at hh;cases hh)⟩,ih false _ _ w' (hk.put hd v) (λ hh=>by cases hh) ?_⟩;rw [hk.envput hd];exact hK
    ·refine .inr ⟨hw,?_⟩
     split at h
     ·exact h.elim
     ·rename_i hl
      have hlk:looks P ops i=false:=by unfold looks;rw [ho];exact hl
      split at h
      ·split at h
       ·have hSw:=hS rfl
        refine ⟨⟨λ _=>hSw,λ _=>rfl⟩,ih true _ _ w (hk.put hd _) (λ _=>hSw) ?_⟩;rw [hk.envput hd];exact h
       ·exact h.elim
      ·rename_i hnd
       refine ⟨⟨λ hh=>(by rw [hnd] at hh;cases hh),λ _=>rfl⟩,ih false _ _ w (hk.put hd _) (λ hh=>by cases hh) ?_⟩;rw [hk.envput hd];exact h
end
end
section
def ZzJ (P:Program) (ops:Array Oper):Nat->Nat->Bool
 |0,_=>false
 |n + 1,i=>match ops[i]? with
  |some oi=>oi.after.any (λ e=>Region.binds .any e && match ops[e.on]? with
   |some ok=>(match Zae P ok.op with
    |true=>ZzJ P ops n e.on
    |false=>!Z9 P ok.op)
   |none=>false)
  |none=>false
def ZoY (P:Program) (ops:Array Oper) (listed:Array Bool):List Nat->Option Nat
 |[]=>none
 |i::is=>match ops[i]? with
  |some o=>(match Zae P o.op||Z9 P o.op with
   |true=>(match Region.free .any ops listed i && !(Z9 P o.op && ZzJ P ops 8 i) with
    |true=>some i
    |false=>ZoY P ops listed is)
   |false=>ZoY P ops listed is)
  |none=>ZoY P ops listed is
def Zm7 (P:Program) (cl:FuncId->Bool) (ops:Array Oper) (S:World->Prop):Nat->Bool->Array Bool->Env->(Env->World->Prop)->World->Prop
 |0,_,listed,ρ,K,w=>(match Region.ready .any ops listed with
  |[]=>K ρ w
  |_=>False)
 |fuel + 1,hs,listed,ρ,K,w=>(match Region.ready .any ops listed with
  |[]=>K ρ w
  |r::rs=>(match ZoY P ops listed (r::rs) with
   |some i=>(match ops[i]? with
    |some o=>ZdH ops ρ o
      (λ ρ=>(match Zd5 P ops listed i with
       |true=>ZtL P ops (λ w'=>w'=w) true ρ o λ v=>Zm7 P cl ops S fuel hs (listed.setIfInBounds i true) (ρ.put o.dst v) K w
       |false=>ZtL P ops S hs ρ o λ v=>Zm7 P cl ops S fuel hs (listed.setIfInBounds i true) (ρ.put o.dst v) K w))
      (λ ρ=>Zm7 P cl ops S fuel hs (listed.setIfInBounds i true) (ρ.put o.dst undef) K w)
    |none=>False)
   |none=>Zzh (λ i=>match ops[i]? with
    |some o=>ZdH ops ρ o
      (λ ρ=>(match Zae P o.op||Z9 P o.op with
       |true=>ZtL P ops (λ w'=>w'=w) true ρ o λ v=>Zm7 P cl ops S fuel hs (listed.setIfInBounds i true) (ρ.put o.dst v) K w
       |false=>match Zc5 P ops i with
       |true=>opF P cl ρ o (λ v w=>S w/\Zm7 P cl ops S fuel hs (listed.setIfInBounds i true) (ρ.put o.dst v) K w) w
       |false=>opF P cl ρ o (λ v w=>Zm7 P cl ops S fuel false (listed.setIfInBounds i true) (ρ.put o.dst v) K w) w))
      (λ ρ=>(match Zae P o.op||Z9 P o.op with
       |true=>Zm7 P cl ops S fuel hs (listed.setIfInBounds i true) (ρ.put o.dst undef) K w
       |false=>match Zc5 P ops i with
       |true=>(match hs with
        |true=>Zm7 P cl ops S fuel true (listed.setIfInBounds i true) (ρ.put o.dst undef) K w
        |false=>False)
       |false=>Zm7 P cl ops S fuel false (listed.setIfInBounds i true) (ρ.put o.dst undef) K w))
    |none=>False) (r::rs)))
section
variable {P:Program} {cl:FuncId->Bool} {ops:Array Oper} {Q:Exit->Act->World->Prop} {n:Nat} {pw:Nat->Bool} {a0:Env}
theorem Zen {listed:Array Bool}:∀ {l:List Nat} {i:Nat},ZoY P ops listed l=some i->i∈l/\∃ o,ops[i]? =some o/\(Zae P o.op||Z9 P o.op)=true/\Region.free .any ops listed i=true
 |[],_,h=>by cases h
 |j::l,i,h=>by
  unfold ZoY at h;split at h
  ·rename_i o ho
   split at h
   ·rename_i hp
    split at h
    ·rename_i hf
     cases h;rw [Bool.and_eq_true] at hf;exact ⟨List.mem_cons_self ..,o,ho,hp,hf.1⟩
    ·have:=Zen h;exact ⟨List.mem_cons_of_mem _ this.1,this.2⟩
   ·have:=Zen h;exact ⟨List.mem_cons_of_mem _ this.1,this.2⟩
  ·have:=Zen h;exact ⟨List.mem_cons_of_mem _ this.1,this.2⟩
theorem ZpN (hcl:∀ g,cl g=true->ZQ P g=true) (hsel:Region.noSelect ops=true) {K:Env->World->Prop} {S:World->Prop}
  (hQ:∀ a w,Zcr n pw a0 a->K a.env w->Q .normal a w) (hQp:∀ c a w,¬ Q (.panic c) a w) (hops:∀ (i:Nat) (o:Oper),ops[i]? =some o->Zii P o.op=true/\ZbD n pw o=true):
  ∀ (fuel:Nat) (hs:Bool) (listed:Array Bool) (a:Act) (w:World),Zcr n pw a0 a->(hs=true->S w)->Zm7 P cl ops S fuel hs listed a.env K w->
   wpT P .any ops Q S (Zc5 P ops) (looks P ops) fuel listed a w:=by
 intro fuel
 induction fuel with
 |zero=>
  intro hs listed a w hk hS h;unfold Zm7 at h;split at h
  ·rename_i hr;exact ⟨hr,hQ a w hk h⟩
  ·exact h.elim
 |succ fuel ih=>
  intro hs listed a w hk hS h;unfold Zm7 at h;split at h
  ·rename_i hr
   exact ⟨λ _=>hQ a w hk h,λ i hi=>by rw [hr] at hi;cases hi⟩
  ·rename_i r rs hr
   split at h
   ·rename_i i hp
    obtain ⟨hmem,o,ho,hpr,hfree⟩:=Zen hp;rw [ho] at h;simp only at h;obtain ⟨hok,hd⟩:=hops i o ho;have hni:Zc5 P ops i=false:=by
     unfold Zc5;rw [ho];simp only;rcases Bool.or_eq_true _ _|>.mp hpr with hp|hp<;>simp [hp]
    have hrdy:i∈Region.ready .any ops listed:=by rw [hr];exact hmem
    have hfs:=Region.free_spec (md:=.any) ho hfree;have hself:=Region.noSelect_spec hsel;rcases Zaa h with ⟨hw,h⟩|⟨hw,h⟩
    ·cases hex:Zd5 P ops listed i with
     |true=>
      rw [hex] at h;have hx:Zd5 P ops listed i=true:=hex;rcases ZbN hok hpr h with ⟨hp,v,hv,hK⟩|⟨hp,hhs,v,hv,hK⟩
      ·refine Zas (T:=λ _=>True) ho hself (λ c a w hc=>absurd hc (hQp c _ w)) hni fuel listed a w (λ j oj hj hne hun hno=>⟨hfs j oj hj hne hun hno,λ _ _ _ _ _=>trivial⟩) hrdy (.inl ⟨hw,?_⟩) trivial
        (ih hs (listed.setIfInBounds i true) (a.put o.dst v) w (hk.put hd v) hS ?_)
       ·rw [<-Zap];exact hv
       ·rw [hk.envput hd];exact hK
      ·have hun0:listed.getD i true=false:=(mem_ready.1 hrdy).1
       refine Zed (T:=λ w'=>w'=w) (D:=Zg1 ops listed i 8) ho hself (λ c a w hc=>absurd hc (hQp c _ w)) hni (λ j oj hd hji hj=>ZfN 8 hd hji hj) fuel listed a w (λ j oj hj hne hun hdj hno=>⟨hfs j oj hj hne hun hno,λ w1 w2 hw1 hneed hlook=>?_⟩) (λ j hd=>Zkt hun0 8 j hd) hrdy (.inl ⟨hw,?_⟩) rfl
        (ih hs (listed.setIfInBounds i true) (a.put o.dst v) w (hk.put hd v) hS ?_)
       ·have:=hlook (by unfold looks;rw [hj];exact Zgh hx hj hun hdj)
        rw [this];exact hw1
       ·rw [<-Zap];exact hv
       ·rw [hk.envput hd];exact hK
     |false=>
     rw [hex] at h;rcases ZbN hok hpr h with ⟨hp,v,hv,hK⟩|⟨hp,hhs,v,hv,hK⟩
     ·refine Zas (T:=λ _=>True) ho hself (λ c a w hc=>absurd hc (hQp c _ w)) hni fuel listed a w (λ j oj hj hne hun hno=>⟨hfs j oj hj hne hun hno,λ _ _ _ _ _=>trivial⟩) hrdy (.inl ⟨hw,?_⟩) trivial
       (ih hs (listed.setIfInBounds i true) (a.put o.dst v) w (hk.put hd v) hS ?_)
      ·rw [<-Zap];exact hv
      ·rw [hk.envput hd];exact hK
     ·have hri:Z9 P o.op=true:=by rw [hp] at hpr;simpa using hpr
      refine Zas (T:=S) ho hself (λ c a w hc=>absurd hc (hQp c _ w)) hni fuel listed a w (λ j oj hj hne hun hno=>⟨hfs j oj hj hne hun hno,λ w w' hw hneed hlook=>?_⟩) hrdy (.inl ⟨hw,?_⟩) (hS hhs)
       (ih hs (listed.setIfInBounds i true) (a.put o.dst v) w (hk.put hd v) hS ?_)
      ·cases hl:(Zae P oj.op||Z9 P oj.op) with
       |true=>have:=hlook (by unfold looks;rw [hj];exact hl);rw [this];exact hw
       |false=>exact hneed (ZjK ho hj hri hl hno)
      ·rw [<-Zap];exact hv
      ·rw [hk.envput hd];exact hK
    ·refine Zas (T:=λ _=>True) ho hself (λ c a w hc=>absurd hc (hQp c _ w)) hni fuel listed a w (λ j oj hj hne hun hno=>⟨hfs j oj hj hne hun hno,λ _ _ _ _ _=>trivial⟩) hrdy (.inr ⟨hw,rfl⟩) trivial
       (ih hs (listed.setIfInBounds i true) (a.put o.dst undef) w (hk.put hd _) hS ?_)
     rw [hk.envput hd];exact h
   ·refine ⟨λ h0=>absurd (hr ▸ h0) (by simp),λ i hi=>?_⟩
    rw [hr] at hi;have h:=ZfQ h i hi;split at h
    case h_2=>exact h.elim
    rename_i o ho;obtain ⟨hok,hd⟩:=hops i o ho;refine Zjf ho ?_;rcases Zaa h with ⟨hw,h⟩|⟨hw,h⟩
    ·refine .inl ⟨hw,?_⟩
     split at h
     ·rename_i hl
      have hlk:looks P ops i=true:=by unfold looks;rw [ho];exact hl
      have hni:Zc5 P ops i=false:=by
       unfold Zc5;rw [ho];simp only;rcases Bool.or_eq_true _ _|>.mp hl with hp|hp<;>simp [hp]
      obtain ⟨v,hv,hK⟩:∃ v,(∀ w',w'=w->(execOp a.env.ev o).run P w'=.ok (.value v) w')/\Zm7 P cl ops S fuel hs (listed.setIfInBounds i true) (a.env.put o.dst v) K w:=by
       rcases ZbN hok hl h with ⟨_,v,hv,hK⟩|⟨_,_,v,hv,hK⟩
       ·exact ⟨v,λ w' _=>hv w' trivial,hK⟩
       ·exact ⟨v,hv,hK⟩
      have:=ZcQ.upon (S:=λ w'=>w'=w) (a:=a) (Q:=Q) (K:=λ v' w'=>v'=v/\w'=w) rfl ⟨v,hv,rfl,rfl⟩;rw [Zap] at this;refine Zai.upon_mono ?_ this;rintro a' w' ⟨v',rfl,rfl,rfl⟩;refine ⟨⟨λ hh=>(by rw [hni] at hh;cases hh),λ _=>rfl⟩,ih hs _ _ w' (hk.put hd v') hS ?_⟩;rw [hk.envput hd];exact hK
     ·rename_i hl
      have hlk:looks P ops i=false:=by unfold looks;rw [ho];exact hl
      split at h
      ·rename_i hnd
       have:=ZcB hcl (a:=a) (Q:=Q) hok h;rw [Zap] at this;refine Zai.upon_mono ?_ this;rintro a' w' ⟨v,rfl,hSw,hK⟩;refine ⟨⟨λ _=>hSw,λ hh=>(by rw [hlk] at hh;cases hh)⟩,ih hs _ _ w' (hk.put hd v) (λ _=>hSw) ?_⟩;rw [hk.envput hd];exact hK
      ·rename_i hnd
       have:=ZcB hcl (a:=a) (Q:=Q) hok h;rw [Zap] at this;refine Zai.upon_mono ?_ this;rintro a' w' ⟨v,rfl,hK⟩;refine ⟨⟨λ hh=>(by rw [hnd] at hh;cases hh),λ hh=>(by rw [hlk] at hh;cases hh)⟩,ih false _ _ w' (hk.put hd v) (λ hh=>by cases hh) ?_⟩;rw [hk.envput hd];exact hK
    ·refine .inr ⟨hw,?_⟩
     split at h
     ·rename_i hl
      have hni:Zc5 P ops i=false:=by
       unfold Zc5;rw [ho];simp only;rcases Bool.or_eq_true _ _|>.mp hl with hp|hp<;>simp [hp]
      refine ⟨⟨λ hh=>(by rw [hni] at hh;cases hh),λ _=>rfl⟩,ih hs _ _ w (hk.put hd _) hS ?_⟩;rw [hk.envput hd];exact h
     ·rename_i hl
      have hlk:looks P ops i=false:=by unfold looks;rw [ho];exact hl
      split at h
      ·split at h
       ·have hSw:=hS rfl
        refine ⟨⟨λ _=>hSw,λ _=>rfl⟩,ih true _ _ w (hk.put hd _) (λ _=>hSw) ?_⟩;rw [hk.envput hd];exact h
       ·exact h.elim
      ·rename_i hnd
       refine ⟨⟨λ hh=>(by rw [hnd] at hh;cases hh),λ _=>rfl⟩,ih false _ _ w (hk.put hd _) (λ hh=>by cases hh) ?_⟩;rw [hk.envput hd];exact h
end
end
section
def Zhx (P:Program) (ops:Array Oper) (j:Nat):Bool:=
 match ops[j]? with
 |none=>false
 |some oj=>!Z9 P oj.op && !Zae P oj.op && (List.range ops.size).any λ i=>match ops[i]? with
  |some oi=>Z9 P oi.op && !Zg1 ops (Array.replicate ops.size false) i 8 j
  |none=>false
def okT (P:Program) (ops:Array Oper) (listed:Array Bool) (i:Nat):Bool:=(List.range ops.size).all λ j=>listed.getD j true||(Zg1 ops listed i 8 j||(Zhx P ops j||match ops[j]? with
 |some oj=>(Zae P oj.op||Z9 P oj.op)
 |none=>true))
def ZpY (P:Program) (cl:FuncId->Bool) (ops:Array Oper) (S:World->Prop):Nat->Bool->Array Bool->Env->(Env->World->Prop)->World->Prop
 |0,_,listed,ρ,K,w=>(match Region.ready .any ops listed with
  |[]=>K ρ w
  |_=>False)
 |fuel + 1,hs,listed,ρ,K,w=>(match Region.ready .any ops listed with
  |[]=>K ρ w
  |r::rs=>(match Zlg P ops listed (r::rs) with
   |some i=>(match ops[i]? with
    |some o=>ZdH ops ρ o
      (λ ρ=>(match Zd5 P ops listed i with
       |true=>ZtL P ops (λ w'=>w'=w) true ρ o λ v=>ZpY P cl ops S fuel hs (listed.setIfInBounds i true) (ρ.put o.dst v) K w
       |false=>(match Zae P o.op||okT P ops listed i with
        |true=>ZtL P ops S hs ρ o λ v=>ZpY P cl ops S fuel hs (listed.setIfInBounds i true) (ρ.put o.dst v) K w
        |false=>False)))
      (λ ρ=>ZpY P cl ops S fuel hs (listed.setIfInBounds i true) (ρ.put o.dst undef) K w)
    |none=>False)
   |none=>Zzh (λ i=>match ops[i]? with
    |some o=>ZdH ops ρ o
      (λ ρ=>(match Zae P o.op||Z9 P o.op with
       |true=>False
       |false=>match Zhx P ops i with
       |true=>opF P cl ρ o (λ v w=>S w/\ZpY P cl ops S fuel hs (listed.setIfInBounds i true) (ρ.put o.dst v) K w) w
       |false=>opF P cl ρ o (λ v w=>ZpY P cl ops S fuel false (listed.setIfInBounds i true) (ρ.put o.dst v) K w) w))
      (λ ρ=>(match Zae P o.op||Z9 P o.op with
       |true=>False
       |false=>match Zhx P ops i with
       |true=>(match hs with
        |true=>ZpY P cl ops S fuel true (listed.setIfInBounds i true) (ρ.put o.dst undef) K w
        |false=>False)
       |false=>ZpY P cl ops S fuel false (listed.setIfInBounds i true) (ρ.put o.dst undef) K w))
    |none=>False) (r::rs)))
section
variable {P:Program} {cl:FuncId->Bool} {ops:Array Oper} {Q:Exit->Act->World->Prop} {n:Nat} {pw:Nat->Bool} {a0:Env}
theorem Zwq {listed:Array Bool} {i j:Nat} {oj:Oper} (h:okT P ops listed i=true) (hj:ops[j]? =some oj) (hun:listed.getD j true=false) (hno:Zg1 ops listed i 8 j=false):Zhx P ops j=true\/(Zae P oj.op||Z9 P oj.op)=true:=by
 unfold okT at h;have h1:=List.all_eq_true.1 h j (List.mem_range.2 (Array.getElem?_eq_some_iff.1 hj).1);rw [hun,hj,hno] at h1;simpa using h1
theorem ZpM (hcl:∀ g,cl g=true->ZQ P g=true) (hsel:Region.noSelect ops=true) {K:Env->World->Prop} {S:World->Prop}
  (hQ:∀ a w,Zcr n pw a0 a->K a.env w->Q .normal a w) (hQp:∀ c a w,¬ Q (.panic c) a w) (hops:∀ (i:Nat) (o:Oper),ops[i]? =some o->Zii P o.op=true/\ZbD n pw o=true):
  ∀ (fuel:Nat) (hs:Bool) (listed:Array Bool) (a:Act) (w:World),Zcr n pw a0 a->(hs=true->S w)->ZpY P cl ops S fuel hs listed a.env K w->
   wpT P .any ops Q S (Zhx P ops) (looks P ops) fuel listed a w:=by
 intro fuel
 induction fuel with
 |zero=>
  intro hs listed a w hk hS h;unfold ZpY at h;split at h
  ·rename_i hr;exact ⟨hr,hQ a w hk h⟩
  ·exact h.elim
 |succ fuel ih=>
  intro hs listed a w hk hS h;unfold ZpY at h;split at h
  ·rename_i hr
   exact ⟨λ _=>hQ a w hk h,λ i hi=>by rw [hr] at hi;cases hi⟩
  ·rename_i r rs hr
   split at h
   ·rename_i i hp
    obtain ⟨hmem,o,ho,hpr,hfree⟩:=Zcq hp;rw [ho] at h;simp only at h;obtain ⟨hok,hd⟩:=hops i o ho;have hni:Zhx P ops i=false:=by
     unfold Zhx;rw [ho];simp only;rcases Bool.or_eq_true _ _|>.mp hpr with hp|hp<;>simp [hp]
    have hrdy:i∈Region.ready .any ops listed:=by rw [hr];exact hmem
    have hfs:=Region.free_spec (md:=.any) ho hfree;have hself:=Region.noSelect_spec hsel;rcases Zaa h with ⟨hw,h⟩|⟨hw,h⟩
    ·cases hex:Zd5 P ops listed i with
     |true=>
      rw [hex] at h;have hx:Zd5 P ops listed i=true:=hex;rcases ZbN hok hpr h with ⟨hp,v,hv,hK⟩|⟨hp,hhs,v,hv,hK⟩
      ·refine Zas (T:=λ _=>True) ho hself (λ c a w hc=>absurd hc (hQp c _ w)) hni fuel listed a w (λ j oj hj hne hun hno=>⟨hfs j oj hj hne hun hno,λ _ _ _ _ _=>trivial⟩) hrdy (.inl ⟨hw,?_⟩) trivial
        (ih hs (listed.setIfInBounds i true) (a.put o.dst v) w (hk.put hd v) hS ?_)
       ·rw [<-Zap];exact hv
       ·rw [hk.envput hd];exact hK
      ·have hun0:listed.getD i true=false:=(mem_ready.1 hrdy).1
       refine Zed (T:=λ w'=>w'=w) (D:=Zg1 ops listed i 8) ho hself (λ c a w hc=>absurd hc (hQp c _ w)) hni (λ j oj hd hji hj=>ZfN 8 hd hji hj) fuel listed a w (λ j oj hj hne hun hdj hno=>⟨hfs j oj hj hne hun hno,λ w1 w2 hw1 hneed hlook=>?_⟩) (λ j hd=>Zkt hun0 8 j hd) hrdy (.inl ⟨hw,?_⟩) rfl
        (ih hs (listed.setIfInBounds i true) (a.put o.dst v) w (hk.put hd v) hS ?_)
       ·have:=hlook (by unfold looks;rw [hj];exact Zgh hx hj hun hdj)
        rw [this];exact hw1
       ·rw [<-Zap];exact hv
       ·rw [hk.envput hd];exact hK
     |false=>
     rw [hex] at h;simp only at h;cases hokt:(Zae P o.op||okT P ops listed i) with
     |false=>rw [hokt] at h;exact h.elim
     |true=>
     rw [hokt] at h;simp only at h;rcases ZbN hok hpr h with ⟨hp,v,hv,hK⟩|⟨hp,hhs,v,hv,hK⟩
     ·refine Zas (T:=λ _=>True) ho hself (λ c a w hc=>absurd hc (hQp c _ w)) hni fuel listed a w (λ j oj hj hne hun hno=>⟨hfs j oj hj hne hun hno,λ _ _ _ _ _=>trivial⟩) hrdy (.inl ⟨hw,?_⟩) trivial
       (ih hs (listed.setIfInBounds i true) (a.put o.dst v) w (hk.put hd v) hS ?_)
      ·rw [<-Zap];exact hv
      ·rw [hk.envput hd];exact hK
     ·have hri:Z9 P o.op=true:=by rw [hp] at hpr;simpa using hpr
      have hun0:listed.getD i true=false:=(mem_ready.1 hrdy).1;have hot:okT P ops listed i=true:=by rw [hp] at hokt;simpa using hokt
      refine Zed (T:=S) (D:=Zg1 ops listed i 8) ho hself (λ c a w hc=>absurd hc (hQp c _ w)) hni (λ j oj hd hji hj=>ZfN 8 hd hji hj) fuel listed a w (λ j oj hj hne hun hdj hno=>⟨hfs j oj hj hne hun hno,λ w w' hw hneed hlook=>?_⟩) (λ j hd=>Zkt hun0 8 j hd) hrdy (.inl ⟨hw,?_⟩) (hS hhs)
       (ih hs (listed.setIfInBounds i true) (a.put o.dst v) w (hk.put hd v) hS ?_)
      ·rcases Zwq hot hj hun hdj with h1|h1
       ·exact hneed h1
       ·have:=hlook (by unfold looks;rw [hj];exact h1);rw [this];exact hw
      ·rw [<-Zap];exact hv
      ·rw [hk.envput hd];exact hK
    ·refine Zas (T:=λ _=>True) ho hself (λ c a w hc=>absurd hc (hQp c _ w)) hni fuel listed a w (λ j oj hj hne hun hno=>⟨hfs j oj hj hne hun hno,λ _ _ _ _ _=>trivial⟩) hrdy (.inr ⟨hw,rfl⟩) trivial
       (ih hs (listed.setIfInBounds i true) (a.put o.dst undef) w (hk.put hd _) hS ?_)
     rw [hk.envput hd];exact h
   ·refine ⟨λ h0=>absurd (hr ▸ h0) (by simp),λ i hi=>?_⟩
    rw [hr] at hi;have h:=ZfQ h i hi;split at h
    case h_2=>exact h.elim
    rename_i o ho;obtain ⟨hok,hd⟩:=hops i o ho;refine Zjf ho ?_;rcases Zaa h with ⟨hw,h⟩|⟨hw,h⟩
    ·refine .inl ⟨hw,?_⟩
     split at h
     ·exact h.elim
     ·rename_i hl
      have hlk:looks P ops i=false:=by unfold looks;rw [ho];exact hl
      split at h
      ·rename_i hnd
       have:=ZcB hcl (a:=a) (Q:=Q) hok h;rw [Zap] at this;refine Zai.upon_mono ?_ this;rintro a' w' ⟨v,rfl,hSw,hK⟩;refine ⟨⟨λ _=>hSw,λ hh=>(by rw [hlk] at hh;cases hh)⟩,ih hs _ _ w' (hk.put hd v) (λ _=>hSw) ?_⟩;rw [hk.envput hd];exact hK
      ·rename_i hnd
       have:=ZcB hcl (a:=a) (Q:=Q) hok h;rw [Zap] at this;refine Zai.upon_mono ?_ this;rintro a' w' ⟨v,rfl,hK⟩;refine ⟨⟨λ hh=>(by rw [hnd] at hh;cases hh),λ hh=>(by rw [hlk] at hh;cases hh)⟩,ih false _ _ w' (hk.put hd v) (λ hh=>by cases hh) ?_⟩;rw [hk.envput hd];exact hK
    ·refine .inr ⟨hw,?_⟩
     split at h
     ·exact h.elim
     ·rename_i hl
      have hlk:looks P ops i=false:=by unfold looks;rw [ho];exact hl
      split at h
      ·split at h
       ·have hSw:=hS rfl
        refine ⟨⟨λ _=>hSw,λ _=>rfl⟩,ih true _ _ w (hk.put hd _) (λ _=>hSw) ?_⟩;rw [hk.envput hd];exact h
       ·exact h.elim
      ·rename_i hnd
       refine ⟨⟨λ hh=>(by rw [hnd] at hh;cases hh),λ _=>rfl⟩,ih false _ _ w (hk.put hd _) (λ hh=>by cases hh) ?_⟩;rw [hk.envput hd];exact h
end
end
section
def Cur (R:Type):List Ty->Type
 |[]=>R
 |t::ts=>t.T->Cur R ts
def app {R:Type}:(ts:List Ty)->Cur R ts->List Value->(R->Prop)->Prop
 |[],f,_,φ=>φ f
 |t::ts,f,v::vs,φ=>t.un v λ x=>app ts (f x) vs φ
 |_::_,_,[],_=>False
def Ty.all:(t:Ty)->(Value->Prop)->Prop
 | .int k,φ=>∀ n:Int,φ (.int k n)
 | .bool,φ=>∀ b:Bool,φ (.bool b)
 | .str,φ=>∀ s:ByteArray,φ (.string s)
 | .sl,φ=>∀ s:Sl,φ (.slice s.a s.len s.cap)
 | .ptr,φ=>∀ p:Option Addr,φ (.pointer p)
 | .map,φ=>∀ m:Option Nat,φ (.map m)
 | .flt,φ=>∀ n:Nat,φ (.float .f64 n)
 | .any,φ=>∀ v:Value,φ v
theorem Ty.all_enc {t:Ty} {φ:Value->Prop} (h:t.all φ) (x:t.T):φ (t.enc x):=by
 cases t<;>exact h x
def Zzg:List Ty->(List Value->Prop)->Prop
 |[],φ=>φ []
 |t::ts,φ=>t.all λ v=>Zzg ts λ vs=>φ (v::vs)
theorem Zh9 {R:Type}:∀ {ts:List Ty} {f:Cur R ts} {vs:List Value} {φ:R->Prop} {ψ:List Value->Prop},vs.length=ts.length->app ts f vs φ->Zzg ts ψ->ψ vs
 |[],_,vs,_,_,hl,_,h=>by
  cases vs with
  |nil=>exact h
  |cons v vs=>simp at hl
 |t::ts,f,[],_,_,hl,_,_=>by simp at hl
 |t::ts,f,v::vs,φ,ψ,hl,ha,h=>by
  obtain ⟨x,rfl,ha'⟩:=Ty.un_enc (show t.un v λ x=>app ts (f x) vs φ from ha)
  have hx:Zzg ts λ vs=>ψ (t.enc x::vs):=Ty.all_enc (t:=t) (φ:=λ v=>Zzg ts λ vs=>ψ (v::vs)) h x;exact Zh9 (ψ:=λ vs=>ψ (t.enc x::vs)) (by simpa using hl) ha' hx
def ZpX {R:Type} (d:R):(ts:List Ty)->Cur R ts->List Value->R
 |[],f,_=>f
 |t::ts,f,v::vs=>match t,f,v with
  | .int k,f,.int k' n=>if k=k' then ZpX d ts (f n) vs else d
  | .bool,f,.bool b=>ZpX d ts (f b) vs
  | .str,f,.string s=>ZpX d ts (f s) vs
  | .sl,f,.slice a n c=>ZpX d ts (f ⟨a,n,c⟩) vs
  | .ptr,f,.pointer p=>ZpX d ts (f p) vs
  | .map,f,.map m=>ZpX d ts (f m) vs
  | .flt,f,.float .f64 n=>ZpX d ts (f n) vs
  | .any,f,v=>ZpX d ts (f v) vs
  |_,_,_=>d
 |_::_,_,[]=>d
theorem Zh8 {R:Type} {d:R}:∀ {ts:List Ty} {f:Cur R ts} {vs:List Value} {φ:R->Prop},app ts f vs φ->φ (ZpX d ts f vs)
 |[],_,_,_,h=>h
 |t::ts,f,[],_,h=>h.elim
 |t::ts,f,v::vs,φ,h=>by
  obtain ⟨x,rfl,ha⟩:=Ty.un_enc (show t.un v λ x=>app ts (f x) vs φ from h)
  cases t<;>simp only [ZpX,Ty.enc,if_true]<;>exact Zh8 ha
structure ZvL where
 nrm:Env->World->Prop
 ex:Nat->Env->World->Prop
 ret:Env->World->Prop
inductive Sk where
 |leaf
 |seq (a b:Sk)
 |cond (a b:Sk)
 |block (a:Sk)
 |loop (ms:List Nat) (ts:List Ty) (W:List Nat) (a:Sk)
 |cut (ms:List Nat) (ts:List Ty) (W:List Nat) (a b:Sk)
def Sk.l:Sk->Sk
 | .seq a _| .cond a _| .block a| .loop _ _ _ a| .cut _ _ _ a _=>a
 |_=>.leaf
def Sk.r:Sk->Sk
 | .seq _ b| .cond _ b| .cut _ _ _ _ b=>b
 |_=>.leaf
def Zlq (i:Nat):List Nat->Bool
 |[]=>false
 |j::js=>match Nat.beq i j with|true=>true|false=>Zlq i js
def look:List Nat->List Value->Nat->Option Value
 |m::ms,v::vs,i=>match Nat.beq i m with|true=>some v|false=>look ms vs i
 |_,_,_=>none
def mix (ρ:Env) (W ms:List Nat) (vs:List Value) (z:Env):Env:=λ i=>
 match look ms vs i with
 |some v=>v
 |none=>match Zlq i W with
  |true=>z i
  |false=>ρ i
def vals (ms:List Nat) (ρ:Env):List Value:=ms.map ρ
def Zue (ts:List Ty) (ms W:List Nat) (ρ:Env) (body:Env->(Env->World->Prop)->World->Prop) (w:World):Prop:=
 ∃ (I:Cur (World->Prop) ts) (μ:Cur (World->Nat) ts),app ts I (vals ms ρ) (λ p=>p w)/\
  ∀ z:Env,Zzg ts λ vs=>∀ w,app ts I vs (λ p=>p w)->
   body (mix ρ W ms vs z) (λ ρ' w'=>app ts I (vals ms ρ') (λ p=>p w')/\app ts μ (vals ms ρ') (λ m'=>app ts μ vs (λ m=>m' w'<m w))) w
def ZAZ (ts:List Ty) (ms W:List Nat) (ρ:Env) (first:(Env->World->Prop)->Prop) (rest:Env->World->Prop):Prop:=
 ∃ J:Cur (World->Prop) ts,first (λ ρ' w'=>app ts J (vals ms ρ') (λ p=>p w'))/\
  ∀ z:Env,Zzg ts λ vs=>∀ w,app ts J vs (λ p=>p w)->rest (mix ρ W ms vs z) w
def den (P:Program) (cl:FuncId->Bool):Code->Sk->Env->ZvL->World->Prop
 | .skip,_,ρ,K,w=>K.nrm ρ w
 | .label _,_,ρ,K,w=>K.nrm ρ w
 | .region _ ops d,sk,ρ,K,w=>(match d with
  |false=>Ztr P cl ops ops.toList ρ K.nrm w
  |true=>(match sk with
   | .block _=>Drw w λ S w'=>ZpP P cl ops S true ops.size true (Array.replicate ops.size false) ρ K.nrm w'
   | .seq _ _=>Drw w λ S w'=>Zm7 P cl ops S ops.size true (Array.replicate ops.size false) ρ K.nrm w'
   | .cond _ _=>Drw w λ S w'=>ZpY P cl ops S ops.size true (Array.replicate ops.size false) ρ K.nrm w'
   |_=>Drw w λ S w'=>ZpP P cl ops S false ops.size true (Array.replicate ops.size false) ρ K.nrm w'))
 | .seq a b,sk,ρ,K,w=>(match sk with
  | .cut ms ts W _ _=>ZAZ ts ms W ρ (λ k=>den P cl a sk.l ρ { K with nrm:=k } w) (λ ρ' w'=>den P cl b sk.r ρ' K w')
  |_=>den P cl a sk.l ρ { K with nrm:=λ ρ' w'=>den P cl b sk.r ρ' K w' } w)
 | .cond c a b,sk,ρ,K,w=>(match ρ.ev c with
  | .bool t=>Br t (den P cl a sk.l ρ K w) (den P cl b sk.r ρ K w)
  |_=>False)
 | .block id a,sk,ρ,K,w=>den P cl a sk.l ρ { K with ex:=λ i=>match Nat.beq i id with|true=>K.nrm|false=>K.ex i } w
 | .loop a,sk,ρ,K,w=>(match sk with
  | .loop ms ts W _=>Zue ts ms W ρ (λ ρ' k w'=>den P cl a sk.l ρ' { K with nrm:=k } w') w
  |_=>False)
 | .scope a,sk,ρ,K,w=>den P cl a sk.l ρ K w
 | .exit id,_,ρ,K,w=>K.ex id ρ w
 | .ret,_,ρ,K,w=>K.ret ρ w
 |_,_,_,_,_=>False
def ZfS (pw:Nat->Bool):Code->Bool
 | .region _ ops _=>ops.all λ o=>match o.dst with|some d=>pw d|none=>true
 | .seq a b| .cond _ a b=>ZfS pw a && ZfS pw b
 | .block _ a| .loop a| .scope a=>ZfS pw a
 | .rangeFunc _ _ _ _=>false
 |_=>true
def Zd7 (P:Program) (n:Nat):Code->Bool
 | .region _ ops _=>Region.noSelect ops && ops.all λ o=>Zii P o.op && (match o.dst with|some d=>Nat.blt d n|none=>true)
 | .seq a b| .cond _ a b=>Zd7 P n a && Zd7 P n b
 | .block _ a| .loop a| .scope a=>Zd7 P n a
 | .rangeFunc _ _ _ _=>false
 |_=>true
def Zky:Code->Sk->Bool
 | .seq a b,sk=>(match sk with
  | .cut ms ts W _ _=>ZfS (λ i=>Zlq i W) a && Nat.beq ms.length ts.length
  |_=>true) && Zky a sk.l && Zky b sk.r
 | .cond _ a b,sk=>Zky a sk.l && Zky b sk.r
 | .block _ a,sk| .scope a,sk=>Zky a sk.l
 | .loop a,sk=>(match sk with
  | .loop ms ts W _=>ZfS (λ i=>Zlq i W) a && Nat.beq ms.length ts.length
  |_=>true) && Zky a sk.l
 |_,_=>true
def PK (n:Nat) (pw:Nat->Bool) (a0:Env) (K:ZvL):Exit->Act->World->Prop
 | .normal,a,w=>Zcr n pw a0 a/\K.nrm a.env w
 | .exit i,a,w=>Zcr n pw a0 a/\K.ex i a.env w
 | .ret,a,w=>Zcr n pw a0 a/\K.ret a.env w
 |_,_,_=>False
theorem ZrE {ms:List Nat} {ρ:Env} {i:Nat} {v:Value} (h:look ms (vals ms ρ) i=some v):v=ρ i:=by
 induction ms with
 |nil=>cases h
 |cons m ms ih=>
  simp only [vals,List.map_cons,look] at h;split at h
  ·rename_i hb
   cases h;rw [Nat.eq_of_beq_eq_true hb]
  ·exact ih h
theorem ZjO {ρ e:Env} {W ms:List Nat} (h:∀ i,Zlq i W=false->e i=ρ i):mix ρ W ms (vals ms e) e=e:=by
 funext i
 unfold mix;split
 ·rename_i v hv;exact ZrE hv
 ·split
  ·rfl
  ·rename_i hm;exact (h i hm).symm
theorem ZgQ (ms:List Nat) (ρ:Env):(vals ms ρ).length=ms.length:=by simp [vals]
theorem Zbr {p q:Nat->Bool}:∀ {c:Code},ZfS p c=true->ZfS q c=true->ZfS (λ i=>p i && q i) c=true
 | .region _ ops _,hp,hq=>by
  simp only [ZfS,Array.all_eq_true_iff_forall_mem] at *;intro o ho;have:=hp o ho;have:=hq o ho;cases hd:o.dst<;>simp_all
 | .seq a b,hp,hq=>by
  simp only [ZfS,Bool.and_eq_true] at *;exact ⟨Zbr hp.1 hq.1,Zbr hp.2 hq.2⟩
 | .cond _ a b,hp,hq=>by
  simp only [ZfS,Bool.and_eq_true] at *;exact ⟨Zbr hp.1 hq.1,Zbr hp.2 hq.2⟩
 | .block _ a,hp,hq=>Zbr (c:=a) hp hq
 | .loop a,hp,hq=>Zbr (c:=a) hp hq
 | .scope a,hp,hq=>Zbr (c:=a) hp hq
 | .rangeFunc _ _ _ _,hp,_=>by cases hp
 | .skip,_,_=>rfl
 | .exit _,_,_=>rfl
 | .label _,_,_=>rfl
 | .goto _,_,_=>rfl
 | .ret,_,_=>rfl
 | .refuse _,_,_=>rfl
theorem Zcr.refl {n:Nat} {pw:Nat->Bool} {a:Act} (h:a.tmps.size=n) (hd:a.defers=[]):Zcr n pw a.env a:=⟨h,hd,λ _ _=>rfl⟩
theorem Zcr.trans {n:Nat} {pw:Nat->Bool} {q:Nat->Bool} {a0:Env} {a b:Act} (h:Zcr n pw a0 a) (h':Zcr n (λ i=>pw i && q i) a.env b):Zcr n pw a0 b:=
 ⟨h'.size,h'.defers,λ i hi=>(h'.same i (by simp [hi])).trans (h.same i hi)⟩
variable {P:Program} {cl:FuncId->Bool} {n:Nat}
theorem Zk2 (hcl:∀ g,cl g=true->ZQ P g=true) (hmix:P.follows .mixedOrders=true) {pw:Nat->Bool} {a0:Env} {id:Nat} {ops:Array Oper} {d:Bool}
  (hc:Zd7 P n (.region id ops d)=true) (hw:ZfS pw (.region id ops d)=true) {sk:Sk} {K:ZvL} {a:Act} {w:World} (hk:Zcr n pw a0 a)
  (h:den P cl (.region id ops d) sk a.env K w):(Code.region id ops d).wp P (PK n pw a0 K) a w:=by
 simp only [Zd7,Bool.and_eq_true,Array.all_eq_true_iff_forall_mem] at hc;simp only [ZfS,Array.all_eq_true_iff_forall_mem] at hw;have hops:∀ o∈ops,Zii P o.op=true/\ZbD n pw o=true:=λ o ho=>by
  have h1:=hc.2 o ho;have h2:=hw o ho;refine ⟨h1.1,?_⟩;unfold ZbD;cases hd:o.dst with
  |none=>rfl
  |some x=>rw [hd] at h1 h2;simp only [Bool.and_eq_true];exact ⟨h1.2,h2⟩
 unfold den at h;cases d with
 |false=>
  exact wp_region_list (Zai (Q:=PK n pw a0 K) hcl (λ a w hk h=>⟨hk,h⟩) ops.toList (λ o ho=>hops o (by simpa using ho)) a w hk h)
 |true=>
  have key:∀ ex:Bool,(Drw w λ S w'=>ZpP P cl ops S ex ops.size true (Array.replicate ops.size false) a.env K.nrm w')->(Code.region id ops true).wp P (PK n pw a0 K) a w:=λ ex h=>by
   obtain ⟨S0,S,hS,h⟩:=h;obtain ⟨hS,h⟩:=h _ hS;exact wp_region_any hmix (Zg4 _ _ _ _ (ZpO (Q:=PK n pw a0 K) hcl hc.1 (λ a w hk h=>⟨hk,h⟩) (λ _ _ _ h=>h) (λ i o ho=>hops o (Array.mem_of_getElem? ho)) _ _ _ _ _ hk (λ _=>hS) h))
  have keyG:(Drw w λ S w'=>Zm7 P cl ops S ops.size true (Array.replicate ops.size false) a.env K.nrm w')->(Code.region id ops true).wp P (PK n pw a0 K) a w:=λ h=>by
   obtain ⟨S0,S,hS,h⟩:=h;obtain ⟨hS,h⟩:=h _ hS;exact wp_region_any hmix (Zg4 _ _ _ _ (ZpN (Q:=PK n pw a0 K) hcl hc.1 (λ a w hk h=>⟨hk,h⟩) (λ _ _ _ h=>h) (λ i o ho=>hops o (Array.mem_of_getElem? ho)) _ _ _ _ _ hk (λ _=>hS) h))
  have keyT:(Drw w λ S w'=>ZpY P cl ops S ops.size true (Array.replicate ops.size false) a.env K.nrm w')->(Code.region id ops true).wp P (PK n pw a0 K) a w:=λ h=>by
   obtain ⟨S0,S,hS,h⟩:=h;obtain ⟨hS,h⟩:=h _ hS;exact wp_region_any hmix (Zg4 _ _ _ _ (ZpM (Q:=PK n pw a0 K) hcl hc.1 (λ a w hk h=>⟨hk,h⟩) (λ _ _ _ h=>h) (λ i o ho=>hops o (Array.mem_of_getElem? ho)) _ _ _ _ _ hk (λ _=>hS) h))
  cases sk<;>first|exact key _ h|exact keyG h|exact keyT h
theorem Za3 (hcl:∀ g,cl g=true->ZQ P g=true) (hmix:P.follows .mixedOrders=true):∀ (c:Code) (sk:Sk) (pw:Nat->Bool) (a0:Env),
  Zd7 P n c=true->ZfS pw c=true->Zky c sk=true->∀ (a:Act) (K:ZvL) (w:World),Zcr n pw a0 a->den P cl c sk a.env K w->c.wp P (PK n pw a0 K) a w
 | .skip,sk,pw,a0,_,_,_,a,K,w,hk,h=>wp_skip ⟨hk,h⟩
 | .label _,sk,pw,a0,_,_,_,a,K,w,hk,h=>wp_label ⟨hk,h⟩
 | .exit _,sk,pw,a0,_,_,_,a,K,w,hk,h=>wp_exit ⟨hk,h⟩
 | .ret,sk,pw,a0,_,_,_,a,K,w,hk,h=>wp_ret ⟨hk,h⟩
 | .region id ops d,sk,pw,a0,hc,hw,_,a,K,w,hk,h=>Zk2 hcl hmix hc hw hk h
 | .goto _,sk,pw,a0,_,_,_,a,K,w,hk,h=>h.elim
 | .refuse _,sk,pw,a0,_,_,_,a,K,w,hk,h=>h.elim
 | .rangeFunc _ _ _ _,sk,pw,a0,_,_,_,a,K,w,hk,h=>h.elim
 | .scope c,sk,pw,a0,hc,hw,hs,a,K,w,hk,h=>by
  refine wp_scope_straight ?_;refine Code.wp_mono ?_ (Za3 hcl hmix c sk.l pw a0 hc hw hs a K w hk h);intro e a w hq;cases e<;>first|exact hq|exact hq.elim
 | .block id c,sk,pw,a0,hc,hw,hs,a,K,w,hk,h=>by
  refine wp_block ?_;refine Code.wp_mono ?_ (Za3 hcl hmix c sk.l pw a0 hc hw hs a _ w hk h);intro e a w hq;cases e with
  |exit i=>
   obtain ⟨hk,hq⟩:=hq;show if i=id then _ else _
   by_cases hi:i=id
   ·subst hi
    rw [if_pos rfl];have:Nat.beq i i=true:=by simp
    simp only [this] at hq;exact ⟨hk,hq⟩
   ·rw [if_neg hi]
    have:Nat.beq i id=false:=by
     cases hb:Nat.beq i id with
     |false=>rfl
     |true=>exact absurd (Nat.eq_of_beq_eq_true hb) hi
    simp only [this] at hq;exact ⟨hk,hq⟩
  |normal=>exact hq
  |ret=>exact hq
  |_=>exact hq.elim
 | .cond c x y,sk,pw,a0,hc,hw,hs,a,K,w,hk,h=>by
  simp only [Zd7,ZfS,Zky,Bool.and_eq_true] at hc hw hs;unfold den at h;split at h
  ·rename_i t ht
   rw [Zap] at ht;refine wp_cond_split ht (λ hb=>?_) (λ hb=>?_)
   ·subst hb;exact Za3 hcl hmix x sk.l pw a0 hc.1 hw.1 hs.1 a K w hk h
   ·subst hb;exact Za3 hcl hmix y sk.r pw a0 hc.2 hw.2 hs.2 a K w hk h
  ·exact h.elim
 | .seq x y,sk,pw,a0,hc,hw,hs,a,K,w,hk,h=>by
  simp only [Zd7,ZfS,Zky,Bool.and_eq_true] at hc hw hs;refine wp_seq ?_;have plain:den P cl x sk.l a.env { K with nrm:=λ ρ' w'=>den P cl y sk.r ρ' K w' } w->x.wp P (Exit.then (y.wp P (PK n pw a0 K)) (PK n pw a0 K)) a w:=λ h=>by
   refine Code.wp_mono ?_ (Za3 hcl hmix x sk.l pw a0 hc.1 hw.1 hs.1.2 a _ w hk h);intro e a w hq;cases e with
   |normal=>exact Za3 hcl hmix y sk.r pw a0 hc.2 hw.2 hs.2 a K w hq.1 hq.2
   |_=>exact hq
  cases sk with
  |cut ms ts W l r=>
   simp only [Bool.and_eq_true] at hs;obtain ⟨J,h1,h2⟩:=(show ZAZ ts ms W a.env (λ k=>den P cl x l a.env { K with nrm:=k } w) (λ ρ' w'=>den P cl y r ρ' K w') from h)
   have:=Za3 hcl hmix x l (λ i=>pw i && Zlq i W) a.env hc.1 (Zbr hw.1 hs.1.1.1) hs.1.2 a _ w (Zcr.refl hk.size hk.defers) h1;refine Code.wp_mono ?_ this;intro e b w' hq;cases e with
   |normal=>
    obtain ⟨hkb,hq⟩:=hq;have hall:=h2 b.env;have hb:=Zh9 (by rw [ZgQ];exact Nat.eq_of_beq_eq_true hs.1.1.2) hq hall w' hq;rw [ZjO (λ i hi=>hkb.same i (by simp [hi]))] at hb;exact Za3 hcl hmix y r pw a0 hc.2 hw.2 hs.2 b K w' (hk.trans hkb) hb
   |exit i=>exact ⟨hk.trans hq.1,hq.2⟩
   |ret=>exact ⟨hk.trans hq.1,hq.2⟩
   |_=>exact hq.elim
  |leaf=>exact plain h
  |seq l r=>exact plain h
  |cond l r=>exact plain h
  |block l=>exact plain h
  |loop ms ts W l=>exact plain h
 | .loop c,sk,pw,a0,hc,hw,hs,a,K,w,hk,h=>by
  cases sk with
  |loop ms ts W l=>
   simp only [Zky,Bool.and_eq_true] at hs;have hc:Zd7 P n c=true:=hc;have hw:ZfS pw c=true:=hw;obtain ⟨I,μ,h0,hstep⟩:=(show Zue ts ms W a.env (λ ρ' k w'=>den P cl c l ρ' { K with nrm:=k } w') w from h)
   have hlen:∀ e:Env,(vals ms e).length=ts.length:=λ e=>by rw [ZgQ];exact Nat.eq_of_beq_eq_true hs.1.2
   refine wp_loop (λ b v=>Zcr n pw a0 b/\(∀ i,Zlq i W=false->b.env i=a.env i)/\app ts I (vals ms b.env) (λ p=>p v))
    (λ b v=>ZpX (λ _=>0) ts μ (vals ms b.env) v) ⟨hk,λ _ _=>rfl,h0⟩ ?_
   rintro b v ⟨hkb,hsame,hI⟩;have hb:=Zh9 (hlen b.env) hI (hstep b.env) v hI;rw [ZjO hsame] at hb;have:=Za3 hcl hmix c l (λ i=>pw i && Zlq i W) b.env hc (Zbr hw hs.1.1) hs.2 b _ v (Zcr.refl hkb.size hkb.defers) hb;refine Code.wp_mono ?_ this;intro e b' v' hq;cases e with
   |normal=>
    obtain ⟨hkb',hI',hμ⟩:=hq;exact ⟨⟨hkb.trans hkb',λ i hi=>(hkb'.same i (by simp [hi])).trans (hsame i hi),hI'⟩,by
     have h1:=Zh8 (d:=λ _=>0) hμ;exact Zh8 (d:=λ _=>0) h1⟩
   |exit i=>exact ⟨hkb.trans hq.1,hq.2⟩
   |ret=>exact ⟨hkb.trans hq.1,hq.2⟩
   |_=>exact hq.elim
  |_=>exact False.elim h
def ZeR:List Value->Env
 |[],_=>undef
 |v::vs,i=>match i with
  |0=>v
  |i + 1=>ZeR vs i
def ZBV (K:Value->World->Prop) (vs:List Value) (w:World):Prop:=
 match vs with
 |[v]=>K v w
 |vs=>K (.tuple vs.toArray) w
def ZqQ (P:Program) (ρ:Env) (K:Value->World->Prop):List ResultVar->List Value->World->Prop
 |[],acc,w=>ZBV K acc.reverse w
 | .tmp t::rs,acc,w=>ZqQ P ρ K rs (ρ t::acc) w
 | .cell a t::rs,acc,w=>Zik P (λ w'=>w'=w) t (ρ a) λ v=>ZqQ P ρ K rs (v::acc) w
def ZBT (P:Program) (n:Nat) (fn:Func) (sk:Sk):Bool:=
 Nat.beq n fn.ntmps && (match fn.body with|some c=>Zd7 P n c && ZfS (λ _=>true) c && Zky c sk|none=>false) &&
  fn.results.all λ r=>match r with| .tmp _=>true| .cell _ t=>ZrS P t
def fnF (P:Program) (cl:FuncId->Bool) (fn:Func) (sk:Sk) (args:List Value) (K:Value->World->Prop) (w:World):Prop:=
 match fn.body with
 |some c=>den P cl c sk (ZeR args) { nrm:=λ ρ w=>ZqQ P ρ K fn.results.toList [] w,ex:=λ _ _ _=>False,ret:=λ ρ w=>ZqQ P ρ K fn.results.toList [] w } w
 |none=>False
theorem Zgo:∀ (vs:List Value) (i:Nat),ZeR vs i=vs.getD i undef
 |[],i=>by simp [ZeR]
 |v::vs,0=>rfl
 |v::vs,i + 1=>by simpa [ZeR] using Zgo vs i
def Zhn (tmps:Array Value):ResultVar->Sem Value
 | .tmp t=>pure (tmps.getD t undef)
 | .cell a t=>do loadVar t (<-asAddr (tmps.getD a undef))
theorem ZiC (fn:Func) (tmps:Array Value):results fn tmps=(do
  let vs<-fn.results.mapM (Zhn tmps)
  pure (if h:vs.size=1 then vs[0] else .tuple vs)):=by
 unfold results
 congr 1
theorem Zej {a:Act} {K:Value->World->Prop} {w:World}:∀ (rs:List ResultVar) (acc:List Value),(∀ r∈rs,(match r with| .tmp _=>true| .cell _ t=>ZrS P t)=true)->
  ZqQ P a.env K rs acc w->∃ vs:List Value,(rs.mapM (Zhn a.tmps)).run P w=.ok vs w/\ZBV K (acc.reverse++vs) w
 |[],acc,_,h=>⟨[],rfl,by rw [List.append_nil];exact h⟩
 | .tmp t::rs,acc,hok,h=>by
  obtain ⟨vs,hr,hf⟩:=Zej rs (a.env t::acc) (λ r hr=>hok r (List.mem_cons_of_mem _ hr)) h;refine ⟨a.env t::vs,?_,by simpa using hf⟩;simp only [List.mapM_cons,Sem.run_bind,Zhn,Sem.run_pure,Result.andThen_ok,hr];rfl
 | .cell p t::rs,acc,hok,h=>by
  obtain ⟨v, hv, h⟩ := ZhF (ρ := fun _ => a.env p) (dst := none) (ty := 0) (pos := "") (after := #[]) (guard := none) (T := t) (x := .tmp 0) (hok _ (List.mem_cons_self ..)) h
  obtain ⟨vs,hr,hf⟩:=Zej rs (v::acc) (λ r hr=>hok r (List.mem_cons_of_mem _ hr)) h;refine ⟨v::vs,?_,by simpa using hf⟩;have hv:=hv w rfl;simp only [execOp,Sem.run_bind,Instr.loadAt] at hv;have h2:(Zhn a.tmps (.cell p t)).run P w=.ok v w:=by
   have ep:a.env p=a.tmps.getD p undef:=rfl;rw [ep] at hv;simp only [Zhn];generalize a.tmps.getD p undef=x at *;cases x<;>simp [Instr.sureAddr] at hv
   case pointer q=>
    cases q<;>simp at hv
    case some ad=>
     simp only [asAddr,Sem.run_bind,Sem.run_pure,Result.andThen_ok];generalize (loadVar t ad).run P w=r at *;cases r<;>simp at hv
     case ok x w'=>rw [hv.1,hv.2]
  rw [List.mapM_cons,Sem.run_bind,h2,Result.andThen_ok,Sem.run_bind,hr];rfl
def Zo (P:Program) (f:FuncId) (args:Array Value) (w:World) (Q:Value->World->Prop):Prop:=Calls P f args w λ e w'=>∃ v,e=.returned v/\Q v w'
theorem Zo.use {f:FuncId} {args:Array Value} {w:World} {Q:Value->World->Prop} {R:Ending->World->Prop} (h:Zo P f args w Q) (k:∀ v w',Q v w'->R (.returned v) w'):Calls P f args w R:=
 Calls.mono h λ _ w' ⟨v,he,hq⟩=>by rw [he];exact k v w' hq
theorem Zo.mono {f:FuncId} {args:Array Value} {w:World} {Q Q':Value->World->Prop} (h:Zo P f args w Q) (k:∀ v w',Q v w'->Q' v w'):Zo P f args w Q':=
 Calls.mono h λ _ w' ⟨v,he,hq⟩=>⟨v,he,k v w' hq⟩
theorem ZuS {f:FuncId} {fn:Func} {sk:Sk} (hcl:∀ g,cl g=true->ZQ P g=true) (hmix:P.follows .mixedOrders=true)
  (hf:P.funcs[f]? =some fn) (hok:ZBT P fn.ntmps fn sk=true) {args:List Value} {K:Value->World->Prop} {w:World} (hargs:args.length<=fn.ntmps)
  (h:fnF P cl fn sk args K w):Zo P f args.toArray w K:=by
 unfold Zo;unfold fnF at h;unfold ZBT at hok;simp only [Bool.and_eq_true] at hok;obtain ⟨⟨_,hbody⟩,hres⟩:=hok;split at h
 case h_2=>exact h.elim
 rename_i c hb;rw [hb] at hbody;simp only [Bool.and_eq_true] at hbody;refine calls_of_wp hf hb ?_;have henv:({ tmps:=args.toArray++Array.replicate (fn.ntmps - args.toArray.size) undef,defers:=[] }:Act).env=ZeR args:=by
  funext i
  rw [Zgo];simp only [Act.env];rcases Nat.lt_or_ge i args.length with hi|hi
  ·simp [Array.getElem?_append,hi]
  ·simp only [Array.getD_eq_getD_getElem?,Array.getElem?_append,List.size_toArray,if_neg (Nat.not_lt.2 hi),Array.getElem?_replicate,List.getD_eq_getElem?_getD,List.getElem?_eq_none hi]
   split<;>rfl
 rw [<-henv] at h;have hres':∀ r∈fn.results.toList,(match r with| .tmp _=>true| .cell _ t=>ZrS P t)=true:=λ r hr=>by
  rw [Array.all_eq_true_iff_forall_mem] at hres;exact hres r (by simpa using hr)
 have fin:∀ (a:Act) (w:World),a.defers=[]->ZqQ P a.env K fn.results.toList [] w->
   a.defers=[]/\∃ v,(results fn a.tmps).run P w=.ok v w/\(∃ v',Ending.returned v=.returned v'/\K v' w):=λ a w hd hr=>by
  obtain ⟨vs,hvs,hf⟩:=Zej fn.results.toList [] hres' hr;refine ⟨hd,?_⟩;have hm:(fn.results.mapM (Zhn a.tmps)).run P w=.ok vs.toArray w:=by
   rw [Array.mapM_eq_mapM_toList];simp only [Sem.run_map,hvs,Result.andThen_ok]
  refine ⟨_,by rw [ZiC,Sem.run_bind,hm];rfl,?_⟩;cases vs with
  |nil=>exact ⟨_,rfl,hf⟩
  |cons v vs=>cases vs with
   |nil=>exact ⟨_,rfl,hf⟩
   |cons u us=>exact ⟨_,rfl,hf⟩
 refine Code.wp_mono ?_ (Za3 (n:=fn.ntmps) hcl hmix c sk (λ _=>true) _ hbody.1.1 hbody.1.2 hbody.2 _ _ w (Zcr.refl (by simp;omega) rfl) h);intro e a w hq;cases e with
 |normal=>exact fin a w hq.1.defers hq.2
 |ret=>exact fin a w hq.1.defers hq.2
 |exit i=>exact hq.2.elim
 |_=>exact hq.elim
end
def ZAI (P:Program) (cl:FuncId->Bool) (X:List PanicEntry->World->Prop) (f:Value) (args:Array Value) (t:Rt) (K:Value->World->Prop) (w:World):Prop:=
 Zak P cl f args.toList w λ e w'=>(t.ex λ v=>e=.returned v/\K v w')\/∃ ch,e=.panicked ch/\X ch w'
def thrF (X:List PanicEntry->World->Prop) (x:Value) (w:World):Prop:=
 match x with
 | .iface t v=>X [{ v:=.iface t v,recovered:=false }] w
 |_=>False
def ZuE (op:Op):Nat:=
 match op with
 | .call c=>(match c.callee with| .value _=>6|_=>0)
 | .panic _=>7
 |_=>0
def Zw0 (P:Program) (cl:FuncId->Bool) (X:List PanicEntry->World->Prop) (ρ:Env) (o:Oper) (K:Value->World->Prop) (w:World):Prop:=
 match ZuE o.op with
 |6=>(match o.op with| .call c=>(match c.callee with| .value f=>ZAI P cl X (ρ.ev f) (c.args.map ρ.ev) (Zza P o.type) K w|_=>False)|_=>False)
 |7=>(match o.op with| .panic x=>thrF X (ρ.ev x) w|_=>False)
 |_=>ZAY P cl ρ o K w
theorem ZmX {P:Program} {cl:FuncId->Bool} (hcl:∀ g,cl g=true->ZQ P g=true) {X:List PanicEntry->World->Prop} {a:Act} {e:Env} {o:Oper} {K:Value->World->Prop} {w:World}
  {Q:Exit->Act->World->Prop} (hX:∀ ch w,X ch w->Q (.panic ch) a w) (h:Zw0 P cl X e o K w):o.upon P a (ZpU a o.dst K) Q ((execOp e.ev o).run P w):=by
 unfold Zw0 at h;split at h
 ·rename_i hk
  clear hk;obtain ⟨dst,op,ty,pos,after,guard⟩:=o;cases op<;>simp only at h<;>first|exact h.elim|skip
  case call c=>
   obtain ⟨callee,args,ats⟩:=c;cases callee<;>simp only at h<;>first|exact h.elim|skip
   case value f=>
    unfold ZAI Zak at h;split at h
    case h_2=>exact h.elim
    rename_i fn first captured hf
    split at h
    case h_2=>exact h.elim
    rename_i g;have hargs:(first++args.map e.ev)++captured=(first.toList++((args.map e.ev).toList++captured.toList)).toArray:=by
     apply Array.ext';simp
    split at h
    case h_2=>
     obtain ⟨v',w',hr,hx⟩:=h;have:(execOp e.ev ⟨dst,.call ⟨.value f,args,ats⟩,ty,pos,after,guard⟩).run P w=.ok (.value v') w':=by
      simp only [execOp,resolve,hf,Deferred.ofValue];simp only [Sem.run_bind,Sem.run_pure,Result.andThen_ok,invoke,<-hargs] at hr ⊢;exact hr
     rw [this];rcases hx with hx|⟨ch,hc,_⟩
     ·obtain ⟨v,hv,hK⟩:=Rt.ex_some hx
      cases hv;exact ⟨_,rfl,hK⟩
     ·cases hc
    rename_i hg;have:(execOp e.ev ⟨dst,.call ⟨.value f,args,ats⟩,ty,pos,after,guard⟩).run P w=.ok (.enter g (first.toList++((args.map e.ev).toList++captured.toList)).toArray) w:=by
     simp only [execOp,resolve,hf,Deferred.ofValue];simp only [Sem.run_bind,Sem.run_pure,Result.andThen_ok,invoke,<-hargs];exact Zea (hcl g hg) _ w
    rw [this];refine Calls.mono h ?_;rintro en w' (hx|⟨ch,rfl,hx⟩)
    ·obtain ⟨v,rfl,hK⟩:=Rt.ex_some hx
     exact ⟨v,rfl,hK⟩
    ·exact hX ch w' hx
 ·rename_i hk
  clear hk;obtain ⟨dst,op,ty,pos,after,guard⟩:=o;cases op<;>simp only at h<;>first|exact h.elim|skip
  case panic x=>
   unfold thrF at h;split at h
   ·rename_i t v hx
    have:(execOp e.ev ⟨dst,.panic x,ty,pos,after,guard⟩).run P w=.halt (.panic (.iface t v)) w:=by
     simp only [execOp,hx];rfl
    rw [this];exact hX _ w h
   ·exact h.elim
 ·exact Zi8 hcl h
def Zzx (P:Program) (cl:FuncId->Bool) (X:List PanicEntry->World->Prop) (ρ:Env) (o:Oper) (K:Value->World->Prop) (w:World):Prop:=
 match Zfm P o.op with
 |0=>(match Zel P o.op with
  |0=>Zw0 P cl X ρ o K w
  |_=>ZqV P (λ w'=>w'=w) ρ o (λ v=>K v w))
 |_=>Zrb P ρ o (λ v=>K v w)
theorem Zf3 {P:Program} {cl:FuncId->Bool} (hcl:∀ g,cl g=true->ZQ P g=true) {X:List PanicEntry->World->Prop} {a:Act} {e:Env} {o:Oper} {K:Value->World->Prop} {w:World}
  {Q:Exit->Act->World->Prop} (hX:∀ ch w,X ch w->Q (.panic ch) a w) (hok:Zii P o.op=true) (h:Zzx P cl X e o K w):o.upon P a (ZpU a o.dst K) Q ((execOp e.ev o).run P w):=by
 unfold Zzx at h;split at h
 ·split at h
  ·exact ZmX hcl hX h
  ·rename_i hk
   exact ZcQ.upon (S:=λ w'=>w'=w) rfl (ZeW hk (Zmz hok) h)
 ·exact ZcQ.upon (S:=λ _=>True) trivial (ZeZ (ZjE hok) h)
section
def Zro (P:Program) (cl:FuncId->Bool) (X:List PanicEntry->List Value->World->Prop) (ps:List Nat) (ops:Array Oper):List Oper->Env->(Env->World->Prop)->World->Prop
 |[],ρ,K,w=>K ρ w
 |o::rest,ρ,K,w=>ZdH ops ρ o
   (λ ρ=>Zzx P cl (λ ch w=>X ch (vals ps ρ) w) ρ o (λ v w=>Zro P cl X ps ops rest (ρ.put o.dst v) K w) w)
   (λ ρ=>Zro P cl X ps ops rest (ρ.put o.dst undef) K w)
def Zin (P:Program) (cl:FuncId->Bool) (X:List PanicEntry->List Value->World->Prop) (ps:List Nat) (ops:Array Oper) (S:World->Prop):Nat->Bool->Array Bool->Env->(Env->World->Prop)->World->Prop
 |0,_,listed,ρ,K,w=>(match Region.ready .any ops listed with
  |[]=>K ρ w
  |_=>False)
 |fuel + 1,hs,listed,ρ,K,w=>(match Region.ready .any ops listed with
  |[]=>K ρ w
  |r::rs=>(match Zlg P ops listed (r::rs) with
   |some i=>(match ops[i]? with
    |some o=>ZdH ops ρ o
      (λ ρ=>ZAT P S hs ρ o λ v=>Zin P cl X ps ops S fuel hs (listed.setIfInBounds i true) (ρ.put o.dst v) K w)
      (λ ρ=>Zin P cl X ps ops S fuel hs (listed.setIfInBounds i true) (ρ.put o.dst undef) K w)
    |none=>False)
   |none=>Zzh (λ i=>match ops[i]? with
    |some o=>ZdH ops ρ o
      (λ ρ=>(match Zae P o.op||Z9 P o.op with
       |true=>False
       |false=>match Zc5 P ops i with
       |true=>Zzx P cl (λ ch w=>X ch (vals ps ρ) w) ρ o (λ v w=>S w/\Zin P cl X ps ops S fuel hs (listed.setIfInBounds i true) (ρ.put o.dst v) K w) w
       |false=>Zzx P cl (λ ch w=>X ch (vals ps ρ) w) ρ o (λ v w=>Zin P cl X ps ops S fuel false (listed.setIfInBounds i true) (ρ.put o.dst v) K w) w))
      (λ ρ=>(match Zae P o.op||Z9 P o.op with
       |true=>False
       |false=>match Zc5 P ops i with
       |true=>(match hs with
        |true=>Zin P cl X ps ops S fuel true (listed.setIfInBounds i true) (ρ.put o.dst undef) K w
        |false=>False)
       |false=>Zin P cl X ps ops S fuel false (listed.setIfInBounds i true) (ρ.put o.dst undef) K w))
    |none=>False) (r::rs)))
structure Zbg (n:Nat) (ds:List Deferred) (pw:Nat->Bool) (a0:Env) (a:Act):Prop where
 size:a.tmps.size=n
 defers:a.defers=ds
 same:∀ i,pw i=false->a.env i=a0 i
theorem Zbg.put {n:Nat} {ds:List Deferred} {pw:Nat->Bool} {a0:Env} {a:Act} (h:Zbg n ds pw a0 a) {o:Oper} (ho:ZbD n pw o=true) (v:Value):Zbg n ds pw a0 (a.put o.dst v):=by
 refine ⟨by rw [Zjy];exact h.size,by rw [Zf1];exact h.defers,λ i hi=>?_⟩;unfold ZbD at ho;have hd:∀ x,o.dst=some x->x<a.tmps.size:=λ x hx=>by
  rw [hx] at ho;simp only [Bool.and_eq_true] at ho;rw [h.size];exact Nat.blt_eq.mp ho.1
 rw [Zgi hd];cases hx:o.dst with
 |none=>exact h.same i hi
 |some d=>
  rw [hx] at ho;simp only [Bool.and_eq_true] at ho;simp only [Env.put,Env.set];split
  ·rename_i hb;have:=Nat.eq_of_beq_eq_true hb;subst this;rw [hi] at ho;simp at ho
  ·exact h.same i hi
theorem Zbg.envput {n:Nat} {ds:List Deferred} {pw:Nat->Bool} {a0:Env} {a:Act} (h:Zbg n ds pw a0 a) {o:Oper} (ho:ZbD n pw o=true) (v:Value):(a.put o.dst v).env=a.env.put o.dst v:=by
 refine Zgi λ x hx=>?_;unfold ZbD at ho;rw [hx] at ho;simp only [Bool.and_eq_true] at ho;rw [h.size];exact Nat.blt_eq.mp ho.1
theorem Zbg.unput {n:Nat} {ds:List Deferred} {pw:Nat->Bool} {a0:Env} {a:Act} {o:Oper} (ho:ZbD n pw o=true) {v:Value} (h:Zbg n ds pw a0 (a.put o.dst v)):Zbg n ds pw a0 a:=by
 have hs:a.tmps.size=n:=by rw [<-Zjy a o.dst v];exact h.size
 have hd0:a.defers=ds:=by rw [<-Zf1 a o.dst v];exact h.defers
 refine ⟨hs,hd0,λ i hi=>?_⟩;have:=h.same i hi;have hd:∀ x,o.dst=some x->x<a.tmps.size:=λ x hx=>by
  unfold ZbD at ho;rw [hx] at ho;simp only [Bool.and_eq_true] at ho;rw [hs];exact Nat.blt_eq.mp ho.1
 rw [Zgi hd] at this;unfold ZbD at ho;cases hx:o.dst with
 |none=>rw [hx] at this;exact this
 |some d=>
  rw [hx] at this ho;simp only [Bool.and_eq_true] at ho;simp only [Env.put,Env.set] at this;split at this
  ·rename_i hb;have:=Nat.eq_of_beq_eq_true hb;subst this;rw [hi] at ho;simp at ho
  ·exact this
def Zwr (ps:List Nat) (o:Oper):Bool:=match o.dst with|some d=>!Zlq d ps|none=>true
theorem ZtA {n:Nat} {pw:Nat->Bool} {ps:List Nat} {a:Act} {o:Oper} (ho:ZbD n pw o=true) (hs:a.tmps.size=n) (hp:Zwr ps o=true) (v:Value):vals ps (a.put o.dst v).env=vals ps a.env:=by
 have hd:∀ x,o.dst=some x->x<a.tmps.size:=λ x hx=>by
  unfold ZbD at ho;rw [hx] at ho;simp only [Bool.and_eq_true] at ho;rw [hs];exact Nat.blt_eq.mp ho.1
 rw [Zgi hd];unfold Zwr at hp;cases hx:o.dst with
 |none=>rfl
 |some d=>
  rw [hx] at hp;simp only [Bool.not_eq_true'] at hp;unfold vals;apply List.map_congr_left;intro i hi;simp only [Env.put,Env.set];split
  ·rename_i hb
   have:=Nat.eq_of_beq_eq_true hb;subst this;have:∀ l:List Nat,i∈l->Zlq i l=true:=λ l=>by
    induction l with
    |nil=>intro h;cases h
    |cons j l ih=>
     intro h;unfold Zlq;cases hb:Nat.beq i j with
     |true=>rfl
     |false=>
      rcases List.mem_cons.1 h with rfl|h
      ·simp at hb
      ·exact ih h
   rw [this ps hi] at hp;cases hp
  ·rfl
section
variable {P:Program} {cl:FuncId->Bool} {X:List PanicEntry->List Value->World->Prop} {ps:List Nat} {ops:Array Oper} {Q:Exit->Act->World->Prop} {n:Nat} {ds:List Deferred} {pw:Nat->Bool} {a0:Env}
theorem ZcA (hcl:∀ g,cl g=true->ZQ P g=true) {K:Env->World->Prop}
  (hQ:∀ a w,Zbg n ds pw a0 a->K a.env w->Q .normal a w) (hX:∀ ch a w,Zbg n ds pw a0 a->X ch (vals ps a.env) w->Q (.panic ch) a w):∀ (l:List Oper) (_:∀ o∈l,Zii P o.op=true/\ZbD n pw o=true) (a:Act) (w:World),
   Zbg n ds pw a0 a->Zro P cl X ps ops l a.env K w->wpList P ops Q l a w
 |[],_,a,w,hk,h=>hQ a w hk h
 |o::rest,hl,a,w,hk,h=>by
  have ho:=hl o (List.mem_cons_self ..);have hrest:=λ x hx=>hl x (List.mem_cons_of_mem _ hx);unfold Zro at h;unfold wpList;rcases Zaa h with ⟨hw,h⟩|⟨hw,h⟩
  ·rw [if_pos hw]
   refine .inl ?_;have:=Zf3 hcl (λ ch w hx=>hX ch a w hk (by exact hx)) ho.1 h;rw [Zap] at this;unfold Oper.wp;refine upon_mono ?_ this;rintro a' w' ⟨v,rfl,hv⟩;refine ZcA hcl hQ hX rest hrest _ w' (hk.put ho.2 v) ?_;rw [hk.envput ho.2];exact hv
  ·rw [hw]
   simp only [Bool.false_eq_true,if_false];refine ZcA hcl hQ hX rest hrest _ w (hk.put ho.2 _) ?_;rw [hk.envput ho.2];exact h
where
 upon_mono {o:Oper} {a:Act} {K K':Act->World->Prop} {r:Result Next} (h:∀ a w,K a w->K' a w) (hh:o.upon P a K Q r):o.upon P a K' Q r:=by
  cases r with
  |ok x w'=>
   cases x<;>simp only [Oper.upon] at hh ⊢<;>
    first
     |exact h _ _ hh
     |exact Calls.mono hh (λ e w'' he=>by cases e<;>first|exact h _ _ he|exact he)
     |exact Rows.mono hh (λ _ _ he=>h _ _ he)
  |halt x w'=>cases x<;>simp only [Oper.upon] at hh ⊢<;>exact hh
theorem Zm8 (hcl:∀ g,cl g=true->ZQ P g=true) (hsel:Region.noSelect ops=true) {K:Env->World->Prop} {S:World->Prop}
  (hQ:∀ a w,Zbg n ds pw a0 a->K a.env w->Q .normal a w) (hX:∀ ch a w,Zbg n ds pw a0 a->X ch (vals ps a.env) w->Q (.panic ch) a w) (hQp:∀ (i:Nat) (o:Oper) (v:Value) c a w,ops[i]? =some o->Q (.panic c) (a.put o.dst v) w->Q (.panic c) a w) (hops:∀ (i:Nat) (o:Oper),ops[i]? =some o->Zii P o.op=true/\ZbD n pw o=true):
  ∀ (fuel:Nat) (hs:Bool) (listed:Array Bool) (a:Act) (w:World),Zbg n ds pw a0 a->(hs=true->S w)->Zin P cl X ps ops S fuel hs listed a.env K w->
   wpT P .any ops Q S (Zc5 P ops) (looks P ops) fuel listed a w:=by
 intro fuel
 induction fuel with
 |zero=>
  intro hs listed a w hk hS h;unfold Zin at h;split at h
  ·rename_i hr;exact ⟨hr,hQ a w hk h⟩
  ·exact h.elim
 |succ fuel ih=>
  intro hs listed a w hk hS h;unfold Zin at h;split at h
  ·rename_i hr
   exact ⟨λ _=>hQ a w hk h,λ i hi=>by rw [hr] at hi;cases hi⟩
  ·rename_i r rs hr
   split at h
   ·rename_i i hp
    obtain ⟨hmem,o,ho,hpr,hfree⟩:=Zcq hp;rw [ho] at h;simp only at h;obtain ⟨hok,hd⟩:=hops i o ho;have hni:Zc5 P ops i=false:=by
     unfold Zc5;rw [ho];simp only;rcases Bool.or_eq_true _ _|>.mp hpr with hp|hp<;>simp [hp]
    have hrdy:i∈Region.ready .any ops listed:=by rw [hr];exact hmem
    have hfs:=Region.free_spec (md:=.any) ho hfree;have hself:=Region.noSelect_spec hsel;rcases Zaa h with ⟨hw,h⟩|⟨hw,h⟩
    ·rcases Ziy hok hpr h with ⟨hp,v,hv,hK⟩|⟨hp,hhs,v,hv,hK⟩
     ·refine Zas (T:=λ _=>True) ho hself (λ c a w hc=>hQp i o _ c a w ho hc) hni fuel listed a w (λ j oj hj hne hun hno=>⟨hfs j oj hj hne hun hno,λ _ _ _ _ _=>trivial⟩) hrdy (.inl ⟨hw,?_⟩) trivial
       (ih hs (listed.setIfInBounds i true) (a.put o.dst v) w (hk.put hd v) hS ?_)
      ·rw [<-Zap];exact hv
      ·rw [hk.envput hd];exact hK
     ·have hri:Z9 P o.op=true:=by rw [hp] at hpr;simpa using hpr
      refine Zas (T:=S) ho hself (λ c a w hc=>hQp i o _ c a w ho hc) hni fuel listed a w (λ j oj hj hne hun hno=>⟨hfs j oj hj hne hun hno,λ w w' hw hneed hlook=>?_⟩) hrdy (.inl ⟨hw,?_⟩) (hS hhs)
       (ih hs (listed.setIfInBounds i true) (a.put o.dst v) w (hk.put hd v) hS ?_)
      ·cases hl:(Zae P oj.op||Z9 P oj.op) with
       |true=>have:=hlook (by unfold looks;rw [hj];exact hl);rw [this];exact hw
       |false=>exact hneed (ZjK ho hj hri hl hno)
      ·rw [<-Zap];exact hv
      ·rw [hk.envput hd];exact hK
    ·refine Zas (T:=λ _=>True) ho hself (λ c a w hc=>hQp i o _ c a w ho hc) hni fuel listed a w (λ j oj hj hne hun hno=>⟨hfs j oj hj hne hun hno,λ _ _ _ _ _=>trivial⟩) hrdy (.inr ⟨hw,rfl⟩) trivial
       (ih hs (listed.setIfInBounds i true) (a.put o.dst undef) w (hk.put hd _) hS ?_)
     rw [hk.envput hd];exact h
   ·refine ⟨λ h0=>absurd (hr ▸ h0) (by simp),λ i hi=>?_⟩
    rw [hr] at hi;have h:=ZfQ h i hi;split at h
    case h_2=>exact h.elim
    rename_i o ho;obtain ⟨hok,hd⟩:=hops i o ho;refine Zjf ho ?_;rcases Zaa h with ⟨hw,h⟩|⟨hw,h⟩
    ·refine .inl ⟨hw,?_⟩
     split at h
     ·exact h.elim
     ·rename_i hl
      have hlk:looks P ops i=false:=by unfold looks;rw [ho];exact hl
      split at h
      ·rename_i hnd
       have:=Zf3 hcl (λ ch w hx=>hX ch a w hk (by exact hx)) hok h;rw [Zap] at this;refine ZcA.upon_mono ?_ this;rintro a' w' ⟨v,rfl,hSw,hK⟩;refine ⟨⟨λ _=>hSw,λ hh=>(by rw [hlk] at hh;cases hh)⟩,ih hs _ _ w' (hk.put hd v) (λ _=>hSw) ?_⟩;rw [hk.envput hd];exact hK
      ·rename_i hnd
       have:=Zf3 hcl (λ ch w hx=>hX ch a w hk (by exact hx)) hok h;rw [Zap] at this;refine ZcA.upon_mono ?_ this;rintro a' w' ⟨v,rfl,hK⟩;refine ⟨⟨λ hh=>(by rw [hnd] at hh;cases hh),λ hh=>(by rw [hlk] at hh;cases hh)⟩,ih false _ _ w' (hk.put hd v) (λ hh=>by cases hh) ?_⟩;rw [hk.envput hd];exact hK
    ·refine .inr ⟨hw,?_⟩
     split at h
     ·exact h.elim
     ·rename_i hl
      have hlk:looks P ops i=false:=by unfold looks;rw [ho];exact hl
      split at h
      ·split at h
       ·have hSw:=hS rfl
        refine ⟨⟨λ _=>hSw,λ _=>rfl⟩,ih true _ _ w (hk.put hd _) (λ _=>hSw) ?_⟩;rw [hk.envput hd];exact h
       ·exact h.elim
      ·rename_i hnd
       refine ⟨⟨λ hh=>(by rw [hnd] at hh;cases hh),λ _=>rfl⟩,ih false _ _ w (hk.put hd _) (λ hh=>by cases hh) ?_⟩;rw [hk.envput hd];exact h
end
end
section
def Zja (P:Program) (cl:FuncId->Bool) (X:List PanicEntry->List Value->World->Prop) (ps:List Nat):Code->Sk->Env->ZvL->World->Prop
 | .skip,_,ρ,K,w=>K.nrm ρ w
 | .label _,_,ρ,K,w=>K.nrm ρ w
 | .region _ ops d,_,ρ,K,w=>(match d with
  |false=>Zro P cl X ps ops ops.toList ρ K.nrm w
  |true=>Drw w λ S w'=>Zin P cl X ps ops S ops.size true (Array.replicate ops.size false) ρ K.nrm w')
 | .seq a b,sk,ρ,K,w=>(match sk with
  | .cut ms ts W _ _=>ZAZ ts ms W ρ (λ k=>Zja P cl X ps a sk.l ρ { K with nrm:=k } w) (λ ρ' w'=>Zja P cl X ps b sk.r ρ' K w')
  |_=>Zja P cl X ps a sk.l ρ { K with nrm:=λ ρ' w'=>Zja P cl X ps b sk.r ρ' K w' } w)
 | .cond c a b,sk,ρ,K,w=>(match ρ.ev c with
  | .bool t=>Br t (Zja P cl X ps a sk.l ρ K w) (Zja P cl X ps b sk.r ρ K w)
  |_=>False)
 | .block id a,sk,ρ,K,w=>Zja P cl X ps a sk.l ρ { K with ex:=λ i=>match Nat.beq i id with|true=>K.nrm|false=>K.ex i } w
 | .loop a,sk,ρ,K,w=>(match sk with
  | .loop ms ts W _=>Zue ts ms W ρ (λ ρ' k w'=>Zja P cl X ps a sk.l ρ' { K with nrm:=k } w') w
  |_=>False)
 | .scope a,sk,ρ,K,w=>Zja P cl X ps a sk.l ρ K w
 | .exit id,_,ρ,K,w=>K.ex id ρ w
 | .ret,_,ρ,K,w=>K.ret ρ w
 |_,_,_,_,_=>False
def ZcJ (P:Program) (n:Nat) (ps:List Nat):Code->Bool
 | .region _ ops d=>Region.noSelect ops && (ops.all λ o=>Zii P o.op && (match o.dst with|some d=>Nat.blt d n|none=>true)) && (match d with|true=>ops.all (Zwr ps)|false=>true)
 | .seq a b| .cond _ a b=>ZcJ P n ps a && ZcJ P n ps b
 | .block _ a| .loop a| .scope a=>ZcJ P n ps a
 | .rangeFunc _ _ _ _=>false
 |_=>true
def PKx (n:Nat) (ds:List Deferred) (pw:Nat->Bool) (X:List PanicEntry->List Value->World->Prop) (ps:List Nat) (a0:Env) (K:ZvL):Exit->Act->World->Prop
 | .normal,a,w=>Zbg n ds pw a0 a/\K.nrm a.env w
 | .exit i,a,w=>Zbg n ds pw a0 a/\K.ex i a.env w
 | .ret,a,w=>Zbg n ds pw a0 a/\K.ret a.env w
 | .panic ch,a,w=>Zbg n ds pw a0 a/\X ch (vals ps a.env) w
 |_,_,_=>False
theorem Zbg.refl' {n:Nat} {ds:List Deferred} {pw:Nat->Bool} {a:Act} (h:a.tmps.size=n) (hd:a.defers=ds):Zbg n ds pw a.env a:=⟨h,hd,λ _ _=>rfl⟩
theorem Zbg.trans {n:Nat} {ds:List Deferred} {pw:Nat->Bool} {q:Nat->Bool} {a0:Env} {a b:Act} (h:Zbg n ds pw a0 a) (h':Zbg n ds (λ i=>pw i && q i) a.env b):Zbg n ds pw a0 b:=
 ⟨h'.size,h'.defers,λ i hi=>(h'.same i (by simp [hi])).trans (h.same i hi)⟩
variable {P:Program} {cl:FuncId->Bool} {X:List PanicEntry->List Value->World->Prop} {ps:List Nat} {n:Nat} {ds:List Deferred}
theorem Zju (hcl:∀ g,cl g=true->ZQ P g=true) (hmix:P.follows .mixedOrders=true) {pw:Nat->Bool} {a0:Env} {id:Nat} {ops:Array Oper} {d:Bool}
  (hc:ZcJ P n ps (.region id ops d)=true) (hw:ZfS pw (.region id ops d)=true) {sk:Sk} {K:ZvL} {a:Act} {w:World} (hk:Zbg n ds pw a0 a)
  (h:Zja P cl X ps (.region id ops d) sk a.env K w):(Code.region id ops d).wp P (PKx n ds pw X ps a0 K) a w:=by
 simp only [ZcJ,Bool.and_eq_true] at hc;obtain ⟨⟨hsel,hall⟩,hps⟩:=hc;rw [Array.all_eq_true_iff_forall_mem] at hall;simp only [Bool.and_eq_true] at hall;simp only [ZfS,Array.all_eq_true_iff_forall_mem] at hw;have hops:∀ o∈ops,Zii P o.op=true/\ZbD n pw o=true:=λ o ho=>by
  have h1:=hall o ho;have h2:=hw o ho;refine ⟨h1.1,?_⟩;unfold ZbD;cases hd:o.dst with
  |none=>rfl
  |some x=>rw [hd] at h1 h2;simp only [Bool.and_eq_true];exact ⟨h1.2,h2⟩
 unfold Zja at h;cases d with
 |false=>
  exact wp_region_list (ZcA (X:=X) (ps:=ps) (Q:=PKx n ds pw X ps a0 K) hcl (λ a w hk h=>⟨hk,h⟩) (λ ch a w hk h=>⟨hk,h⟩) ops.toList (λ o ho=>hops o (by simpa using ho)) a w hk h)
 |true=>
  obtain ⟨S0,S,hS,h⟩:=h;obtain ⟨hS,h⟩:=h _ hS;refine wp_region_any hmix (Zg4 _ _ _ _ (Zm8 (X:=X) (ps:=ps) (Q:=PKx n ds pw X ps a0 K) hcl hsel (λ a w hk h=>⟨hk,h⟩) (λ ch a w hk h=>⟨hk,h⟩) (λ i o v c a w ho h=>by
   have hm:=Array.mem_of_getElem? ho;have hd:=(hops o hm).2;rw [Array.all_eq_true_iff_forall_mem] at hps;have hk2:=Zbg.unput hd h.1;exact ⟨hk2,by rw [<-ZtA hd hk2.size (hps o hm) v];exact h.2⟩) (λ i o ho=>hops o (Array.mem_of_getElem? ho)) _ _ _ _ _ hk (λ _=>hS) h))
theorem ZaG (hcl:∀ g,cl g=true->ZQ P g=true) (hmix:P.follows .mixedOrders=true):∀ (c:Code) (sk:Sk) (pw:Nat->Bool) (a0:Env),
  ZcJ P n ps c=true->ZfS pw c=true->Zky c sk=true->∀ (a:Act) (K:ZvL) (w:World),Zbg n ds pw a0 a->Zja P cl X ps c sk a.env K w->c.wp P (PKx n ds pw X ps a0 K) a w
 | .skip,sk,pw,a0,_,_,_,a,K,w,hk,h=>wp_skip ⟨hk,h⟩
 | .label _,sk,pw,a0,_,_,_,a,K,w,hk,h=>wp_label ⟨hk,h⟩
 | .exit _,sk,pw,a0,_,_,_,a,K,w,hk,h=>wp_exit ⟨hk,h⟩
 | .ret,sk,pw,a0,_,_,_,a,K,w,hk,h=>wp_ret ⟨hk,h⟩
 | .region id ops d,sk,pw,a0,hc,hw,_,a,K,w,hk,h=>Zju hcl hmix hc hw hk h
 | .goto _,sk,pw,a0,_,_,_,a,K,w,hk,h=>h.elim
 | .refuse _,sk,pw,a0,_,_,_,a,K,w,hk,h=>h.elim
 | .rangeFunc _ _ _ _,sk,pw,a0,_,_,_,a,K,w,hk,h=>h.elim
 | .scope c,sk,pw,a0,hc,hw,hs,a,K,w,hk,h=>by
  refine wp_scope_straight ?_;refine Code.wp_mono ?_ (ZaG hcl hmix c sk.l pw a0 hc hw hs a K w hk h);intro e a w hq;cases e<;>first|exact hq|exact hq.elim
 | .block id c,sk,pw,a0,hc,hw,hs,a,K,w,hk,h=>by
  refine wp_block ?_;refine Code.wp_mono ?_ (ZaG hcl hmix c sk.l pw a0 hc hw hs a _ w hk h);intro e a w hq;cases e with
  |exit i=>
   obtain ⟨hk,hq⟩:=hq;show if i=id then _ else _
   by_cases hi:i=id
   ·subst hi
    rw [if_pos rfl];have:Nat.beq i i=true:=by simp
    simp only [this] at hq;exact ⟨hk,hq⟩
   ·rw [if_neg hi]
    have:Nat.beq i id=false:=by
     cases hb:Nat.beq i id with
     |false=>rfl
     |true=>exact absurd (Nat.eq_of_beq_eq_true hb) hi
    simp only [this] at hq;exact ⟨hk,hq⟩
  |normal=>exact hq
  |ret=>exact hq
  |panic ch=>exact hq
  |_=>exact hq.elim
 | .cond c x y,sk,pw,a0,hc,hw,hs,a,K,w,hk,h=>by
  simp only [ZcJ,ZfS,Zky,Bool.and_eq_true] at hc hw hs;unfold Zja at h;split at h
  ·rename_i t ht
   rw [Zap] at ht;refine wp_cond_split ht (λ hb=>?_) (λ hb=>?_)
   ·subst hb;exact ZaG hcl hmix x sk.l pw a0 hc.1 hw.1 hs.1 a K w hk h
   ·subst hb;exact ZaG hcl hmix y sk.r pw a0 hc.2 hw.2 hs.2 a K w hk h
  ·exact h.elim
 | .seq x y,sk,pw,a0,hc,hw,hs,a,K,w,hk,h=>by
  simp only [ZcJ,ZfS,Zky,Bool.and_eq_true] at hc hw hs;refine wp_seq ?_;have plain:Zja P cl X ps x sk.l a.env { K with nrm:=λ ρ' w'=>Zja P cl X ps y sk.r ρ' K w' } w->x.wp P (Exit.then (y.wp P (PKx n ds pw X ps a0 K)) (PKx n ds pw X ps a0 K)) a w:=λ h=>by
   refine Code.wp_mono ?_ (ZaG hcl hmix x sk.l pw a0 hc.1 hw.1 hs.1.2 a _ w hk h);intro e a w hq;cases e with
   |normal=>exact ZaG hcl hmix y sk.r pw a0 hc.2 hw.2 hs.2 a K w hq.1 hq.2
   |_=>exact hq
  cases sk with
  |cut ms ts W l r=>
   simp only [Bool.and_eq_true] at hs;obtain ⟨J,h1,h2⟩:=(show ZAZ ts ms W a.env (λ k=>Zja P cl X ps x l a.env { K with nrm:=k } w) (λ ρ' w'=>Zja P cl X ps y r ρ' K w') from h)
   have:=ZaG hcl hmix x l (λ i=>pw i && Zlq i W) a.env hc.1 (Zbr hw.1 hs.1.1.1) hs.1.2 a _ w (Zbg.refl' hk.size hk.defers) h1;refine Code.wp_mono ?_ this;intro e b w' hq;cases e with
   |normal=>
    obtain ⟨hkb,hq⟩:=hq;have hall:=h2 b.env;have hb:=Zh9 (by rw [ZgQ];exact Nat.eq_of_beq_eq_true hs.1.1.2) hq hall w' hq;rw [ZjO (λ i hi=>hkb.same i (by simp [hi]))] at hb;exact ZaG hcl hmix y r pw a0 hc.2 hw.2 hs.2 b K w' (hk.trans hkb) hb
   |exit i=>exact ⟨hk.trans hq.1,hq.2⟩
   |ret=>exact ⟨hk.trans hq.1,hq.2⟩
   |panic ch=>exact ⟨hk.trans hq.1,hq.2⟩
   |_=>exact hq.elim
  |leaf=>exact plain h
  |seq l r=>exact plain h
  |cond l r=>exact plain h
  |block l=>exact plain h
  |loop ms ts W l=>exact plain h
 | .loop c,sk,pw,a0,hc,hw,hs,a,K,w,hk,h=>by
  cases sk with
  |loop ms ts W l=>
   simp only [Zky,Bool.and_eq_true] at hs;have hc:ZcJ P n ps c=true:=hc;have hw:ZfS pw c=true:=hw;obtain ⟨I,μ,h0,hstep⟩:=(show Zue ts ms W a.env (λ ρ' k w'=>Zja P cl X ps c l ρ' { K with nrm:=k } w') w from h)
   have hlen:∀ e:Env,(vals ms e).length=ts.length:=λ e=>by rw [ZgQ];exact Nat.eq_of_beq_eq_true hs.1.2
   refine wp_loop (λ b v=>Zbg n ds pw a0 b/\(∀ i,Zlq i W=false->b.env i=a.env i)/\app ts I (vals ms b.env) (λ p=>p v))
    (λ b v=>ZpX (λ _=>0) ts μ (vals ms b.env) v) ⟨hk,λ _ _=>rfl,h0⟩ ?_
   rintro b v ⟨hkb,hsame,hI⟩;have hb:=Zh9 (hlen b.env) hI (hstep b.env) v hI;rw [ZjO hsame] at hb;have:=ZaG hcl hmix c l (λ i=>pw i && Zlq i W) b.env hc (Zbr hw hs.1.1) hs.2 b _ v (Zbg.refl' hkb.size hkb.defers) hb;refine Code.wp_mono ?_ this;intro e b' v' hq;cases e with
   |normal=>
    obtain ⟨hkb',hI',hμ⟩:=hq;exact ⟨⟨hkb.trans hkb',λ i hi=>(hkb'.same i (by simp [hi])).trans (hsame i hi),hI'⟩,by
     have h1:=Zh8 (d:=λ _=>0) hμ;exact Zh8 (d:=λ _=>0) h1⟩
   |exit i=>exact ⟨hkb.trans hq.1,hq.2⟩
   |ret=>exact ⟨hkb.trans hq.1,hq.2⟩
   |panic ch=>exact ⟨hkb.trans hq.1,hq.2⟩
   |_=>exact hq.elim
  |_=>exact False.elim h
def ZwK (P:Program) (n:Nat) (fn:Func) (sk:Sk) (ps:List Nat):Bool:=
 Nat.beq n fn.ntmps && (match fn.body with|some c=>ZcJ P n ps c && ZfS (λ _=>true) c && Zky c sk|none=>false) &&
  fn.results.all λ r=>match r with| .tmp _=>true| .cell _ t=>ZrS P t
def ZBU (P:Program) (cl:FuncId->Bool) (X:List PanicEntry->World->Prop) (fn:Func) (sk:Sk) (args:List Value) (K:Value->World->Prop) (w:World):Prop:=
 match fn.body with
 |some c=>Zja P cl (λ ch _ w=>X ch w) [] c sk (ZeR args) { nrm:=λ ρ w=>ZqQ P ρ K fn.results.toList [] w,ex:=λ _ _ _=>False,ret:=λ ρ w=>ZqQ P ρ K fn.results.toList [] w } w
 |none=>False
def ZaV (P:Program) (f:FuncId) (args:Array Value) (w:World) (X:List PanicEntry->World->Prop) (K:Value->World->Prop):Prop:=
 Calls P f args w λ e w'=>(∃ v,e=.returned v/\K v w')\/∃ ch,e=.panicked ch/\X ch w'
theorem ZaV.use {f:FuncId} {args:Array Value} {w:World} {X:List PanicEntry->World->Prop} {K:Value->World->Prop} {R:Ending->World->Prop} (h:ZaV P f args w X K) (k:∀ v w',K v w'->R (.returned v) w') (kx:∀ ch w',X ch w'->R (.panicked ch) w'):Calls P f args w R:=
 Calls.mono h λ e w' he=>by
  rcases he with ⟨v,rfl,hq⟩|⟨ch,rfl,hq⟩
  ·exact k v w' hq
  ·exact kx ch w' hq
theorem ZhW {fn:Func} {args:List Value}:({ tmps:=args.toArray++Array.replicate (fn.ntmps - args.toArray.size) undef,defers:=[] }:Act).env=ZeR args:=by
 funext i
 rw [Zgo];simp only [Act.env];rcases Nat.lt_or_ge i args.length with hi|hi
 ·simp [Array.getElem?_append,hi]
 ·simp only [Array.getD_eq_getD_getElem?,Array.getElem?_append,List.size_toArray,if_neg (Nat.not_lt.2 hi),Array.getElem?_replicate,List.getD_eq_getElem?_getD,List.getElem?_eq_none hi]
  split<;>rfl
theorem ZqP {fn:Func} (hres:(fn.results.all λ r=>match r with| .tmp _=>true| .cell _ t=>ZrS P t)=true) {a:Act} {K:Value->World->Prop} {w:World} (hr:ZqQ P a.env K fn.results.toList [] w):
  ∃ v,(results fn a.tmps).run P w=.ok v w/\K v w:=by
 obtain ⟨vs,hvs,hf⟩:=Zej fn.results.toList [] (λ r hr=>by
  rw [Array.all_eq_true_iff_forall_mem] at hres;exact hres r (by simpa using hr)) hr
 have hm:(fn.results.mapM (Zhn a.tmps)).run P w=.ok vs.toArray w:=by
  rw [Array.mapM_eq_mapM_toList];simp only [Sem.run_map,hvs,Result.andThen_ok]
 refine ⟨_,by rw [ZiC,Sem.run_bind,hm];rfl,?_⟩;cases vs with
 |nil=>exact hf
 |cons v vs=>cases vs with
  |nil=>exact hf
  |cons u us=>exact hf
theorem ZsO {f:FuncId} {fn:Func} {sk:Sk} (hcl:∀ g,cl g=true->ZQ P g=true) (hmix:P.follows .mixedOrders=true)
  (hf:P.funcs[f]? =some fn) (hok:ZwK P fn.ntmps fn sk []=true) {args:List Value} {X:List PanicEntry->World->Prop} {K:Value->World->Prop} {w:World} (hargs:args.length<=fn.ntmps)
  (h:ZBU P cl X fn sk args K w):ZaV P f args.toArray w X K:=by
 unfold ZaV;unfold ZBU at h;unfold ZwK at hok;simp only [Bool.and_eq_true] at hok;obtain ⟨⟨_,hbody⟩,hres⟩:=hok;split at h
 case h_2=>exact h.elim
 rename_i c hb;rw [hb] at hbody;simp only [Bool.and_eq_true] at hbody;refine calls_of_wp hf hb ?_;rw [<-ZhW (fn:=fn)] at h;refine Code.wp_mono ?_ (ZaG (n:=fn.ntmps) (ds:=[]) hcl hmix c sk (λ _=>true) _ hbody.1.1 hbody.1.2 hbody.2 _ _ w (Zbg.refl' (by simp;omega) rfl) h);intro e a w hq;cases e with
 |normal=>obtain ⟨v,h1,h2⟩:=ZqP hres hq.2;exact ⟨hq.1.defers,v,h1,.inl ⟨v,rfl,h2⟩⟩
 |ret=>obtain ⟨v,h1,h2⟩:=ZqP hres hq.2;exact ⟨hq.1.defers,v,h1,.inl ⟨v,rfl,h2⟩⟩
 |exit i=>exact hq.2.elim
 |panic ch=>exact ⟨hq.1.defers,.inr ⟨ch,rfl,hq.2⟩⟩
 |_=>exact hq.elim
end
section
open Go
section
variable {P:Program} {cl:FuncId->Bool}
theorem Zrp (hcl:∀ g,cl g=true->ZQ P g=true) {ops:Array Oper} {K:Env->World->Prop} {n:Nat} {pw:Nat->Bool} {a0:Env} {cs:List Frame} {Q:Exit->Act->List Frame->World->Prop}
    (hQ:∀ a w,Zcr n pw a0 a->K a.env w->Q .normal a cs w):∀ (l:List Nat) (os:List Oper) (_:l.map (λ i=>ops[i]?)=os.map some) (_:∀ o∈os,Zii P o.op=true/\ZbD n pw o=true) (a:Act) (w:World),
      Zcr n pw a0 a->Ztr P cl ops os a.env K w->wpOpsS P ops Q l a cs w
  |[],os,hl,_,a,w,hk,h=>by
    have:os=[]:=by cases os with
      |nil=>rfl
      |cons _ _=>simp at hl
    subst this;exact hQ a w hk h
  |i::l,os,hl,hok,a,w,hk,h=>by
    cases os with
    |nil=>simp at hl
    |cons o os=>
      simp only [List.map_cons,List.cons.injEq] at hl;obtain ⟨hi,hl⟩:=hl;have ho:=hok o (List.mem_cons_self ..);have hrest:=λ x hx=>hok x (List.mem_cons_of_mem _ hx);unfold Ztr at h;simp only [wpOpsS,hi];rcases Zaa h with ⟨hw,h⟩|⟨hw,h⟩
      · rw [if_pos hw]
        have h2:=Zli hcl (a:=a) (Q:=λ e a' w'=>Q e a' cs w') ho.1 h;rw [Zap] at h2;have key:o.upon P a (λ a' w'=>wpOpsS P ops Q l a' cs w') (λ e a' w'=>Q e a' cs w') ((execOp a.eval o).run P w):=by
          refine Zai.upon_mono ?_ h2;rintro a' w' ⟨v,rfl,hv⟩;refine Zrp hcl hQ l os hl hrest _ w' (hk.put ho.2 v) ?_;rw [hk.envput ho.2];exact hv
        split
        · rename_i w' hr
          rw [hr] at key;exact key.elim
        · exact key
      · rw [hw]
        simp only [Bool.false_eq_true,if_false];refine Zrp hcl hQ l os hl hrest _ w (hk.put ho.2 _) ?_;rw [hk.envput ho.2];exact h
def ZAU (P:Program) (cl:FuncId->Bool) (fn:Func) (sk:Sk) (args:List Value) (x:Value) (K:World->Prop) (w:World):Prop:=
  match fn.body with
  |some (.seq (.region _ o0 false) rest)=>(match o0.toList with
    |orec::tl=>Ztr P cl o0 tl ((ZeR args).put orec.dst x) (λ ρ w=>den P cl rest sk ρ { nrm:=λ _ w=>K w,ex:=λ _ _ _=>False,ret:=λ _ w=>K w } w) w
    |[]=>False)
  |_=>False
def ZtP (P:Program) (fn:Func) (sk:Sk):Bool:=
  (match fn.body with
  |some (.seq (.region _ o0 false) rest)=>(match o0.toList with
    |orec::tl=>(match orec.op with| .call ⟨.builtin .recover,_,_⟩=>true|_=>false) && orec.guard.isNone && (match orec.dst with|some d=>Nat.blt d fn.ntmps|none=>true) &&
        (tl.all λ o=>Zii P o.op && ZbD fn.ntmps (λ _=>true) o) && Zd7 P fn.ntmps rest && ZfS (λ _=>true) rest && Zky rest sk
    |[]=>false)
  |_=>false) && fn.results.isEmpty
theorem ZqR (hcl:∀ g,cl g=true->ZQ P g=true) (hmix:P.follows .mixedOrders=true) {f:FuncId} {fn:Func} {sk:Sk} (hf:P.funcs[f]? =some fn) (hok:ZtP P fn sk=true) {args:List Value} (hargs:args.length<=fn.ntmps)
    {K:World->Prop} {w:World} {u u':FrameMode} {x:Value} (hrec:∀ (c₀:Frame) (cs:List Frame),c₀.mode=u->(recoverD (c₀::cs)=some (x,{ c₀ with mode:=u' }::cs))\/(recoverD (c₀::cs)=none/\x=.nilIface/\u'=u))
    (h:ZAU P cl fn sk args x K w):CallsD P f args.toArray u w λ e v w'=>(∃ y,e=.returned y)/\v=u'/\K w':=by
  unfold ZtP at hok;unfold ZAU at h;rw [Bool.and_eq_true] at hok;obtain ⟨hok,hres⟩:=hok;split at h
  case h_2=>exact h.elim
  rename_i id o0 rest hb;rw [hb] at hok;simp only at hok;split at h
  case h_2=>exact h.elim
  rename_i orec tl ho;rw [ho] at hok;simp only [Bool.and_eq_true] at hok;obtain ⟨⟨⟨⟨⟨⟨hop,hg⟩,hd⟩,htl⟩,hco⟩,hwr⟩,hsk⟩:=hok;have henv:=ZhW (fn:=fn) (args:=args);refine callsD_of_wpS hf hb λ c₀ cs hc=>wpS_seq (wpS_region ?_);generalize hA:({ tmps:=args.toArray++Array.replicate (fn.ntmps - args.toArray.size) undef,defers:=[] }:Act)=A at henv;have hAs:A.tmps.size=fn.ntmps:=by rw [<-hA];simp;omega
  have hAd:A.defers=[]:=by rw [<-hA]
  have hres0:fn.results=#[]:=by simpa using hres
  have hsize:o0.size=tl.length + 1:=by rw [<-Array.length_toList,ho];simp
  have hrange:List.range o0.size=0::(List.range tl.length).map (· + 1):=by rw [hsize,List.range_succ_eq_map]
  rw [hrange];have h0:o0[0]? =some orec:=by rw [<-Array.getElem?_toList,ho];rfl
  have hmap:((List.range tl.length).map (· + 1)).map (λ i=>o0[i]?)=tl.map some:=by
    rw [List.map_map];apply List.ext_getElem?;intro i;simp only [List.getElem?_map];by_cases hi:i<tl.length
    · simp only [List.getElem?_range hi,Option.map_some,Function.comp]
      rw [<-Array.getElem?_toList,ho,List.getElem?_cons_succ];simp [hi]
    · rw [List.getElem?_eq_none (by simpa using hi),List.getElem?_eq_none (by omega)];rfl
  have hrun:(execOp A.eval orec).run P w=.ok .recover w:=by
    obtain ⟨dst,op,ty,pos,after,guard⟩:=orec;dsimp only at hop;split at hop
    · rfl
    · cases hop
  have hwant:Region.wanted orec (yielded o0 A.tmps)=true:=by
    unfold Region.wanted;rw [Option.isNone_iff_eq_none.1 hg]
  have hdst:ZbD fn.ntmps (λ _=>true) orec=true:=by
    unfold ZbD;cases hx:orec.dst with
    |none=>rfl
    |some d=>rw [hx] at hd;simpa using hd
  have hk0:Zcr fn.ntmps (λ _=>true) A.env A:=Zcr.refl hAs hAd;have go:∀ (cs':List Frame),cs'={ c₀ with mode:=u' }::cs->wpOpsS P o0 (Exit.thenS (rest.wpS P (bodyPostS P fn c₀ cs λ e v w'=>(∃ y,e=.returned y)/\v=u'/\K w')) (bodyPostS P fn c₀ cs λ e v w'=>(∃ y,e=.returned y)/\v=u'/\K w'))
      ((List.range tl.length).map (· + 1)) (A.put orec.dst x) cs' w:=λ cs' hcs=>by
    refine Zrp (n:=fn.ntmps) (pw:=λ _=>true) (a0:=A.env) (K:=λ ρ w=>den P cl rest sk ρ { nrm:=λ _ w=>K w,ex:=λ _ _ _=>False,ret:=λ _ w=>K w } w) hcl ?_ _ tl hmap (λ o hm=>by
      have:=List.all_eq_true.1 htl o hm;simpa using this) _ w (hk0.put hdst x) ?_
    · intro a w hk hden
      refine wpS_of_wp ?_;refine Code.wp_mono ?_ (Za3 (n:=fn.ntmps) hcl hmix rest sk (λ _=>true) a.env hco hwr hsk a _ w (Zcr.refl hk.size hk.defers) hden);have fin:∀ (a:Act) (w:World),a.defers=[]->K w->a.defers=[]/\∃ u'',cs'={ c₀ with mode:=u'' }::cs/\∃ v,(results fn a.tmps).run P w=.ok v w/\((∃ y,Ending.returned v=.returned y)/\u''=u'/\K w):=λ a w hd hK=>
        ⟨hd,u',hcs,.tuple #[],by
          simp [results,hres0],⟨_,rfl⟩,rfl,hK⟩
      intro e b w hq;cases e with
      |normal=>exact fin b w hq.1.defers hq.2
      |ret=>exact fin b w hq.1.defers hq.2
      |exit i=>exact hq.2.elim
      |_=>exact hq.elim
    · rw [hk0.envput hdst,henv];exact h
  simp only [wpOpsS,h0,hwant,if_true,hrun];rcases hrec c₀ cs hc with hr|⟨hr,rfl,rfl⟩
  · rw [hr];exact go _ rfl
  · rw [hr];exact go _ (by rw [<-hc])
theorem Zhp (hcl:∀ g,cl g=true->ZQ P g=true) (hmix:P.follows .mixedOrders=true) {f:FuncId} {fn:Func} {sk:Sk} (hf:P.funcs[f]? =some fn) (hok:ZtP P fn sk=true) {args:List Value} (hargs:args.length<=fn.ntmps)
    {K:World->Prop} {w:World} {x:Value} (h:ZAU P cl fn sk args x K w):
    CallsD P f args.toArray (.panicking [{ v:=x,recovered:=false }]) w λ e v w'=>(∃ y,e=.returned y)/\v=.panicking [{ v:=x,recovered:=true }]/\K w':=
  ZqR hcl hmix hf hok hargs (λ c₀ cs hc=>.inl (by simp [recoverD,hc])) h
theorem ZfX (hcl:∀ g,cl g=true->ZQ P g=true) (hmix:P.follows .mixedOrders=true) {f:FuncId} {fn:Func} {sk:Sk} (hf:P.funcs[f]? =some fn) (hok:ZtP P fn sk=true) {args:List Value} (hargs:args.length<=fn.ntmps)
    {K:World->Prop} {w:World} (h:ZAU P cl fn sk args .nilIface K w):
    CallsD P f args.toArray .returning w λ e v w'=>(∃ y,e=.returned y)/\v=.returning/\K w':=
  ZqR hcl hmix hf hok hargs (λ c₀ cs hc=>.inr ⟨by simp [recoverD,hc],rfl,rfl⟩) h
def Zk0 (P:Program) (K:Value->World->Prop):List ResultVar->List Value->List Value->World->Prop
  |[],_,acc,w=>ZBV K acc.reverse w
  | .tmp _::rs,v::vs,acc,w=>Zk0 P K rs vs (v::acc) w
  | .cell _ t::rs,v::vs,acc,w=>Zik P (λ w'=>w'=w) t v λ x=>Zk0 P K rs vs (x::acc) w
  |_::_,[],_,_=>False
def Zhe:ResultVar->Nat| .tmp t=>t| .cell a _=>a
theorem Zjs {ρ:Env} {K:Value->World->Prop}:∀ (rs:List ResultVar) (acc:List Value) (w:World),Zk0 P K rs (vals (rs.map Zhe) ρ) acc w->ZqQ P ρ K rs acc w
  |[],_,_,h=>h
  | .tmp t::rs,acc,w,h=>Zjs rs (ρ t::acc) w h
  | .cell a t::rs,acc,w,h=>by
    have h:Zik P (λ w'=>w'=w) t (ρ a) λ x=>Zk0 P K rs (vals (rs.map Zhe) ρ) (x::acc) w:=h;show Zik P (λ w'=>w'=w) t (ρ a) λ x=>ZqQ P ρ K rs (x::acc) w;have mono:∀ {F G:Value->Prop},(∀ x,F x->G x)->Zik P (λ w'=>w'=w) t (ρ a) F->Zik P (λ w'=>w'=w) t (ρ a) G:=λ {F G} hFG hl=>by
      have exm:∀ {ty:Ty} {F G:Value->Prop},(∀ x,F x->G x)->ty.ex F->ty.ex G:=λ {ty F G} hFG h=>by
        cases ty<;>(obtain ⟨y,hy⟩:=h;exact ⟨y,hFG _ hy⟩)
      have exA:∀ {ts:List Ty} {F G:List Value->Prop},(∀ x,F x->G x)->ZmV ts F->ZmV ts G:=λ {ts}=>by
        induction ts with
        |nil=>exact λ hFG h=>hFG _ h
        |cons ty ts ih=>exact λ hFG h=>exm (λ v hv=>ih (λ x hx=>hFG _ hx) hv) h
      unfold Zik at hl ⊢;split at hl
      · unfold Zd at hl ⊢
        split at hl
        · cases hagg:ZiZ P t
          · simp only [hagg] at hl ⊢
            exact exm (λ x hx=>⟨hx.1,hFG _ hx.2⟩) hl
          · simp only [hagg] at hl ⊢
            split at hl
            · exact exA (λ x hx=>⟨hx.1,hFG _ hx.2⟩) hl
            · obtain ⟨vs,h1,h2,h3⟩:=hl
              exact ⟨vs,h1,h2,hFG _ h3⟩
        · exact hl.elim
      · exact hl.elim
    exact mono (λ x hx=>Zjs rs (x::acc) w hx) h
def Zs (P:Program) (g:FuncId) (args:List Value) (u:FrameMode) (Kr:World->Prop) (w:World):Prop:=
  CallsD P g args.toArray u w λ e u' w'=>(∃ y,e=.returned y)/\settle u'=.returning/\Kr w'
def tgtF (cl:FuncId->Bool) (f:Value) (K:FuncId->List Value->List Value->Prop):Prop:=
  match f with
  | .func fn first captured=>(match fn with
    | .func g=>(match cl g with
      |true=>K g first.toList captured.toList
      |false=>False)
    |_=>False)
  |_=>False
def ZBX (P:Program) (cl:FuncId->Bool) (fn:Func) (sk:Sk) (args:List Value) (K:Value->World->Prop) (w:World):Prop:=
  match fn.body with
  |some (.seq (.region _ o0 false) (.seq (.region _ o1 false) rest))=>
    Ztr P cl o0 o0.toList (ZeR args) (λ ρ w=>Ztr P cl o1 o1.toList.dropLast ρ (λ ρ w=>
      match o1.toList.getLast? with
      |some od=>(match od.op with
        | .defer c=>(match c.callee with
          | .value f=>tgtF cl (ρ.ev f) λ g first captured=>
              Zja P cl (λ ch vs w=>Zs P g (first++((c.args.map ρ.ev).toList++captured)) (.panicking ch) (Zk0 P K fn.results.toList vs []) w) (fn.results.toList.map Zhe) rest sk ρ
                { nrm:=λ ρ' w=>Zs P g (first++((c.args.map ρ.ev).toList++captured)) .returning (Zk0 P K fn.results.toList (vals (fn.results.toList.map Zhe) ρ') []) w,ex:=λ _ _ _=>False,
                  ret:=λ ρ' w=>Zs P g (first++((c.args.map ρ.ev).toList++captured)) .returning (Zk0 P K fn.results.toList (vals (fn.results.toList.map Zhe) ρ') []) w } w
          |_=>False)
        |_=>False)
      |none=>False) w) w
  |_=>False
def Zw4 (P:Program) (cl:FuncId->Bool) (fn:Func) (sk:Sk):Bool:=
  (match fn.body with
  |some (.seq (.region _ o0 false) (.seq (.region _ o1 false) rest))=>
    (o0.toList.all λ o=>Zii P o.op && ZbD fn.ntmps (λ _=>true) o) && (o1.toList.dropLast.all λ o=>Zii P o.op && ZbD fn.ntmps (λ _=>true) o) &&
      (match o1.toList.getLast? with|some od=>od.guard.isNone && od.dst.isNone|none=>false) &&
      ZcJ P fn.ntmps (fn.results.toList.map Zhe) rest && ZfS (λ _=>true) rest && Zky rest sk
  |_=>false) && fn.results.all λ r=>match r with| .tmp _=>true| .cell _ t=>ZrS P t
theorem Zda {ops:Array Oper} {Q:Exit->Act->World->Prop}:∀ (l l':List Oper) (a:Act) (w:World),wpList P ops (Exit.then (λ a w=>wpList P ops Q l' a w) Q) l a w->wpList P ops Q (l++l') a w
  |[],l',a,w,h=>h
  |o::l,l',a,w,h=>by
    unfold wpList at h;rw [List.cons_append];unfold wpList;by_cases hw:Region.wanted o (yielded ops a.tmps)=true
    · rw [if_pos hw] at h ⊢
      rcases h with h|h
      · refine .inl ?_
        unfold Oper.wp at h ⊢
        revert h
        cases (execOp a.eval o).run P w with
        |ok x w'=>
          cases x<;>simp only [Oper.upon]<;>
            first
              |exact λ h=>Zda l l' _ _ h
              |(intro h;refine Calls.mono h ?_;intro e w'' he;cases e<;>first|exact Zda l l' _ _ he|exact he)
              |(intro h;exact Rows.mono h λ _ _ he=>Zda l l' _ _ he)
              |exact λ h=>h
        |halt x w'=>cases x<;>simp only [Oper.upon]<;>exact λ h=>h
      · exact .inr h
    · rw [if_neg hw] at h ⊢
      exact Zda l l' _ _ h
theorem CallsD.mono {f:FuncId} {args:Array Value} {u:FrameMode} {w:World} {R R':Ending->FrameMode->World->Prop} (h:CallsD P f args u w R) (k:∀ e u w,R e u w->R' e u w):CallsD P f args u w R':=
  λ c cs hc=>let ⟨e,u',w',fr,r,s⟩:=h c cs hc;⟨e,u',w',fr,k _ _ _ r,s⟩
theorem Ze1 (hcl:∀ g,cl g=true->ZQ P g=true) {fn:Func} (hres:(fn.results.all λ r=>match r with| .tmp _=>true| .cell _ t=>ZrS P t)=true) {a:Act} {g:FuncId} (hg:cl g=true) {first cargs captured:Array Value} {u:FrameMode} (hu:u≠.run)
    {K:Value->World->Prop} {w:World} (h:Zs P g (first.toList++(cargs.toList++captured.toList)) u (Zk0 P K fn.results.toList (vals (fn.results.toList.map Zhe) a.env) []) w):
    Leaves P fn a.tmps (λ e w'=>∃ v,e=.returned v/\K v w') [{ target:=.fn (.func g) captured,args:=first++cargs }] u w:=by
  refine ⟨hu,_,_,g,(first.toList++(cargs.toList++captured.toList)).toArray,rfl,?_,?_⟩
  · have e:(first++cargs)++captured=(first.toList++(cargs.toList++captured.toList)).toArray:=by apply Array.ext';simp
    simp only [invoke,e];exact Zea (hcl g hg) _ w
  · refine CallsD.mono h ?_
    rintro e u' w' ⟨⟨y,rfl⟩,hs,hr⟩;show Leaves P fn a.tmps _ [] (settle u') w';rw [hs];obtain ⟨v,h1,h2⟩:=ZqP hres (Zjs _ _ _ hr);exact ⟨v,h1,v,rfl,h2⟩
theorem ZsP (hcl:∀ g,cl g=true->ZQ P g=true) (hmix:P.follows .mixedOrders=true) {f:FuncId} {fn:Func} {sk:Sk} (hf:P.funcs[f]? =some fn) (hok:Zw4 P cl fn sk=true) {args:List Value} (hargs:args.length<=fn.ntmps)
    {K:Value->World->Prop} {w:World} (h:ZBX P cl fn sk args K w):Zo P f args.toArray w K:=by
  unfold Zo;unfold Zw4 at hok;unfold ZBX at h;rw [Bool.and_eq_true] at hok;obtain ⟨hok,hres⟩:=hok;split at h
  case h_2=>exact h.elim
  rename_i i0 o0 i1 o1 rest hb;rw [hb] at hok;simp only [Bool.and_eq_true] at hok;obtain ⟨⟨⟨⟨⟨h0,h1⟩,hlast⟩,hco⟩,hwr⟩,hsk⟩:=hok;refine calls_of_wp_defers hf hb ?_;have henv:=ZhW (fn:=fn) (args:=args);generalize hA:({ tmps:=args.toArray++Array.replicate (fn.ntmps - args.toArray.size) undef,defers:=[] }:Act)=A at henv;have hAs:A.tmps.size=fn.ntmps:=by rw [<-hA];simp;omega
  have hAd:A.defers=[]:=by rw [<-hA]
  rw [<-henv] at h;refine wp_seq (wp_region_list (Zai (n:=fn.ntmps) (pw:=λ _=>true) (a0:=A.env) hcl ?_ o0.toList (λ o ho=>by have:=List.all_eq_true.1 h0 o ho;simpa using this) A w (Zcr.refl hAs hAd) h));clear h;intro a w hk h;show (Code.seq (.region i1 o1 false) rest).wp P _ a w;refine wp_seq (wp_region_list ?_);cases hl:o1.toList.getLast? with
  |none=>rw [hl] at hlast;cases hlast
  |some od=>
    rw [hl] at hlast;simp only [Bool.and_eq_true] at hlast;have hsplit:o1.toList=o1.toList.dropLast++[od]:=by
      obtain ⟨l,hl2⟩:=List.getLast?_eq_some_iff.1 hl;rw [hl2];simp
    rw [hsplit];refine Zda _ _ _ _ ?_;refine Zai (n:=fn.ntmps) (pw:=λ _=>true) (a0:=a.env) hcl ?_ o1.toList.dropLast (λ o ho=>by have:=List.all_eq_true.1 h1 o ho;simpa using this) a w (Zcr.refl hk.size hk.defers) h;clear h;intro b w hkb h;show wpList P o1 _ [od] b w;unfold wpList;have hwant:Region.wanted od (yielded o1 b.tmps)=true:=by
      unfold Region.wanted;rw [Option.isNone_iff_eq_none.1 hlast.1]
    rw [if_pos hwant];refine .inl ?_;rw [hl] at h;simp only at h;clear hsplit hl hwant h1;obtain ⟨dst,op,ty,pos,after,guard⟩:=od;dsimp only at h hlast;obtain ⟨hg0,hd0⟩:=hlast;have hd0:=Option.isNone_iff_eq_none.1 hd0;subst hd0;split at h
    case h_2=>exact h.elim
    rename_i c;obtain ⟨callee,cargs,ats⟩:=c;dsimp only at h;split at h
    case h_2=>exact h.elim
    rename_i fv;unfold tgtF at h;split at h
    case h_2=>exact h.elim
    rename_i fn' first captured hfv
    split at h
    case h_2=>exact h.elim
    rename_i g;split at h
    case h_2=>exact h.elim
    rename_i hg;have hrun:(execOp b.eval ⟨none,.defer ⟨.value fv,cargs,ats⟩,ty,pos,after,guard⟩).run P w=.ok (.defer { target:=.fn (.func g) captured,args:=first++cargs.map b.eval }) w:=by
      rw [Zap] at hfv;simp only [execOp,resolve,hfv,Deferred.ofValue];simp
    unfold Oper.wp;rw [hrun];rw [Zap] at h;generalize hB:({ tmps:=b.tmps,defers:={ target:=.fn (.func g) captured,args:=first++cargs.map b.eval }::b.defers }:Act)=B
    have hBe:B.env=b.env:=by rw [<-hB];rfl
    have hBs:B.tmps.size=fn.ntmps:=by rw [<-hB];exact hkb.size
    have hBd:B.defers=[{ target:=.fn (.func g) captured,args:=first++cargs.map b.eval }]:=by rw [<-hB];simp [hkb.defers]
    rw [Oper.upon_defer];show wpList P o1 _ [] ({ b with defers:={ target:=.fn (.func g) captured,args:=first++cargs.map b.eval }::b.defers }.put none undef) w
    show rest.wp P _ ({ b with defers:={ target:=.fn (.func g) captured,args:=first++cargs.map b.eval }::b.defers }.put none undef) w
    have hput:({ b with defers:={ target:=.fn (.func g) captured,args:=first++cargs.map b.eval }::b.defers }:Act).put none undef=B:=hB
    rw [hput];rw [<-hBe] at h;refine Code.wp_mono ?_ (ZaG (n:=fn.ntmps) (ds:=[{ target:=.fn (.func g) captured,args:=first++cargs.map b.eval }]) hcl hmix rest sk (λ _=>true) B.env hco hwr hsk B _ w (Zbg.refl' hBs hBd) h)
    intro e a' w' hq;cases e with
    |normal=>
      show Leaves P fn a'.tmps _ a'.defers .returning w';rw [hq.1.defers];exact Ze1 hcl hres hg (by simp) hq.2
    |ret=>
      show Leaves P fn a'.tmps _ a'.defers .returning w';rw [hq.1.defers];exact Ze1 hcl hres hg (by simp) hq.2
    |exit i=>exact hq.2.elim
    |panic ch=>
      show Leaves P fn a'.tmps _ a'.defers (.panicking ch) w';rw [hq.1.defers];exact Ze1 hcl hres hg (by simp) hq.2
    |_=>exact hq.elim
end
end
end Go.VC
namespace Go.Proofs.YtlplemdmegpoeaaGreatDoor
section
open Go Go.VC Tryz
set_option maxRecDepth 10000
def ZvE:List Nat:=[3,4,5,6,7,8,9,10,11,12,13,14,15,16,17,18,19,20,21,22,23,24,25,26,27,28,29,30,31,32,33,34,35,36,37,38,39,40,41,42,43,44,45,46,47,48,49,50,51,52,53,54,55,56,57,58,59,60,61,62,63,64,65,66,67,68,69,70,71,72,73,74,75,76,77,78,79,80,81,82,83,84,85,86,87,88,89,90,91,92,93,94,95,96,97,98,99,100,101,102,103,104,105,106,107,108,109,110,111,112,113,114,115,116,117,118,119,120,121,122,123,124,125,126,127,128,129,130,131,132,133,134,135,136,137,138,139,140,141,142,143,144,145,146,147,148,149,150,151,152,153,154,155,156,157,158,159,160,161,162,163,164,165,166,167,168,169,170,171,172,173,174,175,176,177,178,179,180,181,182,183,184,185,186,187,188,189,190,191,192,193,194,195,196,197,198,199,200,201,202,203,204,205,206,207,208,209,211,212,213,214,215,216,217,218,219,220,221,223,224,225,226,227,228,229,230,231,232,233,234,235,236,237,238,239,240,241,242,243,244,246,247,248,249,250,251,252,253,254,255,256,257,258,259,260,261,262,263,264,265,266,267,268,269,270,271,272,273,274,275,276,277,278,279,280,281,283,284,286,287,288,289,290,292,293,294,295,296,297,298,299,300,301,302,303,304,305,306,307,308,309,311,312,313,314,315,316,317]
def cl:FuncId->Bool:=λ g=>Zlq g ZvE
theorem ZsL:ZvE.all (ZQ prog)=true:=by kernel_rfl
theorem Zkq (g:FuncId) (h:cl g=true):ZQ prog g=true:=by
  have key:∀ l:List Nat,Zlq g l=true->l.all (ZQ prog)=true->ZQ prog g=true:=λ l=>by
    induction l with
    |nil=>intro h;cases h
    |cons x l ih=>
      intro h h2;simp only [List.all_cons,Bool.and_eq_true] at h2;simp only [Zlq] at h;split at h
      · rename_i hb;rw [Nat.eq_of_beq_eq_true hb];exact h2.1
      · exact ih h h2.2
  exact key _ h ZsL
theorem mixed:prog.follows .mixedOrders=true:=by kernel_rfl
abbrev Aw (w:World) (a:Addr) (l:List Value):Prop:=At (λ w'=>w'=w) a l
abbrev St (t:TypeId) (a:Addr) (v:Value) (w w':World):Prop:=(Instr.storeAt t (.pointer (some a)) v).run prog w=.ok () w'
theorem cq {f:FuncId} {fn:Func} {sk:Sk} {args:List Value} {K:Value->World->Prop} {w:World} {B:Prop} (h:B) (hf:prog.funcs[f]? =some fn) (hok:ZBT prog fn.ntmps fn sk=true:=by kernel_rfl) (ha:Nat.ble args.length fn.ntmps=true:=by kernel_rfl) (he:fnF prog cl fn sk args K w=B:=by kernel_rfl):Zo prog f args.toArray w K:=ZuS Zkq mixed hf hok (Nat.le_of_ble_eq_true ha) (Eq.mpr he h)
theorem cqx {f:FuncId} {fn:Func} {sk:Sk} {args:List Value} {X:List PanicEntry->World->Prop} {K:Value->World->Prop} {w:World} {B:Prop} (h:B) (hf:prog.funcs[f]? =some fn) (hok:ZwK prog fn.ntmps fn sk []=true:=by kernel_rfl) (ha:Nat.ble args.length fn.ntmps=true:=by kernel_rfl) (he:ZBU prog cl X fn sk args K w=B:=by kernel_rfl):ZaV prog f args.toArray w X K:=ZsO Zkq mixed hf hok (Nat.le_of_ble_eq_true ha) (Eq.mpr he h)
theorem cqd {f:FuncId} {fn:Func} {sk:Sk} {args:List Value} {K:Value->World->Prop} {w:World} {B:Prop} (h:B) (hf:prog.funcs[f]? =some fn) (hok:Zw4 prog cl fn sk=true:=by kernel_rfl) (ha:Nat.ble args.length fn.ntmps=true:=by kernel_rfl) (he:ZBX prog cl fn sk args K w=B:=by kernel_rfl):Zo prog f args.toArray w K:=ZsP Zkq mixed hf hok (Nat.le_of_ble_eq_true ha) (Eq.mpr he h)
def B75 (c:Sl) (K:Value->World->Prop) (w:World):Prop:=
 Br c.a.isNone
 (K (.slice none 0 0) w)
 (New (.cells #[] 5 (0,0)) (λ e f=>
 ∃ d:World,∃ b:Sl,((Builtin.append_ #[47,47] 47 #[.slice ((some ⟨e,0,none⟩)) 0 0,c.v]).run prog f=.ok (b.v) d)/\
 K (b.v) d) w)
theorem ZAd (b:Sl) (K:Value->World->Prop) (w:World) (h:B75 b K w):Zo prog 75 #[b.v] w K:=cq (sk:=.leaf) h func75
def B128 (j:Int) (K:Value->World->Prop) (w:World):Prop:=
 Calls prog 205 #[.int .u64 j] w λ n o=>
 ∃ g,(n=.returned (.int .i64 g))/\
 New (.cells #[.int .u8 (IntKind.u8.wrap (IntKind.i64.wrap ((IntKind.i64.wrap (g + 7)).tdiv 8)))] 5 (0,0)) (λ l p=>
 ∃ (f:Int->Sl->World->Prop) (k:Int->Sl->World->Nat),(f (IntKind.i64.wrap ((IntKind.i64.wrap (g + 7)).tdiv 8)) ⟨(some ⟨l,0,none⟩),1,1⟩ p)/\∀ (r:Env) (c:Int) (b:Sl) (e:World),f c b e->
 Br (decide (c>0))
 (Ge0 (IntKind.i64.wrap (8 * IntKind.i64.wrap (c - 1))) (New (.cells #[.int .u8 (IntKind.u8.wrap (Zgu IntKind.u64 j (IntKind.i64.wrap (8 * IntKind.i64.wrap (c - 1)))))] 5 (0,0)) (λ m q=>
 ∃ i:World,∃ d:Sl,((Builtin.append_ #[47,47] 47 #[b.v,.slice ((some ⟨m,0,none⟩)) 1 1]).run prog q=.ok (d.v) i)/\
 (f (IntKind.i64.wrap (c - 1)) d i)/\k (IntKind.i64.wrap (c - 1)) d i<k c b e) e))
 (K (b.v) e)) o
def ZBA:Sk:=(.seq .leaf (.seq .leaf (.seq .leaf (.seq (.block (.loop [3,4] [(.int .i64),.sl] [3,4,12,13,14,15,16,17,18,19,20,21,22,23] .leaf)) .leaf))))
theorem ZyM (a:Int) (K:Value->World->Prop) (w:World) (h:B128 a K w):Zo prog 128 #[.int .u64 a] w K:=cq (sk:=ZBA) h func128
def B91 (c:Sl) (K:Value->World->Prop) (w:World):Prop:=
 Calls prog 75 #[c.v] w λ e f=>
 ∃ b:Sl,(e=.returned (b.v))/\
 New (.cells #[b.v,.bool false] 207 (0,0)) (λ d g=>
 K (.pointer ((some ⟨d,0,none⟩))) g) f
theorem Zz9 (b:Sl) (K:Value->World->Prop) (w:World) (h:B91 b K w):Zo prog 91 #[b.v] w K:=cq (sk:=.leaf) h func91
def B93 (i:Option Addr) (g:Int) (K:Value->World->Prop) (w:World):Prop:=
 New (.cells #[.int .u64 g] 141 (0,0)) (λ e k=>
 New (.cells #[.int .u64 0] 141 (0,0)) (λ a l=>
 ∃ c:World,(St 141 ⟨a,0,none⟩ (.int .u64 0) l c)/\
 Calls prog 149 #[.pointer i,.func (.func 150) #[] #[.pointer ((some ⟨e,0,none⟩)),.pointer ((some ⟨a,0,none⟩))]] c λ f d=>
 (f=.returned (.tuple #[]))/\
 ∃ b,(Aw d ⟨a,0,none⟩ [.int .u64 b])/\
 K (.int .u64 b) d) k) w
theorem Zz7 (b:Option Addr) (a:Int) (K:Value->World->Prop) (w:World) (h:B93 b a K w):Zo prog 93 #[.pointer b,.int .u64 a] w K:=cq (sk:=.leaf) h func93
def B96 (e:Option Addr) (K:Value->World->Prop) (w:World):Prop:=
 Zd e λ d=>
 ∃ f,(Aw w ⟨d.block,d.off + 1,none⟩ [.bool f])/\
 Br (!f)
 (Zd e λ g=>
 ∃ b:Sl,(Aw w (Addr.add g 0) [b.v])/\
 K (.bool ((↑b.len:Int)==0)) w)
 (K (.bool false) w)
theorem Zz4 (a:Option Addr) (K:Value->World->Prop) (w:World) (h:B96 a K w):Zo prog 96 #[.pointer a] w K:=cq (sk:=.leaf) h func96
def B149 (z:Option Addr) (y:Value) (K:Value->World->Prop) (w:World):Prop:=
 New (.cells #[.pointer z] 153 (0,0)) (λ c j=>
 ∃ r,(Aw j ⟨c,0,none⟩ [.pointer r])/\
 Zd r λ k=>
 ∃ s,(Aw j ⟨k.block,k.off + 1,none⟩ [.bool s])/\
 Calls prog 152 #[.bool (!s)] j λ n f=>
 ((n=.returned (.tuple #[]))/\
 ∃ p,(Aw f ⟨c,0,none⟩ [.pointer p])/\
 Zd p λ v=>
 ∃ d:Sl,(Aw f (Addr.add v 0) [d.v])/\
 New (.cells #[.slice none 0 0] 47 (0,0)) (λ i A=>
 ∃ t:World,(St 47 ⟨i,0,none⟩ (d.v) A t)/\
 Zak prog cl y [.pointer ((some ⟨i,0,none⟩))] t λ o g=>
 ((o=.returned (.tuple #[]))/\
 ∃ q,(Aw g ⟨c,0,none⟩ [.pointer q])/\
 ∃ e:Sl,(Aw g ⟨i,0,none⟩ [e.v])/\
 Zd q λ x=>
 ∃ u:World,(St 47 (Addr.add x 0) (e.v) g u)/\
 Zs prog 223 [.pointer ((some ⟨c,0,none⟩))] .returning (λ C=>K (.tuple #[]) C) u)\/
 (∃ m:List PanicEntry,(o=.panicked m)/\Zs prog 223 [.pointer ((some ⟨c,0,none⟩))] (.panicking m) (λ D=>K (.tuple #[]) D) g)) f)\/
 (∃ l:List PanicEntry,(n=.panicked l)/\Zs prog 223 [.pointer ((some ⟨c,0,none⟩))] (.panicking l) (λ E=>K (.tuple #[]) E) f)) w
theorem ZyE (b:Option Addr) (a:Value) (K:Value->World->Prop) (w:World) (h:B149 b a K w):Zo prog 149 #[.pointer b,a] w K:=cqd (sk:=.leaf) h func149
def B150 (t:Option Addr) (s:Option Addr) (d:Option Addr) (c:List PanicEntry->World->Prop) (K:Value->World->Prop) (w:World):Prop:=
 Calls prog 151 #[.pointer t] w λ i b=>
 (∃ a m,(i=.returned (.tuple #[.int .u64 a,.bool m]))/\
 Br (!m)
 (Zd s λ r=>
 ∃ l,(Aw b r [.int .u64 l])/\
 Calls prog 152 #[.bool (decide (a<=l))] b λ j n=>
 ((j=.returned (.tuple #[]))/\
 ∃ o:World,((Instr.storeAt 141 (.pointer d) (.int .u64 a)).run prog n=.ok () o)/\
 K (.tuple #[]) o)\/
 (∃ f:List PanicEntry,(j=.panicked f)/\c f n))
 (Calls prog 152 #[.bool false] b λ k p=>
 ((k=.returned (.tuple #[]))/\
 ∃ q:World,((Instr.storeAt 141 (.pointer d) (.int .u64 a)).run prog p=.ok () q)/\
 K (.tuple #[]) q)\/
 (∃ g:List PanicEntry,(k=.panicked g)/\c g p)))\/
 (∃ e:List PanicEntry,(i=.panicked e)/\c e b)
theorem ZyD (d:Option Addr) (b:Option Addr) (c:Option Addr) (a:List PanicEntry->World->Prop) (K:Value->World->Prop) (w:World) (h:B150 d b c a K w):ZaV prog 150 #[.pointer d,.pointer b,.pointer c] w a K:=cqx (sk:=.leaf) h func150
def B151 (J:Option Addr) (c:List PanicEntry->World->Prop) (K:Value->World->Prop) (w:World):Prop:=
 Calls prog 154 #[.pointer J,.int .i64 1] w λ A j=>
 (∃ l:Sl,(A=.returned (l.v))/\
 Rng 0 l.len (Zd l.a λ U=>
 ∃ e,(Aw j (Addr.add U 0) [.int .u8 e])/\
 ∃ (k:World->Prop),(Br (decide (e<32))
 (Br (decide (IntKind.i64.wrap (ZfM BinOp.andNot IntKind.u8 e 16)<=8))
 (Br (decide (IntKind.i64.wrap (ZfM BinOp.andNot IntKind.u8 e 16)>0))
 (Calls prog 152 #[.bool true] j λ C L=>
 ((C=.returned (.tuple #[]))/\
 k  L)\/
 (∃ s:List PanicEntry,(C=.panicked s)/\c s L))
 (Calls prog 152 #[.bool (!decide (e >= 16))] j λ D M=>
 ((D=.returned (.tuple #[]))/\
 k  M)\/
 (∃ t:List PanicEntry,(D=.panicked t)/\c t M)))
 (Calls prog 152 #[.bool false] j λ E N=>
 ((E=.returned (.tuple #[]))/\
 k  N)\/
 (∃ u:List PanicEntry,(E=.panicked u)/\c u N)))
 (Calls prog 152 #[.bool false] j λ F O=>
 ((F=.returned (.tuple #[]))/\
 k  O)\/
 (∃ v:List PanicEntry,(F=.panicked v)/\c v O)))/\
 ∀ (X:Env)  (Q:World),k  Q->
 Calls prog 154 #[.pointer J,.int .i64 (IntKind.i64.wrap (ZfM BinOp.andNot IntKind.u8 e 16))] Q λ G T=>
 (∃ g:Sl,(G=.returned (g.v))/\
 ∃ (m:Int->Int->World->Prop) (n:Int->Int->World->Nat),(m 0 0 T)/\∀ (Y:Env) (d:Int) (b:Int) (f:World),m d b f->
 Br (decide (b<(↑g.len:Int)))
 (Rng b g.len (Zd g.a λ V=>
 ∃ i,(Aw f (Addr.add V b.toNat) [.int .u8 i])/\
 Br (decide (b>0))
 (Calls prog 152 #[.bool true] f λ H q=>
 ((H=.returned (.tuple #[]))/\
 (m (ZfM BinOp.or IntKind.u64 (Zvb IntKind.u64 d 8) (IntKind.u64.wrap i)) (IntKind.i64.wrap (b + 1)) q)/\n (ZfM BinOp.or IntKind.u64 (Zvb IntKind.u64 d 8) (IntKind.u64.wrap i)) (IntKind.i64.wrap (b + 1)) q<n d b f)\/
 (∃ y:List PanicEntry,(H=.panicked y)/\c y q))
 (Calls prog 152 #[.bool (decide (i>0))] f λ I p=>
 ((I=.returned (.tuple #[]))/\
 (m (ZfM BinOp.or IntKind.u64 (Zvb IntKind.u64 d 8) (IntKind.u64.wrap i)) (IntKind.i64.wrap (b + 1)) p)/\n (ZfM BinOp.or IntKind.u64 (Zvb IntKind.u64 d 8) (IntKind.u64.wrap i)) (IntKind.i64.wrap (b + 1)) p<n d b f)\/
 (∃ z:List PanicEntry,(I=.panicked z)/\c z p))))
 (K (.tuple #[.int .u64 d,.bool (decide (e >= 16))]) f))\/
 (∃ x:List PanicEntry,(G=.panicked x)/\c x T)))\/
 (∃ r:List PanicEntry,(A=.panicked r)/\c r j)
def ZBu:Sk:=(.seq .leaf (.seq .leaf (.seq .leaf (.seq .leaf (.cut [] [] [19,20,21,22,23,24,25,26,27,28,29,30,31,32,33] .leaf (.seq .leaf (.seq (.seq .leaf (.block (.loop [7,38] [(.int .u64),(.int .i64)] [7,8,9,38,39,40,41,42,43,44,45,46,47,48,49,50,51,52,53,54,55] .leaf))) .leaf)))))))
theorem ZyC (b:Option Addr) (a:List PanicEntry->World->Prop) (K:Value->World->Prop) (w:World) (h:B151 b a K w):ZaV prog 151 #[.pointer b] w a K:=cqx (sk:=ZBu) h func151
def B152 (b:Bool) (a:List PanicEntry->World->Prop) (K:Value->World->Prop) (w:World):Prop:=
 Br (!b)
 (a [⟨.iface 274 (.agg #[]),false,false⟩] w)
 (K (.tuple #[]) w)
theorem ZyB (b:Bool) (a:List PanicEntry->World->Prop) (K:Value->World->Prop) (w:World) (h:B152 b a K w):ZaV prog 152 #[.bool b] w a K:=cqx (sk:=.leaf) h func152
def B223 (i:Option Addr) (f:Value) (K:World->Prop) (w:World):Prop:=
 ∃ c:Bool,(∀ a,(λ a=>a=w) a->((do eqGuard BinOp.neq 20 (Operand.tmp 3) (Operand.const Value.nilIface) f .nilIface;binOp BinOp.neq 20 f .nilIface:Sem Value)).run prog a=.ok (.bool c) a)/\
 Br c
 (Zd i λ g=>
 ∃ d,(Aw w g [.pointer d])/\
 Zd d λ b=>
 ∃ e:World,(St 4 ⟨b.block,b.off + 1,none⟩ (.bool true) w e)/\
 K e)
 (K w)
theorem ZuV (b:Option Addr) (a:Value) (K:World->Prop) (w:World) (h:B223 b a K w):CallsD prog 223 #[.pointer b] (.panicking [⟨a,false,false⟩]) w λ c d e=>(∃ f,c=.returned f)/\d=.panicking [⟨a,true,false⟩]/\K e:=
 Zhp (sk:=.leaf) Zkq mixed func223 (by kernel_rfl) (Nat.le_of_ble_eq_true (by kernel_rfl)) (cast (by kernel_rfl) h)
theorem ZuT (a:Option Addr) (K:World->Prop) (w:World) (h:B223 a .nilIface K w):CallsD prog 223 #[.pointer a] .returning w λ b c d=>(∃ e,b=.returned e)/\c=.returning/\K d:=
 ZfX (sk:=.leaf) Zkq mixed func223 (by kernel_rfl) (Nat.le_of_ble_eq_true (by kernel_rfl)) (cast (by kernel_rfl) h)
def B154 (f:Option Addr) (b:Int) (m:List PanicEntry->World->Prop) (K:Value->World->Prop) (w:World):Prop:=
 Zd f λ q=>
 ∃ g:Sl,(Aw w q [g.v])/\
 Calls prog 152 #[.bool (decide (b<=(↑g.len:Int)))] w λ k i=>
 ((k=.returned (.tuple #[]))/\
 Zd f λ n=>
 ∃ d:Sl,(Aw i n [d.v])/\
 ((0:Int)<=b)/\
 ((b:Int)<=(↑d.cap:Int))/\
 Zd f λ o=>
 ∃ c:Sl,(Aw i o [c.v])/\
 ((0:Int)<=b)/\
 ((b:Int)<=(↑c.len:Int))/\
 Zd f λ p=>
 ∃ l:World,(St 47 (p) (.slice (Zcn c.a b.toNat c.cap 1) (c.len - b.toNat) (c.cap - b.toNat)) i l)/\
 K (.slice d.a b.toNat d.cap) l)\/
 (∃ j:List PanicEntry,(k=.panicked j)/\m j i)
theorem Zyz (b:Option Addr) (c:Int) (a:List PanicEntry->World->Prop) (K:Value->World->Prop) (w:World) (h:B154 b c a K w):ZaV prog 154 #[.pointer b,.int .i64 c] w a K:=cqx (sk:=.leaf) h func154
def B205 (j:Int) (K:Value->World->Prop) (w:World):Prop:=
 ∃ (c:Int->Int->World->Prop),(Br (decide (j >= 4294967296))
 (c (Zgu IntKind.u64 j 32) 32 w)
 (c j 0 w))/\
 ∀ (m:Env) (b:Int) (e:Int) (g:World),c b e g->
 ∃ (d:Int->Int->World->Prop),(Br (decide (b >= 65536))
 (d (Zgu IntKind.u64 b 16) (IntKind.i64.wrap (e + 16)) g)
 (d b e g))/\
 ∀ (n:Env) (a:Int) (f:Int) (i:World),d a f i->
 Br (decide (a >= 256))
 (∃ k:UInt8,((0:Int)<=IntKind.u8.wrap (Zgu IntKind.u64 a 8))/\
 ((ByteArray.mk (([0,1,2,2,3,3,3,3,4,4,4,4,4,4,4,4,5,5,5,5,5,5,5,5,5,5,5,5,5,5,5,5,6,6,6,6,6,6,6,6,6,6,6,6,6,6,6,6,6,6,6,6,6,6,6,6,6,6,6,6,6,6,6,6].append [7,7,7,7,7,7,7,7,7,7,7,7,7,7,7,7,7,7,7,7,7,7,7,7,7,7,7,7,7,7,7,7,7,7,7,7,7,7,7,7,7,7,7,7,7,7,7,7,7,7,7,7,7,7,7,7,7,7,7,7,7,7,7,7]).append ([8,8,8,8,8,8,8,8,8,8,8,8,8,8,8,8,8,8,8,8,8,8,8,8,8,8,8,8,8,8,8,8,8,8,8,8,8,8,8,8,8,8,8,8,8,8,8,8,8,8,8,8,8,8,8,8,8,8,8,8,8,8,8,8].append [8,8,8,8,8,8,8,8,8,8,8,8,8,8,8,8,8,8,8,8,8,8,8,8,8,8,8,8,8,8,8,8,8,8,8,8,8,8,8,8,8,8,8,8,8,8,8,8,8,8,8,8,8,8,8,8,8,8,8,8,8,8,8,8])).toArray)[(IntKind.u8.wrap (Zgu IntKind.u64 a 8)).toNat]? =some k)/\
 K (.int .i64 (IntKind.i64.wrap (IntKind.i64.wrap (f + 8) + IntKind.i64.wrap (↑k.toNat:Int)))) i)
 (∃ l:UInt8,((0:Int)<=IntKind.u8.wrap a)/\
 ((ByteArray.mk (([0,1,2,2,3,3,3,3,4,4,4,4,4,4,4,4,5,5,5,5,5,5,5,5,5,5,5,5,5,5,5,5,6,6,6,6,6,6,6,6,6,6,6,6,6,6,6,6,6,6,6,6,6,6,6,6,6,6,6,6,6,6,6,6].append [7,7,7,7,7,7,7,7,7,7,7,7,7,7,7,7,7,7,7,7,7,7,7,7,7,7,7,7,7,7,7,7,7,7,7,7,7,7,7,7,7,7,7,7,7,7,7,7,7,7,7,7,7,7,7,7,7,7,7,7,7,7,7,7]).append ([8,8,8,8,8,8,8,8,8,8,8,8,8,8,8,8,8,8,8,8,8,8,8,8,8,8,8,8,8,8,8,8,8,8,8,8,8,8,8,8,8,8,8,8,8,8,8,8,8,8,8,8,8,8,8,8,8,8,8,8,8,8,8,8].append [8,8,8,8,8,8,8,8,8,8,8,8,8,8,8,8,8,8,8,8,8,8,8,8,8,8,8,8,8,8,8,8,8,8,8,8,8,8,8,8,8,8,8,8,8,8,8,8,8,8,8,8,8,8,8,8,8,8,8,8,8,8,8,8])).toArray)[(IntKind.u8.wrap a).toNat]? =some l)/\
 K (.int .i64 (IntKind.i64.wrap (f + IntKind.i64.wrap (↑l.toNat:Int)))) i)
def ZBl:Sk:=(.seq .leaf (.cut [0,2] [(.int .u64),(.int .i64)] [0,2,3,4,5,6] .leaf (.cut [0,2] [(.int .u64),(.int .i64)] [0,2,7,8,9,10,11,12] .leaf .leaf)))
theorem Zx7 (a:Int) (K:Value->World->Prop) (w:World) (h:B205 a K w):Zo prog 205 #[.int .u64 a] w K:=cq (sk:=ZBl) h func205
def B83 (d:Sl) (K:Value->World->Prop) (w:World):Prop:=
 Calls prog 128 #[.int .u64 (IntKind.u64.wrap (↑d.len:Int))] w λ f g=>
 ∃ b:Sl,(f=.returned (.slice b.a b.len b.cap))/\
 ∃ e:World,∃ c:Sl,((Builtin.append_ #[47,47] 47 #[.slice b.a b.len b.cap,.slice d.a d.len d.cap]).run prog g=.ok (.slice c.a c.len c.cap) e)/\
 K (.slice c.a c.len c.cap) e
theorem ZAa (b:Sl) (K:Value->World->Prop) (w:World) (h:B83 b K w):Zo prog 83 #[.slice b.a b.len b.cap] w K:=cq (sk:=.leaf) h func83
def B94 (i:Option Addr) (g:Int) (K:Value->World->Prop) (w:World):Prop:=
 New (.cells #[.int .i64 g] 3 (0,0)) (λ e k=>
 New (.cells #[.slice none 0 0] 47 (0,0)) (λ c l=>
 Calls prog 149 #[.pointer i,.func (.func 153) #[] #[.pointer ((some ⟨e,0,none⟩)),.pointer ((some ⟨c,0,none⟩))]] l λ f d=>
 (f=.returned (.tuple #[]))/\
 ∃ b:Sl,(Aw d ⟨c,0,none⟩ [b.v])/\
 K (b.v) d) k) w
theorem Zz6 (b:Option Addr) (a:Int) (K:Value->World->Prop) (w:World) (h:B94 b a K w):Zo prog 94 #[.pointer b,.int .i64 a] w K:=cq (sk:=.leaf) h func94
def B153 (e:Option Addr) (r:Option Addr) (p:Option Addr) (b:List PanicEntry->World->Prop) (K:Value->World->Prop) (w:World):Prop:=
 Calls prog 151 #[.pointer e] w λ H c=>
 (∃ d ab,(H=.returned (.tuple #[.int .u64 d,.bool ab]))/\
 Br (!ab)
 (Zd r λ au=>
 ∃ Z,(Aw c au [.int .i64 Z])/\
 Br (decide (Z >= 0))
 (Zd r λ av=>
 ∃ aa,(Aw c av [.int .i64 aa])/\
 Br (decide (d<=IntKind.u64.wrap aa))
 (Zd e λ aw=>
 ∃ q:Sl,(Aw c aw [q.v])/\
 Calls prog 152 #[.bool (decide (d<=IntKind.u64.wrap (↑q.len:Int)))] c λ I ak=>
 ((I=.returned (.tuple #[]))/\
 Calls prog 154 #[.pointer e,.int .i64 (IntKind.i64.wrap d)] ak λ N al=>
 (∃ f:Sl,(N=.returned (f.v))/\
 Calls prog 75 #[f.v] al λ O am=>
 (∃ k:Sl,(O=.returned (k.v))/\
 ∃ an:World,((Instr.storeAt 47 (.pointer p) (k.v)).run prog am=.ok () an)/\
 K (.tuple #[]) an)\/
 (∃ z:List PanicEntry,(O=.panicked z)/\b z am))\/
 (∃ y:List PanicEntry,(N=.panicked y)/\b y al))\/
 (∃ t:List PanicEntry,(I=.panicked t)/\b t ak))
 (Calls prog 152 #[.bool false] c λ Q ao=>
 ((Q=.returned (.tuple #[]))/\
 Calls prog 154 #[.pointer e,.int .i64 (IntKind.i64.wrap d)] ao λ T ap=>
 (∃ g:Sl,(T=.returned (g.v))/\
 Calls prog 75 #[g.v] ap λ U aq=>
 (∃ l:Sl,(U=.returned (l.v))/\
 ∃ ar:World,((Instr.storeAt 47 (.pointer p) (l.v)).run prog aq=.ok () ar)/\
 K (.tuple #[]) ar)\/
 (∃ D:List PanicEntry,(U=.panicked D)/\b D aq))\/
 (∃ C:List PanicEntry,(T=.panicked C)/\b C ap))\/
 (∃ A:List PanicEntry,(Q=.panicked A)/\b A ao)))
 (Calls prog 152 #[.bool false] c λ V ac=>
 ((V=.returned (.tuple #[]))/\
 Calls prog 154 #[.pointer e,.int .i64 (IntKind.i64.wrap d)] ac λ X ad=>
 (∃ i:Sl,(X=.returned (i.v))/\
 Calls prog 75 #[i.v] ad λ Y ae=>
 (∃ m:Sl,(Y=.returned (m.v))/\
 ∃ af:World,((Instr.storeAt 47 (.pointer p) (m.v)).run prog ae=.ok () af)/\
 K (.tuple #[]) af)\/
 (∃ G:List PanicEntry,(Y=.panicked G)/\b G ae))\/
 (∃ F:List PanicEntry,(X=.panicked F)/\b F ad))\/
 (∃ E:List PanicEntry,(V=.panicked E)/\b E ac)))
 (Calls prog 152 #[.bool false] c λ J ag=>
 ((J=.returned (.tuple #[]))/\
 Calls prog 154 #[.pointer e,.int .i64 (IntKind.i64.wrap d)] ag λ L ah=>
 (∃ j:Sl,(L=.returned (j.v))/\
 Calls prog 75 #[j.v] ah λ M ai=>
 (∃ n:Sl,(M=.returned (n.v))/\
 ∃ aj:World,((Instr.storeAt 47 (.pointer p) (n.v)).run prog ai=.ok () aj)/\
 K (.tuple #[]) aj)\/
 (∃ x:List PanicEntry,(M=.panicked x)/\b x ai))\/
 (∃ v:List PanicEntry,(L=.panicked v)/\b v ah))\/
 (∃ u:List PanicEntry,(J=.panicked u)/\b u ag)))\/
 (∃ s:List PanicEntry,(H=.panicked s)/\b s c)
theorem ZyA (d:Option Addr) (b:Option Addr) (c:Option Addr) (a:List PanicEntry->World->Prop) (K:Value->World->Prop) (w:World) (h:B153 d b c a K w):ZaV prog 153 #[.pointer d,.pointer b,.pointer c] w a K:=cqx (sk:=.leaf) h func153
end
end Go.Proofs.YtlplemdmegpoeaaGreatDoor
namespace Go.VC
abbrev Z1:=Nat->Option Obj
def Z1.none:Z1:=λ _=>Option.none
def Z1.one (b:Nat) (o:Obj):Z1:=λ i=>if i=b then some o else Option.none
def Z1.add (R h:Z1):Z1:=λ i=>match R i with|some o=>some o| .none=>h i
def Z1.set (R:Z1) (b:Nat) (o:Obj):Z1:=λ i=>if i=b then some o else R i
def Z1.dis (R h:Z1):Prop:=∀ i,h i≠.none->R i=.none
abbrev HP:=Z1->Prop
structure Cx where
 m:Z1
 os:Os
 tape:Nat->Question->Nat
 output:Array (Nat × ByteArray)
def Cx.add (R:Cx) (h:Z1):Cx:={ R with m:=R.m.add h }
def Cx.set (R:Cx) (b:Nat) (o:Obj):Cx:={ R with m:=R.m.set b o }
def Cx.dis (R:Cx) (h:Z1):Prop:=R.m.dis h
def Sat:Cx->List HP->World->Prop
 |R,[],w=>(∀ b o,R.m b=some o->w.heap[b]? =some o)/\w.os=R.os/\w.tape=R.tape/\w.output=R.output
 |R,H::Hs,w=>∃ h,H h/\R.dis h/\Sat (R.add h) Hs w
def pts (b:Nat) (o:Obj):HP:=λ h=>h=Z1.one b o
def pur (p:Prop):HP:=λ h=>p/\h=Z1.none
def exs {α:Type} (f:α->HP):HP:=λ h=>∃ x,f x h
def ZaI:List HP->HP
 |[]=>λ h=>h=Z1.none
 |H::Hs=>λ h=>∃ h1 h2,H h1/\ZaI Hs h2/\h1.dis h2/\h=h1.add h2
theorem Z1.add_none (R:Z1):R.add Z1.none=R:=by
 funext i;unfold Z1.add Z1.none;cases R i<;>rfl
theorem Z1.add_assoc (R a b:Z1):(R.add a).add b=R.add (a.add b):=by
 funext i;simp only [Z1.add];cases R i<;>simp
theorem Z1.add_comm {a b:Z1} (h:a.dis b):a.add b=b.add a:=by
 funext i
 simp only [Z1.add];cases hb:b i with
 |none=>cases a i<;>rfl
 |some o=>rw [h i (by rw [hb];simp)]
theorem Z1.dis_symm {a b:Z1} (h:a.dis b):b.dis a:=λ i hi=>by
 cases hb:b i with
 |none=>rfl
 |some o=>exact absurd (h i (by rw [hb];simp)) hi
theorem Z1.dis_add {R a b:Z1} (h1:R.dis a) (h2:(R.add a).dis b):R.dis (a.add b):=λ i hi=>by
 cases ha:a i with
 |some o=>exact h1 i (by rw [ha];simp)
 |none=>
  have hb:b i≠.none:=by simpa [Z1.add,ha] using hi
  have:=h2 i hb;simp only [Z1.add] at this;cases hr:R i with
  |none=>rfl
  |some o=>rw [hr] at this;cases this
theorem Z1.dis_of_add {R a b:Z1} (h2:(R.add a).dis b):R.dis b/\a.dis b:=by
 refine ⟨λ i hi=>?_,λ i hi=>?_⟩
 ·have:=h2 i hi;simp only [Z1.add] at this;cases hr:R i with
  |none=>rfl
  |some o=>rw [hr] at this;cases this
 ·have:=h2 i hi;simp only [Z1.add] at this;cases hr:R i with
  |none=>rw [hr] at this;exact this
  |some o=>rw [hr] at this;cases this
theorem Z1.add_dis {R a b:Z1} (h1:R.dis b) (h2:a.dis b):(R.add a).dis b:=λ i hi=>by
 simp only [Z1.add,h1 i hi,h2 i hi]
theorem Cx.add_none (R:Cx):R.add Z1.none=R:=by unfold Cx.add;rw [Z1.add_none]
theorem Cx.add_assoc (R:Cx) (a b:Z1):(R.add a).add b=R.add (a.add b):=by unfold Cx.add;simp only [Z1.add_assoc]
theorem Cx.dis_add {R:Cx} {a b:Z1} (h1:R.dis a) (h2:(R.add a).dis b):R.dis (a.add b):=Z1.dis_add h1 h2
theorem Cx.dis_of_add {R:Cx} {a b:Z1} (h2:(R.add a).dis b):R.dis b/\a.dis b:=Z1.dis_of_add h2
theorem Cx.add_dis {R:Cx} {a b:Z1} (h1:R.dis b) (h2:a.dis b):(R.add a).dis b:=Z1.add_dis h1 h2
theorem Cx.m_add (R:Cx) (h:Z1):(R.add h).m=R.m.add h:=rfl
def Cx.like (R R':Cx):Prop:=R'.os=R.os/\R'.tape=R.tape/\R'.output=R.output
theorem Sat.of_ro:∀ {Hs:List HP} {R:Cx} {w:World} {b:Nat} {o:Obj},Sat R Hs w->R.m b=some o->w.heap[b]? =some o
 |[],_,_,_,_,h,hb=>h.1 _ _ hb
 |_::_,_,_,b,o,h,hb=>by
  obtain ⟨h',_,_,hs⟩:=h;exact hs.of_ro (by simp only [Cx.m_add,Z1.add,hb])
theorem Sat.streams:∀ {Hs:List HP} {R:Cx} {w:World},Sat R Hs w->w.os=R.os/\w.tape=R.tape/\w.output=R.output
 |[],_,_,h=>h.2
 |_::_,_,_,h=>let ⟨_,_,_,hs⟩:=h;hs.streams
structure Alk (w w':World):Prop where
 heap:w'.heap=w.heap
 os:w'.os=w.os
 tape:w'.tape=w.tape
 output:w'.output=w.output
theorem Sat.alk:∀ {Hs:List HP} {R:Cx} {w w':World},Sat R Hs w->Alk w w'->Sat R Hs w'
 |[],_,_,_,h,e=>⟨λ b o hb=>by rw [e.heap];exact h.1 b o hb,e.os.trans h.2.1,e.tape.trans h.2.2.1,e.output.trans h.2.2.2⟩
 |_::_,_,_,_,h,e=>let ⟨h',hH,hd,hs⟩:=h;⟨h',hH,hd,hs.alk e⟩
theorem Sat.drew {R:Cx} {Hs:List HP} {w:World} (h:Sat R Hs w):Sat R Hs w.drew:=h.alk ⟨rfl,rfl,rfl,rfl⟩
theorem Sat.swap {R:Cx} {A B:HP} {Hs:List HP} {w:World} (h:Sat R (A::B::Hs) w):Sat R (B::A::Hs) w:=by
 obtain ⟨a,hA,hda,b,hB,hdb,hs⟩:=h;obtain ⟨h1,h2⟩:=Cx.dis_of_add hdb;refine ⟨b,hB,h1,a,hA,Cx.add_dis hda (Z1.dis_symm h2),?_⟩;rw [Cx.add_assoc,<-Z1.add_comm h2,<-Cx.add_assoc];exact hs
theorem Sat.cons {R:Cx} {A:HP} {Hs Hs':List HP} {w w':World} (k:∀ R',Sat R' Hs w->Sat R' Hs' w') (h:Sat R (A::Hs) w):Sat R (A::Hs') w':=
 let ⟨a,hA,hd,hs⟩:=h;⟨a,hA,hd,k _ hs⟩
theorem Sat.perm {Hs Hs':List HP} (p:Hs.Perm Hs'):∀ {R:Cx} {w:World},Sat R Hs w->Sat R Hs' w:=by
 induction p with
 |nil=>exact λ h=>h
 |cons x _ ih=>exact λ h=>h.cons λ _=>ih
 |swap x y l=>exact λ h=>h.swap
 |trans _ _ ih1 ih2=>exact λ h=>ih2 (ih1 h)
theorem Sat.ro_of:∀ {Hs:List HP} {R R':Cx} {w:World},(∀ b o,R'.m b=some o->R.m b=some o)->R.like R'->Sat R Hs w->Sat R' Hs w
 |[],_,_,_,k,e,h=>⟨λ b o hb=>h.1 b o (k b o hb),h.2.1.trans e.1.symm,h.2.2.1.trans e.2.1.symm,h.2.2.2.trans e.2.2.symm⟩
 |_::_,R,R',_,k,e,h=>by
  obtain ⟨a,hA,hd,hs⟩:=h;refine ⟨a,hA,λ i hi=>?_,Sat.ro_of (R:=R.add a) (R':=R'.add a) (λ b o hb=>?_) e hs⟩
  ·cases hr:R'.m i with
   |none=>rfl
   |some o=>have:=hd i hi;rw [k i o hr] at this;cases this
  ·simp only [Cx.m_add,Z1.add] at hb ⊢
   cases hr':R'.m b with
   |some o'=>rw [hr'] at hb;rw [k b o' hr'];exact hb
   |none=>
    rw [hr'] at hb;have hn:=hd b (by simp only at hb;rw [hb];simp);rw [hn];exact hb
theorem Sat.drop {R:Cx} {A:HP} {Hs:List HP} {w:World} (h:Sat R (A::Hs) w):Sat R Hs w:=by
 obtain ⟨a,_,hd,hs⟩:=h;exact Sat.ro_of (R:=R.add a) (R':=R) (λ b o hb=>by simp only [Cx.m_add,Z1.add,hb]) ⟨rfl,rfl,rfl⟩ hs
theorem Sat.lend {R:Cx} {b:Nat} {o:Obj} {Hs:List HP} {w:World}:Sat R (pts b o::Hs) w↔R.m b=.none/\Sat (R.add (Z1.one b o)) Hs w:=by
 constructor
 ·rintro ⟨a,rfl,hd,hs⟩
  exact ⟨hd b (by simp [Z1.one]),hs⟩
 ·rintro ⟨hb,hs⟩
  refine ⟨_,rfl,λ i hi=>?_,hs⟩;by_cases h:i=b
  ·subst h;exact hb
  ·simp [Z1.one,h] at hi
theorem Cx.lent {R:Cx} {b:Nat} {o:Obj} (h:R.m b=.none):(R.add (Z1.one b o)).m b=some o:=by
 simp [Cx.m_add,Z1.add,h,Z1.one]
theorem Cx.kept {R:Cx} {h:Z1} {b:Nat} {o:Obj} (hb:R.m b=some o):(R.add h).m b=some o:=by
 simp only [Cx.m_add,Z1.add,hb]
theorem Sat.at {R:Cx} {b:Nat} {o:Obj} {Hs:List HP} {w:World} (h:Sat R (pts b o::Hs) w):w.heap[b]? =some o:=
 let ⟨hb,hs⟩:=Sat.lend.1 h
 hs.of_ro (Cx.lent hb)
theorem Sat.pur {R:Cx} {p:Prop} {Hs:List HP} {w:World}:Sat R (VC.pur p::Hs) w↔p/\Sat R Hs w:=by
 constructor
 ·rintro ⟨a,⟨hp,rfl⟩,_,hs⟩
  rw [Cx.add_none] at hs;exact ⟨hp,hs⟩
 ·rintro ⟨hp,hs⟩
  exact ⟨Z1.none,⟨hp,rfl⟩,λ i hi=>absurd rfl hi,by rw [Cx.add_none];exact hs⟩
theorem Sat.exs {α:Type} {R:Cx} {f:α->HP} {Hs:List HP} {w:World}:Sat R (VC.exs f::Hs) w↔∃ x,Sat R (f x::Hs) w:=by
 constructor
 ·rintro ⟨a,⟨x,hx⟩,hd,hs⟩;exact ⟨x,a,hx,hd,hs⟩
 ·rintro ⟨x,a,hx,hd,hs⟩;exact ⟨a,⟨x,hx⟩,hd,hs⟩
theorem Sat.star {w:World}:∀ {l:List HP} {R:Cx} {Hs:List HP},Sat R (ZaI l::Hs) w↔Sat R (l++Hs) w
 |[],R,Hs=>by
  constructor
  ·rintro ⟨a,rfl,_,hs⟩;rw [Cx.add_none] at hs;exact hs
  ·intro hs;exact ⟨Z1.none,rfl,λ i hi=>absurd rfl hi,by rw [Cx.add_none];exact hs⟩
 |A::l,R,Hs=>by
  constructor
  ·rintro ⟨x,⟨h1,h2,hA,hl,hd,rfl⟩,hdx,hs⟩
   have d1:R.dis h1:=λ i hi=>hdx i (by simp only [Z1.add];cases h:h1 i<;>simp_all);refine ⟨h1,hA,d1,Sat.star.1 ⟨h2,hl,Cx.add_dis (λ i hi=>hdx i ?_) hd,by rw [Cx.add_assoc];exact hs⟩⟩;simp only [Z1.add];cases h:h1 i<;>simp_all
  ·rintro ⟨h1,hA,d1,hs⟩
   obtain ⟨h2,hl,d2,hs⟩:=Sat.star.2 hs;refine ⟨h1.add h2,⟨h1,h2,hA,hl,(Cx.dis_of_add d2).2,rfl⟩,Cx.dis_add d1 d2,by rw [<-Cx.add_assoc];exact hs⟩
def _root_.Go.World.setBlock (w:World) (b:Nat) (o:Obj):World:={ w with heap:=w.heap.setIfInBounds b o }
theorem Z1.set_add {R h:Z1} {b:Nat} {o o':Obj} (hb:R b=some o):(R.set b o').add h=(R.add h).set b o':=by
 funext i
 simp only [Z1.add,Z1.set];by_cases hi:i=b
 ·subst hi;simp
 ·simp [hi]
theorem Cx.set_add {R:Cx} {h:Z1} {b:Nat} {o o':Obj} (hb:R.m b=some o):(R.set b o').add h=(R.add h).set b o':=by
 unfold Cx.set Cx.add;simp only [Z1.set_add hb]
theorem Sat.upd:∀ {Hs:List HP} {R:Cx} {w:World} {b:Nat} {o:Obj} (o':Obj),Sat R Hs w->R.m b=some o->Sat (R.set b o') Hs (w.setBlock b o')
 |[],R,w,b,o,o',h,hb=>by
  refine ⟨λ i x hx=>?_,h.2⟩;have hlt:b<w.heap.size:=(Array.getElem?_eq_some_iff.1 (h.1 b o hb)).1;simp only [Cx.set,Z1.set] at hx;simp only [World.setBlock];by_cases hi:i=b
  ·subst hi
   simp only [if_true,Option.some.injEq] at hx;subst hx;simp [hlt]
  ·rw [if_neg hi] at hx
   rw [Array.getElem?_setIfInBounds_ne (Ne.symm hi)];exact h.1 i x hx
 |H::Hs,R,w,b,o,o',h,hb=>by
  obtain ⟨a,hA,hd,hs⟩:=h;have:=Sat.upd o' hs (b:=b) (o:=o) (Cx.kept hb);refine ⟨a,hA,λ i hi=>?_,?_⟩
  ·have hr:=hd i hi
   simp only [Cx.set,Z1.set];by_cases h:i=b
   ·subst h;rw [hb] at hr;cases hr
   ·rw [if_neg h];exact hr
  ·rw [Cx.set_add hb];exact this
theorem Sat.setPts {R:Cx} {b:Nat} {o:Obj} {Hs:List HP} {w:World} (o':Obj) (h:Sat R (pts b o::Hs) w):Sat R (pts b o'::Hs) (w.setBlock b o'):=by
 obtain ⟨hb,hs⟩:=Sat.lend.1 h;refine Sat.lend.2 ⟨hb,?_⟩;have h1:=Sat.upd o' hs (b:=b) (o:=o) (Cx.lent hb);have e:(R.add (Z1.one b o)).set b o'=R.add (Z1.one b o'):=by
  unfold Cx.set Cx.add
  congr 1
  funext i
  simp only [Z1.add,Z1.set,Z1.one];by_cases hi:i=b
  ·subst hi;simp [hb]
  ·simp [hi]
 rw [e] at h1;exact h1
theorem Sat.ro_lt {R:Cx} {Hs:List HP} {w:World} (h:Sat R Hs w) {b:Nat} (hb:w.heap.size<=b):R.m b=.none:=by
 cases hr:R.m b with
 |none=>rfl
 |some o=>
  have:=h.of_ro hr;rw [Array.getElem?_eq_none hb] at this;cases this
theorem Sat.grow:∀ {Hs:List HP} {R:Cx} {w:World} (o:Obj),Sat R Hs w->Sat (R.add (Z1.one w.heap.size o)) Hs (w.alloc o)
 |[],R,w,o,h=>by
  refine ⟨λ b x hx=>?_,h.2⟩;simp only [Cx.m_add,Z1.add,Z1.one] at hx;cases hr:R.m b with
  |some y=>
   rw [hr] at hx;have:=h.1 b y hr;have hlt:b<w.heap.size:=(Array.getElem?_eq_some_iff.1 this).1;simp only at hx;simp only [World.alloc];rw [Array.getElem?_push_lt hlt,<-Array.getElem?_eq_getElem,this,hx]
  |none=>
   rw [hr] at hx;simp only at hx;split at hx
   ·rename_i hb;subst hb;cases hx;show (w.heap.push o)[w.heap.size]? =_;simp
   ·cases hx
 |H::Hs,R,w,o,h=>by
  have hR:R.m w.heap.size=.none:=Sat.ro_lt h (Nat.le_refl _);obtain ⟨a,hA,hd,hs⟩:=h;have hadd:(R.add a).m w.heap.size=.none:=Sat.ro_lt hs (Nat.le_refl _);have ha:a w.heap.size=.none:=by simpa [Cx.m_add,Z1.add,hR] using hadd
  have:=Sat.grow o hs;have hdis:(Z1.one w.heap.size o).dis a:=by
   intro i hi;simp only [Z1.one];split
   ·rename_i h;subst h;exact absurd ha hi
   ·rfl
  refine ⟨a,hA,Cx.add_dis hd hdis,?_⟩;rw [Cx.add_assoc,Z1.add_comm hdis,<-Cx.add_assoc];exact this
theorem Sat.alloc {R:Cx} {Hs:List HP} {w:World} (o:Obj) (h:Sat R Hs w):Sat R (pts w.heap.size o::Hs) (w.alloc o):=
 Sat.lend.2 ⟨Sat.ro_lt h (Nat.le_refl _),Sat.grow o h⟩
def Cx.of (w:World):Cx:={ m:=λ b=>w.heap[b]?,os:=w.os,tape:=w.tape,output:=w.output }
theorem Sat.start (w:World):Sat (Cx.of w) [] w:=⟨λ _ _ h=>h,rfl,rfl,rfl⟩
class ZeO (b:Nat) (Hs:List HP) (o:outParam Obj) (Rest:outParam (List HP)):Prop where
 perm:Hs.Perm (pts b o::Rest)
instance (priority:=2000) ZeO.head {b:Nat} {o:Obj} {Hs:List HP}:ZeO b (pts b o::Hs) o Hs:=⟨List.Perm.refl _⟩
instance ZeO.tail {b:Nat} {H:HP} {Hs:List HP} {o:Obj} {Rest:List HP} [t:ZeO b Hs o Rest]:ZeO b (H::Hs) o (H::Rest):=
 ⟨(t.perm.cons H).trans (.swap _ _ _)⟩
class Ztu (A:HP) (Hs:List HP) (Rest:outParam (List HP)):Prop where
 perm:Hs.Perm (A::Rest)
instance (priority:=2000) Ztu.head {A:HP} {Hs:List HP}:Ztu A (A::Hs) Hs:=⟨List.Perm.refl _⟩
instance Ztu.tail {A H:HP} {Hs:List HP} {Rest:List HP} [t:Ztu A Hs Rest]:Ztu A (H::Hs) (H::Rest):=
 ⟨(t.perm.cons H).trans (.swap _ _ _)⟩
theorem Sat.takeP {R:Cx} {Hs Rest:List HP} {w:World} {b:Nat} {o:Obj} (h:Sat R Hs w) (t:ZeO b Hs o Rest):Sat R (pts b o::Rest) w:=h.perm t.perm
theorem Sat.take {R:Cx} {Hs Rest:List HP} {w:World} (A:HP) [t:Ztu A Hs Rest] (h:Sat R Hs w):Sat R (A::Rest) w:=h.perm t.perm
theorem Sat.look {R:Cx} {Hs Rest:List HP} {w:World} {o:Obj} (b:Nat) [t:ZeO b Hs o Rest] (h:Sat R Hs w):w.heap[b]? =some o:=(h.takeP t).at
theorem eqS {R:Cx} {Hs:List HP} {w:World} (h:Sat R Hs w):∀ w',(λ w'=>w'=w) w'->Sat R Hs w':=λ _ e=>by rw [show _=w from e];exact h
theorem Zhj {R:Cx} {Hs:List HP}:∀ w',Sat R Hs w'->Sat R Hs w':=λ _ h=>h
def Pre:List Value->List Value->Prop
 |[],_=>True
 |v::vs,x::l=>v=x/\Pre vs l
 |_::_,[]=>False
theorem Pre.get:∀ {vs l:List Value},Pre vs l->∀ (i:Nat) (v:Value),vs[i]? =some v->l[i]? =some v
 |[],_,_,i,v,h=>by simp at h
 |x::vs,y::l,hp,0,v,h=>by simp only [List.getElem?_cons_zero] at h ⊢;rw [<-hp.1];exact h
 |x::vs,y::l,hp,i + 1,v,h=>by simp only [List.getElem?_cons_succ] at h ⊢;exact hp.2.get i v h
 |_::_,[],hp,_,_,_=>hp.elim
theorem Zaz {w:World} {b:Nat} {l:List Value} {T:TypeId} {fr:Nat × Nat} (h:w.heap[b]? =some (.cells l.toArray T fr)) (i:Nat):w.cell? ⟨b,i,none⟩=l[i]?:=by
 simp [World.cell?,h]
theorem Zz (b o i:Nat):Addr.add ⟨b,o,none⟩ i=⟨b,o + i,none⟩:=by
 unfold Addr.add;split
 ·rename_i h;subst h;rfl
 ·rfl
theorem At.mk {S:World->Prop} {b off:Nat} {vs l:List Value} {T:TypeId} {fr:Nat × Nat} (h:∀ w,S w->w.heap[b]? =some (.cells l.toArray T fr)) (hp:Pre vs (l.drop off)):At S ⟨b,off,none⟩ vs:=by
 intro w hw i v hv;have:=hp.get i v hv;rw [List.getElem?_drop] at this;rw [Zz,Zaz (h w hw),this]
theorem At.own {S:World->Prop} {R:Cx} {Hs Rest:List HP} {b off:Nat} {vs l:List Value} {T:TypeId} {fr:Nat × Nat} (hS:∀ w,S w->Sat R Hs w)
  [t:ZeO b Hs (.cells l.toArray T fr) Rest] (hp:Pre vs (l.drop off)):At S ⟨b,off,none⟩ vs:=At.mk (λ w hw=>(hS w hw).look b) hp
theorem oA {R : Cx} {Hs Rest : List HP} {w : World} {b off : Nat} {vs l : List Value} {T : TypeId} {fr : Nat × Nat} (h : Sat R Hs w) [t : ZeO b Hs (.cells l.toArray T fr) Rest] (hp : Pre vs (l.drop off) := by exact ⟨rfl, trivial⟩) : At (λ w' => w' = w) ⟨b, off, none⟩ vs := At.own (eqS h) hp
theorem oS {R : Cx} {Hs Rest : List HP} {b off : Nat} {vs l : List Value} {T : TypeId} {fr : Nat × Nat} [t : ZeO b Hs (.cells l.toArray T fr) Rest] (hp : Pre vs (l.drop off) := by exact ⟨rfl, trivial⟩) : At (Sat R Hs) ⟨b, off, none⟩ vs := At.own Zhj hp
theorem Zb {R:Cx} {Hs:List HP} {w:World} {o:Obj} {K:Nat->World->Prop} (hw:Sat R Hs w) (k:∀ b w',Sat R (pts b o::Hs) w'->K b w'):New o K w:=
 k _ _ (Sat.alloc o hw)
theorem Zu {R:Cx} {Hs:List HP} {w:World} {F:(World->Prop)->World->Prop} (hw:Sat R Hs w) (k:∀ w',Sat R Hs w'->F (Sat R Hs) w'):Drw w F:=
 ⟨Sat R Hs,Sat R Hs,hw.drew,λ w' h=>⟨h,k w' h⟩⟩
theorem ZA {R:Cx} {Hs:List HP} {w:World} {F:(World->Prop)->World->Prop} (S:World->Prop) (hw:Sat R Hs w) (hS:∀ w',Sat R Hs w'->S w') (k:∀ w',Sat R Hs w'->F S w'):Drw w F:=
 ⟨Sat R Hs,S,hw.drew,λ w' h=>⟨hS w' h,k w' h⟩⟩
def tru:HP:=λ _=>True
theorem Sat.tru {R:Cx} {Hs:List HP} {w:World} (h:Sat R Hs w):Sat R (VC.tru::Hs) w:=⟨Z1.none,trivial,λ _ hi=>absurd rfl hi,by rw [Cx.add_none];exact h⟩
theorem Sat.absorb {R:Cx} {A:HP} {Hs:List HP} {w:World} (h:Sat R (A::VC.tru::Hs) w):Sat R (VC.tru::Hs) w:=by
 obtain ⟨a,_,hda,b,_,hdb,hs⟩:=h;refine ⟨a.add b,trivial,Cx.dis_add hda hdb,?_⟩;rw [<-Cx.add_assoc];exact hs
theorem Zbf {R:Cx} {Hs:List HP} {w:World} {F:(World->Prop)->World->Prop} (hw:Sat R Hs w) (k:∀ w',Sat R (VC.tru::Hs) w'->F (Sat R (VC.tru::Hs)) w'):Drw w F:=
 ⟨_,_,hw.tru.drew,λ w' h=>⟨h,k w' h⟩⟩
theorem Zl {x:Int} (h0: -9223372036854775808<=x) (h1:x<9223372036854775808):IntKind.i64.wrap x=x:=by
 have:IntKind.i64.wrap x=(x + 9223372036854775808) % 18446744073709551616 - 9223372036854775808:=by
  rw [IntKind.wrap_i64]
 rw [this];omega
structure Ro (R:Cx) (s:Sl) (xs:List Value):Prop where
 len:s.len=xs.length
 bound:xs.length<=9223372036854775807
 mem:xs≠[]->∃ b off l T fr,s.a=some ⟨b,off,none⟩/\R.m b=some (.cells l T fr)/\∀ (i:Nat) v,xs[i]? =some v->l[off + i]? =some v
theorem Ro.add {R:Cx} {h:Z1} {s:Sl} {xs:List Value} (hr:Ro R s xs):Ro (R.add h) s xs:=
 ⟨hr.len,hr.bound,λ hx=>let ⟨b,off,l,T,fr,ha,hb,hl⟩:=hr.mem hx;⟨b,off,l,T,fr,ha,Cx.kept hb,hl⟩⟩
theorem Ro.addr {R:Cx} {s:Sl} {xs:List Value} (hr:Ro R s xs) {k:Nat} (hk:k<xs.length):∃ a,s.a=some a/\
  ∀ {S:World->Prop} {Hs:List HP},(∀ w,S w->Sat R Hs w)->At S (a.add k) [xs[k]]:=by
 obtain ⟨b,off,l,T,fr,ha,hb,hl⟩:=hr.mem (by intro h;rw [h] at hk;simp at hk);refine ⟨_,ha,λ hS w hw i v hv=>?_⟩;have hi:i=0:=by
  cases i with
  |zero=>rfl
  |succ i=>simp at hv
 subst hi;simp only [List.getElem?_cons_zero,Option.some.injEq] at hv;subst hv;rw [Zz,Zz];have:=(hS w hw).of_ro hb;simp only [World.cell?,this,Option.isSome_none,Bool.false_eq_true,if_false];exact hl k _ (List.getElem?_eq_getElem hk)
abbrev RoI (R:Cx) (s:Sl) (xs:List Int):Prop:=Ro R s (xs.map (Value.int .i64))
theorem RoI.len {R:Cx} {s:Sl} {xs:List Int} (h:RoI R s xs):s.len=xs.length:=by rw [Ro.len h];simp
theorem RoI.bound {R:Cx} {s:Sl} {xs:List Int} (h:RoI R s xs):xs.length<=9223372036854775807:=by have:=Ro.bound h;simpa using this
theorem RoI.addr {R:Cx} {s:Sl} {xs:List Int} (hr:RoI R s xs) {k:Nat} (hk:k<xs.length):∃ a,s.a=some a/\
  ∀ {S:World->Prop} {Hs:List HP},(∀ w,S w->Sat R Hs w)->At S (a.add k) [.int .i64 xs[k]]:=by
 obtain ⟨a,ha,h⟩:=Ro.addr hr (k:=k) (by simpa using hk);refine ⟨a,ha,λ hS=>?_⟩;have:=h hS;simpa using this
theorem RoI.idx {S:World->Prop} {R:Cx} {Hs:List HP} {s:Sl} {xs:List Int} (hr:RoI R s xs) (hS:∀ w,S w->Sat R Hs w) {k:Nat} (hk:k<xs.length) {F:Int->Prop} (h:F xs[k]):
  Rng (k:Int) s.len (Zd s.a λ a=>∃ t:Int,(At S (a.add (k:Int).toNat) [.int .i64 t])/\F t):=by
 obtain ⟨a,ha,hat⟩:=RoI.addr hr hk;have hl:=RoI.len hr;exact Rng.mk (by omega) (by omega) (Zd.mk ha ⟨xs[k],hat hS,h⟩)
theorem Ro.idxS {S:World->Prop} {R:Cx} {Hs:List HP} {m:Sl} {ms:List Sl} (hr:Ro R m (ms.map Sl.v)) (hS:∀ w,S w->Sat R Hs w) {k:Nat} (hk:k<ms.length) {F:Sl->Prop} (h:F ms[k]):
  Rng (k:Int) m.len (Zd m.a λ a=>∃ t:Sl,(At S (a.add (k:Int).toNat) [.slice t.a t.len t.cap])/\F t):=by
 obtain ⟨a,ha,hat⟩:=hr.addr (k:=k) (by simpa using hk);have hl:m.len=ms.length:=by have:=hr.len;simpa using this
 refine Rng.mk (by omega) (by omega) (Zd.mk ha ⟨ms[k],?_,h⟩);have:=hat hS;simpa [Sl.v] using this
def ZeI:List Value->Nat->List Value->List Value
 |l,_,[]=>l
 |l,o,v::vs=>ZeI (l.set o v) (o + 1) vs
theorem Zbw:∀ (vs l:List Value) (o:Nat),(ZeI l o vs).length=l.length
 |[],_,_=>rfl
 |_::vs,l,o=>by rw [ZeI,Zbw vs,List.length_set]
theorem ZeX:∀ (vs l:List Value) (o:Nat),o + vs.length<=l.length->ZeI l o vs=l.take o++vs++l.drop (o + vs.length)
 |[],l,o,_=>by simp [ZeI]
 |v::vs,l,o,h=>by
  simp only [List.length_cons] at h;rw [ZeI,ZeX vs (l.set o v) (o + 1) (by simp;omega)];have e1:(l.set o v).take (o + 1)=l.take o++[v]:=by
   rw [List.take_succ_eq_append_getElem (by simp;omega)];simp [List.take_set_of_le]
  have e2:(l.set o v).drop (o + 1 + vs.length)=l.drop (o + (vs.length + 1)):=by
   rw [List.drop_set_of_lt (by omega)];congr 1;omega
  rw [e1,e2];simp
theorem Zjp {w:World} {b o:Nat} {l:List Value} {T:TypeId} {fr:Nat × Nat} (h:w.heap[b]? =some (.cells l.toArray T fr)) (v:Value):
  w.setCell ⟨b,o,none⟩ v=w.setBlock b (.cells (l.set o v).toArray T fr):=by
 unfold World.setCell World.setBlock
 congr 1
 apply Array.ext_getElem?;intro i;rw [Array.getElem?_modify,Array.getElem?_setIfInBounds];by_cases hi:b=i
 ·subst hi
  obtain ⟨hlt,hg⟩:=Array.getElem?_eq_some_iff.1 h;simp [hlt,hg]
 ·simp [hi]
theorem ZaL {R:Cx} {Hs:List HP} {b:Nat} {T:TypeId} {fr:Nat × Nat}:∀ (vs l:List Value) (o:Nat) (w:World),Sat R (pts b (.cells l.toArray T fr)::Hs) w->
  Sat R (pts b (.cells (ZeI l o vs).toArray T fr)::Hs) (w.setCells b o vs)
 |[],_,_,_,h=>h
 |v::vs,l,o,w,h=>by
  rw [World.setCells,Zjp h.at,ZeI];exact ZaL vs (l.set o v) (o + 1) _ (h.setPts _)
def ZnG (n:Nat) (fr:Nat × Nat):Prop:=fr.2=0\/n<=fr.1
theorem ZnG.le {n m:Nat} {fr:Nat × Nat} (h:ZnG n fr) (hm:m<=n):ZnG m fr:=h.imp id λ h=>Nat.le_trans hm h
theorem ZcH {w:World} {b:Nat} {l:Array Value} {T:TypeId} {fr:Nat × Nat} {n:Nat} (h:w.heap[b]? =some (.cells l T fr)) (hf:ZnG n fr) {i:Nat} (hi:i<n):w.frozen? ⟨b,i,none⟩=false:=by
 obtain ⟨lo,hi'⟩:=fr;simp only [World.frozen?,h];rcases hf with hf|hf<;>simp only at hf<;>simp<;>omega
def Za0 (vs:List Value):Bool:=vs.all (·.oneCell')
theorem Za {P:Program} {R:Cx} {Hs Rest:List HP} {w:World} {b o:Nat} {l:List Value} {T t:TypeId} {fr:Nat × Nat} {v:Value} {K:World->Prop}
  (hw:Sat R Hs w) [tk:ZeO b Hs (.cells l.toArray T fr) Rest] (hsz:(P.info? t).map (·.size)=some v.cells.toList.length) (h1:Za0 v.cells.toList=true) (hb:o + v.cells.toList.length<=l.length)
  (k:∀ w',Sat R (pts b (.cells (ZeI l o v.cells.toList).toArray T fr)::Rest) w'->K w') (hfr:ZnG l.length fr:=by first|assumption|exact Or.inl rfl):
  ∃ w',(Instr.storeAt t (.pointer (some ⟨b,o,none⟩)) v).run P w=.ok () w'/\K w':=by
 have hp:=hw.takeP tk;have hat:=hp.at;obtain ⟨i,hi,hsz⟩:=Option.map_eq_some_iff.1 hsz;refine ⟨w.setCells b o v.cells.toList,?_,k _ (ZaL _ _ _ _ hp)⟩;have hst:=run_storeCells_cells (P:=P) b o v.cells.toList 0 w (λ j hj=>by
   simp only [Nat.add_zero];rw [Zaz hat];simp;omega) (λ j hj=>ZcH hat hfr (by omega)) (λ u hu=>List.all_eq_true.1 h1 u hu)
 simp only [Nat.add_zero] at hst;simp [Instr.storeAt,Instr.sureAddr,storeVar,sizeOf,typeInfo,hi,hsz,hst]
def Own (s:Sl) (T:TypeId) (xs:List Value):HP:=λ h=>
 (s=⟨none,0,0⟩/\xs=[]/\h=Z1.none)\/∃ b rest fr,s=⟨some ⟨b,0,none⟩,xs.length,(xs++rest).length⟩/\ZnG (xs++rest).length fr/\h=Z1.one b (.cells (xs++rest).toArray T fr)
theorem Own.nil {R:Cx} {Hs:List HP} {w:World} {T:TypeId} (h:Sat R Hs w):Sat R (Own ⟨none,0,0⟩ T []::Hs) w:=
 ⟨Z1.none,.inl ⟨rfl,rfl,rfl⟩,λ i hi=>absurd rfl hi,by rw [Cx.add_none];exact h⟩
theorem Own.of_pts {R:Cx} {Hs:List HP} {w:World} {T:TypeId} {b:Nat} {fr:Nat × Nat} {xs rest:List Value} (h:Sat R (pts b (.cells (xs++rest).toArray T fr)::Hs) w) (hf:ZnG (xs++rest).length fr:=by first|assumption|exact Or.inl rfl):
  Sat R (Own ⟨some ⟨b,0,none⟩,xs.length,(xs++rest).length⟩ T xs::Hs) w:=
 let ⟨a,ha,hd,hs⟩:=h;⟨a,.inr ⟨b,rest,fr,rfl,hf,ha⟩,hd,hs⟩
theorem Own.cases {R:Cx} {Hs:List HP} {w:World} {T:TypeId} {s:Sl} {xs:List Value} (h:Sat R (Own s T xs::Hs) w):
  (s=⟨none,0,0⟩/\xs=[]/\Sat R Hs w)\/∃ b rest fr,s=⟨some ⟨b,0,none⟩,xs.length,(xs++rest).length⟩/\ZnG (xs++rest).length fr/\Sat R (pts b (.cells (xs++rest).toArray T fr)::Hs) w:=by
 obtain ⟨a,ha,hd,hs⟩:=h;rcases ha with ⟨h1,h2,rfl⟩|⟨b,rest,fr,h1,hf,rfl⟩
 ·rw [Cx.add_none] at hs;exact .inl ⟨h1,h2,hs⟩
 ·exact .inr ⟨b,rest,fr,h1,hf,_,rfl,hd,hs⟩
theorem Own.len {R:Cx} {Hs:List HP} {w:World} {T:TypeId} {s:Sl} {xs:List Value} (h:Sat R (Own s T xs::Hs) w):s.len=xs.length:=by
 rcases Own.cases h with ⟨rfl,rfl,_⟩|⟨b,rest,fr,rfl,_,_⟩<;>rfl
theorem Own.lend {R:Cx} {Hs:List HP} {w:World} {T:TypeId} {s:Sl} {xs:List Value} (h:Sat R (Own s T xs::Hs) w) (hb:xs.length<=9223372036854775807):
  ∃ R':Cx,Ro R' s xs/\(∀ s' xs',Ro R s' xs'->Ro R' s' xs')/\Sat R' Hs w/\∀ {Hs' w'},Sat R' Hs' w'->Sat R (Own s T xs::Hs') w':=by
 rcases Own.cases h with ⟨rfl,rfl,h2⟩|⟨b,rest,fr,rfl,hf,h2⟩
 ·exact ⟨R,⟨rfl,by simp,λ h=>absurd rfl h⟩,λ _ _ h=>h,h2,λ h=>Own.nil h⟩
 ·obtain ⟨hn,h3⟩:=Sat.lend.1 h2
  refine ⟨_,⟨rfl,hb,λ _=>⟨b,0,_,T,fr,rfl,Cx.lent hn,λ i v hv=>?_⟩⟩,λ _ _ h=>h.add,h3,λ h=>Own.of_pts (Sat.lend.2 ⟨hn,h⟩)⟩;obtain ⟨hi,rfl⟩:=List.getElem?_eq_some_iff.1 hv;simp [List.getElem?_append_left hi]
def elB (P:Program) (T:TypeId) (bytes:Nat):Bool:=
 match P.info? T with
 |some i=>match i.zero with
  |some z=>i.size==1 && i.bytes==bytes && z.cells.size==1
  |none=>false
 |none=>false
theorem ZmW {P:Program} {T:TypeId} {bytes:Nat} (h:elB P T bytes=true):∃ i z,P.info? T=some i/\i.zero=some z/\i.size=1/\i.bytes=bytes/\z.cells.size=1:=by
 unfold elB at h;split at h
 ·rename_i i hi
  split at h
  ·rename_i z hz
   simp only [Bool.and_eq_true,beq_iff_eq] at h;exact ⟨i,z,hi,hz,h.1.1,h.1.2,h.2⟩
  ·cases h
 ·cases h
structure El (P:Program) (t1 t2 T:TypeId) (bytes:Nat):Prop where
 ht:P.underlying t1=some (.slice T)
 hk:∃ e',P.underlying t2=some (.slice e')
 hi:elB P T bytes=true
theorem ZcL {P:Program} {t1 t2 ty T:TypeId} {bytes:Nat} (E:El P t1 t2 T bytes) {R:Cx} {Hs:List HP} {w:World} {s:Sl} {xs ys:List Value} {src:Value} {n:Nat} {K:Sl->World->Prop}
  (hw:Sat R (Own s T xs::Hs) w) (hs:Src P 1 t2 src n ys w) (h1:Za0 xs=true) (hb:2 * (xs.length + n) * bytes<=281474976710656) (hb':xs.length + n<=9223372036854775807)
  (k:∀ s' w',Sat R (Own s' T (xs++ys)::Hs) w'->K s' w'):
  ∃ w',∃ t:Sl,(Builtin.append_ #[t1,t2] ty #[.slice s.a s.len s.cap,src]).run P w=.ok (.slice t.a t.len t.cap) w'/\K t w':=by
 obtain ⟨i,z,hi,hz,hsize,hbytes,hzc⟩:=ZmW E.hi;have hyn:ys.length=n:=by have:=hs.newsLen;simpa using this
 have hs':Src P i.size t2 src n ys w:=by rw [hsize];exact hs
 have hlen:=Own.len hw;have fit:∀ cap,cap<xs.length + n->Builtin.nextslicecap (xs.length + n) cap * i.bytes<=281474976710656:=λ cap hc=>by
  have h2:Builtin.nextslicecap (xs.length + n) cap<=2 * (xs.length + n):=by
   unfold Builtin.nextslicecap;split
   ·omega
   ·split
    ·omega
    ·have:=nextslicecap_le_wide hc
     unfold Builtin.nextslicecap at this;rw [if_neg (by assumption),if_neg (by assumption)] at this;omega
  rw [hbytes];exact Nat.le_trans (Nat.mul_le_mul_right _ h2) hb
 -- a new row
 have grow:∀ (base:Option Addr) (cap:Nat) (olds:List Value),olds=xs->cap<xs.length + n->(Builtin.firstCells i.size xs.length (.slice base xs.length cap)).run P w.drew=.ok olds.toArray w.drew->Sat R Hs w->
   ∃ w',∃ t:Sl,(Builtin.append_ #[t1,t2] ty #[.slice base xs.length cap,src]).run P w=.ok (.slice t.a t.len t.cap) w'/\K t w':=λ base cap olds ho hc hold hw=>by
  have hr:=run_append_grow_src w t1 t2 ty T i z E.ht hi hz base xs.length cap olds hold src n ys hs' hc (by omega) (fit cap hc);refine ⟨_,⟨some ⟨w.heap.size,0,none⟩,xs.length + n,grownCap w (xs.length + n) cap T⟩,hr,k _ _ ?_⟩;have hz0:(Builtin.zeroCells z.cells (grownCap w (xs.length + n) cap T - (xs.length + n))).size=grownCap w (xs.length + n) cap T - (xs.length + n):=by
   simp [Builtin.zeroCells,hzc]
  have hg:=grownCap_ge w (xs.length + n) cap T;have ho':Obj.cells ((olds++ys).toArray++Builtin.zeroCells z.cells (grownCap w (xs.length + n) cap T - (xs.length + n))) T=.cells ((xs++ys)++(Builtin.zeroCells z.cells (grownCap w (xs.length + n) cap T - (xs.length + n))).toList).toArray T (0,0):=by
   rw [ho]
   congr 1
   apply Array.ext';simp
  have:=Sat.alloc (Obj.cells ((olds++ys).toArray++Builtin.zeroCells z.cells (grownCap w (xs.length + n) cap T - (xs.length + n))) T) (Sat.drew hw);rw [ho'] at this ⊢;have h3:=Own.of_pts this;have e:(⟨some ⟨w.drew.heap.size,0,none⟩,(xs++ys).length,(xs++ys++(Builtin.zeroCells z.cells (grownCap w (xs.length + n) cap T - (xs.length + n))).toList).length⟩:Sl)=⟨some ⟨w.heap.size,0,none⟩,xs.length + n,grownCap w (xs.length + n) cap T⟩:=by
   simp only [List.length_append,Array.length_toList,hz0,World.size_drew,hyn]
   congr 1
   omega
  rw [e] at h3;exact h3
 rcases Own.cases hw with ⟨rfl,rfl,hz2⟩|⟨b,rest,fr,rfl,hfr,hp⟩
 ·by_cases hn0:n=0
  ·subst hn0
   have hy:ys=[]:=List.length_eq_zero_iff.1 hyn;subst hy;obtain ⟨e',he'⟩:=E.hk;refine ⟨w,⟨none,0,0⟩,?_,k _ _ (by simpa using Own.nil hz2)⟩;have hcz:=hs'.cells;simp [Builtin.append_,run_underlying E.ht,run_underlying he',sizeOf,typeInfo,hi,hs'.len,hcz]
  ·exact grow none 0 [] rfl (by simp;omega) (run_firstCells_none w.drew i.size 0 0 0) hz2
 ·by_cases hroom:xs.length + n<=(xs++rest).length
  ·have hat:=hp.at
   have hr:=run_append_room_src w t1 t2 ty T i E.ht hi b 0 xs.length (xs++rest).length src n ys hs' hroom
    (λ j hj=>by rw [Zaz hat,hsize];simp at hroom ⊢;omega) (λ j hj=>ZcH hat hfr (by rw [hsize,Nat.mul_one];simp only [List.length_append] at hroom ⊢;omega))
   refine ⟨_,⟨some ⟨b,0,none⟩,xs.length + n,(xs++rest).length⟩,hr,k _ _ ?_⟩;have h2:=ZaL ys (xs++rest) xs.length w hp;have e1:ZeI (xs++rest) xs.length ys=(xs++ys)++rest.drop n:=by
    rw [ZeX _ _ _ (by rw [hyn];exact hroom),List.take_left',List.drop_append]
    ·simp [hyn]
    ·rfl
   rw [e1] at h2;rw [hsize,Nat.zero_add,Nat.mul_one];have h3:=Own.of_pts h2 (hfr.le (by simp only [List.length_append,List.length_drop] at hroom ⊢;omega));have e:(⟨some ⟨b,0,none⟩,(xs++ys).length,(xs++ys++rest.drop n).length⟩:Sl)=⟨some ⟨b,0,none⟩,xs.length + n,(xs++rest).length⟩:=by
    simp only [List.length_append,List.length_drop,hyn] at hroom ⊢
    congr 1
    omega
   rw [e] at h3;exact h3
  ·have hat:=hp.at
   refine grow (some ⟨b,0,none⟩) (xs++rest).length xs rfl (by omega) ?_ hp.drop;refine run_firstCells_some w.drew i.size xs.length ⟨b,0,none⟩ xs.length _ xs (by rw [hsize];simp) ?_;intro j u hj;rw [World.cell?_drew,Zz,Zaz hat,Nat.zero_add];obtain ⟨hlt,rfl⟩:=List.getElem?_eq_some_iff.1 hj;simp [List.getElem?_append_left hlt]
theorem Ztk {P:Program} {t2:TypeId} (hk:∃ e',P.underlying t2=some (.slice e')) {R:Cx} {Hs Rest:List HP} {w:World} {b:Nat} {x:Value} {T:TypeId} {fr:Nat × Nat} (c:Nat)
  (hw:Sat R Hs w) [t:ZeO b Hs (.cells [x].toArray T fr) Rest] (h1:x.oneCell'=true):Src P 1 t2 (.slice (some ⟨b,0,none⟩) 1 c) 1 [x] w:=by
 obtain ⟨e',he'⟩:=hk;refine Go.Src.ofSlice w he' _ 1 c [x] rfl ?_ ?_
 ·intro j u hj
  have:=hw.look b;rw [Zz,Zaz this];simpa using hj
 ·intro u hu;simp at hu;subst hu;exact h1
theorem Zfk {P:Program} {t1 t2 ty T T':TypeId} {bytes:Nat} (E:El P t1 t2 T bytes) {R:Cx} {Hs:List HP} {w:World} {s:Sl} {xs:List Value} {x:Value} {K:Sl->World->Prop}
  (hw:Sat R (Own s T xs::Hs) w) (h1:Za0 xs=true) (hx:x.oneCell'=true) (hb:2 * (xs.length + 1) * bytes<=281474976710656) (hb':xs.length + 1<=9223372036854775807)
  (k:∀ s' w',Sat R (Own s' T (xs++[x])::Hs) w'->K s' w'):
  New (.cells #[x] T' (0,0)) (λ b w=>∃ w',∃ t:Sl,(Builtin.append_ #[t1,t2] ty #[.slice s.a s.len s.cap,.slice (some ⟨b,0,none⟩) 1 1]).run P w=.ok (.slice t.a t.len t.cap) w'/\K t w') w:=by
 refine Zb hw λ b w hw=>?_;have hw:Sat R (pts b (.cells [x].toArray T' (0,0))::Own s T xs::Hs) w:=hw;exact ZcL E hw.swap (Ztk E.hk 1 hw hx) h1 hb hb' λ s' w' h=>k s' w' h.swap.drop
theorem Zdg {P:Program} {t1 t2 ty T T':TypeId} (E:El P t1 t2 T 8) {R:Cx} {Hs:List HP} {w:World} {s:Sl} {xs:List Int} {x:Int} {K:Sl->World->Prop}
  (hw:Sat R (Own s T (xs.map (Value.int .i64))::Hs) w) (hb:xs.length<1000000000000)
  (k:∀ s' w',Sat R (Own s' T ((xs++[x]).map (Value.int .i64))::Hs) w'->K s' w'):
  New (.cells #[.int .i64 x] T' (0,0)) (λ b w=>∃ w',∃ t:Sl,(Builtin.append_ #[t1,t2] ty #[.slice s.a s.len s.cap,.slice (some ⟨b,0,none⟩) 1 1]).run P w=.ok (.slice t.a t.len t.cap) w'/\K t w') w:=
 Zfk E hw (by unfold Za0;simp [Value.oneCell']) rfl (by rw [List.length_map];omega) (by rw [List.length_map];omega) λ s' w' h=>k s' w' (by simpa using h)
theorem Own.lendI {R:Cx} {Hs:List HP} {w:World} {T:TypeId} {s:Sl} {xs:List Int} (h:Sat R (Own s T (xs.map (Value.int .i64))::Hs) w) (hb:xs.length<=9223372036854775807):
  ∃ R':Cx,RoI R' s xs/\(∀ s' xs',Ro R s' xs'->Ro R' s' xs')/\Sat R' Hs w/\∀ {Hs' w'},Sat R' Hs' w'->Sat R (Own s T (xs.map (Value.int .i64))::Hs') w':=
 Own.lend h (by simpa using hb)
section
variable {P:Program} {R:Cx} {Hs Rest:List HP} {w:World} {s:Sl} {T:TypeId}
theorem Own.addr {xs:List Value} (hw:Sat R (Own s T xs::Hs) w) {k:Nat} (hk:k<xs.length):∃ b,s.a=some ⟨b,0,none⟩/\
  ∀ {S:World->Prop} {Hs'},(∀ w,S w->Sat R (Own s T xs::Hs') w)->At S (Addr.add ⟨b,0,none⟩ k) [xs[k]]:=by
 rcases Own.cases hw with ⟨_,rfl,_⟩|⟨b,rest,fr,rfl,_,_⟩
 ·simp at hk
 ·refine ⟨b,rfl,λ hS w hs i v hv=>?_⟩
  have hi:i=0:=by
   cases i with
   |zero=>rfl
   |succ i=>simp at hv
  subst hi;simp only [List.getElem?_cons_zero,Option.some.injEq] at hv;subst hv;rcases Own.cases (hS w hs) with ⟨h0,_,_⟩|⟨b',rest',fr',he,_,h⟩
  ·cases h0
  ·simp only [Sl.mk.injEq,Option.some.injEq,Addr.mk.injEq,and_true] at he
   obtain ⟨rfl,_⟩:=he;rw [Zz,Zz,Zaz h.at];simp [List.getElem?_append_left hk]
theorem Own.cap {xs:List Value} (hw:Sat R (Own s T xs::Hs) w):s.len<=s.cap:=by
 rcases Own.cases hw with ⟨rfl,_,_⟩|⟨b,rest,fr,rfl,_,_⟩
 ·exact Nat.le_refl _
 ·simp
theorem Own.idx {kd:IntKind} {xs:List Int} {S:World->Prop} {Hs':List HP} (hw:Sat R (Own s T (xs.map (Value.int kd))::Hs) w) (hS:∀ w,S w->Sat R (Own s T (xs.map (Value.int kd))::Hs') w) {k:Nat} (hk:k<xs.length) {F:Int->Prop} (h:F xs[k]):
  Rng (k:Int) s.len (Zd s.a λ a=>∃ t:Int,(At S (a.add (k:Int).toNat) [.int kd t])/\F t):=by
 obtain ⟨b,ha,hat⟩:=Own.addr hw (k:=k) (by simpa using hk);have hl:=Own.len hw;rw [List.length_map] at hl;refine Rng.mk (by omega) (by omega) (Zd.mk ha ⟨xs[k],?_,h⟩);have:=hat hS;simpa using this
theorem Own.store {t:TypeId} {kd:IntKind} {xs:List Int} (hsz:(P.info? t).map (·.size)=some 1) (hw:Sat R (Own s T (xs.map (Value.int kd))::Hs) w) {k:Nat} (hk:k<xs.length) {x:Int} {K:World->Prop}
  (h:∀ w',Sat R (Own s T ((xs.set k x).map (Value.int kd))::Hs) w'->K w'):
  Rng (k:Int) s.len (Zd s.a λ a=>∃ w',(Instr.storeAt t (.pointer (some (Addr.add a (k:Int).toNat))) (.int kd x)).run P w=.ok () w'/\K w'):=by
 have hl:=Own.len hw;rw [List.length_map] at hl;rcases Own.cases hw with ⟨_,h0,_⟩|⟨b,rest,fr,rfl,hfr,hp⟩
 ·simp at h0;subst h0;simp at hk
 ·refine Rng.mk (by omega) (by simp only at hl ⊢;omega) (Zd.mk rfl ?_)
  rw [Zz];refine Za hp (by rw [hsz];rfl) rfl (by simp [Value.cells];omega) λ w' h2=>h w' ?_;have e:ZeI (xs.map (Value.int kd)++rest) (0 + (k:Int).toNat) (Value.int kd x).cells.toList=(xs.set k x).map (Value.int kd)++rest:=by
   simp only [ZeI,Value.cells,Nat.zero_add,Int.toNat_natCast];rw [List.set_append_left _ _ (by simpa using hk),List.map_set]
  rw [e] at h2;have h3:=Own.of_pts h2 (hfr.le (by simp));simpa using h3
end
section
class ZaW (α:Type) [BEq α] where
 enc:α->Value
 desc:TypeDesc
 same:∀ a b,Instr.sameNow desc (enc a) (enc b)=some (a==b)
 bits:∀ a,Instr.sameBits 10000 (enc a) (enc a)=true
 eq:∀ a b:α,(a==b)=true->a=b
 check:∀ (P:Program) (em:Bool) (K:TypeId) (a:α) (w:World),P.underlying K=some desc->(Instr.checkKey em 10000 K (enc a)).run P w=.ok () w
instance:ZaW ByteArray where
 enc:=Value.string
 desc:=.string
 same a b:=rfl
 bits a:=by
  have:∀ n,Instr.sameBits n (.string a) (.string a)=(a==a):=λ n=>by cases n<;>rfl
  rw [this];exact (MapKept.bytes_beq a a).2 rfl
 eq a b h:=(MapKept.bytes_beq a b).1 h
 check P em K a w h:=by
  show (Instr.checkKey em (9999 + 1) K (.string a)).run P w=_;unfold Instr.checkKey;simp [run_underlying h]
variable {α:Type} [BEq α] [ZaW α]
abbrev En (α:Type):=α × Value × Nat
def mkE (e:En α):MapEntry:={ key:=ZaW.enc e.1,val:=e.2.1,born:=e.2.2 }
def Zuw (k:α):List (En α)->Option Value
 |[]=>none
 |e::es=>if k==e.1 then some e.2.1 else Zuw k es
def ZoJ (k:α) (v:Value):List (En α)->List (En α)
 |[]=>[]
 |e::es=>if k==e.1 then (e.1,v,e.2.2)::es else e::ZoJ k v es
def Zoc (k:α):List (En α)->List (En α)
 |[]=>[]
 |e::es=>if k==e.1 then es else e::Zoc k es
def Zkz (k:α) (es:List (En α)):Bool:=(Zuw k es).isSome
def ZpV (k:α) (v:Value) (es:List (En α)) (clock:Nat):List (En α):=if Zkz k es then ZoJ k v es else es++[(k,v,clock)]
def ZfA (k:α):List (En α)->Nat->Option (Nat × Value)
 |[],_=>none
 |e::es,i=>if k==e.1 then some (i,e.2.1) else ZfA k es (i + 1)
theorem Zi4 (k:α):∀ (es:List (En α)) (i:Nat),Instr.findNow (ZaW.desc α) (ZaW.enc k) (es.map mkE) i=some (ZfA k es i)
 |[],_=>rfl
 |e::es,i=>by
  rw [List.map_cons,Instr.findNow,mkE,ZaW.same,ZfA];cases h:(k==e.1)
  ·simpa using Zi4 k es (i + 1)
  ·rfl
omit [ZaW α] in
theorem ZgX (k:α):∀ (es:List (En α)) (i:Nat),(ZfA k es i).map (·.2)=Zuw k es
 |[],_=>rfl
 |e::es,i=>by
  rw [ZfA,Zuw];cases h:(k==e.1)
  ·exact ZgX k es (i + 1)
  ·rfl
theorem ZdA {P:Program} {K:TypeId} (hK:P.underlying K=some (ZaW.desc α)) (k:α) (es:List (En α)) (w:World):
  (Instr.findKey K (ZaW.enc k) (es.map mkE)).run P w=.ok (ZfA k es 0) w:=by
 unfold Instr.findKey;simp [run_underlying hK,Zi4]
theorem ZdG {P:Program} (k:α) (w:World):(Instr.keyThatStays (ZaW.enc k) (ZaW.enc k)).run P w=.ok (ZaW.enc k) w:=by
 unfold Instr.keyThatStays;rw [if_pos (ZaW.bits k)];rfl
theorem Zo9 {P:Program} {T K E:TypeId} (hT:P.underlying T=some (.map K E)) (hK:P.underlying K=some (ZaW.desc α)) {z:Value} (hz:∀ w,(zeroValue E).run P w=.ok z w)
  {w:World} {m clock:Nat} {es:List (En α)} (hm:w.heap[m]? =some (.map (es.map mkE).toArray clock)) (k:α) (c:Bool):
  (Instr.lookup T (.map (some m)) (ZaW.enc k) c).run P w=.ok (if c then .tuple #[(Zuw k es).getD z,.bool (Zkz k es)] else (Zuw k es).getD z) w:=by
 have hv:=ZgX k es 0;have hck:=ZaW.check P (es.map mkE).toArray.isEmpty K k w hK;have hfk:=ZdA hK k es w;unfold Instr.lookup;cases hi:ZfA k es 0 with
 |none=>
  rw [hi] at hv hfk;simp only [Option.map_none] at hv;simp only [Sem.run_bind,run_underlying hT,Result.andThen,MapKept.run_getObj_map hm,Sem.run_pure,hck,hfk,hz,Zkz,<-hv];rfl
 |some p=>
  rw [hi] at hv hfk;simp only [Option.map_some] at hv;simp only [Sem.run_bind,run_underlying hT,Result.andThen,MapKept.run_getObj_map hm,Sem.run_pure,hck,hfk,Zkz,<-hv];rfl
omit [ZaW α] in
theorem Zcm (k:α):∀ (es:List (En α)) (i:Nat),(∀ p,ZfA k es i=some p->i<=p.1)
 |[],i,p,h=>by cases h
 |e::es,i,p,h=>by
  rw [ZfA] at h;cases hk:(k==e.1)
  ·rw [hk] at h;have:=Zcm k es (i + 1) p (by simpa using h);omega
  ·rw [hk] at h;simp at h;subst h;exact Nat.le_refl _
theorem Zlp (k:α) (v:Value):∀ (es:List (En α)) (i:Nat) (p:Nat × Value),ZfA k es i=some p->
  (es.map mkE).modify (p.1 - i) (λ e=>{ e with key:=ZaW.enc k,val:=v })=(ZoJ k v es).map mkE
 |[],_,_,h=>by cases h
 |e::es,i,p,h=>by
  have hle:=Zcm k (e::es) i p h;rw [ZfA] at h;cases hk:(k==e.1)
  ·rw [hk] at h
   have h':ZfA k es (i + 1)=some p:=by simpa using h
   have hle2:=Zcm k es (i + 1) p h';obtain ⟨j,hj⟩:∃ j,p.1 - i=j + 1:=⟨p.1 - (i + 1),by omega⟩;have ih:=Zlp k v es (i + 1) p h';rw [show p.1 - (i + 1)=j by omega] at ih;rw [hj,ZoJ,hk];simp only [List.map_cons,List.modify_succ_cons,Bool.false_eq_true,if_false,List.cons.injEq,true_and];exact ih
  ·rw [hk] at h
   simp at h;subst h;have:=ZaW.eq _ _ hk;subst this;rw [ZoJ,hk];simp [mkE]
theorem Zn7 (k:α):∀ (es:List (En α)) (i:Nat) (p:Nat × Value),ZfA k es i=some p->(es.map mkE).eraseIdx (p.1 - i)=(Zoc k es).map mkE
 |[],_,_,h=>by cases h
 |e::es,i,p,h=>by
  rw [ZfA] at h;cases hk:(k==e.1)
  ·rw [hk] at h
   have h':ZfA k es (i + 1)=some p:=by simpa using h
   have hle2:=Zcm k es (i + 1) p h';obtain ⟨j,hj⟩:∃ j,p.1 - i=j + 1:=⟨p.1 - (i + 1),by omega⟩;have ih:=Zn7 k es (i + 1) p h';rw [show p.1 - (i + 1)=j by omega] at ih;rw [hj,Zoc,hk];simp only [List.map_cons,List.eraseIdx_cons_succ,Bool.false_eq_true,if_false,List.cons.injEq,true_and];exact ih
  ·rw [hk] at h
   simp at h;subst h;rw [Zoc,hk];simp
omit [ZaW α] in
theorem ZdZ (k:α) (es:List (En α)) (i:Nat):ZfA k es i=none↔Zkz k es=false:=by
 unfold Zkz;rw [<-ZgX k es i];cases ZfA k es i<;>simp
omit [ZaW α] in
theorem ZlO (k:α):∀ (es:List (En α)),Zkz k es=false->Zoc k es=es
 |[],_=>rfl
 |e::es,h=>by
  unfold Zkz Zuw at h;cases hk:(k==e.1)
  ·rw [hk] at h
   rw [Zoc,hk];simp only [Bool.false_eq_true,if_false,List.cons.injEq,true_and];exact ZlO k es (by unfold Zkz;simpa using h)
  ·rw [hk] at h;simp at h
theorem Zj0 (k:α):∀ (es:List (En α)) (i:Nat) (p:Nat × Value),ZfA k es i=some p->p.1<i + es.length/\∃ e,(es.map mkE)[p.1 - i]? =some e/\e.key=ZaW.enc k
 |[],_,_,h=>by cases h
 |e::es,i,p,h=>by
  rw [ZfA] at h;cases hk:(k==e.1)
  ·rw [hk] at h
   have h':ZfA k es (i + 1)=some p:=by simpa using h
   have hle2:=Zcm k es (i + 1) p h';obtain ⟨h1,e',h2,h3⟩:=Zj0 k es (i + 1) p h';refine ⟨by simp only [List.length_cons];omega,e',?_,h3⟩;obtain ⟨j,hj⟩:∃ j,p.1 - i=j + 1:=⟨p.1 - (i + 1),by omega⟩;rw [hj,List.map_cons,List.getElem?_cons_succ,show j=p.1 - (i + 1) by omega];exact h2
  ·rw [hk] at h
   simp at h;subst h;refine ⟨by simp,mkE e,by simp,?_⟩;rw [ZaW.eq _ _ hk];rfl
theorem Zot {P:Program} {T K E:TypeId} (hT:P.underlying T=some (.map K E)) (hK:P.underlying K=some (ZaW.desc α))
  {w:World} {m clock:Nat} {es:List (En α)} (hm:w.heap[m]? =some (.map (es.map mkE).toArray clock)) (k:α) (v:Value):
  (Instr.mapUpdate T (.map (some m)) (ZaW.enc k) v).run P w=.ok () (w.setBlock m (.map ((ZpV k v es clock).map mkE).toArray (if Zkz k es then clock else clock + 1))):=by
 have hck:=ZaW.check P false K k w hK;have hfk:=ZdA hK k es w;unfold Instr.mapUpdate;cases hi:ZfA k es 0 with
 |none=>
  have hn:=(ZdZ k es 0).1 hi;rw [hi] at hfk;simp only [Sem.run_bind,run_underlying hT,Result.andThen,MapKept.run_getObj_map hm,hck,hfk,MapKept.run_setObj_map _ hm,ZpV,hn,World.setBlock,Bool.false_eq_true,if_false];simp [mkE]
 |some p=>
  have hh:Zkz k es=true:=by
   cases h:Zkz k es
   ·rw [(ZdZ k es 0).2 h] at hi;cases hi
   ·rfl
  obtain ⟨_,e,he,hek⟩:=Zj0 k es 0 p hi;have hmod:=Zlp k v es 0 p hi;rw [Nat.sub_zero] at he hmod;rw [hi] at hfk;have hkey:(((es.map mkE).toArray[p.1]?).map (·.key)).getD (ZaW.enc k)=ZaW.enc k:=by
   have:(es.map mkE).toArray[p.1]? =some e:=by simpa using he
   rw [this];exact hek
  simp only [Sem.run_bind,run_underlying hT,Result.andThen,MapKept.run_getObj_map hm,hck,hfk,hkey,ZdG,MapKept.run_setObj_map _ hm,ZpV,hh,World.setBlock,if_true]
  congr 4
  apply Array.ext';rw [<-hmod];simp
theorem Zpu {P:Program} {T K E ty t2:TypeId} (hT:P.underlying T=some (.map K E)) (hK:P.underlying K=some (ZaW.desc α))
  {w:World} {m clock:Nat} {es:List (En α)} (hm:w.heap[m]? =some (.map (es.map mkE).toArray clock)) (k:α):
  (Builtin.delete_ #[T,t2] ty #[.map (some m),ZaW.enc k]).run P w=.ok (.tuple #[]) (w.setBlock m (.map ((Zoc k es).map mkE).toArray clock)):=by
 have hck:=ZaW.check P (es.map mkE).toArray.isEmpty K k w hK;have hfk:=ZdA hK k es w;have h0:(#[T,t2]:Array TypeId)[0]? =some T:=rfl;have h1:(#[Value.map (some m),ZaW.enc k]:Array Value)[0]? =some (.map (some m)):=rfl;have h2:(#[Value.map (some m),ZaW.enc k]:Array Value)[1]? =some (ZaW.enc k):=rfl;unfold Builtin.delete_;rw [h0,h1,h2];cases hi:ZfA k es 0 with
 |none=>
  have hn:=(ZdZ k es 0).1 hi;rw [hi] at hfk;simp only [Sem.run_bind,run_underlying hT,Result.andThen,MapKept.run_getObj_map hm,hck,hfk,MapKept.run_setObj_map _ hm,World.setBlock,ZlO k es hn,Sem.run_pure]
 |some p=>
  have her:=Zn7 k es 0 p hi;obtain ⟨hlt,_⟩:=Zj0 k es 0 p hi;rw [Nat.sub_zero] at her;rw [hi] at hfk;have e:(es.map mkE).toArray.eraseIdxIfInBounds p.1=((Zoc k es).map mkE).toArray:=by
   apply Array.ext';rw [<-her];simp [Array.eraseIdxIfInBounds,show p.1<es.length by omega]
  simp only [Sem.run_bind,run_underlying hT,Result.andThen,MapKept.run_getObj_map hm,hck,hfk,MapKept.run_setObj_map _ hm,World.setBlock,e,Sem.run_pure]
end
end Go.VC
