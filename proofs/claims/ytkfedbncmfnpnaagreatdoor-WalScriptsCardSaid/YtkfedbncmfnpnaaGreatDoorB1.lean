/- VC, part 1: readable formulas for single operations of the model, each proved to be enough for the model's own run of that operation. No condition. -/
import Derived.OrdersHeld
import Derived.KernelRfl
import Derived.Laws.Entries
import Derived.Laws.Cells
import Derived.Laws.World
import Derived.Tactics
import Derived.Scope
import Derived.Defers
import Derived.Recover
import Derived.Test.YtkfedbncmfnpnaaGreatDoorProg
import Derived.TacticsIn
import Derived.OrdersIn
import Derived.RangeFuncSeq
set_option linter.unusedVariables false
set_option linter.unusedSimpArgs false
namespace Go.VC
structure Sl where
 a:Option Addr
 len:Nat
 cap:Nat
inductive Ty where
 |int (k:IntKind)|bool|str|sl|ptr|map|flt|any
@[reducible] def Ty.T:Ty->Type
 | .int _=>Int| .bool=>Bool| .str=>ByteArray| .sl=>Sl| .ptr=>Option Addr| .map=>Option Nat| .flt=>Nat| .any=>Value
def Ty.enc:(t:Ty)->t.T->Value
 | .int k,n=>.int k n
 | .bool,b=>.bool b
 | .str,s=>.string s
 | .sl,s=>.slice s.a s.len s.cap
 | .ptr,p=>.pointer p
 | .map,m=>.map m
 | .flt,n=>.float .f64 n
 | .any,v=>v
def Ty.un:(t:Ty)->Value->(t.T->Prop)->Prop
 | .int k,v,φ=>match v with| .int k' n=>(match decide (k=k') with|true=>φ n|false=>False)|_=>False
 | .bool,v,φ=>match v with| .bool b=>φ b|_=>False
 | .str,v,φ=>match v with| .string s=>φ s|_=>False
 | .sl,v,φ=>match v with| .slice a n c=>φ ⟨a,n,c⟩|_=>False
 | .ptr,v,φ=>match v with| .pointer p=>φ p|_=>False
 | .map,v,φ=>match v with| .map m=>φ m|_=>False
 | .flt,v,φ=>match v with| .float .f64 n=>φ n|_=>False
 | .any,v,φ=>φ v
theorem Ty.un_enc {t:Ty} {v:Value} {φ:t.T->Prop} (h:t.un v φ):∃ x,v=t.enc x/\φ x:=by
 cases t<;>simp only [Ty.un] at h
 case int k=>
  split at h
  ·split at h
   ·rename_i hk;have:=of_decide_eq_true hk;subst this;exact ⟨_,rfl,h⟩
   ·exact h.elim
  ·exact h.elim
 case any=>exact ⟨v,rfl,h⟩
 all_goals (split at h<;>first|exact ⟨_,rfl,h⟩|exact h.elim)
def Ty.ex:(t:Ty)->(Value->Prop)->Prop
 | .int k,φ=>∃ n:Int,φ (.int k n)
 | .bool,φ=>∃ b:Bool,φ (.bool b)
 | .str,φ=>∃ s:ByteArray,φ (.string s)
 | .sl,φ=>∃ s:Sl,φ (.slice s.a s.len s.cap)
 | .ptr,φ=>∃ p:Option Addr,φ (.pointer p)
 | .map,φ=>∃ m:Option Nat,φ (.map m)
 | .flt,φ=>∃ n:Nat,φ (.float .f64 n)
 | .any,φ=>∃ v:Value,φ v
theorem Ty.ex_some {t:Ty} {φ:Value->Prop} (h:t.ex φ):∃ v,φ v:=by
 cases t<;>(obtain ⟨x,h⟩:=h;exact ⟨_,h⟩)
def ZlT:List Ty->(List Value->Prop)->Prop
 |[],φ=>φ []
 |t::ts,φ=>t.ex λ v=>ZlT ts λ vs=>φ (v::vs)
theorem ZiL:∀ {ts:List Ty} {φ:List Value->Prop},ZlT ts φ->∃ vs,φ vs
 |[],_,h=>⟨[],h⟩
 |_::_,_,h=>let ⟨v,h⟩:=Ty.ex_some h;let ⟨vs,h⟩:=ZiL h;⟨v::vs,h⟩
inductive Vt where
 |one (t:Ty)|agg (ts:List Ty)
def Vt.ex:Vt->(Value->Prop)->Prop
 | .one t,φ=>t.ex φ
 | .agg ts,φ=>ZlT ts λ vs=>φ (.agg vs.toArray)
theorem Vt.ex_some {t:Vt} {φ:Value->Prop} (h:t.ex φ):∃ v,φ v:=by
 cases t with
 |one t=>exact Ty.ex_some h
 |agg ts=>let ⟨vs,h⟩:=ZiL h;exact ⟨_,h⟩
def Zp9:List Vt->(List Value->Prop)->Prop
 |[],φ=>φ []
 |t::ts,φ=>t.ex λ v=>Zp9 ts λ vs=>φ (v::vs)
theorem ZhF:∀ {ts:List Vt} {φ:List Value->Prop},Zp9 ts φ->∃ vs,φ vs
 |[],_,h=>⟨[],h⟩
 |_::_,_,h=>let ⟨v,h⟩:=Vt.ex_some h;let ⟨vs,h⟩:=ZhF h;⟨v::vs,h⟩
inductive Rt where
 |val (t:Vt)|tup (ts:List Vt)
def Rt.ex:Rt->(Value->Prop)->Prop
 | .val t,φ=>t.ex φ
 | .tup ts,φ=>Zp9 ts λ vs=>φ (.tuple vs.toArray)
theorem Rt.ex_some {t:Rt} {φ:Value->Prop} (h:t.ex φ):∃ v,φ v:=by
 cases t with
 |val t=>exact Vt.ex_some h
 |tup ts=>let ⟨vs,h⟩:=ZhF h;exact ⟨_,h⟩
def Zwl (P:Program) (t:TypeId):Ty:=
 match P.underlying t with
 |some .bool=>.bool
 |some (.int k)=>.int k
 |some .string=>.str
 |some (.pointer _)=>.ptr
 |some (.slice _)=>.sl
 |some (.map _ _)=>.map
 |some (.float .f64)=>.flt
 |_=>.any
def Zp3 (f:TypeId->Option (List Ty)):List Field->Option (List Ty)
 |[]=>some []
 |x::xs=>match f x.type with
  |none=>none
  |some l=>match Zp3 f xs with
   |none=>none
   |some m=>some (l++m)
def ZuH (P:Program):Nat->TypeId->Option (List Ty)
 |0,_=>none
 |d + 1,t=>match P.underlying t with
  |some (.struct fs)=>Zp3 (ZuH P d) fs.toList
  |some (.array n e)=>match Nat.ble n 4 with
   |true=>match ZuH P d e with
    |some l=>some (List.replicate n l).flatten
    |none=>none
   |false=>none
  |_=>some [Zwl P t]
def ZwA (P:Program) (t:TypeId):Vt:=
 match P.underlying t with
 |some (.struct _)|some (.array _ _)=>match ZuH P 6 t with
  |some l=>.agg l
  |none=>.one .any
 |_=>.one (Zwl P t)
def Zuj (P:Program) (t:TypeId):Rt:=
 match P.underlying t with
 |some (.tuple ts)=>.tup (ts.toList.map (ZwA P))
 |_=>.val (ZwA P t)
abbrev Env:=Nat->Value
def Env.set (ρ:Env) (d:Nat) (v:Value):Env:=λ i=>match Nat.beq i d with|true=>v|false=>ρ i
def Env.put (ρ:Env) (d:Option Tmp) (v:Value):Env:=match d with|some d=>ρ.set d v|none=>ρ
def Env.ev (ρ:Env):Operand->Value
 | .tmp t=>ρ t
 | .const v=>v
 | .global g=>.pointer (some ⟨g,0,none⟩)
 | .func f=>.func (.func f) #[] #[]
def Br (b:Bool) (A B:Prop):Prop:=match b with|true=>A|false=>B
theorem Br.mk {b:Bool} {A B:Prop} (h:b=true->A) (h':b=false->B):Br b A B:=by
 cases b
 ·exact h' rfl
 ·exact h rfl
theorem Br.t {b:Bool} {A B:Prop} (hb:b=true) (h:A):Br b A B:=by subst hb;exact h
theorem Br.f {b:Bool} {A B:Prop} (hb:b=false) (h:B):Br b A B:=by subst hb;exact h
def Nz (b:Int) (A:Prop):Prop:=match decide (b=0) with|true=>False|false=>A
theorem Nz.out {b:Int} {A:Prop} (h:Nz b A):b≠0/\A:=by
 unfold Nz at h;split at h
 ·exact h.elim
 ·rename_i hb;exact ⟨of_decide_eq_false hb,h⟩
def ZcT (op:BinOp) (k:IntKind) (x y:Int):Int:=
 let a:=BitVec.ofInt k.bits x
 let b:=BitVec.ofInt k.bits y
 k.wrap (match op with| .and=>(a &&& b).toNat| .or=>(a|||b).toNat| .xor=>(a ^^^ b).toNat|_=>(a &&& ~~~b).toNat:Nat)
def Zlj (k:IntKind) (x y:Int):Int:=k.wrap (x * 2 ^ min y.toNat k.bits)
def ZhY (k:IntKind) (x y:Int):Int:=x.fdiv (2 ^ min y.toNat k.bits)
def Ge0 (y:Int) (A:Prop):Prop:=match decide (y<0) with|true=>False|false=>A
theorem Ge0.mk {y:Int} {A:Prop} (hy:0<=y) (h:A):Ge0 y A:=by unfold Ge0;rw [decide_eq_false (by omega)];exact h
def ariF (op:BinOp) (k:IntKind) (a b:Int) (K:Value->Prop):Prop:=
 match op with
 | .add=>K (.int k (k.wrap (a + b)))
 | .sub=>K (.int k (k.wrap (a - b)))
 | .mul=>K (.int k (k.wrap (a * b)))
 | .quo=>Nz b (K (.int k (k.wrap (a.tdiv b))))
 | .rem=>Nz b (K (.int k (a.tmod b)))
 | .and=>K (.int k (ZcT .and k a b))
 | .or=>K (.int k (ZcT .or k a b))
 | .xor=>K (.int k (ZcT .xor k a b))
 | .andNot=>K (.int k (ZcT .andNot k a b))
 | .eql=>K (.bool (a==b))
 | .neq=>K (.bool (a !=b))
 | .lss=>K (.bool (decide (a<b)))
 | .leq=>K (.bool (decide (a<=b)))
 | .gtr=>K (.bool (decide (a>b)))
 | .geq=>K (.bool (decide (a >= b)))
 |_=>False
def strF (op:BinOp) (a b:ByteArray) (K:Value->Prop):Prop:=
 match op with
 | .add=>((a.size + b.size:Nat):Int)<=IntKind.i64.max/\K (.string (a++b))
 | .eql=>K (.bool (a.toList==b.toList))
 | .neq=>K (.bool !(a.toList==b.toList))
 | .lss=>K (.bool (Op.bytesLess a.toList b.toList))
 | .leq=>K (.bool (Op.bytesLess a.toList b.toList||a.toList==b.toList))
 | .gtr=>K (.bool !(Op.bytesLess a.toList b.toList||a.toList==b.toList))
 | .geq=>K (.bool !(Op.bytesLess a.toList b.toList))
 |_=>False
def eqF (op:BinOp) (b:Bool) (K:Value->Prop):Prop:=
 match op with
 | .eql=>K (.bool b)
 | .neq=>K (.bool !b)
 |_=>False
def ZeA (P:Program) (T:TypeId):Nat:=
 match P.underlying T with
 |some (.int _)=>1
 |some .string=>2
 |some .bool=>3
 |some (.pointer _)=>4
 |some (.slice _)=>5
 |some (.map _ _)=>6
 |some (.func _ _ _)=>7
 |_=>0
def ZlM:BinOp->Bool| .shl| .shr=>true|_=>false
def ZrV (op:BinOp) (k:IntKind) (a y:Int) (K:Value->Prop):Prop:=
 Ge0 y (match op with
 | .shl=>K (.int k (Zlj k a y))
 |_=>K (.int k (ZhY k a y)))
def intF (op:BinOp) (x y:Value) (K:Value->Prop):Prop:=
 match x with
 | .int k a=>match y with
  | .int k' b=>(match ZlM op with
   |true=>ZrV op k a b K
   |false=>(match decide (k=k') with|true=>ariF op k a b K|false=>False))
  |_=>False
 |_=>False
def Zxs (P:Program) (op:BinOp) (T:TypeId) (x y:Value) (K:Value->Prop):Prop:=
 match ZeA P T with
 |1=>intF op x y K
 |2=>match x with
  | .string a=>match y with| .string b=>strF op a b K|_=>False
  |_=>False
 |3=>match x with
  | .bool a=>match y with| .bool b=>eqF op (a==b) K|_=>False
  |_=>False
 |4=>match x with
  | .pointer p=>match y with| .pointer none=>eqF op p.isNone K|_=>False
  |_=>False
 |5=>match x with
  | .slice a _ _=>match y with| .slice none _ _=>eqF op a.isNone K|_=>False
  |_=>False
 |6=>match x with
  | .map m=>match y with| .map none=>eqF op m.isNone K|_=>False
  |_=>False
 |7=>match y with
  | .nilFunc=>match x with| .nilFunc=>eqF op true K| .func _ _ _=>eqF op false K|_=>False
  |_=>False
 |_=>False
theorem ZeM {P:Program} {T:TypeId} {x y:Value} {b:Bool} (h:∀ d w,(Op.equalIn (d + 1) T x y).run P w=.ok b w) (op:BinOp) {K:Value->Prop} (ox oy:Operand)
  (hop:eqF op b K) (hb:binOp .eql T x y=(do pure (.bool (<-Op.equal T x y)):Sem Value)) (hb':binOp .neq T x y=(do pure (.bool (!(<-Op.equal T x y))):Sem Value))
  (hg:∀ w,(eqGuard op T ox oy x y).run P w=.ok () w):
  ∃ v,(∀ w,(do eqGuard op T ox oy x y;binOp op T x y:Sem Value).run P w=.ok v w)/\K v:=by
 have h':∀ w,(Op.equal T x y).run P w=.ok b w:=h 9999;cases op<;>simp only [eqF] at hop
 ·exact ⟨_,λ w=>by rw [Sem.run_bind,hg w,hb];simp [h'],hop⟩
 ·exact ⟨_,λ w=>by rw [Sem.run_bind,hg w,hb'];simp [h'],hop⟩
theorem ZoA {P:Program} {op:BinOp} {T:TypeId} {x y:Value} {K:Value->Prop} (h:Zxs P op T x y K) (ox oy:Operand):
  ∃ v,(∀ w,(do eqGuard op T ox oy x y;binOp op T x y:Sem Value).run P w=.ok v w)/\K v:=by
 unfold Zxs at h;split at h
 ·-- integers
  unfold intF at h;split at h
  ·rename_i k a
   split at h
   ·rename_i k' b
    split at h
    ·rename_i hs
     unfold ZrV Ge0 at h;split at h
     ·exact h.elim
     ·rename_i hy
      have hy:=of_decide_eq_false hy;have e:∀ s:Sem Value,(do eqGuard op T ox oy (.int k a) (.int k' b);s:Sem Value)=s:=λ s=>by
       unfold eqGuard;cases op<;>simp [ZlM] at hs<;>rfl
      cases op<;>simp only [ZlM,Bool.false_eq_true] at hs<;>simp only at h
      ·exact ⟨_,λ w=>by simp only [e,binOp,Op.shift,if_neg hy];rfl,h⟩
      ·exact ⟨_,λ w=>by simp only [e,binOp,Op.shift,if_neg hy];rfl,h⟩
    ·split at h
     ·rename_i hk
      have hk:=of_decide_eq_true hk;subst hk;unfold ariF at h;cases op<;>simp only at h
      case add=>exact ⟨_,λ w=>by simp [eqGuard,binOp,Op.intArith],h⟩
      case sub=>exact ⟨_,λ w=>by simp [eqGuard,binOp,Op.intArith],h⟩
      case mul=>exact ⟨_,λ w=>by simp [eqGuard,binOp,Op.intArith],h⟩
      case quo=>obtain ⟨hb,h⟩:=h.out;exact ⟨_,λ w=>by simp [eqGuard,binOp,Op.intDiv,hb],h⟩
      case rem=>obtain ⟨hb,h⟩:=h.out;exact ⟨_,λ w=>by simp [eqGuard,binOp,Op.intDiv,hb],h⟩
      case and=>exact ⟨_,λ w=>by simp [eqGuard,binOp,Op.intBits,ZcT],h⟩
      case or=>exact ⟨_,λ w=>by simp [eqGuard,binOp,Op.intBits,ZcT],h⟩
      case xor=>exact ⟨_,λ w=>by simp [eqGuard,binOp,Op.intBits,ZcT],h⟩
      case andNot=>exact ⟨_,λ w=>by simp [eqGuard,binOp,Op.intBits,ZcT],h⟩
      case eql=>exact ⟨_,λ w=>by simp [eqGuard,binOp,Op.intCmp],h⟩
      case neq=>exact ⟨_,λ w=>by simp [eqGuard,binOp,Op.intCmp],h⟩
      case lss=>exact ⟨_,λ w=>by simp [eqGuard,binOp,Op.intCmp],h⟩
      case leq=>exact ⟨_,λ w=>by simp [eqGuard,binOp,Op.intCmp],h⟩
      case gtr=>exact ⟨_,λ w=>by simp [eqGuard,binOp,Op.intCmp],h⟩
      case geq=>exact ⟨_,λ w=>by simp [eqGuard,binOp,Op.intCmp],h⟩
     ·exact h.elim
   ·exact h.elim
  ·exact h.elim
 ·split at h
  ·split at h
   ·rename_i a _ b
    unfold strF at h;cases op<;>simp only at h
    case add=>
     obtain ⟨hb,h⟩:=h;exact ⟨_,λ w=>by simp only [eqGuard,binOp,Op.stringOp];rw [if_neg (Int.not_lt.2 hb)];simp,h⟩
    all_goals exact ⟨_,λ w=>by simp [eqGuard,binOp,Op.stringOp],h⟩
   ·exact h.elim
  ·exact h.elim
 ·rename_i hT
  have hT:P.underlying T=some .bool:=by
   unfold ZeA at hT;split at hT<;>first|assumption|simp at hT
  split at h
  ·split at h
   ·exact ZeM (λ d w=>by simp [Op.equalIn,run_underlying hT]) op ox oy h rfl rfl (λ w=>by cases op<;>rfl)
   ·exact h.elim
  ·exact h.elim
 ·rename_i hT
  obtain ⟨e,hT⟩:∃ e,P.underlying T=some (.pointer e):=by
   unfold ZeA at hT;split at hT<;>first|exact ⟨_,by assumption⟩|simp at hT
  split at h
  ·split at h
   ·rename_i p _
    exact ZeM (λ d w=>by cases p<;>simp [Op.equalIn,run_underlying hT]) op ox oy h (by cases p<;>rfl) (by cases p<;>rfl) (λ w=>by cases op<;>rfl)
   ·exact h.elim
  ·exact h.elim
 ·rename_i hT
  obtain ⟨e,hT⟩:∃ e,P.underlying T=some (.slice e):=by
   unfold ZeA at hT;split at hT<;>first|exact ⟨_,by assumption⟩|simp at hT
  split at h
  ·split at h
   ·rename_i a _ _ _ _ _
    exact ZeM (λ d w=>by cases a<;>simp [Op.equalIn,run_underlying hT]) op ox oy h rfl rfl (λ w=>by cases op<;>rfl)
   ·exact h.elim
  ·exact h.elim
 ·rename_i hT
  obtain ⟨e,e',hT⟩:∃ e e',P.underlying T=some (.map e e'):=by
   unfold ZeA at hT;split at hT<;>first|exact ⟨_,_,by assumption⟩|simp at hT
  split at h
  ·split at h
   ·rename_i m _
    exact ZeM (λ d w=>by cases m<;>simp [Op.equalIn,run_underlying hT]) op ox oy h rfl rfl (λ w=>by cases op<;>rfl)
   ·exact h.elim
  ·exact h.elim
 ·rename_i hT
  obtain ⟨e,e',e'',hT⟩:∃ e e' e'',P.underlying T=some (.func e e' e''):=by
   unfold ZeA at hT;split at hT<;>first|exact ⟨_,_,_,by assumption⟩|simp at hT
  split at h
  ·split at h
   ·exact ZeM (λ d w=>by simp [Op.equalIn,run_underlying hT]) op ox oy h rfl rfl (λ w=>by cases op<;>rfl)
   ·exact ZeM (λ d w=>by simp [Op.equalIn,run_underlying hT]) op ox oy h rfl rfl (λ w=>by cases op<;>rfl)
   ·exact h.elim
  ·exact h.elim
 ·exact h.elim
def Ze6 {α:Type} (P:Program):Sem α->Option α
 | .pure a=>some a
 | .program k=>Ze6 P (k P)
 | .mark _ k=>Ze6 P k
 |_=>none
theorem Zfy {α:Type} {P:Program} {s:Sem α} {a:α} (h:Ze6 P s=some a) (w:World):s.run P w=.ok a w:=by
 induction s with
 |pure b=>simp only [Ze6,Option.some.injEq] at h;subst h;rfl
 |program k ih=>exact ih P h
 |mark m k ih=>exact ih h
 |_=>simp [Ze6] at h
def Ziy {α:Type} (P:Program):Sem α->Option (Obj × (Nat->Option α))
 | .program k=>Ziy P (k P)
 | .mark _ k=>Ziy P k
 | .new o k=>some (o,λ b=>Ze6 P (k b))
 |_=>none
theorem Zkx {α:Type} {P:Program} {s:Sem α} {o:Obj} {f:Nat->Option α} (h:Ziy P s=some (o,f)) (w:World) {a:α} (ha:f w.heap.size=some a):
  s.run P w=.ok a (w.alloc o):=by
 induction s with
 |program k ih=>exact ih P h
 |mark m k ih=>exact ih h
 |new o' k ih=>
  simp only [Ziy,Option.some.injEq,Prod.mk.injEq] at h;obtain ⟨rfl,rfl⟩:=h;exact Zfy ha _
 |_=>simp [Ziy] at h
def PR (P:Program) (s:Sem Next) (K:Value->Prop):Prop:=
 match Ze6 P s with
 |some (.value v)=>K v
 |_=>False
def Zi5 (P:Program) (t:TypeId):Nat:=match P.info? t with|some i=>i.size|none=>0
def Zb (p:Option Addr) (K:Addr->Prop):Prop:=match p with|some a=>K a|none=>False
theorem Zb.mk {p:Option Addr} {a:Addr} {K:Addr->Prop} (hp:p=some a) (h:K a):Zb p K:=by subst hp;exact h
def Zug (x:Value) (K:Value->Prop):Prop:=
 match x with
 | .pointer p=>Zb p λ a=>K (.pointer (some a))
 | .func (.func f) first captured=>K (.func (.func f) first captured)
 | .iface t v=>K (.iface t v)
 |_=>False
def Zah (i n:Nat):Nat:=match n with|1=>i|n=>i * n
theorem Zf8 (i n:Nat):Zah i n=i * n:=by unfold Zah;split<;>simp
def Rng (i:Int) (n:Nat) (A:Prop):Prop:=match decide (0<=i/\i<(n:Int)) with|true=>A|false=>False
theorem Rng.mk {i:Int} {n:Nat} {A:Prop} (h0:0<=i) (h1:i<(n:Int)) (h:A):Rng i n A:=by unfold Rng;rw [decide_eq_true ⟨h0,h1⟩];exact h
theorem Rng.out {i:Int} {n:Nat} {A:Prop} (h:Rng i n A):0<=i/\i<(n:Int)/\A:=by
 unfold Rng at h;split at h
 ·rename_i hb;have:=of_decide_eq_true hb;exact ⟨this.1,this.2,h⟩
 ·exact h.elim
theorem Zb.out {p:Option Addr} {K:Addr->Prop} (h:Zb p K):∃ a,p=some a/\K a:=by
 unfold Zb at h;split at h
 ·exact ⟨_,rfl,h⟩
 ·exact h.elim
def idxA (base:Option Addr) (len:Nat) (i:Int) (size:Nat) (K:Value->Prop):Prop:=
 Rng i len (Zb base λ a=>K (.pointer (some (a.add (Zah i.toNat size)))))
def Zjy (P:Program) (T:TypeId) (x i:Value) (K:Value->Prop):Prop:=
 match i with
 | .int _ n=>match P.underlying T with
  |some (.slice e)=>(match x with| .slice a len _=>idxA a len n (Zi5 P e) K|_=>False)
  |some (.array len e)=>(match x with| .pointer p=>idxA p len n (Zi5 P e) K|_=>False)
  |_=>False
 |_=>False
def ZiF (P:Program) (t:TypeId):Bool:=match P.underlying t with|some (.struct _)|some (.array _ _)=>true|_=>false
def Zxf (P:Program) (T:TypeId) (x i:Value) (K:Value->Prop):Prop:=
 match i with
 | .int _ n=>match P.underlying T with
  |some .string=>(match x with| .string s=>∃ c:UInt8,0<=n/\s[n.toNat]? =some c/\K (.int .u8 c.toNat)|_=>False)
  |some (.array len e)=>(match x with
   | .agg cs=>Rng n len (match ZiF P e with
    |true=>K (.agg (cs.extract (Zah n.toNat (Zi5 P e)) (Zah n.toNat (Zi5 P e) + Zi5 P e)))
    |false=>(Zwl P e).ex λ v=>cs[Zah n.toNat (Zi5 P e)]? =some v/\K v)
   |_=>False)
  |_=>False
 |_=>False
def bnd (x:Option Value) (d y:Nat) (φ:Nat->Prop):Prop:=
 match x with
 |none=>φ d
 |some v=>match v with| .int _ i=>0<=i/\i<=(y:Int)/\φ i.toNat|_=>False
def ZcW (a:Option Addr) (l m size:Nat):Option Addr:=if m=l then a else a.map (·.add (l * size))
def ZoY (P:Program) (T:TypeId) (x:Value) (lo hi mx:Option Value) (K:Value->Prop):Prop:=
 match P.underlying T with
 |some .string=>(match x with
  | .string s=>(match mx with
   |some _=>False
   |none=>bnd hi s.size s.size λ h=>bnd lo 0 h λ l=>K (.string (s.extract l h)))
  |_=>False)
 |some (.slice e)=>(match x with
  | .slice a n c=>bnd mx c c λ m=>(match hi,mx with
   |none,some _=>False
   |_,_=>bnd hi n m λ h=>(match lo with
    |none=>K (.slice a h m)
    |some v=>bnd (some v) 0 h λ l=>K (.slice (ZcW a l m (Zi5 P e)) (h - l) (m - l))))
  |_=>False)
 |some (.array n e)=>(match x with
  | .pointer p=>∃ a:Addr,p=some a/\bnd mx n n λ m=>(match hi,mx with
   |none,some _=>False
   |_,_=>bnd hi n m λ h=>(match lo with
    |none=>K (.slice (some a) h m)
    |some v=>bnd (some v) 0 h λ l=>K (.slice (ZcW (some a) l m (Zi5 P e)) (h - l) (m - l))))
  |_=>False)
 |_=>False
def Zfz (P:Program) (op:Op):Nat:=
 match op with
 | .move _| .assign _| .pick _ _ _| .field _ _ _| .build _ _| .extract _ _| .makeFunc _ _ _| .makeInterface _ _| .unOp _ _ _=>1
 | .convert src dst _=>(match P.underlying dst with|some (.int _)=>(match P.underlying src with|some (.float _)=>0|_=>1)|_=>0)
 | .call c=>(match c.callee with
  | .builtin .len| .builtin .cap=>(match c.argTypes[0]? with
   |some t=>(match P.underlying t with|some (.map _ _)|some (.chan _ _)=>0|_=>1)
   |none=>0)
  | .builtin .min| .builtin .max=>1
  |_=>0)
 | .binOp _ T _ _ _=>(match ZeA P T with|0=>0|_=>2)
 | .nilCheck _=>3
 | .indexAddr _ _ _=>4
 | .index _ _ _=>5
 | .slice _ _ _ _ _=>6
 | .fieldAddr _ _ _=>7
 |_=>0
def ZmU (P:Program) (T:TypeId) (x:Value) (i:Nat) (K:Value->Prop):Prop:=
 match x with
 | .pointer p=>Zb p λ a=>PR P (do pure (.value (<-Instr.fieldAt T (.pointer (some a)) i))) K
 |_=>False
def Zpm (P:Program) (ρ:Env) (o:Oper) (K:Value->Prop):Prop:=
 match Zfz P o.op with
 |1=>PR P (execOp ρ.ev o) K
 |_=>match o.op with
  | .binOp op T x y _=>Zxs P op T (ρ.ev x) (ρ.ev y) K
  | .nilCheck x=>Zug (ρ.ev x) K
  | .indexAddr T x i=>Zjy P T (ρ.ev x) (ρ.ev i) K
  | .index T x i=>Zxf P T (ρ.ev x) (ρ.ev i) K
  | .slice T x lo hi mx=>ZoY P T (ρ.ev x) (lo.map ρ.ev) (hi.map ρ.ev) (mx.map ρ.ev) K
  | .fieldAddr T x i=>ZmU P T (ρ.ev x) i K
  |_=>False
def ZcX (P:Program) (S:World->Prop) (s:Sem Next) (K:Value->Prop):Prop:=∃ v,(∀ w,S w->s.run P w=.ok (.value v) w)/\K v
theorem Zg9 {P:Program} {t:TypeId} {i:TypeInfo} (h:P.info? t=some i) (w:World):(typeInfo t).run P w=.ok i w:=by
 simp [typeInfo,h]
theorem ZaG {P:Program} {s:Sem Value} {v:Value} {w w':World} (h:s.run P w=.ok v w'):(do pure (.value (<-s)):Sem Next).run P w=.ok (.value v) w':=by
 simp [h]
theorem Zmg {P:Program} {ρ:Operand->Value} {dst:Option Tmp} {ty:TypeId} {pos:String} {after:Array Edge} {guard:Option (Nat × Bool)} {x:Operand} {K:Value->Prop} (h:Zug (ρ x) K):
  ZcX P (λ _=>True) (execOp ρ ⟨dst,.nilCheck x,ty,pos,after,guard⟩) K:=by
 unfold Zug at h;split at h
 ·rename_i hx
  unfold Zb at h;split at h
  ·exact ⟨_,λ w _=>by simp only [execOp,hx];rfl,h⟩
  ·exact h.elim
 ·rename_i hx;exact ⟨_,λ w _=>by simp only [execOp,hx];rfl,h⟩
 ·rename_i hx;exact ⟨_,λ w _=>by simp only [execOp,hx];rfl,h⟩
 ·exact h.elim
section
variable {P:Program} {ρ:Operand->Value} {dst:Option Tmp} {ty:TypeId} {pos:String} {after:Array Edge} {guard:Option (Nat × Bool)} {K:Value->Prop}
theorem ZfF {P:Program} {t:TypeId} {d:TypeDesc} (h:P.underlying t=some d) (w:World):(isAgg t).run P w=.ok (ZiF P t) w:=by
 unfold ZiF;rw [h];simp only [isAgg,Sem.run_bind,run_underlying h,Result.andThen_ok];cases d<;>rfl
theorem ZbY {P:Program} {t:TypeId} {i:TypeInfo} (h:P.info? t=some i) (w:World):(sizeOf t).run P w=.ok (Zi5 P t) w:=by
 unfold Zi5;simp [sizeOf,Zg9 h,h]
def ZkP (P:Program) (T:TypeId):Bool:=
 match P.underlying T with
 |some (.slice e)|some (.array _ e)=>(P.info? e).isSome
 |_=>true
theorem Zh9 {T:TypeId} {x i:Operand} (hok:ZkP P T=true) (h:Zjy P T (ρ x) (ρ i) K):
  ZcX P (λ _=>True) (execOp ρ ⟨dst,.indexAddr T x i,ty,pos,after,guard⟩) K:=by
 unfold Zjy at h;unfold ZkP at hok;split at h
 case h_2=>exact h.elim
 rename_i k n hi;split at h
 ·rename_i e hT
  rw [hT] at hok;obtain ⟨ie,hie⟩:=Option.isSome_iff_exists.1 hok;split at h
  ·rename_i a len c hx
   obtain ⟨h0,h1,h⟩:=Rng.out h;obtain ⟨ad,rfl,h⟩:=Zb.out h;refine ⟨_,λ w _=>?_,h⟩;simp only [execOp,hx,hi];refine ZaG ?_;simp [Instr.indexAt,asIntOf,run_underlying hT,h0,h1,ZbY hie,Zf8]
  ·exact h.elim
 ·rename_i len e hT
  rw [hT] at hok;obtain ⟨ie,hie⟩:=Option.isSome_iff_exists.1 hok;split at h
  ·rename_i p hx
   obtain ⟨h0,h1,h⟩:=Rng.out h;obtain ⟨ad,rfl,h⟩:=Zb.out h;refine ⟨_,λ w _=>?_,h⟩;simp only [execOp,hx,hi];refine ZaG ?_;simp [Instr.indexAt,Instr.sureAddr,asIntOf,run_underlying hT,h0,h1,ZbY hie,Zf8]
  ·exact h.elim
 ·exact h.elim
def Zpo (P:Program) (T:TypeId):Bool:=
 match P.underlying T with
 |some (.slice e)|some (.array _ e)=>(P.info? e).isSome && (P.underlying e).isSome
 |_=>true
theorem Zoc {T:TypeId} {x i:Operand} (hok:Zpo P T=true) (h:Zxf P T (ρ x) (ρ i) K):
  ZcX P (λ _=>True) (execOp ρ ⟨dst,.index T x i,ty,pos,after,guard⟩) K:=by
 unfold Zxf at h;unfold Zpo at hok;split at h
 case h_2=>exact h.elim
 rename_i k n hi;split at h
 ·rename_i hT
  split at h
  ·rename_i s hx
   obtain ⟨c,h0,hc,h⟩:=h;refine ⟨_,λ w _=>?_,h⟩;simp only [execOp,hx,hi];refine ZaG ?_;simp [Instr.index,asIntOf,run_underlying hT,h0,hc]
  ·exact h.elim
 ·rename_i len e hT
  rw [hT] at hok;simp only [Bool.and_eq_true] at hok;obtain ⟨ie,hie⟩:=Option.isSome_iff_exists.1 hok.1;obtain ⟨de,hde⟩:=Option.isSome_iff_exists.1 hok.2;split at h
  ·rename_i cs hx
   obtain ⟨h0,h1,h⟩:=Rng.out h;split at h
   ·rename_i hag
    refine ⟨_,λ w _=>?_,h⟩;simp only [execOp,hx,hi];refine ZaG ?_;simp [Instr.index,asIntOf,run_underlying hT,h0,h1,ZbY hie,part,ZfF hde,hag,Zf8]
   ·rename_i hag
    obtain ⟨v,hv,h⟩:=Ty.ex_some h;refine ⟨_,λ w _=>?_,h⟩;simp only [execOp,hx,hi];refine ZaG ?_;rw [Zf8] at hv;simp [Instr.index,asIntOf,run_underlying hT,h0,h1,ZbY hie,part,ZfF hde,hag,hv]
  ·exact h.elim
 ·exact h.elim
theorem ZeP {v:Value} {d y:Nat} {φ:Nat->Prop} {code:BoundsCode} (h:bnd (some v) d y φ):∃ l,(∀ w,(Instr.sliceBound v y code).run P w=.ok l w)/\φ l:=by
 unfold bnd at h;split at h
 ·rename_i hh;cases hh
 ·rename_i hh
  cases hh;split at h
  ·obtain ⟨h0,h1,h⟩:=h
   exact ⟨_,λ w=>by simp [Instr.sliceBound,asIntOf,h0,h1],h⟩
  ·exact h.elim
theorem Zez {isS:Bool} {len cap:Nat} {lo hi mx:Option Value} {φ:Nat->Nat->Nat->Prop}
  (h:bnd mx cap cap λ m=>(match hi,mx with
   |none,some _=>False
   |_,_=>bnd hi len m λ h=>bnd lo 0 h λ l=>φ l h m)):
  ∃ l h m,(∀ w,(Instr.sliceBounds isS len cap lo hi mx).run P w=.ok (l,h,m) w)/\φ l h m:=by
 cases mx with
 |none=>
  cases hi with
  |none=>
   cases lo with
   |none=>exact ⟨0,len,cap,λ w=>by simp [Instr.sliceBounds],h⟩
   |some u=>
    obtain ⟨l,rl,h⟩:=ZeP (P:=P) (code:=.sliceB) (φ:=λ l=>φ l len cap) (d:=0) (y:=len) (v:=u) h;exact ⟨l,len,cap,λ w=>by simp [Instr.sliceBounds,rl],h⟩
  |some v=>
   obtain ⟨h',rh,h⟩:=ZeP (P:=P) (code:=if isS then .sliceAcap else .sliceAlen) (φ:=λ h=>bnd lo 0 h λ l=>φ l h cap) (d:=len) (y:=cap) (v:=v) h
   cases lo with
   |none=>exact ⟨0,h',cap,λ w=>by simp [Instr.sliceBounds,rh],h⟩
   |some u=>
    obtain ⟨l,rl,h⟩:=ZeP (P:=P) (code:=.sliceB) (φ:=λ l=>φ l h' cap) (d:=0) (y:=h') (v:=u) h;exact ⟨l,h',cap,λ w=>by simp [Instr.sliceBounds,rh,rl],h⟩
 |some x=>
  obtain ⟨m,rm,h⟩:=ZeP (P:=P) (code:=if isS then .slice3Acap else .slice3Alen) h
  cases hi with
  |none=>exact h.elim
  |some v=>
   obtain ⟨h',rh,h⟩:=ZeP (P:=P) (code:=.slice3B) (φ:=λ h=>bnd lo 0 h λ l=>φ l h m) (d:=len) (y:=m) (v:=v) h;cases lo with
   |none=>exact ⟨0,h',m,λ w=>by simp [Instr.sliceBounds,rm,rh],h⟩
   |some u=>
    obtain ⟨l,rl,h⟩:=ZeP (P:=P) (code:=.slice3C) (φ:=λ l=>φ l h' m) (d:=0) (y:=h') (v:=u) h;exact ⟨l,h',m,λ w=>by simp [Instr.sliceBounds,rm,rh,rl],h⟩
theorem Zdz (a:Option Addr) (m size:Nat):ZcW a 0 m size=a:=by
 unfold ZcW;split
 ·rfl
 ·cases a<;>simp [Addr.add]
theorem Zj5 {T:TypeId} {x:Operand} {lo hi mx:Option Operand} (hok:ZkP P T=true)
  (h:ZoY P T (ρ x) (lo.map ρ) (hi.map ρ) (mx.map ρ) K):
  ZcX P (λ _=>True) (execOp ρ ⟨dst,.slice T x lo hi mx,ty,pos,after,guard⟩) K:=by
 unfold ZoY at h;unfold ZkP at hok;split at h
 ·rename_i hT
  split at h
  ·rename_i s hx
   split at h
   ·exact h.elim
   ·rename_i hmx
    obtain ⟨l,h',m,hr,h⟩:=Zez (P:=P) (isS:=false) (len:=s.size) (cap:=s.size) (lo:=lo.map ρ) (hi:=hi.map ρ) (mx:=none) (φ:=λ l h _=>K (.string (s.extract l h))) (by
     revert h
     generalize hi.map ρ=hi';intro h;cases hi' with
     |none=>exact h
     |some v=>exact h)
    refine ⟨_,λ w _=>?_,h⟩;simp only [execOp,hx,hmx];refine ZaG ?_;simp [Instr.sliceAt,Instr.slice,run_underlying hT,hr]
  ·exact h.elim
 ·rename_i e hT
  rw [hT] at hok;obtain ⟨ie,hie⟩:=Option.isSome_iff_exists.1 hok;split at h
  ·rename_i a n c hx
   obtain ⟨l,h',m,hr,h⟩:=Zez (P:=P) (isS:=true) (len:=n) (cap:=c) (lo:=lo.map ρ) (hi:=hi.map ρ) (mx:=mx.map ρ) (φ:=λ l h m=>K (.slice (ZcW a l m (Zi5 P e)) (h - l) (m - l))) (by
    revert h
    generalize hi.map ρ=hi';generalize mx.map ρ=mx';generalize lo.map ρ=lo';intro h;cases lo' with
    |some v=>exact h
    |none=>
     cases mx' with
     |none=>cases hi' with
      |none=>simpa [bnd,Zdz] using h
      |some v=>simpa [bnd,Zdz] using h
     |some u=>cases hi' with
      |none=>simpa [bnd] using h
      |some v=>simpa [bnd,Zdz] using h)
   refine ⟨_,λ w _=>?_,h⟩;simp only [execOp,hx];refine ZaG ?_;simp [Instr.sliceAt,Instr.slice,run_underlying hT,hr,ZbY hie,ZcW]
  ·exact h.elim
 ·rename_i n e hT
  rw [hT] at hok;obtain ⟨ie,hie⟩:=Option.isSome_iff_exists.1 hok;split at h
  ·rename_i p hx
   obtain ⟨a,rfl,h⟩:=h;obtain ⟨l,h',m,hr,h⟩:=Zez (P:=P) (isS:=false) (len:=n) (cap:=n) (lo:=lo.map ρ) (hi:=hi.map ρ) (mx:=mx.map ρ) (φ:=λ l h m=>K (.slice (ZcW (some a) l m (Zi5 P e)) (h - l) (m - l))) (by
    revert h
    generalize hi.map ρ=hi';generalize mx.map ρ=mx';generalize lo.map ρ=lo';intro h;cases lo' with
    |some v=>exact h
    |none=>
     cases mx' with
     |none=>cases hi' with
      |none=>simpa [bnd,Zdz] using h
      |some v=>simpa [bnd,Zdz] using h
     |some u=>cases hi' with
      |none=>simpa [bnd] using h
      |some v=>simpa [bnd,Zdz] using h)
   refine ⟨_,λ w _=>?_,h⟩;simp only [execOp,hx];refine ZaG ?_;have hc:(if m=l then some a else some (a.add (l * Zi5 P e)))=ZcW (some a) l m (Zi5 P e):=by unfold ZcW;split<;>rfl
   have hc':some (if m=l then a else a.add (l * Zi5 P e))=ZcW (some a) l m (Zi5 P e):=by unfold ZcW;split<;>rfl
   simp [Instr.sliceAt,Instr.sureAddr,run_underlying hT,hr,ZbY hie,hc']
  ·exact h.elim
 ·exact h.elim
def Zsl (P:Program) (op:Op):Bool:=
 match op with
 | .indexAddr T _ _| .slice T _ _ _ _=>ZkP P T
 | .index T _ _=>Zpo P T
 |_=>true
theorem Zne {s:Sem Next} (h:PR P s K):ZcX P (λ _=>True) s K:=by
 unfold PR at h;split at h
 ·rename_i v hv;exact ⟨v,λ w _=>Zfy hv w,h⟩
 ·exact h.elim
theorem Ze7 {e:Env} {o:Oper} (hok:Zsl P o.op=true) (h:Zpm P e o K):ZcX P (λ _=>True) (execOp e.ev o) K:=by
 unfold Zpm at h;split at h
 ·exact Zne h
 ·obtain ⟨dst,op,ty,pos,after,guard⟩:=o
  cases op<;>simp only at h hok<;>first|exact h.elim|skip
  case binOp op T x y T'=>
   obtain ⟨v,hv,hK⟩:=ZoA h _ _;exact ⟨v,λ w _=>ZaG (hv w),hK⟩
  case nilCheck x=>exact Zmg h
  case indexAddr T x i=>exact Zh9 hok h
  case index T x i=>exact Zoc hok h
  case slice T x lo hi mx=>exact Zj5 hok h
  case fieldAddr T x i=>
   unfold ZmU at h;split at h
   ·rename_i p hx
    obtain ⟨a,rfl,h⟩:=Zb.out h;obtain ⟨v,hv,hK⟩:=Zne h;exact ⟨v,λ w _=>by simp only [execOp,hx];exact hv w trivial,hK⟩
   ·exact h.elim
end
def At (S:World->Prop) (p:Addr) (vs:List Value):Prop:=∀ w,S w->∀ i v,vs[i]? =some v->w.cell? (p.add i)=some v
def Zh8 (P:Program) (S:World->Prop) (T:TypeId) (x:Value) (K:Value->Prop):Prop:=
 match x with
 | .pointer q=>Zb q λ p=>(match ZiF P T with
   |true=>(match ZuH P 6 T with
    |some ts=>ZlT ts λ vs=>At S p vs/\K (.agg vs.toArray)
    |none=>∃ vs:List Value,vs.length=Zi5 P T/\At S p vs/\K (.agg vs.toArray))
   |false=>(Zwl P T).ex λ v=>At S p [v]/\K v)
 |_=>False
def Giv (P:Program) (S:World->Prop) (s:Sem Value) (t:Rt) (K:Value->Prop):Prop:=
 t.ex λ v=>(∀ w,S w->s.run P w=.ok v w)/\K v
def ZeK (P:Program) (op:Op):Nat:=
 match op with
 | .load _ _=>1
 | .lookup _ _ _ _=>2
 | .entry _=>2
 | .typeAssert _ _ _ _=>2
 | .binOp _ T _ _ _=>(match ZeA P T with|0=>2|_=>0)
 | .convert src dst _=>(match P.underlying dst with|some .string=>(match P.underlying src with|some (.slice _)=>2|some .string=>2|_=>0)|some (.int _)=>(match P.underlying src with|some (.float _)=>2|_=>0)|_=>0)
 | .call c=>(match c.callee with
  | .builtin .len=>(match c.argTypes[0]? with
   |some t=>(match P.underlying t with|some (.map _ _)=>2|_=>0)
   |none=>0)
  |_=>0)
 |_=>0
def ZoQ (ρ:Operand->Value) (o:Oper):Sem Value:=
 match o.op with
 | .lookup T x i ok=>Instr.lookup T (ρ x) (ρ i) ok
 | .entry it=>Instr.entry (ρ it)
 | .typeAssert x T T' ok=>Instr.typeAssert (ρ x) T T' ok
 | .binOp op T x y _=>(do eqGuard op T x y (ρ x) (ρ y);binOp op T (ρ x) (ρ y))
 | .convert src dst x=>convert src dst (ρ x)
 | .makeSlice T l c=>Instr.makeSlice T (ρ l) (ρ c)
 | .mapEntry T m k=>Instr.mapEntry T (ρ m) (ρ k)
 | .range T x=>Instr.range T (ρ x)
 | .next it isString=>Instr.next (ρ it) isString o.type
 | .call c=>(match c.callee with
  | .builtin .append=>Builtin.append_ c.argTypes o.type (c.args.map ρ)
  | .builtin .copy=>Builtin.copy_ c.argTypes o.type (c.args.map ρ)
  | .builtin .delete=>Builtin.delete_ c.argTypes o.type (c.args.map ρ)
  | .builtin .clear=>Builtin.clear_ c.argTypes o.type (c.args.map ρ)
  | .builtin .len=>Builtin.len_ c.argTypes o.type (c.args.map ρ)
  | _ => stuck "")
 | _ => stuck ""
def Zsk (op:Op):Bool:=
 match op with
 | .lookup _ _ _ _| .entry _| .typeAssert _ _ _ _| .binOp _ _ _ _ _| .convert _ _ _| .makeSlice _ _ _| .mapEntry _ _ _| .range _ _| .next _ _=>true
 | .call c=>(match c.callee with
  | .builtin .append| .builtin .copy| .builtin .delete| .builtin .clear| .builtin .len=>true
  |_=>false)
 |_=>false
theorem Zcz {P:Program} {ρ:Operand->Value} {o:Oper} (h:Zsk o.op=true) {v:Value} {w w':World} (hr:(ZoQ ρ o).run P w=.ok v w'):
  (execOp ρ o).run P w=.ok (.value v) w':=by
 obtain ⟨dst,op,ty,pos,after,guard⟩:=o;cases op<;>simp only [Zsk,Bool.false_eq_true] at h
 case call c=>
  obtain ⟨callee,args,ats⟩:=c;cases callee<;>simp only [Bool.false_eq_true] at h
  case builtin b=>
   cases b<;>simp only [Bool.false_eq_true] at h<;>exact ZaG (s:=_) hr
 all_goals exact ZaG (s:=_) hr
def Zpe (P:Program) (S:World->Prop) (ρ:Env) (o:Oper) (K:Value->Prop):Prop:=
 match ZeK P o.op with
 |1=>(match o.op with| .load T x=>Zh8 P S T (ρ.ev x) K|_=>False)
 |_=>Giv P S (ZoQ ρ.ev o) (Zuj P o.type) K
theorem ZkM:∀ {ts:List Ty} {φ:List Value->Prop},ZlT ts φ->∃ vs,vs.length=ts.length/\φ vs
 |[],_,h=>⟨[],rfl,h⟩
 |_::_,_,h=>let ⟨v,h⟩:=Ty.ex_some h;let ⟨vs,hl,h⟩:=ZkM h;⟨v::vs,by simp [hl],h⟩
def ZmR (P:Program) (T:TypeId):Bool:=
 (P.info? T).isSome && (P.underlying T).isSome && (match ZiF P T with
 |true=>(match ZuH P 6 T with
  |some ts=>Nat.beq ts.length (Zi5 P T)
  |none=>true)
 |false=>true)
theorem Zjv {P:Program} {p:Addr} {vs:List Value} {w:World} (h:∀ i v,vs[i]? =some v->w.cell? (p.add i)=some v):
  (loadCells p vs.length).run P w=.ok vs.toArray w:=by
 have:=run_loadCells_list (P:=P) (w:=w) p vs h;simpa using this
theorem Zhu {P:Program} {S:World->Prop} {ρ:Operand->Value} {dst:Option Tmp} {ty:TypeId} {pos:String} {after:Array Edge} {guard:Option (Nat × Bool)} {K:Value->Prop}
  {T:TypeId} {x:Operand} (hok:ZmR P T=true) (h:Zh8 P S T (ρ x) K):ZcX P S (execOp ρ ⟨dst,.load T x,ty,pos,after,guard⟩) K:=by
 unfold Zh8 at h;unfold ZmR at hok;simp only [Bool.and_eq_true] at hok;obtain ⟨⟨hinfo,hund⟩,hok⟩:=hok;obtain ⟨d,hd⟩:=Option.isSome_iff_exists.1 hund;obtain ⟨i,hi⟩:=Option.isSome_iff_exists.1 hinfo;split at h
 case h_2=>exact h.elim
 rename_i q hx;unfold Zb at h;split at h
 case h_2=>exact h.elim
 rename_i p;split at h
 ·rename_i hag
  have key:∀ vs:List Value,vs.length=Zi5 P T->At S p vs->K (.agg vs.toArray)->ZcX P S (execOp ρ ⟨dst,.load T x,ty,pos,after,guard⟩) K:=λ vs hl hat hK=>by
   refine ⟨_,λ w hw=>?_,hK⟩;simp only [execOp,hx];refine ZaG ?_;simp only [Instr.loadAt,Instr.sureAddr,loadVar,Sem.run_bind,Sem.run_pure,Result.andThen_ok,ZfF hd,hag,if_true,ZbY hi,<-hl,Zjv (hat w hw)]
  split at h
  ·rename_i ts hts
   rw [hag] at hok;simp only [hts] at hok;obtain ⟨vs,hl,hat,hK⟩:=ZkM h;exact key vs (by rw [hl];exact Nat.eq_of_beq_eq_true hok) hat hK
  ·obtain ⟨vs,hl,hat,hK⟩:=h
   exact key vs hl hat hK
 ·rename_i hag
  obtain ⟨v,hat,hK⟩:=Ty.ex_some h;refine ⟨_,λ w hw=>?_,hK⟩;have hc:w.cell? p=some v:=by have:=hat w hw 0 v rfl;simpa [Addr.add] using this
  simp only [execOp,hx];refine ZaG ?_;simp [Instr.loadAt,Instr.sureAddr,loadVar,ZfF hd,hag,hc]
def ZuF (P:Program) (op:Op):Bool:=match op with| .load T _=>ZmR P T|_=>true
theorem Ze4 {P:Program} {S:World->Prop} {e:Env} {o:Oper} {K:Value->Prop} (hk:ZeK P o.op≠0)
  (hok:ZuF P o.op=true) (h:Zpe P S e o K):ZcX P S (execOp e.ev o) K:=by
 unfold Zpe at h;split at h
 ·rename_i hk1
  obtain ⟨dst,op,ty,pos,after,guard⟩:=o;cases op<;>simp only at h hok<;>first|exact h.elim|skip
  exact Zhu hok h
 ·rename_i hk1
  obtain ⟨v,hv,hK⟩:=Rt.ex_some h;refine ⟨v,λ w hw=>Zcz ?_ (hv w hw),hK⟩;obtain ⟨dst,op,ty,pos,after,guard⟩:=o;cases op<;>simp only [ZeK,ne_eq,not_true_eq_false] at hk hk1<;>first|rfl|exact (hk1 trivial).elim|skip
  case call c=>
   obtain ⟨callee,args,ats⟩:=c;cases callee<;>simp only [not_true_eq_false] at hk
   case builtin b=>cases b<;>simp only [not_true_eq_false] at hk<;>rfl
def New (o:Obj) (K:Nat->World->Prop) (w:World):Prop:=K w.heap.size (w.alloc o)
def newF (P:Program) (s:Sem Next) (K:Value->World->Prop) (w:World):Prop:=
 match Ziy P s with
 |some (o,f)=>New o (λ b w=>match f b with|some (.value v)=>K v w|_=>False) w
 |none=>False
def Zxt (P:Program) (s:Sem Value) (t:Rt) (K:Value->World->Prop) (w:World):Prop:=∃ w',t.ex λ v=>s.run P w=.ok v w'/\K v w'
def Zxu (P:Program) (s:Sem Unit) (K:World->Prop) (w:World):Prop:=∃ w',s.run P w=.ok () w'/\K w'
def Zuh (p:Option Addr) (A:Int->Int->World->Prop) (B:World->Prop) (w:World):Prop:=
 ∃ r s pos,p=some ⟨r,0,none⟩/\w.heap[r]? =some (.stringIter s pos)/\
  (pos<s.size->A (pos:Int) ((Utf8.decode s pos).1:Int) { w with heap:=w.heap.setIfInBounds r (.stringIter s (pos + (Utf8.decode s pos).2)) })/\(¬ pos<s.size->B w)
def Zpg (P:Program) (T:TypeId) (x:Value) (K:Value->World->Prop) (w:World):Prop:=
 match P.underlying T with
 |some .string=>(match x with| .string s=>New (.stringIter s 0) (λ b w=>K (.pointer (some ⟨b,0,none⟩)) w) w|_=>False)
 |some (.map _ _)=>Zxt P (Instr.range T x) (.val (.one .ptr)) K w
 |_=>False
def Zwi (P:Program) (s:Sem Value) (K:Value->World->Prop) (w:World):Prop:=
 ∃ w',(s.run P w=.ok (.tuple #[.bool false]) w'/\K (.tuple #[.bool false]) w')\/
  (∃ k v,s.run P w=.ok (.tuple #[.bool true,k,v]) w'/\K (.tuple #[.bool true,k,v]) w')
theorem Zmh {P:Program} {s:Sem Value} {K:Value->World->Prop} {w:World} (h:Zwi P s K w):∃ v w',s.run P w=.ok v w'/\K v w':=by
 obtain ⟨w',h|⟨k,v,h⟩⟩:=h
 ·exact ⟨_,w',h.1,h.2⟩
 ·exact ⟨_,w',h.1,h.2⟩
def ZsF (x:Value) (K:Value->World->Prop) (w:World):Prop:=
 match x with
 | .pointer p=>Zuh p (λ i c w=>K (.tuple #[.bool true,.int .i64 i,.int .i32 c]) w) (λ w=>K (.tuple #[.bool false]) w) w
 |_=>False
theorem Zkj {P:Program} {T:TypeId} {x:Value} {K:Value->World->Prop} {w:World} (h:Zpg P T x K w):∃ v w',(Instr.range T x).run P w=.ok v w'/\K v w':=by
 unfold Zpg at h;split at h
 case h_3=>exact h.elim
 case h_2=>
  obtain ⟨w',h⟩:=h;obtain ⟨v,h⟩:=Rt.ex_some h;exact ⟨v,w',h⟩
 rename_i hT;split at h
 case h_2=>exact h.elim
 rename_i s;refine ⟨_,_,?_,h⟩;simp [Instr.range,run_underlying hT]
theorem ZlF {P:Program} {T:TypeId} {x:Value} {K:Value->World->Prop} {w:World} (h:ZsF x K w):∃ v w',(Instr.next x true T).run P w=.ok v w'/\K v w':=by
 unfold ZsF at h;split at h
 case h_2=>exact h.elim
 obtain ⟨r,s,pos,rfl,hk,hA,hB⟩:=h;by_cases hp:pos<s.size
 ·refine ⟨_,_,?_,hA hp⟩
  simp only [Instr.next,getObj,setObj,Sem.run_bind,Sem.run,hk,Result.andThen,hp,if_true];simp [goInt]
 ·refine ⟨_,_,?_,hB hp⟩
  simp [Instr.next,getObj,Sem.run,hk,hp]
def Ext (P:Program) (g:FuncId) (args:Array Value) (w:World) (Q:Ending->World->Prop):Prop:=∃ v w',(callFunc g args).run P w=.ok (.value v) w'/\Q (.returned v) w'
def Zcm (P:Program) (cl:FuncId->Bool) (f:Value) (args:List Value) (w:World) (Q:Ending->World->Prop):Prop:=
 match f with
 | .func fn first captured=>(match fn with
  | .func g=>(match cl g with
   |true=>Calls P g (first.toList++(args++captured.toList)).toArray w Q
   |false=>Ext P g (first.toList++(args++captured.toList)).toArray w Q)
  |_=>False)
 |_=>False
theorem Zcm.mono {P:Program} {cl:FuncId->Bool} {f:Value} {args:List Value} {w:World} {Q Q':Ending->World->Prop} (h:Zcm P cl f args w Q) (hq:∀ e w,Q e w->Q' e w):Zcm P cl f args w Q':=by
 unfold Zcm at *;split at h
 ·split at h
  ·split at h
   ·exact Calls.mono h hq
   ·obtain ⟨v,w',h1,h2⟩:=h;exact ⟨v,w',h1,hq _ _ h2⟩
  ·exact h.elim
 ·exact h.elim
def calV (P:Program) (cl:FuncId->Bool) (f:Value) (args:Array Value) (t:Rt) (K:Value->World->Prop) (w:World):Prop:=
 Zcm P cl f args.toList w λ e w'=>t.ex λ v=>e=.returned v/\K v w'
def rawF (P:Program) (s:Sem Next) (K:Value->World->Prop) (w:World):Prop:=
 match s.run P w with
 | .ok (.value v) w'=>K v w'
 | .ok .skip w'=>K undef w'
 |_=>False
def ZjD (op:Op):Nat:=
 match op with
 | .alloc _| .box _ _| .buildSlice _ _ _| .makeMap _ _=>1
 | .makeSlice _ _ _| .mapEntry _ _ _| .convert _ _ _=>2
 | .range _ _=>7
 | .next _ s=>(match s with|true=>8|false=>9)
 | .store _ _ _=>3
 | .mapUpdate _ _ _ _| .insert _ _ _ _=>4
 | .entryStore _ _ _ _=>5
 | .call c=>(match c.callee with
  | .builtin .append| .builtin .copy| .builtin .delete| .builtin .clear=>2
  | .value _=>6
  |_=>0)
 |_=>0
def Zxg (P:Program) (op:Op):Bool:=
 match op with
 | .buildSlice t len _=>(match Nat.beq len 1 with
  |true=>(match P.underlying t with
   |some (.slice e)=>(match P.underlying e with
    |some (.func _ _ _)=>true
    |_=>false)
   |_=>false)
  |false=>false)
 |_=>false
def Zwv (P:Program) (cl:FuncId->Bool) (ρ:Env) (o:Oper) (K:Value->World->Prop) (w:World):Prop:=
 match ZjD o.op with
 |1=>(match Zxg P o.op with
  |true=>(match o.op with| .buildSlice t len parts=>Zxt P (Instr.buildSlice t len (parts.map λ (i,x)=>(i,ρ.ev x))) (Zuj P o.type) K w|_=>False)
  |false=>newF P (execOp ρ.ev o) K w)
 |2=>Zxt P (ZoQ ρ.ev o) (Zuj P o.type) K w
 |3=>(match o.op with| .store T a x=>Zxu P (Instr.storeAt T (ρ.ev a) (ρ.ev x)) (K undef) w|_=>False)
 |4=>(match o.op with| .mapUpdate T m k x| .insert T m k x=>Zxu P (Instr.mapUpdate T (ρ.ev m) (ρ.ev k) (ρ.ev x)) (K undef) w|_=>False)
 |5=>(match o.op with| .entryStore T m s x=>Zxu P (Instr.entryStore T (ρ.ev m) (ρ.ev s) (ρ.ev x)) (K undef) w|_=>False)
 |6=>(match o.op with| .call c=>(match c.callee with| .value f=>calV P cl (ρ.ev f) (c.args.map ρ.ev) (Zuj P o.type) K w|_=>False)|_=>False)
 |7=>(match o.op with| .range T x=>Zpg P T (ρ.ev x) K w|_=>False)
 |8=>(match o.op with| .next it _=>ZsF (ρ.ev it) K w|_=>False)
 |9=>(match o.op with| .next it _=>Zwi P (Instr.next (ρ.ev it) false o.type) K w|_=>False)
 |_=>rawF P (execOp ρ.ev o) K w
def ZG (P:Program) (g:FuncId):Bool:=
 match P.funcs[g]? with
 | some fn => fn.body.isSome && !(fn.name == "runtime.NumGoroutine")
 |none=>false
theorem Zdb {P:Program} {g:FuncId} (h:ZG P g=true) (args:Array Value) (w:World):(callFunc g args).run P w=.ok (.enter g args) w:=by
 unfold ZG at h;split at h
 ·rename_i fn hf
  simp only [Bool.and_eq_true,Bool.not_eq_true'] at h;have hb:fn.body.isNone=false:=by cases hb:fn.body<;>simp_all
  simp only [callFunc,Sem.run_bind,run_program,Result.andThen_ok,hf,h.2,hb,Bool.false_eq_true,if_false];rfl
 ·simp at h
abbrev Zmj (a:Act) (d:Option Tmp) (K:Value->World->Prop):Act->World->Prop:=λ a' w'=>∃ v,a'=a.put d v/\K v w'
theorem ZiN {P:Program} {cl:FuncId->Bool} (hcl:∀ g,cl g=true->ZG P g=true) {a:Act} {e:Env} {o:Oper} {K:Value->World->Prop} {w:World}
  {Q:Exit->Act->World->Prop} (h:Zwv P cl e o K w):o.upon P a (Zmj a o.dst K) Q ((execOp e.ev o).run P w):=by
 unfold Zwv at h;split at h
 ·split at h
  ·clear hcl
   obtain ⟨dst,op,ty,pos,after,guard⟩:=o;cases op<;>simp only at h<;>first|exact h.elim|skip
   rename_i t len parts _ _;obtain ⟨w',h⟩:=h;obtain ⟨v,hr,hK⟩:=Rt.ex_some h;have:(execOp e.ev ⟨dst,.buildSlice t len parts,ty,pos,after,guard⟩).run P w=.ok (.value v) w':=by
    simp only [execOp];simp [hr]
   rw [this];exact ⟨v,rfl,hK⟩
  unfold newF at h;split at h
  ·rename_i ob f hn
   unfold New at h;dsimp only at h;split at h
   ·rename_i v hv
    rw [Zkx hn w hv];exact ⟨v,rfl,h⟩
   ·exact h.elim
  ·exact h.elim
 ·rename_i hk
  obtain ⟨w',h⟩:=h;obtain ⟨v,hr,hK⟩:=Rt.ex_some h;have hv:Zsk o.op=true:=by
   obtain ⟨dst,op,ty,pos,after,guard⟩:=o;cases op<;>simp [ZjD] at hk<;>first|rfl|skip
   case call c=>
    obtain ⟨callee,args,ats⟩:=c;cases callee<;>simp at hk
    case builtin b=>cases b<;>simp at hk<;>rfl
  rw [Zcz hv hr];exact ⟨v,rfl,hK⟩
 ·rename_i hk
  clear hk;obtain ⟨dst,op,ty,pos,after,guard⟩:=o;cases op<;>simp only at h<;>first|exact h.elim|skip
  rename_i T a' x;obtain ⟨w',hr,hK⟩:=h;have:(execOp e.ev ⟨dst,.store T a' x,ty,pos,after,guard⟩).run P w=.ok .skip w':=by simp only [execOp];simp [hr]
  rw [this];exact ⟨undef,rfl,hK⟩
 ·rename_i hk
  clear hk;obtain ⟨dst,op,ty,pos,after,guard⟩:=o;cases op<;>simp only at h<;>first|exact h.elim|skip
  case insert T m k x=>
   obtain ⟨w',hr,hK⟩:=h;have:(execOp e.ev ⟨dst,.insert T m k x,ty,pos,after,guard⟩).run P w=.ok .skip w':=by simp only [execOp];simp [hr]
   rw [this];exact ⟨undef,rfl,hK⟩
  case mapUpdate T m k x=>
   obtain ⟨w',hr,hK⟩:=h;have:(execOp e.ev ⟨dst,.mapUpdate T m k x,ty,pos,after,guard⟩).run P w=.ok .skip w':=by simp only [execOp];simp [hr]
   rw [this];exact ⟨undef,rfl,hK⟩
 ·rename_i hk
  clear hk;obtain ⟨dst,op,ty,pos,after,guard⟩:=o;cases op<;>simp only at h<;>first|exact h.elim|skip
  rename_i T m s x;obtain ⟨w',hr,hK⟩:=h;have:(execOp e.ev ⟨dst,.entryStore T m s x,ty,pos,after,guard⟩).run P w=.ok .skip w':=by simp only [execOp];simp [hr]
  rw [this];exact ⟨undef,rfl,hK⟩
 ·rename_i hk
  clear hk;obtain ⟨dst,op,ty,pos,after,guard⟩:=o;cases op<;>simp only at h<;>first|exact h.elim|skip
  case call c=>
   obtain ⟨callee,args,ats⟩:=c;cases callee<;>simp only at h<;>first|exact h.elim|skip
   case value f=>
    unfold calV Zcm at h;split at h
    case h_2=>exact h.elim
    rename_i fn first captured hf
    split at h
    case h_2=>exact h.elim
    rename_i g;have hargs:(first++args.map e.ev)++captured=(first.toList++((args.map e.ev).toList++captured.toList)).toArray:=by
     apply Array.ext';simp
    split at h
    case h_2=>
     obtain ⟨v',w',hr,hx⟩:=h;have:(execOp e.ev ⟨dst,.call ⟨.value f,args,ats⟩,ty,pos,after,guard⟩).run P w=.ok (.value v') w':=by
      simp only [execOp,resolve,hf,Deferred.ofValue];simp only [Sem.run_bind,Sem.run_pure,Result.andThen_ok,invoke,<-hargs] at hr ⊢;exact hr
     rw [this];obtain ⟨v,hv,hK⟩:=Rt.ex_some hx;cases hv;exact ⟨_,rfl,hK⟩
    rename_i hg;have:(execOp e.ev ⟨dst,.call ⟨.value f,args,ats⟩,ty,pos,after,guard⟩).run P w=.ok (.enter g (first.toList++((args.map e.ev).toList++captured.toList)).toArray) w:=by
     simp only [execOp,resolve,hf,Deferred.ofValue];simp only [Sem.run_bind,Sem.run_pure,Result.andThen_ok,invoke,<-hargs];exact Zdb (hcl g hg) _ w
    rw [this];refine Calls.mono h ?_;intro en w' hx;obtain ⟨v,rfl,hK⟩:=Rt.ex_some hx;exact ⟨v,rfl,hK⟩
 ·rename_i hk
  clear hk;obtain ⟨dst,op,ty,pos,after,guard⟩:=o;cases op<;>simp only at h<;>first|exact h.elim|skip
  obtain ⟨v,w',hr,hK⟩:=Zkj h;rw [Zcz (o:=⟨dst,_,ty,pos,after,guard⟩) rfl hr];exact ⟨v,rfl,hK⟩
 ·rename_i hk
  obtain ⟨dst,op,ty,pos,after,guard⟩:=o;cases op<;>simp only at h<;>first|exact h.elim|skip
  rename_i it b;cases b
  ·simp [ZjD] at hk
  obtain ⟨v,w',hr,hK⟩:=ZlF (T:=ty) h;rw [Zcz (o:=⟨dst,.next it true,ty,pos,after,guard⟩) rfl hr];exact ⟨v,rfl,hK⟩
 ·rename_i hk
  obtain ⟨dst,op,ty,pos,after,guard⟩:=o;cases op<;>simp only at h<;>first|exact h.elim|skip
  rename_i it b;cases b
  rotate_left
  ·simp [ZjD] at hk
  obtain ⟨v,w',hr,hK⟩:=Zmh h;rw [Zcz (o:=⟨dst,.next it false,ty,pos,after,guard⟩) rfl hr];exact ⟨v,rfl,hK⟩
 ·unfold rawF at h
  split at h
  ·rename_i hr;rw [hr];exact ⟨_,rfl,h⟩
  ·rename_i hr;rw [hr];exact ⟨undef,rfl,h⟩
  ·exact h.elim
def opF (P:Program) (cl:FuncId->Bool) (ρ:Env) (o:Oper) (K:Value->World->Prop) (w:World):Prop:=
 match Zfz P o.op with
 |0=>(match ZeK P o.op with
  |0=>Zwv P cl ρ o K w
  |_=>Zpe P (λ w'=>w'=w) ρ o (λ v=>K v w))
 |_=>Zpm P ρ o (λ v=>K v w)
def Zgr (P:Program) (op:Op):Bool:=
 match op with
 | .load T _=>ZmR P T
 |op=>Zsl P op
theorem ZcX.upon {P:Program} {S:World->Prop} {e:Env} {o:Oper} {K:Value->World->Prop} {a:Act} {w:World} {Q:Exit->Act->World->Prop}
  (hS:S w) (h:ZcX P S (execOp e.ev o) (λ v=>K v w)):o.upon P a (Zmj a o.dst K) Q ((execOp e.ev o).run P w):=by
 obtain ⟨v,hv,hK⟩:=h;rw [hv w hS];exact ⟨v,rfl,hK⟩
theorem Zjq {P:Program} {op:Op} (h:Zgr P op=true):Zsl P op=true:=by
 cases op<;>first|exact h|rfl
theorem ZlC {P:Program} {op:Op} (h:Zgr P op=true):ZuF P op=true:=by
 cases op<;>first|exact h|rfl
theorem Zcg {P:Program} {cl:FuncId->Bool} (hcl:∀ g,cl g=true->ZG P g=true) {a:Act} {e:Env} {o:Oper} {K:Value->World->Prop} {w:World}
  {Q:Exit->Act->World->Prop} (hok:Zgr P o.op=true) (h:opF P cl e o K w):o.upon P a (Zmj a o.dst K) Q ((execOp e.ev o).run P w):=by
 unfold opF at h;split at h
 ·split at h
  ·exact ZiN hcl h
  ·rename_i hk
   exact ZcX.upon (S:=λ w'=>w'=w) rfl (Ze4 hk (ZlC hok) h)
 ·exact ZcX.upon (S:=λ _=>True) trivial (Ze7 (Zjq hok) h)
section
section
variable {P:Program} {ops:Array Oper} {Q:Exit->Act->World->Prop} {md:Region.Mode} {S:World->Prop} {need look:Nat->Bool}
def wpT (P:Program) (md:Region.Mode) (ops:Array Oper) (Q:Exit->Act->World->Prop) (S:World->Prop) (need look:Nat->Bool):Nat->Array Bool->Act->World->Prop
 |0,listed,a,w=>Region.ready md ops listed=[]/\Q .normal a w
 |fuel + 1,listed,a,w=>
  (Region.ready md ops listed=[]->Q .normal a w)/\
  ∀ i∈Region.ready md ops listed,wpOp P ops Q i (λ a' w'=>((need i=true->S w')/\(look i=true->w'=w))/\wpT P md ops Q S need look fuel (listed.setIfInBounds i true) a' w') a w
theorem ZgR:∀ (fuel:Nat) (listed:Array Bool) (a:Act) (w:World),wpT P md ops Q S need look fuel listed a w->wpAny P md ops Q fuel listed a w
 |0,_,_,_,h=>h
 |fuel + 1,_,_,_,h=>⟨h.1,λ i hi=>wpOp_mono (λ a' w' h'=>ZgR fuel _ a' w' h'.2) (h.2 i hi)⟩
theorem Zax {T:World->Prop} {i:Nat} {oi:Oper} {v:Value} (hi:ops[i]? =some oi) (hsel:∀ (j:Nat) (o:Oper) cs b,ops[j]? =some o->o.op≠.select cs b)
  (hQ:∀ c a w,Q (.panic c) (a.put oi.dst v) w->Q (.panic c) a w) (hni:need i=false):
  ∀ (fuel:Nat) (listed:Array Bool) (a:Act) (w:World),
   (∀ j oj,ops[j]? =some oj->j≠i->listed.getD j true=false->(∀ e∈oj.after,Region.binds md e=true->e.on≠i)->
    oi.apart ops oj=true/\∀ w w',T w->(need j=true->S w')->(look j=true->w'=w)->T w')->
   i∈Region.ready md ops listed->YieldsIf P ops T oi v a->T w->
   wpT P md ops Q S need look fuel (listed.setIfInBounds i true) (a.put oi.dst v) w->wpT P md ops Q S need look (fuel + 1) listed a w:=by
 intro fuel
 induction fuel with
 |zero=>
  intro listed a w hfree hr hy hT H;refine ⟨λ h=>(by rw [h] at hr;cases hr),λ j hj=>?_⟩;by_cases hji:j=i
  ·subst hji
   exact hy.wpOp hi hT ⟨⟨λ h=>(by rw [hni] at h;cases h),λ _=>rfl⟩,H⟩
  ·have:=ready_mono hj hji
   rw [H.1] at this;cases this
 |succ fuel ih=>
  intro listed a w hfree hr hy hT H;refine ⟨λ h=>(by rw [h] at hr;cases hr),λ j hj=>?_⟩;by_cases hji:j=i
  ·subst hji
   exact hy.wpOp hi hT ⟨⟨λ h=>(by rw [hni] at h;cases h),λ _=>rfl⟩,H⟩
  ·have h1:=H.2 j (ready_mono hj hji)
   obtain ⟨hjun,oj,hoj,hall⟩:=mem_ready.1 hj;have hnot:∀ e∈oj.after,Region.binds md e=true->e.on≠i:=λ e he hb heq=>by
    have h1:=hall e he hb;have h0:=(mem_ready.1 hr).1;rw [heq] at h1;rcases Nat.lt_or_ge i listed.size with h'|h'
    ·simp [h'] at h0 h1;rw [h0] at h1;cases h1
    ·simp [Array.getElem?_eq_none h'] at h1
   obtain ⟨hap,hkeep⟩:=hfree j oj hoj hji hjun hnot;have h2:=wpOp_putIf hoj hap (λ cs b=>hsel i oi cs b hi) (λ cs b=>hsel j oj cs b hoj) hQ hy h1;refine wpOp_mono (λ a' w' h3=>⟨h3.2.1,ih (listed.setIfInBounds j true) a' w' ?_ (ready_mono hr (Ne.symm hji)) h3.1 (hkeep w w' hT h3.2.1.1 h3.2.1.2) ?_⟩) h2
   ·intro k ok hk hki hun hno
    refine hfree k ok hk hki ?_ hno;by_cases hjk:j=k
    ·subst hjk;exact hjun
    ·rw [getD_set_ne true hjk] at hun;exact hun
   ·rw [Array.setIfInBounds_comm _ _ hji]
    exact h3.2.2
theorem ZeD {T:World->Prop} {D:Nat->Bool} {i:Nat} {oi:Oper} {v:Value} (hi:ops[i]? =some oi) (hsel:∀ (j:Nat) (o:Oper) cs b,ops[j]? =some o->o.op≠.select cs b)
  (hQ:∀ c a w,Q (.panic c) (a.put oi.dst v) w->Q (.panic c) a w) (hni:need i=false)
  (hD:∀ j oj,D j=true->j≠i->ops[j]? =some oj->∃ e∈oj.after,Region.binds md e=true/\D e.on=true):
  ∀ (fuel:Nat) (listed:Array Bool) (a:Act) (w:World),
   (∀ j oj,ops[j]? =some oj->j≠i->listed.getD j true=false->D j=false->(∀ e∈oj.after,Region.binds md e=true->e.on≠i)->
    oi.apart ops oj=true/\∀ w w',T w->(need j=true->S w')->(look j=true->w'=w)->T w')->
   (∀ j,D j=true->listed.getD j true=false)->i∈Region.ready md ops listed->YieldsIf P ops T oi v a->T w->
   wpT P md ops Q S need look fuel (listed.setIfInBounds i true) (a.put oi.dst v) w->wpT P md ops Q S need look (fuel + 1) listed a w:=by
 intro fuel
 induction fuel with
 |zero=>
  intro listed a w hfree hun hr hy hT H;refine ⟨λ h=>(by rw [h] at hr;cases hr),λ j hj=>?_⟩;by_cases hji:j=i
  ·subst hji
   exact hy.wpOp hi hT ⟨⟨λ h=>(by rw [hni] at h;cases h),λ _=>rfl⟩,H⟩
  ·have:=ready_mono hj hji
   rw [H.1] at this;cases this
 |succ fuel ih=>
  intro listed a w hfree hun hr hy hT H;refine ⟨λ h=>(by rw [h] at hr;cases hr),λ j hj=>?_⟩;by_cases hji:j=i
  ·subst hji
   exact hy.wpOp hi hT ⟨⟨λ h=>(by rw [hni] at h;cases h),λ _=>rfl⟩,H⟩
  ·have h1:=H.2 j (ready_mono hj hji)
   obtain ⟨hjun,oj,hoj,hall⟩:=mem_ready.1 hj;have hnot:∀ e∈oj.after,Region.binds md e=true->e.on≠i:=λ e he hb heq=>by
    have h1:=hall e he hb;have h0:=(mem_ready.1 hr).1;rw [heq] at h1;rcases Nat.lt_or_ge i listed.size with h'|h'
    ·simp [h'] at h0 h1;rw [h0] at h1;cases h1
    ·simp [Array.getElem?_eq_none h'] at h1
   have hDj:D j=false:=by
    cases hd:D j with
    |false=>rfl
    |true=>
     obtain ⟨e,he,hb,hde⟩:=hD j oj hd hji hoj;have h1:=hall e he hb;have h0:=hun e.on hde;rcases Nat.lt_or_ge e.on listed.size with h'|h'
     ·simp [h'] at h0 h1;rw [h0] at h1;cases h1
     ·simp [Array.getElem?_eq_none h'] at h1
   obtain ⟨hap,hkeep⟩:=hfree j oj hoj hji hjun hDj hnot;have h2:=wpOp_putIf hoj hap (λ cs b=>hsel i oi cs b hi) (λ cs b=>hsel j oj cs b hoj) hQ hy h1;refine wpOp_mono (λ a' w' h3=>⟨h3.2.1,ih (listed.setIfInBounds j true) a' w' ?_ ?_ (ready_mono hr (Ne.symm hji)) h3.1 (hkeep w w' hT h3.2.1.1 h3.2.1.2) ?_⟩) h2
   ·intro k ok hk hki hun hdk hno
    refine hfree k ok hk hki ?_ hdk hno;by_cases hjk:j=k
    ·subst hjk;exact hjun
    ·rw [getD_set_ne true hjk] at hun;exact hun
   ·intro k hdk
    have hjk:j≠k:=λ h=>by rw [h,hdk] at hDj;cases hDj
    rw [getD_set_ne true hjk];exact hun k hdk
   ·rw [Array.setIfInBounds_comm _ _ hji]
    exact h3.2.2
end
def ZcO (ops:Array Oper) (ρ:Env) (o:Oper) (run skip:Env->Prop):Prop:=
 match o.guard with
 |none=>run ρ
 |some (j,want)=>(match (ops[j]?).bind (·.dst) with
  |none=>skip ρ
  |some d=>(match ρ d with
   | .bool b=>(match want with
    |true=>Br b (run (ρ.set d (.bool true))) (skip (ρ.set d (.bool false)))
    |false=>Br b (skip (ρ.set d (.bool true))) (run (ρ.set d (.bool false))))
   |_=>skip ρ))
def Zp8 (d k:Nat):List Oper->Option TypeId
 |[]=>none
 |o::os=>match o.op with
  | .extract x j=>(match x with
   | .tmp t=>(match Nat.beq t d && Nat.beq j k with
    |true=>some o.type
    |false=>Zp8 d k os)
   |_=>Zp8 d k os)
  |_=>Zp8 d k os
def vtE (P:Program) (t:Option TypeId):Vt:=match t with|some t=>ZwA P t|none=>.one .any
def ZlN (op:Op):Bool:=match op with| .entry _=>true|_=>false
def Zws (P:Program) (S:World->Prop) (ops:Array Oper) (ρ:Env) (o:Oper) (K:Value->Prop):Prop:=
 match o.op with
 | .entry x=>(match o.dst with
  |some d=>Giv P S (Instr.entry (ρ.ev x)) (.tup [vtE P (Zp8 d 0 ops.toList),vtE P (Zp8 d 1 ops.toList)]) K
  |none=>False)
 |_=>False
def opE (P:Program) (cl:FuncId->Bool) (ops:Array Oper) (ρ:Env) (o:Oper) (K:Value->World->Prop) (w:World):Prop:=
 match ZlN o.op with
 |true=>Zws P (λ w'=>w'=w) ops ρ o (λ v=>K v w)
 |false=>opF P cl ρ o K w
def ZqW (P:Program) (cl:FuncId->Bool) (ops:Array Oper):List Oper->Env->(Env->World->Prop)->World->Prop
 |[],ρ,K,w=>K ρ w
 |o::rest,ρ,K,w=>ZcO ops ρ o
   (λ ρ=>opE P cl ops ρ o (λ v w=>ZqW P cl ops rest (ρ.put o.dst v) K w) w)
   (λ ρ=>ZqW P cl ops rest (ρ.put o.dst undef) K w)
def Z1 (P:Program) (op:Op):Bool:=match Zfz P op with|0=>(match ZeK P op with|0=>false|_=>true)|_=>false
def Z9 (P:Program) (op:Op):Bool:=match Zfz P op with|0=>false|_=>true
def Zch (P:Program) (ops:Array Oper) (j:Nat):Bool:=
 match ops[j]? with
 |none=>false
 |some oj=>!Z1 P oj.op && !Z9 P oj.op && (List.range ops.size).any λ i=>match ops[i]? with
  |some oi=>Z1 P oi.op && !oj.after.any (λ e=>Region.binds .any e && Nat.beq e.on i)
  |none=>false
def Zus (P:Program) (S:World->Prop) (hs:Bool) (ρ:Env) (o:Oper) (K:Value->Prop):Prop:=
 match Z9 P o.op with
 |true=>Zpm P ρ o K
 |false=>(match hs with
  |true=>Zpe P S ρ o K
  |false=>False)
def Zq8 (P:Program) (ops:Array Oper) (S:World->Prop) (hs:Bool) (ρ:Env) (o:Oper) (K:Value->Prop):Prop:=
 match ZlN o.op with
 |true=>(match hs with
  |true=>Zws P S ops ρ o K
  |false=>False)
 |false=>Zus P S hs ρ o K
def Zjp (P:Program) (ops:Array Oper) (listed:Array Bool):List Nat->Option Nat
 |[]=>none
 |i::is=>match ops[i]? with
  |some o=>(match Z9 P o.op||Z1 P o.op with
   |true=>(match Region.free .any ops listed i with
    |true=>some i
    |false=>Zjp P ops listed is)
   |false=>Zjp P ops listed is)
  |none=>Zjp P ops listed is
def Zud (f:Nat->Prop):List Nat->Prop
 |[]=>True
 |[i]=>f i
 |i::is=>f i/\Zud f is
def ZgO (ops:Array Oper) (listed:Array Bool) (i:Nat):Nat->Nat->Bool
 |0,j=>Nat.beq j i
 |n + 1,j=>Nat.beq j i||(!listed.getD j true && match ops[j]? with
  |some oj=>oj.after.any (λ e=>Region.binds .any e && ZgO ops listed i n e.on)
  |none=>false)
def Zeu (P:Program) (ops:Array Oper) (listed:Array Bool) (i:Nat):Bool:=(List.range ops.size).all λ j=>listed.getD j true||(ZgO ops listed i 8 j||match ops[j]? with
 |some oj=>(Z9 P oj.op||Z1 P oj.op)
 |none=>true)
def ZoF (P:Program) (cl:FuncId->Bool) (ops:Array Oper) (S:World->Prop) (ex:Bool):Nat->Bool->Array Bool->Env->(Env->World->Prop)->World->Prop
 |0,_,listed,ρ,K,w=>(match Region.ready .any ops listed with
  |[]=>K ρ w
  |_=>False)
 |fuel + 1,hs,listed,ρ,K,w=>(match Region.ready .any ops listed with
  |[]=>K ρ w
  |r::rs=>(match Zjp P ops listed (r::rs) with
   |some i=>(match ops[i]? with
    |some o=>ZcO ops ρ o
      (λ ρ=>(match ex && Zeu P ops listed i with
       |true=>Zq8 P ops (λ w'=>w'=w) true ρ o λ v=>ZoF P cl ops S ex fuel hs (listed.setIfInBounds i true) (ρ.put o.dst v) K w
       |false=>Zq8 P ops S hs ρ o λ v=>ZoF P cl ops S ex fuel hs (listed.setIfInBounds i true) (ρ.put o.dst v) K w))
      (λ ρ=>ZoF P cl ops S ex fuel hs (listed.setIfInBounds i true) (ρ.put o.dst undef) K w)
    |none=>False)
   |none=>Zud (λ i=>match ops[i]? with
    |some o=>ZcO ops ρ o
      (λ ρ=>(match Z9 P o.op||Z1 P o.op with
       |true=>False
       |false=>match Zch P ops i with
       |true=>opF P cl ρ o (λ v w=>S w/\ZoF P cl ops S ex fuel hs (listed.setIfInBounds i true) (ρ.put o.dst v) K w) w
       |false=>opF P cl ρ o (λ v w=>ZoF P cl ops S ex fuel false (listed.setIfInBounds i true) (ρ.put o.dst v) K w) w))
      (λ ρ=>(match Z9 P o.op||Z1 P o.op with
       |true=>False
       |false=>match Zch P ops i with
       |true=>(match hs with
        |true=>ZoF P cl ops S ex fuel true (listed.setIfInBounds i true) (ρ.put o.dst undef) K w
        |false=>False)
       |false=>ZoF P cl ops S ex fuel false (listed.setIfInBounds i true) (ρ.put o.dst undef) K w))
    |none=>False) (r::rs)))
def Drw (w:World) (F:(World->Prop)->World->Prop):Prop:=∃ S0 S:World->Prop,S0 w.drew/\∀ w',S0 w'->S w'/\F S w'
def _root_.Go.Act.env (a:Act):Env:=λ i=>a.tmps.getD i undef
theorem Z4 (a:Act):a.env.ev=a.eval:=by funext x;cases x<;>rfl
theorem Zge {a:Act} {d:Option Tmp} {v:Value} (h:∀ x,d=some x->x<a.tmps.size):(a.put d v).env=a.env.put d v:=by
 cases d with
 |none=>rfl
 |some d=>
  have hd:=h d rfl
  funext i
  simp only [Act.env,Act.put,Env.put,Env.set];by_cases hi:i=d
  ·subst hi;simp [hd]
  ·have:Nat.beq i d=false:=by
    cases hb:Nat.beq i d with
    |false=>rfl
    |true=>exact absurd (Nat.eq_of_beq_eq_true hb) hi
   simp [this,Array.getElem?_setIfInBounds_ne (Ne.symm hi)]
theorem ZbC {ρ:Env} {d:Nat} {v:Value} (h:ρ d=v):ρ.set d v=ρ:=by
 funext i
 simp only [Env.set];split
 ·rename_i hb;rw [Nat.eq_of_beq_eq_true hb,h]
 ·rfl
theorem Zjo (a:Act) (d:Option Tmp) (v:Value):(a.put d v).tmps.size=a.tmps.size:=by
 cases d<;>simp [Act.put]
theorem put_defers (a:Act) (d:Option Tmp) (v:Value):(a.put d v).defers=a.defers:=by
 cases d<;>rfl
structure ZcB (n:Nat) (pw:Nat->Bool) (a0:Env) (a:Act):Prop where
 size:a.tmps.size=n
 defers:a.defers=[]
 same:∀ i,pw i=false->a.env i=a0 i
def Zbi (n:Nat) (pw:Nat->Bool) (o:Oper):Bool:=match o.dst with|some d=>Nat.blt d n && pw d|none=>true
theorem ZcB.put {n:Nat} {pw:Nat->Bool} {a0:Env} {a:Act} (h:ZcB n pw a0 a) {o:Oper} (ho:Zbi n pw o=true) (v:Value):ZcB n pw a0 (a.put o.dst v):=by
 refine ⟨by rw [Zjo];exact h.size,by rw [put_defers];exact h.defers,λ i hi=>?_⟩;unfold Zbi at ho;have hd:∀ x,o.dst=some x->x<a.tmps.size:=λ x hx=>by
  rw [hx] at ho;simp only [Bool.and_eq_true] at ho;rw [h.size];exact Nat.blt_eq.mp ho.1
 rw [Zge hd];cases hx:o.dst with
 |none=>exact h.same i hi
 |some d=>
  rw [hx] at ho;simp only [Bool.and_eq_true] at ho;simp only [Env.put,Env.set];split
  ·rename_i hb;have:=Nat.eq_of_beq_eq_true hb;subst this;rw [hi] at ho;simp at ho
  ·exact h.same i hi
theorem ZcB.envput {n:Nat} {pw:Nat->Bool} {a0:Env} {a:Act} (h:ZcB n pw a0 a) {o:Oper} (ho:Zbi n pw o=true) (v:Value):(a.put o.dst v).env=a.env.put o.dst v:=by
 refine Zge λ x hx=>?_;unfold Zbi at ho;rw [hx] at ho;simp only [Bool.and_eq_true] at ho;rw [h.size];exact Nat.blt_eq.mp ho.1
theorem Zk6 (ops:Array Oper) (a:Act) (j:Nat):yielded ops a.tmps j=match (ops[j]?).bind (·.dst) with
  |none=>none
  |some d=>match a.env d with| .bool b=>some b|_=>none:=by
 unfold yielded;cases (ops[j]?).bind (·.dst) with
 |none=>rfl
 |some d=>
  simp only [Option.bind_some,Act.env,Array.getD_eq_getD_getElem?];cases a.tmps[d]? with
  |none=>simp [undef]
  |some v=>cases v<;>rfl
theorem ZT {ops:Array Oper} {a:Act} {o:Oper} {run skip:Env->Prop} (h:ZcO ops a.env o run skip):
  (Region.wanted o (yielded ops a.tmps)=true/\run a.env)\/(Region.wanted o (yielded ops a.tmps)=false/\skip a.env):=by
 unfold ZcO at h;unfold Region.wanted;split at h
 ·rename_i hg;rw [hg];exact .inl ⟨rfl,h⟩
 ·rename_i j want hg
  rw [hg];simp only [Zk6];split at h
  ·exact .inr ⟨rfl,h⟩
  ·rename_i d hd
   split at h
   ·rename_i b hb
    cases b with
    |true=>
     rw [ZbC hb] at h;cases want with
     |true=>exact .inl ⟨rfl,h⟩
     |false=>exact .inr ⟨rfl,h⟩
    |false=>
     rw [ZbC hb] at h;cases want with
     |true=>exact .inr ⟨rfl,h⟩
     |false=>exact .inl ⟨rfl,h⟩
   ·rename_i hb
    refine .inr ⟨?_,h⟩;cases hv:a.env d<;>first|rfl|exact absurd hv (hb _)
theorem ZiM {P:Program} {S:World->Prop} {ops:Array Oper} {e:Env} {o:Oper} {K:Value->Prop} (h:Zws P S ops e o K):ZcX P S (execOp e.ev o) K:=by
 unfold Zws at h;split at h
 case h_2=>exact h.elim
 rename_i x hop;split at h
 case h_2=>exact h.elim
 obtain ⟨v,hv,hK⟩:=Rt.ex_some h;obtain ⟨dst,op,ty,pos,after,guard⟩:=o;simp only at hop;subst hop;exact ⟨v,λ w hw=>Zcz rfl (hv w hw),hK⟩
theorem Zkt {P:Program} {cl:FuncId->Bool} {ops:Array Oper} (hcl:∀ g,cl g=true->ZG P g=true) {a:Act} {e:Env} {o:Oper} {K:Value->World->Prop} {w:World}
  {Q:Exit->Act->World->Prop} (hok:Zgr P o.op=true) (h:opE P cl ops e o K w):o.upon P a (Zmj a o.dst K) Q ((execOp e.ev o).run P w):=by
 unfold opE at h;split at h
 ·exact ZcX.upon (S:=λ w'=>w'=w) rfl (ZiM h)
 ·exact Zcg hcl hok h
section
variable {P:Program} {cl:FuncId->Bool} {ops:Array Oper} {Q:Exit->Act->World->Prop} {n:Nat} {pw:Nat->Bool} {a0:Env}
theorem Zal (hcl:∀ g,cl g=true->ZG P g=true) {K:Env->World->Prop}
  (hQ:∀ a w,ZcB n pw a0 a->K a.env w->Q .normal a w):∀ (l:List Oper) (_:∀ o∈l,Zgr P o.op=true/\Zbi n pw o=true) (a:Act) (w:World),
   ZcB n pw a0 a->ZqW P cl ops l a.env K w->wpList P ops Q l a w
 |[],_,a,w,hk,h=>hQ a w hk h
 |o::rest,hl,a,w,hk,h=>by
  have ho:=hl o (List.mem_cons_self ..);have hrest:=λ x hx=>hl x (List.mem_cons_of_mem _ hx);unfold ZqW at h;unfold wpList;rcases ZT h with ⟨hw,h⟩|⟨hw,h⟩
  ·rw [if_pos hw]
   refine .inl ?_;have:=Zkt hcl (a:=a) (Q:=Q) ho.1 h;rw [Z4] at this;unfold Oper.wp;refine upon_mono ?_ this;rintro a' w' ⟨v,rfl,hv⟩;refine Zal hcl hQ rest hrest _ w' (hk.put ho.2 v) ?_;rw [hk.envput ho.2];exact hv
  ·rw [hw]
   simp only [Bool.false_eq_true,if_false];refine Zal hcl hQ rest hrest _ w (hk.put ho.2 _) ?_;rw [hk.envput ho.2];exact h
where
 upon_mono {o:Oper} {a:Act} {K K':Act->World->Prop} {r:Result Next} (h:∀ a w,K a w->K' a w) (hh:o.upon P a K Q r):o.upon P a K' Q r:=by
  cases r with
  |ok x w'=>
   cases x<;>simp only [Oper.upon] at hh ⊢<;>
    first
     |exact h _ _ hh
     |exact Calls.mono hh (λ e w'' he=>by cases e<;>first|exact h _ _ he|exact he)
     |exact Rows.mono hh (λ _ _ he=>h _ _ he)
  |halt x w'=>cases x<;>simp only [Oper.upon] at hh ⊢<;>exact hh
theorem ZfZ {S:World->Prop} {hs:Bool} {e:Env} {o:Oper} {K:Value->Prop} (hok:Zgr P o.op=true) (hr:(Z9 P o.op||Z1 P o.op)=true) (h:Zus P S hs e o K):
  (Z9 P o.op=true/\ZcX P (λ _=>True) (execOp e.ev o) K)\/(Z9 P o.op=false/\hs=true/\ZcX P S (execOp e.ev o) K):=by
 unfold Zus at h;split at h
 ·rename_i hp;exact .inl ⟨hp,Ze7 (Zjq hok) h⟩
 ·rename_i hp
  split at h
  ·refine .inr ⟨hp,rfl,Ze4 ?_ (ZlC hok) h⟩
   rw [hp] at hr;simp only [Bool.false_or] at hr;unfold Z1 at hr;intro hk;rw [hk] at hr;split at hr<;>simp at hr
  ·exact h.elim
theorem ZbZ {ops:Array Oper} {S:World->Prop} {hs:Bool} {e:Env} {o:Oper} {K:Value->Prop} (hok:Zgr P o.op=true) (hr:(Z9 P o.op||Z1 P o.op)=true) (h:Zq8 P ops S hs e o K):
  (Z9 P o.op=true/\ZcX P (λ _=>True) (execOp e.ev o) K)\/(Z9 P o.op=false/\hs=true/\ZcX P S (execOp e.ev o) K):=by
 unfold Zq8 at h;split at h
 ·rename_i he
  split at h
  ·refine .inr ⟨?_,rfl,ZiM h⟩
   unfold ZlN at he;split at he
   ·rename_i hop
    rw [hop];rfl
   ·cases he
  ·exact h.elim
 ·exact ZfZ hok hr h
theorem Zb2 {listed:Array Bool}:∀ {l:List Nat} {i:Nat},Zjp P ops listed l=some i->i∈l/\∃ o,ops[i]? =some o/\(Z9 P o.op||Z1 P o.op)=true/\Region.free .any ops listed i=true
 |[],_,h=>by cases h
 |j::l,i,h=>by
  unfold Zjp at h;split at h
  ·rename_i o ho
   split at h
   ·rename_i hp
    split at h
    ·rename_i hf
     cases h;exact ⟨List.mem_cons_self ..,o,ho,hp,hf⟩
    ·have:=Zb2 h;exact ⟨List.mem_cons_of_mem _ this.1,this.2⟩
   ·have:=Zb2 h;exact ⟨List.mem_cons_of_mem _ this.1,this.2⟩
  ·have:=Zb2 h;exact ⟨List.mem_cons_of_mem _ this.1,this.2⟩
theorem ZeR {f:Nat->Prop}:∀ {l:List Nat},Zud f l->∀ i∈l,f i
 |[],_,i,hi=>by cases hi
 |[j],h,i,hi=>by simp at hi;subst hi;exact h
 |j::k::l,h,i,hi=>by
  rcases List.mem_cons.1 hi with rfl|hi
  ·exact h.1
  ·exact ZeR h.2 i hi
theorem ZqK {listed:Array Bool} {i:Nat}:∀ (n j:Nat),ZgO ops listed i n j=true->ZgO ops listed i (n + 1) j=true
 |0,j,h=>by
  unfold ZgO at h;unfold ZgO;rw [h];rfl
 |n + 1,j,h=>by
  unfold ZgO at h;unfold ZgO;rcases Bool.or_eq_true _ _|>.mp h with h1|h1
  ·rw [h1];rfl
  ·rw [Bool.and_eq_true] at h1
   obtain ⟨h2,h3⟩:=h1;rw [h2];split at h3
   ·rename_i oj ho
    obtain ⟨e,he,hb⟩:=Array.any_eq_true'.1 h3;rw [Bool.and_eq_true] at hb;have:oj.after.any (λ e=>Region.binds .any e && ZgO ops listed i (n + 1) e.on)=true:=Array.any_eq_true'.2 ⟨e,he,by rw [hb.1,ZqK n e.on hb.2];rfl⟩;rw [this];simp
   ·cases h3
theorem ZjJ {listed:Array Bool} {i:Nat} (hi:listed.getD i true=false):∀ (n j:Nat),ZgO ops listed i n j=true->listed.getD j true=false
 |0,j,h=>by unfold ZgO at h;rw [Nat.eq_of_beq_eq_true h];exact hi
 |n + 1,j,h=>by
  unfold ZgO at h;rcases Bool.or_eq_true _ _|>.mp h with h1|h1
  ·rw [Nat.eq_of_beq_eq_true h1];exact hi
  ·rw [Bool.and_eq_true] at h1
   simpa using h1.1
theorem ZfQ {listed:Array Bool} {i j:Nat} {oj:Oper}:∀ (n:Nat),ZgO ops listed i n j=true->j≠i->ops[j]? =some oj->∃ e∈oj.after,Region.binds .any e=true/\ZgO ops listed i n e.on=true
 |0,h,hji,_=>by unfold ZgO at h;exact absurd (Nat.eq_of_beq_eq_true h) hji
 |n + 1,h,hji,ho=>by
  unfold ZgO at h;rcases Bool.or_eq_true _ _|>.mp h with h1|h1
  ·exact absurd (Nat.eq_of_beq_eq_true h1) hji
  ·rw [Bool.and_eq_true,ho] at h1
   obtain ⟨e,he,hb⟩:=Array.any_eq_true'.1 h1.2;rw [Bool.and_eq_true] at hb;exact ⟨e,he,hb.1,ZqK n e.on hb.2⟩
theorem Zgd {listed:Array Bool} {i j:Nat} {oj:Oper} (h:Zeu P ops listed i=true) (hj:ops[j]? =some oj) (hun:listed.getD j true=false) (hno:ZgO ops listed i 8 j=false):(Z9 P oj.op||Z1 P oj.op)=true:=by
 unfold Zeu at h;have h1:=List.all_eq_true.1 h j (List.mem_range.2 (Array.getElem?_eq_some_iff.1 hj).1);rw [hun,hj,hno] at h1;simpa using h1
theorem ZgJ {i j:Nat} {oi oj:Oper} (hi:ops[i]? =some oi) (hj:ops[j]? =some oj) (hri:Z1 P oi.op=true)
  (hjr:(Z9 P oj.op||Z1 P oj.op)=false) (hno:∀ e∈oj.after,Region.binds .any e=true->e.on≠i):Zch P ops j=true:=by
 unfold Zch;rw [hj];simp only [Bool.or_eq_false_iff] at hjr;simp only [hjr.1,hjr.2,Bool.not_false,Bool.true_and,List.any_eq_true,List.mem_range];refine ⟨i,(Array.getElem?_eq_some_iff.1 hi).1,?_⟩;rw [hi];simp only [hri,Bool.true_and,Bool.not_eq_true'];rw [<-Bool.not_eq_true,Array.any_eq_true'];rintro ⟨e,he,hb⟩;simp only [Bool.and_eq_true] at hb;exact hno e he hb.1 (Nat.eq_of_beq_eq_true hb.2)
theorem Zi2 {i:Nat} {o:Oper} {a:Act} {w:World} {K:Act->World->Prop} (hi:ops[i]? =some o)
  (h:(Region.wanted o (yielded ops a.tmps)=true/\o.upon P a K Q ((execOp a.eval o).run P w))\/(Region.wanted o (yielded ops a.tmps)=false/\K (a.put o.dst undef) w)):wpOp P ops Q i K a w:=by
 unfold wpOp;rw [hi];rcases h with ⟨hw,h⟩|⟨hw,h⟩
 ·simp only [hw,if_true];exact .inl h
 ·simp only [hw,Bool.false_eq_true,if_false];exact h
def looks (P:Program) (ops:Array Oper) (j:Nat):Bool:=match ops[j]? with|some o=>Z9 P o.op||Z1 P o.op|none=>false
theorem ZoE (hcl:∀ g,cl g=true->ZG P g=true) (hsel:Region.noSelect ops=true) {K:Env->World->Prop} {S:World->Prop} {ex:Bool}
  (hQ:∀ a w,ZcB n pw a0 a->K a.env w->Q .normal a w) (hQp:∀ c a w,¬ Q (.panic c) a w) (hops:∀ (i:Nat) (o:Oper),ops[i]? =some o->Zgr P o.op=true/\Zbi n pw o=true):
  ∀ (fuel:Nat) (hs:Bool) (listed:Array Bool) (a:Act) (w:World),ZcB n pw a0 a->(hs=true->S w)->ZoF P cl ops S ex fuel hs listed a.env K w->
   wpT P .any ops Q S (Zch P ops) (looks P ops) fuel listed a w:=by
 intro fuel
 induction fuel with
 |zero=>
  intro hs listed a w hk hS h;unfold ZoF at h;split at h
  ·rename_i hr;exact ⟨hr,hQ a w hk h⟩
  ·exact h.elim
 |succ fuel ih=>
  intro hs listed a w hk hS h;unfold ZoF at h;split at h
  ·rename_i hr
   exact ⟨λ _=>hQ a w hk h,λ i hi=>by rw [hr] at hi;cases hi⟩
  ·rename_i r rs hr
   split at h
   ·rename_i i hp
    obtain ⟨hmem,o,ho,hpr,hfree⟩:=Zb2 hp;rw [ho] at h;simp only at h;obtain ⟨hok,hd⟩:=hops i o ho;have hni:Zch P ops i=false:=by
     unfold Zch;rw [ho];simp only;rcases Bool.or_eq_true _ _|>.mp hpr with hp|hp<;>simp [hp]
    have hrdy:i∈Region.ready .any ops listed:=by rw [hr];exact hmem
    have hfs:=Region.free_spec (md:=.any) ho hfree;have hself:=Region.noSelect_spec hsel;rcases ZT h with ⟨hw,h⟩|⟨hw,h⟩
    ·cases hex:(ex && Zeu P ops listed i) with
     |true=>
      rw [hex] at h;have hx:Zeu P ops listed i=true:=by rw [Bool.and_eq_true] at hex;exact hex.2
      rcases ZbZ hok hpr h with ⟨hp,v,hv,hK⟩|⟨hp,hhs,v,hv,hK⟩
      ·refine Zax (T:=λ _=>True) ho hself (λ c a w hc=>absurd hc (hQp c _ w)) hni fuel listed a w (λ j oj hj hne hun hno=>⟨hfs j oj hj hne hun hno,λ _ _ _ _ _=>trivial⟩) hrdy (.inl ⟨hw,?_⟩) trivial
        (ih hs (listed.setIfInBounds i true) (a.put o.dst v) w (hk.put hd v) hS ?_)
       ·rw [<-Z4];exact hv
       ·rw [hk.envput hd];exact hK
      ·have hun0:listed.getD i true=false:=(mem_ready.1 hrdy).1
       refine ZeD (T:=λ w'=>w'=w) (D:=ZgO ops listed i 8) ho hself (λ c a w hc=>absurd hc (hQp c _ w)) hni (λ j oj hd hji hj=>ZfQ 8 hd hji hj) fuel listed a w (λ j oj hj hne hun hdj hno=>⟨hfs j oj hj hne hun hno,λ w1 w2 hw1 hneed hlook=>?_⟩) (λ j hd=>ZjJ hun0 8 j hd) hrdy (.inl ⟨hw,?_⟩) rfl
        (ih hs (listed.setIfInBounds i true) (a.put o.dst v) w (hk.put hd v) hS ?_)
       ·have:=hlook (by unfold looks;rw [hj];exact Zgd hx hj hun hdj)
        rw [this];exact hw1
       ·rw [<-Z4];exact hv
       ·rw [hk.envput hd];exact hK
     |false=>
     rw [hex] at h;rcases ZbZ hok hpr h with ⟨hp,v,hv,hK⟩|⟨hp,hhs,v,hv,hK⟩
     ·refine Zax (T:=λ _=>True) ho hself (λ c a w hc=>absurd hc (hQp c _ w)) hni fuel listed a w (λ j oj hj hne hun hno=>⟨hfs j oj hj hne hun hno,λ _ _ _ _ _=>trivial⟩) hrdy (.inl ⟨hw,?_⟩) trivial
       (ih hs (listed.setIfInBounds i true) (a.put o.dst v) w (hk.put hd v) hS ?_)
      ·rw [<-Z4];exact hv
      ·rw [hk.envput hd];exact hK
     ·have hri:Z1 P o.op=true:=by rw [hp] at hpr;simpa using hpr
      refine Zax (T:=S) ho hself (λ c a w hc=>absurd hc (hQp c _ w)) hni fuel listed a w (λ j oj hj hne hun hno=>⟨hfs j oj hj hne hun hno,λ w w' hw hneed hlook=>?_⟩) hrdy (.inl ⟨hw,?_⟩) (hS hhs)
       (ih hs (listed.setIfInBounds i true) (a.put o.dst v) w (hk.put hd v) hS ?_)
      ·cases hl:(Z9 P oj.op||Z1 P oj.op) with
       |true=>have:=hlook (by unfold looks;rw [hj];exact hl);rw [this];exact hw
       |false=>exact hneed (ZgJ ho hj hri hl hno)
      ·rw [<-Z4];exact hv
      ·rw [hk.envput hd];exact hK
    ·refine Zax (T:=λ _=>True) ho hself (λ c a w hc=>absurd hc (hQp c _ w)) hni fuel listed a w (λ j oj hj hne hun hno=>⟨hfs j oj hj hne hun hno,λ _ _ _ _ _=>trivial⟩) hrdy (.inr ⟨hw,rfl⟩) trivial
       (ih hs (listed.setIfInBounds i true) (a.put o.dst undef) w (hk.put hd _) hS ?_)
     rw [hk.envput hd];exact h
   ·refine ⟨λ h0=>absurd (hr ▸ h0) (by simp),λ i hi=>?_⟩
    rw [hr] at hi;have h:=ZeR h i hi;split at h
    case h_2=>exact h.elim
    rename_i o ho;obtain ⟨hok,hd⟩:=hops i o ho;refine Zi2 ho ?_;rcases ZT h with ⟨hw,h⟩|⟨hw,h⟩
    ·refine .inl ⟨hw,?_⟩
     split at h
     ·exact h.elim
     ·rename_i hl
      have hlk:looks P ops i=false:=by unfold looks;rw [ho];exact hl
      split at h
      ·rename_i hnd
       have:=Zcg hcl (a:=a) (Q:=Q) hok h;rw [Z4] at this;refine Zal.upon_mono ?_ this;rintro a' w' ⟨v,rfl,hSw,hK⟩;refine ⟨⟨λ _=>hSw,λ hh=>(by rw [hlk] at hh;cases hh)⟩,ih hs _ _ w' (hk.put hd v) (λ _=>hSw) ?_⟩;rw [hk.envput hd];exact hK
      ·rename_i hnd
       have:=Zcg hcl (a:=a) (Q:=Q) hok h;rw [Z4] at this;refine Zal.upon_mono ?_ this;rintro a' w' ⟨v,rfl,hK⟩;refine ⟨⟨λ hh=>(by rw [hnd] at hh;cases hh),λ hh=>(by rw [hlk] at hh;cases hh)⟩,ih false _ _ w' (hk.put hd v) (λ hh=>by cases hh) ?_⟩;rw [hk.envput hd];exact hK
    ·refine .inr ⟨hw,?_⟩
     split at h
     ·exact h.elim
     ·rename_i hl
      have hlk:looks P ops i=false:=by unfold looks;rw [ho];exact hl
      split at h
      ·split at h
       ·have hSw:=hS rfl
        refine ⟨⟨λ _=>hSw,λ _=>rfl⟩,ih true _ _ w (hk.put hd _) (λ _=>hSw) ?_⟩;rw [hk.envput hd];exact h
       ·exact h.elim
      ·rename_i hnd
       refine ⟨⟨λ hh=>(by rw [hnd] at hh;cases hh),λ _=>rfl⟩,ih false _ _ w (hk.put hd _) (λ hh=>by cases hh) ?_⟩;rw [hk.envput hd];exact h
end
end
section
def ZuG (P:Program) (ops:Array Oper):Nat->Nat->Bool
 |0,_=>false
 |n + 1,i=>match ops[i]? with
  |some oi=>oi.after.any (λ e=>Region.binds .any e && match ops[e.on]? with
   |some ok=>(match Z9 P ok.op with
    |true=>ZuG P ops n e.on
    |false=>!Z1 P ok.op)
   |none=>false)
  |none=>false
def ZnO (P:Program) (ops:Array Oper) (listed:Array Bool):List Nat->Option Nat
 |[]=>none
 |i::is=>match ops[i]? with
  |some o=>(match Z9 P o.op||Z1 P o.op with
   |true=>(match Region.free .any ops listed i && !(Z1 P o.op && ZuG P ops 8 i) with
    |true=>some i
    |false=>ZnO P ops listed is)
   |false=>ZnO P ops listed is)
  |none=>ZnO P ops listed is
def Zma (P:Program) (cl:FuncId->Bool) (ops:Array Oper) (S:World->Prop):Nat->Bool->Array Bool->Env->(Env->World->Prop)->World->Prop
 |0,_,listed,ρ,K,w=>(match Region.ready .any ops listed with
  |[]=>K ρ w
  |_=>False)
 |fuel + 1,hs,listed,ρ,K,w=>(match Region.ready .any ops listed with
  |[]=>K ρ w
  |r::rs=>(match ZnO P ops listed (r::rs) with
   |some i=>(match ops[i]? with
    |some o=>ZcO ops ρ o
      (λ ρ=>(match Zeu P ops listed i with
       |true=>Zq8 P ops (λ w'=>w'=w) true ρ o λ v=>Zma P cl ops S fuel hs (listed.setIfInBounds i true) (ρ.put o.dst v) K w
       |false=>Zq8 P ops S hs ρ o λ v=>Zma P cl ops S fuel hs (listed.setIfInBounds i true) (ρ.put o.dst v) K w))
      (λ ρ=>Zma P cl ops S fuel hs (listed.setIfInBounds i true) (ρ.put o.dst undef) K w)
    |none=>False)
   |none=>Zud (λ i=>match ops[i]? with
    |some o=>ZcO ops ρ o
      (λ ρ=>(match Z9 P o.op||Z1 P o.op with
       |true=>Zq8 P ops (λ w'=>w'=w) true ρ o λ v=>Zma P cl ops S fuel hs (listed.setIfInBounds i true) (ρ.put o.dst v) K w
       |false=>match Zch P ops i with
       |true=>opF P cl ρ o (λ v w=>S w/\Zma P cl ops S fuel hs (listed.setIfInBounds i true) (ρ.put o.dst v) K w) w
       |false=>opF P cl ρ o (λ v w=>Zma P cl ops S fuel false (listed.setIfInBounds i true) (ρ.put o.dst v) K w) w))
      (λ ρ=>(match Z9 P o.op||Z1 P o.op with
       |true=>Zma P cl ops S fuel hs (listed.setIfInBounds i true) (ρ.put o.dst undef) K w
       |false=>match Zch P ops i with
       |true=>(match hs with
        |true=>Zma P cl ops S fuel true (listed.setIfInBounds i true) (ρ.put o.dst undef) K w
        |false=>False)
       |false=>Zma P cl ops S fuel false (listed.setIfInBounds i true) (ρ.put o.dst undef) K w))
    |none=>False) (r::rs)))
section
variable {P:Program} {cl:FuncId->Bool} {ops:Array Oper} {Q:Exit->Act->World->Prop} {n:Nat} {pw:Nat->Bool} {a0:Env}
theorem ZeL {listed:Array Bool}:∀ {l:List Nat} {i:Nat},ZnO P ops listed l=some i->i∈l/\∃ o,ops[i]? =some o/\(Z9 P o.op||Z1 P o.op)=true/\Region.free .any ops listed i=true
 |[],_,h=>by cases h
 |j::l,i,h=>by
  unfold ZnO at h;split at h
  ·rename_i o ho
   split at h
   ·rename_i hp
    split at h
    ·rename_i hf
     cases h;rw [Bool.and_eq_true] at hf;exact ⟨List.mem_cons_self ..,o,ho,hp,hf.1⟩
    ·have:=ZeL h;exact ⟨List.mem_cons_of_mem _ this.1,this.2⟩
   ·have:=ZeL h;exact ⟨List.mem_cons_of_mem _ this.1,this.2⟩
  ·have:=ZeL h;exact ⟨List.mem_cons_of_mem _ this.1,this.2⟩
theorem ZoD (hcl:∀ g,cl g=true->ZG P g=true) (hsel:Region.noSelect ops=true) {K:Env->World->Prop} {S:World->Prop}
  (hQ:∀ a w,ZcB n pw a0 a->K a.env w->Q .normal a w) (hQp:∀ c a w,¬ Q (.panic c) a w) (hops:∀ (i:Nat) (o:Oper),ops[i]? =some o->Zgr P o.op=true/\Zbi n pw o=true):
  ∀ (fuel:Nat) (hs:Bool) (listed:Array Bool) (a:Act) (w:World),ZcB n pw a0 a->(hs=true->S w)->Zma P cl ops S fuel hs listed a.env K w->
   wpT P .any ops Q S (Zch P ops) (looks P ops) fuel listed a w:=by
 intro fuel
 induction fuel with
 |zero=>
  intro hs listed a w hk hS h;unfold Zma at h;split at h
  ·rename_i hr;exact ⟨hr,hQ a w hk h⟩
  ·exact h.elim
 |succ fuel ih=>
  intro hs listed a w hk hS h;unfold Zma at h;split at h
  ·rename_i hr
   exact ⟨λ _=>hQ a w hk h,λ i hi=>by rw [hr] at hi;cases hi⟩
  ·rename_i r rs hr
   split at h
   ·rename_i i hp
    obtain ⟨hmem,o,ho,hpr,hfree⟩:=ZeL hp;rw [ho] at h;simp only at h;obtain ⟨hok,hd⟩:=hops i o ho;have hni:Zch P ops i=false:=by
     unfold Zch;rw [ho];simp only;rcases Bool.or_eq_true _ _|>.mp hpr with hp|hp<;>simp [hp]
    have hrdy:i∈Region.ready .any ops listed:=by rw [hr];exact hmem
    have hfs:=Region.free_spec (md:=.any) ho hfree;have hself:=Region.noSelect_spec hsel;rcases ZT h with ⟨hw,h⟩|⟨hw,h⟩
    ·cases hex:Zeu P ops listed i with
     |true=>
      rw [hex] at h;have hx:Zeu P ops listed i=true:=hex;rcases ZbZ hok hpr h with ⟨hp,v,hv,hK⟩|⟨hp,hhs,v,hv,hK⟩
      ·refine Zax (T:=λ _=>True) ho hself (λ c a w hc=>absurd hc (hQp c _ w)) hni fuel listed a w (λ j oj hj hne hun hno=>⟨hfs j oj hj hne hun hno,λ _ _ _ _ _=>trivial⟩) hrdy (.inl ⟨hw,?_⟩) trivial
        (ih hs (listed.setIfInBounds i true) (a.put o.dst v) w (hk.put hd v) hS ?_)
       ·rw [<-Z4];exact hv
       ·rw [hk.envput hd];exact hK
      ·have hun0:listed.getD i true=false:=(mem_ready.1 hrdy).1
       refine ZeD (T:=λ w'=>w'=w) (D:=ZgO ops listed i 8) ho hself (λ c a w hc=>absurd hc (hQp c _ w)) hni (λ j oj hd hji hj=>ZfQ 8 hd hji hj) fuel listed a w (λ j oj hj hne hun hdj hno=>⟨hfs j oj hj hne hun hno,λ w1 w2 hw1 hneed hlook=>?_⟩) (λ j hd=>ZjJ hun0 8 j hd) hrdy (.inl ⟨hw,?_⟩) rfl
        (ih hs (listed.setIfInBounds i true) (a.put o.dst v) w (hk.put hd v) hS ?_)
       ·have:=hlook (by unfold looks;rw [hj];exact Zgd hx hj hun hdj)
        rw [this];exact hw1
       ·rw [<-Z4];exact hv
       ·rw [hk.envput hd];exact hK
     |false=>
     rw [hex] at h;rcases ZbZ hok hpr h with ⟨hp,v,hv,hK⟩|⟨hp,hhs,v,hv,hK⟩
     ·refine Zax (T:=λ _=>True) ho hself (λ c a w hc=>absurd hc (hQp c _ w)) hni fuel listed a w (λ j oj hj hne hun hno=>⟨hfs j oj hj hne hun hno,λ _ _ _ _ _=>trivial⟩) hrdy (.inl ⟨hw,?_⟩) trivial
       (ih hs (listed.setIfInBounds i true) (a.put o.dst v) w (hk.put hd v) hS ?_)
      ·rw [<-Z4];exact hv
      ·rw [hk.envput hd];exact hK
     ·have hri:Z1 P o.op=true:=by rw [hp] at hpr;simpa using hpr
      refine Zax (T:=S) ho hself (λ c a w hc=>absurd hc (hQp c _ w)) hni fuel listed a w (λ j oj hj hne hun hno=>⟨hfs j oj hj hne hun hno,λ w w' hw hneed hlook=>?_⟩) hrdy (.inl ⟨hw,?_⟩) (hS hhs)
       (ih hs (listed.setIfInBounds i true) (a.put o.dst v) w (hk.put hd v) hS ?_)
      ·cases hl:(Z9 P oj.op||Z1 P oj.op) with
       |true=>have:=hlook (by unfold looks;rw [hj];exact hl);rw [this];exact hw
       |false=>exact hneed (ZgJ ho hj hri hl hno)
      ·rw [<-Z4];exact hv
      ·rw [hk.envput hd];exact hK
    ·refine Zax (T:=λ _=>True) ho hself (λ c a w hc=>absurd hc (hQp c _ w)) hni fuel listed a w (λ j oj hj hne hun hno=>⟨hfs j oj hj hne hun hno,λ _ _ _ _ _=>trivial⟩) hrdy (.inr ⟨hw,rfl⟩) trivial
       (ih hs (listed.setIfInBounds i true) (a.put o.dst undef) w (hk.put hd _) hS ?_)
     rw [hk.envput hd];exact h
   ·refine ⟨λ h0=>absurd (hr ▸ h0) (by simp),λ i hi=>?_⟩
    rw [hr] at hi;have h:=ZeR h i hi;split at h
    case h_2=>exact h.elim
    rename_i o ho;obtain ⟨hok,hd⟩:=hops i o ho;refine Zi2 ho ?_;rcases ZT h with ⟨hw,h⟩|⟨hw,h⟩
    ·refine .inl ⟨hw,?_⟩
     split at h
     ·rename_i hl
      have hlk:looks P ops i=true:=by unfold looks;rw [ho];exact hl
      have hni:Zch P ops i=false:=by
       unfold Zch;rw [ho];simp only;rcases Bool.or_eq_true _ _|>.mp hl with hp|hp<;>simp [hp]
      obtain ⟨v,hv,hK⟩:∃ v,(∀ w',w'=w->(execOp a.env.ev o).run P w'=.ok (.value v) w')/\Zma P cl ops S fuel hs (listed.setIfInBounds i true) (a.env.put o.dst v) K w:=by
       rcases ZbZ hok hl h with ⟨_,v,hv,hK⟩|⟨_,_,v,hv,hK⟩
       ·exact ⟨v,λ w' _=>hv w' trivial,hK⟩
       ·exact ⟨v,hv,hK⟩
      have:=ZcX.upon (S:=λ w'=>w'=w) (a:=a) (Q:=Q) (K:=λ v' w'=>v'=v/\w'=w) rfl ⟨v,hv,rfl,rfl⟩;rw [Z4] at this;refine Zal.upon_mono ?_ this;rintro a' w' ⟨v',rfl,rfl,rfl⟩;refine ⟨⟨λ hh=>(by rw [hni] at hh;cases hh),λ _=>rfl⟩,ih hs _ _ w' (hk.put hd v') hS ?_⟩;rw [hk.envput hd];exact hK
     ·rename_i hl
      have hlk:looks P ops i=false:=by unfold looks;rw [ho];exact hl
      split at h
      ·rename_i hnd
       have:=Zcg hcl (a:=a) (Q:=Q) hok h;rw [Z4] at this;refine Zal.upon_mono ?_ this;rintro a' w' ⟨v,rfl,hSw,hK⟩;refine ⟨⟨λ _=>hSw,λ hh=>(by rw [hlk] at hh;cases hh)⟩,ih hs _ _ w' (hk.put hd v) (λ _=>hSw) ?_⟩;rw [hk.envput hd];exact hK
      ·rename_i hnd
       have:=Zcg hcl (a:=a) (Q:=Q) hok h;rw [Z4] at this;refine Zal.upon_mono ?_ this;rintro a' w' ⟨v,rfl,hK⟩;refine ⟨⟨λ hh=>(by rw [hnd] at hh;cases hh),λ hh=>(by rw [hlk] at hh;cases hh)⟩,ih false _ _ w' (hk.put hd v) (λ hh=>by cases hh) ?_⟩;rw [hk.envput hd];exact hK
    ·refine .inr ⟨hw,?_⟩
     split at h
     ·rename_i hl
      have hni:Zch P ops i=false:=by
       unfold Zch;rw [ho];simp only;rcases Bool.or_eq_true _ _|>.mp hl with hp|hp<;>simp [hp]
      refine ⟨⟨λ hh=>(by rw [hni] at hh;cases hh),λ _=>rfl⟩,ih hs _ _ w (hk.put hd _) hS ?_⟩;rw [hk.envput hd];exact h
     ·rename_i hl
      have hlk:looks P ops i=false:=by unfold looks;rw [ho];exact hl
      split at h
      ·split at h
       ·have hSw:=hS rfl
        refine ⟨⟨λ _=>hSw,λ _=>rfl⟩,ih true _ _ w (hk.put hd _) (λ _=>hSw) ?_⟩;rw [hk.envput hd];exact h
       ·exact h.elim
      ·rename_i hnd
       refine ⟨⟨λ hh=>(by rw [hnd] at hh;cases hh),λ _=>rfl⟩,ih false _ _ w (hk.put hd _) (λ hh=>by cases hh) ?_⟩;rw [hk.envput hd];exact h
end
end
section
def Zhp (P:Program) (ops:Array Oper) (j:Nat):Bool:=
 match ops[j]? with
 |none=>false
 |some oj=>!Z1 P oj.op && !Z9 P oj.op && (List.range ops.size).any λ i=>match ops[i]? with
  |some oi=>Z1 P oi.op && !ZgO ops (Array.replicate ops.size false) i 8 j
  |none=>false
def okT (P:Program) (ops:Array Oper) (listed:Array Bool) (i:Nat):Bool:=(List.range ops.size).all λ j=>listed.getD j true||(ZgO ops listed i 8 j||(Zhp P ops j||match ops[j]? with
 |some oj=>(Z9 P oj.op||Z1 P oj.op)
 |none=>true))
def ZoJ (P:Program) (cl:FuncId->Bool) (ops:Array Oper) (S:World->Prop):Nat->Bool->Array Bool->Env->(Env->World->Prop)->World->Prop
 |0,_,listed,ρ,K,w=>(match Region.ready .any ops listed with
  |[]=>K ρ w
  |_=>False)
 |fuel + 1,hs,listed,ρ,K,w=>(match Region.ready .any ops listed with
  |[]=>K ρ w
  |r::rs=>(match Zjp P ops listed (r::rs) with
   |some i=>(match ops[i]? with
    |some o=>ZcO ops ρ o
      (λ ρ=>(match Zeu P ops listed i with
       |true=>Zq8 P ops (λ w'=>w'=w) true ρ o λ v=>ZoJ P cl ops S fuel hs (listed.setIfInBounds i true) (ρ.put o.dst v) K w
       |false=>(match Z9 P o.op||okT P ops listed i with
        |true=>Zq8 P ops S hs ρ o λ v=>ZoJ P cl ops S fuel hs (listed.setIfInBounds i true) (ρ.put o.dst v) K w
        |false=>False)))
      (λ ρ=>ZoJ P cl ops S fuel hs (listed.setIfInBounds i true) (ρ.put o.dst undef) K w)
    |none=>False)
   |none=>Zud (λ i=>match ops[i]? with
    |some o=>ZcO ops ρ o
      (λ ρ=>(match Z9 P o.op||Z1 P o.op with
       |true=>False
       |false=>match Zhp P ops i with
       |true=>opF P cl ρ o (λ v w=>S w/\ZoJ P cl ops S fuel hs (listed.setIfInBounds i true) (ρ.put o.dst v) K w) w
       |false=>opF P cl ρ o (λ v w=>ZoJ P cl ops S fuel false (listed.setIfInBounds i true) (ρ.put o.dst v) K w) w))
      (λ ρ=>(match Z9 P o.op||Z1 P o.op with
       |true=>False
       |false=>match Zhp P ops i with
       |true=>(match hs with
        |true=>ZoJ P cl ops S fuel true (listed.setIfInBounds i true) (ρ.put o.dst undef) K w
        |false=>False)
       |false=>ZoJ P cl ops S fuel false (listed.setIfInBounds i true) (ρ.put o.dst undef) K w))
    |none=>False) (r::rs)))
section
variable {P:Program} {cl:FuncId->Bool} {ops:Array Oper} {Q:Exit->Act->World->Prop} {n:Nat} {pw:Nat->Bool} {a0:Env}
theorem ZsD {listed:Array Bool} {i j:Nat} {oj:Oper} (h:okT P ops listed i=true) (hj:ops[j]? =some oj) (hun:listed.getD j true=false) (hno:ZgO ops listed i 8 j=false):Zhp P ops j=true\/(Z9 P oj.op||Z1 P oj.op)=true:=by
 unfold okT at h;have h1:=List.all_eq_true.1 h j (List.mem_range.2 (Array.getElem?_eq_some_iff.1 hj).1);rw [hun,hj,hno] at h1;simpa using h1
theorem ZoC (hcl:∀ g,cl g=true->ZG P g=true) (hsel:Region.noSelect ops=true) {K:Env->World->Prop} {S:World->Prop}
  (hQ:∀ a w,ZcB n pw a0 a->K a.env w->Q .normal a w) (hQp:∀ c a w,¬ Q (.panic c) a w) (hops:∀ (i:Nat) (o:Oper),ops[i]? =some o->Zgr P o.op=true/\Zbi n pw o=true):
  ∀ (fuel:Nat) (hs:Bool) (listed:Array Bool) (a:Act) (w:World),ZcB n pw a0 a->(hs=true->S w)->ZoJ P cl ops S fuel hs listed a.env K w->
   wpT P .any ops Q S (Zhp P ops) (looks P ops) fuel listed a w:=by
 intro fuel
 induction fuel with
 |zero=>
  intro hs listed a w hk hS h;unfold ZoJ at h;split at h
  ·rename_i hr;exact ⟨hr,hQ a w hk h⟩
  ·exact h.elim
 |succ fuel ih=>
  intro hs listed a w hk hS h;unfold ZoJ at h;split at h
  ·rename_i hr
   exact ⟨λ _=>hQ a w hk h,λ i hi=>by rw [hr] at hi;cases hi⟩
  ·rename_i r rs hr
   split at h
   ·rename_i i hp
    obtain ⟨hmem,o,ho,hpr,hfree⟩:=Zb2 hp;rw [ho] at h;simp only at h;obtain ⟨hok,hd⟩:=hops i o ho;have hni:Zhp P ops i=false:=by
     unfold Zhp;rw [ho];simp only;rcases Bool.or_eq_true _ _|>.mp hpr with hp|hp<;>simp [hp]
    have hrdy:i∈Region.ready .any ops listed:=by rw [hr];exact hmem
    have hfs:=Region.free_spec (md:=.any) ho hfree;have hself:=Region.noSelect_spec hsel;rcases ZT h with ⟨hw,h⟩|⟨hw,h⟩
    ·cases hex:Zeu P ops listed i with
     |true=>
      rw [hex] at h;have hx:Zeu P ops listed i=true:=hex;rcases ZbZ hok hpr h with ⟨hp,v,hv,hK⟩|⟨hp,hhs,v,hv,hK⟩
      ·refine Zax (T:=λ _=>True) ho hself (λ c a w hc=>absurd hc (hQp c _ w)) hni fuel listed a w (λ j oj hj hne hun hno=>⟨hfs j oj hj hne hun hno,λ _ _ _ _ _=>trivial⟩) hrdy (.inl ⟨hw,?_⟩) trivial
        (ih hs (listed.setIfInBounds i true) (a.put o.dst v) w (hk.put hd v) hS ?_)
       ·rw [<-Z4];exact hv
       ·rw [hk.envput hd];exact hK
      ·have hun0:listed.getD i true=false:=(mem_ready.1 hrdy).1
       refine ZeD (T:=λ w'=>w'=w) (D:=ZgO ops listed i 8) ho hself (λ c a w hc=>absurd hc (hQp c _ w)) hni (λ j oj hd hji hj=>ZfQ 8 hd hji hj) fuel listed a w (λ j oj hj hne hun hdj hno=>⟨hfs j oj hj hne hun hno,λ w1 w2 hw1 hneed hlook=>?_⟩) (λ j hd=>ZjJ hun0 8 j hd) hrdy (.inl ⟨hw,?_⟩) rfl
        (ih hs (listed.setIfInBounds i true) (a.put o.dst v) w (hk.put hd v) hS ?_)
       ·have:=hlook (by unfold looks;rw [hj];exact Zgd hx hj hun hdj)
        rw [this];exact hw1
       ·rw [<-Z4];exact hv
       ·rw [hk.envput hd];exact hK
     |false=>
     rw [hex] at h;simp only at h;cases hokt:(Z9 P o.op||okT P ops listed i) with
     |false=>rw [hokt] at h;exact h.elim
     |true=>
     rw [hokt] at h;simp only at h;rcases ZbZ hok hpr h with ⟨hp,v,hv,hK⟩|⟨hp,hhs,v,hv,hK⟩
     ·refine Zax (T:=λ _=>True) ho hself (λ c a w hc=>absurd hc (hQp c _ w)) hni fuel listed a w (λ j oj hj hne hun hno=>⟨hfs j oj hj hne hun hno,λ _ _ _ _ _=>trivial⟩) hrdy (.inl ⟨hw,?_⟩) trivial
       (ih hs (listed.setIfInBounds i true) (a.put o.dst v) w (hk.put hd v) hS ?_)
      ·rw [<-Z4];exact hv
      ·rw [hk.envput hd];exact hK
     ·have hri:Z1 P o.op=true:=by rw [hp] at hpr;simpa using hpr
      have hun0:listed.getD i true=false:=(mem_ready.1 hrdy).1;have hot:okT P ops listed i=true:=by rw [hp] at hokt;simpa using hokt
      refine ZeD (T:=S) (D:=ZgO ops listed i 8) ho hself (λ c a w hc=>absurd hc (hQp c _ w)) hni (λ j oj hd hji hj=>ZfQ 8 hd hji hj) fuel listed a w (λ j oj hj hne hun hdj hno=>⟨hfs j oj hj hne hun hno,λ w w' hw hneed hlook=>?_⟩) (λ j hd=>ZjJ hun0 8 j hd) hrdy (.inl ⟨hw,?_⟩) (hS hhs)
       (ih hs (listed.setIfInBounds i true) (a.put o.dst v) w (hk.put hd v) hS ?_)
      ·rcases ZsD hot hj hun hdj with h1|h1
       ·exact hneed h1
       ·have:=hlook (by unfold looks;rw [hj];exact h1);rw [this];exact hw
      ·rw [<-Z4];exact hv
      ·rw [hk.envput hd];exact hK
    ·refine Zax (T:=λ _=>True) ho hself (λ c a w hc=>absurd hc (hQp c _ w)) hni fuel listed a w (λ j oj hj hne hun hno=>⟨hfs j oj hj hne hun hno,λ _ _ _ _ _=>trivial⟩) hrdy (.inr ⟨hw,rfl⟩) trivial
       (ih hs (listed.setIfInBounds i true) (a.put o.dst undef) w (hk.put hd _) hS ?_)
     rw [hk.envput hd];exact h
   ·refine ⟨λ h0=>absurd (hr ▸ h0) (by simp),λ i hi=>?_⟩
    rw [hr] at hi;have h:=ZeR h i hi;split at h
    case h_2=>exact h.elim
    rename_i o ho;obtain ⟨hok,hd⟩:=hops i o ho;refine Zi2 ho ?_;rcases ZT h with ⟨hw,h⟩|⟨hw,h⟩
    ·refine .inl ⟨hw,?_⟩
     split at h
     ·exact h.elim
     ·rename_i hl
      have hlk:looks P ops i=false:=by unfold looks;rw [ho];exact hl
      split at h
      ·rename_i hnd
       have:=Zcg hcl (a:=a) (Q:=Q) hok h;rw [Z4] at this;refine Zal.upon_mono ?_ this;rintro a' w' ⟨v,rfl,hSw,hK⟩;refine ⟨⟨λ _=>hSw,λ hh=>(by rw [hlk] at hh;cases hh)⟩,ih hs _ _ w' (hk.put hd v) (λ _=>hSw) ?_⟩;rw [hk.envput hd];exact hK
      ·rename_i hnd
       have:=Zcg hcl (a:=a) (Q:=Q) hok h;rw [Z4] at this;refine Zal.upon_mono ?_ this;rintro a' w' ⟨v,rfl,hK⟩;refine ⟨⟨λ hh=>(by rw [hnd] at hh;cases hh),λ hh=>(by rw [hlk] at hh;cases hh)⟩,ih false _ _ w' (hk.put hd v) (λ hh=>by cases hh) ?_⟩;rw [hk.envput hd];exact hK
    ·refine .inr ⟨hw,?_⟩
     split at h
     ·exact h.elim
     ·rename_i hl
      have hlk:looks P ops i=false:=by unfold looks;rw [ho];exact hl
      split at h
      ·split at h
       ·have hSw:=hS rfl
        refine ⟨⟨λ _=>hSw,λ _=>rfl⟩,ih true _ _ w (hk.put hd _) (λ _=>hSw) ?_⟩;rw [hk.envput hd];exact h
       ·exact h.elim
      ·rename_i hnd
       refine ⟨⟨λ hh=>(by rw [hnd] at hh;cases hh),λ _=>rfl⟩,ih false _ _ w (hk.put hd _) (λ hh=>by cases hh) ?_⟩;rw [hk.envput hd];exact h
end
end
section
def Cur (R:Type):List Ty->Type
 |[]=>R
 |t::ts=>t.T->Cur R ts
def app {R:Type}:(ts:List Ty)->Cur R ts->List Value->(R->Prop)->Prop
 |[],f,_,φ=>φ f
 |t::ts,f,v::vs,φ=>t.un v λ x=>app ts (f x) vs φ
 |_::_,_,[],_=>False
def Ty.all:(t:Ty)->(Value->Prop)->Prop
 | .int k,φ=>∀ n:Int,φ (.int k n)
 | .bool,φ=>∀ b:Bool,φ (.bool b)
 | .str,φ=>∀ s:ByteArray,φ (.string s)
 | .sl,φ=>∀ s:Sl,φ (.slice s.a s.len s.cap)
 | .ptr,φ=>∀ p:Option Addr,φ (.pointer p)
 | .map,φ=>∀ m:Option Nat,φ (.map m)
 | .flt,φ=>∀ n:Nat,φ (.float .f64 n)
 | .any,φ=>∀ v:Value,φ v
theorem Ty.all_enc {t:Ty} {φ:Value->Prop} (h:t.all φ) (x:t.T):φ (t.enc x):=by
 cases t<;>exact h x
def Zum:List Ty->(List Value->Prop)->Prop
 |[],φ=>φ []
 |t::ts,φ=>t.all λ v=>Zum ts λ vs=>φ (v::vs)
theorem Zfg {R:Type}:∀ {ts:List Ty} {f:Cur R ts} {vs:List Value} {φ:R->Prop} {ψ:List Value->Prop},vs.length=ts.length->app ts f vs φ->Zum ts ψ->ψ vs
 |[],_,vs,_,_,hl,_,h=>by
  cases vs with
  |nil=>exact h
  |cons v vs=>simp at hl
 |t::ts,f,[],_,_,hl,_,_=>by simp at hl
 |t::ts,f,v::vs,φ,ψ,hl,ha,h=>by
  obtain ⟨x,rfl,ha'⟩:=Ty.un_enc (show t.un v λ x=>app ts (f x) vs φ from ha)
  have hx:Zum ts λ vs=>ψ (t.enc x::vs):=Ty.all_enc (t:=t) (φ:=λ v=>Zum ts λ vs=>ψ (v::vs)) h x;exact Zfg (ψ:=λ vs=>ψ (t.enc x::vs)) (by simpa using hl) ha' hx
def Zod {R:Type} (d:R):(ts:List Ty)->Cur R ts->List Value->R
 |[],f,_=>f
 |t::ts,f,v::vs=>match t,f,v with
  | .int k,f,.int k' n=>if k=k' then Zod d ts (f n) vs else d
  | .bool,f,.bool b=>Zod d ts (f b) vs
  | .str,f,.string s=>Zod d ts (f s) vs
  | .sl,f,.slice a n c=>Zod d ts (f ⟨a,n,c⟩) vs
  | .ptr,f,.pointer p=>Zod d ts (f p) vs
  | .map,f,.map m=>Zod d ts (f m) vs
  | .flt,f,.float .f64 n=>Zod d ts (f n) vs
  | .any,f,v=>Zod d ts (f v) vs
  |_,_,_=>d
 |_::_,_,[]=>d
theorem Zff {R:Type} {d:R}:∀ {ts:List Ty} {f:Cur R ts} {vs:List Value} {φ:R->Prop},app ts f vs φ->φ (Zod d ts f vs)
 |[],_,_,_,h=>h
 |t::ts,f,[],_,h=>h.elim
 |t::ts,f,v::vs,φ,h=>by
  obtain ⟨x,rfl,ha⟩:=Ty.un_enc (show t.un v λ x=>app ts (f x) vs φ from h)
  cases t<;>simp only [Zod,Ty.enc,if_true]<;>exact Zff ha
structure ZoM where
 nrm:Env->World->Prop
 ex:Nat->Env->World->Prop
 ret:Env->World->Prop
inductive Sk where
 |leaf
 |seq (a b:Sk)
 |cond (a b:Sk)
 |block (a:Sk)
 |loop (ms:List Nat) (ts:List Ty) (W:List Nat) (a:Sk)
 |cut (ms:List Nat) (ts:List Ty) (W:List Nat) (a b:Sk)
def Sk.l:Sk->Sk
 | .seq a _| .cond a _| .block a| .loop _ _ _ a| .cut _ _ _ a _=>a
 |_=>.leaf
def Sk.r:Sk->Sk
 | .seq _ b| .cond _ b| .cut _ _ _ _ b=>b
 |_=>.leaf
def ZhZ (i:Nat):List Nat->Bool
 |[]=>false
 |j::js=>match Nat.beq i j with|true=>true|false=>ZhZ i js
def look:List Nat->List Value->Nat->Option Value
 |m::ms,v::vs,i=>match Nat.beq i m with|true=>some v|false=>look ms vs i
 |_,_,_=>none
def mix (ρ:Env) (W ms:List Nat) (vs:List Value) (z:Env):Env:=λ i=>
 match look ms vs i with
 |some v=>v
 |none=>match ZhZ i W with
  |true=>z i
  |false=>ρ i
def ZeU (ms:List Nat) (ρ:Env):List Value:=ms.map ρ
def Zn3 (ts:List Ty) (ms W:List Nat) (ρ:Env) (body:Env->(Env->World->Prop)->World->Prop) (w:World):Prop:=
 ∃ (I:Cur (World->Prop) ts) (μ:Cur (World->Nat) ts),app ts I (ZeU ms ρ) (λ p=>p w)/\
  ∀ z:Env,Zum ts λ vs=>∀ w,app ts I vs (λ p=>p w)->
   body (mix ρ W ms vs z) (λ ρ' w'=>app ts I (ZeU ms ρ') (λ p=>p w')/\app ts μ (ZeU ms ρ') (λ m'=>app ts μ vs (λ m=>m' w'<m w))) w
def ZcS (ts:List Ty) (ms W:List Nat) (ρ:Env) (first:(Env->World->Prop)->Prop) (rest:Env->World->Prop):Prop:=
 ∃ J:Cur (World->Prop) ts,first (λ ρ' w'=>app ts J (ZeU ms ρ') (λ p=>p w'))/\
  ∀ z:Env,Zum ts λ vs=>∀ w,app ts J vs (λ p=>p w)->rest (mix ρ W ms vs z) w
def den (P:Program) (cl:FuncId->Bool):Code->Sk->Env->ZoM->World->Prop
 | .skip,_,ρ,K,w=>K.nrm ρ w
 | .label _,_,ρ,K,w=>K.nrm ρ w
 | .region _ ops d,sk,ρ,K,w=>(match d with
  |false=>ZqW P cl ops ops.toList ρ K.nrm w
  |true=>(match sk with
   | .block _=>Drw w λ S w'=>ZoF P cl ops S true ops.size true (Array.replicate ops.size false) ρ K.nrm w'
   | .seq _ _=>Drw w λ S w'=>Zma P cl ops S ops.size true (Array.replicate ops.size false) ρ K.nrm w'
   | .cond _ _=>Drw w λ S w'=>ZoJ P cl ops S ops.size true (Array.replicate ops.size false) ρ K.nrm w'
   |_=>Drw w λ S w'=>ZoF P cl ops S false ops.size true (Array.replicate ops.size false) ρ K.nrm w'))
 | .seq a b,sk,ρ,K,w=>(match sk with
  | .cut ms ts W _ _=>ZcS ts ms W ρ (λ k=>den P cl a sk.l ρ { K with nrm:=k } w) (λ ρ' w'=>den P cl b sk.r ρ' K w')
  |_=>den P cl a sk.l ρ { K with nrm:=λ ρ' w'=>den P cl b sk.r ρ' K w' } w)
 | .cond c a b,sk,ρ,K,w=>(match ρ.ev c with
  | .bool t=>Br t (den P cl a sk.l ρ K w) (den P cl b sk.r ρ K w)
  |_=>False)
 | .block id a,sk,ρ,K,w=>den P cl a sk.l ρ { K with ex:=λ i=>match Nat.beq i id with|true=>K.nrm|false=>K.ex i } w
 | .loop a,sk,ρ,K,w=>(match sk with
  | .loop ms ts W _=>Zn3 ts ms W ρ (λ ρ' k w'=>den P cl a sk.l ρ' { K with nrm:=k } w') w
  |_=>False)
 | .scope a,sk,ρ,K,w=>den P cl a sk.l ρ K w
 | .exit id,_,ρ,K,w=>K.ex id ρ w
 | .ret,_,ρ,K,w=>K.ret ρ w
 |_,_,_,_,_=>False
def Zdh (pw:Nat->Bool):Code->Bool
 | .region _ ops _=>ops.all λ o=>match o.dst with|some d=>pw d|none=>true
 | .seq a b| .cond _ a b=>Zdh pw a && Zdh pw b
 | .block _ a| .loop a| .scope a=>Zdh pw a
 | .rangeFunc _ _ _ _=>false
 |_=>true
def Zcr (P:Program) (n:Nat):Code->Bool
 | .region _ ops _=>Region.noSelect ops && ops.all λ o=>Zgr P o.op && (match o.dst with|some d=>Nat.blt d n|none=>true)
 | .seq a b| .cond _ a b=>Zcr P n a && Zcr P n b
 | .block _ a| .loop a| .scope a=>Zcr P n a
 | .rangeFunc _ _ _ _=>false
 |_=>true
def Ze1:Code->Sk->Bool
 | .seq a b,sk=>(match sk with
  | .cut ms ts W _ _=>Zdh (λ i=>ZhZ i W) a && Nat.beq ms.length ts.length
  |_=>true) && Ze1 a sk.l && Ze1 b sk.r
 | .cond _ a b,sk=>Ze1 a sk.l && Ze1 b sk.r
 | .block _ a,sk| .scope a,sk=>Ze1 a sk.l
 | .loop a,sk=>(match sk with
  | .loop ms ts W _=>Zdh (λ i=>ZhZ i W) a && Nat.beq ms.length ts.length
  |_=>true) && Ze1 a sk.l
 |_,_=>true
def PK (n:Nat) (pw:Nat->Bool) (a0:Env) (K:ZoM):Exit->Act->World->Prop
 | .normal,a,w=>ZcB n pw a0 a/\K.nrm a.env w
 | .exit i,a,w=>ZcB n pw a0 a/\K.ex i a.env w
 | .ret,a,w=>ZcB n pw a0 a/\K.ret a.env w
 |_,_,_=>False
theorem ZpR {ms:List Nat} {ρ:Env} {i:Nat} {v:Value} (h:look ms (ZeU ms ρ) i=some v):v=ρ i:=by
 induction ms with
 |nil=>cases h
 |cons m ms ih=>
  simp only [ZeU,List.map_cons,look] at h;split at h
  ·rename_i hb
   cases h;rw [Nat.eq_of_beq_eq_true hb]
  ·exact ih h
theorem Zf9 {ρ e:Env} {W ms:List Nat} (h:∀ i,ZhZ i W=false->e i=ρ i):mix ρ W ms (ZeU ms e) e=e:=by
 funext i
 unfold mix;split
 ·rename_i v hv;exact ZpR hv
 ·split
  ·rfl
  ·rename_i hm;exact (h i hm).symm
theorem ZeF (ms:List Nat) (ρ:Env):(ZeU ms ρ).length=ms.length:=by simp [ZeU]
theorem Za9 {p q:Nat->Bool}:∀ {c:Code},Zdh p c=true->Zdh q c=true->Zdh (λ i=>p i && q i) c=true
 | .region _ ops _,hp,hq=>by
  simp only [Zdh,Array.all_eq_true_iff_forall_mem] at *;intro o ho;have:=hp o ho;have:=hq o ho;cases hd:o.dst<;>simp_all
 | .seq a b,hp,hq=>by
  simp only [Zdh,Bool.and_eq_true] at *;exact ⟨Za9 hp.1 hq.1,Za9 hp.2 hq.2⟩
 | .cond _ a b,hp,hq=>by
  simp only [Zdh,Bool.and_eq_true] at *;exact ⟨Za9 hp.1 hq.1,Za9 hp.2 hq.2⟩
 | .block _ a,hp,hq=>Za9 (c:=a) hp hq
 | .loop a,hp,hq=>Za9 (c:=a) hp hq
 | .scope a,hp,hq=>Za9 (c:=a) hp hq
 | .rangeFunc _ _ _ _,hp,_=>by cases hp
 | .skip,_,_=>rfl
 | .exit _,_,_=>rfl
 | .label _,_,_=>rfl
 | .goto _,_,_=>rfl
 | .ret,_,_=>rfl
 | .refuse _,_,_=>rfl
theorem ZcB.refl {n:Nat} {pw:Nat->Bool} {a:Act} (h:a.tmps.size=n) (hd:a.defers=[]):ZcB n pw a.env a:=⟨h,hd,λ _ _=>rfl⟩
theorem ZcB.trans {n:Nat} {pw:Nat->Bool} {q:Nat->Bool} {a0:Env} {a b:Act} (h:ZcB n pw a0 a) (h':ZcB n (λ i=>pw i && q i) a.env b):ZcB n pw a0 b:=
 ⟨h'.size,h'.defers,λ i hi=>(h'.same i (by simp [hi])).trans (h.same i hi)⟩
variable {P:Program} {cl:FuncId->Bool} {n:Nat}
theorem Zkf (hcl:∀ g,cl g=true->ZG P g=true) (hmix:P.follows .mixedOrders=true) {pw:Nat->Bool} {a0:Env} {id:Nat} {ops:Array Oper} {d:Bool}
  (hc:Zcr P n (.region id ops d)=true) (hw:Zdh pw (.region id ops d)=true) {sk:Sk} {K:ZoM} {a:Act} {w:World} (hk:ZcB n pw a0 a)
  (h:den P cl (.region id ops d) sk a.env K w):(Code.region id ops d).wp P (PK n pw a0 K) a w:=by
 simp only [Zcr,Bool.and_eq_true,Array.all_eq_true_iff_forall_mem] at hc;simp only [Zdh,Array.all_eq_true_iff_forall_mem] at hw;have hops:∀ o∈ops,Zgr P o.op=true/\Zbi n pw o=true:=λ o ho=>by
  have h1:=hc.2 o ho;have h2:=hw o ho;refine ⟨h1.1,?_⟩;unfold Zbi;cases hd:o.dst with
  |none=>rfl
  |some x=>rw [hd] at h1 h2;simp only [Bool.and_eq_true];exact ⟨h1.2,h2⟩
 unfold den at h;cases d with
 |false=>
  exact wp_region_list (Zal (Q:=PK n pw a0 K) hcl (λ a w hk h=>⟨hk,h⟩) ops.toList (λ o ho=>hops o (by simpa using ho)) a w hk h)
 |true=>
  have key:∀ ex:Bool,(Drw w λ S w'=>ZoF P cl ops S ex ops.size true (Array.replicate ops.size false) a.env K.nrm w')->(Code.region id ops true).wp P (PK n pw a0 K) a w:=λ ex h=>by
   obtain ⟨S0,S,hS,h⟩:=h;obtain ⟨hS,h⟩:=h _ hS;exact wp_region_any hmix (ZgR _ _ _ _ (ZoE (Q:=PK n pw a0 K) hcl hc.1 (λ a w hk h=>⟨hk,h⟩) (λ _ _ _ h=>h) (λ i o ho=>hops o (Array.mem_of_getElem? ho)) _ _ _ _ _ hk (λ _=>hS) h))
  have keyG:(Drw w λ S w'=>Zma P cl ops S ops.size true (Array.replicate ops.size false) a.env K.nrm w')->(Code.region id ops true).wp P (PK n pw a0 K) a w:=λ h=>by
   obtain ⟨S0,S,hS,h⟩:=h;obtain ⟨hS,h⟩:=h _ hS;exact wp_region_any hmix (ZgR _ _ _ _ (ZoD (Q:=PK n pw a0 K) hcl hc.1 (λ a w hk h=>⟨hk,h⟩) (λ _ _ _ h=>h) (λ i o ho=>hops o (Array.mem_of_getElem? ho)) _ _ _ _ _ hk (λ _=>hS) h))
  have keyT:(Drw w λ S w'=>ZoJ P cl ops S ops.size true (Array.replicate ops.size false) a.env K.nrm w')->(Code.region id ops true).wp P (PK n pw a0 K) a w:=λ h=>by
   obtain ⟨S0,S,hS,h⟩:=h;obtain ⟨hS,h⟩:=h _ hS;exact wp_region_any hmix (ZgR _ _ _ _ (ZoC (Q:=PK n pw a0 K) hcl hc.1 (λ a w hk h=>⟨hk,h⟩) (λ _ _ _ h=>h) (λ i o ho=>hops o (Array.mem_of_getElem? ho)) _ _ _ _ _ hk (λ _=>hS) h))
  cases sk<;>first|exact key _ h|exact keyG h|exact keyT h
theorem ZaV (hcl:∀ g,cl g=true->ZG P g=true) (hmix:P.follows .mixedOrders=true):∀ (c:Code) (sk:Sk) (pw:Nat->Bool) (a0:Env),
  Zcr P n c=true->Zdh pw c=true->Ze1 c sk=true->∀ (a:Act) (K:ZoM) (w:World),ZcB n pw a0 a->den P cl c sk a.env K w->c.wp P (PK n pw a0 K) a w
 | .skip,sk,pw,a0,_,_,_,a,K,w,hk,h=>wp_skip ⟨hk,h⟩
 | .label _,sk,pw,a0,_,_,_,a,K,w,hk,h=>wp_label ⟨hk,h⟩
 | .exit _,sk,pw,a0,_,_,_,a,K,w,hk,h=>wp_exit ⟨hk,h⟩
 | .ret,sk,pw,a0,_,_,_,a,K,w,hk,h=>wp_ret ⟨hk,h⟩
 | .region id ops d,sk,pw,a0,hc,hw,_,a,K,w,hk,h=>Zkf hcl hmix hc hw hk h
 | .goto _,sk,pw,a0,_,_,_,a,K,w,hk,h=>h.elim
 | .refuse _,sk,pw,a0,_,_,_,a,K,w,hk,h=>h.elim
 | .rangeFunc _ _ _ _,sk,pw,a0,_,_,_,a,K,w,hk,h=>h.elim
 | .scope c,sk,pw,a0,hc,hw,hs,a,K,w,hk,h=>by
  refine wp_scope_straight ?_;refine Code.wp_mono ?_ (ZaV hcl hmix c sk.l pw a0 hc hw hs a K w hk h);intro e a w hq;cases e<;>first|exact hq|exact hq.elim
 | .block id c,sk,pw,a0,hc,hw,hs,a,K,w,hk,h=>by
  refine wp_block ?_;refine Code.wp_mono ?_ (ZaV hcl hmix c sk.l pw a0 hc hw hs a _ w hk h);intro e a w hq;cases e with
  |exit i=>
   obtain ⟨hk,hq⟩:=hq;show if i=id then _ else _
   by_cases hi:i=id
   ·subst hi
    rw [if_pos rfl];have:Nat.beq i i=true:=by simp
    simp only [this] at hq;exact ⟨hk,hq⟩
   ·rw [if_neg hi]
    have:Nat.beq i id=false:=by
     cases hb:Nat.beq i id with
     |false=>rfl
     |true=>exact absurd (Nat.eq_of_beq_eq_true hb) hi
    simp only [this] at hq;exact ⟨hk,hq⟩
  |normal=>exact hq
  |ret=>exact hq
  |_=>exact hq.elim
 | .cond c x y,sk,pw,a0,hc,hw,hs,a,K,w,hk,h=>by
  simp only [Zcr,Zdh,Ze1,Bool.and_eq_true] at hc hw hs;unfold den at h;split at h
  ·rename_i t ht
   rw [Z4] at ht;refine wp_cond_split ht (λ hb=>?_) (λ hb=>?_)
   ·subst hb;exact ZaV hcl hmix x sk.l pw a0 hc.1 hw.1 hs.1 a K w hk h
   ·subst hb;exact ZaV hcl hmix y sk.r pw a0 hc.2 hw.2 hs.2 a K w hk h
  ·exact h.elim
 | .seq x y,sk,pw,a0,hc,hw,hs,a,K,w,hk,h=>by
  simp only [Zcr,Zdh,Ze1,Bool.and_eq_true] at hc hw hs;refine wp_seq ?_;have plain:den P cl x sk.l a.env { K with nrm:=λ ρ' w'=>den P cl y sk.r ρ' K w' } w->x.wp P (Exit.then (y.wp P (PK n pw a0 K)) (PK n pw a0 K)) a w:=λ h=>by
   refine Code.wp_mono ?_ (ZaV hcl hmix x sk.l pw a0 hc.1 hw.1 hs.1.2 a _ w hk h);intro e a w hq;cases e with
   |normal=>exact ZaV hcl hmix y sk.r pw a0 hc.2 hw.2 hs.2 a K w hq.1 hq.2
   |_=>exact hq
  cases sk with
  |cut ms ts W l r=>
   simp only [Bool.and_eq_true] at hs;obtain ⟨J,h1,h2⟩:=(show ZcS ts ms W a.env (λ k=>den P cl x l a.env { K with nrm:=k } w) (λ ρ' w'=>den P cl y r ρ' K w') from h)
   have:=ZaV hcl hmix x l (λ i=>pw i && ZhZ i W) a.env hc.1 (Za9 hw.1 hs.1.1.1) hs.1.2 a _ w (ZcB.refl hk.size hk.defers) h1;refine Code.wp_mono ?_ this;intro e b w' hq;cases e with
   |normal=>
    obtain ⟨hkb,hq⟩:=hq;have hall:=h2 b.env;have hb:=Zfg (by rw [ZeF];exact Nat.eq_of_beq_eq_true hs.1.1.2) hq hall w' hq;rw [Zf9 (λ i hi=>hkb.same i (by simp [hi]))] at hb;exact ZaV hcl hmix y r pw a0 hc.2 hw.2 hs.2 b K w' (hk.trans hkb) hb
   |exit i=>exact ⟨hk.trans hq.1,hq.2⟩
   |ret=>exact ⟨hk.trans hq.1,hq.2⟩
   |_=>exact hq.elim
  |leaf=>exact plain h
  |seq l r=>exact plain h
  |cond l r=>exact plain h
  |block l=>exact plain h
  |loop ms ts W l=>exact plain h
 | .loop c,sk,pw,a0,hc,hw,hs,a,K,w,hk,h=>by
  cases sk with
  |loop ms ts W l=>
   simp only [Ze1,Bool.and_eq_true] at hs;have hc:Zcr P n c=true:=hc;have hw:Zdh pw c=true:=hw;obtain ⟨I,μ,h0,hstep⟩:=(show Zn3 ts ms W a.env (λ ρ' k w'=>den P cl c l ρ' { K with nrm:=k } w') w from h)
   have hlen:∀ e:Env,(ZeU ms e).length=ts.length:=λ e=>by rw [ZeF];exact Nat.eq_of_beq_eq_true hs.1.2
   refine wp_loop (λ b v=>ZcB n pw a0 b/\(∀ i,ZhZ i W=false->b.env i=a.env i)/\app ts I (ZeU ms b.env) (λ p=>p v))
    (λ b v=>Zod (λ _=>0) ts μ (ZeU ms b.env) v) ⟨hk,λ _ _=>rfl,h0⟩ ?_
   rintro b v ⟨hkb,hsame,hI⟩;have hb:=Zfg (hlen b.env) hI (hstep b.env) v hI;rw [Zf9 hsame] at hb;have:=ZaV hcl hmix c l (λ i=>pw i && ZhZ i W) b.env hc (Za9 hw hs.1.1) hs.2 b _ v (ZcB.refl hkb.size hkb.defers) hb;refine Code.wp_mono ?_ this;intro e b' v' hq;cases e with
   |normal=>
    obtain ⟨hkb',hI',hμ⟩:=hq;exact ⟨⟨hkb.trans hkb',λ i hi=>(hkb'.same i (by simp [hi])).trans (hsame i hi),hI'⟩,by
     have h1:=Zff (d:=λ _=>0) hμ;exact Zff (d:=λ _=>0) h1⟩
   |exit i=>exact ⟨hkb.trans hq.1,hq.2⟩
   |ret=>exact ⟨hkb.trans hq.1,hq.2⟩
   |_=>exact hq.elim
  |_=>exact False.elim h
def Zd5:List Value->Env
 |[],_=>undef
 |v::vs,i=>match i with
  |0=>v
  |i + 1=>Zd5 vs i
def ZuI (K:Value->World->Prop) (vs:List Value) (w:World):Prop:=
 match vs with
 |[v]=>K v w
 |vs=>K (.tuple vs.toArray) w
def Ziq (P:Program) (ρ:Env) (K:Value->World->Prop):List ResultVar->List Value->World->Prop
 |[],acc,w=>ZuI K acc.reverse w
 | .tmp t::rs,acc,w=>Ziq P ρ K rs (ρ t::acc) w
 | .cell a t::rs,acc,w=>Zh8 P (λ w'=>w'=w) t (ρ a) λ v=>Ziq P ρ K rs (v::acc) w
def Zwq (P:Program) (n:Nat) (fn:Func) (sk:Sk):Bool:=
 Nat.beq n fn.ntmps && (match fn.body with|some c=>Zcr P n c && Zdh (λ _=>true) c && Ze1 c sk|none=>false) &&
  fn.results.all λ r=>match r with| .tmp _=>true| .cell _ t=>ZmR P t
def fnF (P:Program) (cl:FuncId->Bool) (fn:Func) (sk:Sk) (args:List Value) (K:Value->World->Prop) (w:World):Prop:=
 match fn.body with
 |some c=>den P cl c sk (Zd5 args) { nrm:=λ ρ w=>Ziq P ρ K fn.results.toList [] w,ex:=λ _ _ _=>False,ret:=λ ρ w=>Ziq P ρ K fn.results.toList [] w } w
 |none=>False
theorem Zgk:∀ (vs:List Value) (i:Nat),Zd5 vs i=vs.getD i undef
 |[],i=>by simp [Zd5]
 |v::vs,0=>rfl
 |v::vs,i + 1=>by simpa [Zd5] using Zgk vs i
def Zhd (tmps:Array Value):ResultVar->Sem Value
 | .tmp t=>pure (tmps.getD t undef)
 | .cell a t=>do loadVar t (<-asAddr (tmps.getD a undef))
theorem Zip (fn:Func) (tmps:Array Value):results fn tmps=(do
  let vs<-fn.results.mapM (Zhd tmps)
  pure (if h:vs.size=1 then vs[0] else .tuple vs)):=by
 unfold results
 congr 1
theorem ZeI {a:Act} {K:Value->World->Prop} {w:World}:∀ (rs:List ResultVar) (acc:List Value),(∀ r∈rs,(match r with| .tmp _=>true| .cell _ t=>ZmR P t)=true)->
  Ziq P a.env K rs acc w->∃ vs:List Value,(rs.mapM (Zhd a.tmps)).run P w=.ok vs w/\ZuI K (acc.reverse++vs) w
 |[],acc,_,h=>⟨[],rfl,by rw [List.append_nil];exact h⟩
 | .tmp t::rs,acc,hok,h=>by
  obtain ⟨vs,hr,hf⟩:=ZeI rs (a.env t::acc) (λ r hr=>hok r (List.mem_cons_of_mem _ hr)) h;refine ⟨a.env t::vs,?_,by simpa using hf⟩;simp only [List.mapM_cons,Sem.run_bind,Zhd,Sem.run_pure,Result.andThen_ok,hr];rfl
 | .cell p t::rs,acc,hok,h=>by
  obtain ⟨v, hv, h⟩ := Zhu (ρ := fun _ => a.env p) (dst := none) (ty := 0) (pos := "") (after := #[]) (guard := none) (T := t) (x := .tmp 0) (hok _ (List.mem_cons_self ..)) h
  obtain ⟨vs,hr,hf⟩:=ZeI rs (v::acc) (λ r hr=>hok r (List.mem_cons_of_mem _ hr)) h;refine ⟨v::vs,?_,by simpa using hf⟩;have hv:=hv w rfl;simp only [execOp,Sem.run_bind,Instr.loadAt] at hv;have h2:(Zhd a.tmps (.cell p t)).run P w=.ok v w:=by
   have ep:a.env p=a.tmps.getD p undef:=rfl;rw [ep] at hv;simp only [Zhd];generalize a.tmps.getD p undef=x at *;cases x<;>simp [Instr.sureAddr] at hv
   case pointer q=>
    cases q<;>simp at hv
    case some ad=>
     simp only [asAddr,Sem.run_bind,Sem.run_pure,Result.andThen_ok];generalize (loadVar t ad).run P w=r at *;cases r<;>simp at hv
     case ok x w'=>rw [hv.1,hv.2]
  rw [List.mapM_cons,Sem.run_bind,h2,Result.andThen_ok,Sem.run_bind,hr];rfl
def Zq (P:Program) (f:FuncId) (args:Array Value) (w:World) (Q:Value->World->Prop):Prop:=Calls P f args w λ e w'=>∃ v,e=.returned v/\Q v w'
theorem Zq.use {f:FuncId} {args:Array Value} {w:World} {Q:Value->World->Prop} {R:Ending->World->Prop} (h:Zq P f args w Q) (k:∀ v w',Q v w'->R (.returned v) w'):Calls P f args w R:=
 Calls.mono h λ _ w' ⟨v,he,hq⟩=>by rw [he];exact k v w' hq
theorem Zq.mono {f:FuncId} {args:Array Value} {w:World} {Q Q':Value->World->Prop} (h:Zq P f args w Q) (k:∀ v w',Q v w'->Q' v w'):Zq P f args w Q':=
 Calls.mono h λ _ w' ⟨v,he,hq⟩=>⟨v,he,k v w' hq⟩
theorem Znb {f:FuncId} {fn:Func} {sk:Sk} (hcl:∀ g,cl g=true->ZG P g=true) (hmix:P.follows .mixedOrders=true)
  (hf:P.funcs[f]? =some fn) (hok:Zwq P fn.ntmps fn sk=true) {args:List Value} {K:Value->World->Prop} {w:World} (hargs:args.length<=fn.ntmps)
  (h:fnF P cl fn sk args K w):Zq P f args.toArray w K:=by
 unfold Zq;unfold fnF at h;unfold Zwq at hok;simp only [Bool.and_eq_true] at hok;obtain ⟨⟨_,hbody⟩,hres⟩:=hok;split at h
 case h_2=>exact h.elim
 rename_i c hb;rw [hb] at hbody;simp only [Bool.and_eq_true] at hbody;refine calls_of_wp hf hb ?_;have henv:({ tmps:=args.toArray++Array.replicate (fn.ntmps - args.toArray.size) undef,defers:=[] }:Act).env=Zd5 args:=by
  funext i
  rw [Zgk];simp only [Act.env];rcases Nat.lt_or_ge i args.length with hi|hi
  ·simp [Array.getElem?_append,hi]
  ·simp only [Array.getD_eq_getD_getElem?,Array.getElem?_append,List.size_toArray,if_neg (Nat.not_lt.2 hi),Array.getElem?_replicate,List.getD_eq_getElem?_getD,List.getElem?_eq_none hi]
   split<;>rfl
 rw [<-henv] at h;have hres':∀ r∈fn.results.toList,(match r with| .tmp _=>true| .cell _ t=>ZmR P t)=true:=λ r hr=>by
  rw [Array.all_eq_true_iff_forall_mem] at hres;exact hres r (by simpa using hr)
 have fin:∀ (a:Act) (w:World),a.defers=[]->Ziq P a.env K fn.results.toList [] w->
   a.defers=[]/\∃ v,(results fn a.tmps).run P w=.ok v w/\(∃ v',Ending.returned v=.returned v'/\K v' w):=λ a w hd hr=>by
  obtain ⟨vs,hvs,hf⟩:=ZeI fn.results.toList [] hres' hr;refine ⟨hd,?_⟩;have hm:(fn.results.mapM (Zhd a.tmps)).run P w=.ok vs.toArray w:=by
   rw [Array.mapM_eq_mapM_toList];simp only [Sem.run_map,hvs,Result.andThen_ok]
  refine ⟨_,by rw [Zip,Sem.run_bind,hm];rfl,?_⟩;cases vs with
  |nil=>exact ⟨_,rfl,hf⟩
  |cons v vs=>cases vs with
   |nil=>exact ⟨_,rfl,hf⟩
   |cons u us=>exact ⟨_,rfl,hf⟩
 refine Code.wp_mono ?_ (ZaV (n:=fn.ntmps) hcl hmix c sk (λ _=>true) _ hbody.1.1 hbody.1.2 hbody.2 _ _ w (ZcB.refl (by simp;omega) rfl) h);intro e a w hq;cases e with
 |normal=>exact fin a w hq.1.defers hq.2
 |ret=>exact fin a w hq.1.defers hq.2
 |exit i=>exact hq.2.elim
 |_=>exact hq.elim
end
def Zwd (P:Program) (cl:FuncId->Bool) (X:List PanicEntry->World->Prop) (f:Value) (args:Array Value) (t:Rt) (K:Value->World->Prop) (w:World):Prop:=
 Zcm P cl f args.toList w λ e w'=>(t.ex λ v=>e=.returned v/\K v w')\/∃ ch,e=.panicked ch/\X ch w'
def thrF (X:List PanicEntry->World->Prop) (x:Value) (w:World):Prop:=
 match x with
 | .iface t v=>X [{ v:=.iface t v,recovered:=false }] w
 |_=>False
def ZrA (op:Op):Nat:=
 match op with
 | .call c=>(match c.callee with| .value _=>6|_=>0)
 | .panic _=>7
 |_=>0
def ZsL (P:Program) (cl:FuncId->Bool) (X:List PanicEntry->World->Prop) (ρ:Env) (o:Oper) (K:Value->World->Prop) (w:World):Prop:=
 match ZrA o.op with
 |6=>(match o.op with| .call c=>(match c.callee with| .value f=>Zwd P cl X (ρ.ev f) (c.args.map ρ.ev) (Zuj P o.type) K w|_=>False)|_=>False)
 |7=>(match o.op with| .panic x=>thrF X (ρ.ev x) w|_=>False)
 |_=>Zwv P cl ρ o K w
theorem ZlY {P:Program} {cl:FuncId->Bool} (hcl:∀ g,cl g=true->ZG P g=true) {X:List PanicEntry->World->Prop} {a:Act} {e:Env} {o:Oper} {K:Value->World->Prop} {w:World}
  {Q:Exit->Act->World->Prop} (hX:∀ ch w,X ch w->Q (.panic ch) a w) (h:ZsL P cl X e o K w):o.upon P a (Zmj a o.dst K) Q ((execOp e.ev o).run P w):=by
 unfold ZsL at h;split at h
 ·rename_i hk
  clear hk;obtain ⟨dst,op,ty,pos,after,guard⟩:=o;cases op<;>simp only at h<;>first|exact h.elim|skip
  case call c=>
   obtain ⟨callee,args,ats⟩:=c;cases callee<;>simp only at h<;>first|exact h.elim|skip
   case value f=>
    unfold Zwd Zcm at h;split at h
    case h_2=>exact h.elim
    rename_i fn first captured hf
    split at h
    case h_2=>exact h.elim
    rename_i g;have hargs:(first++args.map e.ev)++captured=(first.toList++((args.map e.ev).toList++captured.toList)).toArray:=by
     apply Array.ext';simp
    split at h
    case h_2=>
     obtain ⟨v',w',hr,hx⟩:=h;have:(execOp e.ev ⟨dst,.call ⟨.value f,args,ats⟩,ty,pos,after,guard⟩).run P w=.ok (.value v') w':=by
      simp only [execOp,resolve,hf,Deferred.ofValue];simp only [Sem.run_bind,Sem.run_pure,Result.andThen_ok,invoke,<-hargs] at hr ⊢;exact hr
     rw [this];rcases hx with hx|⟨ch,hc,_⟩
     ·obtain ⟨v,hv,hK⟩:=Rt.ex_some hx
      cases hv;exact ⟨_,rfl,hK⟩
     ·cases hc
    rename_i hg;have:(execOp e.ev ⟨dst,.call ⟨.value f,args,ats⟩,ty,pos,after,guard⟩).run P w=.ok (.enter g (first.toList++((args.map e.ev).toList++captured.toList)).toArray) w:=by
     simp only [execOp,resolve,hf,Deferred.ofValue];simp only [Sem.run_bind,Sem.run_pure,Result.andThen_ok,invoke,<-hargs];exact Zdb (hcl g hg) _ w
    rw [this];refine Calls.mono h ?_;rintro en w' (hx|⟨ch,rfl,hx⟩)
    ·obtain ⟨v,rfl,hK⟩:=Rt.ex_some hx
     exact ⟨v,rfl,hK⟩
    ·exact hX ch w' hx
 ·rename_i hk
  clear hk;obtain ⟨dst,op,ty,pos,after,guard⟩:=o;cases op<;>simp only at h<;>first|exact h.elim|skip
  case panic x=>
   unfold thrF at h;split at h
   ·rename_i t v hx
    have:(execOp e.ev ⟨dst,.panic x,ty,pos,after,guard⟩).run P w=.halt (.panic (.iface t v)) w:=by
     simp only [execOp,hx];rfl
    rw [this];exact hX _ w h
   ·exact h.elim
 ·exact ZiN hcl h
def Zuz (P:Program) (cl:FuncId->Bool) (X:List PanicEntry->World->Prop) (ρ:Env) (o:Oper) (K:Value->World->Prop) (w:World):Prop:=
 match Zfz P o.op with
 |0=>(match ZeK P o.op with
  |0=>ZsL P cl X ρ o K w
  |_=>Zpe P (λ w'=>w'=w) ρ o (λ v=>K v w))
 |_=>Zpm P ρ o (λ v=>K v w)
theorem Zf6 {P:Program} {cl:FuncId->Bool} (hcl:∀ g,cl g=true->ZG P g=true) {X:List PanicEntry->World->Prop} {a:Act} {e:Env} {o:Oper} {K:Value->World->Prop} {w:World}
  {Q:Exit->Act->World->Prop} (hX:∀ ch w,X ch w->Q (.panic ch) a w) (hok:Zgr P o.op=true) (h:Zuz P cl X e o K w):o.upon P a (Zmj a o.dst K) Q ((execOp e.ev o).run P w):=by
 unfold Zuz at h;split at h
 ·split at h
  ·exact ZlY hcl hX h
  ·rename_i hk
   exact ZcX.upon (S:=λ w'=>w'=w) rfl (Ze4 hk (ZlC hok) h)
 ·exact ZcX.upon (S:=λ _=>True) trivial (Ze7 (Zjq hok) h)
section
def Zpt (P:Program) (cl:FuncId->Bool) (X:List PanicEntry->List Value->World->Prop) (ps:List Nat) (ops:Array Oper):List Oper->Env->(Env->World->Prop)->World->Prop
 |[],ρ,K,w=>K ρ w
 |o::rest,ρ,K,w=>ZcO ops ρ o
   (λ ρ=>Zuz P cl (λ ch w=>X ch (ZeU ps ρ) w) ρ o (λ v w=>Zpt P cl X ps ops rest (ρ.put o.dst v) K w) w)
   (λ ρ=>Zpt P cl X ps ops rest (ρ.put o.dst undef) K w)
def Zif (P:Program) (cl:FuncId->Bool) (X:List PanicEntry->List Value->World->Prop) (ps:List Nat) (ops:Array Oper) (S:World->Prop):Nat->Bool->Array Bool->Env->(Env->World->Prop)->World->Prop
 |0,_,listed,ρ,K,w=>(match Region.ready .any ops listed with
  |[]=>K ρ w
  |_=>False)
 |fuel + 1,hs,listed,ρ,K,w=>(match Region.ready .any ops listed with
  |[]=>K ρ w
  |r::rs=>(match Zjp P ops listed (r::rs) with
   |some i=>(match ops[i]? with
    |some o=>ZcO ops ρ o
      (λ ρ=>Zus P S hs ρ o λ v=>Zif P cl X ps ops S fuel hs (listed.setIfInBounds i true) (ρ.put o.dst v) K w)
      (λ ρ=>Zif P cl X ps ops S fuel hs (listed.setIfInBounds i true) (ρ.put o.dst undef) K w)
    |none=>False)
   |none=>Zud (λ i=>match ops[i]? with
    |some o=>ZcO ops ρ o
      (λ ρ=>(match Z9 P o.op||Z1 P o.op with
       |true=>False
       |false=>match Zch P ops i with
       |true=>Zuz P cl (λ ch w=>X ch (ZeU ps ρ) w) ρ o (λ v w=>S w/\Zif P cl X ps ops S fuel hs (listed.setIfInBounds i true) (ρ.put o.dst v) K w) w
       |false=>Zuz P cl (λ ch w=>X ch (ZeU ps ρ) w) ρ o (λ v w=>Zif P cl X ps ops S fuel false (listed.setIfInBounds i true) (ρ.put o.dst v) K w) w))
      (λ ρ=>(match Z9 P o.op||Z1 P o.op with
       |true=>False
       |false=>match Zch P ops i with
       |true=>(match hs with
        |true=>Zif P cl X ps ops S fuel true (listed.setIfInBounds i true) (ρ.put o.dst undef) K w
        |false=>False)
       |false=>Zif P cl X ps ops S fuel false (listed.setIfInBounds i true) (ρ.put o.dst undef) K w))
    |none=>False) (r::rs)))
structure Zbj (n:Nat) (ds:List Deferred) (pw:Nat->Bool) (a0:Env) (a:Act):Prop where
 size:a.tmps.size=n
 defers:a.defers=ds
 same:∀ i,pw i=false->a.env i=a0 i
theorem Zbj.put {n:Nat} {ds:List Deferred} {pw:Nat->Bool} {a0:Env} {a:Act} (h:Zbj n ds pw a0 a) {o:Oper} (ho:Zbi n pw o=true) (v:Value):Zbj n ds pw a0 (a.put o.dst v):=by
 refine ⟨by rw [Zjo];exact h.size,by rw [put_defers];exact h.defers,λ i hi=>?_⟩;unfold Zbi at ho;have hd:∀ x,o.dst=some x->x<a.tmps.size:=λ x hx=>by
  rw [hx] at ho;simp only [Bool.and_eq_true] at ho;rw [h.size];exact Nat.blt_eq.mp ho.1
 rw [Zge hd];cases hx:o.dst with
 |none=>exact h.same i hi
 |some d=>
  rw [hx] at ho;simp only [Bool.and_eq_true] at ho;simp only [Env.put,Env.set];split
  ·rename_i hb;have:=Nat.eq_of_beq_eq_true hb;subst this;rw [hi] at ho;simp at ho
  ·exact h.same i hi
theorem Zbj.envput {n:Nat} {ds:List Deferred} {pw:Nat->Bool} {a0:Env} {a:Act} (h:Zbj n ds pw a0 a) {o:Oper} (ho:Zbi n pw o=true) (v:Value):(a.put o.dst v).env=a.env.put o.dst v:=by
 refine Zge λ x hx=>?_;unfold Zbi at ho;rw [hx] at ho;simp only [Bool.and_eq_true] at ho;rw [h.size];exact Nat.blt_eq.mp ho.1
theorem Zbj.unput {n:Nat} {ds:List Deferred} {pw:Nat->Bool} {a0:Env} {a:Act} {o:Oper} (ho:Zbi n pw o=true) {v:Value} (h:Zbj n ds pw a0 (a.put o.dst v)):Zbj n ds pw a0 a:=by
 have hs:a.tmps.size=n:=by rw [<-Zjo a o.dst v];exact h.size
 have hd0:a.defers=ds:=by rw [<-put_defers a o.dst v];exact h.defers
 refine ⟨hs,hd0,λ i hi=>?_⟩;have:=h.same i hi;have hd:∀ x,o.dst=some x->x<a.tmps.size:=λ x hx=>by
  unfold Zbi at ho;rw [hx] at ho;simp only [Bool.and_eq_true] at ho;rw [hs];exact Nat.blt_eq.mp ho.1
 rw [Zge hd] at this;unfold Zbi at ho;cases hx:o.dst with
 |none=>rw [hx] at this;exact this
 |some d=>
  rw [hx] at this ho;simp only [Bool.and_eq_true] at ho;simp only [Env.put,Env.set] at this;split at this
  ·rename_i hb;have:=Nat.eq_of_beq_eq_true hb;subst this;rw [hi] at ho;simp at ho
  ·exact this
def ZsE (ps:List Nat) (o:Oper):Bool:=match o.dst with|some d=>!ZhZ d ps|none=>true
theorem Zq1 {n:Nat} {pw:Nat->Bool} {ps:List Nat} {a:Act} {o:Oper} (ho:Zbi n pw o=true) (hs:a.tmps.size=n) (hp:ZsE ps o=true) (v:Value):ZeU ps (a.put o.dst v).env=ZeU ps a.env:=by
 have hd:∀ x,o.dst=some x->x<a.tmps.size:=λ x hx=>by
  unfold Zbi at ho;rw [hx] at ho;simp only [Bool.and_eq_true] at ho;rw [hs];exact Nat.blt_eq.mp ho.1
 rw [Zge hd];unfold ZsE at hp;cases hx:o.dst with
 |none=>rfl
 |some d=>
  rw [hx] at hp;simp only [Bool.not_eq_true'] at hp;unfold ZeU;apply List.map_congr_left;intro i hi;simp only [Env.put,Env.set];split
  ·rename_i hb
   have:=Nat.eq_of_beq_eq_true hb;subst this;have:∀ l:List Nat,i∈l->ZhZ i l=true:=λ l=>by
    induction l with
    |nil=>intro h;cases h
    |cons j l ih=>
     intro h;unfold ZhZ;cases hb:Nat.beq i j with
     |true=>rfl
     |false=>
      rcases List.mem_cons.1 h with rfl|h
      ·simp at hb
      ·exact ih h
   rw [this ps hi] at hp;cases hp
  ·rfl
section
variable {P:Program} {cl:FuncId->Bool} {X:List PanicEntry->List Value->World->Prop} {ps:List Nat} {ops:Array Oper} {Q:Exit->Act->World->Prop} {n:Nat} {ds:List Deferred} {pw:Nat->Bool} {a0:Env}
theorem ZcK (hcl:∀ g,cl g=true->ZG P g=true) {K:Env->World->Prop}
  (hQ:∀ a w,Zbj n ds pw a0 a->K a.env w->Q .normal a w) (hX:∀ ch a w,Zbj n ds pw a0 a->X ch (ZeU ps a.env) w->Q (.panic ch) a w):∀ (l:List Oper) (_:∀ o∈l,Zgr P o.op=true/\Zbi n pw o=true) (a:Act) (w:World),
   Zbj n ds pw a0 a->Zpt P cl X ps ops l a.env K w->wpList P ops Q l a w
 |[],_,a,w,hk,h=>hQ a w hk h
 |o::rest,hl,a,w,hk,h=>by
  have ho:=hl o (List.mem_cons_self ..);have hrest:=λ x hx=>hl x (List.mem_cons_of_mem _ hx);unfold Zpt at h;unfold wpList;rcases ZT h with ⟨hw,h⟩|⟨hw,h⟩
  ·rw [if_pos hw]
   refine .inl ?_;have:=Zf6 hcl (λ ch w hx=>hX ch a w hk (by exact hx)) ho.1 h;rw [Z4] at this;unfold Oper.wp;refine upon_mono ?_ this;rintro a' w' ⟨v,rfl,hv⟩;refine ZcK hcl hQ hX rest hrest _ w' (hk.put ho.2 v) ?_;rw [hk.envput ho.2];exact hv
  ·rw [hw]
   simp only [Bool.false_eq_true,if_false];refine ZcK hcl hQ hX rest hrest _ w (hk.put ho.2 _) ?_;rw [hk.envput ho.2];exact h
where
 upon_mono {o:Oper} {a:Act} {K K':Act->World->Prop} {r:Result Next} (h:∀ a w,K a w->K' a w) (hh:o.upon P a K Q r):o.upon P a K' Q r:=by
  cases r with
  |ok x w'=>
   cases x<;>simp only [Oper.upon] at hh ⊢<;>
    first
     |exact h _ _ hh
     |exact Calls.mono hh (λ e w'' he=>by cases e<;>first|exact h _ _ he|exact he)
     |exact Rows.mono hh (λ _ _ he=>h _ _ he)
  |halt x w'=>cases x<;>simp only [Oper.upon] at hh ⊢<;>exact hh
theorem Zmc (hcl:∀ g,cl g=true->ZG P g=true) (hsel:Region.noSelect ops=true) {K:Env->World->Prop} {S:World->Prop}
  (hQ:∀ a w,Zbj n ds pw a0 a->K a.env w->Q .normal a w) (hX:∀ ch a w,Zbj n ds pw a0 a->X ch (ZeU ps a.env) w->Q (.panic ch) a w) (hQp:∀ (i:Nat) (o:Oper) (v:Value) c a w,ops[i]? =some o->Q (.panic c) (a.put o.dst v) w->Q (.panic c) a w) (hops:∀ (i:Nat) (o:Oper),ops[i]? =some o->Zgr P o.op=true/\Zbi n pw o=true):
  ∀ (fuel:Nat) (hs:Bool) (listed:Array Bool) (a:Act) (w:World),Zbj n ds pw a0 a->(hs=true->S w)->Zif P cl X ps ops S fuel hs listed a.env K w->
   wpT P .any ops Q S (Zch P ops) (looks P ops) fuel listed a w:=by
 intro fuel
 induction fuel with
 |zero=>
  intro hs listed a w hk hS h;unfold Zif at h;split at h
  ·rename_i hr;exact ⟨hr,hQ a w hk h⟩
  ·exact h.elim
 |succ fuel ih=>
  intro hs listed a w hk hS h;unfold Zif at h;split at h
  ·rename_i hr
   exact ⟨λ _=>hQ a w hk h,λ i hi=>by rw [hr] at hi;cases hi⟩
  ·rename_i r rs hr
   split at h
   ·rename_i i hp
    obtain ⟨hmem,o,ho,hpr,hfree⟩:=Zb2 hp;rw [ho] at h;simp only at h;obtain ⟨hok,hd⟩:=hops i o ho;have hni:Zch P ops i=false:=by
     unfold Zch;rw [ho];simp only;rcases Bool.or_eq_true _ _|>.mp hpr with hp|hp<;>simp [hp]
    have hrdy:i∈Region.ready .any ops listed:=by rw [hr];exact hmem
    have hfs:=Region.free_spec (md:=.any) ho hfree;have hself:=Region.noSelect_spec hsel;rcases ZT h with ⟨hw,h⟩|⟨hw,h⟩
    ·rcases ZfZ hok hpr h with ⟨hp,v,hv,hK⟩|⟨hp,hhs,v,hv,hK⟩
     ·refine Zax (T:=λ _=>True) ho hself (λ c a w hc=>hQp i o _ c a w ho hc) hni fuel listed a w (λ j oj hj hne hun hno=>⟨hfs j oj hj hne hun hno,λ _ _ _ _ _=>trivial⟩) hrdy (.inl ⟨hw,?_⟩) trivial
       (ih hs (listed.setIfInBounds i true) (a.put o.dst v) w (hk.put hd v) hS ?_)
      ·rw [<-Z4];exact hv
      ·rw [hk.envput hd];exact hK
     ·have hri:Z1 P o.op=true:=by rw [hp] at hpr;simpa using hpr
      refine Zax (T:=S) ho hself (λ c a w hc=>hQp i o _ c a w ho hc) hni fuel listed a w (λ j oj hj hne hun hno=>⟨hfs j oj hj hne hun hno,λ w w' hw hneed hlook=>?_⟩) hrdy (.inl ⟨hw,?_⟩) (hS hhs)
       (ih hs (listed.setIfInBounds i true) (a.put o.dst v) w (hk.put hd v) hS ?_)
      ·cases hl:(Z9 P oj.op||Z1 P oj.op) with
       |true=>have:=hlook (by unfold looks;rw [hj];exact hl);rw [this];exact hw
       |false=>exact hneed (ZgJ ho hj hri hl hno)
      ·rw [<-Z4];exact hv
      ·rw [hk.envput hd];exact hK
    ·refine Zax (T:=λ _=>True) ho hself (λ c a w hc=>hQp i o _ c a w ho hc) hni fuel listed a w (λ j oj hj hne hun hno=>⟨hfs j oj hj hne hun hno,λ _ _ _ _ _=>trivial⟩) hrdy (.inr ⟨hw,rfl⟩) trivial
       (ih hs (listed.setIfInBounds i true) (a.put o.dst undef) w (hk.put hd _) hS ?_)
     rw [hk.envput hd];exact h
   ·refine ⟨λ h0=>absurd (hr ▸ h0) (by simp),λ i hi=>?_⟩
    rw [hr] at hi;have h:=ZeR h i hi;split at h
    case h_2=>exact h.elim
    rename_i o ho;obtain ⟨hok,hd⟩:=hops i o ho;refine Zi2 ho ?_;rcases ZT h with ⟨hw,h⟩|⟨hw,h⟩
    ·refine .inl ⟨hw,?_⟩
     split at h
     ·exact h.elim
     ·rename_i hl
      have hlk:looks P ops i=false:=by unfold looks;rw [ho];exact hl
      split at h
      ·rename_i hnd
       have:=Zf6 hcl (λ ch w hx=>hX ch a w hk (by exact hx)) hok h;rw [Z4] at this;refine ZcK.upon_mono ?_ this;rintro a' w' ⟨v,rfl,hSw,hK⟩;refine ⟨⟨λ _=>hSw,λ hh=>(by rw [hlk] at hh;cases hh)⟩,ih hs _ _ w' (hk.put hd v) (λ _=>hSw) ?_⟩;rw [hk.envput hd];exact hK
      ·rename_i hnd
       have:=Zf6 hcl (λ ch w hx=>hX ch a w hk (by exact hx)) hok h;rw [Z4] at this;refine ZcK.upon_mono ?_ this;rintro a' w' ⟨v,rfl,hK⟩;refine ⟨⟨λ hh=>(by rw [hnd] at hh;cases hh),λ hh=>(by rw [hlk] at hh;cases hh)⟩,ih false _ _ w' (hk.put hd v) (λ hh=>by cases hh) ?_⟩;rw [hk.envput hd];exact hK
    ·refine .inr ⟨hw,?_⟩
     split at h
     ·exact h.elim
     ·rename_i hl
      have hlk:looks P ops i=false:=by unfold looks;rw [ho];exact hl
      split at h
      ·split at h
       ·have hSw:=hS rfl
        refine ⟨⟨λ _=>hSw,λ _=>rfl⟩,ih true _ _ w (hk.put hd _) (λ _=>hSw) ?_⟩;rw [hk.envput hd];exact h
       ·exact h.elim
      ·rename_i hnd
       refine ⟨⟨λ hh=>(by rw [hnd] at hh;cases hh),λ _=>rfl⟩,ih false _ _ w (hk.put hd _) (λ hh=>by cases hh) ?_⟩;rw [hk.envput hd];exact h
end
end
section
def Zib (P:Program) (cl:FuncId->Bool) (X:List PanicEntry->List Value->World->Prop) (ps:List Nat):Code->Sk->Env->ZoM->World->Prop
 | .skip,_,ρ,K,w=>K.nrm ρ w
 | .label _,_,ρ,K,w=>K.nrm ρ w
 | .region _ ops d,_,ρ,K,w=>(match d with
  |false=>Zpt P cl X ps ops ops.toList ρ K.nrm w
  |true=>Drw w λ S w'=>Zif P cl X ps ops S ops.size true (Array.replicate ops.size false) ρ K.nrm w')
 | .seq a b,sk,ρ,K,w=>(match sk with
  | .cut ms ts W _ _=>ZcS ts ms W ρ (λ k=>Zib P cl X ps a sk.l ρ { K with nrm:=k } w) (λ ρ' w'=>Zib P cl X ps b sk.r ρ' K w')
  |_=>Zib P cl X ps a sk.l ρ { K with nrm:=λ ρ' w'=>Zib P cl X ps b sk.r ρ' K w' } w)
 | .cond c a b,sk,ρ,K,w=>(match ρ.ev c with
  | .bool t=>Br t (Zib P cl X ps a sk.l ρ K w) (Zib P cl X ps b sk.r ρ K w)
  |_=>False)
 | .block id a,sk,ρ,K,w=>Zib P cl X ps a sk.l ρ { K with ex:=λ i=>match Nat.beq i id with|true=>K.nrm|false=>K.ex i } w
 | .loop a,sk,ρ,K,w=>(match sk with
  | .loop ms ts W _=>Zn3 ts ms W ρ (λ ρ' k w'=>Zib P cl X ps a sk.l ρ' { K with nrm:=k } w') w
  |_=>False)
 | .scope a,sk,ρ,K,w=>Zib P cl X ps a sk.l ρ K w
 | .exit id,_,ρ,K,w=>K.ex id ρ w
 | .ret,_,ρ,K,w=>K.ret ρ w
 |_,_,_,_,_=>False
def Zco (P:Program) (n:Nat) (ps:List Nat):Code->Bool
 | .region _ ops d=>Region.noSelect ops && (ops.all λ o=>Zgr P o.op && (match o.dst with|some d=>Nat.blt d n|none=>true)) && (match d with|true=>ops.all (ZsE ps)|false=>true)
 | .seq a b| .cond _ a b=>Zco P n ps a && Zco P n ps b
 | .block _ a| .loop a| .scope a=>Zco P n ps a
 | .rangeFunc _ _ _ _=>false
 |_=>true
def PKx (n:Nat) (ds:List Deferred) (pw:Nat->Bool) (X:List PanicEntry->List Value->World->Prop) (ps:List Nat) (a0:Env) (K:ZoM):Exit->Act->World->Prop
 | .normal,a,w=>Zbj n ds pw a0 a/\K.nrm a.env w
 | .exit i,a,w=>Zbj n ds pw a0 a/\K.ex i a.env w
 | .ret,a,w=>Zbj n ds pw a0 a/\K.ret a.env w
 | .panic ch,a,w=>Zbj n ds pw a0 a/\X ch (ZeU ps a.env) w
 |_,_,_=>False
theorem Zbj.refl' {n:Nat} {ds:List Deferred} {pw:Nat->Bool} {a:Act} (h:a.tmps.size=n) (hd:a.defers=ds):Zbj n ds pw a.env a:=⟨h,hd,λ _ _=>rfl⟩
theorem Zbj.trans {n:Nat} {ds:List Deferred} {pw:Nat->Bool} {q:Nat->Bool} {a0:Env} {a b:Act} (h:Zbj n ds pw a0 a) (h':Zbj n ds (λ i=>pw i && q i) a.env b):Zbj n ds pw a0 b:=
 ⟨h'.size,h'.defers,λ i hi=>(h'.same i (by simp [hi])).trans (h.same i hi)⟩
variable {P:Program} {cl:FuncId->Bool} {X:List PanicEntry->List Value->World->Prop} {ps:List Nat} {n:Nat} {ds:List Deferred}
theorem Zjl (hcl:∀ g,cl g=true->ZG P g=true) (hmix:P.follows .mixedOrders=true) {pw:Nat->Bool} {a0:Env} {id:Nat} {ops:Array Oper} {d:Bool}
  (hc:Zco P n ps (.region id ops d)=true) (hw:Zdh pw (.region id ops d)=true) {sk:Sk} {K:ZoM} {a:Act} {w:World} (hk:Zbj n ds pw a0 a)
  (h:Zib P cl X ps (.region id ops d) sk a.env K w):(Code.region id ops d).wp P (PKx n ds pw X ps a0 K) a w:=by
 simp only [Zco,Bool.and_eq_true] at hc;obtain ⟨⟨hsel,hall⟩,hps⟩:=hc;rw [Array.all_eq_true_iff_forall_mem] at hall;simp only [Bool.and_eq_true] at hall;simp only [Zdh,Array.all_eq_true_iff_forall_mem] at hw;have hops:∀ o∈ops,Zgr P o.op=true/\Zbi n pw o=true:=λ o ho=>by
  have h1:=hall o ho;have h2:=hw o ho;refine ⟨h1.1,?_⟩;unfold Zbi;cases hd:o.dst with
  |none=>rfl
  |some x=>rw [hd] at h1 h2;simp only [Bool.and_eq_true];exact ⟨h1.2,h2⟩
 unfold Zib at h;cases d with
 |false=>
  exact wp_region_list (ZcK (X:=X) (ps:=ps) (Q:=PKx n ds pw X ps a0 K) hcl (λ a w hk h=>⟨hk,h⟩) (λ ch a w hk h=>⟨hk,h⟩) ops.toList (λ o ho=>hops o (by simpa using ho)) a w hk h)
 |true=>
  obtain ⟨S0,S,hS,h⟩:=h;obtain ⟨hS,h⟩:=h _ hS;refine wp_region_any hmix (ZgR _ _ _ _ (Zmc (X:=X) (ps:=ps) (Q:=PKx n ds pw X ps a0 K) hcl hsel (λ a w hk h=>⟨hk,h⟩) (λ ch a w hk h=>⟨hk,h⟩) (λ i o v c a w ho h=>by
   have hm:=Array.mem_of_getElem? ho;have hd:=(hops o hm).2;rw [Array.all_eq_true_iff_forall_mem] at hps;have hk2:=Zbj.unput hd h.1;exact ⟨hk2,by rw [<-Zq1 hd hk2.size (hps o hm) v];exact h.2⟩) (λ i o ho=>hops o (Array.mem_of_getElem? ho)) _ _ _ _ _ hk (λ _=>hS) h))
theorem Zaw (hcl:∀ g,cl g=true->ZG P g=true) (hmix:P.follows .mixedOrders=true):∀ (c:Code) (sk:Sk) (pw:Nat->Bool) (a0:Env),
  Zco P n ps c=true->Zdh pw c=true->Ze1 c sk=true->∀ (a:Act) (K:ZoM) (w:World),Zbj n ds pw a0 a->Zib P cl X ps c sk a.env K w->c.wp P (PKx n ds pw X ps a0 K) a w
 | .skip,sk,pw,a0,_,_,_,a,K,w,hk,h=>wp_skip ⟨hk,h⟩
 | .label _,sk,pw,a0,_,_,_,a,K,w,hk,h=>wp_label ⟨hk,h⟩
 | .exit _,sk,pw,a0,_,_,_,a,K,w,hk,h=>wp_exit ⟨hk,h⟩
 | .ret,sk,pw,a0,_,_,_,a,K,w,hk,h=>wp_ret ⟨hk,h⟩
 | .region id ops d,sk,pw,a0,hc,hw,_,a,K,w,hk,h=>Zjl hcl hmix hc hw hk h
 | .goto _,sk,pw,a0,_,_,_,a,K,w,hk,h=>h.elim
 | .refuse _,sk,pw,a0,_,_,_,a,K,w,hk,h=>h.elim
 | .rangeFunc _ _ _ _,sk,pw,a0,_,_,_,a,K,w,hk,h=>h.elim
 | .scope c,sk,pw,a0,hc,hw,hs,a,K,w,hk,h=>by
  refine wp_scope_straight ?_;refine Code.wp_mono ?_ (Zaw hcl hmix c sk.l pw a0 hc hw hs a K w hk h);intro e a w hq;cases e<;>first|exact hq|exact hq.elim
 | .block id c,sk,pw,a0,hc,hw,hs,a,K,w,hk,h=>by
  refine wp_block ?_;refine Code.wp_mono ?_ (Zaw hcl hmix c sk.l pw a0 hc hw hs a _ w hk h);intro e a w hq;cases e with
  |exit i=>
   obtain ⟨hk,hq⟩:=hq;show if i=id then _ else _
   by_cases hi:i=id
   ·subst hi
    rw [if_pos rfl];have:Nat.beq i i=true:=by simp
    simp only [this] at hq;exact ⟨hk,hq⟩
   ·rw [if_neg hi]
    have:Nat.beq i id=false:=by
     cases hb:Nat.beq i id with
     |false=>rfl
     |true=>exact absurd (Nat.eq_of_beq_eq_true hb) hi
    simp only [this] at hq;exact ⟨hk,hq⟩
  |normal=>exact hq
  |ret=>exact hq
  |panic ch=>exact hq
  |_=>exact hq.elim
 | .cond c x y,sk,pw,a0,hc,hw,hs,a,K,w,hk,h=>by
  simp only [Zco,Zdh,Ze1,Bool.and_eq_true] at hc hw hs;unfold Zib at h;split at h
  ·rename_i t ht
   rw [Z4] at ht;refine wp_cond_split ht (λ hb=>?_) (λ hb=>?_)
   ·subst hb;exact Zaw hcl hmix x sk.l pw a0 hc.1 hw.1 hs.1 a K w hk h
   ·subst hb;exact Zaw hcl hmix y sk.r pw a0 hc.2 hw.2 hs.2 a K w hk h
  ·exact h.elim
 | .seq x y,sk,pw,a0,hc,hw,hs,a,K,w,hk,h=>by
  simp only [Zco,Zdh,Ze1,Bool.and_eq_true] at hc hw hs;refine wp_seq ?_;have plain:Zib P cl X ps x sk.l a.env { K with nrm:=λ ρ' w'=>Zib P cl X ps y sk.r ρ' K w' } w->x.wp P (Exit.then (y.wp P (PKx n ds pw X ps a0 K)) (PKx n ds pw X ps a0 K)) a w:=λ h=>by
   refine Code.wp_mono ?_ (Zaw hcl hmix x sk.l pw a0 hc.1 hw.1 hs.1.2 a _ w hk h);intro e a w hq;cases e with
   |normal=>exact Zaw hcl hmix y sk.r pw a0 hc.2 hw.2 hs.2 a K w hq.1 hq.2
   |_=>exact hq
  cases sk with
  |cut ms ts W l r=>
   simp only [Bool.and_eq_true] at hs;obtain ⟨J,h1,h2⟩:=(show ZcS ts ms W a.env (λ k=>Zib P cl X ps x l a.env { K with nrm:=k } w) (λ ρ' w'=>Zib P cl X ps y r ρ' K w') from h)
   have:=Zaw hcl hmix x l (λ i=>pw i && ZhZ i W) a.env hc.1 (Za9 hw.1 hs.1.1.1) hs.1.2 a _ w (Zbj.refl' hk.size hk.defers) h1;refine Code.wp_mono ?_ this;intro e b w' hq;cases e with
   |normal=>
    obtain ⟨hkb,hq⟩:=hq;have hall:=h2 b.env;have hb:=Zfg (by rw [ZeF];exact Nat.eq_of_beq_eq_true hs.1.1.2) hq hall w' hq;rw [Zf9 (λ i hi=>hkb.same i (by simp [hi]))] at hb;exact Zaw hcl hmix y r pw a0 hc.2 hw.2 hs.2 b K w' (hk.trans hkb) hb
   |exit i=>exact ⟨hk.trans hq.1,hq.2⟩
   |ret=>exact ⟨hk.trans hq.1,hq.2⟩
   |panic ch=>exact ⟨hk.trans hq.1,hq.2⟩
   |_=>exact hq.elim
  |leaf=>exact plain h
  |seq l r=>exact plain h
  |cond l r=>exact plain h
  |block l=>exact plain h
  |loop ms ts W l=>exact plain h
 | .loop c,sk,pw,a0,hc,hw,hs,a,K,w,hk,h=>by
  cases sk with
  |loop ms ts W l=>
   simp only [Ze1,Bool.and_eq_true] at hs;have hc:Zco P n ps c=true:=hc;have hw:Zdh pw c=true:=hw;obtain ⟨I,μ,h0,hstep⟩:=(show Zn3 ts ms W a.env (λ ρ' k w'=>Zib P cl X ps c l ρ' { K with nrm:=k } w') w from h)
   have hlen:∀ e:Env,(ZeU ms e).length=ts.length:=λ e=>by rw [ZeF];exact Nat.eq_of_beq_eq_true hs.1.2
   refine wp_loop (λ b v=>Zbj n ds pw a0 b/\(∀ i,ZhZ i W=false->b.env i=a.env i)/\app ts I (ZeU ms b.env) (λ p=>p v))
    (λ b v=>Zod (λ _=>0) ts μ (ZeU ms b.env) v) ⟨hk,λ _ _=>rfl,h0⟩ ?_
   rintro b v ⟨hkb,hsame,hI⟩;have hb:=Zfg (hlen b.env) hI (hstep b.env) v hI;rw [Zf9 hsame] at hb;have:=Zaw hcl hmix c l (λ i=>pw i && ZhZ i W) b.env hc (Za9 hw hs.1.1) hs.2 b _ v (Zbj.refl' hkb.size hkb.defers) hb;refine Code.wp_mono ?_ this;intro e b' v' hq;cases e with
   |normal=>
    obtain ⟨hkb',hI',hμ⟩:=hq;exact ⟨⟨hkb.trans hkb',λ i hi=>(hkb'.same i (by simp [hi])).trans (hsame i hi),hI'⟩,by
     have h1:=Zff (d:=λ _=>0) hμ;exact Zff (d:=λ _=>0) h1⟩
   |exit i=>exact ⟨hkb.trans hq.1,hq.2⟩
   |ret=>exact ⟨hkb.trans hq.1,hq.2⟩
   |panic ch=>exact ⟨hkb.trans hq.1,hq.2⟩
   |_=>exact hq.elim
  |_=>exact False.elim h
def ZsK (P:Program) (n:Nat) (fn:Func) (sk:Sk) (ps:List Nat):Bool:=
 Nat.beq n fn.ntmps && (match fn.body with|some c=>Zco P n ps c && Zdh (λ _=>true) c && Ze1 c sk|none=>false) &&
  fn.results.all λ r=>match r with| .tmp _=>true| .cell _ t=>ZmR P t
def Zxi (P:Program) (cl:FuncId->Bool) (X:List PanicEntry->World->Prop) (fn:Func) (sk:Sk) (args:List Value) (K:Value->World->Prop) (w:World):Prop:=
 match fn.body with
 |some c=>Zib P cl (λ ch _ w=>X ch w) [] c sk (Zd5 args) { nrm:=λ ρ w=>Ziq P ρ K fn.results.toList [] w,ex:=λ _ _ _=>False,ret:=λ ρ w=>Ziq P ρ K fn.results.toList [] w } w
 |none=>False
def Zdg (P:Program) (f:FuncId) (args:Array Value) (w:World) (X:List PanicEntry->World->Prop) (K:Value->World->Prop):Prop:=
 Calls P f args w λ e w'=>(∃ v,e=.returned v/\K v w')\/∃ ch,e=.panicked ch/\X ch w'
theorem Zdg.use {f:FuncId} {args:Array Value} {w:World} {X:List PanicEntry->World->Prop} {K:Value->World->Prop} {R:Ending->World->Prop} (h:Zdg P f args w X K) (k:∀ v w',K v w'->R (.returned v) w') (kx:∀ ch w',X ch w'->R (.panicked ch) w'):Calls P f args w R:=
 Calls.mono h λ e w' he=>by
  rcases he with ⟨v,rfl,hq⟩|⟨ch,rfl,hq⟩
  ·exact k v w' hq
  ·exact kx ch w' hq
theorem Zew {fn:Func} {args:List Value}:({ tmps:=args.toArray++Array.replicate (fn.ntmps - args.toArray.size) undef,defers:=[] }:Act).env=Zd5 args:=by
 funext i
 rw [Zgk];simp only [Act.env];rcases Nat.lt_or_ge i args.length with hi|hi
 ·simp [Array.getElem?_append,hi]
 ·simp only [Array.getD_eq_getD_getElem?,Array.getElem?_append,List.size_toArray,if_neg (Nat.not_lt.2 hi),Array.getElem?_replicate,List.getD_eq_getElem?_getD,List.getElem?_eq_none hi]
  split<;>rfl
theorem Zka {fn:Func} (hres:(fn.results.all λ r=>match r with| .tmp _=>true| .cell _ t=>ZmR P t)=true) {a:Act} {K:Value->World->Prop} {w:World} (hr:Ziq P a.env K fn.results.toList [] w):
  ∃ v,(results fn a.tmps).run P w=.ok v w/\K v w:=by
 obtain ⟨vs,hvs,hf⟩:=ZeI fn.results.toList [] (λ r hr=>by
  rw [Array.all_eq_true_iff_forall_mem] at hres;exact hres r (by simpa using hr)) hr
 have hm:(fn.results.mapM (Zhd a.tmps)).run P w=.ok vs.toArray w:=by
  rw [Array.mapM_eq_mapM_toList];simp only [Sem.run_map,hvs,Result.andThen_ok]
 refine ⟨_,by rw [Zip,Sem.run_bind,hm];rfl,?_⟩;cases vs with
 |nil=>exact hf
 |cons v vs=>cases vs with
  |nil=>exact hf
  |cons u us=>exact hf
theorem Zqx {f:FuncId} {fn:Func} {sk:Sk} (hcl:∀ g,cl g=true->ZG P g=true) (hmix:P.follows .mixedOrders=true)
  (hf:P.funcs[f]? =some fn) (hok:ZsK P fn.ntmps fn sk []=true) {args:List Value} {X:List PanicEntry->World->Prop} {K:Value->World->Prop} {w:World} (hargs:args.length<=fn.ntmps)
  (h:Zxi P cl X fn sk args K w):Zdg P f args.toArray w X K:=by
 unfold Zdg;unfold Zxi at h;unfold ZsK at hok;simp only [Bool.and_eq_true] at hok;obtain ⟨⟨_,hbody⟩,hres⟩:=hok;split at h
 case h_2=>exact h.elim
 rename_i c hb;rw [hb] at hbody;simp only [Bool.and_eq_true] at hbody;refine calls_of_wp hf hb ?_;rw [<-Zew (fn:=fn)] at h;refine Code.wp_mono ?_ (Zaw (n:=fn.ntmps) (ds:=[]) hcl hmix c sk (λ _=>true) _ hbody.1.1 hbody.1.2 hbody.2 _ _ w (Zbj.refl' (by simp;omega) rfl) h);intro e a w hq;cases e with
 |normal=>obtain ⟨v,h1,h2⟩:=Zka hres hq.2;exact ⟨hq.1.defers,v,h1,.inl ⟨v,rfl,h2⟩⟩
 |ret=>obtain ⟨v,h1,h2⟩:=Zka hres hq.2;exact ⟨hq.1.defers,v,h1,.inl ⟨v,rfl,h2⟩⟩
 |exit i=>exact hq.2.elim
 |panic ch=>exact ⟨hq.1.defers,.inr ⟨ch,rfl,hq.2⟩⟩
 |_=>exact hq.elim
end
section
open Go
section
variable {P:Program} {cl:FuncId->Bool}
theorem Zpu (hcl:∀ g,cl g=true->ZG P g=true) {ops:Array Oper} {K:Env->World->Prop} {n:Nat} {pw:Nat->Bool} {a0:Env} {cs:List Frame} {Q:Exit->Act->List Frame->World->Prop}
    (hQ:∀ a w,ZcB n pw a0 a->K a.env w->Q .normal a cs w):∀ (l:List Nat) (os:List Oper) (_:l.map (λ i=>ops[i]?)=os.map some) (_:∀ o∈os,Zgr P o.op=true/\Zbi n pw o=true) (a:Act) (w:World),
      ZcB n pw a0 a->ZqW P cl ops os a.env K w->wpOpsS P ops Q l a cs w
  |[],os,hl,_,a,w,hk,h=>by
    have:os=[]:=by cases os with
      |nil=>rfl
      |cons _ _=>simp at hl
    subst this;exact hQ a w hk h
  |i::l,os,hl,hok,a,w,hk,h=>by
    cases os with
    |nil=>simp at hl
    |cons o os=>
      simp only [List.map_cons,List.cons.injEq] at hl;obtain ⟨hi,hl⟩:=hl;have ho:=hok o (List.mem_cons_self ..);have hrest:=λ x hx=>hok x (List.mem_cons_of_mem _ hx);unfold ZqW at h;simp only [wpOpsS,hi];rcases ZT h with ⟨hw,h⟩|⟨hw,h⟩
      · rw [if_pos hw]
        have h2:=Zkt hcl (a:=a) (Q:=λ e a' w'=>Q e a' cs w') ho.1 h;rw [Z4] at h2;have key:o.upon P a (λ a' w'=>wpOpsS P ops Q l a' cs w') (λ e a' w'=>Q e a' cs w') ((execOp a.eval o).run P w):=by
          refine Zal.upon_mono ?_ h2;rintro a' w' ⟨v,rfl,hv⟩;refine Zpu hcl hQ l os hl hrest _ w' (hk.put ho.2 v) ?_;rw [hk.envput ho.2];exact hv
        split
        · rename_i w' hr
          rw [hr] at key;exact key.elim
        · exact key
      · rw [hw]
        simp only [Bool.false_eq_true,if_false];refine Zpu hcl hQ l os hl hrest _ w (hk.put ho.2 _) ?_;rw [hk.envput ho.2];exact h
def Zwo (P:Program) (cl:FuncId->Bool) (fn:Func) (sk:Sk) (args:List Value) (x:Value) (K:World->Prop) (w:World):Prop:=
  match fn.body with
  |some (.seq (.region _ o0 false) rest)=>(match o0.toList with
    |orec::tl=>ZqW P cl o0 tl ((Zd5 args).put orec.dst x) (λ ρ w=>den P cl rest sk ρ { nrm:=λ _ w=>K w,ex:=λ _ _ _=>False,ret:=λ _ w=>K w } w) w
    |[]=>False)
  |_=>False
def Zrd (P:Program) (fn:Func) (sk:Sk):Bool:=
  (match fn.body with
  |some (.seq (.region _ o0 false) rest)=>(match o0.toList with
    |orec::tl=>(match orec.op with| .call ⟨.builtin .recover,_,_⟩=>true|_=>false) && orec.guard.isNone && (match orec.dst with|some d=>Nat.blt d fn.ntmps|none=>true) &&
        (tl.all λ o=>Zgr P o.op && Zbi fn.ntmps (λ _=>true) o) && Zcr P fn.ntmps rest && Zdh (λ _=>true) rest && Ze1 rest sk
    |[]=>false)
  |_=>false) && fn.results.isEmpty
theorem Zpd (hcl:∀ g,cl g=true->ZG P g=true) (hmix:P.follows .mixedOrders=true) {f:FuncId} {fn:Func} {sk:Sk} (hf:P.funcs[f]? =some fn) (hok:Zrd P fn sk=true) {args:List Value} (hargs:args.length<=fn.ntmps)
    {K:World->Prop} {w:World} {u u':FrameMode} {x:Value} (hrec:∀ (c₀:Frame) (cs:List Frame),c₀.mode=u->(recoverD (c₀::cs)=some (x,{ c₀ with mode:=u' }::cs))\/(recoverD (c₀::cs)=none/\x=.nilIface/\u'=u))
    (h:Zwo P cl fn sk args x K w):CallsD P f args.toArray u w λ e v w'=>(∃ y,e=.returned y)/\v=u'/\K w':=by
  unfold Zrd at hok;unfold Zwo at h;rw [Bool.and_eq_true] at hok;obtain ⟨hok,hres⟩:=hok;split at h
  case h_2=>exact h.elim
  rename_i id o0 rest hb;rw [hb] at hok;simp only at hok;split at h
  case h_2=>exact h.elim
  rename_i orec tl ho;rw [ho] at hok;simp only [Bool.and_eq_true] at hok;obtain ⟨⟨⟨⟨⟨⟨hop,hg⟩,hd⟩,htl⟩,hco⟩,hwr⟩,hsk⟩:=hok;have henv:=Zew (fn:=fn) (args:=args);refine callsD_of_wpS hf hb λ c₀ cs hc=>wpS_seq (wpS_region ?_);generalize hA:({ tmps:=args.toArray++Array.replicate (fn.ntmps - args.toArray.size) undef,defers:=[] }:Act)=A at henv;have hAs:A.tmps.size=fn.ntmps:=by rw [<-hA];simp;omega
  have hAd:A.defers=[]:=by rw [<-hA]
  have hres0:fn.results=#[]:=by simpa using hres
  have hsize:o0.size=tl.length + 1:=by rw [<-Array.length_toList,ho];simp
  have hrange:List.range o0.size=0::(List.range tl.length).map (· + 1):=by rw [hsize,List.range_succ_eq_map]
  rw [hrange];have h0:o0[0]? =some orec:=by rw [<-Array.getElem?_toList,ho];rfl
  have hmap:((List.range tl.length).map (· + 1)).map (λ i=>o0[i]?)=tl.map some:=by
    rw [List.map_map];apply List.ext_getElem?;intro i;simp only [List.getElem?_map];by_cases hi:i<tl.length
    · simp only [List.getElem?_range hi,Option.map_some,Function.comp]
      rw [<-Array.getElem?_toList,ho,List.getElem?_cons_succ];simp [hi]
    · rw [List.getElem?_eq_none (by simpa using hi),List.getElem?_eq_none (by omega)];rfl
  have hrun:(execOp A.eval orec).run P w=.ok .recover w:=by
    obtain ⟨dst,op,ty,pos,after,guard⟩:=orec;dsimp only at hop;split at hop
    · rfl
    · cases hop
  have hwant:Region.wanted orec (yielded o0 A.tmps)=true:=by
    unfold Region.wanted;rw [Option.isNone_iff_eq_none.1 hg]
  have hdst:Zbi fn.ntmps (λ _=>true) orec=true:=by
    unfold Zbi;cases hx:orec.dst with
    |none=>rfl
    |some d=>rw [hx] at hd;simpa using hd
  have hk0:ZcB fn.ntmps (λ _=>true) A.env A:=ZcB.refl hAs hAd;have go:∀ (cs':List Frame),cs'={ c₀ with mode:=u' }::cs->wpOpsS P o0 (Exit.thenS (rest.wpS P (bodyPostS P fn c₀ cs λ e v w'=>(∃ y,e=.returned y)/\v=u'/\K w')) (bodyPostS P fn c₀ cs λ e v w'=>(∃ y,e=.returned y)/\v=u'/\K w'))
      ((List.range tl.length).map (· + 1)) (A.put orec.dst x) cs' w:=λ cs' hcs=>by
    refine Zpu (n:=fn.ntmps) (pw:=λ _=>true) (a0:=A.env) (K:=λ ρ w=>den P cl rest sk ρ { nrm:=λ _ w=>K w,ex:=λ _ _ _=>False,ret:=λ _ w=>K w } w) hcl ?_ _ tl hmap (λ o hm=>by
      have:=List.all_eq_true.1 htl o hm;simpa using this) _ w (hk0.put hdst x) ?_
    · intro a w hk hden
      refine wpS_of_wp ?_;refine Code.wp_mono ?_ (ZaV (n:=fn.ntmps) hcl hmix rest sk (λ _=>true) a.env hco hwr hsk a _ w (ZcB.refl hk.size hk.defers) hden);have fin:∀ (a:Act) (w:World),a.defers=[]->K w->a.defers=[]/\∃ u'',cs'={ c₀ with mode:=u'' }::cs/\∃ v,(results fn a.tmps).run P w=.ok v w/\((∃ y,Ending.returned v=.returned y)/\u''=u'/\K w):=λ a w hd hK=>
        ⟨hd,u',hcs,.tuple #[],by
          simp [results,hres0],⟨_,rfl⟩,rfl,hK⟩
      intro e b w hq;cases e with
      |normal=>exact fin b w hq.1.defers hq.2
      |ret=>exact fin b w hq.1.defers hq.2
      |exit i=>exact hq.2.elim
      |_=>exact hq.elim
    · rw [hk0.envput hdst,henv];exact h
  simp only [wpOpsS,h0,hwant,if_true,hrun];rcases hrec c₀ cs hc with hr|⟨hr,rfl,rfl⟩
  · rw [hr];exact go _ rfl
  · rw [hr];exact go _ (by rw [<-hc])
theorem Zpc (hcl:∀ g,cl g=true->ZG P g=true) (hmix:P.follows .mixedOrders=true) {f:FuncId} {fn:Func} {sk:Sk} (hf:P.funcs[f]? =some fn) (hok:Zrd P fn sk=true) {args:List Value} (hargs:args.length<=fn.ntmps)
    {K:World->Prop} {w:World} {x:Value} (h:Zwo P cl fn sk args x K w):
    CallsD P f args.toArray (.panicking [{ v:=x,recovered:=false }]) w λ e v w'=>(∃ y,e=.returned y)/\v=.panicking [{ v:=x,recovered:=true }]/\K w':=
  Zpd hcl hmix hf hok hargs (λ c₀ cs hc=>.inl (by simp [recoverD,hc])) h
theorem ZnG (hcl:∀ g,cl g=true->ZG P g=true) (hmix:P.follows .mixedOrders=true) {f:FuncId} {fn:Func} {sk:Sk} (hf:P.funcs[f]? =some fn) (hok:Zrd P fn sk=true) {args:List Value} (hargs:args.length<=fn.ntmps)
    {K:World->Prop} {w:World} (h:Zwo P cl fn sk args .nilIface K w):
    CallsD P f args.toArray .returning w λ e v w'=>(∃ y,e=.returned y)/\v=.returning/\K w':=
  Zpd hcl hmix hf hok hargs (λ c₀ cs hc=>.inr ⟨by simp [recoverD,hc],rfl,rfl⟩) h
def Zkb (P:Program) (K:Value->World->Prop):List ResultVar->List Value->List Value->World->Prop
  |[],_,acc,w=>ZuI K acc.reverse w
  | .tmp _::rs,v::vs,acc,w=>Zkb P K rs vs (v::acc) w
  | .cell _ t::rs,v::vs,acc,w=>Zh8 P (λ w'=>w'=w) t v λ x=>Zkb P K rs vs (x::acc) w
  |_::_,[],_,_=>False
def Zg2:ResultVar->Nat| .tmp t=>t| .cell a _=>a
theorem Zjj {ρ:Env} {K:Value->World->Prop}:∀ (rs:List ResultVar) (acc:List Value) (w:World),Zkb P K rs (ZeU (rs.map Zg2) ρ) acc w->Ziq P ρ K rs acc w
  |[],_,_,h=>h
  | .tmp t::rs,acc,w,h=>Zjj rs (ρ t::acc) w h
  | .cell a t::rs,acc,w,h=>by
    have h:Zh8 P (λ w'=>w'=w) t (ρ a) λ x=>Zkb P K rs (ZeU (rs.map Zg2) ρ) (x::acc) w:=h;show Zh8 P (λ w'=>w'=w) t (ρ a) λ x=>Ziq P ρ K rs (x::acc) w;have mono:∀ {F G:Value->Prop},(∀ x,F x->G x)->Zh8 P (λ w'=>w'=w) t (ρ a) F->Zh8 P (λ w'=>w'=w) t (ρ a) G:=λ {F G} hFG hl=>by
      have exm:∀ {ty:Ty} {F G:Value->Prop},(∀ x,F x->G x)->ty.ex F->ty.ex G:=λ {ty F G} hFG h=>by
        cases ty<;>(obtain ⟨y,hy⟩:=h;exact ⟨y,hFG _ hy⟩)
      have exA:∀ {ts:List Ty} {F G:List Value->Prop},(∀ x,F x->G x)->ZlT ts F->ZlT ts G:=λ {ts}=>by
        induction ts with
        |nil=>exact λ hFG h=>hFG _ h
        |cons ty ts ih=>exact λ hFG h=>exm (λ v hv=>ih (λ x hx=>hFG _ hx) hv) h
      unfold Zh8 at hl ⊢;split at hl
      · unfold Zb at hl ⊢
        split at hl
        · cases hagg:ZiF P t
          · simp only [hagg] at hl ⊢
            exact exm (λ x hx=>⟨hx.1,hFG _ hx.2⟩) hl
          · simp only [hagg] at hl ⊢
            split at hl
            · exact exA (λ x hx=>⟨hx.1,hFG _ hx.2⟩) hl
            · obtain ⟨vs,h1,h2,h3⟩:=hl
              exact ⟨vs,h1,h2,hFG _ h3⟩
        · exact hl.elim
      · exact hl.elim
    exact mono (λ x hx=>Zjj rs (x::acc) w hx) h
def ZeC (P:Program) (g:FuncId) (args:List Value) (u:FrameMode) (Kr:World->Prop) (w:World):Prop:=
  CallsD P g args.toArray u w λ e u' w'=>(∃ y,e=.returned y)/\settle u'=.returning/\Kr w'
def tgtF (cl:FuncId->Bool) (f:Value) (K:FuncId->List Value->List Value->Prop):Prop:=
  match f with
  | .func fn first captured=>(match fn with
    | .func g=>(match cl g with
      |true=>K g first.toList captured.toList
      |false=>False)
    |_=>False)
  |_=>False
def Zxo (P:Program) (cl:FuncId->Bool) (fn:Func) (sk:Sk) (args:List Value) (K:Value->World->Prop) (w:World):Prop:=
  match fn.body with
  |some (.seq (.region _ o0 false) (.seq (.region _ o1 false) rest))=>
    ZqW P cl o0 o0.toList (Zd5 args) (λ ρ w=>ZqW P cl o1 o1.toList.dropLast ρ (λ ρ w=>
      match o1.toList.getLast? with
      |some od=>(match od.op with
        | .defer c=>(match c.callee with
          | .value f=>tgtF cl (ρ.ev f) λ g first captured=>
              Zib P cl (λ ch vs w=>ZeC P g (first++((c.args.map ρ.ev).toList++captured)) (.panicking ch) (Zkb P K fn.results.toList vs []) w) (fn.results.toList.map Zg2) rest sk ρ
                { nrm:=λ ρ' w=>ZeC P g (first++((c.args.map ρ.ev).toList++captured)) .returning (Zkb P K fn.results.toList (ZeU (fn.results.toList.map Zg2) ρ') []) w,ex:=λ _ _ _=>False,
                  ret:=λ ρ' w=>ZeC P g (first++((c.args.map ρ.ev).toList++captured)) .returning (Zkb P K fn.results.toList (ZeU (fn.results.toList.map Zg2) ρ') []) w } w
          |_=>False)
        |_=>False)
      |none=>False) w) w
  |_=>False
def ZsS (P:Program) (cl:FuncId->Bool) (fn:Func) (sk:Sk):Bool:=
  (match fn.body with
  |some (.seq (.region _ o0 false) (.seq (.region _ o1 false) rest))=>
    (o0.toList.all λ o=>Zgr P o.op && Zbi fn.ntmps (λ _=>true) o) && (o1.toList.dropLast.all λ o=>Zgr P o.op && Zbi fn.ntmps (λ _=>true) o) &&
      (match o1.toList.getLast? with|some od=>od.guard.isNone && od.dst.isNone|none=>false) &&
      Zco P fn.ntmps (fn.results.toList.map Zg2) rest && Zdh (λ _=>true) rest && Ze1 rest sk
  |_=>false) && fn.results.all λ r=>match r with| .tmp _=>true| .cell _ t=>ZmR P t
theorem Zdi {ops:Array Oper} {Q:Exit->Act->World->Prop}:∀ (l l':List Oper) (a:Act) (w:World),wpList P ops (Exit.then (λ a w=>wpList P ops Q l' a w) Q) l a w->wpList P ops Q (l++l') a w
  |[],l',a,w,h=>h
  |o::l,l',a,w,h=>by
    unfold wpList at h;rw [List.cons_append];unfold wpList;by_cases hw:Region.wanted o (yielded ops a.tmps)=true
    · rw [if_pos hw] at h ⊢
      rcases h with h|h
      · refine .inl ?_
        unfold Oper.wp at h ⊢
        revert h
        cases (execOp a.eval o).run P w with
        |ok x w'=>
          cases x<;>simp only [Oper.upon]<;>
            first
              |exact λ h=>Zdi l l' _ _ h
              |(intro h;refine Calls.mono h ?_;intro e w'' he;cases e<;>first|exact Zdi l l' _ _ he|exact he)
              |(intro h;exact Rows.mono h λ _ _ he=>Zdi l l' _ _ he)
              |exact λ h=>h
        |halt x w'=>cases x<;>simp only [Oper.upon]<;>exact λ h=>h
      · exact .inr h
    · rw [if_neg hw] at h ⊢
      exact Zdi l l' _ _ h
theorem CallsD.mono {f:FuncId} {args:Array Value} {u:FrameMode} {w:World} {R R':Ending->FrameMode->World->Prop} (h:CallsD P f args u w R) (k:∀ e u w,R e u w->R' e u w):CallsD P f args u w R':=
  λ c cs hc=>let ⟨e,u',w',fr,r,s⟩:=h c cs hc;⟨e,u',w',fr,k _ _ _ r,s⟩
theorem Zfb (hcl:∀ g,cl g=true->ZG P g=true) {fn:Func} (hres:(fn.results.all λ r=>match r with| .tmp _=>true| .cell _ t=>ZmR P t)=true) {a:Act} {g:FuncId} (hg:cl g=true) {first cargs captured:Array Value} {u:FrameMode} (hu:u≠.run)
    {K:Value->World->Prop} {w:World} (h:ZeC P g (first.toList++(cargs.toList++captured.toList)) u (Zkb P K fn.results.toList (ZeU (fn.results.toList.map Zg2) a.env) []) w):
    Leaves P fn a.tmps (λ e w'=>∃ v,e=.returned v/\K v w') [{ target:=.fn (.func g) captured,args:=first++cargs }] u w:=by
  refine ⟨hu,_,_,g,(first.toList++(cargs.toList++captured.toList)).toArray,rfl,?_,?_⟩
  · have e:(first++cargs)++captured=(first.toList++(cargs.toList++captured.toList)).toArray:=by apply Array.ext';simp
    simp only [invoke,e];exact Zdb (hcl g hg) _ w
  · refine CallsD.mono h ?_
    rintro e u' w' ⟨⟨y,rfl⟩,hs,hr⟩;show Leaves P fn a.tmps _ [] (settle u') w';rw [hs];obtain ⟨v,h1,h2⟩:=Zka hres (Zjj _ _ _ hr);exact ⟨v,h1,v,rfl,h2⟩
theorem Zqz (hcl:∀ g,cl g=true->ZG P g=true) (hmix:P.follows .mixedOrders=true) {f:FuncId} {fn:Func} {sk:Sk} (hf:P.funcs[f]? =some fn) (hok:ZsS P cl fn sk=true) {args:List Value} (hargs:args.length<=fn.ntmps)
    {K:Value->World->Prop} {w:World} (h:Zxo P cl fn sk args K w):Zq P f args.toArray w K:=by
  unfold Zq;unfold ZsS at hok;unfold Zxo at h;rw [Bool.and_eq_true] at hok;obtain ⟨hok,hres⟩:=hok;split at h
  case h_2=>exact h.elim
  rename_i i0 o0 i1 o1 rest hb;rw [hb] at hok;simp only [Bool.and_eq_true] at hok;obtain ⟨⟨⟨⟨⟨h0,h1⟩,hlast⟩,hco⟩,hwr⟩,hsk⟩:=hok;refine calls_of_wp_defers hf hb ?_;have henv:=Zew (fn:=fn) (args:=args);generalize hA:({ tmps:=args.toArray++Array.replicate (fn.ntmps - args.toArray.size) undef,defers:=[] }:Act)=A at henv;have hAs:A.tmps.size=fn.ntmps:=by rw [<-hA];simp;omega
  have hAd:A.defers=[]:=by rw [<-hA]
  rw [<-henv] at h;refine wp_seq (wp_region_list (Zal (n:=fn.ntmps) (pw:=λ _=>true) (a0:=A.env) hcl ?_ o0.toList (λ o ho=>by have:=List.all_eq_true.1 h0 o ho;simpa using this) A w (ZcB.refl hAs hAd) h));clear h;intro a w hk h;show (Code.seq (.region i1 o1 false) rest).wp P _ a w;refine wp_seq (wp_region_list ?_);cases hl:o1.toList.getLast? with
  |none=>rw [hl] at hlast;cases hlast
  |some od=>
    rw [hl] at hlast;simp only [Bool.and_eq_true] at hlast;have hsplit:o1.toList=o1.toList.dropLast++[od]:=by
      obtain ⟨l,hl2⟩:=List.getLast?_eq_some_iff.1 hl;rw [hl2];simp
    rw [hsplit];refine Zdi _ _ _ _ ?_;refine Zal (n:=fn.ntmps) (pw:=λ _=>true) (a0:=a.env) hcl ?_ o1.toList.dropLast (λ o ho=>by have:=List.all_eq_true.1 h1 o ho;simpa using this) a w (ZcB.refl hk.size hk.defers) h;clear h;intro b w hkb h;show wpList P o1 _ [od] b w;unfold wpList;have hwant:Region.wanted od (yielded o1 b.tmps)=true:=by
      unfold Region.wanted;rw [Option.isNone_iff_eq_none.1 hlast.1]
    rw [if_pos hwant];refine .inl ?_;rw [hl] at h;simp only at h;clear hsplit hl hwant h1;obtain ⟨dst,op,ty,pos,after,guard⟩:=od;dsimp only at h hlast;obtain ⟨hg0,hd0⟩:=hlast;have hd0:=Option.isNone_iff_eq_none.1 hd0;subst hd0;split at h
    case h_2=>exact h.elim
    rename_i c;obtain ⟨callee,cargs,ats⟩:=c;dsimp only at h;split at h
    case h_2=>exact h.elim
    rename_i fv;unfold tgtF at h;split at h
    case h_2=>exact h.elim
    rename_i fn' first captured hfv
    split at h
    case h_2=>exact h.elim
    rename_i g;split at h
    case h_2=>exact h.elim
    rename_i hg;have hrun:(execOp b.eval ⟨none,.defer ⟨.value fv,cargs,ats⟩,ty,pos,after,guard⟩).run P w=.ok (.defer { target:=.fn (.func g) captured,args:=first++cargs.map b.eval }) w:=by
      rw [Z4] at hfv;simp only [execOp,resolve,hfv,Deferred.ofValue];simp
    unfold Oper.wp;rw [hrun];rw [Z4] at h;generalize hB:({ tmps:=b.tmps,defers:={ target:=.fn (.func g) captured,args:=first++cargs.map b.eval }::b.defers }:Act)=B
    have hBe:B.env=b.env:=by rw [<-hB];rfl
    have hBs:B.tmps.size=fn.ntmps:=by rw [<-hB];exact hkb.size
    have hBd:B.defers=[{ target:=.fn (.func g) captured,args:=first++cargs.map b.eval }]:=by rw [<-hB];simp [hkb.defers]
    rw [Oper.upon_defer];show wpList P o1 _ [] ({ b with defers:={ target:=.fn (.func g) captured,args:=first++cargs.map b.eval }::b.defers }.put none undef) w
    show rest.wp P _ ({ b with defers:={ target:=.fn (.func g) captured,args:=first++cargs.map b.eval }::b.defers }.put none undef) w
    have hput:({ b with defers:={ target:=.fn (.func g) captured,args:=first++cargs.map b.eval }::b.defers }:Act).put none undef=B:=hB
    rw [hput];rw [<-hBe] at h;refine Code.wp_mono ?_ (Zaw (n:=fn.ntmps) (ds:=[{ target:=.fn (.func g) captured,args:=first++cargs.map b.eval }]) hcl hmix rest sk (λ _=>true) B.env hco hwr hsk B _ w (Zbj.refl' hBs hBd) h)
    intro e a' w' hq;cases e with
    |normal=>
      show Leaves P fn a'.tmps _ a'.defers .returning w';rw [hq.1.defers];exact Zfb hcl hres hg (by simp) hq.2
    |ret=>
      show Leaves P fn a'.tmps _ a'.defers .returning w';rw [hq.1.defers];exact Zfb hcl hres hg (by simp) hq.2
    |exit i=>exact hq.2.elim
    |panic ch=>
      show Leaves P fn a'.tmps _ a'.defers (.panicking ch) w';rw [hq.1.defers];exact Zfb hcl hres hg (by simp) hq.2
    |_=>exact hq.elim
end
end
end Go.VC
namespace Go.Proofs.YtkfedbncmfnpnaaGreatDoor
section
open Go Go.VC Tryz
set_option maxRecDepth 10000
def Zsa:List Nat:=[3,4,5,6,7,8,9,10,11,12,13,14,15,16,17,18,19,20,21,22,23,24,25,26,27,28,29,30,31,32,33,34,35,36,37,38,39,40,41,42,43,44,45,46,47,48,49,50,51,52,53,54,55,56,57,58,59,60,61,62,63,64,65,66,67,68,69,70,71,72,73,74,75,76,77,78,79,80,81,82,83,84,85,86,87,88,89,90,91,92,93,94,95,96,97,98,99,100,101,102,103,104,105,106,107,108,109,110,111,112,113,114,115,116,117,118,119,120,121,122,123,124,125,126,127,128,129,130,131,132,133,134,135,136,137,138,139,140,141,142,143,144,145,146,147,148,149,150,151,152,153,154,155,156,157,158,159,160,161,162,163,164,165,166,167,168,169,170,171,172,173,174,175,176,177,178,179,180,181,182,183,184,185,186,187,188,189,190,191,192,193,194,195,196,197,198,199,200,201,202,203,204,205,206,207,208,209,210,211,212,215,216,217,218,219,220,221,222,223,224,225,226,227,228,229,230,231,232,233,234,235,236,237,238,239]
def cl:FuncId->Bool:=λ g=>ZhZ g Zsa
theorem Zqs:Zsa.all (ZG prog)=true:=by kernel_rfl
theorem Zid (g:FuncId) (h:cl g=true):ZG prog g=true:=by
  have key:∀ l:List Nat,ZhZ g l=true->l.all (ZG prog)=true->ZG prog g=true:=λ l=>by
    induction l with
    |nil=>intro h;cases h
    |cons x l ih=>
      intro h h2;simp only [List.all_cons,Bool.and_eq_true] at h2;simp only [ZhZ] at h;split at h
      · rename_i hb;rw [Nat.eq_of_beq_eq_true hb];exact h2.1
      · exact ih h h2.2
  exact key _ h Zqs
theorem mixed:prog.follows .mixedOrders=true:=by kernel_rfl
theorem cq {f:FuncId} {fn:Func} {sk:Sk} {args:List Value} {K:Value->World->Prop} {w:World} {B:Prop} (hf:prog.funcs[f]? =some fn) (hok:Zwq prog fn.ntmps fn sk=true) (ha:Nat.ble args.length fn.ntmps=true) (he:fnF prog cl fn sk args K w=B) (h:B):Zq prog f args.toArray w K:=Znb Zid mixed hf hok (Nat.le_of_ble_eq_true ha) (Eq.mpr he h)
theorem cqx {f:FuncId} {fn:Func} {sk:Sk} {args:List Value} {X:List PanicEntry->World->Prop} {K:Value->World->Prop} {w:World} {B:Prop} (hf:prog.funcs[f]? =some fn) (hok:ZsK prog fn.ntmps fn sk []=true) (ha:Nat.ble args.length fn.ntmps=true) (he:Zxi prog cl X fn sk args K w=B) (h:B):Zdg prog f args.toArray w X K:=Zqx Zid mixed hf hok (Nat.le_of_ble_eq_true ha) (Eq.mpr he h)
theorem cqd {f:FuncId} {fn:Func} {sk:Sk} {args:List Value} {K:Value->World->Prop} {w:World} {B:Prop} (hf:prog.funcs[f]? =some fn) (hok:ZsS prog cl fn sk=true) (ha:Nat.ble args.length fn.ntmps=true) (he:Zxo prog cl fn sk args K w=B) (h:B):Zq prog f args.toArray w K:=Zqz Zid mixed hf hok (Nat.le_of_ble_eq_true ha) (Eq.mpr he h)
def B98 (c:Sl) (K:Value->World->Prop) (w:World):Prop:=
 Br c.a.isNone
 (K (.slice none 0 0) w)
 (New (.cells #[] 5 (0,0)) (λ e f=>
 ∃ d:World,∃ b:Sl,((Builtin.append_ #[53,53] 53 #[.slice ((some ⟨e,0,none⟩)) 0 0,.slice c.a c.len c.cap]).run prog f=.ok (.slice b.a b.len b.cap) d)/\
 K (.slice b.a b.len b.cap) d) w)
theorem ZuQ (b:Sl) (K:Value->World->Prop) (w:World) (h:B98 b K w):Zq prog 98 #[.slice b.a b.len b.cap] w K:=cq (sk:=.leaf) func98 (by kernel_rfl) (by kernel_rfl) (by kernel_rfl) h
def B113 (j:Int) (K:Value->World->Prop) (w:World):Prop:=
 Calls prog 165 #[.int .u64 j] w λ n o=>
 ∃ g:Int,(n=.returned (.int .i64 g))/\
 New (.cells #[.int .u8 (IntKind.u8.wrap (IntKind.i64.wrap ((IntKind.i64.wrap (g + 7)).tdiv 8)))] 5 (0,0)) (λ l p=>
 ∃ (f:Int->Sl->World->Prop) (k:Int->Sl->World->Nat),(f (IntKind.i64.wrap ((IntKind.i64.wrap (g + 7)).tdiv 8)) ⟨(some ⟨l,0,none⟩),1,1⟩ p)/\∀ (r:Env) (c:Int) (b:Sl) (e:World),f c b e->
 Br (decide (c>0))
 (Ge0 (IntKind.i64.wrap (8 * IntKind.i64.wrap (c - 1))) (New (.cells #[.int .u8 (IntKind.u8.wrap (ZhY IntKind.u64 j (IntKind.i64.wrap (8 * IntKind.i64.wrap (c - 1)))))] 5 (0,0)) (λ m q=>
 ∃ i:World,∃ d:Sl,((Builtin.append_ #[53,53] 53 #[.slice b.a b.len b.cap,.slice ((some ⟨m,0,none⟩)) 1 1]).run prog q=.ok (.slice d.a d.len d.cap) i)/\
 (f (IntKind.i64.wrap (c - 1)) d i)/\k (IntKind.i64.wrap (c - 1)) d i<k c b e) e))
 (K (.slice b.a b.len b.cap) e)) o
def Zw0:Sk:=(.seq .leaf (.seq .leaf (.seq .leaf (.seq (.block (.loop [3,4] [(.int .i64),.sl] [3,4,12,13,14,15,16,17,18,19,20,21,22,23] .leaf)) .leaf))))
theorem ZtY (a:Int) (K:Value->World->Prop) (w:World) (h:B113 a K w):Zq prog 113 #[.int .u64 a] w K:=cq (sk:=Zw0) func113 (by kernel_rfl) (by kernel_rfl) (by kernel_rfl) h
def B111 (c:Sl) (K:Value->World->Prop) (w:World):Prop:=
 Calls prog 98 #[.slice c.a c.len c.cap] w λ e f=>
 ∃ b:Sl,(e=.returned (.slice b.a b.len b.cap))/\
 New (.cells #[.slice b.a b.len b.cap,.bool false] 180 (0,0)) (λ d g=>
 K (.pointer ((some ⟨d,0,none⟩))) g) f
theorem Zt0 (b:Sl) (K:Value->World->Prop) (w:World) (h:B111 b K w):Zq prog 111 #[.slice b.a b.len b.cap] w K:=cq (sk:=.leaf) func111 (by kernel_rfl) (by kernel_rfl) (by kernel_rfl) h
def B155 (i:Option Addr) (g:Int) (K:Value->World->Prop) (w:World):Prop:=
 New (.cells #[.int .u64 g] 148 (0,0)) (λ e k=>
 New (.cells #[.int .u64 0] 148 (0,0)) (λ a l=>
 ∃ c:World,((Instr.storeAt 148 (.pointer ((some ⟨a,0,none⟩))) (.int .u64 0)).run prog l=.ok () c)/\
 Calls prog 190 #[.pointer i,.func (.func 191) #[] #[.pointer ((some ⟨e,0,none⟩)),.pointer ((some ⟨a,0,none⟩))]] c λ f d=>
 (f=.returned (.tuple #[]))/\
 ∃ b:Int,(At (λ j=>j=d) ⟨a,0,none⟩ [.int .u64 b])/\
 K (.int .u64 b) d) k) w
theorem Ztv (b:Option Addr) (a:Int) (K:Value->World->Prop) (w:World) (h:B155 b a K w):Zq prog 155 #[.pointer b,.int .u64 a] w K:=cq (sk:=.leaf) func155 (by kernel_rfl) (by kernel_rfl) (by kernel_rfl) h
def B157 (e:Option Addr) (K:Value->World->Prop) (w:World):Prop:=
 Zb e λ d=>
 ∃ f:Bool,(At (λ c=>c=w) ⟨d.block,d.off + 1,none⟩ [.bool f])/\
 Br (!f)
 (Zb e λ g=>
 ∃ b:Sl,(At (λ c=>c=w) (Addr.add g 0) [.slice b.a b.len b.cap])/\
 K (.bool ((↑b.len:Int)==0)) w)
 (K (.bool false) w)
theorem Ztt (a:Option Addr) (K:Value->World->Prop) (w:World) (h:B157 a K w):Zq prog 157 #[.pointer a] w K:=cq (sk:=.leaf) func157 (by kernel_rfl) (by kernel_rfl) (by kernel_rfl) h
def B190 (z:Option Addr) (y:Value) (K:Value->World->Prop) (w:World):Prop:=
 New (.cells #[.pointer z] 144 (0,0)) (λ c j=>
 ∃ r:Option Addr,(At (λ b=>b=j) ⟨c,0,none⟩ [.pointer r])/\
 Zb r λ k=>
 ∃ s:Bool,(At (λ b=>b=j) ⟨k.block,k.off + 1,none⟩ [.bool s])/\
 Calls prog 193 #[.bool (!s)] j λ n f=>
 ((n=.returned (.tuple #[]))/\
 ∃ p:Option Addr,(At (λ b=>b=f) ⟨c,0,none⟩ [.pointer p])/\
 Zb p λ v=>
 ∃ d:Sl,(At (λ b=>b=f) (Addr.add v 0) [.slice d.a d.len d.cap])/\
 New (.cells #[.slice none 0 0] 53 (0,0)) (λ i A=>
 ∃ t:World,((Instr.storeAt 53 (.pointer ((some ⟨i,0,none⟩))) (.slice d.a d.len d.cap)).run prog A=.ok () t)/\
 Zcm prog cl y [.pointer ((some ⟨i,0,none⟩))] t λ o g=>
 ((o=.returned (.tuple #[]))/\
 ∃ q:Option Addr,(At (λ b=>b=g) ⟨c,0,none⟩ [.pointer q])/\
 ∃ e:Sl,(At (λ b=>b=g) ⟨i,0,none⟩ [.slice e.a e.len e.cap])/\
 Zb q λ x=>
 ∃ u:World,((Instr.storeAt 53 (.pointer ((some (Addr.add x 0)))) (.slice e.a e.len e.cap)).run prog g=.ok () u)/\
 ZeC prog 221 [.pointer ((some ⟨c,0,none⟩))] .returning (λ C=>K (.tuple #[]) C) u)\/
 (∃ m:List PanicEntry,(o=.panicked m)/\ZeC prog 221 [.pointer ((some ⟨c,0,none⟩))] (.panicking m) (λ D=>K (.tuple #[]) D) g)) f)\/
 (∃ l:List PanicEntry,(n=.panicked l)/\ZeC prog 221 [.pointer ((some ⟨c,0,none⟩))] (.panicking l) (λ E=>K (.tuple #[]) E) f)) w
theorem Zs9 (b:Option Addr) (a:Value) (K:Value->World->Prop) (w:World) (h:B190 b a K w):Zq prog 190 #[.pointer b,a] w K:=cqd (sk:=.leaf) func190 (by kernel_rfl) (by kernel_rfl) (by kernel_rfl) h
def B191 (t:Option Addr) (s:Option Addr) (d:Option Addr) (c:List PanicEntry->World->Prop) (K:Value->World->Prop) (w:World):Prop:=
 Calls prog 192 #[.pointer t] w λ i b=>
 (∃ a:Int,∃ m:Bool,(i=.returned (.tuple #[.int .u64 a,.bool m]))/\
 Br (!m)
 (Zb s λ r=>
 ∃ l:Int,(At (λ u=>u=b) r [.int .u64 l])/\
 Calls prog 193 #[.bool (decide (a<=l))] b λ j n=>
 ((j=.returned (.tuple #[]))/\
 ∃ o:World,((Instr.storeAt 148 (.pointer d) (.int .u64 a)).run prog n=.ok () o)/\
 K (.tuple #[]) o)\/
 (∃ f:List PanicEntry,(j=.panicked f)/\c f n))
 (Calls prog 193 #[.bool false] b λ k p=>
 ((k=.returned (.tuple #[]))/\
 ∃ q:World,((Instr.storeAt 148 (.pointer d) (.int .u64 a)).run prog p=.ok () q)/\
 K (.tuple #[]) q)\/
 (∃ g:List PanicEntry,(k=.panicked g)/\c g p)))\/
 (∃ e:List PanicEntry,(i=.panicked e)/\c e b)
theorem Zs8 (d:Option Addr) (b:Option Addr) (c:Option Addr) (a:List PanicEntry->World->Prop) (K:Value->World->Prop) (w:World) (h:B191 d b c a K w):Zdg prog 191 #[.pointer d,.pointer b,.pointer c] w a K:=cqx (sk:=.leaf) func191 (by kernel_rfl) (by kernel_rfl) (by kernel_rfl) h
def B192 (J:Option Addr) (c:List PanicEntry->World->Prop) (K:Value->World->Prop) (w:World):Prop:=
 Calls prog 222 #[.pointer J,.int .i64 1] w λ A j=>
 (∃ l:Sl,(A=.returned (.slice l.a l.len l.cap))/\
 Rng 0 l.len (Zb l.a λ U=>
 ∃ e:Int,(At (λ o=>o=j) (Addr.add U 0) [.int .u8 e])/\
 ∃ (k:World->Prop),(Br (decide (e<32))
 (Br (decide (IntKind.i64.wrap (ZcT BinOp.andNot IntKind.u8 e 16)<=8))
 (Br (decide (IntKind.i64.wrap (ZcT BinOp.andNot IntKind.u8 e 16)>0))
 (Calls prog 193 #[.bool true] j λ C L=>
 ((C=.returned (.tuple #[]))/\
 k  L)\/
 (∃ s:List PanicEntry,(C=.panicked s)/\c s L))
 (Calls prog 193 #[.bool (!decide (e >= 16))] j λ D M=>
 ((D=.returned (.tuple #[]))/\
 k  M)\/
 (∃ t:List PanicEntry,(D=.panicked t)/\c t M)))
 (Calls prog 193 #[.bool false] j λ E N=>
 ((E=.returned (.tuple #[]))/\
 k  N)\/
 (∃ u:List PanicEntry,(E=.panicked u)/\c u N)))
 (Calls prog 193 #[.bool false] j λ F O=>
 ((F=.returned (.tuple #[]))/\
 k  O)\/
 (∃ v:List PanicEntry,(F=.panicked v)/\c v O)))/\
 ∀ (X:Env)  (Q:World),k  Q->
 Calls prog 222 #[.pointer J,.int .i64 (IntKind.i64.wrap (ZcT BinOp.andNot IntKind.u8 e 16))] Q λ G T=>
 (∃ g:Sl,(G=.returned (.slice g.a g.len g.cap))/\
 ∃ (m:Int->Int->World->Prop) (n:Int->Int->World->Nat),(m 0 0 T)/\∀ (Y:Env) (d:Int) (b:Int) (f:World),m d b f->
 Br (decide (b<(↑g.len:Int)))
 (Rng b g.len (Zb g.a λ V=>
 ∃ i:Int,(At (λ o=>o=f) (Addr.add V b.toNat) [.int .u8 i])/\
 Br (decide (b>0))
 (Calls prog 193 #[.bool true] f λ H q=>
 ((H=.returned (.tuple #[]))/\
 (m (ZcT BinOp.or IntKind.u64 (Zlj IntKind.u64 d 8) (IntKind.u64.wrap i)) (IntKind.i64.wrap (b + 1)) q)/\n (ZcT BinOp.or IntKind.u64 (Zlj IntKind.u64 d 8) (IntKind.u64.wrap i)) (IntKind.i64.wrap (b + 1)) q<n d b f)\/
 (∃ y:List PanicEntry,(H=.panicked y)/\c y q))
 (Calls prog 193 #[.bool (decide (i>0))] f λ I p=>
 ((I=.returned (.tuple #[]))/\
 (m (ZcT BinOp.or IntKind.u64 (Zlj IntKind.u64 d 8) (IntKind.u64.wrap i)) (IntKind.i64.wrap (b + 1)) p)/\n (ZcT BinOp.or IntKind.u64 (Zlj IntKind.u64 d 8) (IntKind.u64.wrap i)) (IntKind.i64.wrap (b + 1)) p<n d b f)\/
 (∃ z:List PanicEntry,(I=.panicked z)/\c z p))))
 (K (.tuple #[.int .u64 d,.bool (decide (e >= 16))]) f))\/
 (∃ x:List PanicEntry,(G=.panicked x)/\c x T)))\/
 (∃ r:List PanicEntry,(A=.panicked r)/\c r j)
def ZwJ:Sk:=(.seq .leaf (.seq .leaf (.seq .leaf (.seq .leaf (.cut [] [] [19,20,21,22,23,24,25,26,27,28,29,30,31,32,33] .leaf (.seq .leaf (.seq (.seq .leaf (.block (.loop [7,38] [(.int .u64),(.int .i64)] [7,8,9,38,39,40,41,42,43,44,45,46,47,48,49,50,51,52,53,54,55] .leaf))) .leaf)))))))
theorem Zs7 (b:Option Addr) (a:List PanicEntry->World->Prop) (K:Value->World->Prop) (w:World) (h:B192 b a K w):Zdg prog 192 #[.pointer b] w a K:=cqx (sk:=ZwJ) func192 (by kernel_rfl) (by kernel_rfl) (by kernel_rfl) h
def B193 (b:Bool) (a:List PanicEntry->World->Prop) (K:Value->World->Prop) (w:World):Prop:=
 Br (!b)
 (a [⟨.iface 239 (.agg #[]),false,false⟩] w)
 (K (.tuple #[]) w)
theorem Zs6 (b:Bool) (a:List PanicEntry->World->Prop) (K:Value->World->Prop) (w:World) (h:B193 b a K w):Zdg prog 193 #[.bool b] w a K:=cqx (sk:=.leaf) func193 (by kernel_rfl) (by kernel_rfl) (by kernel_rfl) h
def B221 (i:Option Addr) (f:Value) (K:World->Prop) (w:World):Prop:=
 ∃ c:Bool,(∀ a,(λ a=>a=w) a->((do eqGuard BinOp.neq 20 (Operand.tmp 3) (Operand.const Value.nilIface) f .nilIface;binOp BinOp.neq 20 f .nilIface:Sem Value)).run prog a=.ok (.bool c) a)/\
 Br c
 (Zb i λ g=>
 ∃ d:Option Addr,(At (λ a=>a=w) g [.pointer d])/\
 Zb d λ b=>
 ∃ e:World,((Instr.storeAt 4 (.pointer ((some ⟨b.block,b.off + 1,none⟩))) (.bool true)).run prog w=.ok () e)/\
 K e)
 (K w)
theorem ZrJ (b:Option Addr) (a:Value) (K:World->Prop) (w:World) (h:B221 b a K w):CallsD prog 221 #[.pointer b] (.panicking [⟨a,false,false⟩]) w λ c d e=>(∃ f,c=.returned f)/\d=.panicking [⟨a,true,false⟩]/\K e:=
 Zpc (sk:=.leaf) Zid mixed func221 (by kernel_rfl) (Nat.le_of_ble_eq_true (by kernel_rfl)) (cast (by kernel_rfl) h)
theorem ZrI (a:Option Addr) (K:World->Prop) (w:World) (h:B221 a .nilIface K w):CallsD prog 221 #[.pointer a] .returning w λ b c d=>(∃ e,b=.returned e)/\c=.returning/\K d:=
 ZnG (sk:=.leaf) Zid mixed func221 (by kernel_rfl) (Nat.le_of_ble_eq_true (by kernel_rfl)) (cast (by kernel_rfl) h)
def B222 (f:Option Addr) (b:Int) (m:List PanicEntry->World->Prop) (K:Value->World->Prop) (w:World):Prop:=
 Zb f λ q=>
 ∃ g:Sl,(At (λ e=>e=w) q [.slice g.a g.len g.cap])/\
 Calls prog 193 #[.bool (decide (b<=(↑g.len:Int)))] w λ k i=>
 ((k=.returned (.tuple #[]))/\
 Zb f λ n=>
 ∃ d:Sl,(At (λ e=>e=i) n [.slice d.a d.len d.cap])/\
 ((0:Int)<=b)/\
 ((b:Int)<=(↑d.cap:Int))/\
 Zb f λ o=>
 ∃ c:Sl,(At (λ e=>e=i) o [.slice c.a c.len c.cap])/\
 ((0:Int)<=b)/\
 ((b:Int)<=(↑c.len:Int))/\
 Zb f λ p=>
 ∃ l:World,((Instr.storeAt 53 (.pointer ((some (p)))) (.slice (ZcW c.a b.toNat c.cap 1) (c.len - b.toNat) (c.cap - b.toNat))).run prog i=.ok () l)/\
 K (.slice d.a b.toNat d.cap) l)\/
 (∃ j:List PanicEntry,(k=.panicked j)/\m j i)
theorem ZsZ (b:Option Addr) (c:Int) (a:List PanicEntry->World->Prop) (K:Value->World->Prop) (w:World) (h:B222 b c a K w):Zdg prog 222 #[.pointer b,.int .i64 c] w a K:=cqx (sk:=.leaf) func222 (by kernel_rfl) (by kernel_rfl) (by kernel_rfl) h
def B165 (j:Int) (K:Value->World->Prop) (w:World):Prop:=
 ∃ (c:Int->Int->World->Prop),(Br (decide (j >= 4294967296))
 (c (ZhY IntKind.u64 j 32) 32 w)
 (c j 0 w))/\
 ∀ (m:Env) (b:Int) (e:Int) (g:World),c b e g->
 ∃ (d:Int->Int->World->Prop),(Br (decide (b >= 65536))
 (d (ZhY IntKind.u64 b 16) (IntKind.i64.wrap (e + 16)) g)
 (d b e g))/\
 ∀ (n:Env) (a:Int) (f:Int) (i:World),d a f i->
 Br (decide (a >= 256))
 (∃ k:UInt8,((0:Int)<=IntKind.u8.wrap (ZhY IntKind.u64 a 8))/\
 ((ByteArray.mk (([0,1,2,2,3,3,3,3,4,4,4,4,4,4,4,4,5,5,5,5,5,5,5,5,5,5,5,5,5,5,5,5,6,6,6,6,6,6,6,6,6,6,6,6,6,6,6,6,6,6,6,6,6,6,6,6,6,6,6,6,6,6,6,6].append [7,7,7,7,7,7,7,7,7,7,7,7,7,7,7,7,7,7,7,7,7,7,7,7,7,7,7,7,7,7,7,7,7,7,7,7,7,7,7,7,7,7,7,7,7,7,7,7,7,7,7,7,7,7,7,7,7,7,7,7,7,7,7,7]).append ([8,8,8,8,8,8,8,8,8,8,8,8,8,8,8,8,8,8,8,8,8,8,8,8,8,8,8,8,8,8,8,8,8,8,8,8,8,8,8,8,8,8,8,8,8,8,8,8,8,8,8,8,8,8,8,8,8,8,8,8,8,8,8,8].append [8,8,8,8,8,8,8,8,8,8,8,8,8,8,8,8,8,8,8,8,8,8,8,8,8,8,8,8,8,8,8,8,8,8,8,8,8,8,8,8,8,8,8,8,8,8,8,8,8,8,8,8,8,8,8,8,8,8,8,8,8,8,8,8])).toArray)[(IntKind.u8.wrap (ZhY IntKind.u64 a 8)).toNat]? =some k)/\
 K (.int .i64 (IntKind.i64.wrap (IntKind.i64.wrap (f + 8) + IntKind.i64.wrap (↑k.toNat:Int)))) i)
 (∃ l:UInt8,((0:Int)<=IntKind.u8.wrap a)/\
 ((ByteArray.mk (([0,1,2,2,3,3,3,3,4,4,4,4,4,4,4,4,5,5,5,5,5,5,5,5,5,5,5,5,5,5,5,5,6,6,6,6,6,6,6,6,6,6,6,6,6,6,6,6,6,6,6,6,6,6,6,6,6,6,6,6,6,6,6,6].append [7,7,7,7,7,7,7,7,7,7,7,7,7,7,7,7,7,7,7,7,7,7,7,7,7,7,7,7,7,7,7,7,7,7,7,7,7,7,7,7,7,7,7,7,7,7,7,7,7,7,7,7,7,7,7,7,7,7,7,7,7,7,7,7]).append ([8,8,8,8,8,8,8,8,8,8,8,8,8,8,8,8,8,8,8,8,8,8,8,8,8,8,8,8,8,8,8,8,8,8,8,8,8,8,8,8,8,8,8,8,8,8,8,8,8,8,8,8,8,8,8,8,8,8,8,8,8,8,8,8].append [8,8,8,8,8,8,8,8,8,8,8,8,8,8,8,8,8,8,8,8,8,8,8,8,8,8,8,8,8,8,8,8,8,8,8,8,8,8,8,8,8,8,8,8,8,8,8,8,8,8,8,8,8,8,8,8,8,8,8,8,8,8,8,8])).toArray)[(IntKind.u8.wrap a).toNat]? =some l)/\
 K (.int .i64 (IntKind.i64.wrap (f + IntKind.i64.wrap (↑l.toNat:Int)))) i)
def ZwP:Sk:=(.seq .leaf (.cut [0,2] [(.int .u64),(.int .i64)] [0,2,3,4,5,6] .leaf (.cut [0,2] [(.int .u64),(.int .i64)] [0,2,7,8,9,10,11,12] .leaf .leaf)))
theorem Ztl (a:Int) (K:Value->World->Prop) (w:World) (h:B165 a K w):Zq prog 165 #[.int .u64 a] w K:=cq (sk:=ZwP) func165 (by kernel_rfl) (by kernel_rfl) (by kernel_rfl) h
def B114 (d:Sl) (K:Value->World->Prop) (w:World):Prop:=
 Calls prog 113 #[.int .u64 (IntKind.u64.wrap (↑d.len:Int))] w λ f g=>
 ∃ b:Sl,(f=.returned (.slice b.a b.len b.cap))/\
 ∃ e:World,∃ c:Sl,((Builtin.append_ #[53,53] 53 #[.slice b.a b.len b.cap,.slice d.a d.len d.cap]).run prog g=.ok (.slice c.a c.len c.cap) e)/\
 K (.slice c.a c.len c.cap) e
theorem ZtX (b:Sl) (K:Value->World->Prop) (w:World) (h:B114 b K w):Zq prog 114 #[.slice b.a b.len b.cap] w K:=cq (sk:=.leaf) func114 (by kernel_rfl) (by kernel_rfl) (by kernel_rfl) h
def B194 (i:Option Addr) (g:Int) (K:Value->World->Prop) (w:World):Prop:=
 New (.cells #[.int .i64 g] 3 (0,0)) (λ e k=>
 New (.cells #[.slice none 0 0] 53 (0,0)) (λ c l=>
 Calls prog 190 #[.pointer i,.func (.func 223) #[] #[.pointer ((some ⟨e,0,none⟩)),.pointer ((some ⟨c,0,none⟩))]] l λ f d=>
 (f=.returned (.tuple #[]))/\
 ∃ b:Sl,(At (λ j=>j=d) ⟨c,0,none⟩ [.slice b.a b.len b.cap])/\
 K (.slice b.a b.len b.cap) d) k) w
theorem Zs5 (b:Option Addr) (a:Int) (K:Value->World->Prop) (w:World) (h:B194 b a K w):Zq prog 194 #[.pointer b,.int .i64 a] w K:=cq (sk:=.leaf) func194 (by kernel_rfl) (by kernel_rfl) (by kernel_rfl) h
def B223 (e:Option Addr) (r:Option Addr) (p:Option Addr) (b:List PanicEntry->World->Prop) (K:Value->World->Prop) (w:World):Prop:=
 Calls prog 192 #[.pointer e] w λ H c=>
 (∃ d:Int,∃ ab:Bool,(H=.returned (.tuple #[.int .u64 d,.bool ab]))/\
 Br (!ab)
 (Zb r λ au=>
 ∃ Z:Int,(At (λ o=>o=c) au [.int .i64 Z])/\
 Br (decide (Z >= 0))
 (Zb r λ av=>
 ∃ aa:Int,(At (λ o=>o=c) av [.int .i64 aa])/\
 Br (decide (d<=IntKind.u64.wrap aa))
 (Zb e λ aw=>
 ∃ q:Sl,(At (λ o=>o=c) aw [.slice q.a q.len q.cap])/\
 Calls prog 193 #[.bool (decide (d<=IntKind.u64.wrap (↑q.len:Int)))] c λ I ak=>
 ((I=.returned (.tuple #[]))/\
 Calls prog 222 #[.pointer e,.int .i64 (IntKind.i64.wrap d)] ak λ N al=>
 (∃ f:Sl,(N=.returned (.slice f.a f.len f.cap))/\
 Calls prog 98 #[.slice f.a f.len f.cap] al λ O am=>
 (∃ k:Sl,(O=.returned (.slice k.a k.len k.cap))/\
 ∃ an:World,((Instr.storeAt 53 (.pointer p) (.slice k.a k.len k.cap)).run prog am=.ok () an)/\
 K (.tuple #[]) an)\/
 (∃ z:List PanicEntry,(O=.panicked z)/\b z am))\/
 (∃ y:List PanicEntry,(N=.panicked y)/\b y al))\/
 (∃ t:List PanicEntry,(I=.panicked t)/\b t ak))
 (Calls prog 193 #[.bool false] c λ Q ao=>
 ((Q=.returned (.tuple #[]))/\
 Calls prog 222 #[.pointer e,.int .i64 (IntKind.i64.wrap d)] ao λ T ap=>
 (∃ g:Sl,(T=.returned (.slice g.a g.len g.cap))/\
 Calls prog 98 #[.slice g.a g.len g.cap] ap λ U aq=>
 (∃ l:Sl,(U=.returned (.slice l.a l.len l.cap))/\
 ∃ ar:World,((Instr.storeAt 53 (.pointer p) (.slice l.a l.len l.cap)).run prog aq=.ok () ar)/\
 K (.tuple #[]) ar)\/
 (∃ D:List PanicEntry,(U=.panicked D)/\b D aq))\/
 (∃ C:List PanicEntry,(T=.panicked C)/\b C ap))\/
 (∃ A:List PanicEntry,(Q=.panicked A)/\b A ao)))
 (Calls prog 193 #[.bool false] c λ V ac=>
 ((V=.returned (.tuple #[]))/\
 Calls prog 222 #[.pointer e,.int .i64 (IntKind.i64.wrap d)] ac λ X ad=>
 (∃ i:Sl,(X=.returned (.slice i.a i.len i.cap))/\
 Calls prog 98 #[.slice i.a i.len i.cap] ad λ Y ae=>
 (∃ m:Sl,(Y=.returned (.slice m.a m.len m.cap))/\
 ∃ af:World,((Instr.storeAt 53 (.pointer p) (.slice m.a m.len m.cap)).run prog ae=.ok () af)/\
 K (.tuple #[]) af)\/
 (∃ G:List PanicEntry,(Y=.panicked G)/\b G ae))\/
 (∃ F:List PanicEntry,(X=.panicked F)/\b F ad))\/
 (∃ E:List PanicEntry,(V=.panicked E)/\b E ac)))
 (Calls prog 193 #[.bool false] c λ J ag=>
 ((J=.returned (.tuple #[]))/\
 Calls prog 222 #[.pointer e,.int .i64 (IntKind.i64.wrap d)] ag λ L ah=>
 (∃ j:Sl,(L=.returned (.slice j.a j.len j.cap))/\
 Calls prog 98 #[.slice j.a j.len j.cap] ah λ M ai=>
 (∃ n:Sl,(M=.returned (.slice n.a n.len n.cap))/\
 ∃ aj:World,((Instr.storeAt 53 (.pointer p) (.slice n.a n.len n.cap)).run prog ai=.ok () aj)/\
 K (.tuple #[]) aj)\/
 (∃ x:List PanicEntry,(M=.panicked x)/\b x ai))\/
 (∃ v:List PanicEntry,(L=.panicked v)/\b v ah))\/
 (∃ u:List PanicEntry,(J=.panicked u)/\b u ag)))\/
 (∃ s:List PanicEntry,(H=.panicked s)/\b s c)
theorem ZsY (d:Option Addr) (b:Option Addr) (c:Option Addr) (a:List PanicEntry->World->Prop) (K:Value->World->Prop) (w:World) (h:B223 d b c a K w):Zdg prog 223 #[.pointer d,.pointer b,.pointer c] w a K:=cqx (sk:=.leaf) func223 (by kernel_rfl) (by kernel_rfl) (by kernel_rfl) h
end
section
open Go Go.VC Tryz
set_option maxRecDepth 10000
def B112 (c:Sl) (K:Value->World->Prop) (w:World):Prop:=
 Br (decide ((↑c.len:Int)>65536))
 (K (.tuple #[.slice none 0 0,.int .i64 3]) w)
 (Calls prog 161 #[.int .u32 (IntKind.u32.wrap (↑c.len:Int))] w λ j o=>
 ∃ b:Sl,(j=.returned (.slice b.a b.len b.cap))/\
 Calls prog 164 #[.slice b.a b.len b.cap] o λ k p=>
 ∃ f:Int,(k=.returned (.int .u32 f))/\
 Calls prog 163 #[.int .u32 f,.slice c.a c.len c.cap] p λ l q=>
 ∃ g:Int,(l=.returned (.int .u32 g))/\
 Calls prog 161 #[.int .u32 g] q λ m r=>
 ∃ d:Sl,(m=.returned (.slice d.a d.len d.cap))/\
 New (.cells #[.slice b.a b.len b.cap,.slice d.a d.len d.cap,.slice c.a c.len c.cap] 53 (0,0)) (λ i s=>
 Calls prog 162 #[.slice ((some ⟨i,0,none⟩)) 3 3] s λ n t=>
 ∃ e:Sl,(n=.returned (.slice e.a e.len e.cap))/\
 K (.tuple #[.slice e.a e.len e.cap,.int .i64 0]) t) r)
theorem ZtZ (b:Sl) (K:Value->World->Prop) (w:World) (h:B112 b K w):Zq prog 112 #[.slice b.a b.len b.cap] w K:=cq (sk:=.leaf) func112 (by kernel_rfl) (by kernel_rfl) (by kernel_rfl) h
def B161 (a:Int) (K:Value->World->Prop) (w:World):Prop:=
 New (.cells #[.int .u8 (IntKind.u8.wrap (ZhY IntKind.u32 a 24)),.int .u8 (IntKind.u8.wrap (ZhY IntKind.u32 a 16)),.int .u8 (IntKind.u8.wrap (ZhY IntKind.u32 a 8)),.int .u8 (IntKind.u8.wrap a)] 5 (0,0)) (λ b c=>
 K (.slice ((some ⟨b,0,none⟩)) 4 4) c) w
theorem Ztp (a:Int) (K:Value->World->Prop) (w:World) (h:B161 a K w):Zq prog 161 #[.int .u32 a] w K:=cq (sk:=.leaf) func161 (by kernel_rfl) (by kernel_rfl) (by kernel_rfl) h
def B162 (g:Sl) (r:List PanicEntry->World->Prop) (K:Value->World->Prop) (w:World):Prop:=
 ∃ (n:Int->Int->World->Prop) (v:Int->Int->World->Nat),(n 0 0 w)/\∀ (A:Env) (f:Int) (c:Int) (e:World),n f c e->
 Br (decide (c<(↑g.len:Int)))
 (Rng c g.len (Zb g.a λ y=>
 ∃ i:Sl,(At (λ p=>p=e) (Addr.add y c.toNat) [.slice i.a i.len i.cap])/\
 Br (decide (IntKind.i64.wrap (f + (↑i.len:Int))<0))
 (r [⟨.iface 9 (.string (ByteArray.mk #[108,101,110,32,111,117,116,32,111,102,32,114,97,110,103,101])),false,false⟩] e)
 ((n (IntKind.i64.wrap (f + (↑i.len:Int))) (IntKind.i64.wrap (c + 1)) e)/\v (IntKind.i64.wrap (f + (↑i.len:Int))) (IntKind.i64.wrap (c + 1)) e<v f c e)))
 (Calls prog 195 #[.slice none 0 0,.int .i64 f] e λ t u=>
 (∃ m:Sl,(t=.returned (.slice m.a m.len m.cap))/\
 ∃ (o:Sl->Int->World->Prop) (x:Sl->Int->World->Nat),(o m 0 u)/\∀ (C:Env) (b:Sl) (d:Int) (l:World),o b d l->
 Br (decide (d<(↑g.len:Int)))
 (Rng d g.len (Zb g.a λ z=>
 ∃ j:Sl,(At (λ p=>p=l) (Addr.add z d.toNat) [.slice j.a j.len j.cap])/\
 ∃ q:World,∃ k:Sl,((Builtin.append_ #[53,53] 53 #[.slice b.a b.len b.cap,.slice j.a j.len j.cap]).run prog l=.ok (.slice k.a k.len k.cap) q)/\
 (o k (IntKind.i64.wrap (d + 1)) q)/\x k (IntKind.i64.wrap (d + 1)) q<x b d l))
 (K (.slice b.a b.len b.cap) l))\/
 (∃ s:List PanicEntry,(t=.panicked s)/\r s u))
def ZwR:Sk:=(.seq .leaf (.seq .leaf (.seq (.seq .leaf (.block (.loop [3,11] [(.int .i64),(.int .i64)] [3,5,11,12,13,14,15,16,17,18,19,20,21,22] .leaf))) (.seq .leaf (.seq (.seq .leaf (.block (.loop [6,27] [.sl,(.int .i64)] [6,8,27,28,29,30,31,32,33,34] .leaf))) .leaf)))))
theorem Zto (b:Sl) (c:List PanicEntry->World->Prop) (K:Value->World->Prop) (w:World) (h:B162 b c K w):Zdg prog 162 #[.slice b.a b.len b.cap] w c K:=cqx (sk:=ZwR) func162 (by kernel_rfl) (by kernel_rfl) (by kernel_rfl) h
def B163 (q:Int) (f:Sl) (K:Value->World->Prop) (w:World):Prop:=
 Calls prog 196 #[] w λ p r=>
 ∃ l:Value,(p=.returned (l))/\
 New (.cells #[.int .u32 0,.int .u32 0,.int .u32 0,.int .u32 0,.int .u32 0,.int .u32 0,.int .u32 0,.int .u32 0,.int .u32 0,.int .u32 0,.int .u32 0,.int .u32 0,.int .u32 0,.int .u32 0,.int .u32 0,.int .u32 0,.int .u32 0,.int .u32 0,.int .u32 0,.int .u32 0,.int .u32 0,.int .u32 0,.int .u32 0,.int .u32 0,.int .u32 0,.int .u32 0,.int .u32 0,.int .u32 0,.int .u32 0,.int .u32 0,.int .u32 0,.int .u32 0,.int .u32 0,.int .u32 0,.int .u32 0,.int .u32 0,.int .u32 0,.int .u32 0,.int .u32 0,.int .u32 0,.int .u32 0,.int .u32 0,.int .u32 0,.int .u32 0,.int .u32 0,.int .u32 0,.int .u32 0,.int .u32 0,.int .u32 0,.int .u32 0,.int .u32 0,.int .u32 0,.int .u32 0,.int .u32 0,.int .u32 0,.int .u32 0,.int .u32 0,.int .u32 0,.int .u32 0,.int .u32 0,.int .u32 0,.int .u32 0,.int .u32 0,.int .u32 0,.int .u32 0,.int .u32 0,.int .u32 0,.int .u32 0,.int .u32 0,.int .u32 0,.int .u32 0,.int .u32 0,.int .u32 0,.int .u32 0,.int .u32 0,.int .u32 0,.int .u32 0,.int .u32 0,.int .u32 0,.int .u32 0,.int .u32 0,.int .u32 0,.int .u32 0,.int .u32 0,.int .u32 0,.int .u32 0,.int .u32 0,.int .u32 0,.int .u32 0,.int .u32 0,.int .u32 0,.int .u32 0,.int .u32 0,.int .u32 0,.int .u32 0,.int .u32 0,.int .u32 0,.int .u32 0,.int .u32 0,.int .u32 0,.int .u32 0,.int .u32 0,.int .u32 0,.int .u32 0,.int .u32 0,.int .u32 0,.int .u32 0,.int .u32 0,.int .u32 0,.int .u32 0,.int .u32 0,.int .u32 0,.int .u32 0,.int .u32 0,.int .u32 0,.int .u32 0,.int .u32 0,.int .u32 0,.int .u32 0,.int .u32 0,.int .u32 0,.int .u32 0,.int .u32 0,.int .u32 0,.int .u32 0,.int .u32 0,.int .u32 0,.int .u32 0,.int .u32 0,.int .u32 0,.int .u32 0,.int .u32 0,.int .u32 0,.int .u32 0,.int .u32 0,.int .u32 0,.int .u32 0,.int .u32 0,.int .u32 0,.int .u32 0,.int .u32 0,.int .u32 0,.int .u32 0,.int .u32 0,.int .u32 0,.int .u32 0,.int .u32 0,.int .u32 0,.int .u32 0,.int .u32 0,.int .u32 0,.int .u32 0,.int .u32 0,.int .u32 0,.int .u32 0,.int .u32 0,.int .u32 0,.int .u32 0,.int .u32 0,.int .u32 0,.int .u32 0,.int .u32 0,.int .u32 0,.int .u32 0,.int .u32 0,.int .u32 0,.int .u32 0,.int .u32 0,.int .u32 0,.int .u32 0,.int .u32 0,.int .u32 0,.int .u32 0,.int .u32 0,.int .u32 0,.int .u32 0,.int .u32 0,.int .u32 0,.int .u32 0,.int .u32 0,.int .u32 0,.int .u32 0,.int .u32 0,.int .u32 0,.int .u32 0,.int .u32 0,.int .u32 0,.int .u32 0,.int .u32 0,.int .u32 0,.int .u32 0,.int .u32 0,.int .u32 0,.int .u32 0,.int .u32 0,.int .u32 0,.int .u32 0,.int .u32 0,.int .u32 0,.int .u32 0,.int .u32 0,.int .u32 0,.int .u32 0,.int .u32 0,.int .u32 0,.int .u32 0,.int .u32 0,.int .u32 0,.int .u32 0,.int .u32 0,.int .u32 0,.int .u32 0,.int .u32 0,.int .u32 0,.int .u32 0,.int .u32 0,.int .u32 0,.int .u32 0,.int .u32 0,.int .u32 0,.int .u32 0,.int .u32 0,.int .u32 0,.int .u32 0,.int .u32 0,.int .u32 0,.int .u32 0,.int .u32 0,.int .u32 0,.int .u32 0,.int .u32 0,.int .u32 0,.int .u32 0,.int .u32 0,.int .u32 0,.int .u32 0,.int .u32 0,.int .u32 0,.int .u32 0,.int .u32 0,.int .u32 0,.int .u32 0,.int .u32 0,.int .u32 0,.int .u32 0,.int .u32 0,.int .u32 0,.int .u32 0,.int .u32 0,.int .u32 0,.int .u32 0,.int .u32 0,.int .u32 0,.int .u32 0,.int .u32 0,.int .u32 0] 211 (0,0)) (λ k s=>
 ∃ m:World,((Instr.storeAt 211 (.pointer ((some ⟨k,0,none⟩))) l).run prog s=.ok () m)/\
 ∃ (e:Int->Int->World->Prop) (n:Int->Int->World->Nat),(e (IntKind.u32.wrap (↑(BitVec.ofInt IntKind.u32.bits (if IntKind.u32.signed=true then -1 else IntKind.u32.max) ^^^ BitVec.ofInt IntKind.u32.bits q).toNat:Int)) 0 m)/\∀ (t:Env) (b:Int) (c:Int) (d:World),e b c d->
 Br (decide (c<(↑f.len:Int)))
 (Rng c f.len (Zb f.a λ o=>
 ∃ g:Int,(At (λ j=>j=d) (Addr.add o c.toNat) [.int .u8 g])/\
 Rng (ZcT BinOp.xor IntKind.u8 (IntKind.u8.wrap b) g) 256 (∃ i:Int,(At (λ j=>j=d) (Addr.add ⟨k,0,none⟩ ((ZcT BinOp.xor IntKind.u8 (IntKind.u8.wrap b) g).toNat)) [.int .u32 i])/\
 (e (ZcT BinOp.xor IntKind.u32 (ZhY IntKind.u32 b 8) i) (IntKind.i64.wrap (c + 1)) d)/\n (ZcT BinOp.xor IntKind.u32 (ZhY IntKind.u32 b 8) i) (IntKind.i64.wrap (c + 1)) d<n b c d)))
 (K (.int .u32 (IntKind.u32.wrap (↑(BitVec.ofInt IntKind.u32.bits (if IntKind.u32.signed=true then -1 else IntKind.u32.max) ^^^ BitVec.ofInt IntKind.u32.bits b).toNat:Int))) d)) r
def ZwQ:Sk:=(.seq .leaf (.seq .leaf (.seq .leaf (.seq (.seq .leaf (.block (.loop [6,14] [(.int .u32),(.int .i64)] [6,8,14,15,16,17,18,19,20,21,22,23,24,25,26,27] .leaf))) .leaf))))
theorem Ztn (c:Int) (b:Sl) (K:Value->World->Prop) (w:World) (h:B163 c b K w):Zq prog 163 #[.int .u32 c,.slice b.a b.len b.cap] w K:=cq (sk:=ZwQ) func163 (by kernel_rfl) (by kernel_rfl) (by kernel_rfl) h
def B164 (b:Sl) (K:Value->World->Prop) (w:World):Prop:=
 Calls prog 163 #[.int .u32 0,.slice b.a b.len b.cap] w λ d e=>
 ∃ c:Int,(d=.returned (.int .u32 c))/\
 K (.int .u32 c) e
theorem Ztm (b:Sl) (K:Value->World->Prop) (w:World) (h:B164 b K w):Zq prog 164 #[.slice b.a b.len b.cap] w K:=cq (sk:=.leaf) func164 (by kernel_rfl) (by kernel_rfl) (by kernel_rfl) h
def B195 (b:Sl) (d:Int) (i:List PanicEntry->World->Prop) (K:Value->World->Prop) (w:World):Prop:=
 ∃ (f:World->Prop),(Br (decide (d<0))
 (i [⟨.iface 9 (.string (ByteArray.mk #[99,97,110,110,111,116,32,98,101,32,110,101,103,97,116,105,118,101])),false,false⟩] w)
 (f  w))/\
 ∀ (j:Env)  (e:World),f  e->
 Br (decide (IntKind.i64.wrap (d - IntKind.i64.wrap ((↑b.cap:Int) - (↑b.len:Int)))>0))
 (((0:Int)<=(↑b.cap:Int))/\
 (((↑b.cap:Int):Int)<=(↑b.cap:Int))/\
 ∃ g:World,∃ c:Sl,((Builtin.append_ #[53,3] 53 #[.slice b.a ((↑b.cap:Int).toNat) b.cap,.int .i64 (IntKind.i64.wrap (d - IntKind.i64.wrap ((↑b.cap:Int) - (↑b.len:Int))))]).run prog e=.ok (.slice c.a c.len c.cap) g)/\
 ((0:Int)<=(↑b.len:Int))/\
 (((↑b.len:Int):Int)<=(↑c.cap:Int))/\
 K (.slice c.a ((↑b.len:Int).toNat) c.cap) g)
 (K (.slice b.a b.len b.cap) e)
def ZwI:Sk:=(.seq .leaf (.cut [] [] [5,6,7] .leaf .leaf))
theorem Zs4 (b:Sl) (d:Int) (c:List PanicEntry->World->Prop) (K:Value->World->Prop) (w:World) (h:B195 b d c K w):Zdg prog 195 #[.slice b.a b.len b.cap,.int .i64 d] w c K:=cqx (sk:=ZwI) func195 (by kernel_rfl) (by kernel_rfl) (by kernel_rfl) h
def B196  (K:Value->World->Prop) (w:World):Prop:=
 New (.cells #[.int .u32 0,.int .u32 0,.int .u32 0,.int .u32 0,.int .u32 0,.int .u32 0,.int .u32 0,.int .u32 0,.int .u32 0,.int .u32 0,.int .u32 0,.int .u32 0,.int .u32 0,.int .u32 0,.int .u32 0,.int .u32 0,.int .u32 0,.int .u32 0,.int .u32 0,.int .u32 0,.int .u32 0,.int .u32 0,.int .u32 0,.int .u32 0,.int .u32 0,.int .u32 0,.int .u32 0,.int .u32 0,.int .u32 0,.int .u32 0,.int .u32 0,.int .u32 0,.int .u32 0,.int .u32 0,.int .u32 0,.int .u32 0,.int .u32 0,.int .u32 0,.int .u32 0,.int .u32 0,.int .u32 0,.int .u32 0,.int .u32 0,.int .u32 0,.int .u32 0,.int .u32 0,.int .u32 0,.int .u32 0,.int .u32 0,.int .u32 0,.int .u32 0,.int .u32 0,.int .u32 0,.int .u32 0,.int .u32 0,.int .u32 0,.int .u32 0,.int .u32 0,.int .u32 0,.int .u32 0,.int .u32 0,.int .u32 0,.int .u32 0,.int .u32 0,.int .u32 0,.int .u32 0,.int .u32 0,.int .u32 0,.int .u32 0,.int .u32 0,.int .u32 0,.int .u32 0,.int .u32 0,.int .u32 0,.int .u32 0,.int .u32 0,.int .u32 0,.int .u32 0,.int .u32 0,.int .u32 0,.int .u32 0,.int .u32 0,.int .u32 0,.int .u32 0,.int .u32 0,.int .u32 0,.int .u32 0,.int .u32 0,.int .u32 0,.int .u32 0,.int .u32 0,.int .u32 0,.int .u32 0,.int .u32 0,.int .u32 0,.int .u32 0,.int .u32 0,.int .u32 0,.int .u32 0,.int .u32 0,.int .u32 0,.int .u32 0,.int .u32 0,.int .u32 0,.int .u32 0,.int .u32 0,.int .u32 0,.int .u32 0,.int .u32 0,.int .u32 0,.int .u32 0,.int .u32 0,.int .u32 0,.int .u32 0,.int .u32 0,.int .u32 0,.int .u32 0,.int .u32 0,.int .u32 0,.int .u32 0,.int .u32 0,.int .u32 0,.int .u32 0,.int .u32 0,.int .u32 0,.int .u32 0,.int .u32 0,.int .u32 0,.int .u32 0,.int .u32 0,.int .u32 0,.int .u32 0,.int .u32 0,.int .u32 0,.int .u32 0,.int .u32 0,.int .u32 0,.int .u32 0,.int .u32 0,.int .u32 0,.int .u32 0,.int .u32 0,.int .u32 0,.int .u32 0,.int .u32 0,.int .u32 0,.int .u32 0,.int .u32 0,.int .u32 0,.int .u32 0,.int .u32 0,.int .u32 0,.int .u32 0,.int .u32 0,.int .u32 0,.int .u32 0,.int .u32 0,.int .u32 0,.int .u32 0,.int .u32 0,.int .u32 0,.int .u32 0,.int .u32 0,.int .u32 0,.int .u32 0,.int .u32 0,.int .u32 0,.int .u32 0,.int .u32 0,.int .u32 0,.int .u32 0,.int .u32 0,.int .u32 0,.int .u32 0,.int .u32 0,.int .u32 0,.int .u32 0,.int .u32 0,.int .u32 0,.int .u32 0,.int .u32 0,.int .u32 0,.int .u32 0,.int .u32 0,.int .u32 0,.int .u32 0,.int .u32 0,.int .u32 0,.int .u32 0,.int .u32 0,.int .u32 0,.int .u32 0,.int .u32 0,.int .u32 0,.int .u32 0,.int .u32 0,.int .u32 0,.int .u32 0,.int .u32 0,.int .u32 0,.int .u32 0,.int .u32 0,.int .u32 0,.int .u32 0,.int .u32 0,.int .u32 0,.int .u32 0,.int .u32 0,.int .u32 0,.int .u32 0,.int .u32 0,.int .u32 0,.int .u32 0,.int .u32 0,.int .u32 0,.int .u32 0,.int .u32 0,.int .u32 0,.int .u32 0,.int .u32 0,.int .u32 0,.int .u32 0,.int .u32 0,.int .u32 0,.int .u32 0,.int .u32 0,.int .u32 0,.int .u32 0,.int .u32 0,.int .u32 0,.int .u32 0,.int .u32 0,.int .u32 0,.int .u32 0,.int .u32 0,.int .u32 0,.int .u32 0,.int .u32 0,.int .u32 0,.int .u32 0,.int .u32 0,.int .u32 0,.int .u32 0,.int .u32 0,.int .u32 0,.int .u32 0,.int .u32 0,.int .u32 0,.int .u32 0,.int .u32 0,.int .u32 0,.int .u32 0,.int .u32 0,.int .u32 0,.int .u32 0,.int .u32 0] 211 (0,0)) (λ j x=>
 Calls prog 224 #[] x λ r y=>
 ∃ m:Option Addr,(r=.returned (.pointer m))/\
 Calls prog 225 #[.pointer m] y λ s z=>
 ∃ n:Option Addr,(s=.returned (.pointer n))/\
 Calls prog 225 #[.pointer n] z λ t A=>
 ∃ o:Option Addr,(t=.returned (.pointer o))/\
 Calls prog 225 #[.pointer o] A λ u C=>
 ∃ p:Option Addr,(u=.returned (.pointer p))/\
 New (.cells #[.int .u32 0,.int .u32 0,.int .u32 0,.int .u32 0,.int .u32 0,.int .u32 0,.int .u32 0,.int .u32 0,.int .u32 0,.int .u32 0,.int .u32 0,.int .u32 0,.int .u32 0,.int .u32 0,.int .u32 0,.int .u32 0,.int .u32 0,.int .u32 0,.int .u32 0,.int .u32 0,.int .u32 0,.int .u32 0,.int .u32 0,.int .u32 0,.int .u32 0,.int .u32 0,.int .u32 0,.int .u32 0,.int .u32 0,.int .u32 0,.int .u32 0,.int .u32 0,.int .u32 0,.int .u32 0,.int .u32 0,.int .u32 0,.int .u32 0,.int .u32 0,.int .u32 0,.int .u32 0,.int .u32 0,.int .u32 0,.int .u32 0,.int .u32 0,.int .u32 0,.int .u32 0,.int .u32 0,.int .u32 0,.int .u32 0,.int .u32 0,.int .u32 0,.int .u32 0,.int .u32 0,.int .u32 0,.int .u32 0,.int .u32 0,.int .u32 0,.int .u32 0,.int .u32 0,.int .u32 0,.int .u32 0,.int .u32 0,.int .u32 0,.int .u32 0,.int .u32 0,.int .u32 0,.int .u32 0,.int .u32 0,.int .u32 0,.int .u32 0,.int .u32 0,.int .u32 0,.int .u32 0,.int .u32 0,.int .u32 0,.int .u32 0,.int .u32 0,.int .u32 0,.int .u32 0,.int .u32 0,.int .u32 0,.int .u32 0,.int .u32 0,.int .u32 0,.int .u32 0,.int .u32 0,.int .u32 0,.int .u32 0,.int .u32 0,.int .u32 0,.int .u32 0,.int .u32 0,.int .u32 0,.int .u32 0,.int .u32 0,.int .u32 0,.int .u32 0,.int .u32 0,.int .u32 0,.int .u32 0,.int .u32 0,.int .u32 0,.int .u32 0,.int .u32 0,.int .u32 0,.int .u32 0,.int .u32 0,.int .u32 0,.int .u32 0,.int .u32 0,.int .u32 0,.int .u32 0,.int .u32 0,.int .u32 0,.int .u32 0,.int .u32 0,.int .u32 0,.int .u32 0,.int .u32 0,.int .u32 0,.int .u32 0,.int .u32 0,.int .u32 0,.int .u32 0,.int .u32 0,.int .u32 0,.int .u32 0,.int .u32 0,.int .u32 0,.int .u32 0,.int .u32 0,.int .u32 0,.int .u32 0,.int .u32 0,.int .u32 0,.int .u32 0,.int .u32 0,.int .u32 0,.int .u32 0,.int .u32 0,.int .u32 0,.int .u32 0,.int .u32 0,.int .u32 0,.int .u32 0,.int .u32 0,.int .u32 0,.int .u32 0,.int .u32 0,.int .u32 0,.int .u32 0,.int .u32 0,.int .u32 0,.int .u32 0,.int .u32 0,.int .u32 0,.int .u32 0,.int .u32 0,.int .u32 0,.int .u32 0,.int .u32 0,.int .u32 0,.int .u32 0,.int .u32 0,.int .u32 0,.int .u32 0,.int .u32 0,.int .u32 0,.int .u32 0,.int .u32 0,.int .u32 0,.int .u32 0,.int .u32 0,.int .u32 0,.int .u32 0,.int .u32 0,.int .u32 0,.int .u32 0,.int .u32 0,.int .u32 0,.int .u32 0,.int .u32 0,.int .u32 0,.int .u32 0,.int .u32 0,.int .u32 0,.int .u32 0,.int .u32 0,.int .u32 0,.int .u32 0,.int .u32 0,.int .u32 0,.int .u32 0,.int .u32 0,.int .u32 0,.int .u32 0,.int .u32 0,.int .u32 0,.int .u32 0,.int .u32 0,.int .u32 0,.int .u32 0,.int .u32 0,.int .u32 0,.int .u32 0,.int .u32 0,.int .u32 0,.int .u32 0,.int .u32 0,.int .u32 0,.int .u32 0,.int .u32 0,.int .u32 0,.int .u32 0,.int .u32 0,.int .u32 0,.int .u32 0,.int .u32 0,.int .u32 0,.int .u32 0,.int .u32 0,.int .u32 0,.int .u32 0,.int .u32 0,.int .u32 0,.int .u32 0,.int .u32 0,.int .u32 0,.int .u32 0,.int .u32 0,.int .u32 0,.int .u32 0,.int .u32 0,.int .u32 0,.int .u32 0,.int .u32 0,.int .u32 0,.int .u32 0,.int .u32 0,.int .u32 0,.int .u32 0,.int .u32 0,.int .u32 0,.int .u32 0,.int .u32 0,.int .u32 0,.int .u32 0,.int .u32 0,.int .u32 0,.int .u32 0,.int .u32 0,.int .u32 0,.int .u32 0,.int .u32 0,.int .u32 0,.int .u32 0] 211 (0,0)) (λ k D=>
 ∃ (c:Int->World->Prop) (q:Int->World->Nat),(c 0 D)/\∀ (F:Env) (a:Int) (b:World),c a b->
 Br (decide (a<256))
 (Calls prog 226 #[.pointer p,.int .u32 (IntKind.u32.wrap a)] b λ v E=>
 ∃ l:Int,(v=.returned (.int .u32 l))/\
 Rng a 256 (∃ i:World,((Instr.storeAt 182 (.pointer ((some (Addr.add ⟨k,0,none⟩ a.toNat)))) (.int .u32 l)).run prog E=.ok () i)/\
 (c (IntKind.i64.wrap (a + 1)) i)/\q (IntKind.i64.wrap (a + 1)) i<q a b))
 (∃ d:List Value,(d.length=256)/\
 (At (λ f=>f=b) ⟨k,0,none⟩ d)/\
 ∃ g:World,((Instr.storeAt 211 (.pointer ((some ⟨j,0,none⟩))) (.agg d.toArray)).run prog b=.ok () g)/\
 ∃ e:List Value,(e.length=256)/\
 (At (λ f=>f=g) ⟨j,0,none⟩ e)/\
 K (.agg e.toArray) g)) C) w
def ZwH:Sk:=(.seq .leaf (.seq .leaf (.seq .leaf (.seq (.seq .leaf (.block (.loop [8] [(.int .i64)] [3,8,9,10,11,12,13,14,15,16,17] .leaf))) .leaf))))
theorem Zs3  (K:Value->World->Prop) (w:World) (h:B196  K w):Zq prog 196 #[] w K:=cq (sk:=ZwH) func196 (by kernel_rfl) (by kernel_rfl) (by kernel_rfl) h
def B189 (f:Sl) (K:Value->World->Prop) (w:World):Prop:=
 ∃ (e:Int->Int->World->Prop) (i:Int->Int->World->Nat),(e 0 0 w)/\∀ (l:Env) (d:Int) (b:Int) (c:World),e d b c->
 Br (decide (b<(↑f.len:Int)))
 (Rng b f.len (Zb f.a λ j=>
 ∃ g:Int,(At (λ k=>k=c) (Addr.add j b.toNat) [.int .u8 g])/\
 (e (ZcT BinOp.or IntKind.u32 (Zlj IntKind.u32 d 8) (IntKind.u32.wrap g)) (IntKind.i64.wrap (b + 1)) c)/\i (ZcT BinOp.or IntKind.u32 (Zlj IntKind.u32 d 8) (IntKind.u32.wrap g)) (IntKind.i64.wrap (b + 1)) c<i d b c))
 (K (.int .u32 d) c)
def ZwK:Sk:=(.seq .leaf (.seq .leaf (.seq (.seq .leaf (.block (.loop [3,8] [(.int .u32),(.int .i64)] [3,5,8,9,10,11,12,13,14,15,16,17] .leaf))) .leaf)))
theorem Zta (b:Sl) (K:Value->World->Prop) (w:World) (h:B189 b K w):Zq prog 189 #[.slice b.a b.len b.cap] w K:=cq (sk:=ZwK) func189 (by kernel_rfl) (by kernel_rfl) (by kernel_rfl) h
def B224  (K:Value->World->Prop) (w:World):Prop:=
 New (.cells #[.int .u32 2197175160,.int .u32 0,.int .u32 0,.int .u32 0,.int .u32 0,.int .u32 0,.int .u32 0,.int .u32 0,.int .u32 0,.int .u32 0,.int .u32 0,.int .u32 0,.int .u32 0,.int .u32 0,.int .u32 0,.int .u32 0,.int .u32 0,.int .u32 0,.int .u32 0,.int .u32 0,.int .u32 0,.int .u32 0,.int .u32 0,.int .u32 0,.int .u32 0,.int .u32 0,.int .u32 0,.int .u32 0,.int .u32 0,.int .u32 0,.int .u32 0,.int .u32 0] 260 (0,0)) (λ e g=>
 ∃ (c:Int->World->Prop) (f:Int->World->Nat),(c 0 g)/\∀ (k:Env) (a:Int) (b:World),c a b->
 Br (decide (a<31))
 (Drw b λ j i=>
 Ge0 a (Rng (IntKind.i64.wrap (a + 1)) 32 (∃ d:World,((Instr.storeAt 182 (.pointer ((some (Addr.add ⟨e,0,none⟩ ((IntKind.i64.wrap (a + 1)).toNat))))) (.int .u32 (Zlj IntKind.u32 1 a))).run prog i=.ok () d)/\
 (c (IntKind.i64.wrap (a + 1)) d)/\f (IntKind.i64.wrap (a + 1)) d<f a b)))
 (K (.pointer ((some ⟨e,0,none⟩))) b)) w
def ZwD:Sk:=(.seq .leaf (.seq .leaf (.seq (.seq .leaf (.block (.loop [5] [(.int .i64)] [2,5,6,7,8,9,10,11,12,13,14,15] .leaf))) .leaf)))
theorem ZsX  (K:Value->World->Prop) (w:World) (h:B224  K w):Zq prog 224 #[] w K:=cq (sk:=ZwD) func224 (by kernel_rfl) (by kernel_rfl) (by kernel_rfl) h
def B225 (f:Option Addr) (K:Value->World->Prop) (w:World):Prop:=
 New (.cells #[.int .u32 0,.int .u32 0,.int .u32 0,.int .u32 0,.int .u32 0,.int .u32 0,.int .u32 0,.int .u32 0,.int .u32 0,.int .u32 0,.int .u32 0,.int .u32 0,.int .u32 0,.int .u32 0,.int .u32 0,.int .u32 0,.int .u32 0,.int .u32 0,.int .u32 0,.int .u32 0,.int .u32 0,.int .u32 0,.int .u32 0,.int .u32 0,.int .u32 0,.int .u32 0,.int .u32 0,.int .u32 0,.int .u32 0,.int .u32 0,.int .u32 0,.int .u32 0] 260 (0,0)) (λ e n=>
 ∃ (c:Int->World->Prop) (j:Int->World->Nat),(c 0 n)/\∀ (q:Env) (a:Int) (b:World),c a b->
 Br (decide (a<32))
 (Drw b λ k o=>
 Zb f λ l=>
 Rng a 32 (∃ g:Int,(At k (Addr.add l a.toNat) [.int .u32 g])/\
 Calls prog 226 #[.pointer f,.int .u32 g] o λ m p=>
 ∃ i:Int,(m=.returned (.int .u32 i))/\
 Rng a 32 (∃ d:World,((Instr.storeAt 182 (.pointer ((some (Addr.add ⟨e,0,none⟩ a.toNat)))) (.int .u32 i)).run prog p=.ok () d)/\
 (c (IntKind.i64.wrap (a + 1)) d)/\j (IntKind.i64.wrap (a + 1)) d<j a b)))
 (K (.pointer ((some ⟨e,0,none⟩))) b)) w
def ZwC:Sk:=(.seq .leaf (.seq .leaf (.seq (.seq .leaf (.block (.loop [7] [(.int .i64)] [4,5,7,8,9,10,11,12,13,14,15,16,17,18] .leaf))) .leaf)))
theorem ZsW (a:Option Addr) (K:Value->World->Prop) (w:World) (h:B225 a K w):Zq prog 225 #[.pointer a] w K:=cq (sk:=ZwC) func225 (by kernel_rfl) (by kernel_rfl) (by kernel_rfl) h
def B226 (l:Option Addr) (f:Int) (K:Value->World->Prop) (w:World):Prop:=
 ∃ (d:Int->Int->World->Prop) (i:Int->Int->World->Nat),(d 0 0 w)/\∀ (m:Env) (b:Int) (a:Int) (c:World),d b a c->
 Br (decide (a<32))
 (Drw c λ j g=>
 Zb l λ k=>
 Rng a 32 (∃ e:Int,(At j (Addr.add k a.toNat) [.int .u32 e])/\
 Ge0 a ((d (ZcT BinOp.xor IntKind.u32 b (ZcT BinOp.and IntKind.u32 e (IntKind.u32.wrap (0 - ZcT BinOp.and IntKind.u32 (ZhY IntKind.u32 f a) 1)))) (IntKind.i64.wrap (a + 1)) g)/\i (ZcT BinOp.xor IntKind.u32 b (ZcT BinOp.and IntKind.u32 e (IntKind.u32.wrap (0 - ZcT BinOp.and IntKind.u32 (ZhY IntKind.u32 f a) 1)))) (IntKind.i64.wrap (a + 1)) g<i b a c)))
 (K (.int .u32 b) c)
def ZwB:Sk:=(.seq .leaf (.seq .leaf (.seq (.seq .leaf (.block (.loop [5,7] [(.int .u32),(.int .i64)] [5,6,7,8,9,10,11,12,13,14,15,16,17,18,19,20,21,22,23] .leaf))) .leaf)))
theorem ZsV (a:Option Addr) (b:Int) (K:Value->World->Prop) (w:World) (h:B226 a b K w):Zq prog 226 #[.pointer a,.int .u32 b] w K:=cq (sk:=ZwB) func226 (by kernel_rfl) (by kernel_rfl) (by kernel_rfl) h
end
end Go.Proofs.YtkfedbncmfnpnaaGreatDoor
namespace Go.VC
section
def wf (r:Option Nat):Fence:={ Fence.wide with round:=r }
theorem ZjW (r:Option Nat) (f:FuncId):(wf r).fn f:=trivial
def Zh5 (o:Oper):Bool:=match o.op with| .defer _=>false|_=>true
theorem Zg5 {r:Option Nat} {ρ:Operand->Value} {o:Oper} (h:Zh5 o=true):o.semAt (wf r).round ρ=execOp ρ o:=
 Oper.semAt_eq _ ρ o λ c hc=>by unfold Zh5 at h;rw [hc] at h;cases h
theorem ZsT {r:Option Nat} {n:Nat} {P:Program} {f:FuncId} {args:Array Value} {w:World} {R:Ending->World->Prop} (h:Calls P f args w R):CallsIn (wf r) n P f args w R:=
 (callsIn_wide (n:=n)).2 h
theorem Zut {r:Option Nat} {n:Nat} {P:Program} {row:String} {args:Array Value} {w:World} {R:Value->World->Prop} (h:Rows P row args w R):RowsIn (wf r) n P row args w R:=
 λ c cs _=>let ⟨v,w',hr,s⟩:=h c cs;⟨v,w',hr,stepsIn_wide.2 s⟩
theorem Zuo {r:Option Nat} {n:Nat} {P:Program} {o:Oper} {a:Act} {next:Act->World->Prop} {Q:Exit->Act->World->Prop} {res:Result Next} (h:o.upon P a next Q res):o.uponIn (wf r) n P a next Q res:=by
 cases res with
 |ok x w'=>
  cases x<;>simp only [Oper.upon] at h<;>simp only [Oper.uponIn]<;>
   first
    |exact h
    |exact ⟨(λ h=>by cases h),ZsT h⟩
    |exact ⟨(λ h=>by cases h),Zut h⟩
 |halt x w'=>cases x<;>simp only [Oper.upon] at h<;>simp only [Oper.uponIn]<;>exact h
theorem YieldsIf.wpOpY {r:Option Nat} {nn:Nat} {P:Program} {ops:Array Oper} {Q:Exit->Act->World->Prop} {S:World->Prop} {i:Nat} {o:Oper} {v:Value} {a:Act} (hnd:Zh5 o=true) (hi:ops[i]? =some o) (hy:YieldsIf P ops S o v a)
  {K:Act->World->Prop} {w:World} (hS:S w) (h:K (a.put o.dst v) w):wpOpIn (wf r) nn P ops Q i K a w:=by
 unfold Go.wpOpIn;simp only [hi];rcases hy with ⟨hw,hv⟩|⟨hw,rfl⟩
 ·simp only [hw,if_true,Oper.wpIn,Zg5 hnd,hv w hS,Oper.uponIn];exact ⟨λ f _=>ZjW r f,h⟩
 ·simp only [hw,Bool.false_eq_true,if_false];exact ⟨λ f _=>ZjW r f,h⟩
theorem ZjU {r:Option Nat} {nn:Nat} {P:Program} {ops:Array Oper} {Q:Exit->Act->World->Prop} {S:World->Prop} {j:Nat} {oi oj:Oper} {v:Value} (hnd:Zh5 oj=true) (hj:ops[j]? =some oj) (hap:oi.apart ops oj=true)
  (hsi:∀ cs b,oi.op≠.select cs b) (hsj:∀ cs b,oj.op≠.select cs b)
  (hQ:∀ c a w,Q (.panic c) (a.put oi.dst v) w->Q (.panic c) a w) {K:Act->World->Prop} {a:Act} {w:World}
  (hy:YieldsIf P ops S oi v a) (h:wpOpIn (wf r) nn P ops Q j K (a.put oi.dst v) w):
  wpOpIn (wf r) nn P ops Q j (λ a' w'=>YieldsIf P ops S oi v a'/\K (a'.put oi.dst v) w') a w:=by
 obtain ⟨h1,h2,h3⟩:=Oper.apart_spec hap;have keep:∀ (a:Act),YieldsIf P ops S oi v a->∀ u,YieldsIf P ops S oi v (a.put oj.dst u):=λ a hy u=>
  hy.of_same (execOp_put oi hsi a oj.dst u h3) (wanted_put oi a oj.dst u h3)
 have keepD:∀ d,YieldsIf P ops S oi v { a with defers:=d::a.defers }:=λ d=>hy.of_same rfl rfl;unfold wpOpIn at *;simp only [hj] at *;rw [wanted_put oj a oi.dst v h1] at h;split
 ·rename_i hw
  simp only [hw,if_true] at h;unfold Oper.wpIn at *;refine ⟨λ f _=>ZjW r f,?_⟩;have h:=h.2;rw [Zg5 hnd,execOp_put oj hsj a oi.dst v h1] at h;rw [Zg5 hnd];generalize (execOp a.eval oj).run P w=res at *;cases res with
  |ok x w'=>
   cases x<;>simp only [Oper.uponIn] at h ⊢
   case value u=>exact ⟨keep a hy u,by rw [<-Act.put_comm a v u h2];exact h⟩
   case skip=>exact ⟨keep a hy _,by rw [<-Act.put_comm a v undef h2];exact h⟩
   case defer d=>
    refine ⟨keep _ (keepD d) _,?_⟩;rw [<-Act.put_comm _ v undef h2,<-Act.put_defers];exact h
   case enter f args=>
    refine ⟨h.1,CallsIn.mono h.2 λ e w'' he=>?_⟩;cases e with
    |returned u=>exact ⟨keep a hy u,by rw [<-Act.put_comm a v u h2];exact he⟩
    |panicked c=>exact hQ _ _ _ he
    |outgrown=>exact he
   case row row args=>exact ⟨h.1,RowsIn.mono h.2 λ u w'' he=>⟨keep a hy u,by rw [<-Act.put_comm a v u h2];exact he⟩⟩
   case round l f tmps assign body=>
    refine ⟨h.1,RoundIn.mono h.2 λ e w'' he=>?_⟩;cases e with
    |returned u=>exact ⟨keep a hy u,by rw [<-Act.put_comm a v u h2];exact he⟩
    |panicked c=>exact hQ _ _ _ he
    |outgrown=>exact he
  |halt x w'=>
   cases x<;>simp only [Oper.uponIn] at h ⊢
   case panic u=>exact hQ _ _ _ h
 ·rename_i hw
  simp only [hw] at h;exact ⟨λ f _=>ZjW r f,keep a hy _,by rw [<-Act.put_comm a v undef h2];exact h.2⟩
section
variable {r:Option Nat} {nn:Nat} {P:Program} {ops:Array Oper} {Q:Exit->Act->World->Prop} {md:Region.Mode} {S:World->Prop} {need look:Nat->Bool}
def Zun (r:Option Nat) (nn:Nat) (P:Program) (md:Region.Mode) (ops:Array Oper) (Q:Exit->Act->World->Prop) (S:World->Prop) (need look:Nat->Bool):Nat->Array Bool->Act->World->Prop
 |0,listed,a,w=>Region.ready md ops listed=[]/\Q .normal a w
 |fuel + 1,listed,a,w=>
  (Region.ready md ops listed=[]->Q .normal a w)/\
  ∀ i∈Region.ready md ops listed,wpOpIn (wf r) nn P ops Q i (λ a' w'=>((need i=true->S w')/\(look i=true->w'=w))/\Zun r nn P md ops Q S need look fuel (listed.setIfInBounds i true) a' w') a w
theorem Zmk:∀ (fuel:Nat) (listed:Array Bool) (a:Act) (w:World),Zun r nn P md ops Q S need look fuel listed a w->wpAnyIn (wf r) nn P md ops Q fuel listed a w
 |0,_,_,_,h=>h
 |fuel + 1,_,_,_,h=>⟨h.1,λ i hi=>wpOpIn_mono (λ a' w' h'=>Zmk fuel _ a' w' h'.2) (h.2 i hi)⟩
theorem ZfU {T:World->Prop} {i:Nat} {oi:Oper} {v:Value} (hi:ops[i]? =some oi) (hsel:∀ (j:Nat) (o:Oper) cs b,ops[j]? =some o->o.op≠.select cs b)
  (hQ:∀ c a w,Q (.panic c) (a.put oi.dst v) w->Q (.panic c) a w) (hni:need i=false) (hnd:∀ (j:Nat) (o:Oper),ops[j]? =some o->Zh5 o=true):
  ∀ (fuel:Nat) (listed:Array Bool) (a:Act) (w:World),
   (∀ j oj,ops[j]? =some oj->j≠i->listed.getD j true=false->(∀ e∈oj.after,Region.binds md e=true->e.on≠i)->
    oi.apart ops oj=true/\∀ w w',T w->(need j=true->S w')->(look j=true->w'=w)->T w')->
   i∈Region.ready md ops listed->YieldsIf P ops T oi v a->T w->
   Zun r nn P md ops Q S need look fuel (listed.setIfInBounds i true) (a.put oi.dst v) w->Zun r nn P md ops Q S need look (fuel + 1) listed a w:=by
 intro fuel
 induction fuel with
 |zero=>
  intro listed a w hfree hr hy hT H;refine ⟨λ h=>(by rw [h] at hr;cases hr),λ j hj=>?_⟩;by_cases hji:j=i
  ·subst hji
   exact YieldsIf.wpOpY (hnd _ _ hi) hi hy hT ⟨⟨λ h=>(by rw [hni] at h;cases h),λ _=>rfl⟩,H⟩
  ·have:=ready_mono hj hji
   rw [H.1] at this;cases this
 |succ fuel ih=>
  intro listed a w hfree hr hy hT H;refine ⟨λ h=>(by rw [h] at hr;cases hr),λ j hj=>?_⟩;by_cases hji:j=i
  ·subst hji
   exact YieldsIf.wpOpY (hnd _ _ hi) hi hy hT ⟨⟨λ h=>(by rw [hni] at h;cases h),λ _=>rfl⟩,H⟩
  ·have h1:=H.2 j (ready_mono hj hji)
   obtain ⟨hjun,oj,hoj,hall⟩:=mem_ready.1 hj;have hnot:∀ e∈oj.after,Region.binds md e=true->e.on≠i:=λ e he hb heq=>by
    have h1:=hall e he hb;have h0:=(mem_ready.1 hr).1;rw [heq] at h1;rcases Nat.lt_or_ge i listed.size with h'|h'
    ·simp [h'] at h0 h1;rw [h0] at h1;cases h1
    ·simp [Array.getElem?_eq_none h'] at h1
   obtain ⟨hap,hkeep⟩:=hfree j oj hoj hji hjun hnot;have h2:=ZjU (hnd _ _ hoj) hoj hap (λ cs b=>hsel i oi cs b hi) (λ cs b=>hsel j oj cs b hoj) hQ hy h1;refine wpOpIn_mono (λ a' w' h3=>⟨h3.2.1,ih (listed.setIfInBounds j true) a' w' ?_ (ready_mono hr (Ne.symm hji)) h3.1 (hkeep w w' hT h3.2.1.1 h3.2.1.2) ?_⟩) h2
   ·intro k ok hk hki hun hno
    refine hfree k ok hk hki ?_ hno;by_cases hjk:j=k
    ·subst hjk;exact hjun
    ·rw [getD_set_ne true hjk] at hun;exact hun
   ·rw [Array.setIfInBounds_comm _ _ hji]
    exact h3.2.2
end
def ZoN (ρ:Env) (o:Oper):Option (Nat × List Value):=
 match o.op with
 | .call c=>(match c.callee with
  | .value f=>(match ρ.ev f with
   | .func fn first captured=>(match fn with
    | .yield l=>some (l,first.toList++(c.args.map ρ.ev).toList)
    |_=>none)
   |_=>none)
  |_=>none)
 |_=>none
abbrev YF:=Nat->List Value->World->(Ending->World->Prop)->Prop
def Zuy (P:Program) (cl:FuncId->Bool) (Y:YF) (ρ:Env) (o:Oper) (K:Value->World->Prop) (w:World):Prop:=
 match ZoN ρ o with
 |some (l,args)=>Y l args w λ e w'=>(Zuj P o.type).ex λ v=>e=.returned v/\K v w'
 |none=>opF P cl ρ o K w
theorem Zf5 {P:Program} {cl:FuncId->Bool} {r:Option Nat} {nn:Nat} (hcl:∀ g,cl g=true->ZG P g=true) {a:Act} {e:Env} {o:Oper} {K:Value->World->Prop} {w:World} {Y:YF} (hY:∀ l args w Q,Y l args w Q->YieldAt (wf r) (nn - 1) P l args.toArray w Q)
  {Q:Exit->Act->World->Prop} (hok:Zgr P o.op=true) (h:Zuy P cl Y e o K w):o.uponIn (wf r) nn P a (Zmj a o.dst K) Q ((execOp e.ev o).run P w):=by
 unfold Zuy at h;split at h
 ·rename_i l args hy
  unfold ZoN at hy;obtain ⟨dst,op,ty,pos,after,guard⟩:=o;dsimp only at hy h;split at hy
  case h_2=>cases hy
  rename_i c;obtain ⟨callee,cargs,ats⟩:=c;dsimp only at hy;split at hy
  case h_2=>cases hy
  rename_i f;split at hy
  case h_2=>cases hy
  rename_i fn first captured hf
  split at hy
  case h_2=>cases hy
  rename_i l';simp only [Option.some.injEq,Prod.mk.injEq] at hy;obtain ⟨rfl,rfl⟩:=hy;obtain ⟨fn,tmps,assign,body,hrun,hround⟩:=hY _ _ _ _ h;have hargs:first++cargs.map e.ev=(first.toList++(cargs.map e.ev).toList).toArray:=by
   apply Array.ext';simp
  have:(execOp e.ev ⟨dst,.call ⟨.value f,cargs,ats⟩,ty,pos,after,guard⟩).run P w=.ok (.round l' fn tmps assign body) w:=by
   simp only [execOp,resolve,hf,Deferred.ofValue];simp only [Sem.run_bind,Sem.run_pure,Result.andThen_ok,invoke,hargs];exact hrun
  rw [this];refine ⟨λ h=>(by cases h),RoundIn.mono hround ?_⟩;rintro en w' hx;obtain ⟨v,rfl,hK⟩:=Rt.ex_some hx;exact ⟨v,rfl,hK⟩
 ·exact Zuo (Zcg hcl hok h)
def Zps (P:Program) (cl:FuncId->Bool) (Y:YF) (ops:Array Oper):List Oper->Env->(Env->World->Prop)->World->Prop
 |[],ρ,K,w=>K ρ w
 |o::rest,ρ,K,w=>ZcO ops ρ o
   (λ ρ=>Zuy P cl Y ρ o (λ v w=>Zps P cl Y ops rest (ρ.put o.dst v) K w) w)
   (λ ρ=>Zps P cl Y ops rest (ρ.put o.dst undef) K w)
def Zie (P:Program) (cl:FuncId->Bool) (Y:YF) (ops:Array Oper) (S:World->Prop):Nat->Bool->Array Bool->Env->(Env->World->Prop)->World->Prop
 |0,_,listed,ρ,K,w=>(match Region.ready .any ops listed with
  |[]=>K ρ w
  |_=>False)
 |fuel + 1,hs,listed,ρ,K,w=>(match Region.ready .any ops listed with
  |[]=>K ρ w
  |r::rs=>(match Zjp P ops listed (r::rs) with
   |some i=>(match ops[i]? with
    |some o=>ZcO ops ρ o
      (λ ρ=>Zus P S hs ρ o λ v=>Zie P cl Y ops S fuel hs (listed.setIfInBounds i true) (ρ.put o.dst v) K w)
      (λ ρ=>Zie P cl Y ops S fuel hs (listed.setIfInBounds i true) (ρ.put o.dst undef) K w)
    |none=>False)
   |none=>Zud (λ i=>match ops[i]? with
    |some o=>ZcO ops ρ o
      (λ ρ=>(match Z9 P o.op||Z1 P o.op with
       |true=>False
       |false=>match Zch P ops i with
       |true=>Zuy P cl Y ρ o (λ v w=>S w/\Zie P cl Y ops S fuel hs (listed.setIfInBounds i true) (ρ.put o.dst v) K w) w
       |false=>Zuy P cl Y ρ o (λ v w=>Zie P cl Y ops S fuel false (listed.setIfInBounds i true) (ρ.put o.dst v) K w) w))
      (λ ρ=>(match Z9 P o.op||Z1 P o.op with
       |true=>False
       |false=>match Zch P ops i with
       |true=>(match hs with
        |true=>Zie P cl Y ops S fuel true (listed.setIfInBounds i true) (ρ.put o.dst undef) K w
        |false=>False)
       |false=>Zie P cl Y ops S fuel false (listed.setIfInBounds i true) (ρ.put o.dst undef) K w))
    |none=>False) (r::rs)))
section
variable {r:Option Nat} {nn:Nat} {Y:YF} {P:Program} {cl:FuncId->Bool} {ops:Array Oper} {Q:Exit->Act->World->Prop} {n:Nat} {pw:Nat->Bool} {a0:Env}
theorem ZcJ (hcl:∀ g,cl g=true->ZG P g=true) (hY:∀ l args w Q,Y l args w Q->YieldAt (wf r) (nn - 1) P l args.toArray w Q) {K:Env->World->Prop}
  (hQ:∀ a w,ZcB n pw a0 a->K a.env w->Q .normal a w):∀ (l:List Oper) (_:∀ o∈l,Zgr P o.op=true/\Zbi n pw o=true/\Zh5 o=true) (a:Act) (w:World),
   ZcB n pw a0 a->Zps P cl Y ops l a.env K w->wpListIn (wf r) nn P ops Q l a w
 |[],_,a,w,hk,h=>hQ a w hk h
 |o::rest,hl,a,w,hk,h=>by
  have ho:=hl o (List.mem_cons_self ..);have hrest:=λ x hx=>hl x (List.mem_cons_of_mem _ hx);unfold Zps at h;unfold wpListIn;rcases ZT h with ⟨hw,h⟩|⟨hw,h⟩
  ·rw [if_pos hw]
   refine ⟨λ f _=>ZjW r f,?_⟩;have:=Zf5 hcl (nn:=nn) (r:=r) (a:=a) (Q:=Q) hY ho.1 h;rw [Z4] at this;rw [Zg5 ho.2.2];refine upon_mono ?_ this;rintro a' w' ⟨v,rfl,hv⟩;refine ZcJ hcl hY hQ rest hrest _ w' (hk.put ho.2.1 v) ?_;rw [hk.envput ho.2.1];exact hv
  ·rw [hw]
   simp only [Bool.false_eq_true,if_false];refine ⟨λ f _=>ZjW r f,?_⟩;refine ZcJ hcl hY hQ rest hrest _ w (hk.put ho.2.1 _) ?_;rw [hk.envput ho.2.1];exact h
where
 upon_mono {o:Oper} {a:Act} {K K':Act->World->Prop} {res:Result Next} (h:∀ a w,K a w->K' a w) (hh:o.uponIn (wf r) nn P a K Q res):o.uponIn (wf r) nn P a K' Q res:=by
  cases res with
  |ok x w'=>
   cases x<;>simp only [Oper.uponIn] at hh ⊢<;>
    first
     |exact h _ _ hh
     |exact ⟨hh.1,CallsIn.mono hh.2 (λ e w'' he=>by cases e<;>first|exact h _ _ he|exact he)⟩
     |exact ⟨hh.1,RowsIn.mono hh.2 (λ _ _ he=>h _ _ he)⟩
     |exact ⟨hh.1,RoundIn.mono hh.2 (λ e w'' he=>by cases e<;>first|exact h _ _ he|exact he)⟩
  |halt x w'=>cases x<;>simp only [Oper.uponIn] at hh ⊢<;>exact hh
theorem Zq0 {i:Nat} {o:Oper} {a:Act} {w:World} {K:Act->World->Prop} (hnd:Zh5 o=true) (hi:ops[i]? =some o)
  (h:(Region.wanted o (yielded ops a.tmps)=true/\o.uponIn (wf r) nn P a K Q ((execOp a.eval o).run P w))\/(Region.wanted o (yielded ops a.tmps)=false/\K (a.put o.dst undef) w)):wpOpIn (wf r) nn P ops Q i K a w:=by
 unfold wpOpIn;rw [hi];rcases h with ⟨hw,h⟩|⟨hw,h⟩
 ·simp only [hw,if_true]
  exact ⟨λ f _=>ZjW r f,by rw [Zg5 hnd];exact h⟩
 ·simp only [hw,Bool.false_eq_true,if_false];exact ⟨λ f _=>ZjW r f,h⟩
theorem Zmb (hcl:∀ g,cl g=true->ZG P g=true) (hY:∀ l args w Q,Y l args w Q->YieldAt (wf r) (nn - 1) P l args.toArray w Q) (hsel:Region.noSelect ops=true) {K:Env->World->Prop} {S:World->Prop}
  (hQ:∀ a w,ZcB n pw a0 a->K a.env w->Q .normal a w) (hQp:∀ c a w,¬ Q (.panic c) a w) (hops:∀ (i:Nat) (o:Oper),ops[i]? =some o->Zgr P o.op=true/\Zbi n pw o=true/\Zh5 o=true):
  ∀ (fuel:Nat) (hs:Bool) (listed:Array Bool) (a:Act) (w:World),ZcB n pw a0 a->(hs=true->S w)->Zie P cl Y ops S fuel hs listed a.env K w->
   Zun r nn P .any ops Q S (Zch P ops) (looks P ops) fuel listed a w:=by
 intro fuel
 induction fuel with
 |zero=>
  intro hs listed a w hk hS h;unfold Zie at h;split at h
  ·rename_i hr;exact ⟨hr,hQ a w hk h⟩
  ·exact h.elim
 |succ fuel ih=>
  intro hs listed a w hk hS h;unfold Zie at h;split at h
  ·rename_i hr
   exact ⟨λ _=>hQ a w hk h,λ i hi=>by rw [hr] at hi;cases hi⟩
  ·rename_i r rs hr
   split at h
   ·rename_i i hp
    obtain ⟨hmem,o,ho,hpr,hfree⟩:=Zb2 hp;rw [ho] at h;simp only at h;obtain ⟨hok,hd,hnd⟩:=hops i o ho;have hni:Zch P ops i=false:=by
     unfold Zch;rw [ho];simp only;rcases Bool.or_eq_true _ _|>.mp hpr with hp|hp<;>simp [hp]
    have hrdy:i∈Region.ready .any ops listed:=by rw [hr];exact hmem
    have hfs:=Region.free_spec (md:=.any) ho hfree;have hself:=Region.noSelect_spec hsel;rcases ZT h with ⟨hw,h⟩|⟨hw,h⟩
    ·rcases ZfZ hok hpr h with ⟨hp,v,hv,hK⟩|⟨hp,hhs,v,hv,hK⟩
     ·refine ZfU (T:=λ _=>True) ho hself (λ c a w hc=>absurd hc (hQp c _ w)) hni (λ j o ho=>(hops j o ho).2.2) fuel listed a w (λ j oj hj hne hun hno=>⟨hfs j oj hj hne hun hno,λ _ _ _ _ _=>trivial⟩) hrdy (.inl ⟨hw,?_⟩) trivial
       (ih hs (listed.setIfInBounds i true) (a.put o.dst v) w (hk.put hd v) hS ?_)
      ·rw [<-Z4];exact hv
      ·rw [hk.envput hd];exact hK
     ·have hri:Z1 P o.op=true:=by rw [hp] at hpr;simpa using hpr
      refine ZfU (T:=S) ho hself (λ c a w hc=>absurd hc (hQp c _ w)) hni (λ j o ho=>(hops j o ho).2.2) fuel listed a w (λ j oj hj hne hun hno=>⟨hfs j oj hj hne hun hno,λ w w' hw hneed hlook=>?_⟩) hrdy (.inl ⟨hw,?_⟩) (hS hhs)
       (ih hs (listed.setIfInBounds i true) (a.put o.dst v) w (hk.put hd v) hS ?_)
      ·cases hl:(Z9 P oj.op||Z1 P oj.op) with
       |true=>have:=hlook (by unfold looks;rw [hj];exact hl);rw [this];exact hw
       |false=>exact hneed (ZgJ ho hj hri hl hno)
      ·rw [<-Z4];exact hv
      ·rw [hk.envput hd];exact hK
    ·refine ZfU (T:=λ _=>True) ho hself (λ c a w hc=>absurd hc (hQp c _ w)) hni (λ j o ho=>(hops j o ho).2.2) fuel listed a w (λ j oj hj hne hun hno=>⟨hfs j oj hj hne hun hno,λ _ _ _ _ _=>trivial⟩) hrdy (.inr ⟨hw,rfl⟩) trivial
       (ih hs (listed.setIfInBounds i true) (a.put o.dst undef) w (hk.put hd _) hS ?_)
     rw [hk.envput hd];exact h
   ·refine ⟨λ h0=>absurd (hr ▸ h0) (by simp),λ i hi=>?_⟩
    rw [hr] at hi;have h:=ZeR h i hi;split at h
    case h_2=>exact h.elim
    rename_i o ho;obtain ⟨hok,hd,hnd⟩:=hops i o ho;refine Zq0 hnd ho ?_;rcases ZT h with ⟨hw,h⟩|⟨hw,h⟩
    ·refine .inl ⟨hw,?_⟩
     split at h
     ·exact h.elim
     ·rename_i hl
      have hlk:looks P ops i=false:=by unfold looks;rw [ho];exact hl
      split at h
      ·rename_i hnd
       have:=Zf5 hcl (nn:=nn) (r:=r) (a:=a) (Q:=Q) hY hok h;rw [Z4] at this;refine ZcJ.upon_mono ?_ this;rintro a' w' ⟨v,rfl,hSw,hK⟩;refine ⟨⟨λ _=>hSw,λ hh=>(by rw [hlk] at hh;cases hh)⟩,ih hs _ _ w' (hk.put hd v) (λ _=>hSw) ?_⟩;rw [hk.envput hd];exact hK
      ·rename_i hnd
       have:=Zf5 hcl (nn:=nn) (r:=r) (a:=a) (Q:=Q) hY hok h;rw [Z4] at this;refine ZcJ.upon_mono ?_ this;rintro a' w' ⟨v,rfl,hK⟩;refine ⟨⟨λ hh=>(by rw [hnd] at hh;cases hh),λ hh=>(by rw [hlk] at hh;cases hh)⟩,ih false _ _ w' (hk.put hd v) (λ hh=>by cases hh) ?_⟩;rw [hk.envput hd];exact hK
    ·refine .inr ⟨hw,?_⟩
     split at h
     ·exact h.elim
     ·rename_i hl
      have hlk:looks P ops i=false:=by unfold looks;rw [ho];exact hl
      split at h
      ·split at h
       ·have hSw:=hS rfl
        refine ⟨⟨λ _=>hSw,λ _=>rfl⟩,ih true _ _ w (hk.put hd _) (λ _=>hSw) ?_⟩;rw [hk.envput hd];exact h
       ·exact h.elim
      ·rename_i hnd
       refine ⟨⟨λ hh=>(by rw [hnd] at hh;cases hh),λ _=>rfl⟩,ih false _ _ w (hk.put hd _) (λ hh=>by cases hh) ?_⟩;rw [hk.envput hd];exact h
end
def ZhI (P:Program) (cl:FuncId->Bool) (Y:YF):Code->Sk->Env->ZoM->World->Prop
 | .skip,_,ρ,K,w=>K.nrm ρ w
 | .label _,_,ρ,K,w=>K.nrm ρ w
 | .region _ ops d,_,ρ,K,w=>(match d with
  |false=>Zps P cl Y ops ops.toList ρ K.nrm w
  |true=>Drw w λ S w'=>Zie P cl Y ops S ops.size true (Array.replicate ops.size false) ρ K.nrm w')
 | .seq a b,sk,ρ,K,w=>(match sk with
  | .cut ms ts W _ _=>ZcS ts ms W ρ (λ k=>ZhI P cl Y a sk.l ρ { K with nrm:=k } w) (λ ρ' w'=>ZhI P cl Y b sk.r ρ' K w')
  |_=>ZhI P cl Y a sk.l ρ { K with nrm:=λ ρ' w'=>ZhI P cl Y b sk.r ρ' K w' } w)
 | .cond c a b,sk,ρ,K,w=>(match ρ.ev c with
  | .bool t=>Br t (ZhI P cl Y a sk.l ρ K w) (ZhI P cl Y b sk.r ρ K w)
  |_=>False)
 | .block id a,sk,ρ,K,w=>ZhI P cl Y a sk.l ρ { K with ex:=λ i=>match Nat.beq i id with|true=>K.nrm|false=>K.ex i } w
 | .loop a,sk,ρ,K,w=>(match sk with
  | .loop ms ts W _=>Zn3 ts ms W ρ (λ ρ' k w'=>ZhI P cl Y a sk.l ρ' { K with nrm:=k } w') w
  |_=>False)
 | .scope a,sk,ρ,K,w=>ZhI P cl Y a sk.l ρ K w
 | .exit id,_,ρ,K,w=>K.ex id ρ w
 | .ret,_,ρ,K,w=>K.ret ρ w
 |_,_,_,_,_=>False
def Zcn (P:Program) (n:Nat):Code->Bool
 | .region _ ops _=>Region.noSelect ops && ops.all λ o=>Zgr P o.op && Zh5 o && (match o.dst with|some d=>Nat.blt d n|none=>true)
 | .seq a b| .cond _ a b=>Zcn P n a && Zcn P n b
 | .block _ a| .loop a=>Zcn P n a
 | .scope _=>false
 | .rangeFunc _ _ _ _=>false
 |_=>true
variable {r:Option Nat} {nn:Nat} {Y:YF} {P:Program} {cl:FuncId->Bool} {n:Nat}
theorem Zjk (hcl:∀ g,cl g=true->ZG P g=true) (hY:∀ l args w Q,Y l args w Q->YieldAt (wf r) (nn - 1) P l args.toArray w Q) (hmix:P.follows .mixedOrders=true) {pw:Nat->Bool} {a0:Env} {id:Nat} {ops:Array Oper} {d:Bool}
  (hc:Zcn P n (.region id ops d)=true) (hw:Zdh pw (.region id ops d)=true) {sk:Sk} {K:ZoM} {a:Act} {w:World} (hk:ZcB n pw a0 a)
  (h:ZhI P cl Y (.region id ops d) sk a.env K w):(Code.region id ops d).wpIn (wf r) nn P (PK n pw a0 K) a w:=by
 simp only [Zcn,Bool.and_eq_true,Array.all_eq_true_iff_forall_mem] at hc;simp only [Zdh,Array.all_eq_true_iff_forall_mem] at hw;have hops:∀ o∈ops,Zgr P o.op=true/\Zbi n pw o=true/\Zh5 o=true:=λ o ho=>by
  have h1:=hc.2 o ho;have h2:=hw o ho;refine ⟨h1.1.1,?_,h1.1.2⟩;unfold Zbi;cases hd:o.dst with
  |none=>rfl
  |some x=>rw [hd] at h1 h2;simp only [Bool.and_eq_true];exact ⟨h1.2,h2⟩
 unfold ZhI at h;cases d with
 |false=>
  exact wpIn_region_list (ZcJ (Q:=PK n pw a0 K) hcl hY (λ a w hk h=>⟨hk,h⟩) ops.toList (λ o ho=>hops o (by simpa using ho)) a w hk h)
 |true=>
  obtain ⟨S0,S,hS,h⟩:=h;obtain ⟨hS,h⟩:=h _ hS;refine wpIn_region_any hmix (Zmk _ _ _ _ (Zmb (Q:=PK n pw a0 K) hcl hY hc.1 (λ a w hk h=>⟨hk,h⟩) (λ _ _ _ h=>h) (λ i o ho=>hops o (Array.mem_of_getElem? ho)) _ _ _ _ _ hk (λ _=>hS) h))
theorem ZaK (hcl:∀ g,cl g=true->ZG P g=true) (hY:∀ l args w Q,Y l args w Q->YieldAt (wf r) (nn - 1) P l args.toArray w Q) (hmix:P.follows .mixedOrders=true):∀ (c:Code) (sk:Sk) (pw:Nat->Bool) (a0:Env),
  Zcn P n c=true->Zdh pw c=true->Ze1 c sk=true->∀ (a:Act) (K:ZoM) (w:World),ZcB n pw a0 a->ZhI P cl Y c sk a.env K w->c.wpIn (wf r) nn P (PK n pw a0 K) a w
 | .skip,sk,pw,a0,_,_,_,a,K,w,hk,h=>wpIn_skip ⟨hk,h⟩
 | .label _,sk,pw,a0,_,_,_,a,K,w,hk,h=>wpIn_label ⟨hk,h⟩
 | .exit _,sk,pw,a0,_,_,_,a,K,w,hk,h=>wpIn_exit ⟨hk,h⟩
 | .ret,sk,pw,a0,_,_,_,a,K,w,hk,h=>wpIn_ret ⟨hk,h⟩
 | .region id ops d,sk,pw,a0,hc,hw,_,a,K,w,hk,h=>Zjk hcl hY hmix hc hw hk h
 | .goto _,sk,pw,a0,_,_,_,a,K,w,hk,h=>h.elim
 | .refuse _,sk,pw,a0,_,_,_,a,K,w,hk,h=>h.elim
 | .rangeFunc _ _ _ _,sk,pw,a0,_,_,_,a,K,w,hk,h=>h.elim
 | .scope c,sk,pw,a0,hc,hw,hs,a,K,w,hk,h=>by cases hc
 | .block id c,sk,pw,a0,hc,hw,hs,a,K,w,hk,h=>by
  refine wpIn_block ?_;refine Code.wpIn_mono ?_ (ZaK hcl hY hmix c sk.l pw a0 hc hw hs a _ w hk h);intro e a w hq;cases e with
  |exit i=>
   obtain ⟨hk,hq⟩:=hq;show if i=id then _ else _
   by_cases hi:i=id
   ·subst hi
    rw [if_pos rfl];have:Nat.beq i i=true:=by simp
    simp only [this] at hq;exact ⟨hk,hq⟩
   ·rw [if_neg hi]
    have:Nat.beq i id=false:=by
     cases hb:Nat.beq i id with
     |false=>rfl
     |true=>exact absurd (Nat.eq_of_beq_eq_true hb) hi
    simp only [this] at hq;exact ⟨hk,hq⟩
  |normal=>exact hq
  |ret=>exact hq
  |_=>exact hq.elim
 | .cond c x y,sk,pw,a0,hc,hw,hs,a,K,w,hk,h=>by
  simp only [Zcn,Zdh,Ze1,Bool.and_eq_true] at hc hw hs;unfold ZhI at h;split at h
  ·rename_i t ht
   rw [Z4] at ht;refine wpIn_cond_split ht (λ hb=>?_) (λ hb=>?_)
   ·subst hb;exact ZaK hcl hY hmix x sk.l pw a0 hc.1 hw.1 hs.1 a K w hk h
   ·subst hb;exact ZaK hcl hY hmix y sk.r pw a0 hc.2 hw.2 hs.2 a K w hk h
  ·exact h.elim
 | .seq x y,sk,pw,a0,hc,hw,hs,a,K,w,hk,h=>by
  simp only [Zcn,Zdh,Ze1,Bool.and_eq_true] at hc hw hs;refine wpIn_seq ?_;have plain:ZhI P cl Y x sk.l a.env { K with nrm:=λ ρ' w'=>ZhI P cl Y y sk.r ρ' K w' } w->x.wpIn (wf r) nn P (Exit.then (y.wpIn (wf r) nn P (PK n pw a0 K)) (PK n pw a0 K)) a w:=λ h=>by
   refine Code.wpIn_mono ?_ (ZaK hcl hY hmix x sk.l pw a0 hc.1 hw.1 hs.1.2 a _ w hk h);intro e a w hq;cases e with
   |normal=>exact ZaK hcl hY hmix y sk.r pw a0 hc.2 hw.2 hs.2 a K w hq.1 hq.2
   |_=>exact hq
  cases sk with
  |cut ms ts W l r=>
   simp only [Bool.and_eq_true] at hs;obtain ⟨J,h1,h2⟩:=(show ZcS ts ms W a.env (λ k=>ZhI P cl Y x l a.env { K with nrm:=k } w) (λ ρ' w'=>ZhI P cl Y y r ρ' K w') from h)
   have:=ZaK hcl hY hmix x l (λ i=>pw i && ZhZ i W) a.env hc.1 (Za9 hw.1 hs.1.1.1) hs.1.2 a _ w (ZcB.refl hk.size hk.defers) h1;refine Code.wpIn_mono ?_ this;intro e b w' hq;cases e with
   |normal=>
    obtain ⟨hkb,hq⟩:=hq;have hall:=h2 b.env;have hb:=Zfg (by rw [ZeF];exact Nat.eq_of_beq_eq_true hs.1.1.2) hq hall w' hq;rw [Zf9 (λ i hi=>hkb.same i (by simp [hi]))] at hb;exact ZaK hcl hY hmix y r pw a0 hc.2 hw.2 hs.2 b K w' (hk.trans hkb) hb
   |exit i=>exact ⟨hk.trans hq.1,hq.2⟩
   |ret=>exact ⟨hk.trans hq.1,hq.2⟩
   |_=>exact hq.elim
  |leaf=>exact plain h
  |seq l r=>exact plain h
  |cond l r=>exact plain h
  |block l=>exact plain h
  |loop ms ts W l=>exact plain h
 | .loop c,sk,pw,a0,hc,hw,hs,a,K,w,hk,h=>by
  cases sk with
  |loop ms ts W l=>
   simp only [Ze1,Bool.and_eq_true] at hs;have hc:Zcn P n c=true:=hc;have hw:Zdh pw c=true:=hw;obtain ⟨I,μ,h0,hstep⟩:=(show Zn3 ts ms W a.env (λ ρ' k w'=>ZhI P cl Y c l ρ' { K with nrm:=k } w') w from h)
   have hlen:∀ e:Env,(ZeU ms e).length=ts.length:=λ e=>by rw [ZeF];exact Nat.eq_of_beq_eq_true hs.1.2
   refine wpIn_loop (λ b v=>ZcB n pw a0 b/\(∀ i,ZhZ i W=false->b.env i=a.env i)/\app ts I (ZeU ms b.env) (λ p=>p v))
    (λ b v=>Zod (λ _=>0) ts μ (ZeU ms b.env) v) ⟨hk,λ _ _=>rfl,h0⟩ ?_
   rintro b v ⟨hkb,hsame,hI⟩;have hb:=Zfg (hlen b.env) hI (hstep b.env) v hI;rw [Zf9 hsame] at hb;have:=ZaK hcl hY hmix c l (λ i=>pw i && ZhZ i W) b.env hc (Za9 hw hs.1.1) hs.2 b _ v (ZcB.refl hkb.size hkb.defers) hb;refine Code.wpIn_mono ?_ this;intro e b' v' hq;cases e with
   |normal=>
    obtain ⟨hkb',hI',hμ⟩:=hq;exact ⟨⟨hkb.trans hkb',λ i hi=>(hkb'.same i (by simp [hi])).trans (hsame i hi),hI'⟩,by
     have h1:=Zff (d:=λ _=>0) hμ;exact Zff (d:=λ _=>0) h1⟩
   |exit i=>exact ⟨hkb.trans hq.1,hq.2⟩
   |ret=>exact ⟨hkb.trans hq.1,hq.2⟩
   |_=>exact hq.elim
  |_=>exact False.elim h
end
end Go.VC
