/- VC, part 1: readable formulas for single operations of the model, each proved to be enough for the model's own run of that operation. No condition. -/
import Derived.OrdersHeld
import Derived.KernelRfl
import Derived.Laws.Entries
import Derived.Laws.Cells
import Derived.Laws.World
import Derived.Tactics
import Derived.Scope
import Derived.Defers
import Derived.Recover
import Derived.Test.YtlplemdmegpoeaaGreatDoorProg
import Derived.Deep.AppendSrc
import Derived.Deep.DeepAppendWide
import Derived.Laws.AppendOwn
import Derived.Laws.IdiomCopy
import Derived.Sort.Grow
import Derived.Lib.SliceRun
import GoSem.Instr.MapUpdate
import GoSem.Builtin.Delete
import Derived.MapKept
set_option linter.unusedVariables false
set_option linter.unusedSimpArgs false
set_option maxHeartbeats 8000000
namespace Go.VC
structure Sl where
 a:Option Addr
 len:Nat
 cap:Nat
abbrev _root_.nI (n : Int) : Value := .int .i64 n
abbrev _root_.nP (b : Nat) : Value := .pointer (some ⟨b,0,none⟩)
abbrev _root_.nO (a : Addr) (n : Nat) : Addr := ⟨a.block,a.off + n,none⟩
abbrev _root_.nK := Value -> World -> Prop
abbrev _root_.nW := World
abbrev _root_.wI (n : Int) : Int := IntKind.i64.wrap n
abbrev Sl.v (s : Sl) : Value := .slice s.a s.len s.cap
inductive Ty where
 |int (k:IntKind)|bool|str|sl|ptr|map|flt|any
@[reducible] def Ty.T:Ty->Type
 | .int _=>Int| .bool=>Bool| .str=>ByteArray| .sl=>Sl| .ptr=>Option Addr| .map=>Option Nat| .flt=>Nat| .any=>Value
def Ty.enc:(t:Ty)->t.T->Value
 | .int k,n=>.int k n
 | .bool,b=>.bool b
 | .str,s=>.string s
 | .sl,s=>.slice s.a s.len s.cap
 | .ptr,p=>.pointer p
 | .map,m=>.map m
 | .flt,n=>.float .f64 n
 | .any,v=>v
def Ty.un:(t:Ty)->Value->(t.T->Prop)->Prop
 | .int k,v,φ=>match v with| .int k' n=>(match decide (k=k') with|true=>φ n|false=>False)|_=>False
 | .bool,v,φ=>match v with| .bool b=>φ b|_=>False
 | .str,v,φ=>match v with| .string s=>φ s|_=>False
 | .sl,v,φ=>match v with| .slice a n c=>φ ⟨a,n,c⟩|_=>False
 | .ptr,v,φ=>match v with| .pointer p=>φ p|_=>False
 | .map,v,φ=>match v with| .map m=>φ m|_=>False
 | .flt,v,φ=>match v with| .float .f64 n=>φ n|_=>False
 | .any,v,φ=>φ v
theorem Ty.un_enc {t:Ty} {v:Value} {φ:t.T->Prop} (h:t.un v φ):∃ x,v=t.enc x/\φ x:=by
 cases t<;>simp only [Ty.un] at h
 case int k=>
  split at h
  ·split at h
   ·rename_i hk;have:=of_decide_eq_true hk;subst this;exact ⟨_,rfl,h⟩
   ·exact h.elim
  ·exact h.elim
 case any=>exact ⟨v,rfl,h⟩
 all_goals (split at h<;>first|exact ⟨_,rfl,h⟩|exact h.elim)
def Ty.ex:(t:Ty)->(Value->Prop)->Prop
 | .int k,φ=>∃ n:Int,φ (.int k n)
 | .bool,φ=>∃ b:Bool,φ (.bool b)
 | .str,φ=>∃ s:ByteArray,φ (.string s)
 | .sl,φ=>∃ s:Sl,φ (.slice s.a s.len s.cap)
 | .ptr,φ=>∃ p:Option Addr,φ (.pointer p)
 | .map,φ=>∃ m:Option Nat,φ (.map m)
 | .flt,φ=>∃ n:Nat,φ (.float .f64 n)
 | .any,φ=>∃ v:Value,φ v
theorem Ty.ex_some {t:Ty} {φ:Value->Prop} (h:t.ex φ):∃ v,φ v:=by
 cases t<;>(obtain ⟨x,h⟩:=h;exact ⟨_,h⟩)
def ZnB:List Ty->(List Value->Prop)->Prop
 |[],φ=>φ []
 |t::ts,φ=>t.ex λ v=>ZnB ts λ vs=>φ (v::vs)
theorem Zjq:∀ {ts:List Ty} {φ:List Value->Prop},ZnB ts φ->∃ vs,φ vs
 |[],_,h=>⟨[],h⟩
 |_::_,_,h=>let ⟨v,h⟩:=Ty.ex_some h;let ⟨vs,h⟩:=Zjq h;⟨v::vs,h⟩
inductive Vt where
 |one (t:Ty)|agg (ts:List Ty)
def Vt.ex:Vt->(Value->Prop)->Prop
 | .one t,φ=>t.ex φ
 | .agg ts,φ=>ZnB ts λ vs=>φ (.agg vs.toArray)
theorem Vt.ex_some {t:Vt} {φ:Value->Prop} (h:t.ex φ):∃ v,φ v:=by
 cases t with
 |one t=>exact Ty.ex_some h
 |agg ts=>let ⟨vs,h⟩:=Zjq h;exact ⟨_,h⟩
def Zs7:List Vt->(List Value->Prop)->Prop
 |[],φ=>φ []
 |t::ts,φ=>t.ex λ v=>Zs7 ts λ vs=>φ (v::vs)
theorem Zic:∀ {ts:List Vt} {φ:List Value->Prop},Zs7 ts φ->∃ vs,φ vs
 |[],_,h=>⟨[],h⟩
 |_::_,_,h=>let ⟨v,h⟩:=Vt.ex_some h;let ⟨vs,h⟩:=Zic h;⟨v::vs,h⟩
inductive Rt where
 |val (t:Vt)|tup (ts:List Vt)
def Rt.ex:Rt->(Value->Prop)->Prop
 | .val t,φ=>t.ex φ
 | .tup ts,φ=>Zs7 ts λ vs=>φ (.tuple vs.toArray)
theorem Rt.ex_some {t:Rt} {φ:Value->Prop} (h:t.ex φ):∃ v,φ v:=by
 cases t with
 |val t=>exact Vt.ex_some h
 |tup ts=>let ⟨vs,h⟩:=Zic h;exact ⟨_,h⟩
def ZBR (P:Program) (t:TypeId):Ty:=
 match P.underlying t with
 |some .bool=>.bool
 |some (.int k)=>.int k
 |some .string=>.str
 |some (.pointer _)=>.ptr
 |some (.slice _)=>.sl
 |some (.map _ _)=>.map
 |some (.float .f64)=>.flt
 |_=>.any
def ZsY (f:TypeId->Option (List Ty)):List Field->Option (List Ty)
 |[]=>some []
 |x::xs=>match f x.type with
  |none=>none
  |some l=>match ZsY f xs with
   |none=>none
   |some m=>some (l++m)
def ZAL (P:Program):Nat->TypeId->Option (List Ty)
 |0,_=>none
 |d + 1,t=>match P.underlying t with
  |some (.struct fs)=>ZsY (ZAL P d) fs.toList
  |some (.array n e)=>match Nat.ble n 4 with
   |true=>match ZAL P d e with
    |some l=>some (List.replicate n l).flatten
    |none=>none
   |false=>none
  |_=>some [ZBR P t]
def ZBQ (P:Program) (t:TypeId):Vt:=
 match P.underlying t with
 |some (.struct _)|some (.array _ _)=>match ZAL P 6 t with
  |some l=>.agg l
  |none=>.one .any
 |_=>.one (ZBR P t)
def Zz6 (P:Program) (t:TypeId):Rt:=
 match P.underlying t with
 |some (.tuple ts)=>.tup (ts.toList.map (ZBQ P))
 |_=>.val (ZBQ P t)
abbrev Env:=Nat->Value
def Env.set (ρ:Env) (d:Nat) (v:Value):Env:=λ i=>match Nat.beq i d with|true=>v|false=>ρ i
def Env.put (ρ:Env) (d:Option Tmp) (v:Value):Env:=match d with|some d=>ρ.set d v|none=>ρ
def Env.ev (ρ:Env):Operand->Value
 | .tmp t=>ρ t
 | .const v=>v
 | .global g=>.pointer (some ⟨g,0,none⟩)
 | .func f=>.func (.func f) #[] #[]
def Br (b:Bool) (A B:Prop):Prop:=match b with|true=>A|false=>B
theorem Br.mk {b:Bool} {A B:Prop} (h:b=true->A) (h':b=false->B):Br b A B:=by
 cases b
 ·exact h' rfl
 ·exact h rfl
theorem Br.t {b:Bool} {A B:Prop} (hb:b=true) (h:A):Br b A B:=by subst hb;exact h
theorem Br.f {b:Bool} {A B:Prop} (hb:b=false) (h:B):Br b A B:=by subst hb;exact h
def Nz (b:Int) (A:Prop):Prop:=match decide (b=0) with|true=>False|false=>A
theorem Nz.mk {b:Int} {A:Prop} (hb:b≠0) (h:A):Nz b A:=by unfold Nz;rw [decide_eq_false hb];exact h
theorem Nz.out {b:Int} {A:Prop} (h:Nz b A):b≠0/\A:=by
 unfold Nz at h;split at h
 ·exact h.elim
 ·rename_i hb;exact ⟨of_decide_eq_false hb,h⟩
def Zgf (op:BinOp) (k:IntKind) (x y:Int):Int:=
 let a:=BitVec.ofInt k.bits x
 let b:=BitVec.ofInt k.bits y
 k.wrap (match op with| .and=>(a &&& b).toNat| .or=>(a|||b).toNat| .xor=>(a ^^^ b).toNat|_=>(a &&& ~~~b).toNat:Nat)
def ZvU (k:IntKind) (x y:Int):Int:=k.wrap (x * 2 ^ min y.toNat k.bits)
def ZgP (k:IntKind) (x y:Int):Int:=x.fdiv (2 ^ min y.toNat k.bits)
def Ge0 (y:Int) (A:Prop):Prop:=match decide (y<0) with|true=>False|false=>A
theorem Ge0.mk {y:Int} {A:Prop} (hy:0<=y) (h:A):Ge0 y A:=by unfold Ge0;rw [decide_eq_false (by omega)];exact h
def ariF (op:BinOp) (k:IntKind) (a b:Int) (K:Value->Prop):Prop:=
 match op with
 | .add=>K (.int k (k.wrap (a + b)))
 | .sub=>K (.int k (k.wrap (a - b)))
 | .mul=>K (.int k (k.wrap (a * b)))
 | .quo=>Nz b (K (.int k (k.wrap (a.tdiv b))))
 | .rem=>Nz b (K (.int k (a.tmod b)))
 | .and=>K (.int k (Zgf .and k a b))
 | .or=>K (.int k (Zgf .or k a b))
 | .xor=>K (.int k (Zgf .xor k a b))
 | .andNot=>K (.int k (Zgf .andNot k a b))
 | .eql=>K (.bool (a==b))
 | .neq=>K (.bool (a !=b))
 | .lss=>K (.bool (decide (a<b)))
 | .leq=>K (.bool (decide (a<=b)))
 | .gtr=>K (.bool (decide (a>b)))
 | .geq=>K (.bool (decide (a >= b)))
 |_=>False
def strF (op:BinOp) (a b:ByteArray) (K:Value->Prop):Prop:=
 match op with
 | .add=>((a.size + b.size:Nat):Int)<=IntKind.i64.max/\K (.string (a++b))
 | .eql=>K (.bool (a.toList==b.toList))
 | .neq=>K (.bool !(a.toList==b.toList))
 | .lss=>K (.bool (Op.bytesLess a.toList b.toList))
 | .leq=>K (.bool (Op.bytesLess a.toList b.toList||a.toList==b.toList))
 | .gtr=>K (.bool !(Op.bytesLess a.toList b.toList||a.toList==b.toList))
 | .geq=>K (.bool !(Op.bytesLess a.toList b.toList))
 |_=>False
def eqF (op:BinOp) (b:Bool) (K:Value->Prop):Prop:=
 match op with
 | .eql=>K (.bool b)
 | .neq=>K (.bool !b)
 |_=>False
def Zes (P:Program) (T:TypeId):Nat:=
 match P.underlying T with
 |some (.int _)=>1
 |some .string=>2
 |some .bool=>3
 |some (.pointer _)=>4
 |some (.slice _)=>5
 |some (.map _ _)=>6
 |some (.func _ _ _)=>7
 |_=>0
def Znl:BinOp->Bool| .shl| .shr=>true|_=>false
def ZvV (op:BinOp) (k:IntKind) (a y:Int) (K:Value->Prop):Prop:=
 Ge0 y (match op with
 | .shl=>K (.int k (ZvU k a y))
 |_=>K (.int k (ZgP k a y)))
def intF (op:BinOp) (x y:Value) (K:Value->Prop):Prop:=
 match x with
 | .int k a=>match y with
  | .int k' b=>(match Znl op with
   |true=>ZvV op k a b K
   |false=>(match decide (k=k') with|true=>ariF op k a b K|false=>False))
  |_=>False
 |_=>False
def ZDf (P:Program) (op:BinOp) (T:TypeId) (x y:Value) (K:Value->Prop):Prop:=
 match Zes P T with
 |1=>intF op x y K
 |2=>match x with
  | .string a=>match y with| .string b=>strF op a b K|_=>False
  |_=>False
 |3=>match x with
  | .bool a=>match y with| .bool b=>eqF op (a==b) K|_=>False
  |_=>False
 |4=>match x with
  | .pointer p=>match y with| .pointer none=>eqF op p.isNone K|_=>False
  |_=>False
 |5=>match x with
  | .slice a _ _=>match y with| .slice none _ _=>eqF op a.isNone K|_=>False
  |_=>False
 |6=>match x with
  | .map m=>match y with| .map none=>eqF op m.isNone K|_=>False
  |_=>False
 |7=>match y with
  | .nilFunc=>match x with| .nilFunc=>eqF op true K| .func _ _ _=>eqF op false K|_=>False
  |_=>False
 |_=>False
theorem ZeM {P:Program} {T:TypeId} {x y:Value} {b:Bool} (h:∀ d w,(Op.equalIn (d + 1) T x y).run P w=.ok b w) (op:BinOp) {K:Value->Prop} (ox oy:Operand)
  (hop:eqF op b K) (hb:binOp .eql T x y=(do pure (.bool (<-Op.equal T x y)):Sem Value)) (hb':binOp .neq T x y=(do pure (.bool (!(<-Op.equal T x y))):Sem Value))
  (hg:∀ w,(eqGuard op T ox oy x y).run P w=.ok () w):
  ∃ v,(∀ w,(do eqGuard op T ox oy x y;binOp op T x y:Sem Value).run P w=.ok v w)/\K v:=by
 have h':∀ w,(Op.equal T x y).run P w=.ok b w:=h 9999;cases op<;>simp only [eqF] at hop
 ·exact ⟨_,λ w=>by rw [Sem.run_bind,hg w,hb];simp [h'],hop⟩
 ·exact ⟨_,λ w=>by rw [Sem.run_bind,hg w,hb'];simp [h'],hop⟩
theorem Zqp {P:Program} {op:BinOp} {T:TypeId} {x y:Value} {K:Value->Prop} (h:ZDf P op T x y K) (ox oy:Operand):
  ∃ v,(∀ w,(do eqGuard op T ox oy x y;binOp op T x y:Sem Value).run P w=.ok v w)/\K v:=by
 unfold ZDf at h;split at h
 ·-- integers
  unfold intF at h;split at h
  ·rename_i k a
   split at h
   ·rename_i k' b
    split at h
    ·rename_i hs
     unfold ZvV Ge0 at h;split at h
     ·exact h.elim
     ·rename_i hy
      have hy:=of_decide_eq_false hy;have e:∀ s:Sem Value,(do eqGuard op T ox oy (.int k a) (.int k' b);s:Sem Value)=s:=λ s=>by
       unfold eqGuard;cases op<;>simp [Znl] at hs<;>rfl
      cases op<;>simp only [Znl,Bool.false_eq_true] at hs<;>simp only at h
      ·exact ⟨_,λ w=>by simp only [e,binOp,Op.shift,if_neg hy];rfl,h⟩
      ·exact ⟨_,λ w=>by simp only [e,binOp,Op.shift,if_neg hy];rfl,h⟩
    ·split at h
     ·rename_i hk
      have hk:=of_decide_eq_true hk;subst hk;unfold ariF at h;cases op<;>simp only at h
      case add=>exact ⟨_,λ w=>by simp [eqGuard,binOp,Op.intArith],h⟩
      case sub=>exact ⟨_,λ w=>by simp [eqGuard,binOp,Op.intArith],h⟩
      case mul=>exact ⟨_,λ w=>by simp [eqGuard,binOp,Op.intArith],h⟩
      case quo=>obtain ⟨hb,h⟩:=h.out;exact ⟨_,λ w=>by simp [eqGuard,binOp,Op.intDiv,hb],h⟩
      case rem=>obtain ⟨hb,h⟩:=h.out;exact ⟨_,λ w=>by simp [eqGuard,binOp,Op.intDiv,hb],h⟩
      case and=>exact ⟨_,λ w=>by simp [eqGuard,binOp,Op.intBits,Zgf],h⟩
      case or=>exact ⟨_,λ w=>by simp [eqGuard,binOp,Op.intBits,Zgf],h⟩
      case xor=>exact ⟨_,λ w=>by simp [eqGuard,binOp,Op.intBits,Zgf],h⟩
      case andNot=>exact ⟨_,λ w=>by simp [eqGuard,binOp,Op.intBits,Zgf],h⟩
      case eql=>exact ⟨_,λ w=>by simp [eqGuard,binOp,Op.intCmp],h⟩
      case neq=>exact ⟨_,λ w=>by simp [eqGuard,binOp,Op.intCmp],h⟩
      case lss=>exact ⟨_,λ w=>by simp [eqGuard,binOp,Op.intCmp],h⟩
      case leq=>exact ⟨_,λ w=>by simp [eqGuard,binOp,Op.intCmp],h⟩
      case gtr=>exact ⟨_,λ w=>by simp [eqGuard,binOp,Op.intCmp],h⟩
      case geq=>exact ⟨_,λ w=>by simp [eqGuard,binOp,Op.intCmp],h⟩
     ·exact h.elim
   ·exact h.elim
  ·exact h.elim
 ·split at h
  ·split at h
   ·rename_i a _ b
    unfold strF at h;cases op<;>simp only at h
    case add=>
     obtain ⟨hb,h⟩:=h;exact ⟨_,λ w=>by simp only [eqGuard,binOp,Op.stringOp];rw [if_neg (Int.not_lt.2 hb)];simp,h⟩
    all_goals exact ⟨_,λ w=>by simp [eqGuard,binOp,Op.stringOp],h⟩
   ·exact h.elim
  ·exact h.elim
 ·rename_i hT
  have hT:P.underlying T=some .bool:=by
   unfold Zes at hT;split at hT<;>first|assumption|simp at hT
  split at h
  ·split at h
   ·exact ZeM (λ d w=>by simp [Op.equalIn,run_underlying hT]) op ox oy h rfl rfl (λ w=>by cases op<;>rfl)
   ·exact h.elim
  ·exact h.elim
 ·rename_i hT
  obtain ⟨e,hT⟩:∃ e,P.underlying T=some (.pointer e):=by
   unfold Zes at hT;split at hT<;>first|exact ⟨_,by assumption⟩|simp at hT
  split at h
  ·split at h
   ·rename_i p _
    exact ZeM (λ d w=>by cases p<;>simp [Op.equalIn,run_underlying hT]) op ox oy h (by cases p<;>rfl) (by cases p<;>rfl) (λ w=>by cases op<;>rfl)
   ·exact h.elim
  ·exact h.elim
 ·rename_i hT
  obtain ⟨e,hT⟩:∃ e,P.underlying T=some (.slice e):=by
   unfold Zes at hT;split at hT<;>first|exact ⟨_,by assumption⟩|simp at hT
  split at h
  ·split at h
   ·rename_i a _ _ _ _ _
    exact ZeM (λ d w=>by cases a<;>simp [Op.equalIn,run_underlying hT]) op ox oy h rfl rfl (λ w=>by cases op<;>rfl)
   ·exact h.elim
  ·exact h.elim
 ·rename_i hT
  obtain ⟨e,e',hT⟩:∃ e e',P.underlying T=some (.map e e'):=by
   unfold Zes at hT;split at hT<;>first|exact ⟨_,_,by assumption⟩|simp at hT
  split at h
  ·split at h
   ·rename_i m _
    exact ZeM (λ d w=>by cases m<;>simp [Op.equalIn,run_underlying hT]) op ox oy h rfl rfl (λ w=>by cases op<;>rfl)
   ·exact h.elim
  ·exact h.elim
 ·rename_i hT
  obtain ⟨e,e',e'',hT⟩:∃ e e' e'',P.underlying T=some (.func e e' e''):=by
   unfold Zes at hT;split at hT<;>first|exact ⟨_,_,_,by assumption⟩|simp at hT
  split at h
  ·split at h
   ·exact ZeM (λ d w=>by simp [Op.equalIn,run_underlying hT]) op ox oy h rfl rfl (λ w=>by cases op<;>rfl)
   ·exact ZeM (λ d w=>by simp [Op.equalIn,run_underlying hT]) op ox oy h rfl rfl (λ w=>by cases op<;>rfl)
   ·exact h.elim
  ·exact h.elim
 ·exact h.elim
def Zfk {α:Type} (P:Program):Sem α->Option α
 | .pure a=>some a
 | .program k=>Zfk P (k P)
 | .mark _ k=>Zfk P k
 |_=>none
theorem ZfM {α:Type} {P:Program} {s:Sem α} {a:α} (h:Zfk P s=some a) (w:World):s.run P w=.ok a w:=by
 induction s with
 |pure b=>simp only [Zfk,Option.some.injEq] at h;subst h;rfl
 |program k ih=>exact ih P h
 |mark m k ih=>exact ih h
 |_=>simp [Zfk] at h
def Zja {α:Type} (P:Program):Sem α->Option (Obj × (Nat->Option α))
 | .program k=>Zja P (k P)
 | .mark _ k=>Zja P k
 | .new o k=>some (o,λ b=>Zfk P (k b))
 |_=>none
theorem ZlR {α:Type} {P:Program} {s:Sem α} {o:Obj} {f:Nat->Option α} (h:Zja P s=some (o,f)) (w:World) {a:α} (ha:f w.heap.size=some a):
  s.run P w=.ok a (w.alloc o):=by
 induction s with
 |program k ih=>exact ih P h
 |mark m k ih=>exact ih h
 |new o' k ih=>
  simp only [Zja,Option.some.injEq,Prod.mk.injEq] at h;obtain ⟨rfl,rfl⟩:=h;exact ZfM ha _
 |_=>simp [Zja] at h
def PR (P:Program) (s:Sem Next) (K:Value->Prop):Prop:=
 match Zfk P s with
 |some (.value v)=>K v
 |_=>False
def Zhx (P:Program) (t:TypeId):Nat:=match P.info? t with|some i=>i.size|none=>0
def Zc (p:Option Addr) (K:Addr->Prop):Prop:=match p with|some a=>K a|none=>False
theorem Zc.mk {p:Option Addr} {a:Addr} {K:Addr->Prop} (hp:p=some a) (h:K a):Zc p K:=by subst hp;exact h
def Zz3 (x:Value) (K:Value->Prop):Prop:=
 match x with
 | .pointer p=>Zc p λ a=>K (.pointer (some a))
 | .func (.func f) first captured=>K (.func (.func f) first captured)
 | .iface t v=>K (.iface t v)
 |_=>False
def Zcp (i n:Nat):Nat:=match n with|1=>i|n=>i * n
theorem Zgy (i n:Nat):Zcp i n=i * n:=by unfold Zcp;split<;>simp
def Rng (i:Int) (n:Nat) (A:Prop):Prop:=match decide (0<=i/\i<(n:Int)) with|true=>A|false=>False
theorem Rng.mk {i:Int} {n:Nat} {A:Prop} (h0:0<=i) (h1:i<(n:Int)) (h:A):Rng i n A:=by unfold Rng;rw [decide_eq_true ⟨h0,h1⟩];exact h
theorem Rng.out {i:Int} {n:Nat} {A:Prop} (h:Rng i n A):0<=i/\i<(n:Int)/\A:=by
 unfold Rng at h;split at h
 ·rename_i hb;have:=of_decide_eq_true hb;exact ⟨this.1,this.2,h⟩
 ·exact h.elim
theorem Zc.out {p:Option Addr} {K:Addr->Prop} (h:Zc p K):∃ a,p=some a/\K a:=by
 unfold Zc at h;split at h
 ·exact ⟨_,rfl,h⟩
 ·exact h.elim
def idxA (base:Option Addr) (len:Nat) (i:Int) (size:Nat) (K:Value->Prop):Prop:=
 Rng i len (Zc base λ a=>K (.pointer (some (a.add (Zcp i.toNat size)))))
def Zkq (P:Program) (T:TypeId) (x i:Value) (K:Value->Prop):Prop:=
 match i with
 | .int _ n=>match P.underlying T with
  |some (.slice e)=>(match x with| .slice a len _=>idxA a len n (Zhx P e) K|_=>False)
  |some (.array len e)=>(match x with| .pointer p=>idxA p len n (Zhx P e) K|_=>False)
  |_=>False
 |_=>False
def Zji (P:Program) (t:TypeId):Bool:=match P.underlying t with|some (.struct _)|some (.array _ _)=>true|_=>false
def ZC4 (P:Program) (T:TypeId) (x i:Value) (K:Value->Prop):Prop:=
 match i with
 | .int _ n=>match P.underlying T with
  |some .string=>(match x with| .string s=>∃ c:UInt8,0<=n/\s[n.toNat]? =some c/\K (.int .u8 c.toNat)|_=>False)
  |some (.array len e)=>(match x with
   | .agg cs=>Rng n len (match Zji P e with
    |true=>K (.agg (cs.extract (Zcp n.toNat (Zhx P e)) (Zcp n.toNat (Zhx P e) + Zhx P e)))
    |false=>(ZBR P e).ex λ v=>cs[Zcp n.toNat (Zhx P e)]? =some v/\K v)
   |_=>False)
  |_=>False
 |_=>False
def bnd (x:Option Value) (d y:Nat) (φ:Nat->Prop):Prop:=
 match x with
 |none=>φ d
 |some v=>match v with| .int _ i=>0<=i/\i<=(y:Int)/\φ i.toNat|_=>False
def Zck (a:Option Addr) (l m size:Nat):Option Addr:=if m=l then a else a.map (·.add (l * size))
def Zre (P:Program) (T:TypeId) (x:Value) (lo hi mx:Option Value) (K:Value->Prop):Prop:=
 match P.underlying T with
 |some .string=>(match x with
  | .string s=>(match mx with
   |some _=>False
   |none=>bnd hi s.size s.size λ h=>bnd lo 0 h λ l=>K (.string (s.extract l h)))
  |_=>False)
 |some (.slice e)=>(match x with
  | .slice a n c=>bnd mx c c λ m=>(match hi,mx with
   |none,some _=>False
   |_,_=>bnd hi n m λ h=>(match lo with
    |none=>K (.slice a h m)
    |some v=>bnd (some v) 0 h λ l=>K (.slice (Zck a l m (Zhx P e)) (h - l) (m - l))))
  |_=>False)
 |some (.array n e)=>(match x with
  | .pointer p=>∃ a:Addr,p=some a/\bnd mx n n λ m=>(match hi,mx with
   |none,some _=>False
   |_,_=>bnd hi n m λ h=>(match lo with
    |none=>K (.slice (some a) h m)
    |some v=>bnd (some v) 0 h λ l=>K (.slice (Zck (some a) l m (Zhx P e)) (h - l) (m - l))))
  |_=>False)
 |_=>False
def ZfN (P:Program) (op:Op):Nat:=
 match op with
 | .move _| .assign _| .pick _ _ _| .field _ _ _| .build _ _| .extract _ _| .makeFunc _ _ _| .makeInterface _ _| .unOp _ _ _=>1
 | .convert src dst _=>(match P.underlying dst with|some (.int _)=>(match P.underlying src with|some (.float _)=>0|_=>1)|_=>0)
 | .call c=>(match c.callee with
  | .builtin .len| .builtin .cap=>(match c.argTypes[0]? with
   |some t=>(match P.underlying t with|some (.map _ _)|some (.chan _ _)=>0|_=>1)
   |none=>0)
  | .builtin .min| .builtin .max=>1
  |_=>0)
 | .binOp _ T _ _ _=>(match Zes P T with|0=>0|_=>2)
 | .nilCheck _=>3
 | .indexAddr _ _ _=>4
 | .index _ _ _=>5
 | .slice _ _ _ _ _=>6
 | .fieldAddr _ _ _=>7
 |_=>0
def ZoJ (P:Program) (T:TypeId) (x:Value) (i:Nat) (K:Value->Prop):Prop:=
 match x with
 | .pointer p=>Zc p λ a=>PR P (do pure (.value (<-Instr.fieldAt T (.pointer (some a)) i))) K
 |_=>False
def ZrW (P:Program) (ρ:Env) (o:Oper) (K:Value->Prop):Prop:=
 match ZfN P o.op with
 |1=>PR P (execOp ρ.ev o) K
 |_=>match o.op with
  | .binOp op T x y _=>ZDf P op T (ρ.ev x) (ρ.ev y) K
  | .nilCheck x=>Zz3 (ρ.ev x) K
  | .indexAddr T x i=>Zkq P T (ρ.ev x) (ρ.ev i) K
  | .index T x i=>ZC4 P T (ρ.ev x) (ρ.ev i) K
  | .slice T x lo hi mx=>Zre P T (ρ.ev x) (lo.map ρ.ev) (hi.map ρ.ev) (mx.map ρ.ev) K
  | .fieldAddr T x i=>ZoJ P T (ρ.ev x) i K
  |_=>False
def Zc4 (P:Program) (S:World->Prop) (s:Sem Next) (K:Value->Prop):Prop:=∃ v,(∀ w,S w->s.run P w=.ok (.value v) w)/\K v
theorem ZhE {P:Program} {t:TypeId} {i:TypeInfo} (h:P.info? t=some i) (w:World):(typeInfo t).run P w=.ok i w:=by
 simp [typeInfo,h]
theorem ZaC {P:Program} {s:Sem Value} {v:Value} {w w':World} (h:s.run P w=.ok v w'):(do pure (.value (<-s)):Sem Next).run P w=.ok (.value v) w':=by
 simp [h]
theorem ZnS {P:Program} {ρ:Operand->Value} {dst:Option Tmp} {ty:TypeId} {pos:String} {after:Array Edge} {guard:Option (Nat × Bool)} {x:Operand} {K:Value->Prop} (h:Zz3 (ρ x) K):
  Zc4 P (λ _=>True) (execOp ρ ⟨dst,.nilCheck x,ty,pos,after,guard⟩) K:=by
 unfold Zz3 at h;split at h
 ·rename_i hx
  unfold Zc at h;split at h
  ·exact ⟨_,λ w _=>by simp only [execOp,hx];rfl,h⟩
  ·exact h.elim
 ·rename_i hx;exact ⟨_,λ w _=>by simp only [execOp,hx];rfl,h⟩
 ·rename_i hx;exact ⟨_,λ w _=>by simp only [execOp,hx];rfl,h⟩
 ·exact h.elim
section
variable {P:Program} {ρ:Operand->Value} {dst:Option Tmp} {ty:TypeId} {pos:String} {after:Array Edge} {guard:Option (Nat × Bool)} {K:Value->Prop}
theorem ZfZ {P:Program} {t:TypeId} {d:TypeDesc} (h:P.underlying t=some d) (w:World):(isAgg t).run P w=.ok (Zji P t) w:=by
 unfold Zji;rw [h];simp only [isAgg,Sem.run_bind,run_underlying h,Result.andThen_ok];cases d<;>rfl
theorem Za7 {P:Program} {t:TypeId} {i:TypeInfo} (h:P.info? t=some i) (w:World):(sizeOf t).run P w=.ok (Zhx P t) w:=by
 unfold Zhx;simp [sizeOf,ZhE h,h]
theorem Zn1 {P:Program} {t:TypeId} (h:Zhx P t≠0):∃ i,P.info? t=some i:=by
 unfold Zhx at h;split at h
 ·exact ⟨_,by assumption⟩
 ·exact absurd rfl h
def Zmn (P:Program) (T:TypeId):Bool:=
 match P.underlying T with
 |some (.slice e)|some (.array _ e)=>(P.info? e).isSome
 |_=>true
theorem ZiD {T:TypeId} {x i:Operand} (hok:Zmn P T=true) (h:Zkq P T (ρ x) (ρ i) K):
  Zc4 P (λ _=>True) (execOp ρ ⟨dst,.indexAddr T x i,ty,pos,after,guard⟩) K:=by
 unfold Zkq at h;unfold Zmn at hok;split at h
 case h_2=>exact h.elim
 rename_i k n hi;split at h
 ·rename_i e hT
  rw [hT] at hok;obtain ⟨ie,hie⟩:=Option.isSome_iff_exists.1 hok;split at h
  ·rename_i a len c hx
   obtain ⟨h0,h1,h⟩:=Rng.out h;obtain ⟨ad,rfl,h⟩:=Zc.out h;refine ⟨_,λ w _=>?_,h⟩;simp only [execOp,hx,hi];refine ZaC ?_;simp [Instr.indexAt,asIntOf,run_underlying hT,h0,h1,Za7 hie,Zgy]
  ·exact h.elim
 ·rename_i len e hT
  rw [hT] at hok;obtain ⟨ie,hie⟩:=Option.isSome_iff_exists.1 hok;split at h
  ·rename_i p hx
   obtain ⟨h0,h1,h⟩:=Rng.out h;obtain ⟨ad,rfl,h⟩:=Zc.out h;refine ⟨_,λ w _=>?_,h⟩;simp only [execOp,hx,hi];refine ZaC ?_;simp [Instr.indexAt,Instr.sureAddr,asIntOf,run_underlying hT,h0,h1,Za7 hie,Zgy]
  ·exact h.elim
 ·exact h.elim
def Zr5 (P:Program) (T:TypeId):Bool:=
 match P.underlying T with
 |some (.slice e)|some (.array _ e)=>(P.info? e).isSome && (P.underlying e).isSome
 |_=>true
theorem Zp4 {T:TypeId} {x i:Operand} (hok:Zr5 P T=true) (h:ZC4 P T (ρ x) (ρ i) K):
  Zc4 P (λ _=>True) (execOp ρ ⟨dst,.index T x i,ty,pos,after,guard⟩) K:=by
 unfold ZC4 at h;unfold Zr5 at hok;split at h
 case h_2=>exact h.elim
 rename_i k n hi;split at h
 ·rename_i hT
  split at h
  ·rename_i s hx
   obtain ⟨c,h0,hc,h⟩:=h;refine ⟨_,λ w _=>?_,h⟩;simp only [execOp,hx,hi];refine ZaC ?_;simp [Instr.index,asIntOf,run_underlying hT,h0,hc]
  ·exact h.elim
 ·rename_i len e hT
  rw [hT] at hok;simp only [Bool.and_eq_true] at hok;obtain ⟨ie,hie⟩:=Option.isSome_iff_exists.1 hok.1;obtain ⟨de,hde⟩:=Option.isSome_iff_exists.1 hok.2;split at h
  ·rename_i cs hx
   obtain ⟨h0,h1,h⟩:=Rng.out h;split at h
   ·rename_i hag
    refine ⟨_,λ w _=>?_,h⟩;simp only [execOp,hx,hi];refine ZaC ?_;simp [Instr.index,asIntOf,run_underlying hT,h0,h1,Za7 hie,part,ZfZ hde,hag,Zgy]
   ·rename_i hag
    obtain ⟨v,hv,h⟩:=Ty.ex_some h;refine ⟨_,λ w _=>?_,h⟩;simp only [execOp,hx,hi];refine ZaC ?_;rw [Zgy] at hv;simp [Instr.index,asIntOf,run_underlying hT,h0,h1,Za7 hie,part,ZfZ hde,hag,hv]
  ·exact h.elim
 ·exact h.elim
theorem ZeT {v:Value} {d y:Nat} {φ:Nat->Prop} {code:BoundsCode} (h:bnd (some v) d y φ):∃ l,(∀ w,(Instr.sliceBound v y code).run P w=.ok l w)/\φ l:=by
 unfold bnd at h;split at h
 ·rename_i hh;cases hh
 ·rename_i hh
  cases hh;split at h
  ·obtain ⟨h0,h1,h⟩:=h
   exact ⟨_,λ w=>by simp [Instr.sliceBound,asIntOf,h0,h1],h⟩
  ·exact h.elim
theorem Zer {isS:Bool} {len cap:Nat} {lo hi mx:Option Value} {φ:Nat->Nat->Nat->Prop}
  (h:bnd mx cap cap λ m=>(match hi,mx with
   |none,some _=>False
   |_,_=>bnd hi len m λ h=>bnd lo 0 h λ l=>φ l h m)):
  ∃ l h m,(∀ w,(Instr.sliceBounds isS len cap lo hi mx).run P w=.ok (l,h,m) w)/\φ l h m:=by
 cases mx with
 |none=>
  cases hi with
  |none=>
   cases lo with
   |none=>exact ⟨0,len,cap,λ w=>by simp [Instr.sliceBounds],h⟩
   |some u=>
    obtain ⟨l,rl,h⟩:=ZeT (P:=P) (code:=.sliceB) (φ:=λ l=>φ l len cap) (d:=0) (y:=len) (v:=u) h;exact ⟨l,len,cap,λ w=>by simp [Instr.sliceBounds,rl],h⟩
  |some v=>
   obtain ⟨h',rh,h⟩:=ZeT (P:=P) (code:=if isS then .sliceAcap else .sliceAlen) (φ:=λ h=>bnd lo 0 h λ l=>φ l h cap) (d:=len) (y:=cap) (v:=v) h
   cases lo with
   |none=>exact ⟨0,h',cap,λ w=>by simp [Instr.sliceBounds,rh],h⟩
   |some u=>
    obtain ⟨l,rl,h⟩:=ZeT (P:=P) (code:=.sliceB) (φ:=λ l=>φ l h' cap) (d:=0) (y:=h') (v:=u) h;exact ⟨l,h',cap,λ w=>by simp [Instr.sliceBounds,rh,rl],h⟩
 |some x=>
  obtain ⟨m,rm,h⟩:=ZeT (P:=P) (code:=if isS then .slice3Acap else .slice3Alen) h
  cases hi with
  |none=>exact h.elim
  |some v=>
   obtain ⟨h',rh,h⟩:=ZeT (P:=P) (code:=.slice3B) (φ:=λ h=>bnd lo 0 h λ l=>φ l h m) (d:=len) (y:=m) (v:=v) h;cases lo with
   |none=>exact ⟨0,h',m,λ w=>by simp [Instr.sliceBounds,rm,rh],h⟩
   |some u=>
    obtain ⟨l,rl,h⟩:=ZeT (P:=P) (code:=.slice3C) (φ:=λ l=>φ l h' m) (d:=0) (y:=h') (v:=u) h;exact ⟨l,h',m,λ w=>by simp [Instr.sliceBounds,rm,rh,rl],h⟩
theorem ZdB (a:Option Addr) (m size:Nat):Zck a 0 m size=a:=by
 unfold Zck;split
 ·rfl
 ·cases a<;>simp [Addr.add]
theorem Zlh {T:TypeId} {x:Operand} {lo hi mx:Option Operand} (hok:Zmn P T=true)
  (h:Zre P T (ρ x) (lo.map ρ) (hi.map ρ) (mx.map ρ) K):
  Zc4 P (λ _=>True) (execOp ρ ⟨dst,.slice T x lo hi mx,ty,pos,after,guard⟩) K:=by
 unfold Zre at h;unfold Zmn at hok;split at h
 ·rename_i hT
  split at h
  ·rename_i s hx
   split at h
   ·exact h.elim
   ·rename_i hmx
    obtain ⟨l,h',m,hr,h⟩:=Zer (P:=P) (isS:=false) (len:=s.size) (cap:=s.size) (lo:=lo.map ρ) (hi:=hi.map ρ) (mx:=none) (φ:=λ l h _=>K (.string (s.extract l h))) (by
     revert h
     generalize hi.map ρ=hi';intro h;cases hi' with
     |none=>exact h
     |some v=>exact h)
    refine ⟨_,λ w _=>?_,h⟩;simp only [execOp,hx,hmx];refine ZaC ?_;simp [Instr.sliceAt,Instr.slice,run_underlying hT,hr]
  ·exact h.elim
 ·rename_i e hT
  rw [hT] at hok;obtain ⟨ie,hie⟩:=Option.isSome_iff_exists.1 hok;split at h
  ·rename_i a n c hx
   obtain ⟨l,h',m,hr,h⟩:=Zer (P:=P) (isS:=true) (len:=n) (cap:=c) (lo:=lo.map ρ) (hi:=hi.map ρ) (mx:=mx.map ρ) (φ:=λ l h m=>K (.slice (Zck a l m (Zhx P e)) (h - l) (m - l))) (by
    revert h
    generalize hi.map ρ=hi';generalize mx.map ρ=mx';generalize lo.map ρ=lo';intro h;cases lo' with
    |some v=>exact h
    |none=>
     cases mx' with
     |none=>cases hi' with
      |none=>simpa [bnd,ZdB] using h
      |some v=>simpa [bnd,ZdB] using h
     |some u=>cases hi' with
      |none=>simpa [bnd] using h
      |some v=>simpa [bnd,ZdB] using h)
   refine ⟨_,λ w _=>?_,h⟩;simp only [execOp,hx];refine ZaC ?_;simp [Instr.sliceAt,Instr.slice,run_underlying hT,hr,Za7 hie,Zck]
  ·exact h.elim
 ·rename_i n e hT
  rw [hT] at hok;obtain ⟨ie,hie⟩:=Option.isSome_iff_exists.1 hok;split at h
  ·rename_i p hx
   obtain ⟨a,rfl,h⟩:=h;obtain ⟨l,h',m,hr,h⟩:=Zer (P:=P) (isS:=false) (len:=n) (cap:=n) (lo:=lo.map ρ) (hi:=hi.map ρ) (mx:=mx.map ρ) (φ:=λ l h m=>K (.slice (Zck (some a) l m (Zhx P e)) (h - l) (m - l))) (by
    revert h
    generalize hi.map ρ=hi';generalize mx.map ρ=mx';generalize lo.map ρ=lo';intro h;cases lo' with
    |some v=>exact h
    |none=>
     cases mx' with
     |none=>cases hi' with
      |none=>simpa [bnd,ZdB] using h
      |some v=>simpa [bnd,ZdB] using h
     |some u=>cases hi' with
      |none=>simpa [bnd] using h
      |some v=>simpa [bnd,ZdB] using h)
   refine ⟨_,λ w _=>?_,h⟩;simp only [execOp,hx];refine ZaC ?_;have hc:(if m=l then some a else some (a.add (l * Zhx P e)))=Zck (some a) l m (Zhx P e):=by unfold Zck;split<;>rfl
   have hc':some (if m=l then a else a.add (l * Zhx P e))=Zck (some a) l m (Zhx P e):=by unfold Zck;split<;>rfl
   simp [Instr.sliceAt,Instr.sureAddr,run_underlying hT,hr,Za7 hie,hc']
  ·exact h.elim
 ·exact h.elim
def ZwO (P:Program) (op:Op):Bool:=
 match op with
 | .indexAddr T _ _| .slice T _ _ _ _=>Zmn P T
 | .index T _ _=>Zr5 P T
 |_=>true
theorem Zo5 {s:Sem Next} (h:PR P s K):Zc4 P (λ _=>True) s K:=by
 unfold PR at h;split at h
 ·rename_i v hv;exact ⟨v,λ w _=>ZfM hv w,h⟩
 ·exact h.elim
theorem Zfl {e:Env} {o:Oper} (hok:ZwO P o.op=true) (h:ZrW P e o K):Zc4 P (λ _=>True) (execOp e.ev o) K:=by
 unfold ZrW at h;split at h
 ·exact Zo5 h
 ·obtain ⟨dst,op,ty,pos,after,guard⟩:=o
  cases op<;>simp only at h hok<;>first|exact h.elim|skip
  case binOp op T x y T'=>
   obtain ⟨v,hv,hK⟩:=Zqp h _ _;exact ⟨v,λ w _=>ZaC (hv w),hK⟩
  case nilCheck x=>exact ZnS h
  case indexAddr T x i=>exact ZiD hok h
  case index T x i=>exact Zp4 hok h
  case slice T x lo hi mx=>exact Zlh hok h
  case fieldAddr T x i=>
   unfold ZoJ at h;split at h
   ·rename_i p hx
    obtain ⟨a,rfl,h⟩:=Zc.out h;obtain ⟨v,hv,hK⟩:=Zo5 h;exact ⟨v,λ w _=>by simp only [execOp,hx];exact hv w trivial,hK⟩
   ·exact h.elim
end
def At (S:World->Prop) (p:Addr) (vs:List Value):Prop:=∀ w,S w->∀ i v,vs[i]? =some v->w.cell? (p.add i)=some v
def ZiC (P:Program) (S:World->Prop) (T:TypeId) (x:Value) (K:Value->Prop):Prop:=
 match x with
 | .pointer q=>Zc q λ p=>(match Zji P T with
   |true=>(match ZAL P 6 T with
    |some ts=>ZnB ts λ vs=>At S p vs/\K (.agg vs.toArray)
    |none=>∃ vs:List Value,vs.length=Zhx P T/\At S p vs/\K (.agg vs.toArray))
   |false=>(ZBR P T).ex λ v=>At S p [v]/\K v)
 |_=>False
def Giv (P:Program) (S:World->Prop) (s:Sem Value) (t:Rt) (K:Value->Prop):Prop:=
 t.ex λ v=>(∀ w,S w->s.run P w=.ok v w)/\K v
def ZeA (P:Program) (op:Op):Nat:=
 match op with
 | .load _ _=>1
 | .lookup _ _ _ _=>2
 | .entry _=>2
 | .typeAssert _ _ _ _=>2
 | .binOp _ T _ _ _=>(match Zes P T with|0=>2|_=>0)
 | .convert src dst _=>(match P.underlying dst with|some .string=>(match P.underlying src with|some (.slice _)=>2|some .string=>2|_=>0)|some (.int _)=>(match P.underlying src with|some (.float _)=>2|_=>0)|_=>0)
 | .call c=>(match c.callee with
  | .builtin .len=>(match c.argTypes[0]? with
   |some t=>(match P.underlying t with|some (.map _ _)=>2|_=>0)
   |none=>0)
  |_=>0)
 |_=>0
def ZqO (ρ:Operand->Value) (o:Oper):Sem Value:=
 match o.op with
 | .lookup T x i ok=>Instr.lookup T (ρ x) (ρ i) ok
 | .entry it=>Instr.entry (ρ it)
 | .typeAssert x T T' ok=>Instr.typeAssert (ρ x) T T' ok
 | .binOp op T x y _=>(do eqGuard op T x y (ρ x) (ρ y);binOp op T (ρ x) (ρ y))
 | .convert src dst x=>convert src dst (ρ x)
 | .makeSlice T l c=>Instr.makeSlice T (ρ l) (ρ c)
 | .mapEntry T m k=>Instr.mapEntry T (ρ m) (ρ k)
 | .range T x=>Instr.range T (ρ x)
 | .next it isString=>Instr.next (ρ it) isString o.type
 | .call c=>(match c.callee with
  | .builtin .append=>Builtin.append_ c.argTypes o.type (c.args.map ρ)
  | .builtin .copy=>Builtin.copy_ c.argTypes o.type (c.args.map ρ)
  | .builtin .delete=>Builtin.delete_ c.argTypes o.type (c.args.map ρ)
  | .builtin .clear=>Builtin.clear_ c.argTypes o.type (c.args.map ρ)
  | .builtin .len=>Builtin.len_ c.argTypes o.type (c.args.map ρ)
  | _ => stuck "")
 | _ => stuck ""
def ZwI (op:Op):Bool:=
 match op with
 | .lookup _ _ _ _| .entry _| .typeAssert _ _ _ _| .binOp _ _ _ _ _| .convert _ _ _| .makeSlice _ _ _| .mapEntry _ _ _| .range _ _| .next _ _=>true
 | .call c=>(match c.callee with
  | .builtin .append| .builtin .copy| .builtin .delete| .builtin .clear| .builtin .len=>true
  |_=>false)
 |_=>false
theorem Zcw {P:Program} {ρ:Operand->Value} {o:Oper} (h:ZwI o.op=true) {v:Value} {w w':World} (hr:(ZqO ρ o).run P w=.ok v w'):
  (execOp ρ o).run P w=.ok (.value v) w':=by
 obtain ⟨dst,op,ty,pos,after,guard⟩:=o;cases op<;>simp only [ZwI,Bool.false_eq_true] at h
 case call c=>
  obtain ⟨callee,args,ats⟩:=c;cases callee<;>simp only [Bool.false_eq_true] at h
  case builtin b=>
   cases b<;>simp only [Bool.false_eq_true] at h<;>exact ZaC (s:=_) hr
 all_goals exact ZaC (s:=_) hr
def ZrF (P:Program) (S:World->Prop) (ρ:Env) (o:Oper) (K:Value->Prop):Prop:=
 match ZeA P o.op with
 |1=>(match o.op with| .load T x=>ZiC P S T (ρ.ev x) K|_=>False)
 |_=>Giv P S (ZqO ρ.ev o) (Zz6 P o.type) K
theorem Zmk:∀ {ts:List Ty} {φ:List Value->Prop},ZnB ts φ->∃ vs,vs.length=ts.length/\φ vs
 |[],_,h=>⟨[],rfl,h⟩
 |_::_,_,h=>let ⟨v,h⟩:=Ty.ex_some h;let ⟨vs,hl,h⟩:=Zmk h;⟨v::vs,by simp [hl],h⟩
def ZsA (P:Program) (T:TypeId):Bool:=
 (P.info? T).isSome && (P.underlying T).isSome && (match Zji P T with
 |true=>(match ZAL P 6 T with
  |some ts=>Nat.beq ts.length (Zhx P T)
  |none=>true)
 |false=>true)
theorem Zkg {P:Program} {p:Addr} {vs:List Value} {w:World} (h:∀ i v,vs[i]? =some v->w.cell? (p.add i)=some v):
  (loadCells p vs.length).run P w=.ok vs.toArray w:=by
 have:=run_loadCells_list (P:=P) (w:=w) p vs h;simpa using this
theorem ZhW {P:Program} {S:World->Prop} {ρ:Operand->Value} {dst:Option Tmp} {ty:TypeId} {pos:String} {after:Array Edge} {guard:Option (Nat × Bool)} {K:Value->Prop}
  {T:TypeId} {x:Operand} (hok:ZsA P T=true) (h:ZiC P S T (ρ x) K):Zc4 P S (execOp ρ ⟨dst,.load T x,ty,pos,after,guard⟩) K:=by
 unfold ZiC at h;unfold ZsA at hok;simp only [Bool.and_eq_true] at hok;obtain ⟨⟨hinfo,hund⟩,hok⟩:=hok;obtain ⟨d,hd⟩:=Option.isSome_iff_exists.1 hund;obtain ⟨i,hi⟩:=Option.isSome_iff_exists.1 hinfo;split at h
 case h_2=>exact h.elim
 rename_i q hx;unfold Zc at h;split at h
 case h_2=>exact h.elim
 rename_i p;split at h
 ·rename_i hag
  have key:∀ vs:List Value,vs.length=Zhx P T->At S p vs->K (.agg vs.toArray)->Zc4 P S (execOp ρ ⟨dst,.load T x,ty,pos,after,guard⟩) K:=λ vs hl hat hK=>by
   refine ⟨_,λ w hw=>?_,hK⟩;simp only [execOp,hx];refine ZaC ?_;simp only [Instr.loadAt,Instr.sureAddr,loadVar,Sem.run_bind,Sem.run_pure,Result.andThen_ok,ZfZ hd,hag,if_true,Za7 hi,<-hl,Zkg (hat w hw)]
  split at h
  ·rename_i ts hts
   rw [hag] at hok;simp only [hts] at hok;obtain ⟨vs,hl,hat,hK⟩:=Zmk h;exact key vs (by rw [hl];exact Nat.eq_of_beq_eq_true hok) hat hK
  ·obtain ⟨vs,hl,hat,hK⟩:=h
   exact key vs hl hat hK
 ·rename_i hag
  obtain ⟨v,hat,hK⟩:=Ty.ex_some h;refine ⟨_,λ w hw=>?_,hK⟩;have hc:w.cell? p=some v:=by have:=hat w hw 0 v rfl;simpa [Addr.add] using this
  simp only [execOp,hx];refine ZaC ?_;simp [Instr.loadAt,Instr.sureAddr,loadVar,ZfZ hd,hag,hc]
def ZAC (P:Program) (op:Op):Bool:=match op with| .load T _=>ZsA P T|_=>true
theorem Zfh {P:Program} {S:World->Prop} {e:Env} {o:Oper} {K:Value->Prop} (hk:ZeA P o.op≠0)
  (hok:ZAC P o.op=true) (h:ZrF P S e o K):Zc4 P S (execOp e.ev o) K:=by
 unfold ZrF at h;split at h
 ·rename_i hk1
  obtain ⟨dst,op,ty,pos,after,guard⟩:=o;cases op<;>simp only at h hok<;>first|exact h.elim|skip
  exact ZhW hok h
 ·rename_i hk1
  obtain ⟨v,hv,hK⟩:=Rt.ex_some h;refine ⟨v,λ w hw=>Zcw ?_ (hv w hw),hK⟩;obtain ⟨dst,op,ty,pos,after,guard⟩:=o;cases op<;>simp only [ZeA,ne_eq,not_true_eq_false] at hk hk1<;>first|rfl|exact (hk1 trivial).elim|skip
  case call c=>
   obtain ⟨callee,args,ats⟩:=c;cases callee<;>simp only [not_true_eq_false] at hk
   case builtin b=>cases b<;>simp only [not_true_eq_false] at hk<;>rfl
def New (o:Obj) (K:Nat->World->Prop) (w:World):Prop:=K w.heap.size (w.alloc o)
def newF (P:Program) (s:Sem Next) (K:nK) (w:World):Prop:=
 match Zja P s with
 |some (o,f)=>New o (λ b w=>match f b with|some (.value v)=>K v w|_=>False) w
 |none=>False
def ZDg (P:Program) (s:Sem Value) (t:Rt) (K:nK) (w:World):Prop:=∃ w',t.ex λ v=>s.run P w=.ok v w'/\K v w'
def ZDh (P:Program) (s:Sem Unit) (K:World->Prop) (w:World):Prop:=∃ w',s.run P w=.ok () w'/\K w'
def ZvO (p:Option Addr) (A:Int->Int->World->Prop) (B:World->Prop) (w:World):Prop:=
 ∃ r s pos,p=some ⟨r,0,none⟩/\w.heap[r]? =some (.stringIter s pos)/\
  (pos<s.size->A (pos:Int) ((Utf8.decode s pos).1:Int) { w with heap:=w.heap.setIfInBounds r (.stringIter s (pos + (Utf8.decode s pos).2)) })/\(¬ pos<s.size->B w)
def ZrK (P:Program) (T:TypeId) (x:Value) (K:nK) (w:World):Prop:=
 match P.underlying T with
 |some .string=>(match x with| .string s=>New (.stringIter s 0) (λ b w=>K (.pointer (some ⟨b,0,none⟩)) w) w|_=>False)
 |some (.map _ _)=>ZDg P (Instr.range T x) (.val (.one .ptr)) K w
 |_=>False
def ZBP (P:Program) (s:Sem Value) (K:nK) (w:World):Prop:=
 ∃ w',(s.run P w=.ok (.tuple #[.bool false]) w'/\K (.tuple #[.bool false]) w')\/
  (∃ k v,s.run P w=.ok (.tuple #[.bool true,k,v]) w'/\K (.tuple #[.bool true,k,v]) w')
theorem ZnT {P:Program} {s:Sem Value} {K:Value->World->Prop} {w:World} (h:ZBP P s K w):∃ v w',s.run P w=.ok v w'/\K v w':=by
 obtain ⟨w',h|⟨k,v,h⟩⟩:=h
 ·exact ⟨_,w',h.1,h.2⟩
 ·exact ⟨_,w',h.1,h.2⟩
def Zxj (x:Value) (K:nK) (w:World):Prop:=
 match x with
 | .pointer p=>ZvO p (λ i c w=>K (.tuple #[.bool true,.int .i64 i,.int .i32 c]) w) (λ w=>K (.tuple #[.bool false]) w) w
 |_=>False
theorem ZlD {P:Program} {T:TypeId} {x:Value} {K:Value->World->Prop} {w:World} (h:ZrK P T x K w):∃ v w',(Instr.range T x).run P w=.ok v w'/\K v w':=by
 unfold ZrK at h;split at h
 case h_3=>exact h.elim
 case h_2=>
  obtain ⟨w',h⟩:=h;obtain ⟨v,h⟩:=Rt.ex_some h;exact ⟨v,w',h⟩
 rename_i hT;split at h
 case h_2=>exact h.elim
 rename_i s;refine ⟨_,_,?_,h⟩;simp [Instr.range,run_underlying hT]
theorem Znb {P:Program} {T:TypeId} {x:Value} {K:Value->World->Prop} {w:World} (h:Zxj x K w):∃ v w',(Instr.next x true T).run P w=.ok v w'/\K v w':=by
 unfold Zxj at h;split at h
 case h_2=>exact h.elim
 obtain ⟨r,s,pos,rfl,hk,hA,hB⟩:=h;by_cases hp:pos<s.size
 ·refine ⟨_,_,?_,hA hp⟩
  simp only [Instr.next,getObj,setObj,Sem.run_bind,Sem.run,hk,Result.andThen,hp,if_true];simp [goInt]
 ·refine ⟨_,_,?_,hB hp⟩
  simp [Instr.next,getObj,Sem.run,hk,hp]
def Ext (P:Program) (g:FuncId) (args:Array Value) (w:World) (Q:Ending->World->Prop):Prop:=∃ v w',(callFunc g args).run P w=.ok (.value v) w'/\Q (.returned v) w'
def Zbq (P:Program) (cl:FuncId->Bool) (f:Value) (args:List Value) (w:World) (Q:Ending->World->Prop):Prop:=
 match f with
 | .func fn first captured=>(match fn with
  | .func g=>(match cl g with
   |true=>Calls P g (first.toList++(args++captured.toList)).toArray w Q
   |false=>Ext P g (first.toList++(args++captured.toList)).toArray w Q)
  |_=>False)
 |_=>False
theorem Zbq.mono {P:Program} {cl:FuncId->Bool} {f:Value} {args:List Value} {w:World} {Q Q':Ending->World->Prop} (h:Zbq P cl f args w Q) (hq:∀ e w,Q e w->Q' e w):Zbq P cl f args w Q':=by
 unfold Zbq at *;split at h
 ·split at h
  ·split at h
   ·exact Calls.mono h hq
   ·obtain ⟨v,w',h1,h2⟩:=h;exact ⟨v,w',h1,hq _ _ h2⟩
  ·exact h.elim
 ·exact h.elim
def calV (P:Program) (cl:FuncId->Bool) (f:Value) (args:Array Value) (t:Rt) (K:nK) (w:World):Prop:=
 Zbq P cl f args.toList w λ e w'=>t.ex λ v=>e=.returned v/\K v w'
def rawF (P:Program) (s:Sem Next) (K:nK) (w:World):Prop:=
 match s.run P w with
 | .ok (.value v) w'=>K v w'
 | .ok .skip w'=>K undef w'
 |_=>False
def ZkD (op:Op):Nat:=
 match op with
 | .alloc _| .box _ _| .buildSlice _ _ _| .makeMap _ _=>1
 | .makeSlice _ _ _| .mapEntry _ _ _| .convert _ _ _=>2
 | .range _ _=>7
 | .next _ s=>(match s with|true=>8|false=>9)
 | .store _ _ _=>3
 | .mapUpdate _ _ _ _| .insert _ _ _ _=>4
 | .entryStore _ _ _ _=>5
 | .call c=>(match c.callee with
  | .builtin .append| .builtin .copy| .builtin .delete| .builtin .clear=>2
  | .value _=>6
  |_=>0)
 |_=>0
def ZC8 (P:Program) (op:Op):Bool:=
 match op with
 | .buildSlice t len _=>(match Nat.beq len 1 with
  |true=>(match P.underlying t with
   |some (.slice e)=>(match P.underlying e with
    |some (.func _ _ _)=>true
    |_=>false)
   |_=>false)
  |false=>false)
 |_=>false
def rtME (P:Program) (o:Oper):Rt:=
 match o.op with
 | .mapEntry T _ _=>(match P.underlying T with
  |some (.map _ E)=>.tup [ZBQ P E,.one (.int .i64)]
  |_=>Zz6 P o.type)
 |_=>Zz6 P o.type
def ZBZ (P:Program) (cl:FuncId->Bool) (ρ:Env) (o:Oper) (K:nK) (w:World):Prop:=
 match ZkD o.op with
 |1=>(match ZC8 P o.op with
  |true=>(match o.op with| .buildSlice t len parts=>ZDg P (Instr.buildSlice t len (parts.map λ (i,x)=>(i,ρ.ev x))) (Zz6 P o.type) K w|_=>False)
  |false=>newF P (execOp ρ.ev o) K w)
 |2=>ZDg P (ZqO ρ.ev o) (rtME P o) K w
 |3=>(match o.op with| .store T a x=>ZDh P (Instr.storeAt T (ρ.ev a) (ρ.ev x)) (K undef) w|_=>False)
 |4=>(match o.op with| .mapUpdate T m k x| .insert T m k x=>ZDh P (Instr.mapUpdate T (ρ.ev m) (ρ.ev k) (ρ.ev x)) (K undef) w|_=>False)
 |5=>(match o.op with| .entryStore T m s x=>ZDh P (Instr.entryStore T (ρ.ev m) (ρ.ev s) (ρ.ev x)) (K undef) w|_=>False)
 |6=>(match o.op with| .call c=>(match c.callee with| .value f=>calV P cl (ρ.ev f) (c.args.map ρ.ev) (Zz6 P o.type) K w|_=>False)|_=>False)
 |7=>(match o.op with| .range T x=>ZrK P T (ρ.ev x) K w|_=>False)
 |8=>(match o.op with| .next it _=>Zxj (ρ.ev it) K w|_=>False)
 |9=>(match o.op with| .next it _=>ZBP P (Instr.next (ρ.ev it) false o.type) K w|_=>False)
 |_=>rawF P (execOp ρ.ev o) K w
def ZS (P:Program) (g:FuncId):Bool:=
 match P.funcs[g]? with
 | some fn => fn.body.isSome && !(fn.name == "runtime.NumGoroutine")
 |none=>false
theorem Zep {P:Program} {g:FuncId} (h:ZS P g=true) (args:Array Value) (w:World):(callFunc g args).run P w=.ok (.enter g args) w:=by
 unfold ZS at h;split at h
 ·rename_i fn hf
  simp only [Bool.and_eq_true,Bool.not_eq_true'] at h;have hb:fn.body.isNone=false:=by cases hb:fn.body<;>simp_all
  simp only [callFunc,Sem.run_bind,run_program,Result.andThen_ok,hf,h.2,hb,Bool.false_eq_true,if_false];rfl
 ·simp at h
abbrev ZqB (a:Act) (d:Option Tmp) (K:nK):Act->World->Prop:=λ a' w'=>∃ v,a'=a.put d v/\K v w'
theorem Zjt {P:Program} {cl:FuncId->Bool} (hcl:∀ g,cl g=true->ZS P g=true) {a:Act} {e:Env} {o:Oper} {K:Value->World->Prop} {w:World}
  {Q:Exit->Act->World->Prop} (h:ZBZ P cl e o K w):o.upon P a (ZqB a o.dst K) Q ((execOp e.ev o).run P w):=by
 unfold ZBZ at h;split at h
 ·split at h
  ·clear hcl
   obtain ⟨dst,op,ty,pos,after,guard⟩:=o;cases op<;>simp only at h<;>first|exact h.elim|skip
   rename_i t len parts _ _;obtain ⟨w',h⟩:=h;obtain ⟨v,hr,hK⟩:=Rt.ex_some h;have:(execOp e.ev ⟨dst,.buildSlice t len parts,ty,pos,after,guard⟩).run P w=.ok (.value v) w':=by
    simp only [execOp];simp [hr]
   rw [this];exact ⟨v,rfl,hK⟩
  unfold newF at h;split at h
  ·rename_i ob f hn
   unfold New at h;dsimp only at h;split at h
   ·rename_i v hv
    rw [ZlR hn w hv];exact ⟨v,rfl,h⟩
   ·exact h.elim
  ·exact h.elim
 ·rename_i hk
  obtain ⟨w',h⟩:=h;obtain ⟨v,hr,hK⟩:=Rt.ex_some h;have hv:ZwI o.op=true:=by
   obtain ⟨dst,op,ty,pos,after,guard⟩:=o;cases op<;>simp [ZkD] at hk<;>first|rfl|skip
   case call c=>
    obtain ⟨callee,args,ats⟩:=c;cases callee<;>simp at hk
    case builtin b=>cases b<;>simp at hk<;>rfl
  rw [Zcw hv hr];exact ⟨v,rfl,hK⟩
 ·rename_i hk
  clear hk;obtain ⟨dst,op,ty,pos,after,guard⟩:=o;cases op<;>simp only at h<;>first|exact h.elim|skip
  rename_i T a' x;obtain ⟨w',hr,hK⟩:=h;have:(execOp e.ev ⟨dst,.store T a' x,ty,pos,after,guard⟩).run P w=.ok .skip w':=by simp only [execOp];simp [hr]
  rw [this];exact ⟨undef,rfl,hK⟩
 ·rename_i hk
  clear hk;obtain ⟨dst,op,ty,pos,after,guard⟩:=o;cases op<;>simp only at h<;>first|exact h.elim|skip
  case insert T m k x=>
   obtain ⟨w',hr,hK⟩:=h;have:(execOp e.ev ⟨dst,.insert T m k x,ty,pos,after,guard⟩).run P w=.ok .skip w':=by simp only [execOp];simp [hr]
   rw [this];exact ⟨undef,rfl,hK⟩
  case mapUpdate T m k x=>
   obtain ⟨w',hr,hK⟩:=h;have:(execOp e.ev ⟨dst,.mapUpdate T m k x,ty,pos,after,guard⟩).run P w=.ok .skip w':=by simp only [execOp];simp [hr]
   rw [this];exact ⟨undef,rfl,hK⟩
 ·rename_i hk
  clear hk;obtain ⟨dst,op,ty,pos,after,guard⟩:=o;cases op<;>simp only at h<;>first|exact h.elim|skip
  rename_i T m s x;obtain ⟨w',hr,hK⟩:=h;have:(execOp e.ev ⟨dst,.entryStore T m s x,ty,pos,after,guard⟩).run P w=.ok .skip w':=by simp only [execOp];simp [hr]
  rw [this];exact ⟨undef,rfl,hK⟩
 ·rename_i hk
  clear hk;obtain ⟨dst,op,ty,pos,after,guard⟩:=o;cases op<;>simp only at h<;>first|exact h.elim|skip
  case call c=>
   obtain ⟨callee,args,ats⟩:=c;cases callee<;>simp only at h<;>first|exact h.elim|skip
   case value f=>
    unfold calV Zbq at h;split at h
    case h_2=>exact h.elim
    rename_i fn first captured hf
    split at h
    case h_2=>exact h.elim
    rename_i g;have hargs:(first++args.map e.ev)++captured=(first.toList++((args.map e.ev).toList++captured.toList)).toArray:=by
     apply Array.ext';simp
    split at h
    case h_2=>
     obtain ⟨v',w',hr,hx⟩:=h;have:(execOp e.ev ⟨dst,.call ⟨.value f,args,ats⟩,ty,pos,after,guard⟩).run P w=.ok (.value v') w':=by
      simp only [execOp,resolve,hf,Deferred.ofValue];simp only [Sem.run_bind,Sem.run_pure,Result.andThen_ok,invoke,<-hargs] at hr ⊢;exact hr
     rw [this];obtain ⟨v,hv,hK⟩:=Rt.ex_some hx;cases hv;exact ⟨_,rfl,hK⟩
    rename_i hg;have:(execOp e.ev ⟨dst,.call ⟨.value f,args,ats⟩,ty,pos,after,guard⟩).run P w=.ok (.enter g (first.toList++((args.map e.ev).toList++captured.toList)).toArray) w:=by
     simp only [execOp,resolve,hf,Deferred.ofValue];simp only [Sem.run_bind,Sem.run_pure,Result.andThen_ok,invoke,<-hargs];exact Zep (hcl g hg) _ w
    rw [this];refine Calls.mono h ?_;intro en w' hx;obtain ⟨v,rfl,hK⟩:=Rt.ex_some hx;exact ⟨v,rfl,hK⟩
 ·rename_i hk
  clear hk;obtain ⟨dst,op,ty,pos,after,guard⟩:=o;cases op<;>simp only at h<;>first|exact h.elim|skip
  obtain ⟨v,w',hr,hK⟩:=ZlD h;rw [Zcw (o:=⟨dst,_,ty,pos,after,guard⟩) rfl hr];exact ⟨v,rfl,hK⟩
 ·rename_i hk
  obtain ⟨dst,op,ty,pos,after,guard⟩:=o;cases op<;>simp only at h<;>first|exact h.elim|skip
  rename_i it b;cases b
  ·simp [ZkD] at hk
  obtain ⟨v,w',hr,hK⟩:=Znb (T:=ty) h;rw [Zcw (o:=⟨dst,.next it true,ty,pos,after,guard⟩) rfl hr];exact ⟨v,rfl,hK⟩
 ·rename_i hk
  obtain ⟨dst,op,ty,pos,after,guard⟩:=o;cases op<;>simp only at h<;>first|exact h.elim|skip
  rename_i it b;cases b
  rotate_left
  ·simp [ZkD] at hk
  obtain ⟨v,w',hr,hK⟩:=ZnT h;rw [Zcw (o:=⟨dst,.next it false,ty,pos,after,guard⟩) rfl hr];exact ⟨v,rfl,hK⟩
 ·unfold rawF at h
  split at h
  ·rename_i hr;rw [hr];exact ⟨_,rfl,h⟩
  ·rename_i hr;rw [hr];exact ⟨undef,rfl,h⟩
  ·exact h.elim
def opF (P:Program) (cl:FuncId->Bool) (ρ:Env) (o:Oper) (K:nK) (w:World):Prop:=
 match ZfN P o.op with
 |0=>(match ZeA P o.op with
  |0=>ZBZ P cl ρ o K w
  |_=>ZrF P (λ w'=>w'=w) ρ o (λ v=>K v w))
 |_=>ZrW P ρ o (λ v=>K v w)
def ZiA (P:Program) (op:Op):Bool:=
 match op with
 | .load T _=>ZsA P T
 |op=>ZwO P op
theorem Zc4.upon {P:Program} {S:World->Prop} {e:Env} {o:Oper} {K:Value->World->Prop} {a:Act} {w:World} {Q:Exit->Act->World->Prop}
  (hS:S w) (h:Zc4 P S (execOp e.ev o) (λ v=>K v w)):o.upon P a (ZqB a o.dst K) Q ((execOp e.ev o).run P w):=by
 obtain ⟨v,hv,hK⟩:=h;rw [hv w hS];exact ⟨v,rfl,hK⟩
theorem Zj3 {P:Program} {op:Op} (h:ZiA P op=true):ZwO P op=true:=by
 cases op<;>first|exact h|rfl
theorem Zm9 {P:Program} {op:Op} (h:ZiA P op=true):ZAC P op=true:=by
 cases op<;>first|exact h|rfl
theorem ZcO {P:Program} {cl:FuncId->Bool} (hcl:∀ g,cl g=true->ZS P g=true) {a:Act} {e:Env} {o:Oper} {K:Value->World->Prop} {w:World}
  {Q:Exit->Act->World->Prop} (hok:ZiA P o.op=true) (h:opF P cl e o K w):o.upon P a (ZqB a o.dst K) Q ((execOp e.ev o).run P w):=by
 unfold opF at h;split at h
 ·split at h
  ·exact Zjt hcl h
  ·rename_i hk
   exact Zc4.upon (S:=λ w'=>w'=w) rfl (Zfh hk (Zm9 hok) h)
 ·exact Zc4.upon (S:=λ _=>True) trivial (Zfl (Zj3 hok) h)
section
section
variable {P:Program} {ops:Array Oper} {Q:Exit->Act->World->Prop} {md:Region.Mode} {S:World->Prop} {need look:Nat->Bool}
def wpT (P:Program) (md:Region.Mode) (ops:Array Oper) (Q:Exit->Act->World->Prop) (S:World->Prop) (need look:Nat->Bool):Nat->Array Bool->Act->World->Prop
 |0,listed,a,w=>Region.ready md ops listed=[]/\Q .normal a w
 |fuel + 1,listed,a,w=>
  (Region.ready md ops listed=[]->Q .normal a w)/\
  ∀ i∈Region.ready md ops listed,wpOp P ops Q i (λ a' w'=>((need i=true->S w')/\(look i=true->w'=w))/\wpT P md ops Q S need look fuel (listed.setIfInBounds i true) a' w') a w
theorem Zhr:∀ (fuel:Nat) (listed:Array Bool) (a:Act) (w:World),wpT P md ops Q S need look fuel listed a w->wpAny P md ops Q fuel listed a w
 |0,_,_,_,h=>h
 |fuel + 1,_,_,_,h=>⟨h.1,λ i hi=>wpOp_mono (λ a' w' h'=>Zhr fuel _ a' w' h'.2) (h.2 i hi)⟩
theorem Zas {T:World->Prop} {i:Nat} {oi:Oper} {v:Value} (hi:ops[i]? =some oi) (hsel:∀ (j:Nat) (o:Oper) cs b,ops[j]? =some o->o.op≠.select cs b)
  (hQ:∀ c a w,Q (.panic c) (a.put oi.dst v) w->Q (.panic c) a w) (hni:need i=false):
  ∀ (fuel:Nat) (listed:Array Bool) (a:Act) (w:World),
   (∀ j oj,ops[j]? =some oj->j≠i->listed.getD j true=false->(∀ e∈oj.after,Region.binds md e=true->e.on≠i)->
    oi.apart ops oj=true/\∀ w w',T w->(need j=true->S w')->(look j=true->w'=w)->T w')->
   i∈Region.ready md ops listed->YieldsIf P ops T oi v a->T w->
   wpT P md ops Q S need look fuel (listed.setIfInBounds i true) (a.put oi.dst v) w->wpT P md ops Q S need look (fuel + 1) listed a w:=by
 intro fuel
 induction fuel with
 |zero=>
  intro listed a w hfree hr hy hT H;refine ⟨λ h=>(by rw [h] at hr;cases hr),λ j hj=>?_⟩;by_cases hji:j=i
  ·subst hji
   exact hy.wpOp hi hT ⟨⟨λ h=>(by rw [hni] at h;cases h),λ _=>rfl⟩,H⟩
  ·have:=ready_mono hj hji
   rw [H.1] at this;cases this
 |succ fuel ih=>
  intro listed a w hfree hr hy hT H;refine ⟨λ h=>(by rw [h] at hr;cases hr),λ j hj=>?_⟩;by_cases hji:j=i
  ·subst hji
   exact hy.wpOp hi hT ⟨⟨λ h=>(by rw [hni] at h;cases h),λ _=>rfl⟩,H⟩
  ·have h1:=H.2 j (ready_mono hj hji)
   obtain ⟨hjun,oj,hoj,hall⟩:=mem_ready.1 hj;have hnot:∀ e∈oj.after,Region.binds md e=true->e.on≠i:=λ e he hb heq=>by
    have h1:=hall e he hb;have h0:=(mem_ready.1 hr).1;rw [heq] at h1;rcases Nat.lt_or_ge i listed.size with h'|h'
    ·simp [h'] at h0 h1;rw [h0] at h1;cases h1
    ·simp [Array.getElem?_eq_none h'] at h1
   obtain ⟨hap,hkeep⟩:=hfree j oj hoj hji hjun hnot;have h2:=wpOp_putIf hoj hap (λ cs b=>hsel i oi cs b hi) (λ cs b=>hsel j oj cs b hoj) hQ hy h1;refine wpOp_mono (λ a' w' h3=>⟨h3.2.1,ih (listed.setIfInBounds j true) a' w' ?_ (ready_mono hr (Ne.symm hji)) h3.1 (hkeep w w' hT h3.2.1.1 h3.2.1.2) ?_⟩) h2
   ·intro k ok hk hki hun hno
    refine hfree k ok hk hki ?_ hno;by_cases hjk:j=k
    ·subst hjk;exact hjun
    ·rw [getD_set_ne true hjk] at hun;exact hun
   ·rw [Array.setIfInBounds_comm _ _ hji]
    exact h3.2.2
theorem Zeu {T:World->Prop} {D:Nat->Bool} {i:Nat} {oi:Oper} {v:Value} (hi:ops[i]? =some oi) (hsel:∀ (j:Nat) (o:Oper) cs b,ops[j]? =some o->o.op≠.select cs b)
  (hQ:∀ c a w,Q (.panic c) (a.put oi.dst v) w->Q (.panic c) a w) (hni:need i=false)
  (hD:∀ j oj,D j=true->j≠i->ops[j]? =some oj->∃ e∈oj.after,Region.binds md e=true/\D e.on=true):
  ∀ (fuel:Nat) (listed:Array Bool) (a:Act) (w:World),
   (∀ j oj,ops[j]? =some oj->j≠i->listed.getD j true=false->D j=false->(∀ e∈oj.after,Region.binds md e=true->e.on≠i)->
    oi.apart ops oj=true/\∀ w w',T w->(need j=true->S w')->(look j=true->w'=w)->T w')->
   (∀ j,D j=true->listed.getD j true=false)->i∈Region.ready md ops listed->YieldsIf P ops T oi v a->T w->
   wpT P md ops Q S need look fuel (listed.setIfInBounds i true) (a.put oi.dst v) w->wpT P md ops Q S need look (fuel + 1) listed a w:=by
 intro fuel
 induction fuel with
 |zero=>
  intro listed a w hfree hun hr hy hT H;refine ⟨λ h=>(by rw [h] at hr;cases hr),λ j hj=>?_⟩;by_cases hji:j=i
  ·subst hji
   exact hy.wpOp hi hT ⟨⟨λ h=>(by rw [hni] at h;cases h),λ _=>rfl⟩,H⟩
  ·have:=ready_mono hj hji
   rw [H.1] at this;cases this
 |succ fuel ih=>
  intro listed a w hfree hun hr hy hT H;refine ⟨λ h=>(by rw [h] at hr;cases hr),λ j hj=>?_⟩;by_cases hji:j=i
  ·subst hji
   exact hy.wpOp hi hT ⟨⟨λ h=>(by rw [hni] at h;cases h),λ _=>rfl⟩,H⟩
  ·have h1:=H.2 j (ready_mono hj hji)
   obtain ⟨hjun,oj,hoj,hall⟩:=mem_ready.1 hj;have hnot:∀ e∈oj.after,Region.binds md e=true->e.on≠i:=λ e he hb heq=>by
    have h1:=hall e he hb;have h0:=(mem_ready.1 hr).1;rw [heq] at h1;rcases Nat.lt_or_ge i listed.size with h'|h'
    ·simp [h'] at h0 h1;rw [h0] at h1;cases h1
    ·simp [Array.getElem?_eq_none h'] at h1
   have hDj:D j=false:=by
    cases hd:D j with
    |false=>rfl
    |true=>
     obtain ⟨e,he,hb,hde⟩:=hD j oj hd hji hoj;have h1:=hall e he hb;have h0:=hun e.on hde;rcases Nat.lt_or_ge e.on listed.size with h'|h'
     ·simp [h'] at h0 h1;rw [h0] at h1;cases h1
     ·simp [Array.getElem?_eq_none h'] at h1
   obtain ⟨hap,hkeep⟩:=hfree j oj hoj hji hjun hDj hnot;have h2:=wpOp_putIf hoj hap (λ cs b=>hsel i oi cs b hi) (λ cs b=>hsel j oj cs b hoj) hQ hy h1;refine wpOp_mono (λ a' w' h3=>⟨h3.2.1,ih (listed.setIfInBounds j true) a' w' ?_ ?_ (ready_mono hr (Ne.symm hji)) h3.1 (hkeep w w' hT h3.2.1.1 h3.2.1.2) ?_⟩) h2
   ·intro k ok hk hki hun hdk hno
    refine hfree k ok hk hki ?_ hdk hno;by_cases hjk:j=k
    ·subst hjk;exact hjun
    ·rw [getD_set_ne true hjk] at hun;exact hun
   ·intro k hdk
    have hjk:j≠k:=λ h=>by rw [h,hdk] at hDj;cases hDj
    rw [getD_set_ne true hjk];exact hun k hdk
   ·rw [Array.setIfInBounds_comm _ _ hji]
    exact h3.2.2
end
def ZdW (ops:Array Oper) (ρ:Env) (o:Oper) (run skip:Env->Prop):Prop:=
 match o.guard with
 |none=>run ρ
 |some (j,want)=>(match (ops[j]?).bind (·.dst) with
  |none=>skip ρ
  |some d=>(match ρ d with
   | .bool b=>(match want with
    |true=>Br b (run (ρ.set d (.bool true))) (skip (ρ.set d (.bool false)))
    |false=>Br b (skip (ρ.set d (.bool true))) (run (ρ.set d (.bool false))))
   |_=>skip ρ))
def Zs5 (d k:Nat):List Oper->Option TypeId
 |[]=>none
 |o::os=>match o.op with
  | .extract x j=>(match x with
   | .tmp t=>(match Nat.beq t d && Nat.beq j k with
    |true=>some o.type
    |false=>Zs5 d k os)
   |_=>Zs5 d k os)
  |_=>Zs5 d k os
def vtE (P:Program) (t:Option TypeId):Vt:=match t with|some t=>ZBQ P t|none=>.one .any
def Znm (op:Op):Bool:=match op with| .entry _=>true|_=>false
def ZBX (P:Program) (S:World->Prop) (ops:Array Oper) (ρ:Env) (o:Oper) (K:Value->Prop):Prop:=
 match o.op with
 | .entry x=>(match o.dst with
  |some d=>Giv P S (Instr.entry (ρ.ev x)) (.tup [vtE P (Zs5 d 0 ops.toList),vtE P (Zs5 d 1 ops.toList)]) K
  |none=>False)
 |_=>False
def opE (P:Program) (cl:FuncId->Bool) (ops:Array Oper) (ρ:Env) (o:Oper) (K:nK) (w:World):Prop:=
 match Znm o.op with
 |true=>ZBX P (λ w'=>w'=w) ops ρ o (λ v=>K v w)
 |false=>opF P cl ρ o K w
def Zt8 (P:Program) (cl:FuncId->Bool) (ops:Array Oper):List Oper->Env->(Env->World->Prop)->World->Prop
 |[],ρ,K,w=>K ρ w
 |o::rest,ρ,K,w=>ZdW ops ρ o
   (λ ρ=>opE P cl ops ρ o (λ v w=>Zt8 P cl ops rest (ρ.put o.dst v) K w) w)
   (λ ρ=>Zt8 P cl ops rest (ρ.put o.dst undef) K w)
def Zab (P:Program) (op:Op):Bool:=match ZfN P op with|0=>(match ZeA P op with|0=>false|_=>true)|_=>false
def Zag (P:Program) (op:Op):Bool:=match ZfN P op with|0=>false|_=>true
def Zdk (P:Program) (ops:Array Oper) (j:Nat):Bool:=
 match ops[j]? with
 |none=>false
 |some oj=>!Zab P oj.op && !Zag P oj.op && (List.range ops.size).any λ i=>match ops[i]? with
  |some oi=>Zab P oi.op && !oj.after.any (λ e=>Region.binds .any e && Nat.beq e.on i)
  |none=>false
def ZBS (P:Program) (S:World->Prop) (hs:Bool) (ρ:Env) (o:Oper) (K:Value->Prop):Prop:=
 match Zag P o.op with
 |true=>ZrW P ρ o K
 |false=>(match hs with
  |true=>ZrF P S ρ o K
  |false=>False)
def Zuv (P:Program) (ops:Array Oper) (S:World->Prop) (hs:Bool) (ρ:Env) (o:Oper) (K:Value->Prop):Prop:=
 match Znm o.op with
 |true=>(match hs with
  |true=>ZBX P S ops ρ o K
  |false=>False)
 |false=>ZBS P S hs ρ o K
def ZlN (P:Program) (ops:Array Oper) (listed:Array Bool):List Nat->Option Nat
 |[]=>none
 |i::is=>match ops[i]? with
  |some o=>(match Zag P o.op||Zab P o.op with
   |true=>(match Region.free .any ops listed i with
    |true=>some i
    |false=>ZlN P ops listed is)
   |false=>ZlN P ops listed is)
  |none=>ZlN P ops listed is
def ZAc (f:Nat->Prop):List Nat->Prop
 |[]=>True
 |[i]=>f i
 |i::is=>f i/\ZAc f is
def Zhn (ops:Array Oper) (listed:Array Bool) (i:Nat):Nat->Nat->Bool
 |0,j=>Nat.beq j i
 |n + 1,j=>Nat.beq j i||(!listed.getD j true && match ops[j]? with
  |some oj=>oj.after.any (λ e=>Region.binds .any e && Zhn ops listed i n e.on)
  |none=>false)
def Zek (P:Program) (ops:Array Oper) (listed:Array Bool) (i:Nat):Bool:=(List.range ops.size).all λ j=>listed.getD j true||(Zhn ops listed i 8 j||match ops[j]? with
 |some oj=>(Zag P oj.op||Zab P oj.op)
 |none=>true)
def Zqw (P:Program) (cl:FuncId->Bool) (ops:Array Oper) (S:World->Prop) (ex:Bool):Nat->Bool->Array Bool->Env->(Env->World->Prop)->World->Prop
 |0,_,listed,ρ,K,w=>(match Region.ready .any ops listed with
  |[]=>K ρ w
  |_=>False)
 |fuel + 1,hs,listed,ρ,K,w=>(match Region.ready .any ops listed with
  |[]=>K ρ w
  |r::rs=>(match ZlN P ops listed (r::rs) with
   |some i=>(match ops[i]? with
    |some o=>ZdW ops ρ o
      (λ ρ=>(match ex && Zek P ops listed i with
       |true=>Zuv P ops (λ w'=>w'=w) true ρ o λ v=>Zqw P cl ops S ex fuel hs (listed.setIfInBounds i true) (ρ.put o.dst v) K w
       |false=>Zuv P ops S hs ρ o λ v=>Zqw P cl ops S ex fuel hs (listed.setIfInBounds i true) (ρ.put o.dst v) K w))
      (λ ρ=>Zqw P cl ops S ex fuel hs (listed.setIfInBounds i true) (ρ.put o.dst undef) K w)
    |none=>False)
   |none=>ZAc (λ i=>match ops[i]? with
    |some o=>ZdW ops ρ o
      (λ ρ=>(match Zag P o.op||Zab P o.op with
       |true=>False
       |false=>match Zdk P ops i with
       |true=>opF P cl ρ o (λ v w=>S w/\Zqw P cl ops S ex fuel hs (listed.setIfInBounds i true) (ρ.put o.dst v) K w) w
       |false=>opF P cl ρ o (λ v w=>Zqw P cl ops S ex fuel false (listed.setIfInBounds i true) (ρ.put o.dst v) K w) w))
      (λ ρ=>(match Zag P o.op||Zab P o.op with
       |true=>False
       |false=>match Zdk P ops i with
       |true=>(match hs with
        |true=>Zqw P cl ops S ex fuel true (listed.setIfInBounds i true) (ρ.put o.dst undef) K w
        |false=>False)
       |false=>Zqw P cl ops S ex fuel false (listed.setIfInBounds i true) (ρ.put o.dst undef) K w))
    |none=>False) (r::rs)))
def Drw (w:World) (F:(World->Prop)->World->Prop):Prop:=∃ S0 S:World->Prop,S0 w.drew/\∀ w',S0 w'->S w'/\F S w'
def _root_.Go.Act.env (a:Act):Env:=λ i=>a.tmps.getD i undef
theorem Zaq (a:Act):a.env.ev=a.eval:=by funext x;cases x<;>rfl
theorem ZgG {a:Act} {d:Option Tmp} {v:Value} (h:∀ x,d=some x->x<a.tmps.size):(a.put d v).env=a.env.put d v:=by
 cases d with
 |none=>rfl
 |some d=>
  have hd:=h d rfl
  funext i
  simp only [Act.env,Act.put,Env.put,Env.set];by_cases hi:i=d
  ·subst hi;simp [hd]
  ·have:Nat.beq i d=false:=by
    cases hb:Nat.beq i d with
    |false=>rfl
    |true=>exact absurd (Nat.eq_of_beq_eq_true hb) hi
   simp [this,Array.getElem?_setIfInBounds_ne (Ne.symm hi)]
theorem ZgZ {ρ:Env} {d:Nat} {v:Value} (h:ρ d=v):ρ.set d v=ρ:=by
 funext i
 simp only [Env.set];split
 ·rename_i hb;rw [Nat.eq_of_beq_eq_true hb,h]
 ·rfl
theorem ZjY (a:Act) (d:Option Tmp) (v:Value):(a.put d v).tmps.size=a.tmps.size:=by
 cases d<;>simp [Act.put]
theorem Zgt (a:Act) (d:Option Tmp) (v:Value):(a.put d v).defers=a.defers:=by
 cases d<;>rfl
structure ZcC (n:Nat) (pw:Nat->Bool) (a0:Env) (a:Act):Prop where
 size:a.tmps.size=n
 defers:a.defers=[]
 same:∀ i,pw i=false->a.env i=a0 i
def ZbM (n:Nat) (pw:Nat->Bool) (o:Oper):Bool:=match o.dst with|some d=>Nat.blt d n && pw d|none=>true
theorem ZcC.put {n:Nat} {pw:Nat->Bool} {a0:Env} {a:Act} (h:ZcC n pw a0 a) {o:Oper} (ho:ZbM n pw o=true) (v:Value):ZcC n pw a0 (a.put o.dst v):=by
 refine ⟨by rw [ZjY];exact h.size,by rw [Zgt];exact h.defers,λ i hi=>?_⟩;unfold ZbM at ho;have hd:∀ x,o.dst=some x->x<a.tmps.size:=λ x hx=>by
  rw [hx] at ho;simp only [Bool.and_eq_true] at ho;rw [h.size];exact Nat.blt_eq.mp ho.1
 rw [ZgG hd];cases hx:o.dst with
 |none=>exact h.same i hi
 |some d=>
  rw [hx] at ho;simp only [Bool.and_eq_true] at ho;simp only [Env.put,Env.set];split
  ·rename_i hb;have:=Nat.eq_of_beq_eq_true hb;subst this;rw [hi] at ho;simp at ho
  ·exact h.same i hi
theorem ZcC.envput {n:Nat} {pw:Nat->Bool} {a0:Env} {a:Act} (h:ZcC n pw a0 a) {o:Oper} (ho:ZbM n pw o=true) (v:Value):(a.put o.dst v).env=a.env.put o.dst v:=by
 refine ZgG λ x hx=>?_;unfold ZbM at ho;rw [hx] at ho;simp only [Bool.and_eq_true] at ho;rw [h.size];exact Nat.blt_eq.mp ho.1
theorem ZmJ (ops:Array Oper) (a:Act) (j:Nat):yielded ops a.tmps j=match (ops[j]?).bind (·.dst) with
  |none=>none
  |some d=>match a.env d with| .bool b=>some b|_=>none:=by
 unfold yielded;cases (ops[j]?).bind (·.dst) with
 |none=>rfl
 |some d=>
  simp only [Option.bind_some,Act.env,Array.getD_eq_getD_getElem?];cases a.tmps[d]? with
  |none=>simp [undef]
  |some v=>cases v<;>rfl
theorem Zac {ops:Array Oper} {a:Act} {o:Oper} {run skip:Env->Prop} (h:ZdW ops a.env o run skip):
  (Region.wanted o (yielded ops a.tmps)=true/\run a.env)\/(Region.wanted o (yielded ops a.tmps)=false/\skip a.env):=by
 unfold ZdW at h;unfold Region.wanted;split at h
 ·rename_i hg;rw [hg];exact .inl ⟨rfl,h⟩
 ·rename_i j want hg
  rw [hg];simp only [ZmJ];split at h
  ·exact .inr ⟨rfl,h⟩
  ·rename_i d hd
   split at h
   ·rename_i b hb
    cases b with
    |true=>
     rw [ZgZ hb] at h;cases want with
     |true=>exact .inl ⟨rfl,h⟩
     |false=>exact .inr ⟨rfl,h⟩
    |false=>
     rw [ZgZ hb] at h;cases want with
     |true=>exact .inr ⟨rfl,h⟩
     |false=>exact .inl ⟨rfl,h⟩
   ·rename_i hb
    refine .inr ⟨?_,h⟩;cases hv:a.env d<;>first|rfl|exact absurd hv (hb _)
theorem Zjs {P:Program} {S:World->Prop} {ops:Array Oper} {e:Env} {o:Oper} {K:Value->Prop} (h:ZBX P S ops e o K):Zc4 P S (execOp e.ev o) K:=by
 unfold ZBX at h;split at h
 case h_2=>exact h.elim
 rename_i x hop;split at h
 case h_2=>exact h.elim
 obtain ⟨v,hv,hK⟩:=Rt.ex_some h;obtain ⟨dst,op,ty,pos,after,guard⟩:=o;simp only at hop;subst hop;exact ⟨v,λ w hw=>Zcw rfl (hv w hw),hK⟩
theorem ZlP {P:Program} {cl:FuncId->Bool} {ops:Array Oper} (hcl:∀ g,cl g=true->ZS P g=true) {a:Act} {e:Env} {o:Oper} {K:Value->World->Prop} {w:World}
  {Q:Exit->Act->World->Prop} (hok:ZiA P o.op=true) (h:opE P cl ops e o K w):o.upon P a (ZqB a o.dst K) Q ((execOp e.ev o).run P w):=by
 unfold opE at h;split at h
 ·exact Zc4.upon (S:=λ w'=>w'=w) rfl (Zjs h)
 ·exact ZcO hcl hok h
section
variable {P:Program} {cl:FuncId->Bool} {ops:Array Oper} {Q:Exit->Act->World->Prop} {n:Nat} {pw:Nat->Bool} {a0:Env}
theorem Zaj (hcl:∀ g,cl g=true->ZS P g=true) {K:Env->World->Prop}
  (hQ:∀ a w,ZcC n pw a0 a->K a.env w->Q .normal a w):∀ (l:List Oper) (_:∀ o∈l,ZiA P o.op=true/\ZbM n pw o=true) (a:Act) (w:World),
   ZcC n pw a0 a->Zt8 P cl ops l a.env K w->wpList P ops Q l a w
 |[],_,a,w,hk,h=>hQ a w hk h
 |o::rest,hl,a,w,hk,h=>by
  have ho:=hl o (List.mem_cons_self ..);have hrest:=λ x hx=>hl x (List.mem_cons_of_mem _ hx);unfold Zt8 at h;unfold wpList;rcases Zac h with ⟨hw,h⟩|⟨hw,h⟩
  ·rw [if_pos hw]
   refine .inl ?_;have:=ZlP hcl (a:=a) (Q:=Q) ho.1 h;rw [Zaq] at this;unfold Oper.wp;refine upon_mono ?_ this;rintro a' w' ⟨v,rfl,hv⟩;refine Zaj hcl hQ rest hrest _ w' (hk.put ho.2 v) ?_;rw [hk.envput ho.2];exact hv
  ·rw [hw]
   simp only [Bool.false_eq_true,if_false];refine Zaj hcl hQ rest hrest _ w (hk.put ho.2 _) ?_;rw [hk.envput ho.2];exact h
where
 upon_mono {o:Oper} {a:Act} {K K':Act->World->Prop} {r:Result Next} (h:∀ a w,K a w->K' a w) (hh:o.upon P a K Q r):o.upon P a K' Q r:=by
  cases r with
  |ok x w'=>
   cases x<;>simp only [Oper.upon] at hh ⊢<;>
    first
     |exact h _ _ hh
     |exact Calls.mono hh (λ e w'' he=>by cases e<;>first|exact h _ _ he|exact he)
     |exact Rows.mono hh (λ _ _ he=>h _ _ he)
  |halt x w'=>cases x<;>simp only [Oper.upon] at hh ⊢<;>exact hh
theorem ZiS {S:World->Prop} {hs:Bool} {e:Env} {o:Oper} {K:Value->Prop} (hok:ZiA P o.op=true) (hr:(Zag P o.op||Zab P o.op)=true) (h:ZBS P S hs e o K):
  (Zag P o.op=true/\Zc4 P (λ _=>True) (execOp e.ev o) K)\/(Zag P o.op=false/\hs=true/\Zc4 P S (execOp e.ev o) K):=by
 unfold ZBS at h;split at h
 ·rename_i hp;exact .inl ⟨hp,Zfl (Zj3 hok) h⟩
 ·rename_i hp
  split at h
  ·refine .inr ⟨hp,rfl,Zfh ?_ (Zm9 hok) h⟩
   rw [hp] at hr;simp only [Bool.false_or] at hr;unfold Zab at hr;intro hk;rw [hk] at hr;split at hr<;>simp at hr
  ·exact h.elim
theorem ZbU {ops:Array Oper} {S:World->Prop} {hs:Bool} {e:Env} {o:Oper} {K:Value->Prop} (hok:ZiA P o.op=true) (hr:(Zag P o.op||Zab P o.op)=true) (h:Zuv P ops S hs e o K):
  (Zag P o.op=true/\Zc4 P (λ _=>True) (execOp e.ev o) K)\/(Zag P o.op=false/\hs=true/\Zc4 P S (execOp e.ev o) K):=by
 unfold Zuv at h;split at h
 ·rename_i he
  split at h
  ·refine .inr ⟨?_,rfl,Zjs h⟩
   unfold Znm at he;split at he
   ·rename_i hop
    rw [hop];rfl
   ·cases he
  ·exact h.elim
 ·exact ZiS hok hr h
theorem ZcA {listed:Array Bool}:∀ {l:List Nat} {i:Nat},ZlN P ops listed l=some i->i∈l/\∃ o,ops[i]? =some o/\(Zag P o.op||Zab P o.op)=true/\Region.free .any ops listed i=true
 |[],_,h=>by cases h
 |j::l,i,h=>by
  unfold ZlN at h;split at h
  ·rename_i o ho
   split at h
   ·rename_i hp
    split at h
    ·rename_i hf
     cases h;exact ⟨List.mem_cons_self ..,o,ho,hp,hf⟩
    ·have:=ZcA h;exact ⟨List.mem_cons_of_mem _ this.1,this.2⟩
   ·have:=ZcA h;exact ⟨List.mem_cons_of_mem _ this.1,this.2⟩
  ·have:=ZcA h;exact ⟨List.mem_cons_of_mem _ this.1,this.2⟩
theorem Zgi {f:Nat->Prop}:∀ {l:List Nat},ZAc f l->∀ i∈l,f i
 |[],_,i,hi=>by cases hi
 |[j],h,i,hi=>by simp at hi;subst hi;exact h
 |j::k::l,h,i,hi=>by
  rcases List.mem_cons.1 hi with rfl|hi
  ·exact h.1
  ·exact Zgi h.2 i hi
theorem ZtN {listed:Array Bool} {i:Nat}:∀ (n j:Nat),Zhn ops listed i n j=true->Zhn ops listed i (n + 1) j=true
 |0,j,h=>by
  unfold Zhn at h;unfold Zhn;rw [h];rfl
 |n + 1,j,h=>by
  unfold Zhn at h;unfold Zhn;rcases Bool.or_eq_true _ _|>.mp h with h1|h1
  ·rw [h1];rfl
  ·rw [Bool.and_eq_true] at h1
   obtain ⟨h2,h3⟩:=h1;rw [h2];split at h3
   ·rename_i oj ho
    obtain ⟨e,he,hb⟩:=Array.any_eq_true'.1 h3;rw [Bool.and_eq_true] at hb;have:oj.after.any (λ e=>Region.binds .any e && Zhn ops listed i (n + 1) e.on)=true:=Array.any_eq_true'.2 ⟨e,he,by rw [hb.1,ZtN n e.on hb.2];rfl⟩;rw [this];simp
   ·cases h3
theorem ZkO {listed:Array Bool} {i:Nat} (hi:listed.getD i true=false):∀ (n j:Nat),Zhn ops listed i n j=true->listed.getD j true=false
 |0,j,h=>by unfold Zhn at h;rw [Nat.eq_of_beq_eq_true h];exact hi
 |n + 1,j,h=>by
  unfold Zhn at h;rcases Bool.or_eq_true _ _|>.mp h with h1|h1
  ·rw [Nat.eq_of_beq_eq_true h1];exact hi
  ·rw [Bool.and_eq_true] at h1
   simpa using h1.1
theorem Zgg {listed:Array Bool} {i j:Nat} {oj:Oper}:∀ (n:Nat),Zhn ops listed i n j=true->j≠i->ops[j]? =some oj->∃ e∈oj.after,Region.binds .any e=true/\Zhn ops listed i n e.on=true
 |0,h,hji,_=>by unfold Zhn at h;exact absurd (Nat.eq_of_beq_eq_true h) hji
 |n + 1,h,hji,ho=>by
  unfold Zhn at h;rcases Bool.or_eq_true _ _|>.mp h with h1|h1
  ·exact absurd (Nat.eq_of_beq_eq_true h1) hji
  ·rw [Bool.and_eq_true,ho] at h1
   obtain ⟨e,he,hb⟩:=Array.any_eq_true'.1 h1.2;rw [Bool.and_eq_true] at hb;exact ⟨e,he,hb.1,ZtN n e.on hb.2⟩
theorem ZgF {listed:Array Bool} {i j:Nat} {oj:Oper} (h:Zek P ops listed i=true) (hj:ops[j]? =some oj) (hun:listed.getD j true=false) (hno:Zhn ops listed i 8 j=false):(Zag P oj.op||Zab P oj.op)=true:=by
 unfold Zek at h;have h1:=List.all_eq_true.1 h j (List.mem_range.2 (Array.getElem?_eq_some_iff.1 hj).1);rw [hun,hj,hno] at h1;simpa using h1
theorem Zj9 {i j:Nat} {oi oj:Oper} (hi:ops[i]? =some oi) (hj:ops[j]? =some oj) (hri:Zab P oi.op=true)
  (hjr:(Zag P oj.op||Zab P oj.op)=false) (hno:∀ e∈oj.after,Region.binds .any e=true->e.on≠i):Zdk P ops j=true:=by
 unfold Zdk;rw [hj];simp only [Bool.or_eq_false_iff] at hjr;simp only [hjr.1,hjr.2,Bool.not_false,Bool.true_and,List.any_eq_true,List.mem_range];refine ⟨i,(Array.getElem?_eq_some_iff.1 hi).1,?_⟩;rw [hi];simp only [hri,Bool.true_and,Bool.not_eq_true'];rw [<-Bool.not_eq_true,Array.any_eq_true'];rintro ⟨e,he,hb⟩;simp only [Bool.and_eq_true] at hb;exact hno e he hb.1 (Nat.eq_of_beq_eq_true hb.2)
theorem ZjD {i:Nat} {o:Oper} {a:Act} {w:World} {K:Act->World->Prop} (hi:ops[i]? =some o)
  (h:(Region.wanted o (yielded ops a.tmps)=true/\o.upon P a K Q ((execOp a.eval o).run P w))\/(Region.wanted o (yielded ops a.tmps)=false/\K (a.put o.dst undef) w)):wpOp P ops Q i K a w:=by
 unfold wpOp;rw [hi];rcases h with ⟨hw,h⟩|⟨hw,h⟩
 ·simp only [hw,if_true];exact .inl h
 ·simp only [hw,Bool.false_eq_true,if_false];exact h
def looks (P:Program) (ops:Array Oper) (j:Nat):Bool:=match ops[j]? with|some o=>Zag P o.op||Zab P o.op|none=>false
theorem Zqv (hcl:∀ g,cl g=true->ZS P g=true) (hsel:Region.noSelect ops=true) {K:Env->World->Prop} {S:World->Prop} {ex:Bool}
  (hQ:∀ a w,ZcC n pw a0 a->K a.env w->Q .normal a w) (hQp:∀ c a w,¬ Q (.panic c) a w) (hops:∀ (i:Nat) (o:Oper),ops[i]? =some o->ZiA P o.op=true/\ZbM n pw o=true):
  ∀ (fuel:Nat) (hs:Bool) (listed:Array Bool) (a:Act) (w:World),ZcC n pw a0 a->(hs=true->S w)->Zqw P cl ops S ex fuel hs listed a.env K w->
   wpT P .any ops Q S (Zdk P ops) (looks P ops) fuel listed a w:=by
 intro fuel
 induction fuel with
 |zero=>
  intro hs listed a w hk hS h;unfold Zqw at h;split at h
  ·rename_i hr;exact ⟨hr,hQ a w hk h⟩
  ·exact h.elim
 |succ fuel ih=>
  intro hs listed a w hk hS h;unfold Zqw at h;split at h
  ·rename_i hr
   exact ⟨λ _=>hQ a w hk h,λ i hi=>by rw [hr] at hi;cases hi⟩
  ·rename_i r rs hr
   split at h
   ·rename_i i hp
    obtain ⟨hmem,o,ho,hpr,hfree⟩:=ZcA hp;rw [ho] at h;simp only at h;obtain ⟨hok,hd⟩:=hops i o ho;have hni:Zdk P ops i=false:=by
     unfold Zdk;rw [ho];simp only;rcases Bool.or_eq_true _ _|>.mp hpr with hp|hp<;>simp [hp]
    have hrdy:i∈Region.ready .any ops listed:=by rw [hr];exact hmem
    have hfs:=Region.free_spec (md:=.any) ho hfree;have hself:=Region.noSelect_spec hsel;rcases Zac h with ⟨hw,h⟩|⟨hw,h⟩
    ·cases hex:(ex && Zek P ops listed i) with
     |true=>
      rw [hex] at h;have hx:Zek P ops listed i=true:=by rw [Bool.and_eq_true] at hex;exact hex.2
      rcases ZbU hok hpr h with ⟨hp,v,hv,hK⟩|⟨hp,hhs,v,hv,hK⟩
      ·refine Zas (T:=λ _=>True) ho hself (λ c a w hc=>absurd hc (hQp c _ w)) hni fuel listed a w (λ j oj hj hne hun hno=>⟨hfs j oj hj hne hun hno,λ _ _ _ _ _=>trivial⟩) hrdy (.inl ⟨hw,?_⟩) trivial
        (ih hs (listed.setIfInBounds i true) (a.put o.dst v) w (hk.put hd v) hS ?_)
       ·rw [<-Zaq];exact hv
       ·rw [hk.envput hd];exact hK
      ·have hun0:listed.getD i true=false:=(mem_ready.1 hrdy).1
       refine Zeu (T:=λ w'=>w'=w) (D:=Zhn ops listed i 8) ho hself (λ c a w hc=>absurd hc (hQp c _ w)) hni (λ j oj hd hji hj=>Zgg 8 hd hji hj) fuel listed a w (λ j oj hj hne hun hdj hno=>⟨hfs j oj hj hne hun hno,λ w1 w2 hw1 hneed hlook=>?_⟩) (λ j hd=>ZkO hun0 8 j hd) hrdy (.inl ⟨hw,?_⟩) rfl
        (ih hs (listed.setIfInBounds i true) (a.put o.dst v) w (hk.put hd v) hS ?_)
       ·have:=hlook (by unfold looks;rw [hj];exact ZgF hx hj hun hdj)
        rw [this];exact hw1
       ·rw [<-Zaq];exact hv
       ·rw [hk.envput hd];exact hK
     |false=>
     rw [hex] at h;rcases ZbU hok hpr h with ⟨hp,v,hv,hK⟩|⟨hp,hhs,v,hv,hK⟩
     ·refine Zas (T:=λ _=>True) ho hself (λ c a w hc=>absurd hc (hQp c _ w)) hni fuel listed a w (λ j oj hj hne hun hno=>⟨hfs j oj hj hne hun hno,λ _ _ _ _ _=>trivial⟩) hrdy (.inl ⟨hw,?_⟩) trivial
       (ih hs (listed.setIfInBounds i true) (a.put o.dst v) w (hk.put hd v) hS ?_)
      ·rw [<-Zaq];exact hv
      ·rw [hk.envput hd];exact hK
     ·have hri:Zab P o.op=true:=by rw [hp] at hpr;simpa using hpr
      refine Zas (T:=S) ho hself (λ c a w hc=>absurd hc (hQp c _ w)) hni fuel listed a w (λ j oj hj hne hun hno=>⟨hfs j oj hj hne hun hno,λ w w' hw hneed hlook=>?_⟩) hrdy (.inl ⟨hw,?_⟩) (hS hhs)
       (ih hs (listed.setIfInBounds i true) (a.put o.dst v) w (hk.put hd v) hS ?_)
      ·cases hl:(Zag P oj.op||Zab P oj.op) with
       |true=>have:=hlook (by unfold looks;rw [hj];exact hl);rw [this];exact hw
       |false=>exact hneed (Zj9 ho hj hri hl hno)
      ·rw [<-Zaq];exact hv
      ·rw [hk.envput hd];exact hK
    ·refine Zas (T:=λ _=>True) ho hself (λ c a w hc=>absurd hc (hQp c _ w)) hni fuel listed a w (λ j oj hj hne hun hno=>⟨hfs j oj hj hne hun hno,λ _ _ _ _ _=>trivial⟩) hrdy (.inr ⟨hw,rfl⟩) trivial
       (ih hs (listed.setIfInBounds i true) (a.put o.dst undef) w (hk.put hd _) hS ?_)
     rw [hk.envput hd];exact h
   ·refine ⟨λ h0=>absurd (hr ▸ h0) (by simp),λ i hi=>?_⟩
    rw [hr] at hi;have h:=Zgi h i hi;split at h
    case h_2=>exact h.elim
    rename_i o ho;obtain ⟨hok,hd⟩:=hops i o ho;refine ZjD ho ?_;rcases Zac h with ⟨hw,h⟩|⟨hw,h⟩
    ·refine .inl ⟨hw,?_⟩
     split at h
     ·exact h.elim
     ·rename_i hl
      have hlk:looks P ops i=false:=by unfold looks;rw [ho];exact hl
      split at h
      ·rename_i hnd
       have:=ZcO hcl (a:=a) (Q:=Q) hok h;rw [Zaq] at this;refine Zaj.upon_mono ?_ this;rintro a' w' ⟨v,rfl,hSw,hK⟩;refine ⟨⟨λ _=>hSw,λ hh=>(by rw [hlk] at hh;cases hh)⟩,ih hs _ _ w' (hk.put hd v) (λ _=>hSw) ?_⟩;rw [hk.envput hd];exact hK
      ·rename_i hnd
       have:=ZcO hcl (a:=a) (Q:=Q) hok h;rw [Zaq] at this;refine Zaj.upon_mono ?_ this;rintro a' w' ⟨v,rfl,hK⟩;refine ⟨⟨λ hh=>(by rw [hnd] at hh;cases hh),λ hh=>(by rw [hlk] at hh;cases hh)⟩,ih false _ _ w' (hk.put hd v) (λ hh=>by cases hh) ?_⟩;rw [hk.envput hd];exact hK
    ·refine .inr ⟨hw,?_⟩
     split at h
     ·exact h.elim
     ·rename_i hl
      have hlk:looks P ops i=false:=by unfold looks;rw [ho];exact hl
      split at h
      ·split at h
       ·have hSw:=hS rfl
        refine ⟨⟨λ _=>hSw,λ _=>rfl⟩,ih true _ _ w (hk.put hd _) (λ _=>hSw) ?_⟩;rw [hk.envput hd];exact h
       ·exact h.elim
      ·rename_i hnd
       refine ⟨⟨λ hh=>(by rw [hnd] at hh;cases hh),λ _=>rfl⟩,ih false _ _ w (hk.put hd _) (λ hh=>by cases hh) ?_⟩;rw [hk.envput hd];exact h
end
end
section
def ZAD (P:Program) (ops:Array Oper):Nat->Nat->Bool
 |0,_=>false
 |n + 1,i=>match ops[i]? with
  |some oi=>oi.after.any (λ e=>Region.binds .any e && match ops[e.on]? with
   |some ok=>(match Zag P ok.op with
    |true=>ZAD P ops n e.on
    |false=>!Zab P ok.op)
   |none=>false)
  |none=>false
def ZpI (P:Program) (ops:Array Oper) (listed:Array Bool):List Nat->Option Nat
 |[]=>none
 |i::is=>match ops[i]? with
  |some o=>(match Zag P o.op||Zab P o.op with
   |true=>(match Region.free .any ops listed i && !(Zab P o.op && ZAD P ops 8 i) with
    |true=>some i
    |false=>ZpI P ops listed is)
   |false=>ZpI P ops listed is)
  |none=>ZpI P ops listed is
def ZnQ (P:Program) (cl:FuncId->Bool) (ops:Array Oper) (S:World->Prop):Nat->Bool->Array Bool->Env->(Env->World->Prop)->World->Prop
 |0,_,listed,ρ,K,w=>(match Region.ready .any ops listed with
  |[]=>K ρ w
  |_=>False)
 |fuel + 1,hs,listed,ρ,K,w=>(match Region.ready .any ops listed with
  |[]=>K ρ w
  |r::rs=>(match ZpI P ops listed (r::rs) with
   |some i=>(match ops[i]? with
    |some o=>ZdW ops ρ o
      (λ ρ=>(match Zek P ops listed i with
       |true=>Zuv P ops (λ w'=>w'=w) true ρ o λ v=>ZnQ P cl ops S fuel hs (listed.setIfInBounds i true) (ρ.put o.dst v) K w
       |false=>Zuv P ops S hs ρ o λ v=>ZnQ P cl ops S fuel hs (listed.setIfInBounds i true) (ρ.put o.dst v) K w))
      (λ ρ=>ZnQ P cl ops S fuel hs (listed.setIfInBounds i true) (ρ.put o.dst undef) K w)
    |none=>False)
   |none=>ZAc (λ i=>match ops[i]? with
    |some o=>ZdW ops ρ o
      (λ ρ=>(match Zag P o.op||Zab P o.op with
       |true=>Zuv P ops (λ w'=>w'=w) true ρ o λ v=>ZnQ P cl ops S fuel hs (listed.setIfInBounds i true) (ρ.put o.dst v) K w
       |false=>match Zdk P ops i with
       |true=>opF P cl ρ o (λ v w=>S w/\ZnQ P cl ops S fuel hs (listed.setIfInBounds i true) (ρ.put o.dst v) K w) w
       |false=>opF P cl ρ o (λ v w=>ZnQ P cl ops S fuel false (listed.setIfInBounds i true) (ρ.put o.dst v) K w) w))
      (λ ρ=>(match Zag P o.op||Zab P o.op with
       |true=>ZnQ P cl ops S fuel hs (listed.setIfInBounds i true) (ρ.put o.dst undef) K w
       |false=>match Zdk P ops i with
       |true=>(match hs with
        |true=>ZnQ P cl ops S fuel true (listed.setIfInBounds i true) (ρ.put o.dst undef) K w
        |false=>False)
       |false=>ZnQ P cl ops S fuel false (listed.setIfInBounds i true) (ρ.put o.dst undef) K w))
    |none=>False) (r::rs)))
section
variable {P:Program} {cl:FuncId->Bool} {ops:Array Oper} {Q:Exit->Act->World->Prop} {n:Nat} {pw:Nat->Bool} {a0:Env}
theorem ZeE {listed:Array Bool}:∀ {l:List Nat} {i:Nat},ZpI P ops listed l=some i->i∈l/\∃ o,ops[i]? =some o/\(Zag P o.op||Zab P o.op)=true/\Region.free .any ops listed i=true
 |[],_,h=>by cases h
 |j::l,i,h=>by
  unfold ZpI at h;split at h
  ·rename_i o ho
   split at h
   ·rename_i hp
    split at h
    ·rename_i hf
     cases h;rw [Bool.and_eq_true] at hf;exact ⟨List.mem_cons_self ..,o,ho,hp,hf.1⟩
    ·have:=ZeE h;exact ⟨List.mem_cons_of_mem _ this.1,this.2⟩
   ·have:=ZeE h;exact ⟨List.mem_cons_of_mem _ this.1,this.2⟩
  ·have:=ZeE h;exact ⟨List.mem_cons_of_mem _ this.1,this.2⟩
theorem Zqu (hcl:∀ g,cl g=true->ZS P g=true) (hsel:Region.noSelect ops=true) {K:Env->World->Prop} {S:World->Prop}
  (hQ:∀ a w,ZcC n pw a0 a->K a.env w->Q .normal a w) (hQp:∀ c a w,¬ Q (.panic c) a w) (hops:∀ (i:Nat) (o:Oper),ops[i]? =some o->ZiA P o.op=true/\ZbM n pw o=true):
  ∀ (fuel:Nat) (hs:Bool) (listed:Array Bool) (a:Act) (w:World),ZcC n pw a0 a->(hs=true->S w)->ZnQ P cl ops S fuel hs listed a.env K w->
   wpT P .any ops Q S (Zdk P ops) (looks P ops) fuel listed a w:=by
 intro fuel
 induction fuel with
 |zero=>
  intro hs listed a w hk hS h;unfold ZnQ at h;split at h
  ·rename_i hr;exact ⟨hr,hQ a w hk h⟩
  ·exact h.elim
 |succ fuel ih=>
  intro hs listed a w hk hS h;unfold ZnQ at h;split at h
  ·rename_i hr
   exact ⟨λ _=>hQ a w hk h,λ i hi=>by rw [hr] at hi;cases hi⟩
  ·rename_i r rs hr
   split at h
   ·rename_i i hp
    obtain ⟨hmem,o,ho,hpr,hfree⟩:=ZeE hp;rw [ho] at h;simp only at h;obtain ⟨hok,hd⟩:=hops i o ho;have hni:Zdk P ops i=false:=by
     unfold Zdk;rw [ho];simp only;rcases Bool.or_eq_true _ _|>.mp hpr with hp|hp<;>simp [hp]
    have hrdy:i∈Region.ready .any ops listed:=by rw [hr];exact hmem
    have hfs:=Region.free_spec (md:=.any) ho hfree;have hself:=Region.noSelect_spec hsel;rcases Zac h with ⟨hw,h⟩|⟨hw,h⟩
    ·cases hex:Zek P ops listed i with
     |true=>
      rw [hex] at h;have hx:Zek P ops listed i=true:=hex;rcases ZbU hok hpr h with ⟨hp,v,hv,hK⟩|⟨hp,hhs,v,hv,hK⟩
      ·refine Zas (T:=λ _=>True) ho hself (λ c a w hc=>absurd hc (hQp c _ w)) hni fuel listed a w (λ j oj hj hne hun hno=>⟨hfs j oj hj hne hun hno,λ _ _ _ _ _=>trivial⟩) hrdy (.inl ⟨hw,?_⟩) trivial
        (ih hs (listed.setIfInBounds i true) (a.put o.dst v) w (hk.put hd v) hS ?_)
       ·rw [<-Zaq];exact hv
       ·rw [hk.envput hd];exact hK
      ·have hun0:listed.getD i true=false:=(mem_ready.1 hrdy).1
       refine Zeu (T:=λ w'=>w'=w) (D:=Zhn ops listed i 8) ho hself (λ c a w hc=>absurd hc (hQp c _ w)) hni (λ j oj hd hji hj=>Zgg 8 hd hji hj) fuel listed a w (λ j oj hj hne hun hdj hno=>⟨hfs j oj hj hne hun hno,λ w1 w2 hw1 hneed hlook=>?_⟩) (λ j hd=>ZkO hun0 8 j hd) hrdy (.inl ⟨hw,?_⟩) rfl
        (ih hs (listed.setIfInBounds i true) (a.put o.dst v) w (hk.put hd v) hS ?_)
       ·have:=hlook (by unfold looks;rw [hj];exact ZgF hx hj hun hdj)
        rw [this];exact hw1
       ·rw [<-Zaq];exact hv
       ·rw [hk.envput hd];exact hK
     |false=>
     rw [hex] at h;rcases ZbU hok hpr h with ⟨hp,v,hv,hK⟩|⟨hp,hhs,v,hv,hK⟩
     ·refine Zas (T:=λ _=>True) ho hself (λ c a w hc=>absurd hc (hQp c _ w)) hni fuel listed a w (λ j oj hj hne hun hno=>⟨hfs j oj hj hne hun hno,λ _ _ _ _ _=>trivial⟩) hrdy (.inl ⟨hw,?_⟩) trivial
       (ih hs (listed.setIfInBounds i true) (a.put o.dst v) w (hk.put hd v) hS ?_)
      ·rw [<-Zaq];exact hv
      ·rw [hk.envput hd];exact hK
     ·have hri:Zab P o.op=true:=by rw [hp] at hpr;simpa using hpr
      refine Zas (T:=S) ho hself (λ c a w hc=>absurd hc (hQp c _ w)) hni fuel listed a w (λ j oj hj hne hun hno=>⟨hfs j oj hj hne hun hno,λ w w' hw hneed hlook=>?_⟩) hrdy (.inl ⟨hw,?_⟩) (hS hhs)
       (ih hs (listed.setIfInBounds i true) (a.put o.dst v) w (hk.put hd v) hS ?_)
      ·cases hl:(Zag P oj.op||Zab P oj.op) with
       |true=>have:=hlook (by unfold looks;rw [hj];exact hl);rw [this];exact hw
       |false=>exact hneed (Zj9 ho hj hri hl hno)
      ·rw [<-Zaq];exact hv
      ·rw [hk.envput hd];exact hK
    ·refine Zas (T:=λ _=>True) ho hself (λ c a w hc=>absurd hc (hQp c _ w)) hni fuel listed a w (λ j oj hj hne hun hno=>⟨hfs j oj hj hne hun hno,λ _ _ _ _ _=>trivial⟩) hrdy (.inr ⟨hw,rfl⟩) trivial
       (ih hs (listed.setIfInBounds i true) (a.put o.dst undef) w (hk.put hd _) hS ?_)
     rw [hk.envput hd];exact h
   ·refine ⟨λ h0=>absurd (hr ▸ h0) (by simp),λ i hi=>?_⟩
    rw [hr] at hi;have h:=Zgi h i hi;split at h
    case h_2=>exact h.elim
    rename_i o ho;obtain ⟨hok,hd⟩:=hops i o ho;refine ZjD ho ?_;rcases Zac h with ⟨hw,h⟩|⟨hw,h⟩
    ·refine .inl ⟨hw,?_⟩
     split at h
     ·rename_i hl
      have hlk:looks P ops i=true:=by unfold looks;rw [ho];exact hl
      have hni:Zdk P ops i=false:=by
       unfold Zdk;rw [ho];simp only;rcases Bool.or_eq_true _ _|>.mp hl with hp|hp<;>simp [hp]
      obtain ⟨v,hv,hK⟩:∃ v,(∀ w',w'=w->(execOp a.env.ev o).run P w'=.ok (.value v) w')/\ZnQ P cl ops S fuel hs (listed.setIfInBounds i true) (a.env.put o.dst v) K w:=by
       rcases ZbU hok hl h with ⟨_,v,hv,hK⟩|⟨_,_,v,hv,hK⟩
       ·exact ⟨v,λ w' _=>hv w' trivial,hK⟩
       ·exact ⟨v,hv,hK⟩
      have:=Zc4.upon (S:=λ w'=>w'=w) (a:=a) (Q:=Q) (K:=λ v' w'=>v'=v/\w'=w) rfl ⟨v,hv,rfl,rfl⟩;rw [Zaq] at this;refine Zaj.upon_mono ?_ this;rintro a' w' ⟨v',rfl,rfl,rfl⟩;refine ⟨⟨λ hh=>(by rw [hni] at hh;cases hh),λ _=>rfl⟩,ih hs _ _ w' (hk.put hd v') hS ?_⟩;rw [hk.envput hd];exact hK
     ·rename_i hl
      have hlk:looks P ops i=false:=by unfold looks;rw [ho];exact hl
      split at h
      ·rename_i hnd
       have:=ZcO hcl (a:=a) (Q:=Q) hok h;rw [Zaq] at this;refine Zaj.upon_mono ?_ this;rintro a' w' ⟨v,rfl,hSw,hK⟩;refine ⟨⟨λ _=>hSw,λ hh=>(by rw [hlk] at hh;cases hh)⟩,ih hs _ _ w' (hk.put hd v) (λ _=>hSw) ?_⟩;rw [hk.envput hd];exact hK
      ·rename_i hnd
       have:=ZcO hcl (a:=a) (Q:=Q) hok h;rw [Zaq] at this;refine Zaj.upon_mono ?_ this;rintro a' w' ⟨v,rfl,hK⟩;refine ⟨⟨λ hh=>(by rw [hnd] at hh;cases hh),λ hh=>(by rw [hlk] at hh;cases hh)⟩,ih false _ _ w' (hk.put hd v) (λ hh=>by cases hh) ?_⟩;rw [hk.envput hd];exact hK
    ·refine .inr ⟨hw,?_⟩
     split at h
     ·rename_i hl
      have hni:Zdk P ops i=false:=by
       unfold Zdk;rw [ho];simp only;rcases Bool.or_eq_true _ _|>.mp hl with hp|hp<;>simp [hp]
      refine ⟨⟨λ hh=>(by rw [hni] at hh;cases hh),λ _=>rfl⟩,ih hs _ _ w (hk.put hd _) hS ?_⟩;rw [hk.envput hd];exact h
     ·rename_i hl
      have hlk:looks P ops i=false:=by unfold looks;rw [ho];exact hl
      split at h
      ·split at h
       ·have hSw:=hS rfl
        refine ⟨⟨λ _=>hSw,λ _=>rfl⟩,ih true _ _ w (hk.put hd _) (λ _=>hSw) ?_⟩;rw [hk.envput hd];exact h
       ·exact h.elim
      ·rename_i hnd
       refine ⟨⟨λ hh=>(by rw [hnd] at hh;cases hh),λ _=>rfl⟩,ih false _ _ w (hk.put hd _) (λ hh=>by cases hh) ?_⟩;rw [hk.envput hd];exact h
end
end
section
def ZhR (P:Program) (ops:Array Oper) (j:Nat):Bool:=
 match ops[j]? with
 |none=>false
 |some oj=>!Zab P oj.op && !Zag P oj.op && (List.range ops.size).any λ i=>match ops[i]? with
  |some oi=>Zab P oi.op && !Zhn ops (Array.replicate ops.size false) i 8 j
  |none=>false
def okT (P:Program) (ops:Array Oper) (listed:Array Bool) (i:Nat):Bool:=(List.range ops.size).all λ j=>listed.getD j true||(Zhn ops listed i 8 j||(ZhR P ops j||match ops[j]? with
 |some oj=>(Zag P oj.op||Zab P oj.op)
 |none=>true))
def ZqH (P:Program) (cl:FuncId->Bool) (ops:Array Oper) (S:World->Prop):Nat->Bool->Array Bool->Env->(Env->World->Prop)->World->Prop
 |0,_,listed,ρ,K,w=>(match Region.ready .any ops listed with
  |[]=>K ρ w
  |_=>False)
 |fuel + 1,hs,listed,ρ,K,w=>(match Region.ready .any ops listed with
  |[]=>K ρ w
  |r::rs=>(match ZlN P ops listed (r::rs) with
   |some i=>(match ops[i]? with
    |some o=>ZdW ops ρ o
      (λ ρ=>(match Zek P ops listed i with
       |true=>Zuv P ops (λ w'=>w'=w) true ρ o λ v=>ZqH P cl ops S fuel hs (listed.setIfInBounds i true) (ρ.put o.dst v) K w
       |false=>(match Zag P o.op||okT P ops listed i with
        |true=>Zuv P ops S hs ρ o λ v=>ZqH P cl ops S fuel hs (listed.setIfInBounds i true) (ρ.put o.dst v) K w
        |false=>False)))
      (λ ρ=>ZqH P cl ops S fuel hs (listed.setIfInBounds i true) (ρ.put o.dst undef) K w)
    |none=>False)
   |none=>ZAc (λ i=>match ops[i]? with
    |some o=>ZdW ops ρ o
      (λ ρ=>(match Zag P o.op||Zab P o.op with
       |true=>False
       |false=>match ZhR P ops i with
       |true=>opF P cl ρ o (λ v w=>S w/\ZqH P cl ops S fuel hs (listed.setIfInBounds i true) (ρ.put o.dst v) K w) w
       |false=>opF P cl ρ o (λ v w=>ZqH P cl ops S fuel false (listed.setIfInBounds i true) (ρ.put o.dst v) K w) w))
      (λ ρ=>(match Zag P o.op||Zab P o.op with
       |true=>False
       |false=>match ZhR P ops i with
       |true=>(match hs with
        |true=>ZqH P cl ops S fuel true (listed.setIfInBounds i true) (ρ.put o.dst undef) K w
        |false=>False)
       |false=>ZqH P cl ops S fuel false (listed.setIfInBounds i true) (ρ.put o.dst undef) K w))
    |none=>False) (r::rs)))
section
variable {P:Program} {cl:FuncId->Bool} {ops:Array Oper} {Q:Exit->Act->World->Prop} {n:Nat} {pw:Nat->Bool} {a0:Env}
theorem Zxg {listed:Array Bool} {i j:Nat} {oj:Oper} (h:okT P ops listed i=true) (hj:ops[j]? =some oj) (hun:listed.getD j true=false) (hno:Zhn ops listed i 8 j=false):ZhR P ops j=true\/(Zag P oj.op||Zab P oj.op)=true:=by
 unfold okT at h;have h1:=List.all_eq_true.1 h j (List.mem_range.2 (Array.getElem?_eq_some_iff.1 hj).1);rw [hun,hj,hno] at h1;simpa using h1
theorem Zqt (hcl:∀ g,cl g=true->ZS P g=true) (hsel:Region.noSelect ops=true) {K:Env->World->Prop} {S:World->Prop}
  (hQ:∀ a w,ZcC n pw a0 a->K a.env w->Q .normal a w) (hQp:∀ c a w,¬ Q (.panic c) a w) (hops:∀ (i:Nat) (o:Oper),ops[i]? =some o->ZiA P o.op=true/\ZbM n pw o=true):
  ∀ (fuel:Nat) (hs:Bool) (listed:Array Bool) (a:Act) (w:World),ZcC n pw a0 a->(hs=true->S w)->ZqH P cl ops S fuel hs listed a.env K w->
   wpT P .any ops Q S (ZhR P ops) (looks P ops) fuel listed a w:=by
 intro fuel
 induction fuel with
 |zero=>
  intro hs listed a w hk hS h;unfold ZqH at h;split at h
  ·rename_i hr;exact ⟨hr,hQ a w hk h⟩
  ·exact h.elim
 |succ fuel ih=>
  intro hs listed a w hk hS h;unfold ZqH at h;split at h
  ·rename_i hr
   exact ⟨λ _=>hQ a w hk h,λ i hi=>by rw [hr] at hi;cases hi⟩
  ·rename_i r rs hr
   split at h
   ·rename_i i hp
    obtain ⟨hmem,o,ho,hpr,hfree⟩:=ZcA hp;rw [ho] at h;simp only at h;obtain ⟨hok,hd⟩:=hops i o ho;have hni:ZhR P ops i=false:=by
     unfold ZhR;rw [ho];simp only;rcases Bool.or_eq_true _ _|>.mp hpr with hp|hp<;>simp [hp]
    have hrdy:i∈Region.ready .any ops listed:=by rw [hr];exact hmem
    have hfs:=Region.free_spec (md:=.any) ho hfree;have hself:=Region.noSelect_spec hsel;rcases Zac h with ⟨hw,h⟩|⟨hw,h⟩
    ·cases hex:Zek P ops listed i with
     |true=>
      rw [hex] at h;have hx:Zek P ops listed i=true:=hex;rcases ZbU hok hpr h with ⟨hp,v,hv,hK⟩|⟨hp,hhs,v,hv,hK⟩
      ·refine Zas (T:=λ _=>True) ho hself (λ c a w hc=>absurd hc (hQp c _ w)) hni fuel listed a w (λ j oj hj hne hun hno=>⟨hfs j oj hj hne hun hno,λ _ _ _ _ _=>trivial⟩) hrdy (.inl ⟨hw,?_⟩) trivial
        (ih hs (listed.setIfInBounds i true) (a.put o.dst v) w (hk.put hd v) hS ?_)
       ·rw [<-Zaq];exact hv
       ·rw [hk.envput hd];exact hK
      ·have hun0:listed.getD i true=false:=(mem_ready.1 hrdy).1
       refine Zeu (T:=λ w'=>w'=w) (D:=Zhn ops listed i 8) ho hself (λ c a w hc=>absurd hc (hQp c _ w)) hni (λ j oj hd hji hj=>Zgg 8 hd hji hj) fuel listed a w (λ j oj hj hne hun hdj hno=>⟨hfs j oj hj hne hun hno,λ w1 w2 hw1 hneed hlook=>?_⟩) (λ j hd=>ZkO hun0 8 j hd) hrdy (.inl ⟨hw,?_⟩) rfl
        (ih hs (listed.setIfInBounds i true) (a.put o.dst v) w (hk.put hd v) hS ?_)
       ·have:=hlook (by unfold looks;rw [hj];exact ZgF hx hj hun hdj)
        rw [this];exact hw1
       ·rw [<-Zaq];exact hv
       ·rw [hk.envput hd];exact hK
     |false=>
     rw [hex] at h;simp only at h;cases hokt:(Zag P o.op||okT P ops listed i) with
     |false=>rw [hokt] at h;exact h.elim
     |true=>
     rw [hokt] at h;simp only at h;rcases ZbU hok hpr h with ⟨hp,v,hv,hK⟩|⟨hp,hhs,v,hv,hK⟩
     ·refine Zas (T:=λ _=>True) ho hself (λ c a w hc=>absurd hc (hQp c _ w)) hni fuel listed a w (λ j oj hj hne hun hno=>⟨hfs j oj hj hne hun hno,λ _ _ _ _ _=>trivial⟩) hrdy (.inl ⟨hw,?_⟩) trivial
       (ih hs (listed.setIfInBounds i true) (a.put o.dst v) w (hk.put hd v) hS ?_)
      ·rw [<-Zaq];exact hv
      ·rw [hk.envput hd];exact hK
     ·have hri:Zab P o.op=true:=by rw [hp] at hpr;simpa using hpr
      have hun0:listed.getD i true=false:=(mem_ready.1 hrdy).1;have hot:okT P ops listed i=true:=by rw [hp] at hokt;simpa using hokt
      refine Zeu (T:=S) (D:=Zhn ops listed i 8) ho hself (λ c a w hc=>absurd hc (hQp c _ w)) hni (λ j oj hd hji hj=>Zgg 8 hd hji hj) fuel listed a w (λ j oj hj hne hun hdj hno=>⟨hfs j oj hj hne hun hno,λ w w' hw hneed hlook=>?_⟩) (λ j hd=>ZkO hun0 8 j hd) hrdy (.inl ⟨hw,?_⟩) (hS hhs)
       (ih hs (listed.setIfInBounds i true) (a.put o.dst v) w (hk.put hd v) hS ?_)
      ·rcases Zxg hot hj hun hdj with h1|h1
       ·exact hneed h1
       ·have:=hlook (by unfold looks;rw [hj];exact h1);rw [this];exact hw
      ·rw [<-Zaq];exact hv
      ·rw [hk.envput hd];exact hK
    ·refine Zas (T:=λ _=>True) ho hself (λ c a w hc=>absurd hc (hQp c _ w)) hni fuel listed a w (λ j oj hj hne hun hno=>⟨hfs j oj hj hne hun hno,λ _ _ _ _ _=>trivial⟩) hrdy (.inr ⟨hw,rfl⟩) trivial
       (ih hs (listed.setIfInBounds i true) (a.put o.dst undef) w (hk.put hd _) hS ?_)
     rw [hk.envput hd];exact h
   ·refine ⟨λ h0=>absurd (hr ▸ h0) (by simp),λ i hi=>?_⟩
    rw [hr] at hi;have h:=Zgi h i hi;split at h
    case h_2=>exact h.elim
    rename_i o ho;obtain ⟨hok,hd⟩:=hops i o ho;refine ZjD ho ?_;rcases Zac h with ⟨hw,h⟩|⟨hw,h⟩
    ·refine .inl ⟨hw,?_⟩
     split at h
     ·exact h.elim
     ·rename_i hl
      have hlk:looks P ops i=false:=by unfold looks;rw [ho];exact hl
      split at h
      ·rename_i hnd
       have:=ZcO hcl (a:=a) (Q:=Q) hok h;rw [Zaq] at this;refine Zaj.upon_mono ?_ this;rintro a' w' ⟨v,rfl,hSw,hK⟩;refine ⟨⟨λ _=>hSw,λ hh=>(by rw [hlk] at hh;cases hh)⟩,ih hs _ _ w' (hk.put hd v) (λ _=>hSw) ?_⟩;rw [hk.envput hd];exact hK
      ·rename_i hnd
       have:=ZcO hcl (a:=a) (Q:=Q) hok h;rw [Zaq] at this;refine Zaj.upon_mono ?_ this;rintro a' w' ⟨v,rfl,hK⟩;refine ⟨⟨λ hh=>(by rw [hnd] at hh;cases hh),λ hh=>(by rw [hlk] at hh;cases hh)⟩,ih false _ _ w' (hk.put hd v) (λ hh=>by cases hh) ?_⟩;rw [hk.envput hd];exact hK
    ·refine .inr ⟨hw,?_⟩
     split at h
     ·exact h.elim
     ·rename_i hl
      have hlk:looks P ops i=false:=by unfold looks;rw [ho];exact hl
      split at h
      ·split at h
       ·have hSw:=hS rfl
        refine ⟨⟨λ _=>hSw,λ _=>rfl⟩,ih true _ _ w (hk.put hd _) (λ _=>hSw) ?_⟩;rw [hk.envput hd];exact h
       ·exact h.elim
      ·rename_i hnd
       refine ⟨⟨λ hh=>(by rw [hnd] at hh;cases hh),λ _=>rfl⟩,ih false _ _ w (hk.put hd _) (λ hh=>by cases hh) ?_⟩;rw [hk.envput hd];exact h
end
end
section
def Cur (R:Type):List Ty->Type
 |[]=>R
 |t::ts=>t.T->Cur R ts
def app {R:Type}:(ts:List Ty)->Cur R ts->List Value->(R->Prop)->Prop
 |[],f,_,φ=>φ f
 |t::ts,f,v::vs,φ=>t.un v λ x=>app ts (f x) vs φ
 |_::_,_,[],_=>False
def Ty.all:(t:Ty)->(Value->Prop)->Prop
 | .int k,φ=>∀ n:Int,φ (.int k n)
 | .bool,φ=>∀ b:Bool,φ (.bool b)
 | .str,φ=>∀ s:ByteArray,φ (.string s)
 | .sl,φ=>∀ s:Sl,φ (.slice s.a s.len s.cap)
 | .ptr,φ=>∀ p:Option Addr,φ (.pointer p)
 | .map,φ=>∀ m:Option Nat,φ (.map m)
 | .flt,φ=>∀ n:Nat,φ (.float .f64 n)
 | .any,φ=>∀ v:Value,φ v
theorem Ty.all_enc {t:Ty} {φ:Value->Prop} (h:t.all φ) (x:t.T):φ (t.enc x):=by
 cases t<;>exact h x
def ZAb:List Ty->(List Value->Prop)->Prop
 |[],φ=>φ []
 |t::ts,φ=>t.all λ v=>ZAb ts λ vs=>φ (v::vs)
theorem Zir {R:Type}:∀ {ts:List Ty} {f:Cur R ts} {vs:List Value} {φ:R->Prop} {ψ:List Value->Prop},vs.length=ts.length->app ts f vs φ->ZAb ts ψ->ψ vs
 |[],_,vs,_,_,hl,_,h=>by
  cases vs with
  |nil=>exact h
  |cons v vs=>simp at hl
 |t::ts,f,[],_,_,hl,_,_=>by simp at hl
 |t::ts,f,v::vs,φ,ψ,hl,ha,h=>by
  obtain ⟨x,rfl,ha'⟩:=Ty.un_enc (show t.un v λ x=>app ts (f x) vs φ from ha)
  have hx:ZAb ts λ vs=>ψ (t.enc x::vs):=Ty.all_enc (t:=t) (φ:=λ v=>ZAb ts λ vs=>ψ (v::vs)) h x;exact Zir (ψ:=λ vs=>ψ (t.enc x::vs)) (by simpa using hl) ha' hx
def ZqD {R:Type} (d:R):(ts:List Ty)->Cur R ts->List Value->R
 |[],f,_=>f
 |t::ts,f,v::vs=>match t,f,v with
  | .int k,f,.int k' n=>if k=k' then ZqD d ts (f n) vs else d
  | .bool,f,.bool b=>ZqD d ts (f b) vs
  | .str,f,.string s=>ZqD d ts (f s) vs
  | .sl,f,.slice a n c=>ZqD d ts (f ⟨a,n,c⟩) vs
  | .ptr,f,.pointer p=>ZqD d ts (f p) vs
  | .map,f,.map m=>ZqD d ts (f m) vs
  | .flt,f,.float .f64 n=>ZqD d ts (f n) vs
  | .any,f,v=>ZqD d ts (f v) vs
  |_,_,_=>d
 |_::_,_,[]=>d
theorem Ziq {R:Type} {d:R}:∀ {ts:List Ty} {f:Cur R ts} {vs:List Value} {φ:R->Prop},app ts f vs φ->φ (ZqD d ts f vs)
 |[],_,_,_,h=>h
 |t::ts,f,[],_,h=>h.elim
 |t::ts,f,v::vs,φ,h=>by
  obtain ⟨x,rfl,ha⟩:=Ty.un_enc (show t.un v λ x=>app ts (f x) vs φ from h)
  cases t<;>simp only [ZqD,Ty.enc,if_true]<;>exact Ziq ha
structure ZwC where
 nrm:Env->World->Prop
 ex:Nat->Env->World->Prop
 ret:Env->World->Prop
inductive Sk where
 |leaf
 |seq (a b:Sk)
 |cond (a b:Sk)
 |block (a:Sk)
 |loop (ms:List Nat) (ts:List Ty) (W:List Nat) (a:Sk)
 |cut (ms:List Nat) (ts:List Ty) (W:List Nat) (a b:Sk)
def Sk.l:Sk->Sk
 | .seq a _| .cond a _| .block a| .loop _ _ _ a| .cut _ _ _ a _=>a
 |_=>.leaf
def Sk.r:Sk->Sk
 | .seq _ b| .cond _ b| .cut _ _ _ _ b=>b
 |_=>.leaf
def ZlY (i:Nat):List Nat->Bool
 |[]=>false
 |j::js=>match Nat.beq i j with|true=>true|false=>ZlY i js
def look:List Nat->List Value->Nat->Option Value
 |m::ms,v::vs,i=>match Nat.beq i m with|true=>some v|false=>look ms vs i
 |_,_,_=>none
def mix (ρ:Env) (W ms:List Nat) (vs:List Value) (z:Env):Env:=λ i=>
 match look ms vs i with
 |some v=>v
 |none=>match ZlY i W with
  |true=>z i
  |false=>ρ i
def vals (ms:List Nat) (ρ:Env):List Value:=ms.map ρ
def ZuW (ts:List Ty) (ms W:List Nat) (ρ:Env) (body:Env->(Env->World->Prop)->World->Prop) (w:World):Prop:=
 ∃ (I:Cur (World->Prop) ts) (μ:Cur (World->Nat) ts),app ts I (vals ms ρ) (λ p=>p w)/\
  ∀ z:Env,ZAb ts λ vs=>∀ w,app ts I vs (λ p=>p w)->
   body (mix ρ W ms vs z) (λ ρ' w'=>app ts I (vals ms ρ') (λ p=>p w')/\app ts μ (vals ms ρ') (λ m'=>app ts μ vs (λ m=>m' w'<m w))) w
def ZB0 (ts:List Ty) (ms W:List Nat) (ρ:Env) (first:(Env->World->Prop)->Prop) (rest:Env->World->Prop):Prop:=
 ∃ J:Cur (World->Prop) ts,first (λ ρ' w'=>app ts J (vals ms ρ') (λ p=>p w'))/\
  ∀ z:Env,ZAb ts λ vs=>∀ w,app ts J vs (λ p=>p w)->rest (mix ρ W ms vs z) w
def den (P:Program) (cl:FuncId->Bool):Code->Sk->Env->ZwC->World->Prop
 | .skip,_,ρ,K,w=>K.nrm ρ w
 | .label _,_,ρ,K,w=>K.nrm ρ w
 | .region _ ops d,sk,ρ,K,w=>(match d with
  |false=>Zt8 P cl ops ops.toList ρ K.nrm w
  |true=>(match sk with
   | .block _=>Drw w λ S w'=>Zqw P cl ops S true ops.size true (Array.replicate ops.size false) ρ K.nrm w'
   | .seq _ _=>Drw w λ S w'=>ZnQ P cl ops S ops.size true (Array.replicate ops.size false) ρ K.nrm w'
   | .cond _ _=>Drw w λ S w'=>ZqH P cl ops S ops.size true (Array.replicate ops.size false) ρ K.nrm w'
   |_=>Drw w λ S w'=>Zqw P cl ops S false ops.size true (Array.replicate ops.size false) ρ K.nrm w'))
 | .seq a b,sk,ρ,K,w=>(match sk with
  | .cut ms ts W _ _=>ZB0 ts ms W ρ (λ k=>den P cl a sk.l ρ { K with nrm:=k } w) (λ ρ' w'=>den P cl b sk.r ρ' K w')
  |_=>den P cl a sk.l ρ { K with nrm:=λ ρ' w'=>den P cl b sk.r ρ' K w' } w)
 | .cond c a b,sk,ρ,K,w=>(match ρ.ev c with
  | .bool t=>Br t (den P cl a sk.l ρ K w) (den P cl b sk.r ρ K w)
  |_=>False)
 | .block id a,sk,ρ,K,w=>den P cl a sk.l ρ { K with ex:=λ i=>match Nat.beq i id with|true=>K.nrm|false=>K.ex i } w
 | .loop a,sk,ρ,K,w=>(match sk with
  | .loop ms ts W _=>ZuW ts ms W ρ (λ ρ' k w'=>den P cl a sk.l ρ' { K with nrm:=k } w') w
  |_=>False)
 | .scope a,sk,ρ,K,w=>den P cl a sk.l ρ K w
 | .exit id,_,ρ,K,w=>K.ex id ρ w
 | .ret,_,ρ,K,w=>K.ret ρ w
 |_,_,_,_,_=>False
def Zgl (pw:Nat->Bool):Code->Bool
 | .region _ ops _=>ops.all λ o=>match o.dst with|some d=>pw d|none=>true
 | .seq a b| .cond _ a b=>Zgl pw a && Zgl pw b
 | .block _ a| .loop a| .scope a=>Zgl pw a
 | .rangeFunc _ _ _ _=>false
 |_=>true
def Zen (P:Program) (n:Nat):Code->Bool
 | .region _ ops _=>Region.noSelect ops && ops.all λ o=>ZiA P o.op && (match o.dst with|some d=>Nat.blt d n|none=>true)
 | .seq a b| .cond _ a b=>Zen P n a && Zen P n b
 | .block _ a| .loop a| .scope a=>Zen P n a
 | .rangeFunc _ _ _ _=>false
 |_=>true
def ZkU:Code->Sk->Bool
 | .seq a b,sk=>(match sk with
  | .cut ms ts W _ _=>Zgl (λ i=>ZlY i W) a && Nat.beq ms.length ts.length
  |_=>true) && ZkU a sk.l && ZkU b sk.r
 | .cond _ a b,sk=>ZkU a sk.l && ZkU b sk.r
 | .block _ a,sk| .scope a,sk=>ZkU a sk.l
 | .loop a,sk=>(match sk with
  | .loop ms ts W _=>Zgl (λ i=>ZlY i W) a && Nat.beq ms.length ts.length
  |_=>true) && ZkU a sk.l
 |_,_=>true
def PK (n:Nat) (pw:Nat->Bool) (a0:Env) (K:ZwC):Exit->Act->World->Prop
 | .normal,a,w=>ZcC n pw a0 a/\K.nrm a.env w
 | .exit i,a,w=>ZcC n pw a0 a/\K.ex i a.env w
 | .ret,a,w=>ZcC n pw a0 a/\K.ret a.env w
 |_,_,_=>False
theorem Zso {ms:List Nat} {ρ:Env} {i:Nat} {v:Value} (h:look ms (vals ms ρ) i=some v):v=ρ i:=by
 induction ms with
 |nil=>cases h
 |cons m ms ih=>
  simp only [vals,List.map_cons,look] at h;split at h
  ·rename_i hb
   cases h;rw [Nat.eq_of_beq_eq_true hb]
  ·exact ih h
theorem Zkd {ρ e:Env} {W ms:List Nat} (h:∀ i,ZlY i W=false->e i=ρ i):mix ρ W ms (vals ms e) e=e:=by
 funext i
 unfold mix;split
 ·rename_i v hv;exact Zso hv
 ·split
  ·rfl
  ·rename_i hm;exact (h i hm).symm
theorem Zg9 (ms:List Nat) (ρ:Env):(vals ms ρ).length=ms.length:=by simp [vals]
theorem ZbB {p q:Nat->Bool}:∀ {c:Code},Zgl p c=true->Zgl q c=true->Zgl (λ i=>p i && q i) c=true
 | .region _ ops _,hp,hq=>by
  simp only [Zgl,Array.all_eq_true_iff_forall_mem] at *;intro o ho;have:=hp o ho;have:=hq o ho;cases hd:o.dst<;>simp_all
 | .seq a b,hp,hq=>by
  simp only [Zgl,Bool.and_eq_true] at *;exact ⟨ZbB hp.1 hq.1,ZbB hp.2 hq.2⟩
 | .cond _ a b,hp,hq=>by
  simp only [Zgl,Bool.and_eq_true] at *;exact ⟨ZbB hp.1 hq.1,ZbB hp.2 hq.2⟩
 | .block _ a,hp,hq=>ZbB (c:=a) hp hq
 | .loop a,hp,hq=>ZbB (c:=a) hp hq
 | .scope a,hp,hq=>ZbB (c:=a) hp hq
 | .rangeFunc _ _ _ _,hp,_=>by cases hp
 | .skip,_,_=>rfl
 | .exit _,_,_=>rfl
 | .label _,_,_=>rfl
 | .goto _,_,_=>rfl
 | .ret,_,_=>rfl
 | .refuse _,_,_=>rfl
theorem ZcC.refl {n:Nat} {pw:Nat->Bool} {a:Act} (h:a.tmps.size=n) (hd:a.defers=[]):ZcC n pw a.env a:=⟨h,hd,λ _ _=>rfl⟩
theorem ZcC.trans {n:Nat} {pw:Nat->Bool} {q:Nat->Bool} {a0:Env} {a b:Act} (h:ZcC n pw a0 a) (h':ZcC n (λ i=>pw i && q i) a.env b):ZcC n pw a0 b:=
 ⟨h'.size,h'.defers,λ i hi=>(h'.same i (by simp [hi])).trans (h.same i hi)⟩
variable {P:Program} {cl:FuncId->Bool} {n:Nat}
theorem Zly (hcl:∀ g,cl g=true->ZS P g=true) (hmix:P.follows .mixedOrders=true) {pw:Nat->Bool} {a0:Env} {id:Nat} {ops:Array Oper} {d:Bool}
  (hc:Zen P n (.region id ops d)=true) (hw:Zgl pw (.region id ops d)=true) {sk:Sk} {K:ZwC} {a:Act} {w:World} (hk:ZcC n pw a0 a)
  (h:den P cl (.region id ops d) sk a.env K w):(Code.region id ops d).wp P (PK n pw a0 K) a w:=by
 simp only [Zen,Bool.and_eq_true,Array.all_eq_true_iff_forall_mem] at hc;simp only [Zgl,Array.all_eq_true_iff_forall_mem] at hw;have hops:∀ o∈ops,ZiA P o.op=true/\ZbM n pw o=true:=λ o ho=>by
  have h1:=hc.2 o ho;have h2:=hw o ho;refine ⟨h1.1,?_⟩;unfold ZbM;cases hd:o.dst with
  |none=>rfl
  |some x=>rw [hd] at h1 h2;simp only [Bool.and_eq_true];exact ⟨h1.2,h2⟩
 unfold den at h;cases d with
 |false=>
  exact wp_region_list (Zaj (Q:=PK n pw a0 K) hcl (λ a w hk h=>⟨hk,h⟩) ops.toList (λ o ho=>hops o (by simpa using ho)) a w hk h)
 |true=>
  have key:∀ ex:Bool,(Drw w λ S w'=>Zqw P cl ops S ex ops.size true (Array.replicate ops.size false) a.env K.nrm w')->(Code.region id ops true).wp P (PK n pw a0 K) a w:=λ ex h=>by
   obtain ⟨S0,S,hS,h⟩:=h;obtain ⟨hS,h⟩:=h _ hS;exact wp_region_any hmix (Zhr _ _ _ _ (Zqv (Q:=PK n pw a0 K) hcl hc.1 (λ a w hk h=>⟨hk,h⟩) (λ _ _ _ h=>h) (λ i o ho=>hops o (Array.mem_of_getElem? ho)) _ _ _ _ _ hk (λ _=>hS) h))
  have keyG:(Drw w λ S w'=>ZnQ P cl ops S ops.size true (Array.replicate ops.size false) a.env K.nrm w')->(Code.region id ops true).wp P (PK n pw a0 K) a w:=λ h=>by
   obtain ⟨S0,S,hS,h⟩:=h;obtain ⟨hS,h⟩:=h _ hS;exact wp_region_any hmix (Zhr _ _ _ _ (Zqu (Q:=PK n pw a0 K) hcl hc.1 (λ a w hk h=>⟨hk,h⟩) (λ _ _ _ h=>h) (λ i o ho=>hops o (Array.mem_of_getElem? ho)) _ _ _ _ _ hk (λ _=>hS) h))
  have keyT:(Drw w λ S w'=>ZqH P cl ops S ops.size true (Array.replicate ops.size false) a.env K.nrm w')->(Code.region id ops true).wp P (PK n pw a0 K) a w:=λ h=>by
   obtain ⟨S0,S,hS,h⟩:=h;obtain ⟨hS,h⟩:=h _ hS;exact wp_region_any hmix (Zhr _ _ _ _ (Zqt (Q:=PK n pw a0 K) hcl hc.1 (λ a w hk h=>⟨hk,h⟩) (λ _ _ _ h=>h) (λ i o ho=>hops o (Array.mem_of_getElem? ho)) _ _ _ _ _ hk (λ _=>hS) h))
  cases sk<;>first|exact key _ h|exact keyG h|exact keyT h
theorem Za6 (hcl:∀ g,cl g=true->ZS P g=true) (hmix:P.follows .mixedOrders=true):∀ (c:Code) (sk:Sk) (pw:Nat->Bool) (a0:Env),
  Zen P n c=true->Zgl pw c=true->ZkU c sk=true->∀ (a:Act) (K:ZwC) (w:World),ZcC n pw a0 a->den P cl c sk a.env K w->c.wp P (PK n pw a0 K) a w
 | .skip,sk,pw,a0,_,_,_,a,K,w,hk,h=>wp_skip ⟨hk,h⟩
 | .label _,sk,pw,a0,_,_,_,a,K,w,hk,h=>wp_label ⟨hk,h⟩
 | .exit _,sk,pw,a0,_,_,_,a,K,w,hk,h=>wp_exit ⟨hk,h⟩
 | .ret,sk,pw,a0,_,_,_,a,K,w,hk,h=>wp_ret ⟨hk,h⟩
 | .region id ops d,sk,pw,a0,hc,hw,_,a,K,w,hk,h=>Zly hcl hmix hc hw hk h
 | .goto _,sk,pw,a0,_,_,_,a,K,w,hk,h=>h.elim
 | .refuse _,sk,pw,a0,_,_,_,a,K,w,hk,h=>h.elim
 | .rangeFunc _ _ _ _,sk,pw,a0,_,_,_,a,K,w,hk,h=>h.elim
 | .scope c,sk,pw,a0,hc,hw,hs,a,K,w,hk,h=>by
  refine wp_scope_straight ?_;refine Code.wp_mono ?_ (Za6 hcl hmix c sk.l pw a0 hc hw hs a K w hk h);intro e a w hq;cases e<;>first|exact hq|exact hq.elim
 | .block id c,sk,pw,a0,hc,hw,hs,a,K,w,hk,h=>by
  refine wp_block ?_;refine Code.wp_mono ?_ (Za6 hcl hmix c sk.l pw a0 hc hw hs a _ w hk h);intro e a w hq;cases e with
  |exit i=>
   obtain ⟨hk,hq⟩:=hq;show if i=id then _ else _
   by_cases hi:i=id
   ·subst hi
    rw [if_pos rfl];have:Nat.beq i i=true:=by simp
    simp only [this] at hq;exact ⟨hk,hq⟩
   ·rw [if_neg hi]
    have:Nat.beq i id=false:=by
     cases hb:Nat.beq i id with
     |false=>rfl
     |true=>exact absurd (Nat.eq_of_beq_eq_true hb) hi
    simp only [this] at hq;exact ⟨hk,hq⟩
  |normal=>exact hq
  |ret=>exact hq
  |_=>exact hq.elim
 | .cond c x y,sk,pw,a0,hc,hw,hs,a,K,w,hk,h=>by
  simp only [Zen,Zgl,ZkU,Bool.and_eq_true] at hc hw hs;unfold den at h;split at h
  ·rename_i t ht
   rw [Zaq] at ht;refine wp_cond_split ht (λ hb=>?_) (λ hb=>?_)
   ·subst hb;exact Za6 hcl hmix x sk.l pw a0 hc.1 hw.1 hs.1 a K w hk h
   ·subst hb;exact Za6 hcl hmix y sk.r pw a0 hc.2 hw.2 hs.2 a K w hk h
  ·exact h.elim
 | .seq x y,sk,pw,a0,hc,hw,hs,a,K,w,hk,h=>by
  simp only [Zen,Zgl,ZkU,Bool.and_eq_true] at hc hw hs;refine wp_seq ?_;have plain:den P cl x sk.l a.env { K with nrm:=λ ρ' w'=>den P cl y sk.r ρ' K w' } w->x.wp P (Exit.then (y.wp P (PK n pw a0 K)) (PK n pw a0 K)) a w:=λ h=>by
   refine Code.wp_mono ?_ (Za6 hcl hmix x sk.l pw a0 hc.1 hw.1 hs.1.2 a _ w hk h);intro e a w hq;cases e with
   |normal=>exact Za6 hcl hmix y sk.r pw a0 hc.2 hw.2 hs.2 a K w hq.1 hq.2
   |_=>exact hq
  cases sk with
  |cut ms ts W l r=>
   simp only [Bool.and_eq_true] at hs;obtain ⟨J,h1,h2⟩:=(show ZB0 ts ms W a.env (λ k=>den P cl x l a.env { K with nrm:=k } w) (λ ρ' w'=>den P cl y r ρ' K w') from h)
   have:=Za6 hcl hmix x l (λ i=>pw i && ZlY i W) a.env hc.1 (ZbB hw.1 hs.1.1.1) hs.1.2 a _ w (ZcC.refl hk.size hk.defers) h1;refine Code.wp_mono ?_ this;intro e b w' hq;cases e with
   |normal=>
    obtain ⟨hkb,hq⟩:=hq;have hall:=h2 b.env;have hb:=Zir (by rw [Zg9];exact Nat.eq_of_beq_eq_true hs.1.1.2) hq hall w' hq;rw [Zkd (λ i hi=>hkb.same i (by simp [hi]))] at hb;exact Za6 hcl hmix y r pw a0 hc.2 hw.2 hs.2 b K w' (hk.trans hkb) hb
   |exit i=>exact ⟨hk.trans hq.1,hq.2⟩
   |ret=>exact ⟨hk.trans hq.1,hq.2⟩
   |_=>exact hq.elim
  |leaf=>exact plain h
  |seq l r=>exact plain h
  |cond l r=>exact plain h
  |block l=>exact plain h
  |loop ms ts W l=>exact plain h
 | .loop c,sk,pw,a0,hc,hw,hs,a,K,w,hk,h=>by
  cases sk with
  |loop ms ts W l=>
   simp only [ZkU,Bool.and_eq_true] at hs;have hc:Zen P n c=true:=hc;have hw:Zgl pw c=true:=hw;obtain ⟨I,μ,h0,hstep⟩:=(show ZuW ts ms W a.env (λ ρ' k w'=>den P cl c l ρ' { K with nrm:=k } w') w from h)
   have hlen:∀ e:Env,(vals ms e).length=ts.length:=λ e=>by rw [Zg9];exact Nat.eq_of_beq_eq_true hs.1.2
   refine wp_loop (λ b v=>ZcC n pw a0 b/\(∀ i,ZlY i W=false->b.env i=a.env i)/\app ts I (vals ms b.env) (λ p=>p v))
    (λ b v=>ZqD (λ _=>0) ts μ (vals ms b.env) v) ⟨hk,λ _ _=>rfl,h0⟩ ?_
   rintro b v ⟨hkb,hsame,hI⟩;have hb:=Zir (hlen b.env) hI (hstep b.env) v hI;rw [Zkd hsame] at hb;have:=Za6 hcl hmix c l (λ i=>pw i && ZlY i W) b.env hc (ZbB hw hs.1.1) hs.2 b _ v (ZcC.refl hkb.size hkb.defers) hb;refine Code.wp_mono ?_ this;intro e b' v' hq;cases e with
   |normal=>
    obtain ⟨hkb',hI',hμ⟩:=hq;exact ⟨⟨hkb.trans hkb',λ i hi=>(hkb'.same i (by simp [hi])).trans (hsame i hi),hI'⟩,by
     have h1:=Ziq (d:=λ _=>0) hμ;exact Ziq (d:=λ _=>0) h1⟩
   |exit i=>exact ⟨hkb.trans hq.1,hq.2⟩
   |ret=>exact ⟨hkb.trans hq.1,hq.2⟩
   |_=>exact hq.elim
  |_=>exact False.elim h
def Zfa:List Value->Env
 |[],_=>undef
 |v::vs,i=>match i with
  |0=>v
  |i + 1=>Zfa vs i
def ZDb (K:nK) (vs:List Value) (w:World):Prop:=
 match vs with
 |[v]=>K v w
 |vs=>K (.tuple vs.toArray) w
def Zry (P:Program) (ρ:Env) (K:nK):List ResultVar->List Value->World->Prop
 |[],acc,w=>ZDb K acc.reverse w
 | .tmp t::rs,acc,w=>Zry P ρ K rs (ρ t::acc) w
 | .cell a t::rs,acc,w=>ZiC P (λ w'=>w'=w) t (ρ a) λ v=>Zry P ρ K rs (v::acc) w
def ZC9 (P:Program) (n:Nat) (fn:Func) (sk:Sk):Bool:=
 Nat.beq n fn.ntmps && (match fn.body with|some c=>Zen P n c && Zgl (λ _=>true) c && ZkU c sk|none=>false) &&
  fn.results.all λ r=>match r with| .tmp _=>true| .cell _ t=>ZsA P t
def fnF (P:Program) (cl:FuncId->Bool) (fn:Func) (sk:Sk) (args:List Value) (K:nK) (w:World):Prop:=
 match fn.body with
 |some c=>den P cl c sk (Zfa args) { nrm:=λ ρ w=>Zry P ρ K fn.results.toList [] w,ex:=λ _ _ _=>False,ret:=λ ρ w=>Zry P ρ K fn.results.toList [] w } w
 |none=>False
theorem ZgK:∀ (vs:List Value) (i:Nat),Zfa vs i=vs.getD i undef
 |[],i=>by simp [Zfa]
 |v::vs,0=>rfl
 |v::vs,i + 1=>by simpa [Zfa] using ZgK vs i
def ZhH (tmps:Array Value):ResultVar->Sem Value
 | .tmp t=>pure (tmps.getD t undef)
 | .cell a t=>do loadVar t (<-asAddr (tmps.getD a undef))
theorem Zi0 (fn:Func) (tmps:Array Value):results fn tmps=(do
  let vs<-fn.results.mapM (ZhH tmps)
  pure (if h:vs.size=1 then vs[0] else .tuple vs)):=by
 unfold results
 congr 1
theorem Zey {a:Act} {K:Value->World->Prop} {w:World}:∀ (rs:List ResultVar) (acc:List Value),(∀ r∈rs,(match r with| .tmp _=>true| .cell _ t=>ZsA P t)=true)->
  Zry P a.env K rs acc w->∃ vs:List Value,(rs.mapM (ZhH a.tmps)).run P w=.ok vs w/\ZDb K (acc.reverse++vs) w
 |[],acc,_,h=>⟨[],rfl,by rw [List.append_nil];exact h⟩
 | .tmp t::rs,acc,hok,h=>by
  obtain ⟨vs,hr,hf⟩:=Zey rs (a.env t::acc) (λ r hr=>hok r (List.mem_cons_of_mem _ hr)) h;refine ⟨a.env t::vs,?_,by simpa using hf⟩;simp only [List.mapM_cons,Sem.run_bind,ZhH,Sem.run_pure,Result.andThen_ok,hr];rfl
 | .cell p t::rs,acc,hok,h=>by
  obtain ⟨v, hv, h⟩ := ZhW (ρ := fun _ => a.env p) (dst := none) (ty := 0) (pos := "") (after := #[]) (guard := none) (T := t) (x := .tmp 0) (hok _ (List.mem_cons_self ..)) h
  obtain ⟨vs,hr,hf⟩:=Zey rs (v::acc) (λ r hr=>hok r (List.mem_cons_of_mem _ hr)) h;refine ⟨v::vs,?_,by simpa using hf⟩;have hv:=hv w rfl;simp only [execOp,Sem.run_bind,Instr.loadAt] at hv;have h2:(ZhH a.tmps (.cell p t)).run P w=.ok v w:=by
   have ep:a.env p=a.tmps.getD p undef:=rfl;rw [ep] at hv;simp only [ZhH];generalize a.tmps.getD p undef=x at *;cases x<;>simp [Instr.sureAddr] at hv
   case pointer q=>
    cases q<;>simp at hv
    case some ad=>
     simp only [asAddr,Sem.run_bind,Sem.run_pure,Result.andThen_ok];generalize (loadVar t ad).run P w=r at *;cases r<;>simp at hv
     case ok x w'=>rw [hv.1,hv.2]
  rw [List.mapM_cons,Sem.run_bind,h2,Result.andThen_ok,Sem.run_bind,hr];rfl
def Zm (P:Program) (f:FuncId) (args:Array Value) (w:World) (Q:nK):Prop:=Calls P f args w λ e w'=>∃ v,e=.returned v/\Q v w'
theorem Zm.use {f:FuncId} {args:Array Value} {w:World} {Q:Value->World->Prop} {R:Ending->World->Prop} (h:Zm P f args w Q) (k:∀ v w',Q v w'->R (.returned v) w'):Calls P f args w R:=
 Calls.mono h λ _ w' ⟨v,he,hq⟩=>by rw [he];exact k v w' hq
theorem Zm.u {P : Program} {f : FuncId} {a : Array Value} {w : World} {V : Value} {S : World -> Prop} {Q : Ending -> World -> Prop} (h : Zm P f a w λ v w' => v = V /\ S w') (k : ∀ w', S w' -> Q (.returned V) w') : Calls P f a w Q := h.use λ _ w' ⟨e, hs⟩ => by subst e; exact k w' hs
theorem Zm.u1 {α : Type} {P : Program} {f : FuncId} {a : Array Value} {w : World} {V : α -> Value} {S : α -> World -> Prop} {Q : Ending -> World -> Prop} (h : Zm P f a w λ v w' => ∃ t, v = V t /\ S t w') (k : ∀ t w', S t w' -> Q (.returned (V t)) w') : Calls P f a w Q := h.use λ _ w' ⟨t, e, hs⟩ => by subst e; exact k t w' hs
theorem Zm.mono {f:FuncId} {args:Array Value} {w:World} {Q Q':Value->World->Prop} (h:Zm P f args w Q) (k:∀ v w',Q v w'->Q' v w'):Zm P f args w Q':=
 Calls.mono h λ _ w' ⟨v,he,hq⟩=>⟨v,he,k v w' hq⟩
theorem ZvB {f:FuncId} {fn:Func} {sk:Sk} (hcl:∀ g,cl g=true->ZS P g=true) (hmix:P.follows .mixedOrders=true)
  (hf:P.funcs[f]? =some fn) (hok:ZC9 P fn.ntmps fn sk=true) {args:List Value} {K:Value->World->Prop} {w:World} (hargs:args.length<=fn.ntmps)
  (h:fnF P cl fn sk args K w):Zm P f args.toArray w K:=by
 unfold Zm;unfold fnF at h;unfold ZC9 at hok;simp only [Bool.and_eq_true] at hok;obtain ⟨⟨_,hbody⟩,hres⟩:=hok;split at h
 case h_2=>exact h.elim
 rename_i c hb;rw [hb] at hbody;simp only [Bool.and_eq_true] at hbody;refine calls_of_wp hf hb ?_;have henv:({ tmps:=args.toArray++Array.replicate (fn.ntmps - args.toArray.size) undef,defers:=[] }:Act).env=Zfa args:=by
  funext i
  rw [ZgK];simp only [Act.env];rcases Nat.lt_or_ge i args.length with hi|hi
  ·simp [Array.getElem?_append,hi]
  ·simp only [Array.getD_eq_getD_getElem?,Array.getElem?_append,List.size_toArray,if_neg (Nat.not_lt.2 hi),Array.getElem?_replicate,List.getD_eq_getElem?_getD,List.getElem?_eq_none hi]
   split<;>rfl
 rw [<-henv] at h;have hres':∀ r∈fn.results.toList,(match r with| .tmp _=>true| .cell _ t=>ZsA P t)=true:=λ r hr=>by
  rw [Array.all_eq_true_iff_forall_mem] at hres;exact hres r (by simpa using hr)
 have fin:∀ (a:Act) (w:World),a.defers=[]->Zry P a.env K fn.results.toList [] w->
   a.defers=[]/\∃ v,(results fn a.tmps).run P w=.ok v w/\(∃ v',Ending.returned v=.returned v'/\K v' w):=λ a w hd hr=>by
  obtain ⟨vs,hvs,hf⟩:=Zey fn.results.toList [] hres' hr;refine ⟨hd,?_⟩;have hm:(fn.results.mapM (ZhH a.tmps)).run P w=.ok vs.toArray w:=by
   rw [Array.mapM_eq_mapM_toList];simp only [Sem.run_map,hvs,Result.andThen_ok]
  refine ⟨_,by rw [Zi0,Sem.run_bind,hm];rfl,?_⟩;cases vs with
  |nil=>exact ⟨_,rfl,hf⟩
  |cons v vs=>cases vs with
   |nil=>exact ⟨_,rfl,hf⟩
   |cons u us=>exact ⟨_,rfl,hf⟩
 refine Code.wp_mono ?_ (Za6 (n:=fn.ntmps) hcl hmix c sk (λ _=>true) _ hbody.1.1 hbody.1.2 hbody.2 _ _ w (ZcC.refl (by simp;omega) rfl) h);intro e a w hq;cases e with
 |normal=>exact fin a w hq.1.defers hq.2
 |ret=>exact fin a w hq.1.defers hq.2
 |exit i=>exact hq.2.elim
 |_=>exact hq.elim
end
def ZBI (P:Program) (cl:FuncId->Bool) (X:List PanicEntry->World->Prop) (f:Value) (args:Array Value) (t:Rt) (K:nK) (w:World):Prop:=
 Zbq P cl f args.toList w λ e w'=>(t.ex λ v=>e=.returned v/\K v w')\/∃ ch,e=.panicked ch/\X ch w'
def thrF (X:List PanicEntry->World->Prop) (x:Value) (w:World):Prop:=
 match x with
 | .iface t v=>X [{ v:=.iface t v,recovered:=false }] w
 |_=>False
def Zvl (op:Op):Nat:=
 match op with
 | .call c=>(match c.callee with| .value _=>6|_=>0)
 | .panic _=>7
 |_=>0
def ZxS (P:Program) (cl:FuncId->Bool) (X:List PanicEntry->World->Prop) (ρ:Env) (o:Oper) (K:nK) (w:World):Prop:=
 match Zvl o.op with
 |6=>(match o.op with| .call c=>(match c.callee with| .value f=>ZBI P cl X (ρ.ev f) (c.args.map ρ.ev) (Zz6 P o.type) K w|_=>False)|_=>False)
 |7=>(match o.op with| .panic x=>thrF X (ρ.ev x) w|_=>False)
 |_=>ZBZ P cl ρ o K w
theorem ZnD {P:Program} {cl:FuncId->Bool} (hcl:∀ g,cl g=true->ZS P g=true) {X:List PanicEntry->World->Prop} {a:Act} {e:Env} {o:Oper} {K:Value->World->Prop} {w:World}
  {Q:Exit->Act->World->Prop} (hX:∀ ch w,X ch w->Q (.panic ch) a w) (h:ZxS P cl X e o K w):o.upon P a (ZqB a o.dst K) Q ((execOp e.ev o).run P w):=by
 unfold ZxS at h;split at h
 ·rename_i hk
  clear hk;obtain ⟨dst,op,ty,pos,after,guard⟩:=o;cases op<;>simp only at h<;>first|exact h.elim|skip
  case call c=>
   obtain ⟨callee,args,ats⟩:=c;cases callee<;>simp only at h<;>first|exact h.elim|skip
   case value f=>
    unfold ZBI Zbq at h;split at h
    case h_2=>exact h.elim
    rename_i fn first captured hf
    split at h
    case h_2=>exact h.elim
    rename_i g;have hargs:(first++args.map e.ev)++captured=(first.toList++((args.map e.ev).toList++captured.toList)).toArray:=by
     apply Array.ext';simp
    split at h
    case h_2=>
     obtain ⟨v',w',hr,hx⟩:=h;have:(execOp e.ev ⟨dst,.call ⟨.value f,args,ats⟩,ty,pos,after,guard⟩).run P w=.ok (.value v') w':=by
      simp only [execOp,resolve,hf,Deferred.ofValue];simp only [Sem.run_bind,Sem.run_pure,Result.andThen_ok,invoke,<-hargs] at hr ⊢;exact hr
     rw [this];rcases hx with hx|⟨ch,hc,_⟩
     ·obtain ⟨v,hv,hK⟩:=Rt.ex_some hx
      cases hv;exact ⟨_,rfl,hK⟩
     ·cases hc
    rename_i hg;have:(execOp e.ev ⟨dst,.call ⟨.value f,args,ats⟩,ty,pos,after,guard⟩).run P w=.ok (.enter g (first.toList++((args.map e.ev).toList++captured.toList)).toArray) w:=by
     simp only [execOp,resolve,hf,Deferred.ofValue];simp only [Sem.run_bind,Sem.run_pure,Result.andThen_ok,invoke,<-hargs];exact Zep (hcl g hg) _ w
    rw [this];refine Calls.mono h ?_;rintro en w' (hx|⟨ch,rfl,hx⟩)
    ·obtain ⟨v,rfl,hK⟩:=Rt.ex_some hx
     exact ⟨v,rfl,hK⟩
    ·exact hX ch w' hx
 ·rename_i hk
  clear hk;obtain ⟨dst,op,ty,pos,after,guard⟩:=o;cases op<;>simp only at h<;>first|exact h.elim|skip
  case panic x=>
   unfold thrF at h;split at h
   ·rename_i t v hx
    have:(execOp e.ev ⟨dst,.panic x,ty,pos,after,guard⟩).run P w=.halt (.panic (.iface t v)) w:=by
     simp only [execOp,hx];rfl
    rw [this];exact hX _ w h
   ·exact h.elim
 ·exact Zjt hcl h
def ZAs (P:Program) (cl:FuncId->Bool) (X:List PanicEntry->World->Prop) (ρ:Env) (o:Oper) (K:nK) (w:World):Prop:=
 match ZfN P o.op with
 |0=>(match ZeA P o.op with
  |0=>ZxS P cl X ρ o K w
  |_=>ZrF P (λ w'=>w'=w) ρ o (λ v=>K v w))
 |_=>ZrW P ρ o (λ v=>K v w)
theorem Zgw {P:Program} {cl:FuncId->Bool} (hcl:∀ g,cl g=true->ZS P g=true) {X:List PanicEntry->World->Prop} {a:Act} {e:Env} {o:Oper} {K:Value->World->Prop} {w:World}
  {Q:Exit->Act->World->Prop} (hX:∀ ch w,X ch w->Q (.panic ch) a w) (hok:ZiA P o.op=true) (h:ZAs P cl X e o K w):o.upon P a (ZqB a o.dst K) Q ((execOp e.ev o).run P w):=by
 unfold ZAs at h;split at h
 ·split at h
  ·exact ZnD hcl hX h
  ·rename_i hk
   exact Zc4.upon (S:=λ w'=>w'=w) rfl (Zfh hk (Zm9 hok) h)
 ·exact Zc4.upon (S:=λ _=>True) trivial (Zfl (Zj3 hok) h)
section
def Zsb (P:Program) (cl:FuncId->Bool) (X:List PanicEntry->List Value->World->Prop) (ps:List Nat) (ops:Array Oper):List Oper->Env->(Env->World->Prop)->World->Prop
 |[],ρ,K,w=>K ρ w
 |o::rest,ρ,K,w=>ZdW ops ρ o
   (λ ρ=>ZAs P cl (λ ch w=>X ch (vals ps ρ) w) ρ o (λ v w=>Zsb P cl X ps ops rest (ρ.put o.dst v) K w) w)
   (λ ρ=>Zsb P cl X ps ops rest (ρ.put o.dst undef) K w)
def ZiE (P:Program) (cl:FuncId->Bool) (X:List PanicEntry->List Value->World->Prop) (ps:List Nat) (ops:Array Oper) (S:World->Prop):Nat->Bool->Array Bool->Env->(Env->World->Prop)->World->Prop
 |0,_,listed,ρ,K,w=>(match Region.ready .any ops listed with
  |[]=>K ρ w
  |_=>False)
 |fuel + 1,hs,listed,ρ,K,w=>(match Region.ready .any ops listed with
  |[]=>K ρ w
  |r::rs=>(match ZlN P ops listed (r::rs) with
   |some i=>(match ops[i]? with
    |some o=>ZdW ops ρ o
      (λ ρ=>ZBS P S hs ρ o λ v=>ZiE P cl X ps ops S fuel hs (listed.setIfInBounds i true) (ρ.put o.dst v) K w)
      (λ ρ=>ZiE P cl X ps ops S fuel hs (listed.setIfInBounds i true) (ρ.put o.dst undef) K w)
    |none=>False)
   |none=>ZAc (λ i=>match ops[i]? with
    |some o=>ZdW ops ρ o
      (λ ρ=>(match Zag P o.op||Zab P o.op with
       |true=>False
       |false=>match Zdk P ops i with
       |true=>ZAs P cl (λ ch w=>X ch (vals ps ρ) w) ρ o (λ v w=>S w/\ZiE P cl X ps ops S fuel hs (listed.setIfInBounds i true) (ρ.put o.dst v) K w) w
       |false=>ZAs P cl (λ ch w=>X ch (vals ps ρ) w) ρ o (λ v w=>ZiE P cl X ps ops S fuel false (listed.setIfInBounds i true) (ρ.put o.dst v) K w) w))
      (λ ρ=>(match Zag P o.op||Zab P o.op with
       |true=>False
       |false=>match Zdk P ops i with
       |true=>(match hs with
        |true=>ZiE P cl X ps ops S fuel true (listed.setIfInBounds i true) (ρ.put o.dst undef) K w
        |false=>False)
       |false=>ZiE P cl X ps ops S fuel false (listed.setIfInBounds i true) (ρ.put o.dst undef) K w))
    |none=>False) (r::rs)))
structure Zbl (n:Nat) (ds:List Deferred) (pw:Nat->Bool) (a0:Env) (a:Act):Prop where
 size:a.tmps.size=n
 defers:a.defers=ds
 same:∀ i,pw i=false->a.env i=a0 i
theorem Zbl.put {n:Nat} {ds:List Deferred} {pw:Nat->Bool} {a0:Env} {a:Act} (h:Zbl n ds pw a0 a) {o:Oper} (ho:ZbM n pw o=true) (v:Value):Zbl n ds pw a0 (a.put o.dst v):=by
 refine ⟨by rw [ZjY];exact h.size,by rw [Zgt];exact h.defers,λ i hi=>?_⟩;unfold ZbM at ho;have hd:∀ x,o.dst=some x->x<a.tmps.size:=λ x hx=>by
  rw [hx] at ho;simp only [Bool.and_eq_true] at ho;rw [h.size];exact Nat.blt_eq.mp ho.1
 rw [ZgG hd];cases hx:o.dst with
 |none=>exact h.same i hi
 |some d=>
  rw [hx] at ho;simp only [Bool.and_eq_true] at ho;simp only [Env.put,Env.set];split
  ·rename_i hb;have:=Nat.eq_of_beq_eq_true hb;subst this;rw [hi] at ho;simp at ho
  ·exact h.same i hi
theorem Zbl.envput {n:Nat} {ds:List Deferred} {pw:Nat->Bool} {a0:Env} {a:Act} (h:Zbl n ds pw a0 a) {o:Oper} (ho:ZbM n pw o=true) (v:Value):(a.put o.dst v).env=a.env.put o.dst v:=by
 refine ZgG λ x hx=>?_;unfold ZbM at ho;rw [hx] at ho;simp only [Bool.and_eq_true] at ho;rw [h.size];exact Nat.blt_eq.mp ho.1
theorem Zbl.unput {n:Nat} {ds:List Deferred} {pw:Nat->Bool} {a0:Env} {a:Act} {o:Oper} (ho:ZbM n pw o=true) {v:Value} (h:Zbl n ds pw a0 (a.put o.dst v)):Zbl n ds pw a0 a:=by
 have hs:a.tmps.size=n:=by rw [<-ZjY a o.dst v];exact h.size
 have hd0:a.defers=ds:=by rw [<-Zgt a o.dst v];exact h.defers
 refine ⟨hs,hd0,λ i hi=>?_⟩;have:=h.same i hi;have hd:∀ x,o.dst=some x->x<a.tmps.size:=λ x hx=>by
  unfold ZbM at ho;rw [hx] at ho;simp only [Bool.and_eq_true] at ho;rw [hs];exact Nat.blt_eq.mp ho.1
 rw [ZgG hd] at this;unfold ZbM at ho;cases hx:o.dst with
 |none=>rw [hx] at this;exact this
 |some d=>
  rw [hx] at this ho;simp only [Bool.and_eq_true] at ho;simp only [Env.put,Env.set] at this;split at this
  ·rename_i hb;have:=Nat.eq_of_beq_eq_true hb;subst this;rw [hi] at ho;simp at ho
  ·exact this
def Zxh (ps:List Nat) (o:Oper):Bool:=match o.dst with|some d=>!ZlY d ps|none=>true
theorem Zuk {n:Nat} {pw:Nat->Bool} {ps:List Nat} {a:Act} {o:Oper} (ho:ZbM n pw o=true) (hs:a.tmps.size=n) (hp:Zxh ps o=true) (v:Value):vals ps (a.put o.dst v).env=vals ps a.env:=by
 have hd:∀ x,o.dst=some x->x<a.tmps.size:=λ x hx=>by
  unfold ZbM at ho;rw [hx] at ho;simp only [Bool.and_eq_true] at ho;rw [hs];exact Nat.blt_eq.mp ho.1
 rw [ZgG hd];unfold Zxh at hp;cases hx:o.dst with
 |none=>rfl
 |some d=>
  rw [hx] at hp;simp only [Bool.not_eq_true'] at hp;unfold vals;apply List.map_congr_left;intro i hi;simp only [Env.put,Env.set];split
  ·rename_i hb
   have:=Nat.eq_of_beq_eq_true hb;subst this;have:∀ l:List Nat,i∈l->ZlY i l=true:=λ l=>by
    induction l with
    |nil=>intro h;cases h
    |cons j l ih=>
     intro h;unfold ZlY;cases hb:Nat.beq i j with
     |true=>rfl
     |false=>
      rcases List.mem_cons.1 h with rfl|h
      ·simp at hb
      ·exact ih h
   rw [this ps hi] at hp;cases hp
  ·rfl
section
variable {P:Program} {cl:FuncId->Bool} {X:List PanicEntry->List Value->World->Prop} {ps:List Nat} {ops:Array Oper} {Q:Exit->Act->World->Prop} {n:Nat} {ds:List Deferred} {pw:Nat->Bool} {a0:Env}
theorem ZcN (hcl:∀ g,cl g=true->ZS P g=true) {K:Env->World->Prop}
  (hQ:∀ a w,Zbl n ds pw a0 a->K a.env w->Q .normal a w) (hX:∀ ch a w,Zbl n ds pw a0 a->X ch (vals ps a.env) w->Q (.panic ch) a w):∀ (l:List Oper) (_:∀ o∈l,ZiA P o.op=true/\ZbM n pw o=true) (a:Act) (w:World),
   Zbl n ds pw a0 a->Zsb P cl X ps ops l a.env K w->wpList P ops Q l a w
 |[],_,a,w,hk,h=>hQ a w hk h
 |o::rest,hl,a,w,hk,h=>by
  have ho:=hl o (List.mem_cons_self ..);have hrest:=λ x hx=>hl x (List.mem_cons_of_mem _ hx);unfold Zsb at h;unfold wpList;rcases Zac h with ⟨hw,h⟩|⟨hw,h⟩
  ·rw [if_pos hw]
   refine .inl ?_;have:=Zgw hcl (λ ch w hx=>hX ch a w hk (by exact hx)) ho.1 h;rw [Zaq] at this;unfold Oper.wp;refine upon_mono ?_ this;rintro a' w' ⟨v,rfl,hv⟩;refine ZcN hcl hQ hX rest hrest _ w' (hk.put ho.2 v) ?_;rw [hk.envput ho.2];exact hv
  ·rw [hw]
   simp only [Bool.false_eq_true,if_false];refine ZcN hcl hQ hX rest hrest _ w (hk.put ho.2 _) ?_;rw [hk.envput ho.2];exact h
where
 upon_mono {o:Oper} {a:Act} {K K':Act->World->Prop} {r:Result Next} (h:∀ a w,K a w->K' a w) (hh:o.upon P a K Q r):o.upon P a K' Q r:=by
  cases r with
  |ok x w'=>
   cases x<;>simp only [Oper.upon] at hh ⊢<;>
    first
     |exact h _ _ hh
     |exact Calls.mono hh (λ e w'' he=>by cases e<;>first|exact h _ _ he|exact he)
     |exact Rows.mono hh (λ _ _ he=>h _ _ he)
  |halt x w'=>cases x<;>simp only [Oper.upon] at hh ⊢<;>exact hh
theorem ZnR (hcl:∀ g,cl g=true->ZS P g=true) (hsel:Region.noSelect ops=true) {K:Env->World->Prop} {S:World->Prop}
  (hQ:∀ a w,Zbl n ds pw a0 a->K a.env w->Q .normal a w) (hX:∀ ch a w,Zbl n ds pw a0 a->X ch (vals ps a.env) w->Q (.panic ch) a w) (hQp:∀ (i:Nat) (o:Oper) (v:Value) c a w,ops[i]? =some o->Q (.panic c) (a.put o.dst v) w->Q (.panic c) a w) (hops:∀ (i:Nat) (o:Oper),ops[i]? =some o->ZiA P o.op=true/\ZbM n pw o=true):
  ∀ (fuel:Nat) (hs:Bool) (listed:Array Bool) (a:Act) (w:World),Zbl n ds pw a0 a->(hs=true->S w)->ZiE P cl X ps ops S fuel hs listed a.env K w->
   wpT P .any ops Q S (Zdk P ops) (looks P ops) fuel listed a w:=by
 intro fuel
 induction fuel with
 |zero=>
  intro hs listed a w hk hS h;unfold ZiE at h;split at h
  ·rename_i hr;exact ⟨hr,hQ a w hk h⟩
  ·exact h.elim
 |succ fuel ih=>
  intro hs listed a w hk hS h;unfold ZiE at h;split at h
  ·rename_i hr
   exact ⟨λ _=>hQ a w hk h,λ i hi=>by rw [hr] at hi;cases hi⟩
  ·rename_i r rs hr
   split at h
   ·rename_i i hp
    obtain ⟨hmem,o,ho,hpr,hfree⟩:=ZcA hp;rw [ho] at h;simp only at h;obtain ⟨hok,hd⟩:=hops i o ho;have hni:Zdk P ops i=false:=by
     unfold Zdk;rw [ho];simp only;rcases Bool.or_eq_true _ _|>.mp hpr with hp|hp<;>simp [hp]
    have hrdy:i∈Region.ready .any ops listed:=by rw [hr];exact hmem
    have hfs:=Region.free_spec (md:=.any) ho hfree;have hself:=Region.noSelect_spec hsel;rcases Zac h with ⟨hw,h⟩|⟨hw,h⟩
    ·rcases ZiS hok hpr h with ⟨hp,v,hv,hK⟩|⟨hp,hhs,v,hv,hK⟩
     ·refine Zas (T:=λ _=>True) ho hself (λ c a w hc=>hQp i o _ c a w ho hc) hni fuel listed a w (λ j oj hj hne hun hno=>⟨hfs j oj hj hne hun hno,λ _ _ _ _ _=>trivial⟩) hrdy (.inl ⟨hw,?_⟩) trivial
       (ih hs (listed.setIfInBounds i true) (a.put o.dst v) w (hk.put hd v) hS ?_)
      ·rw [<-Zaq];exact hv
      ·rw [hk.envput hd];exact hK
     ·have hri:Zab P o.op=true:=by rw [hp] at hpr;simpa using hpr
      refine Zas (T:=S) ho hself (λ c a w hc=>hQp i o _ c a w ho hc) hni fuel listed a w (λ j oj hj hne hun hno=>⟨hfs j oj hj hne hun hno,λ w w' hw hneed hlook=>?_⟩) hrdy (.inl ⟨hw,?_⟩) (hS hhs)
       (ih hs (listed.setIfInBounds i true) (a.put o.dst v) w (hk.put hd v) hS ?_)
      ·cases hl:(Zag P oj.op||Zab P oj.op) with
       |true=>have:=hlook (by unfold looks;rw [hj];exact hl);rw [this];exact hw
       |false=>exact hneed (Zj9 ho hj hri hl hno)
      ·rw [<-Zaq];exact hv
      ·rw [hk.envput hd];exact hK
    ·refine Zas (T:=λ _=>True) ho hself (λ c a w hc=>hQp i o _ c a w ho hc) hni fuel listed a w (λ j oj hj hne hun hno=>⟨hfs j oj hj hne hun hno,λ _ _ _ _ _=>trivial⟩) hrdy (.inr ⟨hw,rfl⟩) trivial
       (ih hs (listed.setIfInBounds i true) (a.put o.dst undef) w (hk.put hd _) hS ?_)
     rw [hk.envput hd];exact h
   ·refine ⟨λ h0=>absurd (hr ▸ h0) (by simp),λ i hi=>?_⟩
    rw [hr] at hi;have h:=Zgi h i hi;split at h
    case h_2=>exact h.elim
    rename_i o ho;obtain ⟨hok,hd⟩:=hops i o ho;refine ZjD ho ?_;rcases Zac h with ⟨hw,h⟩|⟨hw,h⟩
    ·refine .inl ⟨hw,?_⟩
     split at h
     ·exact h.elim
     ·rename_i hl
      have hlk:looks P ops i=false:=by unfold looks;rw [ho];exact hl
      split at h
      ·rename_i hnd
       have:=Zgw hcl (λ ch w hx=>hX ch a w hk (by exact hx)) hok h;rw [Zaq] at this;refine ZcN.upon_mono ?_ this;rintro a' w' ⟨v,rfl,hSw,hK⟩;refine ⟨⟨λ _=>hSw,λ hh=>(by rw [hlk] at hh;cases hh)⟩,ih hs _ _ w' (hk.put hd v) (λ _=>hSw) ?_⟩;rw [hk.envput hd];exact hK
      ·rename_i hnd
       have:=Zgw hcl (λ ch w hx=>hX ch a w hk (by exact hx)) hok h;rw [Zaq] at this;refine ZcN.upon_mono ?_ this;rintro a' w' ⟨v,rfl,hK⟩;refine ⟨⟨λ hh=>(by rw [hnd] at hh;cases hh),λ hh=>(by rw [hlk] at hh;cases hh)⟩,ih false _ _ w' (hk.put hd v) (λ hh=>by cases hh) ?_⟩;rw [hk.envput hd];exact hK
    ·refine .inr ⟨hw,?_⟩
     split at h
     ·exact h.elim
     ·rename_i hl
      have hlk:looks P ops i=false:=by unfold looks;rw [ho];exact hl
      split at h
      ·split at h
       ·have hSw:=hS rfl
        refine ⟨⟨λ _=>hSw,λ _=>rfl⟩,ih true _ _ w (hk.put hd _) (λ _=>hSw) ?_⟩;rw [hk.envput hd];exact h
       ·exact h.elim
      ·rename_i hnd
       refine ⟨⟨λ hh=>(by rw [hnd] at hh;cases hh),λ _=>rfl⟩,ih false _ _ w (hk.put hd _) (λ hh=>by cases hh) ?_⟩;rw [hk.envput hd];exact h
end
end
section
def Zjv (P:Program) (cl:FuncId->Bool) (X:List PanicEntry->List Value->World->Prop) (ps:List Nat):Code->Sk->Env->ZwC->World->Prop
 | .skip,_,ρ,K,w=>K.nrm ρ w
 | .label _,_,ρ,K,w=>K.nrm ρ w
 | .region _ ops d,_,ρ,K,w=>(match d with
  |false=>Zsb P cl X ps ops ops.toList ρ K.nrm w
  |true=>Drw w λ S w'=>ZiE P cl X ps ops S ops.size true (Array.replicate ops.size false) ρ K.nrm w')
 | .seq a b,sk,ρ,K,w=>(match sk with
  | .cut ms ts W _ _=>ZB0 ts ms W ρ (λ k=>Zjv P cl X ps a sk.l ρ { K with nrm:=k } w) (λ ρ' w'=>Zjv P cl X ps b sk.r ρ' K w')
  |_=>Zjv P cl X ps a sk.l ρ { K with nrm:=λ ρ' w'=>Zjv P cl X ps b sk.r ρ' K w' } w)
 | .cond c a b,sk,ρ,K,w=>(match ρ.ev c with
  | .bool t=>Br t (Zjv P cl X ps a sk.l ρ K w) (Zjv P cl X ps b sk.r ρ K w)
  |_=>False)
 | .block id a,sk,ρ,K,w=>Zjv P cl X ps a sk.l ρ { K with ex:=λ i=>match Nat.beq i id with|true=>K.nrm|false=>K.ex i } w
 | .loop a,sk,ρ,K,w=>(match sk with
  | .loop ms ts W _=>ZuW ts ms W ρ (λ ρ' k w'=>Zjv P cl X ps a sk.l ρ' { K with nrm:=k } w') w
  |_=>False)
 | .scope a,sk,ρ,K,w=>Zjv P cl X ps a sk.l ρ K w
 | .exit id,_,ρ,K,w=>K.ex id ρ w
 | .ret,_,ρ,K,w=>K.ret ρ w
 |_,_,_,_,_=>False
def ZcV (P:Program) (n:Nat) (ps:List Nat):Code->Bool
 | .region _ ops d=>Region.noSelect ops && (ops.all λ o=>ZiA P o.op && (match o.dst with|some d=>Nat.blt d n|none=>true)) && (match d with|true=>ops.all (Zxh ps)|false=>true)
 | .seq a b| .cond _ a b=>ZcV P n ps a && ZcV P n ps b
 | .block _ a| .loop a| .scope a=>ZcV P n ps a
 | .rangeFunc _ _ _ _=>false
 |_=>true
def PKx (n:Nat) (ds:List Deferred) (pw:Nat->Bool) (X:List PanicEntry->List Value->World->Prop) (ps:List Nat) (a0:Env) (K:ZwC):Exit->Act->World->Prop
 | .normal,a,w=>Zbl n ds pw a0 a/\K.nrm a.env w
 | .exit i,a,w=>Zbl n ds pw a0 a/\K.ex i a.env w
 | .ret,a,w=>Zbl n ds pw a0 a/\K.ret a.env w
 | .panic ch,a,w=>Zbl n ds pw a0 a/\X ch (vals ps a.env) w
 |_,_,_=>False
theorem Zbl.refl' {n:Nat} {ds:List Deferred} {pw:Nat->Bool} {a:Act} (h:a.tmps.size=n) (hd:a.defers=ds):Zbl n ds pw a.env a:=⟨h,hd,λ _ _=>rfl⟩
theorem Zbl.trans {n:Nat} {ds:List Deferred} {pw:Nat->Bool} {q:Nat->Bool} {a0:Env} {a b:Act} (h:Zbl n ds pw a0 a) (h':Zbl n ds (λ i=>pw i && q i) a.env b):Zbl n ds pw a0 b:=
 ⟨h'.size,h'.defers,λ i hi=>(h'.same i (by simp [hi])).trans (h.same i hi)⟩
variable {P:Program} {cl:FuncId->Bool} {X:List PanicEntry->List Value->World->Prop} {ps:List Nat} {n:Nat} {ds:List Deferred}
theorem ZjS (hcl:∀ g,cl g=true->ZS P g=true) (hmix:P.follows .mixedOrders=true) {pw:Nat->Bool} {a0:Env} {id:Nat} {ops:Array Oper} {d:Bool}
  (hc:ZcV P n ps (.region id ops d)=true) (hw:Zgl pw (.region id ops d)=true) {sk:Sk} {K:ZwC} {a:Act} {w:World} (hk:Zbl n ds pw a0 a)
  (h:Zjv P cl X ps (.region id ops d) sk a.env K w):(Code.region id ops d).wp P (PKx n ds pw X ps a0 K) a w:=by
 simp only [ZcV,Bool.and_eq_true] at hc;obtain ⟨⟨hsel,hall⟩,hps⟩:=hc;rw [Array.all_eq_true_iff_forall_mem] at hall;simp only [Bool.and_eq_true] at hall;simp only [Zgl,Array.all_eq_true_iff_forall_mem] at hw;have hops:∀ o∈ops,ZiA P o.op=true/\ZbM n pw o=true:=λ o ho=>by
  have h1:=hall o ho;have h2:=hw o ho;refine ⟨h1.1,?_⟩;unfold ZbM;cases hd:o.dst with
  |none=>rfl
  |some x=>rw [hd] at h1 h2;simp only [Bool.and_eq_true];exact ⟨h1.2,h2⟩
 unfold Zjv at h;cases d with
 |false=>
  exact wp_region_list (ZcN (X:=X) (ps:=ps) (Q:=PKx n ds pw X ps a0 K) hcl (λ a w hk h=>⟨hk,h⟩) (λ ch a w hk h=>⟨hk,h⟩) ops.toList (λ o ho=>hops o (by simpa using ho)) a w hk h)
 |true=>
  obtain ⟨S0,S,hS,h⟩:=h;obtain ⟨hS,h⟩:=h _ hS;refine wp_region_any hmix (Zhr _ _ _ _ (ZnR (X:=X) (ps:=ps) (Q:=PKx n ds pw X ps a0 K) hcl hsel (λ a w hk h=>⟨hk,h⟩) (λ ch a w hk h=>⟨hk,h⟩) (λ i o v c a w ho h=>by
   have hm:=Array.mem_of_getElem? ho;have hd:=(hops o hm).2;rw [Array.all_eq_true_iff_forall_mem] at hps;have hk2:=Zbl.unput hd h.1;exact ⟨hk2,by rw [<-Zuk hd hk2.size (hps o hm) v];exact h.2⟩) (λ i o ho=>hops o (Array.mem_of_getElem? ho)) _ _ _ _ _ hk (λ _=>hS) h))
theorem ZaI (hcl:∀ g,cl g=true->ZS P g=true) (hmix:P.follows .mixedOrders=true):∀ (c:Code) (sk:Sk) (pw:Nat->Bool) (a0:Env),
  ZcV P n ps c=true->Zgl pw c=true->ZkU c sk=true->∀ (a:Act) (K:ZwC) (w:World),Zbl n ds pw a0 a->Zjv P cl X ps c sk a.env K w->c.wp P (PKx n ds pw X ps a0 K) a w
 | .skip,sk,pw,a0,_,_,_,a,K,w,hk,h=>wp_skip ⟨hk,h⟩
 | .label _,sk,pw,a0,_,_,_,a,K,w,hk,h=>wp_label ⟨hk,h⟩
 | .exit _,sk,pw,a0,_,_,_,a,K,w,hk,h=>wp_exit ⟨hk,h⟩
 | .ret,sk,pw,a0,_,_,_,a,K,w,hk,h=>wp_ret ⟨hk,h⟩
 | .region id ops d,sk,pw,a0,hc,hw,_,a,K,w,hk,h=>ZjS hcl hmix hc hw hk h
 | .goto _,sk,pw,a0,_,_,_,a,K,w,hk,h=>h.elim
 | .refuse _,sk,pw,a0,_,_,_,a,K,w,hk,h=>h.elim
 | .rangeFunc _ _ _ _,sk,pw,a0,_,_,_,a,K,w,hk,h=>h.elim
 | .scope c,sk,pw,a0,hc,hw,hs,a,K,w,hk,h=>by
  refine wp_scope_straight ?_;refine Code.wp_mono ?_ (ZaI hcl hmix c sk.l pw a0 hc hw hs a K w hk h);intro e a w hq;cases e<;>first|exact hq|exact hq.elim
 | .block id c,sk,pw,a0,hc,hw,hs,a,K,w,hk,h=>by
  refine wp_block ?_;refine Code.wp_mono ?_ (ZaI hcl hmix c sk.l pw a0 hc hw hs a _ w hk h);intro e a w hq;cases e with
  |exit i=>
   obtain ⟨hk,hq⟩:=hq;show if i=id then _ else _
   by_cases hi:i=id
   ·subst hi
    rw [if_pos rfl];have:Nat.beq i i=true:=by simp
    simp only [this] at hq;exact ⟨hk,hq⟩
   ·rw [if_neg hi]
    have:Nat.beq i id=false:=by
     cases hb:Nat.beq i id with
     |false=>rfl
     |true=>exact absurd (Nat.eq_of_beq_eq_true hb) hi
    simp only [this] at hq;exact ⟨hk,hq⟩
  |normal=>exact hq
  |ret=>exact hq
  |panic ch=>exact hq
  |_=>exact hq.elim
 | .cond c x y,sk,pw,a0,hc,hw,hs,a,K,w,hk,h=>by
  simp only [ZcV,Zgl,ZkU,Bool.and_eq_true] at hc hw hs;unfold Zjv at h;split at h
  ·rename_i t ht
   rw [Zaq] at ht;refine wp_cond_split ht (λ hb=>?_) (λ hb=>?_)
   ·subst hb;exact ZaI hcl hmix x sk.l pw a0 hc.1 hw.1 hs.1 a K w hk h
   ·subst hb;exact ZaI hcl hmix y sk.r pw a0 hc.2 hw.2 hs.2 a K w hk h
  ·exact h.elim
 | .seq x y,sk,pw,a0,hc,hw,hs,a,K,w,hk,h=>by
  simp only [ZcV,Zgl,ZkU,Bool.and_eq_true] at hc hw hs;refine wp_seq ?_;have plain:Zjv P cl X ps x sk.l a.env { K with nrm:=λ ρ' w'=>Zjv P cl X ps y sk.r ρ' K w' } w->x.wp P (Exit.then (y.wp P (PKx n ds pw X ps a0 K)) (PKx n ds pw X ps a0 K)) a w:=λ h=>by
   refine Code.wp_mono ?_ (ZaI hcl hmix x sk.l pw a0 hc.1 hw.1 hs.1.2 a _ w hk h);intro e a w hq;cases e with
   |normal=>exact ZaI hcl hmix y sk.r pw a0 hc.2 hw.2 hs.2 a K w hq.1 hq.2
   |_=>exact hq
  cases sk with
  |cut ms ts W l r=>
   simp only [Bool.and_eq_true] at hs;obtain ⟨J,h1,h2⟩:=(show ZB0 ts ms W a.env (λ k=>Zjv P cl X ps x l a.env { K with nrm:=k } w) (λ ρ' w'=>Zjv P cl X ps y r ρ' K w') from h)
   have:=ZaI hcl hmix x l (λ i=>pw i && ZlY i W) a.env hc.1 (ZbB hw.1 hs.1.1.1) hs.1.2 a _ w (Zbl.refl' hk.size hk.defers) h1;refine Code.wp_mono ?_ this;intro e b w' hq;cases e with
   |normal=>
    obtain ⟨hkb,hq⟩:=hq;have hall:=h2 b.env;have hb:=Zir (by rw [Zg9];exact Nat.eq_of_beq_eq_true hs.1.1.2) hq hall w' hq;rw [Zkd (λ i hi=>hkb.same i (by simp [hi]))] at hb;exact ZaI hcl hmix y r pw a0 hc.2 hw.2 hs.2 b K w' (hk.trans hkb) hb
   |exit i=>exact ⟨hk.trans hq.1,hq.2⟩
   |ret=>exact ⟨hk.trans hq.1,hq.2⟩
   |panic ch=>exact ⟨hk.trans hq.1,hq.2⟩
   |_=>exact hq.elim
  |leaf=>exact plain h
  |seq l r=>exact plain h
  |cond l r=>exact plain h
  |block l=>exact plain h
  |loop ms ts W l=>exact plain h
 | .loop c,sk,pw,a0,hc,hw,hs,a,K,w,hk,h=>by
  cases sk with
  |loop ms ts W l=>
   simp only [ZkU,Bool.and_eq_true] at hs;have hc:ZcV P n ps c=true:=hc;have hw:Zgl pw c=true:=hw;obtain ⟨I,μ,h0,hstep⟩:=(show ZuW ts ms W a.env (λ ρ' k w'=>Zjv P cl X ps c l ρ' { K with nrm:=k } w') w from h)
   have hlen:∀ e:Env,(vals ms e).length=ts.length:=λ e=>by rw [Zg9];exact Nat.eq_of_beq_eq_true hs.1.2
   refine wp_loop (λ b v=>Zbl n ds pw a0 b/\(∀ i,ZlY i W=false->b.env i=a.env i)/\app ts I (vals ms b.env) (λ p=>p v))
    (λ b v=>ZqD (λ _=>0) ts μ (vals ms b.env) v) ⟨hk,λ _ _=>rfl,h0⟩ ?_
   rintro b v ⟨hkb,hsame,hI⟩;have hb:=Zir (hlen b.env) hI (hstep b.env) v hI;rw [Zkd hsame] at hb;have:=ZaI hcl hmix c l (λ i=>pw i && ZlY i W) b.env hc (ZbB hw hs.1.1) hs.2 b _ v (Zbl.refl' hkb.size hkb.defers) hb;refine Code.wp_mono ?_ this;intro e b' v' hq;cases e with
   |normal=>
    obtain ⟨hkb',hI',hμ⟩:=hq;exact ⟨⟨hkb.trans hkb',λ i hi=>(hkb'.same i (by simp [hi])).trans (hsame i hi),hI'⟩,by
     have h1:=Ziq (d:=λ _=>0) hμ;exact Ziq (d:=λ _=>0) h1⟩
   |exit i=>exact ⟨hkb.trans hq.1,hq.2⟩
   |ret=>exact ⟨hkb.trans hq.1,hq.2⟩
   |panic ch=>exact ⟨hkb.trans hq.1,hq.2⟩
   |_=>exact hq.elim
  |_=>exact False.elim h
def ZxC (P:Program) (n:Nat) (fn:Func) (sk:Sk) (ps:List Nat):Bool:=
 Nat.beq n fn.ntmps && (match fn.body with|some c=>ZcV P n ps c && Zgl (λ _=>true) c && ZkU c sk|none=>false) &&
  fn.results.all λ r=>match r with| .tmp _=>true| .cell _ t=>ZsA P t
def ZDa (P:Program) (cl:FuncId->Bool) (X:List PanicEntry->World->Prop) (fn:Func) (sk:Sk) (args:List Value) (K:nK) (w:World):Prop:=
 match fn.body with
 |some c=>Zjv P cl (λ ch _ w=>X ch w) [] c sk (Zfa args) { nrm:=λ ρ w=>Zry P ρ K fn.results.toList [] w,ex:=λ _ _ _=>False,ret:=λ ρ w=>Zry P ρ K fn.results.toList [] w } w
 |none=>False
def Zba (P:Program) (f:FuncId) (args:Array Value) (w:World) (X:List PanicEntry->World->Prop) (K:nK):Prop:=
 Calls P f args w λ e w'=>(∃ v,e=.returned v/\K v w')\/∃ ch,e=.panicked ch/\X ch w'
theorem Zba.use {f:FuncId} {args:Array Value} {w:World} {X:List PanicEntry->World->Prop} {K:Value->World->Prop} {R:Ending->World->Prop} (h:Zba P f args w X K) (k:∀ v w',K v w'->R (.returned v) w') (kx:∀ ch w',X ch w'->R (.panicked ch) w'):Calls P f args w R:=
 Calls.mono h λ e w' he=>by
  rcases he with ⟨v,rfl,hq⟩|⟨ch,rfl,hq⟩
  ·exact k v w' hq
  ·exact kx ch w' hq
theorem Zid {fn:Func} {args:List Value}:({ tmps:=args.toArray++Array.replicate (fn.ntmps - args.toArray.size) undef,defers:=[] }:Act).env=Zfa args:=by
 funext i
 rw [ZgK];simp only [Act.env];rcases Nat.lt_or_ge i args.length with hi|hi
 ·simp [Array.getElem?_append,hi]
 ·simp only [Array.getD_eq_getD_getElem?,Array.getElem?_append,List.size_toArray,if_neg (Nat.not_lt.2 hi),Array.getElem?_replicate,List.getD_eq_getElem?_getD,List.getElem?_eq_none hi]
  split<;>rfl
theorem Zrx {fn:Func} (hres:(fn.results.all λ r=>match r with| .tmp _=>true| .cell _ t=>ZsA P t)=true) {a:Act} {K:Value->World->Prop} {w:World} (hr:Zry P a.env K fn.results.toList [] w):
  ∃ v,(results fn a.tmps).run P w=.ok v w/\K v w:=by
 obtain ⟨vs,hvs,hf⟩:=Zey fn.results.toList [] (λ r hr=>by
  rw [Array.all_eq_true_iff_forall_mem] at hres;exact hres r (by simpa using hr)) hr
 have hm:(fn.results.mapM (ZhH a.tmps)).run P w=.ok vs.toArray w:=by
  rw [Array.mapM_eq_mapM_toList];simp only [Sem.run_map,hvs,Result.andThen_ok]
 refine ⟨_,by rw [Zi0,Sem.run_bind,hm];rfl,?_⟩;cases vs with
 |nil=>exact hf
 |cons v vs=>cases vs with
  |nil=>exact hf
  |cons u us=>exact hf
theorem Ztu {f:FuncId} {fn:Func} {sk:Sk} (hcl:∀ g,cl g=true->ZS P g=true) (hmix:P.follows .mixedOrders=true)
  (hf:P.funcs[f]? =some fn) (hok:ZxC P fn.ntmps fn sk []=true) {args:List Value} {X:List PanicEntry->World->Prop} {K:Value->World->Prop} {w:World} (hargs:args.length<=fn.ntmps)
  (h:ZDa P cl X fn sk args K w):Zba P f args.toArray w X K:=by
 unfold Zba;unfold ZDa at h;unfold ZxC at hok;simp only [Bool.and_eq_true] at hok;obtain ⟨⟨_,hbody⟩,hres⟩:=hok;split at h
 case h_2=>exact h.elim
 rename_i c hb;rw [hb] at hbody;simp only [Bool.and_eq_true] at hbody;refine calls_of_wp hf hb ?_;rw [<-Zid (fn:=fn)] at h;refine Code.wp_mono ?_ (ZaI (n:=fn.ntmps) (ds:=[]) hcl hmix c sk (λ _=>true) _ hbody.1.1 hbody.1.2 hbody.2 _ _ w (Zbl.refl' (by simp;omega) rfl) h);intro e a w hq;cases e with
 |normal=>obtain ⟨v,h1,h2⟩:=Zrx hres hq.2;exact ⟨hq.1.defers,v,h1,.inl ⟨v,rfl,h2⟩⟩
 |ret=>obtain ⟨v,h1,h2⟩:=Zrx hres hq.2;exact ⟨hq.1.defers,v,h1,.inl ⟨v,rfl,h2⟩⟩
 |exit i=>exact hq.2.elim
 |panic ch=>exact ⟨hq.1.defers,.inr ⟨ch,rfl,hq.2⟩⟩
 |_=>exact hq.elim
end
section
open Go
section
variable {P:Program} {cl:FuncId->Bool}
theorem Zsc (hcl:∀ g,cl g=true->ZS P g=true) {ops:Array Oper} {K:Env->World->Prop} {n:Nat} {pw:Nat->Bool} {a0:Env} {cs:List Frame} {Q:Exit->Act->List Frame->World->Prop}
    (hQ:∀ a w,ZcC n pw a0 a->K a.env w->Q .normal a cs w):∀ (l:List Nat) (os:List Oper) (_:l.map (λ i=>ops[i]?)=os.map some) (_:∀ o∈os,ZiA P o.op=true/\ZbM n pw o=true) (a:Act) (w:World),
      ZcC n pw a0 a->Zt8 P cl ops os a.env K w->wpOpsS P ops Q l a cs w
  |[],os,hl,_,a,w,hk,h=>by
    have:os=[]:=by cases os with
      |nil=>rfl
      |cons _ _=>simp at hl
    subst this;exact hQ a w hk h
  |i::l,os,hl,hok,a,w,hk,h=>by
    cases os with
    |nil=>simp at hl
    |cons o os=>
      simp only [List.map_cons,List.cons.injEq] at hl;obtain ⟨hi,hl⟩:=hl;have ho:=hok o (List.mem_cons_self ..);have hrest:=λ x hx=>hok x (List.mem_cons_of_mem _ hx);unfold Zt8 at h;simp only [wpOpsS,hi];rcases Zac h with ⟨hw,h⟩|⟨hw,h⟩
      · rw [if_pos hw]
        have h2:=ZlP hcl (a:=a) (Q:=λ e a' w'=>Q e a' cs w') ho.1 h;rw [Zaq] at h2;have key:o.upon P a (λ a' w'=>wpOpsS P ops Q l a' cs w') (λ e a' w'=>Q e a' cs w') ((execOp a.eval o).run P w):=by
          refine Zaj.upon_mono ?_ h2;rintro a' w' ⟨v,rfl,hv⟩;refine Zsc hcl hQ l os hl hrest _ w' (hk.put ho.2 v) ?_;rw [hk.envput ho.2];exact hv
        split
        · rename_i w' hr
          rw [hr] at key;exact key.elim
        · exact key
      · rw [hw]
        simp only [Bool.false_eq_true,if_false];refine Zsc hcl hQ l os hl hrest _ w (hk.put ho.2 _) ?_;rw [hk.envput ho.2];exact h
def ZBT (P:Program) (cl:FuncId->Bool) (fn:Func) (sk:Sk) (args:List Value) (x:Value) (K:World->Prop) (w:World):Prop:=
  match fn.body with
  |some (.seq (.region _ o0 false) rest)=>(match o0.toList with
    |orec::tl=>Zt8 P cl o0 tl ((Zfa args).put orec.dst x) (λ ρ w=>den P cl rest sk ρ { nrm:=λ _ w=>K w,ex:=λ _ _ _=>False,ret:=λ _ w=>K w } w) w
    |[]=>False)
  |_=>False
def Zuz (P:Program) (fn:Func) (sk:Sk):Bool:=
  (match fn.body with
  |some (.seq (.region _ o0 false) rest)=>(match o0.toList with
    |orec::tl=>(match orec.op with| .call ⟨.builtin .recover,_,_⟩=>true|_=>false) && orec.guard.isNone && (match orec.dst with|some d=>Nat.blt d fn.ntmps|none=>true) &&
        (tl.all λ o=>ZiA P o.op && ZbM fn.ntmps (λ _=>true) o) && Zen P fn.ntmps rest && Zgl (λ _=>true) rest && ZkU rest sk
    |[]=>false)
  |_=>false) && fn.results.isEmpty
theorem Zrz (hcl:∀ g,cl g=true->ZS P g=true) (hmix:P.follows .mixedOrders=true) {f:FuncId} {fn:Func} {sk:Sk} (hf:P.funcs[f]? =some fn) (hok:Zuz P fn sk=true) {args:List Value} (hargs:args.length<=fn.ntmps)
    {K:World->Prop} {w:World} {u u':FrameMode} {x:Value} (hrec:∀ (c₀:Frame) (cs:List Frame),c₀.mode=u->(recoverD (c₀::cs)=some (x,{ c₀ with mode:=u' }::cs))\/(recoverD (c₀::cs)=none/\x=.nilIface/\u'=u))
    (h:ZBT P cl fn sk args x K w):CallsD P f args.toArray u w λ e v w'=>(∃ y,e=.returned y)/\v=u'/\K w':=by
  unfold Zuz at hok;unfold ZBT at h;rw [Bool.and_eq_true] at hok;obtain ⟨hok,hres⟩:=hok;split at h
  case h_2=>exact h.elim
  rename_i id o0 rest hb;rw [hb] at hok;simp only at hok;split at h
  case h_2=>exact h.elim
  rename_i orec tl ho;rw [ho] at hok;simp only [Bool.and_eq_true] at hok;obtain ⟨⟨⟨⟨⟨⟨hop,hg⟩,hd⟩,htl⟩,hco⟩,hwr⟩,hsk⟩:=hok;have henv:=Zid (fn:=fn) (args:=args);refine callsD_of_wpS hf hb λ c₀ cs hc=>wpS_seq (wpS_region ?_);generalize hA:({ tmps:=args.toArray++Array.replicate (fn.ntmps - args.toArray.size) undef,defers:=[] }:Act)=A at henv;have hAs:A.tmps.size=fn.ntmps:=by rw [<-hA];simp;omega
  have hAd:A.defers=[]:=by rw [<-hA]
  have hres0:fn.results=#[]:=by simpa using hres
  have hsize:o0.size=tl.length + 1:=by rw [<-Array.length_toList,ho];simp
  have hrange:List.range o0.size=0::(List.range tl.length).map (· + 1):=by rw [hsize,List.range_succ_eq_map]
  rw [hrange];have h0:o0[0]? =some orec:=by rw [<-Array.getElem?_toList,ho];rfl
  have hmap:((List.range tl.length).map (· + 1)).map (λ i=>o0[i]?)=tl.map some:=by
    rw [List.map_map];apply List.ext_getElem?;intro i;simp only [List.getElem?_map];by_cases hi:i<tl.length
    · simp only [List.getElem?_range hi,Option.map_some,Function.comp]
      rw [<-Array.getElem?_toList,ho,List.getElem?_cons_succ];simp [hi]
    · rw [List.getElem?_eq_none (by simpa using hi),List.getElem?_eq_none (by omega)];rfl
  have hrun:(execOp A.eval orec).run P w=.ok .recover w:=by
    obtain ⟨dst,op,ty,pos,after,guard⟩:=orec;dsimp only at hop;split at hop
    · rfl
    · cases hop
  have hwant:Region.wanted orec (yielded o0 A.tmps)=true:=by
    unfold Region.wanted;rw [Option.isNone_iff_eq_none.1 hg]
  have hdst:ZbM fn.ntmps (λ _=>true) orec=true:=by
    unfold ZbM;cases hx:orec.dst with
    |none=>rfl
    |some d=>rw [hx] at hd;simpa using hd
  have hk0:ZcC fn.ntmps (λ _=>true) A.env A:=ZcC.refl hAs hAd;have go:∀ (cs':List Frame),cs'={ c₀ with mode:=u' }::cs->wpOpsS P o0 (Exit.thenS (rest.wpS P (bodyPostS P fn c₀ cs λ e v w'=>(∃ y,e=.returned y)/\v=u'/\K w')) (bodyPostS P fn c₀ cs λ e v w'=>(∃ y,e=.returned y)/\v=u'/\K w'))
      ((List.range tl.length).map (· + 1)) (A.put orec.dst x) cs' w:=λ cs' hcs=>by
    refine Zsc (n:=fn.ntmps) (pw:=λ _=>true) (a0:=A.env) (K:=λ ρ w=>den P cl rest sk ρ { nrm:=λ _ w=>K w,ex:=λ _ _ _=>False,ret:=λ _ w=>K w } w) hcl ?_ _ tl hmap (λ o hm=>by
      have:=List.all_eq_true.1 htl o hm;simpa using this) _ w (hk0.put hdst x) ?_
    · intro a w hk hden
      refine wpS_of_wp ?_;refine Code.wp_mono ?_ (Za6 (n:=fn.ntmps) hcl hmix rest sk (λ _=>true) a.env hco hwr hsk a _ w (ZcC.refl hk.size hk.defers) hden);have fin:∀ (a:Act) (w:World),a.defers=[]->K w->a.defers=[]/\∃ u'',cs'={ c₀ with mode:=u'' }::cs/\∃ v,(results fn a.tmps).run P w=.ok v w/\((∃ y,Ending.returned v=.returned y)/\u''=u'/\K w):=λ a w hd hK=>
        ⟨hd,u',hcs,.tuple #[],by
          simp [results,hres0],⟨_,rfl⟩,rfl,hK⟩
      intro e b w hq;cases e with
      |normal=>exact fin b w hq.1.defers hq.2
      |ret=>exact fin b w hq.1.defers hq.2
      |exit i=>exact hq.2.elim
      |_=>exact hq.elim
    · rw [hk0.envput hdst,henv];exact h
  simp only [wpOpsS,h0,hwant,if_true,hrun];rcases hrec c₀ cs hc with hr|⟨hr,rfl,rfl⟩
  · rw [hr];exact go _ rfl
  · rw [hr];exact go _ (by rw [<-hc])
theorem Zlz (hcl:∀ g,cl g=true->ZS P g=true) (hmix:P.follows .mixedOrders=true) {f:FuncId} {fn:Func} {sk:Sk} (hf:P.funcs[f]? =some fn) (hok:Zuz P fn sk=true) {args:List Value} (hargs:args.length<=fn.ntmps)
    {K:World->Prop} {w:World} {x:Value} (h:ZBT P cl fn sk args x K w):
    CallsD P f args.toArray (.panicking [{ v:=x,recovered:=false }]) w λ e v w'=>(∃ y,e=.returned y)/\v=.panicking [{ v:=x,recovered:=true }]/\K w':=
  Zrz hcl hmix hf hok hargs (λ c₀ cs hc=>.inl (by simp [recoverD,hc])) h
theorem Zi1 (hcl:∀ g,cl g=true->ZS P g=true) (hmix:P.follows .mixedOrders=true) {f:FuncId} {fn:Func} {sk:Sk} (hf:P.funcs[f]? =some fn) (hok:Zuz P fn sk=true) {args:List Value} (hargs:args.length<=fn.ntmps)
    {K:World->Prop} {w:World} (h:ZBT P cl fn sk args .nilIface K w):
    CallsD P f args.toArray .returning w λ e v w'=>(∃ y,e=.returned y)/\v=.returning/\K w':=
  Zrz hcl hmix hf hok hargs (λ c₀ cs hc=>.inr ⟨by simp [recoverD,hc],rfl,rfl⟩) h
def Zlw (P:Program) (K:nK):List ResultVar->List Value->List Value->World->Prop
  |[],_,acc,w=>ZDb K acc.reverse w
  | .tmp _::rs,v::vs,acc,w=>Zlw P K rs vs (v::acc) w
  | .cell _ t::rs,v::vs,acc,w=>ZiC P (λ w'=>w'=w) t v λ x=>Zlw P K rs vs (x::acc) w
  |_::_,[],_,_=>False
def Zhy:ResultVar->Nat| .tmp t=>t| .cell a _=>a
theorem ZjQ {ρ:Env} {K:Value->World->Prop}:∀ (rs:List ResultVar) (acc:List Value) (w:World),Zlw P K rs (vals (rs.map Zhy) ρ) acc w->Zry P ρ K rs acc w
  |[],_,_,h=>h
  | .tmp t::rs,acc,w,h=>ZjQ rs (ρ t::acc) w h
  | .cell a t::rs,acc,w,h=>by
    have h:ZiC P (λ w'=>w'=w) t (ρ a) λ x=>Zlw P K rs (vals (rs.map Zhy) ρ) (x::acc) w:=h;show ZiC P (λ w'=>w'=w) t (ρ a) λ x=>Zry P ρ K rs (x::acc) w;have mono:∀ {F G:Value->Prop},(∀ x,F x->G x)->ZiC P (λ w'=>w'=w) t (ρ a) F->ZiC P (λ w'=>w'=w) t (ρ a) G:=λ {F G} hFG hl=>by
      have exm:∀ {ty:Ty} {F G:Value->Prop},(∀ x,F x->G x)->ty.ex F->ty.ex G:=λ {ty F G} hFG h=>by
        cases ty<;>(obtain ⟨y,hy⟩:=h;exact ⟨y,hFG _ hy⟩)
      have exA:∀ {ts:List Ty} {F G:List Value->Prop},(∀ x,F x->G x)->ZnB ts F->ZnB ts G:=λ {ts}=>by
        induction ts with
        |nil=>exact λ hFG h=>hFG _ h
        |cons ty ts ih=>exact λ hFG h=>exm (λ v hv=>ih (λ x hx=>hFG _ hx) hv) h
      unfold ZiC at hl ⊢;split at hl
      · unfold Zc at hl ⊢
        split at hl
        · cases hagg:Zji P t
          · simp only [hagg] at hl ⊢
            exact exm (λ x hx=>⟨hx.1,hFG _ hx.2⟩) hl
          · simp only [hagg] at hl ⊢
            split at hl
            · exact exA (λ x hx=>⟨hx.1,hFG _ hx.2⟩) hl
            · obtain ⟨vs,h1,h2,h3⟩:=hl
              exact ⟨vs,h1,h2,hFG _ h3⟩
        · exact hl.elim
      · exact hl.elim
    exact mono (λ x hx=>ZjQ rs (x::acc) w hx) h
def Z1 (P:Program) (g:FuncId) (args:List Value) (u:FrameMode) (Kr:World->Prop) (w:World):Prop:=
  CallsD P g args.toArray u w λ e u' w'=>(∃ y,e=.returned y)/\settle u'=.returning/\Kr w'
def tgtF (cl:FuncId->Bool) (f:Value) (K:FuncId->List Value->List Value->Prop):Prop:=
  match f with
  | .func fn first captured=>(match fn with
    | .func g=>(match cl g with
      |true=>K g first.toList captured.toList
      |false=>False)
    |_=>False)
  |_=>False
def ZDd (P:Program) (cl:FuncId->Bool) (fn:Func) (sk:Sk) (args:List Value) (K:nK) (w:World):Prop:=
  match fn.body with
  |some (.seq (.region _ o0 false) (.seq (.region _ o1 false) rest))=>
    Zt8 P cl o0 o0.toList (Zfa args) (λ ρ w=>Zt8 P cl o1 o1.toList.dropLast ρ (λ ρ w=>
      match o1.toList.getLast? with
      |some od=>(match od.op with
        | .defer c=>(match c.callee with
          | .value f=>tgtF cl (ρ.ev f) λ g first captured=>
              Zjv P cl (λ ch vs w=>Z1 P g (first++((c.args.map ρ.ev).toList++captured)) (.panicking ch) (Zlw P K fn.results.toList vs []) w) (fn.results.toList.map Zhy) rest sk ρ
                { nrm:=λ ρ' w=>Z1 P g (first++((c.args.map ρ.ev).toList++captured)) .returning (Zlw P K fn.results.toList (vals (fn.results.toList.map Zhy) ρ') []) w,ex:=λ _ _ _=>False,
                  ret:=λ ρ' w=>Z1 P g (first++((c.args.map ρ.ev).toList++captured)) .returning (Zlw P K fn.results.toList (vals (fn.results.toList.map Zhy) ρ') []) w } w
          |_=>False)
        |_=>False)
      |none=>False) w) w
  |_=>False
def ZxW (P:Program) (cl:FuncId->Bool) (fn:Func) (sk:Sk):Bool:=
  (match fn.body with
  |some (.seq (.region _ o0 false) (.seq (.region _ o1 false) rest))=>
    (o0.toList.all λ o=>ZiA P o.op && ZbM fn.ntmps (λ _=>true) o) && (o1.toList.dropLast.all λ o=>ZiA P o.op && ZbM fn.ntmps (λ _=>true) o) &&
      (match o1.toList.getLast? with|some od=>od.guard.isNone && od.dst.isNone|none=>false) &&
      ZcV P fn.ntmps (fn.results.toList.map Zhy) rest && Zgl (λ _=>true) rest && ZkU rest sk
  |_=>false) && fn.results.all λ r=>match r with| .tmp _=>true| .cell _ t=>ZsA P t
theorem Zdo {ops:Array Oper} {Q:Exit->Act->World->Prop}:∀ (l l':List Oper) (a:Act) (w:World),wpList P ops (Exit.then (λ a w=>wpList P ops Q l' a w) Q) l a w->wpList P ops Q (l++l') a w
  |[],l',a,w,h=>h
  |o::l,l',a,w,h=>by
    unfold wpList at h;rw [List.cons_append];unfold wpList;by_cases hw:Region.wanted o (yielded ops a.tmps)=true
    · rw [if_pos hw] at h ⊢
      rcases h with h|h
      · refine .inl ?_
        unfold Oper.wp at h ⊢
        revert h
        cases (execOp a.eval o).run P w with
        |ok x w'=>
          cases x<;>simp only [Oper.upon]<;>
            first
              |exact λ h=>Zdo l l' _ _ h
              |(intro h;refine Calls.mono h ?_;intro e w'' he;cases e<;>first|exact Zdo l l' _ _ he|exact he)
              |(intro h;exact Rows.mono h λ _ _ he=>Zdo l l' _ _ he)
              |exact λ h=>h
        |halt x w'=>cases x<;>simp only [Oper.upon]<;>exact λ h=>h
      · exact .inr h
    · rw [if_neg hw] at h ⊢
      exact Zdo l l' _ _ h
theorem CallsD.mono {f:FuncId} {args:Array Value} {u:FrameMode} {w:World} {R R':Ending->FrameMode->World->Prop} (h:CallsD P f args u w R) (k:∀ e u w,R e u w->R' e u w):CallsD P f args u w R':=
  λ c cs hc=>let ⟨e,u',w',fr,r,s⟩:=h c cs hc;⟨e,u',w',fr,k _ _ _ r,s⟩
theorem Zfp (hcl:∀ g,cl g=true->ZS P g=true) {fn:Func} (hres:(fn.results.all λ r=>match r with| .tmp _=>true| .cell _ t=>ZsA P t)=true) {a:Act} {g:FuncId} (hg:cl g=true) {first cargs captured:Array Value} {u:FrameMode} (hu:u≠.run)
    {K:Value->World->Prop} {w:World} (h:Z1 P g (first.toList++(cargs.toList++captured.toList)) u (Zlw P K fn.results.toList (vals (fn.results.toList.map Zhy) a.env) []) w):
    Leaves P fn a.tmps (λ e w'=>∃ v,e=.returned v/\K v w') [{ target:=.fn (.func g) captured,args:=first++cargs }] u w:=by
  refine ⟨hu,_,_,g,(first.toList++(cargs.toList++captured.toList)).toArray,rfl,?_,?_⟩
  · have e:(first++cargs)++captured=(first.toList++(cargs.toList++captured.toList)).toArray:=by apply Array.ext';simp
    simp only [invoke,e];exact Zep (hcl g hg) _ w
  · refine CallsD.mono h ?_
    rintro e u' w' ⟨⟨y,rfl⟩,hs,hr⟩;show Leaves P fn a.tmps _ [] (settle u') w';rw [hs];obtain ⟨v,h1,h2⟩:=Zrx hres (ZjQ _ _ _ hr);exact ⟨v,h1,v,rfl,h2⟩
theorem Ztv (hcl:∀ g,cl g=true->ZS P g=true) (hmix:P.follows .mixedOrders=true) {f:FuncId} {fn:Func} {sk:Sk} (hf:P.funcs[f]? =some fn) (hok:ZxW P cl fn sk=true) {args:List Value} (hargs:args.length<=fn.ntmps)
    {K:Value->World->Prop} {w:World} (h:ZDd P cl fn sk args K w):Zm P f args.toArray w K:=by
  unfold Zm;unfold ZxW at hok;unfold ZDd at h;rw [Bool.and_eq_true] at hok;obtain ⟨hok,hres⟩:=hok;split at h
  case h_2=>exact h.elim
  rename_i i0 o0 i1 o1 rest hb;rw [hb] at hok;simp only [Bool.and_eq_true] at hok;obtain ⟨⟨⟨⟨⟨h0,h1⟩,hlast⟩,hco⟩,hwr⟩,hsk⟩:=hok;refine calls_of_wp_defers hf hb ?_;have henv:=Zid (fn:=fn) (args:=args);generalize hA:({ tmps:=args.toArray++Array.replicate (fn.ntmps - args.toArray.size) undef,defers:=[] }:Act)=A at henv;have hAs:A.tmps.size=fn.ntmps:=by rw [<-hA];simp;omega
  have hAd:A.defers=[]:=by rw [<-hA]
  rw [<-henv] at h;refine wp_seq (wp_region_list (Zaj (n:=fn.ntmps) (pw:=λ _=>true) (a0:=A.env) hcl ?_ o0.toList (λ o ho=>by have:=List.all_eq_true.1 h0 o ho;simpa using this) A w (ZcC.refl hAs hAd) h));clear h;intro a w hk h;show (Code.seq (.region i1 o1 false) rest).wp P _ a w;refine wp_seq (wp_region_list ?_);cases hl:o1.toList.getLast? with
  |none=>rw [hl] at hlast;cases hlast
  |some od=>
    rw [hl] at hlast;simp only [Bool.and_eq_true] at hlast;have hsplit:o1.toList=o1.toList.dropLast++[od]:=by
      obtain ⟨l,hl2⟩:=List.getLast?_eq_some_iff.1 hl;rw [hl2];simp
    rw [hsplit];refine Zdo _ _ _ _ ?_;refine Zaj (n:=fn.ntmps) (pw:=λ _=>true) (a0:=a.env) hcl ?_ o1.toList.dropLast (λ o ho=>by have:=List.all_eq_true.1 h1 o ho;simpa using this) a w (ZcC.refl hk.size hk.defers) h;clear h;intro b w hkb h;show wpList P o1 _ [od] b w;unfold wpList;have hwant:Region.wanted od (yielded o1 b.tmps)=true:=by
      unfold Region.wanted;rw [Option.isNone_iff_eq_none.1 hlast.1]
    rw [if_pos hwant];refine .inl ?_;rw [hl] at h;simp only at h;clear hsplit hl hwant h1;obtain ⟨dst,op,ty,pos,after,guard⟩:=od;dsimp only at h hlast;obtain ⟨hg0,hd0⟩:=hlast;have hd0:=Option.isNone_iff_eq_none.1 hd0;subst hd0;split at h
    case h_2=>exact h.elim
    rename_i c;obtain ⟨callee,cargs,ats⟩:=c;dsimp only at h;split at h
    case h_2=>exact h.elim
    rename_i fv;unfold tgtF at h;split at h
    case h_2=>exact h.elim
    rename_i fn' first captured hfv
    split at h
    case h_2=>exact h.elim
    rename_i g;split at h
    case h_2=>exact h.elim
    rename_i hg;have hrun:(execOp b.eval ⟨none,.defer ⟨.value fv,cargs,ats⟩,ty,pos,after,guard⟩).run P w=.ok (.defer { target:=.fn (.func g) captured,args:=first++cargs.map b.eval }) w:=by
      rw [Zaq] at hfv;simp only [execOp,resolve,hfv,Deferred.ofValue];simp
    unfold Oper.wp;rw [hrun];rw [Zaq] at h;generalize hB:({ tmps:=b.tmps,defers:={ target:=.fn (.func g) captured,args:=first++cargs.map b.eval }::b.defers }:Act)=B
    have hBe:B.env=b.env:=by rw [<-hB];rfl
    have hBs:B.tmps.size=fn.ntmps:=by rw [<-hB];exact hkb.size
    have hBd:B.defers=[{ target:=.fn (.func g) captured,args:=first++cargs.map b.eval }]:=by rw [<-hB];simp [hkb.defers]
    rw [Oper.upon_defer];show wpList P o1 _ [] ({ b with defers:={ target:=.fn (.func g) captured,args:=first++cargs.map b.eval }::b.defers }.put none undef) w
    show rest.wp P _ ({ b with defers:={ target:=.fn (.func g) captured,args:=first++cargs.map b.eval }::b.defers }.put none undef) w
    have hput:({ b with defers:={ target:=.fn (.func g) captured,args:=first++cargs.map b.eval }::b.defers }:Act).put none undef=B:=hB
    rw [hput];rw [<-hBe] at h;refine Code.wp_mono ?_ (ZaI (n:=fn.ntmps) (ds:=[{ target:=.fn (.func g) captured,args:=first++cargs.map b.eval }]) hcl hmix rest sk (λ _=>true) B.env hco hwr hsk B _ w (Zbl.refl' hBs hBd) h)
    intro e a' w' hq;cases e with
    |normal=>
      show Leaves P fn a'.tmps _ a'.defers .returning w';rw [hq.1.defers];exact Zfp hcl hres hg (by simp) hq.2
    |ret=>
      show Leaves P fn a'.tmps _ a'.defers .returning w';rw [hq.1.defers];exact Zfp hcl hres hg (by simp) hq.2
    |exit i=>exact hq.2.elim
    |panic ch=>
      show Leaves P fn a'.tmps _ a'.defers (.panicking ch) w';rw [hq.1.defers];exact Zfp hcl hres hg (by simp) hq.2
    |_=>exact hq.elim
end
end
end Go.VC
namespace Go.Proofs.YtlplemdmegpoeaaGreatDoor
section
open Go Go.VC Tryz
set_option maxRecDepth 10000
def Zwt:List Nat:=[3,4,5,6,7,8,9,10,11,12,13,14,15,16,17,18,19,20,21,22,23,24,25,26,27,28,29,30,31,32,33,34,35,36,37,38,39,40,41,42,43,44,45,46,47,48,49,50,51,52,53,54,55,56,57,58,59,60,61,62,63,64,65,66,67,68,69,70,71,72,73,74,75,76,77,78,79,80,81,82,83,84,85,86,87,88,89,90,91,92,93,94,95,96,97,98,99,100,101,102,103,104,105,106,107,108,109,110,111,112,113,114,115,116,117,118,119,120,121,122,123,124,125,126,127,128,129,130,131,132,133,134,135,136,137,138,139,140,141,142,143,144,145,146,147,148,149,150,151,152,153,154,155,156,157,158,159,160,161,162,163,164,165,166,167,168,169,170,171,172,173,174,175,176,177,178,179,180,181,182,183,184,185,186,187,188,189,190,191,192,193,194,195,196,197,198,199,200,201,202,203,204,205,206,207,208,209,211,212,213,214,215,216,217,218,219,220,221,223,224,225,226,227,228,229,230,231,232,233,234,235,236,237,238,239,240,241,242,243,244,246,247,248,249,250,251,252,253,254,255,256,257,258,259,260,261,262,263,264,265,266,267,268,269,270,271,272,273,274,275,276,277,278,279,280,281,283,284,286,287,288,289,290,292,293,294,295,296,297,298,299,300,301,302,303,304,305,306,307,308,309,311,312,313,314,315,316,317]
def cl:FuncId->Bool:=λ g=>ZlY g Zwt
theorem Ztr:Zwt.all (ZS prog)=true:=by kernel_rfl
theorem ZnH (g:FuncId) (h:cl g=true):ZS prog g=true:=by
  have key:∀ l:List Nat,ZlY g l=true->l.all (ZS prog)=true->ZS prog g=true:=λ l=>by
    induction l with
    |nil=>intro h;cases h
    |cons x l ih=>
      intro h h2;simp only [List.all_cons,Bool.and_eq_true] at h2;simp only [ZlY] at h;split at h
      · rename_i hb;rw [Nat.eq_of_beq_eq_true hb];exact h2.1
      · exact ih h h2.2
  exact key _ h Ztr
theorem mixed:prog.follows .mixedOrders=true:=by kernel_rfl
abbrev _root_.nC (f : FuncId) (a : Array Value) (w : nW) (Q : Ending -> World -> Prop) : Prop := Calls prog f a w Q
abbrev Aw (w : nW) (a:Addr) (l:List Value):Prop:=At (λ w'=>w'=w) a l
abbrev St (t:TypeId) (a:Addr) (v:Value) (w w':World):Prop:=(Instr.storeAt t (.pointer (some a)) v).run prog w=.ok () w'
theorem cq {f:FuncId} {fn:Func} {sk:Sk} {args:List Value} {K:Value->World->Prop} {w:World} {B:Prop} (h:B) (hf:prog.funcs[f]? =some fn) (hok:ZC9 prog fn.ntmps fn sk=true:=by kernel_rfl) (ha:Nat.ble args.length fn.ntmps=true:=by kernel_rfl) (he:fnF prog cl fn sk args K w=B:=by kernel_rfl):Zm prog f args.toArray w K:=ZvB ZnH mixed hf hok (Nat.le_of_ble_eq_true ha) (Eq.mpr he h)
theorem cqx {f:FuncId} {fn:Func} {sk:Sk} {args:List Value} {X:List PanicEntry->World->Prop} {K:Value->World->Prop} {w:World} {B:Prop} (h:B) (hf:prog.funcs[f]? =some fn) (hok:ZxC prog fn.ntmps fn sk []=true:=by kernel_rfl) (ha:Nat.ble args.length fn.ntmps=true:=by kernel_rfl) (he:ZDa prog cl X fn sk args K w=B:=by kernel_rfl):Zba prog f args.toArray w X K:=Ztu ZnH mixed hf hok (Nat.le_of_ble_eq_true ha) (Eq.mpr he h)
theorem cqd {f:FuncId} {fn:Func} {sk:Sk} {args:List Value} {K:Value->World->Prop} {w:World} {B:Prop} (h:B) (hf:prog.funcs[f]? =some fn) (hok:ZxW prog cl fn sk=true:=by kernel_rfl) (ha:Nat.ble args.length fn.ntmps=true:=by kernel_rfl) (he:ZDd prog cl fn sk args K w=B:=by kernel_rfl):Zm prog f args.toArray w K:=Ztv ZnH mixed hf hok (Nat.le_of_ble_eq_true ha) (Eq.mpr he h)
def B75 (c:Sl) (K:nK) (w : nW):Prop:=
 Br c.a.isNone
 (K (.slice none 0 0) w)
 (New (.cells #[] 5 (0,0)) (λ e f=>
 ∃ d:World,∃ b:Sl,((Builtin.append_ #[47,47] 47 #[.slice ((some ⟨e,0,none⟩)) 0 0,c.v]).run prog f=.ok (b.v) d)/\
 K (b.v) d) w)
theorem ZBa (b:Sl) (K:nK) (w : nW) (h:B75 b K w):Zm prog 75 #[b.v] w K:=cq (sk:=.leaf) h func75
def B128 (j:Int) (K:nK) (w : nW):Prop:=
 nC 205 #[.int .u64 j] w λ n o=>
 ∃ g,(n=.returned (nI g))/\
 New (.cells #[.int .u8 (IntKind.u8.wrap (wI ((wI (g + 7)).tdiv 8)))] 5 (0,0)) (λ l p=>
 ∃ (f:Int->Sl->World->Prop) (k:Int->Sl->World->Nat),(f (wI ((wI (g + 7)).tdiv 8)) ⟨(some ⟨l,0,none⟩),1,1⟩ p)/\∀ (r:Env) (c:Int) (b:Sl) (e:World),f c b e->
 Br (decide (c>0))
 (Ge0 (wI (8 * wI (c - 1))) (New (.cells #[.int .u8 (IntKind.u8.wrap (ZgP IntKind.u64 j (wI (8 * wI (c - 1)))))] 5 (0,0)) (λ m q=>
 ∃ i:World,∃ d:Sl,((Builtin.append_ #[47,47] 47 #[b.v,.slice ((some ⟨m,0,none⟩)) 1 1]).run prog q=.ok (d.v) i)/\
 (f (wI (c - 1)) d i)/\k (wI (c - 1)) d i<k c b e) e))
 (K (b.v) e)) o
def ZCJ:Sk:=(.seq .leaf (.seq .leaf (.seq .leaf (.seq (.block (.loop [3,4] [(.int .i64),.sl] [3,4,12,13,14,15,16,17,18,19,20,21,22,23] .leaf)) .leaf))))
theorem ZzG (a:Int) (K:nK) (w : nW) (h:B128 a K w):Zm prog 128 #[.int .u64 a] w K:=cq (sk:=ZCJ) h func128
def B91 (c:Sl) (K:nK) (w : nW):Prop:=
 nC 75 #[c.v] w λ e f=>
 ∃ b:Sl,(e=.returned (b.v))/\
 New (.cells #[b.v,.bool false] 207 (0,0)) (λ d g=>
 K (.pointer ((some ⟨d,0,none⟩))) g) f
theorem ZA1 (b:Sl) (K:nK) (w : nW) (h:B91 b K w):Zm prog 91 #[b.v] w K:=cq (sk:=.leaf) h func91
def B93 (i:Option Addr) (g:Int) (K:nK) (w : nW):Prop:=
 New (.cells #[.int .u64 g] 141 (0,0)) (λ e k=>
 New (.cells #[.int .u64 0] 141 (0,0)) (λ a l=>
 ∃ c,(St 141 ⟨a,0,none⟩ (.int .u64 0) l c)/\
 nC 149 #[.pointer i,.func (.func 150) #[] #[.pointer ((some ⟨e,0,none⟩)),.pointer ((some ⟨a,0,none⟩))]] c λ f d=>
 (f=.returned (.tuple #[]))/\
 ∃ b,(Aw d ⟨a,0,none⟩ [.int .u64 b])/\
 K (.int .u64 b) d) k) w
theorem ZAZ (b:Option Addr) (a:Int) (K:nK) (w : nW) (h:B93 b a K w):Zm prog 93 #[.pointer b,.int .u64 a] w K:=cq (sk:=.leaf) h func93
def B96 (e:Option Addr) (K:nK) (w : nW):Prop:=
 Zc e λ d=>
 ∃ f,(Aw w (nO d 1) [.bool f])/\
 Br (!f)
 (Zc e λ g=>
 ∃ b:Sl,(Aw w (Addr.add g 0) [b.v])/\
 K (.bool ((↑b.len:Int)==0)) w)
 (K (.bool false) w)
theorem ZAX (a:Option Addr) (K:nK) (w : nW) (h:B96 a K w):Zm prog 96 #[.pointer a] w K:=cq (sk:=.leaf) h func96
def B149 (z:Option Addr) (y:Value) (K:nK) (w : nW):Prop:=
 New (.cells #[.pointer z] 153 (0,0)) (λ c j=>
 ∃ r,(Aw j ⟨c,0,none⟩ [.pointer r])/\
 Zc r λ k=>
 ∃ s,(Aw j (nO k 1) [.bool s])/\
 nC 152 #[.bool (!s)] j λ n f=>
 ((n=.returned (.tuple #[]))/\
 ∃ p,(Aw f ⟨c,0,none⟩ [.pointer p])/\
 Zc p λ v=>
 ∃ d:Sl,(Aw f (Addr.add v 0) [d.v])/\
 New (.cells #[.slice none 0 0] 47 (0,0)) (λ i A=>
 ∃ t,(St 47 ⟨i,0,none⟩ (d.v) A t)/\
 Zbq prog cl y [.pointer ((some ⟨i,0,none⟩))] t λ o g=>
 ((o=.returned (.tuple #[]))/\
 ∃ q,(Aw g ⟨c,0,none⟩ [.pointer q])/\
 ∃ e:Sl,(Aw g ⟨i,0,none⟩ [e.v])/\
 Zc q λ x=>
 ∃ u,(St 47 (Addr.add x 0) (e.v) g u)/\
 Z1 prog 223 [.pointer ((some ⟨c,0,none⟩))] .returning (λ C=>K (.tuple #[]) C) u)\/
 (∃ m:List PanicEntry,(o=.panicked m)/\Z1 prog 223 [.pointer ((some ⟨c,0,none⟩))] (.panicking m) (λ D=>K (.tuple #[]) D) g)) f)\/
 (∃ l:List PanicEntry,(n=.panicked l)/\Z1 prog 223 [.pointer ((some ⟨c,0,none⟩))] (.panicking l) (λ E=>K (.tuple #[]) E) f)) w
theorem Zzr (b:Option Addr) (a:Value) (K:nK) (w : nW) (h:B149 b a K w):Zm prog 149 #[.pointer b,a] w K:=cqd (sk:=.leaf) h func149
def B150 (t:Option Addr) (s:Option Addr) (d:Option Addr) (c:List PanicEntry->World->Prop) (K:nK) (w : nW):Prop:=
 nC 151 #[.pointer t] w λ i b=>
 (∃ a m,(i=.returned (.tuple #[.int .u64 a,.bool m]))/\
 Br (!m)
 (Zc s λ r=>
 ∃ l,(Aw b r [.int .u64 l])/\
 nC 152 #[.bool (decide (a<=l))] b λ j n=>
 ((j=.returned (.tuple #[]))/\
 ∃ o:World,((Instr.storeAt 141 (.pointer d) (.int .u64 a)).run prog n=.ok () o)/\
 K (.tuple #[]) o)\/
 (∃ f:List PanicEntry,(j=.panicked f)/\c f n))
 (nC 152 #[.bool false] b λ k p=>
 ((k=.returned (.tuple #[]))/\
 ∃ q:World,((Instr.storeAt 141 (.pointer d) (.int .u64 a)).run prog p=.ok () q)/\
 K (.tuple #[]) q)\/
 (∃ g:List PanicEntry,(k=.panicked g)/\c g p)))\/
 (∃ e:List PanicEntry,(i=.panicked e)/\c e b)
theorem Zzq (d:Option Addr) (b:Option Addr) (c:Option Addr) (a:List PanicEntry->World->Prop) (K:nK) (w : nW) (h:B150 d b c a K w):Zba prog 150 #[.pointer d,.pointer b,.pointer c] w a K:=cqx (sk:=.leaf) h func150
def B151 (J:Option Addr) (c:List PanicEntry->World->Prop) (K:nK) (w : nW):Prop:=
 nC 154 #[.pointer J,nI 1] w λ A j=>
 (∃ l:Sl,(A=.returned (l.v))/\
 Rng 0 l.len (Zc l.a λ U=>
 ∃ e,(Aw j (Addr.add U 0) [.int .u8 e])/\
 ∃ (k:World->Prop),(Br (decide (e<32))
 (Br (decide (wI (Zgf BinOp.andNot IntKind.u8 e 16)<=8))
 (Br (decide (wI (Zgf BinOp.andNot IntKind.u8 e 16)>0))
 (nC 152 #[.bool true] j λ C L=>
 ((C=.returned (.tuple #[]))/\
 k  L)\/
 (∃ s:List PanicEntry,(C=.panicked s)/\c s L))
 (nC 152 #[.bool (!decide (e >= 16))] j λ D M=>
 ((D=.returned (.tuple #[]))/\
 k  M)\/
 (∃ t:List PanicEntry,(D=.panicked t)/\c t M)))
 (nC 152 #[.bool false] j λ E N=>
 ((E=.returned (.tuple #[]))/\
 k  N)\/
 (∃ u:List PanicEntry,(E=.panicked u)/\c u N)))
 (nC 152 #[.bool false] j λ F O=>
 ((F=.returned (.tuple #[]))/\
 k  O)\/
 (∃ v:List PanicEntry,(F=.panicked v)/\c v O)))/\
 ∀ (X:Env)  (Q:World),k  Q->
 nC 154 #[.pointer J,nI (wI (Zgf BinOp.andNot IntKind.u8 e 16))] Q λ G T=>
 (∃ g:Sl,(G=.returned (g.v))/\
 ∃ (m:Int->Int->World->Prop) (n:Int->Int->World->Nat),(m 0 0 T)/\∀ (Y:Env) (d:Int) (b:Int) (f:World),m d b f->
 Br (decide (b<(↑g.len:Int)))
 (Rng b g.len (Zc g.a λ V=>
 ∃ i,(Aw f (Addr.add V b.toNat) [.int .u8 i])/\
 Br (decide (b>0))
 (nC 152 #[.bool true] f λ H q=>
 ((H=.returned (.tuple #[]))/\
 (m (Zgf BinOp.or IntKind.u64 (ZvU IntKind.u64 d 8) (IntKind.u64.wrap i)) (wI (b + 1)) q)/\n (Zgf BinOp.or IntKind.u64 (ZvU IntKind.u64 d 8) (IntKind.u64.wrap i)) (wI (b + 1)) q<n d b f)\/
 (∃ y:List PanicEntry,(H=.panicked y)/\c y q))
 (nC 152 #[.bool (decide (i>0))] f λ I p=>
 ((I=.returned (.tuple #[]))/\
 (m (Zgf BinOp.or IntKind.u64 (ZvU IntKind.u64 d 8) (IntKind.u64.wrap i)) (wI (b + 1)) p)/\n (Zgf BinOp.or IntKind.u64 (ZvU IntKind.u64 d 8) (IntKind.u64.wrap i)) (wI (b + 1)) p<n d b f)\/
 (∃ z:List PanicEntry,(I=.panicked z)/\c z p))))
 (K (.tuple #[.int .u64 d,.bool (decide (e >= 16))]) f))\/
 (∃ x:List PanicEntry,(G=.panicked x)/\c x T)))\/
 (∃ r:List PanicEntry,(A=.panicked r)/\c r j)
def ZCy:Sk:=(.seq .leaf (.seq .leaf (.seq .leaf (.seq .leaf (.cut [] [] [19,20,21,22,23,24,25,26,27,28,29,30,31,32,33] .leaf (.seq .leaf (.seq (.seq .leaf (.block (.loop [7,38] [(.int .u64),(.int .i64)] [7,8,9,38,39,40,41,42,43,44,45,46,47,48,49,50,51,52,53,54,55] .leaf))) .leaf)))))))
theorem Zzp (b:Option Addr) (a:List PanicEntry->World->Prop) (K:nK) (w : nW) (h:B151 b a K w):Zba prog 151 #[.pointer b] w a K:=cqx (sk:=ZCy) h func151
def B152 (b:Bool) (a:List PanicEntry->World->Prop) (K:nK) (w : nW):Prop:=
 Br (!b)
 (a [⟨.iface 274 (.agg #[]),false,false⟩] w)
 (K (.tuple #[]) w)
theorem Zzo (b:Bool) (a:List PanicEntry->World->Prop) (K:nK) (w : nW) (h:B152 b a K w):Zba prog 152 #[.bool b] w a K:=cqx (sk:=.leaf) h func152
def B223 (i:Option Addr) (f:Value) (K:World->Prop) (w : nW):Prop:=
 ∃ c:Bool,(∀ a,(λ a=>a=w) a->((do eqGuard BinOp.neq 20 (Operand.tmp 3) (Operand.const Value.nilIface) f .nilIface;binOp BinOp.neq 20 f .nilIface:Sem Value)).run prog a=.ok (.bool c) a)/\
 Br c
 (Zc i λ g=>
 ∃ d,(Aw w g [.pointer d])/\
 Zc d λ b=>
 ∃ e,(St 4 (nO b 1) (.bool true) w e)/\
 K e)
 (K w)
theorem ZvD (b:Option Addr) (a:Value) (K:World->Prop) (w : nW) (h:B223 b a K w):CallsD prog 223 #[.pointer b] (.panicking [⟨a,false,false⟩]) w λ c d e=>(∃ f,c=.returned f)/\d=.panicking [⟨a,true,false⟩]/\K e:=
 Zlz (sk:=.leaf) ZnH mixed func223 (by kernel_rfl) (Nat.le_of_ble_eq_true (by kernel_rfl)) (cast (by kernel_rfl) h)
theorem ZvC (a:Option Addr) (K:World->Prop) (w : nW) (h:B223 a .nilIface K w):CallsD prog 223 #[.pointer a] .returning w λ b c d=>(∃ e,b=.returned e)/\c=.returning/\K d:=
 Zi1 (sk:=.leaf) ZnH mixed func223 (by kernel_rfl) (Nat.le_of_ble_eq_true (by kernel_rfl)) (cast (by kernel_rfl) h)
def B154 (f:Option Addr) (b:Int) (m:List PanicEntry->World->Prop) (K:nK) (w : nW):Prop:=
 Zc f λ q=>
 ∃ g:Sl,(Aw w q [g.v])/\
 nC 152 #[.bool (decide (b<=(↑g.len:Int)))] w λ k i=>
 ((k=.returned (.tuple #[]))/\
 Zc f λ n=>
 ∃ d:Sl,(Aw i n [d.v])/\
 ((0:Int)<=b)/\
 ((b:Int)<=(↑d.cap:Int))/\
 Zc f λ o=>
 ∃ c:Sl,(Aw i o [c.v])/\
 ((0:Int)<=b)/\
 ((b:Int)<=(↑c.len:Int))/\
 Zc f λ p=>
 ∃ l,(St 47 (p) (.slice (Zck c.a b.toNat c.cap 1) (c.len - b.toNat) (c.cap - b.toNat)) i l)/\
 K (.slice d.a b.toNat d.cap) l)\/
 (∃ j:List PanicEntry,(k=.panicked j)/\m j i)
theorem Zzm (b:Option Addr) (c:Int) (a:List PanicEntry->World->Prop) (K:nK) (w : nW) (h:B154 b c a K w):Zba prog 154 #[.pointer b,nI c] w a K:=cqx (sk:=.leaf) h func154
def B205 (j:Int) (K:nK) (w : nW):Prop:=
 ∃ (c:Int->Int->World->Prop),(Br (decide (j >= 4294967296))
 (c (ZgP IntKind.u64 j 32) 32 w)
 (c j 0 w))/\
 ∀ (m:Env) (b:Int) (e:Int) (g:World),c b e g->
 ∃ (d:Int->Int->World->Prop),(Br (decide (b >= 65536))
 (d (ZgP IntKind.u64 b 16) (wI (e + 16)) g)
 (d b e g))/\
 ∀ (n:Env) (a:Int) (f:Int) (i:World),d a f i->
 Br (decide (a >= 256))
 (∃ k:UInt8,((0:Int)<=IntKind.u8.wrap (ZgP IntKind.u64 a 8))/\
 ((ByteArray.mk (([0,1,2,2,3,3,3,3,4,4,4,4,4,4,4,4,5,5,5,5,5,5,5,5,5,5,5,5,5,5,5,5,6,6,6,6,6,6,6,6,6,6,6,6,6,6,6,6,6,6,6,6,6,6,6,6,6,6,6,6,6,6,6,6].append [7,7,7,7,7,7,7,7,7,7,7,7,7,7,7,7,7,7,7,7,7,7,7,7,7,7,7,7,7,7,7,7,7,7,7,7,7,7,7,7,7,7,7,7,7,7,7,7,7,7,7,7,7,7,7,7,7,7,7,7,7,7,7,7]).append ([8,8,8,8,8,8,8,8,8,8,8,8,8,8,8,8,8,8,8,8,8,8,8,8,8,8,8,8,8,8,8,8,8,8,8,8,8,8,8,8,8,8,8,8,8,8,8,8,8,8,8,8,8,8,8,8,8,8,8,8,8,8,8,8].append [8,8,8,8,8,8,8,8,8,8,8,8,8,8,8,8,8,8,8,8,8,8,8,8,8,8,8,8,8,8,8,8,8,8,8,8,8,8,8,8,8,8,8,8,8,8,8,8,8,8,8,8,8,8,8,8,8,8,8,8,8,8,8,8])).toArray)[(IntKind.u8.wrap (ZgP IntKind.u64 a 8)).toNat]? =some k)/\
 K (nI (wI (wI (f + 8) + wI (↑k.toNat:Int)))) i)
 (∃ l:UInt8,((0:Int)<=IntKind.u8.wrap a)/\
 ((ByteArray.mk (([0,1,2,2,3,3,3,3,4,4,4,4,4,4,4,4,5,5,5,5,5,5,5,5,5,5,5,5,5,5,5,5,6,6,6,6,6,6,6,6,6,6,6,6,6,6,6,6,6,6,6,6,6,6,6,6,6,6,6,6,6,6,6,6].append [7,7,7,7,7,7,7,7,7,7,7,7,7,7,7,7,7,7,7,7,7,7,7,7,7,7,7,7,7,7,7,7,7,7,7,7,7,7,7,7,7,7,7,7,7,7,7,7,7,7,7,7,7,7,7,7,7,7,7,7,7,7,7,7]).append ([8,8,8,8,8,8,8,8,8,8,8,8,8,8,8,8,8,8,8,8,8,8,8,8,8,8,8,8,8,8,8,8,8,8,8,8,8,8,8,8,8,8,8,8,8,8,8,8,8,8,8,8,8,8,8,8,8,8,8,8,8,8,8,8].append [8,8,8,8,8,8,8,8,8,8,8,8,8,8,8,8,8,8,8,8,8,8,8,8,8,8,8,8,8,8,8,8,8,8,8,8,8,8,8,8,8,8,8,8,8,8,8,8,8,8,8,8,8,8,8,8,8,8,8,8,8,8,8,8])).toArray)[(IntKind.u8.wrap a).toNat]? =some l)/\
 K (nI (wI (f + wI (↑l.toNat:Int)))) i)
def ZCm:Sk:=(.seq .leaf (.cut [0,2] [(.int .u64),(.int .i64)] [0,2,3,4,5,6] .leaf (.cut [0,2] [(.int .u64),(.int .i64)] [0,2,7,8,9,10,11,12] .leaf .leaf)))
theorem ZyR (a:Int) (K:nK) (w : nW) (h:B205 a K w):Zm prog 205 #[.int .u64 a] w K:=cq (sk:=ZCm) h func205
def B83 (d:Sl) (K:nK) (w : nW):Prop:=
 nC 128 #[.int .u64 (IntKind.u64.wrap (↑d.len:Int))] w λ f g=>
 ∃ b:Sl,(f=.returned (.slice b.a b.len b.cap))/\
 ∃ e:World,∃ c:Sl,((Builtin.append_ #[47,47] 47 #[.slice b.a b.len b.cap,.slice d.a d.len d.cap]).run prog g=.ok (.slice c.a c.len c.cap) e)/\
 K (.slice c.a c.len c.cap) e
theorem ZA3 (b:Sl) (K:nK) (w : nW) (h:B83 b K w):Zm prog 83 #[.slice b.a b.len b.cap] w K:=cq (sk:=.leaf) h func83
def B94 (i:Option Addr) (g:Int) (K:nK) (w : nW):Prop:=
 New (.cells #[nI g] 3 (0,0)) (λ e k=>
 New (.cells #[.slice none 0 0] 47 (0,0)) (λ c l=>
 nC 149 #[.pointer i,.func (.func 153) #[] #[.pointer ((some ⟨e,0,none⟩)),.pointer ((some ⟨c,0,none⟩))]] l λ f d=>
 (f=.returned (.tuple #[]))/\
 ∃ b:Sl,(Aw d ⟨c,0,none⟩ [b.v])/\
 K (b.v) d) k) w
theorem ZAY (b:Option Addr) (a:Int) (K:nK) (w : nW) (h:B94 b a K w):Zm prog 94 #[.pointer b,nI a] w K:=cq (sk:=.leaf) h func94
def B153 (e:Option Addr) (r:Option Addr) (p:Option Addr) (b:List PanicEntry->World->Prop) (K:nK) (w : nW):Prop:=
 nC 151 #[.pointer e] w λ H c=>
 (∃ d ab,(H=.returned (.tuple #[.int .u64 d,.bool ab]))/\
 Br (!ab)
 (Zc r λ au=>
 ∃ Z,(Aw c au [nI Z])/\
 Br (decide (Z >= 0))
 (Zc r λ av=>
 ∃ aa,(Aw c av [nI aa])/\
 Br (decide (d<=IntKind.u64.wrap aa))
 (Zc e λ aw=>
 ∃ q:Sl,(Aw c aw [q.v])/\
 nC 152 #[.bool (decide (d<=IntKind.u64.wrap (↑q.len:Int)))] c λ I ak=>
 ((I=.returned (.tuple #[]))/\
 nC 154 #[.pointer e,nI (wI d)] ak λ N al=>
 (∃ f:Sl,(N=.returned (f.v))/\
 nC 75 #[f.v] al λ O am=>
 (∃ k:Sl,(O=.returned (k.v))/\
 ∃ an:World,((Instr.storeAt 47 (.pointer p) (k.v)).run prog am=.ok () an)/\
 K (.tuple #[]) an)\/
 (∃ z:List PanicEntry,(O=.panicked z)/\b z am))\/
 (∃ y:List PanicEntry,(N=.panicked y)/\b y al))\/
 (∃ t:List PanicEntry,(I=.panicked t)/\b t ak))
 (nC 152 #[.bool false] c λ Q ao=>
 ((Q=.returned (.tuple #[]))/\
 nC 154 #[.pointer e,nI (wI d)] ao λ T ap=>
 (∃ g:Sl,(T=.returned (g.v))/\
 nC 75 #[g.v] ap λ U aq=>
 (∃ l:Sl,(U=.returned (l.v))/\
 ∃ ar:World,((Instr.storeAt 47 (.pointer p) (l.v)).run prog aq=.ok () ar)/\
 K (.tuple #[]) ar)\/
 (∃ D:List PanicEntry,(U=.panicked D)/\b D aq))\/
 (∃ C:List PanicEntry,(T=.panicked C)/\b C ap))\/
 (∃ A:List PanicEntry,(Q=.panicked A)/\b A ao)))
 (nC 152 #[.bool false] c λ V ac=>
 ((V=.returned (.tuple #[]))/\
 nC 154 #[.pointer e,nI (wI d)] ac λ X ad=>
 (∃ i:Sl,(X=.returned (i.v))/\
 nC 75 #[i.v] ad λ Y ae=>
 (∃ m:Sl,(Y=.returned (m.v))/\
 ∃ af:World,((Instr.storeAt 47 (.pointer p) (m.v)).run prog ae=.ok () af)/\
 K (.tuple #[]) af)\/
 (∃ G:List PanicEntry,(Y=.panicked G)/\b G ae))\/
 (∃ F:List PanicEntry,(X=.panicked F)/\b F ad))\/
 (∃ E:List PanicEntry,(V=.panicked E)/\b E ac)))
 (nC 152 #[.bool false] c λ J ag=>
 ((J=.returned (.tuple #[]))/\
 nC 154 #[.pointer e,nI (wI d)] ag λ L ah=>
 (∃ j:Sl,(L=.returned (j.v))/\
 nC 75 #[j.v] ah λ M ai=>
 (∃ n:Sl,(M=.returned (n.v))/\
 ∃ aj:World,((Instr.storeAt 47 (.pointer p) (n.v)).run prog ai=.ok () aj)/\
 K (.tuple #[]) aj)\/
 (∃ x:List PanicEntry,(M=.panicked x)/\b x ai))\/
 (∃ v:List PanicEntry,(L=.panicked v)/\b v ah))\/
 (∃ u:List PanicEntry,(J=.panicked u)/\b u ag)))\/
 (∃ s:List PanicEntry,(H=.panicked s)/\b s c)
theorem Zzn (d:Option Addr) (b:Option Addr) (c:Option Addr) (a:List PanicEntry->World->Prop) (K:nK) (w : nW) (h:B153 d b c a K w):Zba prog 153 #[.pointer d,.pointer b,.pointer c] w a K:=cqx (sk:=.leaf) h func153
end
end Go.Proofs.YtlplemdmegpoeaaGreatDoor
namespace Go.VC
abbrev ZY:=Nat->Option Obj
def ZY.none:ZY:=λ _=>Option.none
def ZY.one (b:Nat) (o:Obj):ZY:=λ i=>if i=b then some o else Option.none
def ZY.add (R h:ZY):ZY:=λ i=>match R i with|some o=>some o| .none=>h i
def ZY.set (R:ZY) (b:Nat) (o:Obj):ZY:=λ i=>if i=b then some o else R i
def ZY.dis (R h:ZY):Prop:=∀ i,h i≠.none->R i=.none
abbrev HP:=ZY->Prop
structure Cx where
 m:ZY
 os:Os
 tape:Nat->Question->Nat
 output:Array (Nat × ByteArray)
def Cx.add (R:Cx) (h:ZY):Cx:={ R with m:=R.m.add h }
def Cx.set (R:Cx) (b:Nat) (o:Obj):Cx:={ R with m:=R.m.set b o }
def Cx.dis (R:Cx) (h:ZY):Prop:=R.m.dis h
def Sat:Cx->List HP->World->Prop
 |R,[],w=>(∀ b o,R.m b=some o->w.heap[b]? =some o)/\w.os=R.os/\w.tape=R.tape/\w.output=R.output
 |R,H::Hs,w=>∃ h,H h/\R.dis h/\Sat (R.add h) Hs w
def pts (b:Nat) (o:Obj):HP:=λ h=>h=ZY.one b o
def pur (p:Prop):HP:=λ h=>p/\h=ZY.none
def exs {α:Type} (f:α->HP):HP:=λ h=>∃ x,f x h
def Zah:List HP->HP
 |[]=>λ h=>h=ZY.none
 |H::Hs=>λ h=>∃ h1 h2,H h1/\Zah Hs h2/\h1.dis h2/\h=h1.add h2
theorem ZY.add_none (R:ZY):R.add ZY.none=R:=by
 funext i;unfold ZY.add ZY.none;cases R i<;>rfl
theorem ZY.add_assoc (R a b:ZY):(R.add a).add b=R.add (a.add b):=by
 funext i;simp only [ZY.add];cases R i<;>simp
theorem ZY.add_comm {a b:ZY} (h:a.dis b):a.add b=b.add a:=by
 funext i
 simp only [ZY.add];cases hb:b i with
 |none=>cases a i<;>rfl
 |some o=>rw [h i (by rw [hb];simp)]
theorem ZY.dis_symm {a b:ZY} (h:a.dis b):b.dis a:=λ i hi=>by
 cases hb:b i with
 |none=>rfl
 |some o=>exact absurd (h i (by rw [hb];simp)) hi
theorem ZY.dis_add {R a b:ZY} (h1:R.dis a) (h2:(R.add a).dis b):R.dis (a.add b):=λ i hi=>by
 cases ha:a i with
 |some o=>exact h1 i (by rw [ha];simp)
 |none=>
  have hb:b i≠.none:=by simpa [ZY.add,ha] using hi
  have:=h2 i hb;simp only [ZY.add] at this;cases hr:R i with
  |none=>rfl
  |some o=>rw [hr] at this;cases this
theorem ZY.dis_of_add {R a b:ZY} (h2:(R.add a).dis b):R.dis b/\a.dis b:=by
 refine ⟨λ i hi=>?_,λ i hi=>?_⟩
 ·have:=h2 i hi;simp only [ZY.add] at this;cases hr:R i with
  |none=>rfl
  |some o=>rw [hr] at this;cases this
 ·have:=h2 i hi;simp only [ZY.add] at this;cases hr:R i with
  |none=>rw [hr] at this;exact this
  |some o=>rw [hr] at this;cases this
theorem ZY.add_dis {R a b:ZY} (h1:R.dis b) (h2:a.dis b):(R.add a).dis b:=λ i hi=>by
 simp only [ZY.add,h1 i hi,h2 i hi]
theorem Cx.add_none (R:Cx):R.add ZY.none=R:=by unfold Cx.add;rw [ZY.add_none]
theorem Cx.add_assoc (R:Cx) (a b:ZY):(R.add a).add b=R.add (a.add b):=by unfold Cx.add;simp only [ZY.add_assoc]
theorem Cx.dis_add {R:Cx} {a b:ZY} (h1:R.dis a) (h2:(R.add a).dis b):R.dis (a.add b):=ZY.dis_add h1 h2
theorem Cx.dis_of_add {R:Cx} {a b:ZY} (h2:(R.add a).dis b):R.dis b/\a.dis b:=ZY.dis_of_add h2
theorem Cx.add_dis {R:Cx} {a b:ZY} (h1:R.dis b) (h2:a.dis b):(R.add a).dis b:=ZY.add_dis h1 h2
theorem Cx.m_add (R:Cx) (h:ZY):(R.add h).m=R.m.add h:=rfl
def Cx.like (R R':Cx):Prop:=R'.os=R.os/\R'.tape=R.tape/\R'.output=R.output
theorem Sat.of_ro:∀ {Hs:List HP} {R:Cx} {w:World} {b:Nat} {o:Obj},Sat R Hs w->R.m b=some o->w.heap[b]? =some o
 |[],_,_,_,_,h,hb=>h.1 _ _ hb
 |_::_,_,_,b,o,h,hb=>by
  obtain ⟨h',_,_,hs⟩:=h;exact hs.of_ro (by simp only [Cx.m_add,ZY.add,hb])
theorem Sat.streams:∀ {Hs:List HP} {R:Cx} {w:World},Sat R Hs w->w.os=R.os/\w.tape=R.tape/\w.output=R.output
 |[],_,_,h=>h.2
 |_::_,_,_,h=>let ⟨_,_,_,hs⟩:=h;hs.streams
structure Alk (w w':World):Prop where
 heap:w'.heap=w.heap
 os:w'.os=w.os
 tape:w'.tape=w.tape
 output:w'.output=w.output
theorem Sat.alk:∀ {Hs:List HP} {R:Cx} {w w':World},Sat R Hs w->Alk w w'->Sat R Hs w'
 |[],_,_,_,h,e=>⟨λ b o hb=>by rw [e.heap];exact h.1 b o hb,e.os.trans h.2.1,e.tape.trans h.2.2.1,e.output.trans h.2.2.2⟩
 |_::_,_,_,_,h,e=>let ⟨h',hH,hd,hs⟩:=h;⟨h',hH,hd,hs.alk e⟩
theorem Sat.drew {R:Cx} {Hs:List HP} {w:World} (h:Sat R Hs w):Sat R Hs w.drew:=h.alk ⟨rfl,rfl,rfl,rfl⟩
theorem Sat.swap {R:Cx} {A B:HP} {Hs:List HP} {w:World} (h:Sat R (A::B::Hs) w):Sat R (B::A::Hs) w:=by
 obtain ⟨a,hA,hda,b,hB,hdb,hs⟩:=h;obtain ⟨h1,h2⟩:=Cx.dis_of_add hdb;refine ⟨b,hB,h1,a,hA,Cx.add_dis hda (ZY.dis_symm h2),?_⟩;rw [Cx.add_assoc,<-ZY.add_comm h2,<-Cx.add_assoc];exact hs
theorem Sat.cons {R:Cx} {A:HP} {Hs Hs':List HP} {w w':World} (k:∀ R',Sat R' Hs w->Sat R' Hs' w') (h:Sat R (A::Hs) w):Sat R (A::Hs') w':=
 let ⟨a,hA,hd,hs⟩:=h;⟨a,hA,hd,k _ hs⟩
theorem Sat.perm {Hs Hs':List HP} (p:Hs.Perm Hs'):∀ {R:Cx} {w:World},Sat R Hs w->Sat R Hs' w:=by
 induction p with
 |nil=>exact λ h=>h
 |cons x _ ih=>exact λ h=>h.cons λ _=>ih
 |swap x y l=>exact λ h=>h.swap
 |trans _ _ ih1 ih2=>exact λ h=>ih2 (ih1 h)
theorem Sat.ro_of:∀ {Hs:List HP} {R R':Cx} {w:World},(∀ b o,R'.m b=some o->R.m b=some o)->R.like R'->Sat R Hs w->Sat R' Hs w
 |[],_,_,_,k,e,h=>⟨λ b o hb=>h.1 b o (k b o hb),h.2.1.trans e.1.symm,h.2.2.1.trans e.2.1.symm,h.2.2.2.trans e.2.2.symm⟩
 |_::_,R,R',_,k,e,h=>by
  obtain ⟨a,hA,hd,hs⟩:=h;refine ⟨a,hA,λ i hi=>?_,Sat.ro_of (R:=R.add a) (R':=R'.add a) (λ b o hb=>?_) e hs⟩
  ·cases hr:R'.m i with
   |none=>rfl
   |some o=>have:=hd i hi;rw [k i o hr] at this;cases this
  ·simp only [Cx.m_add,ZY.add] at hb ⊢
   cases hr':R'.m b with
   |some o'=>rw [hr'] at hb;rw [k b o' hr'];exact hb
   |none=>
    rw [hr'] at hb;have hn:=hd b (by simp only at hb;rw [hb];simp);rw [hn];exact hb
theorem Sat.drop {R:Cx} {A:HP} {Hs:List HP} {w:World} (h:Sat R (A::Hs) w):Sat R Hs w:=by
 obtain ⟨a,_,hd,hs⟩:=h;exact Sat.ro_of (R:=R.add a) (R':=R) (λ b o hb=>by simp only [Cx.m_add,ZY.add,hb]) ⟨rfl,rfl,rfl⟩ hs
theorem Sat.lend {R:Cx} {b:Nat} {o:Obj} {Hs:List HP} {w:World}:Sat R (pts b o::Hs) w↔R.m b=.none/\Sat (R.add (ZY.one b o)) Hs w:=by
 constructor
 ·rintro ⟨a,rfl,hd,hs⟩
  exact ⟨hd b (by simp [ZY.one]),hs⟩
 ·rintro ⟨hb,hs⟩
  refine ⟨_,rfl,λ i hi=>?_,hs⟩;by_cases h:i=b
  ·subst h;exact hb
  ·simp [ZY.one,h] at hi
theorem Cx.lent {R:Cx} {b:Nat} {o:Obj} (h:R.m b=.none):(R.add (ZY.one b o)).m b=some o:=by
 simp [Cx.m_add,ZY.add,h,ZY.one]
theorem Cx.kept {R:Cx} {h:ZY} {b:Nat} {o:Obj} (hb:R.m b=some o):(R.add h).m b=some o:=by
 simp only [Cx.m_add,ZY.add,hb]
theorem Sat.at {R:Cx} {b:Nat} {o:Obj} {Hs:List HP} {w:World} (h:Sat R (pts b o::Hs) w):w.heap[b]? =some o:=
 let ⟨hb,hs⟩:=Sat.lend.1 h
 hs.of_ro (Cx.lent hb)
theorem Sat.pur {R:Cx} {p:Prop} {Hs:List HP} {w:World}:Sat R (VC.pur p::Hs) w↔p/\Sat R Hs w:=by
 constructor
 ·rintro ⟨a,⟨hp,rfl⟩,_,hs⟩
  rw [Cx.add_none] at hs;exact ⟨hp,hs⟩
 ·rintro ⟨hp,hs⟩
  exact ⟨ZY.none,⟨hp,rfl⟩,λ i hi=>absurd rfl hi,by rw [Cx.add_none];exact hs⟩
theorem Sat.exs {α:Type} {R:Cx} {f:α->HP} {Hs:List HP} {w:World}:Sat R (VC.exs f::Hs) w↔∃ x,Sat R (f x::Hs) w:=by
 constructor
 ·rintro ⟨a,⟨x,hx⟩,hd,hs⟩;exact ⟨x,a,hx,hd,hs⟩
 ·rintro ⟨x,a,hx,hd,hs⟩;exact ⟨a,⟨x,hx⟩,hd,hs⟩
theorem Sat.star {w:World}:∀ {l:List HP} {R:Cx} {Hs:List HP},Sat R (Zah l::Hs) w↔Sat R (l++Hs) w
 |[],R,Hs=>by
  constructor
  ·rintro ⟨a,rfl,_,hs⟩;rw [Cx.add_none] at hs;exact hs
  ·intro hs;exact ⟨ZY.none,rfl,λ i hi=>absurd rfl hi,by rw [Cx.add_none];exact hs⟩
 |A::l,R,Hs=>by
  constructor
  ·rintro ⟨x,⟨h1,h2,hA,hl,hd,rfl⟩,hdx,hs⟩
   have d1:R.dis h1:=λ i hi=>hdx i (by simp only [ZY.add];cases h:h1 i<;>simp_all);refine ⟨h1,hA,d1,Sat.star.1 ⟨h2,hl,Cx.add_dis (λ i hi=>hdx i ?_) hd,by rw [Cx.add_assoc];exact hs⟩⟩;simp only [ZY.add];cases h:h1 i<;>simp_all
  ·rintro ⟨h1,hA,d1,hs⟩
   obtain ⟨h2,hl,d2,hs⟩:=Sat.star.2 hs;refine ⟨h1.add h2,⟨h1,h2,hA,hl,(Cx.dis_of_add d2).2,rfl⟩,Cx.dis_add d1 d2,by rw [<-Cx.add_assoc];exact hs⟩
def _root_.Go.World.setBlock (w:World) (b:Nat) (o:Obj):World:={ w with heap:=w.heap.setIfInBounds b o }
theorem ZY.set_add {R h:ZY} {b:Nat} {o o':Obj} (hb:R b=some o):(R.set b o').add h=(R.add h).set b o':=by
 funext i
 simp only [ZY.add,ZY.set];by_cases hi:i=b
 ·subst hi;simp
 ·simp [hi]
theorem Cx.set_add {R:Cx} {h:ZY} {b:Nat} {o o':Obj} (hb:R.m b=some o):(R.set b o').add h=(R.add h).set b o':=by
 unfold Cx.set Cx.add;simp only [ZY.set_add hb]
theorem Sat.upd:∀ {Hs:List HP} {R:Cx} {w:World} {b:Nat} {o:Obj} (o':Obj),Sat R Hs w->R.m b=some o->Sat (R.set b o') Hs (w.setBlock b o')
 |[],R,w,b,o,o',h,hb=>by
  refine ⟨λ i x hx=>?_,h.2⟩;have hlt:b<w.heap.size:=(Array.getElem?_eq_some_iff.1 (h.1 b o hb)).1;simp only [Cx.set,ZY.set] at hx;simp only [World.setBlock];by_cases hi:i=b
  ·subst hi
   simp only [if_true,Option.some.injEq] at hx;subst hx;simp [hlt]
  ·rw [if_neg hi] at hx
   rw [Array.getElem?_setIfInBounds_ne (Ne.symm hi)];exact h.1 i x hx
 |H::Hs,R,w,b,o,o',h,hb=>by
  obtain ⟨a,hA,hd,hs⟩:=h;have:=Sat.upd o' hs (b:=b) (o:=o) (Cx.kept hb);refine ⟨a,hA,λ i hi=>?_,?_⟩
  ·have hr:=hd i hi
   simp only [Cx.set,ZY.set];by_cases h:i=b
   ·subst h;rw [hb] at hr;cases hr
   ·rw [if_neg h];exact hr
  ·rw [Cx.set_add hb];exact this
theorem Sat.setPts {R:Cx} {b:Nat} {o:Obj} {Hs:List HP} {w:World} (o':Obj) (h:Sat R (pts b o::Hs) w):Sat R (pts b o'::Hs) (w.setBlock b o'):=by
 obtain ⟨hb,hs⟩:=Sat.lend.1 h;refine Sat.lend.2 ⟨hb,?_⟩;have h1:=Sat.upd o' hs (b:=b) (o:=o) (Cx.lent hb);have e:(R.add (ZY.one b o)).set b o'=R.add (ZY.one b o'):=by
  unfold Cx.set Cx.add
  congr 1
  funext i
  simp only [ZY.add,ZY.set,ZY.one];by_cases hi:i=b
  ·subst hi;simp [hb]
  ·simp [hi]
 rw [e] at h1;exact h1
theorem Sat.ro_lt {R:Cx} {Hs:List HP} {w:World} (h:Sat R Hs w) {b:Nat} (hb:w.heap.size<=b):R.m b=.none:=by
 cases hr:R.m b with
 |none=>rfl
 |some o=>
  have:=h.of_ro hr;rw [Array.getElem?_eq_none hb] at this;cases this
theorem Sat.grow:∀ {Hs:List HP} {R:Cx} {w:World} (o:Obj),Sat R Hs w->Sat (R.add (ZY.one w.heap.size o)) Hs (w.alloc o)
 |[],R,w,o,h=>by
  refine ⟨λ b x hx=>?_,h.2⟩;simp only [Cx.m_add,ZY.add,ZY.one] at hx;cases hr:R.m b with
  |some y=>
   rw [hr] at hx;have:=h.1 b y hr;have hlt:b<w.heap.size:=(Array.getElem?_eq_some_iff.1 this).1;simp only at hx;simp only [World.alloc];rw [Array.getElem?_push_lt hlt,<-Array.getElem?_eq_getElem,this,hx]
  |none=>
   rw [hr] at hx;simp only at hx;split at hx
   ·rename_i hb;subst hb;cases hx;show (w.heap.push o)[w.heap.size]? =_;simp
   ·cases hx
 |H::Hs,R,w,o,h=>by
  have hR:R.m w.heap.size=.none:=Sat.ro_lt h (Nat.le_refl _);obtain ⟨a,hA,hd,hs⟩:=h;have hadd:(R.add a).m w.heap.size=.none:=Sat.ro_lt hs (Nat.le_refl _);have ha:a w.heap.size=.none:=by simpa [Cx.m_add,ZY.add,hR] using hadd
  have:=Sat.grow o hs;have hdis:(ZY.one w.heap.size o).dis a:=by
   intro i hi;simp only [ZY.one];split
   ·rename_i h;subst h;exact absurd ha hi
   ·rfl
  refine ⟨a,hA,Cx.add_dis hd hdis,?_⟩;rw [Cx.add_assoc,ZY.add_comm hdis,<-Cx.add_assoc];exact this
theorem Sat.alloc {R:Cx} {Hs:List HP} {w:World} (o:Obj) (h:Sat R Hs w):Sat R (pts w.heap.size o::Hs) (w.alloc o):=
 Sat.lend.2 ⟨Sat.ro_lt h (Nat.le_refl _),Sat.grow o h⟩
def Cx.of (w:World):Cx:={ m:=λ b=>w.heap[b]?,os:=w.os,tape:=w.tape,output:=w.output }
theorem Sat.start (w:World):Sat (Cx.of w) [] w:=⟨λ _ _ h=>h,rfl,rfl,rfl⟩
class Zd2 (b:Nat) (Hs:List HP) (o:outParam Obj) (Rest:outParam (List HP)):Prop where
 perm:Hs.Perm (pts b o::Rest)
instance (priority:=2000) Zd2.head {b:Nat} {o:Obj} {Hs:List HP}:Zd2 b (pts b o::Hs) o Hs:=⟨List.Perm.refl _⟩
instance Zd2.tail {b:Nat} {H:HP} {Hs:List HP} {o:Obj} {Rest:List HP} [t:Zd2 b Hs o Rest]:Zd2 b (H::Hs) o (H::Rest):=
 ⟨(t.perm.cons H).trans (.swap _ _ _)⟩
class ZqI (A:HP) (Hs:List HP) (Rest:outParam (List HP)):Prop where
 perm:Hs.Perm (A::Rest)
instance (priority:=2000) ZqI.head {A:HP} {Hs:List HP}:ZqI A (A::Hs) Hs:=⟨List.Perm.refl _⟩
instance ZqI.tail {A H:HP} {Hs:List HP} {Rest:List HP} [t:ZqI A Hs Rest]:ZqI A (H::Hs) (H::Rest):=
 ⟨(t.perm.cons H).trans (.swap _ _ _)⟩
theorem Sat.takeP {R:Cx} {Hs Rest:List HP} {w:World} {b:Nat} {o:Obj} (h:Sat R Hs w) (t:Zd2 b Hs o Rest):Sat R (pts b o::Rest) w:=h.perm t.perm
theorem Sat.take {R:Cx} {Hs Rest:List HP} {w:World} (A:HP) [t:ZqI A Hs Rest] (h:Sat R Hs w):Sat R (A::Rest) w:=h.perm t.perm
theorem Sat.look {R:Cx} {Hs Rest:List HP} {w:World} {o:Obj} (b:Nat) [t:Zd2 b Hs o Rest] (h:Sat R Hs w):w.heap[b]? =some o:=(h.takeP t).at
theorem eqS {R:Cx} {Hs:List HP} {w:World} (h:Sat R Hs w):∀ w',(λ w'=>w'=w) w'->Sat R Hs w':=λ _ e=>by rw [show _=w from e];exact h
theorem Zbg {R:Cx} {Hs:List HP}:∀ w',Sat R Hs w'->Sat R Hs w':=λ _ h=>h
def Pre:List Value->List Value->Prop
 |[],_=>True
 |v::vs,x::l=>v=x/\Pre vs l
 |_::_,[]=>False
theorem Pre.get:∀ {vs l:List Value},Pre vs l->∀ (i:Nat) (v:Value),vs[i]? =some v->l[i]? =some v
 |[],_,_,i,v,h=>by simp at h
 |x::vs,y::l,hp,0,v,h=>by simp only [List.getElem?_cons_zero] at h ⊢;rw [<-hp.1];exact h
 |x::vs,y::l,hp,i + 1,v,h=>by simp only [List.getElem?_cons_succ] at h ⊢;exact hp.2.get i v h
 |_::_,[],hp,_,_,_=>hp.elim
theorem Zaw {w:World} {b:Nat} {l:List Value} {T:TypeId} {fr:Nat × Nat} (h:w.heap[b]? =some (.cells l.toArray T fr)) (i:Nat):w.cell? ⟨b,i,none⟩=l[i]?:=by
 simp [World.cell?,h]
theorem Zy (b o i:Nat):Addr.add ⟨b,o,none⟩ i=⟨b,o + i,none⟩:=by
 unfold Addr.add;split
 ·rename_i h;subst h;rfl
 ·rfl
theorem At.mk {S:World->Prop} {b off:Nat} {vs l:List Value} {T:TypeId} {fr:Nat × Nat} (h:∀ w,S w->w.heap[b]? =some (.cells l.toArray T fr)) (hp:Pre vs (l.drop off)):At S ⟨b,off,none⟩ vs:=by
 intro w hw i v hv;have:=hp.get i v hv;rw [List.getElem?_drop] at this;rw [Zy,Zaw (h w hw),this]
theorem At.own {S:World->Prop} {R:Cx} {Hs Rest:List HP} {b off:Nat} {vs l:List Value} {T:TypeId} {fr:Nat × Nat} (hS:∀ w,S w->Sat R Hs w)
  [t:Zd2 b Hs (.cells l.toArray T fr) Rest] (hp:Pre vs (l.drop off)):At S ⟨b,off,none⟩ vs:=At.mk (λ w hw=>(hS w hw).look b) hp
theorem oA {R : Cx} {Hs Rest : List HP} {w : World} {b off : Nat} {vs l : List Value} {T : TypeId} {fr : Nat × Nat} (h : Sat R Hs w) [t : Zd2 b Hs (.cells l.toArray T fr) Rest] (hp : Pre vs (l.drop off) := by repeat (first | exact trivial | refine ⟨rfl, ?_⟩)) : At (λ w' => w' = w) ⟨b, off, none⟩ vs := At.own (eqS h) hp
theorem oS {R : Cx} {Hs Rest : List HP} {b off : Nat} {vs l : List Value} {T : TypeId} {fr : Nat × Nat} [t : Zd2 b Hs (.cells l.toArray T fr) Rest] (hp : Pre vs (l.drop off) := by repeat (first | exact trivial | refine ⟨rfl, ?_⟩)) : At (Sat R Hs) ⟨b, off, none⟩ vs := At.own Zbg hp
theorem Za {R:Cx} {Hs:List HP} {w:World} {o:Obj} {K:Nat->World->Prop} (hw:Sat R Hs w) (k:∀ b w',Sat R (pts b o::Hs) w'->K b w'):New o K w:=
 k _ _ (Sat.alloc o hw)
theorem Zo {R:Cx} {Hs:List HP} {w:World} {F:(World->Prop)->World->Prop} (hw:Sat R Hs w) (k:∀ w',Sat R Hs w'->F (Sat R Hs) w'):Drw w F:=
 ⟨Sat R Hs,Sat R Hs,hw.drew,λ w' h=>⟨h,k w' h⟩⟩
theorem ZC {R:Cx} {Hs:List HP} {w:World} {F:(World->Prop)->World->Prop} (S:World->Prop) (hw:Sat R Hs w) (hS:∀ w',Sat R Hs w'->S w') (k:∀ w',Sat R Hs w'->F S w'):Drw w F:=
 ⟨Sat R Hs,S,hw.drew,λ w' h=>⟨hS w' h,k w' h⟩⟩
def tru:HP:=λ _=>True
theorem Sat.tru {R:Cx} {Hs:List HP} {w:World} (h:Sat R Hs w):Sat R (VC.tru::Hs) w:=⟨ZY.none,trivial,λ _ hi=>absurd rfl hi,by rw [Cx.add_none];exact h⟩
theorem Sat.absorb {R:Cx} {A:HP} {Hs:List HP} {w:World} (h:Sat R (A::VC.tru::Hs) w):Sat R (VC.tru::Hs) w:=by
 obtain ⟨a,_,hda,b,_,hdb,hs⟩:=h;refine ⟨a.add b,trivial,Cx.dis_add hda hdb,?_⟩;rw [<-Cx.add_assoc];exact hs
theorem ZaV {R:Cx} {Hs:List HP} {w:World} {F:(World->Prop)->World->Prop} (hw:Sat R Hs w) (k:∀ w',Sat R (VC.tru::Hs) w'->F (Sat R (VC.tru::Hs)) w'):Drw w F:=
 ⟨_,_,hw.tru.drew,λ w' h=>⟨h,k w' h⟩⟩
theorem Zf {x:Int} (h0 : -9223372036854775808<=x := by omega) (h1 : x<9223372036854775808 := by omega):wI x=x:=by
 show IntKind.i64.wrap x=x;have:IntKind.i64.wrap x=(x + 9223372036854775808) % 18446744073709551616 - 9223372036854775808:=by
  rw [IntKind.wrap_i64]
 rw [this];omega
structure Ro (R:Cx) (s:Sl) (xs:List Value):Prop where
 len:s.len=xs.length
 bound:xs.length<=9223372036854775807
 mem:xs≠[]->∃ b off l T fr,s.a=some ⟨b,off,none⟩/\R.m b=some (.cells l T fr)/\∀ (i:Nat) v,xs[i]? =some v->l[off + i]? =some v
theorem Ro.add {R:Cx} {h:ZY} {s:Sl} {xs:List Value} (hr:Ro R s xs):Ro (R.add h) s xs:=
 ⟨hr.len,hr.bound,λ hx=>let ⟨b,off,l,T,fr,ha,hb,hl⟩:=hr.mem hx;⟨b,off,l,T,fr,ha,Cx.kept hb,hl⟩⟩
theorem Ro.addr {R:Cx} {s:Sl} {xs:List Value} (hr:Ro R s xs) {k:Nat} (hk:k<xs.length):∃ a,s.a=some a/\
  ∀ {S:World->Prop} {Hs:List HP},(∀ w,S w->Sat R Hs w)->At S (a.add k) [xs[k]]:=by
 obtain ⟨b,off,l,T,fr,ha,hb,hl⟩:=hr.mem (by intro h;rw [h] at hk;simp at hk);refine ⟨_,ha,λ hS w hw i v hv=>?_⟩;have hi:i=0:=by
  cases i with
  |zero=>rfl
  |succ i=>simp at hv
 subst hi;simp only [List.getElem?_cons_zero,Option.some.injEq] at hv;subst hv;rw [Zy,Zy];have:=(hS w hw).of_ro hb;simp only [World.cell?,this,Option.isSome_none,Bool.false_eq_true,if_false];exact hl k _ (List.getElem?_eq_getElem hk)
abbrev RoI (R:Cx) (s:Sl) (xs:List Int):Prop:=Ro R s (xs.map (Value.int .i64))
theorem RoI.len {R:Cx} {s:Sl} {xs:List Int} (h:RoI R s xs):s.len=xs.length:=by rw [Ro.len h];simp
theorem RoI.bound {R:Cx} {s:Sl} {xs:List Int} (h:RoI R s xs):xs.length<=9223372036854775807:=by have:=Ro.bound h;simpa using this
theorem RoI.addr {R:Cx} {s:Sl} {xs:List Int} (hr:RoI R s xs) {k:Nat} (hk:k<xs.length):∃ a,s.a=some a/\
  ∀ {S:World->Prop} {Hs:List HP},(∀ w,S w->Sat R Hs w)->At S (a.add k) [.int .i64 xs[k]]:=by
 obtain ⟨a,ha,h⟩:=Ro.addr hr (k:=k) (by simpa using hk);refine ⟨a,ha,λ hS=>?_⟩;have:=h hS;simpa using this
theorem RoI.idx {S:World->Prop} {R:Cx} {Hs:List HP} {s:Sl} {xs:List Int} (hr:RoI R s xs) (hS:∀ w,S w->Sat R Hs w) {k:Nat} (hk:k<xs.length) {F:Int->Prop} (h:F xs[k]):
  Rng (k:Int) s.len (Zc s.a λ a=>∃ t:Int,(At S (a.add (k:Int).toNat) [.int .i64 t])/\F t):=by
 obtain ⟨a,ha,hat⟩:=RoI.addr hr hk;have hl:=RoI.len hr;exact Rng.mk (by omega) (by omega) (Zc.mk ha ⟨xs[k],hat hS,h⟩)
theorem Ro.idxS {S:World->Prop} {R:Cx} {Hs:List HP} {m:Sl} {ms:List Sl} (hr:Ro R m (ms.map Sl.v)) (hS:∀ w,S w->Sat R Hs w) {k:Nat} (hk:k<ms.length) {F:Sl->Prop} (h:F ms[k]):
  Rng (k:Int) m.len (Zc m.a λ a=>∃ t:Sl,(At S (a.add (k:Int).toNat) [.slice t.a t.len t.cap])/\F t):=by
 obtain ⟨a,ha,hat⟩:=hr.addr (k:=k) (by simpa using hk);have hl:m.len=ms.length:=by have:=hr.len;simpa using this
 refine Rng.mk (by omega) (by omega) (Zc.mk ha ⟨ms[k],?_,h⟩);have:=hat hS;simpa [Sl.v] using this
def ZeD:List Value->Nat->List Value->List Value
 |l,_,[]=>l
 |l,o,v::vs=>ZeD (l.set o v) (o + 1) vs
theorem ZbG:∀ (vs l:List Value) (o:Nat),(ZeD l o vs).length=l.length
 |[],_,_=>rfl
 |_::vs,l,o=>by rw [ZeD,ZbG vs,List.length_set]
theorem Zfj:∀ (vs l:List Value) (o:Nat),o + vs.length<=l.length->ZeD l o vs=l.take o++vs++l.drop (o + vs.length)
 |[],l,o,_=>by simp [ZeD]
 |v::vs,l,o,h=>by
  simp only [List.length_cons] at h;rw [ZeD,Zfj vs (l.set o v) (o + 1) (by simp;omega)];have e1:(l.set o v).take (o + 1)=l.take o++[v]:=by
   rw [List.take_succ_eq_append_getElem (by simp;omega)];simp [List.take_set_of_le]
  have e2:(l.set o v).drop (o + 1 + vs.length)=l.drop (o + (vs.length + 1)):=by
   rw [List.drop_set_of_lt (by omega)];congr 1;omega
  rw [e1,e2];simp
theorem ZjO {w:World} {b o:Nat} {l:List Value} {T:TypeId} {fr:Nat × Nat} (h:w.heap[b]? =some (.cells l.toArray T fr)) (v:Value):
  w.setCell ⟨b,o,none⟩ v=w.setBlock b (.cells (l.set o v).toArray T fr):=by
 unfold World.setCell World.setBlock
 congr 1
 apply Array.ext_getElem?;intro i;rw [Array.getElem?_modify,Array.getElem?_setIfInBounds];by_cases hi:b=i
 ·subst hi
  obtain ⟨hlt,hg⟩:=Array.getElem?_eq_some_iff.1 h;simp [hlt,hg]
 ·simp [hi]
theorem ZaP {R:Cx} {Hs:List HP} {b:Nat} {T:TypeId} {fr:Nat × Nat}:∀ (vs l:List Value) (o:Nat) (w:World),Sat R (pts b (.cells l.toArray T fr)::Hs) w->
  Sat R (pts b (.cells (ZeD l o vs).toArray T fr)::Hs) (w.setCells b o vs)
 |[],_,_,_,h=>h
 |v::vs,l,o,w,h=>by
  rw [World.setCells,ZjO h.at,ZeD];exact ZaP vs (l.set o v) (o + 1) _ (h.setPts _)
def Zna (n:Nat) (fr:Nat × Nat):Prop:=fr.2=0\/n<=fr.1
theorem Zna.le {n m:Nat} {fr:Nat × Nat} (h:Zna n fr) (hm:m<=n):Zna m fr:=h.imp id λ h=>Nat.le_trans hm h
theorem ZcT {w:World} {b:Nat} {l:Array Value} {T:TypeId} {fr:Nat × Nat} {n:Nat} (h:w.heap[b]? =some (.cells l T fr)) (hf:Zna n fr) {i:Nat} (hi:i<n):w.frozen? ⟨b,i,none⟩=false:=by
 obtain ⟨lo,hi'⟩:=fr;simp only [World.frozen?,h];rcases hf with hf|hf<;>simp only at hf<;>simp<;>omega
def ZaE (vs:List Value):Bool:=vs.all (·.oneCell')
theorem ZZ {P:Program} {R:Cx} {Hs Rest:List HP} {w:World} {b o:Nat} {l:List Value} {T t:TypeId} {fr:Nat × Nat} {v:Value} {K:World->Prop}
  (hw:Sat R Hs w) [tk:Zd2 b Hs (.cells l.toArray T fr) Rest] (hsz:(P.info? t).map (·.size)=some v.cells.toList.length) (h1:ZaE v.cells.toList=true) (hb:o + v.cells.toList.length<=l.length)
  (k:∀ w',Sat R (pts b (.cells (ZeD l o v.cells.toList).toArray T fr)::Rest) w'->K w') (hfr:Zna l.length fr:=by first|assumption|exact Or.inl rfl):
  ∃ w',(Instr.storeAt t (.pointer (some ⟨b,o,none⟩)) v).run P w=.ok () w'/\K w':=by
 have hp:=hw.takeP tk;have hat:=hp.at;obtain ⟨i,hi,hsz⟩:=Option.map_eq_some_iff.1 hsz;refine ⟨w.setCells b o v.cells.toList,?_,k _ (ZaP _ _ _ _ hp)⟩;have hst:=run_storeCells_cells (P:=P) b o v.cells.toList 0 w (λ j hj=>by
   simp only [Nat.add_zero];rw [Zaw hat];simp;omega) (λ j hj=>ZcT hat hfr (by omega)) (λ u hu=>List.all_eq_true.1 h1 u hu)
 simp only [Nat.add_zero] at hst;simp [Instr.storeAt,Instr.sureAddr,storeVar,sizeOf,typeInfo,hi,hsz,hst]
theorem sRu {P : Program} {R : Cx} {Hs Rest : List HP} {w : World} {b o : Nat} {l : List Value} {T t : TypeId} {fr : Nat × Nat} {v : Value} {K : World -> Prop} (hw : Sat R Hs w) [tk : Zd2 b Hs (.cells l.toArray T fr) Rest]
    (k : ∀ w', Sat R (pts b (.cells (ZeD l o v.cells.toList).toArray T fr) :: Rest) w' -> K w') (hsz : (P.info? t).map (·.size) = some v.cells.toList.length := by kernel_rfl) (h1 : ZaE v.cells.toList = true := by exact rfl) (hb : o + v.cells.toList.length <= l.length := by simp [Value.cells]) (hfr : Zna l.length fr := by first | assumption | exact Or.inl rfl) :
    ∃ w', (Instr.storeAt t (.pointer (some ⟨b, o, none⟩)) v).run P w = .ok () w' /\ K w' := ZZ hw hsz h1 hb k hfr
def Own (s:Sl) (T:TypeId) (xs:List Value):HP:=λ h=>
 (s=⟨none,0,0⟩/\xs=[]/\h=ZY.none)\/∃ b rest fr,s=⟨some ⟨b,0,none⟩,xs.length,(xs++rest).length⟩/\Zna (xs++rest).length fr/\h=ZY.one b (.cells (xs++rest).toArray T fr)
theorem Own.nil {R:Cx} {Hs:List HP} {w:World} {T:TypeId} (h:Sat R Hs w):Sat R (Own ⟨none,0,0⟩ T []::Hs) w:=
 ⟨ZY.none,.inl ⟨rfl,rfl,rfl⟩,λ i hi=>absurd rfl hi,by rw [Cx.add_none];exact h⟩
theorem Own.of_pts {R:Cx} {Hs:List HP} {w:World} {T:TypeId} {b:Nat} {fr:Nat × Nat} {xs rest:List Value} (h:Sat R (pts b (.cells (xs++rest).toArray T fr)::Hs) w) (hf:Zna (xs++rest).length fr:=by first|assumption|exact Or.inl rfl):
  Sat R (Own ⟨some ⟨b,0,none⟩,xs.length,(xs++rest).length⟩ T xs::Hs) w:=
 let ⟨a,ha,hd,hs⟩:=h;⟨a,.inr ⟨b,rest,fr,rfl,hf,ha⟩,hd,hs⟩
theorem Own.cases {R:Cx} {Hs:List HP} {w:World} {T:TypeId} {s:Sl} {xs:List Value} (h:Sat R (Own s T xs::Hs) w):
  (s=⟨none,0,0⟩/\xs=[]/\Sat R Hs w)\/∃ b rest fr,s=⟨some ⟨b,0,none⟩,xs.length,(xs++rest).length⟩/\Zna (xs++rest).length fr/\Sat R (pts b (.cells (xs++rest).toArray T fr)::Hs) w:=by
 obtain ⟨a,ha,hd,hs⟩:=h;rcases ha with ⟨h1,h2,rfl⟩|⟨b,rest,fr,h1,hf,rfl⟩
 ·rw [Cx.add_none] at hs;exact .inl ⟨h1,h2,hs⟩
 ·exact .inr ⟨b,rest,fr,h1,hf,_,rfl,hd,hs⟩
theorem Own.len {R:Cx} {Hs:List HP} {w:World} {T:TypeId} {s:Sl} {xs:List Value} (h:Sat R (Own s T xs::Hs) w):s.len=xs.length:=by
 rcases Own.cases h with ⟨rfl,rfl,_⟩|⟨b,rest,fr,rfl,_,_⟩<;>rfl
theorem Own.lend {R:Cx} {Hs:List HP} {w:World} {T:TypeId} {s:Sl} {xs:List Value} (h:Sat R (Own s T xs::Hs) w) (hb:xs.length<=9223372036854775807):
  ∃ R':Cx,Ro R' s xs/\(∀ s' xs',Ro R s' xs'->Ro R' s' xs')/\Sat R' Hs w/\∀ {Hs' w'},Sat R' Hs' w'->Sat R (Own s T xs::Hs') w':=by
 rcases Own.cases h with ⟨rfl,rfl,h2⟩|⟨b,rest,fr,rfl,hf,h2⟩
 ·exact ⟨R,⟨rfl,by simp,λ h=>absurd rfl h⟩,λ _ _ h=>h,h2,λ h=>Own.nil h⟩
 ·obtain ⟨hn,h3⟩:=Sat.lend.1 h2
  refine ⟨_,⟨rfl,hb,λ _=>⟨b,0,_,T,fr,rfl,Cx.lent hn,λ i v hv=>?_⟩⟩,λ _ _ h=>h.add,h3,λ h=>Own.of_pts (Sat.lend.2 ⟨hn,h⟩)⟩;obtain ⟨hi,rfl⟩:=List.getElem?_eq_some_iff.1 hv;simp [List.getElem?_append_left hi]
def elB (P:Program) (T:TypeId) (bytes:Nat):Bool:=
 match P.info? T with
 |some i=>match i.zero with
  |some z=>i.size==1 && i.bytes==bytes && z.cells.size==1
  |none=>false
 |none=>false
theorem ZnC {P:Program} {T:TypeId} {bytes:Nat} (h:elB P T bytes=true):∃ i z,P.info? T=some i/\i.zero=some z/\i.size=1/\i.bytes=bytes/\z.cells.size=1:=by
 unfold elB at h;split at h
 ·rename_i i hi
  split at h
  ·rename_i z hz
   simp only [Bool.and_eq_true,beq_iff_eq] at h;exact ⟨i,z,hi,hz,h.1.1,h.1.2,h.2⟩
  ·cases h
 ·cases h
structure El (P:Program) (t1 t2 T:TypeId) (bytes:Nat):Prop where
 ht:P.underlying t1=some (.slice T)
 hk:∃ e',P.underlying t2=some (.slice e')
 hi:elB P T bytes=true
theorem ZcY {P:Program} {t1 t2 ty T:TypeId} {bytes:Nat} (E:El P t1 t2 T bytes) {R:Cx} {Hs:List HP} {w:World} {s:Sl} {xs ys:List Value} {src:Value} {n:Nat} {K:Sl->World->Prop}
  (hw:Sat R (Own s T xs::Hs) w) (hs:Src P 1 t2 src n ys w) (h1:ZaE xs=true) (hb:2 * (xs.length + n) * bytes<=281474976710656) (hb':xs.length + n<=9223372036854775807)
  (k:∀ s' w',Sat R (Own s' T (xs++ys)::Hs) w'->K s' w'):
  ∃ w',∃ t:Sl,(Builtin.append_ #[t1,t2] ty #[.slice s.a s.len s.cap,src]).run P w=.ok (.slice t.a t.len t.cap) w'/\K t w':=by
 obtain ⟨i,z,hi,hz,hsize,hbytes,hzc⟩:=ZnC E.hi;have hyn:ys.length=n:=by have:=hs.newsLen;simpa using this
 have hs':Src P i.size t2 src n ys w:=by rw [hsize];exact hs
 have hlen:=Own.len hw;have fit:∀ cap,cap<xs.length + n->Builtin.nextslicecap (xs.length + n) cap * i.bytes<=281474976710656:=λ cap hc=>by
  have h2:Builtin.nextslicecap (xs.length + n) cap<=2 * (xs.length + n):=by
   unfold Builtin.nextslicecap;split
   ·omega
   ·split
    ·omega
    ·have:=nextslicecap_le_wide hc
     unfold Builtin.nextslicecap at this;rw [if_neg (by assumption),if_neg (by assumption)] at this;omega
  rw [hbytes];exact Nat.le_trans (Nat.mul_le_mul_right _ h2) hb
 -- a new row
 have grow:∀ (base:Option Addr) (cap:Nat) (olds:List Value),olds=xs->cap<xs.length + n->(Builtin.firstCells i.size xs.length (.slice base xs.length cap)).run P w.drew=.ok olds.toArray w.drew->Sat R Hs w->
   ∃ w',∃ t:Sl,(Builtin.append_ #[t1,t2] ty #[.slice base xs.length cap,src]).run P w=.ok (.slice t.a t.len t.cap) w'/\K t w':=λ base cap olds ho hc hold hw=>by
  have hr:=run_append_grow_src w t1 t2 ty T i z E.ht hi hz base xs.length cap olds hold src n ys hs' hc (by omega) (fit cap hc);refine ⟨_,⟨some ⟨w.heap.size,0,none⟩,xs.length + n,grownCap w (xs.length + n) cap T⟩,hr,k _ _ ?_⟩;have hz0:(Builtin.zeroCells z.cells (grownCap w (xs.length + n) cap T - (xs.length + n))).size=grownCap w (xs.length + n) cap T - (xs.length + n):=by
   simp [Builtin.zeroCells,hzc]
  have hg:=grownCap_ge w (xs.length + n) cap T;have ho':Obj.cells ((olds++ys).toArray++Builtin.zeroCells z.cells (grownCap w (xs.length + n) cap T - (xs.length + n))) T=.cells ((xs++ys)++(Builtin.zeroCells z.cells (grownCap w (xs.length + n) cap T - (xs.length + n))).toList).toArray T (0,0):=by
   rw [ho]
   congr 1
   apply Array.ext';simp
  have:=Sat.alloc (Obj.cells ((olds++ys).toArray++Builtin.zeroCells z.cells (grownCap w (xs.length + n) cap T - (xs.length + n))) T) (Sat.drew hw);rw [ho'] at this ⊢;have h3:=Own.of_pts this;have e:(⟨some ⟨w.drew.heap.size,0,none⟩,(xs++ys).length,(xs++ys++(Builtin.zeroCells z.cells (grownCap w (xs.length + n) cap T - (xs.length + n))).toList).length⟩:Sl)=⟨some ⟨w.heap.size,0,none⟩,xs.length + n,grownCap w (xs.length + n) cap T⟩:=by
   simp only [List.length_append,Array.length_toList,hz0,World.size_drew,hyn]
   congr 1
   omega
  rw [e] at h3;exact h3
 rcases Own.cases hw with ⟨rfl,rfl,hz2⟩|⟨b,rest,fr,rfl,hfr,hp⟩
 ·by_cases hn0:n=0
  ·subst hn0
   have hy:ys=[]:=List.length_eq_zero_iff.1 hyn;subst hy;obtain ⟨e',he'⟩:=E.hk;refine ⟨w,⟨none,0,0⟩,?_,k _ _ (by simpa using Own.nil hz2)⟩;have hcz:=hs'.cells;simp [Builtin.append_,run_underlying E.ht,run_underlying he',sizeOf,typeInfo,hi,hs'.len,hcz]
  ·exact grow none 0 [] rfl (by simp;omega) (run_firstCells_none w.drew i.size 0 0 0) hz2
 ·by_cases hroom:xs.length + n<=(xs++rest).length
  ·have hat:=hp.at
   have hr:=run_append_room_src w t1 t2 ty T i E.ht hi b 0 xs.length (xs++rest).length src n ys hs' hroom
    (λ j hj=>by rw [Zaw hat,hsize];simp at hroom ⊢;omega) (λ j hj=>ZcT hat hfr (by rw [hsize,Nat.mul_one];simp only [List.length_append] at hroom ⊢;omega))
   refine ⟨_,⟨some ⟨b,0,none⟩,xs.length + n,(xs++rest).length⟩,hr,k _ _ ?_⟩;have h2:=ZaP ys (xs++rest) xs.length w hp;have e1:ZeD (xs++rest) xs.length ys=(xs++ys)++rest.drop n:=by
    rw [Zfj _ _ _ (by rw [hyn];exact hroom),List.take_left',List.drop_append]
    ·simp [hyn]
    ·rfl
   rw [e1] at h2;rw [hsize,Nat.zero_add,Nat.mul_one];have h3:=Own.of_pts h2 (hfr.le (by simp only [List.length_append,List.length_drop] at hroom ⊢;omega));have e:(⟨some ⟨b,0,none⟩,(xs++ys).length,(xs++ys++rest.drop n).length⟩:Sl)=⟨some ⟨b,0,none⟩,xs.length + n,(xs++rest).length⟩:=by
    simp only [List.length_append,List.length_drop,hyn] at hroom ⊢
    congr 1
    omega
   rw [e] at h3;exact h3
  ·have hat:=hp.at
   refine grow (some ⟨b,0,none⟩) (xs++rest).length xs rfl (by omega) ?_ hp.drop;refine run_firstCells_some w.drew i.size xs.length ⟨b,0,none⟩ xs.length _ xs (by rw [hsize];simp) ?_;intro j u hj;rw [World.cell?_drew,Zy,Zaw hat,Nat.zero_add];obtain ⟨hlt,rfl⟩:=List.getElem?_eq_some_iff.1 hj;simp [List.getElem?_append_left hlt]
theorem Zt0 {P:Program} {t2:TypeId} (hk:∃ e',P.underlying t2=some (.slice e')) {R:Cx} {Hs Rest:List HP} {w:World} {b:Nat} {x:Value} {T:TypeId} {fr:Nat × Nat} (c:Nat)
  (hw:Sat R Hs w) [t:Zd2 b Hs (.cells [x].toArray T fr) Rest] (h1:x.oneCell'=true):Src P 1 t2 (.slice (some ⟨b,0,none⟩) 1 c) 1 [x] w:=by
 obtain ⟨e',he'⟩:=hk;refine Go.Src.ofSlice w he' _ 1 c [x] rfl ?_ ?_
 ·intro j u hj
  have:=hw.look b;rw [Zy,Zaw this];simpa using hj
 ·intro u hu;simp at hu;subst hu;exact h1
theorem ZfL {P:Program} {t1 t2 ty T T':TypeId} {bytes:Nat} (E:El P t1 t2 T bytes) {R:Cx} {Hs:List HP} {w:World} {s:Sl} {xs:List Value} {x:Value} {K:Sl->World->Prop}
  (hw:Sat R (Own s T xs::Hs) w) (h1:ZaE xs=true) (hx:x.oneCell'=true) (hb:2 * (xs.length + 1) * bytes<=281474976710656) (hb':xs.length + 1<=9223372036854775807)
  (k:∀ s' w',Sat R (Own s' T (xs++[x])::Hs) w'->K s' w'):
  New (.cells #[x] T' (0,0)) (λ b w=>∃ w',∃ t:Sl,(Builtin.append_ #[t1,t2] ty #[.slice s.a s.len s.cap,.slice (some ⟨b,0,none⟩) 1 1]).run P w=.ok (.slice t.a t.len t.cap) w'/\K t w') w:=by
 refine Za hw λ b w hw=>?_;have hw:Sat R (pts b (.cells [x].toArray T' (0,0))::Own s T xs::Hs) w:=hw;exact ZcY E hw.swap (Zt0 E.hk 1 hw hx) h1 hb hb' λ s' w' h=>k s' w' h.swap.drop
theorem ZbX {P:Program} {t1 t2 ty T T':TypeId} (E:El P t1 t2 T 8) {R:Cx} {Hs:List HP} {w:World} {s:Sl} {xs:List Int} {x:Int} {K:Sl->World->Prop}
  (hw:Sat R (Own s T (xs.map (Value.int .i64))::Hs) w) (hb:xs.length<1000000000000)
  (k:∀ s' w',Sat R (Own s' T ((xs++[x]).map (Value.int .i64))::Hs) w'->K s' w'):
  New (.cells #[.int .i64 x] T' (0,0)) (λ b w=>∃ w',∃ t:Sl,(Builtin.append_ #[t1,t2] ty #[.slice s.a s.len s.cap,.slice (some ⟨b,0,none⟩) 1 1]).run P w=.ok (.slice t.a t.len t.cap) w'/\K t w') w:=
 ZfL E hw (by unfold ZaE;simp [Value.oneCell']) rfl (by rw [List.length_map];omega) (by rw [List.length_map];omega) λ s' w' h=>k s' w' (by simpa using h)
theorem Own.lendI {R:Cx} {Hs:List HP} {w:World} {T:TypeId} {s:Sl} {xs:List Int} (h:Sat R (Own s T (xs.map (Value.int .i64))::Hs) w) (hb:xs.length<=9223372036854775807):
  ∃ R':Cx,RoI R' s xs/\(∀ s' xs',Ro R s' xs'->Ro R' s' xs')/\Sat R' Hs w/\∀ {Hs' w'},Sat R' Hs' w'->Sat R (Own s T (xs.map (Value.int .i64))::Hs') w':=
 Own.lend h (by simpa using hb)
section
variable {P:Program} {R:Cx} {Hs Rest:List HP} {w:World} {s:Sl} {T:TypeId}
theorem Own.addr {xs:List Value} (hw:Sat R (Own s T xs::Hs) w) {k:Nat} (hk:k<xs.length):∃ b,s.a=some ⟨b,0,none⟩/\
  ∀ {S:World->Prop} {Hs'},(∀ w,S w->Sat R (Own s T xs::Hs') w)->At S (Addr.add ⟨b,0,none⟩ k) [xs[k]]:=by
 rcases Own.cases hw with ⟨_,rfl,_⟩|⟨b,rest,fr,rfl,_,_⟩
 ·simp at hk
 ·refine ⟨b,rfl,λ hS w hs i v hv=>?_⟩
  have hi:i=0:=by
   cases i with
   |zero=>rfl
   |succ i=>simp at hv
  subst hi;simp only [List.getElem?_cons_zero,Option.some.injEq] at hv;subst hv;rcases Own.cases (hS w hs) with ⟨h0,_,_⟩|⟨b',rest',fr',he,_,h⟩
  ·cases h0
  ·simp only [Sl.mk.injEq,Option.some.injEq,Addr.mk.injEq,and_true] at he
   obtain ⟨rfl,_⟩:=he;rw [Zy,Zy,Zaw h.at];simp [List.getElem?_append_left hk]
theorem Own.cap {xs:List Value} (hw:Sat R (Own s T xs::Hs) w):s.len<=s.cap:=by
 rcases Own.cases hw with ⟨rfl,_,_⟩|⟨b,rest,fr,rfl,_,_⟩
 ·exact Nat.le_refl _
 ·simp
theorem Own.idx {kd:IntKind} {xs:List Int} {S:World->Prop} {Hs':List HP} (hw:Sat R (Own s T (xs.map (Value.int kd))::Hs) w) (hS:∀ w,S w->Sat R (Own s T (xs.map (Value.int kd))::Hs') w) {k:Nat} (hk:k<xs.length) {F:Int->Prop} (h:F xs[k]):
  Rng (k:Int) s.len (Zc s.a λ a=>∃ t:Int,(At S (a.add (k:Int).toNat) [.int kd t])/\F t):=by
 obtain ⟨b,ha,hat⟩:=Own.addr hw (k:=k) (by simpa using hk);have hl:=Own.len hw;rw [List.length_map] at hl;refine Rng.mk (by omega) (by omega) (Zc.mk ha ⟨xs[k],?_,h⟩);have:=hat hS;simpa using this
theorem Own.store {t:TypeId} {kd:IntKind} {xs:List Int} (hsz:(P.info? t).map (·.size)=some 1) (hw:Sat R (Own s T (xs.map (Value.int kd))::Hs) w) {k:Nat} (hk:k<xs.length) {x:Int} {K:World->Prop}
  (h:∀ w',Sat R (Own s T ((xs.set k x).map (Value.int kd))::Hs) w'->K w'):
  Rng (k:Int) s.len (Zc s.a λ a=>∃ w',(Instr.storeAt t (.pointer (some (Addr.add a (k:Int).toNat))) (.int kd x)).run P w=.ok () w'/\K w'):=by
 have hl:=Own.len hw;rw [List.length_map] at hl;rcases Own.cases hw with ⟨_,h0,_⟩|⟨b,rest,fr,rfl,hfr,hp⟩
 ·simp at h0;subst h0;simp at hk
 ·refine Rng.mk (by omega) (by simp only at hl ⊢;omega) (Zc.mk rfl ?_)
  rw [Zy];refine ZZ hp (by rw [hsz];rfl) rfl (by simp [Value.cells];omega) λ w' h2=>h w' ?_;have e:ZeD (xs.map (Value.int kd)++rest) (0 + (k:Int).toNat) (Value.int kd x).cells.toList=(xs.set k x).map (Value.int kd)++rest:=by
   simp only [ZeD,Value.cells,Nat.zero_add,Int.toNat_natCast];rw [List.set_append_left _ _ (by simpa using hk),List.map_set]
  rw [e] at h2;have h3:=Own.of_pts h2 (hfr.le (by simp));simpa using h3
end
section
class Zbt (α:Type) [BEq α] where
 enc:α->Value
 desc:TypeDesc
 same:∀ a b,Instr.sameNow desc (enc a) (enc b)=some (a==b)
 bits:∀ a,Instr.sameBits 10000 (enc a) (enc a)=true
 eq:∀ a b:α,(a==b)=true->a=b
 check:∀ (P:Program) (em:Bool) (K:TypeId) (a:α) (w:World),P.underlying K=some desc->(Instr.checkKey em 10000 K (enc a)).run P w=.ok () w
instance:Zbt ByteArray where
 enc:=Value.string
 desc:=.string
 same a b:=rfl
 bits a:=by
  have:∀ n,Instr.sameBits n (.string a) (.string a)=(a==a):=λ n=>by cases n<;>rfl
  rw [this];exact (MapKept.bytes_beq a a).2 rfl
 eq a b h:=(MapKept.bytes_beq a b).1 h
 check P em K a w h:=by
  show (Instr.checkKey em (9999 + 1) K (.string a)).run P w=_;unfold Instr.checkKey;simp [run_underlying h]
variable {α:Type} [BEq α] [Zbt α]
abbrev En (α:Type):=α × Value × Nat
def mkE (e:En α):MapEntry:={ key:=Zbt.enc e.1,val:=e.2.1,born:=e.2.2 }
def Zve (k:α):List (En α)->Option Value
 |[]=>none
 |e::es=>if k==e.1 then some e.2.1 else Zve k es
def Zt7 (k:α) (v:Value):List (En α)->List (En α)
 |[]=>[]
 |e::es=>if k==e.1 then (e.1,v,e.2.2)::es else e::Zt7 k v es
def ZoQ (k:α):List (En α)->List (En α)
 |[]=>[]
 |e::es=>if k==e.1 then es else e::ZoQ k es
def Znv (k:α) (es:List (En α)):Bool:=(Zve k es).isSome
def Zv4 (k:α) (v:Value) (es:List (En α)) (clock:Nat):List (En α):=if Znv k es then Zt7 k v es else es++[(k,v,clock)]
def Ziv (k:α):List (En α)->Nat->Option (Nat × Value)
 |[],_=>none
 |e::es,i=>if k==e.1 then some (i,e.2.1) else Ziv k es (i + 1)
theorem Zjp (k:α):∀ (es:List (En α)) (i:Nat),Instr.findNow (Zbt.desc α) (Zbt.enc k) (es.map mkE) i=some (Ziv k es i)
 |[],_=>rfl
 |e::es,i=>by
  rw [List.map_cons,Instr.findNow,mkE,Zbt.same,Ziv];cases h:(k==e.1)
  ·simpa using Zjp k es (i + 1)
  ·rfl
omit [Zbt α] in
theorem Zkp (k:α):∀ (es:List (En α)) (i:Nat),(Ziv k es i).map (·.2)=Zve k es
 |[],_=>rfl
 |e::es,i=>by
  rw [Ziv,Zve];cases h:(k==e.1)
  ·exact Zkp k es (i + 1)
  ·rfl
theorem Zfg {P:Program} {K:TypeId} (hK:P.underlying K=some (Zbt.desc α)) (k:α) (es:List (En α)) (w:World):
  (Instr.findKey K (Zbt.enc k) (es.map mkE)).run P w=.ok (Ziv k es 0) w:=by
 unfold Instr.findKey;simp [run_underlying hK,Zjp]
theorem Zg4 {P:Program} (k:α) (w:World):(Instr.keyThatStays (Zbt.enc k) (Zbt.enc k)).run P w=.ok (Zbt.enc k) w:=by
 unfold Instr.keyThatStays;rw [if_pos (Zbt.bits k)];rfl
theorem ZpS {P:Program} {T K E:TypeId} (hT:P.underlying T=some (.map K E)) (hK:P.underlying K=some (Zbt.desc α)) {z:Value} (hz:∀ w,(zeroValue E).run P w=.ok z w)
  {w:World} {m clock:Nat} {es:List (En α)} (hm:w.heap[m]? =some (.map (es.map mkE).toArray clock)) (k:α) (c:Bool):
  (Instr.lookup T (.map (some m)) (Zbt.enc k) c).run P w=.ok (if c then .tuple #[(Zve k es).getD z,.bool (Znv k es)] else (Zve k es).getD z) w:=by
 have hv:=Zkp k es 0;have hck:=Zbt.check P (es.map mkE).toArray.isEmpty K k w hK;have hfk:=Zfg hK k es w;unfold Instr.lookup;cases hi:Ziv k es 0 with
 |none=>
  rw [hi] at hv hfk;simp only [Option.map_none] at hv;simp only [Sem.run_bind,run_underlying hT,Result.andThen,MapKept.run_getObj_map hm,Sem.run_pure,hck,hfk,hz,Znv,<-hv];rfl
 |some p=>
  rw [hi] at hv hfk;simp only [Option.map_some] at hv;simp only [Sem.run_bind,run_underlying hT,Result.andThen,MapKept.run_getObj_map hm,Sem.run_pure,hck,hfk,Znv,<-hv];rfl
omit [Zbt α] in
theorem Zf0 (k:α):∀ (es:List (En α)) (i:Nat),(∀ p,Ziv k es i=some p->i<=p.1)
 |[],i,p,h=>by cases h
 |e::es,i,p,h=>by
  rw [Ziv] at h;cases hk:(k==e.1)
  ·rw [hk] at h;have:=Zf0 k es (i + 1) p (by simpa using h);omega
  ·rw [hk] at h;simp at h;subst h;exact Nat.le_refl _
theorem ZlX (k:α) (v:Value):∀ (es:List (En α)) (i:Nat) (p:Nat × Value),Ziv k es i=some p->
  (es.map mkE).modify (p.1 - i) (λ e=>{ e with key:=Zbt.enc k,val:=v })=(Zt7 k v es).map mkE
 |[],_,_,h=>by cases h
 |e::es,i,p,h=>by
  have hle:=Zf0 k (e::es) i p h;rw [Ziv] at h;cases hk:(k==e.1)
  ·rw [hk] at h
   have h':Ziv k es (i + 1)=some p:=by simpa using h
   have hle2:=Zf0 k es (i + 1) p h';obtain ⟨j,hj⟩:∃ j,p.1 - i=j + 1:=⟨p.1 - (i + 1),by omega⟩;have ih:=ZlX k v es (i + 1) p h';rw [show p.1 - (i + 1)=j by omega] at ih;rw [hj,Zt7,hk];simp only [List.map_cons,List.modify_succ_cons,Bool.false_eq_true,if_false,List.cons.injEq,true_and];exact ih
  ·rw [hk] at h
   simp at h;subst h;have:=Zbt.eq _ _ hk;subst this;rw [Zt7,hk];simp [mkE]
theorem ZoK (k:α):∀ (es:List (En α)) (i:Nat) (p:Nat × Value),Ziv k es i=some p->(es.map mkE).eraseIdx (p.1 - i)=(ZoQ k es).map mkE
 |[],_,_,h=>by cases h
 |e::es,i,p,h=>by
  rw [Ziv] at h;cases hk:(k==e.1)
  ·rw [hk] at h
   have h':Ziv k es (i + 1)=some p:=by simpa using h
   have hle2:=Zf0 k es (i + 1) p h';obtain ⟨j,hj⟩:∃ j,p.1 - i=j + 1:=⟨p.1 - (i + 1),by omega⟩;have ih:=ZoK k es (i + 1) p h';rw [show p.1 - (i + 1)=j by omega] at ih;rw [hj,ZoQ,hk];simp only [List.map_cons,List.eraseIdx_cons_succ,Bool.false_eq_true,if_false,List.cons.injEq,true_and];exact ih
  ·rw [hk] at h
   simp at h;subst h;rw [ZoQ,hk];simp
omit [Zbt α] in
theorem Zh5 (k:α) (es:List (En α)) (i:Nat):Ziv k es i=none↔Znv k es=false:=by
 unfold Znv;rw [<-Zkp k es i];cases Ziv k es i<;>simp
omit [Zbt α] in
theorem Zmo (k:α):∀ (es:List (En α)),Znv k es=false->ZoQ k es=es
 |[],_=>rfl
 |e::es,h=>by
  unfold Znv Zve at h;cases hk:(k==e.1)
  ·rw [hk] at h
   rw [ZoQ,hk];simp only [Bool.false_eq_true,if_false,List.cons.injEq,true_and];exact Zmo k es (by unfold Znv;simpa using h)
  ·rw [hk] at h;simp at h
theorem Znr (k:α):∀ (es:List (En α)) (i:Nat) (p:Nat × Value),Ziv k es i=some p->p.1<i + es.length/\∃ e,(es.map mkE)[p.1 - i]? =some e/\e.key=Zbt.enc k
 |[],_,_,h=>by cases h
 |e::es,i,p,h=>by
  rw [Ziv] at h;cases hk:(k==e.1)
  ·rw [hk] at h
   have h':Ziv k es (i + 1)=some p:=by simpa using h
   have hle2:=Zf0 k es (i + 1) p h';obtain ⟨h1,e',h2,h3⟩:=Znr k es (i + 1) p h';refine ⟨by simp only [List.length_cons];omega,e',?_,h3⟩;obtain ⟨j,hj⟩:∃ j,p.1 - i=j + 1:=⟨p.1 - (i + 1),by omega⟩;rw [hj,List.map_cons,List.getElem?_cons_succ,show j=p.1 - (i + 1) by omega];exact h2
  ·rw [hk] at h
   simp at h;subst h;refine ⟨by simp,mkE e,by simp,?_⟩;rw [Zbt.eq _ _ hk];rfl
theorem Zpa {P:Program} {T K E:TypeId} (hT:P.underlying T=some (.map K E)) (hK:P.underlying K=some (Zbt.desc α))
  {w:World} {m clock:Nat} {es:List (En α)} (hm:w.heap[m]? =some (.map (es.map mkE).toArray clock)) (k:α) (v:Value):
  (Instr.mapUpdate T (.map (some m)) (Zbt.enc k) v).run P w=.ok () (w.setBlock m (.map ((Zv4 k v es clock).map mkE).toArray (if Znv k es then clock else clock + 1))):=by
 have hck:=Zbt.check P false K k w hK;have hfk:=Zfg hK k es w;unfold Instr.mapUpdate;cases hi:Ziv k es 0 with
 |none=>
  have hn:=(Zh5 k es 0).1 hi;rw [hi] at hfk;simp only [Sem.run_bind,run_underlying hT,Result.andThen,MapKept.run_getObj_map hm,hck,hfk,MapKept.run_setObj_map _ hm,Zv4,hn,World.setBlock,Bool.false_eq_true,if_false];simp [mkE]
 |some p=>
  have hh:Znv k es=true:=by
   cases h:Znv k es
   ·rw [(Zh5 k es 0).2 h] at hi;cases hi
   ·rfl
  obtain ⟨_,e,he,hek⟩:=Znr k es 0 p hi;have hmod:=ZlX k v es 0 p hi;rw [Nat.sub_zero] at he hmod;rw [hi] at hfk;have hkey:(((es.map mkE).toArray[p.1]?).map (·.key)).getD (Zbt.enc k)=Zbt.enc k:=by
   have:(es.map mkE).toArray[p.1]? =some e:=by simpa using he
   rw [this];exact hek
  simp only [Sem.run_bind,run_underlying hT,Result.andThen,MapKept.run_getObj_map hm,hck,hfk,hkey,Zg4,MapKept.run_setObj_map _ hm,Zv4,hh,World.setBlock,if_true]
  congr 4
  apply Array.ext';rw [<-hmod];simp
theorem Zqd {P:Program} {T K E ty t2:TypeId} (hT:P.underlying T=some (.map K E)) (hK:P.underlying K=some (Zbt.desc α))
  {w:World} {m clock:Nat} {es:List (En α)} (hm:w.heap[m]? =some (.map (es.map mkE).toArray clock)) (k:α):
  (Builtin.delete_ #[T,t2] ty #[.map (some m),Zbt.enc k]).run P w=.ok (.tuple #[]) (w.setBlock m (.map ((ZoQ k es).map mkE).toArray clock)):=by
 have hck:=Zbt.check P (es.map mkE).toArray.isEmpty K k w hK;have hfk:=Zfg hK k es w;have h0:(#[T,t2]:Array TypeId)[0]? =some T:=rfl;have h1:(#[Value.map (some m),Zbt.enc k]:Array Value)[0]? =some (.map (some m)):=rfl;have h2:(#[Value.map (some m),Zbt.enc k]:Array Value)[1]? =some (Zbt.enc k):=rfl;unfold Builtin.delete_;rw [h0,h1,h2];cases hi:Ziv k es 0 with
 |none=>
  have hn:=(Zh5 k es 0).1 hi;rw [hi] at hfk;simp only [Sem.run_bind,run_underlying hT,Result.andThen,MapKept.run_getObj_map hm,hck,hfk,MapKept.run_setObj_map _ hm,World.setBlock,Zmo k es hn,Sem.run_pure]
 |some p=>
  have her:=ZoK k es 0 p hi;obtain ⟨hlt,_⟩:=Znr k es 0 p hi;rw [Nat.sub_zero] at her;rw [hi] at hfk;have e:(es.map mkE).toArray.eraseIdxIfInBounds p.1=((ZoQ k es).map mkE).toArray:=by
   apply Array.ext';rw [<-her];simp [Array.eraseIdxIfInBounds,show p.1<es.length by omega]
  simp only [Sem.run_bind,run_underlying hT,Result.andThen,MapKept.run_getObj_map hm,hck,hfk,MapKept.run_setObj_map _ hm,World.setBlock,e,Sem.run_pure]
end
end Go.VC
