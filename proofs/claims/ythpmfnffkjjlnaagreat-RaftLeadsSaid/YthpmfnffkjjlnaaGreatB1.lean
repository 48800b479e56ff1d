/- VC, part 1: readable formulas for single operations of the model, each proved to be enough for the model's own run of that operation. No condition. -/
import Derived.OrdersHeld
import Derived.KernelRfl
import Derived.Laws.Entries
import Derived.Laws.Cells
import Derived.Laws.World
import Derived.Tactics
import Derived.Scope
import Derived.Defers
import Derived.Recover
import Derived.Test.YthpmfnffkjjlnaaGreatProg
set_option linter.unusedVariables false
set_option linter.unusedSimpArgs false
namespace Go.VC
structure Sl where
 a:Option Addr
 len:Nat
 cap:Nat
inductive Ty where
 |int (k:IntKind)|bool|str|sl|ptr|map|flt|any
@[reducible] def Ty.T:Ty->Type
 | .int _=>Int| .bool=>Bool| .str=>ByteArray| .sl=>Sl| .ptr=>Option Addr| .map=>Option Nat| .flt=>Nat| .any=>Value
def Ty.enc:(t:Ty)->t.T->Value
 | .int k,n=>.int k n
 | .bool,b=>.bool b
 | .str,s=>.string s
 | .sl,s=>.slice s.a s.len s.cap
 | .ptr,p=>.pointer p
 | .map,m=>.map m
 | .flt,n=>.float .f64 n
 | .any,v=>v
def Ty.un:(t:Ty)->Value->(t.T->Prop)->Prop
 | .int k,v,φ=>match v with| .int k' n=>(match decide (k=k') with|true=>φ n|false=>False)|_=>False
 | .bool,v,φ=>match v with| .bool b=>φ b|_=>False
 | .str,v,φ=>match v with| .string s=>φ s|_=>False
 | .sl,v,φ=>match v with| .slice a n c=>φ ⟨a,n,c⟩|_=>False
 | .ptr,v,φ=>match v with| .pointer p=>φ p|_=>False
 | .map,v,φ=>match v with| .map m=>φ m|_=>False
 | .flt,v,φ=>match v with| .float .f64 n=>φ n|_=>False
 | .any,v,φ=>φ v
theorem Ty.un_enc {t:Ty} {v:Value} {φ:t.T->Prop} (h:t.un v φ):∃ x,v=t.enc x/\φ x:=by
 cases t<;>simp only [Ty.un] at h
 case int k=>
  split at h
  ·split at h
   ·rename_i hk;have:=of_decide_eq_true hk;subst this;exact ⟨_,rfl,h⟩
   ·exact h.elim
  ·exact h.elim
 case any=>exact ⟨v,rfl,h⟩
 all_goals (split at h<;>first|exact ⟨_,rfl,h⟩|exact h.elim)
def Ty.ex:(t:Ty)->(Value->Prop)->Prop
 | .int k,φ=>∃ n:Int,φ (.int k n)
 | .bool,φ=>∃ b:Bool,φ (.bool b)
 | .str,φ=>∃ s:ByteArray,φ (.string s)
 | .sl,φ=>∃ s:Sl,φ (.slice s.a s.len s.cap)
 | .ptr,φ=>∃ p:Option Addr,φ (.pointer p)
 | .map,φ=>∃ m:Option Nat,φ (.map m)
 | .flt,φ=>∃ n:Nat,φ (.float .f64 n)
 | .any,φ=>∃ v:Value,φ v
theorem Ty.ex_some {t:Ty} {φ:Value->Prop} (h:t.ex φ):∃ v,φ v:=by
 cases t<;>(obtain ⟨x,h⟩:=h;exact ⟨_,h⟩)
def Zil:List Ty->(List Value->Prop)->Prop
 |[],φ=>φ []
 |t::ts,φ=>t.ex λ v=>Zil ts λ vs=>φ (v::vs)
theorem ZfK:∀ {ts:List Ty} {φ:List Value->Prop},Zil ts φ->∃ vs,φ vs
 |[],_,h=>⟨[],h⟩
 |_::_,_,h=>let ⟨v,h⟩:=Ty.ex_some h;let ⟨vs,h⟩:=ZfK h;⟨v::vs,h⟩
inductive Vt where
 |one (t:Ty)|agg (ts:List Ty)
def Vt.ex:Vt->(Value->Prop)->Prop
 | .one t,φ=>t.ex φ
 | .agg ts,φ=>Zil ts λ vs=>φ (.agg vs.toArray)
theorem Vt.ex_some {t:Vt} {φ:Value->Prop} (h:t.ex φ):∃ v,φ v:=by
 cases t with
 |one t=>exact Ty.ex_some h
 |agg ts=>let ⟨vs,h⟩:=ZfK h;exact ⟨_,h⟩
def Zlx:List Vt->(List Value->Prop)->Prop
 |[],φ=>φ []
 |t::ts,φ=>t.ex λ v=>Zlx ts λ vs=>φ (v::vs)
theorem ZeQ:∀ {ts:List Vt} {φ:List Value->Prop},Zlx ts φ->∃ vs,φ vs
 |[],_,h=>⟨[],h⟩
 |_::_,_,h=>let ⟨v,h⟩:=Vt.ex_some h;let ⟨vs,h⟩:=ZeQ h;⟨v::vs,h⟩
inductive Rt where
 |val (t:Vt)|tup (ts:List Vt)
def Rt.ex:Rt->(Value->Prop)->Prop
 | .val t,φ=>t.ex φ
 | .tup ts,φ=>Zlx ts λ vs=>φ (.tuple vs.toArray)
theorem Rt.ex_some {t:Rt} {φ:Value->Prop} (h:t.ex φ):∃ v,φ v:=by
 cases t with
 |val t=>exact Vt.ex_some h
 |tup ts=>let ⟨vs,h⟩:=ZeQ h;exact ⟨_,h⟩
def Zqx (P:Program) (t:TypeId):Ty:=
 match P.underlying t with
 |some .bool=>.bool
 |some (.int k)=>.int k
 |some .string=>.str
 |some (.pointer _)=>.ptr
 |some (.slice _)=>.sl
 |some (.map _ _)=>.map
 |some (.float .f64)=>.flt
 |_=>.any
def Zlv (f:TypeId->Option (List Ty)):List Field->Option (List Ty)
 |[]=>some []
 |x::xs=>match f x.type with
  |none=>none
  |some l=>match Zlv f xs with
   |none=>none
   |some m=>some (l++m)
def Zpi (P:Program):Nat->TypeId->Option (List Ty)
 |0,_=>none
 |d + 1,t=>match P.underlying t with
  |some (.struct fs)=>Zlv (Zpi P d) fs.toList
  |some (.array n e)=>match Nat.ble n 4 with
   |true=>match Zpi P d e with
    |some l=>some (List.replicate n l).flatten
    |none=>none
   |false=>none
  |_=>some [Zqx P t]
def ZqI (P:Program) (t:TypeId):Vt:=
 match P.underlying t with
 |some (.struct _)|some (.array _ _)=>match Zpi P 6 t with
  |some l=>.agg l
  |none=>.one .any
 |_=>.one (Zqx P t)
def Zo1 (P:Program) (t:TypeId):Rt:=
 match P.underlying t with
 |some (.tuple ts)=>.tup (ts.toList.map (ZqI P))
 |_=>.val (ZqI P t)
abbrev Env:=Nat->Value
def Env.set (ρ:Env) (d:Nat) (v:Value):Env:=λ i=>match Nat.beq i d with|true=>v|false=>ρ i
def Env.put (ρ:Env) (d:Option Tmp) (v:Value):Env:=match d with|some d=>ρ.set d v|none=>ρ
def Env.ev (ρ:Env):Operand->Value
 | .tmp t=>ρ t
 | .const v=>v
 | .global g=>.pointer (some ⟨g,0,none⟩)
 | .func f=>.func (.func f) #[] #[]
def Br (b:Bool) (A B:Prop):Prop:=match b with|true=>A|false=>B
theorem Br.mk {b:Bool} {A B:Prop} (h:b=true->A) (h':b=false->B):Br b A B:=by
 cases b
 ·exact h' rfl
 ·exact h rfl
theorem Br.t {b:Bool} {A B:Prop} (hb:b=true) (h:A):Br b A B:=by subst hb;exact h
theorem Br.f {b:Bool} {A B:Prop} (hb:b=false) (h:B):Br b A B:=by subst hb;exact h
def Nz (b:Int) (A:Prop):Prop:=match decide (b=0) with|true=>False|false=>A
theorem Nz.mk {b:Int} {A:Prop} (hb:b≠0) (h:A):Nz b A:=by unfold Nz;rw [decide_eq_false hb];exact h
theorem Nz.out {b:Int} {A:Prop} (h:Nz b A):b≠0/\A:=by
 unfold Nz at h;split at h
 ·exact h.elim
 ·rename_i hb;exact ⟨of_decide_eq_false hb,h⟩
def ZfU (op:BinOp) (k:IntKind) (x y:Int):Int:=
 let a:=BitVec.ofInt k.bits x
 let b:=BitVec.ofInt k.bits y
 k.wrap (match op with| .and=>(a &&& b).toNat| .or=>(a|||b).toNat| .xor=>(a ^^^ b).toNat|_=>(a &&& ~~~b).toNat:Nat)
def ZmN (k:IntKind) (x y:Int):Int:=k.wrap (x * 2 ^ min y.toNat k.bits)
def Zfp (k:IntKind) (x y:Int):Int:=x.fdiv (2 ^ min y.toNat k.bits)
def Ge0 (y:Int) (A:Prop):Prop:=match decide (y<0) with|true=>False|false=>A
theorem Ge0.mk {y:Int} {A:Prop} (hy:0<=y) (h:A):Ge0 y A:=by unfold Ge0;rw [decide_eq_false (by omega)];exact h
def ariF (op:BinOp) (k:IntKind) (a b:Int) (K:Value->Prop):Prop:=
 match op with
 | .add=>K (.int k (k.wrap (a + b)))
 | .sub=>K (.int k (k.wrap (a - b)))
 | .mul=>K (.int k (k.wrap (a * b)))
 | .quo=>Nz b (K (.int k (k.wrap (a.tdiv b))))
 | .rem=>Nz b (K (.int k (a.tmod b)))
 | .and=>K (.int k (ZfU .and k a b))
 | .or=>K (.int k (ZfU .or k a b))
 | .xor=>K (.int k (ZfU .xor k a b))
 | .andNot=>K (.int k (ZfU .andNot k a b))
 | .eql=>K (.bool (a==b))
 | .neq=>K (.bool (a !=b))
 | .lss=>K (.bool (decide (a<b)))
 | .leq=>K (.bool (decide (a<=b)))
 | .gtr=>K (.bool (decide (a>b)))
 | .geq=>K (.bool (decide (a >= b)))
 |_=>False
def strF (op:BinOp) (a b:ByteArray) (K:Value->Prop):Prop:=
 match op with
 | .add=>((a.size + b.size:Nat):Int)<=IntKind.i64.max/\K (.string (a++b))
 | .eql=>K (.bool (a.toList==b.toList))
 | .neq=>K (.bool !(a.toList==b.toList))
 | .lss=>K (.bool (Op.bytesLess a.toList b.toList))
 | .leq=>K (.bool (Op.bytesLess a.toList b.toList||a.toList==b.toList))
 | .gtr=>K (.bool !(Op.bytesLess a.toList b.toList||a.toList==b.toList))
 | .geq=>K (.bool !(Op.bytesLess a.toList b.toList))
 |_=>False
def eqF (op:BinOp) (b:Bool) (K:Value->Prop):Prop:=
 match op with
 | .eql=>K (.bool b)
 | .neq=>K (.bool !b)
 |_=>False
def Zcn (P:Program) (T:TypeId):Nat:=
 match P.underlying T with
 |some (.int _)=>1
 |some .string=>2
 |some .bool=>3
 |some (.pointer _)=>4
 |some (.slice _)=>5
 |some (.map _ _)=>6
 |some (.func _ _ _)=>7
 |_=>0
def Zig:BinOp->Bool| .shl| .shr=>true|_=>false
def ZmO (op:BinOp) (k:IntKind) (a y:Int) (K:Value->Prop):Prop:=
 Ge0 y (match op with
 | .shl=>K (.int k (ZmN k a y))
 |_=>K (.int k (Zfp k a y)))
def intF (op:BinOp) (x y:Value) (K:Value->Prop):Prop:=
 match x with
 | .int k a=>match y with
  | .int k' b=>(match Zig op with
   |true=>ZmO op k a b K
   |false=>(match decide (k=k') with|true=>ariF op k a b K|false=>False))
  |_=>False
 |_=>False
def Zrx (P:Program) (op:BinOp) (T:TypeId) (x y:Value) (K:Value->Prop):Prop:=
 match Zcn P T with
 |1=>intF op x y K
 |2=>match x with
  | .string a=>match y with| .string b=>strF op a b K|_=>False
  |_=>False
 |3=>match x with
  | .bool a=>match y with| .bool b=>eqF op (a==b) K|_=>False
  |_=>False
 |4=>match x with
  | .pointer p=>match y with| .pointer none=>eqF op p.isNone K|_=>False
  |_=>False
 |5=>match x with
  | .slice a _ _=>match y with| .slice none _ _=>eqF op a.isNone K|_=>False
  |_=>False
 |6=>match x with
  | .map m=>match y with| .map none=>eqF op m.isNone K|_=>False
  |_=>False
 |7=>match y with
  | .nilFunc=>match x with| .nilFunc=>eqF op true K| .func _ _ _=>eqF op false K|_=>False
  |_=>False
 |_=>False
theorem ZcC {P:Program} {T:TypeId} {x y:Value} {b:Bool} (h:∀ d w,(Op.equalIn (d + 1) T x y).run P w=.ok b w) (op:BinOp) {K:Value->Prop} (ox oy:Operand)
  (hop:eqF op b K) (hb:binOp .eql T x y=(do pure (.bool (<-Op.equal T x y)):Sem Value)) (hb':binOp .neq T x y=(do pure (.bool (!(<-Op.equal T x y))):Sem Value))
  (hg:∀ w,(eqGuard op T ox oy x y).run P w=.ok () w):
  ∃ v,(∀ w,(do eqGuard op T ox oy x y;binOp op T x y:Sem Value).run P w=.ok v w)/\K v:=by
 have h':∀ w,(Op.equal T x y).run P w=.ok b w:=h 9999;cases op<;>simp only [eqF] at hop
 ·exact ⟨_,λ w=>by rw [Sem.run_bind,hg w,hb];simp [h'],hop⟩
 ·exact ⟨_,λ w=>by rw [Sem.run_bind,hg w,hb'];simp [h'],hop⟩
theorem Zj6 {P:Program} {op:BinOp} {T:TypeId} {x y:Value} {K:Value->Prop} (h:Zrx P op T x y K) (ox oy:Operand):
  ∃ v,(∀ w,(do eqGuard op T ox oy x y;binOp op T x y:Sem Value).run P w=.ok v w)/\K v:=by
 unfold Zrx at h;split at h
 ·-- integers
  unfold intF at h;split at h
  ·rename_i k a
   split at h
   ·rename_i k' b
    split at h
    ·rename_i hs
     unfold ZmO Ge0 at h;split at h
     ·exact h.elim
     ·rename_i hy
      have hy:=of_decide_eq_false hy;have e:∀ s:Sem Value,(do eqGuard op T ox oy (.int k a) (.int k' b);s:Sem Value)=s:=λ s=>by
       unfold eqGuard;cases op<;>simp [Zig] at hs<;>rfl
      cases op<;>simp only [Zig,Bool.false_eq_true] at hs<;>simp only at h
      ·exact ⟨_,λ w=>by simp only [e,binOp,Op.shift,if_neg hy];rfl,h⟩
      ·exact ⟨_,λ w=>by simp only [e,binOp,Op.shift,if_neg hy];rfl,h⟩
    ·split at h
     ·rename_i hk
      have hk:=of_decide_eq_true hk;subst hk;unfold ariF at h;cases op<;>simp only at h
      case add=>exact ⟨_,λ w=>by simp [eqGuard,binOp,Op.intArith],h⟩
      case sub=>exact ⟨_,λ w=>by simp [eqGuard,binOp,Op.intArith],h⟩
      case mul=>exact ⟨_,λ w=>by simp [eqGuard,binOp,Op.intArith],h⟩
      case quo=>obtain ⟨hb,h⟩:=h.out;exact ⟨_,λ w=>by simp [eqGuard,binOp,Op.intDiv,hb],h⟩
      case rem=>obtain ⟨hb,h⟩:=h.out;exact ⟨_,λ w=>by simp [eqGuard,binOp,Op.intDiv,hb],h⟩
      case and=>exact ⟨_,λ w=>by simp [eqGuard,binOp,Op.intBits,ZfU],h⟩
      case or=>exact ⟨_,λ w=>by simp [eqGuard,binOp,Op.intBits,ZfU],h⟩
      case xor=>exact ⟨_,λ w=>by simp [eqGuard,binOp,Op.intBits,ZfU],h⟩
      case andNot=>exact ⟨_,λ w=>by simp [eqGuard,binOp,Op.intBits,ZfU],h⟩
      case eql=>exact ⟨_,λ w=>by simp [eqGuard,binOp,Op.intCmp],h⟩
      case neq=>exact ⟨_,λ w=>by simp [eqGuard,binOp,Op.intCmp],h⟩
      case lss=>exact ⟨_,λ w=>by simp [eqGuard,binOp,Op.intCmp],h⟩
      case leq=>exact ⟨_,λ w=>by simp [eqGuard,binOp,Op.intCmp],h⟩
      case gtr=>exact ⟨_,λ w=>by simp [eqGuard,binOp,Op.intCmp],h⟩
      case geq=>exact ⟨_,λ w=>by simp [eqGuard,binOp,Op.intCmp],h⟩
     ·exact h.elim
   ·exact h.elim
  ·exact h.elim
 ·split at h
  ·split at h
   ·rename_i a _ b
    unfold strF at h;cases op<;>simp only at h
    case add=>
     obtain ⟨hb,h⟩:=h;exact ⟨_,λ w=>by simp only [eqGuard,binOp,Op.stringOp];rw [if_neg (Int.not_lt.2 hb)];simp,h⟩
    all_goals exact ⟨_,λ w=>by simp [eqGuard,binOp,Op.stringOp],h⟩
   ·exact h.elim
  ·exact h.elim
 ·rename_i hT
  have hT:P.underlying T=some .bool:=by
   unfold Zcn at hT;split at hT<;>first|assumption|simp at hT
  split at h
  ·split at h
   ·exact ZcC (λ d w=>by simp [Op.equalIn,run_underlying hT]) op ox oy h rfl rfl (λ w=>by cases op<;>rfl)
   ·exact h.elim
  ·exact h.elim
 ·rename_i hT
  obtain ⟨e,hT⟩:∃ e,P.underlying T=some (.pointer e):=by
   unfold Zcn at hT;split at hT<;>first|exact ⟨_,by assumption⟩|simp at hT
  split at h
  ·split at h
   ·rename_i p _
    exact ZcC (λ d w=>by cases p<;>simp [Op.equalIn,run_underlying hT]) op ox oy h (by cases p<;>rfl) (by cases p<;>rfl) (λ w=>by cases op<;>rfl)
   ·exact h.elim
  ·exact h.elim
 ·rename_i hT
  obtain ⟨e,hT⟩:∃ e,P.underlying T=some (.slice e):=by
   unfold Zcn at hT;split at hT<;>first|exact ⟨_,by assumption⟩|simp at hT
  split at h
  ·split at h
   ·rename_i a _ _ _ _ _
    exact ZcC (λ d w=>by cases a<;>simp [Op.equalIn,run_underlying hT]) op ox oy h rfl rfl (λ w=>by cases op<;>rfl)
   ·exact h.elim
  ·exact h.elim
 ·rename_i hT
  obtain ⟨e,e',hT⟩:∃ e e',P.underlying T=some (.map e e'):=by
   unfold Zcn at hT;split at hT<;>first|exact ⟨_,_,by assumption⟩|simp at hT
  split at h
  ·split at h
   ·rename_i m _
    exact ZcC (λ d w=>by cases m<;>simp [Op.equalIn,run_underlying hT]) op ox oy h rfl rfl (λ w=>by cases op<;>rfl)
   ·exact h.elim
  ·exact h.elim
 ·rename_i hT
  obtain ⟨e,e',e'',hT⟩:∃ e e' e'',P.underlying T=some (.func e e' e''):=by
   unfold Zcn at hT;split at hT<;>first|exact ⟨_,_,_,by assumption⟩|simp at hT
  split at h
  ·split at h
   ·exact ZcC (λ d w=>by simp [Op.equalIn,run_underlying hT]) op ox oy h rfl rfl (λ w=>by cases op<;>rfl)
   ·exact ZcC (λ d w=>by simp [Op.equalIn,run_underlying hT]) op ox oy h rfl rfl (λ w=>by cases op<;>rfl)
   ·exact h.elim
  ·exact h.elim
 ·exact h.elim
def ZcU {α:Type} (P:Program):Sem α->Option α
 | .pure a=>some a
 | .program k=>ZcU P (k P)
 | .mark _ k=>ZcU P k
 |_=>none
theorem Zdf {α:Type} {P:Program} {s:Sem α} {a:α} (h:ZcU P s=some a) (w:World):s.run P w=.ok a w:=by
 induction s with
 |pure b=>simp only [ZcU,Option.some.injEq] at h;subst h;rfl
 |program k ih=>exact ih P h
 |mark m k ih=>exact ih h
 |_=>simp [ZcU] at h
def ZfA {α:Type} (P:Program):Sem α->Option (Obj × (Nat->Option α))
 | .program k=>ZfA P (k P)
 | .mark _ k=>ZfA P k
 | .new o k=>some (o,λ b=>ZcU P (k b))
 |_=>none
theorem Zhg {α:Type} {P:Program} {s:Sem α} {o:Obj} {f:Nat->Option α} (h:ZfA P s=some (o,f)) (w:World) {a:α} (ha:f w.heap.size=some a):
  s.run P w=.ok a (w.alloc o):=by
 induction s with
 |program k ih=>exact ih P h
 |mark m k ih=>exact ih h
 |new o' k ih=>
  simp only [ZfA,Option.some.injEq,Prod.mk.injEq] at h;obtain ⟨rfl,rfl⟩:=h;exact Zdf ha _
 |_=>simp [ZfA] at h
def PR (P:Program) (s:Sem Next) (K:Value->Prop):Prop:=
 match ZcU P s with
 |some (.value v)=>K v
 |_=>False
def Zf3 (P:Program) (t:TypeId):Nat:=match P.info? t with|some i=>i.size|none=>0
def Zb (p:Option Addr) (K:Addr->Prop):Prop:=match p with|some a=>K a|none=>False
theorem Zb.mk {p:Option Addr} {a:Addr} {K:Addr->Prop} (hp:p=some a) (h:K a):Zb p K:=by subst hp;exact h
def ZoO (x:Value) (K:Value->Prop):Prop:=
 match x with
 | .pointer p=>Zb p λ a=>K (.pointer (some a))
 | .func (.func f) first captured=>K (.func (.func f) first captured)
 | .iface t v=>K (.iface t v)
 |_=>False
def Zaf (i n:Nat):Nat:=match n with|1=>i|n=>i * n
theorem ZdF (i n:Nat):Zaf i n=i * n:=by unfold Zaf;split<;>simp
def Rng (i:Int) (n:Nat) (A:Prop):Prop:=match decide (0<=i/\i<(n:Int)) with|true=>A|false=>False
theorem Rng.mk {i:Int} {n:Nat} {A:Prop} (h0:0<=i) (h1:i<(n:Int)) (h:A):Rng i n A:=by unfold Rng;rw [decide_eq_true ⟨h0,h1⟩];exact h
theorem Rng.out {i:Int} {n:Nat} {A:Prop} (h:Rng i n A):0<=i/\i<(n:Int)/\A:=by
 unfold Rng at h;split at h
 ·rename_i hb;have:=of_decide_eq_true hb;exact ⟨this.1,this.2,h⟩
 ·exact h.elim
theorem Zb.out {p:Option Addr} {K:Addr->Prop} (h:Zb p K):∃ a,p=some a/\K a:=by
 unfold Zb at h;split at h
 ·exact ⟨_,rfl,h⟩
 ·exact h.elim
def idxA (base:Option Addr) (len:Nat) (i:Int) (size:Nat) (K:Value->Prop):Prop:=
 Rng i len (Zb base λ a=>K (.pointer (some (a.add (Zaf i.toNat size)))))
def Zgz (P:Program) (T:TypeId) (x i:Value) (K:Value->Prop):Prop:=
 match i with
 | .int _ n=>match P.underlying T with
  |some (.slice e)=>(match x with| .slice a len _=>idxA a len n (Zf3 P e) K|_=>False)
  |some (.array len e)=>(match x with| .pointer p=>idxA p len n (Zf3 P e) K|_=>False)
  |_=>False
 |_=>False
def ZfB (P:Program) (t:TypeId):Bool:=match P.underlying t with|some (.struct _)|some (.array _ _)=>true|_=>false
def Zrh (P:Program) (T:TypeId) (x i:Value) (K:Value->Prop):Prop:=
 match i with
 | .int _ n=>match P.underlying T with
  |some .string=>(match x with| .string s=>∃ c:UInt8,0<=n/\s[n.toNat]? =some c/\K (.int .u8 c.toNat)|_=>False)
  |some (.array len e)=>(match x with
   | .agg cs=>Rng n len (match ZfB P e with
    |true=>K (.agg (cs.extract (Zaf n.toNat (Zf3 P e)) (Zaf n.toNat (Zf3 P e) + Zf3 P e)))
    |false=>(Zqx P e).ex λ v=>cs[Zaf n.toNat (Zf3 P e)]? =some v/\K v)
   |_=>False)
  |_=>False
 |_=>False
def bnd (x:Option Value) (d y:Nat) (φ:Nat->Prop):Prop:=
 match x with
 |none=>φ d
 |some v=>match v with| .int _ i=>0<=i/\i<=(y:Int)/\φ i.toNat|_=>False
def ZbB (a:Option Addr) (l m size:Nat):Option Addr:=if m=l then a else a.map (·.add (l * size))
def ZkE (P:Program) (T:TypeId) (x:Value) (lo hi mx:Option Value) (K:Value->Prop):Prop:=
 match P.underlying T with
 |some .string=>(match x with
  | .string s=>(match mx with
   |some _=>False
   |none=>bnd hi s.size s.size λ h=>bnd lo 0 h λ l=>K (.string (s.extract l h)))
  |_=>False)
 |some (.slice e)=>(match x with
  | .slice a n c=>bnd mx c c λ m=>(match hi,mx with
   |none,some _=>False
   |_,_=>bnd hi n m λ h=>(match lo with
    |none=>K (.slice a h m)
    |some v=>bnd (some v) 0 h λ l=>K (.slice (ZbB a l m (Zf3 P e)) (h - l) (m - l))))
  |_=>False)
 |some (.array n e)=>(match x with
  | .pointer p=>∃ a:Addr,p=some a/\bnd mx n n λ m=>(match hi,mx with
   |none,some _=>False
   |_,_=>bnd hi n m λ h=>(match lo with
    |none=>K (.slice (some a) h m)
    |some v=>bnd (some v) 0 h λ l=>K (.slice (ZbB (some a) l m (Zf3 P e)) (h - l) (m - l))))
  |_=>False)
 |_=>False
def Zdg (P:Program) (op:Op):Nat:=
 match op with
 | .move _| .assign _| .pick _ _ _| .field _ _ _| .build _ _| .extract _ _| .makeFunc _ _ _| .makeInterface _ _| .unOp _ _ _=>1
 | .convert src dst _=>(match P.underlying dst with|some (.int _)=>(match P.underlying src with|some (.float _)=>0|_=>1)|_=>0)
 | .call c=>(match c.callee with
  | .builtin .len| .builtin .cap=>(match c.argTypes[0]? with
   |some t=>(match P.underlying t with|some (.map _ _)|some (.chan _ _)=>0|_=>1)
   |none=>0)
  | .builtin .min| .builtin .max=>1
  |_=>0)
 | .binOp _ T _ _ _=>(match Zcn P T with|0=>0|_=>2)
 | .nilCheck _=>3
 | .indexAddr _ _ _=>4
 | .index _ _ _=>5
 | .slice _ _ _ _ _=>6
 | .fieldAddr _ _ _=>7
 |_=>0
def Zi7 (P:Program) (T:TypeId) (x:Value) (i:Nat) (K:Value->Prop):Prop:=
 match x with
 | .pointer p=>Zb p λ a=>PR P (do pure (.value (<-Instr.fieldAt T (.pointer (some a)) i))) K
 |_=>False
def ZkV (P:Program) (ρ:Env) (o:Oper) (K:Value->Prop):Prop:=
 match Zdg P o.op with
 |1=>PR P (execOp ρ.ev o) K
 |_=>match o.op with
  | .binOp op T x y _=>Zrx P op T (ρ.ev x) (ρ.ev y) K
  | .nilCheck x=>ZoO (ρ.ev x) K
  | .indexAddr T x i=>Zgz P T (ρ.ev x) (ρ.ev i) K
  | .index T x i=>Zrh P T (ρ.ev x) (ρ.ev i) K
  | .slice T x lo hi mx=>ZkE P T (ρ.ev x) (lo.map ρ.ev) (hi.map ρ.ev) (mx.map ρ.ev) K
  | .fieldAddr T x i=>Zi7 P T (ρ.ev x) i K
  |_=>False
def Zbo (P:Program) (S:World->Prop) (s:Sem Next) (K:Value->Prop):Prop:=∃ v,(∀ w,S w->s.run P w=.ok (.value v) w)/\K v
theorem Zeo {P:Program} {t:TypeId} {i:TypeInfo} (h:P.info? t=some i) (w:World):(typeInfo t).run P w=.ok i w:=by
 simp [typeInfo,h]
theorem Zab {P:Program} {s:Sem Value} {v:Value} {w w':World} (h:s.run P w=.ok v w'):(do pure (.value (<-s)):Sem Next).run P w=.ok (.value v) w':=by
 simp [h]
theorem Ziy {P:Program} {ρ:Operand->Value} {dst:Option Tmp} {ty:TypeId} {pos:String} {after:Array Edge} {guard:Option (Nat × Bool)} {x:Operand} {K:Value->Prop} (h:ZoO (ρ x) K):
  Zbo P (λ _=>True) (execOp ρ ⟨dst,.nilCheck x,ty,pos,after,guard⟩) K:=by
 unfold ZoO at h;split at h
 ·rename_i hx
  unfold Zb at h;split at h
  ·exact ⟨_,λ w _=>by simp only [execOp,hx];rfl,h⟩
  ·exact h.elim
 ·rename_i hx;exact ⟨_,λ w _=>by simp only [execOp,hx];rfl,h⟩
 ·rename_i hx;exact ⟨_,λ w _=>by simp only [execOp,hx];rfl,h⟩
 ·exact h.elim
section
variable {P:Program} {ρ:Operand->Value} {dst:Option Tmp} {ty:TypeId} {pos:String} {after:Array Edge} {guard:Option (Nat × Bool)} {K:Value->Prop}
theorem Zdl {P:Program} {t:TypeId} {d:TypeDesc} (h:P.underlying t=some d) (w:World):(isAgg t).run P w=.ok (ZfB P t) w:=by
 unfold ZfB;rw [h];simp only [isAgg,Sem.run_bind,run_underlying h,Result.andThen_ok];cases d<;>rfl
theorem ZaQ {P:Program} {t:TypeId} {i:TypeInfo} (h:P.info? t=some i) (w:World):(sizeOf t).run P w=.ok (Zf3 P t) w:=by
 unfold Zf3;simp [sizeOf,Zeo h,h]
def ZhD (P:Program) (T:TypeId):Bool:=
 match P.underlying T with
 |some (.slice e)|some (.array _ e)=>(P.info? e).isSome
 |_=>true
theorem Zfg {T:TypeId} {x i:Operand} (hok:ZhD P T=true) (h:Zgz P T (ρ x) (ρ i) K):
  Zbo P (λ _=>True) (execOp ρ ⟨dst,.indexAddr T x i,ty,pos,after,guard⟩) K:=by
 unfold Zgz at h;unfold ZhD at hok;split at h
 case h_2=>exact h.elim
 rename_i k n hi;split at h
 ·rename_i e hT
  rw [hT] at hok;obtain ⟨ie,hie⟩:=Option.isSome_iff_exists.1 hok;split at h
  ·rename_i a len c hx
   obtain ⟨h0,h1,h⟩:=Rng.out h;obtain ⟨ad,rfl,h⟩:=Zb.out h;refine ⟨_,λ w _=>?_,h⟩;simp only [execOp,hx,hi];refine Zab ?_;simp [Instr.indexAt,asIntOf,run_underlying hT,h0,h1,ZaQ hie,ZdF]
  ·exact h.elim
 ·rename_i len e hT
  rw [hT] at hok;obtain ⟨ie,hie⟩:=Option.isSome_iff_exists.1 hok;split at h
  ·rename_i p hx
   obtain ⟨h0,h1,h⟩:=Rng.out h;obtain ⟨ad,rfl,h⟩:=Zb.out h;refine ⟨_,λ w _=>?_,h⟩;simp only [execOp,hx,hi];refine Zab ?_;simp [Instr.indexAt,Instr.sureAddr,asIntOf,run_underlying hT,h0,h1,ZaQ hie,ZdF]
  ·exact h.elim
 ·exact h.elim
def ZkX (P:Program) (T:TypeId):Bool:=
 match P.underlying T with
 |some (.slice e)|some (.array _ e)=>(P.info? e).isSome && (P.underlying e).isSome
 |_=>true
theorem ZjU {T:TypeId} {x i:Operand} (hok:ZkX P T=true) (h:Zrh P T (ρ x) (ρ i) K):
  Zbo P (λ _=>True) (execOp ρ ⟨dst,.index T x i,ty,pos,after,guard⟩) K:=by
 unfold Zrh at h;unfold ZkX at hok;split at h
 case h_2=>exact h.elim
 rename_i k n hi;split at h
 ·rename_i hT
  split at h
  ·rename_i s hx
   obtain ⟨c,h0,hc,h⟩:=h;refine ⟨_,λ w _=>?_,h⟩;simp only [execOp,hx,hi];refine Zab ?_;simp [Instr.index,asIntOf,run_underlying hT,h0,hc]
  ·exact h.elim
 ·rename_i len e hT
  rw [hT] at hok;simp only [Bool.and_eq_true] at hok;obtain ⟨ie,hie⟩:=Option.isSome_iff_exists.1 hok.1;obtain ⟨de,hde⟩:=Option.isSome_iff_exists.1 hok.2;split at h
  ·rename_i cs hx
   obtain ⟨h0,h1,h⟩:=Rng.out h;split at h
   ·rename_i hag
    refine ⟨_,λ w _=>?_,h⟩;simp only [execOp,hx,hi];refine Zab ?_;simp [Instr.index,asIntOf,run_underlying hT,h0,h1,ZaQ hie,part,Zdl hde,hag,ZdF]
   ·rename_i hag
    obtain ⟨v,hv,h⟩:=Ty.ex_some h;refine ⟨_,λ w _=>?_,h⟩;simp only [execOp,hx,hi];refine Zab ?_;rw [ZdF] at hv;simp [Instr.index,asIntOf,run_underlying hT,h0,h1,ZaQ hie,part,Zdl hde,hag,hv]
  ·exact h.elim
 ·exact h.elim
theorem ZcE {v:Value} {d y:Nat} {φ:Nat->Prop} {code:BoundsCode} (h:bnd (some v) d y φ):∃ l,(∀ w,(Instr.sliceBound v y code).run P w=.ok l w)/\φ l:=by
 unfold bnd at h;split at h
 ·rename_i hh;cases hh
 ·rename_i hh
  cases hh;split at h
  ·obtain ⟨h0,h1,h⟩:=h
   exact ⟨_,λ w=>by simp [Instr.sliceBound,asIntOf,h0,h1],h⟩
  ·exact h.elim
theorem Zcm {isS:Bool} {len cap:Nat} {lo hi mx:Option Value} {φ:Nat->Nat->Nat->Prop}
  (h:bnd mx cap cap λ m=>(match hi,mx with
   |none,some _=>False
   |_,_=>bnd hi len m λ h=>bnd lo 0 h λ l=>φ l h m)):
  ∃ l h m,(∀ w,(Instr.sliceBounds isS len cap lo hi mx).run P w=.ok (l,h,m) w)/\φ l h m:=by
 cases mx with
 |none=>
  cases hi with
  |none=>
   cases lo with
   |none=>exact ⟨0,len,cap,λ w=>by simp [Instr.sliceBounds],h⟩
   |some u=>
    obtain ⟨l,rl,h⟩:=ZcE (P:=P) (code:=.sliceB) (φ:=λ l=>φ l len cap) (d:=0) (y:=len) (v:=u) h;exact ⟨l,len,cap,λ w=>by simp [Instr.sliceBounds,rl],h⟩
  |some v=>
   obtain ⟨h',rh,h⟩:=ZcE (P:=P) (code:=if isS then .sliceAcap else .sliceAlen) (φ:=λ h=>bnd lo 0 h λ l=>φ l h cap) (d:=len) (y:=cap) (v:=v) h
   cases lo with
   |none=>exact ⟨0,h',cap,λ w=>by simp [Instr.sliceBounds,rh],h⟩
   |some u=>
    obtain ⟨l,rl,h⟩:=ZcE (P:=P) (code:=.sliceB) (φ:=λ l=>φ l h' cap) (d:=0) (y:=h') (v:=u) h;exact ⟨l,h',cap,λ w=>by simp [Instr.sliceBounds,rh,rl],h⟩
 |some x=>
  obtain ⟨m,rm,h⟩:=ZcE (P:=P) (code:=if isS then .slice3Acap else .slice3Alen) h
  cases hi with
  |none=>exact h.elim
  |some v=>
   obtain ⟨h',rh,h⟩:=ZcE (P:=P) (code:=.slice3B) (φ:=λ h=>bnd lo 0 h λ l=>φ l h m) (d:=len) (y:=m) (v:=v) h;cases lo with
   |none=>exact ⟨0,h',m,λ w=>by simp [Instr.sliceBounds,rm,rh],h⟩
   |some u=>
    obtain ⟨l,rl,h⟩:=ZcE (P:=P) (code:=.slice3C) (φ:=λ l=>φ l h' m) (d:=0) (y:=h') (v:=u) h;exact ⟨l,h',m,λ w=>by simp [Instr.sliceBounds,rm,rh,rl],h⟩
theorem ZbJ (a:Option Addr) (m size:Nat):ZbB a 0 m size=a:=by
 unfold ZbB;split
 ·rfl
 ·cases a<;>simp [Addr.add]
theorem ZgZ {T:TypeId} {x:Operand} {lo hi mx:Option Operand} (hok:ZhD P T=true)
  (h:ZkE P T (ρ x) (lo.map ρ) (hi.map ρ) (mx.map ρ) K):
  Zbo P (λ _=>True) (execOp ρ ⟨dst,.slice T x lo hi mx,ty,pos,after,guard⟩) K:=by
 unfold ZkE at h;unfold ZhD at hok;split at h
 ·rename_i hT
  split at h
  ·rename_i s hx
   split at h
   ·exact h.elim
   ·rename_i hmx
    obtain ⟨l,h',m,hr,h⟩:=Zcm (P:=P) (isS:=false) (len:=s.size) (cap:=s.size) (lo:=lo.map ρ) (hi:=hi.map ρ) (mx:=none) (φ:=λ l h _=>K (.string (s.extract l h))) (by
     revert h
     generalize hi.map ρ=hi';intro h;cases hi' with
     |none=>exact h
     |some v=>exact h)
    refine ⟨_,λ w _=>?_,h⟩;simp only [execOp,hx,hmx];refine Zab ?_;simp [Instr.sliceAt,Instr.slice,run_underlying hT,hr]
  ·exact h.elim
 ·rename_i e hT
  rw [hT] at hok;obtain ⟨ie,hie⟩:=Option.isSome_iff_exists.1 hok;split at h
  ·rename_i a n c hx
   obtain ⟨l,h',m,hr,h⟩:=Zcm (P:=P) (isS:=true) (len:=n) (cap:=c) (lo:=lo.map ρ) (hi:=hi.map ρ) (mx:=mx.map ρ) (φ:=λ l h m=>K (.slice (ZbB a l m (Zf3 P e)) (h - l) (m - l))) (by
    revert h
    generalize hi.map ρ=hi';generalize mx.map ρ=mx';generalize lo.map ρ=lo';intro h;cases lo' with
    |some v=>exact h
    |none=>
     cases mx' with
     |none=>cases hi' with
      |none=>simpa [bnd,ZbJ] using h
      |some v=>simpa [bnd,ZbJ] using h
     |some u=>cases hi' with
      |none=>simpa [bnd] using h
      |some v=>simpa [bnd,ZbJ] using h)
   refine ⟨_,λ w _=>?_,h⟩;simp only [execOp,hx];refine Zab ?_;simp [Instr.sliceAt,Instr.slice,run_underlying hT,hr,ZaQ hie,ZbB]
  ·exact h.elim
 ·rename_i n e hT
  rw [hT] at hok;obtain ⟨ie,hie⟩:=Option.isSome_iff_exists.1 hok;split at h
  ·rename_i p hx
   obtain ⟨a,rfl,h⟩:=h;obtain ⟨l,h',m,hr,h⟩:=Zcm (P:=P) (isS:=false) (len:=n) (cap:=n) (lo:=lo.map ρ) (hi:=hi.map ρ) (mx:=mx.map ρ) (φ:=λ l h m=>K (.slice (ZbB (some a) l m (Zf3 P e)) (h - l) (m - l))) (by
    revert h
    generalize hi.map ρ=hi';generalize mx.map ρ=mx';generalize lo.map ρ=lo';intro h;cases lo' with
    |some v=>exact h
    |none=>
     cases mx' with
     |none=>cases hi' with
      |none=>simpa [bnd,ZbJ] using h
      |some v=>simpa [bnd,ZbJ] using h
     |some u=>cases hi' with
      |none=>simpa [bnd] using h
      |some v=>simpa [bnd,ZbJ] using h)
   refine ⟨_,λ w _=>?_,h⟩;simp only [execOp,hx];refine Zab ?_;have hc:(if m=l then some a else some (a.add (l * Zf3 P e)))=ZbB (some a) l m (Zf3 P e):=by unfold ZbB;split<;>rfl
   have hc':some (if m=l then a else a.add (l * Zf3 P e))=ZbB (some a) l m (Zf3 P e):=by unfold ZbB;split<;>rfl
   simp [Instr.sliceAt,Instr.sureAddr,run_underlying hT,hr,ZaQ hie,hc']
  ·exact h.elim
 ·exact h.elim
def Zna (P:Program) (op:Op):Bool:=
 match op with
 | .indexAddr T _ _| .slice T _ _ _ _=>ZhD P T
 | .index T _ _=>ZkX P T
 |_=>true
theorem Zjh {s:Sem Next} (h:PR P s K):Zbo P (λ _=>True) s K:=by
 unfold PR at h;split at h
 ·rename_i v hv;exact ⟨v,λ w _=>Zdf hv w,h⟩
 ·exact h.elim
theorem ZcV {e:Env} {o:Oper} (hok:Zna P o.op=true) (h:ZkV P e o K):Zbo P (λ _=>True) (execOp e.ev o) K:=by
 unfold ZkV at h;split at h
 ·exact Zjh h
 ·obtain ⟨dst,op,ty,pos,after,guard⟩:=o
  cases op<;>simp only at h hok<;>first|exact h.elim|skip
  case binOp op T x y T'=>
   obtain ⟨v,hv,hK⟩:=Zj6 h _ _;exact ⟨v,λ w _=>Zab (hv w),hK⟩
  case nilCheck x=>exact Ziy h
  case indexAddr T x i=>exact Zfg hok h
  case index T x i=>exact ZjU hok h
  case slice T x lo hi mx=>exact ZgZ hok h
  case fieldAddr T x i=>
   unfold Zi7 at h;split at h
   ·rename_i p hx
    obtain ⟨a,rfl,h⟩:=Zb.out h;obtain ⟨v,hv,hK⟩:=Zjh h;exact ⟨v,λ w _=>by simp only [execOp,hx];exact hv w trivial,hK⟩
   ·exact h.elim
end
def At (S:World->Prop) (p:Addr) (vs:List Value):Prop:=∀ w,S w->∀ i v,vs[i]? =some v->w.cell? (p.add i)=some v
def Zfd (P:Program) (S:World->Prop) (T:TypeId) (x:Value) (K:Value->Prop):Prop:=
 match x with
 | .pointer q=>Zb q λ p=>(match ZfB P T with
   |true=>(match Zpi P 6 T with
    |some ts=>Zil ts λ vs=>At S p vs/\K (.agg vs.toArray)
    |none=>∃ vs:List Value,vs.length=Zf3 P T/\At S p vs/\K (.agg vs.toArray))
   |false=>(Zqx P T).ex λ v=>At S p [v]/\K v)
 |_=>False
def Giv (P:Program) (S:World->Prop) (s:Sem Value) (t:Rt) (K:Value->Prop):Prop:=
 t.ex λ v=>(∀ w,S w->s.run P w=.ok v w)/\K v
def Zcu (P:Program) (op:Op):Nat:=
 match op with
 | .load _ _=>1
 | .lookup _ _ _ _=>2
 | .entry _=>2
 | .typeAssert _ _ _ _=>2
 | .binOp _ T _ _ _=>(match Zcn P T with|0=>2|_=>0)
 | .convert src dst _=>(match P.underlying dst with|some .string=>(match P.underlying src with|some (.slice _)=>2|some .string=>2|_=>0)|some (.int _)=>(match P.underlying src with|some (.float _)=>2|_=>0)|_=>0)
 | .call c=>(match c.callee with
  | .builtin .len=>(match c.argTypes[0]? with
   |some t=>(match P.underlying t with|some (.map _ _)=>2|_=>0)
   |none=>0)
  |_=>0)
 |_=>0
def Zkt (ρ:Operand->Value) (o:Oper):Sem Value:=
 match o.op with
 | .lookup T x i ok=>Instr.lookup T (ρ x) (ρ i) ok
 | .entry it=>Instr.entry (ρ it)
 | .typeAssert x T T' ok=>Instr.typeAssert (ρ x) T T' ok
 | .binOp op T x y _=>(do eqGuard op T x y (ρ x) (ρ y);binOp op T (ρ x) (ρ y))
 | .convert src dst x=>convert src dst (ρ x)
 | .makeSlice T l c=>Instr.makeSlice T (ρ l) (ρ c)
 | .mapEntry T m k=>Instr.mapEntry T (ρ m) (ρ k)
 | .range T x=>Instr.range T (ρ x)
 | .next it isString=>Instr.next (ρ it) isString o.type
 | .call c=>(match c.callee with
  | .builtin .append=>Builtin.append_ c.argTypes o.type (c.args.map ρ)
  | .builtin .copy=>Builtin.copy_ c.argTypes o.type (c.args.map ρ)
  | .builtin .delete=>Builtin.delete_ c.argTypes o.type (c.args.map ρ)
  | .builtin .clear=>Builtin.clear_ c.argTypes o.type (c.args.map ρ)
  | .builtin .len=>Builtin.len_ c.argTypes o.type (c.args.map ρ)
  | _ => stuck "")
 | _ => stuck ""
def Zm8 (op:Op):Bool:=
 match op with
 | .lookup _ _ _ _| .entry _| .typeAssert _ _ _ _| .binOp _ _ _ _ _| .convert _ _ _| .makeSlice _ _ _| .mapEntry _ _ _| .range _ _| .next _ _=>true
 | .call c=>(match c.callee with
  | .builtin .append| .builtin .copy| .builtin .delete| .builtin .clear| .builtin .len=>true
  |_=>false)
 |_=>false
theorem Za5 {P:Program} {ρ:Operand->Value} {o:Oper} (h:Zm8 o.op=true) {v:Value} {w w':World} (hr:(Zkt ρ o).run P w=.ok v w'):
  (execOp ρ o).run P w=.ok (.value v) w':=by
 obtain ⟨dst,op,ty,pos,after,guard⟩:=o;cases op<;>simp only [Zm8,Bool.false_eq_true] at h
 case call c=>
  obtain ⟨callee,args,ats⟩:=c;cases callee<;>simp only [Bool.false_eq_true] at h
  case builtin b=>
   cases b<;>simp only [Bool.false_eq_true] at h<;>exact Zab (s:=_) hr
 all_goals exact Zab (s:=_) hr
def ZkS (P:Program) (S:World->Prop) (ρ:Env) (o:Oper) (K:Value->Prop):Prop:=
 match Zcu P o.op with
 |1=>(match o.op with| .load T x=>Zfd P S T (ρ.ev x) K|_=>False)
 |_=>Giv P S (Zkt ρ.ev o) (Zo1 P o.type) K
theorem ZhB:∀ {ts:List Ty} {φ:List Value->Prop},Zil ts φ->∃ vs,vs.length=ts.length/\φ vs
 |[],_,h=>⟨[],rfl,h⟩
 |_::_,_,h=>let ⟨v,h⟩:=Ty.ex_some h;let ⟨vs,hl,h⟩:=ZhB h;⟨v::vs,by simp [hl],h⟩
def Zlc (P:Program) (T:TypeId):Bool:=
 (P.info? T).isSome && (P.underlying T).isSome && (match ZfB P T with
 |true=>(match Zpi P 6 T with
  |some ts=>Nat.beq ts.length (Zf3 P T)
  |none=>true)
 |false=>true)
theorem Zgv {P:Program} {p:Addr} {vs:List Value} {w:World} (h:∀ i v,vs[i]? =some v->w.cell? (p.add i)=some v):
  (loadCells p vs.length).run P w=.ok vs.toArray w:=by
 have:=run_loadCells_list (P:=P) (w:=w) p vs h;simpa using this
theorem ZeC {P:Program} {S:World->Prop} {ρ:Operand->Value} {dst:Option Tmp} {ty:TypeId} {pos:String} {after:Array Edge} {guard:Option (Nat × Bool)} {K:Value->Prop}
  {T:TypeId} {x:Operand} (hok:Zlc P T=true) (h:Zfd P S T (ρ x) K):Zbo P S (execOp ρ ⟨dst,.load T x,ty,pos,after,guard⟩) K:=by
 unfold Zfd at h;unfold Zlc at hok;simp only [Bool.and_eq_true] at hok;obtain ⟨⟨hinfo,hund⟩,hok⟩:=hok;obtain ⟨d,hd⟩:=Option.isSome_iff_exists.1 hund;obtain ⟨i,hi⟩:=Option.isSome_iff_exists.1 hinfo;split at h
 case h_2=>exact h.elim
 rename_i q hx;unfold Zb at h;split at h
 case h_2=>exact h.elim
 rename_i p;split at h
 ·rename_i hag
  have key:∀ vs:List Value,vs.length=Zf3 P T->At S p vs->K (.agg vs.toArray)->Zbo P S (execOp ρ ⟨dst,.load T x,ty,pos,after,guard⟩) K:=λ vs hl hat hK=>by
   refine ⟨_,λ w hw=>?_,hK⟩;simp only [execOp,hx];refine Zab ?_;simp only [Instr.loadAt,Instr.sureAddr,loadVar,Sem.run_bind,Sem.run_pure,Result.andThen_ok,Zdl hd,hag,if_true,ZaQ hi,<-hl,Zgv (hat w hw)]
  split at h
  ·rename_i ts hts
   rw [hag] at hok;simp only [hts] at hok;obtain ⟨vs,hl,hat,hK⟩:=ZhB h;exact key vs (by rw [hl];exact Nat.eq_of_beq_eq_true hok) hat hK
  ·obtain ⟨vs,hl,hat,hK⟩:=h
   exact key vs hl hat hK
 ·rename_i hag
  obtain ⟨v,hat,hK⟩:=Ty.ex_some h;refine ⟨_,λ w hw=>?_,hK⟩;have hc:w.cell? p=some v:=by have:=hat w hw 0 v rfl;simpa [Addr.add] using this
  simp only [execOp,hx];refine Zab ?_;simp [Instr.loadAt,Instr.sureAddr,loadVar,Zdl hd,hag,hc]
def Zpe (P:Program) (op:Op):Bool:=match op with| .load T _=>Zlc P T|_=>true
theorem ZcS {P:Program} {S:World->Prop} {e:Env} {o:Oper} {K:Value->Prop} (hk:Zcu P o.op≠0)
  (hok:Zpe P o.op=true) (h:ZkS P S e o K):Zbo P S (execOp e.ev o) K:=by
 unfold ZkS at h;split at h
 ·rename_i hk1
  obtain ⟨dst,op,ty,pos,after,guard⟩:=o;cases op<;>simp only at h hok<;>first|exact h.elim|skip
  exact ZeC hok h
 ·rename_i hk1
  obtain ⟨v,hv,hK⟩:=Rt.ex_some h;refine ⟨v,λ w hw=>Za5 ?_ (hv w hw),hK⟩;obtain ⟨dst,op,ty,pos,after,guard⟩:=o;cases op<;>simp only [Zcu,ne_eq,not_true_eq_false] at hk hk1<;>first|rfl|exact (hk1 trivial).elim|skip
  case call c=>
   obtain ⟨callee,args,ats⟩:=c;cases callee<;>simp only [not_true_eq_false] at hk
   case builtin b=>cases b<;>simp only [not_true_eq_false] at hk<;>rfl
def New (o:Obj) (K:Nat->World->Prop) (w:World):Prop:=K w.heap.size (w.alloc o)
def newF (P:Program) (s:Sem Next) (K:Value->World->Prop) (w:World):Prop:=
 match ZfA P s with
 |some (o,f)=>New o (λ b w=>match f b with|some (.value v)=>K v w|_=>False) w
 |none=>False
def Zrz (P:Program) (s:Sem Value) (t:Rt) (K:Value->World->Prop) (w:World):Prop:=∃ w',t.ex λ v=>s.run P w=.ok v w'/\K v w'
def ZrA (P:Program) (s:Sem Unit) (K:World->Prop) (w:World):Prop:=∃ w',s.run P w=.ok () w'/\K w'
def ZrC (p:Option Addr) (A:Int->Int->World->Prop) (B:World->Prop) (w:World):Prop:=
 ∃ r s pos,p=some ⟨r,0,none⟩/\w.heap[r]? =some (.stringIter s pos)/\
  (pos<s.size->A (pos:Int) ((Utf8.decode s pos).1:Int) { w with heap:=w.heap.setIfInBounds r (.stringIter s (pos + (Utf8.decode s pos).2)) })/\(¬ pos<s.size->B w)
def ZkT (P:Program) (T:TypeId) (x:Value) (K:Value->World->Prop) (w:World):Prop:=
 match P.underlying T with
 |some .string=>(match x with| .string s=>New (.stringIter s 0) (λ b w=>K (.pointer (some ⟨b,0,none⟩)) w) w|_=>False)
 |some (.map _ _)=>Zrz P (Instr.range T x) (.val (.one .ptr)) K w
 |_=>False
def Zqv (P:Program) (s:Sem Value) (K:Value->World->Prop) (w:World):Prop:=
 ∃ w',(s.run P w=.ok (.tuple #[.bool false]) w'/\K (.tuple #[.bool false]) w')\/
  (∃ k v,s.run P w=.ok (.tuple #[.bool true,k,v]) w'/\K (.tuple #[.bool true,k,v]) w')
theorem Ziz {P:Program} {s:Sem Value} {K:Value->World->Prop} {w:World} (h:Zqv P s K w):∃ v w',s.run P w=.ok v w'/\K v w':=by
 obtain ⟨w',h|⟨k,v,h⟩⟩:=h
 ·exact ⟨_,w',h.1,h.2⟩
 ·exact ⟨_,w',h.1,h.2⟩
def Znq (x:Value) (K:Value->World->Prop) (w:World):Prop:=
 match x with
 | .pointer p=>ZrC p (λ i c w=>K (.tuple #[.bool true,.int .i64 i,.int .i32 c]) w) (λ w=>K (.tuple #[.bool false]) w) w
 |_=>False
theorem Zhb {P:Program} {T:TypeId} {x:Value} {K:Value->World->Prop} {w:World} (h:ZkT P T x K w):∃ v w',(Instr.range T x).run P w=.ok v w'/\K v w':=by
 unfold ZkT at h;split at h
 case h_3=>exact h.elim
 case h_2=>
  obtain ⟨w',h⟩:=h;obtain ⟨v,h⟩:=Rt.ex_some h;exact ⟨v,w',h⟩
 rename_i hT;split at h
 case h_2=>exact h.elim
 rename_i s;refine ⟨_,_,?_,h⟩;simp [Instr.range,run_underlying hT]
theorem Zh6 {P:Program} {T:TypeId} {x:Value} {K:Value->World->Prop} {w:World} (h:Znq x K w):∃ v w',(Instr.next x true T).run P w=.ok v w'/\K v w':=by
 unfold Znq at h;split at h
 case h_2=>exact h.elim
 obtain ⟨r,s,pos,rfl,hk,hA,hB⟩:=h;by_cases hp:pos<s.size
 ·refine ⟨_,_,?_,hA hp⟩
  simp only [Instr.next,getObj,setObj,Sem.run_bind,Sem.run,hk,Result.andThen,hp,if_true];simp [goInt]
 ·refine ⟨_,_,?_,hB hp⟩
  simp [Instr.next,getObj,Sem.run,hk,hp]
def Ext (P:Program) (g:FuncId) (args:Array Value) (w:World) (Q:Ending->World->Prop):Prop:=∃ v w',(callFunc g args).run P w=.ok (.value v) w'/\Q (.returned v) w'
def Zdw (P:Program) (cl:FuncId->Bool) (f:Value) (args:List Value) (w:World) (Q:Ending->World->Prop):Prop:=
 match f with
 | .func fn first captured=>(match fn with
  | .func g=>(match cl g with
   |true=>Calls P g (first.toList++(args++captured.toList)).toArray w Q
   |false=>Ext P g (first.toList++(args++captured.toList)).toArray w Q)
  |_=>False)
 |_=>False
theorem Zdw.mono {P:Program} {cl:FuncId->Bool} {f:Value} {args:List Value} {w:World} {Q Q':Ending->World->Prop} (h:Zdw P cl f args w Q) (hq:∀ e w,Q e w->Q' e w):Zdw P cl f args w Q':=by
 unfold Zdw at *;split at h
 ·split at h
  ·split at h
   ·exact Calls.mono h hq
   ·obtain ⟨v,w',h1,h2⟩:=h;exact ⟨v,w',h1,hq _ _ h2⟩
  ·exact h.elim
 ·exact h.elim
def calV (P:Program) (cl:FuncId->Bool) (f:Value) (args:Array Value) (t:Rt) (K:Value->World->Prop) (w:World):Prop:=
 Zdw P cl f args.toList w λ e w'=>t.ex λ v=>e=.returned v/\K v w'
def rawF (P:Program) (s:Sem Next) (K:Value->World->Prop) (w:World):Prop:=
 match s.run P w with
 | .ok (.value v) w'=>K v w'
 | .ok .skip w'=>K undef w'
 |_=>False
def ZgF (op:Op):Nat:=
 match op with
 | .alloc _| .box _ _| .buildSlice _ _ _| .makeMap _ _=>1
 | .makeSlice _ _ _| .mapEntry _ _ _| .convert _ _ _=>2
 | .range _ _=>7
 | .next _ s=>(match s with|true=>8|false=>9)
 | .store _ _ _=>3
 | .mapUpdate _ _ _ _| .insert _ _ _ _=>4
 | .entryStore _ _ _ _=>5
 | .call c=>(match c.callee with
  | .builtin .append| .builtin .copy| .builtin .delete| .builtin .clear=>2
  | .value _=>6
  |_=>0)
 |_=>0
def Zri (P:Program) (op:Op):Bool:=
 match op with
 | .buildSlice t len _=>(match Nat.beq len 1 with
  |true=>(match P.underlying t with
   |some (.slice e)=>(match P.underlying e with
    |some (.func _ _ _)=>true
    |_=>false)
   |_=>false)
  |false=>false)
 |_=>false
def ZqC (P:Program) (cl:FuncId->Bool) (ρ:Env) (o:Oper) (K:Value->World->Prop) (w:World):Prop:=
 match ZgF o.op with
 |1=>(match Zri P o.op with
  |true=>(match o.op with| .buildSlice t len parts=>Zrz P (Instr.buildSlice t len (parts.map λ (i,x)=>(i,ρ.ev x))) (Zo1 P o.type) K w|_=>False)
  |false=>newF P (execOp ρ.ev o) K w)
 |2=>Zrz P (Zkt ρ.ev o) (Zo1 P o.type) K w
 |3=>(match o.op with| .store T a x=>ZrA P (Instr.storeAt T (ρ.ev a) (ρ.ev x)) (K undef) w|_=>False)
 |4=>(match o.op with| .mapUpdate T m k x| .insert T m k x=>ZrA P (Instr.mapUpdate T (ρ.ev m) (ρ.ev k) (ρ.ev x)) (K undef) w|_=>False)
 |5=>(match o.op with| .entryStore T m s x=>ZrA P (Instr.entryStore T (ρ.ev m) (ρ.ev s) (ρ.ev x)) (K undef) w|_=>False)
 |6=>(match o.op with| .call c=>(match c.callee with| .value f=>calV P cl (ρ.ev f) (c.args.map ρ.ev) (Zo1 P o.type) K w|_=>False)|_=>False)
 |7=>(match o.op with| .range T x=>ZkT P T (ρ.ev x) K w|_=>False)
 |8=>(match o.op with| .next it _=>Znq (ρ.ev it) K w|_=>False)
 |9=>(match o.op with| .next it _=>Zqv P (Instr.next (ρ.ev it) false o.type) K w|_=>False)
 |_=>rawF P (execOp ρ.ev o) K w
def ZC (P:Program) (g:FuncId):Bool:=
 match P.funcs[g]? with
 | some fn => fn.body.isSome && !(fn.name == "runtime.NumGoroutine")
 |none=>false
theorem Zcl {P:Program} {g:FuncId} (h:ZC P g=true) (args:Array Value) (w:World):(callFunc g args).run P w=.ok (.enter g args) w:=by
 unfold ZC at h;split at h
 ·rename_i fn hf
  simp only [Bool.and_eq_true,Bool.not_eq_true'] at h;have hb:fn.body.isNone=false:=by cases hb:fn.body<;>simp_all
  simp only [callFunc,Sem.run_bind,run_program,Result.andThen_ok,hf,h.2,hb,Bool.false_eq_true,if_false];rfl
 ·simp at h
abbrev Zkk (a:Act) (d:Option Tmp) (K:Value->World->Prop):Act->World->Prop:=λ a' w'=>∃ v,a'=a.put d v/\K v w'
theorem ZfO {P:Program} {cl:FuncId->Bool} (hcl:∀ g,cl g=true->ZC P g=true) {a:Act} {e:Env} {o:Oper} {K:Value->World->Prop} {w:World}
  {Q:Exit->Act->World->Prop} (h:ZqC P cl e o K w):o.upon P a (Zkk a o.dst K) Q ((execOp e.ev o).run P w):=by
 unfold ZqC at h;split at h
 ·split at h
  ·clear hcl
   obtain ⟨dst,op,ty,pos,after,guard⟩:=o;cases op<;>simp only at h<;>first|exact h.elim|skip
   rename_i t len parts _ _;obtain ⟨w',h⟩:=h;obtain ⟨v,hr,hK⟩:=Rt.ex_some h;have:(execOp e.ev ⟨dst,.buildSlice t len parts,ty,pos,after,guard⟩).run P w=.ok (.value v) w':=by
    simp only [execOp];simp [hr]
   rw [this];exact ⟨v,rfl,hK⟩
  unfold newF at h;split at h
  ·rename_i ob f hn
   unfold New at h;dsimp only at h;split at h
   ·rename_i v hv
    rw [Zhg hn w hv];exact ⟨v,rfl,h⟩
   ·exact h.elim
  ·exact h.elim
 ·rename_i hk
  obtain ⟨w',h⟩:=h;obtain ⟨v,hr,hK⟩:=Rt.ex_some h;have hv:Zm8 o.op=true:=by
   obtain ⟨dst,op,ty,pos,after,guard⟩:=o;cases op<;>simp [ZgF] at hk<;>first|rfl|skip
   case call c=>
    obtain ⟨callee,args,ats⟩:=c;cases callee<;>simp at hk
    case builtin b=>cases b<;>simp at hk<;>rfl
  rw [Za5 hv hr];exact ⟨v,rfl,hK⟩
 ·rename_i hk
  clear hk;obtain ⟨dst,op,ty,pos,after,guard⟩:=o;cases op<;>simp only at h<;>first|exact h.elim|skip
  rename_i T a' x;obtain ⟨w',hr,hK⟩:=h;have:(execOp e.ev ⟨dst,.store T a' x,ty,pos,after,guard⟩).run P w=.ok .skip w':=by simp only [execOp];simp [hr]
  rw [this];exact ⟨undef,rfl,hK⟩
 ·rename_i hk
  clear hk;obtain ⟨dst,op,ty,pos,after,guard⟩:=o;cases op<;>simp only at h<;>first|exact h.elim|skip
  case insert T m k x=>
   obtain ⟨w',hr,hK⟩:=h;have:(execOp e.ev ⟨dst,.insert T m k x,ty,pos,after,guard⟩).run P w=.ok .skip w':=by simp only [execOp];simp [hr]
   rw [this];exact ⟨undef,rfl,hK⟩
  case mapUpdate T m k x=>
   obtain ⟨w',hr,hK⟩:=h;have:(execOp e.ev ⟨dst,.mapUpdate T m k x,ty,pos,after,guard⟩).run P w=.ok .skip w':=by simp only [execOp];simp [hr]
   rw [this];exact ⟨undef,rfl,hK⟩
 ·rename_i hk
  clear hk;obtain ⟨dst,op,ty,pos,after,guard⟩:=o;cases op<;>simp only at h<;>first|exact h.elim|skip
  rename_i T m s x;obtain ⟨w',hr,hK⟩:=h;have:(execOp e.ev ⟨dst,.entryStore T m s x,ty,pos,after,guard⟩).run P w=.ok .skip w':=by simp only [execOp];simp [hr]
  rw [this];exact ⟨undef,rfl,hK⟩
 ·rename_i hk
  clear hk;obtain ⟨dst,op,ty,pos,after,guard⟩:=o;cases op<;>simp only at h<;>first|exact h.elim|skip
  case call c=>
   obtain ⟨callee,args,ats⟩:=c;cases callee<;>simp only at h<;>first|exact h.elim|skip
   case value f=>
    unfold calV Zdw at h;split at h
    case h_2=>exact h.elim
    rename_i fn first captured hf
    split at h
    case h_2=>exact h.elim
    rename_i g;have hargs:(first++args.map e.ev)++captured=(first.toList++((args.map e.ev).toList++captured.toList)).toArray:=by
     apply Array.ext';simp
    split at h
    case h_2=>
     obtain ⟨v',w',hr,hx⟩:=h;have:(execOp e.ev ⟨dst,.call ⟨.value f,args,ats⟩,ty,pos,after,guard⟩).run P w=.ok (.value v') w':=by
      simp only [execOp,resolve,hf,Deferred.ofValue];simp only [Sem.run_bind,Sem.run_pure,Result.andThen_ok,invoke,<-hargs] at hr ⊢;exact hr
     rw [this];obtain ⟨v,hv,hK⟩:=Rt.ex_some hx;cases hv;exact ⟨_,rfl,hK⟩
    rename_i hg;have:(execOp e.ev ⟨dst,.call ⟨.value f,args,ats⟩,ty,pos,after,guard⟩).run P w=.ok (.enter g (first.toList++((args.map e.ev).toList++captured.toList)).toArray) w:=by
     simp only [execOp,resolve,hf,Deferred.ofValue];simp only [Sem.run_bind,Sem.run_pure,Result.andThen_ok,invoke,<-hargs];exact Zcl (hcl g hg) _ w
    rw [this];refine Calls.mono h ?_;intro en w' hx;obtain ⟨v,rfl,hK⟩:=Rt.ex_some hx;exact ⟨v,rfl,hK⟩
 ·rename_i hk
  clear hk;obtain ⟨dst,op,ty,pos,after,guard⟩:=o;cases op<;>simp only at h<;>first|exact h.elim|skip
  obtain ⟨v,w',hr,hK⟩:=Zhb h;rw [Za5 (o:=⟨dst,_,ty,pos,after,guard⟩) rfl hr];exact ⟨v,rfl,hK⟩
 ·rename_i hk
  obtain ⟨dst,op,ty,pos,after,guard⟩:=o;cases op<;>simp only at h<;>first|exact h.elim|skip
  rename_i it b;cases b
  ·simp [ZgF] at hk
  obtain ⟨v,w',hr,hK⟩:=Zh6 (T:=ty) h;rw [Za5 (o:=⟨dst,.next it true,ty,pos,after,guard⟩) rfl hr];exact ⟨v,rfl,hK⟩
 ·rename_i hk
  obtain ⟨dst,op,ty,pos,after,guard⟩:=o;cases op<;>simp only at h<;>first|exact h.elim|skip
  rename_i it b;cases b
  rotate_left
  ·simp [ZgF] at hk
  obtain ⟨v,w',hr,hK⟩:=Ziz h;rw [Za5 (o:=⟨dst,.next it false,ty,pos,after,guard⟩) rfl hr];exact ⟨v,rfl,hK⟩
 ·unfold rawF at h
  split at h
  ·rename_i hr;rw [hr];exact ⟨_,rfl,h⟩
  ·rename_i hr;rw [hr];exact ⟨undef,rfl,h⟩
  ·exact h.elim
def opF (P:Program) (cl:FuncId->Bool) (ρ:Env) (o:Oper) (K:Value->World->Prop) (w:World):Prop:=
 match Zdg P o.op with
 |0=>(match Zcu P o.op with
  |0=>ZqC P cl ρ o K w
  |_=>ZkS P (λ w'=>w'=w) ρ o (λ v=>K v w))
 |_=>ZkV P ρ o (λ v=>K v w)
def Zfb (P:Program) (op:Op):Bool:=
 match op with
 | .load T _=>Zlc P T
 |op=>Zna P op
theorem Zbo.upon {P:Program} {S:World->Prop} {e:Env} {o:Oper} {K:Value->World->Prop} {a:Act} {w:World} {Q:Exit->Act->World->Prop}
  (hS:S w) (h:Zbo P S (execOp e.ev o) (λ v=>K v w)):o.upon P a (Zkk a o.dst K) Q ((execOp e.ev o).run P w):=by
 obtain ⟨v,hv,hK⟩:=h;rw [hv w hS];exact ⟨v,rfl,hK⟩
theorem Zgq {P:Program} {op:Op} (h:Zfb P op=true):Zna P op=true:=by
 cases op<;>first|exact h|rfl
theorem Zh3 {P:Program} {op:Op} (h:Zfb P op=true):Zpe P op=true:=by
 cases op<;>first|exact h|rfl
theorem Zbd {P:Program} {cl:FuncId->Bool} (hcl:∀ g,cl g=true->ZC P g=true) {a:Act} {e:Env} {o:Oper} {K:Value->World->Prop} {w:World}
  {Q:Exit->Act->World->Prop} (hok:Zfb P o.op=true) (h:opF P cl e o K w):o.upon P a (Zkk a o.dst K) Q ((execOp e.ev o).run P w):=by
 unfold opF at h;split at h
 ·split at h
  ·exact ZfO hcl h
  ·rename_i hk
   exact Zbo.upon (S:=λ w'=>w'=w) rfl (ZcS hk (Zh3 hok) h)
 ·exact Zbo.upon (S:=λ _=>True) trivial (ZcV (Zgq hok) h)
section
section
variable {P:Program} {ops:Array Oper} {Q:Exit->Act->World->Prop} {md:Region.Mode} {S:World->Prop} {need look:Nat->Bool}
def wpT (P:Program) (md:Region.Mode) (ops:Array Oper) (Q:Exit->Act->World->Prop) (S:World->Prop) (need look:Nat->Bool):Nat->Array Bool->Act->World->Prop
 |0,listed,a,w=>Region.ready md ops listed=[]/\Q .normal a w
 |fuel + 1,listed,a,w=>
  (Region.ready md ops listed=[]->Q .normal a w)/\
  ∀ i∈Region.ready md ops listed,wpOp P ops Q i (λ a' w'=>((need i=true->S w')/\(look i=true->w'=w))/\wpT P md ops Q S need look fuel (listed.setIfInBounds i true) a' w') a w
theorem Zef:∀ (fuel:Nat) (listed:Array Bool) (a:Act) (w:World),wpT P md ops Q S need look fuel listed a w->wpAny P md ops Q fuel listed a w
 |0,_,_,_,h=>h
 |fuel + 1,_,_,_,h=>⟨h.1,λ i hi=>wpOp_mono (λ a' w' h'=>Zef fuel _ a' w' h'.2) (h.2 i hi)⟩
theorem Z9 {T:World->Prop} {i:Nat} {oi:Oper} {v:Value} (hi:ops[i]? =some oi) (hsel:∀ (j:Nat) (o:Oper) cs b,ops[j]? =some o->o.op≠.select cs b)
  (hQ:∀ c a w,Q (.panic c) (a.put oi.dst v) w->Q (.panic c) a w) (hni:need i=false):
  ∀ (fuel:Nat) (listed:Array Bool) (a:Act) (w:World),
   (∀ j oj,ops[j]? =some oj->j≠i->listed.getD j true=false->(∀ e∈oj.after,Region.binds md e=true->e.on≠i)->
    oi.apart ops oj=true/\∀ w w',T w->(need j=true->S w')->(look j=true->w'=w)->T w')->
   i∈Region.ready md ops listed->YieldsIf P ops T oi v a->T w->
   wpT P md ops Q S need look fuel (listed.setIfInBounds i true) (a.put oi.dst v) w->wpT P md ops Q S need look (fuel + 1) listed a w:=by
 intro fuel
 induction fuel with
 |zero=>
  intro listed a w hfree hr hy hT H;refine ⟨λ h=>(by rw [h] at hr;cases hr),λ j hj=>?_⟩;by_cases hji:j=i
  ·subst hji
   exact hy.wpOp hi hT ⟨⟨λ h=>(by rw [hni] at h;cases h),λ _=>rfl⟩,H⟩
  ·have:=ready_mono hj hji
   rw [H.1] at this;cases this
 |succ fuel ih=>
  intro listed a w hfree hr hy hT H;refine ⟨λ h=>(by rw [h] at hr;cases hr),λ j hj=>?_⟩;by_cases hji:j=i
  ·subst hji
   exact hy.wpOp hi hT ⟨⟨λ h=>(by rw [hni] at h;cases h),λ _=>rfl⟩,H⟩
  ·have h1:=H.2 j (ready_mono hj hji)
   obtain ⟨hjun,oj,hoj,hall⟩:=mem_ready.1 hj;have hnot:∀ e∈oj.after,Region.binds md e=true->e.on≠i:=λ e he hb heq=>by
    have h1:=hall e he hb;have h0:=(mem_ready.1 hr).1;rw [heq] at h1;rcases Nat.lt_or_ge i listed.size with h'|h'
    ·simp [h'] at h0 h1;rw [h0] at h1;cases h1
    ·simp [Array.getElem?_eq_none h'] at h1
   obtain ⟨hap,hkeep⟩:=hfree j oj hoj hji hjun hnot;have h2:=wpOp_putIf hoj hap (λ cs b=>hsel i oi cs b hi) (λ cs b=>hsel j oj cs b hoj) hQ hy h1;refine wpOp_mono (λ a' w' h3=>⟨h3.2.1,ih (listed.setIfInBounds j true) a' w' ?_ (ready_mono hr (Ne.symm hji)) h3.1 (hkeep w w' hT h3.2.1.1 h3.2.1.2) ?_⟩) h2
   ·intro k ok hk hki hun hno
    refine hfree k ok hk hki ?_ hno;by_cases hjk:j=k
    ·subst hjk;exact hjun
    ·rw [getD_set_ne true hjk] at hun;exact hun
   ·rw [Array.setIfInBounds_comm _ _ hji]
    exact h3.2.2
theorem Zcq {T:World->Prop} {D:Nat->Bool} {i:Nat} {oi:Oper} {v:Value} (hi:ops[i]? =some oi) (hsel:∀ (j:Nat) (o:Oper) cs b,ops[j]? =some o->o.op≠.select cs b)
  (hQ:∀ c a w,Q (.panic c) (a.put oi.dst v) w->Q (.panic c) a w) (hni:need i=false)
  (hD:∀ j oj,D j=true->j≠i->ops[j]? =some oj->∃ e∈oj.after,Region.binds md e=true/\D e.on=true):
  ∀ (fuel:Nat) (listed:Array Bool) (a:Act) (w:World),
   (∀ j oj,ops[j]? =some oj->j≠i->listed.getD j true=false->D j=false->(∀ e∈oj.after,Region.binds md e=true->e.on≠i)->
    oi.apart ops oj=true/\∀ w w',T w->(need j=true->S w')->(look j=true->w'=w)->T w')->
   (∀ j,D j=true->listed.getD j true=false)->i∈Region.ready md ops listed->YieldsIf P ops T oi v a->T w->
   wpT P md ops Q S need look fuel (listed.setIfInBounds i true) (a.put oi.dst v) w->wpT P md ops Q S need look (fuel + 1) listed a w:=by
 intro fuel
 induction fuel with
 |zero=>
  intro listed a w hfree hun hr hy hT H;refine ⟨λ h=>(by rw [h] at hr;cases hr),λ j hj=>?_⟩;by_cases hji:j=i
  ·subst hji
   exact hy.wpOp hi hT ⟨⟨λ h=>(by rw [hni] at h;cases h),λ _=>rfl⟩,H⟩
  ·have:=ready_mono hj hji
   rw [H.1] at this;cases this
 |succ fuel ih=>
  intro listed a w hfree hun hr hy hT H;refine ⟨λ h=>(by rw [h] at hr;cases hr),λ j hj=>?_⟩;by_cases hji:j=i
  ·subst hji
   exact hy.wpOp hi hT ⟨⟨λ h=>(by rw [hni] at h;cases h),λ _=>rfl⟩,H⟩
  ·have h1:=H.2 j (ready_mono hj hji)
   obtain ⟨hjun,oj,hoj,hall⟩:=mem_ready.1 hj;have hnot:∀ e∈oj.after,Region.binds md e=true->e.on≠i:=λ e he hb heq=>by
    have h1:=hall e he hb;have h0:=(mem_ready.1 hr).1;rw [heq] at h1;rcases Nat.lt_or_ge i listed.size with h'|h'
    ·simp [h'] at h0 h1;rw [h0] at h1;cases h1
    ·simp [Array.getElem?_eq_none h'] at h1
   have hDj:D j=false:=by
    cases hd:D j with
    |false=>rfl
    |true=>
     obtain ⟨e,he,hb,hde⟩:=hD j oj hd hji hoj;have h1:=hall e he hb;have h0:=hun e.on hde;rcases Nat.lt_or_ge e.on listed.size with h'|h'
     ·simp [h'] at h0 h1;rw [h0] at h1;cases h1
     ·simp [Array.getElem?_eq_none h'] at h1
   obtain ⟨hap,hkeep⟩:=hfree j oj hoj hji hjun hDj hnot;have h2:=wpOp_putIf hoj hap (λ cs b=>hsel i oi cs b hi) (λ cs b=>hsel j oj cs b hoj) hQ hy h1;refine wpOp_mono (λ a' w' h3=>⟨h3.2.1,ih (listed.setIfInBounds j true) a' w' ?_ ?_ (ready_mono hr (Ne.symm hji)) h3.1 (hkeep w w' hT h3.2.1.1 h3.2.1.2) ?_⟩) h2
   ·intro k ok hk hki hun hdk hno
    refine hfree k ok hk hki ?_ hdk hno;by_cases hjk:j=k
    ·subst hjk;exact hjun
    ·rw [getD_set_ne true hjk] at hun;exact hun
   ·intro k hdk
    have hjk:j≠k:=λ h=>by rw [h,hdk] at hDj;cases hDj
    rw [getD_set_ne true hjk];exact hun k hdk
   ·rw [Array.setIfInBounds_comm _ _ hji]
    exact h3.2.2
end
def Zb2 (ops:Array Oper) (ρ:Env) (o:Oper) (run skip:Env->Prop):Prop:=
 match o.guard with
 |none=>run ρ
 |some (j,want)=>(match (ops[j]?).bind (·.dst) with
  |none=>skip ρ
  |some d=>(match ρ d with
   | .bool b=>(match want with
    |true=>Br b (run (ρ.set d (.bool true))) (skip (ρ.set d (.bool false)))
    |false=>Br b (skip (ρ.set d (.bool true))) (run (ρ.set d (.bool false))))
   |_=>skip ρ))
def Zlw (d k:Nat):List Oper->Option TypeId
 |[]=>none
 |o::os=>match o.op with
  | .extract x j=>(match x with
   | .tmp t=>(match Nat.beq t d && Nat.beq j k with
    |true=>some o.type
    |false=>Zlw d k os)
   |_=>Zlw d k os)
  |_=>Zlw d k os
def vtE (P:Program) (t:Option TypeId):Vt:=match t with|some t=>ZqI P t|none=>.one .any
def Zih (op:Op):Bool:=match op with| .entry _=>true|_=>false
def ZqB (P:Program) (S:World->Prop) (ops:Array Oper) (ρ:Env) (o:Oper) (K:Value->Prop):Prop:=
 match o.op with
 | .entry x=>(match o.dst with
  |some d=>Giv P S (Instr.entry (ρ.ev x)) (.tup [vtE P (Zlw d 0 ops.toList),vtE P (Zlw d 1 ops.toList)]) K
  |none=>False)
 |_=>False
def opE (P:Program) (cl:FuncId->Bool) (ops:Array Oper) (ρ:Env) (o:Oper) (K:Value->World->Prop) (w:World):Prop:=
 match Zih o.op with
 |true=>ZqB P (λ w'=>w'=w) ops ρ o (λ v=>K v w)
 |false=>opF P cl ρ o K w
def ZlY (P:Program) (cl:FuncId->Bool) (ops:Array Oper):List Oper->Env->(Env->World->Prop)->World->Prop
 |[],ρ,K,w=>K ρ w
 |o::rest,ρ,K,w=>Zb2 ops ρ o
   (λ ρ=>opE P cl ops ρ o (λ v w=>ZlY P cl ops rest (ρ.put o.dst v) K w) w)
   (λ ρ=>ZlY P cl ops rest (ρ.put o.dst undef) K w)
def ZX (P:Program) (op:Op):Bool:=match Zdg P op with|0=>(match Zcu P op with|0=>false|_=>true)|_=>false
def Z1 (P:Program) (op:Op):Bool:=match Zdg P op with|0=>false|_=>true
def ZbA (P:Program) (ops:Array Oper) (j:Nat):Bool:=
 match ops[j]? with
 |none=>false
 |some oj=>!ZX P oj.op && !Z1 P oj.op && (List.range ops.size).any λ i=>match ops[i]? with
  |some oi=>ZX P oi.op && !oj.after.any (λ e=>Region.binds .any e && Nat.beq e.on i)
  |none=>false
def Zqy (P:Program) (S:World->Prop) (hs:Bool) (ρ:Env) (o:Oper) (K:Value->Prop):Prop:=
 match Z1 P o.op with
 |true=>ZkV P ρ o K
 |false=>(match hs with
  |true=>ZkS P S ρ o K
  |false=>False)
def Zma (P:Program) (ops:Array Oper) (S:World->Prop) (hs:Bool) (ρ:Env) (o:Oper) (K:Value->Prop):Prop:=
 match Zih o.op with
 |true=>(match hs with
  |true=>ZqB P S ops ρ o K
  |false=>False)
 |false=>Zqy P S hs ρ o K
def Zhe (P:Program) (ops:Array Oper) (listed:Array Bool):List Nat->Option Nat
 |[]=>none
 |i::is=>match ops[i]? with
  |some o=>(match Z1 P o.op||ZX P o.op with
   |true=>(match Region.free .any ops listed i with
    |true=>some i
    |false=>Zhe P ops listed is)
   |false=>Zhe P ops listed is)
  |none=>Zhe P ops listed is
def allF (f:Nat->Prop):List Nat->Prop
 |[]=>True
 |[i]=>f i
 |i::is=>f i/\allF f is
def Zed (ops:Array Oper) (listed:Array Bool) (i:Nat):Nat->Nat->Bool
 |0,j=>Nat.beq j i
 |n + 1,j=>Nat.beq j i||(!listed.getD j true && match ops[j]? with
  |some oj=>oj.after.any (λ e=>Region.binds .any e && Zed ops listed i n e.on)
  |none=>false)
def Zci (P:Program) (ops:Array Oper) (listed:Array Bool) (i:Nat):Bool:=(List.range ops.size).all λ j=>listed.getD j true||(Zed ops listed i 8 j||match ops[j]? with
 |some oj=>(Z1 P oj.op||ZX P oj.op)
 |none=>true)
def Zkf (P:Program) (cl:FuncId->Bool) (ops:Array Oper) (S:World->Prop) (ex:Bool):Nat->Bool->Array Bool->Env->(Env->World->Prop)->World->Prop
 |0,_,listed,ρ,K,w=>(match Region.ready .any ops listed with
  |[]=>K ρ w
  |_=>False)
 |fuel + 1,hs,listed,ρ,K,w=>(match Region.ready .any ops listed with
  |[]=>K ρ w
  |r::rs=>(match Zhe P ops listed (r::rs) with
   |some i=>(match ops[i]? with
    |some o=>Zb2 ops ρ o
      (λ ρ=>(match ex && Zci P ops listed i with
       |true=>Zma P ops (λ w'=>w'=w) true ρ o λ v=>Zkf P cl ops S ex fuel hs (listed.setIfInBounds i true) (ρ.put o.dst v) K w
       |false=>Zma P ops S hs ρ o λ v=>Zkf P cl ops S ex fuel hs (listed.setIfInBounds i true) (ρ.put o.dst v) K w))
      (λ ρ=>Zkf P cl ops S ex fuel hs (listed.setIfInBounds i true) (ρ.put o.dst undef) K w)
    |none=>False)
   |none=>allF (λ i=>match ops[i]? with
    |some o=>Zb2 ops ρ o
      (λ ρ=>(match Z1 P o.op||ZX P o.op with
       |true=>False
       |false=>match ZbA P ops i with
       |true=>opF P cl ρ o (λ v w=>S w/\Zkf P cl ops S ex fuel hs (listed.setIfInBounds i true) (ρ.put o.dst v) K w) w
       |false=>opF P cl ρ o (λ v w=>Zkf P cl ops S ex fuel false (listed.setIfInBounds i true) (ρ.put o.dst v) K w) w))
      (λ ρ=>(match Z1 P o.op||ZX P o.op with
       |true=>False
       |false=>match ZbA P ops i with
       |true=>(match hs with
        |true=>Zkf P cl ops S ex fuel true (listed.setIfInBounds i true) (ρ.put o.dst undef) K w
        |false=>False)
       |false=>Zkf P cl ops S ex fuel false (listed.setIfInBounds i true) (ρ.put o.dst undef) K w))
    |none=>False) (r::rs)))
def Drw (w:World) (F:(World->Prop)->World->Prop):Prop:=∃ S0 S:World->Prop,S0 w.drew/\∀ w',S0 w'->S w'/\F S w'
def _root_.Go.Act.env (a:Act):Env:=λ i=>a.tmps.getD i undef
theorem Z7 (a:Act):a.env.ev=a.eval:=by funext x;cases x<;>rfl
theorem ZdK {a:Act} {d:Option Tmp} {v:Value} (h:∀ x,d=some x->x<a.tmps.size):(a.put d v).env=a.env.put d v:=by
 cases d with
 |none=>rfl
 |some d=>
  have hd:=h d rfl
  funext i
  simp only [Act.env,Act.put,Env.put,Env.set];by_cases hi:i=d
  ·subst hi;simp [hd]
  ·have:Nat.beq i d=false:=by
    cases hb:Nat.beq i d with
    |false=>rfl
    |true=>exact absurd (Nat.eq_of_beq_eq_true hb) hi
   simp [this,Array.getElem?_setIfInBounds_ne (Ne.symm hi)]
theorem ZdX {ρ:Env} {d:Nat} {v:Value} (h:ρ d=v):ρ.set d v=ρ:=by
 funext i
 simp only [Env.set];split
 ·rename_i hb;rw [Nat.eq_of_beq_eq_true hb,h]
 ·rfl
theorem Zgh (a:Act) (d:Option Tmp) (v:Value):(a.put d v).tmps.size=a.tmps.size:=by
 cases d<;>simp [Act.put]
theorem ZdB (a:Act) (d:Option Tmp) (v:Value):(a.put d v).defers=a.defers:=by
 cases d<;>rfl
structure Kept (n:Nat) (pw:Nat->Bool) (a0:Env) (a:Act):Prop where
 size:a.tmps.size=n
 defers:a.defers=[]
 same:∀ i,pw i=false->a.env i=a0 i
def ZaN (n:Nat) (pw:Nat->Bool) (o:Oper):Bool:=match o.dst with|some d=>Nat.blt d n && pw d|none=>true
theorem Kept.put {n:Nat} {pw:Nat->Bool} {a0:Env} {a:Act} (h:Kept n pw a0 a) {o:Oper} (ho:ZaN n pw o=true) (v:Value):Kept n pw a0 (a.put o.dst v):=by
 refine ⟨by rw [Zgh];exact h.size,by rw [ZdB];exact h.defers,λ i hi=>?_⟩;unfold ZaN at ho;have hd:∀ x,o.dst=some x->x<a.tmps.size:=λ x hx=>by
  rw [hx] at ho;simp only [Bool.and_eq_true] at ho;rw [h.size];exact Nat.blt_eq.mp ho.1
 rw [ZdK hd];cases hx:o.dst with
 |none=>exact h.same i hi
 |some d=>
  rw [hx] at ho;simp only [Bool.and_eq_true] at ho;simp only [Env.put,Env.set];split
  ·rename_i hb;have:=Nat.eq_of_beq_eq_true hb;subst this;rw [hi] at ho;simp at ho
  ·exact h.same i hi
theorem Kept.envput {n:Nat} {pw:Nat->Bool} {a0:Env} {a:Act} (h:Kept n pw a0 a) {o:Oper} (ho:ZaN n pw o=true) (v:Value):(a.put o.dst v).env=a.env.put o.dst v:=by
 refine ZdK λ x hx=>?_;unfold ZaN at ho;rw [hx] at ho;simp only [Bool.and_eq_true] at ho;rw [h.size];exact Nat.blt_eq.mp ho.1
theorem ZhT (ops:Array Oper) (a:Act) (j:Nat):yielded ops a.tmps j=match (ops[j]?).bind (·.dst) with
  |none=>none
  |some d=>match a.env d with| .bool b=>some b|_=>none:=by
 unfold yielded;cases (ops[j]?).bind (·.dst) with
 |none=>rfl
 |some d=>
  simp only [Option.bind_some,Act.env,Array.getD_eq_getD_getElem?];cases a.tmps[d]? with
  |none=>simp [undef]
  |some v=>cases v<;>rfl
theorem ZY {ops:Array Oper} {a:Act} {o:Oper} {run skip:Env->Prop} (h:Zb2 ops a.env o run skip):
  (Region.wanted o (yielded ops a.tmps)=true/\run a.env)\/(Region.wanted o (yielded ops a.tmps)=false/\skip a.env):=by
 unfold Zb2 at h;unfold Region.wanted;split at h
 ·rename_i hg;rw [hg];exact .inl ⟨rfl,h⟩
 ·rename_i j want hg
  rw [hg];simp only [ZhT];split at h
  ·exact .inr ⟨rfl,h⟩
  ·rename_i d hd
   split at h
   ·rename_i b hb
    cases b with
    |true=>
     rw [ZdX hb] at h;cases want with
     |true=>exact .inl ⟨rfl,h⟩
     |false=>exact .inr ⟨rfl,h⟩
    |false=>
     rw [ZdX hb] at h;cases want with
     |true=>exact .inr ⟨rfl,h⟩
     |false=>exact .inl ⟨rfl,h⟩
   ·rename_i hb
    refine .inr ⟨?_,h⟩;cases hv:a.env d<;>first|rfl|exact absurd hv (hb _)
theorem ZfM {P:Program} {S:World->Prop} {ops:Array Oper} {e:Env} {o:Oper} {K:Value->Prop} (h:ZqB P S ops e o K):Zbo P S (execOp e.ev o) K:=by
 unfold ZqB at h;split at h
 case h_2=>exact h.elim
 rename_i x hop;split at h
 case h_2=>exact h.elim
 obtain ⟨v,hv,hK⟩:=Rt.ex_some h;obtain ⟨dst,op,ty,pos,after,guard⟩:=o;simp only at hop;subst hop;exact ⟨v,λ w hw=>Za5 rfl (hv w hw),hK⟩
theorem Zhf {P:Program} {cl:FuncId->Bool} {ops:Array Oper} (hcl:∀ g,cl g=true->ZC P g=true) {a:Act} {e:Env} {o:Oper} {K:Value->World->Prop} {w:World}
  {Q:Exit->Act->World->Prop} (hok:Zfb P o.op=true) (h:opE P cl ops e o K w):o.upon P a (Zkk a o.dst K) Q ((execOp e.ev o).run P w):=by
 unfold opE at h;split at h
 ·exact Zbo.upon (S:=λ w'=>w'=w) rfl (ZfM h)
 ·exact Zbd hcl hok h
section
variable {P:Program} {cl:FuncId->Bool} {ops:Array Oper} {Q:Exit->Act->World->Prop} {n:Nat} {pw:Nat->Bool} {a0:Env}
theorem Z6 (hcl:∀ g,cl g=true->ZC P g=true) {K:Env->World->Prop}
  (hQ:∀ a w,Kept n pw a0 a->K a.env w->Q .normal a w):∀ (l:List Oper) (_:∀ o∈l,Zfb P o.op=true/\ZaN n pw o=true) (a:Act) (w:World),
   Kept n pw a0 a->ZlY P cl ops l a.env K w->wpList P ops Q l a w
 |[],_,a,w,hk,h=>hQ a w hk h
 |o::rest,hl,a,w,hk,h=>by
  have ho:=hl o (List.mem_cons_self ..);have hrest:=λ x hx=>hl x (List.mem_cons_of_mem _ hx);unfold ZlY at h;unfold wpList;rcases ZY h with ⟨hw,h⟩|⟨hw,h⟩
  ·rw [if_pos hw]
   refine .inl ?_;have:=Zhf hcl (a:=a) (Q:=Q) ho.1 h;rw [Z7] at this;unfold Oper.wp;refine upon_mono ?_ this;rintro a' w' ⟨v,rfl,hv⟩;refine Z6 hcl hQ rest hrest _ w' (hk.put ho.2 v) ?_;rw [hk.envput ho.2];exact hv
  ·rw [hw]
   simp only [Bool.false_eq_true,if_false];refine Z6 hcl hQ rest hrest _ w (hk.put ho.2 _) ?_;rw [hk.envput ho.2];exact h
where
 upon_mono {o:Oper} {a:Act} {K K':Act->World->Prop} {r:Result Next} (h:∀ a w,K a w->K' a w) (hh:o.upon P a K Q r):o.upon P a K' Q r:=by
  cases r with
  |ok x w'=>
   cases x<;>simp only [Oper.upon] at hh ⊢<;>
    first
     |exact h _ _ hh
     |exact Calls.mono hh (λ e w'' he=>by cases e<;>first|exact h _ _ he|exact he)
     |exact Rows.mono hh (λ _ _ he=>h _ _ he)
  |halt x w'=>cases x<;>simp only [Oper.upon] at hh ⊢<;>exact hh
theorem Zfr {S:World->Prop} {hs:Bool} {e:Env} {o:Oper} {K:Value->Prop} (hok:Zfb P o.op=true) (hr:(Z1 P o.op||ZX P o.op)=true) (h:Zqy P S hs e o K):
  (Z1 P o.op=true/\Zbo P (λ _=>True) (execOp e.ev o) K)\/(Z1 P o.op=false/\hs=true/\Zbo P S (execOp e.ev o) K):=by
 unfold Zqy at h;split at h
 ·rename_i hp;exact .inl ⟨hp,ZcV (Zgq hok) h⟩
 ·rename_i hp
  split at h
  ·refine .inr ⟨hp,rfl,ZcS ?_ (Zh3 hok) h⟩
   rw [hp] at hr;simp only [Bool.false_or] at hr;unfold ZX at hr;intro hk;rw [hk] at hr;split at hr<;>simp at hr
  ·exact h.elim
theorem ZaR {ops:Array Oper} {S:World->Prop} {hs:Bool} {e:Env} {o:Oper} {K:Value->Prop} (hok:Zfb P o.op=true) (hr:(Z1 P o.op||ZX P o.op)=true) (h:Zma P ops S hs e o K):
  (Z1 P o.op=true/\Zbo P (λ _=>True) (execOp e.ev o) K)\/(Z1 P o.op=false/\hs=true/\Zbo P S (execOp e.ev o) K):=by
 unfold Zma at h;split at h
 ·rename_i he
  split at h
  ·refine .inr ⟨?_,rfl,ZfM h⟩
   unfold Zih at he;split at he
   ·rename_i hop
    rw [hop];rfl
   ·cases he
  ·exact h.elim
 ·exact Zfr hok hr h
theorem Za6 {listed:Array Bool}:∀ {l:List Nat} {i:Nat},Zhe P ops listed l=some i->i∈l/\∃ o,ops[i]? =some o/\(Z1 P o.op||ZX P o.op)=true/\Region.free .any ops listed i=true
 |[],_,h=>by cases h
 |j::l,i,h=>by
  unfold Zhe at h;split at h
  ·rename_i o ho
   split at h
   ·rename_i hp
    split at h
    ·rename_i hf
     cases h;exact ⟨List.mem_cons_self ..,o,ho,hp,hf⟩
    ·have:=Za6 h;exact ⟨List.mem_cons_of_mem _ this.1,this.2⟩
   ·have:=Za6 h;exact ⟨List.mem_cons_of_mem _ this.1,this.2⟩
  ·have:=Za6 h;exact ⟨List.mem_cons_of_mem _ this.1,this.2⟩
theorem Zdr {f:Nat->Prop}:∀ {l:List Nat},allF f l->∀ i∈l,f i
 |[],_,i,hi=>by cases hi
 |[j],h,i,hi=>by simp at hi;subst hi;exact h
 |j::k::l,h,i,hi=>by
  rcases List.mem_cons.1 hi with rfl|hi
  ·exact h.1
  ·exact Zdr h.2 i hi
theorem ZlP {listed:Array Bool} {i:Nat}:∀ (n j:Nat),Zed ops listed i n j=true->Zed ops listed i (n + 1) j=true
 |0,j,h=>by
  unfold Zed at h;unfold Zed;rw [h];rfl
 |n + 1,j,h=>by
  unfold Zed at h;unfold Zed;rcases Bool.or_eq_true _ _|>.mp h with h1|h1
  ·rw [h1];rfl
  ·rw [Bool.and_eq_true] at h1
   obtain ⟨h2,h3⟩:=h1;rw [h2];split at h3
   ·rename_i oj ho
    obtain ⟨e,he,hb⟩:=Array.any_eq_true'.1 h3;rw [Bool.and_eq_true] at hb;have:oj.after.any (λ e=>Region.binds .any e && Zed ops listed i (n + 1) e.on)=true:=Array.any_eq_true'.2 ⟨e,he,by rw [hb.1,ZlP n e.on hb.2];rfl⟩;rw [this];simp
   ·cases h3
theorem ZgK {listed:Array Bool} {i:Nat} (hi:listed.getD i true=false):∀ (n j:Nat),Zed ops listed i n j=true->listed.getD j true=false
 |0,j,h=>by unfold Zed at h;rw [Nat.eq_of_beq_eq_true h];exact hi
 |n + 1,j,h=>by
  unfold Zed at h;rcases Bool.or_eq_true _ _|>.mp h with h1|h1
  ·rw [Nat.eq_of_beq_eq_true h1];exact hi
  ·rw [Bool.and_eq_true] at h1
   simpa using h1.1
theorem Zdp {listed:Array Bool} {i j:Nat} {oj:Oper}:∀ (n:Nat),Zed ops listed i n j=true->j≠i->ops[j]? =some oj->∃ e∈oj.after,Region.binds .any e=true/\Zed ops listed i n e.on=true
 |0,h,hji,_=>by unfold Zed at h;exact absurd (Nat.eq_of_beq_eq_true h) hji
 |n + 1,h,hji,ho=>by
  unfold Zed at h;rcases Bool.or_eq_true _ _|>.mp h with h1|h1
  ·exact absurd (Nat.eq_of_beq_eq_true h1) hji
  ·rw [Bool.and_eq_true,ho] at h1
   obtain ⟨e,he,hb⟩:=Array.any_eq_true'.1 h1.2;rw [Bool.and_eq_true] at hb;exact ⟨e,he,hb.1,ZlP n e.on hb.2⟩
theorem ZdJ {listed:Array Bool} {i j:Nat} {oj:Oper} (h:Zci P ops listed i=true) (hj:ops[j]? =some oj) (hun:listed.getD j true=false) (hno:Zed ops listed i 8 j=false):(Z1 P oj.op||ZX P oj.op)=true:=by
 unfold Zci at h;have h1:=List.all_eq_true.1 h j (List.mem_range.2 (Array.getElem?_eq_some_iff.1 hj).1);rw [hun,hj,hno] at h1;simpa using h1
theorem Zgr {i j:Nat} {oi oj:Oper} (hi:ops[i]? =some oi) (hj:ops[j]? =some oj) (hri:ZX P oi.op=true)
  (hjr:(Z1 P oj.op||ZX P oj.op)=false) (hno:∀ e∈oj.after,Region.binds .any e=true->e.on≠i):ZbA P ops j=true:=by
 unfold ZbA;rw [hj];simp only [Bool.or_eq_false_iff] at hjr;simp only [hjr.1,hjr.2,Bool.not_false,Bool.true_and,List.any_eq_true,List.mem_range];refine ⟨i,(Array.getElem?_eq_some_iff.1 hi).1,?_⟩;rw [hi];simp only [hri,Bool.true_and,Bool.not_eq_true'];rw [<-Bool.not_eq_true,Array.any_eq_true'];rintro ⟨e,he,hb⟩;simp only [Bool.and_eq_true] at hb;exact hno e he hb.1 (Nat.eq_of_beq_eq_true hb.2)
theorem ZfZ {i:Nat} {o:Oper} {a:Act} {w:World} {K:Act->World->Prop} (hi:ops[i]? =some o)
  (h:(Region.wanted o (yielded ops a.tmps)=true/\o.upon P a K Q ((execOp a.eval o).run P w))\/(Region.wanted o (yielded ops a.tmps)=false/\K (a.put o.dst undef) w)):wpOp P ops Q i K a w:=by
 unfold wpOp;rw [hi];rcases h with ⟨hw,h⟩|⟨hw,h⟩
 ·simp only [hw,if_true];exact .inl h
 ·simp only [hw,Bool.false_eq_true,if_false];exact h
def ZaG (P:Program) (ops:Array Oper) (j:Nat):Bool:=match ops[j]? with|some o=>Z1 P o.op||ZX P o.op|none=>false
theorem Zke (hcl:∀ g,cl g=true->ZC P g=true) (hsel:Region.noSelect ops=true) {K:Env->World->Prop} {S:World->Prop} {ex:Bool}
  (hQ:∀ a w,Kept n pw a0 a->K a.env w->Q .normal a w) (hQp:∀ c a w,¬ Q (.panic c) a w) (hops:∀ (i:Nat) (o:Oper),ops[i]? =some o->Zfb P o.op=true/\ZaN n pw o=true):
  ∀ (fuel:Nat) (hs:Bool) (listed:Array Bool) (a:Act) (w:World),Kept n pw a0 a->(hs=true->S w)->Zkf P cl ops S ex fuel hs listed a.env K w->
   wpT P .any ops Q S (ZbA P ops) (ZaG P ops) fuel listed a w:=by
 intro fuel
 induction fuel with
 |zero=>
  intro hs listed a w hk hS h;unfold Zkf at h;split at h
  ·rename_i hr;exact ⟨hr,hQ a w hk h⟩
  ·exact h.elim
 |succ fuel ih=>
  intro hs listed a w hk hS h;unfold Zkf at h;split at h
  ·rename_i hr
   exact ⟨λ _=>hQ a w hk h,λ i hi=>by rw [hr] at hi;cases hi⟩
  ·rename_i r rs hr
   split at h
   ·rename_i i hp
    obtain ⟨hmem,o,ho,hpr,hfree⟩:=Za6 hp;rw [ho] at h;simp only at h;obtain ⟨hok,hd⟩:=hops i o ho;have hni:ZbA P ops i=false:=by
     unfold ZbA;rw [ho];simp only;rcases Bool.or_eq_true _ _|>.mp hpr with hp|hp<;>simp [hp]
    have hrdy:i∈Region.ready .any ops listed:=by rw [hr];exact hmem
    have hfs:=Region.free_spec (md:=.any) ho hfree;have hself:=Region.noSelect_spec hsel;rcases ZY h with ⟨hw,h⟩|⟨hw,h⟩
    ·cases hex:(ex && Zci P ops listed i) with
     |true=>
      rw [hex] at h;have hx:Zci P ops listed i=true:=by rw [Bool.and_eq_true] at hex;exact hex.2
      rcases ZaR hok hpr h with ⟨hp,v,hv,hK⟩|⟨hp,hhs,v,hv,hK⟩
      ·refine Z9 (T:=λ _=>True) ho hself (λ c a w hc=>absurd hc (hQp c _ w)) hni fuel listed a w (λ j oj hj hne hun hno=>⟨hfs j oj hj hne hun hno,λ _ _ _ _ _=>trivial⟩) hrdy (.inl ⟨hw,?_⟩) trivial
        (ih hs (listed.setIfInBounds i true) (a.put o.dst v) w (hk.put hd v) hS ?_)
       ·rw [<-Z7];exact hv
       ·rw [hk.envput hd];exact hK
      ·have hun0:listed.getD i true=false:=(mem_ready.1 hrdy).1
       refine Zcq (T:=λ w'=>w'=w) (D:=Zed ops listed i 8) ho hself (λ c a w hc=>absurd hc (hQp c _ w)) hni (λ j oj hd hji hj=>Zdp 8 hd hji hj) fuel listed a w (λ j oj hj hne hun hdj hno=>⟨hfs j oj hj hne hun hno,λ w1 w2 hw1 hneed hlook=>?_⟩) (λ j hd=>ZgK hun0 8 j hd) hrdy (.inl ⟨hw,?_⟩) rfl
        (ih hs (listed.setIfInBounds i true) (a.put o.dst v) w (hk.put hd v) hS ?_)
       ·have:=hlook (by unfold ZaG;rw [hj];exact ZdJ hx hj hun hdj)
        rw [this];exact hw1
       ·rw [<-Z7];exact hv
       ·rw [hk.envput hd];exact hK
     |false=>
     rw [hex] at h;rcases ZaR hok hpr h with ⟨hp,v,hv,hK⟩|⟨hp,hhs,v,hv,hK⟩
     ·refine Z9 (T:=λ _=>True) ho hself (λ c a w hc=>absurd hc (hQp c _ w)) hni fuel listed a w (λ j oj hj hne hun hno=>⟨hfs j oj hj hne hun hno,λ _ _ _ _ _=>trivial⟩) hrdy (.inl ⟨hw,?_⟩) trivial
       (ih hs (listed.setIfInBounds i true) (a.put o.dst v) w (hk.put hd v) hS ?_)
      ·rw [<-Z7];exact hv
      ·rw [hk.envput hd];exact hK
     ·have hri:ZX P o.op=true:=by rw [hp] at hpr;simpa using hpr
      refine Z9 (T:=S) ho hself (λ c a w hc=>absurd hc (hQp c _ w)) hni fuel listed a w (λ j oj hj hne hun hno=>⟨hfs j oj hj hne hun hno,λ w w' hw hneed hlook=>?_⟩) hrdy (.inl ⟨hw,?_⟩) (hS hhs)
       (ih hs (listed.setIfInBounds i true) (a.put o.dst v) w (hk.put hd v) hS ?_)
      ·cases hl:(Z1 P oj.op||ZX P oj.op) with
       |true=>have:=hlook (by unfold ZaG;rw [hj];exact hl);rw [this];exact hw
       |false=>exact hneed (Zgr ho hj hri hl hno)
      ·rw [<-Z7];exact hv
      ·rw [hk.envput hd];exact hK
    ·refine Z9 (T:=λ _=>True) ho hself (λ c a w hc=>absurd hc (hQp c _ w)) hni fuel listed a w (λ j oj hj hne hun hno=>⟨hfs j oj hj hne hun hno,λ _ _ _ _ _=>trivial⟩) hrdy (.inr ⟨hw,rfl⟩) trivial
       (ih hs (listed.setIfInBounds i true) (a.put o.dst undef) w (hk.put hd _) hS ?_)
     rw [hk.envput hd];exact h
   ·refine ⟨λ h0=>absurd (hr ▸ h0) (by simp),λ i hi=>?_⟩
    rw [hr] at hi;have h:=Zdr h i hi;split at h
    case h_2=>exact h.elim
    rename_i o ho;obtain ⟨hok,hd⟩:=hops i o ho;refine ZfZ ho ?_;rcases ZY h with ⟨hw,h⟩|⟨hw,h⟩
    ·refine .inl ⟨hw,?_⟩
     split at h
     ·exact h.elim
     ·rename_i hl
      have hlk:ZaG P ops i=false:=by unfold ZaG;rw [ho];exact hl
      split at h
      ·rename_i hnd
       have:=Zbd hcl (a:=a) (Q:=Q) hok h;rw [Z7] at this;refine Z6.upon_mono ?_ this;rintro a' w' ⟨v,rfl,hSw,hK⟩;refine ⟨⟨λ _=>hSw,λ hh=>(by rw [hlk] at hh;cases hh)⟩,ih hs _ _ w' (hk.put hd v) (λ _=>hSw) ?_⟩;rw [hk.envput hd];exact hK
      ·rename_i hnd
       have:=Zbd hcl (a:=a) (Q:=Q) hok h;rw [Z7] at this;refine Z6.upon_mono ?_ this;rintro a' w' ⟨v,rfl,hK⟩;refine ⟨⟨λ hh=>(by rw [hnd] at hh;cases hh),λ hh=>(by rw [hlk] at hh;cases hh)⟩,ih false _ _ w' (hk.put hd v) (λ hh=>by cases hh) ?_⟩;rw [hk.envput hd];exact hK
    ·refine .inr ⟨hw,?_⟩
     split at h
     ·exact h.elim
     ·rename_i hl
      have hlk:ZaG P ops i=false:=by unfold ZaG;rw [ho];exact hl
      split at h
      ·split at h
       ·have hSw:=hS rfl
        refine ⟨⟨λ _=>hSw,λ _=>rfl⟩,ih true _ _ w (hk.put hd _) (λ _=>hSw) ?_⟩;rw [hk.envput hd];exact h
       ·exact h.elim
      ·rename_i hnd
       refine ⟨⟨λ hh=>(by rw [hnd] at hh;cases hh),λ _=>rfl⟩,ih false _ _ w (hk.put hd _) (λ hh=>by cases hh) ?_⟩;rw [hk.envput hd];exact h
end
end
section
def Zpf (P:Program) (ops:Array Oper):Nat->Nat->Bool
 |0,_=>false
 |n + 1,i=>match ops[i]? with
  |some oi=>oi.after.any (λ e=>Region.binds .any e && match ops[e.on]? with
   |some ok=>(match Z1 P ok.op with
    |true=>Zpf P ops n e.on
    |false=>!ZX P ok.op)
   |none=>false)
  |none=>false
def ZjF (P:Program) (ops:Array Oper) (listed:Array Bool):List Nat->Option Nat
 |[]=>none
 |i::is=>match ops[i]? with
  |some o=>(match Z1 P o.op||ZX P o.op with
   |true=>(match Region.free .any ops listed i && !(ZX P o.op && Zpf P ops 8 i) with
    |true=>some i
    |false=>ZjF P ops listed is)
   |false=>ZjF P ops listed is)
  |none=>ZjF P ops listed is
def Zit (P:Program) (cl:FuncId->Bool) (ops:Array Oper) (S:World->Prop):Nat->Bool->Array Bool->Env->(Env->World->Prop)->World->Prop
 |0,_,listed,ρ,K,w=>(match Region.ready .any ops listed with
  |[]=>K ρ w
  |_=>False)
 |fuel + 1,hs,listed,ρ,K,w=>(match Region.ready .any ops listed with
  |[]=>K ρ w
  |r::rs=>(match ZjF P ops listed (r::rs) with
   |some i=>(match ops[i]? with
    |some o=>Zb2 ops ρ o
      (λ ρ=>(match Zci P ops listed i with
       |true=>Zma P ops (λ w'=>w'=w) true ρ o λ v=>Zit P cl ops S fuel hs (listed.setIfInBounds i true) (ρ.put o.dst v) K w
       |false=>Zma P ops S hs ρ o λ v=>Zit P cl ops S fuel hs (listed.setIfInBounds i true) (ρ.put o.dst v) K w))
      (λ ρ=>Zit P cl ops S fuel hs (listed.setIfInBounds i true) (ρ.put o.dst undef) K w)
    |none=>False)
   |none=>allF (λ i=>match ops[i]? with
    |some o=>Zb2 ops ρ o
      (λ ρ=>(match Z1 P o.op||ZX P o.op with
       |true=>Zma P ops (λ w'=>w'=w) true ρ o λ v=>Zit P cl ops S fuel hs (listed.setIfInBounds i true) (ρ.put o.dst v) K w
       |false=>match ZbA P ops i with
       |true=>opF P cl ρ o (λ v w=>S w/\Zit P cl ops S fuel hs (listed.setIfInBounds i true) (ρ.put o.dst v) K w) w
       |false=>opF P cl ρ o (λ v w=>Zit P cl ops S fuel false (listed.setIfInBounds i true) (ρ.put o.dst v) K w) w))
      (λ ρ=>(match Z1 P o.op||ZX P o.op with
       |true=>Zit P cl ops S fuel hs (listed.setIfInBounds i true) (ρ.put o.dst undef) K w
       |false=>match ZbA P ops i with
       |true=>(match hs with
        |true=>Zit P cl ops S fuel true (listed.setIfInBounds i true) (ρ.put o.dst undef) K w
        |false=>False)
       |false=>Zit P cl ops S fuel false (listed.setIfInBounds i true) (ρ.put o.dst undef) K w))
    |none=>False) (r::rs)))
section
variable {P:Program} {cl:FuncId->Bool} {ops:Array Oper} {Q:Exit->Act->World->Prop} {n:Nat} {pw:Nat->Bool} {a0:Env}
theorem Zcw {listed:Array Bool}:∀ {l:List Nat} {i:Nat},ZjF P ops listed l=some i->i∈l/\∃ o,ops[i]? =some o/\(Z1 P o.op||ZX P o.op)=true/\Region.free .any ops listed i=true
 |[],_,h=>by cases h
 |j::l,i,h=>by
  unfold ZjF at h;split at h
  ·rename_i o ho
   split at h
   ·rename_i hp
    split at h
    ·rename_i hf
     cases h;rw [Bool.and_eq_true] at hf;exact ⟨List.mem_cons_self ..,o,ho,hp,hf.1⟩
    ·have:=Zcw h;exact ⟨List.mem_cons_of_mem _ this.1,this.2⟩
   ·have:=Zcw h;exact ⟨List.mem_cons_of_mem _ this.1,this.2⟩
  ·have:=Zcw h;exact ⟨List.mem_cons_of_mem _ this.1,this.2⟩
theorem Zkd (hcl:∀ g,cl g=true->ZC P g=true) (hsel:Region.noSelect ops=true) {K:Env->World->Prop} {S:World->Prop}
  (hQ:∀ a w,Kept n pw a0 a->K a.env w->Q .normal a w) (hQp:∀ c a w,¬ Q (.panic c) a w) (hops:∀ (i:Nat) (o:Oper),ops[i]? =some o->Zfb P o.op=true/\ZaN n pw o=true):
  ∀ (fuel:Nat) (hs:Bool) (listed:Array Bool) (a:Act) (w:World),Kept n pw a0 a->(hs=true->S w)->Zit P cl ops S fuel hs listed a.env K w->
   wpT P .any ops Q S (ZbA P ops) (ZaG P ops) fuel listed a w:=by
 intro fuel
 induction fuel with
 |zero=>
  intro hs listed a w hk hS h;unfold Zit at h;split at h
  ·rename_i hr;exact ⟨hr,hQ a w hk h⟩
  ·exact h.elim
 |succ fuel ih=>
  intro hs listed a w hk hS h;unfold Zit at h;split at h
  ·rename_i hr
   exact ⟨λ _=>hQ a w hk h,λ i hi=>by rw [hr] at hi;cases hi⟩
  ·rename_i r rs hr
   split at h
   ·rename_i i hp
    obtain ⟨hmem,o,ho,hpr,hfree⟩:=Zcw hp;rw [ho] at h;simp only at h;obtain ⟨hok,hd⟩:=hops i o ho;have hni:ZbA P ops i=false:=by
     unfold ZbA;rw [ho];simp only;rcases Bool.or_eq_true _ _|>.mp hpr with hp|hp<;>simp [hp]
    have hrdy:i∈Region.ready .any ops listed:=by rw [hr];exact hmem
    have hfs:=Region.free_spec (md:=.any) ho hfree;have hself:=Region.noSelect_spec hsel;rcases ZY h with ⟨hw,h⟩|⟨hw,h⟩
    ·cases hex:Zci P ops listed i with
     |true=>
      rw [hex] at h;have hx:Zci P ops listed i=true:=hex;rcases ZaR hok hpr h with ⟨hp,v,hv,hK⟩|⟨hp,hhs,v,hv,hK⟩
      ·refine Z9 (T:=λ _=>True) ho hself (λ c a w hc=>absurd hc (hQp c _ w)) hni fuel listed a w (λ j oj hj hne hun hno=>⟨hfs j oj hj hne hun hno,λ _ _ _ _ _=>trivial⟩) hrdy (.inl ⟨hw,?_⟩) trivial
        (ih hs (listed.setIfInBounds i true) (a.put o.dst v) w (hk.put hd v) hS ?_)
       ·rw [<-Z7];exact hv
       ·rw [hk.envput hd];exact hK
      ·have hun0:listed.getD i true=false:=(mem_ready.1 hrdy).1
       refine Zcq (T:=λ w'=>w'=w) (D:=Zed ops listed i 8) ho hself (λ c a w hc=>absurd hc (hQp c _ w)) hni (λ j oj hd hji hj=>Zdp 8 hd hji hj) fuel listed a w (λ j oj hj hne hun hdj hno=>⟨hfs j oj hj hne hun hno,λ w1 w2 hw1 hneed hlook=>?_⟩) (λ j hd=>ZgK hun0 8 j hd) hrdy (.inl ⟨hw,?_⟩) rfl
        (ih hs (listed.setIfInBounds i true) (a.put o.dst v) w (hk.put hd v) hS ?_)
       ·have:=hlook (by unfold ZaG;rw [hj];exact ZdJ hx hj hun hdj)
        rw [this];exact hw1
       ·rw [<-Z7];exact hv
       ·rw [hk.envput hd];exact hK
     |false=>
     rw [hex] at h;rcases ZaR hok hpr h with ⟨hp,v,hv,hK⟩|⟨hp,hhs,v,hv,hK⟩
     ·refine Z9 (T:=λ _=>True) ho hself (λ c a w hc=>absurd hc (hQp c _ w)) hni fuel listed a w (λ j oj hj hne hun hno=>⟨hfs j oj hj hne hun hno,λ _ _ _ _ _=>trivial⟩) hrdy (.inl ⟨hw,?_⟩) trivial
       (ih hs (listed.setIfInBounds i true) (a.put o.dst v) w (hk.put hd v) hS ?_)
      ·rw [<-Z7];exact hv
      ·rw [hk.envput hd];exact hK
     ·have hri:ZX P o.op=true:=by rw [hp] at hpr;simpa using hpr
      refine Z9 (T:=S) ho hself (λ c a w hc=>absurd hc (hQp c _ w)) hni fuel listed a w (λ j oj hj hne hun hno=>⟨hfs j oj hj hne hun hno,λ w w' hw hneed hlook=>?_⟩) hrdy (.inl ⟨hw,?_⟩) (hS hhs)
       (ih hs (listed.setIfInBounds i true) (a.put o.dst v) w (hk.put hd v) hS ?_)
      ·cases hl:(Z1 P oj.op||ZX P oj.op) with
       |true=>have:=hlook (by unfold ZaG;rw [hj];exact hl);rw [this];exact hw
       |false=>exact hneed (Zgr ho hj hri hl hno)
      ·rw [<-Z7];exact hv
      ·rw [hk.envput hd];exact hK
    ·refine Z9 (T:=λ _=>True) ho hself (λ c a w hc=>absurd hc (hQp c _ w)) hni fuel listed a w (λ j oj hj hne hun hno=>⟨hfs j oj hj hne hun hno,λ _ _ _ _ _=>trivial⟩) hrdy (.inr ⟨hw,rfl⟩) trivial
       (ih hs (listed.setIfInBounds i true) (a.put o.dst undef) w (hk.put hd _) hS ?_)
     rw [hk.envput hd];exact h
   ·refine ⟨λ h0=>absurd (hr ▸ h0) (by simp),λ i hi=>?_⟩
    rw [hr] at hi;have h:=Zdr h i hi;split at h
    case h_2=>exact h.elim
    rename_i o ho;obtain ⟨hok,hd⟩:=hops i o ho;refine ZfZ ho ?_;rcases ZY h with ⟨hw,h⟩|⟨hw,h⟩
    ·refine .inl ⟨hw,?_⟩
     split at h
     ·rename_i hl
      have hlk:ZaG P ops i=true:=by unfold ZaG;rw [ho];exact hl
      have hni:ZbA P ops i=false:=by
       unfold ZbA;rw [ho];simp only;rcases Bool.or_eq_true _ _|>.mp hl with hp|hp<;>simp [hp]
      obtain ⟨v,hv,hK⟩:∃ v,(∀ w',w'=w->(execOp a.env.ev o).run P w'=.ok (.value v) w')/\Zit P cl ops S fuel hs (listed.setIfInBounds i true) (a.env.put o.dst v) K w:=by
       rcases ZaR hok hl h with ⟨_,v,hv,hK⟩|⟨_,_,v,hv,hK⟩
       ·exact ⟨v,λ w' _=>hv w' trivial,hK⟩
       ·exact ⟨v,hv,hK⟩
      have:=Zbo.upon (S:=λ w'=>w'=w) (a:=a) (Q:=Q) (K:=λ v' w'=>v'=v/\w'=w) rfl ⟨v,hv,rfl,rfl⟩;rw [Z7] at this;refine Z6.upon_mono ?_ this;rintro a' w' ⟨v',rfl,rfl,rfl⟩;refine ⟨⟨λ hh=>(by rw [hni] at hh;cases hh),λ _=>rfl⟩,ih hs _ _ w' (hk.put hd v') hS ?_⟩;rw [hk.envput hd];exact hK
     ·rename_i hl
      have hlk:ZaG P ops i=false:=by unfold ZaG;rw [ho];exact hl
      split at h
      ·rename_i hnd
       have:=Zbd hcl (a:=a) (Q:=Q) hok h;rw [Z7] at this;refine Z6.upon_mono ?_ this;rintro a' w' ⟨v,rfl,hSw,hK⟩;refine ⟨⟨λ _=>hSw,λ hh=>(by rw [hlk] at hh;cases hh)⟩,ih hs _ _ w' (hk.put hd v) (λ _=>hSw) ?_⟩;rw [hk.envput hd];exact hK
      ·rename_i hnd
       have:=Zbd hcl (a:=a) (Q:=Q) hok h;rw [Z7] at this;refine Z6.upon_mono ?_ this;rintro a' w' ⟨v,rfl,hK⟩;refine ⟨⟨λ hh=>(by rw [hnd] at hh;cases hh),λ hh=>(by rw [hlk] at hh;cases hh)⟩,ih false _ _ w' (hk.put hd v) (λ hh=>by cases hh) ?_⟩;rw [hk.envput hd];exact hK
    ·refine .inr ⟨hw,?_⟩
     split at h
     ·rename_i hl
      have hni:ZbA P ops i=false:=by
       unfold ZbA;rw [ho];simp only;rcases Bool.or_eq_true _ _|>.mp hl with hp|hp<;>simp [hp]
      refine ⟨⟨λ hh=>(by rw [hni] at hh;cases hh),λ _=>rfl⟩,ih hs _ _ w (hk.put hd _) hS ?_⟩;rw [hk.envput hd];exact h
     ·rename_i hl
      have hlk:ZaG P ops i=false:=by unfold ZaG;rw [ho];exact hl
      split at h
      ·split at h
       ·have hSw:=hS rfl
        refine ⟨⟨λ _=>hSw,λ _=>rfl⟩,ih true _ _ w (hk.put hd _) (λ _=>hSw) ?_⟩;rw [hk.envput hd];exact h
       ·exact h.elim
      ·rename_i hnd
       refine ⟨⟨λ hh=>(by rw [hnd] at hh;cases hh),λ _=>rfl⟩,ih false _ _ w (hk.put hd _) (λ hh=>by cases hh) ?_⟩;rw [hk.envput hd];exact h
end
end
section
def Zey (P:Program) (ops:Array Oper) (j:Nat):Bool:=
 match ops[j]? with
 |none=>false
 |some oj=>!ZX P oj.op && !Z1 P oj.op && (List.range ops.size).any λ i=>match ops[i]? with
  |some oi=>ZX P oi.op && !Zed ops (Array.replicate ops.size false) i 8 j
  |none=>false
def okT (P:Program) (ops:Array Oper) (listed:Array Bool) (i:Nat):Bool:=(List.range ops.size).all λ j=>listed.getD j true||(Zed ops listed i 8 j||(Zey P ops j||match ops[j]? with
 |some oj=>(Z1 P oj.op||ZX P oj.op)
 |none=>true))
def Zkp (P:Program) (cl:FuncId->Bool) (ops:Array Oper) (S:World->Prop):Nat->Bool->Array Bool->Env->(Env->World->Prop)->World->Prop
 |0,_,listed,ρ,K,w=>(match Region.ready .any ops listed with
  |[]=>K ρ w
  |_=>False)
 |fuel + 1,hs,listed,ρ,K,w=>(match Region.ready .any ops listed with
  |[]=>K ρ w
  |r::rs=>(match Zhe P ops listed (r::rs) with
   |some i=>(match ops[i]? with
    |some o=>Zb2 ops ρ o
      (λ ρ=>(match Zci P ops listed i with
       |true=>Zma P ops (λ w'=>w'=w) true ρ o λ v=>Zkp P cl ops S fuel hs (listed.setIfInBounds i true) (ρ.put o.dst v) K w
       |false=>(match Z1 P o.op||okT P ops listed i with
        |true=>Zma P ops S hs ρ o λ v=>Zkp P cl ops S fuel hs (listed.setIfInBounds i true) (ρ.put o.dst v) K w
        |false=>False)))
      (λ ρ=>Zkp P cl ops S fuel hs (listed.setIfInBounds i true) (ρ.put o.dst undef) K w)
    |none=>False)
   |none=>allF (λ i=>match ops[i]? with
    |some o=>Zb2 ops ρ o
      (λ ρ=>(match Z1 P o.op||ZX P o.op with
       |true=>False
       |false=>match Zey P ops i with
       |true=>opF P cl ρ o (λ v w=>S w/\Zkp P cl ops S fuel hs (listed.setIfInBounds i true) (ρ.put o.dst v) K w) w
       |false=>opF P cl ρ o (λ v w=>Zkp P cl ops S fuel false (listed.setIfInBounds i true) (ρ.put o.dst v) K w) w))
      (λ ρ=>(match Z1 P o.op||ZX P o.op with
       |true=>False
       |false=>match Zey P ops i with
       |true=>(match hs with
        |true=>Zkp P cl ops S fuel true (listed.setIfInBounds i true) (ρ.put o.dst undef) K w
        |false=>False)
       |false=>Zkp P cl ops S fuel false (listed.setIfInBounds i true) (ρ.put o.dst undef) K w))
    |none=>False) (r::rs)))
section
variable {P:Program} {cl:FuncId->Bool} {ops:Array Oper} {Q:Exit->Act->World->Prop} {n:Nat} {pw:Nat->Bool} {a0:Env}
theorem Zno {listed:Array Bool} {i j:Nat} {oj:Oper} (h:okT P ops listed i=true) (hj:ops[j]? =some oj) (hun:listed.getD j true=false) (hno:Zed ops listed i 8 j=false):Zey P ops j=true\/(Z1 P oj.op||ZX P oj.op)=true:=by
 unfold okT at h;have h1:=List.all_eq_true.1 h j (List.mem_range.2 (Array.getElem?_eq_some_iff.1 hj).1);rw [hun,hj,hno] at h1;simpa using h1
theorem Zkc (hcl:∀ g,cl g=true->ZC P g=true) (hsel:Region.noSelect ops=true) {K:Env->World->Prop} {S:World->Prop}
  (hQ:∀ a w,Kept n pw a0 a->K a.env w->Q .normal a w) (hQp:∀ c a w,¬ Q (.panic c) a w) (hops:∀ (i:Nat) (o:Oper),ops[i]? =some o->Zfb P o.op=true/\ZaN n pw o=true):
  ∀ (fuel:Nat) (hs:Bool) (listed:Array Bool) (a:Act) (w:World),Kept n pw a0 a->(hs=true->S w)->Zkp P cl ops S fuel hs listed a.env K w->
   wpT P .any ops Q S (Zey P ops) (ZaG P ops) fuel listed a w:=by
 intro fuel
 induction fuel with
 |zero=>
  intro hs listed a w hk hS h;unfold Zkp at h;split at h
  ·rename_i hr;exact ⟨hr,hQ a w hk h⟩
  ·exact h.elim
 |succ fuel ih=>
  intro hs listed a w hk hS h;unfold Zkp at h;split at h
  ·rename_i hr
   exact ⟨λ _=>hQ a w hk h,λ i hi=>by rw [hr] at hi;cases hi⟩
  ·rename_i r rs hr
   split at h
   ·rename_i i hp
    obtain ⟨hmem,o,ho,hpr,hfree⟩:=Za6 hp;rw [ho] at h;simp only at h;obtain ⟨hok,hd⟩:=hops i o ho;have hni:Zey P ops i=false:=by
     unfold Zey;rw [ho];simp only;rcases Bool.or_eq_true _ _|>.mp hpr with hp|hp<;>simp [hp]
    have hrdy:i∈Region.ready .any ops listed:=by rw [hr];exact hmem
    have hfs:=Region.free_spec (md:=.any) ho hfree;have hself:=Region.noSelect_spec hsel;rcases ZY h with ⟨hw,h⟩|⟨hw,h⟩
    ·cases hex:Zci P ops listed i with
     |true=>
      rw [hex] at h;have hx:Zci P ops listed i=true:=hex;rcases ZaR hok hpr h with ⟨hp,v,hv,hK⟩|⟨hp,hhs,v,hv,hK⟩
      ·refine Z9 (T:=λ _=>True) ho hself (λ c a w hc=>absurd hc (hQp c _ w)) hni fuel listed a w (λ j oj hj hne hun hno=>⟨hfs j oj hj hne hun hno,λ _ _ _ _ _=>trivial⟩) hrdy (.inl ⟨hw,?_⟩) trivial
        (ih hs (listed.setIfInBounds i true) (a.put o.dst v) w (hk.put hd v) hS ?_)
       ·rw [<-Z7];exact hv
       ·rw [hk.envput hd];exact hK
      ·have hun0:listed.getD i true=false:=(mem_ready.1 hrdy).1
       refine Zcq (T:=λ w'=>w'=w) (D:=Zed ops listed i 8) ho hself (λ c a w hc=>absurd hc (hQp c _ w)) hni (λ j oj hd hji hj=>Zdp 8 hd hji hj) fuel listed a w (λ j oj hj hne hun hdj hno=>⟨hfs j oj hj hne hun hno,λ w1 w2 hw1 hneed hlook=>?_⟩) (λ j hd=>ZgK hun0 8 j hd) hrdy (.inl ⟨hw,?_⟩) rfl
        (ih hs (listed.setIfInBounds i true) (a.put o.dst v) w (hk.put hd v) hS ?_)
       ·have:=hlook (by unfold ZaG;rw [hj];exact ZdJ hx hj hun hdj)
        rw [this];exact hw1
       ·rw [<-Z7];exact hv
       ·rw [hk.envput hd];exact hK
     |false=>
     rw [hex] at h;simp only at h;cases hokt:(Z1 P o.op||okT P ops listed i) with
     |false=>rw [hokt] at h;exact h.elim
     |true=>
     rw [hokt] at h;simp only at h;rcases ZaR hok hpr h with ⟨hp,v,hv,hK⟩|⟨hp,hhs,v,hv,hK⟩
     ·refine Z9 (T:=λ _=>True) ho hself (λ c a w hc=>absurd hc (hQp c _ w)) hni fuel listed a w (λ j oj hj hne hun hno=>⟨hfs j oj hj hne hun hno,λ _ _ _ _ _=>trivial⟩) hrdy (.inl ⟨hw,?_⟩) trivial
       (ih hs (listed.setIfInBounds i true) (a.put o.dst v) w (hk.put hd v) hS ?_)
      ·rw [<-Z7];exact hv
      ·rw [hk.envput hd];exact hK
     ·have hri:ZX P o.op=true:=by rw [hp] at hpr;simpa using hpr
      have hun0:listed.getD i true=false:=(mem_ready.1 hrdy).1;have hot:okT P ops listed i=true:=by rw [hp] at hokt;simpa using hokt
      refine Zcq (T:=S) (D:=Zed ops listed i 8) ho hself (λ c a w hc=>absurd hc (hQp c _ w)) hni (λ j oj hd hji hj=>Zdp 8 hd hji hj) fuel listed a w (λ j oj hj hne hun hdj hno=>⟨hfs j oj hj hne hun hno,λ w w' hw hneed hlook=>?_⟩) (λ j hd=>ZgK hun0 8 j hd) hrdy (.inl ⟨hw,?_⟩) (hS hhs)
       (ih hs (listed.setIfInBounds i true) (a.put o.dst v) w (hk.put hd v) hS ?_)
      ·rcases Zno hot hj hun hdj with h1|h1
       ·exact hneed h1
       ·have:=hlook (by unfold ZaG;rw [hj];exact h1);rw [this];exact hw
      ·rw [<-Z7];exact hv
      ·rw [hk.envput hd];exact hK
    ·refine Z9 (T:=λ _=>True) ho hself (λ c a w hc=>absurd hc (hQp c _ w)) hni fuel listed a w (λ j oj hj hne hun hno=>⟨hfs j oj hj hne hun hno,λ _ _ _ _ _=>trivial⟩) hrdy (.inr ⟨hw,rfl⟩) trivial
       (ih hs (listed.setIfInBounds i true) (a.put o.dst undef) w (hk.put hd _) hS ?_)
     rw [hk.envput hd];exact h
   ·refine ⟨λ h0=>absurd (hr ▸ h0) (by simp),λ i hi=>?_⟩
    rw [hr] at hi;have h:=Zdr h i hi;split at h
    case h_2=>exact h.elim
    rename_i o ho;obtain ⟨hok,hd⟩:=hops i o ho;refine ZfZ ho ?_;rcases ZY h with ⟨hw,h⟩|⟨hw,h⟩
    ·refine .inl ⟨hw,?_⟩
     split at h
     ·exact h.elim
     ·rename_i hl
      have hlk:ZaG P ops i=false:=by unfold ZaG;rw [ho];exact hl
      split at h
      ·rename_i hnd
       have:=Zbd hcl (a:=a) (Q:=Q) hok h;rw [Z7] at this;refine Z6.upon_mono ?_ this;rintro a' w' ⟨v,rfl,hSw,hK⟩;refine ⟨⟨λ _=>hSw,λ hh=>(by rw [hlk] at hh;cases hh)⟩,ih hs _ _ w' (hk.put hd v) (λ _=>hSw) ?_⟩;rw [hk.envput hd];exact hK
      ·rename_i hnd
       have:=Zbd hcl (a:=a) (Q:=Q) hok h;rw [Z7] at this;refine Z6.upon_mono ?_ this;rintro a' w' ⟨v,rfl,hK⟩;refine ⟨⟨λ hh=>(by rw [hnd] at hh;cases hh),λ hh=>(by rw [hlk] at hh;cases hh)⟩,ih false _ _ w' (hk.put hd v) (λ hh=>by cases hh) ?_⟩;rw [hk.envput hd];exact hK
    ·refine .inr ⟨hw,?_⟩
     split at h
     ·exact h.elim
     ·rename_i hl
      have hlk:ZaG P ops i=false:=by unfold ZaG;rw [ho];exact hl
      split at h
      ·split at h
       ·have hSw:=hS rfl
        refine ⟨⟨λ _=>hSw,λ _=>rfl⟩,ih true _ _ w (hk.put hd _) (λ _=>hSw) ?_⟩;rw [hk.envput hd];exact h
       ·exact h.elim
      ·rename_i hnd
       refine ⟨⟨λ hh=>(by rw [hnd] at hh;cases hh),λ _=>rfl⟩,ih false _ _ w (hk.put hd _) (λ hh=>by cases hh) ?_⟩;rw [hk.envput hd];exact h
end
end
section
def Cur (R:Type):List Ty->Type
 |[]=>R
 |t::ts=>t.T->Cur R ts
def app {R:Type}:(ts:List Ty)->Cur R ts->List Value->(R->Prop)->Prop
 |[],f,_,φ=>φ f
 |t::ts,f,v::vs,φ=>t.un v λ x=>app ts (f x) vs φ
 |_::_,_,[],_=>False
def Ty.all:(t:Ty)->(Value->Prop)->Prop
 | .int k,φ=>∀ n:Int,φ (.int k n)
 | .bool,φ=>∀ b:Bool,φ (.bool b)
 | .str,φ=>∀ s:ByteArray,φ (.string s)
 | .sl,φ=>∀ s:Sl,φ (.slice s.a s.len s.cap)
 | .ptr,φ=>∀ p:Option Addr,φ (.pointer p)
 | .map,φ=>∀ m:Option Nat,φ (.map m)
 | .flt,φ=>∀ n:Nat,φ (.float .f64 n)
 | .any,φ=>∀ v:Value,φ v
theorem Ty.all_enc {t:Ty} {φ:Value->Prop} (h:t.all φ) (x:t.T):φ (t.enc x):=by
 cases t<;>exact h x
def ZoW:List Ty->(List Value->Prop)->Prop
 |[],φ=>φ []
 |t::ts,φ=>t.all λ v=>ZoW ts λ vs=>φ (v::vs)
theorem Ze3 {R:Type}:∀ {ts:List Ty} {f:Cur R ts} {vs:List Value} {φ:R->Prop} {ψ:List Value->Prop},vs.length=ts.length->app ts f vs φ->ZoW ts ψ->ψ vs
 |[],_,vs,_,_,hl,_,h=>by
  cases vs with
  |nil=>exact h
  |cons v vs=>simp at hl
 |t::ts,f,[],_,_,hl,_,_=>by simp at hl
 |t::ts,f,v::vs,φ,ψ,hl,ha,h=>by
  obtain ⟨x,rfl,ha'⟩:=Ty.un_enc (show t.un v λ x=>app ts (f x) vs φ from ha)
  have hx:ZoW ts λ vs=>ψ (t.enc x::vs):=Ty.all_enc (t:=t) (φ:=λ v=>ZoW ts λ vs=>ψ (v::vs)) h x;exact Ze3 (ψ:=λ vs=>ψ (t.enc x::vs)) (by simpa using hl) ha' hx
def Zkn {R:Type} (d:R):(ts:List Ty)->Cur R ts->List Value->R
 |[],f,_=>f
 |t::ts,f,v::vs=>match t,f,v with
  | .int k,f,.int k' n=>if k=k' then Zkn d ts (f n) vs else d
  | .bool,f,.bool b=>Zkn d ts (f b) vs
  | .str,f,.string s=>Zkn d ts (f s) vs
  | .sl,f,.slice a n c=>Zkn d ts (f ⟨a,n,c⟩) vs
  | .ptr,f,.pointer p=>Zkn d ts (f p) vs
  | .map,f,.map m=>Zkn d ts (f m) vs
  | .flt,f,.float .f64 n=>Zkn d ts (f n) vs
  | .any,f,v=>Zkn d ts (f v) vs
  |_,_,_=>d
 |_::_,_,[]=>d
theorem Ze2 {R:Type} {d:R}:∀ {ts:List Ty} {f:Cur R ts} {vs:List Value} {φ:R->Prop},app ts f vs φ->φ (Zkn d ts f vs)
 |[],_,_,_,h=>h
 |t::ts,f,[],_,h=>h.elim
 |t::ts,f,v::vs,φ,h=>by
  obtain ⟨x,rfl,ha⟩:=Ty.un_enc (show t.un v λ x=>app ts (f x) vs φ from h)
  cases t<;>simp only [Zkn,Ty.enc,if_true]<;>exact Ze2 ha
structure Zm5 where
 nrm:Env->World->Prop
 ex:Nat->Env->World->Prop
 ret:Env->World->Prop
inductive Sk where
 |leaf
 |seq (a b:Sk)
 |cond (a b:Sk)
 |block (a:Sk)
 |loop (ms:List Nat) (ts:List Ty) (W:List Nat) (a:Sk)
 |cut (ms:List Nat) (ts:List Ty) (W:List Nat) (a b:Sk)
def Sk.l:Sk->Sk
 | .seq a _| .cond a _| .block a| .loop _ _ _ a| .cut _ _ _ a _=>a
 |_=>.leaf
def Sk.r:Sk->Sk
 | .seq _ b| .cond _ b| .cut _ _ _ _ b=>b
 |_=>.leaf
def Zhm (i:Nat):List Nat->Bool
 |[]=>false
 |j::js=>match Nat.beq i j with|true=>true|false=>Zhm i js
def look:List Nat->List Value->Nat->Option Value
 |m::ms,v::vs,i=>match Nat.beq i m with|true=>some v|false=>look ms vs i
 |_,_,_=>none
def mix (ρ:Env) (W ms:List Nat) (vs:List Value) (z:Env):Env:=λ i=>
 match look ms vs i with
 |some v=>v
 |none=>match Zhm i W with
  |true=>z i
  |false=>ρ i
def Zdc (ms:List Nat) (ρ:Env):List Value:=ms.map ρ
def Zmn (ts:List Ty) (ms W:List Nat) (ρ:Env) (body:Env->(Env->World->Prop)->World->Prop) (w:World):Prop:=
 ∃ (I:Cur (World->Prop) ts) (μ:Cur (World->Nat) ts),app ts I (Zdc ms ρ) (λ p=>p w)/\
  ∀ z:Env,ZoW ts λ vs=>∀ w,app ts I vs (λ p=>p w)->
   body (mix ρ W ms vs z) (λ ρ' w'=>app ts I (Zdc ms ρ') (λ p=>p w')/\app ts μ (Zdc ms ρ') (λ m'=>app ts μ vs (λ m=>m' w'<m w))) w
def ZqD (ts:List Ty) (ms W:List Nat) (ρ:Env) (first:(Env->World->Prop)->Prop) (rest:Env->World->Prop):Prop:=
 ∃ J:Cur (World->Prop) ts,first (λ ρ' w'=>app ts J (Zdc ms ρ') (λ p=>p w'))/\
  ∀ z:Env,ZoW ts λ vs=>∀ w,app ts J vs (λ p=>p w)->rest (mix ρ W ms vs z) w
def den (P:Program) (cl:FuncId->Bool):Code->Sk->Env->Zm5->World->Prop
 | .skip,_,ρ,K,w=>K.nrm ρ w
 | .label _,_,ρ,K,w=>K.nrm ρ w
 | .region _ ops d,sk,ρ,K,w=>(match d with
  |false=>ZlY P cl ops ops.toList ρ K.nrm w
  |true=>(match sk with
   | .block _=>Drw w λ S w'=>Zkf P cl ops S true ops.size true (Array.replicate ops.size false) ρ K.nrm w'
   | .seq _ _=>Drw w λ S w'=>Zit P cl ops S ops.size true (Array.replicate ops.size false) ρ K.nrm w'
   | .cond _ _=>Drw w λ S w'=>Zkp P cl ops S ops.size true (Array.replicate ops.size false) ρ K.nrm w'
   |_=>Drw w λ S w'=>Zkf P cl ops S false ops.size true (Array.replicate ops.size false) ρ K.nrm w'))
 | .seq a b,sk,ρ,K,w=>(match sk with
  | .cut ms ts W _ _=>ZqD ts ms W ρ (λ k=>den P cl a sk.l ρ { K with nrm:=k } w) (λ ρ' w'=>den P cl b sk.r ρ' K w')
  |_=>den P cl a sk.l ρ { K with nrm:=λ ρ' w'=>den P cl b sk.r ρ' K w' } w)
 | .cond c a b,sk,ρ,K,w=>(match ρ.ev c with
  | .bool t=>Br t (den P cl a sk.l ρ K w) (den P cl b sk.r ρ K w)
  |_=>False)
 | .block id a,sk,ρ,K,w=>den P cl a sk.l ρ { K with ex:=λ i=>match Nat.beq i id with|true=>K.nrm|false=>K.ex i } w
 | .loop a,sk,ρ,K,w=>(match sk with
  | .loop ms ts W _=>Zmn ts ms W ρ (λ ρ' k w'=>den P cl a sk.l ρ' { K with nrm:=k } w') w
  |_=>False)
 | .scope a,sk,ρ,K,w=>den P cl a sk.l ρ K w
 | .exit id,_,ρ,K,w=>K.ex id ρ w
 | .ret,_,ρ,K,w=>K.ret ρ w
 |_,_,_,_,_=>False
def Zdx (pw:Nat->Bool):Code->Bool
 | .region _ ops _=>ops.all λ o=>match o.dst with|some d=>pw d|none=>true
 | .seq a b| .cond _ a b=>Zdx pw a && Zdx pw b
 | .block _ a| .loop a| .scope a=>Zdx pw a
 | .rangeFunc _ _ _ _=>false
 |_=>true
def Zck (P:Program) (n:Nat):Code->Bool
 | .region _ ops _=>Region.noSelect ops && ops.all λ o=>Zfb P o.op && (match o.dst with|some d=>Nat.blt d n|none=>true)
 | .seq a b| .cond _ a b=>Zck P n a && Zck P n b
 | .block _ a| .loop a| .scope a=>Zck P n a
 | .rangeFunc _ _ _ _=>false
 |_=>true
def ZgP:Code->Sk->Bool
 | .seq a b,sk=>(match sk with
  | .cut ms ts W _ _=>Zdx (λ i=>Zhm i W) a && Nat.beq ms.length ts.length
  |_=>true) && ZgP a sk.l && ZgP b sk.r
 | .cond _ a b,sk=>ZgP a sk.l && ZgP b sk.r
 | .block _ a,sk| .scope a,sk=>ZgP a sk.l
 | .loop a,sk=>(match sk with
  | .loop ms ts W _=>Zdx (λ i=>Zhm i W) a && Nat.beq ms.length ts.length
  |_=>true) && ZgP a sk.l
 |_,_=>true
def PK (n:Nat) (pw:Nat->Bool) (a0:Env) (K:Zm5):Exit->Act->World->Prop
 | .normal,a,w=>Kept n pw a0 a/\K.nrm a.env w
 | .exit i,a,w=>Kept n pw a0 a/\K.ex i a.env w
 | .ret,a,w=>Kept n pw a0 a/\K.ret a.env w
 |_,_,_=>False
theorem Zk7 {ms:List Nat} {ρ:Env} {i:Nat} {v:Value} (h:look ms (Zdc ms ρ) i=some v):v=ρ i:=by
 induction ms with
 |nil=>cases h
 |cons m ms ih=>
  simp only [Zdc,List.map_cons,look] at h;split at h
  ·rename_i hb
   cases h;rw [Nat.eq_of_beq_eq_true hb]
  ·exact ih h
theorem Zgt {ρ e:Env} {W ms:List Nat} (h:∀ i,Zhm i W=false->e i=ρ i):mix ρ W ms (Zdc ms e) e=e:=by
 funext i
 unfold mix;split
 ·rename_i v hv;exact Zk7 hv
 ·split
  ·rfl
  ·rename_i hm;exact (h i hm).symm
theorem Zd8 (ms:List Nat) (ρ:Env):(Zdc ms ρ).length=ms.length:=by simp [Zdc]
theorem ZaI {p q:Nat->Bool}:∀ {c:Code},Zdx p c=true->Zdx q c=true->Zdx (λ i=>p i && q i) c=true
 | .region _ ops _,hp,hq=>by
  simp only [Zdx,Array.all_eq_true_iff_forall_mem] at *;intro o ho;have:=hp o ho;have:=hq o ho;cases hd:o.dst<;>simp_all
 | .seq a b,hp,hq=>by
  simp only [Zdx,Bool.and_eq_true] at *;exact ⟨ZaI hp.1 hq.1,ZaI hp.2 hq.2⟩
 | .cond _ a b,hp,hq=>by
  simp only [Zdx,Bool.and_eq_true] at *;exact ⟨ZaI hp.1 hq.1,ZaI hp.2 hq.2⟩
 | .block _ a,hp,hq=>ZaI (c:=a) hp hq
 | .loop a,hp,hq=>ZaI (c:=a) hp hq
 | .scope a,hp,hq=>ZaI (c:=a) hp hq
 | .rangeFunc _ _ _ _,hp,_=>by cases hp
 | .skip,_,_=>rfl
 | .exit _,_,_=>rfl
 | .label _,_,_=>rfl
 | .goto _,_,_=>rfl
 | .ret,_,_=>rfl
 | .refuse _,_,_=>rfl
theorem Kept.refl {n:Nat} {pw:Nat->Bool} {a:Act} (h:a.tmps.size=n) (hd:a.defers=[]):Kept n pw a.env a:=⟨h,hd,λ _ _=>rfl⟩
theorem Kept.trans {n:Nat} {pw:Nat->Bool} {q:Nat->Bool} {a0:Env} {a b:Act} (h:Kept n pw a0 a) (h':Kept n (λ i=>pw i && q i) a.env b):Kept n pw a0 b:=
 ⟨h'.size,h'.defers,λ i hi=>(h'.same i (by simp [hi])).trans (h.same i hi)⟩
variable {P:Program} {cl:FuncId->Bool} {n:Nat}
theorem Zg8 (hcl:∀ g,cl g=true->ZC P g=true) (hmix:P.follows .mixedOrders=true) {pw:Nat->Bool} {a0:Env} {id:Nat} {ops:Array Oper} {d:Bool}
  (hc:Zck P n (.region id ops d)=true) (hw:Zdx pw (.region id ops d)=true) {sk:Sk} {K:Zm5} {a:Act} {w:World} (hk:Kept n pw a0 a)
  (h:den P cl (.region id ops d) sk a.env K w):(Code.region id ops d).wp P (PK n pw a0 K) a w:=by
 simp only [Zck,Bool.and_eq_true,Array.all_eq_true_iff_forall_mem] at hc;simp only [Zdx,Array.all_eq_true_iff_forall_mem] at hw;have hops:∀ o∈ops,Zfb P o.op=true/\ZaN n pw o=true:=λ o ho=>by
  have h1:=hc.2 o ho;have h2:=hw o ho;refine ⟨h1.1,?_⟩;unfold ZaN;cases hd:o.dst with
  |none=>rfl
  |some x=>rw [hd] at h1 h2;simp only [Bool.and_eq_true];exact ⟨h1.2,h2⟩
 unfold den at h;cases d with
 |false=>
  exact wp_region_list (Z6 (Q:=PK n pw a0 K) hcl (λ a w hk h=>⟨hk,h⟩) ops.toList (λ o ho=>hops o (by simpa using ho)) a w hk h)
 |true=>
  have key:∀ ex:Bool,(Drw w λ S w'=>Zkf P cl ops S ex ops.size true (Array.replicate ops.size false) a.env K.nrm w')->(Code.region id ops true).wp P (PK n pw a0 K) a w:=λ ex h=>by
   obtain ⟨S0,S,hS,h⟩:=h;obtain ⟨hS,h⟩:=h _ hS;exact wp_region_any hmix (Zef _ _ _ _ (Zke (Q:=PK n pw a0 K) hcl hc.1 (λ a w hk h=>⟨hk,h⟩) (λ _ _ _ h=>h) (λ i o ho=>hops o (Array.mem_of_getElem? ho)) _ _ _ _ _ hk (λ _=>hS) h))
  have keyG:(Drw w λ S w'=>Zit P cl ops S ops.size true (Array.replicate ops.size false) a.env K.nrm w')->(Code.region id ops true).wp P (PK n pw a0 K) a w:=λ h=>by
   obtain ⟨S0,S,hS,h⟩:=h;obtain ⟨hS,h⟩:=h _ hS;exact wp_region_any hmix (Zef _ _ _ _ (Zkd (Q:=PK n pw a0 K) hcl hc.1 (λ a w hk h=>⟨hk,h⟩) (λ _ _ _ h=>h) (λ i o ho=>hops o (Array.mem_of_getElem? ho)) _ _ _ _ _ hk (λ _=>hS) h))
  have keyT:(Drw w λ S w'=>Zkp P cl ops S ops.size true (Array.replicate ops.size false) a.env K.nrm w')->(Code.region id ops true).wp P (PK n pw a0 K) a w:=λ h=>by
   obtain ⟨S0,S,hS,h⟩:=h;obtain ⟨hS,h⟩:=h _ hS;exact wp_region_any hmix (Zef _ _ _ _ (Zkc (Q:=PK n pw a0 K) hcl hc.1 (λ a w hk h=>⟨hk,h⟩) (λ _ _ _ h=>h) (λ i o ho=>hops o (Array.mem_of_getElem? ho)) _ _ _ _ _ hk (λ _=>hS) h))
  cases sk<;>first|exact key _ h|exact keyG h|exact keyT h
theorem Zam (hcl:∀ g,cl g=true->ZC P g=true) (hmix:P.follows .mixedOrders=true):∀ (c:Code) (sk:Sk) (pw:Nat->Bool) (a0:Env),
  Zck P n c=true->Zdx pw c=true->ZgP c sk=true->∀ (a:Act) (K:Zm5) (w:World),Kept n pw a0 a->den P cl c sk a.env K w->c.wp P (PK n pw a0 K) a w
 | .skip,sk,pw,a0,_,_,_,a,K,w,hk,h=>wp_skip ⟨hk,h⟩
 | .label _,sk,pw,a0,_,_,_,a,K,w,hk,h=>wp_label ⟨hk,h⟩
 | .exit _,sk,pw,a0,_,_,_,a,K,w,hk,h=>wp_exit ⟨hk,h⟩
 | .ret,sk,pw,a0,_,_,_,a,K,w,hk,h=>wp_ret ⟨hk,h⟩
 | .region id ops d,sk,pw,a0,hc,hw,_,a,K,w,hk,h=>Zg8 hcl hmix hc hw hk h
 | .goto _,sk,pw,a0,_,_,_,a,K,w,hk,h=>h.elim
 | .refuse _,sk,pw,a0,_,_,_,a,K,w,hk,h=>h.elim
 | .rangeFunc _ _ _ _,sk,pw,a0,_,_,_,a,K,w,hk,h=>h.elim
 | .scope c,sk,pw,a0,hc,hw,hs,a,K,w,hk,h=>by
  refine wp_scope_straight ?_;refine Code.wp_mono ?_ (Zam hcl hmix c sk.l pw a0 hc hw hs a K w hk h);intro e a w hq;cases e<;>first|exact hq|exact hq.elim
 | .block id c,sk,pw,a0,hc,hw,hs,a,K,w,hk,h=>by
  refine wp_block ?_;refine Code.wp_mono ?_ (Zam hcl hmix c sk.l pw a0 hc hw hs a _ w hk h);intro e a w hq;cases e with
  |exit i=>
   obtain ⟨hk,hq⟩:=hq;show if i=id then _ else _
   by_cases hi:i=id
   ·subst hi
    rw [if_pos rfl];have:Nat.beq i i=true:=by simp
    simp only [this] at hq;exact ⟨hk,hq⟩
   ·rw [if_neg hi]
    have:Nat.beq i id=false:=by
     cases hb:Nat.beq i id with
     |false=>rfl
     |true=>exact absurd (Nat.eq_of_beq_eq_true hb) hi
    simp only [this] at hq;exact ⟨hk,hq⟩
  |normal=>exact hq
  |ret=>exact hq
  |_=>exact hq.elim
 | .cond c x y,sk,pw,a0,hc,hw,hs,a,K,w,hk,h=>by
  simp only [Zck,Zdx,ZgP,Bool.and_eq_true] at hc hw hs;unfold den at h;split at h
  ·rename_i t ht
   rw [Z7] at ht;refine wp_cond_split ht (λ hb=>?_) (λ hb=>?_)
   ·subst hb;exact Zam hcl hmix x sk.l pw a0 hc.1 hw.1 hs.1 a K w hk h
   ·subst hb;exact Zam hcl hmix y sk.r pw a0 hc.2 hw.2 hs.2 a K w hk h
  ·exact h.elim
 | .seq x y,sk,pw,a0,hc,hw,hs,a,K,w,hk,h=>by
  simp only [Zck,Zdx,ZgP,Bool.and_eq_true] at hc hw hs;refine wp_seq ?_;have plain:den P cl x sk.l a.env { K with nrm:=λ ρ' w'=>den P cl y sk.r ρ' K w' } w->x.wp P (Exit.then (y.wp P (PK n pw a0 K)) (PK n pw a0 K)) a w:=λ h=>by
   refine Code.wp_mono ?_ (Zam hcl hmix x sk.l pw a0 hc.1 hw.1 hs.1.2 a _ w hk h);intro e a w hq;cases e with
   |normal=>exact Zam hcl hmix y sk.r pw a0 hc.2 hw.2 hs.2 a K w hq.1 hq.2
   |_=>exact hq
  cases sk with
  |cut ms ts W l r=>
   simp only [Bool.and_eq_true] at hs;obtain ⟨J,h1,h2⟩:=(show ZqD ts ms W a.env (λ k=>den P cl x l a.env { K with nrm:=k } w) (λ ρ' w'=>den P cl y r ρ' K w') from h)
   have:=Zam hcl hmix x l (λ i=>pw i && Zhm i W) a.env hc.1 (ZaI hw.1 hs.1.1.1) hs.1.2 a _ w (Kept.refl hk.size hk.defers) h1;refine Code.wp_mono ?_ this;intro e b w' hq;cases e with
   |normal=>
    obtain ⟨hkb,hq⟩:=hq;have hall:=h2 b.env;have hb:=Ze3 (by rw [Zd8];exact Nat.eq_of_beq_eq_true hs.1.1.2) hq hall w' hq;rw [Zgt (λ i hi=>hkb.same i (by simp [hi]))] at hb;exact Zam hcl hmix y r pw a0 hc.2 hw.2 hs.2 b K w' (hk.trans hkb) hb
   |exit i=>exact ⟨hk.trans hq.1,hq.2⟩
   |ret=>exact ⟨hk.trans hq.1,hq.2⟩
   |_=>exact hq.elim
  |leaf=>exact plain h
  |seq l r=>exact plain h
  |cond l r=>exact plain h
  |block l=>exact plain h
  |loop ms ts W l=>exact plain h
 | .loop c,sk,pw,a0,hc,hw,hs,a,K,w,hk,h=>by
  cases sk with
  |loop ms ts W l=>
   simp only [ZgP,Bool.and_eq_true] at hs;have hc:Zck P n c=true:=hc;have hw:Zdx pw c=true:=hw;obtain ⟨I,μ,h0,hstep⟩:=(show Zmn ts ms W a.env (λ ρ' k w'=>den P cl c l ρ' { K with nrm:=k } w') w from h)
   have hlen:∀ e:Env,(Zdc ms e).length=ts.length:=λ e=>by rw [Zd8];exact Nat.eq_of_beq_eq_true hs.1.2
   refine wp_loop (λ b v=>Kept n pw a0 b/\(∀ i,Zhm i W=false->b.env i=a.env i)/\app ts I (Zdc ms b.env) (λ p=>p v))
    (λ b v=>Zkn (λ _=>0) ts μ (Zdc ms b.env) v) ⟨hk,λ _ _=>rfl,h0⟩ ?_
   rintro b v ⟨hkb,hsame,hI⟩;have hb:=Ze3 (hlen b.env) hI (hstep b.env) v hI;rw [Zgt hsame] at hb;have:=Zam hcl hmix c l (λ i=>pw i && Zhm i W) b.env hc (ZaI hw hs.1.1) hs.2 b _ v (Kept.refl hkb.size hkb.defers) hb;refine Code.wp_mono ?_ this;intro e b' v' hq;cases e with
   |normal=>
    obtain ⟨hkb',hI',hμ⟩:=hq;exact ⟨⟨hkb.trans hkb',λ i hi=>(hkb'.same i (by simp [hi])).trans (hsame i hi),hI'⟩,by
     have h1:=Ze2 (d:=λ _=>0) hμ;exact Ze2 (d:=λ _=>0) h1⟩
   |exit i=>exact ⟨hkb.trans hq.1,hq.2⟩
   |ret=>exact ⟨hkb.trans hq.1,hq.2⟩
   |_=>exact hq.elim
  |_=>exact False.elim h
def ZcL:List Value->Env
 |[],_=>undef
 |v::vs,i=>match i with
  |0=>v
  |i + 1=>ZcL vs i
def Zrl (K:Value->World->Prop) (vs:List Value) (w:World):Prop:=
 match vs with
 |[v]=>K v w
 |vs=>K (.tuple vs.toArray) w
def ZkN (P:Program) (ρ:Env) (K:Value->World->Prop):List ResultVar->List Value->World->Prop
 |[],acc,w=>Zrl K acc.reverse w
 | .tmp t::rs,acc,w=>ZkN P ρ K rs (ρ t::acc) w
 | .cell a t::rs,acc,w=>Zfd P (λ w'=>w'=w) t (ρ a) λ v=>ZkN P ρ K rs (v::acc) w
def Zrj (P:Program) (n:Nat) (fn:Func) (sk:Sk):Bool:=
 Nat.beq n fn.ntmps && (match fn.body with|some c=>Zck P n c && Zdx (λ _=>true) c && ZgP c sk|none=>false) &&
  fn.results.all λ r=>match r with| .tmp _=>true| .cell _ t=>Zlc P t
def fnF (P:Program) (cl:FuncId->Bool) (fn:Func) (sk:Sk) (args:List Value) (K:Value->World->Prop) (w:World):Prop:=
 match fn.body with
 |some c=>den P cl c sk (ZcL args) { nrm:=λ ρ w=>ZkN P ρ K fn.results.toList [] w,ex:=λ _ _ _=>False,ret:=λ ρ w=>ZkN P ρ K fn.results.toList [] w } w
 |none=>False
theorem ZdM:∀ (vs:List Value) (i:Nat),ZcL vs i=vs.getD i undef
 |[],i=>by simp [ZcL]
 |v::vs,0=>rfl
 |v::vs,i + 1=>by simpa [ZcL] using ZdM vs i
def Zeq (tmps:Array Value):ResultVar->Sem Value
 | .tmp t=>pure (tmps.getD t undef)
 | .cell a t=>do loadVar t (<-asAddr (tmps.getD a undef))
theorem Zft (fn:Func) (tmps:Array Value):results fn tmps=(do
  let vs<-fn.results.mapM (Zeq tmps)
  pure (if h:vs.size=1 then vs[0] else .tuple vs)):=by
 unfold results
 congr 1
theorem Zct {a:Act} {K:Value->World->Prop} {w:World}:∀ (rs:List ResultVar) (acc:List Value),(∀ r∈rs,(match r with| .tmp _=>true| .cell _ t=>Zlc P t)=true)->
  ZkN P a.env K rs acc w->∃ vs:List Value,(rs.mapM (Zeq a.tmps)).run P w=.ok vs w/\Zrl K (acc.reverse++vs) w
 |[],acc,_,h=>⟨[],rfl,by rw [List.append_nil];exact h⟩
 | .tmp t::rs,acc,hok,h=>by
  obtain ⟨vs,hr,hf⟩:=Zct rs (a.env t::acc) (λ r hr=>hok r (List.mem_cons_of_mem _ hr)) h;refine ⟨a.env t::vs,?_,by simpa using hf⟩;simp only [List.mapM_cons,Sem.run_bind,Zeq,Sem.run_pure,Result.andThen_ok,hr];rfl
 | .cell p t::rs,acc,hok,h=>by
  obtain ⟨v, hv, h⟩ := ZeC (ρ := fun _ => a.env p) (dst := none) (ty := 0) (pos := "") (after := #[]) (guard := none) (T := t) (x := .tmp 0) (hok _ (List.mem_cons_self ..)) h
  obtain ⟨vs,hr,hf⟩:=Zct rs (v::acc) (λ r hr=>hok r (List.mem_cons_of_mem _ hr)) h;refine ⟨v::vs,?_,by simpa using hf⟩;have hv:=hv w rfl;simp only [execOp,Sem.run_bind,Instr.loadAt] at hv;have h2:(Zeq a.tmps (.cell p t)).run P w=.ok v w:=by
   have ep:a.env p=a.tmps.getD p undef:=rfl;rw [ep] at hv;simp only [Zeq];generalize a.tmps.getD p undef=x at *;cases x<;>simp [Instr.sureAddr] at hv
   case pointer q=>
    cases q<;>simp at hv
    case some ad=>
     simp only [asAddr,Sem.run_bind,Sem.run_pure,Result.andThen_ok];generalize (loadVar t ad).run P w=r at *;cases r<;>simp at hv
     case ok x w'=>rw [hv.1,hv.2]
  rw [List.mapM_cons,Sem.run_bind,h2,Result.andThen_ok,Sem.run_bind,hr];rfl
def Zj (P:Program) (f:FuncId) (args:Array Value) (w:World) (Q:Value->World->Prop):Prop:=Calls P f args w λ e w'=>∃ v,e=.returned v/\Q v w'
theorem Zj.use {f:FuncId} {args:Array Value} {w:World} {Q:Value->World->Prop} {R:Ending->World->Prop} (h:Zj P f args w Q) (k:∀ v w',Q v w'->R (.returned v) w'):Calls P f args w R:=
 Calls.mono h λ _ w' ⟨v,he,hq⟩=>by rw [he];exact k v w' hq
theorem Zj.mono {f:FuncId} {args:Array Value} {w:World} {Q Q':Value->World->Prop} (h:Zj P f args w Q) (k:∀ v w',Q v w'->Q' v w'):Zj P f args w Q':=
 Calls.mono h λ _ w' ⟨v,he,hq⟩=>⟨v,he,k v w' hq⟩
theorem Zmy {f:FuncId} {fn:Func} {sk:Sk} (hcl:∀ g,cl g=true->ZC P g=true) (hmix:P.follows .mixedOrders=true)
  (hf:P.funcs[f]? =some fn) (hok:Zrj P fn.ntmps fn sk=true) {args:List Value} {K:Value->World->Prop} {w:World} (hargs:args.length<=fn.ntmps)
  (h:fnF P cl fn sk args K w):Zj P f args.toArray w K:=by
 unfold Zj;unfold fnF at h;unfold Zrj at hok;simp only [Bool.and_eq_true] at hok;obtain ⟨⟨_,hbody⟩,hres⟩:=hok;split at h
 case h_2=>exact h.elim
 rename_i c hb;rw [hb] at hbody;simp only [Bool.and_eq_true] at hbody;refine calls_of_wp hf hb ?_;have henv:({ tmps:=args.toArray++Array.replicate (fn.ntmps - args.toArray.size) undef,defers:=[] }:Act).env=ZcL args:=by
  funext i
  rw [ZdM];simp only [Act.env];rcases Nat.lt_or_ge i args.length with hi|hi
  ·simp [Array.getElem?_append,hi]
  ·simp only [Array.getD_eq_getD_getElem?,Array.getElem?_append,List.size_toArray,if_neg (Nat.not_lt.2 hi),Array.getElem?_replicate,List.getD_eq_getElem?_getD,List.getElem?_eq_none hi]
   split<;>rfl
 rw [<-henv] at h;have hres':∀ r∈fn.results.toList,(match r with| .tmp _=>true| .cell _ t=>Zlc P t)=true:=λ r hr=>by
  rw [Array.all_eq_true_iff_forall_mem] at hres;exact hres r (by simpa using hr)
 have fin:∀ (a:Act) (w:World),a.defers=[]->ZkN P a.env K fn.results.toList [] w->
   a.defers=[]/\∃ v,(results fn a.tmps).run P w=.ok v w/\(∃ v',Ending.returned v=.returned v'/\K v' w):=λ a w hd hr=>by
  obtain ⟨vs,hvs,hf⟩:=Zct fn.results.toList [] hres' hr;refine ⟨hd,?_⟩;have hm:(fn.results.mapM (Zeq a.tmps)).run P w=.ok vs.toArray w:=by
   rw [Array.mapM_eq_mapM_toList];simp only [Sem.run_map,hvs,Result.andThen_ok]
  refine ⟨_,by rw [Zft,Sem.run_bind,hm];rfl,?_⟩;cases vs with
  |nil=>exact ⟨_,rfl,hf⟩
  |cons v vs=>cases vs with
   |nil=>exact ⟨_,rfl,hf⟩
   |cons u us=>exact ⟨_,rfl,hf⟩
 refine Code.wp_mono ?_ (Zam (n:=fn.ntmps) hcl hmix c sk (λ _=>true) _ hbody.1.1 hbody.1.2 hbody.2 _ _ w (Kept.refl (by simp;omega) rfl) h);intro e a w hq;cases e with
 |normal=>exact fin a w hq.1.defers hq.2
 |ret=>exact fin a w hq.1.defers hq.2
 |exit i=>exact hq.2.elim
 |_=>exact hq.elim
end
def Zqr (P:Program) (cl:FuncId->Bool) (X:List PanicEntry->World->Prop) (f:Value) (args:Array Value) (t:Rt) (K:Value->World->Prop) (w:World):Prop:=
 Zdw P cl f args.toList w λ e w'=>(t.ex λ v=>e=.returned v/\K v w')\/∃ ch,e=.panicked ch/\X ch w'
def thrF (X:List PanicEntry->World->Prop) (x:Value) (w:World):Prop:=
 match x with
 | .iface t v=>X [{ v:=.iface t v,recovered:=false }] w
 |_=>False
def Zmx (op:Op):Nat:=
 match op with
 | .call c=>(match c.callee with| .value _=>6|_=>0)
 | .panic _=>7
 |_=>0
def ZnD (P:Program) (cl:FuncId->Bool) (X:List PanicEntry->World->Prop) (ρ:Env) (o:Oper) (K:Value->World->Prop) (w:World):Prop:=
 match Zmx o.op with
 |6=>(match o.op with| .call c=>(match c.callee with| .value f=>Zqr P cl X (ρ.ev f) (c.args.map ρ.ev) (Zo1 P o.type) K w|_=>False)|_=>False)
 |7=>(match o.op with| .panic x=>thrF X (ρ.ev x) w|_=>False)
 |_=>ZqC P cl ρ o K w
theorem Zin {P:Program} {cl:FuncId->Bool} (hcl:∀ g,cl g=true->ZC P g=true) {X:List PanicEntry->World->Prop} {a:Act} {e:Env} {o:Oper} {K:Value->World->Prop} {w:World}
  {Q:Exit->Act->World->Prop} (hX:∀ ch w,X ch w->Q (.panic ch) a w) (h:ZnD P cl X e o K w):o.upon P a (Zkk a o.dst K) Q ((execOp e.ev o).run P w):=by
 unfold ZnD at h;split at h
 ·rename_i hk
  clear hk;obtain ⟨dst,op,ty,pos,after,guard⟩:=o;cases op<;>simp only at h<;>first|exact h.elim|skip
  case call c=>
   obtain ⟨callee,args,ats⟩:=c;cases callee<;>simp only at h<;>first|exact h.elim|skip
   case value f=>
    unfold Zqr Zdw at h;split at h
    case h_2=>exact h.elim
    rename_i fn first captured hf
    split at h
    case h_2=>exact h.elim
    rename_i g;have hargs:(first++args.map e.ev)++captured=(first.toList++((args.map e.ev).toList++captured.toList)).toArray:=by
     apply Array.ext';simp
    split at h
    case h_2=>
     obtain ⟨v',w',hr,hx⟩:=h;have:(execOp e.ev ⟨dst,.call ⟨.value f,args,ats⟩,ty,pos,after,guard⟩).run P w=.ok (.value v') w':=by
      simp only [execOp,resolve,hf,Deferred.ofValue];simp only [Sem.run_bind,Sem.run_pure,Result.andThen_ok,invoke,<-hargs] at hr ⊢;exact hr
     rw [this];rcases hx with hx|⟨ch,hc,_⟩
     ·obtain ⟨v,hv,hK⟩:=Rt.ex_some hx
      cases hv;exact ⟨_,rfl,hK⟩
     ·cases hc
    rename_i hg;have:(execOp e.ev ⟨dst,.call ⟨.value f,args,ats⟩,ty,pos,after,guard⟩).run P w=.ok (.enter g (first.toList++((args.map e.ev).toList++captured.toList)).toArray) w:=by
     simp only [execOp,resolve,hf,Deferred.ofValue];simp only [Sem.run_bind,Sem.run_pure,Result.andThen_ok,invoke,<-hargs];exact Zcl (hcl g hg) _ w
    rw [this];refine Calls.mono h ?_;rintro en w' (hx|⟨ch,rfl,hx⟩)
    ·obtain ⟨v,rfl,hK⟩:=Rt.ex_some hx
     exact ⟨v,rfl,hK⟩
    ·exact hX ch w' hx
 ·rename_i hk
  clear hk;obtain ⟨dst,op,ty,pos,after,guard⟩:=o;cases op<;>simp only at h<;>first|exact h.elim|skip
  case panic x=>
   unfold thrF at h;split at h
   ·rename_i t v hx
    have:(execOp e.ev ⟨dst,.panic x,ty,pos,after,guard⟩).run P w=.halt (.panic (.iface t v)) w:=by
     simp only [execOp,hx];rfl
    rw [this];exact hX _ w h
   ·exact h.elim
 ·exact ZfO hcl h
def Zo6 (P:Program) (cl:FuncId->Bool) (X:List PanicEntry->World->Prop) (ρ:Env) (o:Oper) (K:Value->World->Prop) (w:World):Prop:=
 match Zdg P o.op with
 |0=>(match Zcu P o.op with
  |0=>ZnD P cl X ρ o K w
  |_=>ZkS P (λ w'=>w'=w) ρ o (λ v=>K v w))
 |_=>ZkV P ρ o (λ v=>K v w)
theorem ZdE {P:Program} {cl:FuncId->Bool} (hcl:∀ g,cl g=true->ZC P g=true) {X:List PanicEntry->World->Prop} {a:Act} {e:Env} {o:Oper} {K:Value->World->Prop} {w:World}
  {Q:Exit->Act->World->Prop} (hX:∀ ch w,X ch w->Q (.panic ch) a w) (hok:Zfb P o.op=true) (h:Zo6 P cl X e o K w):o.upon P a (Zkk a o.dst K) Q ((execOp e.ev o).run P w):=by
 unfold Zo6 at h;split at h
 ·split at h
  ·exact Zin hcl hX h
  ·rename_i hk
   exact Zbo.upon (S:=λ w'=>w'=w) rfl (ZcS hk (Zh3 hok) h)
 ·exact Zbo.upon (S:=λ _=>True) trivial (ZcV (Zgq hok) h)
section
def ZkZ (P:Program) (cl:FuncId->Bool) (X:List PanicEntry->List Value->World->Prop) (ps:List Nat) (ops:Array Oper):List Oper->Env->(Env->World->Prop)->World->Prop
 |[],ρ,K,w=>K ρ w
 |o::rest,ρ,K,w=>Zb2 ops ρ o
   (λ ρ=>Zo6 P cl (λ ch w=>X ch (Zdc ps ρ) w) ρ o (λ v w=>ZkZ P cl X ps ops rest (ρ.put o.dst v) K w) w)
   (λ ρ=>ZkZ P cl X ps ops rest (ρ.put o.dst undef) K w)
def Zfi (P:Program) (cl:FuncId->Bool) (X:List PanicEntry->List Value->World->Prop) (ps:List Nat) (ops:Array Oper) (S:World->Prop):Nat->Bool->Array Bool->Env->(Env->World->Prop)->World->Prop
 |0,_,listed,ρ,K,w=>(match Region.ready .any ops listed with
  |[]=>K ρ w
  |_=>False)
 |fuel + 1,hs,listed,ρ,K,w=>(match Region.ready .any ops listed with
  |[]=>K ρ w
  |r::rs=>(match Zhe P ops listed (r::rs) with
   |some i=>(match ops[i]? with
    |some o=>Zb2 ops ρ o
      (λ ρ=>Zqy P S hs ρ o λ v=>Zfi P cl X ps ops S fuel hs (listed.setIfInBounds i true) (ρ.put o.dst v) K w)
      (λ ρ=>Zfi P cl X ps ops S fuel hs (listed.setIfInBounds i true) (ρ.put o.dst undef) K w)
    |none=>False)
   |none=>allF (λ i=>match ops[i]? with
    |some o=>Zb2 ops ρ o
      (λ ρ=>(match Z1 P o.op||ZX P o.op with
       |true=>False
       |false=>match ZbA P ops i with
       |true=>Zo6 P cl (λ ch w=>X ch (Zdc ps ρ) w) ρ o (λ v w=>S w/\Zfi P cl X ps ops S fuel hs (listed.setIfInBounds i true) (ρ.put o.dst v) K w) w
       |false=>Zo6 P cl (λ ch w=>X ch (Zdc ps ρ) w) ρ o (λ v w=>Zfi P cl X ps ops S fuel false (listed.setIfInBounds i true) (ρ.put o.dst v) K w) w))
      (λ ρ=>(match Z1 P o.op||ZX P o.op with
       |true=>False
       |false=>match ZbA P ops i with
       |true=>(match hs with
        |true=>Zfi P cl X ps ops S fuel true (listed.setIfInBounds i true) (ρ.put o.dst undef) K w
        |false=>False)
       |false=>Zfi P cl X ps ops S fuel false (listed.setIfInBounds i true) (ρ.put o.dst undef) K w))
    |none=>False) (r::rs)))
structure Zav (n:Nat) (ds:List Deferred) (pw:Nat->Bool) (a0:Env) (a:Act):Prop where
 size:a.tmps.size=n
 defers:a.defers=ds
 same:∀ i,pw i=false->a.env i=a0 i
theorem Zav.put {n:Nat} {ds:List Deferred} {pw:Nat->Bool} {a0:Env} {a:Act} (h:Zav n ds pw a0 a) {o:Oper} (ho:ZaN n pw o=true) (v:Value):Zav n ds pw a0 (a.put o.dst v):=by
 refine ⟨by rw [Zgh];exact h.size,by rw [ZdB];exact h.defers,λ i hi=>?_⟩;unfold ZaN at ho;have hd:∀ x,o.dst=some x->x<a.tmps.size:=λ x hx=>by
  rw [hx] at ho;simp only [Bool.and_eq_true] at ho;rw [h.size];exact Nat.blt_eq.mp ho.1
 rw [ZdK hd];cases hx:o.dst with
 |none=>exact h.same i hi
 |some d=>
  rw [hx] at ho;simp only [Bool.and_eq_true] at ho;simp only [Env.put,Env.set];split
  ·rename_i hb;have:=Nat.eq_of_beq_eq_true hb;subst this;rw [hi] at ho;simp at ho
  ·exact h.same i hi
theorem Zav.envput {n:Nat} {ds:List Deferred} {pw:Nat->Bool} {a0:Env} {a:Act} (h:Zav n ds pw a0 a) {o:Oper} (ho:ZaN n pw o=true) (v:Value):(a.put o.dst v).env=a.env.put o.dst v:=by
 refine ZdK λ x hx=>?_;unfold ZaN at ho;rw [hx] at ho;simp only [Bool.and_eq_true] at ho;rw [h.size];exact Nat.blt_eq.mp ho.1
theorem Zav.unput {n:Nat} {ds:List Deferred} {pw:Nat->Bool} {a0:Env} {a:Act} {o:Oper} (ho:ZaN n pw o=true) {v:Value} (h:Zav n ds pw a0 (a.put o.dst v)):Zav n ds pw a0 a:=by
 have hs:a.tmps.size=n:=by rw [<-Zgh a o.dst v];exact h.size
 have hd0:a.defers=ds:=by rw [<-ZdB a o.dst v];exact h.defers
 refine ⟨hs,hd0,λ i hi=>?_⟩;have:=h.same i hi;have hd:∀ x,o.dst=some x->x<a.tmps.size:=λ x hx=>by
  unfold ZaN at ho;rw [hx] at ho;simp only [Bool.and_eq_true] at ho;rw [hs];exact Nat.blt_eq.mp ho.1
 rw [ZdK hd] at this;unfold ZaN at ho;cases hx:o.dst with
 |none=>rw [hx] at this;exact this
 |some d=>
  rw [hx] at this ho;simp only [Bool.and_eq_true] at ho;simp only [Env.put,Env.set] at this;split at this
  ·rename_i hb;have:=Nat.eq_of_beq_eq_true hb;subst this;rw [hi] at ho;simp at ho
  ·exact this
def Znp (ps:List Nat) (o:Oper):Bool:=match o.dst with|some d=>!Zhm d ps|none=>true
theorem Zl2 {n:Nat} {pw:Nat->Bool} {ps:List Nat} {a:Act} {o:Oper} (ho:ZaN n pw o=true) (hs:a.tmps.size=n) (hp:Znp ps o=true) (v:Value):Zdc ps (a.put o.dst v).env=Zdc ps a.env:=by
 have hd:∀ x,o.dst=some x->x<a.tmps.size:=λ x hx=>by
  unfold ZaN at ho;rw [hx] at ho;simp only [Bool.and_eq_true] at ho;rw [hs];exact Nat.blt_eq.mp ho.1
 rw [ZdK hd];unfold Znp at hp;cases hx:o.dst with
 |none=>rfl
 |some d=>
  rw [hx] at hp;simp only [Bool.not_eq_true'] at hp;unfold Zdc;apply List.map_congr_left;intro i hi;simp only [Env.put,Env.set];split
  ·rename_i hb
   have:=Nat.eq_of_beq_eq_true hb;subst this;have:∀ l:List Nat,i∈l->Zhm i l=true:=λ l=>by
    induction l with
    |nil=>intro h;cases h
    |cons j l ih=>
     intro h;unfold Zhm;cases hb:Nat.beq i j with
     |true=>rfl
     |false=>
      rcases List.mem_cons.1 h with rfl|h
      ·simp at hb
      ·exact ih h
   rw [this ps hi] at hp;cases hp
  ·rfl
section
variable {P:Program} {cl:FuncId->Bool} {X:List PanicEntry->List Value->World->Prop} {ps:List Nat} {ops:Array Oper} {Q:Exit->Act->World->Prop} {n:Nat} {ds:List Deferred} {pw:Nat->Bool} {a0:Env}
theorem Zbc (hcl:∀ g,cl g=true->ZC P g=true) {K:Env->World->Prop}
  (hQ:∀ a w,Zav n ds pw a0 a->K a.env w->Q .normal a w) (hX:∀ ch a w,Zav n ds pw a0 a->X ch (Zdc ps a.env) w->Q (.panic ch) a w):∀ (l:List Oper) (_:∀ o∈l,Zfb P o.op=true/\ZaN n pw o=true) (a:Act) (w:World),
   Zav n ds pw a0 a->ZkZ P cl X ps ops l a.env K w->wpList P ops Q l a w
 |[],_,a,w,hk,h=>hQ a w hk h
 |o::rest,hl,a,w,hk,h=>by
  have ho:=hl o (List.mem_cons_self ..);have hrest:=λ x hx=>hl x (List.mem_cons_of_mem _ hx);unfold ZkZ at h;unfold wpList;rcases ZY h with ⟨hw,h⟩|⟨hw,h⟩
  ·rw [if_pos hw]
   refine .inl ?_;have:=ZdE hcl (λ ch w hx=>hX ch a w hk (by exact hx)) ho.1 h;rw [Z7] at this;unfold Oper.wp;refine upon_mono ?_ this;rintro a' w' ⟨v,rfl,hv⟩;refine Zbc hcl hQ hX rest hrest _ w' (hk.put ho.2 v) ?_;rw [hk.envput ho.2];exact hv
  ·rw [hw]
   simp only [Bool.false_eq_true,if_false];refine Zbc hcl hQ hX rest hrest _ w (hk.put ho.2 _) ?_;rw [hk.envput ho.2];exact h
where
 upon_mono {o:Oper} {a:Act} {K K':Act->World->Prop} {r:Result Next} (h:∀ a w,K a w->K' a w) (hh:o.upon P a K Q r):o.upon P a K' Q r:=by
  cases r with
  |ok x w'=>
   cases x<;>simp only [Oper.upon] at hh ⊢<;>
    first
     |exact h _ _ hh
     |exact Calls.mono hh (λ e w'' he=>by cases e<;>first|exact h _ _ he|exact he)
     |exact Rows.mono hh (λ _ _ he=>h _ _ he)
  |halt x w'=>cases x<;>simp only [Oper.upon] at hh ⊢<;>exact hh
theorem Ziu (hcl:∀ g,cl g=true->ZC P g=true) (hsel:Region.noSelect ops=true) {K:Env->World->Prop} {S:World->Prop}
  (hQ:∀ a w,Zav n ds pw a0 a->K a.env w->Q .normal a w) (hX:∀ ch a w,Zav n ds pw a0 a->X ch (Zdc ps a.env) w->Q (.panic ch) a w) (hQp:∀ (i:Nat) (o:Oper) (v:Value) c a w,ops[i]? =some o->Q (.panic c) (a.put o.dst v) w->Q (.panic c) a w) (hops:∀ (i:Nat) (o:Oper),ops[i]? =some o->Zfb P o.op=true/\ZaN n pw o=true):
  ∀ (fuel:Nat) (hs:Bool) (listed:Array Bool) (a:Act) (w:World),Zav n ds pw a0 a->(hs=true->S w)->Zfi P cl X ps ops S fuel hs listed a.env K w->
   wpT P .any ops Q S (ZbA P ops) (ZaG P ops) fuel listed a w:=by
 intro fuel
 induction fuel with
 |zero=>
  intro hs listed a w hk hS h;unfold Zfi at h;split at h
  ·rename_i hr;exact ⟨hr,hQ a w hk h⟩
  ·exact h.elim
 |succ fuel ih=>
  intro hs listed a w hk hS h;unfold Zfi at h;split at h
  ·rename_i hr
   exact ⟨λ _=>hQ a w hk h,λ i hi=>by rw [hr] at hi;cases hi⟩
  ·rename_i r rs hr
   split at h
   ·rename_i i hp
    obtain ⟨hmem,o,ho,hpr,hfree⟩:=Za6 hp;rw [ho] at h;simp only at h;obtain ⟨hok,hd⟩:=hops i o ho;have hni:ZbA P ops i=false:=by
     unfold ZbA;rw [ho];simp only;rcases Bool.or_eq_true _ _|>.mp hpr with hp|hp<;>simp [hp]
    have hrdy:i∈Region.ready .any ops listed:=by rw [hr];exact hmem
    have hfs:=Region.free_spec (md:=.any) ho hfree;have hself:=Region.noSelect_spec hsel;rcases ZY h with ⟨hw,h⟩|⟨hw,h⟩
    ·rcases Zfr hok hpr h with ⟨hp,v,hv,hK⟩|⟨hp,hhs,v,hv,hK⟩
     ·refine Z9 (T:=λ _=>True) ho hself (λ c a w hc=>hQp i o _ c a w ho hc) hni fuel listed a w (λ j oj hj hne hun hno=>⟨hfs j oj hj hne hun hno,λ _ _ _ _ _=>trivial⟩) hrdy (.inl ⟨hw,?_⟩) trivial
       (ih hs (listed.setIfInBounds i true) (a.put o.dst v) w (hk.put hd v) hS ?_)
      ·rw [<-Z7];exact hv
      ·rw [hk.envput hd];exact hK
     ·have hri:ZX P o.op=true:=by rw [hp] at hpr;simpa using hpr
      refine Z9 (T:=S) ho hself (λ c a w hc=>hQp i o _ c a w ho hc) hni fuel listed a w (λ j oj hj hne hun hno=>⟨hfs j oj hj hne hun hno,λ w w' hw hneed hlook=>?_⟩) hrdy (.inl ⟨hw,?_⟩) (hS hhs)
       (ih hs (listed.setIfInBounds i true) (a.put o.dst v) w (hk.put hd v) hS ?_)
      ·cases hl:(Z1 P oj.op||ZX P oj.op) with
       |true=>have:=hlook (by unfold ZaG;rw [hj];exact hl);rw [this];exact hw
       |false=>exact hneed (Zgr ho hj hri hl hno)
      ·rw [<-Z7];exact hv
      ·rw [hk.envput hd];exact hK
    ·refine Z9 (T:=λ _=>True) ho hself (λ c a w hc=>hQp i o _ c a w ho hc) hni fuel listed a w (λ j oj hj hne hun hno=>⟨hfs j oj hj hne hun hno,λ _ _ _ _ _=>trivial⟩) hrdy (.inr ⟨hw,rfl⟩) trivial
       (ih hs (listed.setIfInBounds i true) (a.put o.dst undef) w (hk.put hd _) hS ?_)
     rw [hk.envput hd];exact h
   ·refine ⟨λ h0=>absurd (hr ▸ h0) (by simp),λ i hi=>?_⟩
    rw [hr] at hi;have h:=Zdr h i hi;split at h
    case h_2=>exact h.elim
    rename_i o ho;obtain ⟨hok,hd⟩:=hops i o ho;refine ZfZ ho ?_;rcases ZY h with ⟨hw,h⟩|⟨hw,h⟩
    ·refine .inl ⟨hw,?_⟩
     split at h
     ·exact h.elim
     ·rename_i hl
      have hlk:ZaG P ops i=false:=by unfold ZaG;rw [ho];exact hl
      split at h
      ·rename_i hnd
       have:=ZdE hcl (λ ch w hx=>hX ch a w hk (by exact hx)) hok h;rw [Z7] at this;refine Zbc.upon_mono ?_ this;rintro a' w' ⟨v,rfl,hSw,hK⟩;refine ⟨⟨λ _=>hSw,λ hh=>(by rw [hlk] at hh;cases hh)⟩,ih hs _ _ w' (hk.put hd v) (λ _=>hSw) ?_⟩;rw [hk.envput hd];exact hK
      ·rename_i hnd
       have:=ZdE hcl (λ ch w hx=>hX ch a w hk (by exact hx)) hok h;rw [Z7] at this;refine Zbc.upon_mono ?_ this;rintro a' w' ⟨v,rfl,hK⟩;refine ⟨⟨λ hh=>(by rw [hnd] at hh;cases hh),λ hh=>(by rw [hlk] at hh;cases hh)⟩,ih false _ _ w' (hk.put hd v) (λ hh=>by cases hh) ?_⟩;rw [hk.envput hd];exact hK
    ·refine .inr ⟨hw,?_⟩
     split at h
     ·exact h.elim
     ·rename_i hl
      have hlk:ZaG P ops i=false:=by unfold ZaG;rw [ho];exact hl
      split at h
      ·split at h
       ·have hSw:=hS rfl
        refine ⟨⟨λ _=>hSw,λ _=>rfl⟩,ih true _ _ w (hk.put hd _) (λ _=>hSw) ?_⟩;rw [hk.envput hd];exact h
       ·exact h.elim
      ·rename_i hnd
       refine ⟨⟨λ hh=>(by rw [hnd] at hh;cases hh),λ _=>rfl⟩,ih false _ _ w (hk.put hd _) (λ hh=>by cases hh) ?_⟩;rw [hk.envput hd];exact h
end
end
section
def ZfQ (P:Program) (cl:FuncId->Bool) (X:List PanicEntry->List Value->World->Prop) (ps:List Nat):Code->Sk->Env->Zm5->World->Prop
 | .skip,_,ρ,K,w=>K.nrm ρ w
 | .label _,_,ρ,K,w=>K.nrm ρ w
 | .region _ ops d,_,ρ,K,w=>(match d with
  |false=>ZkZ P cl X ps ops ops.toList ρ K.nrm w
  |true=>Drw w λ S w'=>Zfi P cl X ps ops S ops.size true (Array.replicate ops.size false) ρ K.nrm w')
 | .seq a b,sk,ρ,K,w=>(match sk with
  | .cut ms ts W _ _=>ZqD ts ms W ρ (λ k=>ZfQ P cl X ps a sk.l ρ { K with nrm:=k } w) (λ ρ' w'=>ZfQ P cl X ps b sk.r ρ' K w')
  |_=>ZfQ P cl X ps a sk.l ρ { K with nrm:=λ ρ' w'=>ZfQ P cl X ps b sk.r ρ' K w' } w)
 | .cond c a b,sk,ρ,K,w=>(match ρ.ev c with
  | .bool t=>Br t (ZfQ P cl X ps a sk.l ρ K w) (ZfQ P cl X ps b sk.r ρ K w)
  |_=>False)
 | .block id a,sk,ρ,K,w=>ZfQ P cl X ps a sk.l ρ { K with ex:=λ i=>match Nat.beq i id with|true=>K.nrm|false=>K.ex i } w
 | .loop a,sk,ρ,K,w=>(match sk with
  | .loop ms ts W _=>Zmn ts ms W ρ (λ ρ' k w'=>ZfQ P cl X ps a sk.l ρ' { K with nrm:=k } w') w
  |_=>False)
 | .scope a,sk,ρ,K,w=>ZfQ P cl X ps a sk.l ρ K w
 | .exit id,_,ρ,K,w=>K.ex id ρ w
 | .ret,_,ρ,K,w=>K.ret ρ w
 |_,_,_,_,_=>False
def Zbi (P:Program) (n:Nat) (ps:List Nat):Code->Bool
 | .region _ ops d=>Region.noSelect ops && (ops.all λ o=>Zfb P o.op && (match o.dst with|some d=>Nat.blt d n|none=>true)) && (match d with|true=>ops.all (Znp ps)|false=>true)
 | .seq a b| .cond _ a b=>Zbi P n ps a && Zbi P n ps b
 | .block _ a| .loop a| .scope a=>Zbi P n ps a
 | .rangeFunc _ _ _ _=>false
 |_=>true
def PKx (n:Nat) (ds:List Deferred) (pw:Nat->Bool) (X:List PanicEntry->List Value->World->Prop) (ps:List Nat) (a0:Env) (K:Zm5):Exit->Act->World->Prop
 | .normal,a,w=>Zav n ds pw a0 a/\K.nrm a.env w
 | .exit i,a,w=>Zav n ds pw a0 a/\K.ex i a.env w
 | .ret,a,w=>Zav n ds pw a0 a/\K.ret a.env w
 | .panic ch,a,w=>Zav n ds pw a0 a/\X ch (Zdc ps a.env) w
 |_,_,_=>False
theorem Zav.refl' {n:Nat} {ds:List Deferred} {pw:Nat->Bool} {a:Act} (h:a.tmps.size=n) (hd:a.defers=ds):Zav n ds pw a.env a:=⟨h,hd,λ _ _=>rfl⟩
theorem Zav.trans {n:Nat} {ds:List Deferred} {pw:Nat->Bool} {q:Nat->Bool} {a0:Env} {a b:Act} (h:Zav n ds pw a0 a) (h':Zav n ds (λ i=>pw i && q i) a.env b):Zav n ds pw a0 b:=
 ⟨h'.size,h'.defers,λ i hi=>(h'.same i (by simp [hi])).trans (h.same i hi)⟩
variable {P:Program} {cl:FuncId->Bool} {X:List PanicEntry->List Value->World->Prop} {ps:List Nat} {n:Nat} {ds:List Deferred}
theorem Zgf (hcl:∀ g,cl g=true->ZC P g=true) (hmix:P.follows .mixedOrders=true) {pw:Nat->Bool} {a0:Env} {id:Nat} {ops:Array Oper} {d:Bool}
  (hc:Zbi P n ps (.region id ops d)=true) (hw:Zdx pw (.region id ops d)=true) {sk:Sk} {K:Zm5} {a:Act} {w:World} (hk:Zav n ds pw a0 a)
  (h:ZfQ P cl X ps (.region id ops d) sk a.env K w):(Code.region id ops d).wp P (PKx n ds pw X ps a0 K) a w:=by
 simp only [Zbi,Bool.and_eq_true] at hc;obtain ⟨⟨hsel,hall⟩,hps⟩:=hc;rw [Array.all_eq_true_iff_forall_mem] at hall;simp only [Bool.and_eq_true] at hall;simp only [Zdx,Array.all_eq_true_iff_forall_mem] at hw;have hops:∀ o∈ops,Zfb P o.op=true/\ZaN n pw o=true:=λ o ho=>by
  have h1:=hall o ho;have h2:=hw o ho;refine ⟨h1.1,?_⟩;unfold ZaN;cases hd:o.dst with
  |none=>rfl
  |some x=>rw [hd] at h1 h2;simp only [Bool.and_eq_true];exact ⟨h1.2,h2⟩
 unfold ZfQ at h;cases d with
 |false=>
  exact wp_region_list (Zbc (X:=X) (ps:=ps) (Q:=PKx n ds pw X ps a0 K) hcl (λ a w hk h=>⟨hk,h⟩) (λ ch a w hk h=>⟨hk,h⟩) ops.toList (λ o ho=>hops o (by simpa using ho)) a w hk h)
 |true=>
  obtain ⟨S0,S,hS,h⟩:=h;obtain ⟨hS,h⟩:=h _ hS;refine wp_region_any hmix (Zef _ _ _ _ (Ziu (X:=X) (ps:=ps) (Q:=PKx n ds pw X ps a0 K) hcl hsel (λ a w hk h=>⟨hk,h⟩) (λ ch a w hk h=>⟨hk,h⟩) (λ i o v c a w ho h=>by
   have hm:=Array.mem_of_getElem? ho;have hd:=(hops o hm).2;rw [Array.all_eq_true_iff_forall_mem] at hps;have hk2:=Zav.unput hd h.1;exact ⟨hk2,by rw [<-Zl2 hd hk2.size (hps o hm) v];exact h.2⟩) (λ i o ho=>hops o (Array.mem_of_getElem? ho)) _ _ _ _ _ hk (λ _=>hS) h))
theorem Zac (hcl:∀ g,cl g=true->ZC P g=true) (hmix:P.follows .mixedOrders=true):∀ (c:Code) (sk:Sk) (pw:Nat->Bool) (a0:Env),
  Zbi P n ps c=true->Zdx pw c=true->ZgP c sk=true->∀ (a:Act) (K:Zm5) (w:World),Zav n ds pw a0 a->ZfQ P cl X ps c sk a.env K w->c.wp P (PKx n ds pw X ps a0 K) a w
 | .skip,sk,pw,a0,_,_,_,a,K,w,hk,h=>wp_skip ⟨hk,h⟩
 | .label _,sk,pw,a0,_,_,_,a,K,w,hk,h=>wp_label ⟨hk,h⟩
 | .exit _,sk,pw,a0,_,_,_,a,K,w,hk,h=>wp_exit ⟨hk,h⟩
 | .ret,sk,pw,a0,_,_,_,a,K,w,hk,h=>wp_ret ⟨hk,h⟩
 | .region id ops d,sk,pw,a0,hc,hw,_,a,K,w,hk,h=>Zgf hcl hmix hc hw hk h
 | .goto _,sk,pw,a0,_,_,_,a,K,w,hk,h=>h.elim
 | .refuse _,sk,pw,a0,_,_,_,a,K,w,hk,h=>h.elim
 | .rangeFunc _ _ _ _,sk,pw,a0,_,_,_,a,K,w,hk,h=>h.elim
 | .scope c,sk,pw,a0,hc,hw,hs,a,K,w,hk,h=>by
  refine wp_scope_straight ?_;refine Code.wp_mono ?_ (Zac hcl hmix c sk.l pw a0 hc hw hs a K w hk h);intro e a w hq;cases e<;>first|exact hq|exact hq.elim
 | .block id c,sk,pw,a0,hc,hw,hs,a,K,w,hk,h=>by
  refine wp_block ?_;refine Code.wp_mono ?_ (Zac hcl hmix c sk.l pw a0 hc hw hs a _ w hk h);intro e a w hq;cases e with
  |exit i=>
   obtain ⟨hk,hq⟩:=hq;show if i=id then _ else _
   by_cases hi:i=id
   ·subst hi
    rw [if_pos rfl];have:Nat.beq i i=true:=by simp
    simp only [this] at hq;exact ⟨hk,hq⟩
   ·rw [if_neg hi]
    have:Nat.beq i id=false:=by
     cases hb:Nat.beq i id with
     |false=>rfl
     |true=>exact absurd (Nat.eq_of_beq_eq_true hb) hi
    simp only [this] at hq;exact ⟨hk,hq⟩
  |normal=>exact hq
  |ret=>exact hq
  |panic ch=>exact hq
  |_=>exact hq.elim
 | .cond c x y,sk,pw,a0,hc,hw,hs,a,K,w,hk,h=>by
  simp only [Zbi,Zdx,ZgP,Bool.and_eq_true] at hc hw hs;unfold ZfQ at h;split at h
  ·rename_i t ht
   rw [Z7] at ht;refine wp_cond_split ht (λ hb=>?_) (λ hb=>?_)
   ·subst hb;exact Zac hcl hmix x sk.l pw a0 hc.1 hw.1 hs.1 a K w hk h
   ·subst hb;exact Zac hcl hmix y sk.r pw a0 hc.2 hw.2 hs.2 a K w hk h
  ·exact h.elim
 | .seq x y,sk,pw,a0,hc,hw,hs,a,K,w,hk,h=>by
  simp only [Zbi,Zdx,ZgP,Bool.and_eq_true] at hc hw hs;refine wp_seq ?_;have plain:ZfQ P cl X ps x sk.l a.env { K with nrm:=λ ρ' w'=>ZfQ P cl X ps y sk.r ρ' K w' } w->x.wp P (Exit.then (y.wp P (PKx n ds pw X ps a0 K)) (PKx n ds pw X ps a0 K)) a w:=λ h=>by
   refine Code.wp_mono ?_ (Zac hcl hmix x sk.l pw a0 hc.1 hw.1 hs.1.2 a _ w hk h);intro e a w hq;cases e with
   |normal=>exact Zac hcl hmix y sk.r pw a0 hc.2 hw.2 hs.2 a K w hq.1 hq.2
   |_=>exact hq
  cases sk with
  |cut ms ts W l r=>
   simp only [Bool.and_eq_true] at hs;obtain ⟨J,h1,h2⟩:=(show ZqD ts ms W a.env (λ k=>ZfQ P cl X ps x l a.env { K with nrm:=k } w) (λ ρ' w'=>ZfQ P cl X ps y r ρ' K w') from h)
   have:=Zac hcl hmix x l (λ i=>pw i && Zhm i W) a.env hc.1 (ZaI hw.1 hs.1.1.1) hs.1.2 a _ w (Zav.refl' hk.size hk.defers) h1;refine Code.wp_mono ?_ this;intro e b w' hq;cases e with
   |normal=>
    obtain ⟨hkb,hq⟩:=hq;have hall:=h2 b.env;have hb:=Ze3 (by rw [Zd8];exact Nat.eq_of_beq_eq_true hs.1.1.2) hq hall w' hq;rw [Zgt (λ i hi=>hkb.same i (by simp [hi]))] at hb;exact Zac hcl hmix y r pw a0 hc.2 hw.2 hs.2 b K w' (hk.trans hkb) hb
   |exit i=>exact ⟨hk.trans hq.1,hq.2⟩
   |ret=>exact ⟨hk.trans hq.1,hq.2⟩
   |panic ch=>exact ⟨hk.trans hq.1,hq.2⟩
   |_=>exact hq.elim
  |leaf=>exact plain h
  |seq l r=>exact plain h
  |cond l r=>exact plain h
  |block l=>exact plain h
  |loop ms ts W l=>exact plain h
 | .loop c,sk,pw,a0,hc,hw,hs,a,K,w,hk,h=>by
  cases sk with
  |loop ms ts W l=>
   simp only [ZgP,Bool.and_eq_true] at hs;have hc:Zbi P n ps c=true:=hc;have hw:Zdx pw c=true:=hw;obtain ⟨I,μ,h0,hstep⟩:=(show Zmn ts ms W a.env (λ ρ' k w'=>ZfQ P cl X ps c l ρ' { K with nrm:=k } w') w from h)
   have hlen:∀ e:Env,(Zdc ms e).length=ts.length:=λ e=>by rw [Zd8];exact Nat.eq_of_beq_eq_true hs.1.2
   refine wp_loop (λ b v=>Zav n ds pw a0 b/\(∀ i,Zhm i W=false->b.env i=a.env i)/\app ts I (Zdc ms b.env) (λ p=>p v))
    (λ b v=>Zkn (λ _=>0) ts μ (Zdc ms b.env) v) ⟨hk,λ _ _=>rfl,h0⟩ ?_
   rintro b v ⟨hkb,hsame,hI⟩;have hb:=Ze3 (hlen b.env) hI (hstep b.env) v hI;rw [Zgt hsame] at hb;have:=Zac hcl hmix c l (λ i=>pw i && Zhm i W) b.env hc (ZaI hw hs.1.1) hs.2 b _ v (Zav.refl' hkb.size hkb.defers) hb;refine Code.wp_mono ?_ this;intro e b' v' hq;cases e with
   |normal=>
    obtain ⟨hkb',hI',hμ⟩:=hq;exact ⟨⟨hkb.trans hkb',λ i hi=>(hkb'.same i (by simp [hi])).trans (hsame i hi),hI'⟩,by
     have h1:=Ze2 (d:=λ _=>0) hμ;exact Ze2 (d:=λ _=>0) h1⟩
   |exit i=>exact ⟨hkb.trans hq.1,hq.2⟩
   |ret=>exact ⟨hkb.trans hq.1,hq.2⟩
   |panic ch=>exact ⟨hkb.trans hq.1,hq.2⟩
   |_=>exact hq.elim
  |_=>exact False.elim h
def ZnA (P:Program) (n:Nat) (fn:Func) (sk:Sk) (ps:List Nat):Bool:=
 Nat.beq n fn.ntmps && (match fn.body with|some c=>Zbi P n ps c && Zdx (λ _=>true) c && ZgP c sk|none=>false) &&
  fn.results.all λ r=>match r with| .tmp _=>true| .cell _ t=>Zlc P t
def Zrk (P:Program) (cl:FuncId->Bool) (X:List PanicEntry->World->Prop) (fn:Func) (sk:Sk) (args:List Value) (K:Value->World->Prop) (w:World):Prop:=
 match fn.body with
 |some c=>ZfQ P cl (λ ch _ w=>X ch w) [] c sk (ZcL args) { nrm:=λ ρ w=>ZkN P ρ K fn.results.toList [] w,ex:=λ _ _ _=>False,ret:=λ ρ w=>ZkN P ρ K fn.results.toList [] w } w
 |none=>False
def ZdO (P:Program) (f:FuncId) (args:Array Value) (w:World) (X:List PanicEntry->World->Prop) (K:Value->World->Prop):Prop:=
 Calls P f args w λ e w'=>(∃ v,e=.returned v/\K v w')\/∃ ch,e=.panicked ch/\X ch w'
theorem ZdO.use {f:FuncId} {args:Array Value} {w:World} {X:List PanicEntry->World->Prop} {K:Value->World->Prop} {R:Ending->World->Prop} (h:ZdO P f args w X K) (k:∀ v w',K v w'->R (.returned v) w') (kx:∀ ch w',X ch w'->R (.panicked ch) w'):Calls P f args w R:=
 Calls.mono h λ e w' he=>by
  rcases he with ⟨v,rfl,hq⟩|⟨ch,rfl,hq⟩
  ·exact k v w' hq
  ·exact kx ch w' hq
theorem ZeR {fn:Func} {args:List Value}:({ tmps:=args.toArray++Array.replicate (fn.ntmps - args.toArray.size) undef,defers:=[] }:Act).env=ZcL args:=by
 funext i
 rw [ZdM];simp only [Act.env];rcases Nat.lt_or_ge i args.length with hi|hi
 ·simp [Array.getElem?_append,hi]
 ·simp only [Array.getD_eq_getD_getElem?,Array.getElem?_append,List.size_toArray,if_neg (Nat.not_lt.2 hi),Array.getElem?_replicate,List.getD_eq_getElem?_getD,List.getElem?_eq_none hi]
  split<;>rfl
theorem ZkM {fn:Func} (hres:(fn.results.all λ r=>match r with| .tmp _=>true| .cell _ t=>Zlc P t)=true) {a:Act} {K:Value->World->Prop} {w:World} (hr:ZkN P a.env K fn.results.toList [] w):
  ∃ v,(results fn a.tmps).run P w=.ok v w/\K v w:=by
 obtain ⟨vs,hvs,hf⟩:=Zct fn.results.toList [] (λ r hr=>by
  rw [Array.all_eq_true_iff_forall_mem] at hres;exact hres r (by simpa using hr)) hr
 have hm:(fn.results.mapM (Zeq a.tmps)).run P w=.ok vs.toArray w:=by
  rw [Array.mapM_eq_mapM_toList];simp only [Sem.run_map,hvs,Result.andThen_ok]
 refine ⟨_,by rw [Zft,Sem.run_bind,hm];rfl,?_⟩;cases vs with
 |nil=>exact hf
 |cons v vs=>cases vs with
  |nil=>exact hf
  |cons u us=>exact hf
theorem ZlK {f:FuncId} {fn:Func} {sk:Sk} (hcl:∀ g,cl g=true->ZC P g=true) (hmix:P.follows .mixedOrders=true)
  (hf:P.funcs[f]? =some fn) (hok:ZnA P fn.ntmps fn sk []=true) {args:List Value} {X:List PanicEntry->World->Prop} {K:Value->World->Prop} {w:World} (hargs:args.length<=fn.ntmps)
  (h:Zrk P cl X fn sk args K w):ZdO P f args.toArray w X K:=by
 unfold ZdO;unfold Zrk at h;unfold ZnA at hok;simp only [Bool.and_eq_true] at hok;obtain ⟨⟨_,hbody⟩,hres⟩:=hok;split at h
 case h_2=>exact h.elim
 rename_i c hb;rw [hb] at hbody;simp only [Bool.and_eq_true] at hbody;refine calls_of_wp hf hb ?_;rw [<-ZeR (fn:=fn)] at h;refine Code.wp_mono ?_ (Zac (n:=fn.ntmps) (ds:=[]) hcl hmix c sk (λ _=>true) _ hbody.1.1 hbody.1.2 hbody.2 _ _ w (Zav.refl' (by simp;omega) rfl) h);intro e a w hq;cases e with
 |normal=>obtain ⟨v,h1,h2⟩:=ZkM hres hq.2;exact ⟨hq.1.defers,v,h1,.inl ⟨v,rfl,h2⟩⟩
 |ret=>obtain ⟨v,h1,h2⟩:=ZkM hres hq.2;exact ⟨hq.1.defers,v,h1,.inl ⟨v,rfl,h2⟩⟩
 |exit i=>exact hq.2.elim
 |panic ch=>exact ⟨hq.1.defers,.inr ⟨ch,rfl,hq.2⟩⟩
 |_=>exact hq.elim
end
section
open Go
section
variable {P:Program} {cl:FuncId->Bool}
theorem Zk0 (hcl:∀ g,cl g=true->ZC P g=true) {ops:Array Oper} {K:Env->World->Prop} {n:Nat} {pw:Nat->Bool} {a0:Env} {cs:List Frame} {Q:Exit->Act->List Frame->World->Prop}
    (hQ:∀ a w,Kept n pw a0 a->K a.env w->Q .normal a cs w):∀ (l:List Nat) (os:List Oper) (_:l.map (λ i=>ops[i]?)=os.map some) (_:∀ o∈os,Zfb P o.op=true/\ZaN n pw o=true) (a:Act) (w:World),
      Kept n pw a0 a->ZlY P cl ops os a.env K w->wpOpsS P ops Q l a cs w
  |[],os,hl,_,a,w,hk,h=>by
    have:os=[]:=by cases os with
      |nil=>rfl
      |cons _ _=>simp at hl
    subst this;exact hQ a w hk h
  |i::l,os,hl,hok,a,w,hk,h=>by
    cases os with
    |nil=>simp at hl
    |cons o os=>
      simp only [List.map_cons,List.cons.injEq] at hl;obtain ⟨hi,hl⟩:=hl;have ho:=hok o (List.mem_cons_self ..);have hrest:=λ x hx=>hok x (List.mem_cons_of_mem _ hx);unfold ZlY at h;simp only [wpOpsS,hi];rcases ZY h with ⟨hw,h⟩|⟨hw,h⟩
      · rw [if_pos hw]
        have h2:=Zhf hcl (a:=a) (Q:=λ e a' w'=>Q e a' cs w') ho.1 h;rw [Z7] at h2;have key:o.upon P a (λ a' w'=>wpOpsS P ops Q l a' cs w') (λ e a' w'=>Q e a' cs w') ((execOp a.eval o).run P w):=by
          refine Z6.upon_mono ?_ h2;rintro a' w' ⟨v,rfl,hv⟩;refine Zk0 hcl hQ l os hl hrest _ w' (hk.put ho.2 v) ?_;rw [hk.envput ho.2];exact hv
        split
        · rename_i w' hr
          rw [hr] at key;exact key.elim
        · exact key
      · rw [hw]
        simp only [Bool.false_eq_true,if_false];refine Zk0 hcl hQ l os hl hrest _ w (hk.put ho.2 _) ?_;rw [hk.envput ho.2];exact h
def Zqz (P:Program) (cl:FuncId->Bool) (fn:Func) (sk:Sk) (args:List Value) (x:Value) (K:World->Prop) (w:World):Prop:=
  match fn.body with
  |some (.seq (.region _ o0 false) rest)=>(match o0.toList with
    |orec::tl=>ZlY P cl o0 tl ((ZcL args).put orec.dst x) (λ ρ w=>den P cl rest sk ρ { nrm:=λ _ w=>K w,ex:=λ _ _ _=>False,ret:=λ _ w=>K w } w) w
    |[]=>False)
  |_=>False
def Zmc (P:Program) (fn:Func) (sk:Sk):Bool:=
  (match fn.body with
  |some (.seq (.region _ o0 false) rest)=>(match o0.toList with
    |orec::tl=>(match orec.op with| .call ⟨.builtin .recover,_,_⟩=>true|_=>false) && orec.guard.isNone && (match orec.dst with|some d=>Nat.blt d fn.ntmps|none=>true) &&
        (tl.all λ o=>Zfb P o.op && ZaN fn.ntmps (λ _=>true) o) && Zck P fn.ntmps rest && Zdx (λ _=>true) rest && ZgP rest sk
    |[]=>false)
  |_=>false) && fn.results.isEmpty
theorem ZkP (hcl:∀ g,cl g=true->ZC P g=true) (hmix:P.follows .mixedOrders=true) {f:FuncId} {fn:Func} {sk:Sk} (hf:P.funcs[f]? =some fn) (hok:Zmc P fn sk=true) {args:List Value} (hargs:args.length<=fn.ntmps)
    {K:World->Prop} {w:World} {u u':FrameMode} {x:Value} (hrec:∀ (c₀:Frame) (cs:List Frame),c₀.mode=u->(recoverD (c₀::cs)=some (x,{ c₀ with mode:=u' }::cs))\/(recoverD (c₀::cs)=none/\x=.nilIface/\u'=u))
    (h:Zqz P cl fn sk args x K w):CallsD P f args.toArray u w λ e v w'=>(∃ y,e=.returned y)/\v=u'/\K w':=by
  unfold Zmc at hok;unfold Zqz at h;rw [Bool.and_eq_true] at hok;obtain ⟨hok,hres⟩:=hok;split at h
  case h_2=>exact h.elim
  rename_i id o0 rest hb;rw [hb] at hok;simp only at hok;split at h
  case h_2=>exact h.elim
  rename_i orec tl ho;rw [ho] at hok;simp only [Bool.and_eq_true] at hok;obtain ⟨⟨⟨⟨⟨⟨hop,hg⟩,hd⟩,htl⟩,hco⟩,hwr⟩,hsk⟩:=hok;have henv:=ZeR (fn:=fn) (args:=args);refine callsD_of_wpS hf hb λ c₀ cs hc=>wpS_seq (wpS_region ?_);generalize hA:({ tmps:=args.toArray++Array.replicate (fn.ntmps - args.toArray.size) undef,defers:=[] }:Act)=A at henv;have hAs:A.tmps.size=fn.ntmps:=by rw [<-hA];simp;omega
  have hAd:A.defers=[]:=by rw [<-hA]
  have hres0:fn.results=#[]:=by simpa using hres
  have hsize:o0.size=tl.length + 1:=by rw [<-Array.length_toList,ho];simp
  have hrange:List.range o0.size=0::(List.range tl.length).map (· + 1):=by rw [hsize,List.range_succ_eq_map]
  rw [hrange];have h0:o0[0]? =some orec:=by rw [<-Array.getElem?_toList,ho];rfl
  have hmap:((List.range tl.length).map (· + 1)).map (λ i=>o0[i]?)=tl.map some:=by
    rw [List.map_map];apply List.ext_getElem?;intro i;simp only [List.getElem?_map];by_cases hi:i<tl.length
    · simp only [List.getElem?_range hi,Option.map_some,Function.comp]
      rw [<-Array.getElem?_toList,ho,List.getElem?_cons_succ];simp [hi]
    · rw [List.getElem?_eq_none (by simpa using hi),List.getElem?_eq_none (by omega)];rfl
  have hrun:(execOp A.eval orec).run P w=.ok .recover w:=by
    obtain ⟨dst,op,ty,pos,after,guard⟩:=orec;dsimp only at hop;split at hop
    · rfl
    · cases hop
  have hwant:Region.wanted orec (yielded o0 A.tmps)=true:=by
    unfold Region.wanted;rw [Option.isNone_iff_eq_none.1 hg]
  have hdst:ZaN fn.ntmps (λ _=>true) orec=true:=by
    unfold ZaN;cases hx:orec.dst with
    |none=>rfl
    |some d=>rw [hx] at hd;simpa using hd
  have hk0:Kept fn.ntmps (λ _=>true) A.env A:=Kept.refl hAs hAd;have go:∀ (cs':List Frame),cs'={ c₀ with mode:=u' }::cs->wpOpsS P o0 (Exit.thenS (rest.wpS P (bodyPostS P fn c₀ cs λ e v w'=>(∃ y,e=.returned y)/\v=u'/\K w')) (bodyPostS P fn c₀ cs λ e v w'=>(∃ y,e=.returned y)/\v=u'/\K w'))
      ((List.range tl.length).map (· + 1)) (A.put orec.dst x) cs' w:=λ cs' hcs=>by
    refine Zk0 (n:=fn.ntmps) (pw:=λ _=>true) (a0:=A.env) (K:=λ ρ w=>den P cl rest sk ρ { nrm:=λ _ w=>K w,ex:=λ _ _ _=>False,ret:=λ _ w=>K w } w) hcl ?_ _ tl hmap (λ o hm=>by
      have:=List.all_eq_true.1 htl o hm;simpa using this) _ w (hk0.put hdst x) ?_
    · intro a w hk hden
      refine wpS_of_wp ?_;refine Code.wp_mono ?_ (Zam (n:=fn.ntmps) hcl hmix rest sk (λ _=>true) a.env hco hwr hsk a _ w (Kept.refl hk.size hk.defers) hden);have fin:∀ (a:Act) (w:World),a.defers=[]->K w->a.defers=[]/\∃ u'',cs'={ c₀ with mode:=u'' }::cs/\∃ v,(results fn a.tmps).run P w=.ok v w/\((∃ y,Ending.returned v=.returned y)/\u''=u'/\K w):=λ a w hd hK=>
        ⟨hd,u',hcs,.tuple #[],by
          simp [results,hres0],⟨_,rfl⟩,rfl,hK⟩
      intro e b w hq;cases e with
      |normal=>exact fin b w hq.1.defers hq.2
      |ret=>exact fin b w hq.1.defers hq.2
      |exit i=>exact hq.2.elim
      |_=>exact hq.elim
    · rw [hk0.envput hdst,henv];exact h
  simp only [wpOpsS,h0,hwant,if_true,hrun];rcases hrec c₀ cs hc with hr|⟨hr,rfl,rfl⟩
  · rw [hr];exact go _ rfl
  · rw [hr];exact go _ (by rw [<-hc])
theorem ZkO (hcl:∀ g,cl g=true->ZC P g=true) (hmix:P.follows .mixedOrders=true) {f:FuncId} {fn:Func} {sk:Sk} (hf:P.funcs[f]? =some fn) (hok:Zmc P fn sk=true) {args:List Value} (hargs:args.length<=fn.ntmps)
    {K:World->Prop} {w:World} {x:Value} (h:Zqz P cl fn sk args x K w):
    CallsD P f args.toArray (.panicking [{ v:=x,recovered:=false }]) w λ e v w'=>(∃ y,e=.returned y)/\v=.panicking [{ v:=x,recovered:=true }]/\K w':=
  ZkP hcl hmix hf hok hargs (λ c₀ cs hc=>.inl (by simp [recoverD,hc])) h
theorem Zjy (hcl:∀ g,cl g=true->ZC P g=true) (hmix:P.follows .mixedOrders=true) {f:FuncId} {fn:Func} {sk:Sk} (hf:P.funcs[f]? =some fn) (hok:Zmc P fn sk=true) {args:List Value} (hargs:args.length<=fn.ntmps)
    {K:World->Prop} {w:World} (h:Zqz P cl fn sk args .nilIface K w):
    CallsD P f args.toArray .returning w λ e v w'=>(∃ y,e=.returned y)/\v=.returning/\K w':=
  ZkP hcl hmix hf hok hargs (λ c₀ cs hc=>.inr ⟨by simp [recoverD,hc],rfl,rfl⟩) h
def Zg6 (P:Program) (K:Value->World->Prop):List ResultVar->List Value->List Value->World->Prop
  |[],_,acc,w=>Zrl K acc.reverse w
  | .tmp _::rs,v::vs,acc,w=>Zg6 P K rs vs (v::acc) w
  | .cell _ t::rs,v::vs,acc,w=>Zfd P (λ w'=>w'=w) t v λ x=>Zg6 P K rs vs (x::acc) w
  |_::_,[],_,_=>False
def Zem:ResultVar->Nat| .tmp t=>t| .cell a _=>a
theorem Zgd {ρ:Env} {K:Value->World->Prop}:∀ (rs:List ResultVar) (acc:List Value) (w:World),Zg6 P K rs (Zdc (rs.map Zem) ρ) acc w->ZkN P ρ K rs acc w
  |[],_,_,h=>h
  | .tmp t::rs,acc,w,h=>Zgd rs (ρ t::acc) w h
  | .cell a t::rs,acc,w,h=>by
    have h:Zfd P (λ w'=>w'=w) t (ρ a) λ x=>Zg6 P K rs (Zdc (rs.map Zem) ρ) (x::acc) w:=h;show Zfd P (λ w'=>w'=w) t (ρ a) λ x=>ZkN P ρ K rs (x::acc) w;have mono:∀ {F G:Value->Prop},(∀ x,F x->G x)->Zfd P (λ w'=>w'=w) t (ρ a) F->Zfd P (λ w'=>w'=w) t (ρ a) G:=λ {F G} hFG hl=>by
      have exm:∀ {ty:Ty} {F G:Value->Prop},(∀ x,F x->G x)->ty.ex F->ty.ex G:=λ {ty F G} hFG h=>by
        cases ty<;>(obtain ⟨y,hy⟩:=h;exact ⟨y,hFG _ hy⟩)
      have exA:∀ {ts:List Ty} {F G:List Value->Prop},(∀ x,F x->G x)->Zil ts F->Zil ts G:=λ {ts}=>by
        induction ts with
        |nil=>exact λ hFG h=>hFG _ h
        |cons ty ts ih=>exact λ hFG h=>exm (λ v hv=>ih (λ x hx=>hFG _ hx) hv) h
      unfold Zfd at hl ⊢;split at hl
      · unfold Zb at hl ⊢
        split at hl
        · cases hagg:ZfB P t
          · simp only [hagg] at hl ⊢
            exact exm (λ x hx=>⟨hx.1,hFG _ hx.2⟩) hl
          · simp only [hagg] at hl ⊢
            split at hl
            · exact exA (λ x hx=>⟨hx.1,hFG _ hx.2⟩) hl
            · obtain ⟨vs,h1,h2,h3⟩:=hl
              exact ⟨vs,h1,h2,hFG _ h3⟩
        · exact hl.elim
      · exact hl.elim
    exact mono (λ x hx=>Zgd rs (x::acc) w hx) h
def Zcp (P:Program) (g:FuncId) (args:List Value) (u:FrameMode) (Kr:World->Prop) (w:World):Prop:=
  CallsD P g args.toArray u w λ e u' w'=>(∃ y,e=.returned y)/\settle u'=.returning/\Kr w'
def tgtF (cl:FuncId->Bool) (f:Value) (K:FuncId->List Value->List Value->Prop):Prop:=
  match f with
  | .func fn first captured=>(match fn with
    | .func g=>(match cl g with
      |true=>K g first.toList captured.toList
      |false=>False)
    |_=>False)
  |_=>False
def Zrt (P:Program) (cl:FuncId->Bool) (fn:Func) (sk:Sk) (args:List Value) (K:Value->World->Prop) (w:World):Prop:=
  match fn.body with
  |some (.seq (.region _ o0 false) (.seq (.region _ o1 false) rest))=>
    ZlY P cl o0 o0.toList (ZcL args) (λ ρ w=>ZlY P cl o1 o1.toList.dropLast ρ (λ ρ w=>
      match o1.toList.getLast? with
      |some od=>(match od.op with
        | .defer c=>(match c.callee with
          | .value f=>tgtF cl (ρ.ev f) λ g first captured=>
              ZfQ P cl (λ ch vs w=>Zcp P g (first++((c.args.map ρ.ev).toList++captured)) (.panicking ch) (Zg6 P K fn.results.toList vs []) w) (fn.results.toList.map Zem) rest sk ρ
                { nrm:=λ ρ' w=>Zcp P g (first++((c.args.map ρ.ev).toList++captured)) .returning (Zg6 P K fn.results.toList (Zdc (fn.results.toList.map Zem) ρ') []) w,ex:=λ _ _ _=>False,
                  ret:=λ ρ' w=>Zcp P g (first++((c.args.map ρ.ev).toList++captured)) .returning (Zg6 P K fn.results.toList (Zdc (fn.results.toList.map Zem) ρ') []) w } w
          |_=>False)
        |_=>False)
      |none=>False) w) w
  |_=>False
def ZnF (P:Program) (cl:FuncId->Bool) (fn:Func) (sk:Sk):Bool:=
  (match fn.body with
  |some (.seq (.region _ o0 false) (.seq (.region _ o1 false) rest))=>
    (o0.toList.all λ o=>Zfb P o.op && ZaN fn.ntmps (λ _=>true) o) && (o1.toList.dropLast.all λ o=>Zfb P o.op && ZaN fn.ntmps (λ _=>true) o) &&
      (match o1.toList.getLast? with|some od=>od.guard.isNone && od.dst.isNone|none=>false) &&
      Zbi P fn.ntmps (fn.results.toList.map Zem) rest && Zdx (λ _=>true) rest && ZgP rest sk
  |_=>false) && fn.results.all λ r=>match r with| .tmp _=>true| .cell _ t=>Zlc P t
theorem ZbD {ops:Array Oper} {Q:Exit->Act->World->Prop}:∀ (l l':List Oper) (a:Act) (w:World),wpList P ops (Exit.then (λ a w=>wpList P ops Q l' a w) Q) l a w->wpList P ops Q (l++l') a w
  |[],l',a,w,h=>h
  |o::l,l',a,w,h=>by
    unfold wpList at h;rw [List.cons_append];unfold wpList;by_cases hw:Region.wanted o (yielded ops a.tmps)=true
    · rw [if_pos hw] at h ⊢
      rcases h with h|h
      · refine .inl ?_
        unfold Oper.wp at h ⊢
        revert h
        cases (execOp a.eval o).run P w with
        |ok x w'=>
          cases x<;>simp only [Oper.upon]<;>
            first
              |exact λ h=>ZbD l l' _ _ h
              |(intro h;refine Calls.mono h ?_;intro e w'' he;cases e<;>first|exact ZbD l l' _ _ he|exact he)
              |(intro h;exact Rows.mono h λ _ _ he=>ZbD l l' _ _ he)
              |exact λ h=>h
        |halt x w'=>cases x<;>simp only [Oper.upon]<;>exact λ h=>h
      · exact .inr h
    · rw [if_neg hw] at h ⊢
      exact ZbD l l' _ _ h
theorem CallsD.mono {f:FuncId} {args:Array Value} {u:FrameMode} {w:World} {R R':Ending->FrameMode->World->Prop} (h:CallsD P f args u w R) (k:∀ e u w,R e u w->R' e u w):CallsD P f args u w R':=
  λ c cs hc=>let ⟨e,u',w',fr,r,s⟩:=h c cs hc;⟨e,u',w',fr,k _ _ _ r,s⟩
theorem Zc0 (hcl:∀ g,cl g=true->ZC P g=true) {fn:Func} (hres:(fn.results.all λ r=>match r with| .tmp _=>true| .cell _ t=>Zlc P t)=true) {a:Act} {g:FuncId} (hg:cl g=true) {first cargs captured:Array Value} {u:FrameMode} (hu:u≠.run)
    {K:Value->World->Prop} {w:World} (h:Zcp P g (first.toList++(cargs.toList++captured.toList)) u (Zg6 P K fn.results.toList (Zdc (fn.results.toList.map Zem) a.env) []) w):
    Leaves P fn a.tmps (λ e w'=>∃ v,e=.returned v/\K v w') [{ target:=.fn (.func g) captured,args:=first++cargs }] u w:=by
  refine ⟨hu,_,_,g,(first.toList++(cargs.toList++captured.toList)).toArray,rfl,?_,?_⟩
  · have e:(first++cargs)++captured=(first.toList++(cargs.toList++captured.toList)).toArray:=by apply Array.ext';simp
    simp only [invoke,e];exact Zcl (hcl g hg) _ w
  · refine CallsD.mono h ?_
    rintro e u' w' ⟨⟨y,rfl⟩,hs,hr⟩;show Leaves P fn a.tmps _ [] (settle u') w';rw [hs];obtain ⟨v,h1,h2⟩:=ZkM hres (Zgd _ _ _ hr);exact ⟨v,h1,v,rfl,h2⟩
theorem ZlL (hcl:∀ g,cl g=true->ZC P g=true) (hmix:P.follows .mixedOrders=true) {f:FuncId} {fn:Func} {sk:Sk} (hf:P.funcs[f]? =some fn) (hok:ZnF P cl fn sk=true) {args:List Value} (hargs:args.length<=fn.ntmps)
    {K:Value->World->Prop} {w:World} (h:Zrt P cl fn sk args K w):Zj P f args.toArray w K:=by
  unfold Zj;unfold ZnF at hok;unfold Zrt at h;rw [Bool.and_eq_true] at hok;obtain ⟨hok,hres⟩:=hok;split at h
  case h_2=>exact h.elim
  rename_i i0 o0 i1 o1 rest hb;rw [hb] at hok;simp only [Bool.and_eq_true] at hok;obtain ⟨⟨⟨⟨⟨h0,h1⟩,hlast⟩,hco⟩,hwr⟩,hsk⟩:=hok;refine calls_of_wp_defers hf hb ?_;have henv:=ZeR (fn:=fn) (args:=args);generalize hA:({ tmps:=args.toArray++Array.replicate (fn.ntmps - args.toArray.size) undef,defers:=[] }:Act)=A at henv;have hAs:A.tmps.size=fn.ntmps:=by rw [<-hA];simp;omega
  have hAd:A.defers=[]:=by rw [<-hA]
  rw [<-henv] at h;refine wp_seq (wp_region_list (Z6 (n:=fn.ntmps) (pw:=λ _=>true) (a0:=A.env) hcl ?_ o0.toList (λ o ho=>by have:=List.all_eq_true.1 h0 o ho;simpa using this) A w (Kept.refl hAs hAd) h));clear h;intro a w hk h;show (Code.seq (.region i1 o1 false) rest).wp P _ a w;refine wp_seq (wp_region_list ?_);cases hl:o1.toList.getLast? with
  |none=>rw [hl] at hlast;cases hlast
  |some od=>
    rw [hl] at hlast;simp only [Bool.and_eq_true] at hlast;have hsplit:o1.toList=o1.toList.dropLast++[od]:=by
      obtain ⟨l,hl2⟩:=List.getLast?_eq_some_iff.1 hl;rw [hl2];simp
    rw [hsplit];refine ZbD _ _ _ _ ?_;refine Z6 (n:=fn.ntmps) (pw:=λ _=>true) (a0:=a.env) hcl ?_ o1.toList.dropLast (λ o ho=>by have:=List.all_eq_true.1 h1 o ho;simpa using this) a w (Kept.refl hk.size hk.defers) h;clear h;intro b w hkb h;show wpList P o1 _ [od] b w;unfold wpList;have hwant:Region.wanted od (yielded o1 b.tmps)=true:=by
      unfold Region.wanted;rw [Option.isNone_iff_eq_none.1 hlast.1]
    rw [if_pos hwant];refine .inl ?_;rw [hl] at h;simp only at h;clear hsplit hl hwant h1;obtain ⟨dst,op,ty,pos,after,guard⟩:=od;dsimp only at h hlast;obtain ⟨hg0,hd0⟩:=hlast;have hd0:=Option.isNone_iff_eq_none.1 hd0;subst hd0;split at h
    case h_2=>exact h.elim
    rename_i c;obtain ⟨callee,cargs,ats⟩:=c;dsimp only at h;split at h
    case h_2=>exact h.elim
    rename_i fv;unfold tgtF at h;split at h
    case h_2=>exact h.elim
    rename_i fn' first captured hfv
    split at h
    case h_2=>exact h.elim
    rename_i g;split at h
    case h_2=>exact h.elim
    rename_i hg;have hrun:(execOp b.eval ⟨none,.defer ⟨.value fv,cargs,ats⟩,ty,pos,after,guard⟩).run P w=.ok (.defer { target:=.fn (.func g) captured,args:=first++cargs.map b.eval }) w:=by
      rw [Z7] at hfv;simp only [execOp,resolve,hfv,Deferred.ofValue];simp
    unfold Oper.wp;rw [hrun];rw [Z7] at h;generalize hB:({ tmps:=b.tmps,defers:={ target:=.fn (.func g) captured,args:=first++cargs.map b.eval }::b.defers }:Act)=B
    have hBe:B.env=b.env:=by rw [<-hB];rfl
    have hBs:B.tmps.size=fn.ntmps:=by rw [<-hB];exact hkb.size
    have hBd:B.defers=[{ target:=.fn (.func g) captured,args:=first++cargs.map b.eval }]:=by rw [<-hB];simp [hkb.defers]
    rw [Oper.upon_defer];show wpList P o1 _ [] ({ b with defers:={ target:=.fn (.func g) captured,args:=first++cargs.map b.eval }::b.defers }.put none undef) w
    show rest.wp P _ ({ b with defers:={ target:=.fn (.func g) captured,args:=first++cargs.map b.eval }::b.defers }.put none undef) w
    have hput:({ b with defers:={ target:=.fn (.func g) captured,args:=first++cargs.map b.eval }::b.defers }:Act).put none undef=B:=hB
    rw [hput];rw [<-hBe] at h;refine Code.wp_mono ?_ (Zac (n:=fn.ntmps) (ds:=[{ target:=.fn (.func g) captured,args:=first++cargs.map b.eval }]) hcl hmix rest sk (λ _=>true) B.env hco hwr hsk B _ w (Zav.refl' hBs hBd) h)
    intro e a' w' hq;cases e with
    |normal=>
      show Leaves P fn a'.tmps _ a'.defers .returning w';rw [hq.1.defers];exact Zc0 hcl hres hg (by simp) hq.2
    |ret=>
      show Leaves P fn a'.tmps _ a'.defers .returning w';rw [hq.1.defers];exact Zc0 hcl hres hg (by simp) hq.2
    |exit i=>exact hq.2.elim
    |panic ch=>
      show Leaves P fn a'.tmps _ a'.defers (.panicking ch) w';rw [hq.1.defers];exact Zc0 hcl hres hg (by simp) hq.2
    |_=>exact hq.elim
end
end
end Go.VC
namespace Go.Proofs.YthpmfnffkjjlnaaGreat
section
open Go Go.VC Tryz
set_option maxRecDepth 10000
def ZmX:List Nat:=[3,4,5,6,7,8,9,10,11,12,13,14,15,16,17,18,19,20,21,22,23,24,25,26,27,28,29,30,31,32,33,34,35,36,37,38,39,40,41,42,43,44,45,46,47,48,49,50,51,52,53,54,55,56,57,58,59,60,61,62,63,64,65,66,67,68,69,70,71,72,73,74,75,76,77,78,79,80,81,82,83,84,85,86,87,88,89,90,91,92,93,94,95,96,97,98,99,100,101,102,103,104,105,106,107,108,109,110,111,112,113,114,115,116,117,118,119,120,121,122,123,124,125,126,127,128,129,130,131,132,133,134,135,136,137,138,139,140,141,142,143,144,145,146,147,148,149,150,151,152,153,154,155,156,157,158,159,160,161,162,163,164,165,166,167,168,169,170,171,172,173,174,175,176,177,178,179,180,181,182,183,184,185,186,187,188,189,190,191,192,193,194,195,196,197,198,199,200,201,202,203,204,205,206,207,208,209,210,211,212,213,214,215,216,217,218,219,220,221,222,223,224,225,226,227,228,229,230,231,232,233,234,235,236,237,238,239,240,241,242,243,244,245,246,247,248,249,250,251,252,253,254]
def cl:FuncId->Bool:=λ g=>Zhm g ZmX
theorem ZlG:ZmX.all (ZC prog)=true:=by kernel_rfl
theorem ZlF (g:FuncId) (h:cl g=true):ZC prog g=true:=by
  have key:∀ l:List Nat,Zhm g l=true->l.all (ZC prog)=true->ZC prog g=true:=λ l=>by
    induction l with
    |nil=>intro h;cases h
    |cons x l ih=>
      intro h h2;simp only [List.all_cons,Bool.and_eq_true] at h2;simp only [Zhm] at h;split at h
      · rename_i hb;rw [Nat.eq_of_beq_eq_true hb];exact h2.1
      · exact ih h h2.2
  exact key _ h ZlG
theorem mixed:prog.follows .mixedOrders=true:=by kernel_rfl
theorem cq {f:FuncId} {fn:Func} {sk:Sk} {args:List Value} {K:Value->World->Prop} {w:World} {B:Prop} (hf:prog.funcs[f]? =some fn) (hok:Zrj prog fn.ntmps fn sk=true) (ha:Nat.ble args.length fn.ntmps=true) (he:fnF prog cl fn sk args K w=B) (h:B):Zj prog f args.toArray w K:=Zmy ZlF mixed hf hok (Nat.le_of_ble_eq_true ha) (Eq.mpr he h)
theorem cqx {f:FuncId} {fn:Func} {sk:Sk} {args:List Value} {X:List PanicEntry->World->Prop} {K:Value->World->Prop} {w:World} {B:Prop} (hf:prog.funcs[f]? =some fn) (hok:ZnA prog fn.ntmps fn sk []=true) (ha:Nat.ble args.length fn.ntmps=true) (he:Zrk prog cl X fn sk args K w=B) (h:B):ZdO prog f args.toArray w X K:=ZlK ZlF mixed hf hok (Nat.le_of_ble_eq_true ha) (Eq.mpr he h)
theorem cqd {f:FuncId} {fn:Func} {sk:Sk} {args:List Value} {K:Value->World->Prop} {w:World} {B:Prop} (hf:prog.funcs[f]? =some fn) (hok:ZnF prog cl fn sk=true) (ha:Nat.ble args.length fn.ntmps=true) (he:Zrt prog cl fn sk args K w=B) (h:B):Zj prog f args.toArray w K:=ZlL ZlF mixed hf hok (Nat.le_of_ble_eq_true ha) (Eq.mpr he h)
def B48 (c:Sl) (K:Value->World->Prop) (w:World):Prop:=
 Br c.a.isNone
 (K (.slice none 0 0) w)
 (New (.cells #[] 5 (0,0)) (λ e f=>
 ∃ d:World,∃ b:Sl,((Builtin.append_ #[33,33] 33 #[.slice ((some ⟨e,0,none⟩)) 0 0,.slice c.a c.len c.cap]).run prog f=.ok (.slice b.a b.len b.cap) d)/\
 K (.slice b.a b.len b.cap) d) w)
theorem ZpV (b:Sl) (K:Value->World->Prop) (w:World) (h:B48 b K w):Zj prog 48 #[.slice b.a b.len b.cap] w K:=cq (sk:=.leaf) func48 (by kernel_rfl) (by kernel_rfl) (by kernel_rfl) h
def B57 (j:Int) (K:Value->World->Prop) (w:World):Prop:=
 Calls prog 120 #[.int .u64 j] w λ n o=>
 ∃ g:Int,(n=.returned (.int .i64 g))/\
 New (.cells #[.int .u8 (IntKind.u8.wrap (IntKind.i64.wrap ((IntKind.i64.wrap (g + 7)).tdiv 8)))] 5 (0,0)) (λ l p=>
 ∃ (f:Int->Sl->World->Prop) (k:Int->Sl->World->Nat),(f (IntKind.i64.wrap ((IntKind.i64.wrap (g + 7)).tdiv 8)) ⟨(some ⟨l,0,none⟩),1,1⟩ p)/\∀ (r:Env) (c:Int) (b:Sl) (e:World),f c b e->
 Br (decide (c>0))
 (Ge0 (IntKind.i64.wrap (8 * IntKind.i64.wrap (c - 1))) (New (.cells #[.int .u8 (IntKind.u8.wrap (Zfp IntKind.u64 j (IntKind.i64.wrap (8 * IntKind.i64.wrap (c - 1)))))] 5 (0,0)) (λ m q=>
 ∃ i:World,∃ d:Sl,((Builtin.append_ #[33,33] 33 #[.slice b.a b.len b.cap,.slice ((some ⟨m,0,none⟩)) 1 1]).run prog q=.ok (.slice d.a d.len d.cap) i)/\
 (f (IntKind.i64.wrap (c - 1)) d i)/\k (IntKind.i64.wrap (c - 1)) d i<k c b e) e))
 (K (.slice b.a b.len b.cap) e)) o
def sk57:Sk:=(.seq .leaf (.seq .leaf (.seq .leaf (.seq (.block (.loop [3,4] [(.int .i64),.sl] [3,4,12,13,14,15,16,17,18,19,20,21,22,23] .leaf)) .leaf))))
theorem ZpM (a:Int) (K:Value->World->Prop) (w:World) (h:B57 a K w):Zj prog 57 #[.int .u64 a] w K:=cq (sk:=sk57) func57 (by kernel_rfl) (by kernel_rfl) (by kernel_rfl) h
def B211 (c:Sl) (K:Value->World->Prop) (w:World):Prop:=
 Calls prog 48 #[.slice c.a c.len c.cap] w λ e f=>
 ∃ b:Sl,(e=.returned (.slice b.a b.len b.cap))/\
 New (.cells #[.slice b.a b.len b.cap,.bool false] 236 (0,0)) (λ d g=>
 K (.pointer ((some ⟨d,0,none⟩))) g) f
theorem Zn3 (b:Sl) (K:Value->World->Prop) (w:World) (h:B211 b K w):Zj prog 211 #[.slice b.a b.len b.cap] w K:=cq (sk:=.leaf) func211 (by kernel_rfl) (by kernel_rfl) (by kernel_rfl) h
def B212 (i:Option Addr) (g:Int) (K:Value->World->Prop) (w:World):Prop:=
 New (.cells #[.int .u64 g] 121 (0,0)) (λ e k=>
 New (.cells #[.int .u64 0] 121 (0,0)) (λ a l=>
 ∃ c:World,((Instr.storeAt 121 (.pointer ((some ⟨a,0,none⟩))) (.int .u64 0)).run prog l=.ok () c)/\
 Calls prog 239 #[.pointer i,.func (.func 240) #[] #[.pointer ((some ⟨e,0,none⟩)),.pointer ((some ⟨a,0,none⟩))]] c λ f d=>
 (f=.returned (.tuple #[]))/\
 ∃ b:Int,(At (λ j=>j=d) ⟨a,0,none⟩ [.int .u64 b])/\
 K (.int .u64 b) d) k) w
theorem Zn2 (b:Option Addr) (a:Int) (K:Value->World->Prop) (w:World) (h:B212 b a K w):Zj prog 212 #[.pointer b,.int .u64 a] w K:=cq (sk:=.leaf) func212 (by kernel_rfl) (by kernel_rfl) (by kernel_rfl) h
def B213 (e:Option Addr) (K:Value->World->Prop) (w:World):Prop:=
 Zb e λ d=>
 ∃ f:Bool,(At (λ c=>c=w) ⟨d.block,d.off + 1,none⟩ [.bool f])/\
 Br (!f)
 (Zb e λ g=>
 ∃ b:Sl,(At (λ c=>c=w) (Addr.add g 0) [.slice b.a b.len b.cap])/\
 K (.bool ((↑b.len:Int)==0)) w)
 (K (.bool false) w)
theorem Zn1 (a:Option Addr) (K:Value->World->Prop) (w:World) (h:B213 a K w):Zj prog 213 #[.pointer a] w K:=cq (sk:=.leaf) func213 (by kernel_rfl) (by kernel_rfl) (by kernel_rfl) h
def B239 (z:Option Addr) (y:Value) (K:Value->World->Prop) (w:World):Prop:=
 New (.cells #[.pointer z] 213 (0,0)) (λ c j=>
 ∃ r:Option Addr,(At (λ b=>b=j) ⟨c,0,none⟩ [.pointer r])/\
 Zb r λ k=>
 ∃ s:Bool,(At (λ b=>b=j) ⟨k.block,k.off + 1,none⟩ [.bool s])/\
 Calls prog 242 #[.bool (!s)] j λ n f=>
 ((n=.returned (.tuple #[]))/\
 ∃ p:Option Addr,(At (λ b=>b=f) ⟨c,0,none⟩ [.pointer p])/\
 Zb p λ v=>
 ∃ d:Sl,(At (λ b=>b=f) (Addr.add v 0) [.slice d.a d.len d.cap])/\
 New (.cells #[.slice none 0 0] 33 (0,0)) (λ i A=>
 ∃ t:World,((Instr.storeAt 33 (.pointer ((some ⟨i,0,none⟩))) (.slice d.a d.len d.cap)).run prog A=.ok () t)/\
 Zdw prog cl y [.pointer ((some ⟨i,0,none⟩))] t λ o g=>
 ((o=.returned (.tuple #[]))/\
 ∃ q:Option Addr,(At (λ b=>b=g) ⟨c,0,none⟩ [.pointer q])/\
 ∃ e:Sl,(At (λ b=>b=g) ⟨i,0,none⟩ [.slice e.a e.len e.cap])/\
 Zb q λ x=>
 ∃ u:World,((Instr.storeAt 33 (.pointer ((some (Addr.add x 0)))) (.slice e.a e.len e.cap)).run prog g=.ok () u)/\
 Zcp prog 252 [.pointer ((some ⟨c,0,none⟩))] .returning (λ C=>K (.tuple #[]) C) u)\/
 (∃ m:List PanicEntry,(o=.panicked m)/\Zcp prog 252 [.pointer ((some ⟨c,0,none⟩))] (.panicking m) (λ D=>K (.tuple #[]) D) g)) f)\/
 (∃ l:List PanicEntry,(n=.panicked l)/\Zcp prog 252 [.pointer ((some ⟨c,0,none⟩))] (.panicking l) (λ E=>K (.tuple #[]) E) f)) w
theorem ZnP (b:Option Addr) (a:Value) (K:Value->World->Prop) (w:World) (h:B239 b a K w):Zj prog 239 #[.pointer b,a] w K:=cqd (sk:=.leaf) func239 (by kernel_rfl) (by kernel_rfl) (by kernel_rfl) h
def B240 (t:Option Addr) (s:Option Addr) (d:Option Addr) (c:List PanicEntry->World->Prop) (K:Value->World->Prop) (w:World):Prop:=
 Calls prog 241 #[.pointer t] w λ i b=>
 (∃ a:Int,∃ m:Bool,(i=.returned (.tuple #[.int .u64 a,.bool m]))/\
 Br (!m)
 (Zb s λ r=>
 ∃ l:Int,(At (λ u=>u=b) r [.int .u64 l])/\
 Calls prog 242 #[.bool (decide (a<=l))] b λ j n=>
 ((j=.returned (.tuple #[]))/\
 ∃ o:World,((Instr.storeAt 121 (.pointer d) (.int .u64 a)).run prog n=.ok () o)/\
 K (.tuple #[]) o)\/
 (∃ f:List PanicEntry,(j=.panicked f)/\c f n))
 (Calls prog 242 #[.bool false] b λ k p=>
 ((k=.returned (.tuple #[]))/\
 ∃ q:World,((Instr.storeAt 121 (.pointer d) (.int .u64 a)).run prog p=.ok () q)/\
 K (.tuple #[]) q)\/
 (∃ g:List PanicEntry,(k=.panicked g)/\c g p)))\/
 (∃ e:List PanicEntry,(i=.panicked e)/\c e b)
theorem ZnO (d:Option Addr) (b:Option Addr) (c:Option Addr) (a:List PanicEntry->World->Prop) (K:Value->World->Prop) (w:World) (h:B240 d b c a K w):ZdO prog 240 #[.pointer d,.pointer b,.pointer c] w a K:=cqx (sk:=.leaf) func240 (by kernel_rfl) (by kernel_rfl) (by kernel_rfl) h
def B241 (J:Option Addr) (c:List PanicEntry->World->Prop) (K:Value->World->Prop) (w:World):Prop:=
 Calls prog 253 #[.pointer J,.int .i64 1] w λ A j=>
 (∃ l:Sl,(A=.returned (.slice l.a l.len l.cap))/\
 Rng 0 l.len (Zb l.a λ U=>
 ∃ e:Int,(At (λ o=>o=j) (Addr.add U 0) [.int .u8 e])/\
 ∃ (k:World->Prop),(Br (decide (e<32))
 (Br (decide (IntKind.i64.wrap (ZfU BinOp.andNot IntKind.u8 e 16)<=8))
 (Br (decide (IntKind.i64.wrap (ZfU BinOp.andNot IntKind.u8 e 16)>0))
 (Calls prog 242 #[.bool true] j λ C L=>
 ((C=.returned (.tuple #[]))/\
 k  L)\/
 (∃ s:List PanicEntry,(C=.panicked s)/\c s L))
 (Calls prog 242 #[.bool (!decide (e >= 16))] j λ D M=>
 ((D=.returned (.tuple #[]))/\
 k  M)\/
 (∃ t:List PanicEntry,(D=.panicked t)/\c t M)))
 (Calls prog 242 #[.bool false] j λ E N=>
 ((E=.returned (.tuple #[]))/\
 k  N)\/
 (∃ u:List PanicEntry,(E=.panicked u)/\c u N)))
 (Calls prog 242 #[.bool false] j λ F O=>
 ((F=.returned (.tuple #[]))/\
 k  O)\/
 (∃ v:List PanicEntry,(F=.panicked v)/\c v O)))/\
 ∀ (X:Env)  (Q:World),k  Q->
 Calls prog 253 #[.pointer J,.int .i64 (IntKind.i64.wrap (ZfU BinOp.andNot IntKind.u8 e 16))] Q λ G T=>
 (∃ g:Sl,(G=.returned (.slice g.a g.len g.cap))/\
 ∃ (m:Int->Int->World->Prop) (n:Int->Int->World->Nat),(m 0 0 T)/\∀ (Y:Env) (d:Int) (b:Int) (f:World),m d b f->
 Br (decide (b<(↑g.len:Int)))
 (Rng b g.len (Zb g.a λ V=>
 ∃ i:Int,(At (λ o=>o=f) (Addr.add V b.toNat) [.int .u8 i])/\
 Br (decide (b>0))
 (Calls prog 242 #[.bool true] f λ H q=>
 ((H=.returned (.tuple #[]))/\
 (m (ZfU BinOp.or IntKind.u64 (ZmN IntKind.u64 d 8) (IntKind.u64.wrap i)) (IntKind.i64.wrap (b + 1)) q)/\n (ZfU BinOp.or IntKind.u64 (ZmN IntKind.u64 d 8) (IntKind.u64.wrap i)) (IntKind.i64.wrap (b + 1)) q<n d b f)\/
 (∃ y:List PanicEntry,(H=.panicked y)/\c y q))
 (Calls prog 242 #[.bool (decide (i>0))] f λ I p=>
 ((I=.returned (.tuple #[]))/\
 (m (ZfU BinOp.or IntKind.u64 (ZmN IntKind.u64 d 8) (IntKind.u64.wrap i)) (IntKind.i64.wrap (b + 1)) p)/\n (ZfU BinOp.or IntKind.u64 (ZmN IntKind.u64 d 8) (IntKind.u64.wrap i)) (IntKind.i64.wrap (b + 1)) p<n d b f)\/
 (∃ z:List PanicEntry,(I=.panicked z)/\c z p))))
 (K (.tuple #[.int .u64 d,.bool (decide (e >= 16))]) f))\/
 (∃ x:List PanicEntry,(G=.panicked x)/\c x T)))\/
 (∃ r:List PanicEntry,(A=.panicked r)/\c r j)
def ZqJ:Sk:=(.seq .leaf (.seq .leaf (.seq .leaf (.seq .leaf (.cut [] [] [19,20,21,22,23,24,25,26,27,28,29,30,31,32,33] .leaf (.seq .leaf (.seq (.seq .leaf (.block (.loop [7,38] [(.int .u64),(.int .i64)] [7,8,9,38,39,40,41,42,43,44,45,46,47,48,49,50,51,52,53,54,55] .leaf))) .leaf)))))))
theorem ZnN (b:Option Addr) (a:List PanicEntry->World->Prop) (K:Value->World->Prop) (w:World) (h:B241 b a K w):ZdO prog 241 #[.pointer b] w a K:=cqx (sk:=ZqJ) func241 (by kernel_rfl) (by kernel_rfl) (by kernel_rfl) h
def B242 (b:Bool) (a:List PanicEntry->World->Prop) (K:Value->World->Prop) (w:World):Prop:=
 Br (!b)
 (a [⟨.iface 251 (.agg #[]),false,false⟩] w)
 (K (.tuple #[]) w)
theorem ZnM (b:Bool) (a:List PanicEntry->World->Prop) (K:Value->World->Prop) (w:World) (h:B242 b a K w):ZdO prog 242 #[.bool b] w a K:=cqx (sk:=.leaf) func242 (by kernel_rfl) (by kernel_rfl) (by kernel_rfl) h
def B252 (i:Option Addr) (f:Value) (K:World->Prop) (w:World):Prop:=
 ∃ c:Bool,(∀ a,(λ a=>a=w) a->((do eqGuard BinOp.neq 20 (Operand.tmp 3) (Operand.const Value.nilIface) f .nilIface;binOp BinOp.neq 20 f .nilIface:Sem Value)).run prog a=.ok (.bool c) a)/\
 Br c
 (Zb i λ g=>
 ∃ d:Option Addr,(At (λ a=>a=w) g [.pointer d])/\
 Zb d λ b=>
 ∃ e:World,((Instr.storeAt 4 (.pointer ((some ⟨b.block,b.off + 1,none⟩))) (.bool true)).run prog w=.ok () e)/\
 K e)
 (K w)
theorem ZmA (b:Option Addr) (a:Value) (K:World->Prop) (w:World) (h:B252 b a K w):CallsD prog 252 #[.pointer b] (.panicking [⟨a,false,false⟩]) w λ c d e=>(∃ f,c=.returned f)/\d=.panicking [⟨a,true,false⟩]/\K e:=
 ZkO (sk:=.leaf) ZlF mixed func252 (by kernel_rfl) (Nat.le_of_ble_eq_true (by kernel_rfl)) (cast (by kernel_rfl) h)
theorem Zmz (a:Option Addr) (K:World->Prop) (w:World) (h:B252 a .nilIface K w):CallsD prog 252 #[.pointer a] .returning w λ b c d=>(∃ e,b=.returned e)/\c=.returning/\K d:=
 Zjy (sk:=.leaf) ZlF mixed func252 (by kernel_rfl) (Nat.le_of_ble_eq_true (by kernel_rfl)) (cast (by kernel_rfl) h)
def B253 (f:Option Addr) (b:Int) (m:List PanicEntry->World->Prop) (K:Value->World->Prop) (w:World):Prop:=
 Zb f λ q=>
 ∃ g:Sl,(At (λ e=>e=w) q [.slice g.a g.len g.cap])/\
 Calls prog 242 #[.bool (decide (b<=(↑g.len:Int)))] w λ k i=>
 ((k=.returned (.tuple #[]))/\
 Zb f λ n=>
 ∃ d:Sl,(At (λ e=>e=i) n [.slice d.a d.len d.cap])/\
 ((0:Int)<=b)/\
 ((b:Int)<=(↑d.cap:Int))/\
 Zb f λ o=>
 ∃ c:Sl,(At (λ e=>e=i) o [.slice c.a c.len c.cap])/\
 ((0:Int)<=b)/\
 ((b:Int)<=(↑c.len:Int))/\
 Zb f λ p=>
 ∃ l:World,((Instr.storeAt 33 (.pointer ((some (p)))) (.slice (ZbB c.a b.toNat c.cap 1) (c.len - b.toNat) (c.cap - b.toNat))).run prog i=.ok () l)/\
 K (.slice d.a b.toNat d.cap) l)\/
 (∃ j:List PanicEntry,(k=.panicked j)/\m j i)
theorem ZnH (b:Option Addr) (c:Int) (a:List PanicEntry->World->Prop) (K:Value->World->Prop) (w:World) (h:B253 b c a K w):ZdO prog 253 #[.pointer b,.int .i64 c] w a K:=cqx (sk:=.leaf) func253 (by kernel_rfl) (by kernel_rfl) (by kernel_rfl) h
def B120 (j:Int) (K:Value->World->Prop) (w:World):Prop:=
 ∃ (c:Int->Int->World->Prop),(Br (decide (j >= 4294967296))
 (c (Zfp IntKind.u64 j 32) 32 w)
 (c j 0 w))/\
 ∀ (m:Env) (b:Int) (e:Int) (g:World),c b e g->
 ∃ (d:Int->Int->World->Prop),(Br (decide (b >= 65536))
 (d (Zfp IntKind.u64 b 16) (IntKind.i64.wrap (e + 16)) g)
 (d b e g))/\
 ∀ (n:Env) (a:Int) (f:Int) (i:World),d a f i->
 Br (decide (a >= 256))
 (∃ k:UInt8,((0:Int)<=IntKind.u8.wrap (Zfp IntKind.u64 a 8))/\
 ((ByteArray.mk (([0,1,2,2,3,3,3,3,4,4,4,4,4,4,4,4,5,5,5,5,5,5,5,5,5,5,5,5,5,5,5,5,6,6,6,6,6,6,6,6,6,6,6,6,6,6,6,6,6,6,6,6,6,6,6,6,6,6,6,6,6,6,6,6].append [7,7,7,7,7,7,7,7,7,7,7,7,7,7,7,7,7,7,7,7,7,7,7,7,7,7,7,7,7,7,7,7,7,7,7,7,7,7,7,7,7,7,7,7,7,7,7,7,7,7,7,7,7,7,7,7,7,7,7,7,7,7,7,7]).append ([8,8,8,8,8,8,8,8,8,8,8,8,8,8,8,8,8,8,8,8,8,8,8,8,8,8,8,8,8,8,8,8,8,8,8,8,8,8,8,8,8,8,8,8,8,8,8,8,8,8,8,8,8,8,8,8,8,8,8,8,8,8,8,8].append [8,8,8,8,8,8,8,8,8,8,8,8,8,8,8,8,8,8,8,8,8,8,8,8,8,8,8,8,8,8,8,8,8,8,8,8,8,8,8,8,8,8,8,8,8,8,8,8,8,8,8,8,8,8,8,8,8,8,8,8,8,8,8,8])).toArray)[(IntKind.u8.wrap (Zfp IntKind.u64 a 8)).toNat]? =some k)/\
 K (.int .i64 (IntKind.i64.wrap (IntKind.i64.wrap (f + 8) + IntKind.i64.wrap (↑k.toNat:Int)))) i)
 (∃ l:UInt8,((0:Int)<=IntKind.u8.wrap a)/\
 ((ByteArray.mk (([0,1,2,2,3,3,3,3,4,4,4,4,4,4,4,4,5,5,5,5,5,5,5,5,5,5,5,5,5,5,5,5,6,6,6,6,6,6,6,6,6,6,6,6,6,6,6,6,6,6,6,6,6,6,6,6,6,6,6,6,6,6,6,6].append [7,7,7,7,7,7,7,7,7,7,7,7,7,7,7,7,7,7,7,7,7,7,7,7,7,7,7,7,7,7,7,7,7,7,7,7,7,7,7,7,7,7,7,7,7,7,7,7,7,7,7,7,7,7,7,7,7,7,7,7,7,7,7,7]).append ([8,8,8,8,8,8,8,8,8,8,8,8,8,8,8,8,8,8,8,8,8,8,8,8,8,8,8,8,8,8,8,8,8,8,8,8,8,8,8,8,8,8,8,8,8,8,8,8,8,8,8,8,8,8,8,8,8,8,8,8,8,8,8,8].append [8,8,8,8,8,8,8,8,8,8,8,8,8,8,8,8,8,8,8,8,8,8,8,8,8,8,8,8,8,8,8,8,8,8,8,8,8,8,8,8,8,8,8,8,8,8,8,8,8,8,8,8,8,8,8,8,8,8,8,8,8,8,8,8])).toArray)[(IntKind.u8.wrap a).toNat]? =some l)/\
 K (.int .i64 (IntKind.i64.wrap (f + IntKind.i64.wrap (↑l.toNat:Int)))) i)
def Zq5:Sk:=(.seq .leaf (.cut [0,2] [(.int .u64),(.int .i64)] [0,2,3,4,5,6] .leaf (.cut [0,2] [(.int .u64),(.int .i64)] [0,2,7,8,9,10,11,12] .leaf .leaf)))
theorem Zou (a:Int) (K:Value->World->Prop) (w:World) (h:B120 a K w):Zj prog 120 #[.int .u64 a] w K:=cq (sk:=Zq5) func120 (by kernel_rfl) (by kernel_rfl) (by kernel_rfl) h
end
section
open Go Go.VC Tryz
set_option maxRecDepth 10000
def B81 (k:Sl) (l:Sl) (K:Value->World->Prop) (w:World):Prop:=
 New (.cells #[.slice k.a k.len k.cap,.slice l.a l.len l.cap] 32 (0,0)) (λ g y=>
 Drw y λ b z=>
 ∃ e:Sl,(At b ⟨g,0,none⟩ [.slice e.a e.len e.cap])/\
 Calls prog 156 #[.slice e.a e.len e.cap] z λ t m=>
 ∃ p:Bool,(t=.returned (.bool p))/\
 (b m)/\
 Br p
 (∃ f:Sl,(At b ⟨g,0 + 1,none⟩ [.slice f.a f.len f.cap])/\
 Calls prog 156 #[.slice f.a f.len f.cap] m λ u j=>
 ∃ q:Bool,(u=.returned (.bool q))/\
 (b j)/\
 Br q
 (∃ i:Sl,(At b ⟨g,0,none⟩ [.slice i.a i.len i.cap])/\
 Br (decide ((↑i.len:Int)>0))
 (∃ c:Sl,(At b ⟨g,0,none⟩ [.slice c.a c.len c.cap])/\
 ∃ d:Sl,(At b ⟨g,0 + 1,none⟩ [.slice d.a d.len d.cap])/\
 Calls prog 112 #[.slice d.a d.len d.cap] j λ v r=>
 ∃ n:Value,(v=.returned (n))/\
 (b r)/\
 Calls prog 111 #[.slice c.a c.len c.cap,n] r λ x s=>
 ∃ o:Int,(x=.returned (.int .i64 o))/\
 (b s)/\
 K (.bool (o==0)) s)
 (K (.bool false) j))
 (K (.bool false) j))
 (K (.bool false) m)) w
theorem ZpE (b:Sl) (c:Sl) (K:Value->World->Prop) (w:World) (h:B81 b c K w):Zj prog 81 #[.agg #[.slice b.a b.len b.cap,.slice c.a c.len c.cap]] w K:=cq (sk:=.leaf) func81 (by kernel_rfl) (by kernel_rfl) (by kernel_rfl) h
def B156 (f:Sl) (K:Value->World->Prop) (w:World):Prop:=
 ∃ (e:Int->Int->World->Prop) (i:Int->Int->World->Nat),(e 0 0 w)/\∀ (l:Env) (g:Int) (c:Int) (b:World),e g c b->
 Br (decide (c<(↑f.len:Int)))
 (Rng c f.len (Zb f.a λ j=>
 ∃ d:Int,(At (λ k=>k=b) (Addr.add j c.toNat) [.int .i64 d])/\
 Br (decide (d<=g))
 (K (.bool false) b)
 (Br (decide (d>15))
 (K (.bool false) b)
 ((e d (IntKind.i64.wrap (c + 1)) b)/\i d (IntKind.i64.wrap (c + 1)) b<i g c b))))
 (K (.bool true) b)
def Zq0:Sk:=(.seq .leaf (.seq .leaf (.seq (.seq .leaf (.block (.loop [3,8] [(.int .i64),(.int .i64)] [2,3,5,8,9,10,11,12,13,14,15,16,17,18,19,20] .leaf))) .leaf)))
theorem Zom (b:Sl) (K:Value->World->Prop) (w:World) (h:B156 b K w):Zj prog 156 #[.slice b.a b.len b.cap] w K:=cq (sk:=Zq0) func156 (by kernel_rfl) (by kernel_rfl) (by kernel_rfl) h
def B111 (i:Sl) (n:Value) (K:Value->World->Prop) (w:World):Prop:=
 ∃ (e:Int->Int->World->Prop) (g:Int->Int->World->Nat),(e 0 0 w)/\∀ (p:Env) (c:Int) (b:Int) (d:World),e c b d->
 Br (decide (b<(↑i.len:Int)))
 (Rng b i.len (Zb i.a λ l=>
 ∃ j:Int,(At (λ o=>o=d) (Addr.add l b.toNat) [.int .i64 j])/\
 Zdw prog cl n [.int .i64 j] d λ m f=>
 ∃ k:Bool,(m=.returned (.bool k))/\
 Br k
 ((e (IntKind.i64.wrap (c + 1)) (IntKind.i64.wrap (b + 1)) f)/\g (IntKind.i64.wrap (c + 1)) (IntKind.i64.wrap (b + 1)) f<g c b d)
 ((e c (IntKind.i64.wrap (b + 1)) f)/\g c (IntKind.i64.wrap (b + 1)) f<g c b d)))
 (K (.int .i64 c) d)
def Zq8:Sk:=(.seq .leaf (.seq .leaf (.seq (.seq .leaf (.block (.loop [5,10] [(.int .i64),(.int .i64)] [5,7,10,11,12,13,14,15,16,17,18,19] .leaf))) .leaf)))
theorem ZoC (b:Sl) (c:Value) (K:Value->World->Prop) (w:World) (h:B111 b c K w):Zj prog 111 #[.slice b.a b.len b.cap,c] w K:=cq (sk:=Zq8) func111 (by kernel_rfl) (by kernel_rfl) (by kernel_rfl) h
def B112 (b:Sl) (K:Value->World->Prop) (w:World):Prop:=
 New (.cells #[.slice b.a b.len b.cap] 30 (0,0)) (λ c d=>
 K (.func (.func 165) #[] #[.pointer ((some ⟨c,0,none⟩))]) d) w
theorem ZoB (b:Sl) (K:Value->World->Prop) (w:World) (h:B112 b K w):Zj prog 112 #[.slice b.a b.len b.cap] w K:=cq (sk:=.leaf) func112 (by kernel_rfl) (by kernel_rfl) (by kernel_rfl) h
def B165 (g:Int) (e:Option Addr) (K:Value->World->Prop) (w:World):Prop:=
 Zb e λ d=>
 ∃ b:Sl,(At (λ i=>i=w) d [.slice b.a b.len b.cap])/\
 Calls prog 95 #[.slice b.a b.len b.cap,.int .i64 g] w λ f j=>
 ∃ c:Bool,(f=.returned (.bool c))/\
 K (.bool c) j
theorem Zof (b:Int) (a:Option Addr) (K:Value->World->Prop) (w:World) (h:B165 b a K w):Zj prog 165 #[.int .i64 b,.pointer a] w K:=cq (sk:=.leaf) func165 (by kernel_rfl) (by kernel_rfl) (by kernel_rfl) h
def B95 (b:Sl) (e:Int) (K:Value->World->Prop) (w:World):Prop:=
 Calls prog 162 #[.slice b.a b.len b.cap,.int .i64 e] w λ d f=>
 ∃ c:Int,(d=.returned (.int .i64 c))/\
 K (.bool (decide (c >= 0))) f
theorem Zpq (b:Sl) (c:Int) (K:Value->World->Prop) (w:World) (h:B95 b c K w):Zj prog 95 #[.slice b.a b.len b.cap,.int .i64 c] w K:=cq (sk:=.leaf) func95 (by kernel_rfl) (by kernel_rfl) (by kernel_rfl) h
def B162 (e:Sl) (j:Int) (K:Value->World->Prop) (w:World):Prop:=
 ∃ (d:Int->World->Prop) (g:Int->World->Nat),(d 0 w)/\∀ (l:Env) (b:Int) (c:World),d b c->
 Br (decide (b<(↑e.len:Int)))
 (Rng b e.len (Zb e.a λ i=>
 ∃ f:Int,(At (λ k=>k=c) (Addr.add i b.toNat) [.int .i64 f])/\
 Br (j==f)
 (K (.int .i64 b) c)
 ((d (IntKind.i64.wrap (b + 1)) c)/\g (IntKind.i64.wrap (b + 1)) c<g b c)))
 (K (.int .i64 ((-1))) c)
def ZqY:Sk:=(.seq .leaf (.seq (.seq .leaf (.block (.loop [8] [(.int .i64)] [4,5,8,9,10,11,12,13,14,15,16,17,18] .leaf))) .leaf))
theorem Zog (b:Sl) (c:Int) (K:Value->World->Prop) (w:World) (h:B162 b c K w):Zj prog 162 #[.slice b.a b.len b.cap,.int .i64 c] w K:=cq (sk:=ZqY) func162 (by kernel_rfl) (by kernel_rfl) (by kernel_rfl) h
def B113 (e:Sl) (f:Sl) (K:Value->World->Prop) (w:World):Prop:=
 New (.cells #[.slice e.a e.len e.cap,.slice f.a f.len f.cap] 32 (0,0)) (λ j l=>
 ∃ b:Sl,∃ c:Sl,(At (λ g=>g=l) ⟨j,0,none⟩ [.slice b.a b.len b.cap,.slice c.a c.len c.cap])/\
 Calls prog 81 #[.agg #[.slice b.a b.len b.cap,.slice c.a c.len c.cap]] l λ m i=>
 ∃ k:Bool,(m=.returned (.bool k))/\
 Br (!k)
 (K (.int .i64 0) i)
 (∃ d:Sl,(At (λ g=>g=i) ⟨j,0,none⟩ [.slice d.a d.len d.cap])/\
 K (.int .i64 (IntKind.i64.wrap (IntKind.i64.wrap ((↑d.len:Int).tdiv 2) + 1))) i)) w
theorem ZoA (b:Sl) (c:Sl) (K:Value->World->Prop) (w:World) (h:B113 b c K w):Zj prog 113 #[.agg #[.slice b.a b.len b.cap,.slice c.a c.len c.cap]] w K:=cq (sk:=.leaf) func113 (by kernel_rfl) (by kernel_rfl) (by kernel_rfl) h
def B51 (j:Sl) (k:Sl) (l:Sl) (K:Value->World->Prop) (w:World):Prop:=
 New (.cells #[.slice j.a j.len j.cap,.slice k.a k.len k.cap] 32 (0,0)) (λ i z=>
 Drw z λ b A=>
 ∃ e:Sl,∃ f:Sl,(At b ⟨i,0,none⟩ [.slice e.a e.len e.cap,.slice f.a f.len f.cap])/\
 Calls prog 81 #[.agg #[.slice e.a e.len e.cap,.slice f.a f.len f.cap]] A λ u m=>
 ∃ q:Bool,(u=.returned (.bool q))/\
 (b m)/\
 Br q
 (∃ g:Sl,(At b ⟨i,0,none⟩ [.slice g.a g.len g.cap])/\
 ∃ c:Sl,∃ d:Sl,(At b ⟨i,0,none⟩ [.slice c.a c.len c.cap,.slice d.a d.len d.cap])/\
 Calls prog 112 #[.slice l.a l.len l.cap] m λ v r=>
 ∃ n:Value,(v=.returned (n))/\
 (b r)/\
 Calls prog 111 #[.slice g.a g.len g.cap,n] r λ x s=>
 ∃ o:Int,(x=.returned (.int .i64 o))/\
 (b s)/\
 Calls prog 113 #[.agg #[.slice c.a c.len c.cap,.slice d.a d.len d.cap]] s λ y t=>
 ∃ p:Int,(y=.returned (.int .i64 p))/\
 (b t)/\
 K (.bool (decide (o >= p))) t)
 (K (.bool false) m)) w
theorem ZpS (b:Sl) (c:Sl) (d:Sl) (K:Value->World->Prop) (w:World) (h:B51 b c d K w):Zj prog 51 #[.agg #[.slice b.a b.len b.cap,.slice c.a c.len c.cap],.slice d.a d.len d.cap] w K:=cq (sk:=.leaf) func51 (by kernel_rfl) (by kernel_rfl) (by kernel_rfl) h
def B249 (k:Sl) (l:Sl) (m:Sl) (K:Value->World->Prop) (w:World):Prop:=
 New (.cells #[.slice k.a k.len k.cap,.slice l.a l.len l.cap] 32 (0,0)) (λ i A=>
 Drw A λ b C=>
 ∃ f:Sl,∃ g:Sl,(At b ⟨i,0,none⟩ [.slice f.a f.len f.cap,.slice g.a g.len g.cap])/\
 Calls prog 81 #[.agg #[.slice f.a f.len f.cap,.slice g.a g.len g.cap]] C λ v n=>
 ∃ r:Bool,(v=.returned (.bool r))/\
 (b n)/\
 Br r
 (∃ j:Sl,(At b ⟨i,0,none⟩ [.slice j.a j.len j.cap])/\
 ∃ c:Sl,(At b ⟨i,0,none⟩ [.slice c.a c.len c.cap])/\
 ∃ d:Sl,∃ e:Sl,(At b ⟨i,0,none⟩ [.slice d.a d.len d.cap,.slice e.a e.len e.cap])/\
 Calls prog 112 #[.slice m.a m.len m.cap] n λ x s=>
 ∃ o:Value,(x=.returned (o))/\
 (b s)/\
 Calls prog 111 #[.slice c.a c.len c.cap,o] s λ y t=>
 ∃ p:Int,(y=.returned (.int .i64 p))/\
 (b t)/\
 Calls prog 113 #[.agg #[.slice d.a d.len d.cap,.slice e.a e.len e.cap]] t λ z u=>
 ∃ q:Int,(z=.returned (.int .i64 q))/\
 (b u)/\
 K (.bool (decide (IntKind.i64.wrap ((↑j.len:Int) - p)<q))) u)
 (K (.bool false) n)) w
theorem ZnK (b:Sl) (c:Sl) (d:Sl) (K:Value->World->Prop) (w:World) (h:B249 b c d K w):Zj prog 249 #[.agg #[.slice b.a b.len b.cap,.slice c.a c.len c.cap],.slice d.a d.len d.cap] w K:=cq (sk:=.leaf) func249 (by kernel_rfl) (by kernel_rfl) (by kernel_rfl) h
def B160 (o:Sl) (p:Sl) (F:Value) (K:Value->World->Prop) (w:World):Prop:=
 New (.cells #[.slice o.a o.len o.cap,.slice p.a p.len p.cap] 32 (0,0)) (λ n M=>
 New (.cells (Value.cells F) 194 (0,0)) (λ G y=>
 ∃ i:Sl,∃ j:Sl,(At (λ c=>c=y) ⟨n,0,none⟩ [.slice i.a i.len i.cap,.slice j.a j.len j.cap])/\
 Calls prog 81 #[.agg #[.slice i.a i.len i.cap,.slice j.a j.len j.cap]] y λ I s=>
 ∃ x:Bool,(I=.returned (.bool x))/\
 Br (!x)
 (K (.int .i64 0) s)
 (∃ e:Sl,(At (λ c=>c=s) ⟨n,0,none⟩ [.slice e.a e.len e.cap])/\
 ∃ (m:Sl->Int->World->Prop) (C:Sl->Int->World->Nat),(m ⟨none,0,0⟩ 0 s)/\∀ (O:Env) (b:Sl) (d:Int) (k:World),m b d k->
 Br (decide (d<(↑e.len:Int)))
 (Rng d e.len (Zb e.a λ D=>
 ∃ q:Int,(At (λ c=>c=k) (Addr.add D d.toNat) [.int .i64 q])/\
 Rng q 16 (∃ u:Int,(At (λ c=>c=k) (Addr.add ⟨G,0,none⟩ q.toNat) [.int .i64 u])/\
 New (.cells #[.int .i64 u] 3 (0,0)) (λ H N=>
 ∃ t:World,∃ l:Sl,((Builtin.append_ #[30,30] 30 #[.slice b.a b.len b.cap,.slice ((some ⟨H,0,none⟩)) 1 1]).run prog N=.ok (.slice l.a l.len l.cap) t)/\
 (m l (IntKind.i64.wrap (d + 1)) t)/\C l (IntKind.i64.wrap (d + 1)) t<C b d k) k)))
 (Calls prog 118 #[.slice b.a b.len b.cap] k λ J z=>
 (J=.returned (.tuple #[]))/\
 ∃ f:Sl,∃ g:Sl,(At (λ c=>c=z) ⟨n,0,none⟩ [.slice f.a f.len f.cap,.slice g.a g.len g.cap])/\
 Calls prog 113 #[.agg #[.slice f.a f.len f.cap,.slice g.a g.len g.cap]] z λ L A=>
 ∃ r:Int,(L=.returned (.int .i64 r))/\
 Rng (IntKind.i64.wrap ((↑b.len:Int) - r)) b.len (Zb b.a λ E=>
 ∃ v:Int,(At (λ c=>c=A) (Addr.add E ((IntKind.i64.wrap ((↑b.len:Int) - r)).toNat)) [.int .i64 v])/\
 K (.int .i64 v) A)))) M) w
def ZqZ:Sk:=(.seq .leaf (.seq .leaf (.seq .leaf (.seq (.seq .leaf (.block (.loop [5,14] [.sl,(.int .i64)] [5,7,14,15,16,17,18,19,20,21,22,23,24] .leaf))) .leaf))))
theorem Zoi (b:Sl) (c:Sl) (d:Value) (K:Value->World->Prop) (w:World) (h:B160 b c d K w):Zj prog 160 #[.agg #[.slice b.a b.len b.cap,.slice c.a c.len c.cap],d] w K:=cq (sk:=ZqZ) func160 (by kernel_rfl) (by kernel_rfl) (by kernel_rfl) h
def B54 (aq:Sl) (ar:Sl) (am:Int) (dm:Int) (K:Value->World->Prop) (w:World):Prop:=
 New (.cells #[.slice aq.a aq.len aq.cap,.slice ar.a ar.len ar.cap] 32 (0,0)) (λ al dn=>
 New (.cells #[.int .i64 dm] 3 (0,0)) (λ d dq=>
 New (.cells #[.slice none 0 0,.slice none 0 0] 32 (0,0)) (λ g b8=>
 ∃ (a5:World->Prop),(∃ t:Sl,∃ u:Sl,(At (λ b=>b=b8) ⟨al,0,none⟩ [.slice t.a t.len t.cap,.slice u.a u.len u.cap])/\
 Calls prog 81 #[.agg #[.slice t.a t.len t.cap,.slice u.a u.len u.cap]] b8 λ c1 p=>
 ∃ bh:Bool,(c1=.returned (.bool bh))/\
 Br (!bh)
 (∃ ay:World,((Instr.storeAt 32 (.pointer ((some ⟨g,0,none⟩))) (.agg #[.slice none 0 0,.slice none 0 0])).run prog p=.ok () ay)/\
 ∃ Q:Sl,∃ V:Sl,(At (λ b=>b=ay) ⟨g,0,none⟩ [.slice Q.a Q.len Q.cap,.slice V.a V.len V.cap])/\
 K (.tuple #[.agg #[.slice Q.a Q.len Q.cap,.slice V.a V.len V.cap],.int .i64 1]) ay)
 (Br (decide (am<1))
 (∃ a1:World,((Instr.storeAt 32 (.pointer ((some ⟨g,0,none⟩))) (.agg #[.slice none 0 0,.slice none 0 0])).run prog p=.ok () a1)/\
 ∃ ab:Sl,∃ ac:Sl,(At (λ b=>b=a1) ⟨g,0,none⟩ [.slice ab.a ab.len ab.cap,.slice ac.a ac.len ac.cap])/\
 K (.tuple #[.agg #[.slice ab.a ab.len ab.cap,.slice ac.a ac.len ac.cap],.int .i64 1]) a1)
 (Br (decide (am>3))
 (∃ a2:World,((Instr.storeAt 32 (.pointer ((some ⟨g,0,none⟩))) (.agg #[.slice none 0 0,.slice none 0 0])).run prog p=.ok () a2)/\
 ∃ ad:Sl,∃ ae:Sl,(At (λ b=>b=a2) ⟨g,0,none⟩ [.slice ad.a ad.len ad.cap,.slice ae.a ae.len ae.cap])/\
 K (.tuple #[.agg #[.slice ad.a ad.len ad.cap,.slice ae.a ae.len ae.cap],.int .i64 1]) a2)
 (∃ bi:Int,(At (λ b=>b=p) ⟨d,0,none⟩ [.int .i64 bi])/\
 Br (decide (bi<1))
 (∃ a3:World,((Instr.storeAt 32 (.pointer ((some ⟨g,0,none⟩))) (.agg #[.slice none 0 0,.slice none 0 0])).run prog p=.ok () a3)/\
 ∃ af:Sl,∃ ag:Sl,(At (λ b=>b=a3) ⟨g,0,none⟩ [.slice af.a af.len af.cap,.slice ag.a ag.len ag.cap])/\
 K (.tuple #[.agg #[.slice af.a af.len af.cap,.slice ag.a ag.len ag.cap],.int .i64 1]) a3)
 (∃ bj:Int,(At (λ b=>b=p) ⟨d,0,none⟩ [.int .i64 bj])/\
 Br (decide (bj>15))
 (∃ a4:World,((Instr.storeAt 32 (.pointer ((some ⟨g,0,none⟩))) (.agg #[.slice none 0 0,.slice none 0 0])).run prog p=.ok () a4)/\
 ∃ ah:Sl,∃ ai:Sl,(At (λ b=>b=a4) ⟨g,0,none⟩ [.slice ah.a ah.len ah.cap,.slice ai.a ai.len ai.cap])/\
 K (.tuple #[.agg #[.slice ah.a ah.len ah.cap,.slice ai.a ai.len ai.cap],.int .i64 1]) a4)
 (a5  p))))))/\
 ∀ (du:Env)  (br:World),a5  br->
 Drw br λ o dp=>
 ∃ v:Sl,(At o ⟨al,0,none⟩ [.slice v.a v.len v.cap])/\
 ∃ bl:Int,(At o ⟨d,0,none⟩ [.int .i64 bl])/\
 ∃ x:Sl,(At o ⟨al,0 + 1,none⟩ [.slice x.a x.len x.cap])/\
 ∃ bn:Int,(At o ⟨d,0,none⟩ [.int .i64 bn])/\
 Calls prog 112 #[.slice v.a v.len v.cap] dp λ c2 bs=>
 ∃ bk:Value,(c2=.returned (bk))/\
 (o bs)/\
 Zdw prog cl bk [.int .i64 bl] bs λ dd bt=>
 ∃ au:Bool,(dd=.returned (.bool au))/\
 (o bt)/\
 Calls prog 112 #[.slice x.a x.len x.cap] bt λ df bu=>
 ∃ bm:Value,(df=.returned (bm))/\
 (o bu)/\
 Zdw prog cl bm [.int .i64 bn] bu λ dg bv=>
 ∃ an:Bool,(dg=.returned (.bool an))/\
 (o bv)/\
 ∃ (q:Option Addr->World->Prop),(Drw bv λ c bw=>
 ∃ k:Sl,(At c ⟨al,0,none⟩ [.slice k.a k.len k.cap])/\
 ∃ e:Sl,(At c ⟨al,0 + 1,none⟩ [.slice e.a e.len e.cap])/\
 (Calls prog 88 #[.slice k.a k.len k.cap] bw λ dh av=>
 ∃ l:Sl,(dh=.returned (.slice l.a l.len l.cap))/\
 (c av)/\
 (Calls prog 117 #[.slice l.a l.len l.cap,.func (.func 116) #[] #[.pointer ((some ⟨d,0,none⟩))]] av λ di aw=>
 ∃ i:Sl,(di=.returned (.slice i.a i.len i.cap))/\
 (c aw)/\
 (Calls prog 88 #[.slice e.a e.len e.cap] aw λ dj ax=>
 ∃ m:Sl,(dj=.returned (.slice m.a m.len m.cap))/\
 (c ax)/\
 (Calls prog 117 #[.slice m.a m.len m.cap,.func (.func 116) #[] #[.pointer ((some ⟨d,0,none⟩))]] ax λ dk bx=>
 ∃ F:Sl,(dk=.returned (.slice F.a F.len F.cap))/\
 (c bx)/\
 New (.cells #[.slice none 0 0,.slice none 0 0] 32 (0,0)) (λ bb bz=>
 (c bz)/\
 ∃ b0:World,((Instr.storeAt 32 (.pointer ((some ⟨bb,0,none⟩))) (.agg #[.slice i.a i.len i.cap,.slice F.a F.len F.cap])).run prog bz=.ok () b0)/\
 q ((some ⟨bb,0,none⟩)) b0) bx)/\
 New (.cells #[.slice none 0 0,.slice none 0 0] 32 (0,0)) (λ bc b1=>
 (c b1)/\
 Calls prog 117 #[.slice m.a m.len m.cap,.func (.func 116) #[] #[.pointer ((some ⟨d,0,none⟩))]] b1 λ dl b2=>
 ∃ G:Sl,(dl=.returned (.slice G.a G.len G.cap))/\
 (c b2)/\
 ∃ b3:World,((Instr.storeAt 32 (.pointer ((some ⟨bc,0,none⟩))) (.agg #[.slice i.a i.len i.cap,.slice G.a G.len G.cap])).run prog b2=.ok () b3)/\
 q ((some ⟨bc,0,none⟩)) b3) ax)/\
 New (.cells #[.slice none 0 0,.slice none 0 0] 32 (0,0)) (λ bd b4=>
 (c b4)/\
 Calls prog 88 #[.slice e.a e.len e.cap] b4 λ c3 b5=>
 ∃ C:Sl,(c3=.returned (.slice C.a C.len C.cap))/\
 (c b5)/\
 Calls prog 117 #[.slice C.a C.len C.cap,.func (.func 116) #[] #[.pointer ((some ⟨d,0,none⟩))]] b5 λ c4 b6=>
 ∃ H:Sl,(c4=.returned (.slice H.a H.len H.cap))/\
 (c b6)/\
 ∃ b7:World,((Instr.storeAt 32 (.pointer ((some ⟨bd,0,none⟩))) (.agg #[.slice i.a i.len i.cap,.slice H.a H.len H.cap])).run prog b6=.ok () b7)/\
 q ((some ⟨bd,0,none⟩)) b7) aw)/\
 New (.cells #[.slice none 0 0,.slice none 0 0] 32 (0,0)) (λ be b9=>
 (c b9)/\
 Calls prog 117 #[.slice l.a l.len l.cap,.func (.func 116) #[] #[.pointer ((some ⟨d,0,none⟩))]] b9 λ c5 ca=>
 ∃ z:Sl,(c5=.returned (.slice z.a z.len z.cap))/\
 (c ca)/\
 Calls prog 88 #[.slice e.a e.len e.cap] ca λ c6 cb=>
 ∃ D:Sl,(c6=.returned (.slice D.a D.len D.cap))/\
 (c cb)/\
 Calls prog 117 #[.slice D.a D.len D.cap,.func (.func 116) #[] #[.pointer ((some ⟨d,0,none⟩))]] cb λ c7 cc=>
 ∃ I:Sl,(c7=.returned (.slice I.a I.len I.cap))/\
 (c cc)/\
 ∃ cd:World,((Instr.storeAt 32 (.pointer ((some ⟨be,0,none⟩))) (.agg #[.slice z.a z.len z.cap,.slice I.a I.len I.cap])).run prog cc=.ok () cd)/\
 q ((some ⟨be,0,none⟩)) cd) av)/\
 New (.cells #[.slice none 0 0,.slice none 0 0] 32 (0,0)) (λ bf ce=>
 (c ce)/\
 Calls prog 88 #[.slice k.a k.len k.cap] ce λ c8 cf=>
 ∃ y:Sl,(c8=.returned (.slice y.a y.len y.cap))/\
 (c cf)/\
 Calls prog 117 #[.slice y.a y.len y.cap,.func (.func 116) #[] #[.pointer ((some ⟨d,0,none⟩))]] cf λ c9 cg=>
 ∃ A:Sl,(c9=.returned (.slice A.a A.len A.cap))/\
 (c cg)/\
 Calls prog 88 #[.slice e.a e.len e.cap] cg λ da ch=>
 ∃ E:Sl,(da=.returned (.slice E.a E.len E.cap))/\
 (c ch)/\
 Calls prog 117 #[.slice E.a E.len E.cap,.func (.func 116) #[] #[.pointer ((some ⟨d,0,none⟩))]] ch λ db ci=>
 ∃ J:Sl,(db=.returned (.slice J.a J.len J.cap))/\
 (c ci)/\
 ∃ cj:World,((Instr.storeAt 32 (.pointer ((some ⟨bf,0,none⟩))) (.agg #[.slice A.a A.len A.cap,.slice J.a J.len J.cap])).run prog ci=.ok () cj)/\
 q ((some ⟨bf,0,none⟩)) cj) bw)/\
 ∀ (dv:Env) (j:Option Addr) (f:World),q j f->
 ∃ (n:Bool->World->Prop),(Br (am==1)
 (Br (!au)
 (Zb j λ a6=>
 ∃ L:Sl,(At (λ b=>b=f) ⟨a6.block,a6.off + 1,none⟩ [.slice L.a L.len L.cap])/\
 ∃ bo:Int,(At (λ b=>b=f) ⟨d,0,none⟩ [.int .i64 bo])/\
 New (.cells #[.int .i64 bo] 3 (0,0)) (λ cy dr=>
 ∃ ck:World,∃ N:Sl,((Builtin.append_ #[30,30] 30 #[.slice L.a L.len L.cap,.slice ((some ⟨cy,0,none⟩)) 1 1]).run prog dr=.ok (.slice N.a N.len N.cap) ck)/\
 Zb j λ a8=>
 ∃ cm:World,((Instr.storeAt 30 (.pointer ((some ⟨a8.block,a8.off + 1,none⟩))) (.slice N.a N.len N.cap)).run prog ck=.ok () cm)/\
 n (!an) cm) f)
 (Zb j λ a7=>
 ∃ M:Sl,(At (λ b=>b=f) ⟨a7.block,a7.off + 1,none⟩ [.slice M.a M.len M.cap])/\
 ∃ bp:Int,(At (λ b=>b=f) ⟨d,0,none⟩ [.int .i64 bp])/\
 New (.cells #[.int .i64 bp] 3 (0,0)) (λ cz ds=>
 ∃ cn:World,∃ O:Sl,((Builtin.append_ #[30,30] 30 #[.slice M.a M.len M.cap,.slice ((some ⟨cz,0,none⟩)) 1 1]).run prog ds=.ok (.slice O.a O.len O.cap) cn)/\
 Zb j λ a9=>
 ∃ co:World,((Instr.storeAt 30 (.pointer ((some ⟨a9.block,a9.off + 1,none⟩))) (.slice O.a O.len O.cap)).run prog cn=.ok () co)/\
 n false co) f))
 (Br (am==2)
 (Zb j λ cu=>
 ∃ T:Sl,(At (λ b=>b=f) (Addr.add cu 0) [.slice T.a T.len T.cap])/\
 ∃ bq:Int,(At (λ b=>b=f) ⟨d,0,none⟩ [.int .i64 bq])/\
 New (.cells #[.int .i64 bq] 3 (0,0)) (λ c0 dt=>
 ∃ cp:World,∃ U:Sl,((Builtin.append_ #[30,30] 30 #[.slice T.a T.len T.cap,.slice ((some ⟨c0,0,none⟩)) 1 1]).run prog dt=.ok (.slice U.a U.len U.cap) cp)/\
 Zb j λ cv=>
 ∃ cq:World,((Instr.storeAt 30 (.pointer ((some (Addr.add cv 0)))) (.slice U.a U.len U.cap)).run prog cp=.ok () cq)/\
 n an cq) f)
 (Br (am==3)
 (Br an
 (n true f)
 (Br au
 (Zb j λ cw=>
 ∃ ao:Sl,(At (λ b=>b=f) (Addr.add cw 0) [.slice ao.a ao.len ao.cap])/\
 n (decide ((↑ao.len:Int)>0)) f)
 (n false f)))
 (n false f))))/\
 ∀ (dw:Env) (bg:Bool) (ap:World),n bg ap->
 Br (!bg)
 (∃ az:World,((Instr.storeAt 32 (.pointer ((some ⟨g,0,none⟩))) (.agg #[.slice none 0 0,.slice none 0 0])).run prog ap=.ok () az)/\
 ∃ X:Sl,∃ Y:Sl,(At (λ b=>b=az) ⟨g,0,none⟩ [.slice X.a X.len X.cap,.slice Y.a Y.len Y.cap])/\
 K (.tuple #[.agg #[.slice X.a X.len X.cap,.slice Y.a Y.len Y.cap],.int .i64 7]) az)
 (Zb j λ cx=>
 ∃ aj:Sl,(At (λ b=>b=ap) (Addr.add cx 0) [.slice aj.a aj.len aj.cap])/\
 Calls prog 118 #[.slice aj.a aj.len aj.cap] ap λ dc cr=>
 (dc=.returned (.tuple #[]))/\
 Zb j λ ba=>
 ∃ ak:Sl,(At (λ b=>b=cr) ⟨ba.block,ba.off + 1,none⟩ [.slice ak.a ak.len ak.cap])/\
 Calls prog 118 #[.slice ak.a ak.len ak.cap] cr λ de cs=>
 (de=.returned (.tuple #[]))/\
 Zb j λ ct=>
 ∃ r:Sl,∃ s:Sl,(At (λ b=>b=cs) ct [.slice r.a r.len r.cap,.slice s.a s.len s.cap])/\
 ∃ a0:World,((Instr.storeAt 32 (.pointer ((some ⟨g,0,none⟩))) (.agg #[.slice r.a r.len r.cap,.slice s.a s.len s.cap])).run prog cs=.ok () a0)/\
 ∃ Z:Sl,∃ aa:Sl,(At (λ b=>b=a0) ⟨g,0,none⟩ [.slice Z.a Z.len Z.cap,.slice aa.a aa.len aa.cap])/\
 K (.tuple #[.agg #[.slice Z.a Z.len Z.cap,.slice aa.a aa.len aa.cap],.int .i64 0]) a0)) dq) dn) w
def sk54:Sk:=(.seq .leaf (.cut [] [] [7,13,14,15,16,17,18,19,20,21,22,23,24,25,26,27,28,29,30,31,32] .leaf (.seq .leaf (.seq .leaf (.cut [11] [.ptr] [11,44,45,46,47,48,49,50,51,52,53,54] .leaf (.seq .leaf (.cut [12] [.bool] [12,55,56,57,58,59,60,61,62,63,64,65,66,67,68,69,70,71,72,73,74,75,76,77,78,79,80,81,82,83,84,85,86,87,88,89,90] .leaf .leaf)))))))
theorem ZpP (b:Sl) (c:Sl) (d:Int) (e:Int) (K:Value->World->Prop) (w:World) (h:B54 b c d e K w):Zj prog 54 #[.agg #[.slice b.a b.len b.cap,.slice c.a c.len c.cap],.int .i64 d,.int .i64 e] w K:=cq (sk:=sk54) func54 (by kernel_rfl) (by kernel_rfl) (by kernel_rfl) h
def B116 (d:Int) (c:Option Addr) (K:Value->World->Prop) (w:World):Prop:=
 Zb c λ b=>
 ∃ a:Int,(At (λ e=>e=w) b [.int .i64 a])/\
 K (.bool (d==a)) w
theorem Zox (b:Int) (a:Option Addr) (K:Value->World->Prop) (w:World) (h:B116 b a K w):Zj prog 116 #[.int .i64 b,.pointer a] w K:=cq (sk:=.leaf) func116 (by kernel_rfl) (by kernel_rfl) (by kernel_rfl) h
def B117 (b:Sl) (m:Value) (K:Value->World->Prop) (w:World):Prop:=
 Calls prog 166 #[.slice b.a b.len b.cap,m] w λ s o=>
 ∃ g:Int,(s=.returned (.int .i64 g))/\
 Br (g==-1)
 (K (.slice b.a b.len b.cap) o)
 (∃ (f:Int->Int->World->Prop) (i:Int->Int->World->Nat),(f g (IntKind.i64.wrap (g + 1)) o)/\∀ (v:Env) (c:Int) (d:Int) (e:World),f c d e->
 Br (decide (d<(↑b.len:Int)))
 (Rng d b.len (Zb b.a λ q=>
 ∃ j:Int,(At (λ u=>u=e) (Addr.add q d.toNat) [.int .i64 j])/\
 Zdw prog cl m [.int .i64 j] e λ t k=>
 ∃ n:Bool,(t=.returned (.bool n))/\
 Br (!n)
 (Rng c b.len (Zb b.a λ r=>
 ∃ l:World,((Instr.storeAt 3 (.pointer ((some (Addr.add r c.toNat)))) (.int .i64 j)).run prog k=.ok () l)/\
 (f (IntKind.i64.wrap (c + 1)) (IntKind.i64.wrap (d + 1)) l)/\i (IntKind.i64.wrap (c + 1)) (IntKind.i64.wrap (d + 1)) l<i c d e))
 ((f c (IntKind.i64.wrap (d + 1)) k)/\i c (IntKind.i64.wrap (d + 1)) k<i c d e)))
 (((0:Int)<=c)/\
 ((c:Int)<=(↑b.len:Int))/\
 ∃ p:World,((Builtin.clear_ #[30] 0 #[.slice (ZbB b.a c.toNat b.cap 1) (b.len - c.toNat) (b.cap - c.toNat)]).run prog e=.ok (.tuple #[]) p)/\
 ((0:Int)<=c)/\
 ((c:Int)<=(↑b.cap:Int))/\
 K (.slice b.a c.toNat b.cap) p))
def Zq7:Sk:=(.seq .leaf (.seq .leaf (.seq .leaf (.seq (.seq .leaf (.block (.loop [5,6] [(.int .i64),(.int .i64)] [5,6,7,16,17,18,19,20,21,22,23,24,25,26,27,28,29,30,31,32,33,34,35] .leaf))) .leaf))))
theorem Zow (b:Sl) (c:Value) (K:Value->World->Prop) (w:World) (h:B117 b c K w):Zj prog 117 #[.slice b.a b.len b.cap,c] w K:=cq (sk:=Zq7) func117 (by kernel_rfl) (by kernel_rfl) (by kernel_rfl) h
def B166 (e:Sl) (m:Value) (K:Value->World->Prop) (w:World):Prop:=
 ∃ (d:Int->World->Prop) (j:Int->World->Nat),(d 0 w)/\∀ (o:Env) (b:Int) (c:World),d b c->
 Br (decide (b<(↑e.len:Int)))
 (Rng b e.len (Zb e.a λ k=>
 ∃ g:Int,(At (λ n=>n=c) (Addr.add k b.toNat) [.int .i64 g])/\
 Zdw prog cl m [.int .i64 g] c λ l f=>
 ∃ i:Bool,(l=.returned (.bool i))/\
 Br i
 (K (.int .i64 b) f)
 ((d (IntKind.i64.wrap (b + 1)) f)/\j (IntKind.i64.wrap (b + 1)) f<j b c)))
 (K (.int .i64 ((-1))) c)
def ZqX:Sk:=(.seq .leaf (.seq (.seq .leaf (.block (.loop [8] [(.int .i64)] [4,5,8,9,10,11,12,13,14,15,16,17,18] .leaf))) .leaf))
theorem Zoe (b:Sl) (c:Value) (K:Value->World->Prop) (w:World) (h:B166 b c K w):Zj prog 166 #[.slice b.a b.len b.cap,c] w K:=cq (sk:=ZqX) func166 (by kernel_rfl) (by kernel_rfl) (by kernel_rfl) h
def B88 (c:Sl) (K:Value->World->Prop) (w:World):Prop:=
 Br c.a.isNone
 (K (.slice none 0 0) w)
 (New (.cells #[] 3 (0,0)) (λ e f=>
 ∃ d:World,∃ b:Sl,((Builtin.append_ #[30,30] 30 #[.slice ((some ⟨e,0,none⟩)) 0 0,.slice c.a c.len c.cap]).run prog f=.ok (.slice b.a b.len b.cap) d)/\
 K (.slice b.a b.len b.cap) d) w)
theorem Zpx (b:Sl) (K:Value->World->Prop) (w:World) (h:B88 b K w):Zj prog 88 #[.slice b.a b.len b.cap] w K:=cq (sk:=.leaf) func88 (by kernel_rfl) (by kernel_rfl) (by kernel_rfl) h
end
end Go.Proofs.YthpmfnffkjjlnaaGreat
namespace Go.VC
abbrev ZK:=Nat->Option Obj
def ZK.none:ZK:=λ _=>Option.none
def ZK.one (b:Nat) (o:Obj):ZK:=λ i=>if i=b then some o else Option.none
def ZK.add (R h:ZK):ZK:=λ i=>match R i with|some o=>some o| .none=>h i
def ZK.set (R:ZK) (b:Nat) (o:Obj):ZK:=λ i=>if i=b then some o else R i
def ZK.dis (R h:ZK):Prop:=∀ i,h i≠.none->R i=.none
abbrev HP:=ZK->Prop
structure Cx where
 m:ZK
 os:Os
 tape:Nat->Question->Nat
 output:Array (Nat × ByteArray)
def Cx.add (R:Cx) (h:ZK):Cx:={ R with m:=R.m.add h }
def Cx.set (R:Cx) (b:Nat) (o:Obj):Cx:={ R with m:=R.m.set b o }
def Cx.dis (R:Cx) (h:ZK):Prop:=R.m.dis h
def Sat:Cx->List HP->World->Prop
 |R,[],w=>(∀ b o,R.m b=some o->w.heap[b]? =some o)/\w.os=R.os/\w.tape=R.tape/\w.output=R.output
 |R,H::Hs,w=>∃ h,H h/\R.dis h/\Sat (R.add h) Hs w
def pts (b:Nat) (o:Obj):HP:=λ h=>h=ZK.one b o
def pur (p:Prop):HP:=λ h=>p/\h=ZK.none
def exs {α:Type} (f:α->HP):HP:=λ h=>∃ x,f x h
def Zds:List HP->HP
 |[]=>λ h=>h=ZK.none
 |H::Hs=>λ h=>∃ h1 h2,H h1/\Zds Hs h2/\h1.dis h2/\h=h1.add h2
theorem ZK.add_none (R:ZK):R.add ZK.none=R:=by
 funext i;unfold ZK.add ZK.none;cases R i<;>rfl
theorem ZK.add_assoc (R a b:ZK):(R.add a).add b=R.add (a.add b):=by
 funext i;simp only [ZK.add];cases R i<;>simp
theorem ZK.add_comm {a b:ZK} (h:a.dis b):a.add b=b.add a:=by
 funext i
 simp only [ZK.add];cases hb:b i with
 |none=>cases a i<;>rfl
 |some o=>rw [h i (by rw [hb];simp)]
theorem ZK.dis_symm {a b:ZK} (h:a.dis b):b.dis a:=λ i hi=>by
 cases hb:b i with
 |none=>rfl
 |some o=>exact absurd (h i (by rw [hb];simp)) hi
theorem ZK.dis_add {R a b:ZK} (h1:R.dis a) (h2:(R.add a).dis b):R.dis (a.add b):=λ i hi=>by
 cases ha:a i with
 |some o=>exact h1 i (by rw [ha];simp)
 |none=>
  have hb:b i≠.none:=by simpa [ZK.add,ha] using hi
  have:=h2 i hb;simp only [ZK.add] at this;cases hr:R i with
  |none=>rfl
  |some o=>rw [hr] at this;cases this
theorem ZK.dis_of_add {R a b:ZK} (h2:(R.add a).dis b):R.dis b/\a.dis b:=by
 refine ⟨λ i hi=>?_,λ i hi=>?_⟩
 ·have:=h2 i hi;simp only [ZK.add] at this;cases hr:R i with
  |none=>rfl
  |some o=>rw [hr] at this;cases this
 ·have:=h2 i hi;simp only [ZK.add] at this;cases hr:R i with
  |none=>rw [hr] at this;exact this
  |some o=>rw [hr] at this;cases this
theorem ZK.add_dis {R a b:ZK} (h1:R.dis b) (h2:a.dis b):(R.add a).dis b:=λ i hi=>by
 simp only [ZK.add,h1 i hi,h2 i hi]
theorem Cx.add_none (R:Cx):R.add ZK.none=R:=by unfold Cx.add;rw [ZK.add_none]
theorem Cx.add_assoc (R:Cx) (a b:ZK):(R.add a).add b=R.add (a.add b):=by unfold Cx.add;simp only [ZK.add_assoc]
theorem Cx.dis_add {R:Cx} {a b:ZK} (h1:R.dis a) (h2:(R.add a).dis b):R.dis (a.add b):=ZK.dis_add h1 h2
theorem Cx.dis_of_add {R:Cx} {a b:ZK} (h2:(R.add a).dis b):R.dis b/\a.dis b:=ZK.dis_of_add h2
theorem Cx.add_dis {R:Cx} {a b:ZK} (h1:R.dis b) (h2:a.dis b):(R.add a).dis b:=ZK.add_dis h1 h2
theorem Cx.m_add (R:Cx) (h:ZK):(R.add h).m=R.m.add h:=rfl
def Cx.like (R R':Cx):Prop:=R'.os=R.os/\R'.tape=R.tape/\R'.output=R.output
theorem Sat.of_ro:∀ {Hs:List HP} {R:Cx} {w:World} {b:Nat} {o:Obj},Sat R Hs w->R.m b=some o->w.heap[b]? =some o
 |[],_,_,_,_,h,hb=>h.1 _ _ hb
 |_::_,_,_,b,o,h,hb=>by
  obtain ⟨h',_,_,hs⟩:=h;exact hs.of_ro (by simp only [Cx.m_add,ZK.add,hb])
theorem Sat.streams:∀ {Hs:List HP} {R:Cx} {w:World},Sat R Hs w->w.os=R.os/\w.tape=R.tape/\w.output=R.output
 |[],_,_,h=>h.2
 |_::_,_,_,h=>let ⟨_,_,_,hs⟩:=h;hs.streams
structure Alk (w w':World):Prop where
 heap:w'.heap=w.heap
 os:w'.os=w.os
 tape:w'.tape=w.tape
 output:w'.output=w.output
theorem Sat.alk:∀ {Hs:List HP} {R:Cx} {w w':World},Sat R Hs w->Alk w w'->Sat R Hs w'
 |[],_,_,_,h,e=>⟨λ b o hb=>by rw [e.heap];exact h.1 b o hb,e.os.trans h.2.1,e.tape.trans h.2.2.1,e.output.trans h.2.2.2⟩
 |_::_,_,_,_,h,e=>let ⟨h',hH,hd,hs⟩:=h;⟨h',hH,hd,hs.alk e⟩
theorem Sat.drew {R:Cx} {Hs:List HP} {w:World} (h:Sat R Hs w):Sat R Hs w.drew:=h.alk ⟨rfl,rfl,rfl,rfl⟩
theorem Sat.swap {R:Cx} {A B:HP} {Hs:List HP} {w:World} (h:Sat R (A::B::Hs) w):Sat R (B::A::Hs) w:=by
 obtain ⟨a,hA,hda,b,hB,hdb,hs⟩:=h;obtain ⟨h1,h2⟩:=Cx.dis_of_add hdb;refine ⟨b,hB,h1,a,hA,Cx.add_dis hda (ZK.dis_symm h2),?_⟩;rw [Cx.add_assoc,<-ZK.add_comm h2,<-Cx.add_assoc];exact hs
theorem Sat.cons {R:Cx} {A:HP} {Hs Hs':List HP} {w w':World} (k:∀ R',Sat R' Hs w->Sat R' Hs' w') (h:Sat R (A::Hs) w):Sat R (A::Hs') w':=
 let ⟨a,hA,hd,hs⟩:=h;⟨a,hA,hd,k _ hs⟩
theorem Sat.perm {Hs Hs':List HP} (p:Hs.Perm Hs'):∀ {R:Cx} {w:World},Sat R Hs w->Sat R Hs' w:=by
 induction p with
 |nil=>exact λ h=>h
 |cons x _ ih=>exact λ h=>h.cons λ _=>ih
 |swap x y l=>exact λ h=>h.swap
 |trans _ _ ih1 ih2=>exact λ h=>ih2 (ih1 h)
theorem Sat.ro_of:∀ {Hs:List HP} {R R':Cx} {w:World},(∀ b o,R'.m b=some o->R.m b=some o)->R.like R'->Sat R Hs w->Sat R' Hs w
 |[],_,_,_,k,e,h=>⟨λ b o hb=>h.1 b o (k b o hb),h.2.1.trans e.1.symm,h.2.2.1.trans e.2.1.symm,h.2.2.2.trans e.2.2.symm⟩
 |_::_,R,R',_,k,e,h=>by
  obtain ⟨a,hA,hd,hs⟩:=h;refine ⟨a,hA,λ i hi=>?_,Sat.ro_of (R:=R.add a) (R':=R'.add a) (λ b o hb=>?_) e hs⟩
  ·cases hr:R'.m i with
   |none=>rfl
   |some o=>have:=hd i hi;rw [k i o hr] at this;cases this
  ·simp only [Cx.m_add,ZK.add] at hb ⊢
   cases hr':R'.m b with
   |some o'=>rw [hr'] at hb;rw [k b o' hr'];exact hb
   |none=>
    rw [hr'] at hb;have hn:=hd b (by simp only at hb;rw [hb];simp);rw [hn];exact hb
theorem Sat.drop {R:Cx} {A:HP} {Hs:List HP} {w:World} (h:Sat R (A::Hs) w):Sat R Hs w:=by
 obtain ⟨a,_,hd,hs⟩:=h;exact Sat.ro_of (R:=R.add a) (R':=R) (λ b o hb=>by simp only [Cx.m_add,ZK.add,hb]) ⟨rfl,rfl,rfl⟩ hs
theorem Sat.append_drop {R:Cx} {w:World}:∀ {As Hs:List HP},Sat R (As++Hs) w->Sat R Hs w
 |[],_,h=>h
 |_::_,_,h=>Sat.append_drop (Sat.drop h)
theorem Sat.lend {R:Cx} {b:Nat} {o:Obj} {Hs:List HP} {w:World}:Sat R (pts b o::Hs) w↔R.m b=.none/\Sat (R.add (ZK.one b o)) Hs w:=by
 constructor
 ·rintro ⟨a,rfl,hd,hs⟩
  exact ⟨hd b (by simp [ZK.one]),hs⟩
 ·rintro ⟨hb,hs⟩
  refine ⟨_,rfl,λ i hi=>?_,hs⟩;by_cases h:i=b
  ·subst h;exact hb
  ·simp [ZK.one,h] at hi
theorem Cx.lent {R:Cx} {b:Nat} {o:Obj} (h:R.m b=.none):(R.add (ZK.one b o)).m b=some o:=by
 simp [Cx.m_add,ZK.add,h,ZK.one]
theorem Cx.kept {R:Cx} {h:ZK} {b:Nat} {o:Obj} (hb:R.m b=some o):(R.add h).m b=some o:=by
 simp only [Cx.m_add,ZK.add,hb]
theorem Sat.at {R:Cx} {b:Nat} {o:Obj} {Hs:List HP} {w:World} (h:Sat R (pts b o::Hs) w):w.heap[b]? =some o:=
 let ⟨hb,hs⟩:=Sat.lend.1 h
 hs.of_ro (Cx.lent hb)
theorem Sat.pur {R:Cx} {p:Prop} {Hs:List HP} {w:World}:Sat R (VC.pur p::Hs) w↔p/\Sat R Hs w:=by
 constructor
 ·rintro ⟨a,⟨hp,rfl⟩,_,hs⟩
  rw [Cx.add_none] at hs;exact ⟨hp,hs⟩
 ·rintro ⟨hp,hs⟩
  exact ⟨ZK.none,⟨hp,rfl⟩,λ i hi=>absurd rfl hi,by rw [Cx.add_none];exact hs⟩
theorem Sat.exs {α:Type} {R:Cx} {f:α->HP} {Hs:List HP} {w:World}:Sat R (VC.exs f::Hs) w↔∃ x,Sat R (f x::Hs) w:=by
 constructor
 ·rintro ⟨a,⟨x,hx⟩,hd,hs⟩;exact ⟨x,a,hx,hd,hs⟩
 ·rintro ⟨x,a,hx,hd,hs⟩;exact ⟨a,⟨x,hx⟩,hd,hs⟩
theorem Sat.star {w:World}:∀ {l:List HP} {R:Cx} {Hs:List HP},Sat R (Zds l::Hs) w↔Sat R (l++Hs) w
 |[],R,Hs=>by
  constructor
  ·rintro ⟨a,rfl,_,hs⟩;rw [Cx.add_none] at hs;exact hs
  ·intro hs;exact ⟨ZK.none,rfl,λ i hi=>absurd rfl hi,by rw [Cx.add_none];exact hs⟩
 |A::l,R,Hs=>by
  constructor
  ·rintro ⟨x,⟨h1,h2,hA,hl,hd,rfl⟩,hdx,hs⟩
   have d1:R.dis h1:=λ i hi=>hdx i (by simp only [ZK.add];cases h:h1 i<;>simp_all);refine ⟨h1,hA,d1,Sat.star.1 ⟨h2,hl,Cx.add_dis (λ i hi=>hdx i ?_) hd,by rw [Cx.add_assoc];exact hs⟩⟩;simp only [ZK.add];cases h:h1 i<;>simp_all
  ·rintro ⟨h1,hA,d1,hs⟩
   obtain ⟨h2,hl,d2,hs⟩:=Sat.star.2 hs;refine ⟨h1.add h2,⟨h1,h2,hA,hl,(Cx.dis_of_add d2).2,rfl⟩,Cx.dis_add d1 d2,by rw [<-Cx.add_assoc];exact hs⟩
def _root_.Go.World.setBlock (w:World) (b:Nat) (o:Obj):World:={ w with heap:=w.heap.setIfInBounds b o }
theorem ZK.set_add {R h:ZK} {b:Nat} {o o':Obj} (hb:R b=some o):(R.set b o').add h=(R.add h).set b o':=by
 funext i
 simp only [ZK.add,ZK.set];by_cases hi:i=b
 ·subst hi;simp
 ·simp [hi]
theorem Cx.set_add {R:Cx} {h:ZK} {b:Nat} {o o':Obj} (hb:R.m b=some o):(R.set b o').add h=(R.add h).set b o':=by
 unfold Cx.set Cx.add;simp only [ZK.set_add hb]
theorem Sat.upd:∀ {Hs:List HP} {R:Cx} {w:World} {b:Nat} {o:Obj} (o':Obj),Sat R Hs w->R.m b=some o->Sat (R.set b o') Hs (w.setBlock b o')
 |[],R,w,b,o,o',h,hb=>by
  refine ⟨λ i x hx=>?_,h.2⟩;have hlt:b<w.heap.size:=(Array.getElem?_eq_some_iff.1 (h.1 b o hb)).1;simp only [Cx.set,ZK.set] at hx;simp only [World.setBlock];by_cases hi:i=b
  ·subst hi
   simp only [if_true,Option.some.injEq] at hx;subst hx;simp [hlt]
  ·rw [if_neg hi] at hx
   rw [Array.getElem?_setIfInBounds_ne (Ne.symm hi)];exact h.1 i x hx
 |H::Hs,R,w,b,o,o',h,hb=>by
  obtain ⟨a,hA,hd,hs⟩:=h;have:=Sat.upd o' hs (b:=b) (o:=o) (Cx.kept hb);refine ⟨a,hA,λ i hi=>?_,?_⟩
  ·have hr:=hd i hi
   simp only [Cx.set,ZK.set];by_cases h:i=b
   ·subst h;rw [hb] at hr;cases hr
   ·rw [if_neg h];exact hr
  ·rw [Cx.set_add hb];exact this
theorem Sat.setPts {R:Cx} {b:Nat} {o:Obj} {Hs:List HP} {w:World} (o':Obj) (h:Sat R (pts b o::Hs) w):Sat R (pts b o'::Hs) (w.setBlock b o'):=by
 obtain ⟨hb,hs⟩:=Sat.lend.1 h;refine Sat.lend.2 ⟨hb,?_⟩;have h1:=Sat.upd o' hs (b:=b) (o:=o) (Cx.lent hb);have e:(R.add (ZK.one b o)).set b o'=R.add (ZK.one b o'):=by
  unfold Cx.set Cx.add
  congr 1
  funext i
  simp only [ZK.add,ZK.set,ZK.one];by_cases hi:i=b
  ·subst hi;simp [hb]
  ·simp [hi]
 rw [e] at h1;exact h1
theorem Sat.ro_lt {R:Cx} {Hs:List HP} {w:World} (h:Sat R Hs w) {b:Nat} (hb:w.heap.size<=b):R.m b=.none:=by
 cases hr:R.m b with
 |none=>rfl
 |some o=>
  have:=h.of_ro hr;rw [Array.getElem?_eq_none hb] at this;cases this
theorem Sat.grow:∀ {Hs:List HP} {R:Cx} {w:World} (o:Obj),Sat R Hs w->Sat (R.add (ZK.one w.heap.size o)) Hs (w.alloc o)
 |[],R,w,o,h=>by
  refine ⟨λ b x hx=>?_,h.2⟩;simp only [Cx.m_add,ZK.add,ZK.one] at hx;cases hr:R.m b with
  |some y=>
   rw [hr] at hx;have:=h.1 b y hr;have hlt:b<w.heap.size:=(Array.getElem?_eq_some_iff.1 this).1;simp only at hx;simp only [World.alloc];rw [Array.getElem?_push_lt hlt,<-Array.getElem?_eq_getElem,this,hx]
  |none=>
   rw [hr] at hx;simp only at hx;split at hx
   ·rename_i hb;subst hb;cases hx;show (w.heap.push o)[w.heap.size]? =_;simp
   ·cases hx
 |H::Hs,R,w,o,h=>by
  have hR:R.m w.heap.size=.none:=Sat.ro_lt h (Nat.le_refl _);obtain ⟨a,hA,hd,hs⟩:=h;have hadd:(R.add a).m w.heap.size=.none:=Sat.ro_lt hs (Nat.le_refl _);have ha:a w.heap.size=.none:=by simpa [Cx.m_add,ZK.add,hR] using hadd
  have:=Sat.grow o hs;have hdis:(ZK.one w.heap.size o).dis a:=by
   intro i hi;simp only [ZK.one];split
   ·rename_i h;subst h;exact absurd ha hi
   ·rfl
  refine ⟨a,hA,Cx.add_dis hd hdis,?_⟩;rw [Cx.add_assoc,ZK.add_comm hdis,<-Cx.add_assoc];exact this
theorem Sat.alloc {R:Cx} {Hs:List HP} {w:World} (o:Obj) (h:Sat R Hs w):Sat R (pts w.heap.size o::Hs) (w.alloc o):=
 Sat.lend.2 ⟨Sat.ro_lt h (Nat.le_refl _),Sat.grow o h⟩
def Cx.of (w:World):Cx:={ m:=λ b=>w.heap[b]?,os:=w.os,tape:=w.tape,output:=w.output }
theorem Sat.start (w:World):Sat (Cx.of w) [] w:=⟨λ _ _ h=>h,rfl,rfl,rfl⟩
class Zbk (b:Nat) (Hs:List HP) (o:outParam Obj) (Rest:outParam (List HP)):Prop where
 perm:Hs.Perm (pts b o::Rest)
instance (priority:=2000) Zbk.head {b:Nat} {o:Obj} {Hs:List HP}:Zbk b (pts b o::Hs) o Hs:=⟨List.Perm.refl _⟩
instance Zbk.tail {b:Nat} {H:HP} {Hs:List HP} {o:Obj} {Rest:List HP} [t:Zbk b Hs o Rest]:Zbk b (H::Hs) o (H::Rest):=
 ⟨(t.perm.cons H).trans (.swap _ _ _)⟩
class Zfj (A:HP) (Hs:List HP) (Rest:outParam (List HP)):Prop where
 perm:Hs.Perm (A::Rest)
instance (priority:=2000) Zfj.head {A:HP} {Hs:List HP}:Zfj A (A::Hs) Hs:=⟨List.Perm.refl _⟩
instance Zfj.tail {A H:HP} {Hs:List HP} {Rest:List HP} [t:Zfj A Hs Rest]:Zfj A (H::Hs) (H::Rest):=
 ⟨(t.perm.cons H).trans (.swap _ _ _)⟩
theorem Sat.takeP {R:Cx} {Hs Rest:List HP} {w:World} {b:Nat} {o:Obj} (h:Sat R Hs w) (t:Zbk b Hs o Rest):Sat R (pts b o::Rest) w:=h.perm t.perm
theorem Sat.take {R:Cx} {Hs Rest:List HP} {w:World} (A:HP) [t:Zfj A Hs Rest] (h:Sat R Hs w):Sat R (A::Rest) w:=h.perm t.perm
theorem Sat.look {R:Cx} {Hs Rest:List HP} {w:World} {o:Obj} (b:Nat) [t:Zbk b Hs o Rest] (h:Sat R Hs w):w.heap[b]? =some o:=(h.takeP t).at
theorem eqS {R:Cx} {Hs:List HP} {w:World} (h:Sat R Hs w):∀ w',(λ w'=>w'=w) w'->Sat R Hs w':=λ _ e=>by rw [show _=w from e];exact h
theorem Zf {R:Cx} {Hs:List HP}:∀ w',Sat R Hs w'->Sat R Hs w':=λ _ h=>h
def Pre:List Value->List Value->Prop
 |[],_=>True
 |v::vs,x::l=>v=x/\Pre vs l
 |_::_,[]=>False
theorem Pre.get:∀ {vs l:List Value},Pre vs l->∀ (i:Nat) (v:Value),vs[i]? =some v->l[i]? =some v
 |[],_,_,i,v,h=>by simp at h
 |x::vs,y::l,hp,0,v,h=>by simp only [List.getElem?_cons_zero] at h ⊢;rw [<-hp.1];exact h
 |x::vs,y::l,hp,i + 1,v,h=>by simp only [List.getElem?_cons_succ] at h ⊢;exact hp.2.get i v h
 |_::_,[],hp,_,_,_=>hp.elim
theorem Za1 {w:World} {b:Nat} {l:List Value} {T:TypeId} {fr:Nat × Nat} (h:w.heap[b]? =some (.cells l.toArray T fr)) (i:Nat):w.cell? ⟨b,i,none⟩=l[i]?:=by
 simp [World.cell?,h]
theorem ZG (b o i:Nat):Addr.add ⟨b,o,none⟩ i=⟨b,o + i,none⟩:=by
 unfold Addr.add;split
 ·rename_i h;subst h;rfl
 ·rfl
theorem At.mk {S:World->Prop} {b off:Nat} {vs l:List Value} {T:TypeId} {fr:Nat × Nat} (h:∀ w,S w->w.heap[b]? =some (.cells l.toArray T fr)) (hp:Pre vs (l.drop off)):At S ⟨b,off,none⟩ vs:=by
 intro w hw i v hv;have:=hp.get i v hv;rw [List.getElem?_drop] at this;rw [ZG,Za1 (h w hw),this]
theorem At.own {S:World->Prop} {R:Cx} {Hs Rest:List HP} {b off:Nat} {vs l:List Value} {T:TypeId} {fr:Nat × Nat} (hS:∀ w,S w->Sat R Hs w)
  [t:Zbk b Hs (.cells l.toArray T fr) Rest] (hp:Pre vs (l.drop off)):At S ⟨b,off,none⟩ vs:=At.mk (λ w hw=>(hS w hw).look b) hp
theorem Zd {R:Cx} {Hs:List HP} {w:World} {o:Obj} {K:Nat->World->Prop} (hw:Sat R Hs w) (k:∀ b w',Sat R (pts b o::Hs) w'->K b w'):New o K w:=
 k _ _ (Sat.alloc o hw)
theorem Zm {R:Cx} {Hs:List HP} {w:World} {F:(World->Prop)->World->Prop} (hw:Sat R Hs w) (k:∀ w',Sat R Hs w'->F (Sat R Hs) w'):Drw w F:=
 ⟨Sat R Hs,Sat R Hs,hw.drew,λ w' h=>⟨h,k w' h⟩⟩
theorem Zi {R:Cx} {Hs:List HP} {w:World} {F:(World->Prop)->World->Prop} (S:World->Prop) (hw:Sat R Hs w) (hS:∀ w',Sat R Hs w'->S w') (k:∀ w',Sat R Hs w'->F S w'):Drw w F:=
 ⟨Sat R Hs,S,hw.drew,λ w' h=>⟨hS w' h,k w' h⟩⟩
def tru:HP:=λ _=>True
theorem Sat.tru {R:Cx} {Hs:List HP} {w:World} (h:Sat R Hs w):Sat R (VC.tru::Hs) w:=⟨ZK.none,trivial,λ _ hi=>absurd rfl hi,by rw [Cx.add_none];exact h⟩
theorem Sat.absorb {R:Cx} {A:HP} {Hs:List HP} {w:World} (h:Sat R (A::VC.tru::Hs) w):Sat R (VC.tru::Hs) w:=by
 obtain ⟨a,_,hda,b,_,hdb,hs⟩:=h;refine ⟨a.add b,trivial,Cx.dis_add hda hdb,?_⟩;rw [<-Cx.add_assoc];exact hs
theorem ZlA {R:Cx} {Hs:List HP} {w:World} {F:(World->Prop)->World->Prop} (hw:Sat R Hs w) (k:∀ w',Sat R (VC.tru::Hs) w'->F (Sat R (VC.tru::Hs)) w'):Drw w F:=
 ⟨_,_,hw.tru.drew,λ w' h=>⟨h,k w' h⟩⟩
theorem Zh {x:Int} (h0: -9223372036854775808<=x) (h1:x<9223372036854775808):IntKind.i64.wrap x=x:=by
 have:IntKind.i64.wrap x=(x + 9223372036854775808) % 18446744073709551616 - 9223372036854775808:=by
  rw [IntKind.wrap_i64]
 rw [this];omega
def Sl.v (s:Sl):Value:=.slice s.a s.len s.cap
structure Ro (R:Cx) (s:Sl) (xs:List Value):Prop where
 len:s.len=xs.length
 bound:xs.length<=9223372036854775807
 mem:xs≠[]->∃ b off l T fr,s.a=some ⟨b,off,none⟩/\R.m b=some (.cells l T fr)/\∀ (i:Nat) v,xs[i]? =some v->l[off + i]? =some v
theorem Ro.add {R:Cx} {h:ZK} {s:Sl} {xs:List Value} (hr:Ro R s xs):Ro (R.add h) s xs:=
 ⟨hr.len,hr.bound,λ hx=>let ⟨b,off,l,T,fr,ha,hb,hl⟩:=hr.mem hx;⟨b,off,l,T,fr,ha,Cx.kept hb,hl⟩⟩
theorem Ro.addr {R:Cx} {s:Sl} {xs:List Value} (hr:Ro R s xs) {k:Nat} (hk:k<xs.length):∃ a,s.a=some a/\
  ∀ {S:World->Prop} {Hs:List HP},(∀ w,S w->Sat R Hs w)->At S (a.add k) [xs[k]]:=by
 obtain ⟨b,off,l,T,fr,ha,hb,hl⟩:=hr.mem (by intro h;rw [h] at hk;simp at hk);refine ⟨_,ha,λ hS w hw i v hv=>?_⟩;have hi:i=0:=by
  cases i with
  |zero=>rfl
  |succ i=>simp at hv
 subst hi;simp only [List.getElem?_cons_zero,Option.some.injEq] at hv;subst hv;rw [ZG,ZG];have:=(hS w hw).of_ro hb;simp only [World.cell?,this,Option.isSome_none,Bool.false_eq_true,if_false];exact hl k _ (List.getElem?_eq_getElem hk)
abbrev RoI (R:Cx) (s:Sl) (xs:List Int):Prop:=Ro R s (xs.map (Value.int .i64))
theorem RoI.len {R:Cx} {s:Sl} {xs:List Int} (h:RoI R s xs):s.len=xs.length:=by rw [Ro.len h];simp
theorem RoI.bound {R:Cx} {s:Sl} {xs:List Int} (h:RoI R s xs):xs.length<=9223372036854775807:=by have:=Ro.bound h;simpa using this
theorem RoI.addr {R:Cx} {s:Sl} {xs:List Int} (hr:RoI R s xs) {k:Nat} (hk:k<xs.length):∃ a,s.a=some a/\
  ∀ {S:World->Prop} {Hs:List HP},(∀ w,S w->Sat R Hs w)->At S (a.add k) [.int .i64 xs[k]]:=by
 obtain ⟨a,ha,h⟩:=Ro.addr hr (k:=k) (by simpa using hk);refine ⟨a,ha,λ hS=>?_⟩;have:=h hS;simpa using this
theorem RoI.idx {S:World->Prop} {R:Cx} {Hs:List HP} {s:Sl} {xs:List Int} (hr:RoI R s xs) (hS:∀ w,S w->Sat R Hs w) {k:Nat} (hk:k<xs.length) {F:Int->Prop} (h:F xs[k]):
  Rng (k:Int) s.len (Zb s.a λ a=>∃ t:Int,(At S (a.add (k:Int).toNat) [.int .i64 t])/\F t):=by
 obtain ⟨a,ha,hat⟩:=RoI.addr hr hk;have hl:=RoI.len hr;exact Rng.mk (by omega) (by omega) (Zb.mk ha ⟨xs[k],hat hS,h⟩)
end Go.VC
