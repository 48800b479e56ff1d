/- VC, part 1: readable formulas for single operations of the model, each proved to be enough for the model's own run of that operation. No condition. -/
import Derived.OrdersHeld
import Derived.KernelRfl
import Derived.Laws.Entries
import Derived.Laws.Cells
import Derived.Laws.World
import Derived.Lib.BitFns
import Derived.Tactics
import Derived.Scope
import Derived.Deep.AppendSrc
import Derived.Deep.DeepAppendWide
import Derived.Laws.AppendOwn
import Derived.Laws.IdiomCopy
import Derived.Sort.Grow
import Derived.Defers
import Derived.Recover
import Derived.Lib.SliceRun
import GoSem.Instr.MapUpdate
import GoSem.Builtin.Delete
import Derived.MapKept
import Derived.Lib.ConvBytes
import Derived.Laws.BytesArg
import Derived.Laws.Strings
import Derived.Below
import Derived.Sort.KeysCollected
import Derived.Maps.Own
set_option linter.unusedVariables false
set_option linter.defProp false
set_option linter.unusedSimpArgs false
set_option maxHeartbeats 8000000
def qa:=@List.length_map
def qb:=@List.length_append
def qc:=@if_neg
def qd:=@List.length_take
def qe:=@List.map_append
def qf:=@if_pos
def qg:=@List.take_of_length_le
def qh:=@List.getElem_mem
def qi:=@List.map_cons
def qj:=@List.mem_cons_of_mem
def qk:=@List.mem_cons
def ql:=@Bool.and_eq_true
def qm:=@List.mem_map
def qn:=@List.append_assoc
def qo:=@Int.toNat_natCast
def qp:=@List.take_add_one
def qq:=@List.mem_cons_self
def qr:=@List.length_cons
def qs:=@Int.eq_ofNat_of_zero_le
def qt:=@List.mem_append
def qv:=@List.drop_eq_getElem_cons
def qw:=@List.mem_of_mem_take
def qx:=@List.length_drop
def qy:=@Bool.false_eq_true
def qz:=@decide_eq_false
def qA:=@Nat.eq_of_beq_eq_true
def qC:=@List.pairwise_cons
def qD:=@List.take_append_drop
def qE:=@decide_eq_true
def qF:=@of_decide_eq_true
def qG:=@Int.le_refl
def qH:=@congrArg
def qI:=@Classical.byContradiction
def qJ:=@decide_eq_decide
def qK:=@List.mem_singleton
def qL:=@Nat.mul_le_mul_right
def qM:=@Option.some.injEq
def qN:=@List.length_nil
def qO:=@List.not_mem_nil
def qP:=@List.map_congr_left
def qQ:=@of_decide_eq_false
def qR:=@decide_eq_true_iff
def qS:=@Option.isSome_iff_exists
def qT:=@List.length_singleton
def qU:=@List.cons_append
def qV:=@decide_eq_true_eq
def qW:=@List.all_eq_true
def qX:=@List.getElem_map
def qY:=@List.perm_middle
def qZ:=@List.map_map
def q7:=@Nat.min_eq_left
def q8:=@Array.all_eq_true_iff_forall_mem
def q9:=@Option.toList_some
def ja:=@List.flatten_append
def jb:=@Nat.zero_add
def jc:=@Nat.le_refl
def jd:=@List.length_set
def je:=@List.getElem_of_mem
def jf:=@Nat.le_trans
def jg:=@List.drop_eq_nil_of_le
def jh:=@beq_iff_eq
def ji:=@List.pairwise_append
def jj:=@Int.tmod_eq_emod_of_nonneg
def jk:=@List.map_take
def jl:=@List.append_nil
def jm:=@Nat.pow_le_pow_right
def jn:=@List.mem_of_mem_drop
def jo:=@List.map_drop
def jp:=@Option.some.inj
def jq:=@if_false
def jr:=@List.nil_append
def jt:=@List.flatten_cons
def ju:=@List.Pairwise.nil
def jv:=@Nat.mul_lt_mul_of_pos_right
def jw:=@Array.length_toList
def jx:=@Int.toNat_of_nonneg
def jy:=@Bool.or_eq_true
def jz:=@List.take_length
def jA:=@Nat.add_mul
def jB:=@Nat.zero_le
def jC:=@List.mem_range
def jD:=@List.Perm.refl
def jE:=@List.drop_drop
def jF:=@List.Pairwise.cons
def jG:=@List.Perm.cons
def jH:=@Bool.not_eq_true
def jI:=@Nat.shiftLeft_eq
def jJ:=@List.getElem_take
def jK:=@Nat.le_of_ble_eq_true
def jL:=@Nat.add_assoc
def jM:=@Nat.two_pow_pos
def jN:=@Option.isSome_none
def jO:=@List.length_eq_zero_iff
def jP:=@or_false
def jQ:=@List.nodup_append
def jR:=@List.map_nil
def jS:=@List.filter_eq_self
def jT:=@List.cons.injEq
def jU:=@List.pairwise_iff_getElem
def jV:=@Nat.pow_add
def jW:=@beq_eq_false_iff_ne
def jX:=@Nat.mul_comm
def jY:=@Prod.mk.injEq
def jZ:=@List.mem_flatten
def j0:=@List.ext_getElem
def j4:=@List.filter_append
def j5:=@List.append_of_mem
def j6:=@Int.tdiv_eq_ediv_of_nonneg
def j7:=@List.take_left'
def j8:=@List.nodup_cons
def j9:=@List.take_succ_eq_append_getElem
def va:=@Nat.mul_one
def vc:=@Function.comp_def
def vd:=@Array.ext'
def ve:=@List.length_pos_iff
def vf:=@List.filter_sublist
def vg:=@List.any_eq_true
def vh:=@List.getElem_cons_zero
def vi:=@Int.ofNat_lt
def vk:=@Int.emod_lt_of_pos
def vl:=@Int.natCast_pow
def vm:=@Option.map_some
def vn:=@List.sum_cons
def vo:=@List.length_replicate
def vp:=@if_true
def vq:=@Bool.not_eq_true'
def vr:=@Int.compare_eq_gt
def vt:=@List.pairwise_map
def vu:=@List.length_range
def vv:=@and_true
def vw:=@List.set_append_left
def vx:=@Int.add_mul_emod_self_left
def vy:=@List.filter_cons
def vz:=@List.getElem_set
def vA:=@Option.isNone_iff_eq_none
def vB:=@Bool.true_and
def vC:=@Nat.mul_assoc
def vD:=@Int.natCast_mul
def vE:=@List.mem_filter
def vF:=@List.any_append
def vG:=@Bool.eq_iff_iff
def vH:=@Int.emod_nonneg
def vI:=@Int.lt_of_lt_of_le
def vJ:=@Array.any_eq_true'
def vK:=@List.pairwise_mergeSort
def vL:=@List.set_eq_take_append_cons_drop
def vM:=@List.foldl_append
def vN:=@not_true_eq_false
def vO:=@Nat.lt_or_ge
def vP:=@List.size_toArray
def vQ:=@Nat.add_zero
def vR:=@List.sublist_cons_self
def vS:=@List.nodup_nil
def vT:=@List.getElem_cons_succ
def vU:=@Int.emod_eq_of_lt
def vV:=@Nat.pow_zero
def vW:=@Int.compare_eq_eq
def vX:=@List.drop_left
def vY:=@Int.ediv_eq_zero_of_lt
def vZ:=@Int.add_mul_ediv_left
def v8:=@List.perm_append_comm
def ua:=@Int.mul_le_mul_of_nonneg_right
def ub:=@Nat.blt_eq
def uc:=@Nat.div_eq_of_lt
def ud:=@List.length_tail
def uf:=@List.take_append_of_le_length
def ug:=@Bool.or_eq_false_iff
def uh:=@List.drop_append_of_le_length
def ui:=@List.mem_append_left
def uj:=@List.drop_left'
def uk:=@List.Perm.of_eq
def ul:=@List.mem_map_of_mem
def um:=@List.drop_succ_cons
def uo:=@Array.toList_filter
def up:=@List.mergeSort_perm
def uq:=@List.flatMap_append
def ur:=@List.take_succ_cons
def ut:=@Nat.mul_le_mul_left
def uu:=@Int.le_trans
def uv:=@List.map_set
def uw:=@Nat.add_comm
def ux:=@Nat.two_pow_add_eq_or_of_lt
def uy:=@Nat.le_of_mul_le_mul_right
def uz:=@Nat.shiftLeft_zero
def uA:=@Int.fdiv_eq_ediv_of_nonneg
def uB:=@Int.mul_nonneg
def uC:=@List.getElem_range
def uD:=@List.nodup_iff_pairwise_ne
def uE:=@List.zip_cons_cons
def uF:=@Array.mapM_eq_mapM_toList
def uG:=@List.Sublist.refl
def uH:=@Nat.one_mul
def uI:=@Int.compare_eq_lt
def uJ:=@Option.isSome_map
def uK:=@dif_pos
def uL:=@Array.setIfInBounds_comm
def uM:=@List.length_erase_of_mem
def uN:=@List.Perm.eq_of_pairwise
def uO:=@Nat.min_eq_right
def uP:=@Nat.lt_log2_self
def uQ:=@Int.natCast_ediv
def uR:=@beq_self_eq_true
def uS:=@List.drop_length
def uT:=@Int.mul_comm
def uU:=@Option.map_eq_some_iff
def uV:=@List.length_pos_of_mem
def uW:=@List.drop_of_length_le
def uX:=@List.Perm.trans
def uY:=@List.all_append
def uZ:=@Nat.div_lt_iff_lt_mul
def u9:=@Nat.le_div_iff_mul_le
def za:=@Int.ediv_lt_of_lt_mul
def zb:=@Int.mul_ediv_add_emod
def zc:=@List.mem_append_right
def zd:=@List.length_mergeSort
def ze:=@List.length_filter_le
def zf:=@List.getElem_set_self
def zg:=@Int.pow_pos
def zh:=@Nat.div_lt_of_lt_mul
def zi:=@true_and
def zj:=@Bool.not_false
def zk:=@List.drop_zero
def zl:=@Int.mul_le_mul
def zm:=@Array.mk.injEq
def zn:=@List.takeWhile_cons
def zo:=@List.dropWhile_cons
def zp:=@Nat.testBit_two_pow
def zq:=@List.getD_cons_succ
def zr:=@Int.mul_assoc
def zt:=@Bool.or_false
def zu:=@List.set_cons_succ
def zv:=@Nat.eq_zero_or_pos
def zw:=@Nat.lt_of_le_of_lt
def zx:=@Nat.pow_succ
def zy:=@Int.ofNat_le
def zA:=@Nat.zero_mul
def zB:=@Nat.mul_left_comm
def zC:=@Nat.lt_trichotomy
def zD:=@Int.add_left_comm
def zE:=@List.flatMap_cons
def zG:=@List.drop_append
def zH:=@BitVec.toNat_and
def zJ:=@Nat.mod_eq_of_lt
def zK:=@BitVec.toNat_not
def zL:=@Int.natCast_emod
def zM:=@Option.getD_some
def zN:=@List.flatten_nil
def zO:=@List.mem_flatMap
def zQ:=@Int.one_mul
def zR:=@Nat.mod_lt
def zT:=@Or.inl
def zU:=@Iff.rfl
namespace Go.VC
structure Sl where
 a:Option Addr
 len:Nat
 cap:Nat
abbrev _root_.nI (n : Int) : Value := .int .i64 n
abbrev _root_.nP (b : Nat) : Value := .pointer (some ⟨b,0,none⟩)
abbrev _root_.nO (a : Addr) (n : Nat) : Addr := ⟨a.block,a.off + n,none⟩
abbrev _root_.nK := Value -> World -> Prop
abbrev _root_.nW := World
abbrev _root_.wI (n : Int) : Int := IntKind.i64.wrap n
abbrev _root_.xF (n : Nat) : Value := .float .f64 n
abbrev _root_.xZ (s : ByteArray) : Value := .string s
abbrev _root_.xP (a : Option Addr) : Value := .pointer a
abbrev _root_.xR (v : Value) : Ending := .returned v
abbrev _root_.xA := Option Addr
abbrev _root_.xE := World -> Prop
abbrev Sl.v (s : Sl) : Value := .slice s.a s.len s.cap
inductive Ty where
 |int (k:IntKind)|bool|str|sl|ptr|map|flt|any
@[reducible] def Ty.T:Ty->Type
 | .int _=>Int| .bool=>Bool| .str=>ByteArray| .sl=>Sl| .ptr=>Option Addr| .map=>Option Nat| .flt=>Nat| .any=>Value
def Ty.enc:(t:Ty)->t.T->Value
 | .int k,n=>.int k n
 | .bool,b=>.bool b
 | .str,s=>.string s
 | .sl,s=>.slice s.a s.len s.cap
 | .ptr,p=>.pointer p
 | .map,m=>.map m
 | .flt,n=>.float .f64 n
 | .any,v=>v
def Ty.un:(t:Ty)->Value->(t.T->Prop)->Prop
 | .int k,v,φ=>match v with| .int k' n=>(match decide (k=k') with|true=>φ n|false=>False)|_=>False
 | .bool,v,φ=>match v with| .bool b=>φ b|_=>False
 | .str,v,φ=>match v with| .string s=>φ s|_=>False
 | .sl,v,φ=>match v with| .slice a n c=>φ ⟨a,n,c⟩|_=>False
 | .ptr,v,φ=>match v with| .pointer p=>φ p|_=>False
 | .map,v,φ=>match v with| .map m=>φ m|_=>False
 | .flt,v,φ=>match v with| .float .f64 n=>φ n|_=>False
 | .any,v,φ=>φ v
def Ty.un_enc {t:Ty} {v:Value} {φ:t.T->Prop} (h:t.un v φ):∃ x,v=t.enc x/\φ x:=by
 cases t<;>simp only [Ty.un] at h
 case int k=>
  split at h
  ·split at h
   ·rename_i hk;have:=qF hk;subst this;exact ⟨_,rfl,h⟩
   ·exact h.elim
  ·exact h.elim
 case any=>exact ⟨v,rfl,h⟩
 all_goals (split at h<;>first|exact ⟨_,rfl,h⟩|exact h.elim)
def Ty.ex:(t:Ty)->(Value->Prop)->Prop
 | .int k,φ=>∃ n:Int,φ (.int k n)
 | .bool,φ=>∃ b:Bool,φ (.bool b)
 | .str,φ=>∃ s:ByteArray,φ (.string s)
 | .sl,φ=>∃ s:Sl,φ (.slice s.a s.len s.cap)
 | .ptr,φ=>∃ p:Option Addr,φ (.pointer p)
 | .map,φ=>∃ m:Option Nat,φ (.map m)
 | .flt,φ=>∃ n:Nat,φ (.float .f64 n)
 | .any,φ=>∃ v:Value,φ v
def Ty.ex_some {t:Ty} {φ:Value->Prop} (h:t.ex φ):∃ v,φ v:=by
 cases t<;>(obtain ⟨x,h⟩:=h;exact ⟨_,h⟩)
def ZiQ:List Ty->(List Value->Prop)->Prop
 |[],φ=>φ []
 |t::ts,φ=>t.ex λ v=>ZiQ ts λ vs=>φ (v::vs)
def Zem:∀ {ts:List Ty} {φ:List Value->Prop},ZiQ ts φ->∃ vs,φ vs
 |[],_,h=>⟨[],h⟩
 |_::_,_,h=>let ⟨v,h⟩:=Ty.ex_some h;let ⟨vs,h⟩:=Zem h;⟨v::vs,h⟩
inductive Vt where
 |one (t:Ty)|agg (ts:List Ty)
def Vt.ex:Vt->(Value->Prop)->Prop
 | .one t,φ=>t.ex φ
 | .agg ts,φ=>ZiQ ts λ vs=>φ (.agg vs.toArray)
def Vt.ex_some {t:Vt} {φ:Value->Prop} (h:t.ex φ):∃ v,φ v:=by
 cases t with
 |one t=>exact Ty.ex_some h
 |agg ts=>let ⟨vs,h⟩:=Zem h;exact ⟨_,h⟩
def Zn8:List Vt->(List Value->Prop)->Prop
 |[],φ=>φ []
 |t::ts,φ=>t.ex λ v=>Zn8 ts λ vs=>φ (v::vs)
def Zc6:∀ {ts:List Vt} {φ:List Value->Prop},Zn8 ts φ->∃ vs,φ vs
 |[],_,h=>⟨[],h⟩
 |_::_,_,h=>let ⟨v,h⟩:=Vt.ex_some h;let ⟨vs,h⟩:=Zc6 h;⟨v::vs,h⟩
inductive Rt where
 |val (t:Vt)|tup (ts:List Vt)
def Rt.ex:Rt->(Value->Prop)->Prop
 | .val t,φ=>t.ex φ
 | .tup ts,φ=>Zn8 ts λ vs=>φ (.tuple vs.toArray)
def Rt.ex_some {t:Rt} {φ:Value->Prop} (h:t.ex φ):∃ v,φ v:=by
 cases t with
 |val t=>exact Vt.ex_some h
 |tup ts=>let ⟨vs,h⟩:=Zc6 h;exact ⟨_,h⟩
def ZwE (P:Program) (t:TypeId):Ty:=
 match P.underlying t with
 |some .bool=>.bool
 |some (.int k)=>.int k
 |some .string=>.str
 |some (.pointer _)=>.ptr
 |some (.slice _)=>.sl
 |some (.map _ _)=>.map
 |some (.float .f64)=>.flt
 |_=>.any
def Zn0 (f:TypeId->Option (List Ty)):List Field->Option (List Ty)
 |[]=>some []
 |x::xs=>match f x.type with
  |none=>none
  |some l=>match Zn0 f xs with
   |none=>none
   |some m=>some (l++m)
def Zu7 (P:Program):Nat->TypeId->Option (List Ty)
 |0,_=>none
 |d + 1,t=>match P.underlying t with
  |some (.struct fs)=>Zn0 (Zu7 P d) fs.toList
  |some (.array n e)=>match Nat.ble n 4 with
   |true=>match Zu7 P d e with
    |some l=>some (List.replicate n l).flatten
    |none=>none
   |false=>none
  |_=>some [ZwE P t]
def ZwD (P:Program) (t:TypeId):Vt:=
 match P.underlying t with
 |some (.struct _)|some (.array _ _)=>match Zu7 P 6 t with
  |some l=>.agg l
  |none=>.one .any
 |_=>.one (ZwE P t)
def ZuC (P:Program) (t:TypeId):Rt:=
 match P.underlying t with
 |some (.tuple ts)=>.tup (ts.toList.map (ZwD P))
 |_=>.val (ZwD P t)
abbrev Env:=Nat->Value
def Env.set (ρ:Env) (d:Nat) (v:Value):Env:=λ i=>match Nat.beq i d with|true=>v|false=>ρ i
def Env.put (ρ:Env) (d:Option Tmp) (v:Value):Env:=match d with|some d=>ρ.set d v|none=>ρ
def Env.ev (ρ:Env):Operand->Value
 | .tmp t=>ρ t
 | .const v=>v
 | .global g=>.pointer (some ⟨g,0,none⟩)
 | .func f=>.func (.func f) #[] #[]
def Br (b:Bool) (A B:Prop):Prop:=match b with|true=>A|false=>B
def Br.mk {b:Bool} {A B:Prop} (h:b=true->A) (h':b=false->B):Br b A B:=by
 cases b
 ·exact h' rfl
 ·exact h rfl
def Br.t {b:Bool} {A B:Prop} (a:b=true) (h:A):Br b A B:=by subst a;exact h
def Br.f {b:Bool} {A B:Prop} (a:b=false) (h:B):Br b A B:=by subst a;exact h
def Nz (b:Int) (A:Prop):Prop:=match decide (b=0) with|true=>False|false=>A
def Nz.mk {b:Int} {A:Prop} (a:b≠0) (h:A):Nz b A:=by unfold Nz;rw [qz a];exact h
def Nz.out {b:Int} {A:Prop} (h:Nz b A):b≠0/\A:=by
 unfold Nz at h;split at h
 ·exact h.elim
 ·rename_i a;exact ⟨qQ a,h⟩
def ZaH (op:BinOp) (k:IntKind) (x y:Int):Int:=
 let a:=BitVec.ofInt k.bits x
 let b:=BitVec.ofInt k.bits y
 k.wrap (match op with| .and=>(a &&& b).toNat| .or=>(a|||b).toNat| .xor=>(a ^^^ b).toNat|_=>(a &&& ~~~b).toNat:Nat)
def Zqj (k:IntKind) (x y:Int):Int:=k.wrap (x * 2 ^ min y.toNat k.bits)
def Zbl (k:IntKind) (x y:Int):Int:=x.fdiv (2 ^ min y.toNat k.bits)
def Ge0 (y:Int) (A:Prop):Prop:=match decide (y<0) with|true=>False|false=>A
def Ge0.mk {y:Int} {A:Prop} (a:0<=y) (h:A):Ge0 y A:=by unfold Ge0;rw [qz (by omega)];exact h
def ariF (op:BinOp) (k:IntKind) (a b:Int) (K:Value->Prop):Prop:=
 match op with
 | .add=>K (.int k (k.wrap (a + b)))
 | .sub=>K (.int k (k.wrap (a - b)))
 | .mul=>K (.int k (k.wrap (a * b)))
 | .quo=>Nz b (K (.int k (k.wrap (a.tdiv b))))
 | .rem=>Nz b (K (.int k (a.tmod b)))
 | .and=>K (.int k (ZaH .and k a b))
 | .or=>K (.int k (ZaH .or k a b))
 | .xor=>K (.int k (ZaH .xor k a b))
 | .andNot=>K (.int k (ZaH .andNot k a b))
 | .eql=>K (.bool (a==b))
 | .neq=>K (.bool (a !=b))
 | .lss=>K (.bool (decide (a<b)))
 | .leq=>K (.bool (decide (a<=b)))
 | .gtr=>K (.bool (decide (a>b)))
 | .geq=>K (.bool (decide (a >= b)))
 |_=>False
def strF (op:BinOp) (a b:ByteArray) (K:Value->Prop):Prop:=
 match op with
 | .add=>((a.size + b.size:Nat):Int)<=IntKind.i64.max/\K (.string (a++b))
 | .eql=>K (.bool (a.toList==b.toList))
 | .neq=>K (.bool !(a.toList==b.toList))
 | .lss=>K (.bool (Op.bytesLess a.toList b.toList))
 | .leq=>K (.bool (Op.bytesLess a.toList b.toList||a.toList==b.toList))
 | .gtr=>K (.bool !(Op.bytesLess a.toList b.toList||a.toList==b.toList))
 | .geq=>K (.bool !(Op.bytesLess a.toList b.toList))
 |_=>False
def eqF (op:BinOp) (b:Bool) (K:Value->Prop):Prop:=
 match op with
 | .eql=>K (.bool b)
 | .neq=>K (.bool !b)
 |_=>False
def UK (P:Program) (T:TypeId):Nat:=
 match P.underlying T with
 |some (.int _)=>1
 |some .string=>2
 |some .bool=>3
 |some (.pointer _)=>4
 |some (.slice _)=>5
 |some (.map _ _)=>6
 |some (.func _ _ _)=>7
 |_=>0
def ZiB:BinOp->Bool| .shl| .shr=>true|_=>false
def Zqk (op:BinOp) (k:IntKind) (a y:Int) (K:Value->Prop):Prop:=
 Ge0 y (match op with
 | .shl=>K (.int k (Zqj k a y))
 |_=>K (.int k (Zbl k a y)))
def intF (op:BinOp) (x y:Value) (K:Value->Prop):Prop:=
 match x with
 | .int k a=>match y with
  | .int k' b=>(match ZiB op with
   |true=>Zqk op k a b K
   |false=>(match decide (k=k') with|true=>ariF op k a b K|false=>False))
  |_=>False
 |_=>False
def Zyd (P:Program) (op:BinOp) (T:TypeId) (x y:Value) (K:Value->Prop):Prop:=
 match UK P T with
 |1=>intF op x y K
 |2=>match x with
  | .string a=>match y with| .string b=>strF op a b K|_=>False
  |_=>False
 |3=>match x with
  | .bool a=>match y with| .bool b=>eqF op (a==b) K|_=>False
  |_=>False
 |4=>match x with
  | .pointer p=>match y with| .pointer none=>eqF op p.isNone K|_=>False
  |_=>False
 |5=>match x with
  | .slice a _ _=>match y with| .slice none _ _=>eqF op a.isNone K|_=>False
  |_=>False
 |6=>match x with
  | .map m=>match y with| .map none=>eqF op m.isNone K|_=>False
  |_=>False
 |7=>match y with
  | .nilFunc=>match x with| .nilFunc=>eqF op true K| .func _ _ _=>eqF op false K|_=>False
  |_=>False
 |_=>False
def U8 {P:Program} {T:TypeId} {x y:Value} {b:Bool} (h:∀ d w,(Op.equalIn (d + 1) T x y).run P w=.ok b w) (o:BinOp) {K:Value->Prop} (u z:Operand)
  (a:eqF o b K) (j:binOp .eql T x y=(do pure (.bool (<-Op.equal T x y)):Sem Value)) (i:binOp .neq T x y=(do pure (.bool (!(<-Op.equal T x y))):Sem Value))
  (g:∀ w,(eqGuard o T u z x y).run P w=.ok () w):
  ∃ v,(∀ w,(do eqGuard o T u z x y;binOp o T x y:Sem Value).run P w=.ok v w)/\K v:=by
 have h':∀ w,(Op.equal T x y).run P w=.ok b w:=h 9999;cases o<;>simp only [eqF] at a
 ·exact ⟨_,λ w=>by rw [Sem.run_bind,g w,j];simp [h'],a⟩
 ·exact ⟨_,λ w=>by rw [Sem.run_bind,g w,i];simp [h'],a⟩
def ZlE {P:Program} {o:BinOp} {T:TypeId} {x y:Value} {K:Value->Prop} (h:Zyd P o T x y K) (i u:Operand):
  ∃ v,(∀ w,(do eqGuard o T i u x y;binOp o T x y:Sem Value).run P w=.ok v w)/\K v:=by
 unfold Zyd at h;split at h
 ·-- integers
  unfold intF at h;split at h
  ·rename_i k a
   split at h
   ·rename_i k' b
    split at h
    ·rename_i hs
     unfold Zqk Ge0 at h;split at h
     ·exact h.elim
     ·rename_i j
      have j:=qQ j;have e:∀ s:Sem Value,(do eqGuard o T i u (.int k a) (.int k' b);s:Sem Value)=s:=λ s=>by
       unfold eqGuard;cases o<;>simp [ZiB] at hs<;>rfl
      cases o<;>simp only [ZiB,qy] at hs<;>simp only at h
      ·exact ⟨_,λ w=>by simp only [e,binOp,Op.shift,qc j];rfl,h⟩
      ·exact ⟨_,λ w=>by simp only [e,binOp,Op.shift,qc j];rfl,h⟩
    ·split at h
     ·rename_i hk
      have hk:=qF hk;subst hk;unfold ariF at h;cases o<;>simp only at h
      case add=>exact ⟨_,λ w=>by simp [eqGuard,binOp,Op.intArith],h⟩
      case sub=>exact ⟨_,λ w=>by simp [eqGuard,binOp,Op.intArith],h⟩
      case mul=>exact ⟨_,λ w=>by simp [eqGuard,binOp,Op.intArith],h⟩
      case quo=>obtain ⟨z,h⟩:=h.out;exact ⟨_,λ w=>by simp [eqGuard,binOp,Op.intDiv,z],h⟩
      case rem=>obtain ⟨z,h⟩:=h.out;exact ⟨_,λ w=>by simp [eqGuard,binOp,Op.intDiv,z],h⟩
      case and=>exact ⟨_,λ w=>by simp [eqGuard,binOp,Op.intBits,ZaH],h⟩
      case or=>exact ⟨_,λ w=>by simp [eqGuard,binOp,Op.intBits,ZaH],h⟩
      case xor=>exact ⟨_,λ w=>by simp [eqGuard,binOp,Op.intBits,ZaH],h⟩
      case andNot=>exact ⟨_,λ w=>by simp [eqGuard,binOp,Op.intBits,ZaH],h⟩
      case eql=>exact ⟨_,λ w=>by simp [eqGuard,binOp,Op.intCmp],h⟩
      case neq=>exact ⟨_,λ w=>by simp [eqGuard,binOp,Op.intCmp],h⟩
      case lss=>exact ⟨_,λ w=>by simp [eqGuard,binOp,Op.intCmp],h⟩
      case leq=>exact ⟨_,λ w=>by simp [eqGuard,binOp,Op.intCmp],h⟩
      case gtr=>exact ⟨_,λ w=>by simp [eqGuard,binOp,Op.intCmp],h⟩
      case geq=>exact ⟨_,λ w=>by simp [eqGuard,binOp,Op.intCmp],h⟩
     ·exact h.elim
   ·exact h.elim
  ·exact h.elim
 ·split at h
  ·split at h
   ·rename_i a _ b
    unfold strF at h;cases o<;>simp only at h
    case add=>
     obtain ⟨z,h⟩:=h;exact ⟨_,λ w=>by simp only [eqGuard,binOp,Op.stringOp];rw [qc (Int.not_lt.2 z)];simp,h⟩
    all_goals exact ⟨_,λ w=>by simp [eqGuard,binOp,Op.stringOp],h⟩
   ·exact h.elim
  ·exact h.elim
 ·rename_i hT
  have hT:P.underlying T=some .bool:=by
   unfold UK at hT;split at hT<;>first|assumption|simp at hT
  split at h
  ·split at h
   ·exact U8 (λ d w=>by simp [Op.equalIn,run_underlying hT]) o i u h rfl rfl (λ w=>by cases o<;>rfl)
   ·exact h.elim
  ·exact h.elim
 ·rename_i hT
  obtain ⟨e,hT⟩:∃ e,P.underlying T=some (.pointer e):=by
   unfold UK at hT;split at hT<;>first|exact ⟨_,by assumption⟩|simp at hT
  split at h
  ·split at h
   ·rename_i p _
    exact U8 (λ d w=>by cases p<;>simp [Op.equalIn,run_underlying hT]) o i u h (by cases p<;>rfl) (by cases p<;>rfl) (λ w=>by cases o<;>rfl)
   ·exact h.elim
  ·exact h.elim
 ·rename_i hT
  obtain ⟨e,hT⟩:∃ e,P.underlying T=some (.slice e):=by
   unfold UK at hT;split at hT<;>first|exact ⟨_,by assumption⟩|simp at hT
  split at h
  ·split at h
   ·rename_i a _ _ _ _ _
    exact U8 (λ d w=>by cases a<;>simp [Op.equalIn,run_underlying hT]) o i u h rfl rfl (λ w=>by cases o<;>rfl)
   ·exact h.elim
  ·exact h.elim
 ·rename_i hT
  obtain ⟨e,e',hT⟩:∃ e e',P.underlying T=some (.map e e'):=by
   unfold UK at hT;split at hT<;>first|exact ⟨_,_,by assumption⟩|simp at hT
  split at h
  ·split at h
   ·rename_i m _
    exact U8 (λ d w=>by cases m<;>simp [Op.equalIn,run_underlying hT]) o i u h rfl rfl (λ w=>by cases o<;>rfl)
   ·exact h.elim
  ·exact h.elim
 ·rename_i hT
  obtain ⟨e,e',g,hT⟩:∃ e e' g,P.underlying T=some (.func e e' g):=by
   unfold UK at hT;split at hT<;>first|exact ⟨_,_,_,by assumption⟩|simp at hT
  split at h
  ·split at h
   ·exact U8 (λ d w=>by simp [Op.equalIn,run_underlying hT]) o i u h rfl rfl (λ w=>by cases o<;>rfl)
   ·exact U8 (λ d w=>by simp [Op.equalIn,run_underlying hT]) o i u h rfl rfl (λ w=>by cases o<;>rfl)
   ·exact h.elim
  ·exact h.elim
 ·exact h.elim
def GG {α:Type} (P:Program):Sem α->Option α
 | .pure a=>some a
 | .program k=>GG P (k P)
 | .mark _ k=>GG P k
 |_=>none
def Zac {α:Type} {P:Program} {s:Sem α} {a:α} (h:GG P s=some a) (w:World):s.run P w=.ok a w:=by
 induction s with
 |pure b=>simp only [GG,qM] at h;subst h;rfl
 |program k ih=>exact ih P h
 |mark m k ih=>exact ih h
 |_=>simp [GG] at h
def Zd6 {α:Type} (P:Program):Sem α->Option (Obj × (Nat->Option α))
 | .program k=>Zd6 P (k P)
 | .mark _ k=>Zd6 P k
 | .new o k=>some (o,λ b=>GG P (k b))
 |_=>none
def Zg0 {α:Type} {P:Program} {s:Sem α} {o:Obj} {f:Nat->Option α} (h:Zd6 P s=some (o,f)) (w:World) {a:α} (d:f w.heap.size=some a):
  s.run P w=.ok a (w.alloc o):=by
 induction s with
 |program k ih=>exact ih P h
 |mark m k ih=>exact ih h
 |new o' k ih=>
  simp only [Zd6,qM,jY] at h;obtain ⟨rfl,rfl⟩:=h;exact Zac d _
 |_=>simp [Zd6] at h
def PR (P:Program) (s:Sem Next) (K:Value->Prop):Prop:=
 match GG P s with
 |some (.value v)=>K v
 |_=>False
def Zb9 (P:Program) (t:TypeId):Nat:=match P.info? t with|some i=>i.size|none=>0
def Zb (p:Option Addr) (K:Addr->Prop):Prop:=match p with|some a=>K a|none=>False
def Zb.mk {p:Option Addr} {a:Addr} {K:Addr->Prop} (d:p=some a) (h:K a):Zb p K:=by subst d;exact h
def ZuB (x:Value) (K:Value->Prop):Prop:=
 match x with
 | .pointer p=>Zb p λ a=>K (.pointer (some a))
 | .func (.func f) first captured=>K (.func (.func f) first captured)
 | .iface t v=>K (.iface t v)
 |_=>False
def YQ (i n:Nat):Nat:=match n with|1=>i|n=>i * n
def Za4 (i n:Nat):YQ i n=i * n:=by unfold YQ;split<;>simp
def Rng (i:Int) (n:Nat) (A:Prop):Prop:=match decide (0<=i/\i<(n:Int)) with|true=>A|false=>False
def Rng.mk {i:Int} {n:Nat} {A:Prop} (a:0<=i) (d:i<(n:Int)) (h:A):Rng i n A:=by unfold Rng;rw [qE ⟨a,d⟩];exact h
def Rng.out {i:Int} {n:Nat} {A:Prop} (h:Rng i n A):0<=i/\i<(n:Int)/\A:=by
 unfold Rng at h;split at h
 ·rename_i a;have:=qF a;exact ⟨this.1,this.2,h⟩
 ·exact h.elim
def Zb.out {p:Option Addr} {K:Addr->Prop} (h:Zb p K):∃ a,p=some a/\K a:=by
 unfold Zb at h;split at h
 ·exact ⟨_,rfl,h⟩
 ·exact h.elim
def idxA (base:Option Addr) (len:Nat) (i:Int) (size:Nat) (K:Value->Prop):Prop:=
 Rng i len (Zb base λ a=>K (.pointer (some (a.add (YQ i.toNat size)))))
def Zfm (P:Program) (T:TypeId) (x i:Value) (K:Value->Prop):Prop:=
 match i with
 | .int _ n=>match P.underlying T with
  |some (.slice e)=>(match x with| .slice a len _=>idxA a len n (Zb9 P e) K|_=>False)
  |some (.array len e)=>(match x with| .pointer p=>idxA p len n (Zb9 P e) K|_=>False)
  |_=>False
 |_=>False
def Zed (P:Program) (t:TypeId):Bool:=match P.underlying t with|some (.struct _)|some (.array _ _)=>true|_=>false
def Zx1 (P:Program) (T:TypeId) (x i:Value) (K:Value->Prop):Prop:=
 match i with
 | .int _ n=>match P.underlying T with
  |some .string=>(match x with| .string s=>∃ c:UInt8,0<=n/\s[n.toNat]? =some c/\K (.int .u8 c.toNat)|_=>False)
  |some (.array len e)=>(match x with
   | .agg cs=>Rng n len (match Zed P e with
    |true=>K (.agg (cs.extract (YQ n.toNat (Zb9 P e)) (YQ n.toNat (Zb9 P e) + Zb9 P e)))
    |false=>(ZwE P e).ex λ v=>cs[YQ n.toNat (Zb9 P e)]? =some v/\K v)
   |_=>False)
  |_=>False
 |_=>False
def bnd (x:Option Value) (d y:Nat) (φ:Nat->Prop):Prop:=
 match x with
 |none=>φ d
 |some v=>match v with| .int _ i=>0<=i/\i<=(y:Int)/\φ i.toNat|_=>False
def X4 (a:Option Addr) (l m size:Nat):Option Addr:=if m=l then a else a.map (·.add (l * size))
def Zmk (P:Program) (T:TypeId) (x:Value) (lo hi mx:Option Value) (K:Value->Prop):Prop:=
 match P.underlying T with
 |some .string=>(match x with
  | .string s=>(match mx with
   |some _=>False
   |none=>bnd hi s.size s.size λ h=>bnd lo 0 h λ l=>K (.string (s.extract l h)))
  |_=>False)
 |some (.slice e)=>(match x with
  | .slice a n c=>bnd mx c c λ m=>(match hi,mx with
   |none,some _=>False
   |_,_=>bnd hi n m λ h=>(match lo with
    |none=>K (.slice a h m)
    |some v=>bnd (some v) 0 h λ l=>K (.slice (X4 a l m (Zb9 P e)) (h - l) (m - l))))
  |_=>False)
 |some (.array n e)=>(match x with
  | .pointer p=>∃ a:Addr,p=some a/\bnd mx n n λ m=>(match hi,mx with
   |none,some _=>False
   |_,_=>bnd hi n m λ h=>(match lo with
    |none=>K (.slice (some a) h m)
    |some v=>bnd (some v) 0 h λ l=>K (.slice (X4 (some a) l m (Zb9 P e)) (h - l) (m - l))))
  |_=>False)
 |_=>False
def Zad (P:Program) (op:Op):Nat:=
 match op with
 | .move _| .assign _| .pick _ _ _| .field _ _ _| .build _ _| .extract _ _| .makeFunc _ _ _| .makeInterface _ _| .unOp _ _ _=>1
 | .convert src dst _=>(match P.underlying dst with|some (.int _)=>(match P.underlying src with|some (.float _)=>0|_=>1)|_=>0)
 | .call c=>(match c.callee with
  | .builtin .len| .builtin .cap=>(match c.argTypes[0]? with
   |some t=>(match P.underlying t with|some (.map _ _)|some (.chan _ _)=>0|_=>1)
   |none=>0)
  | .builtin .min| .builtin .max=>1
  |_=>0)
 | .binOp _ T _ _ _=>(match UK P T with|0=>0|_=>2)
 | .nilCheck _=>3
 | .indexAddr _ _ _=>4
 | .index _ _ _=>5
 | .slice _ _ _ _ _=>6
 | .fieldAddr _ _ _=>7
 |_=>0
def ZjY (P:Program) (T:TypeId) (x:Value) (i:Nat) (K:Value->Prop):Prop:=
 match x with
 | .pointer p=>Zb p λ a=>PR P (do pure (.value (<-Instr.fieldAt T (.pointer (some a)) i))) K
 |_=>False
def ZmZ (P:Program) (ρ:Env) (o:Oper) (K:Value->Prop):Prop:=
 match Zad P o.op with
 |1=>PR P (execOp ρ.ev o) K
 |_=>match o.op with
  | .binOp op T x y _=>Zyd P op T (ρ.ev x) (ρ.ev y) K
  | .nilCheck x=>ZuB (ρ.ev x) K
  | .indexAddr T x i=>Zfm P T (ρ.ev x) (ρ.ev i) K
  | .index T x i=>Zx1 P T (ρ.ev x) (ρ.ev i) K
  | .slice T x lo hi mx=>Zmk P T (ρ.ev x) (lo.map ρ.ev) (hi.map ρ.ev) (mx.map ρ.ev) K
  | .fieldAddr T x i=>ZjY P T (ρ.ev x) i K
  |_=>False
def Vs (P:Program) (S:World->Prop) (s:Sem Next) (K:Value->Prop):Prop:=∃ v,(∀ w,S w->s.run P w=.ok (.value v) w)/\K v
def Zch {P:Program} {t:TypeId} {i:TypeInfo} (h:P.info? t=some i) (w:World):(typeInfo t).run P w=.ok i w:=by
 simp [typeInfo,h]
def YV {P:Program} {s:Sem Value} {v:Value} {w w':World} (h:s.run P w=.ok v w'):(do pure (.value (<-s)):Sem Next).run P w=.ok (.value v) w':=by
 simp [h]
def Zi9 {P:Program} {ρ:Operand->Value} {dst:Option Tmp} {ty:TypeId} {pos:String} {after:Array Edge} {guard:Option (Nat × Bool)} {x:Operand} {K:Value->Prop} (h:ZuB (ρ x) K):
  Vs P (λ _=>True) (execOp ρ ⟨dst,.nilCheck x,ty,pos,after,guard⟩) K:=by
 unfold ZuB at h;split at h
 ·rename_i a
  unfold Zb at h;split at h
  ·exact ⟨_,λ w _=>by simp only [execOp,a];rfl,h⟩
  ·exact h.elim
 ·rename_i a;exact ⟨_,λ w _=>by simp only [execOp,a];rfl,h⟩
 ·rename_i a;exact ⟨_,λ w _=>by simp only [execOp,a];rfl,h⟩
 ·exact h.elim
def dig (n:Nat):List Int:=if h:n=0 then [] else dig (n / 256)++[((n % 256:Nat):Int)]
termination_by n
decreasing_by omega
def Wh:dig 0=[]:=by unfold dig;simp
def Uj {n:Nat} (h:n≠0):dig n=dig (n / 256)++[((n % 256:Nat):Int)]:=by
 conv=>lhs;unfold dig
 rw [dif_neg h]
def Zdk (acc:Int) (l:List Int):Int:=l.foldl (λ a b=>a * 256 + b) acc
def Zf6 (acc b:Int) (l:List Int):Zdk acc (b::l)=Zdk (acc * 256 + b) l:=rfl
def Zo9 (acc:Int) (a b:List Int):Zdk acc (a++b)=Zdk (Zdk acc a) b:=vM
def GU (acc:Int) (a:List Int) (b:Int):Zdk acc (a++[b])=Zdk acc a * 256 + b:=by rw [Zo9];rfl
def ZeF:∀ {l:List Int} {acc:Int},0<=acc->(∀ x∈l,0<=x/\x<256)->0<=Zdk acc l
 |[],_,h,_=>h
 |b::l,acc,h,a=>by
  rw [Zf6];have:=a b qq;exact ZeF (by omega) λ x d=>a x (qj _ d)
def ZeG:∀ {l:List Int} {acc:Int},0<=acc->(∀ x∈l,0<=x/\x<256)->Zdk acc l<(acc + 1) * 256 ^ l.length
 |[],acc,h,_=>by simp [Zdk];omega
 |b::l,acc,h,a=>by
  rw [Zf6];have o:=a b qq;have:=ZeG (l:=l) (acc:=acc * 256 + b) (by omega) λ x d=>a x (qj _ d);refine vI this ?_;rw [qr,Int.pow_succ,uT (256 ^ l.length) 256,<-zr];exact ua (by omega) (Int.le_of_lt (zg (by decide)))
def Zsc (n:Nat):Zdk 0 (dig n)=n:=by
 induction n using Nat.strongRecOn with
 |ind n ih=>
  by_cases h:n=0
  ·subst h;rw [Wh];rfl
  ·rw [Uj h,GU,ih (n / 256) (by omega)];omega
def Zvb (n:Nat):∀ x∈dig n,0<=x/\x<256:=by
 induction n using Nat.strongRecOn with
 |ind n ih=>
  by_cases h:n=0
  ·subst h;rw [Wh];intro x a;cases a
  ·rw [Uj h]
   intro x a;rcases qt.1 a with a|a
   ·exact ih (n / 256) (by omega) x a
   ·simp at a;omega
def Zp0 (n:Nat):∀ x l,dig n=x::l->x≠0:=by
 induction n using Nat.strongRecOn with
 |ind n ih=>
  intro x l a;by_cases h:n=0
  ·subst h;rw [Wh] at a;cases a
  ·rw [Uj h] at a
   by_cases d:n / 256=0
   ·rw [d,Wh] at a
    simp at a;omega
   ·cases hd:dig (n / 256) with
    |nil=>rw [Uj d] at hd;simp at hd
    |cons y l'=>
     rw [hd] at a;simp at a;obtain ⟨rfl,_⟩:=a;exact ih (n / 256) (by omega) _ _ hd
def Zeq:∀ (k n:Nat),n<256 ^ k->(dig n).length<=k
 |0,n,h=>by
  have:n=0:=by simpa using h
  subst this;rw [Wh];simp
 |k + 1,n,h=>by
  by_cases a:n=0
  ·subst a;rw [Wh];simp
  ·rw [Uj a,qb]
   have:=Zeq k (n / 256) (by rw [zx] at h;exact zh (by rwa [jX] at h));simp;omega
def Zaw {n:Nat} (h:n<18446744073709551616):(dig n).length<=8:=Zeq 8 n (by simpa using h)
def Zob (n:Nat) (h:n<18446744073709551616):(Lib.bitLen n + 7) / 8=(dig n).length:=by
 induction n using Nat.strongRecOn with
 |ind n ih=>
  by_cases a:n=0
  ·subst a;rw [Wh];decide
  ·rw [Uj a,qb]
   by_cases d:256<=n
   ·rw [Lib.bitLen_shift8 n d h,<-ih (n / 256) (by omega) (by omega)]
    simp;omega
   ·have e:n / 256=0:=by omega
    rw [e,Wh];have o:∀ m:Fin 256,m.val≠0->(Lib.bitLen m.val + 7) / 8=1:=by decide +kernel
    simpa using o ⟨n,by omega⟩ a
def Zj1:∀ (k n:Nat),k<=(dig n).length->(dig n).take ((dig n).length - k)=dig (n / 256 ^ k)
 |0,n,_=>by simp
 |k + 1,n,h=>by
  by_cases a:n=0
  ·subst a;rw [Wh] at h;simp at h
  ·rw [Uj a] at h ⊢
   rw [qb] at h ⊢;simp only [qr,qN] at h ⊢;have e:(dig (n / 256)).length + (0 + 1) - (k + 1)=(dig (n / 256)).length - k:=by omega
   rw [e,uf (by omega),Zj1 k (n / 256) (by omega),Nat.div_div_eq_div_mul,zx,jX 256]
def Zsd {n k:Nat} (h:k<(dig n).length):(dig n)[(dig n).length - 1 - k]'(by omega)=((n / 256 ^ k % 256:Nat):Int):=by
 have d:=Zj1 k n (by omega);have o:n / 256 ^ k≠0:=by
  intro i;rw [i,Wh] at d;have:=qH List.length d;simp at this;omega
 rw [Uj o] at d;have a:((dig n).take ((dig n).length - k)).getLast? =some ((n / 256 ^ k % 256:Nat):Int):=by rw [d];simp
 rw [List.getLast?_eq_getElem?,qd,q7 (by omega),List.getElem?_take] at a;split at a
 ·rw [List.getElem?_eq_some_iff] at a
  obtain ⟨v,u⟩:=a;have e:(dig n).length - 1 - k=(dig n).length - k - 1:=by omega
  simp only [e];exact u
 ·cases a
def GS (n:Nat):List Int:=((dig n).length:Int)::dig n
def XI (b:List Int):List Int:=GS b.length++b
def Zip {n:Nat} (h:n<18446744073709551616):∀ x∈GS n,0<=x/\x<256:=by
 intro x a;rcases qk.1 a with rfl|a
 ·have:=Zaw h;omega
 ·exact Zvb n x a
def YS {n:Nat} (h:n<18446744073709551616):(GS n).length<=9:=by
 have:=Zaw h;unfold GS;simp;omega
def Xr (l:List Int):Option (Int × Bool × Nat):=
 match l with
 |[]=>none
 |k::rest=>
  let neg:=decide (16<=k)
  let w:=(if 16<=k then k - 16 else k).toNat
  if k<32/\w<=8/\w<=rest.length/\(w=0->k=0)/\(w≠0->rest.head?≠some 0) then some (Zdk 0 (rest.take w),neg,w + 1) else none
def ZgV {n:Nat} (h:n<18446744073709551616) (rest:List Int):Xr (GS n++rest)=some ((n:Int),false,(GS n).length):=by
 have d:=Zaw h;unfold Xr GS;simp only [qU];have e1:¬ (16:Int)<=((dig n).length:Int):=by omega
 rw [qc e1];rw [qf]
 ·simp only [qo,j7,Zsc,qr,qM,jY,vv,zi]
  simpa using e1
 ·refine ⟨by omega,by omega,by simp,λ a=>by omega,λ a=>?_⟩
  simp only [qo] at a;cases hd:dig n with
  |nil=>rw [hd] at a;simp at a
  |cons x l=>
   have:=Zp0 n x l hd;simp;exact this
def UZ {l:List Int} {n:Int} {d:Bool} {k:Nat} (o:∀ x∈l,0<=x/\x<256) (h:Xr l=some (n,d,k)):0<=n/\n<18446744073709551616/\1<=k/\k<=9/\k<=l.length:=by
 unfold Xr at h;split at h
 ·cases h
 ·rename_i c rest
  simp only at h;generalize g:(if 16<=c then c - 16 else c).toNat=w at h
  split at h
  ·rename_i i
   obtain ⟨_,u,v,_,_⟩:=i;simp only [qM,jY] at h;obtain ⟨rfl,_,rfl⟩:=h;have a:∀ x∈rest.take w,0<=x/\x<256:=λ x y=>o x (qj _ (qw y));refine ⟨ZeF (qG _) a,?_,by omega,by omega,by simp;omega⟩;refine vI (ZeG (qG _) a) ?_;rw [qd,q7 v,Int.zero_add,zQ];have z:256 ^ w<=256 ^ 8:=jm (by omega) u;have:((256 ^ w:Nat):Int)<=((256 ^ 8:Nat):Int):=zy.2 z;rw [vl] at this;exact uu this (by decide)
  ·cases h
structure Rd where
 bs:List Int
 bad:Bool
def Zh (most:Int) (r:Rd):Int × Rd:=
 if r.bad then (0,r) else match Xr r.bs with
 |some (n,neg,k)=>if neg=false/\n<=most then (n,⟨r.bs.drop k,false⟩) else (0,⟨r.bs,true⟩)
 |none=>(0,⟨r.bs,true⟩)
def Yn (most:Int) (r:Rd):List Int × Rd:=
 if r.bad then ([],r) else match Xr r.bs with
 |some (n,neg,k)=>if neg=false/\0<=most/\n<=most/\n<=((r.bs.length:Int) - k) then (((r.bs.drop k).take n.toNat),⟨r.bs.drop (k + n.toNat),false⟩) else ([],⟨r.bs,true⟩)
 |none=>([],⟨r.bs,true⟩)
def Xw (r:Rd):Bool:=!r.bad && decide (r.bs.length=0)
section
variable {P:Program} {ρ:Operand->Value} {dst:Option Tmp} {ty:TypeId} {pos:String} {after:Array Edge} {guard:Option (Nat × Bool)} {K:Value->Prop}
def Zam {P:Program} {t:TypeId} {d:TypeDesc} (h:P.underlying t=some d) (w:World):(isAgg t).run P w=.ok (Zed P t) w:=by
 unfold Zed;rw [h];simp only [isAgg,Sem.run_bind,run_underlying h,Result.andThen_ok];cases d<;>rfl
def XA {P:Program} {t:TypeId} {i:TypeInfo} (h:P.info? t=some i) (w:World):(sizeOf t).run P w=.ok (Zb9 P t) w:=by
 unfold Zb9;simp [sizeOf,Zch h,h]
def Zji {P:Program} {t:TypeId} (h:Zb9 P t≠0):∃ i,P.info? t=some i:=by
 unfold Zb9 at h;split at h
 ·exact ⟨_,by assumption⟩
 ·exact absurd rfl h
def Zhv (P:Program) (T:TypeId):Bool:=
 match P.underlying T with
 |some (.slice e)|some (.array _ e)=>(P.info? e).isSome
 |_=>true
def Zdx {T:TypeId} {x i:Operand} (d:Zhv P T=true) (h:Zfm P T (ρ x) (ρ i) K):
  Vs P (λ _=>True) (execOp ρ ⟨dst,.indexAddr T x i,ty,pos,after,guard⟩) K:=by
 unfold Zfm at h;unfold Zhv at d;split at h
 case h_2=>exact h.elim
 rename_i k n hi;split at h
 ·rename_i e hT
  rw [hT] at d;obtain ⟨z,o⟩:=qS.1 d;split at h
  ·rename_i a len c u
   obtain ⟨v,y,h⟩:=Rng.out h;obtain ⟨g,rfl,h⟩:=Zb.out h;refine ⟨_,λ w _=>?_,h⟩;simp only [execOp,u,hi];refine YV ?_;simp [Instr.indexAt,asIntOf,run_underlying hT,v,y,XA o,Za4]
  ·exact h.elim
 ·rename_i len e hT
  rw [hT] at d;obtain ⟨z,o⟩:=qS.1 d;split at h
  ·rename_i p u
   obtain ⟨v,y,h⟩:=Rng.out h;obtain ⟨g,rfl,h⟩:=Zb.out h;refine ⟨_,λ w _=>?_,h⟩;simp only [execOp,u,hi];refine YV ?_;simp [Instr.indexAt,Instr.sureAddr,asIntOf,run_underlying hT,v,y,XA o,Za4]
  ·exact h.elim
 ·exact h.elim
def Zm4 (P:Program) (T:TypeId):Bool:=
 match P.underlying T with
 |some (.slice e)|some (.array _ e)=>(P.info? e).isSome && (P.underlying e).isSome
 |_=>true
def Zlm {T:TypeId} {x i:Operand} (a:Zm4 P T=true) (h:Zx1 P T (ρ x) (ρ i) K):
  Vs P (λ _=>True) (execOp ρ ⟨dst,.index T x i,ty,pos,after,guard⟩) K:=by
 unfold Zx1 at h;unfold Zm4 at a;split at h
 case h_2=>exact h.elim
 rename_i k n hi;split at h
 ·rename_i hT
  split at h
  ·rename_i s y
   obtain ⟨c,z,l,h⟩:=h;refine ⟨_,λ w _=>?_,h⟩;simp only [execOp,y,hi];refine YV ?_;simp [Instr.index,asIntOf,run_underlying hT,z,l]
  ·exact h.elim
 ·rename_i len e hT
  rw [hT] at a;simp only [ql] at a;obtain ⟨m,o⟩:=qS.1 a.1;obtain ⟨p,u⟩:=qS.1 a.2;split at h
  ·rename_i cs y
   obtain ⟨z,g,h⟩:=Rng.out h;split at h
   ·rename_i d
    refine ⟨_,λ w _=>?_,h⟩;simp only [execOp,y,hi];refine YV ?_;simp [Instr.index,asIntOf,run_underlying hT,z,g,XA o,part,Zam u,d,Za4]
   ·rename_i d
    obtain ⟨v,j,h⟩:=Ty.ex_some h;refine ⟨_,λ w _=>?_,h⟩;simp only [execOp,y,hi];refine YV ?_;rw [Za4] at j;simp [Instr.index,asIntOf,run_underlying hT,z,g,XA o,part,Zam u,d,j]
  ·exact h.elim
 ·exact h.elim
def Gf {v:Value} {d y:Nat} {φ:Nat->Prop} {code:BoundsCode} (h:bnd (some v) d y φ):∃ l,(∀ w,(Instr.sliceBound v y code).run P w=.ok l w)/\φ l:=by
 unfold bnd at h;split at h
 ·rename_i a;cases a
 ·rename_i a
  cases a;split at h
  ·obtain ⟨o,i,h⟩:=h
   exact ⟨_,λ w=>by simp [Instr.sliceBound,asIntOf,o,i],h⟩
  ·exact h.elim
def UJ {isS:Bool} {len cap:Nat} {lo hi mx:Option Value} {φ:Nat->Nat->Nat->Prop}
  (h:bnd mx cap cap λ m=>(match hi,mx with
   |none,some _=>False
   |_,_=>bnd hi len m λ h=>bnd lo 0 h λ l=>φ l h m)):
  ∃ l h m,(∀ w,(Instr.sliceBounds isS len cap lo hi mx).run P w=.ok (l,h,m) w)/\φ l h m:=by
 cases mx with
 |none=>
  cases hi with
  |none=>
   cases lo with
   |none=>exact ⟨0,len,cap,λ w=>by simp [Instr.sliceBounds],h⟩
   |some u=>
    obtain ⟨l,a,h⟩:=Gf (P:=P) (code:=.sliceB) (φ:=λ l=>φ l len cap) (d:=0) (y:=len) (v:=u) h;exact ⟨l,len,cap,λ w=>by simp [Instr.sliceBounds,a],h⟩
  |some v=>
   obtain ⟨h',o,h⟩:=Gf (P:=P) (code:=if isS then .sliceAcap else .sliceAlen) (φ:=λ h=>bnd lo 0 h λ l=>φ l h cap) (d:=len) (y:=cap) (v:=v) h
   cases lo with
   |none=>exact ⟨0,h',cap,λ w=>by simp [Instr.sliceBounds,o],h⟩
   |some u=>
    obtain ⟨l,a,h⟩:=Gf (P:=P) (code:=.sliceB) (φ:=λ l=>φ l h' cap) (d:=0) (y:=h') (v:=u) h;exact ⟨l,h',cap,λ w=>by simp [Instr.sliceBounds,o,a],h⟩
 |some x=>
  obtain ⟨m,i,h⟩:=Gf (P:=P) (code:=if isS then .slice3Acap else .slice3Alen) h
  cases hi with
  |none=>exact h.elim
  |some v=>
   obtain ⟨h',o,h⟩:=Gf (P:=P) (code:=.slice3B) (φ:=λ h=>bnd lo 0 h λ l=>φ l h m) (d:=len) (y:=m) (v:=v) h;cases lo with
   |none=>exact ⟨0,h',m,λ w=>by simp [Instr.sliceBounds,i,o],h⟩
   |some u=>
    obtain ⟨l,a,h⟩:=Gf (P:=P) (code:=.slice3C) (φ:=λ l=>φ l h' m) (d:=0) (y:=h') (v:=u) h;exact ⟨l,h',m,λ w=>by simp [Instr.sliceBounds,i,o,a],h⟩
def VZ (a:Option Addr) (m size:Nat):X4 a 0 m size=a:=by
 unfold X4;split
 ·rfl
 ·cases a<;>simp [Addr.add]
def Zgi {T:TypeId} {x:Operand} {lo hi mx:Option Operand} (o:Zhv P T=true)
  (h:Zmk P T (ρ x) (lo.map ρ) (hi.map ρ) (mx.map ρ) K):
  Vs P (λ _=>True) (execOp ρ ⟨dst,.slice T x lo hi mx,ty,pos,after,guard⟩) K:=by
 unfold Zmk at h;unfold Zhv at o;split at h
 ·rename_i hT
  split at h
  ·rename_i s y
   split at h
   ·exact h.elim
   ·rename_i g
    obtain ⟨l,h',m,z,h⟩:=UJ (P:=P) (isS:=false) (len:=s.size) (cap:=s.size) (lo:=lo.map ρ) (hi:=hi.map ρ) (mx:=none) (φ:=λ l h _=>K (.string (s.extract l h))) (by
     revert h
     generalize hi.map ρ=d;intro h;cases d with
     |none=>exact h
     |some v=>exact h)
    refine ⟨_,λ w _=>?_,h⟩;simp only [execOp,y,g];refine YV ?_;simp [Instr.sliceAt,Instr.slice,run_underlying hT,z]
  ·exact h.elim
 ·rename_i e hT
  rw [hT] at o;obtain ⟨k,i⟩:=qS.1 o;split at h
  ·rename_i a n c y
   obtain ⟨l,h',m,z,h⟩:=UJ (P:=P) (isS:=true) (len:=n) (cap:=c) (lo:=lo.map ρ) (hi:=hi.map ρ) (mx:=mx.map ρ) (φ:=λ l h m=>K (.slice (X4 a l m (Zb9 P e)) (h - l) (m - l))) (by
    revert h
    generalize hi.map ρ=d;generalize mx.map ρ=mx';generalize lo.map ρ=lo';intro h;cases lo' with
    |some v=>exact h
    |none=>
     cases mx' with
     |none=>cases d with
      |none=>simpa [bnd,VZ] using h
      |some v=>simpa [bnd,VZ] using h
     |some u=>cases d with
      |none=>simpa [bnd] using h
      |some v=>simpa [bnd,VZ] using h)
   refine ⟨_,λ w _=>?_,h⟩;simp only [execOp,y];refine YV ?_;simp [Instr.sliceAt,Instr.slice,run_underlying hT,z,XA i,X4]
  ·exact h.elim
 ·rename_i n e hT
  rw [hT] at o;obtain ⟨k,i⟩:=qS.1 o;split at h
  ·rename_i p y
   obtain ⟨a,rfl,h⟩:=h;obtain ⟨l,h',m,z,h⟩:=UJ (P:=P) (isS:=false) (len:=n) (cap:=n) (lo:=lo.map ρ) (hi:=hi.map ρ) (mx:=mx.map ρ) (φ:=λ l h m=>K (.slice (X4 (some a) l m (Zb9 P e)) (h - l) (m - l))) (by
    revert h
    generalize hi.map ρ=d;generalize mx.map ρ=mx';generalize lo.map ρ=lo';intro h;cases lo' with
    |some v=>exact h
    |none=>
     cases mx' with
     |none=>cases d with
      |none=>simpa [bnd,VZ] using h
      |some v=>simpa [bnd,VZ] using h
     |some u=>cases d with
      |none=>simpa [bnd] using h
      |some v=>simpa [bnd,VZ] using h)
   refine ⟨_,λ w _=>?_,h⟩;simp only [execOp,y];refine YV ?_;have q:(if m=l then some a else some (a.add (l * Zb9 P e)))=X4 (some a) l m (Zb9 P e):=by unfold X4;split<;>rfl
   have j:some (if m=l then a else a.add (l * Zb9 P e))=X4 (some a) l m (Zb9 P e):=by unfold X4;split<;>rfl
   simp [Instr.sliceAt,Instr.sureAddr,run_underlying hT,z,XA i,j]
  ·exact h.elim
 ·exact h.elim
def Zq8 (P:Program) (op:Op):Bool:=
 match op with
 | .indexAddr T _ _| .slice T _ _ _ _=>Zhv P T
 | .index T _ _=>Zm4 P T
 |_=>true
def Zki {s:Sem Next} (h:PR P s K):Vs P (λ _=>True) s K:=by
 unfold PR at h;split at h
 ·rename_i v a;exact ⟨v,λ w _=>Zac a w,h⟩
 ·exact h.elim
def GH {e:Env} {o:Oper} (d:Zq8 P o.op=true) (h:ZmZ P e o K):Vs P (λ _=>True) (execOp e.ev o) K:=by
 unfold ZmZ at h;split at h
 ·exact Zki h
 ·obtain ⟨dst,z,ty,pos,after,guard⟩:=o
  cases z<;>simp only at h d<;>first|exact h.elim|skip
  case binOp z T x y T'=>
   obtain ⟨v,u,hK⟩:=ZlE h _ _;exact ⟨v,λ w _=>YV (u w),hK⟩
  case nilCheck x=>exact Zi9 h
  case indexAddr T x i=>exact Zdx d h
  case index T x i=>exact Zlm d h
  case slice T x lo hi mx=>exact Zgi d h
  case fieldAddr T x i=>
   unfold ZjY at h;split at h
   ·rename_i p g
    obtain ⟨a,rfl,h⟩:=Zb.out h;obtain ⟨v,u,hK⟩:=Zki h;exact ⟨v,λ w _=>by simp only [execOp,g];exact u w trivial,hK⟩
   ·exact h.elim
end
def At (S:World->Prop) (p:Addr) (vs:List Value):Prop:=∀ w,S w->∀ i v,vs[i]? =some v->w.cell? (p.add i)=some v
def Zdw (P:Program) (S:World->Prop) (T:TypeId) (x:Value) (K:Value->Prop):Prop:=
 match x with
 | .pointer q=>Zb q λ p=>(match Zed P T with
   |true=>(match Zu7 P 6 T with
    |some ts=>ZiQ ts λ vs=>At S p vs/\K (.agg vs.toArray)
    |none=>∃ vs:List Value,vs.length=Zb9 P T/\At S p vs/\K (.agg vs.toArray))
   |false=>(ZwE P T).ex λ v=>At S p [v]/\K v)
 |_=>False
def Giv (P:Program) (S:World->Prop) (s:Sem Value) (t:Rt) (K:Value->Prop):Prop:=
 t.ex λ v=>(∀ w,S w->s.run P w=.ok v w)/\K v
def UV (P:Program) (op:Op):Nat:=
 match op with
 | .load _ _=>1
 | .lookup _ _ _ _=>2
 | .entry _=>2
 | .typeAssert _ _ _ _=>2
 | .binOp _ T _ _ _=>(match UK P T with|0=>2|_=>0)
 | .convert src dst _=>(match P.underlying dst with|some .string=>(match P.underlying src with|some (.slice _)=>2|some .string=>2|_=>0)|some (.int _)=>(match P.underlying src with|some (.float _)=>2|_=>0)|_=>0)
 | .call c=>(match c.callee with
  | .builtin .len=>(match c.argTypes[0]? with
   |some t=>(match P.underlying t with|some (.map _ _)=>2|_=>0)
   |none=>0)
  |_=>0)
 |_=>0
def ZlX (ρ:Operand->Value) (o:Oper):Sem Value:=
 match o.op with
 | .lookup T x i ok=>Instr.lookup T (ρ x) (ρ i) ok
 | .entry it=>Instr.entry (ρ it)
 | .typeAssert x T T' ok=>Instr.typeAssert (ρ x) T T' ok
 | .binOp op T x y _=>(do eqGuard op T x y (ρ x) (ρ y);binOp op T (ρ x) (ρ y))
 | .convert src dst x=>convert src dst (ρ x)
 | .makeSlice T l c=>Instr.makeSlice T (ρ l) (ρ c)
 | .mapEntry T m k=>Instr.mapEntry T (ρ m) (ρ k)
 | .range T x=>Instr.range T (ρ x)
 | .next it isString=>Instr.next (ρ it) isString o.type
 | .call c=>(match c.callee with
  | .builtin .append=>Builtin.append_ c.argTypes o.type (c.args.map ρ)
  | .builtin .copy=>Builtin.copy_ c.argTypes o.type (c.args.map ρ)
  | .builtin .delete=>Builtin.delete_ c.argTypes o.type (c.args.map ρ)
  | .builtin .clear=>Builtin.clear_ c.argTypes o.type (c.args.map ρ)
  | .builtin .len=>Builtin.len_ c.argTypes o.type (c.args.map ρ)
  | _ => stuck "")
 | _ => stuck ""
def Zq3 (op:Op):Bool:=
 match op with
 | .lookup _ _ _ _| .entry _| .typeAssert _ _ _ _| .binOp _ _ _ _ _| .convert _ _ _| .makeSlice _ _ _| .mapEntry _ _ _| .range _ _| .next _ _=>true
 | .call c=>(match c.callee with
  | .builtin .append| .builtin .copy| .builtin .delete| .builtin .clear| .builtin .len=>true
  |_=>false)
 |_=>false
def W0 {P:Program} {ρ:Operand->Value} {o:Oper} (h:Zq3 o.op=true) {v:Value} {w w':World} (d:(ZlX ρ o).run P w=.ok v w'):
  (execOp ρ o).run P w=.ok (.value v) w':=by
 obtain ⟨dst,i,ty,pos,after,guard⟩:=o;cases i<;>simp only [Zq3,qy] at h
 case call c=>
  obtain ⟨a,args,u⟩:=c;cases a<;>simp only [qy] at h
  case builtin b=>
   cases b<;>simp only [qy] at h<;>exact YV (s:=_) d
 all_goals exact YV (s:=_) d
def ZmL (P:Program) (S:World->Prop) (ρ:Env) (o:Oper) (K:Value->Prop):Prop:=
 match UV P o.op with
 |1=>(match o.op with| .load T x=>Zdw P S T (ρ.ev x) K|_=>False)
 |_=>Giv P S (ZlX ρ.ev o) (ZuC P o.type) K
def Zhr:∀ {ts:List Ty} {φ:List Value->Prop},ZiQ ts φ->∃ vs,vs.length=ts.length/\φ vs
 |[],_,h=>⟨[],rfl,h⟩
 |_::_,_,h=>let ⟨v,h⟩:=Ty.ex_some h;let ⟨vs,hl,h⟩:=Zhr h;⟨v::vs,by simp [hl],h⟩
def Znx (P:Program) (T:TypeId):Bool:=
 (P.info? T).isSome && (P.underlying T).isSome && (match Zed P T with
 |true=>(match Zu7 P 6 T with
  |some ts=>Nat.beq ts.length (Zb9 P T)
  |none=>true)
 |false=>true)
def Zfb {P:Program} {p:Addr} {vs:List Value} {w:World} (h:∀ i v,vs[i]? =some v->w.cell? (p.add i)=some v):
  (loadCells p vs.length).run P w=.ok vs.toArray w:=by
 have:=run_loadCells_list (P:=P) (w:=w) p vs h;simpa using this
def ZcN {P:Program} {S:World->Prop} {ρ:Operand->Value} {dst:Option Tmp} {ty:TypeId} {pos:String} {after:Array Edge} {guard:Option (Nat × Bool)} {K:Value->Prop}
  {T:TypeId} {x:Operand} (a:Znx P T=true) (h:Zdw P S T (ρ x) K):Vs P S (execOp ρ ⟨dst,.load T x,ty,pos,after,guard⟩) K:=by
 unfold Zdw at h;unfold Znx at a;simp only [ql] at a;obtain ⟨⟨y,z⟩,a⟩:=a;obtain ⟨d,hd⟩:=qS.1 z;obtain ⟨i,hi⟩:=qS.1 y;split at h
 case h_2=>exact h.elim
 rename_i q k;unfold Zb at h;split at h
 case h_2=>exact h.elim
 rename_i p;split at h
 ·rename_i u
  have key:∀ vs:List Value,vs.length=Zb9 P T->At S p vs->K (.agg vs.toArray)->Vs P S (execOp ρ ⟨dst,.load T x,ty,pos,after,guard⟩) K:=λ vs hl o hK=>by
   refine ⟨_,λ w g=>?_,hK⟩;simp only [execOp,k];refine YV ?_;simp only [Instr.loadAt,Instr.sureAddr,loadVar,Sem.run_bind,Sem.run_pure,Result.andThen_ok,Zam hd,u,vp,XA hi,<-hl,Zfb (o w g)]
  split at h
  ·rename_i ts j
   rw [u] at a;simp only [j] at a;obtain ⟨vs,hl,o,hK⟩:=Zhr h;exact key vs (by rw [hl];exact qA a) o hK
  ·obtain ⟨vs,hl,o,hK⟩:=h
   exact key vs hl o hK
 ·rename_i u
  obtain ⟨v,o,hK⟩:=Ty.ex_some h;refine ⟨_,λ w g=>?_,hK⟩;have l:w.cell? p=some v:=by have:=o w g 0 v rfl;simpa [Addr.add] using this
  simp only [execOp,k];refine YV ?_;simp [Instr.loadAt,Instr.sureAddr,loadVar,Zam hd,u,l]
def Zu0 (P:Program) (op:Op):Bool:=match op with| .load T _=>Znx P T|_=>true
def GD {P:Program} {S:World->Prop} {e:Env} {o:Oper} {K:Value->Prop} (hk:UV P o.op≠0)
  (i:Zu0 P o.op=true) (h:ZmL P S e o K):Vs P S (execOp e.ev o) K:=by
 unfold ZmL at h;split at h
 ·rename_i d
  obtain ⟨dst,u,ty,pos,after,guard⟩:=o;cases u<;>simp only at h i<;>first|exact h.elim|skip
  exact ZcN i h
 ·rename_i d
  obtain ⟨v,y,hK⟩:=Rt.ex_some h;refine ⟨v,λ w z=>W0 ?_ (y w z),hK⟩;obtain ⟨dst,u,ty,pos,after,guard⟩:=o;cases u<;>simp only [UV,ne_eq,vN] at hk d<;>first|rfl|exact (d trivial).elim|skip
  case call c=>
   obtain ⟨a,args,g⟩:=c;cases a<;>simp only [vN] at hk
   case builtin b=>cases b<;>simp only [vN] at hk<;>rfl
def New (o:Obj) (K:Nat->World->Prop) (w:World):Prop:=K w.heap.size (w.alloc o)
def newF (P:Program) (s:Sem Next) (K:nK) (w:World):Prop:=
 match Zd6 P s with
 |some (o,f)=>New o (λ b w=>match f b with|some (.value v)=>K v w|_=>False) w
 |none=>False
def Zyf (P:Program) (s:Sem Value) (t:Rt) (K:nK) (w:World):Prop:=∃ w',t.ex λ v=>s.run P w=.ok v w'/\K v w'
def Zyg (P:Program) (s:Sem Unit) (K:World->Prop) (w:World):Prop:=∃ w',s.run P w=.ok () w'/\K w'
def Zqg (p:Option Addr) (A:Int->Int->World->Prop) (B:World->Prop) (w:World):Prop:=
 ∃ r s pos,p=some ⟨r,0,none⟩/\w.heap[r]? =some (.stringIter s pos)/\
  (pos<s.size->A (pos:Int) ((Utf8.decode s pos).1:Int) { w with heap:=w.heap.setIfInBounds r (.stringIter s (pos + (Utf8.decode s pos).2)) })/\(¬ pos<s.size->B w)
def ZmN (P:Program) (T:TypeId) (x:Value) (K:nK) (w:World):Prop:=
 match P.underlying T with
 |some .string=>(match x with| .string s=>New (.stringIter s 0) (λ b w=>K (.pointer (some ⟨b,0,none⟩)) w) w|_=>False)
 |some (.map _ _)=>Zyf P (Instr.range T x) (.val (.one .ptr)) K w
 |_=>False
def ZwA (P:Program) (s:Sem Value) (K:nK) (w:World):Prop:=
 ∃ w',(s.run P w=.ok (.tuple #[.bool false]) w'/\K (.tuple #[.bool false]) w')\/
  (∃ k v,s.run P w=.ok (.tuple #[.bool true,k,v]) w'/\K (.tuple #[.bool true,k,v]) w')
def Zja {P:Program} {s:Sem Value} {K:Value->World->Prop} {w:World} (h:ZwA P s K w):∃ v w',s.run P w=.ok v w'/\K v w':=by
 obtain ⟨w',h|⟨k,v,h⟩⟩:=h
 ·exact ⟨_,w',h.1,h.2⟩
 ·exact ⟨_,w',h.1,h.2⟩
def ZrE (x:Value) (K:nK) (w:World):Prop:=
 match x with
 | .pointer p=>Zqg p (λ i c w=>K (.tuple #[.bool true,.int .i64 i,.int .i32 c]) w) (λ w=>K (.tuple #[.bool false]) w) w
 |_=>False
def ZgL {P:Program} {T:TypeId} {x:Value} {K:Value->World->Prop} {w:World} (h:ZmN P T x K w):∃ v w',(Instr.range T x).run P w=.ok v w'/\K v w':=by
 unfold ZmN at h;split at h
 case h_3=>exact h.elim
 case h_2=>
  obtain ⟨w',h⟩:=h;obtain ⟨v,h⟩:=Rt.ex_some h;exact ⟨v,w',h⟩
 rename_i hT;split at h
 case h_2=>exact h.elim
 rename_i s;refine ⟨_,_,?_,h⟩;simp [Instr.range,run_underlying hT]
def Ziq {P:Program} {T:TypeId} {x:Value} {K:Value->World->Prop} {w:World} (h:ZrE x K w):∃ v w',(Instr.next x true T).run P w=.ok v w'/\K v w':=by
 unfold ZrE at h;split at h
 case h_2=>exact h.elim
 obtain ⟨r,s,pos,rfl,hk,d,o⟩:=h;by_cases a:pos<s.size
 ·refine ⟨_,_,?_,d a⟩
  simp only [Instr.next,getObj,setObj,Sem.run_bind,Sem.run,hk,Result.andThen,a,vp];simp [goInt]
 ·refine ⟨_,_,?_,o a⟩
  simp [Instr.next,getObj,Sem.run,hk,a]
def Ext (P:Program) (g:FuncId) (args:Array Value) (w:World) (Q:Ending->World->Prop):Prop:=∃ v w',(callFunc g args).run P w=.ok (.value v) w'/\Q (.returned v) w'
def XP (P:Program) (cl:FuncId->Bool) (f:Value) (args:List Value) (w:World) (Q:Ending->World->Prop):Prop:=
 match f with
 | .func fn first captured=>(match fn with
  | .func g=>(match cl g with
   |true=>Calls P g (first.toList++(args++captured.toList)).toArray w Q
   |false=>Ext P g (first.toList++(args++captured.toList)).toArray w Q)
  |_=>False)
 |_=>False
def XP.mono {P:Program} {cl:FuncId->Bool} {f:Value} {args:List Value} {w:World} {Q a:Ending->World->Prop} (h:XP P cl f args w Q) (d:∀ e w,Q e w->a e w):XP P cl f args w a:=by
 unfold XP at *;split at h
 ·split at h
  ·split at h
   ·exact Calls.mono h d
   ·obtain ⟨v,w',o,i⟩:=h;exact ⟨v,w',o,d _ _ i⟩
  ·exact h.elim
 ·exact h.elim
def calV (P:Program) (cl:FuncId->Bool) (f:Value) (args:Array Value) (t:Rt) (K:nK) (w:World):Prop:=
 XP P cl f args.toList w λ e w'=>t.ex λ v=>e=.returned v/\K v w'
def rawF (P:Program) (s:Sem Next) (K:nK) (w:World):Prop:=
 match s.run P w with
 | .ok (.value v) w'=>K v w'
 | .ok .skip w'=>K undef w'
 |_=>False
def ZfC (op:Op):Nat:=
 match op with
 | .alloc _| .box _ _| .buildSlice _ _ _| .makeMap _ _=>1
 | .makeSlice _ _ _| .mapEntry _ _ _| .convert _ _ _=>2
 | .range _ _=>7
 | .next _ s=>(match s with|true=>8|false=>9)
 | .store _ _ _=>3
 | .mapUpdate _ _ _ _| .insert _ _ _ _=>4
 | .entryStore _ _ _ _=>5
 | .call c=>(match c.callee with
  | .builtin .append| .builtin .copy| .builtin .delete| .builtin .clear=>2
  | .value _=>6
  |_=>0)
 |_=>0
def Zx4 (P:Program) (op:Op):Bool:=
 match op with
 | .buildSlice t len _=>(match Nat.beq len 1 with
  |true=>(match P.underlying t with
   |some (.slice e)=>(match P.underlying e with
    |some (.func _ _ _)=>true
    |_=>false)
   |_=>false)
  |false=>false)
 |_=>false
def rtME (P:Program) (o:Oper):Rt:=
 match o.op with
 | .mapEntry T _ _=>(match P.underlying T with
  |some (.map _ E)=>.tup [ZwD P E,.one (.int .i64)]
  |_=>ZuC P o.type)
 |_=>ZuC P o.type
def ZwK (P:Program) (cl:FuncId->Bool) (ρ:Env) (o:Oper) (K:nK) (w:World):Prop:=
 match ZfC o.op with
 |1=>(match Zx4 P o.op with
  |true=>(match o.op with| .buildSlice t len parts=>Zyf P (Instr.buildSlice t len (parts.map λ (i,x)=>(i,ρ.ev x))) (ZuC P o.type) K w|_=>False)
  |false=>newF P (execOp ρ.ev o) K w)
 |2=>Zyf P (ZlX ρ.ev o) (rtME P o) K w
 |3=>(match o.op with| .store T a x=>Zyg P (Instr.storeAt T (ρ.ev a) (ρ.ev x)) (K undef) w|_=>False)
 |4=>(match o.op with| .mapUpdate T m k x| .insert T m k x=>Zyg P (Instr.mapUpdate T (ρ.ev m) (ρ.ev k) (ρ.ev x)) (K undef) w|_=>False)
 |5=>(match o.op with| .entryStore T m s x=>Zyg P (Instr.entryStore T (ρ.ev m) (ρ.ev s) (ρ.ev x)) (K undef) w|_=>False)
 |6=>(match o.op with| .call c=>(match c.callee with| .value f=>calV P cl (ρ.ev f) (c.args.map ρ.ev) (ZuC P o.type) K w|_=>False)|_=>False)
 |7=>(match o.op with| .range T x=>ZmN P T (ρ.ev x) K w|_=>False)
 |8=>(match o.op with| .next it _=>ZrE (ρ.ev it) K w|_=>False)
 |9=>(match o.op with| .next it _=>ZwA P (Instr.next (ρ.ev it) false o.type) K w|_=>False)
 |_=>rawF P (execOp ρ.ev o) K w
def ZS (P:Program) (g:FuncId):Bool:=
 match P.funcs[g]? with
 | some fn => fn.body.isSome && !(fn.name == "runtime.NumGoroutine")
 |none=>false
def UI {P:Program} {g:FuncId} (h:ZS P g=true) (args:Array Value) (w:World):(callFunc g args).run P w=.ok (.enter g args) w:=by
 unfold ZS at h;split at h
 ·rename_i fn d
  simp only [ql,vq] at h;have a:fn.body.isNone=false:=by cases a:fn.body<;>simp_all
  simp only [callFunc,Sem.run_bind,run_program,Result.andThen_ok,d,h.2,a,qy,jq];rfl
 ·simp at h
abbrev ZlP (a:Act) (d:Option Tmp) (K:nK):Act->World->Prop:=λ a' w'=>∃ v,a'=a.put d v/\K v w'
def Zep {P:Program} {cl:FuncId->Bool} (j:∀ g,cl g=true->ZS P g=true) {a:Act} {e:Env} {o:Oper} {K:Value->World->Prop} {w:World}
  {Q:Exit->Act->World->Prop} (h:ZwK P cl e o K w):o.upon P a (ZlP a o.dst K) Q ((execOp e.ev o).run P w):=by
 unfold ZwK at h;split at h
 ·split at h
  ·clear j
   obtain ⟨dst,u,ty,pos,after,guard⟩:=o;cases u<;>simp only at h<;>first|exact h.elim|skip
   rename_i t len parts _ _;obtain ⟨w',h⟩:=h;obtain ⟨v,d,hK⟩:=Rt.ex_some h;have:(execOp e.ev ⟨dst,.buildSlice t len parts,ty,pos,after,guard⟩).run P w=.ok (.value v) w':=by
    simp only [execOp];simp [d]
   rw [this];exact ⟨v,rfl,hK⟩
  unfold newF at h;split at h
  ·rename_i ob f q
   unfold New at h;dsimp only at h;split at h
   ·rename_i v l
    rw [Zg0 q w l];exact ⟨v,rfl,h⟩
   ·exact h.elim
  ·exact h.elim
 ·rename_i hk
  obtain ⟨w',h⟩:=h;obtain ⟨v,d,hK⟩:=Rt.ex_some h;have l:Zq3 o.op=true:=by
   obtain ⟨dst,u,ty,pos,after,guard⟩:=o;cases u<;>simp [ZfC] at hk<;>first|rfl|skip
   case call c=>
    obtain ⟨i,args,z⟩:=c;cases i<;>simp at hk
    case builtin b=>cases b<;>simp at hk<;>rfl
  rw [W0 l d];exact ⟨v,rfl,hK⟩
 ·rename_i hk
  clear hk;obtain ⟨dst,u,ty,pos,after,guard⟩:=o;cases u<;>simp only at h<;>first|exact h.elim|skip
  rename_i T a' x;obtain ⟨w',d,hK⟩:=h;have:(execOp e.ev ⟨dst,.store T a' x,ty,pos,after,guard⟩).run P w=.ok .skip w':=by simp only [execOp];simp [d]
  rw [this];exact ⟨undef,rfl,hK⟩
 ·rename_i hk
  clear hk;obtain ⟨dst,u,ty,pos,after,guard⟩:=o;cases u<;>simp only at h<;>first|exact h.elim|skip
  case insert T m k x=>
   obtain ⟨w',d,hK⟩:=h;have:(execOp e.ev ⟨dst,.insert T m k x,ty,pos,after,guard⟩).run P w=.ok .skip w':=by simp only [execOp];simp [d]
   rw [this];exact ⟨undef,rfl,hK⟩
  case mapUpdate T m k x=>
   obtain ⟨w',d,hK⟩:=h;have:(execOp e.ev ⟨dst,.mapUpdate T m k x,ty,pos,after,guard⟩).run P w=.ok .skip w':=by simp only [execOp];simp [d]
   rw [this];exact ⟨undef,rfl,hK⟩
 ·rename_i hk
  clear hk;obtain ⟨dst,u,ty,pos,after,guard⟩:=o;cases u<;>simp only at h<;>first|exact h.elim|skip
  rename_i T m s x;obtain ⟨w',d,hK⟩:=h;have:(execOp e.ev ⟨dst,.entryStore T m s x,ty,pos,after,guard⟩).run P w=.ok .skip w':=by simp only [execOp];simp [d]
  rw [this];exact ⟨undef,rfl,hK⟩
 ·rename_i hk
  clear hk;obtain ⟨dst,u,ty,pos,after,guard⟩:=o;cases u<;>simp only at h<;>first|exact h.elim|skip
  case call c=>
   obtain ⟨i,args,z⟩:=c;cases i<;>simp only at h<;>first|exact h.elim|skip
   case value f=>
    unfold calV XP at h;split at h
    case h_2=>exact h.elim
    rename_i fn first captured p
    split at h
    case h_2=>exact h.elim
    rename_i g;have y:(first++args.map e.ev)++captured=(first.toList++((args.map e.ev).toList++captured.toList)).toArray:=by
     apply vd;simp
    split at h
    case h_2=>
     obtain ⟨r,w',d,n⟩:=h;have:(execOp e.ev ⟨dst,.call ⟨.value f,args,z⟩,ty,pos,after,guard⟩).run P w=.ok (.value r) w':=by
      simp only [execOp,resolve,p,Deferred.ofValue];simp only [Sem.run_bind,Sem.run_pure,Result.andThen_ok,invoke,<-y] at d ⊢;exact d
     rw [this];obtain ⟨v,l,hK⟩:=Rt.ex_some n;cases l;exact ⟨_,rfl,hK⟩
    rename_i A;have:(execOp e.ev ⟨dst,.call ⟨.value f,args,z⟩,ty,pos,after,guard⟩).run P w=.ok (.enter g (first.toList++((args.map e.ev).toList++captured.toList)).toArray) w:=by
     simp only [execOp,resolve,p,Deferred.ofValue];simp only [Sem.run_bind,Sem.run_pure,Result.andThen_ok,invoke,<-y];exact UI (j g A) _ w
    rw [this];refine Calls.mono h ?_;intro en w' n;obtain ⟨v,rfl,hK⟩:=Rt.ex_some n;exact ⟨v,rfl,hK⟩
 ·rename_i hk
  clear hk;obtain ⟨dst,u,ty,pos,after,guard⟩:=o;cases u<;>simp only at h<;>first|exact h.elim|skip
  obtain ⟨v,w',d,hK⟩:=ZgL h;rw [W0 (o:=⟨dst,_,ty,pos,after,guard⟩) rfl d];exact ⟨v,rfl,hK⟩
 ·rename_i hk
  obtain ⟨dst,u,ty,pos,after,guard⟩:=o;cases u<;>simp only at h<;>first|exact h.elim|skip
  rename_i it b;cases b
  ·simp [ZfC] at hk
  obtain ⟨v,w',d,hK⟩:=Ziq (T:=ty) h;rw [W0 (o:=⟨dst,.next it true,ty,pos,after,guard⟩) rfl d];exact ⟨v,rfl,hK⟩
 ·rename_i hk
  obtain ⟨dst,u,ty,pos,after,guard⟩:=o;cases u<;>simp only at h<;>first|exact h.elim|skip
  rename_i it b;cases b
  rotate_left
  ·simp [ZfC] at hk
  obtain ⟨v,w',d,hK⟩:=Zja h;rw [W0 (o:=⟨dst,.next it false,ty,pos,after,guard⟩) rfl d];exact ⟨v,rfl,hK⟩
 ·unfold rawF at h
  split at h
  ·rename_i d;rw [d];exact ⟨_,rfl,h⟩
  ·rename_i d;rw [d];exact ⟨undef,rfl,h⟩
  ·exact h.elim
def opF (P:Program) (cl:FuncId->Bool) (ρ:Env) (o:Oper) (K:nK) (w:World):Prop:=
 match Zad P o.op with
 |0=>(match UV P o.op with
  |0=>ZwK P cl ρ o K w
  |_=>ZmL P (λ w'=>w'=w) ρ o (λ v=>K v w))
 |_=>ZmZ P ρ o (λ v=>K v w)
def Zdu (P:Program) (op:Op):Bool:=
 match op with
 | .load T _=>Znx P T
 |op=>Zq8 P op
def Vs.upon {P:Program} {S:World->Prop} {e:Env} {o:Oper} {K:Value->World->Prop} {a:Act} {w:World} {Q:Exit->Act->World->Prop}
  (hS:S w) (h:Vs P S (execOp e.ev o) (λ v=>K v w)):o.upon P a (ZlP a o.dst K) Q ((execOp e.ev o).run P w):=by
 obtain ⟨v,d,hK⟩:=h;rw [d w hS];exact ⟨v,rfl,hK⟩
def Ze1 {P:Program} {a:Op} (h:Zdu P a=true):Zq8 P a=true:=by
 cases a<;>first|exact h|rfl
def Zin {P:Program} {a:Op} (h:Zdu P a=true):Zu0 P a=true:=by
 cases a<;>first|exact h|rfl
def Vc {P:Program} {cl:FuncId->Bool} (i:∀ g,cl g=true->ZS P g=true) {a:Act} {e:Env} {o:Oper} {K:Value->World->Prop} {w:World}
  {Q:Exit->Act->World->Prop} (d:Zdu P o.op=true) (h:opF P cl e o K w):o.upon P a (ZlP a o.dst K) Q ((execOp e.ev o).run P w):=by
 unfold opF at h;split at h
 ·split at h
  ·exact Zep i h
  ·rename_i hk
   exact Vs.upon (S:=λ w'=>w'=w) rfl (GD hk (Zin d) h)
 ·exact Vs.upon (S:=λ _=>True) trivial (GH (Ze1 d) h)
section
section
variable {P:Program} {ops:Array Oper} {Q:Exit->Act->World->Prop} {md:Region.Mode} {S:World->Prop} {need look:Nat->Bool}
def wpT (P:Program) (md:Region.Mode) (ops:Array Oper) (Q:Exit->Act->World->Prop) (S:World->Prop) (need look:Nat->Bool):Nat->Array Bool->Act->World->Prop
 |0,listed,a,w=>Region.ready md ops listed=[]/\Q .normal a w
 |fuel + 1,listed,a,w=>
  (Region.ready md ops listed=[]->Q .normal a w)/\
  ∀ i∈Region.ready md ops listed,wpOp P ops Q i (λ a' w'=>((need i=true->S w')/\(look i=true->w'=w))/\wpT P md ops Q S need look fuel (listed.setIfInBounds i true) a' w') a w
def Zb3:∀ (d:Nat) (o:Array Bool) (a:Act) (w:World),wpT P md ops Q S need look d o a w->wpAny P md ops Q d o a w
 |0,_,_,_,h=>h
 |d + 1,_,_,_,h=>⟨h.1,λ i hi=>wpOp_mono (λ u w' h'=>Zb3 d _ u w' h'.2) (h.2 i hi)⟩
def YC {T:World->Prop} {i:Nat} {s:Oper} {v:Value} (hi:ops[i]? =some s) (g:∀ (j:Nat) (o:Oper) cs b,ops[j]? =some o->o.op≠.select cs b)
  (N:∀ c a w,Q (.panic c) (a.put s.dst v) w->Q (.panic c) a w) (t:need i=false):
  ∀ (u:Nat) (d:Array Bool) (a:Act) (w:World),
   (∀ j m,ops[j]? =some m->j≠i->d.getD j true=false->(∀ e∈m.after,Region.binds md e=true->e.on≠i)->
    s.apart ops m=true/\∀ w w',T w->(need j=true->S w')->(look j=true->w'=w)->T w')->
   i∈Region.ready md ops d->YieldsIf P ops T s v a->T w->
   wpT P md ops Q S need look u (d.setIfInBounds i true) (a.put s.dst v) w->wpT P md ops Q S need look (u + 1) d a w:=by
 intro u
 induction u with
 |zero=>
  intro d a w z n F hT H;refine ⟨λ h=>(by rw [h] at n;cases n),λ j hj=>?_⟩;by_cases y:j=i
  ·subst y
   exact F.wpOp hi hT ⟨⟨λ h=>(by rw [t] at h;cases h),λ _=>rfl⟩,H⟩
  ·have:=ready_mono hj y
   rw [H.1] at this;cases this
 |succ u ih=>
  intro d a w z n F hT H;refine ⟨λ h=>(by rw [h] at n;cases n),λ j hj=>?_⟩;by_cases y:j=i
  ·subst y
   exact F.wpOp hi hT ⟨⟨λ h=>(by rw [t] at h;cases h),λ _=>rfl⟩,H⟩
  ·have p:=H.2 j (ready_mono hj y)
   obtain ⟨l,m,q,x⟩:=mem_ready.1 hj;have f:∀ e∈m.after,Region.binds md e=true->e.on≠i:=λ e O U G=>by
    have p:=x e O U;have M:=(mem_ready.1 n).1;rw [G] at p;rcases vO i d.size with h'|h'
    ·simp [h'] at M p;rw [M] at p;cases p
    ·simp [Array.getElem?_eq_none h'] at p
   obtain ⟨I,r⟩:=z j m q y l f;have V:=wpOp_putIf q I (λ cs b=>g i s cs b hi) (λ cs b=>g j m cs b q) N F p;refine wpOp_mono (λ W w' A=>⟨A.2.1,ih (d.setIfInBounds j true) W w' ?_ (ready_mono n (Ne.symm y)) A.1 (r w w' hT A.2.1.1 A.2.1.2) ?_⟩) V
   ·intro k ok hk J D L
    refine z k ok hk J ?_ L;by_cases E:j=k
    ·subst E;exact l
    ·rw [getD_set_ne true E] at D;exact D
   ·rw [uL _ _ y]
    exact A.2.2
def UN {T:World->Prop} {D:Nat->Bool} {i:Nat} {E:Oper} {v:Value} (hi:ops[i]? =some E) (r:∀ (j:Nat) (o:Oper) cs b,ops[j]? =some o->o.op≠.select cs b)
  (Y:∀ c a w,Q (.panic c) (a.put E.dst v) w->Q (.panic c) a w) (F:need i=false)
  (C:∀ j m,D j=true->j≠i->ops[j]? =some m->∃ e∈m.after,Region.binds md e=true/\D e.on=true):
  ∀ (y:Nat) (d:Array Bool) (a:Act) (w:World),
   (∀ j m,ops[j]? =some m->j≠i->d.getD j true=false->D j=false->(∀ e∈m.after,Region.binds md e=true->e.on≠i)->
    E.apart ops m=true/\∀ w w',T w->(need j=true->S w')->(look j=true->w'=w)->T w')->
   (∀ j,D j=true->d.getD j true=false)->i∈Region.ready md ops d->YieldsIf P ops T E v a->T w->
   wpT P md ops Q S need look y (d.setIfInBounds i true) (a.put E.dst v) w->wpT P md ops Q S need look (y + 1) d a w:=by
 intro y
 induction y with
 |zero=>
  intro d a w z g x L hT H;refine ⟨λ h=>(by rw [h] at x;cases x),λ j hj=>?_⟩;by_cases u:j=i
  ·subst u
   exact L.wpOp hi hT ⟨⟨λ h=>(by rw [F] at h;cases h),λ _=>rfl⟩,H⟩
  ·have:=ready_mono hj u
   rw [H.1] at this;cases this
 |succ y ih=>
  intro d a w z g x L hT H;refine ⟨λ h=>(by rw [h] at x;cases x),λ j hj=>?_⟩;by_cases u:j=i
  ·subst u
   exact L.wpOp hi hT ⟨⟨λ h=>(by rw [F] at h;cases h),λ _=>rfl⟩,H⟩
  ·have l:=H.2 j (ready_mono hj u)
   obtain ⟨s,m,n,t⟩:=mem_ready.1 hj;have G:∀ e∈m.after,Region.binds md e=true->e.on≠i:=λ e M N O=>by
    have l:=t e M N;have I:=(mem_ready.1 x).1;rw [O] at l;rcases vO i d.size with h'|h'
    ·simp [h'] at I l;rw [I] at l;cases l
    ·simp [Array.getElem?_eq_none h'] at l
   have f:D j=false:=by
    cases hd:D j with
    |false=>rfl
    |true=>
     obtain ⟨e,M,N,U⟩:=C j m hd u n;have l:=t e M N;have I:=g e.on U;rcases vO e.on d.size with h'|h'
     ·simp [h'] at I l;rw [I] at l;cases l
     ·simp [Array.getElem?_eq_none h'] at l
   obtain ⟨V,A⟩:=z j m n u s f G;have B:=wpOp_putIf n V (λ cs b=>r i E cs b hi) (λ cs b=>r j m cs b n) Y L l;refine wpOp_mono (λ K w' J=>⟨J.2.1,ih (d.setIfInBounds j true) K w' ?_ ?_ (ready_mono x (Ne.symm u)) J.1 (A w w' hT J.2.1.1 J.2.1.2) ?_⟩) B
   ·intro k ok hk W g p X
    refine z k ok hk W ?_ p X;by_cases q:j=k
    ·subst q;exact s
    ·rw [getD_set_ne true q] at g;exact g
   ·intro k p
    have q:j≠k:=λ h=>by rw [h,p] at f;cases f
    rw [getD_set_ne true q];exact g k p
   ·rw [uL _ _ u]
    exact J.2.2
end
def Un (ops:Array Oper) (ρ:Env) (o:Oper) (run skip:Env->Prop):Prop:=
 match o.guard with
 |none=>run ρ
 |some (j,want)=>(match (ops[j]?).bind (·.dst) with
  |none=>skip ρ
  |some d=>(match ρ d with
   | .bool b=>(match want with
    |true=>Br b (run (ρ.set d (.bool true))) (skip (ρ.set d (.bool false)))
    |false=>Br b (skip (ρ.set d (.bool true))) (run (ρ.set d (.bool false))))
   |_=>skip ρ))
def Zn6 (d k:Nat):List Oper->Option TypeId
 |[]=>none
 |o::os=>match o.op with
  | .extract x j=>(match x with
   | .tmp t=>(match Nat.beq t d && Nat.beq j k with
    |true=>some o.type
    |false=>Zn6 d k os)
   |_=>Zn6 d k os)
  |_=>Zn6 d k os
def vtE (P:Program) (t:Option TypeId):Vt:=match t with|some t=>ZwD P t|none=>.one .any
def ZiC (op:Op):Bool:=match op with| .entry _=>true|_=>false
def ZwI (P:Program) (S:World->Prop) (ops:Array Oper) (ρ:Env) (o:Oper) (K:Value->Prop):Prop:=
 match o.op with
 | .entry x=>(match o.dst with
  |some d=>Giv P S (Instr.entry (ρ.ev x)) (.tup [vtE P (Zn6 d 0 ops.toList),vtE P (Zn6 d 1 ops.toList)]) K
  |none=>False)
 |_=>False
def opE (P:Program) (cl:FuncId->Bool) (ops:Array Oper) (ρ:Env) (o:Oper) (K:nK) (w:World):Prop:=
 match ZiC o.op with
 |true=>ZwI P (λ w'=>w'=w) ops ρ o (λ v=>K v w)
 |false=>opF P cl ρ o K w
def Zo1 (P:Program) (cl:FuncId->Bool) (ops:Array Oper):List Oper->Env->(Env->World->Prop)->World->Prop
 |[],ρ,K,w=>K ρ w
 |o::rest,ρ,K,w=>Un ops ρ o
   (λ ρ=>opE P cl ops ρ o (λ v w=>Zo1 P cl ops rest (ρ.put o.dst v) K w) w)
   (λ ρ=>Zo1 P cl ops rest (ρ.put o.dst undef) K w)
def Yl (P:Program) (op:Op):Bool:=match Zad P op with|0=>(match UV P op with|0=>false|_=>true)|_=>false
def Yo (P:Program) (op:Op):Bool:=match Zad P op with|0=>false|_=>true
def VJ (P:Program) (ops:Array Oper) (j:Nat):Bool:=
 match ops[j]? with
 |none=>false
 |some oj=>!Yl P oj.op && !Yo P oj.op && (List.range ops.size).any λ i=>match ops[i]? with
  |some oi=>Yl P oi.op && !oj.after.any (λ e=>Region.binds .any e && Nat.beq e.on i)
  |none=>false
def ZwF (P:Program) (S:World->Prop) (hs:Bool) (ρ:Env) (o:Oper) (K:Value->Prop):Prop:=
 match Yo P o.op with
 |true=>ZmZ P ρ o K
 |false=>(match hs with
  |true=>ZmL P S ρ o K
  |false=>False)
def Zpg (P:Program) (ops:Array Oper) (S:World->Prop) (hs:Bool) (ρ:Env) (o:Oper) (K:Value->Prop):Prop:=
 match ZiC o.op with
 |true=>(match hs with
  |true=>ZwI P S ops ρ o K
  |false=>False)
 |false=>ZwF P S hs ρ o K
def ZgU (P:Program) (ops:Array Oper) (listed:Array Bool):List Nat->Option Nat
 |[]=>none
 |i::is=>match ops[i]? with
  |some o=>(match Yo P o.op||Yl P o.op with
   |true=>(match Region.free .any ops listed i with
    |true=>some i
    |false=>ZgU P ops listed is)
   |false=>ZgU P ops listed is)
  |none=>ZgU P ops listed is
def ZuH (f:Nat->Prop):List Nat->Prop
 |[]=>True
 |[i]=>f i
 |i::is=>f i/\ZuH f is
def ZbZ (ops:Array Oper) (listed:Array Bool) (i:Nat):Nat->Nat->Bool
 |0,j=>Nat.beq j i
 |n + 1,j=>Nat.beq j i||(!listed.getD j true && match ops[j]? with
  |some oj=>oj.after.any (λ e=>Region.binds .any e && ZbZ ops listed i n e.on)
  |none=>false)
def UE (P:Program) (ops:Array Oper) (listed:Array Bool) (i:Nat):Bool:=(List.range ops.size).all λ j=>listed.getD j true||(ZbZ ops listed i 8 j||match ops[j]? with
 |some oj=>(Yo P oj.op||Yl P oj.op)
 |none=>true)
def ZlL (P:Program) (cl:FuncId->Bool) (ops:Array Oper) (S:World->Prop) (ex:Bool):Nat->Bool->Array Bool->Env->(Env->World->Prop)->World->Prop
 |0,_,listed,ρ,K,w=>(match Region.ready .any ops listed with
  |[]=>K ρ w
  |_=>False)
 |fuel + 1,hs,listed,ρ,K,w=>(match Region.ready .any ops listed with
  |[]=>K ρ w
  |r::rs=>(match ZgU P ops listed (r::rs) with
   |some i=>(match ops[i]? with
    |some o=>Un ops ρ o
      (λ ρ=>(match ex && UE P ops listed i with
       |true=>Zpg P ops (λ w'=>w'=w) true ρ o λ v=>ZlL P cl ops S ex fuel hs (listed.setIfInBounds i true) (ρ.put o.dst v) K w
       |false=>Zpg P ops S hs ρ o λ v=>ZlL P cl ops S ex fuel hs (listed.setIfInBounds i true) (ρ.put o.dst v) K w))
      (λ ρ=>ZlL P cl ops S ex fuel hs (listed.setIfInBounds i true) (ρ.put o.dst undef) K w)
    |none=>False)
   |none=>ZuH (λ i=>match ops[i]? with
    |some o=>Un ops ρ o
      (λ ρ=>(match Yo P o.op||Yl P o.op with
       |true=>False
       |false=>match VJ P ops i with
       |true=>opF P cl ρ o (λ v w=>S w/\ZlL P cl ops S ex fuel hs (listed.setIfInBounds i true) (ρ.put o.dst v) K w) w
       |false=>opF P cl ρ o (λ v w=>ZlL P cl ops S ex fuel false (listed.setIfInBounds i true) (ρ.put o.dst v) K w) w))
      (λ ρ=>(match Yo P o.op||Yl P o.op with
       |true=>False
       |false=>match VJ P ops i with
       |true=>(match hs with
        |true=>ZlL P cl ops S ex fuel true (listed.setIfInBounds i true) (ρ.put o.dst undef) K w
        |false=>False)
       |false=>ZlL P cl ops S ex fuel false (listed.setIfInBounds i true) (ρ.put o.dst undef) K w))
    |none=>False) (r::rs)))
def Drw (w:World) (F:(World->Prop)->World->Prop):Prop:=∃ S0 S:World->Prop,S0 w.drew/\∀ w',S0 w'->S w'/\F S w'
def _root_.Go.Act.env (a:Act):Env:=λ i=>a.tmps.getD i undef
def Yx (a:Act):a.env.ev=a.eval:=by funext x;cases x<;>rfl
def Zbb {a:Act} {d:Option Tmp} {v:Value} (h:∀ x,d=some x->x<a.tmps.size):(a.put d v).env=a.env.put d v:=by
 cases d with
 |none=>rfl
 |some d=>
  have hd:=h d rfl
  funext i
  simp only [Act.env,Act.put,Env.put,Env.set];by_cases hi:i=d
  ·subst hi;simp [hd]
  ·have:Nat.beq i d=false:=by
    cases o:Nat.beq i d with
    |false=>rfl
    |true=>exact absurd (qA o) hi
   simp [this,Array.getElem?_setIfInBounds_ne (Ne.symm hi)]
def Zbw {ρ:Env} {d:Nat} {v:Value} (h:ρ d=v):ρ.set d v=ρ:=by
 funext i
 simp only [Env.set];split
 ·rename_i a;rw [qA a,h]
 ·rfl
def ZeY (a:Act) (d:Option Tmp) (v:Value):(a.put d v).tmps.size=a.tmps.size:=by
 cases d<;>simp [Act.put]
def ZaZ (a:Act) (d:Option Tmp) (v:Value):(a.put d v).defers=a.defers:=by
 cases d<;>rfl
structure W2 (n:Nat) (pw:Nat->Bool) (a0:Env) (a:Act):Prop where
 size:a.tmps.size=n
 defers:a.defers=[]
 same:∀ i,pw i=false->a.env i=a0 i
def Wg (n:Nat) (pw:Nat->Bool) (o:Oper):Bool:=match o.dst with|some d=>Nat.blt d n && pw d|none=>true
def W2.put {n:Nat} {pw:Nat->Bool} {a0:Env} {a:Act} (h:W2 n pw a0 a) {o:Oper} (u:Wg n pw o=true) (v:Value):W2 n pw a0 (a.put o.dst v):=by
 refine ⟨by rw [ZeY];exact h.size,by rw [ZaZ];exact h.defers,λ i hi=>?_⟩;unfold Wg at u;have hd:∀ x,o.dst=some x->x<a.tmps.size:=λ x y=>by
  rw [y] at u;simp only [ql] at u;rw [h.size];exact ub.mp u.1
 rw [Zbb hd];cases y:o.dst with
 |none=>exact h.same i hi
 |some d=>
  rw [y] at u;simp only [ql] at u;simp only [Env.put,Env.set];split
  ·rename_i z;have:=qA z;subst this;rw [hi] at u;simp at u
  ·exact h.same i hi
def W2.envput {n:Nat} {pw:Nat->Bool} {a0:Env} {a:Act} (h:W2 n pw a0 a) {o:Oper} (d:Wg n pw o=true) (v:Value):(a.put o.dst v).env=a.env.put o.dst v:=by
 refine Zbb λ x i=>?_;unfold Wg at d;rw [i] at d;simp only [ql] at d;rw [h.size];exact ub.mp d.1
def ZhP (ops:Array Oper) (a:Act) (j:Nat):yielded ops a.tmps j=match (ops[j]?).bind (·.dst) with
  |none=>none
  |some d=>match a.env d with| .bool b=>some b|_=>none:=by
 unfold yielded;cases (ops[j]?).bind (·.dst) with
 |none=>rfl
 |some d=>
  simp only [Option.bind_some,Act.env,Array.getD_eq_getD_getElem?];cases a.tmps[d]? with
  |none=>simp [undef]
  |some v=>cases v<;>rfl
def Ym {ops:Array Oper} {a:Act} {o:Oper} {run skip:Env->Prop} (h:Un ops a.env o run skip):
  (Region.wanted o (yielded ops a.tmps)=true/\run a.env)\/(Region.wanted o (yielded ops a.tmps)=false/\skip a.env):=by
 unfold Un at h;unfold Region.wanted;split at h
 ·rename_i u;rw [u];exact .inl ⟨rfl,h⟩
 ·rename_i j want u
  rw [u];simp only [ZhP];split at h
  ·exact .inr ⟨rfl,h⟩
  ·rename_i d hd
   split at h
   ·rename_i b i
    cases b with
    |true=>
     rw [Zbw i] at h;cases want with
     |true=>exact .inl ⟨rfl,h⟩
     |false=>exact .inr ⟨rfl,h⟩
    |false=>
     rw [Zbw i] at h;cases want with
     |true=>exact .inr ⟨rfl,h⟩
     |false=>exact .inl ⟨rfl,h⟩
   ·rename_i i
    refine .inr ⟨?_,h⟩;cases v:a.env d<;>first|rfl|exact absurd v (i _)
def Zeo {P:Program} {S:World->Prop} {ops:Array Oper} {e:Env} {o:Oper} {K:Value->Prop} (h:ZwI P S ops e o K):Vs P S (execOp e.ev o) K:=by
 unfold ZwI at h;split at h
 case h_2=>exact h.elim
 rename_i x a;split at h
 case h_2=>exact h.elim
 obtain ⟨v,d,hK⟩:=Rt.ex_some h;obtain ⟨dst,u,ty,pos,after,guard⟩:=o;simp only at a;subst a;exact ⟨v,λ w i=>W0 rfl (d w i),hK⟩
def ZgX {P:Program} {cl:FuncId->Bool} {ops:Array Oper} (d:∀ g,cl g=true->ZS P g=true) {a:Act} {e:Env} {o:Oper} {K:Value->World->Prop} {w:World}
  {Q:Exit->Act->World->Prop} (i:Zdu P o.op=true) (h:opE P cl ops e o K w):o.upon P a (ZlP a o.dst K) Q ((execOp e.ev o).run P w):=by
 unfold opE at h;split at h
 ·exact Vs.upon (S:=λ w'=>w'=w) rfl (Zeo h)
 ·exact Vc d i h
section
variable {P:Program} {cl:FuncId->Bool} {ops:Array Oper} {Q:Exit->Act->World->Prop} {n:Nat} {pw:Nat->Bool} {a0:Env}
def Yp (i:∀ g,cl g=true->ZS P g=true) {K:Env->World->Prop}
  (j:∀ a w,W2 n pw a0 a->K a.env w->Q .normal a w):∀ (l:List Oper) (_:∀ o∈l,Zdu P o.op=true/\Wg n pw o=true) (a:Act) (w:World),
   W2 n pw a0 a->Zo1 P cl ops l a.env K w->wpList P ops Q l a w
 |[],_,a,w,hk,h=>j a w hk h
 |o::rest,hl,a,w,hk,h=>by
  have y:=hl o (qq ..);have d:=λ x p=>hl x (qj _ p);unfold Zo1 at h;unfold wpList;rcases Ym h with ⟨k,h⟩|⟨k,h⟩
  ·rw [qf k]
   refine .inl ?_;have:=ZgX i (a:=a) (Q:=Q) y.1 h;rw [Yx] at this;unfold Oper.wp;refine upon_mono ?_ this;rintro a' w' ⟨v,rfl,q⟩;refine Yp i j rest d _ w' (hk.put y.2 v) ?_;rw [hk.envput y.2];exact q
  ·rw [k]
   simp only [qy,jq];refine Yp i j rest d _ w (hk.put y.2 _) ?_;rw [hk.envput y.2];exact h
where
 upon_mono {o:Oper} {a:Act} {K m:Act->World->Prop} {r:Result Next} (h:∀ a w,K a w->m a w) (u:o.upon P a K Q r):o.upon P a m Q r:=by
  cases r with
  |ok x w'=>
   cases x<;>simp only [Oper.upon] at u ⊢<;>
    first
     |exact h _ _ u
     |exact Calls.mono u (λ e s z=>by cases e<;>first|exact h _ _ z|exact z)
     |exact Rows.mono u (λ _ _ z=>h _ _ z)
  |halt x w'=>cases x<;>simp only [Oper.upon] at u ⊢<;>exact u
def ZdL {S:World->Prop} {hs:Bool} {e:Env} {o:Oper} {K:Value->Prop} (d:Zdu P o.op=true) (a:(Yo P o.op||Yl P o.op)=true) (h:ZwF P S hs e o K):
  (Yo P o.op=true/\Vs P (λ _=>True) (execOp e.ev o) K)\/(Yo P o.op=false/\hs=true/\Vs P S (execOp e.ev o) K):=by
 unfold ZwF at h;split at h
 ·rename_i i;exact .inl ⟨i,GH (Ze1 d) h⟩
 ·rename_i i
  split at h
  ·refine .inr ⟨i,rfl,GD ?_ (Zin d) h⟩
   rw [i] at a;simp only [Bool.false_or] at a;unfold Yl at a;intro hk;rw [hk] at a;split at a<;>simp at a
  ·exact h.elim
def Wl {ops:Array Oper} {S:World->Prop} {hs:Bool} {e:Env} {o:Oper} {K:Value->Prop} (a:Zdu P o.op=true) (u:(Yo P o.op||Yl P o.op)=true) (h:Zpg P ops S hs e o K):
  (Yo P o.op=true/\Vs P (λ _=>True) (execOp e.ev o) K)\/(Yo P o.op=false/\hs=true/\Vs P S (execOp e.ev o) K):=by
 unfold Zpg at h;split at h
 ·rename_i d
  split at h
  ·refine .inr ⟨?_,rfl,Zeo h⟩
   unfold ZiC at d;split at d
   ·rename_i i
    rw [i];rfl
   ·cases d
  ·exact h.elim
 ·exact ZdL a u h
def W1 {a:Array Bool}:∀ {l:List Nat} {i:Nat},ZgU P ops a l=some i->i∈l/\∃ o,ops[i]? =some o/\(Yo P o.op||Yl P o.op)=true/\Region.free .any ops a i=true
 |[],_,h=>by cases h
 |j::l,i,h=>by
  unfold ZgU at h;split at h
  ·rename_i o d
   split at h
   ·rename_i u
    split at h
    ·rename_i v
     cases h;exact ⟨qq ..,o,d,u,v⟩
    ·have:=W1 h;exact ⟨qj _ this.1,this.2⟩
   ·have:=W1 h;exact ⟨qj _ this.1,this.2⟩
  ·have:=W1 h;exact ⟨qj _ this.1,this.2⟩
def ZaK {f:Nat->Prop}:∀ {l:List Nat},ZuH f l->∀ i∈l,f i
 |[],_,i,hi=>by cases hi
 |[j],h,i,hi=>by simp at hi;subst hi;exact h
 |j::k::l,h,i,hi=>by
  rcases qk.1 hi with rfl|hi
  ·exact h.1
  ·exact ZaK h.2 i hi
def ZoH {a:Array Bool} {i:Nat}:∀ (n j:Nat),ZbZ ops a i n j=true->ZbZ ops a i (n + 1) j=true
 |0,j,h=>by
  unfold ZbZ at h;unfold ZbZ;rw [h];rfl
 |n + 1,j,h=>by
  unfold ZbZ at h;unfold ZbZ;rcases jy _ _|>.mp h with d|d
  ·rw [d];rfl
  ·rw [ql] at d
   obtain ⟨v,o⟩:=d;rw [v];split at o
   ·rename_i oj z
    obtain ⟨e,y,u⟩:=vJ.1 o;rw [ql] at u;have:oj.after.any (λ e=>Region.binds .any e && ZbZ ops a i (n + 1) e.on)=true:=vJ.2 ⟨e,y,by rw [u.1,ZoH n e.on u.2];rfl⟩;rw [this];simp
   ·cases o
def ZfQ {a:Array Bool} {i:Nat} (hi:a.getD i true=false):∀ (n j:Nat),ZbZ ops a i n j=true->a.getD j true=false
 |0,j,h=>by unfold ZbZ at h;rw [qA h];exact hi
 |n + 1,j,h=>by
  unfold ZbZ at h;rcases jy _ _|>.mp h with d|d
  ·rw [qA d];exact hi
  ·rw [ql] at d
   simpa using d.1
def ZaI {a:Array Bool} {i j:Nat} {u:Oper}:∀ (n:Nat),ZbZ ops a i n j=true->j≠i->ops[j]? =some u->∃ e∈u.after,Region.binds .any e=true/\ZbZ ops a i n e.on=true
 |0,h,hji,_=>by unfold ZbZ at h;exact absurd (qA h) hji
 |n + 1,h,hji,ho=>by
  unfold ZbZ at h;rcases jy _ _|>.mp h with d|d
  ·exact absurd (qA d) hji
  ·rw [ql,ho] at d
   obtain ⟨e,v,o⟩:=vJ.1 d.2;rw [ql] at o;exact ⟨e,v,o.1,ZoH n e.on o.2⟩
def Zba {a:Array Bool} {i j:Nat} {d:Oper} (h:UE P ops a i=true) (hj:ops[j]? =some d) (o:a.getD j true=false) (u:ZbZ ops a i 8 j=false):(Yo P d.op||Yl P d.op)=true:=by
 unfold UE at h;have v:=qW.1 h j (jC.2 (Array.getElem?_eq_some_iff.1 hj).1);rw [o,hj,u] at v;simpa using v
def Ze4 {i j:Nat} {v a:Oper} (hi:ops[i]? =some v) (hj:ops[j]? =some a) (d:Yl P v.op=true)
  (h:(Yo P a.op||Yl P a.op)=false) (o:∀ e∈a.after,Region.binds .any e=true->e.on≠i):VJ P ops j=true:=by
 unfold VJ;rw [hj];simp only [ug] at h;simp only [h.1,h.2,zj,vB,vg,jC];refine ⟨i,(Array.getElem?_eq_some_iff.1 hi).1,?_⟩;rw [hi];simp only [d,vB,vq];rw [<-jH,vJ];rintro ⟨e,y,u⟩;simp only [ql] at u;exact o e y u.1 (qA u.2)
def ZeC {i:Nat} {o:Oper} {a:Act} {w:World} {K:Act->World->Prop} (hi:ops[i]? =some o)
  (h:(Region.wanted o (yielded ops a.tmps)=true/\o.upon P a K Q ((execOp a.eval o).run P w))\/(Region.wanted o (yielded ops a.tmps)=false/\K (a.put o.dst undef) w)):wpOp P ops Q i K a w:=by
 unfold wpOp;rw [hi];rcases h with ⟨d,h⟩|⟨d,h⟩
 ·simp only [d,vp];exact .inl h
 ·simp only [d,qy,jq];exact h
def looks (P:Program) (ops:Array Oper) (j:Nat):Bool:=match ops[j]? with|some o=>Yo P o.op||Yl P o.op|none=>false
def ZlK (W:∀ g,cl g=true->ZS P g=true) (X:Region.noSelect ops=true) {K:Env->World->Prop} {S:World->Prop} {ex:Bool}
  (hQ:∀ a w,W2 n pw a0 a->K a.env w->Q .normal a w) (e:∀ c a w,¬ Q (.panic c) a w) (M:∀ (i:Nat) (o:Oper),ops[i]? =some o->Zdu P o.op=true/\Wg n pw o=true):
  ∀ (u:Nat) (hs:Bool) (d:Array Bool) (a:Act) (w:World),W2 n pw a0 a->(hs=true->S w)->ZlL P cl ops S ex u hs d a.env K w->
   wpT P .any ops Q S (VJ P ops) (looks P ops) u d a w:=by
 intro u
 induction u with
 |zero=>
  intro hs d a w hk hS h;unfold ZlL at h;split at h
  ·rename_i N;exact ⟨N,hQ a w hk h⟩
  ·exact h.elim
 |succ u ih=>
  intro hs d a w hk hS h;unfold ZlL at h;split at h
  ·rename_i N
   exact ⟨λ _=>hQ a w hk h,λ i hi=>by rw [N] at hi;cases hi⟩
  ·rename_i r rs N
   split at h
   ·rename_i i H
    obtain ⟨Y,o,p,f,O⟩:=W1 H;rw [p] at h;simp only at h;obtain ⟨b,hd⟩:=M i o p;have A:VJ P ops i=false:=by
     unfold VJ;rw [p];simp only;rcases jy _ _|>.mp f with H|H<;>simp [H]
    have l:i∈Region.ready .any ops d:=by rw [N];exact Y
    have E:=Region.free_spec (md:=.any) p O;have y:=Region.noSelect_spec X;rcases Ym h with ⟨t,h⟩|⟨t,h⟩
    ·cases I:(ex && UE P ops d i) with
     |true=>
      rw [I] at h;have hx:UE P ops d i=true:=by rw [ql] at I;exact I.2
      rcases Wl b f h with ⟨H,v,U,hK⟩|⟨H,C,v,U,hK⟩
      ·refine YC (T:=λ _=>True) p y (λ c a w J=>absurd J (e c _ w)) A u d a w (λ j x hj m z k=>⟨E j x hj m z k,λ _ _ _ _ _=>trivial⟩) l (.inl ⟨t,?_⟩) trivial
        (ih hs (d.setIfInBounds i true) (a.put o.dst v) w (hk.put hd v) hS ?_)
       ·rw [<-Yx];exact U
       ·rw [hk.envput hd];exact hK
      ·have B:d.getD i true=false:=(mem_ready.1 l).1
       refine UN (T:=λ w'=>w'=w) (D:=ZbZ ops d i 8) p y (λ c a w J=>absurd J (e c _ w)) A (λ j x hd R hj=>ZaI 8 hd R hj) u d a w (λ j x hj m z h1 k=>⟨E j x hj m z k,λ w1 w2 h2 F q=>?_⟩) (λ j hd=>ZfQ B 8 j hd) l (.inl ⟨t,?_⟩) rfl
        (ih hs (d.setIfInBounds i true) (a.put o.dst v) w (hk.put hd v) hS ?_)
       ·have:=q (by unfold looks;rw [hj];exact Zba hx hj z h1)
        rw [this];exact h2
       ·rw [<-Yx];exact U
       ·rw [hk.envput hd];exact hK
     |false=>
     rw [I] at h;rcases Wl b f h with ⟨H,v,U,hK⟩|⟨H,C,v,U,hK⟩
     ·refine YC (T:=λ _=>True) p y (λ c a w J=>absurd J (e c _ w)) A u d a w (λ j x hj m z k=>⟨E j x hj m z k,λ _ _ _ _ _=>trivial⟩) l (.inl ⟨t,?_⟩) trivial
       (ih hs (d.setIfInBounds i true) (a.put o.dst v) w (hk.put hd v) hS ?_)
      ·rw [<-Yx];exact U
      ·rw [hk.envput hd];exact hK
     ·have h3:Yl P o.op=true:=by rw [H] at f;simpa using f
      refine YC (T:=S) p y (λ c a w J=>absurd J (e c _ w)) A u d a w (λ j x hj m z k=>⟨E j x hj m z k,λ w w' t F q=>?_⟩) l (.inl ⟨t,?_⟩) (hS C)
       (ih hs (d.setIfInBounds i true) (a.put o.dst v) w (hk.put hd v) hS ?_)
      ·cases hl:(Yo P x.op||Yl P x.op) with
       |true=>have:=q (by unfold looks;rw [hj];exact hl);rw [this];exact t
       |false=>exact F (Ze4 p hj h3 hl k)
      ·rw [<-Yx];exact U
      ·rw [hk.envput hd];exact hK
    ·refine YC (T:=λ _=>True) p y (λ c a w J=>absurd J (e c _ w)) A u d a w (λ j x hj m z k=>⟨E j x hj m z k,λ _ _ _ _ _=>trivial⟩) l (.inr ⟨t,rfl⟩) trivial
       (ih hs (d.setIfInBounds i true) (a.put o.dst undef) w (hk.put hd _) hS ?_)
     rw [hk.envput hd];exact h
   ·refine ⟨λ h0=>absurd (N ▸ h0) (by simp),λ i hi=>?_⟩
    rw [N] at hi;have h:=ZaK h i hi;split at h
    case h_2=>exact h.elim
    rename_i o p;obtain ⟨b,hd⟩:=M i o p;refine ZeC p ?_;rcases Ym h with ⟨t,h⟩|⟨t,h⟩
    ·refine .inl ⟨t,?_⟩
     split at h
     ·exact h.elim
     ·rename_i hl
      have V:looks P ops i=false:=by unfold looks;rw [p];exact hl
      split at h
      ·rename_i L
       have:=Vc W (a:=a) (Q:=Q) b h;rw [Yx] at this;refine Yp.upon_mono ?_ this;rintro a' w' ⟨v,rfl,G,hK⟩;refine ⟨⟨λ _=>G,λ s=>(by rw [V] at s;cases s)⟩,ih hs _ _ w' (hk.put hd v) (λ _=>G) ?_⟩;rw [hk.envput hd];exact hK
      ·rename_i L
       have:=Vc W (a:=a) (Q:=Q) b h;rw [Yx] at this;refine Yp.upon_mono ?_ this;rintro a' w' ⟨v,rfl,hK⟩;refine ⟨⟨λ s=>(by rw [L] at s;cases s),λ s=>(by rw [V] at s;cases s)⟩,ih false _ _ w' (hk.put hd v) (λ s=>by cases s) ?_⟩;rw [hk.envput hd];exact hK
    ·refine .inr ⟨t,?_⟩
     split at h
     ·exact h.elim
     ·rename_i hl
      have V:looks P ops i=false:=by unfold looks;rw [p];exact hl
      split at h
      ·split at h
       ·have G:=hS rfl
        refine ⟨⟨λ _=>G,λ _=>rfl⟩,ih true _ _ w (hk.put hd _) (λ _=>G) ?_⟩;rw [hk.envput hd];exact h
       ·exact h.elim
      ·rename_i L
       refine ⟨⟨λ s=>(by rw [L] at s;cases s),λ _=>rfl⟩,ih false _ _ w (hk.put hd _) (λ s=>by cases s) ?_⟩;rw [hk.envput hd];exact h
end
end
section
def Zu1 (P:Program) (ops:Array Oper):Nat->Nat->Bool
 |0,_=>false
 |n + 1,i=>match ops[i]? with
  |some oi=>oi.after.any (λ e=>Region.binds .any e && match ops[e.on]? with
   |some ok=>(match Yo P ok.op with
    |true=>Zu1 P ops n e.on
    |false=>!Yl P ok.op)
   |none=>false)
  |none=>false
def Zk2 (P:Program) (ops:Array Oper) (listed:Array Bool):List Nat->Option Nat
 |[]=>none
 |i::is=>match ops[i]? with
  |some o=>(match Yo P o.op||Yl P o.op with
   |true=>(match Region.free .any ops listed i && !(Yl P o.op && Zu1 P ops 8 i) with
    |true=>some i
    |false=>Zk2 P ops listed is)
   |false=>Zk2 P ops listed is)
  |none=>Zk2 P ops listed is
def Zi6 (P:Program) (cl:FuncId->Bool) (ops:Array Oper) (S:World->Prop):Nat->Bool->Array Bool->Env->(Env->World->Prop)->World->Prop
 |0,_,listed,ρ,K,w=>(match Region.ready .any ops listed with
  |[]=>K ρ w
  |_=>False)
 |fuel + 1,hs,listed,ρ,K,w=>(match Region.ready .any ops listed with
  |[]=>K ρ w
  |r::rs=>(match Zk2 P ops listed (r::rs) with
   |some i=>(match ops[i]? with
    |some o=>Un ops ρ o
      (λ ρ=>(match UE P ops listed i with
       |true=>Zpg P ops (λ w'=>w'=w) true ρ o λ v=>Zi6 P cl ops S fuel hs (listed.setIfInBounds i true) (ρ.put o.dst v) K w
       |false=>Zpg P ops S hs ρ o λ v=>Zi6 P cl ops S fuel hs (listed.setIfInBounds i true) (ρ.put o.dst v) K w))
      (λ ρ=>Zi6 P cl ops S fuel hs (listed.setIfInBounds i true) (ρ.put o.dst undef) K w)
    |none=>False)
   |none=>ZuH (λ i=>match ops[i]? with
    |some o=>Un ops ρ o
      (λ ρ=>(match Yo P o.op||Yl P o.op with
       |true=>Zpg P ops (λ w'=>w'=w) true ρ o λ v=>Zi6 P cl ops S fuel hs (listed.setIfInBounds i true) (ρ.put o.dst v) K w
       |false=>match VJ P ops i with
       |true=>opF P cl ρ o (λ v w=>S w/\Zi6 P cl ops S fuel hs (listed.setIfInBounds i true) (ρ.put o.dst v) K w) w
       |false=>opF P cl ρ o (λ v w=>Zi6 P cl ops S fuel false (listed.setIfInBounds i true) (ρ.put o.dst v) K w) w))
      (λ ρ=>(match Yo P o.op||Yl P o.op with
       |true=>Zi6 P cl ops S fuel hs (listed.setIfInBounds i true) (ρ.put o.dst undef) K w
       |false=>match VJ P ops i with
       |true=>(match hs with
        |true=>Zi6 P cl ops S fuel true (listed.setIfInBounds i true) (ρ.put o.dst undef) K w
        |false=>False)
       |false=>Zi6 P cl ops S fuel false (listed.setIfInBounds i true) (ρ.put o.dst undef) K w))
    |none=>False) (r::rs)))
section
variable {P:Program} {cl:FuncId->Bool} {ops:Array Oper} {Q:Exit->Act->World->Prop} {n:Nat} {pw:Nat->Bool} {a0:Env}
def UY {a:Array Bool}:∀ {l:List Nat} {i:Nat},Zk2 P ops a l=some i->i∈l/\∃ o,ops[i]? =some o/\(Yo P o.op||Yl P o.op)=true/\Region.free .any ops a i=true
 |[],_,h=>by cases h
 |j::l,i,h=>by
  unfold Zk2 at h;split at h
  ·rename_i o u
   split at h
   ·rename_i v
    split at h
    ·rename_i d
     cases h;rw [ql] at d;exact ⟨qq ..,o,u,v,d.1⟩
    ·have:=UY h;exact ⟨qj _ this.1,this.2⟩
   ·have:=UY h;exact ⟨qj _ this.1,this.2⟩
  ·have:=UY h;exact ⟨qj _ this.1,this.2⟩
def ZlJ (W:∀ g,cl g=true->ZS P g=true) (X:Region.noSelect ops=true) {K:Env->World->Prop} {S:World->Prop}
  (hQ:∀ a w,W2 n pw a0 a->K a.env w->Q .normal a w) (E:∀ c a w,¬ Q (.panic c) a w) (N:∀ (i:Nat) (o:Oper),ops[i]? =some o->Zdu P o.op=true/\Wg n pw o=true):
  ∀ (u:Nat) (hs:Bool) (d:Array Bool) (a:Act) (w:World),W2 n pw a0 a->(hs=true->S w)->Zi6 P cl ops S u hs d a.env K w->
   wpT P .any ops Q S (VJ P ops) (looks P ops) u d a w:=by
 intro u
 induction u with
 |zero=>
  intro hs d a w hk hS h;unfold Zi6 at h;split at h
  ·rename_i O;exact ⟨O,hQ a w hk h⟩
  ·exact h.elim
 |succ u ih=>
  intro hs d a w hk hS h;unfold Zi6 at h;split at h
  ·rename_i O
   exact ⟨λ _=>hQ a w hk h,λ i hi=>by rw [O] at hi;cases hi⟩
  ·rename_i r rs O
   split at h
   ·rename_i i t
    obtain ⟨Y,o,s,F,U⟩:=UY t;rw [s] at h;simp only at h;obtain ⟨e,hd⟩:=N i o s;have p:VJ P ops i=false:=by
     unfold VJ;rw [s];simp only;rcases jy _ _|>.mp F with t|t<;>simp [t]
    have m:i∈Region.ready .any ops d:=by rw [O];exact Y
    have G:=Region.free_spec (md:=.any) s U;have y:=Region.noSelect_spec X;rcases Ym h with ⟨b,h⟩|⟨b,h⟩
    ·cases V:UE P ops d i with
     |true=>
      rw [V] at h;have hx:UE P ops d i=true:=V;rcases Wl e F h with ⟨t,v,f,hK⟩|⟨t,C,v,f,hK⟩
      ·refine YC (T:=λ _=>True) s y (λ c a w J=>absurd J (E c _ w)) p u d a w (λ j A hj q z k=>⟨G j A hj q z k,λ _ _ _ _ _=>trivial⟩) m (.inl ⟨b,?_⟩) trivial
        (ih hs (d.setIfInBounds i true) (a.put o.dst v) w (hk.put hd v) hS ?_)
       ·rw [<-Yx];exact f
       ·rw [hk.envput hd];exact hK
      ·have B:d.getD i true=false:=(mem_ready.1 m).1
       refine UN (T:=λ w'=>w'=w) (D:=ZbZ ops d i 8) s y (λ c a w J=>absurd J (E c _ w)) p (λ j A hd R hj=>ZaI 8 hd R hj) u d a w (λ j A hj q z h1 k=>⟨G j A hj q z k,λ w1 w2 h2 H x=>?_⟩) (λ j hd=>ZfQ B 8 j hd) m (.inl ⟨b,?_⟩) rfl
        (ih hs (d.setIfInBounds i true) (a.put o.dst v) w (hk.put hd v) hS ?_)
       ·have:=x (by unfold looks;rw [hj];exact Zba hx hj z h1)
        rw [this];exact h2
       ·rw [<-Yx];exact f
       ·rw [hk.envput hd];exact hK
     |false=>
     rw [V] at h;rcases Wl e F h with ⟨t,v,f,hK⟩|⟨t,C,v,f,hK⟩
     ·refine YC (T:=λ _=>True) s y (λ c a w J=>absurd J (E c _ w)) p u d a w (λ j A hj q z k=>⟨G j A hj q z k,λ _ _ _ _ _=>trivial⟩) m (.inl ⟨b,?_⟩) trivial
       (ih hs (d.setIfInBounds i true) (a.put o.dst v) w (hk.put hd v) hS ?_)
      ·rw [<-Yx];exact f
      ·rw [hk.envput hd];exact hK
     ·have h3:Yl P o.op=true:=by rw [t] at F;simpa using F
      refine YC (T:=S) s y (λ c a w J=>absurd J (E c _ w)) p u d a w (λ j A hj q z k=>⟨G j A hj q z k,λ w w' b H x=>?_⟩) m (.inl ⟨b,?_⟩) (hS C)
       (ih hs (d.setIfInBounds i true) (a.put o.dst v) w (hk.put hd v) hS ?_)
      ·cases hl:(Yo P A.op||Yl P A.op) with
       |true=>have:=x (by unfold looks;rw [hj];exact hl);rw [this];exact b
       |false=>exact H (Ze4 s hj h3 hl k)
      ·rw [<-Yx];exact f
      ·rw [hk.envput hd];exact hK
    ·refine YC (T:=λ _=>True) s y (λ c a w J=>absurd J (E c _ w)) p u d a w (λ j A hj q z k=>⟨G j A hj q z k,λ _ _ _ _ _=>trivial⟩) m (.inr ⟨b,rfl⟩) trivial
       (ih hs (d.setIfInBounds i true) (a.put o.dst undef) w (hk.put hd _) hS ?_)
     rw [hk.envput hd];exact h
   ·refine ⟨λ h0=>absurd (O ▸ h0) (by simp),λ i hi=>?_⟩
    rw [O] at hi;have h:=ZaK h i hi;split at h
    case h_2=>exact h.elim
    rename_i o s;obtain ⟨e,hd⟩:=N i o s;refine ZeC s ?_;rcases Ym h with ⟨b,h⟩|⟨b,h⟩
    ·refine .inl ⟨b,?_⟩
     split at h
     ·rename_i hl
      have L:looks P ops i=true:=by unfold looks;rw [s];exact hl
      have p:VJ P ops i=false:=by
       unfold VJ;rw [s];simp only;rcases jy _ _|>.mp hl with t|t<;>simp [t]
      obtain ⟨v,f,hK⟩:∃ v,(∀ w',w'=w->(execOp a.env.ev o).run P w'=.ok (.value v) w')/\Zi6 P cl ops S u hs (d.setIfInBounds i true) (a.env.put o.dst v) K w:=by
       rcases Wl e hl h with ⟨_,v,f,hK⟩|⟨_,_,v,f,hK⟩
       ·exact ⟨v,λ w' _=>f w' trivial,hK⟩
       ·exact ⟨v,f,hK⟩
      have:=Vs.upon (S:=λ w'=>w'=w) (a:=a) (Q:=Q) (K:=λ v' w'=>v'=v/\w'=w) rfl ⟨v,f,rfl,rfl⟩;rw [Yx] at this;refine Yp.upon_mono ?_ this;rintro a' w' ⟨v',rfl,rfl,rfl⟩;refine ⟨⟨λ l=>(by rw [p] at l;cases l),λ _=>rfl⟩,ih hs _ _ w' (hk.put hd v') hS ?_⟩;rw [hk.envput hd];exact hK
     ·rename_i hl
      have L:looks P ops i=false:=by unfold looks;rw [s];exact hl
      split at h
      ·rename_i M
       have:=Vc W (a:=a) (Q:=Q) e h;rw [Yx] at this;refine Yp.upon_mono ?_ this;rintro a' w' ⟨v,rfl,I,hK⟩;refine ⟨⟨λ _=>I,λ l=>(by rw [L] at l;cases l)⟩,ih hs _ _ w' (hk.put hd v) (λ _=>I) ?_⟩;rw [hk.envput hd];exact hK
      ·rename_i M
       have:=Vc W (a:=a) (Q:=Q) e h;rw [Yx] at this;refine Yp.upon_mono ?_ this;rintro a' w' ⟨v,rfl,hK⟩;refine ⟨⟨λ l=>(by rw [M] at l;cases l),λ l=>(by rw [L] at l;cases l)⟩,ih false _ _ w' (hk.put hd v) (λ l=>by cases l) ?_⟩;rw [hk.envput hd];exact hK
    ·refine .inr ⟨b,?_⟩
     split at h
     ·rename_i hl
      have p:VJ P ops i=false:=by
       unfold VJ;rw [s];simp only;rcases jy _ _|>.mp hl with t|t<;>simp [t]
      refine ⟨⟨λ l=>(by rw [p] at l;cases l),λ _=>rfl⟩,ih hs _ _ w (hk.put hd _) hS ?_⟩;rw [hk.envput hd];exact h
     ·rename_i hl
      have L:looks P ops i=false:=by unfold looks;rw [s];exact hl
      split at h
      ·split at h
       ·have I:=hS rfl
        refine ⟨⟨λ _=>I,λ _=>rfl⟩,ih true _ _ w (hk.put hd _) (λ _=>I) ?_⟩;rw [hk.envput hd];exact h
       ·exact h.elim
      ·rename_i M
       refine ⟨⟨λ l=>(by rw [M] at l;cases l),λ _=>rfl⟩,ih false _ _ w (hk.put hd _) (λ l=>by cases l) ?_⟩;rw [hk.envput hd];exact h
end
end
section
def ZcI (P:Program) (ops:Array Oper) (j:Nat):Bool:=
 match ops[j]? with
 |none=>false
 |some oj=>!Yl P oj.op && !Yo P oj.op && (List.range ops.size).any λ i=>match ops[i]? with
  |some oi=>Yl P oi.op && !ZbZ ops (Array.replicate ops.size false) i 8 j
  |none=>false
def okT (P:Program) (ops:Array Oper) (listed:Array Bool) (i:Nat):Bool:=(List.range ops.size).all λ j=>listed.getD j true||(ZbZ ops listed i 8 j||(ZcI P ops j||match ops[j]? with
 |some oj=>(Yo P oj.op||Yl P oj.op)
 |none=>true))
def ZlT (P:Program) (cl:FuncId->Bool) (ops:Array Oper) (S:World->Prop):Nat->Bool->Array Bool->Env->(Env->World->Prop)->World->Prop
 |0,_,listed,ρ,K,w=>(match Region.ready .any ops listed with
  |[]=>K ρ w
  |_=>False)
 |fuel + 1,hs,listed,ρ,K,w=>(match Region.ready .any ops listed with
  |[]=>K ρ w
  |r::rs=>(match ZgU P ops listed (r::rs) with
   |some i=>(match ops[i]? with
    |some o=>Un ops ρ o
      (λ ρ=>(match UE P ops listed i with
       |true=>Zpg P ops (λ w'=>w'=w) true ρ o λ v=>ZlT P cl ops S fuel hs (listed.setIfInBounds i true) (ρ.put o.dst v) K w
       |false=>(match Yo P o.op||okT P ops listed i with
        |true=>Zpg P ops S hs ρ o λ v=>ZlT P cl ops S fuel hs (listed.setIfInBounds i true) (ρ.put o.dst v) K w
        |false=>False)))
      (λ ρ=>ZlT P cl ops S fuel hs (listed.setIfInBounds i true) (ρ.put o.dst undef) K w)
    |none=>False)
   |none=>ZuH (λ i=>match ops[i]? with
    |some o=>Un ops ρ o
      (λ ρ=>(match Yo P o.op||Yl P o.op with
       |true=>False
       |false=>match ZcI P ops i with
       |true=>opF P cl ρ o (λ v w=>S w/\ZlT P cl ops S fuel hs (listed.setIfInBounds i true) (ρ.put o.dst v) K w) w
       |false=>opF P cl ρ o (λ v w=>ZlT P cl ops S fuel false (listed.setIfInBounds i true) (ρ.put o.dst v) K w) w))
      (λ ρ=>(match Yo P o.op||Yl P o.op with
       |true=>False
       |false=>match ZcI P ops i with
       |true=>(match hs with
        |true=>ZlT P cl ops S fuel true (listed.setIfInBounds i true) (ρ.put o.dst undef) K w
        |false=>False)
       |false=>ZlT P cl ops S fuel false (listed.setIfInBounds i true) (ρ.put o.dst undef) K w))
    |none=>False) (r::rs)))
section
variable {P:Program} {cl:FuncId->Bool} {ops:Array Oper} {Q:Exit->Act->World->Prop} {n:Nat} {pw:Nat->Bool} {a0:Env}
def ZrB {a:Array Bool} {i j:Nat} {d:Oper} (h:okT P ops a i=true) (hj:ops[j]? =some d) (o:a.getD j true=false) (u:ZbZ ops a i 8 j=false):ZcI P ops j=true\/(Yo P d.op||Yl P d.op)=true:=by
 unfold okT at h;have v:=qW.1 h j (jC.2 (Array.getElem?_eq_some_iff.1 hj).1);rw [o,hj,u] at v;simpa using v
def ZlI (B:∀ g,cl g=true->ZS P g=true) (R:Region.noSelect ops=true) {K:Env->World->Prop} {S:World->Prop}
  (hQ:∀ a w,W2 n pw a0 a->K a.env w->Q .normal a w) (e:∀ c a w,¬ Q (.panic c) a w) (N:∀ (i:Nat) (o:Oper),ops[i]? =some o->Zdu P o.op=true/\Wg n pw o=true):
  ∀ (u:Nat) (hs:Bool) (d:Array Bool) (a:Act) (w:World),W2 n pw a0 a->(hs=true->S w)->ZlT P cl ops S u hs d a.env K w->
   wpT P .any ops Q S (ZcI P ops) (looks P ops) u d a w:=by
 intro u
 induction u with
 |zero=>
  intro hs d a w hk hS h;unfold ZlT at h;split at h
  ·rename_i O;exact ⟨O,hQ a w hk h⟩
  ·exact h.elim
 |succ u ih=>
  intro hs d a w hk hS h;unfold ZlT at h;split at h
  ·rename_i O
   exact ⟨λ _=>hQ a w hk h,λ i hi=>by rw [O] at hi;cases hi⟩
  ·rename_i r rs O
   split at h
   ·rename_i i J
    obtain ⟨h2,o,s,f,U⟩:=W1 J;rw [s] at h;simp only at h;obtain ⟨b,hd⟩:=N i o s;have A:ZcI P ops i=false:=by
     unfold ZcI;rw [s];simp only;rcases jy _ _|>.mp f with J|J<;>simp [J]
    have y:i∈Region.ready .any ops d:=by rw [O];exact h2
    have E:=Region.free_spec (md:=.any) s U;have z:=Region.noSelect_spec R;rcases Ym h with ⟨x,h⟩|⟨x,h⟩
    ·cases V:UE P ops d i with
     |true=>
      rw [V] at h;have hx:UE P ops d i=true:=V;rcases Wl b f h with ⟨J,v,W,hK⟩|⟨J,h3,v,W,hK⟩
      ·refine YC (T:=λ _=>True) s z (λ c a w L=>absurd L (e c _ w)) A u d a w (λ j F hj l k m=>⟨E j F hj l k m,λ _ _ _ _ _=>trivial⟩) y (.inl ⟨x,?_⟩) trivial
        (ih hs (d.setIfInBounds i true) (a.put o.dst v) w (hk.put hd v) hS ?_)
       ·rw [<-Yx];exact W
       ·rw [hk.envput hd];exact hK
      ·have G:d.getD i true=false:=(mem_ready.1 y).1
       refine UN (T:=λ w'=>w'=w) (D:=ZbZ ops d i 8) s z (λ c a w L=>absurd L (e c _ w)) A (λ j F hd X hj=>ZaI 8 hd X hj) u d a w (λ j F hj l k Y m=>⟨E j F hj l k m,λ w1 w2 h4 H p=>?_⟩) (λ j hd=>ZfQ G 8 j hd) y (.inl ⟨x,?_⟩) rfl
        (ih hs (d.setIfInBounds i true) (a.put o.dst v) w (hk.put hd v) hS ?_)
       ·have:=p (by unfold looks;rw [hj];exact Zba hx hj k Y)
        rw [this];exact h4
       ·rw [<-Yx];exact W
       ·rw [hk.envput hd];exact hK
     |false=>
     rw [V] at h;simp only at h;cases t:(Yo P o.op||okT P ops d i) with
     |false=>rw [t] at h;exact h.elim
     |true=>
     rw [t] at h;simp only at h;rcases Wl b f h with ⟨J,v,W,hK⟩|⟨J,h3,v,W,hK⟩
     ·refine YC (T:=λ _=>True) s z (λ c a w L=>absurd L (e c _ w)) A u d a w (λ j F hj l k m=>⟨E j F hj l k m,λ _ _ _ _ _=>trivial⟩) y (.inl ⟨x,?_⟩) trivial
       (ih hs (d.setIfInBounds i true) (a.put o.dst v) w (hk.put hd v) hS ?_)
      ·rw [<-Yx];exact W
      ·rw [hk.envput hd];exact hK
     ·have h6:Yl P o.op=true:=by rw [J] at f;simpa using f
      have G:d.getD i true=false:=(mem_ready.1 y).1;have h5:okT P ops d i=true:=by rw [J] at t;simpa using t
      refine UN (T:=S) (D:=ZbZ ops d i 8) s z (λ c a w L=>absurd L (e c _ w)) A (λ j F hd X hj=>ZaI 8 hd X hj) u d a w (λ j F hj l k Y m=>⟨E j F hj l k m,λ w w' x H p=>?_⟩) (λ j hd=>ZfQ G 8 j hd) y (.inl ⟨x,?_⟩) (hS h3)
       (ih hs (d.setIfInBounds i true) (a.put o.dst v) w (hk.put hd v) hS ?_)
      ·rcases ZrB h5 hj k Y with h1|h1
       ·exact H h1
       ·have:=p (by unfold looks;rw [hj];exact h1);rw [this];exact x
      ·rw [<-Yx];exact W
      ·rw [hk.envput hd];exact hK
    ·refine YC (T:=λ _=>True) s z (λ c a w L=>absurd L (e c _ w)) A u d a w (λ j F hj l k m=>⟨E j F hj l k m,λ _ _ _ _ _=>trivial⟩) y (.inr ⟨x,rfl⟩) trivial
       (ih hs (d.setIfInBounds i true) (a.put o.dst undef) w (hk.put hd _) hS ?_)
     rw [hk.envput hd];exact h
   ·refine ⟨λ h0=>absurd (O ▸ h0) (by simp),λ i hi=>?_⟩
    rw [O] at hi;have h:=ZaK h i hi;split at h
    case h_2=>exact h.elim
    rename_i o s;obtain ⟨b,hd⟩:=N i o s;refine ZeC s ?_;rcases Ym h with ⟨x,h⟩|⟨x,h⟩
    ·refine .inl ⟨x,?_⟩
     split at h
     ·exact h.elim
     ·rename_i hl
      have C:looks P ops i=false:=by unfold looks;rw [s];exact hl
      split at h
      ·rename_i M
       have:=Vc B (a:=a) (Q:=Q) b h;rw [Yx] at this;refine Yp.upon_mono ?_ this;rintro a' w' ⟨v,rfl,I,hK⟩;refine ⟨⟨λ _=>I,λ q=>(by rw [C] at q;cases q)⟩,ih hs _ _ w' (hk.put hd v) (λ _=>I) ?_⟩;rw [hk.envput hd];exact hK
      ·rename_i M
       have:=Vc B (a:=a) (Q:=Q) b h;rw [Yx] at this;refine Yp.upon_mono ?_ this;rintro a' w' ⟨v,rfl,hK⟩;refine ⟨⟨λ q=>(by rw [M] at q;cases q),λ q=>(by rw [C] at q;cases q)⟩,ih false _ _ w' (hk.put hd v) (λ q=>by cases q) ?_⟩;rw [hk.envput hd];exact hK
    ·refine .inr ⟨x,?_⟩
     split at h
     ·exact h.elim
     ·rename_i hl
      have C:looks P ops i=false:=by unfold looks;rw [s];exact hl
      split at h
      ·split at h
       ·have I:=hS rfl
        refine ⟨⟨λ _=>I,λ _=>rfl⟩,ih true _ _ w (hk.put hd _) (λ _=>I) ?_⟩;rw [hk.envput hd];exact h
       ·exact h.elim
      ·rename_i M
       refine ⟨⟨λ q=>(by rw [M] at q;cases q),λ _=>rfl⟩,ih false _ _ w (hk.put hd _) (λ q=>by cases q) ?_⟩;rw [hk.envput hd];exact h
end
end
section
def Cur (R:Type):List Ty->Type
 |[]=>R
 |t::ts=>t.T->Cur R ts
def app {R:Type}:(ts:List Ty)->Cur R ts->List Value->(R->Prop)->Prop
 |[],f,_,φ=>φ f
 |t::ts,f,v::vs,φ=>t.un v λ x=>app ts (f x) vs φ
 |_::_,_,[],_=>False
def Ty.all:(t:Ty)->(Value->Prop)->Prop
 | .int k,φ=>∀ n:Int,φ (.int k n)
 | .bool,φ=>∀ b:Bool,φ (.bool b)
 | .str,φ=>∀ s:ByteArray,φ (.string s)
 | .sl,φ=>∀ s:Sl,φ (.slice s.a s.len s.cap)
 | .ptr,φ=>∀ p:Option Addr,φ (.pointer p)
 | .map,φ=>∀ m:Option Nat,φ (.map m)
 | .flt,φ=>∀ n:Nat,φ (.float .f64 n)
 | .any,φ=>∀ v:Value,φ v
def Ty.all_enc {t:Ty} {φ:Value->Prop} (h:t.all φ) (x:t.T):φ (t.enc x):=by
 cases t<;>exact h x
def ZuG:List Ty->(List Value->Prop)->Prop
 |[],φ=>φ []
 |t::ts,φ=>t.all λ v=>ZuG ts λ vs=>φ (v::vs)
def Zdi {R:Type}:∀ {ts:List Ty} {f:Cur R ts} {vs:List Value} {φ:R->Prop} {ψ:List Value->Prop},vs.length=ts.length->app ts f vs φ->ZuG ts ψ->ψ vs
 |[],_,vs,_,_,hl,_,h=>by
  cases vs with
  |nil=>exact h
  |cons v vs=>simp at hl
 |t::ts,f,[],_,_,hl,_,_=>by simp at hl
 |t::ts,f,v::vs,φ,ψ,hl,d,h=>by
  obtain ⟨x,rfl,a⟩:=Ty.un_enc (show t.un v λ x=>app ts (f x) vs φ from d)
  have o:ZuG ts λ vs=>ψ (t.enc x::vs):=Ty.all_enc (t:=t) (φ:=λ v=>ZuG ts λ vs=>ψ (v::vs)) h x;exact Zdi (ψ:=λ vs=>ψ (t.enc x::vs)) (by simpa using hl) a o
def ZlR {R:Type} (d:R):(ts:List Ty)->Cur R ts->List Value->R
 |[],f,_=>f
 |t::ts,f,v::vs=>match t,f,v with
  | .int k,f,.int k' n=>if k=k' then ZlR d ts (f n) vs else d
  | .bool,f,.bool b=>ZlR d ts (f b) vs
  | .str,f,.string s=>ZlR d ts (f s) vs
  | .sl,f,.slice a n c=>ZlR d ts (f ⟨a,n,c⟩) vs
  | .ptr,f,.pointer p=>ZlR d ts (f p) vs
  | .map,f,.map m=>ZlR d ts (f m) vs
  | .flt,f,.float .f64 n=>ZlR d ts (f n) vs
  | .any,f,v=>ZlR d ts (f v) vs
  |_,_,_=>d
 |_::_,_,[]=>d
def Zdh {R:Type} {d:R}:∀ {ts:List Ty} {f:Cur R ts} {vs:List Value} {φ:R->Prop},app ts f vs φ->φ (ZlR d ts f vs)
 |[],_,_,_,h=>h
 |t::ts,f,[],_,h=>h.elim
 |t::ts,f,v::vs,φ,h=>by
  obtain ⟨x,rfl,a⟩:=Ty.un_enc (show t.un v λ x=>app ts (f x) vs φ from h)
  cases t<;>simp only [ZlR,Ty.enc,vp]<;>exact Zdh a
structure ZqZ where
 nrm:Env->World->Prop
 ex:Nat->Env->World->Prop
 ret:Env->World->Prop
inductive Sk where
 |leaf
 |seq (a b:Sk)
 |cond (a b:Sk)
 |block (a:Sk)
 |loop (ms:List Nat) (ts:List Ty) (W:List Nat) (a:Sk)
 |cut (ms:List Nat) (ts:List Ty) (W:List Nat) (a b:Sk)
def Sk.l:Sk->Sk
 | .seq a _| .cond a _| .block a| .loop _ _ _ a| .cut _ _ _ a _=>a
 |_=>.leaf
def Sk.r:Sk->Sk
 | .seq _ b| .cond _ b| .cut _ _ _ _ b=>b
 |_=>.leaf
def Zg5 (i:Nat):List Nat->Bool
 |[]=>false
 |j::js=>match Nat.beq i j with|true=>true|false=>Zg5 i js
def look:List Nat->List Value->Nat->Option Value
 |m::ms,v::vs,i=>match Nat.beq i m with|true=>some v|false=>look ms vs i
 |_,_,_=>none
def mix (ρ:Env) (W ms:List Nat) (vs:List Value) (z:Env):Env:=λ i=>
 match look ms vs i with
 |some v=>v
 |none=>match Zg5 i W with
  |true=>z i
  |false=>ρ i
def vals (ms:List Nat) (ρ:Env):List Value:=ms.map ρ
def ZpG (ts:List Ty) (ms W:List Nat) (ρ:Env) (body:Env->(Env->World->Prop)->World->Prop) (w:World):Prop:=
 ∃ (I:Cur (World->Prop) ts) (μ:Cur (World->Nat) ts),app ts I (vals ms ρ) (λ p=>p w)/\
  ∀ z:Env,ZuG ts λ vs=>∀ w,app ts I vs (λ p=>p w)->
   body (mix ρ W ms vs z) (λ ρ' w'=>app ts I (vals ms ρ') (λ p=>p w')/\app ts μ (vals ms ρ') (λ m'=>app ts μ vs (λ m=>m' w'<m w))) w
def ZwL (ts:List Ty) (ms W:List Nat) (ρ:Env) (first:(Env->World->Prop)->Prop) (rest:Env->World->Prop):Prop:=
 ∃ J:Cur (World->Prop) ts,first (λ ρ' w'=>app ts J (vals ms ρ') (λ p=>p w'))/\
  ∀ z:Env,ZuG ts λ vs=>∀ w,app ts J vs (λ p=>p w)->rest (mix ρ W ms vs z) w
def den (P:Program) (cl:FuncId->Bool):Code->Sk->Env->ZqZ->World->Prop
 | .skip,_,ρ,K,w=>K.nrm ρ w
 | .label _,_,ρ,K,w=>K.nrm ρ w
 | .region _ ops d,sk,ρ,K,w=>(match d with
  |false=>Zo1 P cl ops ops.toList ρ K.nrm w
  |true=>(match sk with
   | .block _=>Drw w λ S w'=>ZlL P cl ops S true ops.size true (Array.replicate ops.size false) ρ K.nrm w'
   | .seq _ _=>Drw w λ S w'=>Zi6 P cl ops S ops.size true (Array.replicate ops.size false) ρ K.nrm w'
   | .cond _ _=>Drw w λ S w'=>ZlT P cl ops S ops.size true (Array.replicate ops.size false) ρ K.nrm w'
   |_=>Drw w λ S w'=>ZlL P cl ops S false ops.size true (Array.replicate ops.size false) ρ K.nrm w'))
 | .seq a b,sk,ρ,K,w=>(match sk with
  | .cut ms ts W _ _=>ZwL ts ms W ρ (λ k=>den P cl a sk.l ρ { K with nrm:=k } w) (λ ρ' w'=>den P cl b sk.r ρ' K w')
  |_=>den P cl a sk.l ρ { K with nrm:=λ ρ' w'=>den P cl b sk.r ρ' K w' } w)
 | .cond c a b,sk,ρ,K,w=>(match ρ.ev c with
  | .bool t=>Br t (den P cl a sk.l ρ K w) (den P cl b sk.r ρ K w)
  |_=>False)
 | .block id a,sk,ρ,K,w=>den P cl a sk.l ρ { K with ex:=λ i=>match Nat.beq i id with|true=>K.nrm|false=>K.ex i } w
 | .loop a,sk,ρ,K,w=>(match sk with
  | .loop ms ts W _=>ZpG ts ms W ρ (λ ρ' k w'=>den P cl a sk.l ρ' { K with nrm:=k } w') w
  |_=>False)
 | .scope a,sk,ρ,K,w=>den P cl a sk.l ρ K w
 | .exit id,_,ρ,K,w=>K.ex id ρ w
 | .ret,_,ρ,K,w=>K.ret ρ w
 |_,_,_,_,_=>False
def ZaO (pw:Nat->Bool):Code->Bool
 | .region _ ops _=>ops.all λ o=>match o.dst with|some d=>pw d|none=>true
 | .seq a b| .cond _ a b=>ZaO pw a && ZaO pw b
 | .block _ a| .loop a| .scope a=>ZaO pw a
 | .rangeFunc _ _ _ _=>false
 |_=>true
def UG (P:Program) (n:Nat):Code->Bool
 | .region _ ops _=>Region.noSelect ops && ops.all λ o=>Zdu P o.op && (match o.dst with|some d=>Nat.blt d n|none=>true)
 | .seq a b| .cond _ a b=>UG P n a && UG P n b
 | .block _ a| .loop a| .scope a=>UG P n a
 | .rangeFunc _ _ _ _=>false
 |_=>true
def ZfU:Code->Sk->Bool
 | .seq a b,sk=>(match sk with
  | .cut ms ts W _ _=>ZaO (λ i=>Zg5 i W) a && Nat.beq ms.length ts.length
  |_=>true) && ZfU a sk.l && ZfU b sk.r
 | .cond _ a b,sk=>ZfU a sk.l && ZfU b sk.r
 | .block _ a,sk| .scope a,sk=>ZfU a sk.l
 | .loop a,sk=>(match sk with
  | .loop ms ts W _=>ZaO (λ i=>Zg5 i W) a && Nat.beq ms.length ts.length
  |_=>true) && ZfU a sk.l
 |_,_=>true
def PK (n:Nat) (pw:Nat->Bool) (a0:Env) (K:ZqZ):Exit->Act->World->Prop
 | .normal,a,w=>W2 n pw a0 a/\K.nrm a.env w
 | .exit i,a,w=>W2 n pw a0 a/\K.ex i a.env w
 | .ret,a,w=>W2 n pw a0 a/\K.ret a.env w
 |_,_,_=>False
def Znm {ms:List Nat} {ρ:Env} {i:Nat} {v:Value} (h:look ms (vals ms ρ) i=some v):v=ρ i:=by
 induction ms with
 |nil=>cases h
 |cons m ms ih=>
  simp only [vals,qi,look] at h;split at h
  ·rename_i a
   cases h;rw [qA a]
  ·exact ih h
def Ze6 {ρ e:Env} {W ms:List Nat} (h:∀ i,Zg5 i W=false->e i=ρ i):mix ρ W ms (vals ms e) e=e:=by
 funext i
 unfold mix;split
 ·rename_i v a;exact Znm a
 ·split
  ·rfl
  ·rename_i hm;exact (h i hm).symm
def ZbG (ms:List Nat) (ρ:Env):(vals ms ρ).length=ms.length:=by simp [vals]
def X9 {p q:Nat->Bool}:∀ {c:Code},ZaO p c=true->ZaO q c=true->ZaO (λ i=>p i && q i) c=true
 | .region _ ops _,h,d=>by
  simp only [ZaO,q8] at *;intro o u;have:=h o u;have:=d o u;cases hd:o.dst<;>simp_all
 | .seq a b,h,d=>by
  simp only [ZaO,ql] at *;exact ⟨X9 h.1 d.1,X9 h.2 d.2⟩
 | .cond _ a b,h,d=>by
  simp only [ZaO,ql] at *;exact ⟨X9 h.1 d.1,X9 h.2 d.2⟩
 | .block _ a,h,d=>X9 (c:=a) h d
 | .loop a,h,d=>X9 (c:=a) h d
 | .scope a,h,d=>X9 (c:=a) h d
 | .rangeFunc _ _ _ _,h,_=>by cases h
 | .skip,_,_=>rfl
 | .exit _,_,_=>rfl
 | .label _,_,_=>rfl
 | .goto _,_,_=>rfl
 | .ret,_,_=>rfl
 | .refuse _,_,_=>rfl
def W2.refl {n:Nat} {pw:Nat->Bool} {a:Act} (h:a.tmps.size=n) (hd:a.defers=[]):W2 n pw a.env a:=⟨h,hd,λ _ _=>rfl⟩
def W2.trans {n:Nat} {pw q:Nat->Bool} {a0:Env} {a b:Act} (h:W2 n pw a0 a) (h':W2 n (λ i=>pw i && q i) a.env b):W2 n pw a0 b:=
 ⟨h'.size,h'.defers,λ i hi=>(h'.same i (by simp [hi])).trans (h.same i hi)⟩
variable {P:Program} {cl:FuncId->Bool} {n:Nat}
def ZgI (z:∀ g,cl g=true->ZS P g=true) (v:P.follows .mixedOrders=true) {pw:Nat->Bool} {a0:Env} {id:Nat} {ops:Array Oper} {d:Bool}
  (j:UG P n (.region id ops d)=true) (l:ZaO pw (.region id ops d)=true) {sk:Sk} {K:ZqZ} {a:Act} {w:World} (hk:W2 n pw a0 a)
  (h:den P cl (.region id ops d) sk a.env K w):(Code.region id ops d).wp P (PK n pw a0 K) a w:=by
 simp only [UG,ql,q8] at j;simp only [ZaO,q8] at l;have u:∀ o∈ops,Zdu P o.op=true/\Wg n pw o=true:=λ o y=>by
  have k:=j.2 o y;have m:=l o y;refine ⟨k.1,?_⟩;unfold Wg;cases hd:o.dst with
  |none=>rfl
  |some x=>rw [hd] at k m;simp only [ql];exact ⟨k.2,m⟩
 unfold den at h;cases d with
 |false=>
  exact wp_region_list (Yp (Q:=PK n pw a0 K) z (λ a w hk h=>⟨hk,h⟩) ops.toList (λ o y=>u o (by simpa using y)) a w hk h)
 |true=>
  have key:∀ ex:Bool,(Drw w λ S w'=>ZlL P cl ops S ex ops.size true (Array.replicate ops.size false) a.env K.nrm w')->(Code.region id ops true).wp P (PK n pw a0 K) a w:=λ ex h=>by
   obtain ⟨p,S,hS,h⟩:=h;obtain ⟨hS,h⟩:=h _ hS;exact wp_region_any v (Zb3 _ _ _ _ (ZlK (Q:=PK n pw a0 K) z j.1 (λ a w hk h=>⟨hk,h⟩) (λ _ _ _ h=>h) (λ i o y=>u o (Array.mem_of_getElem? y)) _ _ _ _ _ hk (λ _=>hS) h))
  have keyG:(Drw w λ S w'=>Zi6 P cl ops S ops.size true (Array.replicate ops.size false) a.env K.nrm w')->(Code.region id ops true).wp P (PK n pw a0 K) a w:=λ h=>by
   obtain ⟨p,S,hS,h⟩:=h;obtain ⟨hS,h⟩:=h _ hS;exact wp_region_any v (Zb3 _ _ _ _ (ZlJ (Q:=PK n pw a0 K) z j.1 (λ a w hk h=>⟨hk,h⟩) (λ _ _ _ h=>h) (λ i o y=>u o (Array.mem_of_getElem? y)) _ _ _ _ _ hk (λ _=>hS) h))
  have keyT:(Drw w λ S w'=>ZlT P cl ops S ops.size true (Array.replicate ops.size false) a.env K.nrm w')->(Code.region id ops true).wp P (PK n pw a0 K) a w:=λ h=>by
   obtain ⟨p,S,hS,h⟩:=h;obtain ⟨hS,h⟩:=h _ hS;exact wp_region_any v (Zb3 _ _ _ _ (ZlI (Q:=PK n pw a0 K) z j.1 (λ a w hk h=>⟨hk,h⟩) (λ _ _ _ h=>h) (λ i o y=>u o (Array.mem_of_getElem? y)) _ _ _ _ _ hk (λ _=>hS) h))
  cases sk<;>first|exact key _ h|exact keyG h|exact keyT h
def Xx (z:∀ g,cl g=true->ZS P g=true) (u:P.follows .mixedOrders=true):∀ (c:Code) (sk:Sk) (pw:Nat->Bool) (a0:Env),
  UG P n c=true->ZaO pw c=true->ZfU c sk=true->∀ (a:Act) (K:ZqZ) (w:World),W2 n pw a0 a->den P cl c sk a.env K w->c.wp P (PK n pw a0 K) a w
 | .skip,sk,pw,a0,_,_,_,a,K,w,hk,h=>wp_skip ⟨hk,h⟩
 | .label _,sk,pw,a0,_,_,_,a,K,w,hk,h=>wp_label ⟨hk,h⟩
 | .exit _,sk,pw,a0,_,_,_,a,K,w,hk,h=>wp_exit ⟨hk,h⟩
 | .ret,sk,pw,a0,_,_,_,a,K,w,hk,h=>wp_ret ⟨hk,h⟩
 | .region id ops d,sk,pw,a0,j,m,_,a,K,w,hk,h=>ZgI z u j m hk h
 | .goto _,sk,pw,a0,_,_,_,a,K,w,hk,h=>h.elim
 | .refuse _,sk,pw,a0,_,_,_,a,K,w,hk,h=>h.elim
 | .rangeFunc _ _ _ _,sk,pw,a0,_,_,_,a,K,w,hk,h=>h.elim
 | .scope c,sk,pw,a0,j,m,hs,a,K,w,hk,h=>by
  refine wp_scope_straight ?_;refine Code.wp_mono ?_ (Xx z u c sk.l pw a0 j m hs a K w hk h);intro e a w o;cases e<;>first|exact o|exact o.elim
 | .block id c,sk,pw,a0,j,m,hs,a,K,w,hk,h=>by
  refine wp_block ?_;refine Code.wp_mono ?_ (Xx z u c sk.l pw a0 j m hs a _ w hk h);intro e a w o;cases e with
  |exit i=>
   obtain ⟨hk,o⟩:=o;show if i=id then _ else _
   by_cases hi:i=id
   ·subst hi
    rw [qf rfl];have:Nat.beq i i=true:=by simp
    simp only [this] at o;exact ⟨hk,o⟩
   ·rw [qc hi]
    have:Nat.beq i id=false:=by
     cases s:Nat.beq i id with
     |false=>rfl
     |true=>exact absurd (qA s) hi
    simp only [this] at o;exact ⟨hk,o⟩
  |normal=>exact o
  |ret=>exact o
  |_=>exact o.elim
 | .cond c x y,sk,pw,a0,j,m,hs,a,K,w,hk,h=>by
  simp only [UG,ZaO,ZfU,ql] at j m hs;unfold den at h;split at h
  ·rename_i t ht
   rw [Yx] at ht;refine wp_cond_split ht (λ s=>?_) (λ s=>?_)
   ·subst s;exact Xx z u x sk.l pw a0 j.1 m.1 hs.1 a K w hk h
   ·subst s;exact Xx z u y sk.r pw a0 j.2 m.2 hs.2 a K w hk h
  ·exact h.elim
 | .seq x y,sk,pw,a0,j,m,hs,a,K,w,hk,h=>by
  simp only [UG,ZaO,ZfU,ql] at j m hs;refine wp_seq ?_;have plain:den P cl x sk.l a.env { K with nrm:=λ ρ' w'=>den P cl y sk.r ρ' K w' } w->x.wp P (Exit.then (y.wp P (PK n pw a0 K)) (PK n pw a0 K)) a w:=λ h=>by
   refine Code.wp_mono ?_ (Xx z u x sk.l pw a0 j.1 m.1 hs.1.2 a _ w hk h);intro e a w o;cases e with
   |normal=>exact Xx z u y sk.r pw a0 j.2 m.2 hs.2 a K w o.1 o.2
   |_=>exact o
  cases sk with
  |cut ms ts W l r=>
   simp only [ql] at hs;obtain ⟨J,G,L⟩:=(show ZwL ts ms W a.env (λ k=>den P cl x l a.env { K with nrm:=k } w) (λ ρ' w'=>den P cl y r ρ' K w') from h)
   have:=Xx z u x l (λ i=>pw i && Zg5 i W) a.env j.1 (X9 m.1 hs.1.1.1) hs.1.2 a _ w (W2.refl hk.size hk.defers) G;refine Code.wp_mono ?_ this;intro e b w' o;cases e with
   |normal=>
    obtain ⟨q,o⟩:=o;have E:=L b.env;have s:=Zdi (by rw [ZbG];exact qA hs.1.1.2) o E w' o;rw [Ze6 (λ i hi=>q.same i (by simp [hi]))] at s;exact Xx z u y r pw a0 j.2 m.2 hs.2 b K w' (hk.trans q) s
   |exit i=>exact ⟨hk.trans o.1,o.2⟩
   |ret=>exact ⟨hk.trans o.1,o.2⟩
   |_=>exact o.elim
  |leaf=>exact plain h
  |seq l r=>exact plain h
  |cond l r=>exact plain h
  |block l=>exact plain h
  |loop ms ts W l=>exact plain h
 | .loop c,sk,pw,a0,j,m,hs,a,K,w,hk,h=>by
  cases sk with
  |loop ms ts W l=>
   simp only [ZfU,ql] at hs;have j:UG P n c=true:=j;have m:ZaO pw c=true:=m;obtain ⟨I,μ,M,D⟩:=(show ZpG ts ms W a.env (λ ρ' k w'=>den P cl c l ρ' { K with nrm:=k } w') w from h)
   have F:∀ e:Env,(vals ms e).length=ts.length:=λ e=>by rw [ZbG];exact qA hs.1.2
   refine wp_loop (λ b v=>W2 n pw a0 b/\(∀ i,Zg5 i W=false->b.env i=a.env i)/\app ts I (vals ms b.env) (λ p=>p v))
    (λ b v=>ZlR (λ _=>0) ts μ (vals ms b.env) v) ⟨hk,λ _ _=>rfl,M⟩ ?_
   rintro b v ⟨q,f,hI⟩;have s:=Zdi (F b.env) hI (D b.env) v hI;rw [Ze6 f] at s;have:=Xx z u c l (λ i=>pw i && Zg5 i W) b.env j (X9 m hs.1.1) hs.2 b _ v (W2.refl q.size q.defers) s;refine Code.wp_mono ?_ this;intro e b' v' o;cases e with
   |normal=>
    obtain ⟨A,H,N⟩:=o;exact ⟨⟨q.trans A,λ i hi=>(A.same i (by simp [hi])).trans (f i hi),H⟩,by
     have G:=Zdh (d:=λ _=>0) N;exact Zdh (d:=λ _=>0) G⟩
   |exit i=>exact ⟨q.trans o.1,o.2⟩
   |ret=>exact ⟨q.trans o.1,o.2⟩
   |_=>exact o.elim
  |_=>exact False.elim h
def Gr:List Value->Env
 |[],_=>undef
 |v::vs,i=>match i with
  |0=>v
  |i + 1=>Gr vs i
def Zx8 (K:nK) (vs:List Value) (w:World):Prop:=
 match vs with
 |[v]=>K v w
 |vs=>K (.tuple vs.toArray) w
def ZmG (P:Program) (ρ:Env) (K:nK):List ResultVar->List Value->World->Prop
 |[],acc,w=>Zx8 K acc.reverse w
 | .tmp t::rs,acc,w=>ZmG P ρ K rs (ρ t::acc) w
 | .cell a t::rs,acc,w=>Zdw P (λ w'=>w'=w) t (ρ a) λ v=>ZmG P ρ K rs (v::acc) w
def Zx5 (P:Program) (n:Nat) (fn:Func) (sk:Sk):Bool:=
 Nat.beq n fn.ntmps && (match fn.body with|some c=>UG P n c && ZaO (λ _=>true) c && ZfU c sk|none=>false) &&
  fn.results.all λ r=>match r with| .tmp _=>true| .cell _ t=>Znx P t
def fnF (P:Program) (cl:FuncId->Bool) (fn:Func) (sk:Sk) (args:List Value) (K:nK) (w:World):Prop:=
 match fn.body with
 |some c=>den P cl c sk (Gr args) { nrm:=λ ρ w=>ZmG P ρ K fn.results.toList [] w,ex:=λ _ _ _=>False,ret:=λ ρ w=>ZmG P ρ K fn.results.toList [] w } w
 |none=>False
def Zbg:∀ (vs:List Value) (i:Nat),Gr vs i=vs.getD i undef
 |[],i=>by simp [Gr]
 |v::vs,0=>rfl
 |v::vs,i + 1=>by simpa [Gr] using Zbg vs i
def Zct (tmps:Array Value):ResultVar->Sem Value
 | .tmp t=>pure (tmps.getD t undef)
 | .cell a t=>do loadVar t (<-asAddr (tmps.getD a undef))
def ZdX (fn:Func) (tmps:Array Value):results fn tmps=(do
  let vs<-fn.results.mapM (Zct tmps)
  pure (if h:vs.size=1 then vs[0] else .tuple vs)):=by
 unfold results
 congr 1
theorem UU {a:Act} {K:Value->World->Prop} {w:World}:∀ (rs:List ResultVar) (acc:List Value),(∀ r∈rs,(match r with| .tmp _=>true| .cell _ t=>Znx P t)=true)->
  ZmG P a.env K rs acc w->∃ vs:List Value,(rs.mapM (Zct a.tmps)).run P w=.ok vs w/\Zx8 K (acc.reverse++vs) w
 |[],acc,_,h=>⟨[],rfl,by rw [List.append_nil];exact h⟩
 | .tmp t::rs,acc,hok,h=>by
  obtain ⟨vs,hr,hf⟩:=UU rs (a.env t::acc) (λ r hr=>hok r (List.mem_cons_of_mem _ hr)) h;refine ⟨a.env t::vs,?_,by simpa using hf⟩;simp only [List.mapM_cons,Sem.run_bind,Zct,Sem.run_pure,Result.andThen_ok,hr];rfl
 | .cell p t::rs,acc,hok,h=>by
  obtain ⟨v, hv, h⟩ := ZcN (ρ := fun _ => a.env p) (dst := none) (ty := 0) (pos := "") (after := #[]) (guard := none) (T := t) (x := .tmp 0) (hok _ (List.mem_cons_self ..)) h
  obtain ⟨vs,hr,hf⟩:=UU rs (v::acc) (λ r hr=>hok r (List.mem_cons_of_mem _ hr)) h;refine ⟨v::vs,?_,by simpa using hf⟩;have hv:=hv w rfl;simp only [execOp,Sem.run_bind,Instr.loadAt] at hv;have h2:(Zct a.tmps (.cell p t)).run P w=.ok v w:=by
   have ep:a.env p=a.tmps.getD p undef:=rfl;rw [ep] at hv;simp only [Zct];generalize a.tmps.getD p undef=x at *;cases x<;>simp [Instr.sureAddr] at hv
   case pointer q=>
    cases q<;>simp at hv
    case some ad=>
     simp only [asAddr,Sem.run_bind,Sem.run_pure,Result.andThen_ok];generalize (loadVar t ad).run P w=r at *;cases r<;>simp at hv
     case ok x w'=>rw [hv.1,hv.2]
  rw [List.mapM_cons,Sem.run_bind,h2,Result.andThen_ok,Sem.run_bind,hr];rfl
def Zg (P:Program) (f:FuncId) (args:Array Value) (w:World) (Q:nK):Prop:=Calls P f args w λ e w'=>∃ v,e=.returned v/\Q v w'
def Zg.use {f:FuncId} {args:Array Value} {w:World} {Q:Value->World->Prop} {R:Ending->World->Prop} (h:Zg P f args w Q) (k:∀ v w',Q v w'->R (.returned v) w'):Calls P f args w R:=
 Calls.mono h λ _ w' ⟨v,a,d⟩=>by rw [a];exact k v w' d
def Zg.u {P : Program} {f : FuncId} {a : Array Value} {w : World} {V : Value} {S : World -> Prop} {Q : Ending -> World -> Prop} (h : Zg P f a w λ v w' => v = V /\ S w') (k : ∀ w', S w' -> Q (.returned V) w') : Calls P f a w Q := h.use λ _ w' ⟨e, hs⟩ => by subst e; exact k w' hs
def Zg.u1 {α : Type} {P : Program} {f : FuncId} {a : Array Value} {w : World} {V : α -> Value} {S : α -> World -> Prop} {Q : Ending -> World -> Prop} (h : Zg P f a w λ v w' => ∃ t, v = V t /\ S t w') (k : ∀ t w', S t w' -> Q (.returned (V t)) w') : Calls P f a w Q := h.use λ _ w' ⟨t, e, hs⟩ => by subst e; exact k t w' hs
def Zg.mono {f:FuncId} {args:Array Value} {w:World} {Q a:Value->World->Prop} (h:Zg P f args w Q) (k:∀ v w',Q v w'->a v w'):Zg P f args w a:=
 Calls.mono h λ _ w' ⟨v,d,o⟩=>⟨v,d,k v w' o⟩
def Zp8 {f:FuncId} {fn:Func} {sk:Sk} (p:∀ g,cl g=true->ZS P g=true) (k:P.follows .mixedOrders=true)
  (l:P.funcs[f]? =some fn) (y:Zx5 P fn.ntmps fn sk=true) {args:List Value} {K:Value->World->Prop} {w:World} (q:args.length<=fn.ntmps)
  (h:fnF P cl fn sk args K w):Zg P f args.toArray w K:=by
 unfold Zg;unfold fnF at h;unfold Zx5 at y;simp only [ql] at y;obtain ⟨⟨_,d⟩,o⟩:=y;split at h
 case h_2=>exact h.elim
 rename_i c b;rw [b] at d;simp only [ql] at d;refine calls_of_wp l b ?_;have m:({ tmps:=args.toArray++Array.replicate (fn.ntmps - args.toArray.size) undef,defers:=[] }:Act).env=Gr args:=by
  funext i
  rw [Zbg];simp only [Act.env];rcases vO i args.length with hi|hi
  ·simp [Array.getElem?_append,hi]
  ·simp only [Array.getD_eq_getD_getElem?,Array.getElem?_append,vP,qc (Nat.not_lt.2 hi),Array.getElem?_replicate,List.getD_eq_getElem?_getD,List.getElem?_eq_none hi]
   split<;>rfl
 rw [<-m] at h;have z:∀ r∈fn.results.toList,(match r with| .tmp _=>true| .cell _ t=>Znx P t)=true:=λ r s=>by
  rw [q8] at o;exact o r (by simpa using s)
 have fin:∀ (a:Act) (w:World),a.defers=[]->ZmG P a.env K fn.results.toList [] w->
   a.defers=[]/\∃ v,(results fn a.tmps).run P w=.ok v w/\(∃ A,Ending.returned v=.returned A/\K A w):=λ a w hd s=>by
  obtain ⟨vs,x,l⟩:=UU fn.results.toList [] z s;refine ⟨hd,?_⟩;have hm:(fn.results.mapM (Zct a.tmps)).run P w=.ok vs.toArray w:=by
   rw [uF];simp only [Sem.run_map,x,Result.andThen_ok]
  refine ⟨_,by rw [ZdX,Sem.run_bind,hm];rfl,?_⟩;cases vs with
  |nil=>exact ⟨_,rfl,l⟩
  |cons v vs=>cases vs with
   |nil=>exact ⟨_,rfl,l⟩
   |cons u us=>exact ⟨_,rfl,l⟩
 refine Code.wp_mono ?_ (Xx (n:=fn.ntmps) p k c sk (λ _=>true) _ d.1.1 d.1.2 d.2 _ _ w (W2.refl (by simp;omega) rfl) h);intro e a w j;cases e with
 |normal=>exact fin a w j.1.defers j.2
 |ret=>exact fin a w j.1.defers j.2
 |exit i=>exact j.2.elim
 |_=>exact j.elim
end
def Zws (P:Program) (cl:FuncId->Bool) (X:List PanicEntry->World->Prop) (f:Value) (args:Array Value) (t:Rt) (K:nK) (w:World):Prop:=
 XP P cl f args.toList w λ e w'=>(t.ex λ v=>e=.returned v/\K v w')\/∃ ch,e=.panicked ch/\X ch w'
def thrF (X:List PanicEntry->World->Prop) (x:Value) (w:World):Prop:=
 match x with
 | .iface t v=>X [{ v:=.iface t v,recovered:=false }] w
 |_=>False
def ZpY (op:Op):Nat:=
 match op with
 | .call c=>(match c.callee with| .value _=>6|_=>0)
 | .panic _=>7
 |_=>0
def Zsb (P:Program) (cl:FuncId->Bool) (X:List PanicEntry->World->Prop) (ρ:Env) (o:Oper) (K:nK) (w:World):Prop:=
 match ZpY o.op with
 |6=>(match o.op with| .call c=>(match c.callee with| .value f=>Zws P cl X (ρ.ev f) (c.args.map ρ.ev) (ZuC P o.type) K w|_=>False)|_=>False)
 |7=>(match o.op with| .panic x=>thrF X (ρ.ev x) w|_=>False)
 |_=>ZwK P cl ρ o K w
def ZiS {P:Program} {cl:FuncId->Bool} (y:∀ g,cl g=true->ZS P g=true) {X:List PanicEntry->World->Prop} {a:Act} {e:Env} {o:Oper} {K:Value->World->Prop} {w:World}
  {Q:Exit->Act->World->Prop} (l:∀ z w,X z w->Q (.panic z) a w) (h:Zsb P cl X e o K w):o.upon P a (ZlP a o.dst K) Q ((execOp e.ev o).run P w):=by
 unfold Zsb at h;split at h
 ·rename_i hk
  clear hk;obtain ⟨dst,k,ty,pos,after,guard⟩:=o;cases k<;>simp only at h<;>first|exact h.elim|skip
  case call c=>
   obtain ⟨i,args,j⟩:=c;cases i<;>simp only at h<;>first|exact h.elim|skip
   case value f=>
    unfold Zws XP at h;split at h
    case h_2=>exact h.elim
    rename_i fn first captured m
    split at h
    case h_2=>exact h.elim
    rename_i g;have d:(first++args.map e.ev)++captured=(first.toList++((args.map e.ev).toList++captured.toList)).toArray:=by
     apply vd;simp
    split at h
    case h_2=>
     obtain ⟨p,w',n,u⟩:=h;have:(execOp e.ev ⟨dst,.call ⟨.value f,args,j⟩,ty,pos,after,guard⟩).run P w=.ok (.value p) w':=by
      simp only [execOp,resolve,m,Deferred.ofValue];simp only [Sem.run_bind,Sem.run_pure,Result.andThen_ok,invoke,<-d] at n ⊢;exact n
     rw [this];rcases u with u|⟨z,q,_⟩
     ·obtain ⟨v,r,hK⟩:=Rt.ex_some u
      cases r;exact ⟨_,rfl,hK⟩
     ·cases q
    rename_i s;have:(execOp e.ev ⟨dst,.call ⟨.value f,args,j⟩,ty,pos,after,guard⟩).run P w=.ok (.enter g (first.toList++((args.map e.ev).toList++captured.toList)).toArray) w:=by
     simp only [execOp,resolve,m,Deferred.ofValue];simp only [Sem.run_bind,Sem.run_pure,Result.andThen_ok,invoke,<-d];exact UI (y g s) _ w
    rw [this];refine Calls.mono h ?_;rintro en w' (u|⟨z,rfl,u⟩)
    ·obtain ⟨v,rfl,hK⟩:=Rt.ex_some u
     exact ⟨v,rfl,hK⟩
    ·exact l z w' u
 ·rename_i hk
  clear hk;obtain ⟨dst,k,ty,pos,after,guard⟩:=o;cases k<;>simp only at h<;>first|exact h.elim|skip
  case panic x=>
   unfold thrF at h;split at h
   ·rename_i t v u
    have:(execOp e.ev ⟨dst,.panic x,ty,pos,after,guard⟩).run P w=.halt (.panic (.iface t v)) w:=by
     simp only [execOp,u];rfl
    rw [this];exact l _ w h
   ·exact h.elim
 ·exact Zep y h
def ZuT (P:Program) (cl:FuncId->Bool) (X:List PanicEntry->World->Prop) (ρ:Env) (o:Oper) (K:nK) (w:World):Prop:=
 match Zad P o.op with
 |0=>(match UV P o.op with
  |0=>Zsb P cl X ρ o K w
  |_=>ZmL P (λ w'=>w'=w) ρ o (λ v=>K v w))
 |_=>ZmZ P ρ o (λ v=>K v w)
def Za1 {P:Program} {cl:FuncId->Bool} (i:∀ g,cl g=true->ZS P g=true) {X:List PanicEntry->World->Prop} {a:Act} {e:Env} {o:Oper} {K:Value->World->Prop} {w:World}
  {Q:Exit->Act->World->Prop} (v:∀ u w,X u w->Q (.panic u) a w) (d:Zdu P o.op=true) (h:ZuT P cl X e o K w):o.upon P a (ZlP a o.dst K) Q ((execOp e.ev o).run P w):=by
 unfold ZuT at h;split at h
 ·split at h
  ·exact ZiS i v h
  ·rename_i hk
   exact Vs.upon (S:=λ w'=>w'=w) rfl (GD hk (Zin d) h)
 ·exact Vs.upon (S:=λ _=>True) trivial (GH (Ze1 d) h)
abbrev Z0:=Nat->Option Obj
def Z0.none:Z0:=λ _=>Option.none
def Z0.one (b:Nat) (o:Obj):Z0:=λ i=>if i=b then some o else Option.none
def Z0.add (R h:Z0):Z0:=λ i=>match R i with|some o=>some o| .none=>h i
def Z0.set (R:Z0) (b:Nat) (o:Obj):Z0:=λ i=>if i=b then some o else R i
def Z0.dis (R h:Z0):Prop:=∀ i,h i≠.none->R i=.none
abbrev HP:=Z0->Prop
structure Cx where
 m:Z0
 os:Os
 tape:Nat->Question->Nat
 output:Array (Nat × ByteArray)
def Cx.add (R:Cx) (h:Z0):Cx:={ R with m:=R.m.add h }
def Cx.set (R:Cx) (b:Nat) (o:Obj):Cx:={ R with m:=R.m.set b o }
def Cx.dis (R:Cx) (h:Z0):Prop:=R.m.dis h
def Sat:Cx->List HP->World->Prop
 |R,[],w=>(∀ b o,R.m b=some o->w.heap[b]? =some o)/\w.os=R.os/\w.tape=R.tape/\w.output=R.output
 |R,H::Hs,w=>∃ h,H h/\R.dis h/\Sat (R.add h) Hs w
def pts (b:Nat) (o:Obj):HP:=λ h=>h=Z0.one b o
def pur (p:Prop):HP:=λ h=>p/\h=Z0.none
def exs {α:Type} (f:α->HP):HP:=λ h=>∃ x,f x h
def XS:List HP->HP
 |[]=>λ h=>h=Z0.none
 |H::Hs=>λ h=>∃ h1 h2,H h1/\XS Hs h2/\h1.dis h2/\h=h1.add h2
def Z0.add_none (R:Z0):R.add Z0.none=R:=by
 funext i;unfold Z0.add Z0.none;cases R i<;>rfl
def Z0.add_assoc (R a b:Z0):(R.add a).add b=R.add (a.add b):=by
 funext i;simp only [Z0.add];cases R i<;>simp
def Z0.add_comm {a b:Z0} (h:a.dis b):a.add b=b.add a:=by
 funext i
 simp only [Z0.add];cases d:b i with
 |none=>cases a i<;>rfl
 |some o=>rw [h i (by rw [d];simp)]
def Z0.dis_symm {a b:Z0} (h:a.dis b):b.dis a:=λ i hi=>by
 cases d:b i with
 |none=>rfl
 |some o=>exact absurd (h i (by rw [d];simp)) hi
def Z0.dis_add {R a b:Z0} (d:R.dis a) (u:(R.add a).dis b):R.dis (a.add b):=λ i hi=>by
 cases h:a i with
 |some o=>exact d i (by rw [h];simp)
 |none=>
  have v:b i≠.none:=by simpa [Z0.add,h] using hi
  have:=u i v;simp only [Z0.add] at this;cases y:R i with
  |none=>rfl
  |some o=>rw [y] at this;cases this
def Z0.dis_of_add {R a b:Z0} (d:(R.add a).dis b):R.dis b/\a.dis b:=by
 refine ⟨λ i hi=>?_,λ i hi=>?_⟩
 ·have:=d i hi;simp only [Z0.add] at this;cases h:R i with
  |none=>rfl
  |some o=>rw [h] at this;cases this
 ·have:=d i hi;simp only [Z0.add] at this;cases h:R i with
  |none=>rw [h] at this;exact this
  |some o=>rw [h] at this;cases this
def Z0.add_dis {R a b:Z0} (h:R.dis b) (d:a.dis b):(R.add a).dis b:=λ i hi=>by
 simp only [Z0.add,h i hi,d i hi]
def Cx.add_none (R:Cx):R.add Z0.none=R:=by unfold Cx.add;rw [Z0.add_none]
def Cx.add_assoc (R:Cx) (a b:Z0):(R.add a).add b=R.add (a.add b):=by unfold Cx.add;simp only [Z0.add_assoc]
def Cx.dis_add {R:Cx} {a b:Z0} (h:R.dis a) (d:(R.add a).dis b):R.dis (a.add b):=Z0.dis_add h d
def Cx.dis_of_add {R:Cx} {a b:Z0} (h:(R.add a).dis b):R.dis b/\a.dis b:=Z0.dis_of_add h
def Cx.add_dis {R:Cx} {a b:Z0} (h:R.dis b) (d:a.dis b):(R.add a).dis b:=Z0.add_dis h d
def Cx.m_add (R:Cx) (h:Z0):(R.add h).m=R.m.add h:=rfl
def Cx.like (R R':Cx):Prop:=R'.os=R.os/\R'.tape=R.tape/\R'.output=R.output
def Sat.of_ro:∀ {Hs:List HP} {R:Cx} {w:World} {b:Nat} {o:Obj},Sat R Hs w->R.m b=some o->w.heap[b]? =some o
 |[],_,_,_,_,h,hb=>h.1 _ _ hb
 |_::_,_,_,b,o,h,hb=>by
  obtain ⟨h',_,_,hs⟩:=h;exact hs.of_ro (by simp only [Cx.m_add,Z0.add,hb])
def Sat.streams:∀ {Hs:List HP} {R:Cx} {w:World},Sat R Hs w->w.os=R.os/\w.tape=R.tape/\w.output=R.output
 |[],_,_,h=>h.2
 |_::_,_,_,h=>let ⟨_,_,_,hs⟩:=h;hs.streams
structure Alk (w w':World):Prop where
 heap:w'.heap=w.heap
 os:w'.os=w.os
 tape:w'.tape=w.tape
 output:w'.output=w.output
def Sat.alk:∀ {Hs:List HP} {R:Cx} {w w':World},Sat R Hs w->Alk w w'->Sat R Hs w'
 |[],_,_,_,h,e=>⟨λ b o a=>by rw [e.heap];exact h.1 b o a,e.os.trans h.2.1,e.tape.trans h.2.2.1,e.output.trans h.2.2.2⟩
 |_::_,_,_,_,h,e=>let ⟨h',d,hd,hs⟩:=h;⟨h',d,hd,hs.alk e⟩
def Sat.drew {R:Cx} {Hs:List HP} {w:World} (h:Sat R Hs w):Sat R Hs w.drew:=h.alk ⟨rfl,rfl,rfl,rfl⟩
def Sat.swap {R:Cx} {A B:HP} {Hs:List HP} {w:World} (h:Sat R (A::B::Hs) w):Sat R (B::A::Hs) w:=by
 obtain ⟨a,u,d,b,v,o,hs⟩:=h;obtain ⟨y,i⟩:=Cx.dis_of_add o;refine ⟨b,v,y,a,u,Cx.add_dis d (Z0.dis_symm i),?_⟩;rw [Cx.add_assoc,<-Z0.add_comm i,<-Cx.add_assoc];exact hs
def Sat.cons {R:Cx} {A:HP} {Hs Hs':List HP} {w w':World} (k:∀ R',Sat R' Hs w->Sat R' Hs' w') (h:Sat R (A::Hs) w):Sat R (A::Hs') w':=
 let ⟨a,d,hd,hs⟩:=h;⟨a,d,hd,k _ hs⟩
def Sat.perm {Hs Hs':List HP} (p:Hs.Perm Hs'):∀ {R:Cx} {w:World},Sat R Hs w->Sat R Hs' w:=by
 induction p with
 |nil=>exact λ h=>h
 |cons x _ ih=>exact λ h=>h.cons λ _=>ih
 |swap x y l=>exact λ h=>h.swap
 |trans _ _ ih1 ih2=>exact λ h=>ih2 (ih1 h)
def Sat.ro_of:∀ {Hs:List HP} {R R':Cx} {w:World},(∀ b o,R'.m b=some o->R.m b=some o)->R.like R'->Sat R Hs w->Sat R' Hs w
 |[],_,_,_,k,e,h=>⟨λ b o d=>h.1 b o (k b o d),h.2.1.trans e.1.symm,h.2.2.1.trans e.2.1.symm,h.2.2.2.trans e.2.2.symm⟩
 |_::_,R,R',_,k,e,h=>by
  obtain ⟨a,v,hd,hs⟩:=h;refine ⟨a,v,λ i hi=>?_,Sat.ro_of (R:=R.add a) (R':=R'.add a) (λ b o d=>?_) e hs⟩
  ·cases y:R'.m i with
   |none=>rfl
   |some o=>have:=hd i hi;rw [k i o y] at this;cases this
  ·simp only [Cx.m_add,Z0.add] at d ⊢
   cases u:R'.m b with
   |some o'=>rw [u] at d;rw [k b o' u];exact d
   |none=>
    rw [u] at d;have z:=hd b (by simp only at d;rw [d];simp);rw [z];exact d
def Sat.drop {R:Cx} {A:HP} {Hs:List HP} {w:World} (h:Sat R (A::Hs) w):Sat R Hs w:=by
 obtain ⟨a,_,hd,hs⟩:=h;exact Sat.ro_of (R:=R.add a) (R':=R) (λ b o d=>by simp only [Cx.m_add,Z0.add,d]) ⟨rfl,rfl,rfl⟩ hs
def Sat.lend {R:Cx} {b:Nat} {o:Obj} {Hs:List HP} {w:World}:Sat R (pts b o::Hs) w↔R.m b=.none/\Sat (R.add (Z0.one b o)) Hs w:=by
 constructor
 ·rintro ⟨a,rfl,hd,hs⟩
  exact ⟨hd b (by simp [Z0.one]),hs⟩
 ·rintro ⟨d,hs⟩
  refine ⟨_,rfl,λ i hi=>?_,hs⟩;by_cases h:i=b
  ·subst h;exact d
  ·simp [Z0.one,h] at hi
def Cx.lent {R:Cx} {b:Nat} {o:Obj} (h:R.m b=.none):(R.add (Z0.one b o)).m b=some o:=by
 simp [Cx.m_add,Z0.add,h,Z0.one]
def Cx.kept {R:Cx} {h:Z0} {b:Nat} {o:Obj} (a:R.m b=some o):(R.add h).m b=some o:=by
 simp only [Cx.m_add,Z0.add,a]
def Sat.at {R:Cx} {b:Nat} {o:Obj} {Hs:List HP} {w:World} (h:Sat R (pts b o::Hs) w):w.heap[b]? =some o:=
 let ⟨a,hs⟩:=Sat.lend.1 h
 hs.of_ro (Cx.lent a)
def Sat.pur {R:Cx} {p:Prop} {Hs:List HP} {w:World}:Sat R (VC.pur p::Hs) w↔p/\Sat R Hs w:=by
 constructor
 ·rintro ⟨a,⟨h,rfl⟩,_,hs⟩
  rw [Cx.add_none] at hs;exact ⟨h,hs⟩
 ·rintro ⟨h,hs⟩
  exact ⟨Z0.none,⟨h,rfl⟩,λ i hi=>absurd rfl hi,by rw [Cx.add_none];exact hs⟩
def Sat.exs {α:Type} {R:Cx} {f:α->HP} {Hs:List HP} {w:World}:Sat R (VC.exs f::Hs) w↔∃ x,Sat R (f x::Hs) w:=by
 constructor
 ·rintro ⟨a,⟨x,h⟩,hd,hs⟩;exact ⟨x,a,h,hd,hs⟩
 ·rintro ⟨x,a,h,hd,hs⟩;exact ⟨a,⟨x,h⟩,hd,hs⟩
def Sat.star {w:World}:∀ {l:List HP} {R:Cx} {Hs:List HP},Sat R (XS l::Hs) w↔Sat R (l++Hs) w
 |[],R,Hs=>by
  constructor
  ·rintro ⟨a,rfl,_,hs⟩;rw [Cx.add_none] at hs;exact hs
  ·intro hs;exact ⟨Z0.none,rfl,λ i hi=>absurd rfl hi,by rw [Cx.add_none];exact hs⟩
 |A::l,R,Hs=>by
  constructor
  ·rintro ⟨x,⟨d,u,v,hl,hd,rfl⟩,o,hs⟩
   have y:R.dis d:=λ i hi=>o i (by simp only [Z0.add];cases h:d i<;>simp_all);refine ⟨d,v,y,Sat.star.1 ⟨u,hl,Cx.add_dis (λ i hi=>o i ?_) hd,by rw [Cx.add_assoc];exact hs⟩⟩;simp only [Z0.add];cases h:d i<;>simp_all
  ·rintro ⟨d,v,y,hs⟩
   obtain ⟨u,hl,z,hs⟩:=Sat.star.2 hs;refine ⟨d.add u,⟨d,u,v,hl,(Cx.dis_of_add z).2,rfl⟩,Cx.dis_add y z,by rw [<-Cx.add_assoc];exact hs⟩
def _root_.Go.World.setBlock (w:World) (b:Nat) (o:Obj):World:={ w with heap:=w.heap.setIfInBounds b o }
def Z0.set_add {R h:Z0} {b:Nat} {o a:Obj} (d:R b=some o):(R.set b a).add h=(R.add h).set b a:=by
 funext i
 simp only [Z0.add,Z0.set];by_cases hi:i=b
 ·subst hi;simp
 ·simp [hi]
def Cx.set_add {R:Cx} {h:Z0} {b:Nat} {o a:Obj} (d:R.m b=some o):(R.set b a).add h=(R.add h).set b a:=by
 unfold Cx.set Cx.add;simp only [Z0.set_add d]
def Sat.upd:∀ {Hs:List HP} {R:Cx} {w:World} {b:Nat} {o:Obj} (d:Obj),Sat R Hs w->R.m b=some o->Sat (R.set b d) Hs (w.setBlock b d)
 |[],R,w,b,o,d,h,u=>by
  refine ⟨λ i x v=>?_,h.2⟩;have y:b<w.heap.size:=(Array.getElem?_eq_some_iff.1 (h.1 b o u)).1;simp only [Cx.set,Z0.set] at v;simp only [World.setBlock];by_cases hi:i=b
  ·subst hi
   simp only [vp,qM] at v;subst v;simp [y]
  ·rw [qc hi] at v
   rw [Array.getElem?_setIfInBounds_ne (Ne.symm hi)];exact h.1 i x v
 |H::Hs,R,w,b,o,d,h,u=>by
  obtain ⟨a,g,hd,hs⟩:=h;have:=Sat.upd d hs (b:=b) (o:=o) (Cx.kept u);refine ⟨a,g,λ i hi=>?_,?_⟩
  ·have z:=hd i hi
   simp only [Cx.set,Z0.set];by_cases h:i=b
   ·subst h;rw [u] at z;cases z
   ·rw [qc h];exact z
  ·rw [Cx.set_add u];exact this
def Sat.setPts {R:Cx} {b:Nat} {o:Obj} {Hs:List HP} {w:World} (a:Obj) (h:Sat R (pts b o::Hs) w):Sat R (pts b a::Hs) (w.setBlock b a):=by
 obtain ⟨d,hs⟩:=Sat.lend.1 h;refine Sat.lend.2 ⟨d,?_⟩;have u:=Sat.upd a hs (b:=b) (o:=o) (Cx.lent d);have e:(R.add (Z0.one b o)).set b a=R.add (Z0.one b a):=by
  unfold Cx.set Cx.add
  congr 1
  funext i
  simp only [Z0.add,Z0.set,Z0.one];by_cases hi:i=b
  ·subst hi;simp [d]
  ·simp [hi]
 rw [e] at u;exact u
def Sat.ro_lt {R:Cx} {Hs:List HP} {w:World} (h:Sat R Hs w) {b:Nat} (a:w.heap.size<=b):R.m b=.none:=by
 cases d:R.m b with
 |none=>rfl
 |some o=>
  have:=h.of_ro d;rw [Array.getElem?_eq_none a] at this;cases this
def Sat.grow:∀ {Hs:List HP} {R:Cx} {w:World} (o:Obj),Sat R Hs w->Sat (R.add (Z0.one w.heap.size o)) Hs (w.alloc o)
 |[],R,w,o,h=>by
  refine ⟨λ b x d=>?_,h.2⟩;simp only [Cx.m_add,Z0.add,Z0.one] at d;cases z:R.m b with
  |some y=>
   rw [z] at d;have:=h.1 b y z;have g:b<w.heap.size:=(Array.getElem?_eq_some_iff.1 this).1;simp only at d;simp only [World.alloc];rw [Array.getElem?_push_lt g,<-Array.getElem?_eq_getElem,this,d]
  |none=>
   rw [z] at d;simp only at d;split at d
   ·rename_i j;subst j;cases d;show (w.heap.push o)[w.heap.size]? =_;simp
   ·cases d
 |H::Hs,R,w,o,h=>by
  have k:R.m w.heap.size=.none:=Sat.ro_lt h (jc _);obtain ⟨a,l,hd,hs⟩:=h;have v:(R.add a).m w.heap.size=.none:=Sat.ro_lt hs (jc _);have n:a w.heap.size=.none:=by simpa [Cx.m_add,Z0.add,k] using v
  have:=Sat.grow o hs;have u:(Z0.one w.heap.size o).dis a:=by
   intro i hi;simp only [Z0.one];split
   ·rename_i h;subst h;exact absurd n hi
   ·rfl
  refine ⟨a,l,Cx.add_dis hd u,?_⟩;rw [Cx.add_assoc,Z0.add_comm u,<-Cx.add_assoc];exact this
def Sat.alloc {R:Cx} {Hs:List HP} {w:World} (o:Obj) (h:Sat R Hs w):Sat R (pts w.heap.size o::Hs) (w.alloc o):=
 Sat.lend.2 ⟨Sat.ro_lt h (jc _),Sat.grow o h⟩
def Cx.of (w:World):Cx:={ m:=λ b=>w.heap[b]?,os:=w.os,tape:=w.tape,output:=w.output }
def Sat.start (w:World):Sat (Cx.of w) [] w:=⟨λ _ _ h=>h,rfl,rfl,rfl⟩
class VM (b:Nat) (Hs:List HP) (o:outParam Obj) (Rest:outParam (List HP)):Prop where
 perm:Hs.Perm (pts b o::Rest)
instance (priority:=2000) VM.head {b:Nat} {o:Obj} {Hs:List HP}:VM b (pts b o::Hs) o Hs:=⟨jD _⟩
instance VM.tail {b:Nat} {H:HP} {Hs:List HP} {o:Obj} {Rest:List HP} [t:VM b Hs o Rest]:VM b (H::Hs) o (H::Rest):=
 ⟨(t.perm.cons H).trans (.swap _ _ _)⟩
class ZaN (A:HP) (Hs:List HP) (Rest:outParam (List HP)):Prop where
 perm:Hs.Perm (A::Rest)
instance (priority:=2000) ZaN.head {A:HP} {Hs:List HP}:ZaN A (A::Hs) Hs:=⟨jD _⟩
instance ZaN.tail {A H:HP} {Hs:List HP} {Rest:List HP} [t:ZaN A Hs Rest]:ZaN A (H::Hs) (H::Rest):=
 ⟨(t.perm.cons H).trans (.swap _ _ _)⟩
def Sat.takeP {R:Cx} {Hs Rest:List HP} {w:World} {b:Nat} {o:Obj} (h:Sat R Hs w) (t:VM b Hs o Rest):Sat R (pts b o::Rest) w:=h.perm t.perm
def Sat.take {R:Cx} {Hs Rest:List HP} {w:World} (A:HP) [t:ZaN A Hs Rest] (h:Sat R Hs w):Sat R (A::Rest) w:=h.perm t.perm
def Sat.look {R:Cx} {Hs Rest:List HP} {w:World} {o:Obj} (b:Nat) [t:VM b Hs o Rest] (h:Sat R Hs w):w.heap[b]? =some o:=(h.takeP t).at
def eqS {R:Cx} {Hs:List HP} {w:World} (h:Sat R Hs w):∀ w',(λ w'=>w'=w) w'->Sat R Hs w':=λ _ e=>by rw [show _=w from e];exact h
def Wk {R:Cx} {Hs:List HP}:∀ w',Sat R Hs w'->Sat R Hs w':=λ _ h=>h
def Pre:List Value->List Value->Prop
 |[],_=>True
 |v::vs,x::l=>v=x/\Pre vs l
 |_::_,[]=>False
def Pre.get:∀ {vs l:List Value},Pre vs l->∀ (i:Nat) (v:Value),vs[i]? =some v->l[i]? =some v
 |[],_,_,i,v,h=>by simp at h
 |x::vs,y::l,hp,0,v,h=>by simp only [List.getElem?_cons_zero] at h ⊢;rw [<-hp.1];exact h
 |x::vs,y::l,hp,i + 1,v,h=>by simp only [List.getElem?_cons_succ] at h ⊢;exact hp.2.get i v h
 |_::_,[],hp,_,_,_=>hp.elim
def Yy {w:World} {b:Nat} {l:List Value} {T:TypeId} {fr:Nat × Nat} (h:w.heap[b]? =some (.cells l.toArray T fr)) (i:Nat):w.cell? ⟨b,i,none⟩=l[i]?:=by
 simp [World.cell?,h]
def Zs (b o i:Nat):Addr.add ⟨b,o,none⟩ i=⟨b,o + i,none⟩:=by
 unfold Addr.add;split
 ·rename_i h;subst h;rfl
 ·rfl
def At.mk {S:World->Prop} {b off:Nat} {vs l:List Value} {T:TypeId} {fr:Nat × Nat} (h:∀ w,S w->w.heap[b]? =some (.cells l.toArray T fr)) (a:Pre vs (l.drop off)):At S ⟨b,off,none⟩ vs:=by
 intro w d i v o;have:=a.get i v o;rw [List.getElem?_drop] at this;rw [Zs,Yy (h w d),this]
def At.own {S:World->Prop} {R:Cx} {Hs Rest:List HP} {b off:Nat} {vs l:List Value} {T:TypeId} {fr:Nat × Nat} (hS:∀ w,S w->Sat R Hs w)
  [t:VM b Hs (.cells l.toArray T fr) Rest] (h:Pre vs (l.drop off)):At S ⟨b,off,none⟩ vs:=At.mk (λ w a=>(hS w a).look b) h
def oA {R : Cx} {Hs Rest : List HP} {w : World} {b off : Nat} {vs l : List Value} {T : TypeId} {fr : Nat × Nat} (h : Sat R Hs w) [t : VM b Hs (.cells l.toArray T fr) Rest] (a : Pre vs (l.drop off) := by repeat (first | exact trivial | refine ⟨rfl, ?_⟩)) : At (λ w' => w' = w) ⟨b, off, none⟩ vs := At.own (eqS h) a
def oS {R : Cx} {Hs Rest : List HP} {b off : Nat} {vs l : List Value} {T : TypeId} {fr : Nat × Nat} [t : VM b Hs (.cells l.toArray T fr) Rest] (h : Pre vs (l.drop off) := by repeat (first | exact trivial | refine ⟨rfl, ?_⟩)) : At (Sat R Hs) ⟨b, off, none⟩ vs := At.own Wk h
def Za {R:Cx} {Hs:List HP} {w:World} {o:Obj} {K:Nat->World->Prop} (h:Sat R Hs w) (k:∀ b w',Sat R (pts b o::Hs) w'->K b w'):New o K w:=
 k _ _ (Sat.alloc o h)
def Zi {R:Cx} {Hs:List HP} {w:World} {F:(World->Prop)->World->Prop} (a:Sat R Hs w) (k:∀ w',Sat R Hs w'->F (Sat R Hs) w'):Drw w F:=
 ⟨Sat R Hs,Sat R Hs,a.drew,λ w' h=>⟨h,k w' h⟩⟩
def Zj {R:Cx} {Hs:List HP} {w:World} {F:(World->Prop)->World->Prop} (S:World->Prop) (a:Sat R Hs w) (hS:∀ w',Sat R Hs w'->S w') (k:∀ w',Sat R Hs w'->F S w'):Drw w F:=
 ⟨Sat R Hs,S,a.drew,λ w' h=>⟨hS w' h,k w' h⟩⟩
def tru:HP:=λ _=>True
def Sat.tru {R:Cx} {Hs:List HP} {w:World} (h:Sat R Hs w):Sat R (VC.tru::Hs) w:=⟨Z0.none,trivial,λ _ hi=>absurd rfl hi,by rw [Cx.add_none];exact h⟩
def Sat.absorb {R:Cx} {A:HP} {Hs:List HP} {w:World} (h:Sat R (A::VC.tru::Hs) w):Sat R (VC.tru::Hs) w:=by
 obtain ⟨a,_,d,b,_,o,hs⟩:=h;refine ⟨a.add b,trivial,Cx.dis_add d o,?_⟩;rw [<-Cx.add_assoc];exact hs
def Xk {R:Cx} {Hs:List HP} {w:World} {F:(World->Prop)->World->Prop} (a:Sat R Hs w) (k:∀ w',Sat R (VC.tru::Hs) w'->F (Sat R (VC.tru::Hs)) w'):Drw w F:=
 ⟨_,_,a.tru.drew,λ w' h=>⟨h,k w' h⟩⟩
def Zc {x:Int} (h : -9223372036854775808<=x := by omega) (h1 : x<9223372036854775808 := by omega):wI x=x:=by
 show IntKind.i64.wrap x=x;have:IntKind.i64.wrap x=(x + 9223372036854775808) % 18446744073709551616 - 9223372036854775808:=by
  rw [IntKind.wrap_i64]
 rw [this];omega
structure Ro (R:Cx) (s:Sl) (xs:List Value):Prop where
 len:s.len=xs.length
 bound:xs.length<=9223372036854775807
 mem:xs≠[]->∃ b off l T fr,s.a=some ⟨b,off,none⟩/\R.m b=some (.cells l T fr)/\∀ (i:Nat) v,xs[i]? =some v->l[off + i]? =some v
def Ro.add {R:Cx} {h:Z0} {s:Sl} {xs:List Value} (a:Ro R s xs):Ro (R.add h) s xs:=
 ⟨a.len,a.bound,λ d=>let ⟨b,off,l,T,fr,o,i,hl⟩:=a.mem d;⟨b,off,l,T,fr,o,Cx.kept i,hl⟩⟩
def Ro.addr {R:Cx} {s:Sl} {xs:List Value} (o:Ro R s xs) {k:Nat} (hk:k<xs.length):∃ a,s.a=some a/\
  ∀ {S:World->Prop} {Hs:List HP},(∀ w,S w->Sat R Hs w)->At S (a.add k) [xs[k]]:=by
 obtain ⟨b,off,l,T,fr,u,y,hl⟩:=o.mem (by intro h;rw [h] at hk;simp at hk);refine ⟨_,u,λ hS w z i v d=>?_⟩;have hi:i=0:=by
  cases i with
  |zero=>rfl
  |succ i=>simp at d
 subst hi;simp only [List.getElem?_cons_zero,qM] at d;subst d;rw [Zs,Zs];have:=(hS w z).of_ro y;simp only [World.cell?,this,jN,qy,jq];exact hl k _ (List.getElem?_eq_getElem hk)
abbrev RoI (R:Cx) (s:Sl) (xs:List Int):Prop:=Ro R s (xs.map (Value.int .i64))
def RoI.len {R:Cx} {s:Sl} {xs:List Int} (h:RoI R s xs):s.len=xs.length:=by rw [Ro.len h];simp
def RoI.bound {R:Cx} {s:Sl} {xs:List Int} (h:RoI R s xs):xs.length<=9223372036854775807:=by have:=Ro.bound h;simpa using this
def RoI.addr {R:Cx} {s:Sl} {xs:List Int} (d:RoI R s xs) {k:Nat} (hk:k<xs.length):∃ a,s.a=some a/\
  ∀ {S:World->Prop} {Hs:List HP},(∀ w,S w->Sat R Hs w)->At S (a.add k) [.int .i64 xs[k]]:=by
 obtain ⟨a,o,h⟩:=Ro.addr d (k:=k) (by simpa using hk);refine ⟨a,o,λ hS=>?_⟩;have:=h hS;simpa using this
def RoI.idx {S:World->Prop} {R:Cx} {Hs:List HP} {s:Sl} {xs:List Int} (o:RoI R s xs) (hS:∀ w,S w->Sat R Hs w) {k:Nat} (hk:k<xs.length) {F:Int->Prop} (h:F xs[k]):
  Rng (k:Int) s.len (Zb s.a λ a=>∃ t:Int,(At S (a.add (k:Int).toNat) [.int .i64 t])/\F t):=by
 obtain ⟨a,i,d⟩:=RoI.addr o hk;have hl:=RoI.len o;exact Rng.mk (by omega) (by omega) (Zb.mk i ⟨xs[k],d hS,h⟩)
def Ro.idxS {S:World->Prop} {R:Cx} {Hs:List HP} {m:Sl} {ms:List Sl} (o:Ro R m (ms.map Sl.v)) (hS:∀ w,S w->Sat R Hs w) {k:Nat} (hk:k<ms.length) {F:Sl->Prop} (h:F ms[k]):
  Rng (k:Int) m.len (Zb m.a λ a=>∃ t:Sl,(At S (a.add (k:Int).toNat) [.slice t.a t.len t.cap])/\F t):=by
 obtain ⟨a,i,d⟩:=o.addr (k:=k) (by simpa using hk);have hl:m.len=ms.length:=by have:=o.len;simpa using this
 refine Rng.mk (by omega) (by omega) (Zb.mk i ⟨ms[k],?_,h⟩);have:=d hS;simpa [Sl.v] using this
def Vz:List Value->Nat->List Value->List Value
 |l,_,[]=>l
 |l,o,v::vs=>Vz (l.set o v) (o + 1) vs
def XR:∀ (vs l:List Value) (o:Nat),(Vz l o vs).length=l.length
 |[],_,_=>rfl
 |_::vs,l,o=>by rw [Vz,XR vs,jd]
def GF:∀ (vs l:List Value) (o:Nat),o + vs.length<=l.length->Vz l o vs=l.take o++vs++l.drop (o + vs.length)
 |[],l,o,_=>by simp [Vz]
 |v::vs,l,o,h=>by
  simp only [qr] at h;rw [Vz,GF vs (l.set o v) (o + 1) (by simp;omega)];have e1:(l.set o v).take (o + 1)=l.take o++[v]:=by
   rw [j9 (by simp;omega)];simp [List.take_set_of_le]
  have e2:(l.set o v).drop (o + 1 + vs.length)=l.drop (o + (vs.length + 1)):=by
   rw [List.drop_set_of_lt (by omega)];congr 1;omega
  rw [e1,e2];simp
def ZeO {w:World} {b o:Nat} {l:List Value} {T:TypeId} {fr:Nat × Nat} (h:w.heap[b]? =some (.cells l.toArray T fr)) (v:Value):
  w.setCell ⟨b,o,none⟩ v=w.setBlock b (.cells (l.set o v).toArray T fr):=by
 unfold World.setCell World.setBlock
 congr 1
 apply Array.ext_getElem?;intro i;rw [Array.getElem?_modify,Array.getElem?_setIfInBounds];by_cases hi:b=i
 ·subst hi
  obtain ⟨a,d⟩:=Array.getElem?_eq_some_iff.1 h;simp [a,d]
 ·simp [hi]
def Y7 {R:Cx} {Hs:List HP} {b:Nat} {T:TypeId} {fr:Nat × Nat}:∀ (vs l:List Value) (o:Nat) (w:World),Sat R (pts b (.cells l.toArray T fr)::Hs) w->
  Sat R (pts b (.cells (Vz l o vs).toArray T fr)::Hs) (w.setCells b o vs)
 |[],_,_,_,h=>h
 |v::vs,l,o,w,h=>by
  rw [World.setCells,ZeO h.at,Vz];exact Y7 vs (l.set o v) (o + 1) _ (h.setPts _)
def Zio (n:Nat) (fr:Nat × Nat):Prop:=fr.2=0\/n<=fr.1
def Zio.le {n m:Nat} {fr:Nat × Nat} (h:Zio n fr) (hm:m<=n):Zio m fr:=h.imp id λ h=>jf hm h
def Vi {w:World} {b:Nat} {l:Array Value} {T:TypeId} {fr:Nat × Nat} {n:Nat} (h:w.heap[b]? =some (.cells l T fr)) (a:Zio n fr) {i:Nat} (hi:i<n):w.frozen? ⟨b,i,none⟩=false:=by
 obtain ⟨lo,d⟩:=fr;simp only [World.frozen?,h];rcases a with a|a<;>simp only at a<;>simp<;>omega
def ZN (vs:List Value):Bool:=vs.all (·.oneCell')
def ZO {P:Program} {R:Cx} {Hs Rest:List HP} {w:World} {b o:Nat} {l:List Value} {T t:TypeId} {fr:Nat × Nat} {v:Value} {K:World->Prop}
  (g:Sat R Hs w) [tk:VM b Hs (.cells l.toArray T fr) Rest] (h:(P.info? t).map (·.size)=some v.cells.toList.length) (m:ZN v.cells.toList=true) (p:o + v.cells.toList.length<=l.length)
  (k:∀ w',Sat R (pts b (.cells (Vz l o v.cells.toList).toArray T fr)::Rest) w'->K w') (y:Zio l.length fr:=by first|assumption|exact zT rfl):
  ∃ w',(Instr.storeAt t (.pointer (some ⟨b,o,none⟩)) v).run P w=.ok () w'/\K w':=by
 have z:=g.takeP tk;have a:=z.at;obtain ⟨i,hi,h⟩:=uU.1 h;refine ⟨w.setCells b o v.cells.toList,?_,k _ (Y7 _ _ _ _ z)⟩;have d:=run_storeCells_cells (P:=P) b o v.cells.toList 0 w (λ j hj=>by
   simp only [vQ];rw [Yy a];simp;omega) (λ j hj=>Vi a y (by omega)) (λ u n=>qW.1 m u n)
 simp only [vQ] at d;simp [Instr.storeAt,Instr.sureAddr,storeVar,sizeOf,typeInfo,hi,h,d]
def sRu {P : Program} {R : Cx} {Hs Rest : List HP} {w : World} {b o : Nat} {l : List Value} {T t : TypeId} {fr : Nat × Nat} {v : Value} {K : World -> Prop} (d : Sat R Hs w) [tk : VM b Hs (.cells l.toArray T fr) Rest]
    (k : ∀ w', Sat R (pts b (.cells (Vz l o v.cells.toList).toArray T fr) :: Rest) w' -> K w') (h : (P.info? t).map (·.size) = some v.cells.toList.length := by kernel_rfl) (i : ZN v.cells.toList = true := by exact rfl) (u : o + v.cells.toList.length <= l.length := by simp [Value.cells]) (a : Zio l.length fr := by first | assumption | exact zT rfl) :
    ∃ w', (Instr.storeAt t (.pointer (some ⟨b, o, none⟩)) v).run P w = .ok () w' /\ K w' := ZO d h i u k a
def Own (s:Sl) (T:TypeId) (xs:List Value):HP:=λ h=>
 (s=⟨none,0,0⟩/\xs=[]/\h=Z0.none)\/∃ b rest fr,s=⟨some ⟨b,0,none⟩,xs.length,(xs++rest).length⟩/\Zio (xs++rest).length fr/\h=Z0.one b (.cells (xs++rest).toArray T fr)
def Own.nil {R:Cx} {Hs:List HP} {w:World} {T:TypeId} (h:Sat R Hs w):Sat R (Own ⟨none,0,0⟩ T []::Hs) w:=
 ⟨Z0.none,.inl ⟨rfl,rfl,rfl⟩,λ i hi=>absurd rfl hi,by rw [Cx.add_none];exact h⟩
def Own.of_pts {R:Cx} {Hs:List HP} {w:World} {T:TypeId} {b:Nat} {fr:Nat × Nat} {xs rest:List Value} (h:Sat R (pts b (.cells (xs++rest).toArray T fr)::Hs) w) (d:Zio (xs++rest).length fr:=by first|assumption|exact zT rfl):
  Sat R (Own ⟨some ⟨b,0,none⟩,xs.length,(xs++rest).length⟩ T xs::Hs) w:=
 let ⟨a,o,hd,hs⟩:=h;⟨a,.inr ⟨b,rest,fr,rfl,d,o⟩,hd,hs⟩
def Own.cases {R:Cx} {Hs:List HP} {w:World} {T:TypeId} {s:Sl} {xs:List Value} (h:Sat R (Own s T xs::Hs) w):
  (s=⟨none,0,0⟩/\xs=[]/\Sat R Hs w)\/∃ b rest fr,s=⟨some ⟨b,0,none⟩,xs.length,(xs++rest).length⟩/\Zio (xs++rest).length fr/\Sat R (pts b (.cells (xs++rest).toArray T fr)::Hs) w:=by
 obtain ⟨a,o,hd,hs⟩:=h;rcases o with ⟨d,i,rfl⟩|⟨b,rest,fr,d,u,rfl⟩
 ·rw [Cx.add_none] at hs;exact .inl ⟨d,i,hs⟩
 ·exact .inr ⟨b,rest,fr,d,u,_,rfl,hd,hs⟩
def Own.len {R:Cx} {Hs:List HP} {w:World} {T:TypeId} {s:Sl} {xs:List Value} (h:Sat R (Own s T xs::Hs) w):s.len=xs.length:=by
 rcases Own.cases h with ⟨rfl,rfl,_⟩|⟨b,rest,fr,rfl,_,_⟩<;>rfl
def Own.lend {R:Cx} {Hs:List HP} {w:World} {T:TypeId} {s:Sl} {xs:List Value} (h:Sat R (Own s T xs::Hs) w) (y:xs.length<=9223372036854775807):
  ∃ R':Cx,Ro R' s xs/\(∀ o a,Ro R o a->Ro R' o a)/\Sat R' Hs w/\∀ {Hs' w'},Sat R' Hs' w'->Sat R (Own s T xs::Hs') w':=by
 rcases Own.cases h with ⟨rfl,rfl,d⟩|⟨b,rest,fr,rfl,j,d⟩
 ·exact ⟨R,⟨rfl,by simp,λ h=>absurd rfl h⟩,λ _ _ h=>h,d,λ h=>Own.nil h⟩
 ·obtain ⟨u,z⟩:=Sat.lend.1 d
  refine ⟨_,⟨rfl,y,λ _=>⟨b,0,_,T,fr,rfl,Cx.lent u,λ i v g=>?_⟩⟩,λ _ _ h=>h.add,z,λ h=>Own.of_pts (Sat.lend.2 ⟨u,h⟩)⟩;obtain ⟨hi,rfl⟩:=List.getElem?_eq_some_iff.1 g;simp [List.getElem?_append_left hi]
def elB (P:Program) (T:TypeId) (bytes:Nat):Bool:=
 match P.info? T with
 |some i=>match i.zero with
  |some z=>i.size==1 && i.bytes==bytes && z.cells.size==1
  |none=>false
 |none=>false
def ZiR {P:Program} {T:TypeId} {bytes:Nat} (h:elB P T bytes=true):∃ i z,P.info? T=some i/\i.zero=some z/\i.size=1/\i.bytes=bytes/\z.cells.size=1:=by
 unfold elB at h;split at h
 ·rename_i i hi
  split at h
  ·rename_i z hz
   simp only [ql,jh] at h;exact ⟨i,z,hi,hz,h.1.1,h.1.2,h.2⟩
  ·cases h
 ·cases h
structure El (P:Program) (t1 t2 T:TypeId) (bytes:Nat):Prop where
 ht:P.underlying t1=some (.slice T)
 hk:∃ e',P.underlying t2=some (.slice e')
 hi:elB P T bytes=true
def XV {P:Program} {t1 t2 ty T:TypeId} {bytes:Nat} (E:El P t1 t2 T bytes) {R:Cx} {Hs:List HP} {w:World} {s:Sl} {xs ys:List Value} {v:Value} {n:Nat} {K:Sl->World->Prop}
  (x:Sat R (Own s T xs::Hs) w) (hs:Src P 1 t2 v n ys w) (X:ZN xs=true) (Q:2 * (xs.length + n) * bytes<=281474976710656) (U:xs.length + n<=9223372036854775807)
  (k:∀ N w',Sat R (Own N T (xs++ys)::Hs) w'->K N w'):
  ∃ w',∃ t:Sl,(Builtin.append_ #[t1,t2] ty #[.slice s.a s.len s.cap,v]).run P w=.ok (.slice t.a t.len t.cap) w'/\K t w':=by
 obtain ⟨i,z,hi,hz,d,g,D⟩:=ZiR E.hi;have y:ys.length=n:=by have:=hs.newsLen;simpa using this
 have l:Src P i.size t2 v n ys w:=by rw [d];exact hs
 have O:=Own.len x;have fit:∀ cap,cap<xs.length + n->Builtin.nextslicecap (xs.length + n) cap * i.bytes<=281474976710656:=λ cap f=>by
  have c:Builtin.nextslicecap (xs.length + n) cap<=2 * (xs.length + n):=by
   unfold Builtin.nextslicecap;split
   ·omega
   ·split
    ·omega
    ·have:=nextslicecap_le_wide f
     unfold Builtin.nextslicecap at this;rw [qc (by assumption),qc (by assumption)] at this;omega
  rw [g];exact jf (qL _ c) Q
 -- a new row
 have grow:∀ (base:Option Addr) (cap:Nat) (o:List Value),o=xs->cap<xs.length + n->(Builtin.firstCells i.size xs.length (.slice base xs.length cap)).run P w.drew=.ok o.toArray w.drew->Sat R Hs w->
   ∃ w',∃ t:Sl,(Builtin.append_ #[t1,t2] ty #[.slice base xs.length cap,v]).run P w=.ok (.slice t.a t.len t.cap) w'/\K t w':=λ base cap o V f hold x=>by
  have F:=run_append_grow_src w t1 t2 ty T i z E.ht hi hz base xs.length cap o hold v n ys l f (by omega) (fit cap f);refine ⟨_,⟨some ⟨w.heap.size,0,none⟩,xs.length + n,grownCap w (xs.length + n) cap T⟩,F,k _ _ ?_⟩;have G:(Builtin.zeroCells z.cells (grownCap w (xs.length + n) cap T - (xs.length + n))).size=grownCap w (xs.length + n) cap T - (xs.length + n):=by
   simp [Builtin.zeroCells,D]
  have Y:=grownCap_ge w (xs.length + n) cap T;have H:Obj.cells ((o++ys).toArray++Builtin.zeroCells z.cells (grownCap w (xs.length + n) cap T - (xs.length + n))) T=.cells ((xs++ys)++(Builtin.zeroCells z.cells (grownCap w (xs.length + n) cap T - (xs.length + n))).toList).toArray T (0,0):=by
   rw [V]
   congr 1
   apply vd;simp
  have:=Sat.alloc (Obj.cells ((o++ys).toArray++Builtin.zeroCells z.cells (grownCap w (xs.length + n) cap T - (xs.length + n))) T) (Sat.drew x);rw [H] at this ⊢;have p:=Own.of_pts this;have e:(⟨some ⟨w.drew.heap.size,0,none⟩,(xs++ys).length,(xs++ys++(Builtin.zeroCells z.cells (grownCap w (xs.length + n) cap T - (xs.length + n))).toList).length⟩:Sl)=⟨some ⟨w.heap.size,0,none⟩,xs.length + n,grownCap w (xs.length + n) cap T⟩:=by
   simp only [qb,jw,G,World.size_drew,y]
   congr 1
   omega
  rw [e] at p;exact p
 rcases Own.cases x with ⟨rfl,rfl,q⟩|⟨b,rest,fr,rfl,r,A⟩
 ·by_cases I:n=0
  ·subst I
   have W:ys=[]:=jO.1 y;subst W;obtain ⟨e',J⟩:=E.hk;refine ⟨w,⟨none,0,0⟩,?_,k _ _ (by simpa using Own.nil q)⟩;have L:=l.cells;simp [Builtin.append_,run_underlying E.ht,run_underlying J,sizeOf,typeInfo,hi,l.len,L]
  ·exact grow none 0 [] rfl (by simp;omega) (run_firstCells_none w.drew i.size 0 0 0) q
 ·by_cases h:xs.length + n<=(xs++rest).length
  ·have m:=A.at
   have F:=run_append_room_src w t1 t2 ty T i E.ht hi b 0 xs.length (xs++rest).length v n ys l h
    (λ j hj=>by rw [Yy m,d];simp at h ⊢;omega) (λ j hj=>Vi m r (by rw [d,va];simp only [qb] at h ⊢;omega))
   refine ⟨_,⟨some ⟨b,0,none⟩,xs.length + n,(xs++rest).length⟩,F,k _ _ ?_⟩;have c:=Y7 ys (xs++rest) xs.length w A;have e1:Vz (xs++rest) xs.length ys=(xs++ys)++rest.drop n:=by
    rw [GF _ _ _ (by rw [y];exact h),j7,zG]
    ·simp [y]
    ·rfl
   rw [e1] at c;rw [d,jb,va];have p:=Own.of_pts c (r.le (by simp only [qb,qx] at h ⊢;omega));have e:(⟨some ⟨b,0,none⟩,(xs++ys).length,(xs++ys++rest.drop n).length⟩:Sl)=⟨some ⟨b,0,none⟩,xs.length + n,(xs++rest).length⟩:=by
    simp only [qb,qx,y] at h ⊢
    congr 1
    omega
   rw [e] at p;exact p
  ·have m:=A.at
   refine grow (some ⟨b,0,none⟩) (xs++rest).length xs rfl (by omega) ?_ A.drop;refine run_firstCells_some w.drew i.size xs.length ⟨b,0,none⟩ xs.length _ xs (by rw [d];simp) ?_;intro j u hj;rw [World.cell?_drew,Zs,Yy m,jb];obtain ⟨M,rfl⟩:=List.getElem?_eq_some_iff.1 hj;simp [List.getElem?_append_left M]
def Zi8 {P:Program} {t2:TypeId} (hk:∃ e',P.underlying t2=some (.slice e')) {R:Cx} {Hs Rest:List HP} {w:World} {b:Nat} {x:Value} {T:TypeId} {fr:Nat × Nat} (c:Nat)
  (d:Sat R Hs w) [t:VM b Hs (.cells [x].toArray T fr) Rest] (o:x.oneCell'=true):Src P 1 t2 (.slice (some ⟨b,0,none⟩) 1 c) 1 [x] w:=by
 obtain ⟨e',h⟩:=hk;refine Go.Src.ofSlice w h _ 1 c [x] rfl ?_ ?_
 ·intro j u hj
  have:=d.look b;rw [Zs,Yy this];simpa using hj
 ·intro u a;simp at a;subst a;exact o
def Wz {P:Program} {t1 t2 ty T u:TypeId} {bytes:Nat} (E:El P t1 t2 T bytes) {R:Cx} {Hs:List HP} {w:World} {s:Sl} {xs:List Value} {x:Value} {K:Sl->World->Prop}
  (d:Sat R (Own s T xs::Hs) w) (v:ZN xs=true) (y:x.oneCell'=true) (z:2 * (xs.length + 1) * bytes<=281474976710656) (i:xs.length + 1<=9223372036854775807)
  (k:∀ o w',Sat R (Own o T (xs++[x])::Hs) w'->K o w'):
  New (.cells #[x] u (0,0)) (λ b w=>∃ w',∃ t:Sl,(Builtin.append_ #[t1,t2] ty #[.slice s.a s.len s.cap,.slice (some ⟨b,0,none⟩) 1 1]).run P w=.ok (.slice t.a t.len t.cap) w'/\K t w') w:=by
 refine Za d λ b w d=>?_;have d:Sat R (pts b (.cells [x].toArray u (0,0))::Own s T xs::Hs) w:=d;exact XV E d.swap (Zi8 E.hk 1 d y) v z i λ o w' h=>k o w' h.swap.drop
def YA {P:Program} {t1 t2 ty T o:TypeId} (E:El P t1 t2 T 8) {R:Cx} {Hs:List HP} {w:World} {s:Sl} {xs:List Int} {x:Int} {K:Sl->World->Prop}
  (i:Sat R (Own s T (xs.map (Value.int .i64))::Hs) w) (u:xs.length<1000000000000)
  (k:∀ d w',Sat R (Own d T ((xs++[x]).map (Value.int .i64))::Hs) w'->K d w'):
  New (.cells #[.int .i64 x] o (0,0)) (λ b w=>∃ w',∃ t:Sl,(Builtin.append_ #[t1,t2] ty #[.slice s.a s.len s.cap,.slice (some ⟨b,0,none⟩) 1 1]).run P w=.ok (.slice t.a t.len t.cap) w'/\K t w') w:=
 Wz E i (by unfold ZN;simp [Value.oneCell']) rfl (by rw [qa];omega) (by rw [qa];omega) λ d w' h=>k d w' (by simpa using h)
def At.ints {S:World->Prop} {R:Cx} {Hs Rest:List HP} {b:Nat} {xs:List Int} {T:TypeId} {fr:Nat × Nat} (hS:∀ w,S w->Sat R Hs w)
  [t:VM b Hs (.cells (xs.map (Value.int .i64)).toArray T fr) Rest] {i:Nat} (hi:i<xs.length):At S (Addr.add ⟨b,0,none⟩ i) [.int .i64 xs[i]]:=by
 rw [Zs];refine At.own hS ?_;rw [jb,qv (by simpa using hi)];exact ⟨by simp,trivial⟩
def ZcD (xs:List Int):ZN (xs.map (Value.int .i64))=true:=by
 unfold ZN;simp [Value.oneCell']
def Own.lendI {R:Cx} {Hs:List HP} {w:World} {T:TypeId} {s:Sl} {xs:List Int} (h:Sat R (Own s T (xs.map (Value.int .i64))::Hs) w) (o:xs.length<=9223372036854775807):
  ∃ R':Cx,RoI R' s xs/\(∀ d a,Ro R d a->Ro R' d a)/\Sat R' Hs w/\∀ {Hs' w'},Sat R' Hs' w'->Sat R (Own s T (xs.map (Value.int .i64))::Hs') w':=
 Own.lend h (by simpa using o)
def Gv {P:Program} {R:Cx} {Hs Rest:List HP} {w:World} {b i:Nat} {l:List Int} {T t:TypeId} {a:IntKind} {x:Int} {K:World->Prop}
  (d:(P.info? t).map (·.size)=some 1) (o:Sat R Hs w) [tk:VM b Hs (.cells (l.map (Value.int a)).toArray T (0,0)) Rest] (hi:i<l.length)
  (k:∀ w',Sat R (pts b (.cells ((l.set i x).map (Value.int a)).toArray T (0,0))::Rest) w'->K w'):
  ∃ w',(Instr.storeAt t (.pointer (some (Addr.add ⟨b,0,none⟩ i))) (.int a x)).run P w=.ok () w'/\K w':=by
 rw [Zs];refine ZO o (tk:=tk) (by rw [d];rfl) rfl (by simp [Value.cells];omega) λ w' h=>k w' ?_;have e:Vz (l.map (Value.int a)) (0 + i) (Value.int a x).cells.toList=(l.set i x).map (Value.int a):=by
  simp [Vz,Value.cells,uv]
 rw [e] at h;exact h
section
def Znb (P:Program) (cl:FuncId->Bool) (X:List PanicEntry->List Value->World->Prop) (ps:List Nat) (ops:Array Oper):List Oper->Env->(Env->World->Prop)->World->Prop
 |[],ρ,K,w=>K ρ w
 |o::rest,ρ,K,w=>Un ops ρ o
   (λ ρ=>ZuT P cl (λ ch w=>X ch (vals ps ρ) w) ρ o (λ v w=>Znb P cl X ps ops rest (ρ.put o.dst v) K w) w)
   (λ ρ=>Znb P cl X ps ops rest (ρ.put o.dst undef) K w)
def Zdy (P:Program) (cl:FuncId->Bool) (X:List PanicEntry->List Value->World->Prop) (ps:List Nat) (ops:Array Oper) (S:World->Prop):Nat->Bool->Array Bool->Env->(Env->World->Prop)->World->Prop
 |0,_,listed,ρ,K,w=>(match Region.ready .any ops listed with
  |[]=>K ρ w
  |_=>False)
 |fuel + 1,hs,listed,ρ,K,w=>(match Region.ready .any ops listed with
  |[]=>K ρ w
  |r::rs=>(match ZgU P ops listed (r::rs) with
   |some i=>(match ops[i]? with
    |some o=>Un ops ρ o
      (λ ρ=>ZwF P S hs ρ o λ v=>Zdy P cl X ps ops S fuel hs (listed.setIfInBounds i true) (ρ.put o.dst v) K w)
      (λ ρ=>Zdy P cl X ps ops S fuel hs (listed.setIfInBounds i true) (ρ.put o.dst undef) K w)
    |none=>False)
   |none=>ZuH (λ i=>match ops[i]? with
    |some o=>Un ops ρ o
      (λ ρ=>(match Yo P o.op||Yl P o.op with
       |true=>False
       |false=>match VJ P ops i with
       |true=>ZuT P cl (λ ch w=>X ch (vals ps ρ) w) ρ o (λ v w=>S w/\Zdy P cl X ps ops S fuel hs (listed.setIfInBounds i true) (ρ.put o.dst v) K w) w
       |false=>ZuT P cl (λ ch w=>X ch (vals ps ρ) w) ρ o (λ v w=>Zdy P cl X ps ops S fuel false (listed.setIfInBounds i true) (ρ.put o.dst v) K w) w))
      (λ ρ=>(match Yo P o.op||Yl P o.op with
       |true=>False
       |false=>match VJ P ops i with
       |true=>(match hs with
        |true=>Zdy P cl X ps ops S fuel true (listed.setIfInBounds i true) (ρ.put o.dst undef) K w
        |false=>False)
       |false=>Zdy P cl X ps ops S fuel false (listed.setIfInBounds i true) (ρ.put o.dst undef) K w))
    |none=>False) (r::rs)))
structure XO (n:Nat) (ds:List Deferred) (pw:Nat->Bool) (a0:Env) (a:Act):Prop where
 size:a.tmps.size=n
 defers:a.defers=ds
 same:∀ i,pw i=false->a.env i=a0 i
def XO.put {n:Nat} {ds:List Deferred} {pw:Nat->Bool} {a0:Env} {a:Act} (h:XO n ds pw a0 a) {o:Oper} (u:Wg n pw o=true) (v:Value):XO n ds pw a0 (a.put o.dst v):=by
 refine ⟨by rw [ZeY];exact h.size,by rw [ZaZ];exact h.defers,λ i hi=>?_⟩;unfold Wg at u;have hd:∀ x,o.dst=some x->x<a.tmps.size:=λ x y=>by
  rw [y] at u;simp only [ql] at u;rw [h.size];exact ub.mp u.1
 rw [Zbb hd];cases y:o.dst with
 |none=>exact h.same i hi
 |some d=>
  rw [y] at u;simp only [ql] at u;simp only [Env.put,Env.set];split
  ·rename_i z;have:=qA z;subst this;rw [hi] at u;simp at u
  ·exact h.same i hi
def XO.envput {n:Nat} {ds:List Deferred} {pw:Nat->Bool} {a0:Env} {a:Act} (h:XO n ds pw a0 a) {o:Oper} (d:Wg n pw o=true) (v:Value):(a.put o.dst v).env=a.env.put o.dst v:=by
 refine Zbb λ x i=>?_;unfold Wg at d;rw [i] at d;simp only [ql] at d;rw [h.size];exact ub.mp d.1
def XO.unput {n:Nat} {ds:List Deferred} {pw:Nat->Bool} {a0:Env} {a:Act} {o:Oper} (u:Wg n pw o=true) {v:Value} (h:XO n ds pw a0 (a.put o.dst v)):XO n ds pw a0 a:=by
 have hs:a.tmps.size=n:=by rw [<-ZeY a o.dst v];exact h.size
 have z:a.defers=ds:=by rw [<-ZaZ a o.dst v];exact h.defers
 refine ⟨hs,z,λ i hi=>?_⟩;have:=h.same i hi;have hd:∀ x,o.dst=some x->x<a.tmps.size:=λ x y=>by
  unfold Wg at u;rw [y] at u;simp only [ql] at u;rw [hs];exact ub.mp u.1
 rw [Zbb hd] at this;unfold Wg at u;cases y:o.dst with
 |none=>rw [y] at this;exact this
 |some d=>
  rw [y] at this u;simp only [ql] at u;simp only [Env.put,Env.set] at this;split at this
  ·rename_i g;have:=qA g;subst this;rw [hi] at u;simp at u
  ·exact this
def ZrC (ps:List Nat) (o:Oper):Bool:=match o.dst with|some d=>!Zg5 d ps|none=>true
def Zo8 {n:Nat} {pw:Nat->Bool} {ps:List Nat} {a:Act} {o:Oper} (y:Wg n pw o=true) (hs:a.tmps.size=n) (u:ZrC ps o=true) (v:Value):vals ps (a.put o.dst v).env=vals ps a.env:=by
 have hd:∀ x,o.dst=some x->x<a.tmps.size:=λ x z=>by
  unfold Wg at y;rw [z] at y;simp only [ql] at y;rw [hs];exact ub.mp y.1
 rw [Zbb hd];unfold ZrC at u;cases z:o.dst with
 |none=>rfl
 |some d=>
  rw [z] at u;simp only [vq] at u;unfold vals;apply qP;intro i hi;simp only [Env.put,Env.set];split
  ·rename_i g
   have:=qA g;subst this;have:∀ l:List Nat,i∈l->Zg5 i l=true:=λ l=>by
    induction l with
    |nil=>intro h;cases h
    |cons j l ih=>
     intro h;unfold Zg5;cases g:Nat.beq i j with
     |true=>rfl
     |false=>
      rcases qk.1 h with rfl|h
      ·simp at g
      ·exact ih h
   rw [this ps hi] at u;cases u
  ·rfl
section
variable {P:Program} {cl:FuncId->Bool} {X:List PanicEntry->List Value->World->Prop} {ps:List Nat} {ops:Array Oper} {Q:Exit->Act->World->Prop} {n:Nat} {ds:List Deferred} {pw:Nat->Bool} {a0:Env}
def Vb (i:∀ g,cl g=true->ZS P g=true) {K:Env->World->Prop}
  (k:∀ a w,XO n ds pw a0 a->K a.env w->Q .normal a w) (m:∀ z a w,XO n ds pw a0 a->X z (vals ps a.env) w->Q (.panic z) a w):∀ (l:List Oper) (_:∀ o∈l,Zdu P o.op=true/\Wg n pw o=true) (a:Act) (w:World),
   XO n ds pw a0 a->Znb P cl X ps ops l a.env K w->wpList P ops Q l a w
 |[],_,a,w,hk,h=>k a w hk h
 |o::rest,hl,a,w,hk,h=>by
  have y:=hl o (qq ..);have d:=λ x p=>hl x (qj _ p);unfold Znb at h;unfold wpList;rcases Ym h with ⟨q,h⟩|⟨q,h⟩
  ·rw [qf q]
   refine .inl ?_;have:=Za1 i (λ z w p=>m z a w hk (by exact p)) y.1 h;rw [Yx] at this;unfold Oper.wp;refine upon_mono ?_ this;rintro a' w' ⟨v,rfl,t⟩;refine Vb i k m rest d _ w' (hk.put y.2 v) ?_;rw [hk.envput y.2];exact t
  ·rw [q]
   simp only [qy,jq];refine Vb i k m rest d _ w (hk.put y.2 _) ?_;rw [hk.envput y.2];exact h
where
 upon_mono {o:Oper} {a:Act} {K s:Act->World->Prop} {r:Result Next} (h:∀ a w,K a w->s a w) (u:o.upon P a K Q r):o.upon P a s Q r:=by
  cases r with
  |ok x w'=>
   cases x<;>simp only [Oper.upon] at u ⊢<;>
    first
     |exact h _ _ u
     |exact Calls.mono u (λ e f j=>by cases e<;>first|exact h _ _ j|exact j)
     |exact Rows.mono u (λ _ _ j=>h _ _ j)
  |halt x w'=>cases x<;>simp only [Oper.upon] at u ⊢<;>exact u
def Zi7 (O:∀ g,cl g=true->ZS P g=true) (U:Region.noSelect ops=true) {K:Env->World->Prop} {S:World->Prop}
  (hQ:∀ a w,XO n ds pw a0 a->K a.env w->Q .normal a w) (hX:∀ N a w,XO n ds pw a0 a->X N (vals ps a.env) w->Q (.panic N) a w) (A:∀ (i:Nat) (o:Oper) (v:Value) c a w,ops[i]? =some o->Q (.panic c) (a.put o.dst v) w->Q (.panic c) a w) (b:∀ (i:Nat) (o:Oper),ops[i]? =some o->Zdu P o.op=true/\Wg n pw o=true):
  ∀ (u:Nat) (hs:Bool) (d:Array Bool) (a:Act) (w:World),XO n ds pw a0 a->(hs=true->S w)->Zdy P cl X ps ops S u hs d a.env K w->
   wpT P .any ops Q S (VJ P ops) (looks P ops) u d a w:=by
 intro u
 induction u with
 |zero=>
  intro hs d a w hk hS h;unfold Zdy at h;split at h
  ·rename_i D;exact ⟨D,hQ a w hk h⟩
  ·exact h.elim
 |succ u ih=>
  intro hs d a w hk hS h;unfold Zdy at h;split at h
  ·rename_i D
   exact ⟨λ _=>hQ a w hk h,λ i hi=>by rw [D] at hi;cases hi⟩
  ·rename_i r rs D
   split at h
   ·rename_i i E
    obtain ⟨V,o,y,x,F⟩:=W1 E;rw [y] at h;simp only at h;obtain ⟨e,hd⟩:=b i o y;have G:VJ P ops i=false:=by
     unfold VJ;rw [y];simp only;rcases jy _ _|>.mp x with E|E<;>simp [E]
    have m:i∈Region.ready .any ops d:=by rw [D];exact V
    have H:=Region.free_spec (md:=.any) y F;have z:=Region.noSelect_spec U;rcases Ym h with ⟨t,h⟩|⟨t,h⟩
    ·rcases ZdL e x h with ⟨E,v,Y,hK⟩|⟨E,C,v,Y,hK⟩
     ·refine YC (T:=λ _=>True) y z (λ c a w W=>A i o _ c a w y W) G u d a w (λ j I hj p q l=>⟨H j I hj p q l,λ _ _ _ _ _=>trivial⟩) m (.inl ⟨t,?_⟩) trivial
       (ih hs (d.setIfInBounds i true) (a.put o.dst v) w (hk.put hd v) hS ?_)
      ·rw [<-Yx];exact Y
      ·rw [hk.envput hd];exact hK
     ·have B:Yl P o.op=true:=by rw [E] at x;simpa using x
      refine YC (T:=S) y z (λ c a w W=>A i o _ c a w y W) G u d a w (λ j I hj p q l=>⟨H j I hj p q l,λ w w' t J L=>?_⟩) m (.inl ⟨t,?_⟩) (hS C)
       (ih hs (d.setIfInBounds i true) (a.put o.dst v) w (hk.put hd v) hS ?_)
      ·cases hl:(Yo P I.op||Yl P I.op) with
       |true=>have:=L (by unfold looks;rw [hj];exact hl);rw [this];exact t
       |false=>exact J (Ze4 y hj B hl l)
      ·rw [<-Yx];exact Y
      ·rw [hk.envput hd];exact hK
    ·refine YC (T:=λ _=>True) y z (λ c a w W=>A i o _ c a w y W) G u d a w (λ j I hj p q l=>⟨H j I hj p q l,λ _ _ _ _ _=>trivial⟩) m (.inr ⟨t,rfl⟩) trivial
       (ih hs (d.setIfInBounds i true) (a.put o.dst undef) w (hk.put hd _) hS ?_)
     rw [hk.envput hd];exact h
   ·refine ⟨λ h0=>absurd (D ▸ h0) (by simp),λ i hi=>?_⟩
    rw [D] at hi;have h:=ZaK h i hi;split at h
    case h_2=>exact h.elim
    rename_i o y;obtain ⟨e,hd⟩:=b i o y;refine ZeC y ?_;rcases Ym h with ⟨t,h⟩|⟨t,h⟩
    ·refine .inl ⟨t,?_⟩
     split at h
     ·exact h.elim
     ·rename_i hl
      have M:looks P ops i=false:=by unfold looks;rw [y];exact hl
      split at h
      ·rename_i f
       have:=Za1 O (λ N w R=>hX N a w hk (by exact R)) e h;rw [Yx] at this;refine Vb.upon_mono ?_ this;rintro a' w' ⟨v,rfl,s,hK⟩;refine ⟨⟨λ _=>s,λ k=>(by rw [M] at k;cases k)⟩,ih hs _ _ w' (hk.put hd v) (λ _=>s) ?_⟩;rw [hk.envput hd];exact hK
      ·rename_i f
       have:=Za1 O (λ N w R=>hX N a w hk (by exact R)) e h;rw [Yx] at this;refine Vb.upon_mono ?_ this;rintro a' w' ⟨v,rfl,hK⟩;refine ⟨⟨λ k=>(by rw [f] at k;cases k),λ k=>(by rw [M] at k;cases k)⟩,ih false _ _ w' (hk.put hd v) (λ k=>by cases k) ?_⟩;rw [hk.envput hd];exact hK
    ·refine .inr ⟨t,?_⟩
     split at h
     ·exact h.elim
     ·rename_i hl
      have M:looks P ops i=false:=by unfold looks;rw [y];exact hl
      split at h
      ·split at h
       ·have s:=hS rfl
        refine ⟨⟨λ _=>s,λ _=>rfl⟩,ih true _ _ w (hk.put hd _) (λ _=>s) ?_⟩;rw [hk.envput hd];exact h
       ·exact h.elim
      ·rename_i f
       refine ⟨⟨λ k=>(by rw [f] at k;cases k),λ _=>rfl⟩,ih false _ _ w (hk.put hd _) (λ k=>by cases k) ?_⟩;rw [hk.envput hd];exact h
end
end
section
def Zer (P:Program) (cl:FuncId->Bool) (X:List PanicEntry->List Value->World->Prop) (ps:List Nat):Code->Sk->Env->ZqZ->World->Prop
 | .skip,_,ρ,K,w=>K.nrm ρ w
 | .label _,_,ρ,K,w=>K.nrm ρ w
 | .region _ ops d,_,ρ,K,w=>(match d with
  |false=>Znb P cl X ps ops ops.toList ρ K.nrm w
  |true=>Drw w λ S w'=>Zdy P cl X ps ops S ops.size true (Array.replicate ops.size false) ρ K.nrm w')
 | .seq a b,sk,ρ,K,w=>(match sk with
  | .cut ms ts W _ _=>ZwL ts ms W ρ (λ k=>Zer P cl X ps a sk.l ρ { K with nrm:=k } w) (λ ρ' w'=>Zer P cl X ps b sk.r ρ' K w')
  |_=>Zer P cl X ps a sk.l ρ { K with nrm:=λ ρ' w'=>Zer P cl X ps b sk.r ρ' K w' } w)
 | .cond c a b,sk,ρ,K,w=>(match ρ.ev c with
  | .bool t=>Br t (Zer P cl X ps a sk.l ρ K w) (Zer P cl X ps b sk.r ρ K w)
  |_=>False)
 | .block id a,sk,ρ,K,w=>Zer P cl X ps a sk.l ρ { K with ex:=λ i=>match Nat.beq i id with|true=>K.nrm|false=>K.ex i } w
 | .loop a,sk,ρ,K,w=>(match sk with
  | .loop ms ts W _=>ZpG ts ms W ρ (λ ρ' k w'=>Zer P cl X ps a sk.l ρ' { K with nrm:=k } w') w
  |_=>False)
 | .scope a,sk,ρ,K,w=>Zer P cl X ps a sk.l ρ K w
 | .exit id,_,ρ,K,w=>K.ex id ρ w
 | .ret,_,ρ,K,w=>K.ret ρ w
 |_,_,_,_,_=>False
def Vk (P:Program) (n:Nat) (ps:List Nat):Code->Bool
 | .region _ ops d=>Region.noSelect ops && (ops.all λ o=>Zdu P o.op && (match o.dst with|some d=>Nat.blt d n|none=>true)) && (match d with|true=>ops.all (ZrC ps)|false=>true)
 | .seq a b| .cond _ a b=>Vk P n ps a && Vk P n ps b
 | .block _ a| .loop a| .scope a=>Vk P n ps a
 | .rangeFunc _ _ _ _=>false
 |_=>true
def PKx (n:Nat) (ds:List Deferred) (pw:Nat->Bool) (X:List PanicEntry->List Value->World->Prop) (ps:List Nat) (a0:Env) (K:ZqZ):Exit->Act->World->Prop
 | .normal,a,w=>XO n ds pw a0 a/\K.nrm a.env w
 | .exit i,a,w=>XO n ds pw a0 a/\K.ex i a.env w
 | .ret,a,w=>XO n ds pw a0 a/\K.ret a.env w
 | .panic ch,a,w=>XO n ds pw a0 a/\X ch (vals ps a.env) w
 |_,_,_=>False
def XO.refl' {n:Nat} {ds:List Deferred} {pw:Nat->Bool} {a:Act} (h:a.tmps.size=n) (hd:a.defers=ds):XO n ds pw a.env a:=⟨h,hd,λ _ _=>rfl⟩
def XO.trans {n:Nat} {ds:List Deferred} {pw q:Nat->Bool} {a0:Env} {a b:Act} (h:XO n ds pw a0 a) (h':XO n ds (λ i=>pw i && q i) a.env b):XO n ds pw a0 b:=
 ⟨h'.size,h'.defers,λ i hi=>(h'.same i (by simp [hi])).trans (h.same i hi)⟩
variable {P:Program} {cl:FuncId->Bool} {X:List PanicEntry->List Value->World->Prop} {ps:List Nat} {n:Nat} {ds:List Deferred}
def ZeV (j:∀ g,cl g=true->ZS P g=true) (k:P.follows .mixedOrders=true) {pw:Nat->Bool} {a0:Env} {id:Nat} {ops:Array Oper} {d:Bool}
  (r:Vk P n ps (.region id ops d)=true) (s:ZaO pw (.region id ops d)=true) {sk:Sk} {K:ZqZ} {a:Act} {w:World} (hk:XO n ds pw a0 a)
  (h:Zer P cl X ps (.region id ops d) sk a.env K w):(Code.region id ops d).wp P (PKx n ds pw X ps a0 K) a w:=by
 simp only [Vk,ql] at r;obtain ⟨⟨l,u⟩,m⟩:=r;rw [q8] at u;simp only [ql] at u;simp only [ZaO,q8] at s;have y:∀ o∈ops,Zdu P o.op=true/\Wg n pw o=true:=λ o z=>by
  have q:=u o z;have t:=s o z;refine ⟨q.1,?_⟩;unfold Wg;cases hd:o.dst with
  |none=>rfl
  |some x=>rw [hd] at q t;simp only [ql];exact ⟨q.2,t⟩
 unfold Zer at h;cases d with
 |false=>
  exact wp_region_list (Vb (X:=X) (ps:=ps) (Q:=PKx n ds pw X ps a0 K) j (λ a w hk h=>⟨hk,h⟩) (λ e a w hk h=>⟨hk,h⟩) ops.toList (λ o z=>y o (by simpa using z)) a w hk h)
 |true=>
  obtain ⟨f,S,hS,h⟩:=h;obtain ⟨hS,h⟩:=h _ hS;refine wp_region_any k (Zb3 _ _ _ _ (Zi7 (X:=X) (ps:=ps) (Q:=PKx n ds pw X ps a0 K) j l (λ a w hk h=>⟨hk,h⟩) (λ e a w hk h=>⟨hk,h⟩) (λ i o v c a w z h=>by
   have hm:=Array.mem_of_getElem? z;have hd:=(y o hm).2;rw [q8] at m;have p:=XO.unput hd h.1;exact ⟨p,by rw [<-Zo8 hd p.size (m o hm) v];exact h.2⟩) (λ i o z=>y o (Array.mem_of_getElem? z)) _ _ _ _ _ hk (λ _=>hS) h))
def Y3 (z:∀ g,cl g=true->ZS P g=true) (u:P.follows .mixedOrders=true):∀ (c:Code) (sk:Sk) (pw:Nat->Bool) (a0:Env),
  Vk P n ps c=true->ZaO pw c=true->ZfU c sk=true->∀ (a:Act) (K:ZqZ) (w:World),XO n ds pw a0 a->Zer P cl X ps c sk a.env K w->c.wp P (PKx n ds pw X ps a0 K) a w
 | .skip,sk,pw,a0,_,_,_,a,K,w,hk,h=>wp_skip ⟨hk,h⟩
 | .label _,sk,pw,a0,_,_,_,a,K,w,hk,h=>wp_label ⟨hk,h⟩
 | .exit _,sk,pw,a0,_,_,_,a,K,w,hk,h=>wp_exit ⟨hk,h⟩
 | .ret,sk,pw,a0,_,_,_,a,K,w,hk,h=>wp_ret ⟨hk,h⟩
 | .region id ops d,sk,pw,a0,j,m,_,a,K,w,hk,h=>ZeV z u j m hk h
 | .goto _,sk,pw,a0,_,_,_,a,K,w,hk,h=>h.elim
 | .refuse _,sk,pw,a0,_,_,_,a,K,w,hk,h=>h.elim
 | .rangeFunc _ _ _ _,sk,pw,a0,_,_,_,a,K,w,hk,h=>h.elim
 | .scope c,sk,pw,a0,j,m,hs,a,K,w,hk,h=>by
  refine wp_scope_straight ?_;refine Code.wp_mono ?_ (Y3 z u c sk.l pw a0 j m hs a K w hk h);intro e a w o;cases e<;>first|exact o|exact o.elim
 | .block id c,sk,pw,a0,j,m,hs,a,K,w,hk,h=>by
  refine wp_block ?_;refine Code.wp_mono ?_ (Y3 z u c sk.l pw a0 j m hs a _ w hk h);intro e a w o;cases e with
  |exit i=>
   obtain ⟨hk,o⟩:=o;show if i=id then _ else _
   by_cases hi:i=id
   ·subst hi
    rw [qf rfl];have:Nat.beq i i=true:=by simp
    simp only [this] at o;exact ⟨hk,o⟩
   ·rw [qc hi]
    have:Nat.beq i id=false:=by
     cases s:Nat.beq i id with
     |false=>rfl
     |true=>exact absurd (qA s) hi
    simp only [this] at o;exact ⟨hk,o⟩
  |normal=>exact o
  |ret=>exact o
  |panic ch=>exact o
  |_=>exact o.elim
 | .cond c x y,sk,pw,a0,j,m,hs,a,K,w,hk,h=>by
  simp only [Vk,ZaO,ZfU,ql] at j m hs;unfold Zer at h;split at h
  ·rename_i t ht
   rw [Yx] at ht;refine wp_cond_split ht (λ s=>?_) (λ s=>?_)
   ·subst s;exact Y3 z u x sk.l pw a0 j.1 m.1 hs.1 a K w hk h
   ·subst s;exact Y3 z u y sk.r pw a0 j.2 m.2 hs.2 a K w hk h
  ·exact h.elim
 | .seq x y,sk,pw,a0,j,m,hs,a,K,w,hk,h=>by
  simp only [Vk,ZaO,ZfU,ql] at j m hs;refine wp_seq ?_;have plain:Zer P cl X ps x sk.l a.env { K with nrm:=λ ρ' w'=>Zer P cl X ps y sk.r ρ' K w' } w->x.wp P (Exit.then (y.wp P (PKx n ds pw X ps a0 K)) (PKx n ds pw X ps a0 K)) a w:=λ h=>by
   refine Code.wp_mono ?_ (Y3 z u x sk.l pw a0 j.1 m.1 hs.1.2 a _ w hk h);intro e a w o;cases e with
   |normal=>exact Y3 z u y sk.r pw a0 j.2 m.2 hs.2 a K w o.1 o.2
   |_=>exact o
  cases sk with
  |cut ms ts W l r=>
   simp only [ql] at hs;obtain ⟨J,G,L⟩:=(show ZwL ts ms W a.env (λ k=>Zer P cl X ps x l a.env { K with nrm:=k } w) (λ ρ' w'=>Zer P cl X ps y r ρ' K w') from h)
   have:=Y3 z u x l (λ i=>pw i && Zg5 i W) a.env j.1 (X9 m.1 hs.1.1.1) hs.1.2 a _ w (XO.refl' hk.size hk.defers) G;refine Code.wp_mono ?_ this;intro e b w' o;cases e with
   |normal=>
    obtain ⟨q,o⟩:=o;have E:=L b.env;have s:=Zdi (by rw [ZbG];exact qA hs.1.1.2) o E w' o;rw [Ze6 (λ i hi=>q.same i (by simp [hi]))] at s;exact Y3 z u y r pw a0 j.2 m.2 hs.2 b K w' (hk.trans q) s
   |exit i=>exact ⟨hk.trans o.1,o.2⟩
   |ret=>exact ⟨hk.trans o.1,o.2⟩
   |panic ch=>exact ⟨hk.trans o.1,o.2⟩
   |_=>exact o.elim
  |leaf=>exact plain h
  |seq l r=>exact plain h
  |cond l r=>exact plain h
  |block l=>exact plain h
  |loop ms ts W l=>exact plain h
 | .loop c,sk,pw,a0,j,m,hs,a,K,w,hk,h=>by
  cases sk with
  |loop ms ts W l=>
   simp only [ZfU,ql] at hs;have j:Vk P n ps c=true:=j;have m:ZaO pw c=true:=m;obtain ⟨I,μ,M,D⟩:=(show ZpG ts ms W a.env (λ ρ' k w'=>Zer P cl X ps c l ρ' { K with nrm:=k } w') w from h)
   have F:∀ e:Env,(vals ms e).length=ts.length:=λ e=>by rw [ZbG];exact qA hs.1.2
   refine wp_loop (λ b v=>XO n ds pw a0 b/\(∀ i,Zg5 i W=false->b.env i=a.env i)/\app ts I (vals ms b.env) (λ p=>p v))
    (λ b v=>ZlR (λ _=>0) ts μ (vals ms b.env) v) ⟨hk,λ _ _=>rfl,M⟩ ?_
   rintro b v ⟨q,f,hI⟩;have s:=Zdi (F b.env) hI (D b.env) v hI;rw [Ze6 f] at s;have:=Y3 z u c l (λ i=>pw i && Zg5 i W) b.env j (X9 m hs.1.1) hs.2 b _ v (XO.refl' q.size q.defers) s;refine Code.wp_mono ?_ this;intro e b' v' o;cases e with
   |normal=>
    obtain ⟨A,H,N⟩:=o;exact ⟨⟨q.trans A,λ i hi=>(A.same i (by simp [hi])).trans (f i hi),H⟩,by
     have G:=Zdh (d:=λ _=>0) N;exact Zdh (d:=λ _=>0) G⟩
   |exit i=>exact ⟨q.trans o.1,o.2⟩
   |ret=>exact ⟨q.trans o.1,o.2⟩
   |panic ch=>exact ⟨q.trans o.1,o.2⟩
   |_=>exact o.elim
  |_=>exact False.elim h
def ZrV (P:Program) (n:Nat) (fn:Func) (sk:Sk) (ps:List Nat):Bool:=
 Nat.beq n fn.ntmps && (match fn.body with|some c=>Vk P n ps c && ZaO (λ _=>true) c && ZfU c sk|none=>false) &&
  fn.results.all λ r=>match r with| .tmp _=>true| .cell _ t=>Znx P t
def Zx6 (P:Program) (cl:FuncId->Bool) (X:List PanicEntry->World->Prop) (fn:Func) (sk:Sk) (args:List Value) (K:nK) (w:World):Prop:=
 match fn.body with
 |some c=>Zer P cl (λ ch _ w=>X ch w) [] c sk (Gr args) { nrm:=λ ρ w=>ZmG P ρ K fn.results.toList [] w,ex:=λ _ _ _=>False,ret:=λ ρ w=>ZmG P ρ K fn.results.toList [] w } w
 |none=>False
def XG (P:Program) (f:FuncId) (args:Array Value) (w:World) (X:List PanicEntry->World->Prop) (K:nK):Prop:=
 Calls P f args w λ e w'=>(∃ v,e=.returned v/\K v w')\/∃ ch,e=.panicked ch/\X ch w'
def XG.use {f:FuncId} {args:Array Value} {w:World} {X:List PanicEntry->World->Prop} {K:Value->World->Prop} {R:Ending->World->Prop} (h:XG P f args w X K) (k:∀ v w',K v w'->R (.returned v) w') (o:∀ a w',X a w'->R (.panicked a) w'):Calls P f args w R:=
 Calls.mono h λ e w' i=>by
  rcases i with ⟨v,rfl,d⟩|⟨a,rfl,d⟩
  ·exact k v w' d
  ·exact o a w' d
def Zc7 {fn:Func} {args:List Value}:({ tmps:=args.toArray++Array.replicate (fn.ntmps - args.toArray.size) undef,defers:=[] }:Act).env=Gr args:=by
 funext i
 rw [Zbg];simp only [Act.env];rcases vO i args.length with hi|hi
 ·simp [Array.getElem?_append,hi]
 ·simp only [Array.getD_eq_getD_getElem?,Array.getElem?_append,vP,qc (Nat.not_lt.2 hi),Array.getElem?_replicate,List.getD_eq_getElem?_getD,List.getElem?_eq_none hi]
  split<;>rfl
def ZmF {fn:Func} (h:(fn.results.all λ r=>match r with| .tmp _=>true| .cell _ t=>Znx P t)=true) {a:Act} {K:Value->World->Prop} {w:World} (d:ZmG P a.env K fn.results.toList [] w):
  ∃ v,(results fn a.tmps).run P w=.ok v w/\K v w:=by
 obtain ⟨vs,o,i⟩:=UU fn.results.toList [] (λ r d=>by
  rw [q8] at h;exact h r (by simpa using d)) d
 have hm:(fn.results.mapM (Zct a.tmps)).run P w=.ok vs.toArray w:=by
  rw [uF];simp only [Sem.run_map,o,Result.andThen_ok]
 refine ⟨_,by rw [ZdX,Sem.run_bind,hm];rfl,?_⟩;cases vs with
 |nil=>exact i
 |cons v vs=>cases vs with
  |nil=>exact i
  |cons u us=>exact i
def Zou {f:FuncId} {fn:Func} {sk:Sk} (j:∀ g,cl g=true->ZS P g=true) (z:P.follows .mixedOrders=true)
  (q:P.funcs[f]? =some fn) (y:ZrV P fn.ntmps fn sk []=true) {args:List Value} {X:List PanicEntry->World->Prop} {K:Value->World->Prop} {w:World} (k:args.length<=fn.ntmps)
  (h:Zx6 P cl X fn sk args K w):XG P f args.toArray w X K:=by
 unfold XG;unfold Zx6 at h;unfold ZrV at y;simp only [ql] at y;obtain ⟨⟨_,d⟩,o⟩:=y;split at h
 case h_2=>exact h.elim
 rename_i c p;rw [p] at d;simp only [ql] at d;refine calls_of_wp q p ?_;rw [<-Zc7 (fn:=fn)] at h;refine Code.wp_mono ?_ (Y3 (n:=fn.ntmps) (ds:=[]) j z c sk (λ _=>true) _ d.1.1 d.1.2 d.2 _ _ w (XO.refl' (by simp;omega) rfl) h);intro e a w u;cases e with
 |normal=>obtain ⟨v,l,m⟩:=ZmF o u.2;exact ⟨u.1.defers,v,l,.inl ⟨v,rfl,m⟩⟩
 |ret=>obtain ⟨v,l,m⟩:=ZmF o u.2;exact ⟨u.1.defers,v,l,.inl ⟨v,rfl,m⟩⟩
 |exit i=>exact u.2.elim
 |panic ch=>exact ⟨u.1.defers,.inr ⟨ch,rfl,u.2⟩⟩
 |_=>exact u.elim
end
section
open Go
section
variable {P:Program} {cl:FuncId->Bool}
def Znc (u:∀ g,cl g=true->ZS P g=true) {ops:Array Oper} {K:Env->World->Prop} {n:Nat} {pw:Nat->Bool} {a0:Env} {cs:List Frame} {Q:Exit->Act->List Frame->World->Prop}
    (k:∀ a w,W2 n pw a0 a->K a.env w->Q .normal a cs w):∀ (l:List Nat) (os:List Oper) (_:l.map (λ i=>ops[i]?)=os.map some) (_:∀ o∈os,Zdu P o.op=true/\Wg n pw o=true) (a:Act) (w:World),
      W2 n pw a0 a->Zo1 P cl ops os a.env K w->wpOpsS P ops Q l a cs w
  |[],os,hl,_,a,w,hk,h=>by
    have:os=[]:=by cases os with
      |nil=>rfl
      |cons _ _=>simp at hl
    subst this;exact k a w hk h
  |i::l,os,hl,z,a,w,hk,h=>by
    cases os with
    |nil=>simp at hl
    |cons o os=>
      simp only [qi,jT] at hl;obtain ⟨hi,hl⟩:=hl;have j:=z o (qq ..);have d:=λ x q=>z x (qj _ q);unfold Zo1 at h;simp only [wpOpsS,hi];rcases Ym h with ⟨m,h⟩|⟨m,h⟩
      · rw [qf m]
        have p:=ZgX u (a:=a) (Q:=λ e y w'=>Q e y cs w') j.1 h;rw [Yx] at p;have key:o.upon P a (λ y w'=>wpOpsS P ops Q l y cs w') (λ e y w'=>Q e y cs w') ((execOp a.eval o).run P w):=by
          refine Yp.upon_mono ?_ p;rintro y w' ⟨v,rfl,r⟩;refine Znc u k l os hl d _ w' (hk.put j.2 v) ?_;rw [hk.envput j.2];exact r
        split
        · rename_i w' s
          rw [s] at key;exact key.elim
        · exact key
      · rw [m]
        simp only [qy,jq];refine Znc u k l os hl d _ w (hk.put j.2 _) ?_;rw [hk.envput j.2];exact h
def ZwG (P:Program) (cl:FuncId->Bool) (fn:Func) (sk:Sk) (args:List Value) (x:Value) (K:World->Prop) (w:World):Prop:=
  match fn.body with
  |some (.seq (.region _ o0 false) rest)=>(match o0.toList with
    |orec::tl=>Zo1 P cl o0 tl ((Gr args).put orec.dst x) (λ ρ w=>den P cl rest sk ρ { nrm:=λ _ w=>K w,ex:=λ _ _ _=>False,ret:=λ _ w=>K w } w) w
    |[]=>False)
  |_=>False
def Zpk (P:Program) (fn:Func) (sk:Sk):Bool:=
  (match fn.body with
  |some (.seq (.region _ o0 false) rest)=>(match o0.toList with
    |orec::tl=>(match orec.op with| .call ⟨.builtin .recover,_,_⟩=>true|_=>false) && orec.guard.isNone && (match orec.dst with|some d=>Nat.blt d fn.ntmps|none=>true) &&
        (tl.all λ o=>Zdu P o.op && Wg fn.ntmps (λ _=>true) o) && UG P fn.ntmps rest && ZaO (λ _=>true) rest && ZfU rest sk
    |[]=>false)
  |_=>false) && fn.results.isEmpty
def ZmH (D:∀ g,cl g=true->ZS P g=true) (E:P.follows .mixedOrders=true) {f:FuncId} {fn:Func} {sk:Sk} (hf:P.funcs[f]? =some fn) (z:Zpk P fn sk=true) {args:List Value} (O:args.length<=fn.ntmps)
    {K:World->Prop} {w:World} {u u':FrameMode} {x:Value} (F:∀ (j:Frame) (cs:List Frame),j.mode=u->(recoverD (j::cs)=some (x,{ j with mode:=u' }::cs))\/(recoverD (j::cs)=none/\x=.nilIface/\u'=u))
    (h:ZwG P cl fn sk args x K w):CallsD P f args.toArray u w λ e v w'=>(∃ y,e=.returned y)/\v=u'/\K w':=by
  unfold Zpk at z;unfold ZwG at h;rw [ql] at z;obtain ⟨z,G⟩:=z;split at h
  case h_2=>exact h.elim
  rename_i id o0 rest B;rw [B] at z;simp only at z;split at h
  case h_2=>exact h.elim
  rename_i orec tl N;rw [N] at z;simp only [ql] at z;obtain ⟨⟨⟨⟨⟨⟨q,hg⟩,hd⟩,Q⟩,U⟩,V⟩,W⟩:=z;have m:=Zc7 (fn:=fn) (args:=args);refine callsD_of_wpS hf B λ j cs T=>wpS_seq (wpS_region ?_);generalize R:({ tmps:=args.toArray++Array.replicate (fn.ntmps - args.toArray.size) undef,defers:=[] }:Act)=A at m;have X:A.tmps.size=fn.ntmps:=by rw [<-R];simp;omega
  have Y:A.defers=[]:=by rw [<-R]
  have r:fn.results=#[]:=by simpa using G
  have s:o0.size=tl.length + 1:=by rw [<-jw,N];simp
  have k:List.range o0.size=0::(List.range tl.length).map (· + 1):=by rw [s,List.range_succ_eq_map]
  rw [k];have h0:o0[0]? =some orec:=by rw [<-Array.getElem?_toList,N];rfl
  have H:((List.range tl.length).map (· + 1)).map (λ i=>o0[i]?)=tl.map some:=by
    rw [qZ];apply List.ext_getElem?;intro i;simp only [List.getElem?_map];by_cases hi:i<tl.length
    · simp only [List.getElem?_range hi,vm,Function.comp]
      rw [<-Array.getElem?_toList,N,List.getElem?_cons_succ];simp [hi]
    · rw [List.getElem?_eq_none (by simpa using hi),List.getElem?_eq_none (by omega)];rfl
  have I:(execOp A.eval orec).run P w=.ok .recover w:=by
    obtain ⟨dst,op,ty,pos,after,guard⟩:=orec;dsimp only at q;split at q
    · rfl
    · cases q
  have t:Region.wanted orec (yielded o0 A.tmps)=true:=by
    unfold Region.wanted;rw [vA.1 hg]
  have p:Wg fn.ntmps (λ _=>true) orec=true:=by
    unfold Wg;cases hx:orec.dst with
    |none=>rfl
    |some d=>rw [hx] at hd;simpa using hd
  have J:W2 fn.ntmps (λ _=>true) A.env A:=W2.refl X Y;have go:∀ (l:List Frame),l={ j with mode:=u' }::cs->wpOpsS P o0 (Exit.thenS (rest.wpS P (bodyPostS P fn j cs λ e v w'=>(∃ y,e=.returned y)/\v=u'/\K w')) (bodyPostS P fn j cs λ e v w'=>(∃ y,e=.returned y)/\v=u'/\K w'))
      ((List.range tl.length).map (· + 1)) (A.put orec.dst x) l w:=λ l S=>by
    refine Znc (n:=fn.ntmps) (pw:=λ _=>true) (a0:=A.env) (K:=λ ρ w=>den P cl rest sk ρ { nrm:=λ _ w=>K w,ex:=λ _ _ _=>False,ret:=λ _ w=>K w } w) D ?_ _ tl H (λ o hm=>by
      have:=qW.1 Q o hm;simpa using this) _ w (J.put p x) ?_
    · intro a w hk L
      refine wpS_of_wp ?_;refine Code.wp_mono ?_ (Xx (n:=fn.ntmps) D E rest sk (λ _=>true) a.env U V W a _ w (W2.refl hk.size hk.defers) L);have fin:∀ (a:Act) (w:World),a.defers=[]->K w->a.defers=[]/\∃ M,l={ j with mode:=M }::cs/\∃ v,(results fn a.tmps).run P w=.ok v w/\((∃ y,Ending.returned v=.returned y)/\M=u'/\K w):=λ a w hd hK=>
        ⟨hd,u',S,.tuple #[],by
          simp [results,r],⟨_,rfl⟩,rfl,hK⟩
      intro e b w c;cases e with
      |normal=>exact fin b w c.1.defers c.2
      |ret=>exact fin b w c.1.defers c.2
      |exit i=>exact c.2.elim
      |_=>exact c.elim
    · rw [J.envput p,m];exact h
  simp only [wpOpsS,h0,t,vp,I];rcases F j cs T with C|⟨C,rfl,rfl⟩
  · rw [C];exact go _ rfl
  · rw [C];exact go _ (by rw [<-T])
def ZgJ (o:∀ g,cl g=true->ZS P g=true) (d:P.follows .mixedOrders=true) {f:FuncId} {fn:Func} {sk:Sk} (u:P.funcs[f]? =some fn) (i:Zpk P fn sk=true) {args:List Value} (a:args.length<=fn.ntmps)
    {K:World->Prop} {w:World} {x:Value} (h:ZwG P cl fn sk args x K w):
    CallsD P f args.toArray (.panicking [{ v:=x,recovered:=false }]) w λ e v w'=>(∃ y,e=.returned y)/\v=.panicking [{ v:=x,recovered:=true }]/\K w':=
  ZmH o d u i a (λ j cs z=>.inl (by simp [recoverD,z])) h
def ZdY (o:∀ g,cl g=true->ZS P g=true) (d:P.follows .mixedOrders=true) {f:FuncId} {fn:Func} {sk:Sk} (u:P.funcs[f]? =some fn) (i:Zpk P fn sk=true) {args:List Value} (a:args.length<=fn.ntmps)
    {K:World->Prop} {w:World} (h:ZwG P cl fn sk args .nilIface K w):
    CallsD P f args.toArray .returning w λ e v w'=>(∃ y,e=.returned y)/\v=.returning/\K w':=
  ZmH o d u i a (λ j cs z=>.inr ⟨by simp [recoverD,z],rfl,rfl⟩) h
def ZgG (P:Program) (K:nK):List ResultVar->List Value->List Value->World->Prop
  |[],_,acc,w=>Zx8 K acc.reverse w
  | .tmp _::rs,v::vs,acc,w=>ZgG P K rs vs (v::acc) w
  | .cell _ t::rs,v::vs,acc,w=>Zdw P (λ w'=>w'=w) t v λ x=>ZgG P K rs vs (x::acc) w
  |_::_,[],_,_=>False
def Zca:ResultVar->Nat| .tmp t=>t| .cell a _=>a
def ZeS {ρ:Env} {K:Value->World->Prop}:∀ (o:List ResultVar) (acc:List Value) (w:World),ZgG P K o (vals (o.map Zca) ρ) acc w->ZmG P ρ K o acc w
  |[],_,_,h=>h
  | .tmp t::o,acc,w,h=>ZeS o (ρ t::acc) w h
  | .cell a t::o,acc,w,h=>by
    have h:Zdw P (λ w'=>w'=w) t (ρ a) λ x=>ZgG P K o (vals (o.map Zca) ρ) (x::acc) w:=h;show Zdw P (λ w'=>w'=w) t (ρ a) λ x=>ZmG P ρ K o (x::acc) w;have mono:∀ {F G:Value->Prop},(∀ x,F x->G x)->Zdw P (λ w'=>w'=w) t (ρ a) F->Zdw P (λ w'=>w'=w) t (ρ a) G:=λ {F G} d hl=>by
      have exm:∀ {ty:Ty} {F G:Value->Prop},(∀ x,F x->G x)->ty.ex F->ty.ex G:=λ {ty F G} d h=>by
        cases ty<;>(obtain ⟨y,z⟩:=h;exact ⟨y,d _ z⟩)
      have exA:∀ {ts:List Ty} {F G:List Value->Prop},(∀ x,F x->G x)->ZiQ ts F->ZiQ ts G:=λ {ts}=>by
        induction ts with
        |nil=>exact λ d h=>d _ h
        |cons ty ts ih=>exact λ d h=>exm (λ v g=>ih (λ x i=>d _ i) g) h
      unfold Zdw at hl ⊢;split at hl
      · unfold Zb at hl ⊢
        split at hl
        · cases u:Zed P t
          · simp only [u] at hl ⊢
            exact exm (λ x i=>⟨i.1,d _ i.2⟩) hl
          · simp only [u] at hl ⊢
            split at hl
            · exact exA (λ x i=>⟨i.1,d _ i.2⟩) hl
            · obtain ⟨vs,j,k,l⟩:=hl
              exact ⟨vs,j,k,d _ l⟩
        · exact hl.elim
      · exact hl.elim
    exact mono (λ x i=>ZeS o (x::acc) w i) h
def Z3 (P:Program) (g:FuncId) (args:List Value) (u:FrameMode) (Kr:World->Prop) (w:World):Prop:=
  CallsD P g args.toArray u w λ e u' w'=>(∃ y,e=.returned y)/\settle u'=.returning/\Kr w'
def tgtF (cl:FuncId->Bool) (f:Value) (K:FuncId->List Value->List Value->Prop):Prop:=
  match f with
  | .func fn first captured=>(match fn with
    | .func g=>(match cl g with
      |true=>K g first.toList captured.toList
      |false=>False)
    |_=>False)
  |_=>False
def Zyb (P:Program) (cl:FuncId->Bool) (fn:Func) (sk:Sk) (args:List Value) (K:nK) (w:World):Prop:=
  match fn.body with
  |some (.seq (.region _ o0 false) (.seq (.region _ o1 false) rest))=>
    Zo1 P cl o0 o0.toList (Gr args) (λ ρ w=>Zo1 P cl o1 o1.toList.dropLast ρ (λ ρ w=>
      match o1.toList.getLast? with
      |some od=>(match od.op with
        | .defer c=>(match c.callee with
          | .value f=>tgtF cl (ρ.ev f) λ g first captured=>
              Zer P cl (λ ch vs w=>Z3 P g (first++((c.args.map ρ.ev).toList++captured)) (.panicking ch) (ZgG P K fn.results.toList vs []) w) (fn.results.toList.map Zca) rest sk ρ
                { nrm:=λ ρ' w=>Z3 P g (first++((c.args.map ρ.ev).toList++captured)) .returning (ZgG P K fn.results.toList (vals (fn.results.toList.map Zca) ρ') []) w,ex:=λ _ _ _=>False,
                  ret:=λ ρ' w=>Z3 P g (first++((c.args.map ρ.ev).toList++captured)) .returning (ZgG P K fn.results.toList (vals (fn.results.toList.map Zca) ρ') []) w } w
          |_=>False)
        |_=>False)
      |none=>False) w) w
  |_=>False
def Zse (P:Program) (cl:FuncId->Bool) (fn:Func) (sk:Sk):Bool:=
  (match fn.body with
  |some (.seq (.region _ o0 false) (.seq (.region _ o1 false) rest))=>
    (o0.toList.all λ o=>Zdu P o.op && Wg fn.ntmps (λ _=>true) o) && (o1.toList.dropLast.all λ o=>Zdu P o.op && Wg fn.ntmps (λ _=>true) o) &&
      (match o1.toList.getLast? with|some od=>od.guard.isNone && od.dst.isNone|none=>false) &&
      Vk P fn.ntmps (fn.results.toList.map Zca) rest && ZaO (λ _=>true) rest && ZfU rest sk
  |_=>false) && fn.results.all λ r=>match r with| .tmp _=>true| .cell _ t=>Znx P t
def VN {ops:Array Oper} {Q:Exit->Act->World->Prop}:∀ (l d:List Oper) (a:Act) (w:World),wpList P ops (Exit.then (λ a w=>wpList P ops Q d a w) Q) l a w->wpList P ops Q (l++d) a w
  |[],d,a,w,h=>h
  |o::l,d,a,w,h=>by
    unfold wpList at h;rw [qU];unfold wpList;by_cases u:Region.wanted o (yielded ops a.tmps)=true
    · rw [qf u] at h ⊢
      rcases h with h|h
      · refine .inl ?_
        unfold Oper.wp at h ⊢
        revert h
        cases (execOp a.eval o).run P w with
        |ok x w'=>
          cases x<;>simp only [Oper.upon]<;>
            first
              |exact λ h=>VN l d _ _ h
              |(intro h;refine Calls.mono h ?_;intro e w'' i;cases e<;>first|exact VN l d _ _ i|exact i)
              |(intro h;exact Rows.mono h λ _ _ i=>VN l d _ _ i)
              |exact λ h=>h
        |halt x w'=>cases x<;>simp only [Oper.upon]<;>exact λ h=>h
      · exact .inr h
    · rw [qc u] at h ⊢
      exact VN l d _ _ h
def CallsD.mono {f:FuncId} {args:Array Value} {u:FrameMode} {w:World} {R R':Ending->FrameMode->World->Prop} (h:CallsD P f args u w R) (k:∀ e u w,R e u w->R' e u w):CallsD P f args u w R':=
  λ c cs a=>let ⟨e,u',w',fr,r,s⟩:=h c cs a;⟨e,u',w',fr,k _ _ _ r,s⟩
def GJ (z:∀ g,cl g=true->ZS P g=true) {fn:Func} (i:(fn.results.all λ r=>match r with| .tmp _=>true| .cell _ t=>Znx P t)=true) {a:Act} {g:FuncId} (j:cl g=true) {first o d:Array Value} {u:FrameMode} (k:u≠.run)
    {K:Value->World->Prop} {w:World} (h:Z3 P g (first.toList++(o.toList++d.toList)) u (ZgG P K fn.results.toList (vals (fn.results.toList.map Zca) a.env) []) w):
    Leaves P fn a.tmps (λ e w'=>∃ v,e=.returned v/\K v w') [{ target:=.fn (.func g) d,args:=first++o }] u w:=by
  refine ⟨k,_,_,g,(first.toList++(o.toList++d.toList)).toArray,rfl,?_,?_⟩
  · have e:(first++o)++d=(first.toList++(o.toList++d.toList)).toArray:=by apply vd;simp
    simp only [invoke,e];exact UI (z g j) _ w
  · refine CallsD.mono h ?_
    rintro e u' w' ⟨⟨y,rfl⟩,hs,l⟩;show Leaves P fn a.tmps _ [] (settle u') w';rw [hs];obtain ⟨v,m,n⟩:=ZmF i (ZeS _ _ _ l);exact ⟨v,m,v,rfl,n⟩
def Zov (z:∀ g,cl g=true->ZS P g=true) (r:P.follows .mixedOrders=true) {f:FuncId} {fn:Func} {sk:Sk} (T:P.funcs[f]? =some fn) (v:Zse P cl fn sk=true) {args:List Value} (G:args.length<=fn.ntmps)
    {K:Value->World->Prop} {w:World} (h:Zyb P cl fn sk args K w):Zg P f args.toArray w K:=by
  unfold Zg;unfold Zse at v;unfold Zyb at h;rw [ql] at v;obtain ⟨v,j⟩:=v;split at h
  case h_2=>exact h.elim
  rename_i i0 o0 i1 o1 rest Y;rw [Y] at v;simp only [ql] at v;obtain ⟨⟨⟨⟨⟨R,S⟩,u⟩,H⟩,I⟩,J⟩:=v;refine calls_of_wp_defers T Y ?_;have m:=Zc7 (fn:=fn) (args:=args);generalize C:({ tmps:=args.toArray++Array.replicate (fn.ntmps - args.toArray.size) undef,defers:=[] }:Act)=A at m;have L:A.tmps.size=fn.ntmps:=by rw [<-C];simp;omega
  have M:A.defers=[]:=by rw [<-C]
  rw [<-m] at h;refine wp_seq (wp_region_list (Yp (n:=fn.ntmps) (pw:=λ _=>true) (a0:=A.env) z ?_ o0.toList (λ o N=>by have:=qW.1 R o N;simpa using this) A w (W2.refl L M) h));clear h;intro a w hk h;show (Code.seq (.region i1 o1 false) rest).wp P _ a w;refine wp_seq (wp_region_list ?_);cases hl:o1.toList.getLast? with
  |none=>rw [hl] at u;cases u
  |some od=>
    rw [hl] at u;simp only [ql] at u;have y:o1.toList=o1.toList.dropLast++[od]:=by
      obtain ⟨l,O⟩:=List.getLast?_eq_some_iff.1 hl;rw [O];simp
    rw [y];refine VN _ _ _ _ ?_;refine Yp (n:=fn.ntmps) (pw:=λ _=>true) (a0:=a.env) z ?_ o1.toList.dropLast (λ o N=>by have:=qW.1 S o N;simpa using this) a w (W2.refl hk.size hk.defers) h;clear h;intro b w s h;show wpList P o1 _ [od] b w;unfold wpList;have k:Region.wanted od (yielded o1 b.tmps)=true:=by
      unfold Region.wanted;rw [vA.1 u.1]
    rw [qf k];refine .inl ?_;rw [hl] at h;simp only at h;clear y hl k S;obtain ⟨dst,op,ty,pos,after,guard⟩:=od;dsimp only at h u;obtain ⟨h2,q⟩:=u;have q:=vA.1 q;subst q;split at h
    case h_2=>exact h.elim
    rename_i c;obtain ⟨E,d,Q⟩:=c;dsimp only at h;split at h
    case h_2=>exact h.elim
    rename_i fv;unfold tgtF at h;split at h
    case h_2=>exact h.elim
    rename_i fn' first captured t
    split at h
    case h_2=>exact h.elim
    rename_i g;split at h
    case h_2=>exact h.elim
    rename_i U;have x:(execOp b.eval ⟨none,.defer ⟨.value fv,d,Q⟩,ty,pos,after,guard⟩).run P w=.ok (.defer { target:=.fn (.func g) captured,args:=first++d.map b.eval }) w:=by
      rw [Yx] at t;simp only [execOp,resolve,t,Deferred.ofValue];simp
    unfold Oper.wp;rw [x];rw [Yx] at h;generalize F:({ tmps:=b.tmps,defers:={ target:=.fn (.func g) captured,args:=first++d.map b.eval }::b.defers }:Act)=B
    have V:B.env=b.env:=by rw [<-F];rfl
    have W:B.tmps.size=fn.ntmps:=by rw [<-F];exact s.size
    have X:B.defers=[{ target:=.fn (.func g) captured,args:=first++d.map b.eval }]:=by rw [<-F];simp [s.defers]
    rw [Oper.upon_defer];show wpList P o1 _ [] ({ b with defers:={ target:=.fn (.func g) captured,args:=first++d.map b.eval }::b.defers }.put none undef) w
    show rest.wp P _ ({ b with defers:={ target:=.fn (.func g) captured,args:=first++d.map b.eval }::b.defers }.put none undef) w
    have D:({ b with defers:={ target:=.fn (.func g) captured,args:=first++d.map b.eval }::b.defers }:Act).put none undef=B:=F
    rw [D];rw [<-V] at h;refine Code.wp_mono ?_ (Y3 (n:=fn.ntmps) (ds:=[{ target:=.fn (.func g) captured,args:=first++d.map b.eval }]) z r rest sk (λ _=>true) B.env H I J B _ w (XO.refl' W X) h)
    intro e a' w' p;cases e with
    |normal=>
      show Leaves P fn a'.tmps _ a'.defers .returning w';rw [p.1.defers];exact GJ z j U (by simp) p.2
    |ret=>
      show Leaves P fn a'.tmps _ a'.defers .returning w';rw [p.1.defers];exact GJ z j U (by simp) p.2
    |exit i=>exact p.2.elim
    |panic ch=>
      show Leaves P fn a'.tmps _ a'.defers (.panicking ch) w';rw [p.1.defers];exact GJ z j U (by simp) p.2
    |_=>exact p.elim
end
end
section
variable {P:Program} {R:Cx} {Hs Rest:List HP} {w:World} {s:Sl} {T:TypeId}
def Own.addr {xs:List Value} (y:Sat R (Own s T xs::Hs) w) {k:Nat} (hk:k<xs.length):∃ b,s.a=some ⟨b,0,none⟩/\
  ∀ {S:World->Prop} {Hs'},(∀ w,S w->Sat R (Own s T xs::Hs') w)->At S (Addr.add ⟨b,0,none⟩ k) [xs[k]]:=by
 rcases Own.cases y with ⟨_,rfl,_⟩|⟨b,rest,fr,rfl,_,_⟩
 ·simp at hk
 ·refine ⟨b,rfl,λ hS w hs i v d=>?_⟩
  have hi:i=0:=by
   cases i with
   |zero=>rfl
   |succ i=>simp at d
  subst hi;simp only [List.getElem?_cons_zero,qM] at d;subst d;rcases Own.cases (hS w hs) with ⟨z,_,_⟩|⟨b',o,g,u,_,h⟩
  ·cases z
  ·simp only [Sl.mk.injEq,qM,Addr.mk.injEq,vv] at u
   obtain ⟨rfl,_⟩:=u;rw [Zs,Zs,Yy h.at];simp [List.getElem?_append_left hk]
def Own.cap {xs:List Value} (h:Sat R (Own s T xs::Hs) w):s.len<=s.cap:=by
 rcases Own.cases h with ⟨rfl,_,_⟩|⟨b,rest,fr,rfl,_,_⟩
 ·exact jc _
 ·simp
def Own.idx {d:IntKind} {xs:List Int} {S:World->Prop} {Hs':List HP} (i:Sat R (Own s T (xs.map (Value.int d))::Hs) w) (hS:∀ w,S w->Sat R (Own s T (xs.map (Value.int d))::Hs') w) {k:Nat} (hk:k<xs.length) {F:Int->Prop} (h:F xs[k]):
  Rng (k:Int) s.len (Zb s.a λ a=>∃ t:Int,(At S (a.add (k:Int).toNat) [.int d t])/\F t):=by
 obtain ⟨b,u,o⟩:=Own.addr i (k:=k) (by simpa using hk);have hl:=Own.len i;rw [qa] at hl;refine Rng.mk (by omega) (by omega) (Zb.mk u ⟨xs[k],?_,h⟩);have:=o hS;simpa using this
def Own.store {t:TypeId} {d:IntKind} {xs:List Int} (o:(P.info? t).map (·.size)=some 1) (u:Sat R (Own s T (xs.map (Value.int d))::Hs) w) {k:Nat} (hk:k<xs.length) {x:Int} {K:World->Prop}
  (h:∀ w',Sat R (Own s T ((xs.set k x).map (Value.int d))::Hs) w'->K w'):
  Rng (k:Int) s.len (Zb s.a λ a=>∃ w',(Instr.storeAt t (.pointer (some (Addr.add a (k:Int).toNat))) (.int d x)).run P w=.ok () w'/\K w'):=by
 have hl:=Own.len u;rw [qa] at hl;rcases Own.cases u with ⟨_,v,_⟩|⟨b,rest,fr,rfl,i,z⟩
 ·simp at v;subst v;simp at hk
 ·refine Rng.mk (by omega) (by simp only at hl ⊢;omega) (Zb.mk rfl ?_)
  rw [Zs];refine ZO z (by rw [o];rfl) rfl (by simp [Value.cells];omega) λ w' y=>h w' ?_;have e:Vz (xs.map (Value.int d)++rest) (0 + (k:Int).toNat) (Value.int d x).cells.toList=(xs.set k x).map (Value.int d)++rest:=by
   simp only [Vz,Value.cells,jb,qo];rw [vw _ _ (by simpa using hk),uv]
  rw [e] at y;have g:=Own.of_pts y (i.le (by simp));simpa using g
end
section
class XW (α:Type) [BEq α] where
 enc:α->Value
 desc:TypeDesc
 same:∀ a b,Instr.sameNow desc (enc a) (enc b)=some (a==b)
 bits:∀ a,Instr.sameBits 10000 (enc a) (enc a)=true
 eq:∀ a b:α,(a==b)=true->a=b
 check:∀ (P:Program) (em:Bool) (K:TypeId) (a:α) (w:World),P.underlying K=some desc->(Instr.checkKey em 10000 K (enc a)).run P w=.ok () w
instance:XW ByteArray where
 enc:=Value.string
 desc:=.string
 same a b:=rfl
 bits a:=by
  have:∀ n,Instr.sameBits n (.string a) (.string a)=(a==a):=λ n=>by cases n<;>rfl
  rw [this];exact (MapKept.bytes_beq a a).2 rfl
 eq a b h:=(MapKept.bytes_beq a b).1 h
 check P em K a w h:=by
  show (Instr.checkKey em (9999 + 1) K (.string a)).run P w=_;unfold Instr.checkKey;simp [run_underlying h]
variable {α:Type} [BEq α] [XW α]
abbrev En (α:Type):=α × Value × Nat
def mkE (e:En α):MapEntry:={ key:=XW.enc e.1,val:=e.2.1,born:=e.2.2 }
def ZpS (k:α):List (En α)->Option Value
 |[]=>none
 |e::es=>if k==e.1 then some e.2.1 else ZpS k es
def Zo0 (k:α) (v:Value):List (En α)->List (En α)
 |[]=>[]
 |e::es=>if k==e.1 then (e.1,v,e.2.2)::es else e::Zo0 k v es
def Zj3 (k:α):List (En α)->List (En α)
 |[]=>[]
 |e::es=>if k==e.1 then es else e::Zj3 k es
def ZiJ (k:α) (es:List (En α)):Bool:=(ZpS k es).isSome
def Zqp (k:α) (v:Value) (es:List (En α)) (clock:Nat):List (En α):=if ZiJ k es then Zo0 k v es else es++[(k,v,clock)]
def Zdm (k:α):List (En α)->Nat->Option (Nat × Value)
 |[],_=>none
 |e::es,i=>if k==e.1 then some (i,e.2.1) else Zdm k es (i + 1)
def Zel (k:α):∀ (es:List (En α)) (i:Nat),Instr.findNow (XW.desc α) (XW.enc k) (es.map mkE) i=some (Zdm k es i)
 |[],_=>rfl
 |e::es,i=>by
  rw [qi,Instr.findNow,mkE,XW.same,Zdm];cases h:(k==e.1)
  ·simpa using Zel k es (i + 1)
  ·rfl
omit [XW α] in
def Zfl (k:α):∀ (es:List (En α)) (i:Nat),(Zdm k es i).map (·.2)=ZpS k es
 |[],_=>rfl
 |e::es,i=>by
  rw [Zdm,ZpS];cases h:(k==e.1)
  ·exact Zfl k es (i + 1)
  ·rfl
def Gy {P:Program} {K:TypeId} (hK:P.underlying K=some (XW.desc α)) (k:α) (es:List (En α)) (w:World):
  (Instr.findKey K (XW.enc k) (es.map mkE)).run P w=.ok (Zdm k es 0) w:=by
 unfold Instr.findKey;simp [run_underlying hK,Zel]
def ZbD {P:Program} (k:α) (w:World):(Instr.keyThatStays (XW.enc k) (XW.enc k)).run P w=.ok (XW.enc k) w:=by
 unfold Instr.keyThatStays;rw [qf (XW.bits k)];rfl
def Zla {P:Program} {T K E:TypeId} (hT:P.underlying T=some (.map K E)) (hK:P.underlying K=some (XW.desc α)) {z:Value} (hz:∀ w,(zeroValue E).run P w=.ok z w)
  {w:World} {m a:Nat} {es:List (En α)} (hm:w.heap[m]? =some (.map (es.map mkE).toArray a)) (k:α) (c:Bool):
  (Instr.lookup T (.map (some m)) (XW.enc k) c).run P w=.ok (if c then .tuple #[(ZpS k es).getD z,.bool (ZiJ k es)] else (ZpS k es).getD z) w:=by
 have d:=Zfl k es 0;have o:=XW.check P (es.map mkE).toArray.isEmpty K k w hK;have h:=Gy hK k es w;unfold Instr.lookup;cases hi:Zdm k es 0 with
 |none=>
  rw [hi] at d h;simp only [Option.map_none] at d;simp only [Sem.run_bind,run_underlying hT,Result.andThen,MapKept.run_getObj_map hm,Sem.run_pure,o,h,hz,ZiJ,<-d];rfl
 |some p=>
  rw [hi] at d h;simp only [vm] at d;simp only [Sem.run_bind,run_underlying hT,Result.andThen,MapKept.run_getObj_map hm,Sem.run_pure,o,h,ZiJ,<-d];rfl
omit [XW α] in
def Zan (k:α):∀ (es:List (En α)) (i:Nat),(∀ p,Zdm k es i=some p->i<=p.1)
 |[],i,p,h=>by cases h
 |e::es,i,p,h=>by
  rw [Zdm] at h;cases hk:(k==e.1)
  ·rw [hk] at h;have:=Zan k es (i + 1) p (by simpa using h);omega
  ·rw [hk] at h;simp at h;subst h;exact jc _
def Zg4 (k:α) (v:Value):∀ (es:List (En α)) (i:Nat) (p:Nat × Value),Zdm k es i=some p->
  (es.map mkE).modify (p.1 - i) (λ e=>{ e with key:=XW.enc k,val:=v })=(Zo0 k v es).map mkE
 |[],_,_,h=>by cases h
 |e::es,i,p,h=>by
  have d:=Zan k (e::es) i p h;rw [Zdm] at h;cases hk:(k==e.1)
  ·rw [hk] at h
   have h':Zdm k es (i + 1)=some p:=by simpa using h
   have a:=Zan k es (i + 1) p h';obtain ⟨j,hj⟩:∃ j,p.1 - i=j + 1:=⟨p.1 - (i + 1),by omega⟩;have ih:=Zg4 k v es (i + 1) p h';rw [show p.1 - (i + 1)=j by omega] at ih;rw [hj,Zo0,hk];simp only [qi,List.modify_succ_cons,qy,jq,jT,zi];exact ih
  ·rw [hk] at h
   simp at h;subst h;have:=XW.eq _ _ hk;subst this;rw [Zo0,hk];simp [mkE]
def Zj0 (k:α):∀ (es:List (En α)) (i:Nat) (p:Nat × Value),Zdm k es i=some p->(es.map mkE).eraseIdx (p.1 - i)=(Zj3 k es).map mkE
 |[],_,_,h=>by cases h
 |e::es,i,p,h=>by
  rw [Zdm] at h;cases hk:(k==e.1)
  ·rw [hk] at h
   have h':Zdm k es (i + 1)=some p:=by simpa using h
   have a:=Zan k es (i + 1) p h';obtain ⟨j,hj⟩:∃ j,p.1 - i=j + 1:=⟨p.1 - (i + 1),by omega⟩;have ih:=Zj0 k es (i + 1) p h';rw [show p.1 - (i + 1)=j by omega] at ih;rw [hj,Zj3,hk];simp only [qi,List.eraseIdx_cons_succ,qy,jq,jT,zi];exact ih
  ·rw [hk] at h
   simp at h;subst h;rw [Zj3,hk];simp
omit [XW α] in
def ZcV (k:α) (es:List (En α)) (i:Nat):Zdm k es i=none↔ZiJ k es=false:=by
 unfold ZiJ;rw [<-Zfl k es i];cases Zdm k es i<;>simp
omit [XW α] in
def Zhw (k:α):∀ (es:List (En α)),ZiJ k es=false->Zj3 k es=es
 |[],_=>rfl
 |e::es,h=>by
  unfold ZiJ ZpS at h;cases hk:(k==e.1)
  ·rw [hk] at h
   rw [Zj3,hk];simp only [qy,jq,jT,zi];exact Zhw k es (by unfold ZiJ;simpa using h)
  ·rw [hk] at h;simp at h
def ZiG (k:α):∀ (es:List (En α)) (i:Nat) (p:Nat × Value),Zdm k es i=some p->p.1<i + es.length/\∃ e,(es.map mkE)[p.1 - i]? =some e/\e.key=XW.enc k
 |[],_,_,h=>by cases h
 |e::es,i,p,h=>by
  rw [Zdm] at h;cases hk:(k==e.1)
  ·rw [hk] at h
   have h':Zdm k es (i + 1)=some p:=by simpa using h
   have a:=Zan k es (i + 1) p h';obtain ⟨u,e',d,o⟩:=ZiG k es (i + 1) p h';refine ⟨by simp only [qr];omega,e',?_,o⟩;obtain ⟨j,hj⟩:∃ j,p.1 - i=j + 1:=⟨p.1 - (i + 1),by omega⟩;rw [hj,qi,List.getElem?_cons_succ,show j=p.1 - (i + 1) by omega];exact d
  ·rw [hk] at h
   simp at h;subst h;refine ⟨by simp,mkE e,by simp,?_⟩;rw [XW.eq _ _ hk];rfl
def Zkm {P:Program} {T K E:TypeId} (hT:P.underlying T=some (.map K E)) (hK:P.underlying K=some (XW.desc α))
  {w:World} {m a:Nat} {es:List (En α)} (hm:w.heap[m]? =some (.map (es.map mkE).toArray a)) (k:α) (v:Value):
  (Instr.mapUpdate T (.map (some m)) (XW.enc k) v).run P w=.ok () (w.setBlock m (.map ((Zqp k v es a).map mkE).toArray (if ZiJ k es then a else a + 1))):=by
 have i:=XW.check P false K k w hK;have d:=Gy hK k es w;unfold Instr.mapUpdate;cases hi:Zdm k es 0 with
 |none=>
  have g:=(ZcV k es 0).1 hi;rw [hi] at d;simp only [Sem.run_bind,run_underlying hT,Result.andThen,MapKept.run_getObj_map hm,i,d,MapKept.run_setObj_map _ hm,Zqp,g,World.setBlock,qy,jq];simp [mkE]
 |some p=>
  have j:ZiJ k es=true:=by
   cases h:ZiJ k es
   ·rw [(ZcV k es 0).2 h] at hi;cases hi
   ·rfl
  obtain ⟨_,e,z,y⟩:=ZiG k es 0 p hi;have o:=Zg4 k v es 0 p hi;rw [Nat.sub_zero] at z o;rw [hi] at d;have u:(((es.map mkE).toArray[p.1]?).map (·.key)).getD (XW.enc k)=XW.enc k:=by
   have:(es.map mkE).toArray[p.1]? =some e:=by simpa using z
   rw [this];exact y
  simp only [Sem.run_bind,run_underlying hT,Result.andThen,MapKept.run_getObj_map hm,i,d,u,ZbD,MapKept.run_setObj_map _ hm,Zqp,j,World.setBlock,vp]
  congr 4
  apply vd;rw [<-o];simp
def Zlv {P:Program} {T K E ty t2:TypeId} (hT:P.underlying T=some (.map K E)) (hK:P.underlying K=some (XW.desc α))
  {w:World} {m h:Nat} {es:List (En α)} (hm:w.heap[m]? =some (.map (es.map mkE).toArray h)) (k:α):
  (Builtin.delete_ #[T,t2] ty #[.map (some m),XW.enc k]).run P w=.ok (.tuple #[]) (w.setBlock m (.map ((Zj3 k es).map mkE).toArray h)):=by
 have d:=XW.check P (es.map mkE).toArray.isEmpty K k w hK;have a:=Gy hK k es w;have i:(#[T,t2]:Array TypeId)[0]? =some T:=rfl;have u:(#[Value.map (some m),XW.enc k]:Array Value)[0]? =some (.map (some m)):=rfl;have v:(#[Value.map (some m),XW.enc k]:Array Value)[1]? =some (XW.enc k):=rfl;unfold Builtin.delete_;rw [i,u,v];cases hi:Zdm k es 0 with
 |none=>
  have y:=(ZcV k es 0).1 hi;rw [hi] at a;simp only [Sem.run_bind,run_underlying hT,Result.andThen,MapKept.run_getObj_map hm,d,a,MapKept.run_setObj_map _ hm,World.setBlock,Zhw k es y,Sem.run_pure]
 |some p=>
  have o:=Zj0 k es 0 p hi;obtain ⟨z,_⟩:=ZiG k es 0 p hi;rw [Nat.sub_zero] at o;rw [hi] at a;have e:(es.map mkE).toArray.eraseIdxIfInBounds p.1=((Zj3 k es).map mkE).toArray:=by
   apply vd;rw [<-o];simp [Array.eraseIdxIfInBounds,show p.1<es.length by omega]
  simp only [Sem.run_bind,run_underlying hT,Result.andThen,MapKept.run_getObj_map hm,d,a,MapKept.run_setObj_map _ hm,World.setBlock,e,Sem.run_pure]
end
section
variable {α:Type} [BEq α] [XW α]
def ZL {β:Type} (k:α):List (α × β)->Option β
 |[]=>none
 |e::es=>if k==e.1 then some e.2 else ZL k es
def Zbm {β:Type} (k:α) (v:β):List (α × β)->List (α × β)
 |[]=>[]
 |e::es=>if k==e.1 then (e.1,v)::es else e::Zbm k v es
def GT {β:Type} (k:α):List (α × β)->List (α × β)
 |[]=>[]
 |e::es=>if k==e.1 then es else e::GT k es
def Gl {β:Type} (k:α) (v:β) (es:List (α × β)):List (α × β):=if (ZL k es).isSome then Zbm k v es else es++[(k,v)]
abbrev Wj (es:List (En α)):List (α × Value):=es.map λ e=>(e.1,e.2.1)
omit [XW α] in
def Za8 (k:α):∀ es:List (En α),ZpS k es=ZL k (Wj es)
 |[]=>rfl
 |e::es=>by rw [ZpS,Wj,qi,ZL,Za8 k es]
omit [XW α] in
def Zeh (k:α) (es:List (En α)):ZiJ k es=(ZL k (Wj es)).isSome:=by unfold ZiJ;rw [Za8]
omit [XW α] in
def ZdK (k:α) (v:Value):∀ es:List (En α),Wj (Zo0 k v es)=Zbm k v (Wj es)
 |[]=>rfl
 |e::es=>by
  have ih:=ZdK k v es;unfold Wj at *;rw [qi,Zo0,Zbm];split
  ·simp
  ·simp [ih]
omit [XW α] in
def Zet (k:α):∀ es:List (En α),Wj (Zj3 k es)=GT k (Wj es)
 |[]=>rfl
 |e::es=>by
  have ih:=Zet k es;unfold Wj at *;rw [qi,Zj3,GT];split
  ·rfl
  ·simp [ih]
omit [XW α] in
def ZkZ (k:α) (v:Value) (es:List (En α)) (c:Nat):Wj (Zqp k v es c)=Gl k v (Wj es):=by
 unfold Zqp Gl;rw [Zeh];split
 ·exact ZdK k v es
 ·simp [Wj]
def Wx (l:List (En α)) (c:Nat):Prop:=(∀ e∈l,e.2.2<c)/\(l.map (·.2.2)).Nodup
omit [XW α] in
def Gw (k:α) (v:Value):∀ l:List (En α),(Zo0 k v l).map (·.2.2)=l.map (·.2.2)
 |[]=>rfl
 |e::es=>by
  rw [Zo0];split
  ·rfl
  ·rw [qi,qi,Gw k v es]
omit [XW α] in
def ZfG (k:α):∀ l:List (En α),(Zj3 k l).Sublist l
 |[]=>uG _
 |e::es=>by
  rw [Zj3];split
  ·exact vR _ _
  ·exact (ZfG k es).cons_cons _
omit [XW α] in
def Zkr {l:List (En α)} {c:Nat} (h:Wx l c) (k:α) (v:Value):Wx (Zqp k v l c) (if ZiJ k l then c else c + 1):=by
 unfold Zqp;split
 ·refine ⟨λ e a=>?_,by rw [Gw];exact h.2⟩
  have:e.2.2∈(Zo0 k v l).map (·.2.2):=ul a;rw [Gw] at this;obtain ⟨x,d,o⟩:=qm.1 this;rw [<-o];exact h.1 x d
 ·refine ⟨λ e a=>?_,?_⟩
  ·rcases qt.1 a with a|a
   ·have:=h.1 e a;omega
   ·simp at a;subst a;simp
  ·rw [qe,jQ]
   refine ⟨h.2,by simp,λ x d y i=>?_⟩;simp at i;obtain ⟨e,a,rfl⟩:=qm.1 d;have:=h.1 e a;omega
omit [XW α] in
def Zks {l:List (En α)} {c:Nat} (h:Wx l c) (k:α):Wx (Zj3 k l) c:=
 ⟨λ e a=>h.1 e ((ZfG k l).subset a),((ZfG k l).map _).nodup h.2⟩
def MapAt (m:Nat) (es:List (α × Value)):HP:=λ h=>∃ (l:List (En α)) (c:Nat),Wj l=es/\Wx l c/\h=Z0.one m (.map (l.map mkE).toArray c)
def MapAt.iff {R:Cx} {Hs:List HP} {w:World} {m:Nat} {es:List (α × Value)}:Sat R (MapAt m es::Hs) w↔∃ l c,Wj l=es/\Wx l c/\Sat R (pts m (.map (l.map (mkE (α:=α))).toArray c)::Hs) w:=by
 constructor
 ·rintro ⟨a,⟨l,c,h,d,o⟩,hd,hs⟩;exact ⟨l,c,h,d,a,o,hd,hs⟩
 ·rintro ⟨l,c,h,d,a,o,hd,hs⟩;exact ⟨a,⟨l,c,h,d,o⟩,hd,hs⟩
structure ZqW (P:Program) (T:TypeId) (α:Type) [BEq α] [XW α] (K E:TypeId) (z:Value):Prop where
 hT:P.underlying T=some (.map K E)
 hK:P.underlying K=some (XW.desc α)
 hz:∀ w,(zeroValue E).run P w=.ok z w
variable {P:Program} {R:Cx} {Hs:List HP} {w:World} {m:Nat} {es:List (α × Value)} {T K E:TypeId} {z:Value}
def MapAt.look (M:ZqW P T α K E z) (h:Sat R (MapAt m es::Hs) w) (k:α) (c:Bool):
  (Instr.lookup T (.map (some m)) (XW.enc k) c).run P w=.ok (if c then .tuple #[(ZL k es).getD z,.bool (ZL k es).isSome] else (ZL k es).getD z) w:=by
 obtain ⟨l,a,rfl,_,d⟩:=MapAt.iff.1 h;rw [Zla M.hT M.hK M.hz d.at k c,Za8,Zeh]
def MapAt.put (M:ZqW P T α K E z) (i:Sat R (MapAt m es::Hs) w) (k:α) (v:Value) {Q:World->Prop} (h:∀ w',Sat R (MapAt m (Gl k v es)::Hs) w'->Q w'):
  ∃ w',(Instr.mapUpdate T (.map (some m)) (XW.enc k) v).run P w=.ok () w'/\Q w':=by
 obtain ⟨l,a,rfl,d,o⟩:=MapAt.iff.1 i;refine ⟨_,Zkm M.hT M.hK o.at k v,h _ (MapAt.iff.2 ⟨Zqp k v l a,_,ZkZ k v l a,Zkr d k v,o.setPts _⟩)⟩
def MapAt.del {t2 ty:TypeId} (M:ZqW P T α K E z) (o:Sat R (MapAt m es::Hs) w) (k:α) {Q:World->Prop} (h:∀ w',Sat R (MapAt m (GT k es)::Hs) w'->Q w'):
  ∃ w',(Builtin.delete_ #[T,t2] ty #[.map (some m),XW.enc k]).run P w=.ok (.tuple #[]) w'/\Q w':=by
 obtain ⟨l,i,rfl,a,d⟩:=MapAt.iff.1 o;exact ⟨_,Zlv M.hT M.hK d.at k,h _ (MapAt.iff.2 ⟨Zj3 k l,_,Zet k l,Zks a k,d.setPts _⟩)⟩
def MapAt.new {o:Obj} (a:o=.map #[] 0) (d:Sat R (pts m o::Hs) w):Sat R (MapAt (α:=α) m []::Hs) w:=by
 subst a;exact MapAt.iff.2 ⟨[],0,rfl,⟨λ _ h=>(by cases h),vS⟩,d⟩
section
variable {β:Type}
omit [XW α] in
def ZjT {k:α} {v:β}:∀ {a b:List (α × β)},ZL k a=none->(k==k)=true->ZL k (a++(k,v)::b)=some v
 |[],b,_,hk=>by simp [ZL,hk]
 |e::a,b,h,hk=>by
  rw [ZL] at h;split at h
  ·cases h
  ·rename_i d
   rw [qU,ZL,qc d];exact ZjT h hk
omit [XW α] in
def ZbK {k:α} {v o:β}:∀ {a b:List (α × β)},ZL k a=none->(k==k)=true->Zbm k o (a++(k,v)::b)=a++(k,o)::b
 |[],b,_,hk=>by simp [Zbm,hk]
 |e::a,b,h,hk=>by
  rw [ZL] at h;split at h
  ·cases h
  ·rename_i d
   rw [qU,Zbm,qc d,ZbK h hk];rfl
omit [XW α] in
def Ga {k:α} {v:β}:∀ {a b:List (α × β)},ZL k a=none->(k==k)=true->GT k (a++(k,v)::b)=a++b
 |[],b,_,hk=>by simp [GT,hk]
 |e::a,b,h,hk=>by
  rw [ZL] at h;split at h
  ·cases h
  ·rename_i d
   rw [qU,GT,qc d,Ga h hk];rfl
def YZ {k:α} {v:β}:∀ {l:List (α × β)},ZL k l=some v->∃ a b,l=a++(k,v)::b/\ZL k a=none
 |[],h=>by cases h
 |e::l,h=>by
  rw [ZL] at h;split at h
  ·rename_i hk
   cases h;have:=XW.eq _ _ hk;subst this;exact ⟨[],l,rfl,rfl⟩
  ·rename_i d
   obtain ⟨a,b,rfl,o⟩:=YZ h;exact ⟨e::a,b,rfl,by rw [ZL,qc d];exact o⟩
omit [XW α] in
def Zau {γ:Type} (f:β->γ) (k:α):∀ l:List (α × β),ZL k (l.map λ e=>(e.1,f e.2))=(ZL k l).map f
 |[]=>rfl
 |e::l=>by
  rw [qi,ZL,ZL,Zau f k l];split<;>rfl
end
end
section
variable {P:Program} {R:Cx} {Hs:List HP} {w:World} {s:Sl} {T:TypeId}
def Ro.idxK {o:IntKind} {xs:List Int} {S:World->Prop} (i:Ro R s (xs.map (Value.int o))) (hS:∀ w,S w->Sat R Hs w) {k:Nat} (hk:k<xs.length) {F:Int->Prop} (h:F xs[k]):
  Rng (k:Int) s.len (Zb s.a λ a=>∃ t:Int,(At S (a.add (k:Int).toNat) [.int o t])/\F t):=by
 obtain ⟨a,u,d⟩:=i.addr (k:=k) (by simpa using hk);have hl:s.len=xs.length:=by have:=i.len;simpa using this
 refine Rng.mk (by omega) (by omega) (Zb.mk u ⟨xs[k],?_,h⟩);have:=d hS;simpa using this
def Zmg {t2 e':TypeId} (ht:P.underlying t2=some (.slice e')) {xs:List Value} (v:Sat R Hs w) (hs:Ro R s xs) (y:ZN xs=true):Src P 1 t2 (.slice s.a s.len s.cap) xs.length xs w:=by
 have hl:s.len=xs.length:=hs.len;by_cases o:xs=[]
 ·subst o
  obtain ⟨a,n,c⟩:=s;simp only [qN] at hl;subst hl;cases a with
  |none=>exact Go.Src.ofNil _ ht _
  |some a=>exact Go.Src.ofSlice w ht _ 0 _ [] rfl (λ j u hj=>by simp at hj) (λ u h=>by cases h)
 ·obtain ⟨b,off,l,T,fr,i,z,d⟩:=hs.mem o
  obtain ⟨a,n,c⟩:=s;simp only at i hl;subst i hl;refine Go.Src.ofSlice w ht _ _ _ _ (by simp) (λ j u hj=>?_) (λ u h=>qW.1 y u h);rw [Zs];have:=v.of_ro z;simp only [World.cell?,this,jN,qy,jq];exact d j u hj
def ZE (s:ByteArray):List Int:=s.data.toList.map λ b=>(b.toNat:Int)
def Yf (s:ByteArray):(ZE s).length=s.size:=by simp [ZE]
def ZhC (s:ByteArray):∀ n∈ZE s,0<=n/\n<256:=by
 intro n h;obtain ⟨b,_,rfl⟩:=qm.1 h;have:=b.toNat_lt;omega
def Zdp {a b:World} (h:a.heap=b.heap) (d:{ a with heap:=b.heap }=b):a=b:=by rw [<-d,<-h]
def ZbE (w:World) (e:TypeId) (s:ByteArray):
  Lib.bytesWorld w e s=w.drew.alloc (.cells (Lib.bytesCells w e s) e ((Lib.bytesCells w e s).size,(Lib.bytesCells w e s).size + 1)):=by
 have:(Lib.bytesWorld w e s).heap=(w.drew.alloc (.cells (Lib.bytesCells w e s) e ((Lib.bytesCells w e s).size,(Lib.bytesCells w e s).size + 1))).heap:=by
  apply Array.ext_getElem?;intro i;by_cases hi:i<w.heap.size
  ·rw [Lib.bytesWorld_at_old w e s i hi]
   simp [World.alloc,World.drew,-World.alloc_eq,-World.drew_eq,Array.getElem?_push,Nat.ne_of_lt hi]
  ·by_cases h:i=w.heap.size
   ·subst h
    rw [Lib.bytesWorld_at_new];simp [World.alloc,World.drew,-World.alloc_eq,-World.drew_eq]
   ·rw [Array.getElem?_eq_none (by rw [Lib.bytesWorld_size];omega),Array.getElem?_eq_none (by simp [World.alloc,World.drew,-World.alloc_eq,-World.drew_eq];omega)]
 exact Zdp this rfl
def Zeu {h dst:TypeId} {u:TypeDesc} (hs:P.underlying h=some u) (hd:P.underlying dst=some (.slice T)) (i:P.underlying T=some (.int .u8)) {b:ByteArray} {K:Sl->World->Prop}
  (v:Sat R Hs w) (k:∀ t w',Sat R (Own t T ((ZE b).map (Value.int .u8))::Hs) w'->K t w'):
  ∃ w',∃ t:Sl,(convert h dst (.string b)).run P w=.ok (.slice t.a t.len t.cap) w'/\K t w':=by
 refine ⟨_,⟨some ⟨w.heap.size,0,none⟩,b.size,grownCap w b.size 0 T⟩,Lib.run_convert_string_bytes w h dst T b hs hd i,k _ _ ?_⟩;rw [ZbE];have y:Lib.bytesCells w T b=((ZE b).map (Value.int .u8)++List.replicate (grownCap w b.size 0 T - b.size) (Value.int .u8 0)).toArray:=by
  apply vd;simp [Lib.bytesCells,ZE,vc]
 have d:=Sat.alloc (Obj.cells (Lib.bytesCells w T b) T ((Lib.bytesCells w T b).size,(Lib.bytesCells w T b).size + 1)) v.drew;have z:=grownCap_ge w b.size 0 T;rw [y] at d ⊢;have o:=Own.of_pts d (.inr (by simp));have e:(⟨some ⟨w.drew.heap.size,0,none⟩,((ZE b).map (Value.int .u8)).length,((ZE b).map (Value.int .u8)++List.replicate (grownCap w b.size 0 T - b.size) (Value.int .u8 0)).length⟩:Sl)=⟨some ⟨w.heap.size,0,none⟩,b.size,grownCap w b.size 0 T⟩:=by
  simp only [qb,qa,vo,Yf,World.size_drew]
  congr 1
  omega
 rw [e] at o;exact o
def strOf (xs:List Int):ByteArray:=⟨(xs.map λ n=>UInt8.ofNat n.toNat).toArray⟩
def Uk {h dst:TypeId} (hs:P.underlying h=some (.slice T)) (d:P.underlying T=some (.int .u8)) (hd:P.underlying dst=some .string) {xs:List Int}
  (g:Sat R Hs w) (u:Ro R s (xs.map (Value.int .u8))):(convert h dst (.slice s.a s.len s.cap)).run P w=.ok (.string (strOf xs)) w:=by
 have hl:s.len=xs.length:=by have:=u.len;simpa using this
 by_cases y:xs=[]
 ·subst y
  obtain ⟨a,n,c⟩:=s;simp only [qN] at hl;subst hl;cases a with
  |none=>exact run_convert_bytes_nil w h T hs d _ _ dst hd
  |some a=>
   rw [run_convert_bytes_string w h dst T _ _ _ hs d hd,run_bytesToString w a 0 c [] (by simpa using run_loadCells_list (P:=P) w a [] (λ j v hj=>by simp at hj))];rfl
 ·obtain ⟨b,off,l,m,fr,z,k,o⟩:=u.mem (by simpa using y)
  obtain ⟨a,n,c⟩:=s;simp only at z hl;subst z hl;refine (run_convert_bytes_arg w h T hs d b off _ c xs rfl (λ i hi=>?_) dst hd).trans rfl;have:=g.of_ro k;simp only [World.cell?,this,jN,qy,jq];refine o i _ ?_;simp [hi,List.getD]
def Zgc (b:ByteArray):strOf (ZE b)=b:=by
 unfold strOf ZE;rw [qZ];have:(List.map ((λ n:Int=>UInt8.ofNat n.toNat) ∘ λ b:UInt8=>(b.toNat:Int)) b.data.toList)=b.data.toList:=by
  conv=>rhs;rw [<-List.map_id b.data.toList]
  apply qP;intro x _;simp
 rw [this]
def ZhB {xs:List Int} (h:∀ n∈xs,0<=n/\n<256):ZE (strOf xs)=xs:=by
 unfold strOf ZE;simp only [qZ]
 conv=>rhs;rw [<-List.map_id xs]
 apply qP;intro x a;have:=h x a;simp;omega
end
section
open Go Go.RowKit
structure ZoU (w w':World):Prop where
 os:w'.os=w.os
 tape:w'.tape=w.tape
 output:w'.output=w.output
 block:∀ k,k<w.heap.size->w'.heap[k]? =w.heap[k]?
def ZoU.of_below {w w':World} (h:Below w.heap.size w w'):ZoU w w':=⟨h.os,h.tape,h.output,h.block⟩
def Sat.keeps:∀ {Hs:List HP} {R:Cx} {w w':World},Sat R Hs w->ZoU w w'->Sat R Hs w'
 |[],_,w,_,h,e=>⟨λ b o a=>by
   have:=h.1 b o a;rw [e.block b (Array.getElem?_eq_some_iff.1 this).1];exact this,e.os.trans h.2.1,e.tape.trans h.2.2.1,e.output.trans h.2.2.2⟩
 |_::_,_,_,_,h,e=>let ⟨h',d,hd,hs⟩:=h;⟨h',d,hd,hs.keeps e⟩
def Sat.grewTo:∀ {Hs:List HP} {R:Cx} {w w':World} {b:Nat} {o:Obj},Sat R Hs w->ZoU w w'->w.heap.size<=b->w'.heap[b]? =some o->Sat (R.add (Z0.one b o)) Hs w'
 |[],R,w,w',b,o,h,e,z,g=>by
  refine ⟨λ i x d=>?_,e.os.trans h.2.1,e.tape.trans h.2.2.1,e.output.trans h.2.2.2⟩;simp only [Cx.m_add,Z0.add,Z0.one] at d;cases j:R.m i with
  |some y=>
   rw [j] at d;have:=h.1 i y j;rw [e.block i (Array.getElem?_eq_some_iff.1 this).1,this];exact d
  |none=>
   rw [j] at d;simp only at d;split at d
   ·rename_i hi;subst hi;rw [g];exact d
   ·cases d
 |H::Hs,R,w,w',b,o,h,e,z,g=>by
  have k:R.m b=.none:=Sat.ro_lt h z;obtain ⟨a,l,hd,hs⟩:=h;have v:(R.add a).m b=.none:=Sat.ro_lt hs z;have n:a b=.none:=by simpa [Cx.m_add,Z0.add,k] using v
  have:=Sat.grewTo hs e z g;have u:(Z0.one b o).dis a:=by
   intro i hi;simp only [Z0.one];split
   ·rename_i h;subst h;exact absurd n hi
   ·rfl
  refine ⟨a,l,Cx.add_dis hd u,?_⟩;rw [Cx.add_assoc,Z0.add_comm u,<-Cx.add_assoc];exact this
def Sat.fresh {R:Cx} {Hs:List HP} {w w':World} {b:Nat} {o:Obj} (h:Sat R Hs w) (e:ZoU w w') (a:w.heap.size<=b) (d:w'.heap[b]? =some o):Sat R (pts b o::Hs) w':=
 Sat.lend.2 ⟨Sat.ro_lt h a,Sat.grewTo h e a d⟩
def Sat.ownsRow {R:Cx} {Hs:List HP} {w w':World} {T:TypeId} {v:Value} {n:Nat} {xs:List Value} (h:Sat R Hs w) (e:Below w.heap.size w w') (u:w'.ownsRow w.heap.size T 1 v n xs):
  ∃ s:Sl,v=.slice s.a s.len s.cap/\Sat R (Own s T xs::Hs) w':=by
 obtain ⟨hl,y|⟨g,cap,d,rfl,z,j,l,m,o,ht⟩⟩:=u
 ·obtain ⟨rfl,rfl⟩:=y
  have:xs=[]:=by simpa using hl
  subst this;exact ⟨⟨none,0,0⟩,rfl,Own.nil (h.keeps (.of_below e))⟩
 ·rw [va] at *
  have i:=h.fresh (.of_below e) z j;have e1:d=(xs++d.toList.drop n).toArray:=by
   apply vd;rw [<-ht];simp
  rw [e1] at i;have k:=Own.of_pts i;refine ⟨_,?_,k⟩;have:(xs++d.toList.drop n).length=cap:=by
   have e2:d.toList.length=cap:=by rw [jw];exact o
   rw [qb,qx,e2,hl];omega
  simp only [this,hl]
end
end Go.VC
