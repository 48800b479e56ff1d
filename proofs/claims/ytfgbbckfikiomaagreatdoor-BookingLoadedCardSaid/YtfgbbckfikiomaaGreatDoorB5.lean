/- The formulas of functions of this seat's translation, printed by a program of mine off the translation; each is proved equal to 'fnF' of the function's body, so it is enough for the call. No condition. -/
import Derived.Test.YtfgbbckfikiomaaGreatDoorB2
import Derived.Test.YtfgbbckfikiomaaGreatDoorB4
import Derived.Test.YtfgbbckfikiomaaGreatDoorB1
import Derived.ProofKit
import Derived.OpenShut
import Derived.ShutString
import Derived.ChangeOld
import Derived.Below
import Derived.Lib.SmallJoins
namespace Go.Proofs.YtfgbbckfikiomaaGreatDoor
open Go Go.VC
set_option linter.unusedVariables false
set_option maxRecDepth 10000
def B127 (d:Nat) (K:Value→World→Prop) (w:World):Prop:=
 Ext Tryz.prog 149 #[.float .f64 d] w fun c b=>
 ∃ a:Int,(c=.returned (.int .u64 a))∧
 Br (bitI BinOp.and IntKind.u64 a 9223372036854775808 !=0)
 (K (.int .u64 (IntKind.u64.wrap (↑(BitVec.ofInt IntKind.u64.bits (if IntKind.u64.signed=true then -1 else IntKind.u64.max) ^^^ BitVec.ofInt IntKind.u64.bits a).toNat:Int))) b)
 (K (.int .u64 (bitI BinOp.or IntKind.u64 a 9223372036854775808)) b)
theorem call127 (a:Nat) (K:Value→World→Prop) (w:World) (h:B127 a K w):Gets Tryz.prog 127 #[.float .f64 a] w K:=cq (sk:=.leaf) Tryz.func127 (by kernel_rfl) (by kernel_rfl) (by kernel_rfl) h
def B150 (a:Int) (K:Value→World→Prop) (w:World):Prop:=
 Br (bitI BinOp.and IntKind.u64 a 9223372036854775808==0)
 (Ext Tryz.prog 151 #[.int .u64 (IntKind.u64.wrap (↑(BitVec.ofInt IntKind.u64.bits (if IntKind.u64.signed=true then -1 else IntKind.u64.max) ^^^ BitVec.ofInt IntKind.u64.bits a).toNat:Int))] w fun d f=>
 ∃ c:Nat,(d=.returned (.float .f64 c))∧
 K (.float .f64 c) f)
 (Ext Tryz.prog 151 #[.int .u64 (bitI BinOp.andNot IntKind.u64 a 9223372036854775808)] w fun e g=>
 ∃ b:Nat,(e=.returned (.float .f64 b))∧
 K (.float .f64 b) g)
theorem call150 (a:Int) (K:Value→World→Prop) (w:World) (h:B150 a K w):Gets Tryz.prog 150 #[.int .u64 a] w K:=cq (sk:=.leaf) Tryz.func150 (by kernel_rfl) (by kernel_rfl) (by kernel_rfl) h
def B221 (b:Nat) (c:Nat) (K:Value→World→Prop) (w:World):Prop:=
 Calls Tryz.prog 258 #[.float .f64 b,.float .f64 c] w fun d e=>
 ∃ a:Int,(d=.returned (.int .i64 a))∧
 K (.int .i64 a) e
theorem call221 (a:Nat) (b:Nat) (K:Value→World→Prop) (w:World) (h:B221 a b K w):Gets Tryz.prog 221 #[.float .f64 a,.float .f64 b] w K:=cq (sk:=.leaf) Tryz.func221 (by kernel_rfl) (by kernel_rfl) (by kernel_rfl) h
def B258 (c:Nat) (d:Nat) (K:Value→World→Prop) (w:World):Prop:=
 Calls Tryz.prog 273 #[.float .f64 c] w fun j l=>
 ∃ i:Bool,(j=.returned (.bool i))∧
 Calls Tryz.prog 273 #[.float .f64 d] l fun k b=>
 ∃ e:Bool,(k=.returned (.bool e))∧
 Br i
 (Br e
 (K (.int .i64 0) b)
 (K (.int .i64 ((-1))) b))
 (Br e
 (K (.int .i64 1) b)
 (∃ f:Bool,(∀ a,(fun a=>a=b) a→((do eqGuard BinOp.lss 33 (Operand.tmp 14) (Operand.tmp 15) (.float .f64 c) (.float .f64 d);binOp BinOp.lss 33 (.float .f64 c) (.float .f64 d):Sem Value)).run Tryz.prog a=.ok (.bool f) a)∧
 Br f
 (K (.int .i64 ((-1))) b)
 (∃ g:Bool,(∀ a,(fun a=>a=b) a→((do eqGuard BinOp.gtr 33 (Operand.tmp 17) (Operand.tmp 18) (.float .f64 c) (.float .f64 d);binOp BinOp.gtr 33 (.float .f64 c) (.float .f64 d):Sem Value)).run Tryz.prog a=.ok (.bool g) a)∧
 Br g
 (K (.int .i64 1) b)
 (K (.int .i64 0) b))))
theorem call258 (a:Nat) (b:Nat) (K:Value→World→Prop) (w:World) (h:B258 a b K w):Gets Tryz.prog 258 #[.float .f64 a,.float .f64 b] w K:=cq (sk:=.leaf) Tryz.func258 (by kernel_rfl) (by kernel_rfl) (by kernel_rfl) h
def B273 (b:Nat) (K:Value→World→Prop) (w:World):Prop:=
 ∃ c:Bool,(∀ a,(fun a=>a=w) a→((do eqGuard BinOp.neq 33 (Operand.tmp 3) (Operand.tmp 4) (.float .f64 b) (.float .f64 b);binOp BinOp.neq 33 (.float .f64 b) (.float .f64 b):Sem Value)).run Tryz.prog a=.ok (.bool c) a)∧
 K (.bool c) w
theorem call273 (a:Nat) (K:Value→World→Prop) (w:World) (h:B273 a K w):Gets Tryz.prog 273 #[.float .f64 a] w K:=cq (sk:=.leaf) Tryz.func273 (by kernel_rfl) (by kernel_rfl) (by kernel_rfl) h
def B222 (c:Int) (d:Int) (K:Value→World→Prop) (w:World):Prop:=
 Calls Tryz.prog 259 #[.int .i64 c] w fun f i=>
 ∃ e:Bool,(f=.returned (.bool e))∧
 Calls Tryz.prog 259 #[.int .i64 d] i fun g a=>
 ∃ b:Bool,(g=.returned (.bool b))∧
 Br e
 (Br b
 (K (.int .i64 0) a)
 (K (.int .i64 ((-1))) a))
 (Br b
 (K (.int .i64 1) a)
 (Br (decide (c<d))
 (K (.int .i64 ((-1))) a)
 (Br (decide (c>d))
 (K (.int .i64 1) a)
 (K (.int .i64 0) a))))
theorem call222 (a:Int) (b:Int) (K:Value→World→Prop) (w:World) (h:B222 a b K w):Gets Tryz.prog 222 #[.int .i64 a,.int .i64 b] w K:=cq (sk:=.leaf) Tryz.func222 (by kernel_rfl) (by kernel_rfl) (by kernel_rfl) h
def B220 (f:Sl) (K:Value→World→Prop) (w:World):Prop:=
 ∃ (d:Int→World→Prop) (g:Int→World→Nat),(d 0 w)∧∀ (k:Env) (b:Int) (c:World),d b c→
 Br (decide (b<(↑f.len:Int)))
 (Rng b f.len (NilP f.a fun i=>
 ∃ e:Int,(At (fun j=>j=c) (Addr.add i b.toNat) [.int .i64 e])∧
 Br (e !=0)
 (K (.int .i64 e) c)
 ((d (IntKind.i64.wrap (b + 1)) c)∧g (IntKind.i64.wrap (b + 1)) c<g b c)))
 (K (.int .i64 0) c)
def sk220:Sk:=(.seq .leaf (.seq .leaf (.seq (.seq .leaf (.block (.loop [8] [(.int .i64)] [2,5,8,9,10,11,12,13,14,15,16] .leaf))) .leaf)))
theorem call220 (b:Sl) (K:Value→World→Prop) (w:World) (h:B220 b K w):Gets Tryz.prog 220 #[.slice b.a b.len b.cap] w K:=cq (sk:=sk220) Tryz.func220 (by kernel_rfl) (by kernel_rfl) (by kernel_rfl) h
def B111  (K:Value→World→Prop) (w:World):Prop:=
 New (.cells #[.slice none 0 0] 179 (0,0)) (fun a b=>
 K (.pointer ((some ⟨a,0,none⟩))) b) w
theorem call111  (K:Value→World→Prop) (w:World) (h:B111  K w):Gets Tryz.prog 111 #[] w K:=cq (sk:=.leaf) Tryz.func111 (by kernel_rfl) (by kernel_rfl) (by kernel_rfl) h
def B170 (z:Int) (A:Int) (C:Int) (D:Int) (E:Nat) (I:Int) (J:Int) (L:Int) (M:Int) (N:Nat) (K:Value→World→Prop) (w:World):Prop:=
 New (.cells #[.int .i64 z,.int .i64 A,.int .i64 C,.int .i64 D,.float .f64 E] 181 (0,0)) (fun b F=>
 New (.cells #[.int .i64 I,.int .i64 J,.int .i64 L,.int .i64 M,.float .f64 N] 181 (0,0)) (fun c G=>
 Drw G fun a H=>
 ∃ n:Nat,(At a ⟨c,0 + 4,none⟩ [.float .f64 n])∧
 ∃ d:Nat,(At a ⟨b,0 + 4,none⟩ [.float .f64 d])∧
 ∃ f:Int,(At a ⟨b,0 + 3,none⟩ [.int .i64 f])∧
 ∃ g:Int,(At a ⟨c,0 + 3,none⟩ [.int .i64 g])∧
 ∃ j:Int,(At a ⟨b,0,none⟩ [.int .i64 j])∧
 ∃ k:Int,(At a ⟨c,0,none⟩ [.int .i64 k])∧
 Calls Tryz.prog 221 #[.float .f64 n,.float .f64 d] H fun u o=>
 ∃ e:Int,(u=.returned (.int .i64 e))∧
 (a o)∧
 Calls Tryz.prog 222 #[.int .i64 f,.int .i64 g] o fun v p=>
 ∃ i:Int,(v=.returned (.int .i64 i))∧
 (a p)∧
 Calls Tryz.prog 222 #[.int .i64 j,.int .i64 k] p fun x q=>
 ∃ l:Int,(x=.returned (.int .i64 l))∧
 (a q)∧
 New (.cells #[.int .i64 e,.int .i64 i,.int .i64 l] 3 (0,0)) (fun t r=>
 (a r)∧
 Calls Tryz.prog 220 #[.slice ((some ⟨t,0,none⟩)) 3 3] r fun y s=>
 ∃ m:Int,(y=.returned (.int .i64 m))∧
 (a s)∧
 K (.int .i64 m) s) q) F) w
theorem call170 (a:Int) (b:Int) (c:Int) (d:Int) (e:Nat) (f:Int) (g:Int) (i:Int) (j:Int) (k:Nat) (K:Value→World→Prop) (w:World) (h:B170 a b c d e f g i j k K w):Gets Tryz.prog 170 #[.agg #[.int .i64 a,.int .i64 b,.int .i64 c,.int .i64 d,.float .f64 e],.agg #[.int .i64 f,.int .i64 g,.int .i64 i,.int .i64 j,.float .f64 k]] w K:=cq (sk:=.leaf) Tryz.func170 (by kernel_rfl) (by kernel_rfl) (by kernel_rfl) h
def B179 (t:Int) (u:Int) (v:Int) (x:Int) (y:Nat) (K:Value→World→Prop) (w:World):Prop:=
 New (.cells #[.int .i64 t,.int .i64 u,.int .i64 v,.int .i64 x,.float .f64 y] 181 (0,0)) (fun b o=>
 ∃ m:Int,(At (fun a=>a=o) ⟨b,0,none⟩ [.int .i64 m])∧
 Calls Tryz.prog 229 #[.int .i64 m,.int .i64 1,.int .i64 28629151] o fun p c=>
 ∃ n:Bool,(p=.returned (.bool n))∧
 Br n
 (∃ f:Int,(At (fun a=>a=c) ⟨b,0 + 1,none⟩ [.int .i64 f])∧
 Calls Tryz.prog 229 #[.int .i64 f,.int .i64 0,.int .i64 7] c fun q d=>
 ∃ g:Bool,(q=.returned (.bool g))∧
 Br g
 (∃ i:Int,(At (fun a=>a=d) ⟨b,0 + 2,none⟩ [.int .i64 i])∧
 Calls Tryz.prog 229 #[.int .i64 i,.int .i64 1,.int .i64 600] d fun r e=>
 ∃ j:Bool,(r=.returned (.bool j))∧
 Br j
 (∃ k:Int,(At (fun a=>a=e) ⟨b,0 + 3,none⟩ [.int .i64 k])∧
 Calls Tryz.prog 229 #[.int .i64 k,.int .i64 0,.int .i64 1099511627776] e fun s z=>
 ∃ l:Bool,(s=.returned (.bool l))∧
 K (.bool l) z)
 (K (.bool false) e))
 (K (.bool false) d))
 (K (.bool false) c)) w
theorem call179 (a:Int) (b:Int) (c:Int) (d:Int) (e:Nat) (K:Value→World→Prop) (w:World) (h:B179 a b c d e K w):Gets Tryz.prog 179 #[.agg #[.int .i64 a,.int .i64 b,.int .i64 c,.int .i64 d,.float .f64 e]] w K:=cq (sk:=.leaf) Tryz.func179 (by kernel_rfl) (by kernel_rfl) (by kernel_rfl) h
def B229 (a:Int) (c:Int) (b:Int) (K:Value→World→Prop) (w:World):Prop:=
 Br (decide (a ≥ c))
 (K (.bool (decide (a≤b))) w)
 (K (.bool false) w)
theorem call229 (c:Int) (b:Int) (a:Int) (K:Value→World→Prop) (w:World) (h:B229 c b a K w):Gets Tryz.prog 229 #[.int .i64 c,.int .i64 b,.int .i64 a] w K:=cq (sk:=.leaf) Tryz.func229 (by kernel_rfl) (by kernel_rfl) (by kernel_rfl) h
def B180 (j:Option Addr) (i:Int) (K:Value→World→Prop) (w:World):Prop:=
 New (.cells #[.int .i64 i] 3 (0,0)) (fun f d=>
 NilP j fun e=>
 ∃ b:Sl,(At (fun k=>k=d) (Addr.add e 0) [.slice b.a b.len b.cap])∧
 Calls Tryz.prog 230 #[.slice b.a b.len b.cap,.func (.func 231) #[] #[.pointer ((some ⟨f,0,none⟩))]] d fun g l=>
 ∃ c:Int,(g=.returned (.int .i64 c))∧
 K (.int .i64 c) l) w
theorem call180 (b:Option Addr) (a:Int) (K:Value→World→Prop) (w:World) (h:B180 b a K w):Gets Tryz.prog 180 #[.pointer b,.int .i64 a] w K:=cq (sk:=.leaf) Tryz.func180 (by kernel_rfl) (by kernel_rfl) (by kernel_rfl) h
def B231 (i:Int) (j:Int) (k:Int) (l:Int) (m:Nat) (g:Option Addr) (K:Value→World→Prop) (w:World):Prop:=
 New (.cells #[.int .i64 i,.int .i64 j,.int .i64 k,.int .i64 l,.float .f64 m] 181 (0,0)) (fun f b=>
 ∃ c:Int,(At (fun a=>a=b) ⟨f,0,none⟩ [.int .i64 c])∧
 NilP g fun e=>
 ∃ d:Int,(At (fun a=>a=b) e [.int .i64 d])∧
 K (.bool (c==d)) b) w
theorem call231 (b:Int) (c:Int) (d:Int) (e:Int) (f:Nat) (a:Option Addr) (K:Value→World→Prop) (w:World) (h:B231 b c d e f a K w):Gets Tryz.prog 231 #[.agg #[.int .i64 b,.int .i64 c,.int .i64 d,.int .i64 e,.float .f64 f],.pointer a] w K:=cq (sk:=.leaf) Tryz.func231 (by kernel_rfl) (by kernel_rfl) (by kernel_rfl) h
def B113 (f:Option Addr) (ai:Int) (aj:Int) (ak:Int) (al:Int) (am:Nat) (K:Value→World→Prop) (w:World):Prop:=
 New (.cells #[.int .i64 ai,.int .i64 aj,.int .i64 ak,.int .i64 al,.float .f64 am] 65 (0,0)) (fun o T=>
 ∃ L:Int,∃ M:Int,∃ N:Int,∃ O:Int,∃ Q:Nat,(At (fun b=>b=T) ⟨o,0,none⟩ [.int .i64 L,.int .i64 M,.int .i64 N,.int .i64 O,.float .f64 Q])∧
 New (.cells #[.int .i64 0,.int .i64 0,.int .i64 0,.int .i64 0,.float .f64 0] 181 (0,0)) (fun i an=>
 ∃ l:World,((Instr.storeAt 181 (.pointer ((some ⟨i,0,none⟩))) (.agg #[.int .i64 L,.int .i64 M,.int .i64 N,.int .i64 O,.float .f64 Q])).run Tryz.prog an=.ok () l)∧
 ∃ p:Int,∃ q:Int,∃ r:Int,∃ s:Int,∃ t:Nat,(At (fun b=>b=l) ⟨i,0,none⟩ [.int .i64 p,.int .i64 q,.int .i64 r,.int .i64 s,.float .f64 t])∧
 Calls Tryz.prog 179 #[.agg #[.int .i64 p,.int .i64 q,.int .i64 r,.int .i64 s,.float .f64 t]] l fun ad m=>
 ∃ u:Bool,(ad=.returned (.bool u))∧
 Br (!u)
 (K (.int .i64 1) m)
 (∃ v:Int,(At (fun b=>b=m) ⟨o,0,none⟩ [.int .i64 v])∧
 Calls Tryz.prog 180 #[.pointer f,.int .i64 v] m fun ae k=>
 ∃ x:Int,(ae=.returned (.int .i64 x))∧
 Br (decide (x ≥ 0))
 (K (.int .i64 7) k)
 (NilP f fun Y=>
 ∃ j:Sl,(At (fun b=>b=k) (Addr.add Y 0) [.slice j.a j.len j.cap])∧
 Br (decide ((↑j.len:Int) ≥ 200))
 (K (.int .i64 3) k)
 (Drw k fun n ao=>
 NilP f fun Z=>
 ∃ c:Sl,(At n (Addr.add Z 0) [.slice c.a c.len c.cap])∧
 ∃ y:Int,∃ z:Int,∃ A:Int,∃ C:Int,∃ D:Nat,(At n ⟨i,0,none⟩ [.int .i64 y,.int .i64 z,.int .i64 A,.int .i64 C,.float .f64 D])∧
 Calls Tryz.prog 181 #[.slice c.a c.len c.cap,.agg #[.int .i64 y,.int .i64 z,.int .i64 A,.int .i64 C,.float .f64 D],.func (.func 170) #[] #[]] ao fun af ap=>
 ∃ E:Int,∃ ah:Bool,(af=.returned (.tuple #[.int .i64 E,.bool ah]))∧
 Drw ap fun g aq=>
 NilP f fun aa=>
 ∃ d:Sl,(At g (Addr.add aa 0) [.slice d.a d.len d.cap])∧
 ∃ F:Int,∃ G:Int,∃ H:Int,∃ I:Int,∃ J:Nat,(At g ⟨i,0,none⟩ [.int .i64 F,.int .i64 G,.int .i64 H,.int .i64 I,.float .f64 J])∧
 New (.cells #[.int .i64 F,.int .i64 G,.int .i64 H,.int .i64 I,.float .f64 J] 181 (0,0)) (fun ac X=>
 (g X)∧
 Calls Tryz.prog 182 #[.slice d.a d.len d.cap,.int .i64 E,.slice ((some ⟨ac,0,none⟩)) 1 1] X fun ag U=>
 ∃ e:Sl,(ag=.returned (.slice e.a e.len e.cap))∧
 (g U)∧
 NilP f fun ab=>
 ∃ V:World,((Instr.storeAt 177 (.pointer ((some (Addr.add ab 0)))) (.slice e.a e.len e.cap)).run Tryz.prog U=.ok () V)∧
 K (.int .i64 0) V) aq)))) T) w
theorem call113 (a:Option Addr) (b:Int) (c:Int) (d:Int) (e:Int) (f:Nat) (K:Value→World→Prop) (w:World) (h:B113 a b c d e f K w):Gets Tryz.prog 113 #[.pointer a,.agg #[.int .i64 b,.int .i64 c,.int .i64 d,.int .i64 e,.float .f64 f]] w K:=cq (sk:=.leaf) Tryz.func113 (by kernel_rfl) (by kernel_rfl) (by kernel_rfl) h
def B116 (e:Option Addr) (m:Int) (K:Value→World→Prop) (w:World):Prop:=
 Calls Tryz.prog 180 #[.pointer e,.int .i64 m] w fun k f=>
 ∃ d:Int,(k=.returned (.int .i64 d))∧
 Br (decide (d<0))
 (K (.int .i64 2) f)
 (NilP e fun i=>
 ∃ b:Sl,(At (fun n=>n=f) (Addr.add i 0) [.slice b.a b.len b.cap])∧
 Calls Tryz.prog 185 #[.slice b.a b.len b.cap,.int .i64 d,.int .i64 (IntKind.i64.wrap (d + 1))] f fun l o=>
 ∃ c:Sl,(l=.returned (.slice c.a c.len c.cap))∧
 NilP e fun j=>
 ∃ g:World,((Instr.storeAt 177 (.pointer ((some (Addr.add j 0)))) (.slice c.a c.len c.cap)).run Tryz.prog o=.ok () g)∧
 K (.int .i64 0) g)
theorem call116 (b:Option Addr) (a:Int) (K:Value→World→Prop) (w:World) (h:B116 b a K w):Gets Tryz.prog 116 #[.pointer b,.int .i64 a] w K:=cq (sk:=.leaf) Tryz.func116 (by kernel_rfl) (by kernel_rfl) (by kernel_rfl) h
def B59 (C:Option Addr) (K:Value→World→Prop) (w:World):Prop:=
 NilP C fun z=>
 ∃ d:Sl,(At (fun f=>f=w) (Addr.add z 0) [.slice d.a d.len d.cap])∧
 ∃ (i:Sl→Int→World→Prop) (x:Sl→Int→World→Nat),(i ⟨none,0,0⟩ 0 w)∧∀ (F:Env) (b:Sl) (c:Int) (g:World),i b c g→
 Br (decide (c<(↑d.len:Int)))
 (Rng c d.len (NilP d.a fun y=>
 ∃ m:Int,∃ n:Int,∃ o:Int,∃ p:Int,∃ q:Nat,(At (fun f=>f=g) (Addr.add y (mulS c.toNat 5)) [.int .i64 m,.int .i64 n,.int .i64 o,.int .i64 p,.float .f64 q])∧
 New (.cells #[.int .i64 0,.int .i64 0,.int .i64 0,.int .i64 0,.float .f64 0] 181 (0,0)) (fun l D=>
 ∃ j:World,((Instr.storeAt 181 (.pointer ((some ⟨l,0,none⟩))) (.agg #[.int .i64 m,.int .i64 n,.int .i64 o,.int .i64 p,.float .f64 q])).run Tryz.prog D=.ok () j)∧
 ∃ r:Int,∃ s:Int,∃ t:Int,∃ u:Int,∃ v:Nat,(At (fun f=>f=j) ⟨l,0,none⟩ [.int .i64 r,.int .i64 s,.int .i64 t,.int .i64 u,.float .f64 v])∧
 New (.cells #[.int .i64 r,.int .i64 s,.int .i64 t,.int .i64 u,.float .f64 v] 65 (0,0)) (fun A E=>
 ∃ k:World,∃ e:Sl,((Builtin.append_ #[109,109] 109 #[.slice b.a b.len b.cap,.slice ((some ⟨A,0,none⟩)) 1 1]).run Tryz.prog E=.ok (.slice e.a e.len e.cap) k)∧
 (i e (IntKind.i64.wrap (c + 1)) k)∧x e (IntKind.i64.wrap (c + 1)) k<x b c g) j) g))
 (K (.slice b.a b.len b.cap) g)
def sk59:Sk:=(.seq .leaf (.seq .leaf (.seq (.seq .leaf (.block (.loop [3,11] [.sl,(.int .i64)] [3,5,11,12,13,14,15,16,17,18,19,20] .leaf))) .leaf)))
theorem call59 (a:Option Addr) (K:Value→World→Prop) (w:World) (h:B59 a K w):Gets Tryz.prog 59 #[.pointer a] w K:=cq (sk:=sk59) Tryz.func59 (by kernel_rfl) (by kernel_rfl) (by kernel_rfl) h
def B183 (Z:Option Addr) (m:Sl) (K:Value→World→Prop) (w:World):Prop:=
 New (.cells #[.int .i64 0,.int .i64 0,.int .i64 0,.int .i64 0,.float .f64 0] 65 (0,0)) (fun k T=>
 NilP Z fun Y=>
 ∃ d:Sl,(At (fun c=>c=T) (Addr.add Y 0) [.slice d.a d.len d.cap])∧
 ∃ (i:Int→World→Prop) (l:Int→World→Nat),(i 0 T)∧∀ (ab:Env) (b:Int) (e:World),i b e→
 Br (decide (b<(↑d.len:Int)))
 (Rng b d.len (NilP d.a fun V=>
 ∃ q:Int,∃ r:Int,∃ s:Int,∃ t:Int,∃ u:Nat,(At (fun c=>c=e) (Addr.add V (mulS b.toNat 5)) [.int .i64 q,.int .i64 r,.int .i64 s,.int .i64 t,.float .f64 u])∧
 New (.cells #[.int .i64 0,.int .i64 0,.int .i64 0,.int .i64 0,.float .f64 0] 181 (0,0)) (fun g aa=>
 ∃ U:World,((Instr.storeAt 181 (.pointer ((some ⟨g,0,none⟩))) (.agg #[.int .i64 q,.int .i64 r,.int .i64 s,.int .i64 t,.float .f64 u])).run Tryz.prog aa=.ok () U)∧
 Drw U fun j f=>
 ∃ v:Int,(At j ⟨g,0 + 1,none⟩ [.int .i64 v])∧
 Br (decide (v<(↑m.len:Int)))
 (∃ x:Int,(At j ⟨g,0 + 2,none⟩ [.int .i64 x])∧
 ∃ n:Int,(At j ⟨g,0 + 1,none⟩ [.int .i64 n])∧
 Rng n m.len (NilP m.a fun X=>
 ∃ y:Int,(At j (Addr.add X n.toNat) [.int .i64 y])∧
 Br (decide (x≤y))
 (∃ z:Int,∃ A:Int,∃ C:Int,∃ D:Int,∃ E:Nat,(At (fun c=>c=f) ⟨g,0,none⟩ [.int .i64 z,.int .i64 A,.int .i64 C,.int .i64 D,.float .f64 E])∧
 ∃ o:World,((Instr.storeAt 65 (.pointer ((some ⟨k,0,none⟩))) (.agg #[.int .i64 z,.int .i64 A,.int .i64 C,.int .i64 D,.float .f64 E])).run Tryz.prog f=.ok () o)∧
 ∃ F:Int,∃ G:Int,∃ H:Int,∃ I:Int,∃ J:Nat,(At (fun c=>c=o) ⟨k,0,none⟩ [.int .i64 F,.int .i64 G,.int .i64 H,.int .i64 I,.float .f64 J])∧
 K (.tuple #[.agg #[.int .i64 F,.int .i64 G,.int .i64 H,.int .i64 I,.float .f64 J],.bool true]) o)
 ((i (IntKind.i64.wrap (b + 1)) f)∧l (IntKind.i64.wrap (b + 1)) f<l b e)))
 ((i (IntKind.i64.wrap (b + 1)) f)∧l (IntKind.i64.wrap (b + 1)) f<l b e)) e))
 (∃ p:World,((Instr.storeAt 65 (.pointer ((some ⟨k,0,none⟩))) (.agg #[.int .i64 0,.int .i64 0,.int .i64 0,.int .i64 0,.float .f64 0])).run Tryz.prog e=.ok () p)∧
 ∃ L:Int,∃ M:Int,∃ N:Int,∃ O:Int,∃ Q:Nat,(At (fun c=>c=p) ⟨k,0,none⟩ [.int .i64 L,.int .i64 M,.int .i64 N,.int .i64 O,.float .f64 Q])∧
 K (.tuple #[.agg #[.int .i64 L,.int .i64 M,.int .i64 N,.int .i64 O,.float .f64 Q],.bool false]) p)) w
def sk183:Sk:=(.seq .leaf (.seq (.seq .leaf (.block (.loop [13] [(.int .i64)] [5,7,13,14,15,16,17,18,19,20,21,22,23,24,25,26,27,28,29,30,31,32,33,34,35,36,37] .leaf))) .leaf))
theorem call183 (c:Option Addr) (b:Sl) (K:Value→World→Prop) (w:World) (h:B183 c b K w):Gets Tryz.prog 183 #[.pointer c,.slice b.a b.len b.cap] w K:=cq (sk:=sk183) Tryz.func183 (by kernel_rfl) (by kernel_rfl) (by kernel_rfl) h
def B54 (t:Option Addr) (K:Value→World→Prop) (w:World):Prop:=
 NilP t fun U=>
 ∃ o:Sl,(At (fun f=>f=w) (Addr.add U 0) [.slice o.a o.len o.cap])∧
 Calls Tryz.prog 120 #[.int .u64 (IntKind.u64.wrap (↑o.len:Int))] w fun X I=>
 ∃ p:Sl,(X=.returned (.slice p.a p.len p.cap))∧
 NilP t fun Q=>
 ∃ j:Sl,(At (fun f=>f=I) (Addr.add Q 0) [.slice j.a j.len j.cap])∧
 ∃ (q:Sl→Int→World→Prop) (N:Sl→Int→World→Nat),(q p 0 I)∧∀ (ad:Env) (g:Sl) (d:Int) (n:World),q g d n→
 Br (decide (d<(↑j.len:Int)))
 (Rng d j.len (NilP j.a fun T=>
 ∃ u:Int,∃ v:Int,∃ x:Int,∃ y:Int,∃ z:Nat,(At (fun f=>f=n) (Addr.add T (mulS d.toNat 5)) [.int .i64 u,.int .i64 v,.int .i64 x,.int .i64 y,.float .f64 z])∧
 New (.cells #[.int .i64 0,.int .i64 0,.int .i64 0,.int .i64 0,.float .f64 0] 181 (0,0)) (fun i aa=>
 ∃ J:World,((Instr.storeAt 181 (.pointer ((some ⟨i,0,none⟩))) (.agg #[.int .i64 u,.int .i64 v,.int .i64 x,.int .i64 y,.float .f64 z])).run Tryz.prog aa=.ok () J)∧
 Drw J fun b ab=>
 ∃ A:Int,(At b ⟨i,0,none⟩ [.int .i64 A])∧
 ∃ C:Int,(At b ⟨i,0 + 1,none⟩ [.int .i64 C])∧
 ∃ D:Int,(At b ⟨i,0 + 2,none⟩ [.int .i64 D])∧
 ∃ E:Int,(At b ⟨i,0 + 3,none⟩ [.int .i64 E])∧
 ∃ F:Nat,(At b ⟨i,0 + 4,none⟩ [.float .f64 F])∧
 Calls Tryz.prog 127 #[.float .f64 F] ab fun Y L=>
 ∃ G:Int,(Y=.returned (.int .u64 G))∧
 (b L)∧
 New (.cells #[.int .u64 (IntKind.u64.wrap A),.int .u64 (IntKind.u64.wrap C),.int .u64 (IntKind.u64.wrap D),.int .u64 (IntKind.u64.wrap E),.int .u64 G] 134 (0,0)) (fun V M=>
 (b M)∧
 ∃ (r:Sl→Int→World→Prop) (O:Sl→Int→World→Nat),(r g 0 M)∧∀ (ae:Env) (c:Sl) (e:Int) (l:World),r c e l→
 Br (decide (e<(↑5:Int)))
 (Rng e 5 (∃ H:Int,(At (fun f=>f=l) (Addr.add ⟨V,0,none⟩ e.toNat) [.int .u64 H])∧
 Calls Tryz.prog 120 #[.int .u64 H] l fun Z ac=>
 ∃ k:Sl,(Z=.returned (.slice k.a k.len k.cap))∧
 ∃ s:World,∃ m:Sl,((Builtin.append_ #[42,42] 42 #[.slice c.a c.len c.cap,.slice k.a k.len k.cap]).run Tryz.prog ac=.ok (.slice m.a m.len m.cap) s)∧
 (r m (IntKind.i64.wrap (e + 1)) s)∧O m (IntKind.i64.wrap (e + 1)) s<O c e l))
 ((q c (IntKind.i64.wrap (d + 1)) l)∧N c (IntKind.i64.wrap (d + 1)) l<N g d n)) L) n))
 (K (.slice g.a g.len g.cap) n)
def sk54:Sk:=(.seq .leaf (.seq .leaf (.seq (.seq .leaf (.block (.loop [3,20] [.sl,(.int .i64)] [3,5,7,20,21,22,23,24,25,26,27,28,29,30,31,32,33,34,35,36,37,38,39,40,41,42,43,44,45,46,47,48,49,50,51,52,53,54,55] (.seq .leaf (.seq .leaf (.seq (.block (.seq .leaf (.seq .leaf (.block (.loop [3,46] [.sl,(.int .i64)] [3,7,46,47,48,49,50,51,52,53,54] .leaf))))) .leaf)))))) .leaf)))
theorem call54 (a:Option Addr) (K:Value→World→Prop) (w:World) (h:B54 a K w):Gets Tryz.prog 54 #[.pointer a] w K:=cq (sk:=sk54) Tryz.func54 (by kernel_rfl) (by kernel_rfl) (by kernel_rfl) h
def B103 (r:Sl) (K:Value→World→Prop) (w:World):Prop:=
 Calls Tryz.prog 76 #[.slice r.a r.len r.cap] w fun ao a3=>
 ∃ u:Option Addr,(ao=.returned (.pointer u))∧
 New (.cells #[.pointer none] 123 (0,0)) (fun c a8=>
 ∃ ak:World,((Instr.storeAt 123 (.pointer ((some ⟨c,0,none⟩))) (.pointer u)).run Tryz.prog a8=.ok () ak)∧
 Calls Tryz.prog 111 #[] ak fun ap a9=>
 ∃ e:Option Addr,(ap=.returned (.pointer e))∧
 Calls Tryz.prog 169 #[.int .i64 200,.pointer ((some ⟨c,0,none⟩))] a9 fun av ba=>
 ∃ v:Int,(av=.returned (.int .i64 v))∧
 ∃ (l:Int→World→Prop) (p:Int→World→Nat),(l 0 ba)∧∀ (be:Env) (d:Int) (i:World),l d i→
 Br (decide (d<v))
 (Calls Tryz.prog 169 #[.int .i64 28629151,.pointer ((some ⟨c,0,none⟩))] i fun aw bb=>
 ∃ x:Int,(aw=.returned (.int .i64 x))∧
 Calls Tryz.prog 169 #[.int .i64 7,.pointer ((some ⟨c,0,none⟩))] bb fun ax bc=>
 ∃ y:Int,(ax=.returned (.int .i64 y))∧
 Calls Tryz.prog 169 #[.int .i64 600,.pointer ((some ⟨c,0,none⟩))] bc fun ay bd=>
 ∃ z:Int,(ay=.returned (.int .i64 z))∧
 Calls Tryz.prog 169 #[.int .i64 1099511627776,.pointer ((some ⟨c,0,none⟩))] bd fun az a4=>
 ∃ A:Int,(az=.returned (.int .i64 A))∧
 New (.cells #[.int .i64 0,.int .i64 0,.int .i64 0,.int .i64 0,.float .f64 0] 65 (0,0)) (fun j a5=>
 ∃ s:World,((Instr.storeAt 65 (.pointer ((some ⟨j,0,none⟩))) (.agg #[.int .i64 x,.int .i64 y,.int .i64 z,.int .i64 A,.float .f64 0])).run Tryz.prog a5=.ok () s)∧
 ∃ C:Option Addr,(At (fun b=>b=s) ⟨c,0,none⟩ [.pointer C])∧
 Calls Tryz.prog 147 #[.pointer C,.int .u64 18446744073709551615] s fun a0 a6=>
 ∃ D:Int,(a0=.returned (.int .u64 D))∧
 Calls Tryz.prog 150 #[.int .u64 D] a6 fun a1 a7=>
 ∃ E:Nat,(a1=.returned (.float .f64 E))∧
 ∃ t:World,((Instr.storeAt 33 (.pointer ((some ⟨j,0 + 4,none⟩))) (.float .f64 E)).run Tryz.prog a7=.ok () t)∧
 NilP e fun al=>
 ∃ f:Sl,(At (fun b=>b=t) (Addr.add al 0) [.slice f.a f.len f.cap])∧
 Drw t fun q g=>
 Br (decide ((↑f.len:Int)>0))
 (NilP e fun am=>
 ∃ k:Sl,(At (fun b=>b=g) (Addr.add am 0) [.slice k.a k.len k.cap])∧
 Rng (IntKind.i64.wrap ((↑f.len:Int) - 1)) k.len (NilP k.a fun an=>
 ∃ F:Int,∃ G:Int,∃ H:Int,∃ I:Int,∃ J:Nat,(At (fun b=>b=g) (Addr.add an (mulS (IntKind.i64.wrap ((↑f.len:Int) - 1)).toNat 5)) [.int .i64 F,.int .i64 G,.int .i64 H,.int .i64 I,.float .f64 J])∧
 ∃ L:Int,∃ M:Int,∃ N:Int,∃ O:Int,∃ Q:Nat,(At (fun b=>b=g) ⟨j,0,none⟩ [.int .i64 L,.int .i64 M,.int .i64 N,.int .i64 O,.float .f64 Q])∧
 Calls Tryz.prog 170 #[.agg #[.int .i64 F,.int .i64 G,.int .i64 H,.int .i64 I,.float .f64 J],.agg #[.int .i64 L,.int .i64 M,.int .i64 N,.int .i64 O,.float .f64 Q]] g fun a2 m=>
 ∃ T:Int,(a2=.returned (.int .i64 T))∧
 (q m)∧
 Br (decide (T>0))
 (K (.tuple #[.pointer none,.int .i64 6]) m)
 (∃ U:Int,∃ V:Int,∃ X:Int,∃ Y:Int,∃ Z:Nat,(At (fun b=>b=m) ⟨j,0,none⟩ [.int .i64 U,.int .i64 V,.int .i64 X,.int .i64 Y,.float .f64 Z])∧
 Calls Tryz.prog 113 #[.pointer e,.agg #[.int .i64 U,.int .i64 V,.int .i64 X,.int .i64 Y,.float .f64 Z]] m fun aq n=>
 ∃ af:Int,(aq=.returned (.int .i64 af))∧
 (q n)∧
 Br (af !=0)
 (K (.tuple #[.pointer none,.int .i64 6]) n)
 ((l (IntKind.i64.wrap (d + 1)) n)∧p (IntKind.i64.wrap (d + 1)) n<p d i))))
 (∃ aa:Int,∃ ab:Int,∃ ac:Int,∃ ad:Int,∃ ae:Nat,(At (fun b=>b=g) ⟨j,0,none⟩ [.int .i64 aa,.int .i64 ab,.int .i64 ac,.int .i64 ad,.float .f64 ae])∧
 Calls Tryz.prog 113 #[.pointer e,.agg #[.int .i64 aa,.int .i64 ab,.int .i64 ac,.int .i64 ad,.float .f64 ae]] g fun ar o=>
 ∃ ag:Int,(ar=.returned (.int .i64 ag))∧
 (q o)∧
 Br (ag !=0)
 (K (.tuple #[.pointer none,.int .i64 6]) o)
 ((l (IntKind.i64.wrap (d + 1)) o)∧p (IntKind.i64.wrap (d + 1)) o<p d i))) a4)
 (∃ ah:Option Addr,(At (fun b=>b=i) ⟨c,0,none⟩ [.pointer ah])∧
 Calls Tryz.prog 83 #[.pointer ah] i fun au aj=>
 ∃ ai:Bool,(au=.returned (.bool ai))∧
 Br (!ai)
 (K (.tuple #[.pointer none,.int .i64 6]) aj)
 (K (.tuple #[.pointer e,.int .i64 0]) aj))) a3
def sk103:Sk:=(.seq .leaf (.seq .leaf (.seq .leaf (.seq .leaf (.seq (.seq .leaf (.block (.loop [15] [(.int .i64)] [2,3,7,8,15,16,17,18,19,20,21,22,23,24,25,26,27,28,29,30,31,32,33,34,35,36,37,38,39,40,41,42,43,44,45,46,47,48,49,50,51,52,53,54,55,56,57] (.seq .leaf (.seq .leaf (.seq (.block (.seq .leaf (.seq .leaf (.seq .leaf (.seq (.block .leaf) .leaf))))) .leaf)))))) .leaf)))))
theorem call103 (b:Sl) (K:Value→World→Prop) (w:World) (h:B103 b K w):Gets Tryz.prog 103 #[.slice b.a b.len b.cap] w K:=cq (sk:=sk103) Tryz.func103 (by kernel_rfl) (by kernel_rfl) (by kernel_rfl) h
def B169 (f:Int) (d:Option Addr) (K:Value→World→Prop) (w:World):Prop:=
 NilP d fun c=>
 ∃ a:Option Addr,(At (fun g=>g=w) c [.pointer a])∧
 Calls Tryz.prog 147 #[.pointer a,.int .u64 (IntKind.u64.wrap f)] w fun e i=>
 ∃ b:Int,(e=.returned (.int .u64 b))∧
 K (.int .i64 (IntKind.i64.wrap b)) i
theorem call169 (b:Int) (a:Option Addr) (K:Value→World→Prop) (w:World) (h:B169 b a K w):Gets Tryz.prog 169 #[.int .i64 b,.pointer a] w K:=cq (sk:=.leaf) Tryz.func169 (by kernel_rfl) (by kernel_rfl) (by kernel_rfl) h
def B230 (e:Sl) (q:Value) (K:Value→World→Prop) (w:World):Prop:=
 ∃ (d:Int→World→Prop) (n:Int→World→Nat),(d 0 w)∧∀ (s:Env) (b:Int) (c:World),d b c→
 Br (decide (b<(↑e.len:Int)))
 (Rng b e.len (NilP e.a fun o=>
 ∃ g:Int,∃ i:Int,∃ j:Int,∃ k:Int,∃ l:Nat,(At (fun r=>r=c) (Addr.add o (mulS b.toNat 5)) [.int .i64 g,.int .i64 i,.int .i64 j,.int .i64 k,.float .f64 l])∧
 CalW Tryz.prog cl q [.agg #[.int .i64 g,.int .i64 i,.int .i64 j,.int .i64 k,.float .f64 l]] c fun p f=>
 ∃ m:Bool,(p=.returned (.bool m))∧
 Br m
 (K (.int .i64 b) f)
 ((d (IntKind.i64.wrap (b + 1)) f)∧n (IntKind.i64.wrap (b + 1)) f<n b c)))
 (K (.int .i64 ((-1))) c)
def sk230:Sk:=(.seq .leaf (.seq (.seq .leaf (.block (.loop [8] [(.int .i64)] [4,5,8,9,10,11,12,13,14,15,16,17,18] .leaf))) .leaf))
theorem call230 (b:Sl) (c:Value) (K:Value→World→Prop) (w:World) (h:B230 b c K w):Gets Tryz.prog 230 #[.slice b.a b.len b.cap,c] w K:=cq (sk:=sk230) Tryz.func230 (by kernel_rfl) (by kernel_rfl) (by kernel_rfl) h
def B181 (d:Sl) (U:Int) (V:Int) (X:Int) (Y:Int) (Z:Nat) (m:Value) (K:Value→World→Prop) (w:World):Prop:=
 New (.cells #[.int .i64 U,.int .i64 V,.int .i64 X,.int .i64 Y,.float .f64 Z] 181 (0,0)) (fun l aa=>
 ∃ (f:Int→Int→World→Prop) (i:Int→Int→World→Nat),(f 0 ((↑d.len:Int)) aa)∧∀ (ad:Env) (b:Int) (c:Int) (e:World),f b c e→
 Br (decide (b<c))
 (Drw e fun j ab=>
 Rng (IntKind.i64.wrap (shrI IntKind.u64 (IntKind.u64.wrap (IntKind.i64.wrap (b + c))) 1)) d.len (NilP d.a fun N=>
 ∃ n:Int,∃ o:Int,∃ p:Int,∃ q:Int,∃ r:Nat,(At j (Addr.add N (mulS (IntKind.i64.wrap (shrI IntKind.u64 (IntKind.u64.wrap (IntKind.i64.wrap (b + c))) 1)).toNat 5)) [.int .i64 n,.int .i64 o,.int .i64 p,.int .i64 q,.float .f64 r])∧
 ∃ s:Int,∃ t:Int,∃ u:Int,∃ v:Int,∃ x:Nat,(At j ⟨l,0,none⟩ [.int .i64 s,.int .i64 t,.int .i64 u,.int .i64 v,.float .f64 x])∧
 CalW Tryz.prog cl m [.agg #[.int .i64 n,.int .i64 o,.int .i64 p,.int .i64 q,.float .f64 r],.agg #[.int .i64 s,.int .i64 t,.int .i64 u,.int .i64 v,.float .f64 x]] ab fun Q g=>
 ∃ y:Int,(Q=.returned (.int .i64 y))∧
 Br (decide (y<0))
 ((f (IntKind.i64.wrap (IntKind.i64.wrap (shrI IntKind.u64 (IntKind.u64.wrap (IntKind.i64.wrap (b + c))) 1) + 1)) c g)∧i (IntKind.i64.wrap (IntKind.i64.wrap (shrI IntKind.u64 (IntKind.u64.wrap (IntKind.i64.wrap (b + c))) 1) + 1)) c g<i b c e)
 ((f b (IntKind.i64.wrap (shrI IntKind.u64 (IntKind.u64.wrap (IntKind.i64.wrap (b + c))) 1)) g)∧i b (IntKind.i64.wrap (shrI IntKind.u64 (IntKind.u64.wrap (IntKind.i64.wrap (b + c))) 1)) g<i b c e)))
 (Drw e fun k M=>
 Br (decide (b<(↑d.len:Int)))
 (Rng b d.len (NilP d.a fun O=>
 ∃ z:Int,∃ A:Int,∃ C:Int,∃ D:Int,∃ E:Nat,(At k (Addr.add O (mulS b.toNat 5)) [.int .i64 z,.int .i64 A,.int .i64 C,.int .i64 D,.float .f64 E])∧
 ∃ F:Int,∃ G:Int,∃ H:Int,∃ I:Int,∃ J:Nat,(At k ⟨l,0,none⟩ [.int .i64 F,.int .i64 G,.int .i64 H,.int .i64 I,.float .f64 J])∧
 CalW Tryz.prog cl m [.agg #[.int .i64 z,.int .i64 A,.int .i64 C,.int .i64 D,.float .f64 E],.agg #[.int .i64 F,.int .i64 G,.int .i64 H,.int .i64 I,.float .f64 J]] M fun T ac=>
 ∃ L:Int,(T=.returned (.int .i64 L))∧
 K (.tuple #[.int .i64 b,.bool (L==0)]) ac))
 (K (.tuple #[.int .i64 b,.bool false]) M))) w
def sk181:Sk:=(.seq .leaf (.seq .leaf (.seq .leaf (.seq (.block (.loop [9,10] [(.int .i64),(.int .i64)] [9,10,11,15,16,17,18,19,20,21,22,23,24,25,26,27,28,29,30,31,32,33,34] .leaf)) .leaf))))
theorem call181 (b:Sl) (d:Int) (e:Int) (f:Int) (g:Int) (i:Nat) (c:Value) (K:Value→World→Prop) (w:World) (h:B181 b d e f g i c K w):Gets Tryz.prog 181 #[.slice b.a b.len b.cap,.agg #[.int .i64 d,.int .i64 e,.int .i64 f,.int .i64 g,.float .f64 i],c] w K:=cq (sk:=sk181) Tryz.func181 (by kernel_rfl) (by kernel_rfl) (by kernel_rfl) h
def B182 (b:Sl) (d:Int) (c:Sl) (K:Value→World→Prop) (w:World):Prop:=
 ((0:Int)≤d)∧
 ((d:Int)≤(↑b.len:Int))∧
 Br ((↑c.len:Int)==0)
 (K (.slice b.a b.len b.cap) w)
 (Br (d==(↑b.len:Int))
 (∃ i:World,∃ f:Sl,((Builtin.append_ #[177,177] 177 #[.slice b.a b.len b.cap,.slice c.a c.len c.cap]).run Tryz.prog w=.ok (.slice f.a f.len f.cap) i)∧
 K (.slice f.a f.len f.cap) i)
 (Br (decide (IntKind.i64.wrap ((↑b.len:Int) + (↑c.len:Int))>(↑b.cap:Int)))
 (((0:Int)≤d)∧
 ((d:Int)≤(↑b.cap:Int))∧
 ∃ k:World,∃ e:Sl,((Builtin.append_ #[177,3] 177 #[.slice b.a d.toNat b.cap,.int .i64 (IntKind.i64.wrap (IntKind.i64.wrap ((↑b.len:Int) + (↑c.len:Int)) - d))]).run Tryz.prog w=.ok (.slice e.a e.len e.cap) k)∧
 ((0:Int)≤d)∧
 ((d:Int)≤(↑e.len:Int))∧
 ∃ l:World,∃ s:Int,((Builtin.copy_ #[177,177] 3 #[.slice (cutA e.a d.toNat e.cap 5) (e.len - d.toNat) (e.cap - d.toNat),.slice c.a c.len c.cap]).run Tryz.prog k=.ok (.int .i64 s) l)∧
 Drw l fun C z=>
 ((0:Int)≤IntKind.i64.wrap (d + (↑c.len:Int)))∧
 ((IntKind.i64.wrap (d + (↑c.len:Int)):Int)≤(↑e.len:Int))∧
 ((0:Int)≤d)∧
 ((d:Int)≤(↑b.len:Int))∧
 ∃ m:World,∃ t:Int,((Builtin.copy_ #[177,177] 3 #[.slice (cutA e.a (IntKind.i64.wrap (d + (↑c.len:Int))).toNat e.cap 5) (e.len - (IntKind.i64.wrap (d + (↑c.len:Int))).toNat) (e.cap - (IntKind.i64.wrap (d + (↑c.len:Int))).toNat),.slice (cutA b.a d.toNat b.cap 5) (b.len - d.toNat) (b.cap - d.toNat)]).run Tryz.prog z=.ok (.int .i64 t) m)∧
 K (.slice e.a e.len e.cap) m)
 (((0:Int)≤IntKind.i64.wrap ((↑b.len:Int) + (↑c.len:Int)))∧
 ((IntKind.i64.wrap ((↑b.len:Int) + (↑c.len:Int)):Int)≤(↑b.cap:Int))∧
 ((0:Int)≤IntKind.i64.wrap (d + (↑c.len:Int)))∧
 ((IntKind.i64.wrap (d + (↑c.len:Int)):Int)≤(↑(IntKind.i64.wrap ((↑b.len:Int) + (↑c.len:Int))).toNat:Int))∧
 Ext Tryz.prog 232 #[.slice c.a c.len c.cap,.slice (cutA b.a (IntKind.i64.wrap (d + (↑c.len:Int))).toNat b.cap 5) ((IntKind.i64.wrap ((↑b.len:Int) + (↑c.len:Int))).toNat - (IntKind.i64.wrap (d + (↑c.len:Int))).toNat) (b.cap - (IntKind.i64.wrap (d + (↑c.len:Int))).toNat)] w fun q n=>
 ∃ g:Bool,(q=.returned (.bool g))∧
 Br (!g)
 (Drw n fun D A=>
 ((0:Int)≤IntKind.i64.wrap (d + (↑c.len:Int)))∧
 ((IntKind.i64.wrap (d + (↑c.len:Int)):Int)≤(↑(IntKind.i64.wrap ((↑b.len:Int) + (↑c.len:Int))).toNat:Int))∧
 ((0:Int)≤d)∧
 ((d:Int)≤(↑(IntKind.i64.wrap ((↑b.len:Int) + (↑c.len:Int))).toNat:Int))∧
 ∃ o:World,∃ u:Int,((Builtin.copy_ #[177,177] 3 #[.slice (cutA b.a (IntKind.i64.wrap (d + (↑c.len:Int))).toNat b.cap 5) ((IntKind.i64.wrap ((↑b.len:Int) + (↑c.len:Int))).toNat - (IntKind.i64.wrap (d + (↑c.len:Int))).toNat) (b.cap - (IntKind.i64.wrap (d + (↑c.len:Int))).toNat),.slice (cutA b.a d.toNat b.cap 5) ((IntKind.i64.wrap ((↑b.len:Int) + (↑c.len:Int))).toNat - d.toNat) (b.cap - d.toNat)]).run Tryz.prog A=.ok (.int .i64 u) o)∧
 ((0:Int)≤d)∧
 ((d:Int)≤(↑(IntKind.i64.wrap ((↑b.len:Int) + (↑c.len:Int))).toNat:Int))∧
 ∃ p:World,∃ v:Int,((Builtin.copy_ #[177,177] 3 #[.slice (cutA b.a d.toNat b.cap 5) ((IntKind.i64.wrap ((↑b.len:Int) + (↑c.len:Int))).toNat - d.toNat) (b.cap - d.toNat),.slice c.a c.len c.cap]).run Tryz.prog o=.ok (.int .i64 v) p)∧
 K (.slice b.a ((IntKind.i64.wrap ((↑b.len:Int) + (↑c.len:Int))).toNat) b.cap) p)
 (((0:Int)≤(↑b.len:Int))∧
 (((↑b.len:Int):Int)≤(↑(IntKind.i64.wrap ((↑b.len:Int) + (↑c.len:Int))).toNat:Int))∧
 ∃ j:World,∃ x:Int,((Builtin.copy_ #[177,177] 3 #[.slice (cutA b.a (↑b.len:Int).toNat b.cap 5) ((IntKind.i64.wrap ((↑b.len:Int) + (↑c.len:Int))).toNat - (↑b.len:Int).toNat) (b.cap - (↑b.len:Int).toNat),.slice c.a c.len c.cap]).run Tryz.prog n=.ok (.int .i64 x) j)∧
 ((0:Int)≤d)∧
 ((d:Int)≤(↑(IntKind.i64.wrap ((↑b.len:Int) + (↑c.len:Int))).toNat:Int))∧
 Calls Tryz.prog 233 #[.slice (cutA b.a d.toNat b.cap 5) ((IntKind.i64.wrap ((↑b.len:Int) + (↑c.len:Int))).toNat - d.toNat) (b.cap - d.toNat),.int .i64 ((↑c.len:Int))] j fun r y=>
 (r=.returned (.tuple #[]))∧
 K (.slice b.a ((IntKind.i64.wrap ((↑b.len:Int) + (↑c.len:Int))).toNat) b.cap) y))))
theorem call182 (b:Sl) (d:Int) (c:Sl) (K:Value→World→Prop) (w:World) (h:B182 b d c K w):Gets Tryz.prog 182 #[.slice b.a b.len b.cap,.int .i64 d,.slice c.a c.len c.cap] w K:=cq (sk:=.leaf) Tryz.func182 (by kernel_rfl) (by kernel_rfl) (by kernel_rfl) h
def B185 (b:Sl) (e:Int) (d:Int) (K:Value→World→Prop) (w:World):Prop:=
 ((0:Int)≤(↑b.len:Int))∧
 (((↑b.len:Int):Int)≤(↑b.cap:Int))∧
 ((0:Int)≤d)∧
 ((d:Int)≤(↑(↑b.len:Int).toNat:Int))∧
 ((0:Int)≤e)∧
 ((e:Int)≤(↑d.toNat:Int))∧
 Br (e==d)
 (K (.slice b.a b.len b.cap) w)
 (Drw w fun j i=>
 ((0:Int)≤e)∧
 ((e:Int)≤(↑b.cap:Int))∧
 ((0:Int)≤d)∧
 ((d:Int)≤(↑b.len:Int))∧
 ∃ f:World,∃ c:Sl,((Builtin.append_ #[177,177] 177 #[.slice b.a e.toNat b.cap,.slice (cutA b.a d.toNat b.cap 5) (b.len - d.toNat) (b.cap - d.toNat)]).run Tryz.prog i=.ok (.slice c.a c.len c.cap) f)∧
 ((0:Int)≤(↑b.len:Int))∧
 (((↑b.len:Int):Int)≤(↑c.cap:Int))∧
 ((0:Int)≤(↑c.len:Int))∧
 (((↑c.len:Int):Int)≤(↑(↑b.len:Int).toNat:Int))∧
 ∃ g:World,((Builtin.clear_ #[177] 0 #[.slice (cutA c.a (↑c.len:Int).toNat c.cap 5) ((↑b.len:Int).toNat - (↑c.len:Int).toNat) (c.cap - (↑c.len:Int).toNat)]).run Tryz.prog f=.ok (.tuple #[]) g)∧
 K (.slice c.a c.len c.cap) g)
theorem call185 (b:Sl) (c:Int) (d:Int) (K:Value→World→Prop) (w:World) (h:B185 b c d K w):Gets Tryz.prog 185 #[.slice b.a b.len b.cap,.int .i64 c,.int .i64 d] w K:=cq (sk:=.leaf) Tryz.func185 (by kernel_rfl) (by kernel_rfl) (by kernel_rfl) h
def B173 (b:Sl) (e:Value) (K:Value→World→Prop) (w:World):Prop:=
 Calls Tryz.prog 224 #[.slice b.a b.len b.cap,e] w fun d f=>
 ∃ c:Int,(d=.returned (.int .i64 c))∧
 K (.bool (decide (c ≥ 0))) f
theorem call173 (b:Sl) (c:Value) (K:Value→World→Prop) (w:World) (h:B173 b c K w):Gets Tryz.prog 173 #[.slice b.a b.len b.cap,c] w K:=cq (sk:=.leaf) Tryz.func173 (by kernel_rfl) (by kernel_rfl) (by kernel_rfl) h
def B224 (e:Sl) (q:Value) (K:Value→World→Prop) (w:World):Prop:=
 ∃ (d:Int→World→Prop) (n:Int→World→Nat),(d 0 w)∧∀ (s:Env) (b:Int) (c:World),d b c→
 Br (decide (b<(↑e.len:Int)))
 (Rng b e.len (NilP e.a fun o=>
 ∃ g:Int,∃ i:Int,∃ j:Int,∃ k:Int,∃ l:Nat,(At (fun r=>r=c) (Addr.add o (mulS b.toNat 5)) [.int .i64 g,.int .i64 i,.int .i64 j,.int .i64 k,.float .f64 l])∧
 CalW Tryz.prog cl q [.agg #[.int .i64 g,.int .i64 i,.int .i64 j,.int .i64 k,.float .f64 l]] c fun p f=>
 ∃ m:Bool,(p=.returned (.bool m))∧
 Br m
 (K (.int .i64 b) f)
 ((d (IntKind.i64.wrap (b + 1)) f)∧n (IntKind.i64.wrap (b + 1)) f<n b c)))
 (K (.int .i64 ((-1))) c)
def sk224:Sk:=(.seq .leaf (.seq (.seq .leaf (.block (.loop [8] [(.int .i64)] [4,5,8,9,10,11,12,13,14,15,16,17,18] .leaf))) .leaf))
theorem call224 (b:Sl) (c:Value) (K:Value→World→Prop) (w:World) (h:B224 b c K w):Gets Tryz.prog 224 #[.slice b.a b.len b.cap,c] w K:=cq (sk:=sk224) Tryz.func224 (by kernel_rfl) (by kernel_rfl) (by kernel_rfl) h
def B175 (b:Sl) (e:Value) (K:Value→World→Prop) (w:World):Prop:=
 Calls Tryz.prog 225 #[.slice b.a b.len b.cap,e] w fun d f=>
 ∃ c:Int,(d=.returned (.int .i64 c))∧
 K (.bool (decide (c ≥ 0))) f
theorem call175 (b:Sl) (c:Value) (K:Value→World→Prop) (w:World) (h:B175 b c K w):Gets Tryz.prog 175 #[.slice b.a b.len b.cap,c] w K:=cq (sk:=.leaf) Tryz.func175 (by kernel_rfl) (by kernel_rfl) (by kernel_rfl) h
def B225 (f:Sl) (p:Value) (K:Value→World→Prop) (w:World):Prop:=
 ∃ (e:Int→World→Prop) (m:Int→World→Nat),(e 0 w)∧∀ (r:Env) (b:Int) (d:World),e b d→
 Br (decide (b<(↑f.len:Int)))
 (Rng b f.len (NilP f.a fun n=>
 ∃ i:Int,∃ j:Int,∃ k:Int,∃ c:Sl,(At (fun q=>q=d) (Addr.add n (mulS b.toNat 4)) [.int .i64 i,.int .i64 j,.int .i64 k,.slice c.a c.len c.cap])∧
 CalW Tryz.prog cl p [.agg #[.int .i64 i,.int .i64 j,.int .i64 k,.slice c.a c.len c.cap]] d fun o g=>
 ∃ l:Bool,(o=.returned (.bool l))∧
 Br l
 (K (.int .i64 b) g)
 ((e (IntKind.i64.wrap (b + 1)) g)∧m (IntKind.i64.wrap (b + 1)) g<m b d)))
 (K (.int .i64 ((-1))) d)
def sk225:Sk:=(.seq .leaf (.seq (.seq .leaf (.block (.loop [8] [(.int .i64)] [4,5,8,9,10,11,12,13,14,15,16,17,18] .leaf))) .leaf))
theorem call225 (b:Sl) (c:Value) (K:Value→World→Prop) (w:World) (h:B225 b c K w):Gets Tryz.prog 225 #[.slice b.a b.len b.cap,c] w K:=cq (sk:=sk225) Tryz.func225 (by kernel_rfl) (by kernel_rfl) (by kernel_rfl) h
def B191  (K:Value→World→Prop) (w:World):Prop:=
 New (.cells #[.int .i64 0] 3 (0,0)) (fun a e=>
 New (.cells #[.int .i64 0] 3 (0,0)) (fun b f=>
 ∃ c:World,((Instr.storeAt 3 (.pointer ((some ⟨a,0,none⟩))) (.int .i64 0)).run Tryz.prog f=.ok () c)∧
 ∃ d:World,((Instr.storeAt 3 (.pointer ((some ⟨b,0,none⟩))) (.int .i64 2)).run Tryz.prog c=.ok () d)∧
 K (.func (.func 241) #[] #[.pointer ((some ⟨a,0,none⟩)),.pointer ((some ⟨b,0,none⟩))]) d) e) w
theorem call191  (K:Value→World→Prop) (w:World) (h:B191  K w):Gets Tryz.prog 191 #[] w K:=cq (sk:=.leaf) Tryz.func191 (by kernel_rfl) (by kernel_rfl) (by kernel_rfl) h
def B241 (o:Int) (b:Option Addr) (c:Option Addr) (K:Value→World→Prop) (w:World):Prop:=
 NilP b fun m=>
 ∃ i:Int,(At (fun a=>a=w) m [.int .i64 i])∧
 NilP c fun n=>
 ∃ j:Int,(At (fun a=>a=w) n [.int .i64 j])∧
 ∃ d:World,((Instr.storeAt 3 (.pointer b) (.int .i64 ((IntKind.i64.wrap (i + IntKind.i64.wrap (j * o))).tmod 31))).run Tryz.prog w=.ok () d)∧
 NilP c fun k=>
 ∃ f:Int,(At (fun a=>a=d) k [.int .i64 f])∧
 ∃ e:World,((Instr.storeAt 3 (.pointer c) (.int .i64 (IntKind.i64.wrap (f + 1)))).run Tryz.prog d=.ok () e)∧
 NilP b fun l=>
 ∃ g:Int,(At (fun a=>a=e) l [.int .i64 g])∧
 K (.int .i64 g) e
theorem call241 (c:Int) (a:Option Addr) (b:Option Addr) (K:Value→World→Prop) (w:World) (h:B241 c a b K w):Gets Tryz.prog 241 #[.int .i64 c,.pointer a,.pointer b] w K:=cq (sk:=.leaf) Tryz.func241 (by kernel_rfl) (by kernel_rfl) (by kernel_rfl) h
def B129 (m:Int) (K:Value→World→Prop) (w:World):Prop:=
 ∃ (r:World→Prop),(Br (decide (m<0))
 (K (.tuple #[.string (ByteArray.mk #[]),.int .i64 1]) w)
 (Br (decide (m ≥ 28629151))
 (K (.tuple #[.string (ByteArray.mk #[]),.int .i64 1]) w)
 (r  w)))∧
 ∀ (L:Env)  (z:World),r  z→
 New (.cells #[.int .u8 0,.int .u8 0,.int .u8 0,.int .u8 0,.int .u8 0,.int .u8 0] 234 (0,0)) (fun l I=>
 New (.cells #[.int .i64 0,.int .i64 0,.int .i64 0,.int .i64 0,.int .i64 0] 235 (0,0)) (fun s J=>
 ∃ (j:Int→Int→World→Prop) (E:Int→Int→World→Nat),(j m 4 J)∧∀ (M:Env) (d:Int) (b:Int) (g:World),j d b g→
 Br (decide (b ≥ 0))
 (Rng b 5 (∃ q:World,((Instr.storeAt 3 (.pointer ((some (Addr.add ⟨s,0,none⟩ b.toNat)))) (.int .i64 (d.tmod 31))).run Tryz.prog g=.ok () q)∧
 (j (IntKind.i64.wrap (d.tdiv 31)) (IntKind.i64.wrap (b - 1)) q)∧E (IntKind.i64.wrap (d.tdiv 31)) (IntKind.i64.wrap (b - 1)) q<E d b g))
 (Calls Tryz.prog 191 #[] g fun G A=>
 ∃ t:Value,(G=.returned (t))∧
 ∃ n:List Value,(n.length=5)∧
 (At (fun c=>c=A) ⟨s,0,none⟩ n)∧
 ∃ (k:Int→Int→World→Prop) (F:Int→Int→World→Nat),(k 0 0 A)∧∀ (N:Env) (e:Int) (a:Int) (i:World),k e a i→
 Br (decide (a<5))
 (Rng a 5 (∃ f:Int,(n.toArray[a.toNat]? =some (Value.int IntKind.i64 f))∧
 ∃ u:UInt8,((0:Int)≤f)∧
 ((ByteArray.mk #[65,66,67,68,69,70,71,72,74,75,76,77,78,80,81,82,84,85,86,87,88,89,90,50,51,52,53,54,55,56,57])[f.toNat]? =some u)∧
 Rng a 6 (∃ C:World,((Instr.storeAt 5 (.pointer ((some (Addr.add ⟨l,0,none⟩ a.toNat)))) (.int .u8 ((↑u.toNat:Int)))).run Tryz.prog i=.ok () C)∧
 CalW Tryz.prog cl t [.int .i64 f] C fun H D=>
 ∃ o:Int,(H=.returned (.int .i64 o))∧
 (k o (IntKind.i64.wrap (a + 1)) D)∧F o (IntKind.i64.wrap (a + 1)) D<F e a i)))
 (∃ v:UInt8,((0:Int)≤(IntKind.i64.wrap (31 - e)).tmod 31)∧
 ((ByteArray.mk #[65,66,67,68,69,70,71,72,74,75,76,77,78,80,81,82,84,85,86,87,88,89,90,50,51,52,53,54,55,56,57])[((IntKind.i64.wrap (31 - e)).tmod 31).toNat]? =some v)∧
 ∃ p:World,((Instr.storeAt 5 (.pointer ((some (Addr.add ⟨l,0,none⟩ 5)))) (.int .u8 ((↑v.toNat:Int)))).run Tryz.prog i=.ok () p)∧
 ∃ x:Addr,(some (Addr.mk l 0 none)=some x)∧
 ∃ y:ByteArray,(∀ c,(fun c=>c=p) c→((convert 42 9 (.slice ((some (x))) 6 6))).run Tryz.prog c=.ok (.string y) c)∧
 K (.tuple #[.string y,.int .i64 0]) p))) I) z
def sk129:Sk:=(.seq .leaf (.cut [] [] [2,3,11,12,13,14,15,16] .leaf (.seq .leaf (.seq .leaf (.seq (.seq .leaf (.block (.loop [0,6] [(.int .i64),(.int .i64)] [0,6,17,18,19,20,21,22,23,24,25,26] .leaf))) (.seq .leaf (.seq (.seq .leaf (.block (.loop [8,29] [(.int .i64),(.int .i64)] [8,9,10,29,30,31,32,33,34,35,36,37,38,39,40] .leaf))) .leaf)))))))
theorem call129 (a:Int) (K:Value→World→Prop) (w:World) (h:B129 a K w):Gets Tryz.prog 129 #[.int .i64 a] w K:=cq (sk:=sk129) Tryz.func129 (by kernel_rfl) (by kernel_rfl) (by kernel_rfl) h
def B119 (l:ByteArray) (K:Value→World→Prop) (w:World):Prop:=
 Br ((↑l.size:Int) !=6)
 (K (.tuple #[.int .i64 0,.int .i64 6]) w)
 (Calls Tryz.prog 191 #[] w fun r v=>
 ∃ m:Value,(r=.returned (m))∧
 New (.stringIter l 0) (fun q x=>
 ∃ (e:Int→Int→World→Prop) (g:Int→Int→World→Nat),(e 0 0 x)∧∀ (A:Env) (a:Int) (b:Int) (f:World),e a b f→
 NextS ((some ⟨q,0,none⟩)) (fun u k y=>
 Calls Tryz.prog 192 #[.string (ByteArray.mk #[65,66,67,68,69,70,71,72,74,75,76,77,78,80,81,82,84,85,86,87,88,89,90,50,51,52,53,54,55,56,57]),.int .u8 (IntKind.u8.wrap k)] y fun s o=>
 ∃ c:Int,(s=.returned (.int .i64 c))∧
 ∃ (i:Bool→World→Prop),(Br (decide (c<0))
 (i true o)
 (i (decide (k>90)) o))∧
 ∀ (C:Env) (n:Bool) (d:World),i n d→
 Br n
 (K (.tuple #[.int .i64 0,.int .i64 6]) d)
 (Br (decide (u<5))
 (CalW Tryz.prog cl m [.int .i64 c] d fun t p=>
 ∃ j:Int,(t=.returned (.int .i64 j))∧
 (e (IntKind.i64.wrap (IntKind.i64.wrap (a * 31) + c)) j p)∧g (IntKind.i64.wrap (IntKind.i64.wrap (a * 31) + c)) j p<g a b f)
 (Br ((IntKind.i64.wrap (b + c)).tmod 31 !=0)
 (K (.tuple #[.int .i64 0,.int .i64 6]) d)
 ((e a b d)∧g a b d<g a b f))))
 (fun z=>
 K (.tuple #[.int .i64 a,.int .i64 0]) z) f) v)
def sk119:Sk:=(.seq .leaf (.seq .leaf (.seq .leaf (.seq (.seq .leaf (.block (.loop [5,6] [(.int .i64),(.int .i64)] [2,3,5,6,7,8,9,16,17,18,19,20,21,22,23,24,25,26,27,28,29,30,31,32,33,34,35,36,37,38,39,40,41,42,43,44,45] (.seq .leaf (.seq .leaf (.block (.seq .leaf (.seq .leaf (.block (.cut [23] [.bool] [23,24,25,26,27,28,29] .leaf .leaf)))))))))) .leaf))))
theorem call119 (a:ByteArray) (K:Value→World→Prop) (w:World) (h:B119 a K w):Gets Tryz.prog 119 #[.string a] w K:=cq (sk:=sk119) Tryz.func119 (by kernel_rfl) (by kernel_rfl) (by kernel_rfl) h
def B192 (d:ByteArray) (b:Int) (K:Value→World→Prop) (w:World):Prop:=
 Calls Tryz.prog 242 #[.string d,.int .u8 b] w fun c e=>
 ∃ a:Int,(c=.returned (.int .i64 a))∧
 K (.int .i64 a) e
theorem call192 (b:ByteArray) (a:Int) (K:Value→World→Prop) (w:World) (h:B192 b a K w):Gets Tryz.prog 192 #[.string b,.int .u8 a] w K:=cq (sk:=.leaf) Tryz.func192 (by kernel_rfl) (by kernel_rfl) (by kernel_rfl) h
def B242 (d:ByteArray) (b:Int) (K:Value→World→Prop) (w:World):Prop:=
 Ext Tryz.prog 267 #[.string d,.int .u8 b] w fun c e=>
 ∃ a:Int,(c=.returned (.int .i64 a))∧
 K (.int .i64 a) e
theorem call242 (b:ByteArray) (a:Int) (K:Value→World→Prop) (w:World) (h:B242 b a K w):Gets Tryz.prog 242 #[.string b,.int .u8 a] w K:=cq (sk:=.leaf) Tryz.func242 (by kernel_rfl) (by kernel_rfl) (by kernel_rfl) h
end Go.Proofs.YtfgbbckfikiomaaGreatDoor
/- The formulas of functions of this seat's translation, printed by a program of mine off the translation; each is proved equal to 'fnF' of the function's body, so it is enough for the call. No condition. -/
namespace Go.Proofs.YtfgbbckfikiomaaGreatDoor
open Go Go.VC
set_option linter.unusedVariables false
set_option maxRecDepth 10000
def B40 (c:Bool) (b:Int) (a:List PanicEntry→World→Prop) (K:Value→World→Prop) (w:World):Prop:=
 Br (!c)
 (a [⟨.iface 27 (.int .i64 b),false,false⟩] w)
 (K (.tuple #[]) w)
theorem call40 (c:Bool) (b:Int) (a:List PanicEntry→World→Prop) (K:Value→World→Prop) (w:World) (h:B40 c b a K w):GetsX Tryz.prog 40 #[.bool c,.int .i64 b] w a K:=cqx (sk:=.leaf) Tryz.func40 (by kernel_rfl) (by kernel_rfl) (by kernel_rfl) h
def B110 (a:Int) (b:List PanicEntry→World→Prop) (K:Value→World→Prop) (w:World):Prop:=
 Br (a !=0)
 (b [⟨.iface 27 (.int .i64 a),false,false⟩] w)
 (K (.tuple #[]) w)
theorem call110 (b:Int) (a:List PanicEntry→World→Prop) (K:Value→World→Prop) (w:World) (h:B110 b a K w):GetsX Tryz.prog 110 #[.int .i64 b] w a K:=cqx (sk:=.leaf) Tryz.func110 (by kernel_rfl) (by kernel_rfl) (by kernel_rfl) h
def B39 (g:Option Addr) (b:Value) (K:World→Prop) (w:World):Prop:=
 ∃ c:Bool,(∀ a,(fun a=>a=w) a→((do eqGuard BinOp.neq 20 (Operand.tmp 4) (Operand.const Value.nilIface) b .nilIface;binOp BinOp.neq 20 b .nilIface:Sem Value)).run Tryz.prog a=.ok (.bool c) a)∧
 Br c
 (∃ d:Int,(∀ a,(fun a=>a=w) a→((Instr.typeAssert b 20 27 false)).run Tryz.prog a=.ok (.int .i64 d) a)∧
 NilP g fun f=>
 ∃ e:World,((Instr.storeAt 31 (.pointer ((some (f)))) (.agg #[.int .i64 d,.string (ByteArray.mk #[]),.int .i64 0,.int .i64 0,.int .i64 0,.int .i64 0,.int .i64 0,.slice none 0 0,.slice none 0 0])).run Tryz.prog w=.ok () e)∧
 K e)
 (K w)
theorem callP39 (b:Option Addr) (a:Value) (K:World→Prop) (w:World) (h:B39 b a K w):CallsD Tryz.prog 39 #[.pointer b] (.panicking [⟨a,false,false⟩]) w fun c d e=>(∃ f,c=.returned f)∧d=.panicking [⟨a,true,false⟩]∧K e:=
 rec_panic (sk:=.leaf) cl_ok mixed Tryz.func39 (by kernel_rfl) (Nat.le_of_ble_eq_true (by kernel_rfl)) (cast (by kernel_rfl) h)
theorem callR39 (a:Option Addr) (K:World→Prop) (w:World) (h:B39 a .nilIface K w):CallsD Tryz.prog 39 #[.pointer a] .returning w fun b c d=>(∃ e,b=.returned e)∧c=.returning∧K d:=
 rec_return (sk:=.leaf) cl_ok mixed Tryz.func39 (by kernel_rfl) (Nat.le_of_ble_eq_true (by kernel_rfl)) (cast (by kernel_rfl) h)
def B41 (Q:Int) (T:ByteArray) (U:Int) (V:Int) (X:Int) (Y:Int) (Z:Nat) (aa:ByteArray) (ab:Int) (r:Sl) (q:Sl) (K:Value→World→Prop) (w:World):Prop:=
 New (.cells #[.int .i64 Q,.string T,.int .i64 U,.int .i64 V,.int .i64 X,.int .i64 Y,.float .f64 Z,.string aa,.int .i64 ab,.slice r.a r.len r.cap,.slice q.a q.len q.cap] 38 (0,0)) (fun c j=>
 ∃ H:Int,(At (fun b=>b=j) ⟨c,0 + 2,none⟩ [.int .i64 H])∧
 ∃ u:Int,(At (fun b=>b=j) ⟨c,0 + 3,none⟩ [.int .i64 u])∧
 ∃ v:Int,(At (fun b=>b=j) ⟨c,0 + 4,none⟩ [.int .i64 v])∧
 ∃ x:Int,(At (fun b=>b=j) ⟨c,0 + 8,none⟩ [.int .i64 x])∧
 New (.cells #[.int .i64 H,.int .i64 u,.int .i64 v,.int .i64 x] 3 (0,0)) (fun O J=>
 ∃ g:Sl,(At (fun b=>b=J) ⟨c,0 + 8 + 1,none⟩ [.slice g.a g.len g.cap])∧
 ∃ L:World,∃ i:Sl,((Builtin.append_ #[28,28] 28 #[.slice ((some ⟨O,0,none⟩)) 4 4,.slice g.a g.len g.cap]).run Tryz.prog J=.ok (.slice i.a i.len i.cap) L)∧
 ∃ (n:Int→World→Prop) (M:Int→World→Nat),(n 0 L)∧∀ (ad:Env) (f:Int) (e:World),n f e→
 Br (decide (f<(↑i.len:Int)))
 (Rng f i.len (NilP i.a fun N=>
 ∃ y:Int,(At (fun b=>b=e) (Addr.add N f.toNat) [.int .i64 y])∧
 Calls Tryz.prog 108 #[.int .i64 y] e fun ac s=>
 ∃ z:Bool,(ac=.returned (.bool z))∧
 Br z
 (K (.bool false) s)
 ((n (IntKind.i64.wrap (f + 1)) s)∧M (IntKind.i64.wrap (f + 1)) s<M f e)))
 (∃ (o:Bool→World→Prop),(∃ A:ByteArray,(At (fun b=>b=e) ⟨c,0 + 1,none⟩ [.string A])∧
 Br (decide ((↑A.size:Int)≤16))
 (∃ C:ByteArray,(At (fun b=>b=e) ⟨c,0 + 7,none⟩ [.string C])∧
 o (decide ((↑C.size:Int)≤16)) e)
 (o false e))∧
 ∀ (ae:Env) (I:Bool) (k:World),o I k→
 ∃ (p:Bool→World→Prop),(∃ l:Sl,(At (fun b=>b=k) ⟨c,0 + 8 + 1,none⟩ [.slice l.a l.len l.cap])∧
 Br (decide ((↑l.len:Int)≤16))
 (∃ m:Sl,(At (fun b=>b=k) ⟨c,0 + 10,none⟩ [.slice m.a m.len m.cap])∧
 p (decide ((↑m.len:Int)≤16)) k)
 (p false k))∧
 ∀ (af:Env) (t:Bool) (d:World),p t d→
 Br I
 (Br t
 (∃ D:Int,(At (fun b=>b=d) ⟨c,0,none⟩ [.int .i64 D])∧
 Br (decide (D ≥ 1))
 (∃ E:Int,(At (fun b=>b=d) ⟨c,0,none⟩ [.int .i64 E])∧
 Br (decide (E≤9))
 (∃ F:Int,(At (fun b=>b=d) ⟨c,0 + 5,none⟩ [.int .i64 F])∧
 Br (decide (F ≥ 0))
 (∃ G:Int,(At (fun b=>b=d) ⟨c,0 + 5,none⟩ [.int .i64 G])∧
 K (.bool (decide (G≤1099511627776))) d)
 (K (.bool false) d))
 (K (.bool false) d))
 (K (.bool false) d))
 (K (.bool false) d))
 (K (.bool false) d))) j) w
def sk41:Sk:=(.seq .leaf (.seq .leaf (.seq (.seq .leaf (.block (.loop [23] [(.int .i64)] [2,5,23,24,25,26,27,28,29,30] .leaf))) (.cut [6] [.bool] [6,31,32,33,34,35,36,37,38,39,40] .leaf (.cut [7] [.bool] [7,41,42,43,44,45,46,47,48,49,50,51] .leaf .leaf)))))
theorem call41 (d:Int) (e:ByteArray) (f:Int) (g:Int) (i:Int) (j:Int) (k:Nat) (l:ByteArray) (m:Int) (c:Sl) (b:Sl) (K:Value→World→Prop) (w:World) (h:B41 d e f g i j k l m c b K w):Gets Tryz.prog 41 #[.agg #[.int .i64 d,.string e,.int .i64 f,.int .i64 g,.int .i64 i,.int .i64 j,.float .f64 k,.string l,.int .i64 m,.slice c.a c.len c.cap,.slice b.a b.len b.cap]] w K:=cq (sk:=sk41) Tryz.func41 (by kernel_rfl) (by kernel_rfl) (by kernel_rfl) h
def B108 (a:Int) (K:Value→World→Prop) (w:World):Prop:=
 Br (decide (a<0))
 (K (.bool true) w)
 (K (.bool (decide (a>9999))) w)
theorem call108 (a:Int) (K:Value→World→Prop) (w:World) (h:B108 a K w):Gets Tryz.prog 108 #[.int .i64 a] w K:=cq (sk:=.leaf) Tryz.func108 (by kernel_rfl) (by kernel_rfl) (by kernel_rfl) h
def B14  (K:Value→World→Prop) (w:World):Prop:=
 New (.map #[] 0) (fun a d=>
 New (.map #[] 0) (fun b e=>
 New (.cells #[.int .i64 0,.int .i64 1,.map ((some a)),.map ((some b))] 80 (0,0)) (fun c f=>
 K (.pointer ((some ⟨c,0,none⟩))) f) e) d) w
theorem call14  (K:Value→World→Prop) (w:World) (h:B14  K w):Gets Tryz.prog 14 #[] w K:=cq (sk:=.leaf) Tryz.func14 (by kernel_rfl) (by kernel_rfl) (by kernel_rfl) h
def B49 (m:Option Addr) (i:Sl) (K:Value→World→Prop) (w:World):Prop:=
 ∃ (g:Int→World→Prop) (p:Int→World→Nat),(g 0 w)∧∀ (x:Env) (b:Int) (f:World),g b f→
 Br (decide (b<(↑i.len:Int)))
 (Rng b i.len (NilP i.a fun q=>
 ∃ j:Int,(At (fun u=>u=f) (Addr.add q b.toNat) [.int .i64 j])∧
 Drw f fun l v=>
 NilP m fun r=>
 ∃ c:Sl,(At l (Addr.add r 0) [.slice c.a c.len c.cap])∧
 Calls Tryz.prog 120 #[.int .u64 (IntKind.u64.wrap (if 0>j then 0 else j))] v fun t n=>
 ∃ d:Sl,(t=.returned (.slice d.a d.len d.cap))∧
 (l n)∧
 ∃ o:World,∃ e:Sl,((Builtin.append_ #[42,42] 42 #[.slice c.a c.len c.cap,.slice d.a d.len d.cap]).run Tryz.prog n=.ok (.slice e.a e.len e.cap) o)∧
 NilP m fun s=>
 ∃ k:World,((Instr.storeAt 42 (.pointer ((some (Addr.add s 0)))) (.slice e.a e.len e.cap)).run Tryz.prog o=.ok () k)∧
 (g (IntKind.i64.wrap (b + 1)) k)∧p (IntKind.i64.wrap (b + 1)) k<p b f))
 (K (.tuple #[]) f)
def sk49:Sk:=(.seq .leaf (.block (.loop [8] [(.int .i64)] [5,8,9,10,11,12,13,14,15,16,17,18,19,20,21,22,23,24] .leaf)))
theorem call49 (c:Option Addr) (b:Sl) (K:Value→World→Prop) (w:World) (h:B49 c b K w):Gets Tryz.prog 49 #[.pointer c,.slice b.a b.len b.cap] w K:=cq (sk:=sk49) Tryz.func49 (by kernel_rfl) (by kernel_rfl) (by kernel_rfl) h
def B52 (g:Option Addr) (e:Sl) (K:Value→World→Prop) (w:World):Prop:=
 Drw w fun f o=>
 NilP g fun m=>
 ∃ d:Sl,(At f (Addr.add m 0) [.slice d.a d.len d.cap])∧
 Calls Tryz.prog 124 #[.slice e.a e.len e.cap] o fun n i=>
 ∃ b:Sl,(n=.returned (.slice b.a b.len b.cap))∧
 (f i)∧
 ∃ j:World,∃ c:Sl,((Builtin.append_ #[42,42] 42 #[.slice d.a d.len d.cap,.slice b.a b.len b.cap]).run Tryz.prog i=.ok (.slice c.a c.len c.cap) j)∧
 NilP g fun l=>
 ∃ k:World,((Instr.storeAt 42 (.pointer ((some (Addr.add l 0)))) (.slice c.a c.len c.cap)).run Tryz.prog j=.ok () k)∧
 K (.tuple #[]) k
theorem call52 (c:Option Addr) (b:Sl) (K:Value→World→Prop) (w:World) (h:B52 c b K w):Gets Tryz.prog 52 #[.pointer c,.slice b.a b.len b.cap] w K:=cq (sk:=.leaf) Tryz.func52 (by kernel_rfl) (by kernel_rfl) (by kernel_rfl) h
def B78 (g:Option Addr) (f:Int) (K:Value→World→Prop) (w:World):Prop:=
 New (.cells #[.pointer g] 126 (0,0)) (fun d c=>
 ∃ a:Option Addr,(At (fun i=>i=c) ⟨d,0,none⟩ [.pointer a])∧
 Calls Tryz.prog 147 #[.pointer a,.int .u64 (IntKind.u64.wrap f)] c fun e j=>
 ∃ b:Int,(e=.returned (.int .u64 b))∧
 K (.int .i64 (IntKind.i64.wrap b)) j) w
theorem call78 (b:Option Addr) (a:Int) (K:Value→World→Prop) (w:World) (h:B78 b a K w):Gets Tryz.prog 78 #[.agg #[.pointer b],.int .i64 a] w K:=cq (sk:=.leaf) Tryz.func78 (by kernel_rfl) (by kernel_rfl) (by kernel_rfl) h
def B46 (s:Option Addr) (t:ByteArray) (c:List PanicEntry→World→Prop) (K:Value→World→Prop) (w:World):Prop:=
 Calls Tryz.prog 119 #[.string t] w fun i q=>
 (∃ l:Int,∃ m:Int,(i=.returned (.tuple #[.int .i64 l,.int .i64 m]))∧
 Calls Tryz.prog 110 #[.int .i64 m] q fun j b=>
 ((j=.returned (.tuple #[]))∧
 NilP s fun d=>
 ∃ n:Option Nat,(At (fun a=>a=b) ⟨d.block,d.off + 3,none⟩ [.map n])∧
 ∃ o:Option Addr,∃ p:Bool,(∀ a,(fun a=>a=b) a→((Instr.lookup 78 (.map n) (.int .i64 l) true)).run Tryz.prog a=.ok (.tuple #[.pointer o,.bool p]) a)∧
 Calls Tryz.prog 40 #[.bool p,.int .i64 2] b fun k r=>
 ((k=.returned (.tuple #[]))∧
 K (.pointer o) r)∨
 (∃ g:List PanicEntry,(k=.panicked g)∧c g r))∨
 (∃ f:List PanicEntry,(j=.panicked f)∧c f b))∨
 (∃ e:List PanicEntry,(i=.panicked e)∧c e q)
theorem call46 (b:Option Addr) (c:ByteArray) (a:List PanicEntry→World→Prop) (K:Value→World→Prop) (w:World) (h:B46 b c a K w):GetsX Tryz.prog 46 #[.pointer b,.string c] w a K:=cqx (sk:=.leaf) Tryz.func46 (by kernel_rfl) (by kernel_rfl) (by kernel_rfl) h
def B57 (u:Option Addr) (v:Int) (t:List PanicEntry→World→Prop) (K:Value→World→Prop) (w:World):Prop:=
 New (.cells #[.pointer none,.pointer none] 102 (0,0)) (fun g b=>
 NilP u fun e=>
 ∃ k:Option Nat,(At (fun a=>a=b) ⟨e.block,e.off + 2,none⟩ [.map k])∧
 ∃ l:Option Addr,∃ m:Option Addr,∃ n:Bool,(∀ a,(fun a=>a=b) a→((Instr.lookup 77 (.map k) (.int .i64 v) true)).run Tryz.prog a=.ok (.tuple #[.agg #[.pointer l,.pointer m],.bool n]) a)∧
 New (.cells #[.pointer none,.pointer none] 102 (0,0)) (fun f x=>
 ∃ s:World,((Instr.storeAt 102 (.pointer ((some ⟨f,0,none⟩))) (.agg #[.pointer l,.pointer m])).run Tryz.prog x=.ok () s)∧
 Calls Tryz.prog 40 #[.bool n,.int .i64 2] s fun j c=>
 ((j=.returned (.tuple #[]))∧
 ∃ o:Option Addr,∃ p:Option Addr,(At (fun a=>a=c) ⟨f,0,none⟩ [.pointer o,.pointer p])∧
 ∃ d:World,((Instr.storeAt 102 (.pointer ((some ⟨g,0,none⟩))) (.agg #[.pointer o,.pointer p])).run Tryz.prog c=.ok () d)∧
 ∃ q:Option Addr,∃ r:Option Addr,(At (fun a=>a=d) ⟨g,0,none⟩ [.pointer q,.pointer r])∧
 K (.agg #[.pointer q,.pointer r]) d)∨
 (∃ i:List PanicEntry,(j=.panicked i)∧t i c)) b) w
theorem call57 (b:Option Addr) (c:Int) (a:List PanicEntry→World→Prop) (K:Value→World→Prop) (w:World) (h:B57 b c a K w):GetsX Tryz.prog 57 #[.pointer b,.int .i64 c] w a K:=cqx (sk:=.leaf) Tryz.func57 (by kernel_rfl) (by kernel_rfl) (by kernel_rfl) h
def B114 (E:Option Addr) (b2:Int) (K:Value→World→Prop) (w:World):Prop:=
 NilP E fun D=>
 ∃ J:Option Nat,(At (fun b=>b=w) ⟨D.block,D.off + 2,none⟩ [.map J])∧
 ∃ L:Option Addr,∃ M:Option Addr,(∀ b,(fun b=>b=w) b→((Instr.lookup 77 (.map J) (.int .i64 b2) false)).run Tryz.prog b=.ok (.agg #[.pointer L,.pointer M]) b)∧
 New (.cells #[.pointer none,.pointer none] 102 (0,0)) (fun f b5=>
 ∃ bd:World,((Instr.storeAt 102 (.pointer ((some ⟨f,0,none⟩))) (.agg #[.pointer L,.pointer M])).run Tryz.prog b5=.ok () bd)∧
 ∃ (l:Option Addr→Bool→World→Prop),(Drw bd fun c bh=>
 ∃ o:Option Addr,(At c ⟨f,0 + 1,none⟩ [.pointer o])∧
 ∃ s:Option Addr,(At c ⟨f,0,none⟩ [.pointer s])∧
 (Calls Tryz.prog 58 #[.pointer s] bh fun bs x=>
 ∃ d:Sl,(bs=.returned (.slice d.a d.len d.cap))∧
 (c x)∧
 (Calls Tryz.prog 183 #[.pointer o,.slice d.a d.len d.cap] x fun bt bi=>
 ∃ N:Int,∃ O:Int,∃ ab:Int,∃ ac:Int,∃ ad:Nat,∃ ae:Bool,(bt=.returned (.tuple #[.agg #[.int .i64 N,.int .i64 O,.int .i64 ab,.int .i64 ac,.float .f64 ad],.bool ae]))∧
 (c bi)∧
 New (.cells #[.int .i64 0,.int .i64 0,.int .i64 0,.int .i64 0,.float .f64 0] 65 (0,0)) (fun F bj=>
 (c bj)∧
 ∃ bk:World,((Instr.storeAt 65 (.pointer ((some ⟨F,0,none⟩))) (.agg #[.int .i64 N,.int .i64 O,.int .i64 ab,.int .i64 ac,.float .f64 ad])).run Tryz.prog bj=.ok () bk)∧
 l ((some ⟨F,0,none⟩)) ae bk) bi)∧
 New (.cells #[.int .i64 0,.int .i64 0,.int .i64 0,.int .i64 0,.float .f64 0] 65 (0,0)) (fun G bl=>
 (c bl)∧
 Calls Tryz.prog 183 #[.pointer o,.slice d.a d.len d.cap] bl fun bu bm=>
 ∃ af:Int,∃ ag:Int,∃ ah:Int,∃ ai:Int,∃ Q:Nat,∃ T:Bool,(bu=.returned (.tuple #[.agg #[.int .i64 af,.int .i64 ag,.int .i64 ah,.int .i64 ai,.float .f64 Q],.bool T]))∧
 (c bm)∧
 ∃ a7:World,((Instr.storeAt 65 (.pointer ((some ⟨G,0,none⟩))) (.agg #[.int .i64 af,.int .i64 ag,.int .i64 ah,.int .i64 ai,.float .f64 Q])).run Tryz.prog bm=.ok () a7)∧
 l ((some ⟨G,0,none⟩)) T a7) x)∧
 New (.cells #[.int .i64 0,.int .i64 0,.int .i64 0,.int .i64 0,.float .f64 0] 65 (0,0)) (fun H a8=>
 (c a8)∧
 Calls Tryz.prog 58 #[.pointer s] a8 fun bv a9=>
 ∃ g:Sl,(bv=.returned (.slice g.a g.len g.cap))∧
 (c a9)∧
 Calls Tryz.prog 183 #[.pointer o,.slice g.a g.len g.cap] a9 fun bw ba=>
 ∃ U:Int,∃ V:Int,∃ X:Int,∃ Y:Int,∃ Z:Nat,∃ aa:Bool,(bw=.returned (.tuple #[.agg #[.int .i64 U,.int .i64 V,.int .i64 X,.int .i64 Y,.float .f64 Z],.bool aa]))∧
 (c ba)∧
 ∃ bb:World,((Instr.storeAt 65 (.pointer ((some ⟨H,0,none⟩))) (.agg #[.int .i64 U,.int .i64 V,.int .i64 X,.int .i64 Y,.float .f64 Z])).run Tryz.prog ba=.ok () bb)∧
 l ((some ⟨H,0,none⟩)) aa bb) bh)∧
 ∀ (ca:Env) (a6:Option Addr) (I:Bool) (bc:World),l a6 I bc→
 ∃ (p:Option Addr→Bool→World→Prop) (bn:Option Addr→Bool→World→Nat),(p a6 I bc)∧∀ (cb:Env) (e:Option Addr) (r:Bool) (j:World),p e r j→
 Br r
 (∃ aq:Option Addr,(At (fun b=>b=j) ⟨f,0 + 1,none⟩ [.pointer aq])∧
 NilP e fun bo=>
 ∃ ar:Int,(At (fun b=>b=j) (Addr.add bo 0) [.int .i64 ar])∧
 Calls Tryz.prog 116 #[.pointer aq,.int .i64 ar] j fun bx k=>
 ∃ b3:Int,(bx=.returned (.int .i64 b3))∧
 ∃ au:Option Addr,(At (fun b=>b=k) ⟨f,0,none⟩ [.pointer au])∧
 NilP e fun bp=>
 ∃ av:Int,(At (fun b=>b=k) (Addr.add bp 0) [.int .i64 av])∧
 NilP e fun y=>
 ∃ aw:Int,(At (fun b=>b=k) ⟨y.block,y.off + 1,none⟩ [.int .i64 aw])∧
 NilP e fun z=>
 ∃ ax:Int,(At (fun b=>b=k) ⟨z.block,z.off + 2,none⟩ [.int .i64 ax])∧
 Calls Tryz.prog 112 #[.pointer au,.int .i64 av,.int .i64 aw,.int .i64 ax] k fun bz b6=>
 ∃ b4:Int,(bz=.returned (.int .i64 b4))∧
 Drw b6 fun q b7=>
 NilP E fun A=>
 ∃ ay:Option Nat,(At q ⟨A.block,A.off + 3,none⟩ [.map ay])∧
 NilP e fun bq=>
 ∃ az:Int,(At q (Addr.add bq 0) [.int .i64 az])∧
 ∃ a0:Option Addr,(∀ b,q b→((Instr.lookup 78 (.map ay) (.int .i64 az) false)).run Tryz.prog b=.ok (.pointer a0) b)∧
 NilP a0 fun C=>
 ∃ u:World,((Instr.storeAt 3 (.pointer ((some ⟨C.block,C.off + 4,none⟩))) (.int .i64 2)).run Tryz.prog b7=.ok () u)∧
 NilP e fun br=>
 ∃ a1:Int,∃ a2:Int,∃ a3:Int,∃ a4:Int,∃ a5:Nat,(At (fun b=>b=u) br [.int .i64 a1,.int .i64 a2,.int .i64 a3,.int .i64 a4,.float .f64 a5])∧
 New (.cells #[.int .i64 0,.int .i64 0,.int .i64 0,.int .i64 0,.float .f64 0] 65 (0,0)) (fun n b8=>
 ∃ be:World,((Instr.storeAt 65 (.pointer ((some ⟨n,0,none⟩))) (.agg #[.int .i64 a1,.int .i64 a2,.int .i64 a3,.int .i64 a4,.float .f64 a5])).run Tryz.prog b8=.ok () be)∧
 Drw be fun m b9=>
 ∃ aj:Option Addr,(At m ⟨f,0 + 1,none⟩ [.pointer aj])∧
 ∃ ak:Option Addr,(At m ⟨f,0,none⟩ [.pointer ak])∧
 Calls Tryz.prog 58 #[.pointer ak] b9 fun b0 bf=>
 ∃ i:Sl,(b0=.returned (.slice i.a i.len i.cap))∧
 (m bf)∧
 Calls Tryz.prog 183 #[.pointer aj,.slice i.a i.len i.cap] bf fun b1 bg=>
 ∃ al:Int,∃ am:Int,∃ an:Int,∃ ao:Int,∃ ap:Nat,∃ t:Bool,(b1=.returned (.tuple #[.agg #[.int .i64 al,.int .i64 am,.int .i64 an,.int .i64 ao,.float .f64 ap],.bool t]))∧
 (m bg)∧
 ∃ v:World,((Instr.storeAt 65 (.pointer ((some ⟨n,0,none⟩))) (.agg #[.int .i64 al,.int .i64 am,.int .i64 an,.int .i64 ao,.float .f64 ap])).run Tryz.prog bg=.ok () v)∧
 (p ((some ⟨n,0,none⟩)) t v)∧bn ((some ⟨n,0,none⟩)) t v<bn e r j) u)
 (K (.tuple #[]) j)) w
def sk114:Sk:=(.seq .leaf (.cut [5,6] [.ptr,.bool] [5,6,13,14,15,16,17,18,19,20,21] .leaf (.block (.loop [5,6] [.ptr,.bool] [5,6,22,23,24,25,26,27,28,29,30,31,32,33,34,35,36,37,38,39,40,41,42,43,44,45,46,47,48,49,50,51,52,53,54,55] .leaf))))
theorem call114 (a:Option Addr) (b:Int) (K:Value→World→Prop) (w:World) (h:B114 a b K w):Gets Tryz.prog 114 #[.pointer a,.int .i64 b] w K:=cq (sk:=sk114) Tryz.func114 (by kernel_rfl) (by kernel_rfl) (by kernel_rfl) h
def B56 (ac:Option Addr) (c:Option Addr) (K:Value→World→Prop) (w:World):Prop:=
 New (.cells #[.int .i64 0,.string (ByteArray.mk #[]),.int .i64 0,.int .i64 0,.int .i64 0,.int .i64 0,.int .i64 0,.slice none 0 0,.slice none 0 0] 31 (0,0)) (fun u ah=>
 Drw ah fun j ai=>
 NilP ac fun t=>
 ∃ v:Option Nat,(At j ⟨t.block,t.off + 2,none⟩ [.map v])∧
 NilP c fun n=>
 ∃ x:Int,(At j ⟨n.block,n.off + 1,none⟩ [.int .i64 x])∧
 ∃ y:Option Addr,∃ z:Option Addr,(∀ d,j d→((Instr.lookup 77 (.map v) (.int .i64 x) false)).run Tryz.prog d=.ok (.agg #[.pointer y,.pointer z]) d)∧
 New (.cells #[.pointer none,.pointer none] 102 (0,0)) (fun k X=>
 (j X)∧
 ∃ l:World,((Instr.storeAt 102 (.pointer ((some ⟨k,0,none⟩))) (.agg #[.pointer y,.pointer z])).run Tryz.prog X=.ok () l)∧
 NilP c fun aa=>
 ∃ A:Int,(At (fun d=>d=l) (Addr.add aa 0) [.int .i64 A])∧
 Calls Tryz.prog 129 #[.int .i64 A] l fun ad aj=>
 ∃ C:ByteArray,∃ ag:Int,(ad=.returned (.tuple #[.string C,.int .i64 ag]))∧
 Drw aj fun b ak=>
 NilP c fun o=>
 ∃ D:Int,(At b ⟨o.block,o.off + 4,none⟩ [.int .i64 D])∧
 NilP c fun p=>
 ∃ E:Int,(At b ⟨p.block,p.off + 1,none⟩ [.int .i64 E])∧
 NilP c fun q=>
 ∃ F:Int,(At b ⟨q.block,q.off + 2,none⟩ [.int .i64 F])∧
 NilP c fun r=>
 ∃ G:Int,(At b ⟨r.block,r.off + 3,none⟩ [.int .i64 G])∧
 NilP c fun s=>
 ∃ H:Int,(At b ⟨s.block,s.off + 5,none⟩ [.int .i64 H])∧
 ∃ I:Option Addr,(At b ⟨k,0,none⟩ [.pointer I])∧
 ∃ J:Option Addr,(At b ⟨k,0,none⟩ [.pointer J])∧
 NilP c fun ab=>
 ∃ L:Int,(At b (Addr.add ab 0) [.int .i64 L])∧
 Calls Tryz.prog 58 #[.pointer I] ak fun ae Y=>
 ∃ e:Sl,(ae=.returned (.slice e.a e.len e.cap))∧
 (b Y)∧
 Calls Tryz.prog 130 #[.pointer J,.int .i64 L] Y fun af Z=>
 ∃ f:Sl,(af=.returned (.slice f.a f.len f.cap))∧
 (b Z)∧
 ∃ m:World,((Instr.storeAt 31 (.pointer ((some ⟨u,0,none⟩))) (.agg #[.int .i64 0,.string C,.int .i64 D,.int .i64 E,.int .i64 F,.int .i64 G,.int .i64 H,.slice e.a e.len e.cap,.slice f.a f.len f.cap])).run Tryz.prog Z=.ok () m)∧
 ∃ M:Int,∃ N:ByteArray,∃ O:Int,∃ Q:Int,∃ T:Int,∃ U:Int,∃ V:Int,∃ g:Sl,∃ i:Sl,(At (fun d=>d=m) ⟨u,0,none⟩ [.int .i64 M,.string N,.int .i64 O,.int .i64 Q,.int .i64 T,.int .i64 U,.int .i64 V,.slice g.a g.len g.cap,.slice i.a i.len i.cap])∧
 K (.agg #[.int .i64 M,.string N,.int .i64 O,.int .i64 Q,.int .i64 T,.int .i64 U,.int .i64 V,.slice g.a g.len g.cap,.slice i.a i.len i.cap]) m) ai) w
theorem call56 (a:Option Addr) (b:Option Addr) (K:Value→World→Prop) (w:World) (h:B56 a b K w):Gets Tryz.prog 56 #[.pointer a,.pointer b] w K:=cq (sk:=.leaf) Tryz.func56 (by kernel_rfl) (by kernel_rfl) (by kernel_rfl) h
def B42 (o:Option Addr) (aw:Int) (ax:ByteArray) (ay:Int) (az:Int) (a0:Int) (a1:Int) (a2:Nat) (a3:ByteArray) (a4:Int) (q:Sl) (p:Sl) (c:List PanicEntry→World→Prop) (K:Value→World→Prop) (w:World):Prop:=
 New (.cells #[.int .i64 aw,.string ax,.int .i64 ay,.int .i64 az,.int .i64 a0,.int .i64 a1,.float .f64 a2,.string a3,.int .i64 a4,.slice q.a q.len q.cap,.slice p.a p.len p.cap] 38 (0,0)) (fun d a5=>
 New (.cells #[.int .i64 0,.string (ByteArray.mk #[]),.int .i64 0,.int .i64 0,.int .i64 0,.int .i64 0,.int .i64 0,.slice none 0 0,.slice none 0 0] 31 (0,0)) (fun A a8=>
 Drw a8 fun l a9=>
 NilP o fun x=>
 ∃ Q:Option Nat,(At l ⟨x.block,x.off + 2,none⟩ [.map Q])∧
 ∃ T:Int,(At l ⟨d,0 + 2,none⟩ [.int .i64 T])∧
 ∃ U:Option Addr,∃ V:Option Addr,∃ X:Bool,(∀ b,l b→((Instr.lookup 77 (.map Q) (.int .i64 T) true)).run Tryz.prog b=.ok (.tuple #[.agg #[.pointer U,.pointer V],.bool X]) b)∧
 New (.cells #[.pointer none,.pointer none] 102 (0,0)) (fun av ap=>
 (l ap)∧
 ∃ aq:World,((Instr.storeAt 102 (.pointer ((some ⟨av,0,none⟩))) (.agg #[.pointer U,.pointer V])).run Tryz.prog ap=.ok () aq)∧
 Calls Tryz.prog 40 #[.bool (!X),.int .i64 7] aq fun I m=>
 ((I=.returned (.tuple #[]))∧
 NilP o fun y=>
 ∃ Y:Option Nat,(At (fun b=>b=m) ⟨y.block,y.off + 2,none⟩ [.map Y])∧
 ∃ Z:Int,(∀ b,(fun b=>b=m) b→((Builtin.len_ #[77] 3 #[.map Y])).run Tryz.prog b=.ok (.int .i64 Z) b)∧
 Calls Tryz.prog 40 #[.bool (decide (Z<8)),.int .i64 3] m fun J k=>
 ((J=.returned (.tuple #[]))∧
 ∃ aa:Int,(At (fun b=>b=k) ⟨d,0 + 2,none⟩ [.int .i64 aa])∧
 ∃ ab:Int,∃ e:Sl,(At (fun b=>b=k) ⟨d,0 + 8,none⟩ [.int .i64 ab,.slice e.a e.len e.cap])∧
 ∃ f:Sl,(At (fun b=>b=k) ⟨d,0 + 10,none⟩ [.slice f.a f.len f.cap])∧
 Calls Tryz.prog 109 #[.int .i64 aa,.agg #[.int .i64 ab,.slice e.a e.len e.cap],.slice f.a f.len f.cap] k fun L ar=>
 (∃ r:Option Addr,∃ ac:Int,(L=.returned (.tuple #[.pointer r,.int .i64 ac]))∧
 Calls Tryz.prog 110 #[.int .i64 ac] ar fun M au=>
 ((M=.returned (.tuple #[]))∧
 Drw au fun n a6=>
 NilP o fun z=>
 ∃ ad:Option Nat,(At n ⟨z.block,z.off + 2,none⟩ [.map ad])∧
 ∃ ae:Int,(At n ⟨d,0 + 2,none⟩ [.int .i64 ae])∧
 Calls Tryz.prog 111 #[] a6 fun N s=>
 (∃ af:Option Addr,(N=.returned (.pointer af))∧
 (n s)∧
 ∃ ao:World,((Instr.mapUpdate 77 (.map ad) (.int .i64 ae) (.agg #[.pointer r,.pointer af])).run Tryz.prog s=.ok () ao)∧
 Drw ao fun v a7=>
 ∃ ag:Int,(At v ⟨d,0 + 2,none⟩ [.int .i64 ag])∧
 Calls Tryz.prog 58 #[.pointer r] a7 fun O t=>
 (∃ g:Sl,(O=.returned (.slice g.a g.len g.cap))∧
 (v t)∧
 ∃ u:World,((Instr.storeAt 31 (.pointer ((some ⟨A,0,none⟩))) (.agg #[.int .i64 0,.string (ByteArray.mk #[]),.int .i64 0,.int .i64 ag,.int .i64 0,.int .i64 0,.int .i64 0,.slice g.a g.len g.cap,.slice none 0 0])).run Tryz.prog t=.ok () u)∧
 ∃ ah:Int,∃ ai:ByteArray,∃ aj:Int,∃ ak:Int,∃ al:Int,∃ am:Int,∃ an:Int,∃ i:Sl,∃ j:Sl,(At (fun b=>b=u) ⟨A,0,none⟩ [.int .i64 ah,.string ai,.int .i64 aj,.int .i64 ak,.int .i64 al,.int .i64 am,.int .i64 an,.slice i.a i.len i.cap,.slice j.a j.len j.cap])∧
 K (.agg #[.int .i64 ah,.string ai,.int .i64 aj,.int .i64 ak,.int .i64 al,.int .i64 am,.int .i64 an,.slice i.a i.len i.cap,.slice j.a j.len j.cap]) u)∨
 (∃ H:List PanicEntry,(O=.panicked H)∧c H t))∨
 (∃ G:List PanicEntry,(N=.panicked G)∧c G s))∨
 (∃ F:List PanicEntry,(M=.panicked F)∧c F au))∨
 (∃ E:List PanicEntry,(L=.panicked E)∧c E ar))∨
 (∃ D:List PanicEntry,(J=.panicked D)∧c D k))∨
 (∃ C:List PanicEntry,(I=.panicked C)∧c C m)) a9) a5) w
theorem call42 (e:Option Addr) (f:Int) (g:ByteArray) (i:Int) (j:Int) (k:Int) (l:Int) (m:Nat) (n:ByteArray) (o:Int) (c:Sl) (b:Sl) (d:List PanicEntry→World→Prop) (K:Value→World→Prop) (w:World) (h:B42 e f g i j k l m n o c b d K w):GetsX Tryz.prog 42 #[.pointer e,.agg #[.int .i64 f,.string g,.int .i64 i,.int .i64 j,.int .i64 k,.int .i64 l,.float .f64 m,.string n,.int .i64 o,.slice c.a c.len c.cap,.slice b.a b.len b.cap]] w d K:=cqx (sk:=.leaf) Tryz.func42 (by kernel_rfl) (by kernel_rfl) (by kernel_rfl) h
def B43 (d:Option Addr) (da:Int) (db:ByteArray) (dc:Int) (dd:Int) (de:Int) (df:Int) (dg:Nat) (dh:ByteArray) (di:Int) (H:Sl) (G:Sl) (c:List PanicEntry→World→Prop) (K:Value→World→Prop) (w:World):Prop:=
 New (.cells #[.int .i64 da,.string db,.int .i64 dc,.int .i64 dd,.int .i64 de,.int .i64 df,.float .f64 dg,.string dh,.int .i64 di,.slice H.a H.len H.cap,.slice G.a G.len G.cap] 38 (0,0)) (fun e dj=>
 New (.cells #[.int .i64 0,.string (ByteArray.mk #[]),.int .i64 0,.int .i64 0,.int .i64 0,.int .i64 0,.int .i64 0,.slice none 0 0,.slice none 0 0] 31 (0,0)) (fun x c0=>
 ∃ cf:Int,(At (fun b=>b=c0) ⟨e,0 + 2,none⟩ [.int .i64 cf])∧
 Calls Tryz.prog 57 #[.pointer d,.int .i64 cf] c0 fun aq c4=>
 (∃ a5:Option Addr,∃ ba:Option Addr,(aq=.returned (.agg #[.pointer a5,.pointer ba]))∧
 New (.cells #[.pointer none,.pointer none] 102 (0,0)) (fun v dp=>
 ∃ c7:World,((Instr.storeAt 102 (.pointer ((some ⟨v,0,none⟩))) (.agg #[.pointer a5,.pointer ba])).run Tryz.prog dp=.ok () c7)∧
 Drw c7 fun i dq=>
 NilP d fun Z=>
 ∃ bt:Int,(At i ⟨Z.block,Z.off + 1,none⟩ [.int .i64 bt])∧
 ∃ bu:Int,(At i ⟨e,0 + 2,none⟩ [.int .i64 bu])∧
 ∃ bv:Int,(At i ⟨e,0 + 3,none⟩ [.int .i64 bv])∧
 ∃ bw:Int,(At i ⟨e,0 + 4,none⟩ [.int .i64 bw])∧
 ∃ bx:Int,(At i ⟨e,0 + 5,none⟩ [.int .i64 bx])∧
 New (.cells #[.int .i64 bt,.int .i64 bu,.int .i64 bv,.int .i64 bw,.int .i64 1,.int .i64 bx] 106 (0,0)) (fun f A=>
 (i A)∧
 ∃ (C:World→Prop),(∃ bz:Int,(At (fun b=>b=A) ⟨e,0,none⟩ [.int .i64 bz])∧
 Br (bz==2)
 (Drw A fun F dr=>
 ∃ b0:Int,(At F ⟨e,0 + 5,none⟩ [.int .i64 b0])∧
 NilP d fun c8=>
 ∃ b1:Int,(At F (Addr.add c8 0) [.int .i64 b1])∧
 Calls Tryz.prog 40 #[.bool (decide (b0>b1)),.int .i64 1] dr fun ar U=>
 ((ar=.returned (.tuple #[]))∧
 (F U)∧
 C  U)∨
 (∃ ae:List PanicEntry,(ar=.panicked ae)∧c ae U))
 (Drw A fun u dk=>
 ∃ b2:Int,(At u ⟨e,0 + 3,none⟩ [.int .i64 b2])∧
 ∃ b3:Option Addr,(At u ⟨v,0,none⟩ [.pointer b3])∧
 Calls Tryz.prog 58 #[.pointer b3] dk fun ax I=>
 (∃ y:Sl,(ax=.returned (.slice y.a y.len y.cap))∧
 (u I)∧
 Calls Tryz.prog 40 #[.bool (decide (b2<(↑y.len:Int))),.int .i64 1] I fun ay J=>
 ((ay=.returned (.tuple #[]))∧
 (u J)∧
 ∃ cw:World,((Instr.storeAt 3 (.pointer ((some ⟨f,0 + 4,none⟩))) (.int .i64 3)).run Tryz.prog J=.ok () cw)∧
 ∃ cx:World,((Instr.storeAt 3 (.pointer ((some ⟨f,0 + 5,none⟩))) (.int .i64 0)).run Tryz.prog cw=.ok () cx)∧
 C  cx)∨
 (∃ aj:List PanicEntry,(ay=.panicked aj)∧c aj J))∨
 (∃ ai:List PanicEntry,(ax=.panicked ai)∧c ai I)))∧
 ∀ (ds:Env)  (r:World),C  r→
 ∃ (D:World→Prop),(NilP d fun ab=>
 ∃ b4:Option Nat,(At (fun b=>b=r) ⟨ab.block,ab.off + 3,none⟩ [.map b4])∧
 ∃ b5:Int,(∀ b,(fun b=>b=r) b→((Builtin.len_ #[78] 3 #[.map b4])).run Tryz.prog b=.ok (.int .i64 b5) b)∧
 Br (decide (b5<300))
 (NilP d fun ac=>
 ∃ b6:Int,(At (fun b=>b=r) ⟨ac.block,ac.off + 1,none⟩ [.int .i64 b6])∧
 Calls Tryz.prog 40 #[.bool (decide (b6<28629151)),.int .i64 3] r fun az cy=>
 ((az=.returned (.tuple #[]))∧
 D  cy)∨
 (∃ ak:List PanicEntry,(az=.panicked ak)∧c ak cy))
 (Calls Tryz.prog 40 #[.bool false,.int .i64 3] r fun a0 cz=>
 ((a0=.returned (.tuple #[]))∧
 D  cz)∨
 (∃ al:List PanicEntry,(a0=.panicked al)∧c al cz)))∧
 ∀ (dt:Env)  (z:World),D  z→
 ∃ (E:World→Prop),(∃ b7:Int,(At (fun b=>b=z) ⟨e,0,none⟩ [.int .i64 b7])∧
 Br (b7==2)
 (Drw z fun s dl=>
 ∃ b8:Option Addr,(At s ⟨v,0,none⟩ [.pointer b8])∧
 ∃ b9:Int,(At s ⟨f,0,none⟩ [.int .i64 b9])∧
 ∃ ca:Int,(At s ⟨f,0 + 2,none⟩ [.int .i64 ca])∧
 ∃ cb:Int,(At s ⟨f,0 + 3,none⟩ [.int .i64 cb])∧
 Calls Tryz.prog 112 #[.pointer b8,.int .i64 b9,.int .i64 ca,.int .i64 cb] dl fun a1 c1=>
 (∃ cc:Int,(a1=.returned (.int .i64 cc))∧
 Calls Tryz.prog 110 #[.int .i64 cc] c1 fun a2 L=>
 ((a2=.returned (.tuple #[]))∧
 (s L)∧
 E  L)∨
 (∃ an:List PanicEntry,(a2=.panicked an)∧c an L))∨
 (∃ am:List PanicEntry,(a1=.panicked am)∧c am c1))
 (Drw z fun g dm=>
 ∃ cd:Option Addr,(At g ⟨v,0 + 1,none⟩ [.pointer cd])∧
 ∃ ce:Int,(At g ⟨f,0,none⟩ [.int .i64 ce])∧
 ∃ cg:Int,(At g ⟨f,0 + 2,none⟩ [.int .i64 cg])∧
 ∃ ch:Int,(At g ⟨f,0 + 3,none⟩ [.int .i64 ch])∧
 NilP d fun c9=>
 ∃ a6:Int,(At g (Addr.add c9 0) [.int .i64 a6])∧
 ∃ a7:Nat,(At g ⟨e,0 + 6,none⟩ [.float .f64 a7])∧
 Calls Tryz.prog 113 #[.pointer cd,.agg #[.int .i64 ce,.int .i64 cg,.int .i64 ch,.int .i64 a6,.float .f64 a7]] dm fun a3 M=>
 (∃ a8:Int,(a3=.returned (.int .i64 a8))∧
 (g M)∧
 Calls Tryz.prog 110 #[.int .i64 a8] M fun a4 N=>
 ((a4=.returned (.tuple #[]))∧
 (g N)∧
 E  N)∨
 (∃ ap:List PanicEntry,(a4=.panicked ap)∧c ap N))∨
 (∃ ao:List PanicEntry,(a3=.panicked ao)∧c ao M)))∧
 ∀ (du:Env)  (c2:World),E  c2→
 Drw c2 fun V dn=>
 NilP d fun X=>
 ∃ a9:Option Nat,(At V ⟨X.block,X.off + 3,none⟩ [.map a9])∧
 ∃ bb:Int,(At V ⟨f,0,none⟩ [.int .i64 bb])∧
 ∃ O:World,((Instr.mapUpdate 78 (.map a9) (.int .i64 bb) (.pointer ((some ⟨f,0,none⟩)))).run Tryz.prog dn=.ok () O)∧
 NilP d fun Y=>
 ∃ bc:Int,(At (fun b=>b=O) ⟨Y.block,Y.off + 1,none⟩ [.int .i64 bc])∧
 NilP d fun aa=>
 ∃ t:World,((Instr.storeAt 3 (.pointer ((some ⟨aa.block,aa.off + 1,none⟩))) (.int .i64 (IntKind.i64.wrap (bc + 1)))).run Tryz.prog O=.ok () t)∧
 ∃ bd:Int,(At (fun b=>b=t) ⟨e,0,none⟩ [.int .i64 bd])∧
 Br (bd==7)
 (∃ be:Int,(At (fun b=>b=t) ⟨e,0 + 2,none⟩ [.int .i64 be])∧
 Calls Tryz.prog 114 #[.pointer d,.int .i64 be] t fun au c3=>
 ((au=.returned (.tuple #[]))∧
 Calls Tryz.prog 56 #[.pointer d,.pointer ((some ⟨f,0,none⟩))] c3 fun av c5=>
 (∃ bf:Int,∃ bg:ByteArray,∃ bn:Int,∃ bo:Int,∃ bp:Int,∃ bq:Int,∃ br:Int,∃ l:Sl,∃ m:Sl,(av=.returned (.agg #[.int .i64 bf,.string bg,.int .i64 bn,.int .i64 bo,.int .i64 bp,.int .i64 bq,.int .i64 br,.slice l.a l.len l.cap,.slice m.a m.len m.cap]))∧
 ∃ Q:World,((Instr.storeAt 31 (.pointer ((some ⟨x,0,none⟩))) (.agg #[.int .i64 bf,.string bg,.int .i64 bn,.int .i64 bo,.int .i64 bp,.int .i64 bq,.int .i64 br,.slice l.a l.len l.cap,.slice m.a m.len m.cap])).run Tryz.prog c5=.ok () Q)∧
 ∃ ci:Int,∃ cj:ByteArray,∃ cq:Int,∃ cr:Int,∃ cs:Int,∃ ct:Int,∃ cu:Int,∃ p:Sl,∃ q:Sl,(At (fun b=>b=Q) ⟨x,0,none⟩ [.int .i64 ci,.string cj,.int .i64 cq,.int .i64 cr,.int .i64 cs,.int .i64 ct,.int .i64 cu,.slice p.a p.len p.cap,.slice q.a q.len q.cap])∧
 K (.agg #[.int .i64 ci,.string cj,.int .i64 cq,.int .i64 cr,.int .i64 cs,.int .i64 ct,.int .i64 cu,.slice p.a p.len p.cap,.slice q.a q.len q.cap]) Q)∨
 (∃ ag:List PanicEntry,(av=.panicked ag)∧c ag c5))∨
 (∃ af:List PanicEntry,(au=.panicked af)∧c af c3))
 (Calls Tryz.prog 56 #[.pointer d,.pointer ((some ⟨f,0,none⟩))] t fun aw c6=>
 (∃ bs:Int,∃ bh:ByteArray,∃ bi:Int,∃ bj:Int,∃ bk:Int,∃ bl:Int,∃ bm:Int,∃ j:Sl,∃ k:Sl,(aw=.returned (.agg #[.int .i64 bs,.string bh,.int .i64 bi,.int .i64 bj,.int .i64 bk,.int .i64 bl,.int .i64 bm,.slice j.a j.len j.cap,.slice k.a k.len k.cap]))∧
 ∃ T:World,((Instr.storeAt 31 (.pointer ((some ⟨x,0,none⟩))) (.agg #[.int .i64 bs,.string bh,.int .i64 bi,.int .i64 bj,.int .i64 bk,.int .i64 bl,.int .i64 bm,.slice j.a j.len j.cap,.slice k.a k.len k.cap])).run Tryz.prog c6=.ok () T)∧
 ∃ cv:Int,∃ ck:ByteArray,∃ cl:Int,∃ cm:Int,∃ cn:Int,∃ co:Int,∃ cp:Int,∃ n:Sl,∃ o:Sl,(At (fun b=>b=T) ⟨x,0,none⟩ [.int .i64 cv,.string ck,.int .i64 cl,.int .i64 cm,.int .i64 cn,.int .i64 co,.int .i64 cp,.slice n.a n.len n.cap,.slice o.a o.len o.cap])∧
 K (.agg #[.int .i64 cv,.string ck,.int .i64 cl,.int .i64 cm,.int .i64 cn,.int .i64 co,.int .i64 cp,.slice n.a n.len n.cap,.slice o.a o.len o.cap]) T)∨
 (∃ ah:List PanicEntry,(aw=.panicked ah)∧c ah c6))) dq) c4)∨
 (∃ ad:List PanicEntry,(aq=.panicked ad)∧c ad c4)) dj) w
def sk43:Sk:=(.seq .leaf (.seq .leaf (.seq .leaf (.cut [] [] [25,26,27,28,29,30,31,32,33,34,35,36,37,38,39,40,41,42,43,44,45,46,47,48,49] .leaf (.cut [] [] [50,51,52,53,54,55,56,57,58,59,60,61,62,63] .leaf (.cut [] [] [64,65,66,67,68,69,70,71,72,73,74,75,76,77,78,79,80,81,82,83,84,85,86,87,88,89,90,91,92,93,94,95,96,97,98,99,100,101,102,103,104,105] .leaf .leaf))))))
theorem call43 (e:Option Addr) (f:Int) (g:ByteArray) (i:Int) (j:Int) (k:Int) (l:Int) (m:Nat) (n:ByteArray) (o:Int) (c:Sl) (b:Sl) (d:List PanicEntry→World→Prop) (K:Value→World→Prop) (w:World) (h:B43 e f g i j k l m n o c b d K w):GetsX Tryz.prog 43 #[.pointer e,.agg #[.int .i64 f,.string g,.int .i64 i,.int .i64 j,.int .i64 k,.int .i64 l,.float .f64 m,.string n,.int .i64 o,.slice c.a c.len c.cap,.slice b.a b.len b.cap]] w d K:=cqx (sk:=sk43) Tryz.func43 (by kernel_rfl) (by kernel_rfl) (by kernel_rfl) h
def B44 (c:Option Addr) (bn:Int) (bo:ByteArray) (bp:Int) (bq:Int) (br:Int) (bs:Int) (bt:Nat) (bu:ByteArray) (bv:Int) (C:Sl) (A:Sl) (f:List PanicEntry→World→Prop) (K:Value→World→Prop) (w:World):Prop:=
 New (.cells #[.int .i64 bn,.string bo,.int .i64 bp,.int .i64 bq,.int .i64 br,.int .i64 bs,.float .f64 bt,.string bu,.int .i64 bv,.slice C.a C.len C.cap,.slice A.a A.len A.cap] 38 (0,0)) (fun T bz=>
 New (.cells #[.int .i64 0,.string (ByteArray.mk #[]),.int .i64 0,.int .i64 0,.int .i64 0,.int .i64 0,.int .i64 0,.slice none 0 0,.slice none 0 0] 31 (0,0)) (fun U b1=>
 Drw b1 fun y b2=>
 ∃ ak:Int,(At y ⟨T,0 + 5,none⟩ [.int .i64 ak])∧
 NilP c fun bh=>
 ∃ al:Int,(At y (Addr.add bh 0) [.int .i64 al])∧
 Calls Tryz.prog 40 #[.bool (decide (ak ≥ al)),.int .i64 7] b2 fun ad t=>
 ((ad=.returned (.tuple #[]))∧
 (y t)∧
 ∃ am:Int,(At (fun b=>b=t) ⟨T,0 + 5,none⟩ [.int .i64 am])∧
 NilP c fun bi=>
 ∃ G:World,((Instr.storeAt 3 (.pointer ((some (Addr.add bi 0)))) (.int .i64 am)).run Tryz.prog t=.ok () G)∧
 NilP c fun H=>
 ∃ an:Option Nat,(At (fun b=>b=G) ⟨H.block,H.off + 3,none⟩ [.map an])∧
 Calls Tryz.prog 55 #[.map an] G fun ae bd=>
 (∃ ao:Value,(ae=.returned (ao))∧
 Calls Tryz.prog 50 #[ao] bd fun af be=>
 (∃ i:Sl,(af=.returned (.slice i.a i.len i.cap))∧
 ∃ (n:Int→World→Prop) (u:Int→World→Nat),(n 0 be)∧∀ (b3:Env) (d:Int) (e:World),n d e→
 Br (decide (d<(↑i.len:Int)))
 (Rng d i.len (NilP i.a fun bj=>
 ∃ p:Int,(At (fun b=>b=e) (Addr.add bj d.toNat) [.int .i64 p])∧
 NilP c fun I=>
 ∃ ap:Option Nat,(At (fun b=>b=e) ⟨I.block,I.off + 3,none⟩ [.map ap])∧
 ∃ q:Option Addr,(∀ b,(fun b=>b=e) b→((Instr.lookup 78 (.map ap) (.int .i64 p) false)).run Tryz.prog b=.ok (.pointer q) b)∧
 ∃ (x:Bool→World→Prop),(Drw e fun z bf=>
 NilP q fun J=>
 ∃ aq:Int,(At z ⟨J.block,J.off + 4,none⟩ [.int .i64 aq])∧
 Br (aq==1)
 (NilP q fun L=>
 ∃ ar:Int,(At z ⟨L.block,L.off + 5,none⟩ [.int .i64 ar])∧
 NilP c fun bk=>
 ∃ au:Int,(At z (Addr.add bk 0) [.int .i64 au])∧
 x (decide (ar≤au)) bf)
 (x false bf))∧
 ∀ (b4:Env) (av:Bool) (r:World),x av r→
 Br av
 (Drw r fun o b0=>
 NilP c fun M=>
 ∃ aw:Option Nat,(At o ⟨M.block,M.off + 2,none⟩ [.map aw])∧
 NilP q fun N=>
 ∃ ax:Int,(At o ⟨N.block,N.off + 1,none⟩ [.int .i64 ax])∧
 ∃ ay:Option Addr,∃ bw:Option Addr,(∀ b,o b→((Instr.lookup 77 (.map aw) (.int .i64 ax) false)).run Tryz.prog b=.ok (.agg #[.pointer ay,.pointer bw]) b)∧
 Calls Tryz.prog 115 #[.pointer ay,.int .i64 p] b0 fun ag s=>
 (∃ bx:Int,(ag=.returned (.int .i64 bx))∧
 (o s)∧
 NilP c fun O=>
 ∃ az:Option Nat,(At (fun b=>b=s) ⟨O.block,O.off + 3,none⟩ [.map az])∧
 ∃ D:World,((Builtin.delete_ #[78,3] 0 #[.map az,.int .i64 p]).run Tryz.prog s=.ok (.tuple #[]) D)∧
 (n (IntKind.i64.wrap (d + 1)) D)∧u (IntKind.i64.wrap (d + 1)) D<u d e)∨
 (∃ Z:List PanicEntry,(ag=.panicked Z)∧f Z s))
 ((n (IntKind.i64.wrap (d + 1)) r)∧u (IntKind.i64.wrap (d + 1)) r<u d e)))
 (NilP c fun Q=>
 ∃ a0:Option Nat,(At (fun b=>b=e) ⟨Q.block,Q.off + 2,none⟩ [.map a0])∧
 Calls Tryz.prog 51 #[.map a0] e fun ah bb=>
 (∃ a1:Value,(ah=.returned (a1))∧
 Calls Tryz.prog 50 #[a1] bb fun ai bc=>
 (∃ j:Sl,(ai=.returned (.slice j.a j.len j.cap))∧
 ∃ (v:Int→World→Prop) (bg:Int→World→Nat),(v 0 bc)∧∀ (b5:Env) (g:Int) (m:World),v g m→
 Br (decide (g<(↑j.len:Int)))
 (Rng g j.len (NilP j.a fun bl=>
 ∃ a2:Int,(At (fun b=>b=m) (Addr.add bl g.toNat) [.int .i64 a2])∧
 Calls Tryz.prog 114 #[.pointer c,.int .i64 a2] m fun aj E=>
 ((aj=.returned (.tuple #[]))∧
 (v (IntKind.i64.wrap (g + 1)) E)∧bg (IntKind.i64.wrap (g + 1)) E<bg g m)∨
 (∃ ac:List PanicEntry,(aj=.panicked ac)∧f ac E)))
 (NilP c fun bm=>
 ∃ a3:Int,(At (fun b=>b=m) (Addr.add bm 0) [.int .i64 a3])∧
 ∃ F:World,((Instr.storeAt 31 (.pointer ((some ⟨U,0,none⟩))) (.agg #[.int .i64 0,.string (ByteArray.mk #[]),.int .i64 0,.int .i64 0,.int .i64 0,.int .i64 0,.int .i64 a3,.slice none 0 0,.slice none 0 0])).run Tryz.prog m=.ok () F)∧
 ∃ a4:Int,∃ a5:ByteArray,∃ a6:Int,∃ a7:Int,∃ a8:Int,∃ a9:Int,∃ ba:Int,∃ k:Sl,∃ l:Sl,(At (fun b=>b=F) ⟨U,0,none⟩ [.int .i64 a4,.string a5,.int .i64 a6,.int .i64 a7,.int .i64 a8,.int .i64 a9,.int .i64 ba,.slice k.a k.len k.cap,.slice l.a l.len l.cap])∧
 K (.agg #[.int .i64 a4,.string a5,.int .i64 a6,.int .i64 a7,.int .i64 a8,.int .i64 a9,.int .i64 ba,.slice k.a k.len k.cap,.slice l.a l.len l.cap]) F))∨
 (∃ ab:List PanicEntry,(ai=.panicked ab)∧f ab bc))∨
 (∃ aa:List PanicEntry,(ah=.panicked aa)∧f aa bb)))∨
 (∃ Y:List PanicEntry,(af=.panicked Y)∧f Y be))∨
 (∃ X:List PanicEntry,(ae=.panicked X)∧f X bd))∨
 (∃ V:List PanicEntry,(ad=.panicked V)∧f V t)) bz) w
def sk44:Sk:=(.seq .leaf (.seq .leaf (.seq .leaf (.seq (.seq .leaf (.block (.loop [30] [(.int .i64)] [6,7,30,31,32,33,34,35,36,37,38,39,40,41,42,43,44,45,46,47,48,49,50,51,52,53,54,55,56,57,58,59,60,61,62,63,64,65,66,67,68,69,70,71,72,73] (.seq .leaf (.seq .leaf (.seq (.block (.seq .leaf (.seq .leaf (.cut [55] [.bool] [40,41,42,43,44,45,46,47,48,49,50,51,52,53,54,55] .leaf .leaf)))) .leaf)))))) (.seq (.seq .leaf (.block (.loop [81] [(.int .i64)] [9,81,82,83,84,85,86,87,88] .leaf))) .leaf)))))
theorem call44 (e:Option Addr) (f:Int) (g:ByteArray) (i:Int) (j:Int) (k:Int) (l:Int) (m:Nat) (n:ByteArray) (o:Int) (c:Sl) (b:Sl) (d:List PanicEntry→World→Prop) (K:Value→World→Prop) (w:World) (h:B44 e f g i j k l m n o c b d K w):GetsX Tryz.prog 44 #[.pointer e,.agg #[.int .i64 f,.string g,.int .i64 i,.int .i64 j,.int .i64 k,.int .i64 l,.float .f64 m,.string n,.int .i64 o,.slice c.a c.len c.cap,.slice b.a b.len b.cap]] w d K:=cqx (sk:=sk44) Tryz.func44 (by kernel_rfl) (by kernel_rfl) (by kernel_rfl) h
def B45 (g:Option Addr) (c:Option Addr) (ed:Int) (ee:ByteArray) (ef:Int) (eg:Int) (eh:Int) (ei:Int) (ej:Nat) (ek:ByteArray) (el:Int) (L:Sl) (J:Sl) (d:List PanicEntry→World→Prop) (K:Value→World→Prop) (w:World):Prop:=
 New (.cells #[.int .i64 ed,.string ee,.int .i64 ef,.int .i64 eg,.int .i64 eh,.int .i64 ei,.float .f64 ej,.string ek,.int .i64 el,.slice L.a L.len L.cap,.slice J.a J.len J.cap] 38 (0,0)) (fun I eo=>
 New (.cells #[.int .i64 0,.string (ByteArray.mk #[]),.int .i64 0,.int .i64 0,.int .i64 0,.int .i64 0,.int .i64 0,.slice none 0 0,.slice none 0 0] 31 (0,0)) (fun e es=>
 Drw es fun E ev=>
 NilP g fun ad=>
 ∃ ca:Option Nat,(At E ⟨ad.block,ad.off + 2,none⟩ [.map ca])∧
 NilP c fun ae=>
 ∃ cb:Int,(At E ⟨ae.block,ae.off + 1,none⟩ [.int .i64 cb])∧
 ∃ cc:Option Addr,∃ cd:Option Addr,(∀ b,E b→((Instr.lookup 77 (.map ca) (.int .i64 cb) false)).run Tryz.prog b=.ok (.agg #[.pointer cc,.pointer cd]) b)∧
 New (.cells #[.pointer none,.pointer none] 102 (0,0)) (fun C d3=>
 (E d3)∧
 ∃ f:World,((Instr.storeAt 102 (.pointer ((some ⟨C,0,none⟩))) (.agg #[.pointer cc,.pointer cd])).run Tryz.prog d3=.ok () f)∧
 NilP c fun af=>
 ∃ G:Int,(At (fun b=>b=f) ⟨af.block,af.off + 4,none⟩ [.int .i64 G])∧
 ∃ D:Int,(At (fun b=>b=f) ⟨I,0,none⟩ [.int .i64 D])∧
 Br (D==3)
 (NilP c fun ag=>
 ∃ ce:Int,(At (fun b=>b=f) ⟨ag.block,ag.off + 4,none⟩ [.int .i64 ce])∧
 Calls Tryz.prog 40 #[.bool (ce==1),.int .i64 7] f fun a1 d4=>
 ((a1=.returned (.tuple #[]))∧
 NilP c fun ah=>
 ∃ d5:World,((Instr.storeAt 3 (.pointer ((some ⟨ah.block,ah.off + 4,none⟩))) (.int .i64 2)).run Tryz.prog d4=.ok () d5)∧
 NilP c fun ai=>
 ∃ d6:World,((Instr.storeAt 3 (.pointer ((some ⟨ai.block,ai.off + 5,none⟩))) (.int .i64 0)).run Tryz.prog d5=.ok () d6)∧
 Calls Tryz.prog 56 #[.pointer g,.pointer c] d6 fun a2 d7=>
 (∃ bh:Int,∃ bi:ByteArray,∃ br:Int,∃ b1:Int,∃ b6:Int,∃ b7:Int,∃ b8:Int,∃ o:Sl,∃ p:Sl,(a2=.returned (.agg #[.int .i64 bh,.string bi,.int .i64 br,.int .i64 b1,.int .i64 b6,.int .i64 b7,.int .i64 b8,.slice o.a o.len o.cap,.slice p.a p.len p.cap]))∧
 ∃ N:World,((Instr.storeAt 31 (.pointer ((some ⟨e,0,none⟩))) (.agg #[.int .i64 bh,.string bi,.int .i64 br,.int .i64 b1,.int .i64 b6,.int .i64 b7,.int .i64 b8,.slice o.a o.len o.cap,.slice p.a p.len p.cap])).run Tryz.prog d7=.ok () N)∧
 ∃ cs:Int,∃ ct:ByteArray,∃ c2:Int,∃ db:Int,∃ dk:Int,∃ dp:Int,∃ dq:Int,∃ z:Sl,∃ A:Sl,(At (fun b=>b=N) ⟨e,0,none⟩ [.int .i64 cs,.string ct,.int .i64 c2,.int .i64 db,.int .i64 dk,.int .i64 dp,.int .i64 dq,.slice z.a z.len z.cap,.slice A.a A.len A.cap])∧
 K (.agg #[.int .i64 cs,.string ct,.int .i64 c2,.int .i64 db,.int .i64 dk,.int .i64 dp,.int .i64 dq,.slice z.a z.len z.cap,.slice A.a A.len A.cap]) N)∨
 (∃ am:List PanicEntry,(a2=.panicked am)∧d am d7))∨
 (∃ al:List PanicEntry,(a1=.panicked al)∧d al d4))
 (Br (D==4)
 (∃ (H:World→Prop),(Br (G==3)
 (Drw f fun Z ep=>
 ∃ cf:Option Addr,(At Z ⟨C,0 + 1,none⟩ [.pointer cf])∧
 NilP c fun d8=>
 ∃ cg:Int,(At Z (Addr.add d8 0) [.int .i64 cg])∧
 Calls Tryz.prog 116 #[.pointer cf,.int .i64 cg] ep fun a7 ds=>
 (∃ em:Int,(a7=.returned (.int .i64 em))∧
 H  ds)∨
 (∃ ar:List PanicEntry,(a7=.panicked ar)∧d ar ds))
 (Drw f fun aa eq=>
 ∃ ch:Option Addr,(At aa ⟨C,0,none⟩ [.pointer ch])∧
 NilP c fun d9=>
 ∃ ci:Int,(At aa (Addr.add d9 0) [.int .i64 ci])∧
 Calls Tryz.prog 115 #[.pointer ch,.int .i64 ci] eq fun a8 dt=>
 (∃ en:Int,(a8=.returned (.int .i64 en))∧
 H  dt)∨
 (∃ au:List PanicEntry,(a8=.panicked au)∧d au dt)))∧
 ∀ (ew:Env)  (du:World),H  du→
 Drw du fun ab er=>
 NilP g fun aj=>
 ∃ cj:Option Nat,(At ab ⟨aj.block,aj.off + 3,none⟩ [.map cj])∧
 NilP c fun ea=>
 ∃ ck:Int,(At ab (Addr.add ea 0) [.int .i64 ck])∧
 ∃ O:World,((Builtin.delete_ #[78,3] 0 #[.map cj,.int .i64 ck]).run Tryz.prog er=.ok (.tuple #[]) O)∧
 NilP c fun ak=>
 ∃ cl:Int,(At (fun b=>b=O) ⟨ak.block,ak.off + 1,none⟩ [.int .i64 cl])∧
 Calls Tryz.prog 114 #[.pointer g,.int .i64 cl] O fun a9 Q=>
 ((a9=.returned (.tuple #[]))∧
 ∃ cm:ByteArray,(At (fun b=>b=Q) ⟨I,0 + 1,none⟩ [.string cm])∧
 ∃ T:World,((Instr.storeAt 31 (.pointer ((some ⟨e,0,none⟩))) (.agg #[.int .i64 0,.string cm,.int .i64 0,.int .i64 0,.int .i64 0,.int .i64 0,.int .i64 0,.slice none 0 0,.slice none 0 0])).run Tryz.prog Q=.ok () T)∧
 ∃ dr:Int,∃ cu:ByteArray,∃ cv:Int,∃ cw:Int,∃ cx:Int,∃ cy:Int,∃ cz:Int,∃ q:Sl,∃ r:Sl,(At (fun b=>b=T) ⟨e,0,none⟩ [.int .i64 dr,.string cu,.int .i64 cv,.int .i64 cw,.int .i64 cx,.int .i64 cy,.int .i64 cz,.slice q.a q.len q.cap,.slice r.a r.len r.cap])∧
 K (.agg #[.int .i64 dr,.string cu,.int .i64 cv,.int .i64 cw,.int .i64 cx,.int .i64 cy,.int .i64 cz,.slice q.a q.len q.cap,.slice r.a r.len r.cap]) T)∨
 (∃ av:List PanicEntry,(a9=.panicked av)∧d av Q))
 (Br (D==5)
 (Calls Tryz.prog 40 #[.bool (!G==3),.int .i64 7] f fun ba dv=>
 ((ba=.returned (.tuple #[]))∧
 Drw dv fun F et=>
 ∃ cn:Option Addr,(At F ⟨C,0,none⟩ [.pointer cn])∧
 NilP c fun eb=>
 ∃ co:Int,(At F (Addr.add eb 0) [.int .i64 co])∧
 ∃ cp:ByteArray,(At F ⟨I,0 + 7,none⟩ [.string cp])∧
 Calls Tryz.prog 117 #[.pointer cn,.int .i64 co,.string cp] et fun bb dw=>
 (∃ cq:Int,(bb=.returned (.int .i64 cq))∧
 Calls Tryz.prog 110 #[.int .i64 cq] dw fun bc U=>
 ((bc=.returned (.tuple #[]))∧
 (F U)∧
 Calls Tryz.prog 56 #[.pointer g,.pointer c] U fun bd dx=>
 (∃ b9:Int,∃ bj:ByteArray,∃ bk:Int,∃ bl:Int,∃ bm:Int,∃ bn:Int,∃ bo:Int,∃ i:Sl,∃ j:Sl,(bd=.returned (.agg #[.int .i64 b9,.string bj,.int .i64 bk,.int .i64 bl,.int .i64 bm,.int .i64 bn,.int .i64 bo,.slice i.a i.len i.cap,.slice j.a j.len j.cap]))∧
 ∃ V:World,((Instr.storeAt 31 (.pointer ((some ⟨e,0,none⟩))) (.agg #[.int .i64 b9,.string bj,.int .i64 bk,.int .i64 bl,.int .i64 bm,.int .i64 bn,.int .i64 bo,.slice i.a i.len i.cap,.slice j.a j.len j.cap])).run Tryz.prog dx=.ok () V)∧
 ∃ c0:Int,∃ c1:ByteArray,∃ c3:Int,∃ c4:Int,∃ c5:Int,∃ c6:Int,∃ c7:Int,∃ s:Sl,∃ t:Sl,(At (fun b=>b=V) ⟨e,0,none⟩ [.int .i64 c0,.string c1,.int .i64 c3,.int .i64 c4,.int .i64 c5,.int .i64 c6,.int .i64 c7,.slice s.a s.len s.cap,.slice t.a t.len t.cap])∧
 K (.agg #[.int .i64 c0,.string c1,.int .i64 c3,.int .i64 c4,.int .i64 c5,.int .i64 c6,.int .i64 c7,.slice s.a s.len s.cap,.slice t.a t.len t.cap]) V)∨
 (∃ az:List PanicEntry,(bd=.panicked az)∧d az dx))∨
 (∃ ay:List PanicEntry,(bc=.panicked ay)∧d ay U))∨
 (∃ ax:List PanicEntry,(bb=.panicked ax)∧d ax dw))∨
 (∃ aw:List PanicEntry,(ba=.panicked aw)∧d aw dv))
 (Br (D==6)
 (Calls Tryz.prog 40 #[.bool (!G==3),.int .i64 7] f fun be dy=>
 ((be=.returned (.tuple #[]))∧
 Drw dy fun ac eu=>
 ∃ cr:Option Addr,(At ac ⟨C,0,none⟩ [.pointer cr])∧
 NilP c fun ec=>
 ∃ bf:Int,(At ac (Addr.add ec 0) [.int .i64 bf])∧
 Calls Tryz.prog 118 #[.pointer cr,.int .i64 bf] eu fun a3 dz=>
 (∃ M:Sl,∃ bg:Int,(a3=.returned (.tuple #[.slice M.a M.len M.cap,.int .i64 bg]))∧
 Calls Tryz.prog 110 #[.int .i64 bg] dz fun a4 d0=>
 ((a4=.returned (.tuple #[]))∧
 Calls Tryz.prog 56 #[.pointer g,.pointer c] d0 fun a5 d1=>
 (∃ bp:Int,∃ bq:ByteArray,∃ bs:Int,∃ bt:Int,∃ bu:Int,∃ bv:Int,∃ bw:Int,∃ k:Sl,∃ l:Sl,(a5=.returned (.agg #[.int .i64 bp,.string bq,.int .i64 bs,.int .i64 bt,.int .i64 bu,.int .i64 bv,.int .i64 bw,.slice k.a k.len k.cap,.slice l.a l.len l.cap]))∧
 ∃ X:World,((Instr.storeAt 31 (.pointer ((some ⟨e,0,none⟩))) (.agg #[.int .i64 bp,.string bq,.int .i64 bs,.int .i64 bt,.int .i64 bu,.int .i64 bv,.int .i64 bw,.slice k.a k.len k.cap,.slice l.a l.len l.cap])).run Tryz.prog d1=.ok () X)∧
 ∃ c8:Int,∃ c9:ByteArray,∃ da:Int,∃ dc:Int,∃ dd:Int,∃ de:Int,∃ df:Int,∃ u:Sl,∃ v:Sl,(At (fun b=>b=X) ⟨e,0,none⟩ [.int .i64 c8,.string c9,.int .i64 da,.int .i64 dc,.int .i64 dd,.int .i64 de,.int .i64 df,.slice u.a u.len u.cap,.slice v.a v.len v.cap])∧
 K (.agg #[.int .i64 c8,.string c9,.int .i64 da,.int .i64 dc,.int .i64 dd,.int .i64 de,.int .i64 df,.slice u.a u.len u.cap,.slice v.a v.len v.cap]) X)∨
 (∃ ap:List PanicEntry,(a5=.panicked ap)∧d ap d1))∨
 (∃ ao:List PanicEntry,(a4=.panicked ao)∧d ao d0))∨
 (∃ an:List PanicEntry,(a3=.panicked an)∧d an dz))∨
 (∃ a0:List PanicEntry,(be=.panicked a0)∧d a0 dy))
 (Calls Tryz.prog 56 #[.pointer g,.pointer c] f fun a6 d2=>
 (∃ bx:Int,∃ bz:ByteArray,∃ b0:Int,∃ b2:Int,∃ b3:Int,∃ b4:Int,∃ b5:Int,∃ m:Sl,∃ n:Sl,(a6=.returned (.agg #[.int .i64 bx,.string bz,.int .i64 b0,.int .i64 b2,.int .i64 b3,.int .i64 b4,.int .i64 b5,.slice m.a m.len m.cap,.slice n.a n.len n.cap]))∧
 ∃ Y:World,((Instr.storeAt 31 (.pointer ((some ⟨e,0,none⟩))) (.agg #[.int .i64 bx,.string bz,.int .i64 b0,.int .i64 b2,.int .i64 b3,.int .i64 b4,.int .i64 b5,.slice m.a m.len m.cap,.slice n.a n.len n.cap])).run Tryz.prog d2=.ok () Y)∧
 ∃ dg:Int,∃ dh:ByteArray,∃ di:Int,∃ dj:Int,∃ dl:Int,∃ dm:Int,∃ dn:Int,∃ x:Sl,∃ y:Sl,(At (fun b=>b=Y) ⟨e,0,none⟩ [.int .i64 dg,.string dh,.int .i64 di,.int .i64 dj,.int .i64 dl,.int .i64 dm,.int .i64 dn,.slice x.a x.len x.cap,.slice y.a y.len y.cap])∧
 K (.agg #[.int .i64 dg,.string dh,.int .i64 di,.int .i64 dj,.int .i64 dl,.int .i64 dm,.int .i64 dn,.slice x.a x.len x.cap,.slice y.a y.len y.cap]) Y)∨
 (∃ aq:List PanicEntry,(a6=.panicked aq)∧d aq d2)))))) ev) eo) w
def sk45:Sk:=(.seq .leaf (.seq .leaf (.seq .leaf (.seq (.seq .leaf (.block (.seq .leaf (.cond .leaf (.seq .leaf (.cond (.cut [] [] [43,44,45,46,47,48,49,50,51,52,53,54,55,56,57] .leaf .leaf) .leaf)))))) .leaf))))
theorem call45 (e:Option Addr) (p:Option Addr) (f:Int) (g:ByteArray) (i:Int) (j:Int) (k:Int) (l:Int) (m:Nat) (n:ByteArray) (o:Int) (c:Sl) (b:Sl) (d:List PanicEntry→World→Prop) (K:Value→World→Prop) (w:World) (h:B45 e p f g i j k l m n o c b d K w):GetsX Tryz.prog 45 #[.pointer e,.pointer p,.agg #[.int .i64 f,.string g,.int .i64 i,.int .i64 j,.int .i64 k,.int .i64 l,.float .f64 m,.string n,.int .i64 o,.slice c.a c.len c.cap,.slice b.a b.len b.cap]] w d K:=cqx (sk:=sk45) Tryz.func45 (by kernel_rfl) (by kernel_rfl) (by kernel_rfl) h
def B15 (g:Option Addr) (g4:Int) (g5:ByteArray) (g6:Int) (g7:Int) (g8:Int) (g9:Int) (ha:Nat) (hb:ByteArray) (hc:Int) (ap:Sl) (ao:Sl) (K:Value→World→Prop) (w:World):Prop:=
 New (.cells #[.int .i64 g4,.string g5,.int .i64 g6,.int .i64 g7,.int .i64 g8,.int .i64 g9,.float .f64 ha,.string hb,.int .i64 hc,.slice ap.a ap.len ap.cap,.slice ao.a ao.len ao.cap] 38 (0,0)) (fun d hd=>
 New (.cells #[.int .i64 0,.string (ByteArray.mk #[]),.int .i64 0,.int .i64 0,.int .i64 0,.int .i64 0,.int .i64 0,.slice none 0 0,.slice none 0 0] 31 (0,0)) (fun c gq=>
 ∃ dm:Int,∃ dn:ByteArray,∃ dp:Int,∃ dq:Int,∃ dr:Int,∃ ds:Int,∃ dt:Nat,∃ du:ByteArray,∃ dv:Int,∃ F:Sl,∃ E:Sl,(At (fun b=>b=gq) ⟨d,0,none⟩ [.int .i64 dm,.string dn,.int .i64 dp,.int .i64 dq,.int .i64 dr,.int .i64 ds,.float .f64 dt,.string du,.int .i64 dv,.slice F.a F.len F.cap,.slice E.a E.len E.cap])∧
 Calls Tryz.prog 41 #[.agg #[.int .i64 dm,.string dn,.int .i64 dp,.int .i64 dq,.int .i64 dr,.int .i64 ds,.float .f64 dt,.string du,.int .i64 dv,.slice F.a F.len F.cap,.slice E.a E.len E.cap]] gq fun a2 gy=>
 (∃ dw:Bool,(a2=.returned (.bool dw))∧
 Calls Tryz.prog 40 #[.bool dw,.int .i64 1] gy fun a3 al=>
 ((a3=.returned (.tuple #[]))∧
 ∃ f:Int,(At (fun b=>b=al) ⟨d,0,none⟩ [.int .i64 f])∧
 Br (f==1)
 (∃ ba:Int,∃ bb:ByteArray,∃ bc:Int,∃ bd:Int,∃ be:Int,∃ bf:Int,∃ bg:Nat,∃ bh:ByteArray,∃ bi:Int,∃ j:Sl,∃ i:Sl,(At (fun b=>b=al) ⟨d,0,none⟩ [.int .i64 ba,.string bb,.int .i64 bc,.int .i64 bd,.int .i64 be,.int .i64 bf,.float .f64 bg,.string bh,.int .i64 bi,.slice j.a j.len j.cap,.slice i.a i.len i.cap])∧
 Calls Tryz.prog 42 #[.pointer g,.agg #[.int .i64 ba,.string bb,.int .i64 bc,.int .i64 bd,.int .i64 be,.int .i64 bf,.float .f64 bg,.string bh,.int .i64 bi,.slice j.a j.len j.cap,.slice i.a i.len i.cap]] al fun a4 g0=>
 (∃ bj:Int,∃ bk:ByteArray,∃ bl:Int,∃ bm:Int,∃ bn:Int,∃ bo:Int,∃ bp:Int,∃ k:Sl,∃ l:Sl,(a4=.returned (.agg #[.int .i64 bj,.string bk,.int .i64 bl,.int .i64 bm,.int .i64 bn,.int .i64 bo,.int .i64 bp,.slice k.a k.len k.cap,.slice l.a l.len l.cap]))∧
 ∃ g1:World,((Instr.storeAt 31 (.pointer ((some ⟨c,0,none⟩))) (.agg #[.int .i64 bj,.string bk,.int .i64 bl,.int .i64 bm,.int .i64 bn,.int .i64 bo,.int .i64 bp,.slice k.a k.len k.cap,.slice l.a l.len l.cap])).run Tryz.prog g0=.ok () g1)∧
 LeaveF Tryz.prog 39 [.pointer ((some ⟨c,0,none⟩))] .returning (fun g2=>∃ dx:Int,∃ dy:ByteArray,∃ ek:Int,∃ et:Int,∃ e2:Int,∃ fb:Int,∃ fk:Int,∃ ab:Sl,∃ af:Sl,(At (fun b=>b=g2) ⟨c,0,none⟩ [.int .i64 dx,.string dy,.int .i64 ek,.int .i64 et,.int .i64 e2,.int .i64 fb,.int .i64 fk,.slice ab.a ab.len ab.cap,.slice af.a af.len af.cap])∧
 K (.agg #[.int .i64 dx,.string dy,.int .i64 ek,.int .i64 et,.int .i64 e2,.int .i64 fb,.int .i64 fk,.slice ab.a ab.len ab.cap,.slice af.a af.len af.cap]) g2) g1)∨
 (∃ aw:List PanicEntry,(a4=.panicked aw)∧LeaveF Tryz.prog 39 [.pointer ((some ⟨c,0,none⟩))] (.panicking aw) (fun g3=>∃ f7:Int,∃ dz:ByteArray,∃ d8:Int,∃ ee:Int,∃ ef:Int,∃ eg:Int,∃ eh:Int,∃ L:Sl,∃ M:Sl,(At (fun b=>b=g3) ⟨c,0,none⟩ [.int .i64 f7,.string dz,.int .i64 d8,.int .i64 ee,.int .i64 ef,.int .i64 eg,.int .i64 eh,.slice L.a L.len L.cap,.slice M.a M.len M.cap])∧
 K (.agg #[.int .i64 f7,.string dz,.int .i64 d8,.int .i64 ee,.int .i64 ef,.int .i64 eg,.int .i64 eh,.slice L.a L.len L.cap,.slice M.a M.len M.cap]) g3) g0))
 (∃ (an:Bool→World→Prop),(Br (f==2)
 (an (f==2) al)
 (an (f==7) al))∧
 ∀ (hf:Env) (bq:Bool) (e:World),an bq e→
 Br bq
 (∃ br:Int,∃ bs:ByteArray,∃ bt:Int,∃ bu:Int,∃ bv:Int,∃ bw:Int,∃ bx:Nat,∃ bz:ByteArray,∃ b0:Int,∃ n:Sl,∃ m:Sl,(At (fun b=>b=e) ⟨d,0,none⟩ [.int .i64 br,.string bs,.int .i64 bt,.int .i64 bu,.int .i64 bv,.int .i64 bw,.float .f64 bx,.string bz,.int .i64 b0,.slice n.a n.len n.cap,.slice m.a m.len m.cap])∧
 Calls Tryz.prog 43 #[.pointer g,.agg #[.int .i64 br,.string bs,.int .i64 bt,.int .i64 bu,.int .i64 bv,.int .i64 bw,.float .f64 bx,.string bz,.int .i64 b0,.slice n.a n.len n.cap,.slice m.a m.len m.cap]] e fun a5 gg=>
 (∃ b1:Int,∃ b2:ByteArray,∃ b3:Int,∃ b4:Int,∃ b5:Int,∃ b6:Int,∃ b7:Int,∃ o:Sl,∃ p:Sl,(a5=.returned (.agg #[.int .i64 b1,.string b2,.int .i64 b3,.int .i64 b4,.int .i64 b5,.int .i64 b6,.int .i64 b7,.slice o.a o.len o.cap,.slice p.a p.len p.cap]))∧
 ∃ gh:World,((Instr.storeAt 31 (.pointer ((some ⟨c,0,none⟩))) (.agg #[.int .i64 b1,.string b2,.int .i64 b3,.int .i64 b4,.int .i64 b5,.int .i64 b6,.int .i64 b7,.slice o.a o.len o.cap,.slice p.a p.len p.cap])).run Tryz.prog gg=.ok () gh)∧
 LeaveF Tryz.prog 39 [.pointer ((some ⟨c,0,none⟩))] .returning (fun gi=>∃ ei:Int,∃ ej:ByteArray,∃ el:Int,∃ em:Int,∃ en:Int,∃ eo:Int,∃ ep:Int,∃ N:Sl,∃ O:Sl,(At (fun b=>b=gi) ⟨c,0,none⟩ [.int .i64 ei,.string ej,.int .i64 el,.int .i64 em,.int .i64 en,.int .i64 eo,.int .i64 ep,.slice N.a N.len N.cap,.slice O.a O.len O.cap])∧
 K (.agg #[.int .i64 ei,.string ej,.int .i64 el,.int .i64 em,.int .i64 en,.int .i64 eo,.int .i64 ep,.slice N.a N.len N.cap,.slice O.a O.len O.cap]) gi) gh)∨
 (∃ ax:List PanicEntry,(a5=.panicked ax)∧LeaveF Tryz.prog 39 [.pointer ((some ⟨c,0,none⟩))] (.panicking ax) (fun gj=>∃ eq:Int,∃ er:ByteArray,∃ es:Int,∃ eu:Int,∃ ev:Int,∃ ew:Int,∃ ex:Int,∃ Q:Sl,∃ T:Sl,(At (fun b=>b=gj) ⟨c,0,none⟩ [.int .i64 eq,.string er,.int .i64 es,.int .i64 eu,.int .i64 ev,.int .i64 ew,.int .i64 ex,.slice Q.a Q.len Q.cap,.slice T.a T.len T.cap])∧
 K (.agg #[.int .i64 eq,.string er,.int .i64 es,.int .i64 eu,.int .i64 ev,.int .i64 ew,.int .i64 ex,.slice Q.a Q.len Q.cap,.slice T.a T.len T.cap]) gj) gg))
 (Br (f==8)
 (∃ b8:Int,∃ b9:ByteArray,∃ ca:Int,∃ cb:Int,∃ cc:Int,∃ cd:Int,∃ ce:Nat,∃ cf:ByteArray,∃ cg:Int,∃ r:Sl,∃ q:Sl,(At (fun b=>b=e) ⟨d,0,none⟩ [.int .i64 b8,.string b9,.int .i64 ca,.int .i64 cb,.int .i64 cc,.int .i64 cd,.float .f64 ce,.string cf,.int .i64 cg,.slice r.a r.len r.cap,.slice q.a q.len q.cap])∧
 Calls Tryz.prog 44 #[.pointer g,.agg #[.int .i64 b8,.string b9,.int .i64 ca,.int .i64 cb,.int .i64 cc,.int .i64 cd,.float .f64 ce,.string cf,.int .i64 cg,.slice r.a r.len r.cap,.slice q.a q.len q.cap]] e fun a6 gk=>
 (∃ ch:Int,∃ ci:ByteArray,∃ cj:Int,∃ ck:Int,∃ cl:Int,∃ cm:Int,∃ cn:Int,∃ s:Sl,∃ t:Sl,(a6=.returned (.agg #[.int .i64 ch,.string ci,.int .i64 cj,.int .i64 ck,.int .i64 cl,.int .i64 cm,.int .i64 cn,.slice s.a s.len s.cap,.slice t.a t.len t.cap]))∧
 ∃ gl:World,((Instr.storeAt 31 (.pointer ((some ⟨c,0,none⟩))) (.agg #[.int .i64 ch,.string ci,.int .i64 cj,.int .i64 ck,.int .i64 cl,.int .i64 cm,.int .i64 cn,.slice s.a s.len s.cap,.slice t.a t.len t.cap])).run Tryz.prog gk=.ok () gl)∧
 LeaveF Tryz.prog 39 [.pointer ((some ⟨c,0,none⟩))] .returning (fun gm=>∃ ey:Int,∃ ez:ByteArray,∃ e0:Int,∃ e1:Int,∃ e3:Int,∃ e4:Int,∃ e5:Int,∃ U:Sl,∃ V:Sl,(At (fun b=>b=gm) ⟨c,0,none⟩ [.int .i64 ey,.string ez,.int .i64 e0,.int .i64 e1,.int .i64 e3,.int .i64 e4,.int .i64 e5,.slice U.a U.len U.cap,.slice V.a V.len V.cap])∧
 K (.agg #[.int .i64 ey,.string ez,.int .i64 e0,.int .i64 e1,.int .i64 e3,.int .i64 e4,.int .i64 e5,.slice U.a U.len U.cap,.slice V.a V.len V.cap]) gm) gl)∨
 (∃ ay:List PanicEntry,(a6=.panicked ay)∧LeaveF Tryz.prog 39 [.pointer ((some ⟨c,0,none⟩))] (.panicking ay) (fun gn=>∃ e6:Int,∃ e7:ByteArray,∃ e8:Int,∃ e9:Int,∃ fa:Int,∃ fc:Int,∃ fd:Int,∃ X:Sl,∃ Y:Sl,(At (fun b=>b=gn) ⟨c,0,none⟩ [.int .i64 e6,.string e7,.int .i64 e8,.int .i64 e9,.int .i64 fa,.int .i64 fc,.int .i64 fd,.slice X.a X.len X.cap,.slice Y.a Y.len Y.cap])∧
 K (.agg #[.int .i64 e6,.string e7,.int .i64 e8,.int .i64 e9,.int .i64 fa,.int .i64 fc,.int .i64 fd,.slice X.a X.len X.cap,.slice Y.a Y.len Y.cap]) gn) gk))
 (Br (f==9)
 (∃ co:Int,∃ cp:ByteArray,∃ cq:Int,∃ cr:Int,∃ cs:Int,∃ ct:Int,∃ cu:Nat,∃ cv:ByteArray,∃ cw:Int,∃ v:Sl,∃ u:Sl,(At (fun b=>b=e) ⟨d,0,none⟩ [.int .i64 co,.string cp,.int .i64 cq,.int .i64 cr,.int .i64 cs,.int .i64 ct,.float .f64 cu,.string cv,.int .i64 cw,.slice v.a v.len v.cap,.slice u.a u.len u.cap])∧
 Calls Tryz.prog 19 #[.pointer g,.agg #[.int .i64 co,.string cp,.int .i64 cq,.int .i64 cr,.int .i64 cs,.int .i64 ct,.float .f64 cu,.string cv,.int .i64 cw,.slice v.a v.len v.cap,.slice u.a u.len u.cap]] e fun a7 go=>
 (∃ cx:Int,∃ cy:ByteArray,∃ cz:Int,∃ c0:Int,∃ c1:Int,∃ c2:Int,∃ c3:Int,∃ x:Sl,∃ y:Sl,(a7=.returned (.agg #[.int .i64 cx,.string cy,.int .i64 cz,.int .i64 c0,.int .i64 c1,.int .i64 c2,.int .i64 c3,.slice x.a x.len x.cap,.slice y.a y.len y.cap]))∧
 ∃ gp:World,((Instr.storeAt 31 (.pointer ((some ⟨c,0,none⟩))) (.agg #[.int .i64 cx,.string cy,.int .i64 cz,.int .i64 c0,.int .i64 c1,.int .i64 c2,.int .i64 c3,.slice x.a x.len x.cap,.slice y.a y.len y.cap])).run Tryz.prog go=.ok () gp)∧
 LeaveF Tryz.prog 39 [.pointer ((some ⟨c,0,none⟩))] .returning (fun gr=>∃ fe:Int,∃ ff:ByteArray,∃ fg:Int,∃ fh:Int,∃ fi:Int,∃ fj:Int,∃ fl:Int,∃ Z:Sl,∃ aa:Sl,(At (fun b=>b=gr) ⟨c,0,none⟩ [.int .i64 fe,.string ff,.int .i64 fg,.int .i64 fh,.int .i64 fi,.int .i64 fj,.int .i64 fl,.slice Z.a Z.len Z.cap,.slice aa.a aa.len aa.cap])∧
 K (.agg #[.int .i64 fe,.string ff,.int .i64 fg,.int .i64 fh,.int .i64 fi,.int .i64 fj,.int .i64 fl,.slice Z.a Z.len Z.cap,.slice aa.a aa.len aa.cap]) gr) gp)∨
 (∃ az:List PanicEntry,(a7=.panicked az)∧LeaveF Tryz.prog 39 [.pointer ((some ⟨c,0,none⟩))] (.panicking az) (fun gs=>∃ fm:Int,∃ fn:ByteArray,∃ fo:Int,∃ fp:Int,∃ fq:Int,∃ fr:Int,∃ fs:Int,∃ ac:Sl,∃ ad:Sl,(At (fun b=>b=gs) ⟨c,0,none⟩ [.int .i64 fm,.string fn,.int .i64 fo,.int .i64 fp,.int .i64 fq,.int .i64 fr,.int .i64 fs,.slice ac.a ac.len ac.cap,.slice ad.a ad.len ad.cap])∧
 K (.agg #[.int .i64 fm,.string fn,.int .i64 fo,.int .i64 fp,.int .i64 fq,.int .i64 fr,.int .i64 fs,.slice ac.a ac.len ac.cap,.slice ad.a ad.len ad.cap]) gs) go))
 (Drw e fun am he=>
 ∃ c4:ByteArray,(At am ⟨d,0 + 1,none⟩ [.string c4])∧
 ∃ c6:Int,∃ c7:ByteArray,∃ c8:Int,∃ c9:Int,∃ da:Int,∃ db:Int,∃ dc:Nat,∃ dd:ByteArray,∃ de:Int,∃ A:Sl,∃ z:Sl,(At am ⟨d,0,none⟩ [.int .i64 c6,.string c7,.int .i64 c8,.int .i64 c9,.int .i64 da,.int .i64 db,.float .f64 dc,.string dd,.int .i64 de,.slice A.a A.len A.cap,.slice z.a z.len z.cap])∧
 Calls Tryz.prog 46 #[.pointer g,.string c4] he fun a8 aq=>
 (∃ c5:Option Addr,(a8=.returned (.pointer c5))∧
 (am aq)∧
 Calls Tryz.prog 45 #[.pointer g,.pointer c5,.agg #[.int .i64 c6,.string c7,.int .i64 c8,.int .i64 c9,.int .i64 da,.int .i64 db,.float .f64 dc,.string dd,.int .i64 de,.slice A.a A.len A.cap,.slice z.a z.len z.cap]] aq fun a9 ar=>
 (∃ df:Int,∃ dg:ByteArray,∃ dh:Int,∃ di:Int,∃ dj:Int,∃ dk:Int,∃ dl:Int,∃ C:Sl,∃ D:Sl,(a9=.returned (.agg #[.int .i64 df,.string dg,.int .i64 dh,.int .i64 di,.int .i64 dj,.int .i64 dk,.int .i64 dl,.slice C.a C.len C.cap,.slice D.a D.len D.cap]))∧
 (am ar)∧
 ∃ gt:World,((Instr.storeAt 31 (.pointer ((some ⟨c,0,none⟩))) (.agg #[.int .i64 df,.string dg,.int .i64 dh,.int .i64 di,.int .i64 dj,.int .i64 dk,.int .i64 dl,.slice C.a C.len C.cap,.slice D.a D.len D.cap])).run Tryz.prog ar=.ok () gt)∧
 LeaveF Tryz.prog 39 [.pointer ((some ⟨c,0,none⟩))] .returning (fun gu=>∃ ft:Int,∃ fu:ByteArray,∃ fv:Int,∃ fw:Int,∃ fx:Int,∃ fy:Int,∃ fz:Int,∃ ae:Sl,∃ ag:Sl,(At (fun b=>b=gu) ⟨c,0,none⟩ [.int .i64 ft,.string fu,.int .i64 fv,.int .i64 fw,.int .i64 fx,.int .i64 fy,.int .i64 fz,.slice ae.a ae.len ae.cap,.slice ag.a ag.len ag.cap])∧
 K (.agg #[.int .i64 ft,.string fu,.int .i64 fv,.int .i64 fw,.int .i64 fx,.int .i64 fy,.int .i64 fz,.slice ae.a ae.len ae.cap,.slice ag.a ag.len ag.cap]) gu) gt)∨
 (∃ a1:List PanicEntry,(a9=.panicked a1)∧LeaveF Tryz.prog 39 [.pointer ((some ⟨c,0,none⟩))] (.panicking a1) (fun gv=>∃ f0:Int,∃ f1:ByteArray,∃ f2:Int,∃ f3:Int,∃ f4:Int,∃ f5:Int,∃ f6:Int,∃ ah:Sl,∃ ai:Sl,(At (fun b=>b=gv) ⟨c,0,none⟩ [.int .i64 f0,.string f1,.int .i64 f2,.int .i64 f3,.int .i64 f4,.int .i64 f5,.int .i64 f6,.slice ah.a ah.len ah.cap,.slice ai.a ai.len ai.cap])∧
 K (.agg #[.int .i64 f0,.string f1,.int .i64 f2,.int .i64 f3,.int .i64 f4,.int .i64 f5,.int .i64 f6,.slice ah.a ah.len ah.cap,.slice ai.a ai.len ai.cap]) gv) ar))∨
 (∃ a0:List PanicEntry,(a8=.panicked a0)∧LeaveF Tryz.prog 39 [.pointer ((some ⟨c,0,none⟩))] (.panicking a0) (fun gw=>∃ f8:Int,∃ f9:ByteArray,∃ ga:Int,∃ gb:Int,∃ gc:Int,∃ gd:Int,∃ ge:Int,∃ aj:Sl,∃ ak:Sl,(At (fun b=>b=gw) ⟨c,0,none⟩ [.int .i64 f8,.string f9,.int .i64 ga,.int .i64 gb,.int .i64 gc,.int .i64 gd,.int .i64 ge,.slice aj.a aj.len aj.cap,.slice ak.a ak.len ak.cap])∧
 K (.agg #[.int .i64 f8,.string f9,.int .i64 ga,.int .i64 gb,.int .i64 gc,.int .i64 gd,.int .i64 ge,.slice aj.a aj.len aj.cap,.slice ak.a ak.len ak.cap]) gw) aq))))))∨
 (∃ av:List PanicEntry,(a3=.panicked av)∧LeaveF Tryz.prog 39 [.pointer ((some ⟨c,0,none⟩))] (.panicking av) (fun gx=>∃ gf:Int,∃ d0:ByteArray,∃ d1:Int,∃ d2:Int,∃ d3:Int,∃ d4:Int,∃ d5:Int,∃ G:Sl,∃ H:Sl,(At (fun b=>b=gx) ⟨c,0,none⟩ [.int .i64 gf,.string d0,.int .i64 d1,.int .i64 d2,.int .i64 d3,.int .i64 d4,.int .i64 d5,.slice G.a G.len G.cap,.slice H.a H.len H.cap])∧
 K (.agg #[.int .i64 gf,.string d0,.int .i64 d1,.int .i64 d2,.int .i64 d3,.int .i64 d4,.int .i64 d5,.slice G.a G.len G.cap,.slice H.a H.len H.cap]) gx) al))∨
 (∃ au:List PanicEntry,(a2=.panicked au)∧LeaveF Tryz.prog 39 [.pointer ((some ⟨c,0,none⟩))] (.panicking au) (fun gz=>∃ d6:Int,∃ d7:ByteArray,∃ d9:Int,∃ ea:Int,∃ eb:Int,∃ ec:Int,∃ ed:Int,∃ I:Sl,∃ J:Sl,(At (fun b=>b=gz) ⟨c,0,none⟩ [.int .i64 d6,.string d7,.int .i64 d9,.int .i64 ea,.int .i64 eb,.int .i64 ec,.int .i64 ed,.slice I.a I.len I.cap,.slice J.a J.len J.cap])∧
 K (.agg #[.int .i64 d6,.string d7,.int .i64 d9,.int .i64 ea,.int .i64 eb,.int .i64 ec,.int .i64 ed,.slice I.a I.len I.cap,.slice J.a J.len J.cap]) gz) gy)) hd) w
def sk15:Sk:=(.seq .leaf (.seq (.seq .leaf (.block (.seq .leaf (.cond .leaf (.cut [15] [.bool] [15,16,17] .leaf .leaf))))) .leaf))
theorem call15 (d:Option Addr) (e:Int) (f:ByteArray) (g:Int) (i:Int) (j:Int) (k:Int) (l:Nat) (m:ByteArray) (n:Int) (c:Sl) (b:Sl) (K:Value→World→Prop) (w:World) (h:B15 d e f g i j k l m n c b K w):Gets Tryz.prog 15 #[.pointer d,.agg #[.int .i64 e,.string f,.int .i64 g,.int .i64 i,.int .i64 j,.int .i64 k,.float .f64 l,.string m,.int .i64 n,.slice c.a c.len c.cap,.slice b.a b.len b.cap]] w K:=cqd (sk:=sk15) Tryz.func15 (by kernel_rfl) (by kernel_rfl) (by kernel_rfl) h
def B19 (M:Option Addr) (dy:Int) (dz:ByteArray) (d0:Int) (d1:Int) (d2:Int) (d3:Int) (d4:Nat) (d5:ByteArray) (d6:Int) (Q:Sl) (O:Sl) (K:Value→World→Prop) (w:World):Prop:=
 New (.cells #[.int .i64 dy,.string dz,.int .i64 d0,.int .i64 d1,.int .i64 d2,.int .i64 d3,.float .f64 d4,.string d5,.int .i64 d6,.slice Q.a Q.len Q.cap,.slice O.a O.len O.cap] 38 (0,0)) (fun d d7=>
 New (.cells #[.int .i64 0,.string (ByteArray.mk #[]),.int .i64 0,.int .i64 0,.int .i64 0,.int .i64 0,.int .i64 0,.slice none 0 0,.slice none 0 0] 31 (0,0)) (fun c dm=>
 ∃ (L:World→Prop),(∃ bq:Int,∃ br:ByteArray,∃ bs:Int,∃ bt:Int,∃ bu:Int,∃ bv:Int,∃ bw:Nat,∃ bx:ByteArray,∃ bz:Int,∃ p:Sl,∃ o:Sl,(At (fun b=>b=dm) ⟨d,0,none⟩ [.int .i64 bq,.string br,.int .i64 bs,.int .i64 bt,.int .i64 bu,.int .i64 bv,.float .f64 bw,.string bx,.int .i64 bz,.slice p.a p.len p.cap,.slice o.a o.len o.cap])∧
 Calls Tryz.prog 41 #[.agg #[.int .i64 bq,.string br,.int .i64 bs,.int .i64 bt,.int .i64 bu,.int .i64 bv,.float .f64 bw,.string bx,.int .i64 bz,.slice p.a p.len p.cap,.slice o.a o.len o.cap]] dm fun ae J=>
 (∃ b0:Bool,(ae=.returned (.bool b0))∧
 Br b0
 (∃ am:Int,(At (fun b=>b=J) ⟨d,0,none⟩ [.int .i64 am])∧
 Calls Tryz.prog 40 #[.bool (am==9),.int .i64 1] J fun af dt=>
 ((af=.returned (.tuple #[]))∧
 L  dt)∨
 (∃ X:List PanicEntry,(af=.panicked X)∧LeaveF Tryz.prog 39 [.pointer ((some ⟨c,0,none⟩))] (.panicking X) (fun du=>∃ an:Int,∃ ao:ByteArray,∃ az:Int,∃ a5:Int,∃ a6:Int,∃ a7:Int,∃ a8:Int,∃ j:Sl,∃ k:Sl,(At (fun b=>b=du) ⟨c,0,none⟩ [.int .i64 an,.string ao,.int .i64 az,.int .i64 a5,.int .i64 a6,.int .i64 a7,.int .i64 a8,.slice j.a j.len j.cap,.slice k.a k.len k.cap])∧
 K (.agg #[.int .i64 an,.string ao,.int .i64 az,.int .i64 a5,.int .i64 a6,.int .i64 a7,.int .i64 a8,.slice j.a j.len j.cap,.slice k.a k.len k.cap]) du) dt))
 (Calls Tryz.prog 40 #[.bool false,.int .i64 1] J fun ag dv=>
 ((ag=.returned (.tuple #[]))∧
 L  dv)∨
 (∃ Y:List PanicEntry,(ag=.panicked Y)∧LeaveF Tryz.prog 39 [.pointer ((some ⟨c,0,none⟩))] (.panicking Y) (fun dw=>∃ a9:Int,∃ ap:ByteArray,∃ aq:Int,∃ ar:Int,∃ au:Int,∃ av:Int,∃ aw:Int,∃ e:Sl,∃ f:Sl,(At (fun b=>b=dw) ⟨c,0,none⟩ [.int .i64 a9,.string ap,.int .i64 aq,.int .i64 ar,.int .i64 au,.int .i64 av,.int .i64 aw,.slice e.a e.len e.cap,.slice f.a f.len f.cap])∧
 K (.agg #[.int .i64 a9,.string ap,.int .i64 aq,.int .i64 ar,.int .i64 au,.int .i64 av,.int .i64 aw,.slice e.a e.len e.cap,.slice f.a f.len f.cap]) dw) dv)))∨
 (∃ V:List PanicEntry,(ae=.panicked V)∧LeaveF Tryz.prog 39 [.pointer ((some ⟨c,0,none⟩))] (.panicking V) (fun dx=>∃ ax:Int,∃ ay:ByteArray,∃ a0:Int,∃ a1:Int,∃ a2:Int,∃ a3:Int,∃ a4:Int,∃ g:Sl,∃ i:Sl,(At (fun b=>b=dx) ⟨c,0,none⟩ [.int .i64 ax,.string ay,.int .i64 a0,.int .i64 a1,.int .i64 a2,.int .i64 a3,.int .i64 a4,.slice g.a g.len g.cap,.slice i.a i.len i.cap])∧
 K (.agg #[.int .i64 ax,.string ay,.int .i64 a0,.int .i64 a1,.int .i64 a2,.int .i64 a3,.int .i64 a4,.slice g.a g.len g.cap,.slice i.a i.len i.cap]) dx) J))∧
 ∀ (ea:Env)  (G:World),L  G→
 ∃ ba:ByteArray,(At (fun b=>b=G) ⟨d,0 + 1,none⟩ [.string ba])∧
 Br (!ba.toList==(ByteArray.mk #[]).toList)
 (∃ bb:ByteArray,(At (fun b=>b=G) ⟨d,0 + 1,none⟩ [.string bb])∧
 Calls Tryz.prog 46 #[.pointer M,.string bb] G fun ah de=>
 (∃ bc:Option Addr,(ah=.returned (.pointer bc))∧
 Calls Tryz.prog 56 #[.pointer M,.pointer bc] de fun ai df=>
 (∃ bd:Int,∃ be:ByteArray,∃ bf:Int,∃ bg:Int,∃ bh:Int,∃ bi:Int,∃ bj:Int,∃ l:Sl,∃ m:Sl,(ai=.returned (.agg #[.int .i64 bd,.string be,.int .i64 bf,.int .i64 bg,.int .i64 bh,.int .i64 bi,.int .i64 bj,.slice l.a l.len l.cap,.slice m.a m.len m.cap]))∧
 ∃ dg:World,((Instr.storeAt 31 (.pointer ((some ⟨c,0,none⟩))) (.agg #[.int .i64 bd,.string be,.int .i64 bf,.int .i64 bg,.int .i64 bh,.int .i64 bi,.int .i64 bj,.slice l.a l.len l.cap,.slice m.a m.len m.cap])).run Tryz.prog df=.ok () dg)∧
 LeaveF Tryz.prog 39 [.pointer ((some ⟨c,0,none⟩))] .returning (fun dh=>∃ b1:Int,∃ b2:ByteArray,∃ cb:Int,∃ ck:Int,∃ ct:Int,∃ c2:Int,∃ db:Int,∃ E:Sl,∃ F:Sl,(At (fun b=>b=dh) ⟨c,0,none⟩ [.int .i64 b1,.string b2,.int .i64 cb,.int .i64 ck,.int .i64 ct,.int .i64 c2,.int .i64 db,.slice E.a E.len E.cap,.slice F.a F.len F.cap])∧
 K (.agg #[.int .i64 b1,.string b2,.int .i64 cb,.int .i64 ck,.int .i64 ct,.int .i64 c2,.int .i64 db,.slice E.a E.len E.cap,.slice F.a F.len F.cap]) dh) dg)∨
 (∃ aa:List PanicEntry,(ai=.panicked aa)∧LeaveF Tryz.prog 39 [.pointer ((some ⟨c,0,none⟩))] (.panicking aa) (fun di=>∃ dd:Int,∃ b3:ByteArray,∃ b4:Int,∃ b5:Int,∃ b6:Int,∃ b7:Int,∃ b8:Int,∃ q:Sl,∃ r:Sl,(At (fun b=>b=di) ⟨c,0,none⟩ [.int .i64 dd,.string b3,.int .i64 b4,.int .i64 b5,.int .i64 b6,.int .i64 b7,.int .i64 b8,.slice q.a q.len q.cap,.slice r.a r.len r.cap])∧
 K (.agg #[.int .i64 dd,.string b3,.int .i64 b4,.int .i64 b5,.int .i64 b6,.int .i64 b7,.int .i64 b8,.slice q.a q.len q.cap,.slice r.a r.len r.cap]) di) df))∨
 (∃ Z:List PanicEntry,(ah=.panicked Z)∧LeaveF Tryz.prog 39 [.pointer ((some ⟨c,0,none⟩))] (.panicking Z) (fun dj=>∃ b9:Int,∃ ca:ByteArray,∃ cc:Int,∃ cd:Int,∃ ce:Int,∃ cf:Int,∃ cg:Int,∃ s:Sl,∃ t:Sl,(At (fun b=>b=dj) ⟨c,0,none⟩ [.int .i64 b9,.string ca,.int .i64 cc,.int .i64 cd,.int .i64 ce,.int .i64 cf,.int .i64 cg,.slice s.a s.len s.cap,.slice t.a t.len t.cap])∧
 K (.agg #[.int .i64 b9,.string ca,.int .i64 cc,.int .i64 cd,.int .i64 ce,.int .i64 cf,.int .i64 cg,.slice s.a s.len s.cap,.slice t.a t.len t.cap]) dj) de))
 (∃ bk:Int,(At (fun b=>b=G) ⟨d,0 + 2,none⟩ [.int .i64 bk])∧
 Calls Tryz.prog 57 #[.pointer M,.int .i64 bk] G fun aj dk=>
 (∃ bl:Option Addr,∃ bm:Option Addr,(aj=.returned (.agg #[.pointer bl,.pointer bm]))∧
 New (.cells #[.pointer none,.pointer none] 102 (0,0)) (fun N d8=>
 ∃ dl:World,((Instr.storeAt 102 (.pointer ((some ⟨N,0,none⟩))) (.agg #[.pointer bl,.pointer bm])).run Tryz.prog d8=.ok () dl)∧
 Drw dl fun H d9=>
 ∃ bn:Int,(At H ⟨d,0 + 2,none⟩ [.int .i64 bn])∧
 ∃ bo:Option Addr,(At H ⟨N,0,none⟩ [.pointer bo])∧
 ∃ bp:Option Addr,(At H ⟨N,0 + 1,none⟩ [.pointer bp])∧
 Calls Tryz.prog 58 #[.pointer bo] d9 fun ak T=>
 (∃ n:Sl,(ak=.returned (.slice n.a n.len n.cap))∧
 (H T)∧
 Calls Tryz.prog 59 #[.pointer bp] T fun al U=>
 (∃ I:Sl,(al=.returned (.slice I.a I.len I.cap))∧
 (H U)∧
 ∃ dn:World,((Instr.storeAt 31 (.pointer ((some ⟨c,0,none⟩))) (.agg #[.int .i64 0,.string (ByteArray.mk #[]),.int .i64 0,.int .i64 bn,.int .i64 0,.int .i64 ((↑I.len:Int)),.int .i64 0,.slice n.a n.len n.cap,.slice none 0 0])).run Tryz.prog U=.ok () dn)∧
 LeaveF Tryz.prog 39 [.pointer ((some ⟨c,0,none⟩))] .returning (fun dp=>∃ ch:Int,∃ ci:ByteArray,∃ cj:Int,∃ cl:Int,∃ cm:Int,∃ cn:Int,∃ co:Int,∃ u:Sl,∃ v:Sl,(At (fun b=>b=dp) ⟨c,0,none⟩ [.int .i64 ch,.string ci,.int .i64 cj,.int .i64 cl,.int .i64 cm,.int .i64 cn,.int .i64 co,.slice u.a u.len u.cap,.slice v.a v.len v.cap])∧
 K (.agg #[.int .i64 ch,.string ci,.int .i64 cj,.int .i64 cl,.int .i64 cm,.int .i64 cn,.int .i64 co,.slice u.a u.len u.cap,.slice v.a v.len v.cap]) dp) dn)∨
 (∃ ad:List PanicEntry,(al=.panicked ad)∧LeaveF Tryz.prog 39 [.pointer ((some ⟨c,0,none⟩))] (.panicking ad) (fun dq=>∃ cp:Int,∃ cq:ByteArray,∃ cr:Int,∃ cs:Int,∃ cu:Int,∃ cv:Int,∃ cw:Int,∃ x:Sl,∃ y:Sl,(At (fun b=>b=dq) ⟨c,0,none⟩ [.int .i64 cp,.string cq,.int .i64 cr,.int .i64 cs,.int .i64 cu,.int .i64 cv,.int .i64 cw,.slice x.a x.len x.cap,.slice y.a y.len y.cap])∧
 K (.agg #[.int .i64 cp,.string cq,.int .i64 cr,.int .i64 cs,.int .i64 cu,.int .i64 cv,.int .i64 cw,.slice x.a x.len x.cap,.slice y.a y.len y.cap]) dq) U))∨
 (∃ ac:List PanicEntry,(ak=.panicked ac)∧LeaveF Tryz.prog 39 [.pointer ((some ⟨c,0,none⟩))] (.panicking ac) (fun dr=>∃ cx:Int,∃ cy:ByteArray,∃ cz:Int,∃ c0:Int,∃ c1:Int,∃ c3:Int,∃ c4:Int,∃ z:Sl,∃ A:Sl,(At (fun b=>b=dr) ⟨c,0,none⟩ [.int .i64 cx,.string cy,.int .i64 cz,.int .i64 c0,.int .i64 c1,.int .i64 c3,.int .i64 c4,.slice z.a z.len z.cap,.slice A.a A.len A.cap])∧
 K (.agg #[.int .i64 cx,.string cy,.int .i64 cz,.int .i64 c0,.int .i64 c1,.int .i64 c3,.int .i64 c4,.slice z.a z.len z.cap,.slice A.a A.len A.cap]) dr) T)) dk)∨
 (∃ ab:List PanicEntry,(aj=.panicked ab)∧LeaveF Tryz.prog 39 [.pointer ((some ⟨c,0,none⟩))] (.panicking ab) (fun ds=>∃ c5:Int,∃ c6:ByteArray,∃ c7:Int,∃ c8:Int,∃ c9:Int,∃ da:Int,∃ dc:Int,∃ C:Sl,∃ D:Sl,(At (fun b=>b=ds) ⟨c,0,none⟩ [.int .i64 c5,.string c6,.int .i64 c7,.int .i64 c8,.int .i64 c9,.int .i64 da,.int .i64 dc,.slice C.a C.len C.cap,.slice D.a D.len D.cap])∧
 K (.agg #[.int .i64 c5,.string c6,.int .i64 c7,.int .i64 c8,.int .i64 c9,.int .i64 da,.int .i64 dc,.slice C.a C.len C.cap,.slice D.a D.len D.cap]) ds) dk))) d7) w
def sk19:Sk:=(.cut [] [] [6,7,8,9,10,11,12,13] .leaf .leaf)
theorem call19 (d:Option Addr) (e:Int) (f:ByteArray) (g:Int) (i:Int) (j:Int) (k:Int) (l:Nat) (m:ByteArray) (n:Int) (c:Sl) (b:Sl) (K:Value→World→Prop) (w:World) (h:B19 d e f g i j k l m n c b K w):Gets Tryz.prog 19 #[.pointer d,.agg #[.int .i64 e,.string f,.int .i64 g,.int .i64 i,.int .i64 j,.int .i64 k,.float .f64 l,.string m,.int .i64 n,.slice c.a c.len c.cap,.slice b.a b.len b.cap]] w K:=cqd (sk:=sk19) Tryz.func19 (by kernel_rfl) (by kernel_rfl) (by kernel_rfl) h
def B18 (d:Option Addr) (K:Value→World→Prop) (w:World):Prop:=
 New (.cells #[.slice none 0 0] 93 (0,0)) (fun k bc=>
 Drw bc fun i bj=>
 NilP d fun av=>
 ∃ O:Int,(At i (Addr.add av 0) [.int .i64 O])∧
 NilP d fun A=>
 ∃ Q:Int,(At i ⟨A.block,A.off + 1,none⟩ [.int .i64 Q])∧
 NilP d fun C=>
 ∃ T:Option Nat,(At i ⟨C.block,C.off + 2,none⟩ [.map T])∧
 ∃ U:Int,(∀ b,i b→((Builtin.len_ #[77] 3 #[.map T])).run Tryz.prog b=.ok (.int .i64 U) b)∧
 New (.cells #[.int .i64 O,.int .i64 Q,.int .i64 U] 3 (0,0)) (fun az aq=>
 (i aq)∧
 Calls Tryz.prog 49 #[.pointer ((some ⟨k,0,none⟩)),.slice ((some ⟨az,0,none⟩)) 3 3] aq fun a1 x=>
 (a1=.returned (.tuple #[]))∧
 (i x)∧
 NilP d fun D=>
 ∃ V:Option Nat,(At (fun b=>b=x) ⟨D.block,D.off + 2,none⟩ [.map V])∧
 Calls Tryz.prog 51 #[.map V] x fun a2 bl=>
 ∃ X:Value,(a2=.returned (X))∧
 Calls Tryz.prog 50 #[X] bl fun a4 bm=>
 ∃ m:Sl,(a4=.returned (.slice m.a m.len m.cap))∧
 ∃ (r:Int→World→Prop) (ar:Int→World→Nat),(r 0 bm)∧∀ (bo:Env) (f:Int) (c:World),r f c→
 Br (decide (f<(↑m.len:Int)))
 (Rng f m.len (NilP m.a fun aw=>
 ∃ Y:Int,(At (fun b=>b=c) (Addr.add aw f.toNat) [.int .i64 Y])∧
 NilP d fun E=>
 ∃ Z:Option Nat,(At (fun b=>b=c) ⟨E.block,E.off + 2,none⟩ [.map Z])∧
 ∃ aa:Option Addr,∃ ab:Option Addr,(∀ b,(fun b=>b=c) b→((Instr.lookup 77 (.map Z) (.int .i64 Y) false)).run Tryz.prog b=.ok (.agg #[.pointer aa,.pointer ab]) b)∧
 New (.cells #[.pointer none,.pointer none] 102 (0,0)) (fun t bn=>
 ∃ y:World,((Instr.storeAt 102 (.pointer ((some ⟨t,0,none⟩))) (.agg #[.pointer aa,.pointer ab])).run Tryz.prog bn=.ok () y)∧
 ∃ ac:Option Addr,(At (fun b=>b=y) ⟨t,0,none⟩ [.pointer ac])∧
 Calls Tryz.prog 53 #[.pointer ac] y fun a5 bd=>
 ∃ n:Sl,(a5=.returned (.slice n.a n.len n.cap))∧
 Calls Tryz.prog 52 #[.pointer ((some ⟨k,0,none⟩)),.slice n.a n.len n.cap] bd fun a6 an=>
 (a6=.returned (.tuple #[]))∧
 ∃ ad:Option Addr,(At (fun b=>b=an) ⟨t,0 + 1,none⟩ [.pointer ad])∧
 Calls Tryz.prog 54 #[.pointer ad] an fun a7 be=>
 ∃ o:Sl,(a7=.returned (.slice o.a o.len o.cap))∧
 Calls Tryz.prog 52 #[.pointer ((some ⟨k,0,none⟩)),.slice o.a o.len o.cap] be fun a8 ao=>
 (a8=.returned (.tuple #[]))∧
 (r (IntKind.i64.wrap (f + 1)) ao)∧ar (IntKind.i64.wrap (f + 1)) ao<ar f c) c))
 (NilP d fun F=>
 ∃ ae:Option Nat,(At (fun b=>b=c) ⟨F.block,F.off + 3,none⟩ [.map ae])∧
 ∃ af:Int,(∀ b,(fun b=>b=c) b→((Builtin.len_ #[78] 3 #[.map ae])).run Tryz.prog b=.ok (.int .i64 af) b)∧
 New (.cells #[.int .i64 af] 3 (0,0)) (fun a0 bf=>
 Calls Tryz.prog 49 #[.pointer ((some ⟨k,0,none⟩)),.slice ((some ⟨a0,0,none⟩)) 1 1] bf fun a9 ap=>
 (a9=.returned (.tuple #[]))∧
 NilP d fun G=>
 ∃ ag:Option Nat,(At (fun b=>b=ap) ⟨G.block,G.off + 3,none⟩ [.map ag])∧
 Calls Tryz.prog 55 #[.map ag] ap fun ba bg=>
 ∃ ah:Value,(ba=.returned (ah))∧
 Calls Tryz.prog 50 #[ah] bg fun bb bh=>
 ∃ p:Sl,(bb=.returned (.slice p.a p.len p.cap))∧
 ∃ (s:Int→World→Prop) (au:Int→World→Nat),(s 0 bh)∧∀ (bp:Env) (g:Int) (e:World),s g e→
 Br (decide (g<(↑p.len:Int)))
 (Rng g p.len (NilP p.a fun ax=>
 ∃ u:Int,(At (fun b=>b=e) (Addr.add ax g.toNat) [.int .i64 u])∧
 NilP d fun H=>
 ∃ ai:Option Nat,(At (fun b=>b=e) ⟨H.block,H.off + 3,none⟩ [.map ai])∧
 ∃ q:Option Addr,(∀ b,(fun b=>b=e) b→((Instr.lookup 78 (.map ai) (.int .i64 u) false)).run Tryz.prog b=.ok (.pointer q) b)∧
 Drw e fun j bi=>
 NilP q fun I=>
 ∃ aj:Int,(At j ⟨I.block,I.off + 1,none⟩ [.int .i64 aj])∧
 NilP q fun J=>
 ∃ ak:Int,(At j ⟨J.block,J.off + 2,none⟩ [.int .i64 ak])∧
 NilP q fun L=>
 ∃ al:Int,(At j ⟨L.block,L.off + 3,none⟩ [.int .i64 al])∧
 NilP q fun M=>
 ∃ am:Int,(At j ⟨M.block,M.off + 4,none⟩ [.int .i64 am])∧
 NilP q fun z=>
 ∃ N:Int,(At j ⟨z.block,z.off + 5,none⟩ [.int .i64 N])∧
 New (.cells #[.int .i64 u,.int .i64 aj,.int .i64 ak,.int .i64 al,.int .i64 am,.int .i64 N] 3 (0,0)) (fun ay bk=>
 Calls Tryz.prog 49 #[.pointer ((some ⟨k,0,none⟩)),.slice ((some ⟨ay,0,none⟩)) 6 6] bk fun a3 v=>
 (a3=.returned (.tuple #[]))∧
 (j v)∧
 (s (IntKind.i64.wrap (g + 1)) v)∧au (IntKind.i64.wrap (g + 1)) v<au g e) bi))
 (∃ l:Sl,(At (fun b=>b=e) ⟨k,0,none⟩ [.slice l.a l.len l.cap])∧
 K (.slice l.a l.len l.cap) e)) c)) bj) w
def sk18:Sk:=(.seq .leaf (.seq .leaf (.seq .leaf (.seq (.seq .leaf (.block (.loop [35] [(.int .i64)] [5,6,35,36,37,38,39,40,41,42,43,44,45,46,47,48,49,50,51,52,53,54,55] .leaf))) (.seq .leaf (.seq (.seq .leaf (.block (.loop [71] [(.int .i64)] [8,9,71,72,73,74,75,76,77,78,79,80,81,82,83,84,85,86,87,88,89,90,91,92,93,94,95,96,97,98,99,100,101,102,103,104,105] .leaf))) .leaf))))))
theorem call18 (a:Option Addr) (K:Value→World→Prop) (w:World) (h:B18 a K w):Gets Tryz.prog 18 #[.pointer a] w K:=cq (sk:=sk18) Tryz.func18 (by kernel_rfl) (by kernel_rfl) (by kernel_rfl) h
def B107 (G:Option Addr) (H:Option Addr) (N:Option Addr) (K:Value→World→Prop) (w:World):Prop:=
 New (.cells #[.pointer G,.pointer H] 102 (0,0)) (fun g I=>
 New (.cells #[.pointer N] 86 (0,0)) (fun i d=>
 ∃ v:Option Addr,(At (fun c=>c=d) ⟨g,0,none⟩ [.pointer v])∧
 Br v.isNone
 (K (.bool false) d)
 (∃ x:Option Addr,(At (fun c=>c=d) ⟨i,0,none⟩ [.pointer x])∧
 NilP x fun m=>
 ∃ n:Int,(At (fun c=>c=d) ⟨m.block,m.off + 4,none⟩ [.int .i64 n])∧
 Br (n==3)
 (Drw d fun b J=>
 ∃ o:Option Addr,(At b ⟨i,0,none⟩ [.pointer o])∧
 NilP o fun l=>
 ∃ p:Int,(At b ⟨l.block,l.off + 2,none⟩ [.int .i64 p])∧
 ∃ q:Option Addr,(At b ⟨g,0,none⟩ [.pointer q])∧
 Calls Tryz.prog 58 #[.pointer q] J fun A k=>
 ∃ j:Sl,(A=.returned (.slice j.a j.len j.cap))∧
 (b k)∧
 Br (decide (p<(↑j.len:Int)))
 (∃ r:Option Addr,(At b ⟨g,0 + 1,none⟩ [.pointer r])∧
 Calls Tryz.prog 59 #[.pointer r] k fun C y=>
 ∃ e:Sl,(C=.returned (.slice e.a e.len e.cap))∧
 (b y)∧
 Calls Tryz.prog 173 #[.slice e.a e.len e.cap,.func (.func 174) #[] #[.pointer ((some ⟨i,0,none⟩))]] y fun D z=>
 ∃ s:Bool,(D=.returned (.bool s))∧
 (b z)∧
 K (.bool s) z)
 (K (.bool false) k))
 (∃ t:Option Addr,(At (fun c=>c=d) ⟨g,0,none⟩ [.pointer t])∧
 Calls Tryz.prog 105 #[.pointer t] d fun E L=>
 ∃ f:Sl,(E=.returned (.slice f.a f.len f.cap))∧
 Calls Tryz.prog 175 #[.slice f.a f.len f.cap,.func (.func 176) #[] #[.pointer ((some ⟨i,0,none⟩))]] L fun F M=>
 ∃ u:Bool,(F=.returned (.bool u))∧
 K (.bool u) M))) I) w
theorem call107 (a:Option Addr) (b:Option Addr) (c:Option Addr) (K:Value→World→Prop) (w:World) (h:B107 a b c K w):Gets Tryz.prog 107 #[.agg #[.pointer a,.pointer b],.pointer c] w K:=cq (sk:=.leaf) Tryz.func107 (by kernel_rfl) (by kernel_rfl) (by kernel_rfl) h
def B174 (u:Int) (v:Int) (x:Int) (y:Int) (z:Nat) (c:Option Addr) (K:Value→World→Prop) (w:World):Prop:=
 New (.cells #[.int .i64 u,.int .i64 v,.int .i64 x,.int .i64 y,.float .f64 z] 65 (0,0)) (fun b A=>
 Drw A fun a d=>
 ∃ n:Int,(At a ⟨b,0,none⟩ [.int .i64 n])∧
 NilP c fun s=>
 ∃ o:Option Addr,(At a s [.pointer o])∧
 NilP o fun t=>
 ∃ p:Int,(At a (Addr.add t 0) [.int .i64 p])∧
 Br (n==p)
 (∃ g:Int,(At a ⟨b,0 + 1,none⟩ [.int .i64 g])∧
 NilP c fun q=>
 ∃ i:Option Addr,(At a q [.pointer i])∧
 NilP i fun e=>
 ∃ j:Int,(At a ⟨e.block,e.off + 2,none⟩ [.int .i64 j])∧
 Br (g==j)
 (∃ k:Int,(At a ⟨b,0 + 2,none⟩ [.int .i64 k])∧
 NilP c fun r=>
 ∃ l:Option Addr,(At a r [.pointer l])∧
 NilP l fun f=>
 ∃ m:Int,(At a ⟨f.block,f.off + 3,none⟩ [.int .i64 m])∧
 K (.bool (k==m)) d)
 (K (.bool false) d))
 (K (.bool false) d)) w
theorem call174 (b:Int) (c:Int) (d:Int) (e:Int) (f:Nat) (a:Option Addr) (K:Value→World→Prop) (w:World) (h:B174 b c d e f a K w):Gets Tryz.prog 174 #[.agg #[.int .i64 b,.int .i64 c,.int .i64 d,.int .i64 e,.float .f64 f],.pointer a] w K:=cq (sk:=.leaf) Tryz.func174 (by kernel_rfl) (by kernel_rfl) (by kernel_rfl) h
def B176 (x:Int) (y:Int) (z:Int) (e:Sl) (d:Option Addr) (K:Value→World→Prop) (w:World):Prop:=
 New (.cells #[.int .i64 x,.int .i64 y,.int .i64 z,.slice e.a e.len e.cap] 176 (0,0)) (fun c A=>
 Drw A fun b f=>
 ∃ p:Int,(At b ⟨c,0,none⟩ [.int .i64 p])∧
 NilP d fun u=>
 ∃ q:Option Addr,(At b u [.pointer q])∧
 NilP q fun v=>
 ∃ r:Int,(At b (Addr.add v 0) [.int .i64 r])∧
 Br (p==r)
 (∃ j:Int,(At b ⟨c,0 + 1,none⟩ [.int .i64 j])∧
 NilP d fun s=>
 ∃ k:Option Addr,(At b s [.pointer k])∧
 NilP k fun g=>
 ∃ l:Int,(At b ⟨g.block,g.off + 2,none⟩ [.int .i64 l])∧
 Br (j==l)
 (∃ m:Int,(At b ⟨c,0 + 2,none⟩ [.int .i64 m])∧
 NilP d fun t=>
 ∃ n:Option Addr,(At b t [.pointer n])∧
 NilP n fun i=>
 ∃ o:Int,(At b ⟨i.block,i.off + 3,none⟩ [.int .i64 o])∧
 K (.bool (m==o)) f)
 (K (.bool false) f))
 (K (.bool false) f)) w
theorem call176 (d:Int) (e:Int) (f:Int) (b:Sl) (c:Option Addr) (K:Value→World→Prop) (w:World) (h:B176 d e f b c K w):Gets Tryz.prog 176 #[.agg #[.int .i64 d,.int .i64 e,.int .i64 f,.slice b.a b.len b.cap],.pointer c] w K:=cq (sk:=.leaf) Tryz.func176 (by kernel_rfl) (by kernel_rfl) (by kernel_rfl) h
def B37 (I:Sl) (K:Value→World→Prop) (w:World):Prop:=
 New (.cells #[.pointer none] 25 (0,0)) (fun c id=>
 New (.cells #[.int .i64 0] 27 (0,0)) (fun d ie=>
 Calls Tryz.prog 76 #[.slice I.a I.len I.cap] ie fun c0 hv=>
 (∃ es:Option Addr,(c0=.returned (.pointer es))∧
 New (.cells #[.pointer none] 126 (0,0)) (fun f ig=>
 ∃ hz:World,((Instr.storeAt 126 (.pointer ((some ⟨f,0,none⟩))) (.agg #[.pointer es])).run Tryz.prog ig=.ok () hz)∧
 Calls Tryz.prog 14 #[] hz fun c1 h0=>
 (∃ ez:Option Addr,(c1=.returned (.pointer ez))∧
 ∃ h2:World,((Instr.storeAt 25 (.pointer ((some ⟨c,0,none⟩))) (.pointer ez)).run Tryz.prog h0=.ok () h2)∧
 Drw h2 fun k ik=>
 ∃ e2:Option Addr,(At k ⟨c,0,none⟩ [.pointer e2])∧
 ∃ e6:Option Addr,(At k ⟨c,0,none⟩ [.pointer e6])∧
 ∃ e7:Option Addr,(At k ⟨f,0,none⟩ [.pointer e7])∧
 ∃ e9:Option Addr,(At k ⟨f,0,none⟩ [.pointer e9])∧
 Calls Tryz.prog 78 #[.agg #[.pointer e7],.int .i64 1099511627776] ik fun dc bk=>
 (∃ e8:Int,(dc=.returned (.int .i64 e8))∧
 (k bk)∧
 Calls Tryz.prog 78 #[.agg #[.pointer e9],.int .i64 28629151] bk fun dn Q=>
 (∃ fa:Int,(dn=.returned (.int .i64 fa))∧
 (k Q)∧
 NilP e2 fun ic=>
 ∃ T:World,((Instr.storeAt 3 (.pointer ((some (Addr.add ic 0)))) (.int .i64 e8)).run Tryz.prog Q=.ok () T)∧
 (k T)∧
 NilP e6 fun bz=>
 ∃ U:World,((Instr.storeAt 3 (.pointer ((some ⟨bz.block,bz.off + 1,none⟩))) (.int .i64 fa)).run Tryz.prog T=.ok () U)∧
 ∃ fb:Option Addr,(At (fun b=>b=U) ⟨f,0,none⟩ [.pointer fb])∧
 Calls Tryz.prog 78 #[.agg #[.pointer fb],.int .i64 8] U fun du hm=>
 (∃ fc:Int,(du=.returned (.int .i64 fc))∧
 ∃ (F:Int→Int→Int→World→Prop) (h9:Int→Int→Int→World→Nat),(F 0 0 0 hm)∧∀ (il:Env) (J:Int) (x:Int) (r:Int) (o:World),F J x r o→
 Br (decide (r<fc))
 (∃ fr:Option Addr,(At (fun b=>b=o) ⟨f,0,none⟩ [.pointer fr])∧
 Calls Tryz.prog 102 #[.pointer fr,.int .i64 65536] o fun dv hn=>
 (∃ m:Sl,(dv=.returned (.slice m.a m.len m.cap))∧
 Calls Tryz.prog 101 #[.slice m.a m.len m.cap] hn fun dw V=>
 (∃ s:Option Addr,∃ fs:Int,(dw=.returned (.tuple #[.pointer s,.int .i64 fs]))∧
 ∃ ft:Option Addr,(At (fun b=>b=V) ⟨f,0,none⟩ [.pointer ft])∧
 Calls Tryz.prog 102 #[.pointer ft,.int .i64 65536] V fun dx ho=>
 (∃ n:Sl,(dx=.returned (.slice n.a n.len n.cap))∧
 Calls Tryz.prog 103 #[.slice n.a n.len n.cap] ho fun dy C=>
 (∃ N:Option Addr,∃ fu:Int,(dy=.returned (.tuple #[.pointer N,.int .i64 fu]))∧
 ∃ (z:World→Prop),(Br (fs==0)
 (Br (fu==0)
 (Calls Tryz.prog 104 #[.pointer s] C fun dz hp=>
 (∃ fv:Int,(dz=.returned (.int .i64 fv))∧
 Calls Tryz.prog 100 #[.bool (decide (fv>J))] hp fun c2 hq=>
 ((c2=.returned (.tuple #[]))∧
 z  hq)∨
 (∃ b3:List PanicEntry,(c2=.panicked b3)∧LeaveF Tryz.prog 99 [.pointer ((some ⟨c,0,none⟩)),.pointer ((some ⟨d,0,none⟩))] (.panicking b3) (fun X=>∃ fw:Option Addr,(At (fun b=>b=X) ⟨c,0,none⟩ [.pointer fw])∧
 ∃ fx:Int,(At (fun b=>b=X) ⟨d,0,none⟩ [.int .i64 fx])∧
 K (.tuple #[.pointer fw,.int .i64 fx]) X) hq))∨
 (∃ cz:List PanicEntry,(dz=.panicked cz)∧LeaveF Tryz.prog 99 [.pointer ((some ⟨c,0,none⟩)),.pointer ((some ⟨d,0,none⟩))] (.panicking cz) (fun Y=>∃ fy:Option Addr,(At (fun b=>b=Y) ⟨c,0,none⟩ [.pointer fy])∧
 ∃ fz:Int,(At (fun b=>b=Y) ⟨d,0,none⟩ [.int .i64 fz])∧
 K (.tuple #[.pointer fy,.int .i64 fz]) Y) hp))
 (Calls Tryz.prog 100 #[.bool false] C fun c3 hr=>
 ((c3=.returned (.tuple #[]))∧
 z  hr)∨
 (∃ b4:List PanicEntry,(c3=.panicked b4)∧LeaveF Tryz.prog 99 [.pointer ((some ⟨c,0,none⟩)),.pointer ((some ⟨d,0,none⟩))] (.panicking b4) (fun Z=>∃ f0:Option Addr,(At (fun b=>b=Z) ⟨c,0,none⟩ [.pointer f0])∧
 ∃ f1:Int,(At (fun b=>b=Z) ⟨d,0,none⟩ [.int .i64 f1])∧
 K (.tuple #[.pointer f0,.int .i64 f1]) Z) hr)))
 (Calls Tryz.prog 100 #[.bool false] C fun c4 hs=>
 ((c4=.returned (.tuple #[]))∧
 z  hs)∨
 (∃ b5:List PanicEntry,(c4=.panicked b5)∧LeaveF Tryz.prog 99 [.pointer ((some ⟨c,0,none⟩)),.pointer ((some ⟨d,0,none⟩))] (.panicking b5) (fun aa=>∃ f2:Option Addr,(At (fun b=>b=aa) ⟨c,0,none⟩ [.pointer f2])∧
 ∃ f3:Int,(At (fun b=>b=aa) ⟨d,0,none⟩ [.int .i64 f3])∧
 K (.tuple #[.pointer f2,.int .i64 f3]) aa) hs)))∧
 ∀ (im:Env)  (ht:World),z  ht→
 Calls Tryz.prog 104 #[.pointer s] ht fun c5 D=>
 (∃ A:Int,(c5=.returned (.int .i64 A))∧
 ∃ f4:Option Addr,(At (fun b=>b=D) ⟨c,0,none⟩ [.pointer f4])∧
 NilP f4 fun b0=>
 ∃ f5:Option Nat,(At (fun b=>b=D) ⟨b0.block,b0.off + 2,none⟩ [.map f5])∧
 ∃ hu:World,((Instr.mapUpdate 77 (.map f5) (.int .i64 A) (.agg #[.pointer s,.pointer N])).run Tryz.prog D=.ok () hu)∧
 Calls Tryz.prog 105 #[.pointer s] hu fun c6 hw=>
 (∃ t:Sl,(c6=.returned (.slice t.a t.len t.cap))∧
 Calls Tryz.prog 59 #[.pointer N] hw fun c7 ab=>
 (∃ u:Sl,(c7=.returned (.slice u.a u.len u.cap))∧
 (F A (IntKind.i64.wrap (x + IntKind.i64.wrap ((↑t.len:Int) + (↑u.len:Int)))) (IntKind.i64.wrap (r + 1)) ab)∧h9 A (IntKind.i64.wrap (x + IntKind.i64.wrap ((↑t.len:Int) + (↑u.len:Int)))) (IntKind.i64.wrap (r + 1)) ab<h9 J x r o)∨
 (∃ b8:List PanicEntry,(c7=.panicked b8)∧LeaveF Tryz.prog 99 [.pointer ((some ⟨c,0,none⟩)),.pointer ((some ⟨d,0,none⟩))] (.panicking b8) (fun ac=>∃ fd:Option Addr,(At (fun b=>b=ac) ⟨c,0,none⟩ [.pointer fd])∧
 ∃ fj:Int,(At (fun b=>b=ac) ⟨d,0,none⟩ [.int .i64 fj])∧
 K (.tuple #[.pointer fd,.int .i64 fj]) ac) ab))∨
 (∃ b7:List PanicEntry,(c6=.panicked b7)∧LeaveF Tryz.prog 99 [.pointer ((some ⟨c,0,none⟩)),.pointer ((some ⟨d,0,none⟩))] (.panicking b7) (fun ad=>∃ fk:Option Addr,(At (fun b=>b=ad) ⟨c,0,none⟩ [.pointer fk])∧
 ∃ fl:Int,(At (fun b=>b=ad) ⟨d,0,none⟩ [.int .i64 fl])∧
 K (.tuple #[.pointer fk,.int .i64 fl]) ad) hw))∨
 (∃ b6:List PanicEntry,(c5=.panicked b6)∧LeaveF Tryz.prog 99 [.pointer ((some ⟨c,0,none⟩)),.pointer ((some ⟨d,0,none⟩))] (.panicking b6) (fun ae=>∃ fm:Option Addr,(At (fun b=>b=ae) ⟨c,0,none⟩ [.pointer fm])∧
 ∃ fn:Int,(At (fun b=>b=ae) ⟨d,0,none⟩ [.int .i64 fn])∧
 K (.tuple #[.pointer fm,.int .i64 fn]) ae) D))∨
 (∃ cy:List PanicEntry,(dy=.panicked cy)∧LeaveF Tryz.prog 99 [.pointer ((some ⟨c,0,none⟩)),.pointer ((some ⟨d,0,none⟩))] (.panicking cy) (fun af=>∃ fo:Option Addr,(At (fun b=>b=af) ⟨c,0,none⟩ [.pointer fo])∧
 ∃ fp:Int,(At (fun b=>b=af) ⟨d,0,none⟩ [.int .i64 fp])∧
 K (.tuple #[.pointer fo,.int .i64 fp]) af) C))∨
 (∃ cx:List PanicEntry,(dx=.panicked cx)∧LeaveF Tryz.prog 99 [.pointer ((some ⟨c,0,none⟩)),.pointer ((some ⟨d,0,none⟩))] (.panicking cx) (fun ag=>∃ fq:Option Addr,(At (fun b=>b=ag) ⟨c,0,none⟩ [.pointer fq])∧
 ∃ fe:Int,(At (fun b=>b=ag) ⟨d,0,none⟩ [.int .i64 fe])∧
 K (.tuple #[.pointer fq,.int .i64 fe]) ag) ho))∨
 (∃ cw:List PanicEntry,(dw=.panicked cw)∧LeaveF Tryz.prog 99 [.pointer ((some ⟨c,0,none⟩)),.pointer ((some ⟨d,0,none⟩))] (.panicking cw) (fun ah=>∃ ff:Option Addr,(At (fun b=>b=ah) ⟨c,0,none⟩ [.pointer ff])∧
 ∃ fg:Int,(At (fun b=>b=ah) ⟨d,0,none⟩ [.int .i64 fg])∧
 K (.tuple #[.pointer ff,.int .i64 fg]) ah) V))∨
 (∃ cv:List PanicEntry,(dv=.panicked cv)∧LeaveF Tryz.prog 99 [.pointer ((some ⟨c,0,none⟩)),.pointer ((some ⟨d,0,none⟩))] (.panicking cv) (fun ai=>∃ fh:Option Addr,(At (fun b=>b=ai) ⟨c,0,none⟩ [.pointer fh])∧
 ∃ fi:Int,(At (fun b=>b=ai) ⟨d,0,none⟩ [.int .i64 fi])∧
 K (.tuple #[.pointer fh,.int .i64 fi]) ai) hn))
 (∃ f6:Option Addr,(At (fun b=>b=o) ⟨f,0,none⟩ [.pointer f6])∧
 Calls Tryz.prog 78 #[.agg #[.pointer f6],.int .i64 300] o fun c8 hx=>
 (∃ O:Int,(c8=.returned (.int .i64 O))∧
 ∃ (G:Int→Int→World→Prop) (ia:Int→Int→World→Nat),(G 0 0 hx)∧∀ (io:Env) (L:Int) (v:Int) (y:World),G L v y→
 Br (decide (v<O))
 (Drw y fun i ih=>
 ∃ gn:Option Addr,(At i ⟨f,0,none⟩ [.pointer gn])∧
 ∃ gs:Option Addr,(At i ⟨f,0,none⟩ [.pointer gs])∧
 ∃ gu:Option Addr,(At i ⟨f,0,none⟩ [.pointer gu])∧
 Calls Tryz.prog 78 #[.agg #[.pointer gn],.int .i64 28629151] ih fun c9 aj=>
 (∃ go:Int,(c9=.returned (.int .i64 go))∧
 (i aj)∧
 Calls Tryz.prog 106 #[.pointer ((some ⟨f,0,none⟩))] aj fun da ak=>
 (∃ gp:Int,(da=.returned (.int .i64 gp))∧
 (i ak)∧
 Calls Tryz.prog 106 #[.pointer ((some ⟨f,0,none⟩))] ak fun db al=>
 (∃ gq:Int,(db=.returned (.int .i64 gq))∧
 (i al)∧
 Calls Tryz.prog 106 #[.pointer ((some ⟨f,0,none⟩))] al fun dd am=>
 (∃ gr:Int,(dd=.returned (.int .i64 gr))∧
 (i am)∧
 Calls Tryz.prog 78 #[.agg #[.pointer gs],.int .i64 3] am fun de an=>
 (∃ gt:Int,(de=.returned (.int .i64 gt))∧
 (i an)∧
 Calls Tryz.prog 78 #[.agg #[.pointer gu],.int .i64 1099511627776] an fun df ao=>
 (∃ gv:Int,(df=.returned (.int .i64 gv))∧
 (i ao)∧
 New (.cells #[.int .i64 go,.int .i64 gp,.int .i64 gq,.int .i64 gr,.int .i64 gt,.int .i64 gv] 106 (0,0)) (fun g hy=>
 (i hy)∧
 ∃ (j:World→Prop),(Drw hy fun e p=>
 ∃ d0:Int,(At e ⟨g,0,none⟩ [.int .i64 d0])∧
 Br (decide (d0>L))
 (∃ d1:Int,(At e ⟨g,0,none⟩ [.int .i64 d1])∧
 ∃ d2:Option Addr,(At e ⟨c,0,none⟩ [.pointer d2])∧
 NilP d2 fun bu=>
 ∃ d3:Int,(At e ⟨bu.block,bu.off + 1,none⟩ [.int .i64 d3])∧
 Br (decide (d1<d3))
 (∃ d4:Int,(At e ⟨g,0 + 4,none⟩ [.int .i64 d4])∧
 Br (decide (d4 ≥ 1))
 (∃ d5:Int,(At e ⟨g,0 + 4,none⟩ [.int .i64 d5])∧
 ∃ d6:Int,(At e ⟨g,0 + 5,none⟩ [.int .i64 d6])∧
 ∃ d7:Option Addr,(At e ⟨c,0,none⟩ [.pointer d7])∧
 NilP d7 fun ib=>
 ∃ d8:Int,(At e (Addr.add ib 0) [.int .i64 d8])∧
 Br ((d5==1)==decide (d6>d8))
 (∃ d9:Int,(At e ⟨g,0 + 4,none⟩ [.int .i64 d9])∧
 Br (d9==1)
 (Calls Tryz.prog 100 #[.bool true] p fun dg ap=>
 ((dg=.returned (.tuple #[]))∧
 (e ap)∧
 j  ap)∨
 (∃ ch:List PanicEntry,(dg=.panicked ch)∧LeaveF Tryz.prog 99 [.pointer ((some ⟨c,0,none⟩)),.pointer ((some ⟨d,0,none⟩))] (.panicking ch) (fun aq=>∃ eb:Option Addr,(At (fun b=>b=aq) ⟨c,0,none⟩ [.pointer eb])∧
 ∃ ec:Int,(At (fun b=>b=aq) ⟨d,0,none⟩ [.int .i64 ec])∧
 K (.tuple #[.pointer eb,.int .i64 ec]) aq) ap))
 (∃ ea:Int,(At e ⟨g,0 + 5,none⟩ [.int .i64 ea])∧
 Calls Tryz.prog 100 #[.bool (ea==0)] p fun dh ar=>
 ((dh=.returned (.tuple #[]))∧
 (e ar)∧
 j  ar)∨
 (∃ ci:List PanicEntry,(dh=.panicked ci)∧LeaveF Tryz.prog 99 [.pointer ((some ⟨c,0,none⟩)),.pointer ((some ⟨d,0,none⟩))] (.panicking ci) (fun au=>∃ ef:Option Addr,(At (fun b=>b=au) ⟨c,0,none⟩ [.pointer ef])∧
 ∃ eg:Int,(At (fun b=>b=au) ⟨d,0,none⟩ [.int .i64 eg])∧
 K (.tuple #[.pointer ef,.int .i64 eg]) au) ar)))
 (Calls Tryz.prog 100 #[.bool false] p fun di av=>
 ((di=.returned (.tuple #[]))∧
 (e av)∧
 j  av)∨
 (∃ cj:List PanicEntry,(di=.panicked cj)∧LeaveF Tryz.prog 99 [.pointer ((some ⟨c,0,none⟩)),.pointer ((some ⟨d,0,none⟩))] (.panicking cj) (fun aw=>∃ eh:Option Addr,(At (fun b=>b=aw) ⟨c,0,none⟩ [.pointer eh])∧
 ∃ ei:Int,(At (fun b=>b=aw) ⟨d,0,none⟩ [.int .i64 ei])∧
 K (.tuple #[.pointer eh,.int .i64 ei]) aw) av)))
 (Calls Tryz.prog 100 #[.bool false] p fun dj ax=>
 ((dj=.returned (.tuple #[]))∧
 (e ax)∧
 j  ax)∨
 (∃ ck:List PanicEntry,(dj=.panicked ck)∧LeaveF Tryz.prog 99 [.pointer ((some ⟨c,0,none⟩)),.pointer ((some ⟨d,0,none⟩))] (.panicking ck) (fun ay=>∃ ej:Option Addr,(At (fun b=>b=ay) ⟨c,0,none⟩ [.pointer ej])∧
 ∃ ek:Int,(At (fun b=>b=ay) ⟨d,0,none⟩ [.int .i64 ek])∧
 K (.tuple #[.pointer ej,.int .i64 ek]) ay) ax)))
 (Calls Tryz.prog 100 #[.bool false] p fun dk az=>
 ((dk=.returned (.tuple #[]))∧
 (e az)∧
 j  az)∨
 (∃ cl:List PanicEntry,(dk=.panicked cl)∧LeaveF Tryz.prog 99 [.pointer ((some ⟨c,0,none⟩)),.pointer ((some ⟨d,0,none⟩))] (.panicking cl) (fun a0=>∃ el:Option Addr,(At (fun b=>b=a0) ⟨c,0,none⟩ [.pointer el])∧
 ∃ em:Int,(At (fun b=>b=a0) ⟨d,0,none⟩ [.int .i64 em])∧
 K (.tuple #[.pointer el,.int .i64 em]) a0) az)))
 (Calls Tryz.prog 100 #[.bool false] p fun dl a1=>
 ((dl=.returned (.tuple #[]))∧
 (e a1)∧
 j  a1)∨
 (∃ cm:List PanicEntry,(dl=.panicked cm)∧LeaveF Tryz.prog 99 [.pointer ((some ⟨c,0,none⟩)),.pointer ((some ⟨d,0,none⟩))] (.panicking cm) (fun a2=>∃ ed:Option Addr,(At (fun b=>b=a2) ⟨c,0,none⟩ [.pointer ed])∧
 ∃ ee:Int,(At (fun b=>b=a2) ⟨d,0,none⟩ [.int .i64 ee])∧
 K (.tuple #[.pointer ed,.int .i64 ee]) a2) a1)))∧
 ∀ (ip:Env)  (h1:World),j  h1→
 Drw h1 fun l ii=>
 ∃ en:Option Addr,(At l ⟨c,0,none⟩ [.pointer en])∧
 NilP en fun bv=>
 ∃ eo:Option Nat,(At l ⟨bv.block,bv.off + 2,none⟩ [.map eo])∧
 ∃ ep:Int,(At l ⟨g,0 + 1,none⟩ [.int .i64 ep])∧
 ∃ eq:Option Addr,∃ er:Option Addr,(∀ b,l b→((Instr.lookup 77 (.map eo) (.int .i64 ep) false)).run Tryz.prog b=.ok (.agg #[.pointer eq,.pointer er]) b)∧
 Calls Tryz.prog 107 #[.agg #[.pointer eq,.pointer er],.pointer ((some ⟨g,0,none⟩))] ii fun dm a3=>
 (∃ et:Bool,(dm=.returned (.bool et))∧
 (l a3)∧
 Calls Tryz.prog 100 #[.bool et] a3 fun dp E=>
 ((dp=.returned (.tuple #[]))∧
 (l E)∧
 ∃ M:Int,(At (fun b=>b=E) ⟨g,0,none⟩ [.int .i64 M])∧
 Drw E fun H ij=>
 ∃ eu:Option Addr,(At H ⟨c,0,none⟩ [.pointer eu])∧
 NilP eu fun bw=>
 ∃ ev:Option Nat,(At H ⟨bw.block,bw.off + 3,none⟩ [.map ev])∧
 ∃ ew:Int,(At H ⟨g,0,none⟩ [.int .i64 ew])∧
 ∃ a4:World,((Instr.mapUpdate 78 (.map ev) (.int .i64 ew) (.pointer ((some ⟨g,0,none⟩)))).run Tryz.prog ij=.ok () a4)∧
 (G M (IntKind.i64.wrap (v + 1)) a4)∧ia M (IntKind.i64.wrap (v + 1)) a4<ia L v y)∨
 (∃ cp:List PanicEntry,(dp=.panicked cp)∧LeaveF Tryz.prog 99 [.pointer ((some ⟨c,0,none⟩)),.pointer ((some ⟨d,0,none⟩))] (.panicking cp) (fun a5=>∃ f7:Option Addr,(At (fun b=>b=a5) ⟨c,0,none⟩ [.pointer f7])∧
 ∃ gf:Int,(At (fun b=>b=a5) ⟨d,0,none⟩ [.int .i64 gf])∧
 K (.tuple #[.pointer f7,.int .i64 gf]) a5) E))∨
 (∃ cn:List PanicEntry,(dm=.panicked cn)∧LeaveF Tryz.prog 99 [.pointer ((some ⟨c,0,none⟩)),.pointer ((some ⟨d,0,none⟩))] (.panicking cn) (fun a6=>∃ gg:Option Addr,(At (fun b=>b=a6) ⟨c,0,none⟩ [.pointer gg])∧
 ∃ gh:Int,(At (fun b=>b=a6) ⟨d,0,none⟩ [.int .i64 gh])∧
 K (.tuple #[.pointer gg,.int .i64 gh]) a6) a3)) ao)∨
 (∃ cg:List PanicEntry,(df=.panicked cg)∧LeaveF Tryz.prog 99 [.pointer ((some ⟨c,0,none⟩)),.pointer ((some ⟨d,0,none⟩))] (.panicking cg) (fun a7=>∃ gi:Option Addr,(At (fun b=>b=a7) ⟨c,0,none⟩ [.pointer gi])∧
 ∃ gj:Int,(At (fun b=>b=a7) ⟨d,0,none⟩ [.int .i64 gj])∧
 K (.tuple #[.pointer gi,.int .i64 gj]) a7) ao))∨
 (∃ cf:List PanicEntry,(de=.panicked cf)∧LeaveF Tryz.prog 99 [.pointer ((some ⟨c,0,none⟩)),.pointer ((some ⟨d,0,none⟩))] (.panicking cf) (fun a8=>∃ gk:Option Addr,(At (fun b=>b=a8) ⟨c,0,none⟩ [.pointer gk])∧
 ∃ gl:Int,(At (fun b=>b=a8) ⟨d,0,none⟩ [.int .i64 gl])∧
 K (.tuple #[.pointer gk,.int .i64 gl]) a8) an))∨
 (∃ ce:List PanicEntry,(dd=.panicked ce)∧LeaveF Tryz.prog 99 [.pointer ((some ⟨c,0,none⟩)),.pointer ((some ⟨d,0,none⟩))] (.panicking ce) (fun a9=>∃ gm:Option Addr,(At (fun b=>b=a9) ⟨c,0,none⟩ [.pointer gm])∧
 ∃ f8:Int,(At (fun b=>b=a9) ⟨d,0,none⟩ [.int .i64 f8])∧
 K (.tuple #[.pointer gm,.int .i64 f8]) a9) am))∨
 (∃ cc:List PanicEntry,(db=.panicked cc)∧LeaveF Tryz.prog 99 [.pointer ((some ⟨c,0,none⟩)),.pointer ((some ⟨d,0,none⟩))] (.panicking cc) (fun ba=>∃ f9:Option Addr,(At (fun b=>b=ba) ⟨c,0,none⟩ [.pointer f9])∧
 ∃ ga:Int,(At (fun b=>b=ba) ⟨d,0,none⟩ [.int .i64 ga])∧
 K (.tuple #[.pointer f9,.int .i64 ga]) ba) al))∨
 (∃ cb:List PanicEntry,(da=.panicked cb)∧LeaveF Tryz.prog 99 [.pointer ((some ⟨c,0,none⟩)),.pointer ((some ⟨d,0,none⟩))] (.panicking cb) (fun bb=>∃ gb:Option Addr,(At (fun b=>b=bb) ⟨c,0,none⟩ [.pointer gb])∧
 ∃ gc:Int,(At (fun b=>b=bb) ⟨d,0,none⟩ [.int .i64 gc])∧
 K (.tuple #[.pointer gb,.int .i64 gc]) bb) ak))∨
 (∃ ca:List PanicEntry,(c9=.panicked ca)∧LeaveF Tryz.prog 99 [.pointer ((some ⟨c,0,none⟩)),.pointer ((some ⟨d,0,none⟩))] (.panicking ca) (fun bc=>∃ gd:Option Addr,(At (fun b=>b=bc) ⟨c,0,none⟩ [.pointer gd])∧
 ∃ ge:Int,(At (fun b=>b=bc) ⟨d,0,none⟩ [.int .i64 ge])∧
 K (.tuple #[.pointer gd,.int .i64 ge]) bc) aj))
 (∃ ex:Option Addr,(At (fun b=>b=y) ⟨f,0,none⟩ [.pointer ex])∧
 Calls Tryz.prog 83 #[.pointer ex] y fun dq q=>
 (∃ ey:Bool,(dq=.returned (.bool ey))∧
 Br ey
 (∃ e0:Option Addr,(At (fun b=>b=q) ⟨c,0,none⟩ [.pointer e0])∧
 NilP e0 fun bx=>
 ∃ e1:Int,(At (fun b=>b=q) ⟨bx.block,bx.off + 1,none⟩ [.int .i64 e1])∧
 Br (decide (e1 ≥ 1))
 (Calls Tryz.prog 100 #[.bool (x==O)] q fun dr bd=>
 ((dr=.returned (.tuple #[]))∧
 ∃ e3:Option Addr,(At (fun b=>b=bd) ⟨c,0,none⟩ [.pointer e3])∧
 ∃ h3:World,((Instr.storeAt 25 (.pointer ((some ⟨c,0,none⟩))) (.pointer e3)).run Tryz.prog bd=.ok () h3)∧
 ∃ h4:World,((Instr.storeAt 27 (.pointer ((some ⟨d,0,none⟩))) (.int .i64 0)).run Tryz.prog h3=.ok () h4)∧
 LeaveF Tryz.prog 99 [.pointer ((some ⟨c,0,none⟩)),.pointer ((some ⟨d,0,none⟩))] .returning (fun be=>∃ gw:Option Addr,(At (fun b=>b=be) ⟨c,0,none⟩ [.pointer gw])∧
 ∃ gx:Int,(At (fun b=>b=be) ⟨d,0,none⟩ [.int .i64 gx])∧
 K (.tuple #[.pointer gw,.int .i64 gx]) be) h4)∨
 (∃ cr:List PanicEntry,(dr=.panicked cr)∧LeaveF Tryz.prog 99 [.pointer ((some ⟨c,0,none⟩)),.pointer ((some ⟨d,0,none⟩))] (.panicking cr) (fun bf=>∃ g8:Option Addr,(At (fun b=>b=bf) ⟨c,0,none⟩ [.pointer g8])∧
 ∃ hf:Int,(At (fun b=>b=bf) ⟨d,0,none⟩ [.int .i64 hf])∧
 K (.tuple #[.pointer g8,.int .i64 hf]) bf) bd))
 (Calls Tryz.prog 100 #[.bool false] q fun ds bg=>
 ((ds=.returned (.tuple #[]))∧
 ∃ e4:Option Addr,(At (fun b=>b=bg) ⟨c,0,none⟩ [.pointer e4])∧
 ∃ h5:World,((Instr.storeAt 25 (.pointer ((some ⟨c,0,none⟩))) (.pointer e4)).run Tryz.prog bg=.ok () h5)∧
 ∃ h6:World,((Instr.storeAt 27 (.pointer ((some ⟨d,0,none⟩))) (.int .i64 0)).run Tryz.prog h5=.ok () h6)∧
 LeaveF Tryz.prog 99 [.pointer ((some ⟨c,0,none⟩)),.pointer ((some ⟨d,0,none⟩))] .returning (fun bh=>∃ hg:Option Addr,(At (fun b=>b=bh) ⟨c,0,none⟩ [.pointer hg])∧
 ∃ hh:Int,(At (fun b=>b=bh) ⟨d,0,none⟩ [.int .i64 hh])∧
 K (.tuple #[.pointer hg,.int .i64 hh]) bh) h6)∨
 (∃ cs:List PanicEntry,(ds=.panicked cs)∧LeaveF Tryz.prog 99 [.pointer ((some ⟨c,0,none⟩)),.pointer ((some ⟨d,0,none⟩))] (.panicking cs) (fun bi=>∃ hi:Option Addr,(At (fun b=>b=bi) ⟨c,0,none⟩ [.pointer hi])∧
 ∃ hj:Int,(At (fun b=>b=bi) ⟨d,0,none⟩ [.int .i64 hj])∧
 K (.tuple #[.pointer hi,.int .i64 hj]) bi) bg)))
 (Calls Tryz.prog 100 #[.bool false] q fun dt bj=>
 ((dt=.returned (.tuple #[]))∧
 ∃ e5:Option Addr,(At (fun b=>b=bj) ⟨c,0,none⟩ [.pointer e5])∧
 ∃ h7:World,((Instr.storeAt 25 (.pointer ((some ⟨c,0,none⟩))) (.pointer e5)).run Tryz.prog bj=.ok () h7)∧
 ∃ h8:World,((Instr.storeAt 27 (.pointer ((some ⟨d,0,none⟩))) (.int .i64 0)).run Tryz.prog h7=.ok () h8)∧
 LeaveF Tryz.prog 99 [.pointer ((some ⟨c,0,none⟩)),.pointer ((some ⟨d,0,none⟩))] .returning (fun bl=>∃ hk:Option Addr,(At (fun b=>b=bl) ⟨c,0,none⟩ [.pointer hk])∧
 ∃ hl:Int,(At (fun b=>b=bl) ⟨d,0,none⟩ [.int .i64 hl])∧
 K (.tuple #[.pointer hk,.int .i64 hl]) bl) h8)∨
 (∃ ct:List PanicEntry,(dt=.panicked ct)∧LeaveF Tryz.prog 99 [.pointer ((some ⟨c,0,none⟩)),.pointer ((some ⟨d,0,none⟩))] (.panicking ct) (fun bm=>∃ gy:Option Addr,(At (fun b=>b=bm) ⟨c,0,none⟩ [.pointer gy])∧
 ∃ gz:Int,(At (fun b=>b=bm) ⟨d,0,none⟩ [.int .i64 gz])∧
 K (.tuple #[.pointer gy,.int .i64 gz]) bm) bj)))∨
 (∃ cq:List PanicEntry,(dq=.panicked cq)∧LeaveF Tryz.prog 99 [.pointer ((some ⟨c,0,none⟩)),.pointer ((some ⟨d,0,none⟩))] (.panicking cq) (fun bn=>∃ g0:Option Addr,(At (fun b=>b=bn) ⟨c,0,none⟩ [.pointer g0])∧
 ∃ g1:Int,(At (fun b=>b=bn) ⟨d,0,none⟩ [.int .i64 g1])∧
 K (.tuple #[.pointer g0,.int .i64 g1]) bn) q)))∨
 (∃ b9:List PanicEntry,(c8=.panicked b9)∧LeaveF Tryz.prog 99 [.pointer ((some ⟨c,0,none⟩)),.pointer ((some ⟨d,0,none⟩))] (.panicking b9) (fun bo=>∃ g2:Option Addr,(At (fun b=>b=bo) ⟨c,0,none⟩ [.pointer g2])∧
 ∃ g3:Int,(At (fun b=>b=bo) ⟨d,0,none⟩ [.int .i64 g3])∧
 K (.tuple #[.pointer g2,.int .i64 g3]) bo) hx)))∨
 (∃ cu:List PanicEntry,(du=.panicked cu)∧LeaveF Tryz.prog 99 [.pointer ((some ⟨c,0,none⟩)),.pointer ((some ⟨d,0,none⟩))] (.panicking cu) (fun bp=>∃ g4:Option Addr,(At (fun b=>b=bp) ⟨c,0,none⟩ [.pointer g4])∧
 ∃ g5:Int,(At (fun b=>b=bp) ⟨d,0,none⟩ [.int .i64 g5])∧
 K (.tuple #[.pointer g4,.int .i64 g5]) bp) hm))∨
 (∃ co:List PanicEntry,(dn=.panicked co)∧LeaveF Tryz.prog 99 [.pointer ((some ⟨c,0,none⟩)),.pointer ((some ⟨d,0,none⟩))] (.panicking co) (fun bq=>∃ g6:Option Addr,(At (fun b=>b=bq) ⟨c,0,none⟩ [.pointer g6])∧
 ∃ g7:Int,(At (fun b=>b=bq) ⟨d,0,none⟩ [.int .i64 g7])∧
 K (.tuple #[.pointer g6,.int .i64 g7]) bq) Q))∨
 (∃ cd:List PanicEntry,(dc=.panicked cd)∧LeaveF Tryz.prog 99 [.pointer ((some ⟨c,0,none⟩)),.pointer ((some ⟨d,0,none⟩))] (.panicking cd) (fun br=>∃ g9:Option Addr,(At (fun b=>b=br) ⟨c,0,none⟩ [.pointer g9])∧
 ∃ ha:Int,(At (fun b=>b=br) ⟨d,0,none⟩ [.int .i64 ha])∧
 K (.tuple #[.pointer g9,.int .i64 ha]) br) bk))∨
 (∃ b2:List PanicEntry,(c1=.panicked b2)∧LeaveF Tryz.prog 99 [.pointer ((some ⟨c,0,none⟩)),.pointer ((some ⟨d,0,none⟩))] (.panicking b2) (fun bs=>∃ hb:Option Addr,(At (fun b=>b=bs) ⟨c,0,none⟩ [.pointer hb])∧
 ∃ hc:Int,(At (fun b=>b=bs) ⟨d,0,none⟩ [.int .i64 hc])∧
 K (.tuple #[.pointer hb,.int .i64 hc]) bs) h0)) hv)∨
 (∃ b1:List PanicEntry,(c0=.panicked b1)∧LeaveF Tryz.prog 99 [.pointer ((some ⟨c,0,none⟩)),.pointer ((some ⟨d,0,none⟩))] (.panicking b1) (fun bt=>∃ hd:Option Addr,(At (fun b=>b=bt) ⟨c,0,none⟩ [.pointer hd])∧
 ∃ he:Int,(At (fun b=>b=bt) ⟨d,0,none⟩ [.int .i64 he])∧
 K (.tuple #[.pointer hd,.int .i64 he]) bt) hv)) id) w
def sk37:Sk:=(.seq .leaf (.seq .leaf (.seq .leaf (.seq .leaf (.seq .leaf (.seq (.seq .leaf (.block (.loop [6,7,32] [(.int .i64),(.int .i64),(.int .i64)] [6,7,8,9,10,11,32,33,34,35,36,37,38,39,40,41,42,43,44,45,46,47,48,49,50,51,52,53,54,55,56,57,58,59,60,61,62,63,64,65,66,67,68,69,70,71,72,73,74,75,76,77,78,79,80,81] (.seq .leaf (.seq .leaf (.seq (.block (.seq .leaf (.seq .leaf (.cut [] [] [48,49,50,51,52,53,54,55,56,57,58,59,60,61] .leaf .leaf)))) .leaf)))))) (.seq .leaf (.seq .leaf (.seq (.seq .leaf (.block (.loop [6,85] [(.int .i64),(.int .i64)] [6,13,14,85,86,87,88,89,90,91,92,93,94,95,96,97,98,99,100,101,102,103,104,105,106,107,108,109,110,111,112,113,114,115,116,117,118,119,120,121,122,123,124,125,126,127,128,129,130,131,132,133,134,135,136,137,138,139,140,141,142,143,144,145,146,147,148,149,150,151,152,153,154,155,156,157,158,159,160,161,162,163,164,165,166,167,168,169,170,171,172,173,174,175,176,177,178,179,180,181,182,183,184,185] (.seq .leaf (.seq .leaf (.seq (.block (.seq .leaf (.seq .leaf (.cut [] [] [102,103,104,105,106,107,108,109,110,111,112,113,114,115,116,117,118,119,120,121,122,123,124,125,126,127,128,129,130,131,132,133,134,135,136,137,138,139,140,141,142,143,144,145,146,147,148,149,150,151,152,153,154,155,156,157,158] .leaf .leaf)))) .leaf)))))) .leaf)))))))))
theorem call37 (b:Sl) (K:Value→World→Prop) (w:World) (h:B37 b K w):Gets Tryz.prog 37 #[.slice b.a b.len b.cap] w K:=cqd (sk:=sk37) Tryz.func37 (by kernel_rfl) (by kernel_rfl) (by kernel_rfl) h
def B99 (i:Option Addr) (j:Option Addr) (c:Value) (K:World→Prop) (w:World):Prop:=
 ∃ e:Bool,(∀ a,(fun a=>a=w) a→((do eqGuard BinOp.neq 20 (Operand.tmp 4) (Operand.const Value.nilIface) c .nilIface;binOp BinOp.neq 20 c .nilIface:Sem Value)).run Tryz.prog a=.ok (.bool e) a)∧
 Br e
 (Drw w fun d k=>
 ∃ f:Int,(∀ a,d a→((Instr.typeAssert c 20 27 false)).run Tryz.prog a=.ok (.int .i64 f) a)∧
 ∃ b:World,((Instr.storeAt 25 (.pointer i) (.pointer none)).run Tryz.prog k=.ok () b)∧
 (d b)∧
 ∃ g:World,((Instr.storeAt 27 (.pointer j) (.int .i64 f)).run Tryz.prog b=.ok () g)∧
 K g)
 (K w)
theorem callP99 (b:Option Addr) (c:Option Addr) (a:Value) (K:World→Prop) (w:World) (h:B99 b c a K w):CallsD Tryz.prog 99 #[.pointer b,.pointer c] (.panicking [⟨a,false,false⟩]) w fun d e f=>(∃ g,d=.returned g)∧e=.panicking [⟨a,true,false⟩]∧K f:=
 rec_panic (sk:=.leaf) cl_ok mixed Tryz.func99 (by kernel_rfl) (Nat.le_of_ble_eq_true (by kernel_rfl)) (cast (by kernel_rfl) h)
theorem callR99 (a:Option Addr) (b:Option Addr) (K:World→Prop) (w:World) (h:B99 a b .nilIface K w):CallsD Tryz.prog 99 #[.pointer a,.pointer b] .returning w fun c d e=>(∃ f,c=.returned f)∧d=.returning∧K e:=
 rec_return (sk:=.leaf) cl_ok mixed Tryz.func99 (by kernel_rfl) (Nat.le_of_ble_eq_true (by kernel_rfl)) (cast (by kernel_rfl) h)
def B100 (e:Bool) (d:List PanicEntry→World→Prop) (K:Value→World→Prop) (w:World):Prop:=
 Calls Tryz.prog 40 #[.bool e,.int .i64 6] w fun b c=>
 ((b=.returned (.tuple #[]))∧
 K (.tuple #[]) c)∨
 (∃ a:List PanicEntry,(b=.panicked a)∧d a c)
theorem call100 (b:Bool) (a:List PanicEntry→World→Prop) (K:Value→World→Prop) (w:World) (h:B100 b a K w):GetsX Tryz.prog 100 #[.bool b] w a K:=cqx (sk:=.leaf) Tryz.func100 (by kernel_rfl) (by kernel_rfl) (by kernel_rfl) h
def B106 (d:Option Addr) (K:Value→World→Prop) (w:World):Prop:=
 NilP d fun c=>
 ∃ a:Option Addr,(At (fun f=>f=w) c [.pointer a])∧
 Calls Tryz.prog 78 #[.agg #[.pointer a],.int .i64 9999] w fun e g=>
 ∃ b:Int,(e=.returned (.int .i64 b))∧
 K (.int .i64 b) g
theorem call106 (a:Option Addr) (K:Value→World→Prop) (w:World) (h:B106 a K w):Gets Tryz.prog 106 #[.pointer a] w K:=cq (sk:=.leaf) Tryz.func106 (by kernel_rfl) (by kernel_rfl) (by kernel_rfl) h
end Go.Proofs.YtfgbbckfikiomaaGreatDoor
/- The formulas of functions of this seat's translation, printed by a program of mine off the translation; each is proved equal to 'fnF' of the function's body, so it is enough for the call. No condition. -/
namespace Go.Proofs.YtfgbbckfikiomaaGreatDoor
open Go Go.VC
set_option linter.unusedVariables false
set_option maxRecDepth 10000
def B20 (I:Int) (J:ByteArray) (L:Int) (M:Int) (N:Int) (O:Int) (Q:Int) (k:Sl) (l:Sl) (T:Int) (U:ByteArray) (V:Int) (X:Int) (Y:Int) (Z:Int) (aa:Int) (m:Sl) (n:Sl) (K:Value→World→Prop) (w:World):Prop:=
 New (.cells #[.int .i64 I,.string J,.int .i64 L,.int .i64 M,.int .i64 N,.int .i64 O,.int .i64 Q,.slice k.a k.len k.cap,.slice l.a l.len l.cap] 31 (0,0)) (fun d ad=>
 New (.cells #[.int .i64 T,.string U,.int .i64 V,.int .i64 X,.int .i64 Y,.int .i64 Z,.int .i64 aa,.slice m.a m.len m.cap,.slice n.a n.len n.cap] 31 (0,0)) (fun e o=>
 ∃ j:Sl,(At (fun b=>b=o) ⟨d,0 + 7,none⟩ [.slice j.a j.len j.cap])∧
 ∃ f:Sl,(At (fun b=>b=o) ⟨e,0 + 7,none⟩ [.slice f.a f.len f.cap])∧
 Calls Tryz.prog 60 #[.slice j.a j.len j.cap,.slice f.a f.len f.cap] o fun ab p=>
 ∃ q:Bool,(ab=.returned (.bool q))∧
 ∃ g:Sl,(At (fun b=>b=p) ⟨d,0 + 8,none⟩ [.slice g.a g.len g.cap])∧
 ∃ i:Sl,(At (fun b=>b=p) ⟨e,0 + 8,none⟩ [.slice i.a i.len i.cap])∧
 Calls Tryz.prog 61 #[.slice g.a g.len g.cap,.slice i.a i.len i.cap] p fun ac c=>
 ∃ r:Bool,(ac=.returned (.bool r))∧
 ∃ s:Int,(At (fun b=>b=c) ⟨d,0,none⟩ [.int .i64 s])∧
 ∃ t:Int,(At (fun b=>b=c) ⟨e,0,none⟩ [.int .i64 t])∧
 Br (s==t)
 (∃ u:ByteArray,(At (fun b=>b=c) ⟨d,0 + 1,none⟩ [.string u])∧
 ∃ v:ByteArray,(At (fun b=>b=c) ⟨e,0 + 1,none⟩ [.string v])∧
 Br (u.toList==v.toList)
 (∃ x:Int,(At (fun b=>b=c) ⟨d,0 + 2,none⟩ [.int .i64 x])∧
 ∃ y:Int,(At (fun b=>b=c) ⟨e,0 + 2,none⟩ [.int .i64 y])∧
 Br (x==y)
 (∃ z:Int,(At (fun b=>b=c) ⟨d,0 + 3,none⟩ [.int .i64 z])∧
 ∃ A:Int,(At (fun b=>b=c) ⟨e,0 + 3,none⟩ [.int .i64 A])∧
 Br (z==A)
 (∃ C:Int,(At (fun b=>b=c) ⟨d,0 + 4,none⟩ [.int .i64 C])∧
 ∃ D:Int,(At (fun b=>b=c) ⟨e,0 + 4,none⟩ [.int .i64 D])∧
 Br (C==D)
 (∃ E:Int,(At (fun b=>b=c) ⟨d,0 + 5,none⟩ [.int .i64 E])∧
 ∃ F:Int,(At (fun b=>b=c) ⟨e,0 + 5,none⟩ [.int .i64 F])∧
 Br (E==F)
 (∃ G:Int,(At (fun b=>b=c) ⟨d,0 + 6,none⟩ [.int .i64 G])∧
 ∃ H:Int,(At (fun b=>b=c) ⟨e,0 + 6,none⟩ [.int .i64 H])∧
 Br (G==H)
 (Br q
 (K (.bool r) c)
 (K (.bool false) c))
 (K (.bool false) c))
 (K (.bool false) c))
 (K (.bool false) c))
 (K (.bool false) c))
 (K (.bool false) c))
 (K (.bool false) c))
 (K (.bool false) c)) ad) w
theorem call20 (f:Int) (g:ByteArray) (i:Int) (j:Int) (k:Int) (l:Int) (m:Int) (b:Sl) (c:Sl) (n:Int) (o:ByteArray) (p:Int) (q:Int) (r:Int) (s:Int) (t:Int) (d:Sl) (e:Sl) (K:Value→World→Prop) (w:World) (h:B20 f g i j k l m b c n o p q r s t d e K w):Gets Tryz.prog 20 #[.agg #[.int .i64 f,.string g,.int .i64 i,.int .i64 j,.int .i64 k,.int .i64 l,.int .i64 m,.slice b.a b.len b.cap,.slice c.a c.len c.cap],.agg #[.int .i64 n,.string o,.int .i64 p,.int .i64 q,.int .i64 r,.int .i64 s,.int .i64 t,.slice d.a d.len d.cap,.slice e.a e.len e.cap]] w K:=cq (sk:=.leaf) Tryz.func20 (by kernel_rfl) (by kernel_rfl) (by kernel_rfl) h
end Go.Proofs.YtfgbbckfikiomaaGreatDoor
/- Words of 64 bits: the highest bit. No condition. -/
namespace Go.VC
set_option linter.unusedVariables false
theorem and_top {x:Nat} (h:x<18446744073709551616):x &&& 9223372036854775808=if x<9223372036854775808 then 0 else 9223372036854775808:=by
 have e:(9223372036854775808:Nat)=2 ^ 63:=by decide
 apply Nat.eq_of_testBit_eq
 intro i
 rw [Nat.testBit_and]
 by_cases hi:63=i
 ·subst hi
  have h1:x.testBit 63=decide (¬ x<9223372036854775808):=by
   rw [Nat.testBit_eq_decide_div_mod_eq,←e]
   exact decide_eq_decide.2 (by omega)
  have h2:Nat.testBit 9223372036854775808 63=true:=by rw [e,Nat.testBit_two_pow];simp
  rw [h1,h2]
  split
  ·rw [decide_eq_false (by omega)];simp
  ·rw [decide_eq_true (by assumption)];simp [h2]
 ·have h2:Nat.testBit 9223372036854775808 i=false:=by rw [e,Nat.testBit_two_pow];simp [hi]
  rw [h2]
  split<;>simp [h2]
theorem or_top {x:Nat} (h:x<9223372036854775808):x|||9223372036854775808=x + 9223372036854775808:=by
 have:=Nat.two_pow_add_eq_or_of_lt (i:=63) (b:=x) (by simpa using h) 1
 rw [Nat.or_comm]
 simp only [Nat.mul_one] at this
 have e:(2:Nat) ^ 63=9223372036854775808:=by decide
 rw [e] at this
 omega
theorem not_u64 {x:Nat} (h:x<18446744073709551616):IntKind.u64.wrap ((BitVec.ofInt IntKind.u64.bits (if IntKind.u64.signed=true then -1 else IntKind.u64.max) ^^^ BitVec.ofInt IntKind.u64.bits (x:Int)).toNat:Int)=((18446744073709551615 - x:Nat):Int):=by
 have e1:BitVec.ofInt IntKind.u64.bits (if IntKind.u64.signed=true then -1 else IntKind.u64.max)=BitVec.allOnes 64:=by
  show BitVec.ofInt 64 18446744073709551615=BitVec.allOnes 64
  decide
 have e2:(BitVec.ofInt 64 (x:Int)).toNat=x:=bv_toNat 64 x (by simpa using h)
 rw [e1]
 show IntKind.u64.wrap (((BitVec.allOnes 64 ^^^ BitVec.ofInt 64 (x:Int)).toNat:Nat):Int)=_
 rw [BitVec.xor_comm,BitVec.xor_allOnes,BitVec.toNat_not,e2]
 have e3:(2:Nat) ^ 64 - 1 - x=18446744073709551615 - x:=by
  have:(2:Nat) ^ 64=18446744073709551616:=by decide
  rw [this]
 rw [e3]
 exact wrapU64 (by omega) (by omega)
theorem andnot_top {k:Nat} (h:k<18446744073709551616) (h1:9223372036854775808≤k):bitI .andNot .u64 (k:Int) 9223372036854775808=((k - 9223372036854775808:Nat):Int):=by
 have e1:(BitVec.ofInt 64 (k:Int)).toNat=k:=bv_toNat 64 k (by simpa using h)
 have e2:(BitVec.ofInt 64 9223372036854775808).toNat=9223372036854775808:=by decide
 have e3:(BitVec.ofInt 64 (k:Int) &&& ~~~ BitVec.ofInt 64 9223372036854775808).toNat=k - 9223372036854775808:=by
  rw [BitVec.toNat_and,BitVec.toNat_not,e1,e2]
  have e4:(2:Nat) ^ 64 - 1 - 9223372036854775808=2 ^ 63 - 1:=by decide
  rw [e4,Nat.and_two_pow_sub_one_eq_mod]
  have e5:(2:Nat) ^ 63=9223372036854775808:=by decide
  rw [e5]
  omega
 show IntKind.u64.wrap (((BitVec.ofInt 64 (k:Int) &&& ~~~ BitVec.ofInt 64 9223372036854775808).toNat:Nat):Int)=_
 rw [e3]
 exact wrapU64 (by omega) (by omega)
end Go.VC
/- Packages fare, cmp: floats in order, their places. Condition: words. -/
namespace Go.Proofs.YtfgbbckfikiomaaGreatDoor
set_option linter.unusedVariables false
open Go Go.VC Ieee
variable {R:Cx} {Hs Rest:List HP} {w:World}
theorem fb_name : (Tryz.f149.name == "runtime.NumGoroutine") = false := by kernel_rfl
theorem fb_body:Tryz.f149.body.isNone=true:=by kernel_rfl
theorem fb_next:Extern.findNext Tryz.f149=none:=by kernel_rfl
theorem fb_find:Extern.find Tryz.f149=some Extern.MathFloatBits.float64bits:=by kernel_rfl
theorem ff_name : (Tryz.f151.name == "runtime.NumGoroutine") = false := by kernel_rfl
theorem ff_body:Tryz.f151.body.isNone=true:=by kernel_rfl
theorem ff_next:Extern.findNext Tryz.f151=none:=by kernel_rfl
theorem ff_find:Extern.find Tryz.f151=some Extern.MathFloatBits.float64frombits:=by kernel_rfl
theorem bits_run (x:Nat) (w:World):(callFunc 149 #[.float .f64 x]).run Tryz.prog w=.ok (.value (.int .u64 x)) w:=by
 rw [run_callFunc_extern Tryz.func149 fb_name fb_body fb_next fb_find]
 rfl
theorem from_run (n:Nat) (w:World):(callFunc 151 #[.int .u64 n]).run Tryz.prog w=.ok (.value (.float .f64 n)) w:=by
 rw [run_callFunc_extern Tryz.func151 ff_name ff_body ff_next ff_find]
 rfl
theorem key_spec {x:Nat} (hx:x<18446744073709551616) (hw:Sat R Hs w):Gets Tryz.prog 127 #[.float .f64 x] w fun v w'=>v=.int .u64 (keyF x:Nat)∧Sat R Hs w':=by
 apply call127
 refine ⟨_,w,bits_run x w,_,rfl,?_⟩
 have e1:bitI BinOp.and IntKind.u64 (x:Int) 9223372036854775808=((x &&& 9223372036854775808:Nat):Int):=andU64 (y:=9223372036854775808) hx (by decide)
 have e2:bitI BinOp.or IntKind.u64 (x:Int) 9223372036854775808=((x|||9223372036854775808:Nat):Int):=orU64 (y:=9223372036854775808) hx (by decide)
 rw [e1,e2,and_top hx]
 refine Br.mk (fun h=>⟨?_,hw⟩) (fun h=>⟨?_,hw⟩)
 ·rw [not_u64 hx]
  unfold keyF
  split at h
  ·simp at h
  ·rename_i h1;rw [if_neg h1]
 ·split at h
  ·rename_i h1
   rw [or_top h1]
   unfold keyF
   rw [if_pos h1]
  ·simp at h
theorem of_spec {k:Nat} (hk:k<18446744073709551616) (hw:Sat R Hs w):Gets Tryz.prog 150 #[.int .u64 k] w fun v w'=>v=.float .f64 (ofF k)∧Sat R Hs w':=by
 apply call150
 have e1:bitI BinOp.and IntKind.u64 (k:Int) 9223372036854775808=((k &&& 9223372036854775808:Nat):Int):=andU64 (y:=9223372036854775808) hk (by decide)
 unfold B150
 rw [e1,and_top hk]
 refine Br.mk (fun h=>?_) (fun h=>?_)
 ·rw [not_u64 hk]
  refine ⟨_,w,from_run _ w,_,rfl,?_,hw⟩
  unfold ofF
  split at h
  ·rename_i h1;rw [if_neg (by omega)]
  ·simp at h
 ·have h1:¬ k<9223372036854775808:=by
   intro h1
   rw [if_pos h1] at h
   simp at h
  have e2:=andnot_top hk (by omega)
  rw [e2]
  refine ⟨_,w,from_run _ w,_,rfl,?_,hw⟩
  unfold ofF
  rw [if_pos (by omega)]
theorem cmpF_lt (t1 t2:Operand) (T:TypeId) (x y:Nat) (w:World):((do eqGuard BinOp.lss T t1 t2 (.float .f64 x) (.float .f64 y);binOp BinOp.lss T (.float .f64 x) (.float .f64 y):Sem Value)).run Tryz.prog w=.ok (.bool (double.order x y==some .lt)) w:=by
 simp [eqGuard,binOp,Op.floatCmp,FloatKind.format]
theorem nan_spec {x:Nat} (hw:Sat R Hs w):Gets Tryz.prog 273 #[.float .f64 x] w fun v w'=>v=.bool (nanF x)∧Sat R Hs w':=by
 apply call273
 refine ⟨_,fun w' _=>cmp_ne _ _ _ _ _ w',?_,hw⟩
 have h:=ord_self x
 rw [bne,h,Bool.not_not]
theorem compareF_spec {x y:Nat} (hw:Sat R Hs w):Gets Tryz.prog 258 #[.float .f64 x,.float .f64 y] w fun v w'=>v=.int .i64 (rankF x y)∧Sat R Hs w':=by
 apply call258
 refine (nan_spec hw).use ?_
 clear hw
 rintro _ w ⟨rfl,hw⟩
 refine ⟨_,rfl,?_⟩
 refine (nan_spec hw).use ?_
 clear hw
 rintro _ w ⟨rfl,hw⟩
 refine ⟨_,rfl,?_⟩
 unfold rankF
 refine Br.mk (fun hx=>?_) (fun hx=>?_)
 ·refine Br.mk (fun hy=>⟨?_,hw⟩) (fun hy=>⟨?_,hw⟩)
  ·rw [kv_nan hx,kv_nan hy,if_neg (by omega),if_pos rfl]
  ·have:=kv_bd hy
   rw [kv_nan hx,if_pos (by omega)]
 ·refine Br.mk (fun hy=>⟨?_,hw⟩) (fun hy=>?_)
  ·have:=kv_bd hx
   rw [kv_nan hy,if_neg (by omega),if_neg (by omega)]
  ·obtain ⟨o1,o2,o3⟩:=ord_lt hx hy
   refine ⟨_,fun w' _=>cmpF_lt _ _ _ _ _ w',?_⟩
   rw [o1]
   refine Br.d (fun h=>⟨by rw [if_pos h],hw⟩) (fun h=>?_)
   refine ⟨_,fun w' _=>cmp_gt _ _ _ _ _ w',?_⟩
   rw [o3]
   refine Br.d (fun h2=>⟨by rw [if_neg h,if_neg (by omega)],hw⟩) (fun h2=>⟨by rw [if_neg h,if_pos (by omega)],hw⟩)
theorem rank_spec {x y:Nat} (hw:Sat R Hs w):Gets Tryz.prog 221 #[.float .f64 x,.float .f64 y] w fun v w'=>v=.int .i64 (rankF x y)∧Sat R Hs w':=by
 apply call221
 refine (compareF_spec hw).use ?_
 rintro _ w ⟨rfl,hw⟩
 exact ⟨_,rfl,rfl,hw⟩
def cmpI (x y:Int):Int:=if x<y then -1 else if y<x then 1 else 0
theorem compareI_spec {x y:Int} (hw:Sat R Hs w):Gets Tryz.prog 222 #[.int .i64 x,.int .i64 y] w fun v w'=>v=.int .i64 (cmpI x y)∧Sat R Hs w':=by
 apply call222
 have nan:∀ {z:Int} {w:World},Sat R Hs w→Gets Tryz.prog 259 #[.int .i64 z] w fun v w'=>v=.bool false∧Sat R Hs w':=fun {z w} hw=>by
  apply call259
  exact ⟨by simp,hw⟩
 refine (nan hw).use ?_
 clear hw
 rintro _ w ⟨rfl,hw⟩
 refine ⟨_,rfl,?_⟩
 refine (nan hw).use ?_
 clear hw
 rintro _ w ⟨rfl,hw⟩
 refine ⟨_,rfl,Br.f rfl (Br.f rfl ?_)⟩
 unfold cmpI
 refine Br.d (fun h=>⟨by rw [if_pos h],hw⟩) (fun h=>Br.d (fun h2=>⟨by rw [if_neg h,if_pos (by omega)],hw⟩) (fun h2=>⟨by rw [if_neg h,if_neg (by omega)],hw⟩))
end Go.Proofs.YtfgbbckfikiomaaGreatDoor
/- Package booking: a writer. Condition: bounds on lengths. -/
namespace Go.Proofs.YtfgbbckfikiomaaGreatDoor
set_option linter.unusedVariables false
open Go Go.VC
variable {R:Cx} {Hs Rest:List HP} {w:World}
abbrev wrp (p:Nat) (s:Sl):HP:=pts p (.cells [.slice s.a s.len s.cap].toArray 93 (0,0))
def WrB (p:Nat) (bs:List Int):HP:=exs fun s:Sl=>Star [wrp p s,Own s 5 (b8 bs)]
theorem Sat.wrB {p:Nat} {bs:List Int}:Sat R (WrB p bs::Hs) w↔∃ s:Sl,Sat R (wrp p s::Own s 5 (b8 bs)::Hs) w:=by
 unfold WrB
 rw [Sat.exs]
 exact ⟨fun ⟨s,h⟩=>⟨s,Sat.star.1 h⟩,fun ⟨s,h⟩=>⟨s,Sat.star.2 h⟩⟩
theorem nn_bd {n:Int} (h:n<9223372036854775808):0≤nn n∧nn n<9223372036854775808:=by unfold nn;omega
theorem nn_if (n:Int):(if 0>n then 0 else n)=nn n:=by unfold nn;split<;>omega
theorem wnums_spec {p:Nat} {s:Sl} {xs bs:List Int} (hxs:∀ x∈xs,x<9223372036854775808) (hl:bs.length + 9 * xs.length≤1099511627776) (hs:RoI R s xs) (hw:Sat R (WrB p bs::Hs) w):
  Gets Tryz.prog 49 #[.pointer (some ⟨p,0,none⟩),.slice s.a s.len s.cap] w fun v w'=>v=.tuple #[]∧Sat R (WrB p (bs++numsB (xs.map nn))::Hs) w':=by
 have hlen:=hs.len
 apply call49
 refine ⟨fun i w=>∃ k:Nat,i=k∧k≤xs.length∧Sat R (WrB p (bs++numsB ((xs.take k).map nn))::Hs) w,fun i _=>xs.length - i.toNat,⟨0,rfl,by omega,by simpa [numsB] using hw⟩,?_⟩
 clear hw
 rintro _ _ w ⟨k,rfl,hk,hw⟩
 refine Br.d (fun h=>?_) (fun h=>?_)
 ·have hkx:k<xs.length:=by omega
  have hx:=nn_bd (hxs xs[k] (List.getElem_mem _))
  have hxt:∀ x∈(xs.take k).map nn,0≤x∧x<18446744073709551616:=fun x hx=>by
   obtain ⟨y,hy,rfl⟩:=List.mem_map.1 hx
   have:=nn_bd (hxs y (List.mem_of_mem_take hy));omega
  have hnl:=numsB_len hxt
  rw [List.length_map,List.length_take] at hnl
  refine Ro.ix hs (eqS hw) k rfl hkx ?_
  obtain ⟨s0,hw⟩:=Sat.wrB.1 hw
  refine drw_ruleT hw fun w hw=>?_
  refine NilP.mk rfl ⟨s0,At.own selfS (by exact ⟨rfl,trivial⟩),?_⟩
  rw [nn_if]
  obtain ⟨n,hn⟩:=Int.eq_ofNat_of_zero_le hx.1
  rw [hn,wrapU64 (by omega) (by omega)]
  refine (number_spec (by omega) hw).use ?_
  rintro _ w ⟨t,rfl,hw⟩
  refine ⟨t,rfl,hw.absorb,?_⟩
  have hw:Sat R (Own s0 5 (b8 (bs++numsB ((xs.take k).map nn)))::Own t 5 (b8 (numB n))::wrp p s0::VC.tru::Hs) w:=hw.arr
  have hnb:=numB_len (n:=n) (by omega)
  refine appendOO elB8 (s:=s0) (n:=1099511627790) Tryz.underlying42 hw (by rw [List.length_append];omega) (by omega) (by omega) fun s2 w hw=>?_
  have hw:Sat R (wrp p s0::Own s2 5 (b8 (bs++numsB ((xs.take k).map nn)++numB n))::Hs) w:=by
   have h:Sat R (Own t 5 (b8 (numB n))::VC.tru::wrp p s0::Own s2 5 (b8 (bs++numsB ((xs.take k).map nn)++numB n))::Hs) w:=hw.arr
   exact h.drop.drop
  refine NilP.mk rfl ?_
  refine store_rule hw (by kernel_rfl) rfl (by simp [Value.cells]) fun w hw=>?_
  have hw:=hw.re (wrp p s2)
  rw [wrap64 (by omega) (by omega)]
  refine ⟨⟨k + 1,by omega,by omega,Sat.wrB.2 ⟨s2,?_⟩⟩,by dsimp only;omega⟩
  have e:(xs.take (k + 1)).map nn=(xs.take k).map nn++[nn xs[k]]:=by rw [List.take_add_one,List.getElem?_eq_getElem hkx,List.map_append];rfl
  rw [e,numsB_app,show numsB [nn xs[k]]=numB (nn xs[k]).toNat by simp [numsB],hn,Int.toNat_natCast,←List.append_assoc]
  exact hw
 ·have:k=xs.length:=by omega
  subst this
  rw [List.take_length] at hw
  exact ⟨rfl,hw⟩
theorem wtext_spec {p:Nat} {s:Sl} {d bs:List Int} (hl:bs.length + d.length≤1099511627776) (hd:d.length≤1099511627776) (hs:Ro R s (b8 d)) (hw:Sat R (WrB p bs::Hs) w):
  Gets Tryz.prog 52 #[.pointer (some ⟨p,0,none⟩),.slice s.a s.len s.cap] w fun v w'=>v=.tuple #[]∧Sat R (WrB p (bs++textB d)::Hs) w':=by
 apply call52
 obtain ⟨s0,hw⟩:=Sat.wrB.1 hw
 refine drw_ruleT hw fun w hw=>?_
 refine NilP.mk rfl ⟨s0,At.own selfS (by exact ⟨rfl,trivial⟩),?_⟩
 refine (ftext_spec hs hd hw).use ?_
 rintro _ w ⟨t,rfl,hw⟩
 refine ⟨t,rfl,hw.absorb,?_⟩
 have hw:Sat R (Own s0 5 (b8 bs)::Own t 5 (b8 (textB d))::wrp p s0::VC.tru::Hs) w:=hw.arr
 have hnb:=numB_len (n:=d.length) (by omega)
 have htl:(textB d).length≤d.length + 9:=by unfold textB;rw [List.length_append];omega
 refine appendOO elB8 (s:=s0) (n:=1099511627800) Tryz.underlying42 hw (by omega) (by omega) (by omega) fun s2 w hw=>?_
 have hw:Sat R (wrp p s0::Own s2 5 (b8 (bs++textB d))::Hs) w:=by
  have h:Sat R (Own t 5 (b8 (textB d))::VC.tru::wrp p s0::Own s2 5 (b8 (bs++textB d))::Hs) w:=hw.arr
  exact h.drop.drop
 refine NilP.mk rfl ?_
 refine store_rule hw (by kernel_rfl) rfl (by simp [Value.cells]) fun w hw=>?_
 have hw:=hw.re (wrp p s2)
 exact ⟨rfl,Sat.wrB.2 ⟨s2,hw⟩⟩
end Go.Proofs.YtfgbbckfikiomaaGreatDoor
/- Package booking: whether a command may be. Condition: bounds on lengths. -/
namespace Go.Proofs.YtfgbbckfikiomaaGreatDoor
set_option linter.unusedVariables false
open Go Go.VC
open Classical
variable {R:Cx} {Hs Rest:List HP} {w:World}
abbrev cmV (c:Cm) (sg sp:Sl):List Value:=[.int .i64 c.kind,.string c.pnr,.int .i64 c.flt,.int .i64 c.cls,.int .i64 c.many,.int .i64 c.time,.float .f64 c.sc,.string c.lab,.int .i64 c.rows,.slice sg.a sg.len sg.cap,.slice sp.a sp.len sp.cap]
abbrev cmC (b:Nat) (c:Cm) (sg sp:Sl):HP:=pts b (.cells (cmV c sg sp).toArray 38 (0,0))
theorem right_iff {c:Cm}:RightC c↔(∀ n∈[c.flt,c.cls,c.many,c.rows]++c.grps,numOk n)∧(c.pnr.size≤16∧c.lab.size≤16)∧(c.grps.length≤16∧c.parts.length≤16)∧1≤c.kind∧c.kind≤9∧0≤c.time∧c.time≤1099511627776:=by
 constructor
 ·intro h
  refine ⟨fun n hn=>?_,⟨h.pnr,h.lab⟩,⟨h.gl,h.pl⟩,h.kind.1,h.kind.2,h.time.1,h.time.2⟩
  simp only [List.cons_append,List.nil_append,List.mem_cons] at hn
  rcases hn with rfl|rfl|rfl|rfl|hn
  ·exact h.flt
  ·exact h.cls
  ·exact h.many
  ·exact h.rows
  ·exact h.grps n hn
 ·rintro ⟨h1,⟨h2,h3⟩,⟨h4,h5⟩,h6,h7,h8,h9⟩
  exact ⟨h1 _ (by simp),h1 _ (by simp),h1 _ (by simp),h1 _ (by simp),fun n hn=>h1 n (by simp [hn]),h2,h3,h4,h5,⟨h6,h7⟩,h8,h9⟩
theorem bodd_spec {n:Int}:Gets Tryz.prog 108 #[.int .i64 n] w fun v w'=>v=.bool (decide (n<0∨n>9999))∧w'=w:=by
 apply call108
 refine Br.d (fun h=>⟨by rw [decide_eq_true (by omega)],rfl⟩) (fun h=>⟨?_,rfl⟩)
 congr 1
 exact decide_eq_decide.2 (by omega)
set_option maxHeartbeats 400000 in
theorem bright_spec {c:Cm} {sg sp:Sl} (hg:RoI R sg c.grps) (hgl:c.grps.length≤17592186043904) (hp:sp.len=c.parts.length) (hw:Sat R Hs w):
  Gets Tryz.prog 41 #[.agg #[.int .i64 c.kind,.string c.pnr,.int .i64 c.flt,.int .i64 c.cls,.int .i64 c.many,.int .i64 c.time,.float .f64 c.sc,.string c.lab,.int .i64 c.rows,.slice sg.a sg.len sg.cap,.slice sp.a sp.len sp.cap]] w fun v w'=>v=.bool (decide (RightC c))∧Sat R Hs w':=by
 have hglen:=hg.len
 apply call41
 refine new_rule hw fun b w hw=>?_
 have hw:Sat R (cmC b c sg sp::Hs) w:=hw
 repeat (first|refine NilP.mk rfl ?_|refine ⟨_,At.own selfS (by exact ⟨rfl,trivial⟩),?_⟩|refine ⟨_,At.own (eqS hw) (by exact ⟨rfl,trivial⟩),?_⟩|refine ⟨_,(by rw [add_off];exact At.own selfS (by exact ⟨rfl,trivial⟩)),?_⟩|refine ⟨_,(by rw [add_off];exact At.own (eqS hw) (by exact ⟨rfl,trivial⟩)),?_⟩)
 refine new_rule hw fun b2 w hw=>?_
 have hw:Sat R (Own ⟨some ⟨b2,0,none⟩,4,4⟩ 3 (intsI [c.flt,c.cls,c.many,c.rows])::cmC b c sg sp::Hs) w:=own_lit hw
 refine ⟨sg,At.own (eqS hw) (by exact ⟨rfl,trivial⟩),?_⟩
 refine appendRI (n:=17592186044416) (s:=⟨some ⟨b2,0,none⟩,4,4⟩) (ty:=28) elI8 Tryz.underlying28 hw hg (by simp;omega) (by omega) (by omega) fun t w hw=>?_
 obtain ⟨L,hL⟩:∃ L,L=[c.flt,c.cls,c.many,c.rows]++c.grps:=⟨_,rfl⟩
 have hLl:L.length=4 + c.grps.length:=by rw [hL];simp;omega
 rw [←hL] at hw
 have htl:t.len=L.length:=by have:=Own.len hw;simpa using this
 refine ⟨fun i w=>∃ k:Nat,i=k∧k≤L.length∧(∀ n∈L.take k,numOk n)∧Sat R (Own t 3 (intsI L)::cmC b c sg sp::Hs) w,fun i _=>L.length - i.toNat,⟨0,rfl,by omega,by simp,hw⟩,?_⟩
 clear hw
 rintro _ _ w ⟨k,rfl,hk,hok,hw⟩
 have no:¬ RightC c→∀ {w},Sat R (Own t 3 (intsI L)::cmC b c sg sp::Hs) w→(Value.bool false=.bool (decide (RightC c))∧Sat R Hs w):=fun h w hw=>⟨by rw [decide_eq_false h],hw.drop.drop⟩
 refine Br.d (fun h=>?_) (fun h=>?_)
 ·have hkx:k<L.length:=by omega
  refine Own.ix hw (eqS hw) k rfl hkx ?_
  refine bodd_spec.use ?_
  rintro _ w2 ⟨rfl,rfl⟩
  refine ⟨_,rfl,Br.mk (fun h2=>no (fun hr=>?_) hw) (fun h2=>?_)⟩
  ·have h3:=(right_iff.1 hr).1 L[k] (by rw [←hL];exact List.getElem_mem hkx)
   have h4:=of_decide_eq_true h2
   unfold numOk at h3
   omega
  ·rw [wrap64 (by omega) (by omega)]
   refine ⟨⟨k + 1,by omega,by omega,fun n hn=>?_,hw⟩,by dsimp only;omega⟩
   rw [List.take_add_one,List.getElem?_eq_getElem hkx] at hn
   rcases List.mem_append.1 hn with hn|hn
   ·exact hok n hn
   ·rw [show n=L[k] by simpa using hn]
    have h4:=of_decide_eq_false h2
    unfold numOk
    omega
 ·have hall:∀ n∈L,numOk n:=by rw [List.take_of_length_le (by omega)] at hok;exact hok
  refine ⟨fun t6 w=>t6=decide (c.pnr.size≤16∧c.lab.size≤16)∧Sat R (Own t 3 (intsI L)::cmC b c sg sp::Hs) w,⟨c.pnr,At.own (eqS hw) (by exact ⟨rfl,trivial⟩),Br.d (fun h=>?_) (fun h=>?_)⟩,?_⟩
  ·refine ⟨c.lab,At.own (eqS hw) (by exact ⟨rfl,trivial⟩),?_,hw⟩
   exact decide_eq_decide.2 (by omega)
  ·exact ⟨by rw [decide_eq_false (by omega)],hw⟩
  clear hw
  rintro _ _ w ⟨rfl,hw⟩
  refine ⟨fun t7 w=>t7=decide (c.grps.length≤16∧c.parts.length≤16)∧Sat R (Own t 3 (intsI L)::cmC b c sg sp::Hs) w,⟨sg,At.own (eqS hw) (by exact ⟨rfl,trivial⟩),Br.d (fun h=>?_) (fun h=>?_)⟩,?_⟩
  ·refine ⟨sp,At.own (eqS hw) (by exact ⟨rfl,trivial⟩),?_,hw⟩
   exact decide_eq_decide.2 (by omega)
  ·exact ⟨by rw [decide_eq_false (by omega)],hw⟩
  clear hw
  rintro _ _ w ⟨rfl,hw⟩
  have no2:¬ RightC c→(Value.bool false=.bool (decide (RightC c))∧Sat R Hs w):=fun h=>no h hw
  refine Br.d (fun h1=>?_) (fun h1=>no2 fun hr=>h1 (right_iff.1 hr).2.1)
  refine Br.d (fun h2=>?_) (fun h2=>no2 fun hr=>h2 (right_iff.1 hr).2.2.1)
  refine ⟨c.kind,At.own (eqS hw) (by exact ⟨rfl,trivial⟩),Br.d (fun h3=>?_) (fun h3=>no2 fun hr=>h3 (right_iff.1 hr).2.2.2.1)⟩
  refine ⟨c.kind,At.own (eqS hw) (by exact ⟨rfl,trivial⟩),Br.d (fun h4=>?_) (fun h4=>no2 fun hr=>h4 (right_iff.1 hr).2.2.2.2.1)⟩
  refine ⟨c.time,At.own (eqS hw) (by exact ⟨rfl,trivial⟩),Br.d (fun h5=>?_) (fun h5=>no2 fun hr=>h5 (right_iff.1 hr).2.2.2.2.2.1)⟩
  refine ⟨c.time,At.own (eqS hw) (by exact ⟨rfl,trivial⟩),?_,hw.drop.drop⟩
  congr 1
  refine decide_eq_decide.2 ?_
  rw [right_iff,←hL]
  exact ⟨fun h6=>⟨hall,h1,h2,h3,h4,h5,h6⟩,fun h6=>h6.2.2.2.2.2.2⟩
end Go.Proofs.YtfgbbckfikiomaaGreatDoor
/- Package booking: a writer's steps, as Encode and Answer take them. Condition: bounds on lengths. -/
namespace Go.Proofs.YtfgbbckfikiomaaGreatDoor
set_option linter.unusedVariables false
open Go Go.VC
variable {R:Cx} {Hs Rest:List HP} {w:World}
theorem wlit_spec {p b n:Nat} {xs bs:List Int} (hn:n=xs.length) (hxs:∀ x∈xs,x<9223372036854775808) (hl:bs.length + 9 * xs.length≤1099511627776) (hw:Sat R (pts b (.cells (intsI xs).toArray 3 (0,0))::WrB p bs::Hs) w):
  Gets Tryz.prog 49 #[.pointer (some ⟨p,0,none⟩),.slice (some ⟨b,0,none⟩) n n] w fun v w'=>v=.tuple #[]∧Sat R (WrB p (bs++numsB (xs.map nn))::Hs) w':=by
 have hw:Sat R (Own ⟨some ⟨b,0,none⟩,n,n⟩ 3 (intsI xs)::WrB p bs::Hs) w:=own_lit hw (by rw [List.length_map];exact hn)
 obtain ⟨R',hr,_,hw,back⟩:=Own.lendI hw (by omega)
 refine (wnums_spec hxs hl hr hw).use ?_
 rintro _ w ⟨rfl,hw⟩
 exact ⟨_,rfl,rfl,(back hw).drop⟩
end Go.Proofs.YtfgbbckfikiomaaGreatDoor
/- Package booking: Encode. Condition: bounds on lengths; words. -/
namespace Go.Proofs.YtfgbbckfikiomaaGreatDoor
set_option linter.unusedVariables false
open Go Go.VC
open Classical
variable {R:Cx} {Hs Rest:List HP} {w:World}
theorem numsB_sp (a:Int) (l:List Int):numsB (a::l)=numsB [a]++numsB l:=numsB_one a l
theorem nn1 {a:Int} (h:0≤a):numsB ([a].map nn)=numsB [a]:=by
 show numsB [nn a]=_
 rw [nn_id h]
end Go.Proofs.YtfgbbckfikiomaaGreatDoor
/- Package booking: Answer. Condition: bounds on lengths. -/
namespace Go.Proofs.YtfgbbckfikiomaaGreatDoor
set_option linter.unusedVariables false
open Go Go.VC
variable {R:Cx} {Hs Rest:List HP} {w:World}
abbrev rpV (r:Rp) (sl sb:Sl):List Value:=[.int .i64 r.code,.string r.pnr,.int .i64 r.state,.int .i64 r.flt,.int .i64 r.cls,.int .i64 r.many,.int .i64 r.time,.slice sl.a sl.len sl.cap,.slice sb.a sb.len sb.cap]
abbrev rpC (b:Nat) (r:Rp) (sl sb:Sl):HP:=pts b (.cells (rpV r sl sb).toArray 31 (0,0))
structure RpW (r:Rp):Prop where
 ints:∀ x∈[r.code,r.state,r.flt,r.cls,r.many,r.time]++r.left,x<9223372036854775808
 pnr:r.pnr.size≤100000
 ll:r.left.length≤100000
 bl:r.labs.length≤100000
 labs:∀ s∈r.labs,s.size≤100000
end Go.Proofs.YtfgbbckfikiomaaGreatDoor
/- Package booking: a reader. Condition: bounds on lengths. -/
namespace Go.Proofs.YtfgbbckfikiomaaGreatDoor
set_option linter.unusedVariables false
open Go Go.VC
variable {R:Cx} {Hs Rest:List HP} {w:World}
theorem bnum_spec {r:Nat} {rd:Rd} {most:Int} (hb:Bytes rd.bs) (h0:0≤most) (h1:most<9223372036854775808) (hw:Sat R (RdAt r rd::Hs) w):
  Gets Tryz.prog 78 #[.agg #[.pointer (some ⟨r,0,none⟩)],.int .i64 most] w fun v w'=>v=.int .i64 (rdNum most rd).1∧Sat R (RdAt r (rdNum most rd).2::Hs) w':=by
 have hv:=rdNum_val hb h0
 apply call78
 refine new_rule hw fun b w hw=>?_
 refine ⟨_,At.own (eqS hw) (by exact ⟨rfl,trivial⟩),?_⟩
 rw [wrapU64 (by omega) (by omega)]
 refine (rnum_spec hb hw.drop).use ?_
 rintro _ w ⟨rfl,hw⟩
 refine ⟨_,rfl,?_,hw⟩
 rw [wrap64 (by omega) (by omega)]
end Go.Proofs.YtfgbbckfikiomaaGreatDoor




/- Package booking: Decode. Condition: bounds on lengths. -/
namespace Go.Proofs.YtfgbbckfikiomaaGreatDoor
set_option linter.unusedVariables false
open Go Go.VC
open Classical
variable {R:Cx} {Hs Rest:List HP} {w:World}
abbrev nilSl:Sl:=⟨none,0,0⟩
abbrev cmHead (k:Int) (p:ByteArray) (f c m t:Int):Cm:=⟨k,p,f,c,m,t,0,ByteArray.mk #[],0,[],[]⟩
abbrev cmNew (b:Nat):HP:=cmC b (cmHead 0 (ByteArray.mk #[]) 0 0 0 0) nilSl nilSl
section
variable (S:World→Prop) (J:Option Addr→World→Prop) (b4 b:Nat) (r:Option Addr)
end
section
variable {J:Option Addr→World→Prop} {b4 b r:Nat} {rd:Rd} {k f c m t:Int} {p:ByteArray}
def hd2 (rd:Rd):(Int × Int × Int × Int) × Rd:=
 let f:=rdNum 9999 rd
 let c:=rdNum 9999 f.2
 let m:=rdNum 9999 c.2
 let t:=rdNum 1099511627776 m.2
 ((f.1,c.1,m.1,t.1),t.2)
end
end Go.Proofs.YtfgbbckfikiomaaGreatDoor

/- Package booking: Read. Condition: bounds on lengths. -/
namespace Go.Proofs.YtfgbbckfikiomaaGreatDoor
set_option linter.unusedVariables false
open Go Go.VC
open Classical
variable {R:Cx} {Hs Rest:List HP} {w:World}
abbrev rpHead (k:Int) (p:ByteArray) (s f c m t:Int):Rp:=⟨k,p,s,f,c,m,t,[],[]⟩
abbrev rpNew (b:Nat):HP:=rpC b (rpHead 0 (ByteArray.mk #[]) 0 0 0 0 0) nilSl nilSl
section
variable (S:World→Prop) (J:Option Addr→World→Prop) (b4 b:Nat) (r:Option Addr)
end
section
variable {J:Option Addr→World→Prop} {b4 b r:Nat} {rd:Rd} {k s f c m t:Int} {p:ByteArray}
end
end Go.Proofs.YtfgbbckfikiomaaGreatDoor





/- The formulas of functions of this seat's translation, printed by a program of mine off the translation; each is proved equal to 'fnF' of the function's body, so it is enough for the call. No condition. -/
namespace Go.Proofs.YtfgbbckfikiomaaGreatDoor
open Go Go.VC
set_option linter.unusedVariables false
set_option maxRecDepth 10000
def B12  (K:Value→World→Prop) (w:World):Prop:=
 Calls Tryz.prog 14 #[] w fun I G=>
 ∃ l:Option Addr,(I=.returned (.pointer l))∧
 Br l.isNone
 (K (.bool false) G)
 (Calls Tryz.prog 38 #[] G fun J M=>
 ∃ o:Int,∃ p:ByteArray,∃ q:Int,∃ r:Int,∃ s:Int,∃ t:Int,∃ u:Nat,∃ v:ByteArray,∃ x:Int,∃ e:Sl,∃ d:Sl,(J=.returned (.agg #[.int .i64 o,.string p,.int .i64 q,.int .i64 r,.int .i64 s,.int .i64 t,.float .f64 u,.string v,.int .i64 x,.slice e.a e.len e.cap,.slice d.a d.len d.cap]))∧
 Calls Tryz.prog 15 #[.pointer l,.agg #[.int .i64 o,.string p,.int .i64 q,.int .i64 r,.int .i64 s,.int .i64 t,.float .f64 u,.string v,.int .i64 x,.slice e.a e.len e.cap,.slice d.a d.len d.cap]] M fun L N=>
 ∃ y:Int,∃ z:ByteArray,∃ A:Int,∃ C:Int,∃ D:Int,∃ E:Int,∃ F:Int,∃ f:Sl,∃ g:Sl,(L=.returned (.agg #[.int .i64 y,.string z,.int .i64 A,.int .i64 C,.int .i64 D,.int .i64 E,.int .i64 F,.slice f.a f.len f.cap,.slice g.a g.len g.cap]))∧
 New (.cells #[.int .i64 0,.string (ByteArray.mk #[]),.int .i64 0,.int .i64 0,.int .i64 0,.int .i64 0,.int .i64 0,.slice none 0 0,.slice none 0 0] 31 (0,0)) (fun j O=>
 ∃ b:World,((Instr.storeAt 31 (.pointer ((some ⟨j,0,none⟩))) (.agg #[.int .i64 y,.string z,.int .i64 A,.int .i64 C,.int .i64 D,.int .i64 E,.int .i64 F,.slice f.a f.len f.cap,.slice g.a g.len g.cap])).run Tryz.prog O=.ok () b)∧
 ∃ m:Int,(At (fun c=>c=b) ⟨j,0,none⟩ [.int .i64 m])∧
 Br (m==0)
 (∃ k:Sl,(At (fun c=>c=b) ⟨j,0 + 7,none⟩ [.slice k.a k.len k.cap])∧
 Br ((↑k.len:Int)==1)
 (∃ i:Sl,(At (fun c=>c=b) ⟨j,0 + 7,none⟩ [.slice i.a i.len i.cap])∧
 Rng 0 i.len (NilP i.a fun H=>
 ∃ n:Int,(At (fun c=>c=b) (Addr.add H 0) [.int .i64 n])∧
 K (.bool (n==2)) b))
 (K (.bool false) b))
 (K (.bool false) b)) N)
theorem call12  (K:Value→World→Prop) (w:World) (h:B12  K w):Gets Tryz.prog 12 #[] w K:=cq (sk:=.leaf) Tryz.func12 (by kernel_rfl) (by kernel_rfl) (by kernel_rfl) h
def B38  (K:Value→World→Prop) (w:World):Prop:=
 New (.cells #[.int .i64 0,.string (ByteArray.mk #[]),.int .i64 0,.int .i64 0,.int .i64 0,.int .i64 0,.float .f64 0,.string (ByteArray.mk #[]),.int .i64 0,.slice none 0 0,.slice none 0 0] 38 (0,0)) (fun e s=>
 New (.cells #[.int .i64 2] 3 (0,0)) (fun p t=>
 New (.cells #[.float .f64 4607182418800017408] 33 (0,0)) (fun q u=>
 ∃ d:World,((Instr.storeAt 38 (.pointer ((some ⟨e,0,none⟩))) (.agg #[.int .i64 1,.string (ByteArray.mk #[]),.int .i64 7,.int .i64 0,.int .i64 0,.int .i64 0,.float .f64 0,.string (ByteArray.mk #[]),.int .i64 1,.slice ((some ⟨p,0,none⟩)) 1 1,.slice ((some ⟨q,0,none⟩)) 1 1])).run Tryz.prog u=.ok () d)∧
 ∃ f:Int,∃ g:ByteArray,∃ i:Int,∃ j:Int,∃ k:Int,∃ l:Int,∃ m:Nat,∃ n:ByteArray,∃ o:Int,∃ c:Sl,∃ b:Sl,(At (fun r=>r=d) ⟨e,0,none⟩ [.int .i64 f,.string g,.int .i64 i,.int .i64 j,.int .i64 k,.int .i64 l,.float .f64 m,.string n,.int .i64 o,.slice c.a c.len c.cap,.slice b.a b.len b.cap])∧
 K (.agg #[.int .i64 f,.string g,.int .i64 i,.int .i64 j,.int .i64 k,.int .i64 l,.float .f64 m,.string n,.int .i64 o,.slice c.a c.len c.cap,.slice b.a b.len b.cap]) d) t) s) w
theorem call38  (K:Value→World→Prop) (w:World) (h:B38  K w):Gets Tryz.prog 38 #[] w K:=cq (sk:=.leaf) Tryz.func38 (by kernel_rfl) (by kernel_rfl) (by kernel_rfl) h
def B13 (d:Sl) (K:Value→World→Prop) (w:World):Prop:=
 ∃ (j:Int→World→Prop) (r:Int→World→Nat),(j 0 w)∧∀ (s:Env) (b:Int) (f:World),j b f→
 ∃ (k:World→Prop),(Br (decide (b<(↑d.len:Int)))
 (Br (decide (b<400))
 (k  f)
 (K (.bool false) f))
 (K (.bool false) f))∧
 ∀ (t:Env)  (c:World),k  c→
 Rng b d.len (NilP d.a fun l=>
 ∃ g:Sl,(At (fun e=>e=c) ⟨(l.add (mulS b.toNat 11)).block,(l.add (mulS b.toNat 11)).off + 8 + 1,none⟩ [.slice g.a g.len g.cap])∧
 Br (decide ((↑g.len:Int)>100))
 (K (.bool true) c)
 (Rng b d.len (NilP d.a fun m=>
 ∃ i:Sl,(At (fun e=>e=c) ⟨(m.add (mulS b.toNat 11)).block,(m.add (mulS b.toNat 11)).off + 10,none⟩ [.slice i.a i.len i.cap])∧
 Br (decide ((↑i.len:Int)>100))
 (K (.bool true) c)
 (Rng b d.len (NilP d.a fun n=>
 ∃ p:ByteArray,(At (fun e=>e=c) ⟨(n.add (mulS b.toNat 11)).block,(n.add (mulS b.toNat 11)).off + 1,none⟩ [.string p])∧
 Br (decide ((↑p.size:Int)>1000))
 (K (.bool true) c)
 (Rng b d.len (NilP d.a fun o=>
 ∃ q:ByteArray,(At (fun e=>e=c) ⟨(o.add (mulS b.toNat 11)).block,(o.add (mulS b.toNat 11)).off + 7,none⟩ [.string q])∧
 Br (decide ((↑q.size:Int)>1000))
 (K (.bool true) c)
 ((j (IntKind.i64.wrap (b + 1)) c)∧r (IntKind.i64.wrap (b + 1)) c<r b f))))))))
def sk13:Sk:=(.seq .leaf (.seq (.seq .leaf (.block (.loop [3] [(.int .i64)] [2,3,4,5,6,7,8,9,10,11,12,13,14,15,16,17,18,19,20,21,22,23,24,25,26,27,28,29,30,31,32,33,34,35,36,37,38,39,40,41,42,43,44,45,46,47,48] (.cut [] [] [4,5,6,7,8,9,10,11] .leaf .leaf)))) .leaf))
theorem call13 (b:Sl) (K:Value→World→Prop) (w:World) (h:B13 b K w):Gets Tryz.prog 13 #[.slice b.a b.len b.cap] w K:=cq (sk:=sk13) Tryz.func13 (by kernel_rfl) (by kernel_rfl) (by kernel_rfl) h
def B11 (n:Sl) (j:Sl) (K:Value→World→Prop) (w:World):Prop:=
 Calls Tryz.prog 12 #[] w fun cx dk=>
 ∃ J:Bool,(cx=.returned (.bool J))∧
 Calls Tryz.prog 13 #[.slice n.a n.len n.cap] dk fun cy dn=>
 ∃ am:Bool,(cy=.returned (.bool am))∧
 Calls Tryz.prog 13 #[.slice j.a j.len j.cap] dn fun c5 Q=>
 ∃ an:Bool,(c5=.returned (.bool an))∧
 ∃ (ah:World→Prop),(Br (!J)
 (K (.bool J) Q)
 (Br am
 (K (.bool J) Q)
 (Br an
 (K (.bool J) Q)
 (ah  Q))))∧
 ∀ (dv:Env)  (cp:World),ah  cp→
 Calls Tryz.prog 14 #[] cp fun c6 dt=>
 ∃ o:Option Addr,(c6=.returned (.pointer o))∧
 ∃ (V:World→Prop),(∃ (T:Int→World→Prop) (cs:Int→World→Nat),(T 0 dt)∧∀ (dw:Env) (i:Int) (I:World),T i I→
 Br (decide (i<(↑n.len:Int)))
 (Br (decide (i<60))
 (Rng i n.len (NilP n.a fun cu=>
 ∃ ao:Int,∃ ap:ByteArray,∃ aq:Int,∃ ar:Int,∃ au:Int,∃ av:Int,∃ aw:Nat,∃ ax:ByteArray,∃ ay:Int,∃ q:Sl,∃ p:Sl,(At (fun b=>b=I) (Addr.add cu (mulS i.toNat 11)) [.int .i64 ao,.string ap,.int .i64 aq,.int .i64 ar,.int .i64 au,.int .i64 av,.float .f64 aw,.string ax,.int .i64 ay,.slice q.a q.len q.cap,.slice p.a p.len p.cap])∧
 Calls Tryz.prog 15 #[.pointer o,.agg #[.int .i64 ao,.string ap,.int .i64 aq,.int .i64 ar,.int .i64 au,.int .i64 av,.float .f64 aw,.string ax,.int .i64 ay,.slice q.a q.len q.cap,.slice p.a p.len p.cap]] I fun c7 cq=>
 ∃ dd:Int,∃ de:ByteArray,∃ df:Int,∃ dg:Int,∃ dh:Int,∃ di:Int,∃ dj:Int,∃ Z:Sl,∃ aa:Sl,(c7=.returned (.agg #[.int .i64 dd,.string de,.int .i64 df,.int .i64 dg,.int .i64 dh,.int .i64 di,.int .i64 dj,.slice Z.a Z.len Z.cap,.slice aa.a aa.len aa.cap]))∧
 (T (IntKind.i64.wrap (i + 1)) cq)∧cs (IntKind.i64.wrap (i + 1)) cq<cs i I))
 (V  I))
 (V  I))∧
 ∀ (dx:Env)  (cr:World),V  cr→
 Calls Tryz.prog 18 #[.pointer o] cr fun c8 du=>
 ∃ r:Sl,(c8=.returned (.slice r.a r.len r.cap))∧
 Calls Tryz.prog 37 #[.slice r.a r.len r.cap] du fun c9 ab=>
 ∃ k:Option Addr,∃ az:Int,(c9=.returned (.tuple #[.pointer k,.int .i64 az]))∧
 ∃ (ai:World→Prop),(Br (az !=0)
 (K (.bool false) ab)
 (Br k.isNone
 (K (.bool false) ab)
 (ai  ab)))∧
 ∀ (dy:Env)  (co:World),ai  co→
 ∃ (U:Int→World→Prop) (ct:Int→World→Nat),(U 0 co)∧∀ (dz:Env) (e:Int) (L:World),U e L→
 ∃ (aj:World→Prop),(Br (decide (e<(↑j.len:Int)))
 (Br (decide (e<60))
 (aj  L)
 (Drw L fun X dl=>
 Calls Tryz.prog 18 #[.pointer o] dl fun da M=>
 ∃ c:Sl,(da=.returned (.slice c.a c.len c.cap))∧
 (X M)∧
 (∃ cc:ByteArray,(∀ b,(fun b=>b=M) b→((convert 42 9 (.slice c.a c.len c.cap))).run Tryz.prog b=.ok (.string cc) b)∧
 Calls Tryz.prog 18 #[.pointer k] M fun db ac=>
 ∃ G:Sl,(db=.returned (.slice G.a G.len G.cap))∧
 (X ac)∧
 ∃ ci:ByteArray,(∀ b,(fun b=>b=ac) b→((convert 42 9 (.slice G.a G.len G.cap))).run Tryz.prog b=.ok (.string ci) b)∧
 K (.bool (cc.toList==ci.toList)) ac)∧
 Calls Tryz.prog 18 #[.pointer k] M fun dc l=>
 ∃ f:Sl,(dc=.returned (.slice f.a f.len f.cap))∧
 (X l)∧
 (∃ cd:ByteArray,(∀ b,(fun b=>b=l) b→((convert 42 9 (.slice c.a c.len c.cap))).run Tryz.prog b=.ok (.string cd) b)∧
 ∃ cj:ByteArray,(∀ b,(fun b=>b=l) b→((convert 42 9 (.slice f.a f.len f.cap))).run Tryz.prog b=.ok (.string cj) b)∧
 K (.bool (cd.toList==cj.toList)) l)∧
 ∃ ck:ByteArray,(∀ b,(fun b=>b=l) b→((convert 42 9 (.slice f.a f.len f.cap))).run Tryz.prog b=.ok (.string ck) b)∧
 ∃ ce:ByteArray,(∀ b,(fun b=>b=l) b→((convert 42 9 (.slice c.a c.len c.cap))).run Tryz.prog b=.ok (.string ce) b)∧
 K (.bool (ce.toList==ck.toList)) l))
 (Drw L fun Y dm=>
 Calls Tryz.prog 18 #[.pointer o] dm fun cz N=>
 ∃ d:Sl,(cz=.returned (.slice d.a d.len d.cap))∧
 (Y N)∧
 (∃ cf:ByteArray,(∀ b,(fun b=>b=N) b→((convert 42 9 (.slice d.a d.len d.cap))).run Tryz.prog b=.ok (.string cf) b)∧
 Calls Tryz.prog 18 #[.pointer k] N fun c0 ad=>
 ∃ H:Sl,(c0=.returned (.slice H.a H.len H.cap))∧
 (Y ad)∧
 ∃ cl:ByteArray,(∀ b,(fun b=>b=ad) b→((convert 42 9 (.slice H.a H.len H.cap))).run Tryz.prog b=.ok (.string cl) b)∧
 K (.bool (cf.toList==cl.toList)) ad)∧
 Calls Tryz.prog 18 #[.pointer k] N fun c1 m=>
 ∃ g:Sl,(c1=.returned (.slice g.a g.len g.cap))∧
 (Y m)∧
 (∃ cg:ByteArray,(∀ b,(fun b=>b=m) b→((convert 42 9 (.slice d.a d.len d.cap))).run Tryz.prog b=.ok (.string cg) b)∧
 ∃ cm:ByteArray,(∀ b,(fun b=>b=m) b→((convert 42 9 (.slice g.a g.len g.cap))).run Tryz.prog b=.ok (.string cm) b)∧
 K (.bool (cg.toList==cm.toList)) m)∧
 ∃ cn:ByteArray,(∀ b,(fun b=>b=m) b→((convert 42 9 (.slice g.a g.len g.cap))).run Tryz.prog b=.ok (.string cn) b)∧
 ∃ ch:ByteArray,(∀ b,(fun b=>b=m) b→((convert 42 9 (.slice d.a d.len d.cap))).run Tryz.prog b=.ok (.string ch) b)∧
 K (.bool (ch.toList==cn.toList)) m))∧
 ∀ (d0:Env)  (ae:World),aj  ae→
 Rng e j.len (NilP j.a fun cv=>
 ∃ a0:Int,∃ a1:ByteArray,∃ a2:Int,∃ a3:Int,∃ a4:Int,∃ a5:Int,∃ a6:Nat,∃ a7:ByteArray,∃ a8:Int,∃ t:Sl,∃ s:Sl,(At (fun b=>b=ae) (Addr.add cv (mulS e.toNat 11)) [.int .i64 a0,.string a1,.int .i64 a2,.int .i64 a3,.int .i64 a4,.int .i64 a5,.float .f64 a6,.string a7,.int .i64 a8,.slice t.a t.len t.cap,.slice s.a s.len s.cap])∧
 Calls Tryz.prog 15 #[.pointer o,.agg #[.int .i64 a0,.string a1,.int .i64 a2,.int .i64 a3,.int .i64 a4,.int .i64 a5,.float .f64 a6,.string a7,.int .i64 a8,.slice t.a t.len t.cap,.slice s.a s.len s.cap]] ae fun c2 dp=>
 ∃ a9:Int,∃ ba:ByteArray,∃ bb:Int,∃ bc:Int,∃ bd:Int,∃ be:Int,∃ bf:Int,∃ u:Sl,∃ v:Sl,(c2=.returned (.agg #[.int .i64 a9,.string ba,.int .i64 bb,.int .i64 bc,.int .i64 bd,.int .i64 be,.int .i64 bf,.slice u.a u.len u.cap,.slice v.a v.len v.cap]))∧
 New (.cells #[.int .i64 0,.string (ByteArray.mk #[]),.int .i64 0,.int .i64 0,.int .i64 0,.int .i64 0,.int .i64 0,.slice none 0 0,.slice none 0 0] 31 (0,0)) (fun ak dq=>
 ∃ af:World,((Instr.storeAt 31 (.pointer ((some ⟨ak,0,none⟩))) (.agg #[.int .i64 a9,.string ba,.int .i64 bb,.int .i64 bc,.int .i64 bd,.int .i64 be,.int .i64 bf,.slice u.a u.len u.cap,.slice v.a v.len v.cap])).run Tryz.prog dq=.ok () af)∧
 Rng e j.len (NilP j.a fun cw=>
 ∃ bg:Int,∃ bh:ByteArray,∃ bi:Int,∃ bj:Int,∃ bk:Int,∃ bl:Int,∃ bm:Nat,∃ bn:ByteArray,∃ bo:Int,∃ y:Sl,∃ x:Sl,(At (fun b=>b=af) (Addr.add cw (mulS e.toNat 11)) [.int .i64 bg,.string bh,.int .i64 bi,.int .i64 bj,.int .i64 bk,.int .i64 bl,.float .f64 bm,.string bn,.int .i64 bo,.slice y.a y.len y.cap,.slice x.a x.len x.cap])∧
 Calls Tryz.prog 15 #[.pointer k,.agg #[.int .i64 bg,.string bh,.int .i64 bi,.int .i64 bj,.int .i64 bk,.int .i64 bl,.float .f64 bm,.string bn,.int .i64 bo,.slice y.a y.len y.cap,.slice x.a x.len x.cap]] af fun c3 dr=>
 ∃ bp:Int,∃ bq:ByteArray,∃ br:Int,∃ bs:Int,∃ bt:Int,∃ bu:Int,∃ bv:Int,∃ z:Sl,∃ A:Sl,(c3=.returned (.agg #[.int .i64 bp,.string bq,.int .i64 br,.int .i64 bs,.int .i64 bt,.int .i64 bu,.int .i64 bv,.slice z.a z.len z.cap,.slice A.a A.len A.cap]))∧
 New (.cells #[.int .i64 0,.string (ByteArray.mk #[]),.int .i64 0,.int .i64 0,.int .i64 0,.int .i64 0,.int .i64 0,.slice none 0 0,.slice none 0 0] 31 (0,0)) (fun al ds=>
 ∃ O:World,((Instr.storeAt 31 (.pointer ((some ⟨al,0,none⟩))) (.agg #[.int .i64 bp,.string bq,.int .i64 br,.int .i64 bs,.int .i64 bt,.int .i64 bu,.int .i64 bv,.slice z.a z.len z.cap,.slice A.a A.len A.cap])).run Tryz.prog ds=.ok () O)∧
 ∃ bw:Int,∃ bx:ByteArray,∃ bz:Int,∃ b0:Int,∃ b1:Int,∃ b2:Int,∃ b3:Int,∃ C:Sl,∃ D:Sl,(At (fun b=>b=O) ⟨ak,0,none⟩ [.int .i64 bw,.string bx,.int .i64 bz,.int .i64 b0,.int .i64 b1,.int .i64 b2,.int .i64 b3,.slice C.a C.len C.cap,.slice D.a D.len D.cap])∧
 ∃ b4:Int,∃ b5:ByteArray,∃ b6:Int,∃ b7:Int,∃ b8:Int,∃ b9:Int,∃ ca:Int,∃ E:Sl,∃ F:Sl,(At (fun b=>b=O) ⟨al,0,none⟩ [.int .i64 b4,.string b5,.int .i64 b6,.int .i64 b7,.int .i64 b8,.int .i64 b9,.int .i64 ca,.slice E.a E.len E.cap,.slice F.a F.len F.cap])∧
 Calls Tryz.prog 20 #[.agg #[.int .i64 bw,.string bx,.int .i64 bz,.int .i64 b0,.int .i64 b1,.int .i64 b2,.int .i64 b3,.slice C.a C.len C.cap,.slice D.a D.len D.cap],.agg #[.int .i64 b4,.string b5,.int .i64 b6,.int .i64 b7,.int .i64 b8,.int .i64 b9,.int .i64 ca,.slice E.a E.len E.cap,.slice F.a F.len F.cap]] O fun c4 ag=>
 ∃ cb:Bool,(c4=.returned (.bool cb))∧
 Br (!cb)
 (K (.bool false) ag)
 ((U (IntKind.i64.wrap (e + 1)) ag)∧ct (IntKind.i64.wrap (e + 1)) ag<ct e L)) dr)) dp)
def sk11:Sk:=(.seq .leaf (.seq .leaf (.seq .leaf (.seq .leaf (.cut [] [] [4,21,22,23,24,25,26,27,28,29] .leaf (.seq .leaf (.cut [] [] [9,31,32,33,34,35,36,37,38,39,40,41,42,43,44,45,46] (.seq .leaf (.block (.loop [9] [(.int .i64)] [9,31,32,33,34,35,36,37,38,39,40,41,42,43,44,45,46] .leaf))) (.seq .leaf (.cut [] [] [4,53,54,55,56,57,58] .leaf (.seq (.seq .leaf (.block (.loop [12] [(.int .i64)] [4,12,13,14,15,59,60,61,62,63,64,65,66,67,68,69,70,71,72,73,74,75,76,77,78,79,80,81,82,83,84,85] (.cut [] [] [59,60,61,62,63,64,65,66] .leaf .leaf)))) (.seq (.seq .leaf .leaf) .leaf)))))))))))
theorem call11 (b:Sl) (c:Sl) (K:Value→World→Prop) (w:World) (h:B11 b c K w):Gets Tryz.prog 11 #[.slice b.a b.len b.cap,.slice c.a c.len c.cap] w K:=cq (sk:=sk11) Tryz.func11 (by kernel_rfl) (by kernel_rfl) (by kernel_rfl) h
end Go.Proofs.YtfgbbckfikiomaaGreatDoor
/- The laws of chapter 18: two replies, two commands; many commands. Condition: bounds on lengths. -/
namespace Go.Proofs.YtfgbbckfikiomaaGreatDoor
set_option linter.unusedVariables false
open Go Go.VC
open Classical
variable {R:Cx} {Hs Rest:List HP} {w:World}
theorem same18_spec {a b:Rp} {la lb ma mb:Sl} (h1:RoI R la a.left) (h2:RoI R ma b.left) (h3:Ro R lb (strs a.labs)) (h4:Ro R mb (strs b.labs)) (hw:Sat R Hs w):
  Gets Tryz.prog 20 #[.agg #[.int .i64 a.code,.string a.pnr,.int .i64 a.state,.int .i64 a.flt,.int .i64 a.cls,.int .i64 a.many,.int .i64 a.time,.slice la.a la.len la.cap,.slice lb.a lb.len lb.cap],.agg #[.int .i64 b.code,.string b.pnr,.int .i64 b.state,.int .i64 b.flt,.int .i64 b.cls,.int .i64 b.many,.int .i64 b.time,.slice ma.a ma.len ma.cap,.slice mb.a mb.len mb.cap]] w
   fun v w'=>v=.bool (decide (a=b))∧Sat R Hs w':=by
 apply call20
 refine new_rule hw fun x w hw=>new_rule hw fun y w hw=>?_
 have hw:Sat R (rpC y b ma mb::rpC x a la lb::Hs) w:=hw
 refine ⟨la,At.own (eqS hw) (by exact ⟨rfl,trivial⟩),ma,At.own (eqS hw) (by exact ⟨rfl,trivial⟩),?_⟩
 refine (sameI_spec h1 h2 hw).use ?_
 clear hw
 rintro _ w ⟨rfl,hw⟩
 refine ⟨_,rfl,lb,At.own (eqS hw) (by exact ⟨rfl,trivial⟩),mb,At.own (eqS hw) (by exact ⟨rfl,trivial⟩),?_⟩
 refine (sameT_spec h3 h4 hw).use ?_
 clear hw
 rintro _ w ⟨rfl,hw⟩
 refine ⟨_,rfl,?_⟩
 have no:¬ a=b→(Value.bool false=.bool (decide (a=b))∧Sat R Hs w):=fun h=>⟨by rw [decide_eq_false h],hw.drop.drop⟩
 refine ⟨a.code,At.own (eqS hw) (by exact ⟨rfl,trivial⟩),b.code,At.own (eqS hw) (by exact ⟨rfl,trivial⟩),Br.e (fun e1=>?_) (fun h=>no fun e=>h (by rw [e]))⟩
 refine ⟨a.pnr,At.own (eqS hw) (by exact ⟨rfl,trivial⟩),b.pnr,At.own (eqS hw) (by exact ⟨rfl,trivial⟩),Br.se (fun e2=>?_) (fun h=>no fun e=>h (by rw [e]))⟩
 refine ⟨a.state,At.own (eqS hw) (by exact ⟨rfl,trivial⟩),b.state,At.own (eqS hw) (by exact ⟨rfl,trivial⟩),Br.e (fun e3=>?_) (fun h=>no fun e=>h (by rw [e]))⟩
 refine ⟨a.flt,At.own (eqS hw) (by exact ⟨rfl,trivial⟩),b.flt,At.own (eqS hw) (by exact ⟨rfl,trivial⟩),Br.e (fun e4=>?_) (fun h=>no fun e=>h (by rw [e]))⟩
 refine ⟨a.cls,At.own (eqS hw) (by exact ⟨rfl,trivial⟩),b.cls,At.own (eqS hw) (by exact ⟨rfl,trivial⟩),Br.e (fun e5=>?_) (fun h=>no fun e=>h (by rw [e]))⟩
 refine ⟨a.many,At.own (eqS hw) (by exact ⟨rfl,trivial⟩),b.many,At.own (eqS hw) (by exact ⟨rfl,trivial⟩),Br.e (fun e6=>?_) (fun h=>no fun e=>h (by rw [e]))⟩
 refine ⟨a.time,At.own (eqS hw) (by exact ⟨rfl,trivial⟩),b.time,At.own (eqS hw) (by exact ⟨rfl,trivial⟩),Br.e (fun e7=>?_) (fun h=>no fun e=>h (by rw [e]))⟩
 refine Br.d (fun e8=>?_) (fun h=>no fun e=>h (by rw [e]))
 refine ⟨?_,hw.drop.drop⟩
 congr 1
 refine decide_eq_decide.2 ⟨fun e9=>?_,fun e=>by rw [e]⟩
 cases a;cases b
 simp only at e1 e2 e3 e4 e5 e6 e7 e8 e9
 subst e1 e2 e3 e4 e5 e6 e7 e8 e9
 rfl
abbrev CmS:=Cm × Sl × Sl
abbrev cmRow (c:CmS):List Value:=cmV c.1 c.2.1 c.2.2
def Much (c:CmS):Prop:=100<c.2.1.len∨100<c.2.2.len∨1000<c.1.pnr.size∨1000<c.1.lab.size
theorem much_spec {l:Sl} {cs:List CmS} (hr:∀ S:World→Prop,(∀ w,S w→Sat R Hs w)→ReadsN 11 l (cs.map cmRow) S) (hw:Sat R Hs w):
  Gets Tryz.prog 13 #[.slice l.a l.len l.cap] w fun v w'=>∃ b:Bool,v=.bool b∧(b=false→∀ c∈cs.take 400,¬ Much c)∧Sat R Hs w':=by
 have hlen:=(hr _ (eqS hw)).1
 rw [List.length_map] at hlen
 apply call13
 refine ⟨fun i w=>∃ k:Nat,i=k∧k≤400∧k≤cs.length∧(∀ c∈cs.take k,¬ Much c)∧Sat R Hs w,fun i _=>400 - i.toNat,⟨0,rfl,by omega,by omega,by simp,hw⟩,?_⟩
 clear hw
 rintro _ _ w ⟨k,rfl,hk,hkc,hm,hw⟩
 have fin:(cs.take k=cs.take 400)→∃ b:Bool,Value.bool false=.bool b∧(b=false→∀ c∈cs.take 400,¬ Much c)∧Sat R Hs w:=fun e=>⟨false,rfl,fun _=>by rw [←e];exact hm,hw⟩
 refine ⟨fun w=>(k<400∧k<cs.length)∧Sat R Hs w,?_,?_⟩
 ·with_reducible refine Br.d (fun h=>?_) (fun h=>fin ?_)
  ·with_reducible refine Br.d (fun h2=>?_) (fun h2=>fin ?_)
   ·exact ⟨⟨by omega,by omega⟩,hw⟩
   ·rw [show k=400 by omega]
  ·rw [List.take_of_length_le (by omega),List.take_of_length_le (by omega)]
 clear hw
 rintro _ w ⟨⟨h1,h2⟩,hw⟩
 have hS:=hr _ (eqS hw)
 have yes:∀ {b:Bool},b=true→∃ b2:Bool,Value.bool b=.bool b2∧(b2=false→∀ c∈cs.take 400,¬ Much c)∧Sat R Hs w:=fun {b} e=>⟨b,rfl,fun h=>(by rw [e] at h;cases h),hw⟩
 refine hS.rngM h2 fun a _ he=>⟨cs[k].2.1,he.f 9 (by exact ⟨rfl,trivial⟩),Br.d (fun _=>yes rfl) (fun g1=>?_)⟩
 refine hS.rngM h2 fun a _ he=>⟨cs[k].2.2,he.f 10 (by exact ⟨rfl,trivial⟩),Br.d (fun _=>yes rfl) (fun g2=>?_)⟩
 refine hS.rngM h2 fun a _ he=>⟨cs[k].1.pnr,he.f 1 (by exact ⟨rfl,trivial⟩),Br.d (fun _=>yes rfl) (fun g3=>?_)⟩
 refine hS.rngM h2 fun a _ he=>⟨cs[k].1.lab,he.f 7 (by exact ⟨rfl,trivial⟩),Br.d (fun _=>yes rfl) (fun g4=>?_)⟩
 rw [wrap64 (by omega) (by omega)]
 refine ⟨⟨k + 1,by omega,by omega,by omega,fun c hc=>?_,hw⟩,by dsimp only;omega⟩
 rw [List.take_add_one,List.getElem?_eq_getElem h2] at hc
 rcases List.mem_append.1 hc with hc|hc
 ·exact hm c hc
 ·rw [show c=cs[k] by simpa using hc]
  unfold Much
  omega
end Go.Proofs.YtfgbbckfikiomaaGreatDoor
/- Package booking: the book in memory; errors that are thrown and caught. Condition: none. -/
namespace Go.Proofs.YtfgbbckfikiomaaGreatDoor
set_option linter.unusedVariables false
open Go Go.VC
open Classical
variable {R:Cx} {Hs Rest:List HP} {w:World}
def wtV (w:Wt):List Value:=[.int .i64 w.id,.int .i64 w.cls,.int .i64 w.many,.int .i64 w.time,.float .f64 w.sc]
abbrev quCell (s:Sl):Obj:=.cells [.slice s.a s.len s.cap].toArray 179 (0,0)
def QuAt (q:Nat) (l:List Wt):HP:=exs fun s:Sl=>Star [pts q (quCell s),OwnN 5 s 181 (l.map wtV)]
theorem Sat.qu {q:Nat} {l:List Wt}:Sat R (QuAt q l::Hs) w↔∃ s:Sl,Sat R (pts q (quCell s)::OwnN 5 s 181 (l.map wtV)::Hs) w:=by
 unfold QuAt
 rw [Sat.exs]
 exact ⟨fun ⟨s,h⟩=>⟨s,Sat.star.1 h⟩,fun ⟨s,h⟩=>⟨s,Sat.star.2 h⟩⟩
abbrev FE:=Nat × Nat × Pl
abbrev BE:=Nat × Bk
def plAt (e:FE):HP:=Star [LoneAt e.1 e.2.2.r,QuAt e.2.1 e.2.2.q]
abbrev bkObj (x:Bk):Obj:=.cells [.int .i64 x.id,.int .i64 x.flt,.int .i64 x.cls,.int .i64 x.many,.int .i64 x.state,.int .i64 x.till].toArray 106 (0,0)
def bkAt (e:BE):HP:=pts e.1 (bkObj e.2)
def FlsAt (fs:List FE):HP:=Star (fs.map plAt)
def BksAt (xs:List BE):HP:=Star (xs.map bkAt)
def flV (e:FE):Int × Value:=(e.2.2.n,.agg #[.pointer (some ⟨e.1,0,none⟩),.pointer (some ⟨e.2.1,0,none⟩)])
def bkV (e:BE):Int × Value:=(e.2.id,.pointer (some ⟨e.1,0,none⟩))
abbrev bookC (b:Book) (m1 m2:Nat):Obj:=.cells [.int .i64 b.now,.int .i64 b.next,.map (some m1),.map (some m2)].toArray 80 (0,0)
structure BookL (b:Book) (fs:List FE) (xs:List BE):Prop where
 fl:(fs.map fun e=>e.2.2).Perm b.fl
 bk:xs.map (fun e=>e.2)=b.L
def BookAt (p:Nat) (b:Book):HP:=exs fun m1:Nat=>exs fun m2:Nat=>exs fun fs:List FE=>exs fun xs:List BE=>
 Star [pur (BookL b fs xs),pts p (bookC b m1 m2),MapAt m1 (fs.map flV),MapAt m2 (xs.map bkV),FlsAt fs,BksAt xs]
theorem Sat.book {p:Nat} {b:Book}:Sat R (BookAt p b::Hs) w↔∃ m1 m2 fs xs,BookL b fs xs∧Sat R (pts p (bookC b m1 m2)::MapAt m1 (fs.map flV)::MapAt m2 (xs.map bkV)::FlsAt fs::BksAt xs::Hs) w:=by
 unfold BookAt
 simp only [Sat.exs]
 constructor
 ·rintro ⟨m1,m2,fs,xs,h⟩
  obtain ⟨h1,h2⟩:=Sat.pur.1 (Sat.star.1 h)
  exact ⟨m1,m2,fs,xs,h1,h2⟩
 ·rintro ⟨m1,m2,fs,xs,h1,h2⟩
  exact ⟨m1,m2,fs,xs,Sat.star.2 (Sat.pur.2 ⟨h1,h2⟩)⟩
abbrev pMap:MapT Tryz.prog 77 Int 3 102 (.agg #[.pointer none,.pointer none]):=⟨Tryz.underlying77,Tryz.underlying3,Tryz.zeroValue102⟩
abbrev bMap:MapT Tryz.prog 78 Int 3 86 (.pointer none):=⟨Tryz.underlying78,Tryz.underlying3,Tryz.zeroValue86⟩
theorem FlsAt.snoc {fs:List FE} {f q:Nat} {p:Pl} (hw:Sat R (LoneAt f p.r::QuAt q p.q::FlsAt fs::Hs) w):Sat R (FlsAt (fs++[(f,q,p)])::Hs) w:=by
 unfold FlsAt at hw ⊢
 rw [Sat.star,List.map_append,List.append_assoc]
 have hw:Sat R (Star (fs.map plAt)::LoneAt f p.r::QuAt q p.q::Hs) w:=hw.arr
 rw [Sat.star] at hw
 have key:∀ (L:List HP) {R:Cx},Sat R (L++LoneAt f p.r::QuAt q p.q::Hs) w→Sat R (L++(List.map plAt [(f,q,p)]++Hs)) w:=fun L=>by
  induction L with
  |nil=>exact fun h=>Sat.star.2 h
  |cons A L ih=>exact fun h=>h.cons fun _ h=>ih h
 exact key _ hw
theorem getM_ne {β:Type} {k:Int}:∀ {l:List (Int × β)},getM k l=none↔∀ e∈l,e.1≠k
 |[]=>⟨fun _ _ h=>(by cases h),fun _=>rfl⟩
 |e::l=>by
  rw [getM]
  by_cases h:k=e.1
  ·rw [if_pos (by simpa using h)]
   exact ⟨fun h2=>(by cases h2),fun h2=>absurd h.symm (h2 e (by simp))⟩
  ·rw [if_neg (by simpa using h),getM_ne]
   exact ⟨fun h2 x hx=>by
    rcases List.mem_cons.1 hx with h1|h1
    ·rw [h1];exact fun e=>h e.symm
    ·exact h2 x h1,fun h2 x hx=>h2 x (by simp [hx])⟩
theorem fl_none {b:Book} {fs:List FE} {xs:List BE} (hl:BookL b fs xs) {n:Int}:getM n (fs.map flV)=none↔b.at n=none:=by
 unfold Book.at
 rw [getM_ne,kget_none]
 constructor
 ·intro h p hp
  obtain ⟨e,he,rfl⟩:=List.mem_map.1 (hl.fl.mem_iff.2 hp)
  exact h (flV e) (List.mem_map.2 ⟨e,he,rfl⟩)
 ·rintro h _ he
  obtain ⟨e,h1,rfl⟩:=List.mem_map.1 he
  exact h e.2.2 (hl.fl.mem_iff.1 (List.mem_map.2 ⟨e,h1,rfl⟩))
theorem fl_len {b:Book} {fs:List FE} {xs:List BE} (hl:BookL b fs xs):fs.length=b.fl.length:=by
 have:=hl.fl.length_eq
 rwa [List.length_map] at this
abbrev errP (e:Int):List PanicEntry:=[⟨.iface 27 (.int .i64 e),false,false⟩]
theorem need_c {b:Bool} {e:Int} {Q:Ending→World→Prop} (h1:b=true→Q (.returned (.tuple #[])) w) (h2:b=false→Q (.panicked (errP e)) w):Calls Tryz.prog 40 #[.bool b,.int .i64 e] w Q:=by
 have h:GetsX Tryz.prog 40 #[.bool b,.int .i64 e] w (fun ch w'=>b=false∧ch=errP e∧w'=w) (fun v w'=>b=true∧v=.tuple #[]∧w'=w):=by
  apply call40
  exact Br.nb (fun h=>⟨h,rfl,rfl⟩) (fun h=>⟨h,rfl,rfl⟩)
 refine h.use ?_ ?_
 ·rintro v w' ⟨hb,rfl,e⟩;rw [e];exact h1 hb
 ·rintro v w' ⟨hb,rfl,e⟩;rw [e];exact h2 hb
theorem mustE_c {e:Int} {Q:Ending→World→Prop} (h1:e=0→Q (.returned (.tuple #[])) w) (h2:¬ e=0→Q (.panicked (errP e)) w):Calls Tryz.prog 110 #[.int .i64 e] w Q:=by
 have h:GetsX Tryz.prog 110 #[.int .i64 e] w (fun ch w'=>¬ e=0∧ch=errP e∧w'=w) (fun v w'=>e=0∧v=.tuple #[]∧w'=w):=by
  apply call110
  exact Br.ne (fun h=>⟨h,rfl,rfl⟩) (fun h=>⟨h,rfl,rfl⟩)
 refine h.use ?_ ?_
 ·rintro v w' ⟨hb,rfl,e⟩;rw [e];exact h1 hb
 ·rintro v w' ⟨hb,rfl,e⟩;rw [e];exact h2 hb
theorem caughtP {r:Nat} {x:Rp} {sl sb:Sl} {e:Int} {Kr:World→Prop} (hw:Sat R (rpC r x sl sb::Hs) w) (k:∀ w,Sat R (rpC r (errR e) nilSl nilSl::Hs) w→Kr w):
  LeaveF Tryz.prog 39 [.pointer (some ⟨r,0,none⟩)] (.panicking (errP e)) Kr w:=by
 unfold LeaveF
 refine CallsD.mono (callP39 (some ⟨r,0,none⟩) (.iface 27 (.int .i64 e)) Kr w ?_) ?_
 ·refine ⟨true,fun w' _=>by kernel_rfl,Br.t rfl ?_⟩
  refine ⟨e,fun w' _=>by kernel_rfl,NilP.mk rfl ?_⟩
  refine store_rule hw (by kernel_rfl) rfl (by simp [Value.cells]) fun w hw=>?_
  exact k w (hw.re (rpC r (errR e) nilSl nilSl))
 ·rintro e v w' ⟨hy,rfl,hk⟩
  exact ⟨hy,rfl,hk⟩
theorem caughtR {r:Nat} {Kr:World→Prop} (k:Kr w):LeaveF Tryz.prog 39 [.pointer (some ⟨r,0,none⟩)] .returning Kr w:=by
 unfold LeaveF
 refine CallsD.mono (callR39 (some ⟨r,0,none⟩) Kr w ?_) ?_
 ·exact ⟨false,fun w' _=>by kernel_rfl,Br.f rfl k⟩
 ·rintro e v w' ⟨hy,rfl,hk⟩
  exact ⟨hy,rfl,hk⟩
theorem qnew_spec (hw:Sat R Hs w):Gets Tryz.prog 111 #[] w fun v w'=>∃ q,v=.pointer (some ⟨q,0,none⟩)∧Sat R (QuAt q []::Hs) w':=by
 apply call111
 refine new_rule hw fun q w hw=>⟨q,rfl,Sat.qu.2 ⟨nilSl,?_⟩⟩
 exact (OwnN.nil hw).swap
theorem bnew_spec (hw:Sat R Hs w):Gets Tryz.prog 14 #[] w fun v w'=>∃ p,v=.pointer (some ⟨p,0,none⟩)∧Sat R (BookAt p newBook::Hs) w':=by
 apply call14
 refine new_rule hw fun m1 w hw=>?_
 have hw:=MapAt.new (α:=Int) rfl hw
 refine new_rule hw fun m2 w hw=>?_
 have hw:=MapAt.new (α:=Int) rfl hw
 refine new_rule hw fun p w hw=>⟨p,rfl,Sat.book.2 ⟨m1,m2,[],[],⟨List.Perm.refl _,rfl⟩,?_⟩⟩
 have hw:Sat R (pts p (bookC newBook m1 m2)::MapAt (α:=Int) m2 []::MapAt (α:=Int) m1 []::Hs) w:=hw
 have hw:Sat R (pts p (bookC newBook m1 m2)::MapAt (α:=Int) m1 []::MapAt (α:=Int) m2 []::Hs) w:=hw.arr
 exact hw.cons fun _ h=>h.cons fun _ h=>h.cons fun _ h=>Sat.star.2 (Sat.star.2 h)
end Go.Proofs.YtfgbbckfikiomaaGreatDoor
/- Package booking: a flight is opened. Condition: bounds. -/
namespace Go.Proofs.YtfgbbckfikiomaaGreatDoor
set_option linter.unusedVariables false
open Go Go.VC
open Classical
variable {R:Cx} {Hs Rest:List HP} {w:World}
abbrev openR (c:Cm):Rp:=⟨0,emS,0,c.flt,0,0,0,rleftsF (rnewF c.flt c.rows c.grps (limitsT (layN c.rows c.grps) c.parts).1),[]⟩
set_option maxHeartbeats 1000000 in
theorem bopen_spec {p:Nat} {b:Book} {c:Cm} {sg sp:Sl} (hfl:b.fl.length≤1000000) (hg:RoI R sg c.grps) (hp:SlR R.m sp (flts c.parts)) (hw:Sat R (BookAt p b::Hs) w):
  GetsX Tryz.prog 42 #[.pointer (some ⟨p,0,none⟩),.agg #[.int .i64 c.kind,.string c.pnr,.int .i64 c.flt,.int .i64 c.cls,.int .i64 c.many,.int .i64 c.time,.float .f64 c.sc,.string c.lab,.int .i64 c.rows,.slice sg.a sg.len sg.cap,.slice sp.a sp.len sp.cap]] w
   (fun ch w'=>∃ e,ch=errP e∧openB b c=(b,errR e)∧Sat R (BookAt p b::Hs) w')
   (fun v w'=>(openB b c).2=openR c∧∃ sl:Sl,v=.agg (rpV (openR c) sl nilSl).toArray∧Sat R (Own sl 3 (intsI (openR c).left)::BookAt p (openB b c).1::Hs) w'):=by
 apply call42
 suffices H:∀ (X:List PanicEntry→World→Prop) (K:Value→World→Prop),(∀ e w',openB b c=(b,errR e)→Sat R (BookAt p b::Hs) w'→X (errP e) w')→
   (∀ sl w',(openB b c).2=openR c→Sat R (Own sl 3 (intsI (openR c).left)::BookAt p (openB b c).1::Hs) w'→K (.agg (rpV (openR c) sl nilSl).toArray) w')→B42 (some ⟨p,0,none⟩) c.kind c.pnr c.flt c.cls c.many c.time c.sc c.lab c.rows sg sp X K w from
  H _ _ (fun e w' h1 h2=>⟨e,rfl,h1,h2⟩) (fun sl w' h1 h2=>⟨h1,sl,rfl,h2⟩)
 intro X K hX hK
 obtain ⟨m1,m2,fs,xs,hl,hw⟩:=Sat.book.1 hw
 have hlen:=fl_len hl
 refine new_rule hw fun b3 w hw=>new_rule hw fun b4 w hw=>?_
 have hw:Sat R (MapAt m1 (fs.map flV)::pts p (bookC b m1 m2)::cmC b3 c sg sp::rpNew b4::MapAt m2 (xs.map bkV)::FlsAt fs::BksAt xs::Hs) w:=by
  have hw:Sat R (rpNew b4::cmC b3 c sg sp::pts p (bookC b m1 m2)::MapAt m1 (fs.map flV)::MapAt m2 (xs.map bkV)::FlsAt fs::BksAt xs::Hs) w:=hw
  exact hw.arr
 have close:∀ {w},Sat R (MapAt m1 (fs.map flV)::pts p (bookC b m1 m2)::cmC b3 c sg sp::rpNew b4::MapAt m2 (xs.map bkV)::FlsAt fs::BksAt xs::Hs) w→Sat R (BookAt p b::Hs) w:=fun {w} hw=>by
  have hw:Sat R (cmC b3 c sg sp::rpNew b4::pts p (bookC b m1 m2)::MapAt m1 (fs.map flV)::MapAt m2 (xs.map bkV)::FlsAt fs::BksAt xs::Hs) w:=hw.arr
  exact Sat.book.2 ⟨m1,m2,fs,xs,hl,hw.drop.drop⟩
 refine drw_ruleT hw fun w hw=>?_
 refine NilP.mk rfl ⟨some m1,At.own (fun _ h=>h) (by exact ⟨rfl,trivial⟩),c.flt,At.own (fun _ h=>h) (by exact ⟨rfl,trivial⟩),?_⟩
 have look:∀ w',Sat R (VC.tru::MapAt m1 (fs.map flV)::pts p (bookC b m1 m2)::cmC b3 c sg sp::rpNew b4::MapAt m2 (xs.map bkV)::FlsAt fs::BksAt xs::Hs) w'→
   (Instr.lookup 77 (.map (some m1)) (.int .i64 c.flt) true).run Tryz.prog w'=.ok (.tuple #[(getM c.flt (fs.map flV)).getD (.agg #[.pointer none,.pointer none]),.bool (getM c.flt (fs.map flV)).isSome]) w':=fun w' h=>
  MapAt.look pMap h.swap c.flt true
 obtain ⟨v1,v2,hv⟩:∃ v1 v2:Option Addr,(getM c.flt (fs.map flV)).getD (.agg #[.pointer none,.pointer none])=.agg #[.pointer v1,.pointer v2]:=by
  cases hgm:getM c.flt (fs.map flV) with
  |none=>exact ⟨none,none,rfl⟩
  |some v=>
   obtain ⟨A,C,e,_⟩:=getM_split hgm
   have:(c.flt,v)∈fs.map flV:=by rw [e];simp
   obtain ⟨x,_,hx⟩:=List.mem_map.1 this
   have hx2:=congrArg Prod.snd hx
   exact ⟨_,_,hx2.symm⟩
 rw [hv] at look
 refine ⟨v1,v2,_,look,?_⟩
 refine new_rule hw fun b5 w hw=>⟨hw.absorb,?_⟩
 refine store_rule hw (by kernel_rfl) rfl (by simp [Value.cells]) fun w hw=>?_
 have hw:=hw.drop.drop
 have hat:=fl_none hl (n:=c.flt)
 refine need_c (fun hn=>.inl ⟨rfl,?_⟩) (fun hn=>.inr ⟨_,rfl,hX 7 w ?_ (close hw)⟩)
 rotate_left
 ·unfold openB
  rw [if_pos]
  cases hba:b.at c.flt with
  |none=>rw [hat.2 hba] at hn;cases hn
  |some _=>rfl
 have hno:getM c.flt (fs.map flV)=none:=by
  cases hgm:getM c.flt (fs.map flV) with
  |none=>rfl
  |some v=>rw [hgm] at hn;cases hn
 have hba:=hat.1 hno
 have o1:¬ (b.at c.flt).isSome=true:=by rw [hba];simp
 refine NilP.mk rfl ⟨some m1,At.own (eqS hw) (by exact ⟨rfl,trivial⟩),((fs.map flV).length:Int),fun w' e=>?_,?_⟩
 ·rw [show w'=w from e]
  exact MapAt.len (by kernel_rfl) hw
 rw [List.length_map,hlen]
 refine need_c (fun hn8=>.inl ⟨rfl,?_⟩) (fun hn8=>.inr ⟨_,rfl,hX 3 w ?_ (close hw)⟩)
 rotate_left
 ·have:=of_decide_eq_false hn8
  unfold openB
  rw [if_neg o1,if_pos (by omega)]
 have h8:=of_decide_eq_true hn8
 have o2:¬ 8≤b.fl.length:=by omega
 refine ⟨c.flt,At.own (eqS hw) (by exact ⟨rfl,trivial⟩),c.rows,sg,At.own (eqS hw) (by exact ⟨rfl,rfl,trivial⟩),sp,At.own (eqS hw) (by exact ⟨rfl,trivial⟩),?_⟩
 refine (fnew_spec' hg hp hw).use ?_
 clear hw
 rintro _ w (⟨hn,rfl,hw⟩|⟨hn,f,rfl,hw⟩)
 ·refine .inl ⟨none,1,rfl,mustE_c (fun h=>by cases h) (fun _=>.inr ⟨_,rfl,hX 1 w ?_ (close hw)⟩)⟩
  unfold openB
  rw [if_neg o1,if_neg o2,if_pos hn]
 have hopen:openB b c=({ b with fl:=kins Pl.n ⟨rnewF c.flt c.rows c.grps (limitsT (layN c.rows c.grps) c.parts).1,[]⟩ b.fl },openR c):=by
  unfold openB
  rw [if_neg o1,if_neg o2,if_neg (fun h=>h hn)]
 obtain ⟨r,hr⟩:∃ r,r=rnewF c.flt c.rows c.grps (limitsT (layN c.rows c.grps) c.parts).1:=⟨_,rfl⟩
 have hw:Sat R (LoneAt f r::MapAt m1 (fs.map flV)::pts p (bookC b m1 m2)::cmC b3 c sg sp::rpNew b4::MapAt m2 (xs.map bkV)::FlsAt fs::BksAt xs::Hs) w:=by
  rw [hr]
  exact Sat.lone.2 ⟨_,⟨tie_new,good_new hn⟩,hw⟩
 rw [←hr] at hopen
 refine .inl ⟨some ⟨f,0,none⟩,0,rfl,mustE_c (fun _=>.inl ⟨rfl,?_⟩) (fun h=>absurd rfl h)⟩
 refine drw_rule' (Sat R [cmC b3 c sg sp,pts p (bookC b m1 m2),VC.tru]) hw (fun w hw=>?_) fun w hw=>?_
 ·exact (hw.arr (Hs':=cmC b3 c sg sp::pts p (bookC b m1 m2)::LoneAt f r::MapAt m1 (fs.map flV)::rpNew b4::MapAt m2 (xs.map bkV)::FlsAt fs::BksAt xs::Hs)).cons fun _ h=>h.restTru2
 refine NilP.mk rfl ⟨some m1,At.own (fun _ h=>h) (by exact ⟨rfl,trivial⟩),c.flt,At.own (fun _ h=>h) (by exact ⟨rfl,trivial⟩),?_⟩
 refine (qnew_spec hw).use ?_
 clear hw
 rintro _ w ⟨q,rfl,hw⟩
 refine .inl ⟨_,rfl,?_,?_⟩
 ·exact (hw.arr (Hs':=cmC b3 c sg sp::pts p (bookC b m1 m2)::QuAt q []::LoneAt f r::MapAt m1 (fs.map flV)::rpNew b4::MapAt m2 (xs.map bkV)::FlsAt fs::BksAt xs::Hs)).cons fun _ h=>h.restTru2
 have hw:Sat R (MapAt m1 (fs.map flV)::LoneAt f r::QuAt q []::FlsAt fs::pts p (bookC b m1 m2)::cmC b3 c sg sp::rpNew b4::MapAt m2 (xs.map bkV)::BksAt xs::Hs) w:=hw.arr
 refine MapAt.put pMap hw c.flt (.agg #[.pointer (some ⟨f,0,none⟩),.pointer (some ⟨q,0,none⟩)]) fun w hw=>?_
 have hput:putM c.flt (.agg #[.pointer (some ⟨f,0,none⟩),.pointer (some ⟨q,0,none⟩)]) (fs.map flV)=(fs++[((f,q,⟨r,[]⟩):FE)]).map flV:=by
  unfold putM
  rw [hno]
  have:r.num=c.flt:=by rw [hr];rfl
  simp only [Option.isSome_none,Bool.false_eq_true,if_false,List.map_append,List.map_cons,List.map_nil,flV,Pl.n,this]
 rw [hput] at hw
 refine drw_rule' (Sat R [cmC b3 c sg sp,VC.tru]) hw (fun w hw=>?_) fun w hw=>?_
 ·exact (hw.arr (Hs':=cmC b3 c sg sp::MapAt m1 ((fs++[((f,q,⟨r,[]⟩):FE)]).map flV)::LoneAt f r::QuAt q []::FlsAt fs::pts p (bookC b m1 m2)::rpNew b4::MapAt m2 (xs.map bkV)::BksAt xs::Hs)).restTru2
 refine ⟨c.flt,At.own (fun _ h=>h) (by exact ⟨rfl,trivial⟩),?_⟩
 have hw:Sat R (LoneAt f r::MapAt m1 ((fs++[((f,q,⟨r,[]⟩):FE)]).map flV)::QuAt q []::FlsAt fs::pts p (bookC b m1 m2)::cmC b3 c sg sp::rpNew b4::MapAt m2 (xs.map bkV)::BksAt xs::Hs) w:=hw.swap
 refine (lone_left hw).use ?_
 clear hw
 rintro _ w ⟨sl,rfl,hw⟩
 refine .inl ⟨sl,rfl,?_,?_⟩
 ·exact (hw.arr (Hs':=cmC b3 c sg sp::Own sl 3 (intsI (rleftsF r))::LoneAt f r::MapAt m1 ((fs++[((f,q,⟨r,[]⟩):FE)]).map flV)::QuAt q []::FlsAt fs::pts p (bookC b m1 m2)::rpNew b4::MapAt m2 (xs.map bkV)::BksAt xs::Hs)).restTru2
 refine store_rule hw (by kernel_rfl) rfl (by simp [Value.cells]) fun w hw=>?_
 have hw:=hw.re (rpC b4 (openR c) sl nilSl)
 refine ⟨0,emS,0,c.flt,0,0,0,sl,nilSl,At.own (eqS hw) (by exact ⟨rfl,rfl,rfl,rfl,rfl,rfl,rfl,rfl,rfl,trivial⟩),?_⟩
 have hw:Sat R (Own sl 3 (intsI (rleftsF r))::pts p (bookC b m1 m2)::MapAt m1 ((fs++[((f,q,⟨r,[]⟩):FE)]).map flV)::MapAt m2 (xs.map bkV)::LoneAt f r::QuAt q []::FlsAt fs::BksAt xs::rpC b4 (openR c) sl nilSl::cmC b3 c sg sp::Hs) w:=hw.arr
 refine hK sl w (by rw [hopen]) ?_
 rw [hopen]
 dsimp only
 rw [←hr]
 refine hw.cons fun _ hw=>Sat.book.2 ⟨m1,m2,fs++[((f,q,⟨r,[]⟩):FE)],xs,⟨?_,hl.bk⟩,?_⟩
 ·rw [List.map_append]
  refine (List.perm_append_singleton _ _).trans (List.Perm.trans (hl.fl.cons _) kins_perm.symm)
 ·refine hw.cons fun _ h=>h.cons fun _ h=>h.cons fun _ h=>?_
  exact (FlsAt.snoc h).cons fun _ h=>h.cons fun _ h=>h.drop.drop
end Go.Proofs.YtfgbbckfikiomaaGreatDoor
/- Chapter 18: a flight is opened in a book of nothing: awake. Condition: none. -/
namespace Go.Proofs.YtfgbbckfikiomaaGreatDoor
set_option linter.unusedVariables false
open Go Go.VC
open Classical
variable {R:Cx} {Hs Rest:List HP} {w:World}
set_option maxHeartbeats 1000000 in
theorem bapply1_spec {p:Nat} {b:Book} {c:Cm} {sg sp:Sl} (hk:c.kind=1) (hr:RightC c) (hfl:b.fl.length≤1000000) (hg:RoI R sg c.grps) (hp:SlR R.m sp (flts c.parts)) (hw:Sat R (BookAt p b::Hs) w):
  Gets Tryz.prog 15 #[.pointer (some ⟨p,0,none⟩),.agg #[.int .i64 c.kind,.string c.pnr,.int .i64 c.flt,.int .i64 c.cls,.int .i64 c.many,.int .i64 c.time,.float .f64 c.sc,.string c.lab,.int .i64 c.rows,.slice sg.a sg.len sg.cap,.slice sp.a sp.len sp.cap]] w
   fun v w'=>∃ sl:Sl,v=.agg (rpV (openB b c).2 sl nilSl).toArray∧Sat R (Own sl 3 (intsI (openB b c).2.left)::BookAt p (openB b c).1::Hs) w':=by
 have hplen:sp.len=c.parts.length:=by have:=hp.len;simpa using this
 have hgl:c.grps.length≤17592186043904:=by have:=hr.gl;omega
 apply call15
 refine new_rule hw fun b3 w hw=>new_rule hw fun b4 w hw=>?_
 have hw:Sat R (rpNew b4::cmC b3 c sg sp::BookAt p b::Hs) w:=hw
 refine ⟨c.kind,c.pnr,c.flt,c.cls,c.many,c.time,c.sc,c.lab,c.rows,sg,sp,At.own (eqS hw) (by exact ⟨rfl,rfl,rfl,rfl,rfl,rfl,rfl,rfl,rfl,rfl,rfl,trivial⟩),?_⟩
 refine (bright_spec hg hgl hplen hw).use ?_
 clear hw
 rintro _ w ⟨rfl,hw⟩
 refine .inl ⟨_,rfl,need_c (fun _=>.inl ⟨rfl,?_⟩) (fun h=>absurd hr (of_decide_eq_false h))⟩
 refine ⟨c.kind,At.own (eqS hw) (by exact ⟨rfl,trivial⟩),Br.e (fun _=>?_) (fun h=>absurd hk h)⟩
 refine ⟨c.kind,c.pnr,c.flt,c.cls,c.many,c.time,c.sc,c.lab,c.rows,sg,sp,At.own (eqS hw) (by exact ⟨rfl,rfl,rfl,rfl,rfl,rfl,rfl,rfl,rfl,rfl,rfl,trivial⟩),?_⟩
 have hw:Sat R (BookAt p b::rpNew b4::cmC b3 c sg sp::Hs) w:=hw.arr
 refine (bopen_spec hfl hg hp hw).use ?_ ?_
 ·clear hw
  rintro _ w ⟨he,sl,rfl,hw⟩
  refine .inl ⟨0,emS,0,c.flt,0,0,0,sl,nilSl,rfl,?_⟩
  refine store_rule hw (by kernel_rfl) rfl (by simp [Value.cells]) fun w hw=>?_
  have hw:=hw.re (rpC b4 (openR c) sl nilSl)
  refine caughtR ⟨0,emS,0,c.flt,0,0,0,sl,nilSl,At.own (eqS hw) (by exact ⟨rfl,rfl,rfl,rfl,rfl,rfl,rfl,rfl,rfl,trivial⟩),sl,?_,?_⟩
  ·rw [he]
  ·rw [he]
   have hw:Sat R (Own sl 3 (intsI (openR c).left)::BookAt p (openB b c).1::rpC b4 (openR c) sl nilSl::cmC b3 c sg sp::Hs) w:=hw.arr
   exact hw.cons fun _ h=>h.cons fun _ h=>h.drop.drop
 ·clear hw
  rintro _ w ⟨e,rfl,he,hw⟩
  refine .inr ⟨_,rfl,?_⟩
  have hw:Sat R (rpNew b4::BookAt p b::cmC b3 c sg sp::Hs) w:=hw.swap
  refine caughtP hw fun w hw=>⟨e,emS,0,0,0,0,0,nilSl,nilSl,At.own (eqS hw) (by exact ⟨rfl,rfl,rfl,rfl,rfl,rfl,rfl,rfl,rfl,trivial⟩),nilSl,?_,?_⟩
  ·rw [he];rfl
  ·rw [he]
   exact Own.nil (hw.drop.cons fun _ h=>h.drop)
def aw18:Cm:=⟨1,ByteArray.mk #[],7,0,0,0,0,ByteArray.mk #[],1,[2],[4607182418800017408]⟩
theorem aw18_lims:limitsT (layN 1 [2]) [4607182418800017408]=([2],0):=by kernel_rfl
theorem aw18_left:rleftsF (rnewF 7 1 [2] [2])=[2]:=by kernel_rfl
theorem aw18_ok:newOk 7 1 [2] [4607182418800017408]:=⟨by omega,by omega,by kernel_rfl,by rw [aw18_lims]⟩
theorem aw18_right:RightC aw18:=by
 refine ⟨?_,?_,?_,?_,?_,?_,?_,?_,?_,?_,?_⟩<;>unfold aw18<;>try (unfold numOk)<;>try (simp only;omega)
 ·intro n hn
  simp only [List.mem_singleton] at hn
  subst hn;omega
 all_goals first|(show (0:Nat)≤16;omega)|simp
theorem aw18_open:(openB newBook aw18).2=⟨0,emS,0,7,0,0,0,[2],[]⟩:=by
 have h1:¬ (newBook.at aw18.flt).isSome=true:=by
  show ¬ (kget Pl.n 7 []).isSome=true
  unfold kget
  simp
 unfold openB
 rw [if_neg h1,if_neg (by show ¬ 8≤0;omega),if_neg (fun h=>h aw18_ok)]
 show (⟨0,emS,0,7,0,0,0,rleftsF (rnewF 7 1 [2] (limitsT (layN 1 [2]) [4607182418800017408]).1),[]⟩:Rp)=_
 rw [aw18_lims,aw18_left]
theorem lopen_spec (hw:Sat R Hs w):Gets Tryz.prog 38 #[] w fun v w'=>∃ sg sp:Sl,v=.agg (cmV aw18 sg sp).toArray∧Sat R (Own sg 3 (intsI aw18.grps)::Own sp 33 (flts aw18.parts)::Hs) w':=by
 apply call38
 refine new_rule hw fun b w hw=>new_rule hw fun x w hw=>new_rule hw fun y w hw=>?_
 have hw:Sat R (pts y (.cells (flts [4607182418800017408]).toArray 33 (0,0))::pts x (.cells (intsI [2]).toArray 3 (0,0))::cmNew b::Hs) w:=hw
 have hw:Sat R (cmNew b::pts y (.cells (flts [4607182418800017408]).toArray 33 (0,0))::pts x (.cells (intsI [2]).toArray 3 (0,0))::Hs) w:=hw.arr
 refine store_rule hw (by kernel_rfl) rfl (by simp [Value.cells]) fun w hw=>?_
 have hw:=hw.re (cmC b aw18 ⟨some ⟨x,0,none⟩,1,1⟩ ⟨some ⟨y,0,none⟩,1,1⟩)
 refine ⟨_,_,_,_,_,_,_,_,_,⟨some ⟨x,0,none⟩,1,1⟩,⟨some ⟨y,0,none⟩,1,1⟩,At.own (eqS hw) (by exact ⟨rfl,rfl,rfl,rfl,rfl,rfl,rfl,rfl,rfl,rfl,rfl,trivial⟩),⟨some ⟨x,0,none⟩,1,1⟩,⟨some ⟨y,0,none⟩,1,1⟩,rfl,?_⟩
 exact (own_lit (n:=1) (hw.drop.swap)).cons fun _ h=>own_lit (n:=1) h
theorem aw18_spec (hw:Sat R Hs w):Gets Tryz.prog 12 #[] w fun v w'=>v=.bool true∧Sat R Hs w':=by
 apply call12
 refine (bnew_spec hw).use ?_
 clear hw
 rintro _ w ⟨p,rfl,hw⟩
 refine ⟨_,rfl,Br.f rfl ?_⟩
 refine (lopen_spec hw).use ?_
 clear hw
 rintro _ w ⟨sg,sp,rfl,hw⟩
 obtain ⟨R1,e1,g1,hw⟩:=Own.leak hw
 obtain ⟨R2,e2,g2,hw⟩:=Own.leak hw
 refine ⟨_,_,_,_,_,_,_,_,_,sg,sp,rfl,?_⟩
 refine (bapply1_spec (c:=aw18) rfl aw18_right (by show 0≤1000000;omega) (e2.ro (g1.ro (by unfold aw18;simp))) g2 hw).use ?_
 clear hw
 rintro _ w ⟨sl,rfl,hw⟩
 rw [aw18_open] at hw ⊢
 refine ⟨_,_,_,_,_,_,_,sl,nilSl,rfl,?_⟩
 refine new_rule hw fun b w hw=>?_
 refine store_rule hw (by kernel_rfl) rfl (by simp [Value.cells]) fun w hw=>?_
 have hw:=hw.re (rpC b ⟨0,emS,0,7,0,0,0,[2],[]⟩ sl nilSl)
 refine ⟨0,At.own (eqS hw) (by exact ⟨rfl,trivial⟩),Br.e (fun _=>?_) (fun h=>absurd rfl h)⟩
 have hw:=hw.swap
 have hsl:=Own.len hw
 have hsl:sl.len=1:=hsl
 refine ⟨sl,At.own (eqS hw) (by exact ⟨rfl,trivial⟩),Br.e (fun _=>?_) (fun h=>absurd (by rw [hsl];rfl) h)⟩
 refine ⟨sl,At.own (eqS hw) (by exact ⟨rfl,trivial⟩),Own.ix (xs:=[2]) hw (eqS hw) 0 rfl (by simp) ⟨rfl,?_⟩⟩
 exact e1.back (e2.back hw.drop.drop.drop)
end Go.Proofs.YtfgbbckfikiomaaGreatDoor


/- ROW: from a reading of an argument to what the contracts ask; from a walk's end to 'Below'. No condition. -/
namespace Go.VC
set_option linter.unusedVariables false
open Go.ChangeShapes Go.WideShapes Go.ChangeAt Go.RowKit
theorem below_of {W W':World} {Hs:List HP} (h:Sat (Cx.of W) Hs W'):Below W.heap.size W W':=by
 obtain ⟨h1,h2,h3⟩:=h.streams
 have hb:∀ k,k<W.heap.size→W'.heap[k]? =W.heap[k]?:=fun k hk=>by
  have:(Cx.of W).m k=some W.heap[k]:=by simp [Cx.of,hk]
  rw [h.of_ro this];simp [hk]
 refine ⟨h1,h2,h3,?_,hb⟩
 rcases Nat.lt_or_ge W'.heap.size W.heap.size with hl|hl
 ·have:=hb W'.heap.size hl
  rw [Array.getElem?_eq_none (Nat.le_refl _)] at this
  simp [hl] at this
 ·exact hl
theorem block_of_cell {w:World} {a:Addr} {v:Value} (h:w.cell? a=some v):a.spot=none∧∃ l T fr,w.heap[a.block]? =some (.cells l T fr)∧l[a.off]? =some v:=by
 unfold World.cell? at h
 split at h
 ·rename_i c T fr hb
  split at h
  ·cases h
  ·rename_i hs
   exact ⟨by simpa using hs,c,T,fr,hb,h⟩
 ·cases h
section
variable {H:Type} {enc:TypeId × Value→H} {P:Program} {W:World} {base:Nat} {spare:Nat→Bool} {held:Bool}
end
end Go.VC

