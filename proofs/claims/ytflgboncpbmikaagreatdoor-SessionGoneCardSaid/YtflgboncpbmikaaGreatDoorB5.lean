/- The formulas of functions of this seat's translation, printed by a program of mine off the translation; each is proved equal to 'fnF' of the function's body, so it is enough for the call. No condition. -/
import Derived.Test.YtflgboncpbmikaaGreatDoorB4
import Derived.Test.YtflgboncpbmikaaGreatDoorB2
import Derived.Test.YtflgboncpbmikaaGreatDoorB1
import Derived.ProofKit
import Derived.OpenShut
import Derived.ShutString
import Derived.ChangeOld
import Derived.Below
import Derived.Lib.SmallJoins
import Derived.Test.YtflgboncpbmikaaGreatDoorB3
import Derived.Maps.RangeRun
namespace Go.Proofs.YtflgboncpbmikaaGreatDoor
open Go Go.VC
set_option linter.unusedVariables false
set_option maxRecDepth 10000
def B45 (c:Bool) (b:Int) (a:List PanicEntry→World→Prop) (K:Value→World→Prop) (w:World):Prop:=
 Br (!c)
 (a [⟨.iface 28 (.int .i64 b),false,false⟩] w)
 (K (.tuple #[]) w)
theorem call45 (c:Bool) (b:Int) (a:List PanicEntry→World→Prop) (K:Value→World→Prop) (w:World) (h:B45 c b a K w):GetsX Tryz.prog 45 #[.bool c,.int .i64 b] w a K:=cqx (sk:=.leaf) Tryz.func45 (by kernel_rfl) (by kernel_rfl) (by kernel_rfl) h
def B75 (a:Int) (b:List PanicEntry→World→Prop) (K:Value→World→Prop) (w:World):Prop:=
 Br (a !=0)
 (b [⟨.iface 28 (.int .i64 a),false,false⟩] w)
 (K (.tuple #[]) w)
theorem call75 (b:Int) (a:List PanicEntry→World→Prop) (K:Value→World→Prop) (w:World) (h:B75 b a K w):GetsX Tryz.prog 75 #[.int .i64 b] w a K:=cqx (sk:=.leaf) Tryz.func75 (by kernel_rfl) (by kernel_rfl) (by kernel_rfl) h
def B44 (g:Option Addr) (b:Value) (K:World→Prop) (w:World):Prop:=
 ∃ c:Bool,(∀ a,(fun a=>a=w) a→((do eqGuard BinOp.neq 20 (Operand.tmp 4) (Operand.const Value.nilIface) b .nilIface;binOp BinOp.neq 20 b .nilIface:Sem Value)).run Tryz.prog a=.ok (.bool c) a)∧
 Br c
 (∃ d:Int,(∀ a,(fun a=>a=w) a→((Instr.typeAssert b 20 28 false)).run Tryz.prog a=.ok (.int .i64 d) a)∧
 NilP g fun f=>
 ∃ e:World,((Instr.storeAt 102 (.pointer ((some (f)))) (.agg #[.int .i64 d,.string (ByteArray.mk #[]),.int .i64 0,.int .i64 0,.int .i64 0,.int .i64 0,.int .i64 0,.slice none 0 0,.slice none 0 0])).run Tryz.prog w=.ok () e)∧
 K e)
 (K w)
theorem callP44 (b:Option Addr) (a:Value) (K:World→Prop) (w:World) (h:B44 b a K w):CallsD Tryz.prog 44 #[.pointer b] (.panicking [⟨a,false,false⟩]) w fun c d e=>(∃ f,c=.returned f)∧d=.panicking [⟨a,true,false⟩]∧K e:=
 rec_panic (sk:=.leaf) cl_ok mixed Tryz.func44 (by kernel_rfl) (Nat.le_of_ble_eq_true (by kernel_rfl)) (cast (by kernel_rfl) h)
theorem callR44 (a:Option Addr) (K:World→Prop) (w:World) (h:B44 a .nilIface K w):CallsD Tryz.prog 44 #[.pointer a] .returning w fun b c d=>(∃ e,b=.returned e)∧c=.returning∧K d:=
 rec_return (sk:=.leaf) cl_ok mixed Tryz.func44 (by kernel_rfl) (Nat.le_of_ble_eq_true (by kernel_rfl)) (cast (by kernel_rfl) h)
def B46 (Q:Int) (T:ByteArray) (U:Int) (V:Int) (X:Int) (Y:Int) (Z:Nat) (aa:ByteArray) (ab:Int) (r:Sl) (q:Sl) (K:Value→World→Prop) (w:World):Prop:=
 New (.cells #[.int .i64 Q,.string T,.int .i64 U,.int .i64 V,.int .i64 X,.int .i64 Y,.float .f64 Z,.string aa,.int .i64 ab,.slice r.a r.len r.cap,.slice q.a q.len q.cap] 96 (0,0)) (fun c j=>
 ∃ H:Int,(At (fun b=>b=j) ⟨c,0 + 2,none⟩ [.int .i64 H])∧
 ∃ u:Int,(At (fun b=>b=j) ⟨c,0 + 3,none⟩ [.int .i64 u])∧
 ∃ v:Int,(At (fun b=>b=j) ⟨c,0 + 4,none⟩ [.int .i64 v])∧
 ∃ x:Int,(At (fun b=>b=j) ⟨c,0 + 8,none⟩ [.int .i64 x])∧
 New (.cells #[.int .i64 H,.int .i64 u,.int .i64 v,.int .i64 x] 3 (0,0)) (fun O J=>
 ∃ g:Sl,(At (fun b=>b=J) ⟨c,0 + 8 + 1,none⟩ [.slice g.a g.len g.cap])∧
 ∃ L:World,∃ i:Sl,((Builtin.append_ #[68,68] 68 #[.slice ((some ⟨O,0,none⟩)) 4 4,.slice g.a g.len g.cap]).run Tryz.prog J=.ok (.slice i.a i.len i.cap) L)∧
 ∃ (n:Int→World→Prop) (M:Int→World→Nat),(n 0 L)∧∀ (ad:Env) (f:Int) (e:World),n f e→
 Br (decide (f<(↑i.len:Int)))
 (Rng f i.len (NilP i.a fun N=>
 ∃ y:Int,(At (fun b=>b=e) (Addr.add N f.toNat) [.int .i64 y])∧
 Calls Tryz.prog 73 #[.int .i64 y] e fun ac s=>
 ∃ z:Bool,(ac=.returned (.bool z))∧
 Br z
 (K (.bool false) s)
 ((n (IntKind.i64.wrap (f + 1)) s)∧M (IntKind.i64.wrap (f + 1)) s<M f e)))
 (∃ (o:Bool→World→Prop),(∃ A:ByteArray,(At (fun b=>b=e) ⟨c,0 + 1,none⟩ [.string A])∧
 Br (decide ((↑A.size:Int)≤16))
 (∃ C:ByteArray,(At (fun b=>b=e) ⟨c,0 + 7,none⟩ [.string C])∧
 o (decide ((↑C.size:Int)≤16)) e)
 (o false e))∧
 ∀ (ae:Env) (I:Bool) (k:World),o I k→
 ∃ (p:Bool→World→Prop),(∃ l:Sl,(At (fun b=>b=k) ⟨c,0 + 8 + 1,none⟩ [.slice l.a l.len l.cap])∧
 Br (decide ((↑l.len:Int)≤16))
 (∃ m:Sl,(At (fun b=>b=k) ⟨c,0 + 10,none⟩ [.slice m.a m.len m.cap])∧
 p (decide ((↑m.len:Int)≤16)) k)
 (p false k))∧
 ∀ (af:Env) (t:Bool) (d:World),p t d→
 Br I
 (Br t
 (∃ D:Int,(At (fun b=>b=d) ⟨c,0,none⟩ [.int .i64 D])∧
 Br (decide (D ≥ 1))
 (∃ E:Int,(At (fun b=>b=d) ⟨c,0,none⟩ [.int .i64 E])∧
 Br (decide (E≤9))
 (∃ F:Int,(At (fun b=>b=d) ⟨c,0 + 5,none⟩ [.int .i64 F])∧
 Br (decide (F ≥ 0))
 (∃ G:Int,(At (fun b=>b=d) ⟨c,0 + 5,none⟩ [.int .i64 G])∧
 K (.bool (decide (G≤1099511627776))) d)
 (K (.bool false) d))
 (K (.bool false) d))
 (K (.bool false) d))
 (K (.bool false) d))
 (K (.bool false) d))) j) w
def sk46:Sk:=(.seq .leaf (.seq .leaf (.seq (.seq .leaf (.block (.loop [23] [(.int .i64)] [2,5,23,24,25,26,27,28,29,30] .leaf))) (.cut [6] [.bool] [6,31,32,33,34,35,36,37,38,39,40] .leaf (.cut [7] [.bool] [7,41,42,43,44,45,46,47,48,49,50,51] .leaf .leaf)))))
theorem call46 (d:Int) (e:ByteArray) (f:Int) (g:Int) (i:Int) (j:Int) (k:Nat) (l:ByteArray) (m:Int) (c:Sl) (b:Sl) (K:Value→World→Prop) (w:World) (h:B46 d e f g i j k l m c b K w):Gets Tryz.prog 46 #[.agg #[.int .i64 d,.string e,.int .i64 f,.int .i64 g,.int .i64 i,.int .i64 j,.float .f64 k,.string l,.int .i64 m,.slice c.a c.len c.cap,.slice b.a b.len b.cap]] w K:=cq (sk:=sk46) Tryz.func46 (by kernel_rfl) (by kernel_rfl) (by kernel_rfl) h
def B73 (a:Int) (K:Value→World→Prop) (w:World):Prop:=
 Br (decide (a<0))
 (K (.bool true) w)
 (K (.bool (decide (a>9999))) w)
theorem call73 (a:Int) (K:Value→World→Prop) (w:World) (h:B73 a K w):Gets Tryz.prog 73 #[.int .i64 a] w K:=cq (sk:=.leaf) Tryz.func73 (by kernel_rfl) (by kernel_rfl) (by kernel_rfl) h
def B24  (K:Value→World→Prop) (w:World):Prop:=
 New (.map #[] 0) (fun a d=>
 New (.map #[] 0) (fun b e=>
 New (.cells #[.int .i64 0,.int .i64 1,.map ((some a)),.map ((some b))] 90 (0,0)) (fun c f=>
 K (.pointer ((some ⟨c,0,none⟩))) f) e) d) w
theorem call24  (K:Value→World→Prop) (w:World) (h:B24  K w):Gets Tryz.prog 24 #[] w K:=cq (sk:=.leaf) Tryz.func24 (by kernel_rfl) (by kernel_rfl) (by kernel_rfl) h
def B56 (m:Option Addr) (i:Sl) (K:Value→World→Prop) (w:World):Prop:=
 ∃ (g:Int→World→Prop) (p:Int→World→Nat),(g 0 w)∧∀ (x:Env) (b:Int) (f:World),g b f→
 Br (decide (b<(↑i.len:Int)))
 (Rng b i.len (NilP i.a fun q=>
 ∃ j:Int,(At (fun u=>u=f) (Addr.add q b.toNat) [.int .i64 j])∧
 Drw f fun l v=>
 NilP m fun r=>
 ∃ c:Sl,(At l (Addr.add r 0) [.slice c.a c.len c.cap])∧
 Calls Tryz.prog 35 #[.int .u64 (IntKind.u64.wrap (if 0>j then 0 else j))] v fun t n=>
 ∃ d:Sl,(t=.returned (.slice d.a d.len d.cap))∧
 (l n)∧
 ∃ o:World,∃ e:Sl,((Builtin.append_ #[22,22] 22 #[.slice c.a c.len c.cap,.slice d.a d.len d.cap]).run Tryz.prog n=.ok (.slice e.a e.len e.cap) o)∧
 NilP m fun s=>
 ∃ k:World,((Instr.storeAt 22 (.pointer ((some (Addr.add s 0)))) (.slice e.a e.len e.cap)).run Tryz.prog o=.ok () k)∧
 (g (IntKind.i64.wrap (b + 1)) k)∧p (IntKind.i64.wrap (b + 1)) k<p b f))
 (K (.tuple #[]) f)
def sk56:Sk:=(.seq .leaf (.block (.loop [8] [(.int .i64)] [5,8,9,10,11,12,13,14,15,16,17,18,19,20,21,22,23,24] .leaf)))
theorem call56 (c:Option Addr) (b:Sl) (K:Value→World→Prop) (w:World) (h:B56 c b K w):Gets Tryz.prog 56 #[.pointer c,.slice b.a b.len b.cap] w K:=cq (sk:=sk56) Tryz.func56 (by kernel_rfl) (by kernel_rfl) (by kernel_rfl) h
def B72 (c:Option Addr) (b:Sl) (K:Value→World→Prop) (w:World):Prop:=
 New (.cells #[.int .i64 ((↑b.len:Int))] 3 (0,0)) (fun d g=>
 Calls Tryz.prog 56 #[.pointer c,.slice ((some ⟨d,0,none⟩)) 1 1] g fun e i=>
 (e=.returned (.tuple #[]))∧
 Calls Tryz.prog 56 #[.pointer c,.slice b.a b.len b.cap] i fun f j=>
 (f=.returned (.tuple #[]))∧
 K (.tuple #[]) j) w
theorem call72 (c:Option Addr) (b:Sl) (K:Value→World→Prop) (w:World) (h:B72 c b K w):Gets Tryz.prog 72 #[.pointer c,.slice b.a b.len b.cap] w K:=cq (sk:=.leaf) Tryz.func72 (by kernel_rfl) (by kernel_rfl) (by kernel_rfl) h
def B58 (g:Option Addr) (e:Sl) (K:Value→World→Prop) (w:World):Prop:=
 Drw w fun f o=>
 NilP g fun m=>
 ∃ d:Sl,(At f (Addr.add m 0) [.slice d.a d.len d.cap])∧
 Calls Tryz.prog 19 #[.slice e.a e.len e.cap] o fun n i=>
 ∃ b:Sl,(n=.returned (.slice b.a b.len b.cap))∧
 (f i)∧
 ∃ j:World,∃ c:Sl,((Builtin.append_ #[22,22] 22 #[.slice d.a d.len d.cap,.slice b.a b.len b.cap]).run Tryz.prog i=.ok (.slice c.a c.len c.cap) j)∧
 NilP g fun l=>
 ∃ k:World,((Instr.storeAt 22 (.pointer ((some (Addr.add l 0)))) (.slice c.a c.len c.cap)).run Tryz.prog j=.ok () k)∧
 K (.tuple #[]) k
theorem call58 (c:Option Addr) (b:Sl) (K:Value→World→Prop) (w:World) (h:B58 c b K w):Gets Tryz.prog 58 #[.pointer c,.slice b.a b.len b.cap] w K:=cq (sk:=.leaf) Tryz.func58 (by kernel_rfl) (by kernel_rfl) (by kernel_rfl) h
def B67 (g:Option Addr) (f:Int) (K:Value→World→Prop) (w:World):Prop:=
 New (.cells #[.pointer g] 130 (0,0)) (fun d c=>
 ∃ a:Option Addr,(At (fun i=>i=c) ⟨d,0,none⟩ [.pointer a])∧
 Calls Tryz.prog 36 #[.pointer a,.int .u64 (IntKind.u64.wrap f)] c fun e j=>
 ∃ b:Int,(e=.returned (.int .u64 b))∧
 K (.int .i64 (IntKind.i64.wrap b)) j) w
theorem call67 (b:Option Addr) (a:Int) (K:Value→World→Prop) (w:World) (h:B67 b a K w):Gets Tryz.prog 67 #[.agg #[.pointer b],.int .i64 a] w K:=cq (sk:=.leaf) Tryz.func67 (by kernel_rfl) (by kernel_rfl) (by kernel_rfl) h
def B68 (l:Option Addr) (k:Int) (K:Value→World→Prop) (w:World):Prop:=
 New (.cells #[.pointer l] 130 (0,0)) (fun i f=>
 ∃ d:Option Addr,(At (fun b=>b=f) ⟨i,0,none⟩ [.pointer d])∧
 Calls Tryz.prog 22 #[.pointer d,.int .i64 k] f fun j g=>
 ∃ c:Sl,(j=.returned (.slice c.a c.len c.cap))∧
 ∃ e:ByteArray,(∀ b,(fun b=>b=g) b→((convert 22 9 (.slice c.a c.len c.cap))).run Tryz.prog b=.ok (.string e) b)∧
 K (.string e) g) w
theorem call68 (b:Option Addr) (a:Int) (K:Value→World→Prop) (w:World) (h:B68 b a K w):Gets Tryz.prog 68 #[.agg #[.pointer b],.int .i64 a] w K:=cq (sk:=.leaf) Tryz.func68 (by kernel_rfl) (by kernel_rfl) (by kernel_rfl) h
def B69 (i:Option Addr) (K:Value→World→Prop) (w:World):Prop:=
 New (.cells #[.pointer i] 130 (0,0)) (fun e d=>
 ∃ a:Option Addr,(At (fun j=>j=d) ⟨e,0,none⟩ [.pointer a])∧
 Calls Tryz.prog 36 #[.pointer a,.int .u64 18446744073709551615] d fun f k=>
 ∃ b:Int,(f=.returned (.int .u64 b))∧
 Calls Tryz.prog 98 #[.int .u64 b] k fun g l=>
 ∃ c:Nat,(g=.returned (.float .f64 c))∧
 K (.float .f64 c) l) w
theorem call69 (a:Option Addr) (K:Value→World→Prop) (w:World) (h:B69 a K w):Gets Tryz.prog 69 #[.agg #[.pointer a]] w K:=cq (sk:=.leaf) Tryz.func69 (by kernel_rfl) (by kernel_rfl) (by kernel_rfl) h
def B70 (m:Int) (n:Value) (K:Value→World→Prop) (w:World):Prop:=
 ∃ (f:Sl→Int→World→Prop) (j:Sl→Int→World→Nat),(f ⟨none,0,0⟩ 0 w)∧∀ (q:Env) (b:Sl) (d:Int) (e:World),f b d e→
 Br (decide (d<m))
 (CalW Tryz.prog cl n [] e fun l o=>
 ∃ i:Int,(l=.returned (.int .i64 i))∧
 New (.cells #[.int .i64 i] 3 (0,0)) (fun k p=>
 ∃ g:World,∃ c:Sl,((Builtin.append_ #[68,68] 68 #[.slice b.a b.len b.cap,.slice ((some ⟨k,0,none⟩)) 1 1]).run Tryz.prog p=.ok (.slice c.a c.len c.cap) g)∧
 (f c (IntKind.i64.wrap (d + 1)) g)∧j c (IntKind.i64.wrap (d + 1)) g<j b d e) o)
 (K (.slice b.a b.len b.cap) e)
def sk70:Sk:=(.seq .leaf (.seq .leaf (.seq (.seq .leaf (.block (.loop [5,7] [.sl,(.int .i64)] [5,7,8,9,10,11,12,13,14] .leaf))) .leaf)))
theorem call70 (a:Int) (b:Value) (K:Value→World→Prop) (w:World) (h:B70 a b K w):Gets Tryz.prog 70 #[.int .i64 a,b] w K:=cq (sk:=sk70) Tryz.func70 (by kernel_rfl) (by kernel_rfl) (by kernel_rfl) h
def B71 (m:Int) (n:Value) (K:Value→World→Prop) (w:World):Prop:=
 ∃ (f:Sl→Int→World→Prop) (j:Sl→Int→World→Nat),(f ⟨none,0,0⟩ 0 w)∧∀ (q:Env) (b:Sl) (d:Int) (e:World),f b d e→
 Br (decide (d<m))
 (CalW Tryz.prog cl n [] e fun l o=>
 ∃ i:Nat,(l=.returned (.float .f64 i))∧
 New (.cells #[.float .f64 i] 91 (0,0)) (fun k p=>
 ∃ g:World,∃ c:Sl,((Builtin.append_ #[94,94] 94 #[.slice b.a b.len b.cap,.slice ((some ⟨k,0,none⟩)) 1 1]).run Tryz.prog p=.ok (.slice c.a c.len c.cap) g)∧
 (f c (IntKind.i64.wrap (d + 1)) g)∧j c (IntKind.i64.wrap (d + 1)) g<j b d e) o)
 (K (.slice b.a b.len b.cap) e)
def sk71:Sk:=(.seq .leaf (.seq .leaf (.seq (.seq .leaf (.block (.loop [5,7] [.sl,(.int .i64)] [5,7,8,9,10,11,12,13,14] .leaf))) .leaf)))
theorem call71 (a:Int) (b:Value) (K:Value→World→Prop) (w:World) (h:B71 a b K w):Gets Tryz.prog 71 #[.int .i64 a,b] w K:=cq (sk:=sk71) Tryz.func71 (by kernel_rfl) (by kernel_rfl) (by kernel_rfl) h
def B42 (D:Sl) (K:Value→World→Prop) (w:World):Prop:=
 New (.cells #[.int .i64 0,.string (ByteArray.mk #[]),.int .i64 0,.int .i64 0,.int .i64 0,.int .i64 0,.float .f64 0,.string (ByteArray.mk #[]),.int .i64 0,.slice none 0 0,.slice none 0 0] 96 (0,0)) (fun j e7=>
 Calls Tryz.prog 20 #[.slice D.a D.len D.cap] e7 fun d6 e8=>
 ∃ cw:Option Addr,(d6=.returned (.pointer cw))∧
 New (.cells #[.pointer none] 130 (0,0)) (fun c e9=>
 ∃ dr:World,((Instr.storeAt 130 (.pointer ((some ⟨c,0,none⟩))) (.agg #[.pointer cw])).run Tryz.prog e9=.ok () dr)∧
 ∃ (e:Option Addr→World→Prop),(Drw dr fun b dz=>
 ∃ E:Option Addr,(At b ⟨c,0,none⟩ [.pointer E])∧
 ∃ A:Option Addr,(At b ⟨c,0,none⟩ [.pointer A])∧
 ∃ g:Option Addr,(At b ⟨c,0,none⟩ [.pointer g])∧
 (Calls Tryz.prog 67 #[.agg #[.pointer E],.int .i64 9] dz fun d7 L=>
 ∃ i:Int,(d7=.returned (.int .i64 i))∧
 (b L)∧
 (Calls Tryz.prog 68 #[.agg #[.pointer A],.int .i64 16] L fun ei V=>
 ∃ k:ByteArray,(ei=.returned (.string k))∧
 (b V)∧
 (Calls Tryz.prog 66 #[.pointer ((some ⟨c,0,none⟩))] V fun et X=>
 ∃ y:Int,(et=.returned (.int .i64 y))∧
 (b X)∧
 (Calls Tryz.prog 66 #[.pointer ((some ⟨c,0,none⟩))] X fun e1 Y=>
 ∃ C:Int,(e1=.returned (.int .i64 C))∧
 (b Y)∧
 (Calls Tryz.prog 66 #[.pointer ((some ⟨c,0,none⟩))] Y fun e2 G=>
 ∃ F:Int,(e2=.returned (.int .i64 F))∧
 (b G)∧
 (Calls Tryz.prog 67 #[.agg #[.pointer g],.int .i64 1099511627776] G fun e3 cx=>
 ∃ a2:Int,(e3=.returned (.int .i64 a2))∧
 (b cx)∧
 New (.cells #[.int .i64 0,.string (ByteArray.mk #[]),.int .i64 0,.int .i64 0,.int .i64 0,.int .i64 0,.float .f64 0,.string (ByteArray.mk #[]),.int .i64 0,.slice none 0 0,.slice none 0 0] 96 (0,0)) (fun ae cy=>
 (b cy)∧
 ∃ cz:World,((Instr.storeAt 96 (.pointer ((some ⟨ae,0,none⟩))) (.agg #[.int .i64 i,.string k,.int .i64 y,.int .i64 C,.int .i64 F,.int .i64 a2,.float .f64 0,.string (ByteArray.mk #[]),.int .i64 0,.slice none 0 0,.slice none 0 0])).run Tryz.prog cy=.ok () cz)∧
 e ((some ⟨ae,0,none⟩)) cz) cx)∧
 New (.cells #[.int .i64 0,.string (ByteArray.mk #[]),.int .i64 0,.int .i64 0,.int .i64 0,.int .i64 0,.float .f64 0,.string (ByteArray.mk #[]),.int .i64 0,.slice none 0 0,.slice none 0 0] 96 (0,0)) (fun af c0=>
 (b c0)∧
 Calls Tryz.prog 67 #[.agg #[.pointer g],.int .i64 1099511627776] c0 fun e4 c1=>
 ∃ a3:Int,(e4=.returned (.int .i64 a3))∧
 (b c1)∧
 ∃ c2:World,((Instr.storeAt 96 (.pointer ((some ⟨af,0,none⟩))) (.agg #[.int .i64 i,.string k,.int .i64 y,.int .i64 C,.int .i64 F,.int .i64 a3,.float .f64 0,.string (ByteArray.mk #[]),.int .i64 0,.slice none 0 0,.slice none 0 0])).run Tryz.prog c1=.ok () c2)∧
 e ((some ⟨af,0,none⟩)) c2) G)∧
 New (.cells #[.int .i64 0,.string (ByteArray.mk #[]),.int .i64 0,.int .i64 0,.int .i64 0,.int .i64 0,.float .f64 0,.string (ByteArray.mk #[]),.int .i64 0,.slice none 0 0,.slice none 0 0] 96 (0,0)) (fun ag c3=>
 (b c3)∧
 Calls Tryz.prog 66 #[.pointer ((some ⟨c,0,none⟩))] c3 fun e5 c4=>
 ∃ ax:Int,(e5=.returned (.int .i64 ax))∧
 (b c4)∧
 Calls Tryz.prog 67 #[.agg #[.pointer g],.int .i64 1099511627776] c4 fun e6 c5=>
 ∃ a4:Int,(e6=.returned (.int .i64 a4))∧
 (b c5)∧
 ∃ c6:World,((Instr.storeAt 96 (.pointer ((some ⟨ag,0,none⟩))) (.agg #[.int .i64 i,.string k,.int .i64 y,.int .i64 C,.int .i64 ax,.int .i64 a4,.float .f64 0,.string (ByteArray.mk #[]),.int .i64 0,.slice none 0 0,.slice none 0 0])).run Tryz.prog c5=.ok () c6)∧
 e ((some ⟨ag,0,none⟩)) c6) Y)∧
 New (.cells #[.int .i64 0,.string (ByteArray.mk #[]),.int .i64 0,.int .i64 0,.int .i64 0,.int .i64 0,.float .f64 0,.string (ByteArray.mk #[]),.int .i64 0,.slice none 0 0,.slice none 0 0] 96 (0,0)) (fun ah c7=>
 (b c7)∧
 Calls Tryz.prog 66 #[.pointer ((some ⟨c,0,none⟩))] c7 fun d8 c8=>
 ∃ ar:Int,(d8=.returned (.int .i64 ar))∧
 (b c8)∧
 Calls Tryz.prog 66 #[.pointer ((some ⟨c,0,none⟩))] c8 fun d9 c9=>
 ∃ ay:Int,(d9=.returned (.int .i64 ay))∧
 (b c9)∧
 Calls Tryz.prog 67 #[.agg #[.pointer g],.int .i64 1099511627776] c9 fun ea da=>
 ∃ a5:Int,(ea=.returned (.int .i64 a5))∧
 (b da)∧
 ∃ db:World,((Instr.storeAt 96 (.pointer ((some ⟨ah,0,none⟩))) (.agg #[.int .i64 i,.string k,.int .i64 y,.int .i64 ar,.int .i64 ay,.int .i64 a5,.float .f64 0,.string (ByteArray.mk #[]),.int .i64 0,.slice none 0 0,.slice none 0 0])).run Tryz.prog da=.ok () db)∧
 e ((some ⟨ah,0,none⟩)) db) X)∧
 New (.cells #[.int .i64 0,.string (ByteArray.mk #[]),.int .i64 0,.int .i64 0,.int .i64 0,.int .i64 0,.float .f64 0,.string (ByteArray.mk #[]),.int .i64 0,.slice none 0 0,.slice none 0 0] 96 (0,0)) (fun ai dc=>
 (b dc)∧
 Calls Tryz.prog 66 #[.pointer ((some ⟨c,0,none⟩))] dc fun eb dd=>
 ∃ ao:Int,(eb=.returned (.int .i64 ao))∧
 (b dd)∧
 Calls Tryz.prog 66 #[.pointer ((some ⟨c,0,none⟩))] dd fun ec de=>
 ∃ au:Int,(ec=.returned (.int .i64 au))∧
 (b de)∧
 Calls Tryz.prog 66 #[.pointer ((some ⟨c,0,none⟩))] de fun ed df=>
 ∃ az:Int,(ed=.returned (.int .i64 az))∧
 (b df)∧
 Calls Tryz.prog 67 #[.agg #[.pointer g],.int .i64 1099511627776] df fun ee dg=>
 ∃ a6:Int,(ee=.returned (.int .i64 a6))∧
 (b dg)∧
 ∃ dh:World,((Instr.storeAt 96 (.pointer ((some ⟨ai,0,none⟩))) (.agg #[.int .i64 i,.string k,.int .i64 ao,.int .i64 au,.int .i64 az,.int .i64 a6,.float .f64 0,.string (ByteArray.mk #[]),.int .i64 0,.slice none 0 0,.slice none 0 0])).run Tryz.prog dg=.ok () dh)∧
 e ((some ⟨ai,0,none⟩)) dh) V)∧
 New (.cells #[.int .i64 0,.string (ByteArray.mk #[]),.int .i64 0,.int .i64 0,.int .i64 0,.int .i64 0,.float .f64 0,.string (ByteArray.mk #[]),.int .i64 0,.slice none 0 0,.slice none 0 0] 96 (0,0)) (fun aj di=>
 (b di)∧
 Calls Tryz.prog 68 #[.agg #[.pointer A],.int .i64 16] di fun ef dj=>
 ∃ am:ByteArray,(ef=.returned (.string am))∧
 (b dj)∧
 Calls Tryz.prog 66 #[.pointer ((some ⟨c,0,none⟩))] dj fun eg dk=>
 ∃ ap:Int,(eg=.returned (.int .i64 ap))∧
 (b dk)∧
 Calls Tryz.prog 66 #[.pointer ((some ⟨c,0,none⟩))] dk fun eh dl=>
 ∃ av:Int,(eh=.returned (.int .i64 av))∧
 (b dl)∧
 Calls Tryz.prog 66 #[.pointer ((some ⟨c,0,none⟩))] dl fun ej dm=>
 ∃ a0:Int,(ej=.returned (.int .i64 a0))∧
 (b dm)∧
 Calls Tryz.prog 67 #[.agg #[.pointer g],.int .i64 1099511627776] dm fun ek dn=>
 ∃ a7:Int,(ek=.returned (.int .i64 a7))∧
 (b dn)∧
 ∃ dp:World,((Instr.storeAt 96 (.pointer ((some ⟨aj,0,none⟩))) (.agg #[.int .i64 i,.string am,.int .i64 ap,.int .i64 av,.int .i64 a0,.int .i64 a7,.float .f64 0,.string (ByteArray.mk #[]),.int .i64 0,.slice none 0 0,.slice none 0 0])).run Tryz.prog dn=.ok () dp)∧
 e ((some ⟨aj,0,none⟩)) dp) L)∧
 New (.cells #[.int .i64 0,.string (ByteArray.mk #[]),.int .i64 0,.int .i64 0,.int .i64 0,.int .i64 0,.float .f64 0,.string (ByteArray.mk #[]),.int .i64 0,.slice none 0 0,.slice none 0 0] 96 (0,0)) (fun ak dq=>
 (b dq)∧
 Calls Tryz.prog 67 #[.agg #[.pointer E],.int .i64 9] dq fun el ds=>
 ∃ al:Int,(el=.returned (.int .i64 al))∧
 (b ds)∧
 Calls Tryz.prog 68 #[.agg #[.pointer A],.int .i64 16] ds fun em dt=>
 ∃ an:ByteArray,(em=.returned (.string an))∧
 (b dt)∧
 Calls Tryz.prog 66 #[.pointer ((some ⟨c,0,none⟩))] dt fun en du=>
 ∃ aq:Int,(en=.returned (.int .i64 aq))∧
 (b du)∧
 Calls Tryz.prog 66 #[.pointer ((some ⟨c,0,none⟩))] du fun eo dv=>
 ∃ aw:Int,(eo=.returned (.int .i64 aw))∧
 (b dv)∧
 Calls Tryz.prog 66 #[.pointer ((some ⟨c,0,none⟩))] dv fun ep dw=>
 ∃ a1:Int,(ep=.returned (.int .i64 a1))∧
 (b dw)∧
 Calls Tryz.prog 67 #[.agg #[.pointer g],.int .i64 1099511627776] dw fun eq dx=>
 ∃ a8:Int,(eq=.returned (.int .i64 a8))∧
 (b dx)∧
 ∃ dy:World,((Instr.storeAt 96 (.pointer ((some ⟨ak,0,none⟩))) (.agg #[.int .i64 al,.string an,.int .i64 aq,.int .i64 aw,.int .i64 a1,.int .i64 a8,.float .f64 0,.string (ByteArray.mk #[]),.int .i64 0,.slice none 0 0,.slice none 0 0])).run Tryz.prog dx=.ok () dy)∧
 e ((some ⟨ak,0,none⟩)) dy) dz)∧
 ∀ (fg:Env) (f:Option Addr) (H:World),e f H→
 ∃ a9:Option Addr,(At (fun d=>d=H) ⟨c,0,none⟩ [.pointer a9])∧
 Calls Tryz.prog 69 #[.agg #[.pointer a9]] H fun er fa=>
 ∃ ba:Nat,(er=.returned (.float .f64 ba))∧
 NilP f fun Z=>
 ∃ I:World,((Instr.storeAt 91 (.pointer ((some ⟨Z.block,Z.off + 6,none⟩))) (.float .f64 ba)).run Tryz.prog fa=.ok () I)∧
 ∃ bb:Option Addr,(At (fun d=>d=I) ⟨c,0,none⟩ [.pointer bb])∧
 Calls Tryz.prog 68 #[.agg #[.pointer bb],.int .i64 16] I fun es fb=>
 ∃ bc:ByteArray,(es=.returned (.string bc))∧
 NilP f fun aa=>
 ∃ d0:World,((Instr.storeAt 9 (.pointer ((some ⟨aa.block,aa.off + 7,none⟩))) (.string bc)).run Tryz.prog fb=.ok () d0)∧
 Calls Tryz.prog 66 #[.pointer ((some ⟨c,0,none⟩))] d0 fun eu fc=>
 ∃ be:Int,(eu=.returned (.int .i64 be))∧
 NilP f fun ab=>
 ∃ J:World,((Instr.storeAt 3 (.pointer ((some ⟨ab.block,ab.off + 8,none⟩))) (.int .i64 be)).run Tryz.prog fc=.ok () J)∧
 ∃ bf:Option Addr,(At (fun d=>d=J) ⟨c,0,none⟩ [.pointer bf])∧
 Calls Tryz.prog 67 #[.agg #[.pointer bf],.int .i64 16] J fun ev fd=>
 ∃ bg:Int,(ev=.returned (.int .i64 bg))∧
 Calls Tryz.prog 70 #[.int .i64 bg,.func (.func 66) #[] #[.pointer ((some ⟨c,0,none⟩))]] fd fun ew fe=>
 ∃ l:Sl,(ew=.returned (.slice l.a l.len l.cap))∧
 NilP f fun ac=>
 ∃ d1:World,((Instr.storeAt 68 (.pointer ((some ⟨ac.block,ac.off + 8 + 1,none⟩))) (.slice l.a l.len l.cap)).run Tryz.prog fe=.ok () d1)∧
 Drw d1 fun z ff=>
 ∃ b8:Option Addr,(At z ⟨c,0,none⟩ [.pointer b8])∧
 ∃ ca:Option Addr,(At z ⟨c,0,none⟩ [.pointer ca])∧
 Calls Tryz.prog 67 #[.agg #[.pointer b8],.int .i64 16] ff fun ex d2=>
 ∃ b9:Int,(ex=.returned (.int .i64 b9))∧
 (z d2)∧
 Calls Tryz.prog 71 #[.int .i64 b9,.func (.func 69) #[.agg #[.pointer ca]] #[]] d2 fun ey d3=>
 ∃ s:Sl,(ey=.returned (.slice s.a s.len s.cap))∧
 (z d3)∧
 NilP f fun ad=>
 ∃ M:World,((Instr.storeAt 94 (.pointer ((some ⟨ad.block,ad.off + 10,none⟩))) (.slice s.a s.len s.cap)).run Tryz.prog d3=.ok () M)∧
 ∃ cb:Option Addr,(At (fun d=>d=M) ⟨c,0,none⟩ [.pointer cb])∧
 Calls Tryz.prog 23 #[.pointer cb] M fun ez N=>
 ∃ cc:Bool,(ez=.returned (.bool cc))∧
 Br (!cc)
 (∃ O:World,((Instr.storeAt 96 (.pointer ((some ⟨j,0,none⟩))) (.agg #[.int .i64 0,.string (ByteArray.mk #[]),.int .i64 0,.int .i64 0,.int .i64 0,.int .i64 0,.float .f64 0,.string (ByteArray.mk #[]),.int .i64 0,.slice none 0 0,.slice none 0 0])).run Tryz.prog N=.ok () O)∧
 ∃ bd:Int,∃ bh:ByteArray,∃ br:Int,∃ b1:Int,∃ b3:Int,∃ b4:Int,∃ b5:Nat,∃ b6:ByteArray,∃ b7:Int,∃ r:Sl,∃ m:Sl,(At (fun d=>d=O) ⟨j,0,none⟩ [.int .i64 bd,.string bh,.int .i64 br,.int .i64 b1,.int .i64 b3,.int .i64 b4,.float .f64 b5,.string b6,.int .i64 b7,.slice r.a r.len r.cap,.slice m.a m.len m.cap])∧
 K (.tuple #[.agg #[.int .i64 bd,.string bh,.int .i64 br,.int .i64 b1,.int .i64 b3,.int .i64 b4,.float .f64 b5,.string b6,.int .i64 b7,.slice r.a r.len r.cap,.slice m.a m.len m.cap],.int .i64 6]) O)
 (NilP f fun d4=>
 ∃ cd:Int,∃ ce:ByteArray,∃ cf:Int,∃ cg:Int,∃ ch:Int,∃ ci:Int,∃ cj:Nat,∃ ck:ByteArray,∃ cl:Int,∃ u:Sl,∃ t:Sl,(At (fun d=>d=N) d4 [.int .i64 cd,.string ce,.int .i64 cf,.int .i64 cg,.int .i64 ch,.int .i64 ci,.float .f64 cj,.string ck,.int .i64 cl,.slice u.a u.len u.cap,.slice t.a t.len t.cap])∧
 Calls Tryz.prog 46 #[.agg #[.int .i64 cd,.string ce,.int .i64 cf,.int .i64 cg,.int .i64 ch,.int .i64 ci,.float .f64 cj,.string ck,.int .i64 cl,.slice u.a u.len u.cap,.slice t.a t.len t.cap]] N fun e0 Q=>
 ∃ cm:Bool,(e0=.returned (.bool cm))∧
 Br (!cm)
 (∃ T:World,((Instr.storeAt 96 (.pointer ((some ⟨j,0,none⟩))) (.agg #[.int .i64 0,.string (ByteArray.mk #[]),.int .i64 0,.int .i64 0,.int .i64 0,.int .i64 0,.float .f64 0,.string (ByteArray.mk #[]),.int .i64 0,.slice none 0 0,.slice none 0 0])).run Tryz.prog Q=.ok () T)∧
 ∃ bi:Int,∃ bj:ByteArray,∃ bk:Int,∃ bl:Int,∃ bm:Int,∃ bn:Int,∃ bo:Nat,∃ bp:ByteArray,∃ bq:Int,∃ n:Sl,∃ o:Sl,(At (fun d=>d=T) ⟨j,0,none⟩ [.int .i64 bi,.string bj,.int .i64 bk,.int .i64 bl,.int .i64 bm,.int .i64 bn,.float .f64 bo,.string bp,.int .i64 bq,.slice n.a n.len n.cap,.slice o.a o.len o.cap])∧
 K (.tuple #[.agg #[.int .i64 bi,.string bj,.int .i64 bk,.int .i64 bl,.int .i64 bm,.int .i64 bn,.float .f64 bo,.string bp,.int .i64 bq,.slice n.a n.len n.cap,.slice o.a o.len o.cap],.int .i64 6]) T)
 (NilP f fun d5=>
 ∃ cn:Int,∃ co:ByteArray,∃ cp:Int,∃ cq:Int,∃ cr:Int,∃ cs:Int,∃ ct:Nat,∃ cu:ByteArray,∃ cv:Int,∃ x:Sl,∃ v:Sl,(At (fun d=>d=Q) d5 [.int .i64 cn,.string co,.int .i64 cp,.int .i64 cq,.int .i64 cr,.int .i64 cs,.float .f64 ct,.string cu,.int .i64 cv,.slice x.a x.len x.cap,.slice v.a v.len v.cap])∧
 ∃ U:World,((Instr.storeAt 96 (.pointer ((some ⟨j,0,none⟩))) (.agg #[.int .i64 cn,.string co,.int .i64 cp,.int .i64 cq,.int .i64 cr,.int .i64 cs,.float .f64 ct,.string cu,.int .i64 cv,.slice x.a x.len x.cap,.slice v.a v.len v.cap])).run Tryz.prog Q=.ok () U)∧
 ∃ bs:Int,∃ bt:ByteArray,∃ bu:Int,∃ bv:Int,∃ bw:Int,∃ bx:Int,∃ bz:Nat,∃ b0:ByteArray,∃ b2:Int,∃ p:Sl,∃ q:Sl,(At (fun d=>d=U) ⟨j,0,none⟩ [.int .i64 bs,.string bt,.int .i64 bu,.int .i64 bv,.int .i64 bw,.int .i64 bx,.float .f64 bz,.string b0,.int .i64 b2,.slice p.a p.len p.cap,.slice q.a q.len q.cap])∧
 K (.tuple #[.agg #[.int .i64 bs,.string bt,.int .i64 bu,.int .i64 bv,.int .i64 bw,.int .i64 bx,.float .f64 bz,.string b0,.int .i64 b2,.slice p.a p.len p.cap,.slice q.a q.len q.cap],.int .i64 0]) U))) e8) w
def sk42:Sk:=(.seq .leaf (.seq .leaf (.seq .leaf (.cut [6] [.ptr] [6,11,12,13,14,15,16,17,18,19,20,21,22,23] .leaf .leaf))))
theorem call42 (b:Sl) (K:Value→World→Prop) (w:World) (h:B42 b K w):Gets Tryz.prog 42 #[.slice b.a b.len b.cap] w K:=cq (sk:=sk42) Tryz.func42 (by kernel_rfl) (by kernel_rfl) (by kernel_rfl) h
def B66 (d:Option Addr) (K:Value→World→Prop) (w:World):Prop:=
 NilP d fun c=>
 ∃ a:Option Addr,(At (fun f=>f=w) c [.pointer a])∧
 Calls Tryz.prog 67 #[.agg #[.pointer a],.int .i64 9999] w fun e g=>
 ∃ b:Int,(e=.returned (.int .i64 b))∧
 K (.int .i64 b) g
theorem call66 (a:Option Addr) (K:Value→World→Prop) (w:World) (h:B66 a K w):Gets Tryz.prog 66 #[.pointer a] w K:=cq (sk:=.leaf) Tryz.func66 (by kernel_rfl) (by kernel_rfl) (by kernel_rfl) h
def B43 (Z:Int) (aa:ByteArray) (ab:Int) (ac:Int) (ad:Int) (ae:Int) (af:Int) (p:Sl) (q:Sl) (K:Value→World→Prop) (w:World):Prop:=
 New (.cells #[.int .i64 Z,.string aa,.int .i64 ab,.int .i64 ac,.int .i64 ad,.int .i64 ae,.int .i64 af,.slice p.a p.len p.cap,.slice q.a q.len q.cap] 102 (0,0)) (fun c ag=>
 New (.cells #[.slice none 0 0] 113 (0,0)) (fun d E=>
 ∃ r:Int,(At (fun b=>b=E) ⟨c,0,none⟩ [.int .i64 r])∧
 New (.cells #[.int .i64 r] 3 (0,0)) (fun M ai=>
 Calls Tryz.prog 56 #[.pointer ((some ⟨d,0,none⟩)),.slice ((some ⟨M,0,none⟩)) 1 1] ai fun Q F=>
 (Q=.returned (.tuple #[]))∧
 ∃ s:ByteArray,(At (fun b=>b=F) ⟨c,0 + 1,none⟩ [.string s])∧
 ∃ G:World,∃ f:Sl,((convert 9 22 (.string s)).run Tryz.prog F=.ok (.slice f.a f.len f.cap) G)∧
 Calls Tryz.prog 58 #[.pointer ((some ⟨d,0,none⟩)),.slice f.a f.len f.cap] G fun T m=>
 (T=.returned (.tuple #[]))∧
 ∃ t:Int,(At (fun b=>b=m) ⟨c,0 + 2,none⟩ [.int .i64 t])∧
 ∃ u:Int,(At (fun b=>b=m) ⟨c,0 + 3,none⟩ [.int .i64 u])∧
 ∃ v:Int,(At (fun b=>b=m) ⟨c,0 + 4,none⟩ [.int .i64 v])∧
 ∃ x:Int,(At (fun b=>b=m) ⟨c,0 + 5,none⟩ [.int .i64 x])∧
 ∃ y:Int,(At (fun b=>b=m) ⟨c,0 + 6,none⟩ [.int .i64 y])∧
 New (.cells #[.int .i64 t,.int .i64 u,.int .i64 v,.int .i64 x,.int .i64 y] 3 (0,0)) (fun N aj=>
 Calls Tryz.prog 56 #[.pointer ((some ⟨d,0,none⟩)),.slice ((some ⟨N,0,none⟩)) 5 5] aj fun U H=>
 (U=.returned (.tuple #[]))∧
 ∃ g:Sl,(At (fun b=>b=H) ⟨c,0 + 7,none⟩ [.slice g.a g.len g.cap])∧
 Calls Tryz.prog 72 #[.pointer ((some ⟨d,0,none⟩)),.slice g.a g.len g.cap] H fun V I=>
 (V=.returned (.tuple #[]))∧
 ∃ n:Sl,(At (fun b=>b=I) ⟨c,0 + 8,none⟩ [.slice n.a n.len n.cap])∧
 New (.cells #[.int .i64 ((↑n.len:Int))] 3 (0,0)) (fun O ah=>
 Calls Tryz.prog 56 #[.pointer ((some ⟨d,0,none⟩)),.slice ((some ⟨O,0,none⟩)) 1 1] ah fun X A=>
 (X=.returned (.tuple #[]))∧
 ∃ i:Sl,(At (fun b=>b=A) ⟨c,0 + 8,none⟩ [.slice i.a i.len i.cap])∧
 ∃ (o:Int→World→Prop) (J:Int→World→Nat),(o 0 A)∧∀ (ak:Env) (e:Int) (l:World),o e l→
 Br (decide (e<(↑i.len:Int)))
 (Rng e i.len (NilP i.a fun L=>
 ∃ z:ByteArray,(At (fun b=>b=l) (Addr.add L e.toNat) [.string z])∧
 ∃ C:World,∃ j:Sl,((convert 9 22 (.string z)).run Tryz.prog l=.ok (.slice j.a j.len j.cap) C)∧
 Calls Tryz.prog 58 #[.pointer ((some ⟨d,0,none⟩)),.slice j.a j.len j.cap] C fun Y D=>
 (Y=.returned (.tuple #[]))∧
 (o (IntKind.i64.wrap (e + 1)) D)∧J (IntKind.i64.wrap (e + 1)) D<J e l))
 (∃ k:Sl,(At (fun b=>b=l) ⟨d,0,none⟩ [.slice k.a k.len k.cap])∧
 K (.slice k.a k.len k.cap) l)) I) m) E) ag) w
def sk43:Sk:=(.seq .leaf (.seq .leaf (.seq .leaf (.seq .leaf (.seq .leaf (.seq .leaf (.seq .leaf (.seq (.seq .leaf (.block (.loop [44] [(.int .i64)] [5,44,45,46,47,48,49,50,51,52] .leaf))) .leaf))))))))
theorem call43 (d:Int) (e:ByteArray) (f:Int) (g:Int) (i:Int) (j:Int) (k:Int) (b:Sl) (c:Sl) (K:Value→World→Prop) (w:World) (h:B43 d e f g i j k b c K w):Gets Tryz.prog 43 #[.agg #[.int .i64 d,.string e,.int .i64 f,.int .i64 g,.int .i64 i,.int .i64 j,.int .i64 k,.slice b.a b.len b.cap,.slice c.a c.len c.cap]] w K:=cq (sk:=sk43) Tryz.func43 (by kernel_rfl) (by kernel_rfl) (by kernel_rfl) h
def B52 (s:Option Addr) (t:ByteArray) (c:List PanicEntry→World→Prop) (K:Value→World→Prop) (w:World):Prop:=
 Calls Tryz.prog 88 #[.string t] w fun i q=>
 (∃ l:Int,∃ m:Int,(i=.returned (.tuple #[.int .i64 l,.int .i64 m]))∧
 Calls Tryz.prog 75 #[.int .i64 m] q fun j b=>
 ((j=.returned (.tuple #[]))∧
 NilP s fun d=>
 ∃ n:Option Nat,(At (fun a=>a=b) ⟨d.block,d.off + 3,none⟩ [.map n])∧
 ∃ o:Option Addr,∃ p:Bool,(∀ a,(fun a=>a=b) a→((Instr.lookup 88 (.map n) (.int .i64 l) true)).run Tryz.prog a=.ok (.tuple #[.pointer o,.bool p]) a)∧
 Calls Tryz.prog 45 #[.bool p,.int .i64 2] b fun k r=>
 ((k=.returned (.tuple #[]))∧
 K (.pointer o) r)∨
 (∃ g:List PanicEntry,(k=.panicked g)∧c g r))∨
 (∃ f:List PanicEntry,(j=.panicked f)∧c f b))∨
 (∃ e:List PanicEntry,(i=.panicked e)∧c e q)
theorem call52 (b:Option Addr) (c:ByteArray) (a:List PanicEntry→World→Prop) (K:Value→World→Prop) (w:World) (h:B52 b c a K w):GetsX Tryz.prog 52 #[.pointer b,.string c] w a K:=cqx (sk:=.leaf) Tryz.func52 (by kernel_rfl) (by kernel_rfl) (by kernel_rfl) h
def B78 (u:Option Addr) (v:Int) (t:List PanicEntry→World→Prop) (K:Value→World→Prop) (w:World):Prop:=
 New (.cells #[.pointer none,.pointer none] 119 (0,0)) (fun g b=>
 NilP u fun e=>
 ∃ k:Option Nat,(At (fun a=>a=b) ⟨e.block,e.off + 2,none⟩ [.map k])∧
 ∃ l:Option Addr,∃ m:Option Addr,∃ n:Bool,(∀ a,(fun a=>a=b) a→((Instr.lookup 87 (.map k) (.int .i64 v) true)).run Tryz.prog a=.ok (.tuple #[.agg #[.pointer l,.pointer m],.bool n]) a)∧
 New (.cells #[.pointer none,.pointer none] 119 (0,0)) (fun f x=>
 ∃ s:World,((Instr.storeAt 119 (.pointer ((some ⟨f,0,none⟩))) (.agg #[.pointer l,.pointer m])).run Tryz.prog x=.ok () s)∧
 Calls Tryz.prog 45 #[.bool n,.int .i64 2] s fun j c=>
 ((j=.returned (.tuple #[]))∧
 ∃ o:Option Addr,∃ p:Option Addr,(At (fun a=>a=c) ⟨f,0,none⟩ [.pointer o,.pointer p])∧
 ∃ d:World,((Instr.storeAt 119 (.pointer ((some ⟨g,0,none⟩))) (.agg #[.pointer o,.pointer p])).run Tryz.prog c=.ok () d)∧
 ∃ q:Option Addr,∃ r:Option Addr,(At (fun a=>a=d) ⟨g,0,none⟩ [.pointer q,.pointer r])∧
 K (.agg #[.pointer q,.pointer r]) d)∨
 (∃ i:List PanicEntry,(j=.panicked i)∧t i c)) b) w
theorem call78 (b:Option Addr) (c:Int) (a:List PanicEntry→World→Prop) (K:Value→World→Prop) (w:World) (h:B78 b c a K w):GetsX Tryz.prog 78 #[.pointer b,.int .i64 c] w a K:=cqx (sk:=.leaf) Tryz.func78 (by kernel_rfl) (by kernel_rfl) (by kernel_rfl) h
def B81 (E:Option Addr) (b2:Int) (K:Value→World→Prop) (w:World):Prop:=
 NilP E fun D=>
 ∃ J:Option Nat,(At (fun b=>b=w) ⟨D.block,D.off + 2,none⟩ [.map J])∧
 ∃ L:Option Addr,∃ M:Option Addr,(∀ b,(fun b=>b=w) b→((Instr.lookup 87 (.map J) (.int .i64 b2) false)).run Tryz.prog b=.ok (.agg #[.pointer L,.pointer M]) b)∧
 New (.cells #[.pointer none,.pointer none] 119 (0,0)) (fun f b5=>
 ∃ bd:World,((Instr.storeAt 119 (.pointer ((some ⟨f,0,none⟩))) (.agg #[.pointer L,.pointer M])).run Tryz.prog b5=.ok () bd)∧
 ∃ (l:Option Addr→Bool→World→Prop),(Drw bd fun c bh=>
 ∃ o:Option Addr,(At c ⟨f,0 + 1,none⟩ [.pointer o])∧
 ∃ s:Option Addr,(At c ⟨f,0,none⟩ [.pointer s])∧
 (Calls Tryz.prog 77 #[.pointer s] bh fun bs x=>
 ∃ d:Sl,(bs=.returned (.slice d.a d.len d.cap))∧
 (c x)∧
 (Calls Tryz.prog 111 #[.pointer o,.slice d.a d.len d.cap] x fun bt bi=>
 ∃ N:Int,∃ O:Int,∃ ab:Int,∃ ac:Int,∃ ad:Nat,∃ ae:Bool,(bt=.returned (.tuple #[.agg #[.int .i64 N,.int .i64 O,.int .i64 ab,.int .i64 ac,.float .f64 ad],.bool ae]))∧
 (c bi)∧
 New (.cells #[.int .i64 0,.int .i64 0,.int .i64 0,.int .i64 0,.float .f64 0] 147 (0,0)) (fun F bj=>
 (c bj)∧
 ∃ bk:World,((Instr.storeAt 147 (.pointer ((some ⟨F,0,none⟩))) (.agg #[.int .i64 N,.int .i64 O,.int .i64 ab,.int .i64 ac,.float .f64 ad])).run Tryz.prog bj=.ok () bk)∧
 l ((some ⟨F,0,none⟩)) ae bk) bi)∧
 New (.cells #[.int .i64 0,.int .i64 0,.int .i64 0,.int .i64 0,.float .f64 0] 147 (0,0)) (fun G bl=>
 (c bl)∧
 Calls Tryz.prog 111 #[.pointer o,.slice d.a d.len d.cap] bl fun bu bm=>
 ∃ af:Int,∃ ag:Int,∃ ah:Int,∃ ai:Int,∃ Q:Nat,∃ T:Bool,(bu=.returned (.tuple #[.agg #[.int .i64 af,.int .i64 ag,.int .i64 ah,.int .i64 ai,.float .f64 Q],.bool T]))∧
 (c bm)∧
 ∃ a7:World,((Instr.storeAt 147 (.pointer ((some ⟨G,0,none⟩))) (.agg #[.int .i64 af,.int .i64 ag,.int .i64 ah,.int .i64 ai,.float .f64 Q])).run Tryz.prog bm=.ok () a7)∧
 l ((some ⟨G,0,none⟩)) T a7) x)∧
 New (.cells #[.int .i64 0,.int .i64 0,.int .i64 0,.int .i64 0,.float .f64 0] 147 (0,0)) (fun H a8=>
 (c a8)∧
 Calls Tryz.prog 77 #[.pointer s] a8 fun bv a9=>
 ∃ g:Sl,(bv=.returned (.slice g.a g.len g.cap))∧
 (c a9)∧
 Calls Tryz.prog 111 #[.pointer o,.slice g.a g.len g.cap] a9 fun bw ba=>
 ∃ U:Int,∃ V:Int,∃ X:Int,∃ Y:Int,∃ Z:Nat,∃ aa:Bool,(bw=.returned (.tuple #[.agg #[.int .i64 U,.int .i64 V,.int .i64 X,.int .i64 Y,.float .f64 Z],.bool aa]))∧
 (c ba)∧
 ∃ bb:World,((Instr.storeAt 147 (.pointer ((some ⟨H,0,none⟩))) (.agg #[.int .i64 U,.int .i64 V,.int .i64 X,.int .i64 Y,.float .f64 Z])).run Tryz.prog ba=.ok () bb)∧
 l ((some ⟨H,0,none⟩)) aa bb) bh)∧
 ∀ (ca:Env) (a6:Option Addr) (I:Bool) (bc:World),l a6 I bc→
 ∃ (p:Option Addr→Bool→World→Prop) (bn:Option Addr→Bool→World→Nat),(p a6 I bc)∧∀ (cb:Env) (e:Option Addr) (r:Bool) (j:World),p e r j→
 Br r
 (∃ aq:Option Addr,(At (fun b=>b=j) ⟨f,0 + 1,none⟩ [.pointer aq])∧
 NilP e fun bo=>
 ∃ ar:Int,(At (fun b=>b=j) (Addr.add bo 0) [.int .i64 ar])∧
 Calls Tryz.prog 85 #[.pointer aq,.int .i64 ar] j fun bx k=>
 ∃ b3:Int,(bx=.returned (.int .i64 b3))∧
 ∃ au:Option Addr,(At (fun b=>b=k) ⟨f,0,none⟩ [.pointer au])∧
 NilP e fun bp=>
 ∃ av:Int,(At (fun b=>b=k) (Addr.add bp 0) [.int .i64 av])∧
 NilP e fun y=>
 ∃ aw:Int,(At (fun b=>b=k) ⟨y.block,y.off + 1,none⟩ [.int .i64 aw])∧
 NilP e fun z=>
 ∃ ax:Int,(At (fun b=>b=k) ⟨z.block,z.off + 2,none⟩ [.int .i64 ax])∧
 Calls Tryz.prog 79 #[.pointer au,.int .i64 av,.int .i64 aw,.int .i64 ax] k fun bz b6=>
 ∃ b4:Int,(bz=.returned (.int .i64 b4))∧
 Drw b6 fun q b7=>
 NilP E fun A=>
 ∃ ay:Option Nat,(At q ⟨A.block,A.off + 3,none⟩ [.map ay])∧
 NilP e fun bq=>
 ∃ az:Int,(At q (Addr.add bq 0) [.int .i64 az])∧
 ∃ a0:Option Addr,(∀ b,q b→((Instr.lookup 88 (.map ay) (.int .i64 az) false)).run Tryz.prog b=.ok (.pointer a0) b)∧
 NilP a0 fun C=>
 ∃ u:World,((Instr.storeAt 3 (.pointer ((some ⟨C.block,C.off + 4,none⟩))) (.int .i64 2)).run Tryz.prog b7=.ok () u)∧
 NilP e fun br=>
 ∃ a1:Int,∃ a2:Int,∃ a3:Int,∃ a4:Int,∃ a5:Nat,(At (fun b=>b=u) br [.int .i64 a1,.int .i64 a2,.int .i64 a3,.int .i64 a4,.float .f64 a5])∧
 New (.cells #[.int .i64 0,.int .i64 0,.int .i64 0,.int .i64 0,.float .f64 0] 147 (0,0)) (fun n b8=>
 ∃ be:World,((Instr.storeAt 147 (.pointer ((some ⟨n,0,none⟩))) (.agg #[.int .i64 a1,.int .i64 a2,.int .i64 a3,.int .i64 a4,.float .f64 a5])).run Tryz.prog b8=.ok () be)∧
 Drw be fun m b9=>
 ∃ aj:Option Addr,(At m ⟨f,0 + 1,none⟩ [.pointer aj])∧
 ∃ ak:Option Addr,(At m ⟨f,0,none⟩ [.pointer ak])∧
 Calls Tryz.prog 77 #[.pointer ak] b9 fun b0 bf=>
 ∃ i:Sl,(b0=.returned (.slice i.a i.len i.cap))∧
 (m bf)∧
 Calls Tryz.prog 111 #[.pointer aj,.slice i.a i.len i.cap] bf fun b1 bg=>
 ∃ al:Int,∃ am:Int,∃ an:Int,∃ ao:Int,∃ ap:Nat,∃ t:Bool,(b1=.returned (.tuple #[.agg #[.int .i64 al,.int .i64 am,.int .i64 an,.int .i64 ao,.float .f64 ap],.bool t]))∧
 (m bg)∧
 ∃ v:World,((Instr.storeAt 147 (.pointer ((some ⟨n,0,none⟩))) (.agg #[.int .i64 al,.int .i64 am,.int .i64 an,.int .i64 ao,.float .f64 ap])).run Tryz.prog bg=.ok () v)∧
 (p ((some ⟨n,0,none⟩)) t v)∧bn ((some ⟨n,0,none⟩)) t v<bn e r j) u)
 (K (.tuple #[]) j)) w
def sk81:Sk:=(.seq .leaf (.cut [5,6] [.ptr,.bool] [5,6,13,14,15,16,17,18,19,20,21] .leaf (.block (.loop [5,6] [.ptr,.bool] [5,6,22,23,24,25,26,27,28,29,30,31,32,33,34,35,36,37,38,39,40,41,42,43,44,45,46,47,48,49,50,51,52,53,54,55] .leaf))))
theorem call81 (a:Option Addr) (b:Int) (K:Value→World→Prop) (w:World) (h:B81 a b K w):Gets Tryz.prog 81 #[.pointer a,.int .i64 b] w K:=cq (sk:=sk81) Tryz.func81 (by kernel_rfl) (by kernel_rfl) (by kernel_rfl) h
def B82 (ac:Option Addr) (c:Option Addr) (K:Value→World→Prop) (w:World):Prop:=
 New (.cells #[.int .i64 0,.string (ByteArray.mk #[]),.int .i64 0,.int .i64 0,.int .i64 0,.int .i64 0,.int .i64 0,.slice none 0 0,.slice none 0 0] 102 (0,0)) (fun u ah=>
 Drw ah fun j ai=>
 NilP ac fun t=>
 ∃ v:Option Nat,(At j ⟨t.block,t.off + 2,none⟩ [.map v])∧
 NilP c fun n=>
 ∃ x:Int,(At j ⟨n.block,n.off + 1,none⟩ [.int .i64 x])∧
 ∃ y:Option Addr,∃ z:Option Addr,(∀ d,j d→((Instr.lookup 87 (.map v) (.int .i64 x) false)).run Tryz.prog d=.ok (.agg #[.pointer y,.pointer z]) d)∧
 New (.cells #[.pointer none,.pointer none] 119 (0,0)) (fun k X=>
 (j X)∧
 ∃ l:World,((Instr.storeAt 119 (.pointer ((some ⟨k,0,none⟩))) (.agg #[.pointer y,.pointer z])).run Tryz.prog X=.ok () l)∧
 NilP c fun aa=>
 ∃ A:Int,(At (fun d=>d=l) (Addr.add aa 0) [.int .i64 A])∧
 Calls Tryz.prog 112 #[.int .i64 A] l fun ad aj=>
 ∃ C:ByteArray,∃ ag:Int,(ad=.returned (.tuple #[.string C,.int .i64 ag]))∧
 Drw aj fun b ak=>
 NilP c fun o=>
 ∃ D:Int,(At b ⟨o.block,o.off + 4,none⟩ [.int .i64 D])∧
 NilP c fun p=>
 ∃ E:Int,(At b ⟨p.block,p.off + 1,none⟩ [.int .i64 E])∧
 NilP c fun q=>
 ∃ F:Int,(At b ⟨q.block,q.off + 2,none⟩ [.int .i64 F])∧
 NilP c fun r=>
 ∃ G:Int,(At b ⟨r.block,r.off + 3,none⟩ [.int .i64 G])∧
 NilP c fun s=>
 ∃ H:Int,(At b ⟨s.block,s.off + 5,none⟩ [.int .i64 H])∧
 ∃ I:Option Addr,(At b ⟨k,0,none⟩ [.pointer I])∧
 ∃ J:Option Addr,(At b ⟨k,0,none⟩ [.pointer J])∧
 NilP c fun ab=>
 ∃ L:Int,(At b (Addr.add ab 0) [.int .i64 L])∧
 Calls Tryz.prog 77 #[.pointer I] ak fun ae Y=>
 ∃ e:Sl,(ae=.returned (.slice e.a e.len e.cap))∧
 (b Y)∧
 Calls Tryz.prog 113 #[.pointer J,.int .i64 L] Y fun af Z=>
 ∃ f:Sl,(af=.returned (.slice f.a f.len f.cap))∧
 (b Z)∧
 ∃ m:World,((Instr.storeAt 102 (.pointer ((some ⟨u,0,none⟩))) (.agg #[.int .i64 0,.string C,.int .i64 D,.int .i64 E,.int .i64 F,.int .i64 G,.int .i64 H,.slice e.a e.len e.cap,.slice f.a f.len f.cap])).run Tryz.prog Z=.ok () m)∧
 ∃ M:Int,∃ N:ByteArray,∃ O:Int,∃ Q:Int,∃ T:Int,∃ U:Int,∃ V:Int,∃ g:Sl,∃ i:Sl,(At (fun d=>d=m) ⟨u,0,none⟩ [.int .i64 M,.string N,.int .i64 O,.int .i64 Q,.int .i64 T,.int .i64 U,.int .i64 V,.slice g.a g.len g.cap,.slice i.a i.len i.cap])∧
 K (.agg #[.int .i64 M,.string N,.int .i64 O,.int .i64 Q,.int .i64 T,.int .i64 U,.int .i64 V,.slice g.a g.len g.cap,.slice i.a i.len i.cap]) m) ai) w
theorem call82 (a:Option Addr) (b:Option Addr) (K:Value→World→Prop) (w:World) (h:B82 a b K w):Gets Tryz.prog 82 #[.pointer a,.pointer b] w K:=cq (sk:=.leaf) Tryz.func82 (by kernel_rfl) (by kernel_rfl) (by kernel_rfl) h
def B47 (o:Option Addr) (aw:Int) (ax:ByteArray) (ay:Int) (az:Int) (a0:Int) (a1:Int) (a2:Nat) (a3:ByteArray) (a4:Int) (q:Sl) (p:Sl) (c:List PanicEntry→World→Prop) (K:Value→World→Prop) (w:World):Prop:=
 New (.cells #[.int .i64 aw,.string ax,.int .i64 ay,.int .i64 az,.int .i64 a0,.int .i64 a1,.float .f64 a2,.string a3,.int .i64 a4,.slice q.a q.len q.cap,.slice p.a p.len p.cap] 96 (0,0)) (fun d a5=>
 New (.cells #[.int .i64 0,.string (ByteArray.mk #[]),.int .i64 0,.int .i64 0,.int .i64 0,.int .i64 0,.int .i64 0,.slice none 0 0,.slice none 0 0] 102 (0,0)) (fun A a8=>
 Drw a8 fun l a9=>
 NilP o fun x=>
 ∃ Q:Option Nat,(At l ⟨x.block,x.off + 2,none⟩ [.map Q])∧
 ∃ T:Int,(At l ⟨d,0 + 2,none⟩ [.int .i64 T])∧
 ∃ U:Option Addr,∃ V:Option Addr,∃ X:Bool,(∀ b,l b→((Instr.lookup 87 (.map Q) (.int .i64 T) true)).run Tryz.prog b=.ok (.tuple #[.agg #[.pointer U,.pointer V],.bool X]) b)∧
 New (.cells #[.pointer none,.pointer none] 119 (0,0)) (fun av ap=>
 (l ap)∧
 ∃ aq:World,((Instr.storeAt 119 (.pointer ((some ⟨av,0,none⟩))) (.agg #[.pointer U,.pointer V])).run Tryz.prog ap=.ok () aq)∧
 Calls Tryz.prog 45 #[.bool (!X),.int .i64 7] aq fun I m=>
 ((I=.returned (.tuple #[]))∧
 NilP o fun y=>
 ∃ Y:Option Nat,(At (fun b=>b=m) ⟨y.block,y.off + 2,none⟩ [.map Y])∧
 ∃ Z:Int,(∀ b,(fun b=>b=m) b→((Builtin.len_ #[87] 3 #[.map Y])).run Tryz.prog b=.ok (.int .i64 Z) b)∧
 Calls Tryz.prog 45 #[.bool (decide (Z<8)),.int .i64 3] m fun J k=>
 ((J=.returned (.tuple #[]))∧
 ∃ aa:Int,(At (fun b=>b=k) ⟨d,0 + 2,none⟩ [.int .i64 aa])∧
 ∃ ab:Int,∃ e:Sl,(At (fun b=>b=k) ⟨d,0 + 8,none⟩ [.int .i64 ab,.slice e.a e.len e.cap])∧
 ∃ f:Sl,(At (fun b=>b=k) ⟨d,0 + 10,none⟩ [.slice f.a f.len f.cap])∧
 Calls Tryz.prog 74 #[.int .i64 aa,.agg #[.int .i64 ab,.slice e.a e.len e.cap],.slice f.a f.len f.cap] k fun L ar=>
 (∃ r:Option Addr,∃ ac:Int,(L=.returned (.tuple #[.pointer r,.int .i64 ac]))∧
 Calls Tryz.prog 75 #[.int .i64 ac] ar fun M au=>
 ((M=.returned (.tuple #[]))∧
 Drw au fun n a6=>
 NilP o fun z=>
 ∃ ad:Option Nat,(At n ⟨z.block,z.off + 2,none⟩ [.map ad])∧
 ∃ ae:Int,(At n ⟨d,0 + 2,none⟩ [.int .i64 ae])∧
 Calls Tryz.prog 76 #[] a6 fun N s=>
 (∃ af:Option Addr,(N=.returned (.pointer af))∧
 (n s)∧
 ∃ ao:World,((Instr.mapUpdate 87 (.map ad) (.int .i64 ae) (.agg #[.pointer r,.pointer af])).run Tryz.prog s=.ok () ao)∧
 Drw ao fun v a7=>
 ∃ ag:Int,(At v ⟨d,0 + 2,none⟩ [.int .i64 ag])∧
 Calls Tryz.prog 77 #[.pointer r] a7 fun O t=>
 (∃ g:Sl,(O=.returned (.slice g.a g.len g.cap))∧
 (v t)∧
 ∃ u:World,((Instr.storeAt 102 (.pointer ((some ⟨A,0,none⟩))) (.agg #[.int .i64 0,.string (ByteArray.mk #[]),.int .i64 0,.int .i64 ag,.int .i64 0,.int .i64 0,.int .i64 0,.slice g.a g.len g.cap,.slice none 0 0])).run Tryz.prog t=.ok () u)∧
 ∃ ah:Int,∃ ai:ByteArray,∃ aj:Int,∃ ak:Int,∃ al:Int,∃ am:Int,∃ an:Int,∃ i:Sl,∃ j:Sl,(At (fun b=>b=u) ⟨A,0,none⟩ [.int .i64 ah,.string ai,.int .i64 aj,.int .i64 ak,.int .i64 al,.int .i64 am,.int .i64 an,.slice i.a i.len i.cap,.slice j.a j.len j.cap])∧
 K (.agg #[.int .i64 ah,.string ai,.int .i64 aj,.int .i64 ak,.int .i64 al,.int .i64 am,.int .i64 an,.slice i.a i.len i.cap,.slice j.a j.len j.cap]) u)∨
 (∃ H:List PanicEntry,(O=.panicked H)∧c H t))∨
 (∃ G:List PanicEntry,(N=.panicked G)∧c G s))∨
 (∃ F:List PanicEntry,(M=.panicked F)∧c F au))∨
 (∃ E:List PanicEntry,(L=.panicked E)∧c E ar))∨
 (∃ D:List PanicEntry,(J=.panicked D)∧c D k))∨
 (∃ C:List PanicEntry,(I=.panicked C)∧c C m)) a9) a5) w
theorem call47 (e:Option Addr) (f:Int) (g:ByteArray) (i:Int) (j:Int) (k:Int) (l:Int) (m:Nat) (n:ByteArray) (o:Int) (c:Sl) (b:Sl) (d:List PanicEntry→World→Prop) (K:Value→World→Prop) (w:World) (h:B47 e f g i j k l m n o c b d K w):GetsX Tryz.prog 47 #[.pointer e,.agg #[.int .i64 f,.string g,.int .i64 i,.int .i64 j,.int .i64 k,.int .i64 l,.float .f64 m,.string n,.int .i64 o,.slice c.a c.len c.cap,.slice b.a b.len b.cap]] w d K:=cqx (sk:=.leaf) Tryz.func47 (by kernel_rfl) (by kernel_rfl) (by kernel_rfl) h
def B48 (d:Option Addr) (da:Int) (db:ByteArray) (dc:Int) (dd:Int) (de:Int) (df:Int) (dg:Nat) (dh:ByteArray) (di:Int) (H:Sl) (G:Sl) (c:List PanicEntry→World→Prop) (K:Value→World→Prop) (w:World):Prop:=
 New (.cells #[.int .i64 da,.string db,.int .i64 dc,.int .i64 dd,.int .i64 de,.int .i64 df,.float .f64 dg,.string dh,.int .i64 di,.slice H.a H.len H.cap,.slice G.a G.len G.cap] 96 (0,0)) (fun e dj=>
 New (.cells #[.int .i64 0,.string (ByteArray.mk #[]),.int .i64 0,.int .i64 0,.int .i64 0,.int .i64 0,.int .i64 0,.slice none 0 0,.slice none 0 0] 102 (0,0)) (fun x c0=>
 ∃ cf:Int,(At (fun b=>b=c0) ⟨e,0 + 2,none⟩ [.int .i64 cf])∧
 Calls Tryz.prog 78 #[.pointer d,.int .i64 cf] c0 fun aq c4=>
 (∃ a5:Option Addr,∃ ba:Option Addr,(aq=.returned (.agg #[.pointer a5,.pointer ba]))∧
 New (.cells #[.pointer none,.pointer none] 119 (0,0)) (fun v dp=>
 ∃ c7:World,((Instr.storeAt 119 (.pointer ((some ⟨v,0,none⟩))) (.agg #[.pointer a5,.pointer ba])).run Tryz.prog dp=.ok () c7)∧
 Drw c7 fun i dq=>
 NilP d fun Z=>
 ∃ bt:Int,(At i ⟨Z.block,Z.off + 1,none⟩ [.int .i64 bt])∧
 ∃ bu:Int,(At i ⟨e,0 + 2,none⟩ [.int .i64 bu])∧
 ∃ bv:Int,(At i ⟨e,0 + 3,none⟩ [.int .i64 bv])∧
 ∃ bw:Int,(At i ⟨e,0 + 4,none⟩ [.int .i64 bw])∧
 ∃ bx:Int,(At i ⟨e,0 + 5,none⟩ [.int .i64 bx])∧
 New (.cells #[.int .i64 bt,.int .i64 bu,.int .i64 bv,.int .i64 bw,.int .i64 1,.int .i64 bx] 123 (0,0)) (fun f A=>
 (i A)∧
 ∃ (C:World→Prop),(∃ bz:Int,(At (fun b=>b=A) ⟨e,0,none⟩ [.int .i64 bz])∧
 Br (bz==2)
 (Drw A fun F dr=>
 ∃ b0:Int,(At F ⟨e,0 + 5,none⟩ [.int .i64 b0])∧
 NilP d fun c8=>
 ∃ b1:Int,(At F (Addr.add c8 0) [.int .i64 b1])∧
 Calls Tryz.prog 45 #[.bool (decide (b0>b1)),.int .i64 1] dr fun ar U=>
 ((ar=.returned (.tuple #[]))∧
 (F U)∧
 C  U)∨
 (∃ ae:List PanicEntry,(ar=.panicked ae)∧c ae U))
 (Drw A fun u dk=>
 ∃ b2:Int,(At u ⟨e,0 + 3,none⟩ [.int .i64 b2])∧
 ∃ b3:Option Addr,(At u ⟨v,0,none⟩ [.pointer b3])∧
 Calls Tryz.prog 77 #[.pointer b3] dk fun ax I=>
 (∃ y:Sl,(ax=.returned (.slice y.a y.len y.cap))∧
 (u I)∧
 Calls Tryz.prog 45 #[.bool (decide (b2<(↑y.len:Int))),.int .i64 1] I fun ay J=>
 ((ay=.returned (.tuple #[]))∧
 (u J)∧
 ∃ cw:World,((Instr.storeAt 3 (.pointer ((some ⟨f,0 + 4,none⟩))) (.int .i64 3)).run Tryz.prog J=.ok () cw)∧
 ∃ cx:World,((Instr.storeAt 3 (.pointer ((some ⟨f,0 + 5,none⟩))) (.int .i64 0)).run Tryz.prog cw=.ok () cx)∧
 C  cx)∨
 (∃ aj:List PanicEntry,(ay=.panicked aj)∧c aj J))∨
 (∃ ai:List PanicEntry,(ax=.panicked ai)∧c ai I)))∧
 ∀ (ds:Env)  (r:World),C  r→
 ∃ (D:World→Prop),(NilP d fun ab=>
 ∃ b4:Option Nat,(At (fun b=>b=r) ⟨ab.block,ab.off + 3,none⟩ [.map b4])∧
 ∃ b5:Int,(∀ b,(fun b=>b=r) b→((Builtin.len_ #[88] 3 #[.map b4])).run Tryz.prog b=.ok (.int .i64 b5) b)∧
 Br (decide (b5<300))
 (NilP d fun ac=>
 ∃ b6:Int,(At (fun b=>b=r) ⟨ac.block,ac.off + 1,none⟩ [.int .i64 b6])∧
 Calls Tryz.prog 45 #[.bool (decide (b6<28629151)),.int .i64 3] r fun az cy=>
 ((az=.returned (.tuple #[]))∧
 D  cy)∨
 (∃ ak:List PanicEntry,(az=.panicked ak)∧c ak cy))
 (Calls Tryz.prog 45 #[.bool false,.int .i64 3] r fun a0 cz=>
 ((a0=.returned (.tuple #[]))∧
 D  cz)∨
 (∃ al:List PanicEntry,(a0=.panicked al)∧c al cz)))∧
 ∀ (dt:Env)  (z:World),D  z→
 ∃ (E:World→Prop),(∃ b7:Int,(At (fun b=>b=z) ⟨e,0,none⟩ [.int .i64 b7])∧
 Br (b7==2)
 (Drw z fun s dl=>
 ∃ b8:Option Addr,(At s ⟨v,0,none⟩ [.pointer b8])∧
 ∃ b9:Int,(At s ⟨f,0,none⟩ [.int .i64 b9])∧
 ∃ ca:Int,(At s ⟨f,0 + 2,none⟩ [.int .i64 ca])∧
 ∃ cb:Int,(At s ⟨f,0 + 3,none⟩ [.int .i64 cb])∧
 Calls Tryz.prog 79 #[.pointer b8,.int .i64 b9,.int .i64 ca,.int .i64 cb] dl fun a1 c1=>
 (∃ cc:Int,(a1=.returned (.int .i64 cc))∧
 Calls Tryz.prog 75 #[.int .i64 cc] c1 fun a2 L=>
 ((a2=.returned (.tuple #[]))∧
 (s L)∧
 E  L)∨
 (∃ an:List PanicEntry,(a2=.panicked an)∧c an L))∨
 (∃ am:List PanicEntry,(a1=.panicked am)∧c am c1))
 (Drw z fun g dm=>
 ∃ cd:Option Addr,(At g ⟨v,0 + 1,none⟩ [.pointer cd])∧
 ∃ ce:Int,(At g ⟨f,0,none⟩ [.int .i64 ce])∧
 ∃ cg:Int,(At g ⟨f,0 + 2,none⟩ [.int .i64 cg])∧
 ∃ ch:Int,(At g ⟨f,0 + 3,none⟩ [.int .i64 ch])∧
 NilP d fun c9=>
 ∃ a6:Int,(At g (Addr.add c9 0) [.int .i64 a6])∧
 ∃ a7:Nat,(At g ⟨e,0 + 6,none⟩ [.float .f64 a7])∧
 Calls Tryz.prog 80 #[.pointer cd,.agg #[.int .i64 ce,.int .i64 cg,.int .i64 ch,.int .i64 a6,.float .f64 a7]] dm fun a3 M=>
 (∃ a8:Int,(a3=.returned (.int .i64 a8))∧
 (g M)∧
 Calls Tryz.prog 75 #[.int .i64 a8] M fun a4 N=>
 ((a4=.returned (.tuple #[]))∧
 (g N)∧
 E  N)∨
 (∃ ap:List PanicEntry,(a4=.panicked ap)∧c ap N))∨
 (∃ ao:List PanicEntry,(a3=.panicked ao)∧c ao M)))∧
 ∀ (du:Env)  (c2:World),E  c2→
 Drw c2 fun V dn=>
 NilP d fun X=>
 ∃ a9:Option Nat,(At V ⟨X.block,X.off + 3,none⟩ [.map a9])∧
 ∃ bb:Int,(At V ⟨f,0,none⟩ [.int .i64 bb])∧
 ∃ O:World,((Instr.mapUpdate 88 (.map a9) (.int .i64 bb) (.pointer ((some ⟨f,0,none⟩)))).run Tryz.prog dn=.ok () O)∧
 NilP d fun Y=>
 ∃ bc:Int,(At (fun b=>b=O) ⟨Y.block,Y.off + 1,none⟩ [.int .i64 bc])∧
 NilP d fun aa=>
 ∃ t:World,((Instr.storeAt 3 (.pointer ((some ⟨aa.block,aa.off + 1,none⟩))) (.int .i64 (IntKind.i64.wrap (bc + 1)))).run Tryz.prog O=.ok () t)∧
 ∃ bd:Int,(At (fun b=>b=t) ⟨e,0,none⟩ [.int .i64 bd])∧
 Br (bd==7)
 (∃ be:Int,(At (fun b=>b=t) ⟨e,0 + 2,none⟩ [.int .i64 be])∧
 Calls Tryz.prog 81 #[.pointer d,.int .i64 be] t fun au c3=>
 ((au=.returned (.tuple #[]))∧
 Calls Tryz.prog 82 #[.pointer d,.pointer ((some ⟨f,0,none⟩))] c3 fun av c5=>
 (∃ bf:Int,∃ bg:ByteArray,∃ bn:Int,∃ bo:Int,∃ bp:Int,∃ bq:Int,∃ br:Int,∃ l:Sl,∃ m:Sl,(av=.returned (.agg #[.int .i64 bf,.string bg,.int .i64 bn,.int .i64 bo,.int .i64 bp,.int .i64 bq,.int .i64 br,.slice l.a l.len l.cap,.slice m.a m.len m.cap]))∧
 ∃ Q:World,((Instr.storeAt 102 (.pointer ((some ⟨x,0,none⟩))) (.agg #[.int .i64 bf,.string bg,.int .i64 bn,.int .i64 bo,.int .i64 bp,.int .i64 bq,.int .i64 br,.slice l.a l.len l.cap,.slice m.a m.len m.cap])).run Tryz.prog c5=.ok () Q)∧
 ∃ ci:Int,∃ cj:ByteArray,∃ cq:Int,∃ cr:Int,∃ cs:Int,∃ ct:Int,∃ cu:Int,∃ p:Sl,∃ q:Sl,(At (fun b=>b=Q) ⟨x,0,none⟩ [.int .i64 ci,.string cj,.int .i64 cq,.int .i64 cr,.int .i64 cs,.int .i64 ct,.int .i64 cu,.slice p.a p.len p.cap,.slice q.a q.len q.cap])∧
 K (.agg #[.int .i64 ci,.string cj,.int .i64 cq,.int .i64 cr,.int .i64 cs,.int .i64 ct,.int .i64 cu,.slice p.a p.len p.cap,.slice q.a q.len q.cap]) Q)∨
 (∃ ag:List PanicEntry,(av=.panicked ag)∧c ag c5))∨
 (∃ af:List PanicEntry,(au=.panicked af)∧c af c3))
 (Calls Tryz.prog 82 #[.pointer d,.pointer ((some ⟨f,0,none⟩))] t fun aw c6=>
 (∃ bs:Int,∃ bh:ByteArray,∃ bi:Int,∃ bj:Int,∃ bk:Int,∃ bl:Int,∃ bm:Int,∃ j:Sl,∃ k:Sl,(aw=.returned (.agg #[.int .i64 bs,.string bh,.int .i64 bi,.int .i64 bj,.int .i64 bk,.int .i64 bl,.int .i64 bm,.slice j.a j.len j.cap,.slice k.a k.len k.cap]))∧
 ∃ T:World,((Instr.storeAt 102 (.pointer ((some ⟨x,0,none⟩))) (.agg #[.int .i64 bs,.string bh,.int .i64 bi,.int .i64 bj,.int .i64 bk,.int .i64 bl,.int .i64 bm,.slice j.a j.len j.cap,.slice k.a k.len k.cap])).run Tryz.prog c6=.ok () T)∧
 ∃ cv:Int,∃ ck:ByteArray,∃ cl:Int,∃ cm:Int,∃ cn:Int,∃ co:Int,∃ cp:Int,∃ n:Sl,∃ o:Sl,(At (fun b=>b=T) ⟨x,0,none⟩ [.int .i64 cv,.string ck,.int .i64 cl,.int .i64 cm,.int .i64 cn,.int .i64 co,.int .i64 cp,.slice n.a n.len n.cap,.slice o.a o.len o.cap])∧
 K (.agg #[.int .i64 cv,.string ck,.int .i64 cl,.int .i64 cm,.int .i64 cn,.int .i64 co,.int .i64 cp,.slice n.a n.len n.cap,.slice o.a o.len o.cap]) T)∨
 (∃ ah:List PanicEntry,(aw=.panicked ah)∧c ah c6))) dq) c4)∨
 (∃ ad:List PanicEntry,(aq=.panicked ad)∧c ad c4)) dj) w
def sk48:Sk:=(.seq .leaf (.seq .leaf (.seq .leaf (.cut [] [] [25,26,27,28,29,30,31,32,33,34,35,36,37,38,39,40,41,42,43,44,45,46,47,48,49] .leaf (.cut [] [] [50,51,52,53,54,55,56,57,58,59,60,61,62,63] .leaf (.cut [] [] [64,65,66,67,68,69,70,71,72,73,74,75,76,77,78,79,80,81,82,83,84,85,86,87,88,89,90,91,92,93,94,95,96,97,98,99,100,101,102,103,104,105] .leaf .leaf))))))
theorem call48 (e:Option Addr) (f:Int) (g:ByteArray) (i:Int) (j:Int) (k:Int) (l:Int) (m:Nat) (n:ByteArray) (o:Int) (c:Sl) (b:Sl) (d:List PanicEntry→World→Prop) (K:Value→World→Prop) (w:World) (h:B48 e f g i j k l m n o c b d K w):GetsX Tryz.prog 48 #[.pointer e,.agg #[.int .i64 f,.string g,.int .i64 i,.int .i64 j,.int .i64 k,.int .i64 l,.float .f64 m,.string n,.int .i64 o,.slice c.a c.len c.cap,.slice b.a b.len b.cap]] w d K:=cqx (sk:=sk48) Tryz.func48 (by kernel_rfl) (by kernel_rfl) (by kernel_rfl) h
def B49 (c:Option Addr) (bn:Int) (bo:ByteArray) (bp:Int) (bq:Int) (br:Int) (bs:Int) (bt:Nat) (bu:ByteArray) (bv:Int) (C:Sl) (A:Sl) (f:List PanicEntry→World→Prop) (K:Value→World→Prop) (w:World):Prop:=
 New (.cells #[.int .i64 bn,.string bo,.int .i64 bp,.int .i64 bq,.int .i64 br,.int .i64 bs,.float .f64 bt,.string bu,.int .i64 bv,.slice C.a C.len C.cap,.slice A.a A.len A.cap] 96 (0,0)) (fun T bz=>
 New (.cells #[.int .i64 0,.string (ByteArray.mk #[]),.int .i64 0,.int .i64 0,.int .i64 0,.int .i64 0,.int .i64 0,.slice none 0 0,.slice none 0 0] 102 (0,0)) (fun U b1=>
 Drw b1 fun y b2=>
 ∃ ak:Int,(At y ⟨T,0 + 5,none⟩ [.int .i64 ak])∧
 NilP c fun bh=>
 ∃ al:Int,(At y (Addr.add bh 0) [.int .i64 al])∧
 Calls Tryz.prog 45 #[.bool (decide (ak ≥ al)),.int .i64 7] b2 fun ad t=>
 ((ad=.returned (.tuple #[]))∧
 (y t)∧
 ∃ am:Int,(At (fun b=>b=t) ⟨T,0 + 5,none⟩ [.int .i64 am])∧
 NilP c fun bi=>
 ∃ G:World,((Instr.storeAt 3 (.pointer ((some (Addr.add bi 0)))) (.int .i64 am)).run Tryz.prog t=.ok () G)∧
 NilP c fun H=>
 ∃ an:Option Nat,(At (fun b=>b=G) ⟨H.block,H.off + 3,none⟩ [.map an])∧
 Calls Tryz.prog 61 #[.map an] G fun ae bd=>
 (∃ ao:Value,(ae=.returned (ao))∧
 Calls Tryz.prog 30 #[ao] bd fun af be=>
 (∃ i:Sl,(af=.returned (.slice i.a i.len i.cap))∧
 ∃ (n:Int→World→Prop) (u:Int→World→Nat),(n 0 be)∧∀ (b3:Env) (d:Int) (e:World),n d e→
 Br (decide (d<(↑i.len:Int)))
 (Rng d i.len (NilP i.a fun bj=>
 ∃ p:Int,(At (fun b=>b=e) (Addr.add bj d.toNat) [.int .i64 p])∧
 NilP c fun I=>
 ∃ ap:Option Nat,(At (fun b=>b=e) ⟨I.block,I.off + 3,none⟩ [.map ap])∧
 ∃ q:Option Addr,(∀ b,(fun b=>b=e) b→((Instr.lookup 88 (.map ap) (.int .i64 p) false)).run Tryz.prog b=.ok (.pointer q) b)∧
 ∃ (x:Bool→World→Prop),(Drw e fun z bf=>
 NilP q fun J=>
 ∃ aq:Int,(At z ⟨J.block,J.off + 4,none⟩ [.int .i64 aq])∧
 Br (aq==1)
 (NilP q fun L=>
 ∃ ar:Int,(At z ⟨L.block,L.off + 5,none⟩ [.int .i64 ar])∧
 NilP c fun bk=>
 ∃ au:Int,(At z (Addr.add bk 0) [.int .i64 au])∧
 x (decide (ar≤au)) bf)
 (x false bf))∧
 ∀ (b4:Env) (av:Bool) (r:World),x av r→
 Br av
 (Drw r fun o b0=>
 NilP c fun M=>
 ∃ aw:Option Nat,(At o ⟨M.block,M.off + 2,none⟩ [.map aw])∧
 NilP q fun N=>
 ∃ ax:Int,(At o ⟨N.block,N.off + 1,none⟩ [.int .i64 ax])∧
 ∃ ay:Option Addr,∃ bw:Option Addr,(∀ b,o b→((Instr.lookup 87 (.map aw) (.int .i64 ax) false)).run Tryz.prog b=.ok (.agg #[.pointer ay,.pointer bw]) b)∧
 Calls Tryz.prog 83 #[.pointer ay,.int .i64 p] b0 fun ag s=>
 (∃ bx:Int,(ag=.returned (.int .i64 bx))∧
 (o s)∧
 NilP c fun O=>
 ∃ az:Option Nat,(At (fun b=>b=s) ⟨O.block,O.off + 3,none⟩ [.map az])∧
 ∃ D:World,((Builtin.delete_ #[88,3] 0 #[.map az,.int .i64 p]).run Tryz.prog s=.ok (.tuple #[]) D)∧
 (n (IntKind.i64.wrap (d + 1)) D)∧u (IntKind.i64.wrap (d + 1)) D<u d e)∨
 (∃ Z:List PanicEntry,(ag=.panicked Z)∧f Z s))
 ((n (IntKind.i64.wrap (d + 1)) r)∧u (IntKind.i64.wrap (d + 1)) r<u d e)))
 (NilP c fun Q=>
 ∃ a0:Option Nat,(At (fun b=>b=e) ⟨Q.block,Q.off + 2,none⟩ [.map a0])∧
 Calls Tryz.prog 57 #[.map a0] e fun ah bb=>
 (∃ a1:Value,(ah=.returned (a1))∧
 Calls Tryz.prog 30 #[a1] bb fun ai bc=>
 (∃ j:Sl,(ai=.returned (.slice j.a j.len j.cap))∧
 ∃ (v:Int→World→Prop) (bg:Int→World→Nat),(v 0 bc)∧∀ (b5:Env) (g:Int) (m:World),v g m→
 Br (decide (g<(↑j.len:Int)))
 (Rng g j.len (NilP j.a fun bl=>
 ∃ a2:Int,(At (fun b=>b=m) (Addr.add bl g.toNat) [.int .i64 a2])∧
 Calls Tryz.prog 81 #[.pointer c,.int .i64 a2] m fun aj E=>
 ((aj=.returned (.tuple #[]))∧
 (v (IntKind.i64.wrap (g + 1)) E)∧bg (IntKind.i64.wrap (g + 1)) E<bg g m)∨
 (∃ ac:List PanicEntry,(aj=.panicked ac)∧f ac E)))
 (NilP c fun bm=>
 ∃ a3:Int,(At (fun b=>b=m) (Addr.add bm 0) [.int .i64 a3])∧
 ∃ F:World,((Instr.storeAt 102 (.pointer ((some ⟨U,0,none⟩))) (.agg #[.int .i64 0,.string (ByteArray.mk #[]),.int .i64 0,.int .i64 0,.int .i64 0,.int .i64 0,.int .i64 a3,.slice none 0 0,.slice none 0 0])).run Tryz.prog m=.ok () F)∧
 ∃ a4:Int,∃ a5:ByteArray,∃ a6:Int,∃ a7:Int,∃ a8:Int,∃ a9:Int,∃ ba:Int,∃ k:Sl,∃ l:Sl,(At (fun b=>b=F) ⟨U,0,none⟩ [.int .i64 a4,.string a5,.int .i64 a6,.int .i64 a7,.int .i64 a8,.int .i64 a9,.int .i64 ba,.slice k.a k.len k.cap,.slice l.a l.len l.cap])∧
 K (.agg #[.int .i64 a4,.string a5,.int .i64 a6,.int .i64 a7,.int .i64 a8,.int .i64 a9,.int .i64 ba,.slice k.a k.len k.cap,.slice l.a l.len l.cap]) F))∨
 (∃ ab:List PanicEntry,(ai=.panicked ab)∧f ab bc))∨
 (∃ aa:List PanicEntry,(ah=.panicked aa)∧f aa bb)))∨
 (∃ Y:List PanicEntry,(af=.panicked Y)∧f Y be))∨
 (∃ X:List PanicEntry,(ae=.panicked X)∧f X bd))∨
 (∃ V:List PanicEntry,(ad=.panicked V)∧f V t)) bz) w
def sk49:Sk:=(.seq .leaf (.seq .leaf (.seq .leaf (.seq (.seq .leaf (.block (.loop [30] [(.int .i64)] [6,7,30,31,32,33,34,35,36,37,38,39,40,41,42,43,44,45,46,47,48,49,50,51,52,53,54,55,56,57,58,59,60,61,62,63,64,65,66,67,68,69,70,71,72,73] (.seq .leaf (.seq .leaf (.seq (.block (.seq .leaf (.seq .leaf (.cut [55] [.bool] [40,41,42,43,44,45,46,47,48,49,50,51,52,53,54,55] .leaf .leaf)))) .leaf)))))) (.seq (.seq .leaf (.block (.loop [81] [(.int .i64)] [9,81,82,83,84,85,86,87,88] .leaf))) .leaf)))))
theorem call49 (e:Option Addr) (f:Int) (g:ByteArray) (i:Int) (j:Int) (k:Int) (l:Int) (m:Nat) (n:ByteArray) (o:Int) (c:Sl) (b:Sl) (d:List PanicEntry→World→Prop) (K:Value→World→Prop) (w:World) (h:B49 e f g i j k l m n o c b d K w):GetsX Tryz.prog 49 #[.pointer e,.agg #[.int .i64 f,.string g,.int .i64 i,.int .i64 j,.int .i64 k,.int .i64 l,.float .f64 m,.string n,.int .i64 o,.slice c.a c.len c.cap,.slice b.a b.len b.cap]] w d K:=cqx (sk:=sk49) Tryz.func49 (by kernel_rfl) (by kernel_rfl) (by kernel_rfl) h
def B51 (g:Option Addr) (c:Option Addr) (ed:Int) (ee:ByteArray) (ef:Int) (eg:Int) (eh:Int) (ei:Int) (ej:Nat) (ek:ByteArray) (el:Int) (L:Sl) (J:Sl) (d:List PanicEntry→World→Prop) (K:Value→World→Prop) (w:World):Prop:=
 New (.cells #[.int .i64 ed,.string ee,.int .i64 ef,.int .i64 eg,.int .i64 eh,.int .i64 ei,.float .f64 ej,.string ek,.int .i64 el,.slice L.a L.len L.cap,.slice J.a J.len J.cap] 96 (0,0)) (fun I eo=>
 New (.cells #[.int .i64 0,.string (ByteArray.mk #[]),.int .i64 0,.int .i64 0,.int .i64 0,.int .i64 0,.int .i64 0,.slice none 0 0,.slice none 0 0] 102 (0,0)) (fun e es=>
 Drw es fun E ev=>
 NilP g fun ad=>
 ∃ ca:Option Nat,(At E ⟨ad.block,ad.off + 2,none⟩ [.map ca])∧
 NilP c fun ae=>
 ∃ cb:Int,(At E ⟨ae.block,ae.off + 1,none⟩ [.int .i64 cb])∧
 ∃ cc:Option Addr,∃ cd:Option Addr,(∀ b,E b→((Instr.lookup 87 (.map ca) (.int .i64 cb) false)).run Tryz.prog b=.ok (.agg #[.pointer cc,.pointer cd]) b)∧
 New (.cells #[.pointer none,.pointer none] 119 (0,0)) (fun C d3=>
 (E d3)∧
 ∃ f:World,((Instr.storeAt 119 (.pointer ((some ⟨C,0,none⟩))) (.agg #[.pointer cc,.pointer cd])).run Tryz.prog d3=.ok () f)∧
 NilP c fun af=>
 ∃ G:Int,(At (fun b=>b=f) ⟨af.block,af.off + 4,none⟩ [.int .i64 G])∧
 ∃ D:Int,(At (fun b=>b=f) ⟨I,0,none⟩ [.int .i64 D])∧
 Br (D==3)
 (NilP c fun ag=>
 ∃ ce:Int,(At (fun b=>b=f) ⟨ag.block,ag.off + 4,none⟩ [.int .i64 ce])∧
 Calls Tryz.prog 45 #[.bool (ce==1),.int .i64 7] f fun a1 d4=>
 ((a1=.returned (.tuple #[]))∧
 NilP c fun ah=>
 ∃ d5:World,((Instr.storeAt 3 (.pointer ((some ⟨ah.block,ah.off + 4,none⟩))) (.int .i64 2)).run Tryz.prog d4=.ok () d5)∧
 NilP c fun ai=>
 ∃ d6:World,((Instr.storeAt 3 (.pointer ((some ⟨ai.block,ai.off + 5,none⟩))) (.int .i64 0)).run Tryz.prog d5=.ok () d6)∧
 Calls Tryz.prog 82 #[.pointer g,.pointer c] d6 fun a2 d7=>
 (∃ bh:Int,∃ bi:ByteArray,∃ br:Int,∃ b1:Int,∃ b6:Int,∃ b7:Int,∃ b8:Int,∃ o:Sl,∃ p:Sl,(a2=.returned (.agg #[.int .i64 bh,.string bi,.int .i64 br,.int .i64 b1,.int .i64 b6,.int .i64 b7,.int .i64 b8,.slice o.a o.len o.cap,.slice p.a p.len p.cap]))∧
 ∃ N:World,((Instr.storeAt 102 (.pointer ((some ⟨e,0,none⟩))) (.agg #[.int .i64 bh,.string bi,.int .i64 br,.int .i64 b1,.int .i64 b6,.int .i64 b7,.int .i64 b8,.slice o.a o.len o.cap,.slice p.a p.len p.cap])).run Tryz.prog d7=.ok () N)∧
 ∃ cs:Int,∃ ct:ByteArray,∃ c2:Int,∃ db:Int,∃ dk:Int,∃ dp:Int,∃ dq:Int,∃ z:Sl,∃ A:Sl,(At (fun b=>b=N) ⟨e,0,none⟩ [.int .i64 cs,.string ct,.int .i64 c2,.int .i64 db,.int .i64 dk,.int .i64 dp,.int .i64 dq,.slice z.a z.len z.cap,.slice A.a A.len A.cap])∧
 K (.agg #[.int .i64 cs,.string ct,.int .i64 c2,.int .i64 db,.int .i64 dk,.int .i64 dp,.int .i64 dq,.slice z.a z.len z.cap,.slice A.a A.len A.cap]) N)∨
 (∃ am:List PanicEntry,(a2=.panicked am)∧d am d7))∨
 (∃ al:List PanicEntry,(a1=.panicked al)∧d al d4))
 (Br (D==4)
 (∃ (H:World→Prop),(Br (G==3)
 (Drw f fun Z ep=>
 ∃ cf:Option Addr,(At Z ⟨C,0 + 1,none⟩ [.pointer cf])∧
 NilP c fun d8=>
 ∃ cg:Int,(At Z (Addr.add d8 0) [.int .i64 cg])∧
 Calls Tryz.prog 85 #[.pointer cf,.int .i64 cg] ep fun a7 ds=>
 (∃ em:Int,(a7=.returned (.int .i64 em))∧
 H  ds)∨
 (∃ ar:List PanicEntry,(a7=.panicked ar)∧d ar ds))
 (Drw f fun aa eq=>
 ∃ ch:Option Addr,(At aa ⟨C,0,none⟩ [.pointer ch])∧
 NilP c fun d9=>
 ∃ ci:Int,(At aa (Addr.add d9 0) [.int .i64 ci])∧
 Calls Tryz.prog 83 #[.pointer ch,.int .i64 ci] eq fun a8 dt=>
 (∃ en:Int,(a8=.returned (.int .i64 en))∧
 H  dt)∨
 (∃ au:List PanicEntry,(a8=.panicked au)∧d au dt)))∧
 ∀ (ew:Env)  (du:World),H  du→
 Drw du fun ab er=>
 NilP g fun aj=>
 ∃ cj:Option Nat,(At ab ⟨aj.block,aj.off + 3,none⟩ [.map cj])∧
 NilP c fun ea=>
 ∃ ck:Int,(At ab (Addr.add ea 0) [.int .i64 ck])∧
 ∃ O:World,((Builtin.delete_ #[88,3] 0 #[.map cj,.int .i64 ck]).run Tryz.prog er=.ok (.tuple #[]) O)∧
 NilP c fun ak=>
 ∃ cl:Int,(At (fun b=>b=O) ⟨ak.block,ak.off + 1,none⟩ [.int .i64 cl])∧
 Calls Tryz.prog 81 #[.pointer g,.int .i64 cl] O fun a9 Q=>
 ((a9=.returned (.tuple #[]))∧
 ∃ cm:ByteArray,(At (fun b=>b=Q) ⟨I,0 + 1,none⟩ [.string cm])∧
 ∃ T:World,((Instr.storeAt 102 (.pointer ((some ⟨e,0,none⟩))) (.agg #[.int .i64 0,.string cm,.int .i64 0,.int .i64 0,.int .i64 0,.int .i64 0,.int .i64 0,.slice none 0 0,.slice none 0 0])).run Tryz.prog Q=.ok () T)∧
 ∃ dr:Int,∃ cu:ByteArray,∃ cv:Int,∃ cw:Int,∃ cx:Int,∃ cy:Int,∃ cz:Int,∃ q:Sl,∃ r:Sl,(At (fun b=>b=T) ⟨e,0,none⟩ [.int .i64 dr,.string cu,.int .i64 cv,.int .i64 cw,.int .i64 cx,.int .i64 cy,.int .i64 cz,.slice q.a q.len q.cap,.slice r.a r.len r.cap])∧
 K (.agg #[.int .i64 dr,.string cu,.int .i64 cv,.int .i64 cw,.int .i64 cx,.int .i64 cy,.int .i64 cz,.slice q.a q.len q.cap,.slice r.a r.len r.cap]) T)∨
 (∃ av:List PanicEntry,(a9=.panicked av)∧d av Q))
 (Br (D==5)
 (Calls Tryz.prog 45 #[.bool (!G==3),.int .i64 7] f fun ba dv=>
 ((ba=.returned (.tuple #[]))∧
 Drw dv fun F et=>
 ∃ cn:Option Addr,(At F ⟨C,0,none⟩ [.pointer cn])∧
 NilP c fun eb=>
 ∃ co:Int,(At F (Addr.add eb 0) [.int .i64 co])∧
 ∃ cp:ByteArray,(At F ⟨I,0 + 7,none⟩ [.string cp])∧
 Calls Tryz.prog 86 #[.pointer cn,.int .i64 co,.string cp] et fun bb dw=>
 (∃ cq:Int,(bb=.returned (.int .i64 cq))∧
 Calls Tryz.prog 75 #[.int .i64 cq] dw fun bc U=>
 ((bc=.returned (.tuple #[]))∧
 (F U)∧
 Calls Tryz.prog 82 #[.pointer g,.pointer c] U fun bd dx=>
 (∃ b9:Int,∃ bj:ByteArray,∃ bk:Int,∃ bl:Int,∃ bm:Int,∃ bn:Int,∃ bo:Int,∃ i:Sl,∃ j:Sl,(bd=.returned (.agg #[.int .i64 b9,.string bj,.int .i64 bk,.int .i64 bl,.int .i64 bm,.int .i64 bn,.int .i64 bo,.slice i.a i.len i.cap,.slice j.a j.len j.cap]))∧
 ∃ V:World,((Instr.storeAt 102 (.pointer ((some ⟨e,0,none⟩))) (.agg #[.int .i64 b9,.string bj,.int .i64 bk,.int .i64 bl,.int .i64 bm,.int .i64 bn,.int .i64 bo,.slice i.a i.len i.cap,.slice j.a j.len j.cap])).run Tryz.prog dx=.ok () V)∧
 ∃ c0:Int,∃ c1:ByteArray,∃ c3:Int,∃ c4:Int,∃ c5:Int,∃ c6:Int,∃ c7:Int,∃ s:Sl,∃ t:Sl,(At (fun b=>b=V) ⟨e,0,none⟩ [.int .i64 c0,.string c1,.int .i64 c3,.int .i64 c4,.int .i64 c5,.int .i64 c6,.int .i64 c7,.slice s.a s.len s.cap,.slice t.a t.len t.cap])∧
 K (.agg #[.int .i64 c0,.string c1,.int .i64 c3,.int .i64 c4,.int .i64 c5,.int .i64 c6,.int .i64 c7,.slice s.a s.len s.cap,.slice t.a t.len t.cap]) V)∨
 (∃ az:List PanicEntry,(bd=.panicked az)∧d az dx))∨
 (∃ ay:List PanicEntry,(bc=.panicked ay)∧d ay U))∨
 (∃ ax:List PanicEntry,(bb=.panicked ax)∧d ax dw))∨
 (∃ aw:List PanicEntry,(ba=.panicked aw)∧d aw dv))
 (Br (D==6)
 (Calls Tryz.prog 45 #[.bool (!G==3),.int .i64 7] f fun be dy=>
 ((be=.returned (.tuple #[]))∧
 Drw dy fun ac eu=>
 ∃ cr:Option Addr,(At ac ⟨C,0,none⟩ [.pointer cr])∧
 NilP c fun ec=>
 ∃ bf:Int,(At ac (Addr.add ec 0) [.int .i64 bf])∧
 Calls Tryz.prog 87 #[.pointer cr,.int .i64 bf] eu fun a3 dz=>
 (∃ M:Sl,∃ bg:Int,(a3=.returned (.tuple #[.slice M.a M.len M.cap,.int .i64 bg]))∧
 Calls Tryz.prog 75 #[.int .i64 bg] dz fun a4 d0=>
 ((a4=.returned (.tuple #[]))∧
 Calls Tryz.prog 82 #[.pointer g,.pointer c] d0 fun a5 d1=>
 (∃ bp:Int,∃ bq:ByteArray,∃ bs:Int,∃ bt:Int,∃ bu:Int,∃ bv:Int,∃ bw:Int,∃ k:Sl,∃ l:Sl,(a5=.returned (.agg #[.int .i64 bp,.string bq,.int .i64 bs,.int .i64 bt,.int .i64 bu,.int .i64 bv,.int .i64 bw,.slice k.a k.len k.cap,.slice l.a l.len l.cap]))∧
 ∃ X:World,((Instr.storeAt 102 (.pointer ((some ⟨e,0,none⟩))) (.agg #[.int .i64 bp,.string bq,.int .i64 bs,.int .i64 bt,.int .i64 bu,.int .i64 bv,.int .i64 bw,.slice k.a k.len k.cap,.slice l.a l.len l.cap])).run Tryz.prog d1=.ok () X)∧
 ∃ c8:Int,∃ c9:ByteArray,∃ da:Int,∃ dc:Int,∃ dd:Int,∃ de:Int,∃ df:Int,∃ u:Sl,∃ v:Sl,(At (fun b=>b=X) ⟨e,0,none⟩ [.int .i64 c8,.string c9,.int .i64 da,.int .i64 dc,.int .i64 dd,.int .i64 de,.int .i64 df,.slice u.a u.len u.cap,.slice v.a v.len v.cap])∧
 K (.agg #[.int .i64 c8,.string c9,.int .i64 da,.int .i64 dc,.int .i64 dd,.int .i64 de,.int .i64 df,.slice u.a u.len u.cap,.slice v.a v.len v.cap]) X)∨
 (∃ ap:List PanicEntry,(a5=.panicked ap)∧d ap d1))∨
 (∃ ao:List PanicEntry,(a4=.panicked ao)∧d ao d0))∨
 (∃ an:List PanicEntry,(a3=.panicked an)∧d an dz))∨
 (∃ a0:List PanicEntry,(be=.panicked a0)∧d a0 dy))
 (Calls Tryz.prog 82 #[.pointer g,.pointer c] f fun a6 d2=>
 (∃ bx:Int,∃ bz:ByteArray,∃ b0:Int,∃ b2:Int,∃ b3:Int,∃ b4:Int,∃ b5:Int,∃ m:Sl,∃ n:Sl,(a6=.returned (.agg #[.int .i64 bx,.string bz,.int .i64 b0,.int .i64 b2,.int .i64 b3,.int .i64 b4,.int .i64 b5,.slice m.a m.len m.cap,.slice n.a n.len n.cap]))∧
 ∃ Y:World,((Instr.storeAt 102 (.pointer ((some ⟨e,0,none⟩))) (.agg #[.int .i64 bx,.string bz,.int .i64 b0,.int .i64 b2,.int .i64 b3,.int .i64 b4,.int .i64 b5,.slice m.a m.len m.cap,.slice n.a n.len n.cap])).run Tryz.prog d2=.ok () Y)∧
 ∃ dg:Int,∃ dh:ByteArray,∃ di:Int,∃ dj:Int,∃ dl:Int,∃ dm:Int,∃ dn:Int,∃ x:Sl,∃ y:Sl,(At (fun b=>b=Y) ⟨e,0,none⟩ [.int .i64 dg,.string dh,.int .i64 di,.int .i64 dj,.int .i64 dl,.int .i64 dm,.int .i64 dn,.slice x.a x.len x.cap,.slice y.a y.len y.cap])∧
 K (.agg #[.int .i64 dg,.string dh,.int .i64 di,.int .i64 dj,.int .i64 dl,.int .i64 dm,.int .i64 dn,.slice x.a x.len x.cap,.slice y.a y.len y.cap]) Y)∨
 (∃ aq:List PanicEntry,(a6=.panicked aq)∧d aq d2)))))) ev) eo) w
def sk51:Sk:=(.seq .leaf (.seq .leaf (.seq .leaf (.seq (.seq .leaf (.block (.seq .leaf (.cond .leaf (.seq .leaf (.cond (.cut [] [] [43,44,45,46,47,48,49,50,51,52,53,54,55,56,57] .leaf .leaf) .leaf)))))) .leaf))))
theorem call51 (e:Option Addr) (p:Option Addr) (f:Int) (g:ByteArray) (i:Int) (j:Int) (k:Int) (l:Int) (m:Nat) (n:ByteArray) (o:Int) (c:Sl) (b:Sl) (d:List PanicEntry→World→Prop) (K:Value→World→Prop) (w:World) (h:B51 e p f g i j k l m n o c b d K w):GetsX Tryz.prog 51 #[.pointer e,.pointer p,.agg #[.int .i64 f,.string g,.int .i64 i,.int .i64 j,.int .i64 k,.int .i64 l,.float .f64 m,.string n,.int .i64 o,.slice c.a c.len c.cap,.slice b.a b.len b.cap]] w d K:=cqx (sk:=sk51) Tryz.func51 (by kernel_rfl) (by kernel_rfl) (by kernel_rfl) h
def B28 (g:Option Addr) (g4:Int) (g5:ByteArray) (g6:Int) (g7:Int) (g8:Int) (g9:Int) (ha:Nat) (hb:ByteArray) (hc:Int) (ap:Sl) (ao:Sl) (K:Value→World→Prop) (w:World):Prop:=
 New (.cells #[.int .i64 g4,.string g5,.int .i64 g6,.int .i64 g7,.int .i64 g8,.int .i64 g9,.float .f64 ha,.string hb,.int .i64 hc,.slice ap.a ap.len ap.cap,.slice ao.a ao.len ao.cap] 96 (0,0)) (fun d hd=>
 New (.cells #[.int .i64 0,.string (ByteArray.mk #[]),.int .i64 0,.int .i64 0,.int .i64 0,.int .i64 0,.int .i64 0,.slice none 0 0,.slice none 0 0] 102 (0,0)) (fun c gq=>
 ∃ dm:Int,∃ dn:ByteArray,∃ dp:Int,∃ dq:Int,∃ dr:Int,∃ ds:Int,∃ dt:Nat,∃ du:ByteArray,∃ dv:Int,∃ F:Sl,∃ E:Sl,(At (fun b=>b=gq) ⟨d,0,none⟩ [.int .i64 dm,.string dn,.int .i64 dp,.int .i64 dq,.int .i64 dr,.int .i64 ds,.float .f64 dt,.string du,.int .i64 dv,.slice F.a F.len F.cap,.slice E.a E.len E.cap])∧
 Calls Tryz.prog 46 #[.agg #[.int .i64 dm,.string dn,.int .i64 dp,.int .i64 dq,.int .i64 dr,.int .i64 ds,.float .f64 dt,.string du,.int .i64 dv,.slice F.a F.len F.cap,.slice E.a E.len E.cap]] gq fun a2 gy=>
 (∃ dw:Bool,(a2=.returned (.bool dw))∧
 Calls Tryz.prog 45 #[.bool dw,.int .i64 1] gy fun a3 al=>
 ((a3=.returned (.tuple #[]))∧
 ∃ f:Int,(At (fun b=>b=al) ⟨d,0,none⟩ [.int .i64 f])∧
 Br (f==1)
 (∃ ba:Int,∃ bb:ByteArray,∃ bc:Int,∃ bd:Int,∃ be:Int,∃ bf:Int,∃ bg:Nat,∃ bh:ByteArray,∃ bi:Int,∃ j:Sl,∃ i:Sl,(At (fun b=>b=al) ⟨d,0,none⟩ [.int .i64 ba,.string bb,.int .i64 bc,.int .i64 bd,.int .i64 be,.int .i64 bf,.float .f64 bg,.string bh,.int .i64 bi,.slice j.a j.len j.cap,.slice i.a i.len i.cap])∧
 Calls Tryz.prog 47 #[.pointer g,.agg #[.int .i64 ba,.string bb,.int .i64 bc,.int .i64 bd,.int .i64 be,.int .i64 bf,.float .f64 bg,.string bh,.int .i64 bi,.slice j.a j.len j.cap,.slice i.a i.len i.cap]] al fun a4 g0=>
 (∃ bj:Int,∃ bk:ByteArray,∃ bl:Int,∃ bm:Int,∃ bn:Int,∃ bo:Int,∃ bp:Int,∃ k:Sl,∃ l:Sl,(a4=.returned (.agg #[.int .i64 bj,.string bk,.int .i64 bl,.int .i64 bm,.int .i64 bn,.int .i64 bo,.int .i64 bp,.slice k.a k.len k.cap,.slice l.a l.len l.cap]))∧
 ∃ g1:World,((Instr.storeAt 102 (.pointer ((some ⟨c,0,none⟩))) (.agg #[.int .i64 bj,.string bk,.int .i64 bl,.int .i64 bm,.int .i64 bn,.int .i64 bo,.int .i64 bp,.slice k.a k.len k.cap,.slice l.a l.len l.cap])).run Tryz.prog g0=.ok () g1)∧
 LeaveF Tryz.prog 44 [.pointer ((some ⟨c,0,none⟩))] .returning (fun g2=>∃ dx:Int,∃ dy:ByteArray,∃ ek:Int,∃ et:Int,∃ e2:Int,∃ fb:Int,∃ fk:Int,∃ ab:Sl,∃ af:Sl,(At (fun b=>b=g2) ⟨c,0,none⟩ [.int .i64 dx,.string dy,.int .i64 ek,.int .i64 et,.int .i64 e2,.int .i64 fb,.int .i64 fk,.slice ab.a ab.len ab.cap,.slice af.a af.len af.cap])∧
 K (.agg #[.int .i64 dx,.string dy,.int .i64 ek,.int .i64 et,.int .i64 e2,.int .i64 fb,.int .i64 fk,.slice ab.a ab.len ab.cap,.slice af.a af.len af.cap]) g2) g1)∨
 (∃ aw:List PanicEntry,(a4=.panicked aw)∧LeaveF Tryz.prog 44 [.pointer ((some ⟨c,0,none⟩))] (.panicking aw) (fun g3=>∃ f7:Int,∃ dz:ByteArray,∃ d8:Int,∃ ee:Int,∃ ef:Int,∃ eg:Int,∃ eh:Int,∃ L:Sl,∃ M:Sl,(At (fun b=>b=g3) ⟨c,0,none⟩ [.int .i64 f7,.string dz,.int .i64 d8,.int .i64 ee,.int .i64 ef,.int .i64 eg,.int .i64 eh,.slice L.a L.len L.cap,.slice M.a M.len M.cap])∧
 K (.agg #[.int .i64 f7,.string dz,.int .i64 d8,.int .i64 ee,.int .i64 ef,.int .i64 eg,.int .i64 eh,.slice L.a L.len L.cap,.slice M.a M.len M.cap]) g3) g0))
 (∃ (an:Bool→World→Prop),(Br (f==2)
 (an (f==2) al)
 (an (f==7) al))∧
 ∀ (hf:Env) (bq:Bool) (e:World),an bq e→
 Br bq
 (∃ br:Int,∃ bs:ByteArray,∃ bt:Int,∃ bu:Int,∃ bv:Int,∃ bw:Int,∃ bx:Nat,∃ bz:ByteArray,∃ b0:Int,∃ n:Sl,∃ m:Sl,(At (fun b=>b=e) ⟨d,0,none⟩ [.int .i64 br,.string bs,.int .i64 bt,.int .i64 bu,.int .i64 bv,.int .i64 bw,.float .f64 bx,.string bz,.int .i64 b0,.slice n.a n.len n.cap,.slice m.a m.len m.cap])∧
 Calls Tryz.prog 48 #[.pointer g,.agg #[.int .i64 br,.string bs,.int .i64 bt,.int .i64 bu,.int .i64 bv,.int .i64 bw,.float .f64 bx,.string bz,.int .i64 b0,.slice n.a n.len n.cap,.slice m.a m.len m.cap]] e fun a5 gg=>
 (∃ b1:Int,∃ b2:ByteArray,∃ b3:Int,∃ b4:Int,∃ b5:Int,∃ b6:Int,∃ b7:Int,∃ o:Sl,∃ p:Sl,(a5=.returned (.agg #[.int .i64 b1,.string b2,.int .i64 b3,.int .i64 b4,.int .i64 b5,.int .i64 b6,.int .i64 b7,.slice o.a o.len o.cap,.slice p.a p.len p.cap]))∧
 ∃ gh:World,((Instr.storeAt 102 (.pointer ((some ⟨c,0,none⟩))) (.agg #[.int .i64 b1,.string b2,.int .i64 b3,.int .i64 b4,.int .i64 b5,.int .i64 b6,.int .i64 b7,.slice o.a o.len o.cap,.slice p.a p.len p.cap])).run Tryz.prog gg=.ok () gh)∧
 LeaveF Tryz.prog 44 [.pointer ((some ⟨c,0,none⟩))] .returning (fun gi=>∃ ei:Int,∃ ej:ByteArray,∃ el:Int,∃ em:Int,∃ en:Int,∃ eo:Int,∃ ep:Int,∃ N:Sl,∃ O:Sl,(At (fun b=>b=gi) ⟨c,0,none⟩ [.int .i64 ei,.string ej,.int .i64 el,.int .i64 em,.int .i64 en,.int .i64 eo,.int .i64 ep,.slice N.a N.len N.cap,.slice O.a O.len O.cap])∧
 K (.agg #[.int .i64 ei,.string ej,.int .i64 el,.int .i64 em,.int .i64 en,.int .i64 eo,.int .i64 ep,.slice N.a N.len N.cap,.slice O.a O.len O.cap]) gi) gh)∨
 (∃ ax:List PanicEntry,(a5=.panicked ax)∧LeaveF Tryz.prog 44 [.pointer ((some ⟨c,0,none⟩))] (.panicking ax) (fun gj=>∃ eq:Int,∃ er:ByteArray,∃ es:Int,∃ eu:Int,∃ ev:Int,∃ ew:Int,∃ ex:Int,∃ Q:Sl,∃ T:Sl,(At (fun b=>b=gj) ⟨c,0,none⟩ [.int .i64 eq,.string er,.int .i64 es,.int .i64 eu,.int .i64 ev,.int .i64 ew,.int .i64 ex,.slice Q.a Q.len Q.cap,.slice T.a T.len T.cap])∧
 K (.agg #[.int .i64 eq,.string er,.int .i64 es,.int .i64 eu,.int .i64 ev,.int .i64 ew,.int .i64 ex,.slice Q.a Q.len Q.cap,.slice T.a T.len T.cap]) gj) gg))
 (Br (f==8)
 (∃ b8:Int,∃ b9:ByteArray,∃ ca:Int,∃ cb:Int,∃ cc:Int,∃ cd:Int,∃ ce:Nat,∃ cf:ByteArray,∃ cg:Int,∃ r:Sl,∃ q:Sl,(At (fun b=>b=e) ⟨d,0,none⟩ [.int .i64 b8,.string b9,.int .i64 ca,.int .i64 cb,.int .i64 cc,.int .i64 cd,.float .f64 ce,.string cf,.int .i64 cg,.slice r.a r.len r.cap,.slice q.a q.len q.cap])∧
 Calls Tryz.prog 49 #[.pointer g,.agg #[.int .i64 b8,.string b9,.int .i64 ca,.int .i64 cb,.int .i64 cc,.int .i64 cd,.float .f64 ce,.string cf,.int .i64 cg,.slice r.a r.len r.cap,.slice q.a q.len q.cap]] e fun a6 gk=>
 (∃ ch:Int,∃ ci:ByteArray,∃ cj:Int,∃ ck:Int,∃ cl:Int,∃ cm:Int,∃ cn:Int,∃ s:Sl,∃ t:Sl,(a6=.returned (.agg #[.int .i64 ch,.string ci,.int .i64 cj,.int .i64 ck,.int .i64 cl,.int .i64 cm,.int .i64 cn,.slice s.a s.len s.cap,.slice t.a t.len t.cap]))∧
 ∃ gl:World,((Instr.storeAt 102 (.pointer ((some ⟨c,0,none⟩))) (.agg #[.int .i64 ch,.string ci,.int .i64 cj,.int .i64 ck,.int .i64 cl,.int .i64 cm,.int .i64 cn,.slice s.a s.len s.cap,.slice t.a t.len t.cap])).run Tryz.prog gk=.ok () gl)∧
 LeaveF Tryz.prog 44 [.pointer ((some ⟨c,0,none⟩))] .returning (fun gm=>∃ ey:Int,∃ ez:ByteArray,∃ e0:Int,∃ e1:Int,∃ e3:Int,∃ e4:Int,∃ e5:Int,∃ U:Sl,∃ V:Sl,(At (fun b=>b=gm) ⟨c,0,none⟩ [.int .i64 ey,.string ez,.int .i64 e0,.int .i64 e1,.int .i64 e3,.int .i64 e4,.int .i64 e5,.slice U.a U.len U.cap,.slice V.a V.len V.cap])∧
 K (.agg #[.int .i64 ey,.string ez,.int .i64 e0,.int .i64 e1,.int .i64 e3,.int .i64 e4,.int .i64 e5,.slice U.a U.len U.cap,.slice V.a V.len V.cap]) gm) gl)∨
 (∃ ay:List PanicEntry,(a6=.panicked ay)∧LeaveF Tryz.prog 44 [.pointer ((some ⟨c,0,none⟩))] (.panicking ay) (fun gn=>∃ e6:Int,∃ e7:ByteArray,∃ e8:Int,∃ e9:Int,∃ fa:Int,∃ fc:Int,∃ fd:Int,∃ X:Sl,∃ Y:Sl,(At (fun b=>b=gn) ⟨c,0,none⟩ [.int .i64 e6,.string e7,.int .i64 e8,.int .i64 e9,.int .i64 fa,.int .i64 fc,.int .i64 fd,.slice X.a X.len X.cap,.slice Y.a Y.len Y.cap])∧
 K (.agg #[.int .i64 e6,.string e7,.int .i64 e8,.int .i64 e9,.int .i64 fa,.int .i64 fc,.int .i64 fd,.slice X.a X.len X.cap,.slice Y.a Y.len Y.cap]) gn) gk))
 (Br (f==9)
 (∃ co:Int,∃ cp:ByteArray,∃ cq:Int,∃ cr:Int,∃ cs:Int,∃ ct:Int,∃ cu:Nat,∃ cv:ByteArray,∃ cw:Int,∃ v:Sl,∃ u:Sl,(At (fun b=>b=e) ⟨d,0,none⟩ [.int .i64 co,.string cp,.int .i64 cq,.int .i64 cr,.int .i64 cs,.int .i64 ct,.float .f64 cu,.string cv,.int .i64 cw,.slice v.a v.len v.cap,.slice u.a u.len u.cap])∧
 Calls Tryz.prog 50 #[.pointer g,.agg #[.int .i64 co,.string cp,.int .i64 cq,.int .i64 cr,.int .i64 cs,.int .i64 ct,.float .f64 cu,.string cv,.int .i64 cw,.slice v.a v.len v.cap,.slice u.a u.len u.cap]] e fun a7 go=>
 (∃ cx:Int,∃ cy:ByteArray,∃ cz:Int,∃ c0:Int,∃ c1:Int,∃ c2:Int,∃ c3:Int,∃ x:Sl,∃ y:Sl,(a7=.returned (.agg #[.int .i64 cx,.string cy,.int .i64 cz,.int .i64 c0,.int .i64 c1,.int .i64 c2,.int .i64 c3,.slice x.a x.len x.cap,.slice y.a y.len y.cap]))∧
 ∃ gp:World,((Instr.storeAt 102 (.pointer ((some ⟨c,0,none⟩))) (.agg #[.int .i64 cx,.string cy,.int .i64 cz,.int .i64 c0,.int .i64 c1,.int .i64 c2,.int .i64 c3,.slice x.a x.len x.cap,.slice y.a y.len y.cap])).run Tryz.prog go=.ok () gp)∧
 LeaveF Tryz.prog 44 [.pointer ((some ⟨c,0,none⟩))] .returning (fun gr=>∃ fe:Int,∃ ff:ByteArray,∃ fg:Int,∃ fh:Int,∃ fi:Int,∃ fj:Int,∃ fl:Int,∃ Z:Sl,∃ aa:Sl,(At (fun b=>b=gr) ⟨c,0,none⟩ [.int .i64 fe,.string ff,.int .i64 fg,.int .i64 fh,.int .i64 fi,.int .i64 fj,.int .i64 fl,.slice Z.a Z.len Z.cap,.slice aa.a aa.len aa.cap])∧
 K (.agg #[.int .i64 fe,.string ff,.int .i64 fg,.int .i64 fh,.int .i64 fi,.int .i64 fj,.int .i64 fl,.slice Z.a Z.len Z.cap,.slice aa.a aa.len aa.cap]) gr) gp)∨
 (∃ az:List PanicEntry,(a7=.panicked az)∧LeaveF Tryz.prog 44 [.pointer ((some ⟨c,0,none⟩))] (.panicking az) (fun gs=>∃ fm:Int,∃ fn:ByteArray,∃ fo:Int,∃ fp:Int,∃ fq:Int,∃ fr:Int,∃ fs:Int,∃ ac:Sl,∃ ad:Sl,(At (fun b=>b=gs) ⟨c,0,none⟩ [.int .i64 fm,.string fn,.int .i64 fo,.int .i64 fp,.int .i64 fq,.int .i64 fr,.int .i64 fs,.slice ac.a ac.len ac.cap,.slice ad.a ad.len ad.cap])∧
 K (.agg #[.int .i64 fm,.string fn,.int .i64 fo,.int .i64 fp,.int .i64 fq,.int .i64 fr,.int .i64 fs,.slice ac.a ac.len ac.cap,.slice ad.a ad.len ad.cap]) gs) go))
 (Drw e fun am he=>
 ∃ c4:ByteArray,(At am ⟨d,0 + 1,none⟩ [.string c4])∧
 ∃ c6:Int,∃ c7:ByteArray,∃ c8:Int,∃ c9:Int,∃ da:Int,∃ db:Int,∃ dc:Nat,∃ dd:ByteArray,∃ de:Int,∃ A:Sl,∃ z:Sl,(At am ⟨d,0,none⟩ [.int .i64 c6,.string c7,.int .i64 c8,.int .i64 c9,.int .i64 da,.int .i64 db,.float .f64 dc,.string dd,.int .i64 de,.slice A.a A.len A.cap,.slice z.a z.len z.cap])∧
 Calls Tryz.prog 52 #[.pointer g,.string c4] he fun a8 aq=>
 (∃ c5:Option Addr,(a8=.returned (.pointer c5))∧
 (am aq)∧
 Calls Tryz.prog 51 #[.pointer g,.pointer c5,.agg #[.int .i64 c6,.string c7,.int .i64 c8,.int .i64 c9,.int .i64 da,.int .i64 db,.float .f64 dc,.string dd,.int .i64 de,.slice A.a A.len A.cap,.slice z.a z.len z.cap]] aq fun a9 ar=>
 (∃ df:Int,∃ dg:ByteArray,∃ dh:Int,∃ di:Int,∃ dj:Int,∃ dk:Int,∃ dl:Int,∃ C:Sl,∃ D:Sl,(a9=.returned (.agg #[.int .i64 df,.string dg,.int .i64 dh,.int .i64 di,.int .i64 dj,.int .i64 dk,.int .i64 dl,.slice C.a C.len C.cap,.slice D.a D.len D.cap]))∧
 (am ar)∧
 ∃ gt:World,((Instr.storeAt 102 (.pointer ((some ⟨c,0,none⟩))) (.agg #[.int .i64 df,.string dg,.int .i64 dh,.int .i64 di,.int .i64 dj,.int .i64 dk,.int .i64 dl,.slice C.a C.len C.cap,.slice D.a D.len D.cap])).run Tryz.prog ar=.ok () gt)∧
 LeaveF Tryz.prog 44 [.pointer ((some ⟨c,0,none⟩))] .returning (fun gu=>∃ ft:Int,∃ fu:ByteArray,∃ fv:Int,∃ fw:Int,∃ fx:Int,∃ fy:Int,∃ fz:Int,∃ ae:Sl,∃ ag:Sl,(At (fun b=>b=gu) ⟨c,0,none⟩ [.int .i64 ft,.string fu,.int .i64 fv,.int .i64 fw,.int .i64 fx,.int .i64 fy,.int .i64 fz,.slice ae.a ae.len ae.cap,.slice ag.a ag.len ag.cap])∧
 K (.agg #[.int .i64 ft,.string fu,.int .i64 fv,.int .i64 fw,.int .i64 fx,.int .i64 fy,.int .i64 fz,.slice ae.a ae.len ae.cap,.slice ag.a ag.len ag.cap]) gu) gt)∨
 (∃ a1:List PanicEntry,(a9=.panicked a1)∧LeaveF Tryz.prog 44 [.pointer ((some ⟨c,0,none⟩))] (.panicking a1) (fun gv=>∃ f0:Int,∃ f1:ByteArray,∃ f2:Int,∃ f3:Int,∃ f4:Int,∃ f5:Int,∃ f6:Int,∃ ah:Sl,∃ ai:Sl,(At (fun b=>b=gv) ⟨c,0,none⟩ [.int .i64 f0,.string f1,.int .i64 f2,.int .i64 f3,.int .i64 f4,.int .i64 f5,.int .i64 f6,.slice ah.a ah.len ah.cap,.slice ai.a ai.len ai.cap])∧
 K (.agg #[.int .i64 f0,.string f1,.int .i64 f2,.int .i64 f3,.int .i64 f4,.int .i64 f5,.int .i64 f6,.slice ah.a ah.len ah.cap,.slice ai.a ai.len ai.cap]) gv) ar))∨
 (∃ a0:List PanicEntry,(a8=.panicked a0)∧LeaveF Tryz.prog 44 [.pointer ((some ⟨c,0,none⟩))] (.panicking a0) (fun gw=>∃ f8:Int,∃ f9:ByteArray,∃ ga:Int,∃ gb:Int,∃ gc:Int,∃ gd:Int,∃ ge:Int,∃ aj:Sl,∃ ak:Sl,(At (fun b=>b=gw) ⟨c,0,none⟩ [.int .i64 f8,.string f9,.int .i64 ga,.int .i64 gb,.int .i64 gc,.int .i64 gd,.int .i64 ge,.slice aj.a aj.len aj.cap,.slice ak.a ak.len ak.cap])∧
 K (.agg #[.int .i64 f8,.string f9,.int .i64 ga,.int .i64 gb,.int .i64 gc,.int .i64 gd,.int .i64 ge,.slice aj.a aj.len aj.cap,.slice ak.a ak.len ak.cap]) gw) aq))))))∨
 (∃ av:List PanicEntry,(a3=.panicked av)∧LeaveF Tryz.prog 44 [.pointer ((some ⟨c,0,none⟩))] (.panicking av) (fun gx=>∃ gf:Int,∃ d0:ByteArray,∃ d1:Int,∃ d2:Int,∃ d3:Int,∃ d4:Int,∃ d5:Int,∃ G:Sl,∃ H:Sl,(At (fun b=>b=gx) ⟨c,0,none⟩ [.int .i64 gf,.string d0,.int .i64 d1,.int .i64 d2,.int .i64 d3,.int .i64 d4,.int .i64 d5,.slice G.a G.len G.cap,.slice H.a H.len H.cap])∧
 K (.agg #[.int .i64 gf,.string d0,.int .i64 d1,.int .i64 d2,.int .i64 d3,.int .i64 d4,.int .i64 d5,.slice G.a G.len G.cap,.slice H.a H.len H.cap]) gx) al))∨
 (∃ au:List PanicEntry,(a2=.panicked au)∧LeaveF Tryz.prog 44 [.pointer ((some ⟨c,0,none⟩))] (.panicking au) (fun gz=>∃ d6:Int,∃ d7:ByteArray,∃ d9:Int,∃ ea:Int,∃ eb:Int,∃ ec:Int,∃ ed:Int,∃ I:Sl,∃ J:Sl,(At (fun b=>b=gz) ⟨c,0,none⟩ [.int .i64 d6,.string d7,.int .i64 d9,.int .i64 ea,.int .i64 eb,.int .i64 ec,.int .i64 ed,.slice I.a I.len I.cap,.slice J.a J.len J.cap])∧
 K (.agg #[.int .i64 d6,.string d7,.int .i64 d9,.int .i64 ea,.int .i64 eb,.int .i64 ec,.int .i64 ed,.slice I.a I.len I.cap,.slice J.a J.len J.cap]) gz) gy)) hd) w
def sk28:Sk:=(.seq .leaf (.seq (.seq .leaf (.block (.seq .leaf (.cond .leaf (.cut [15] [.bool] [15,16,17] .leaf .leaf))))) .leaf))
theorem call28 (d:Option Addr) (e:Int) (f:ByteArray) (g:Int) (i:Int) (j:Int) (k:Int) (l:Nat) (m:ByteArray) (n:Int) (c:Sl) (b:Sl) (K:Value→World→Prop) (w:World) (h:B28 d e f g i j k l m n c b K w):Gets Tryz.prog 28 #[.pointer d,.agg #[.int .i64 e,.string f,.int .i64 g,.int .i64 i,.int .i64 j,.int .i64 k,.float .f64 l,.string m,.int .i64 n,.slice c.a c.len c.cap,.slice b.a b.len b.cap]] w K:=cqd (sk:=sk28) Tryz.func28 (by kernel_rfl) (by kernel_rfl) (by kernel_rfl) h
def B50 (M:Option Addr) (dy:Int) (dz:ByteArray) (d0:Int) (d1:Int) (d2:Int) (d3:Int) (d4:Nat) (d5:ByteArray) (d6:Int) (Q:Sl) (O:Sl) (K:Value→World→Prop) (w:World):Prop:=
 New (.cells #[.int .i64 dy,.string dz,.int .i64 d0,.int .i64 d1,.int .i64 d2,.int .i64 d3,.float .f64 d4,.string d5,.int .i64 d6,.slice Q.a Q.len Q.cap,.slice O.a O.len O.cap] 96 (0,0)) (fun d d7=>
 New (.cells #[.int .i64 0,.string (ByteArray.mk #[]),.int .i64 0,.int .i64 0,.int .i64 0,.int .i64 0,.int .i64 0,.slice none 0 0,.slice none 0 0] 102 (0,0)) (fun c dm=>
 ∃ (L:World→Prop),(∃ bq:Int,∃ br:ByteArray,∃ bs:Int,∃ bt:Int,∃ bu:Int,∃ bv:Int,∃ bw:Nat,∃ bx:ByteArray,∃ bz:Int,∃ p:Sl,∃ o:Sl,(At (fun b=>b=dm) ⟨d,0,none⟩ [.int .i64 bq,.string br,.int .i64 bs,.int .i64 bt,.int .i64 bu,.int .i64 bv,.float .f64 bw,.string bx,.int .i64 bz,.slice p.a p.len p.cap,.slice o.a o.len o.cap])∧
 Calls Tryz.prog 46 #[.agg #[.int .i64 bq,.string br,.int .i64 bs,.int .i64 bt,.int .i64 bu,.int .i64 bv,.float .f64 bw,.string bx,.int .i64 bz,.slice p.a p.len p.cap,.slice o.a o.len o.cap]] dm fun ae J=>
 (∃ b0:Bool,(ae=.returned (.bool b0))∧
 Br b0
 (∃ am:Int,(At (fun b=>b=J) ⟨d,0,none⟩ [.int .i64 am])∧
 Calls Tryz.prog 45 #[.bool (am==9),.int .i64 1] J fun af dt=>
 ((af=.returned (.tuple #[]))∧
 L  dt)∨
 (∃ X:List PanicEntry,(af=.panicked X)∧LeaveF Tryz.prog 44 [.pointer ((some ⟨c,0,none⟩))] (.panicking X) (fun du=>∃ an:Int,∃ ao:ByteArray,∃ az:Int,∃ a5:Int,∃ a6:Int,∃ a7:Int,∃ a8:Int,∃ j:Sl,∃ k:Sl,(At (fun b=>b=du) ⟨c,0,none⟩ [.int .i64 an,.string ao,.int .i64 az,.int .i64 a5,.int .i64 a6,.int .i64 a7,.int .i64 a8,.slice j.a j.len j.cap,.slice k.a k.len k.cap])∧
 K (.agg #[.int .i64 an,.string ao,.int .i64 az,.int .i64 a5,.int .i64 a6,.int .i64 a7,.int .i64 a8,.slice j.a j.len j.cap,.slice k.a k.len k.cap]) du) dt))
 (Calls Tryz.prog 45 #[.bool false,.int .i64 1] J fun ag dv=>
 ((ag=.returned (.tuple #[]))∧
 L  dv)∨
 (∃ Y:List PanicEntry,(ag=.panicked Y)∧LeaveF Tryz.prog 44 [.pointer ((some ⟨c,0,none⟩))] (.panicking Y) (fun dw=>∃ a9:Int,∃ ap:ByteArray,∃ aq:Int,∃ ar:Int,∃ au:Int,∃ av:Int,∃ aw:Int,∃ e:Sl,∃ f:Sl,(At (fun b=>b=dw) ⟨c,0,none⟩ [.int .i64 a9,.string ap,.int .i64 aq,.int .i64 ar,.int .i64 au,.int .i64 av,.int .i64 aw,.slice e.a e.len e.cap,.slice f.a f.len f.cap])∧
 K (.agg #[.int .i64 a9,.string ap,.int .i64 aq,.int .i64 ar,.int .i64 au,.int .i64 av,.int .i64 aw,.slice e.a e.len e.cap,.slice f.a f.len f.cap]) dw) dv)))∨
 (∃ V:List PanicEntry,(ae=.panicked V)∧LeaveF Tryz.prog 44 [.pointer ((some ⟨c,0,none⟩))] (.panicking V) (fun dx=>∃ ax:Int,∃ ay:ByteArray,∃ a0:Int,∃ a1:Int,∃ a2:Int,∃ a3:Int,∃ a4:Int,∃ g:Sl,∃ i:Sl,(At (fun b=>b=dx) ⟨c,0,none⟩ [.int .i64 ax,.string ay,.int .i64 a0,.int .i64 a1,.int .i64 a2,.int .i64 a3,.int .i64 a4,.slice g.a g.len g.cap,.slice i.a i.len i.cap])∧
 K (.agg #[.int .i64 ax,.string ay,.int .i64 a0,.int .i64 a1,.int .i64 a2,.int .i64 a3,.int .i64 a4,.slice g.a g.len g.cap,.slice i.a i.len i.cap]) dx) J))∧
 ∀ (ea:Env)  (G:World),L  G→
 ∃ ba:ByteArray,(At (fun b=>b=G) ⟨d,0 + 1,none⟩ [.string ba])∧
 Br (!ba.toList==(ByteArray.mk #[]).toList)
 (∃ bb:ByteArray,(At (fun b=>b=G) ⟨d,0 + 1,none⟩ [.string bb])∧
 Calls Tryz.prog 52 #[.pointer M,.string bb] G fun ah de=>
 (∃ bc:Option Addr,(ah=.returned (.pointer bc))∧
 Calls Tryz.prog 82 #[.pointer M,.pointer bc] de fun ai df=>
 (∃ bd:Int,∃ be:ByteArray,∃ bf:Int,∃ bg:Int,∃ bh:Int,∃ bi:Int,∃ bj:Int,∃ l:Sl,∃ m:Sl,(ai=.returned (.agg #[.int .i64 bd,.string be,.int .i64 bf,.int .i64 bg,.int .i64 bh,.int .i64 bi,.int .i64 bj,.slice l.a l.len l.cap,.slice m.a m.len m.cap]))∧
 ∃ dg:World,((Instr.storeAt 102 (.pointer ((some ⟨c,0,none⟩))) (.agg #[.int .i64 bd,.string be,.int .i64 bf,.int .i64 bg,.int .i64 bh,.int .i64 bi,.int .i64 bj,.slice l.a l.len l.cap,.slice m.a m.len m.cap])).run Tryz.prog df=.ok () dg)∧
 LeaveF Tryz.prog 44 [.pointer ((some ⟨c,0,none⟩))] .returning (fun dh=>∃ b1:Int,∃ b2:ByteArray,∃ cb:Int,∃ ck:Int,∃ ct:Int,∃ c2:Int,∃ db:Int,∃ E:Sl,∃ F:Sl,(At (fun b=>b=dh) ⟨c,0,none⟩ [.int .i64 b1,.string b2,.int .i64 cb,.int .i64 ck,.int .i64 ct,.int .i64 c2,.int .i64 db,.slice E.a E.len E.cap,.slice F.a F.len F.cap])∧
 K (.agg #[.int .i64 b1,.string b2,.int .i64 cb,.int .i64 ck,.int .i64 ct,.int .i64 c2,.int .i64 db,.slice E.a E.len E.cap,.slice F.a F.len F.cap]) dh) dg)∨
 (∃ aa:List PanicEntry,(ai=.panicked aa)∧LeaveF Tryz.prog 44 [.pointer ((some ⟨c,0,none⟩))] (.panicking aa) (fun di=>∃ dd:Int,∃ b3:ByteArray,∃ b4:Int,∃ b5:Int,∃ b6:Int,∃ b7:Int,∃ b8:Int,∃ q:Sl,∃ r:Sl,(At (fun b=>b=di) ⟨c,0,none⟩ [.int .i64 dd,.string b3,.int .i64 b4,.int .i64 b5,.int .i64 b6,.int .i64 b7,.int .i64 b8,.slice q.a q.len q.cap,.slice r.a r.len r.cap])∧
 K (.agg #[.int .i64 dd,.string b3,.int .i64 b4,.int .i64 b5,.int .i64 b6,.int .i64 b7,.int .i64 b8,.slice q.a q.len q.cap,.slice r.a r.len r.cap]) di) df))∨
 (∃ Z:List PanicEntry,(ah=.panicked Z)∧LeaveF Tryz.prog 44 [.pointer ((some ⟨c,0,none⟩))] (.panicking Z) (fun dj=>∃ b9:Int,∃ ca:ByteArray,∃ cc:Int,∃ cd:Int,∃ ce:Int,∃ cf:Int,∃ cg:Int,∃ s:Sl,∃ t:Sl,(At (fun b=>b=dj) ⟨c,0,none⟩ [.int .i64 b9,.string ca,.int .i64 cc,.int .i64 cd,.int .i64 ce,.int .i64 cf,.int .i64 cg,.slice s.a s.len s.cap,.slice t.a t.len t.cap])∧
 K (.agg #[.int .i64 b9,.string ca,.int .i64 cc,.int .i64 cd,.int .i64 ce,.int .i64 cf,.int .i64 cg,.slice s.a s.len s.cap,.slice t.a t.len t.cap]) dj) de))
 (∃ bk:Int,(At (fun b=>b=G) ⟨d,0 + 2,none⟩ [.int .i64 bk])∧
 Calls Tryz.prog 78 #[.pointer M,.int .i64 bk] G fun aj dk=>
 (∃ bl:Option Addr,∃ bm:Option Addr,(aj=.returned (.agg #[.pointer bl,.pointer bm]))∧
 New (.cells #[.pointer none,.pointer none] 119 (0,0)) (fun N d8=>
 ∃ dl:World,((Instr.storeAt 119 (.pointer ((some ⟨N,0,none⟩))) (.agg #[.pointer bl,.pointer bm])).run Tryz.prog d8=.ok () dl)∧
 Drw dl fun H d9=>
 ∃ bn:Int,(At H ⟨d,0 + 2,none⟩ [.int .i64 bn])∧
 ∃ bo:Option Addr,(At H ⟨N,0,none⟩ [.pointer bo])∧
 ∃ bp:Option Addr,(At H ⟨N,0 + 1,none⟩ [.pointer bp])∧
 Calls Tryz.prog 77 #[.pointer bo] d9 fun ak T=>
 (∃ n:Sl,(ak=.returned (.slice n.a n.len n.cap))∧
 (H T)∧
 Calls Tryz.prog 84 #[.pointer bp] T fun al U=>
 (∃ I:Sl,(al=.returned (.slice I.a I.len I.cap))∧
 (H U)∧
 ∃ dn:World,((Instr.storeAt 102 (.pointer ((some ⟨c,0,none⟩))) (.agg #[.int .i64 0,.string (ByteArray.mk #[]),.int .i64 0,.int .i64 bn,.int .i64 0,.int .i64 ((↑I.len:Int)),.int .i64 0,.slice n.a n.len n.cap,.slice none 0 0])).run Tryz.prog U=.ok () dn)∧
 LeaveF Tryz.prog 44 [.pointer ((some ⟨c,0,none⟩))] .returning (fun dp=>∃ ch:Int,∃ ci:ByteArray,∃ cj:Int,∃ cl:Int,∃ cm:Int,∃ cn:Int,∃ co:Int,∃ u:Sl,∃ v:Sl,(At (fun b=>b=dp) ⟨c,0,none⟩ [.int .i64 ch,.string ci,.int .i64 cj,.int .i64 cl,.int .i64 cm,.int .i64 cn,.int .i64 co,.slice u.a u.len u.cap,.slice v.a v.len v.cap])∧
 K (.agg #[.int .i64 ch,.string ci,.int .i64 cj,.int .i64 cl,.int .i64 cm,.int .i64 cn,.int .i64 co,.slice u.a u.len u.cap,.slice v.a v.len v.cap]) dp) dn)∨
 (∃ ad:List PanicEntry,(al=.panicked ad)∧LeaveF Tryz.prog 44 [.pointer ((some ⟨c,0,none⟩))] (.panicking ad) (fun dq=>∃ cp:Int,∃ cq:ByteArray,∃ cr:Int,∃ cs:Int,∃ cu:Int,∃ cv:Int,∃ cw:Int,∃ x:Sl,∃ y:Sl,(At (fun b=>b=dq) ⟨c,0,none⟩ [.int .i64 cp,.string cq,.int .i64 cr,.int .i64 cs,.int .i64 cu,.int .i64 cv,.int .i64 cw,.slice x.a x.len x.cap,.slice y.a y.len y.cap])∧
 K (.agg #[.int .i64 cp,.string cq,.int .i64 cr,.int .i64 cs,.int .i64 cu,.int .i64 cv,.int .i64 cw,.slice x.a x.len x.cap,.slice y.a y.len y.cap]) dq) U))∨
 (∃ ac:List PanicEntry,(ak=.panicked ac)∧LeaveF Tryz.prog 44 [.pointer ((some ⟨c,0,none⟩))] (.panicking ac) (fun dr=>∃ cx:Int,∃ cy:ByteArray,∃ cz:Int,∃ c0:Int,∃ c1:Int,∃ c3:Int,∃ c4:Int,∃ z:Sl,∃ A:Sl,(At (fun b=>b=dr) ⟨c,0,none⟩ [.int .i64 cx,.string cy,.int .i64 cz,.int .i64 c0,.int .i64 c1,.int .i64 c3,.int .i64 c4,.slice z.a z.len z.cap,.slice A.a A.len A.cap])∧
 K (.agg #[.int .i64 cx,.string cy,.int .i64 cz,.int .i64 c0,.int .i64 c1,.int .i64 c3,.int .i64 c4,.slice z.a z.len z.cap,.slice A.a A.len A.cap]) dr) T)) dk)∨
 (∃ ab:List PanicEntry,(aj=.panicked ab)∧LeaveF Tryz.prog 44 [.pointer ((some ⟨c,0,none⟩))] (.panicking ab) (fun ds=>∃ c5:Int,∃ c6:ByteArray,∃ c7:Int,∃ c8:Int,∃ c9:Int,∃ da:Int,∃ dc:Int,∃ C:Sl,∃ D:Sl,(At (fun b=>b=ds) ⟨c,0,none⟩ [.int .i64 c5,.string c6,.int .i64 c7,.int .i64 c8,.int .i64 c9,.int .i64 da,.int .i64 dc,.slice C.a C.len C.cap,.slice D.a D.len D.cap])∧
 K (.agg #[.int .i64 c5,.string c6,.int .i64 c7,.int .i64 c8,.int .i64 c9,.int .i64 da,.int .i64 dc,.slice C.a C.len C.cap,.slice D.a D.len D.cap]) ds) dk))) d7) w
def sk50:Sk:=(.cut [] [] [6,7,8,9,10,11,12,13] .leaf .leaf)
theorem call50 (d:Option Addr) (e:Int) (f:ByteArray) (g:Int) (i:Int) (j:Int) (k:Int) (l:Nat) (m:ByteArray) (n:Int) (c:Sl) (b:Sl) (K:Value→World→Prop) (w:World) (h:B50 d e f g i j k l m n c b K w):Gets Tryz.prog 50 #[.pointer d,.agg #[.int .i64 e,.string f,.int .i64 g,.int .i64 i,.int .i64 j,.int .i64 k,.float .f64 l,.string m,.int .i64 n,.slice c.a c.len c.cap,.slice b.a b.len b.cap]] w K:=cqd (sk:=sk50) Tryz.func50 (by kernel_rfl) (by kernel_rfl) (by kernel_rfl) h
def B32 (d:Option Addr) (K:Value→World→Prop) (w:World):Prop:=
 New (.cells #[.slice none 0 0] 113 (0,0)) (fun k bc=>
 Drw bc fun i bj=>
 NilP d fun av=>
 ∃ O:Int,(At i (Addr.add av 0) [.int .i64 O])∧
 NilP d fun A=>
 ∃ Q:Int,(At i ⟨A.block,A.off + 1,none⟩ [.int .i64 Q])∧
 NilP d fun C=>
 ∃ T:Option Nat,(At i ⟨C.block,C.off + 2,none⟩ [.map T])∧
 ∃ U:Int,(∀ b,i b→((Builtin.len_ #[87] 3 #[.map T])).run Tryz.prog b=.ok (.int .i64 U) b)∧
 New (.cells #[.int .i64 O,.int .i64 Q,.int .i64 U] 3 (0,0)) (fun az aq=>
 (i aq)∧
 Calls Tryz.prog 56 #[.pointer ((some ⟨k,0,none⟩)),.slice ((some ⟨az,0,none⟩)) 3 3] aq fun a1 x=>
 (a1=.returned (.tuple #[]))∧
 (i x)∧
 NilP d fun D=>
 ∃ V:Option Nat,(At (fun b=>b=x) ⟨D.block,D.off + 2,none⟩ [.map V])∧
 Calls Tryz.prog 57 #[.map V] x fun a2 bl=>
 ∃ X:Value,(a2=.returned (X))∧
 Calls Tryz.prog 30 #[X] bl fun a4 bm=>
 ∃ m:Sl,(a4=.returned (.slice m.a m.len m.cap))∧
 ∃ (r:Int→World→Prop) (ar:Int→World→Nat),(r 0 bm)∧∀ (bo:Env) (f:Int) (c:World),r f c→
 Br (decide (f<(↑m.len:Int)))
 (Rng f m.len (NilP m.a fun aw=>
 ∃ Y:Int,(At (fun b=>b=c) (Addr.add aw f.toNat) [.int .i64 Y])∧
 NilP d fun E=>
 ∃ Z:Option Nat,(At (fun b=>b=c) ⟨E.block,E.off + 2,none⟩ [.map Z])∧
 ∃ aa:Option Addr,∃ ab:Option Addr,(∀ b,(fun b=>b=c) b→((Instr.lookup 87 (.map Z) (.int .i64 Y) false)).run Tryz.prog b=.ok (.agg #[.pointer aa,.pointer ab]) b)∧
 New (.cells #[.pointer none,.pointer none] 119 (0,0)) (fun t bn=>
 ∃ y:World,((Instr.storeAt 119 (.pointer ((some ⟨t,0,none⟩))) (.agg #[.pointer aa,.pointer ab])).run Tryz.prog bn=.ok () y)∧
 ∃ ac:Option Addr,(At (fun b=>b=y) ⟨t,0,none⟩ [.pointer ac])∧
 Calls Tryz.prog 59 #[.pointer ac] y fun a5 bd=>
 ∃ n:Sl,(a5=.returned (.slice n.a n.len n.cap))∧
 Calls Tryz.prog 58 #[.pointer ((some ⟨k,0,none⟩)),.slice n.a n.len n.cap] bd fun a6 an=>
 (a6=.returned (.tuple #[]))∧
 ∃ ad:Option Addr,(At (fun b=>b=an) ⟨t,0 + 1,none⟩ [.pointer ad])∧
 Calls Tryz.prog 60 #[.pointer ad] an fun a7 be=>
 ∃ o:Sl,(a7=.returned (.slice o.a o.len o.cap))∧
 Calls Tryz.prog 58 #[.pointer ((some ⟨k,0,none⟩)),.slice o.a o.len o.cap] be fun a8 ao=>
 (a8=.returned (.tuple #[]))∧
 (r (IntKind.i64.wrap (f + 1)) ao)∧ar (IntKind.i64.wrap (f + 1)) ao<ar f c) c))
 (NilP d fun F=>
 ∃ ae:Option Nat,(At (fun b=>b=c) ⟨F.block,F.off + 3,none⟩ [.map ae])∧
 ∃ af:Int,(∀ b,(fun b=>b=c) b→((Builtin.len_ #[88] 3 #[.map ae])).run Tryz.prog b=.ok (.int .i64 af) b)∧
 New (.cells #[.int .i64 af] 3 (0,0)) (fun a0 bf=>
 Calls Tryz.prog 56 #[.pointer ((some ⟨k,0,none⟩)),.slice ((some ⟨a0,0,none⟩)) 1 1] bf fun a9 ap=>
 (a9=.returned (.tuple #[]))∧
 NilP d fun G=>
 ∃ ag:Option Nat,(At (fun b=>b=ap) ⟨G.block,G.off + 3,none⟩ [.map ag])∧
 Calls Tryz.prog 61 #[.map ag] ap fun ba bg=>
 ∃ ah:Value,(ba=.returned (ah))∧
 Calls Tryz.prog 30 #[ah] bg fun bb bh=>
 ∃ p:Sl,(bb=.returned (.slice p.a p.len p.cap))∧
 ∃ (s:Int→World→Prop) (au:Int→World→Nat),(s 0 bh)∧∀ (bp:Env) (g:Int) (e:World),s g e→
 Br (decide (g<(↑p.len:Int)))
 (Rng g p.len (NilP p.a fun ax=>
 ∃ u:Int,(At (fun b=>b=e) (Addr.add ax g.toNat) [.int .i64 u])∧
 NilP d fun H=>
 ∃ ai:Option Nat,(At (fun b=>b=e) ⟨H.block,H.off + 3,none⟩ [.map ai])∧
 ∃ q:Option Addr,(∀ b,(fun b=>b=e) b→((Instr.lookup 88 (.map ai) (.int .i64 u) false)).run Tryz.prog b=.ok (.pointer q) b)∧
 Drw e fun j bi=>
 NilP q fun I=>
 ∃ aj:Int,(At j ⟨I.block,I.off + 1,none⟩ [.int .i64 aj])∧
 NilP q fun J=>
 ∃ ak:Int,(At j ⟨J.block,J.off + 2,none⟩ [.int .i64 ak])∧
 NilP q fun L=>
 ∃ al:Int,(At j ⟨L.block,L.off + 3,none⟩ [.int .i64 al])∧
 NilP q fun M=>
 ∃ am:Int,(At j ⟨M.block,M.off + 4,none⟩ [.int .i64 am])∧
 NilP q fun z=>
 ∃ N:Int,(At j ⟨z.block,z.off + 5,none⟩ [.int .i64 N])∧
 New (.cells #[.int .i64 u,.int .i64 aj,.int .i64 ak,.int .i64 al,.int .i64 am,.int .i64 N] 3 (0,0)) (fun ay bk=>
 Calls Tryz.prog 56 #[.pointer ((some ⟨k,0,none⟩)),.slice ((some ⟨ay,0,none⟩)) 6 6] bk fun a3 v=>
 (a3=.returned (.tuple #[]))∧
 (j v)∧
 (s (IntKind.i64.wrap (g + 1)) v)∧au (IntKind.i64.wrap (g + 1)) v<au g e) bi))
 (∃ l:Sl,(At (fun b=>b=e) ⟨k,0,none⟩ [.slice l.a l.len l.cap])∧
 K (.slice l.a l.len l.cap) e)) c)) bj) w
def sk32:Sk:=(.seq .leaf (.seq .leaf (.seq .leaf (.seq (.seq .leaf (.block (.loop [35] [(.int .i64)] [5,6,35,36,37,38,39,40,41,42,43,44,45,46,47,48,49,50,51,52,53,54,55] .leaf))) (.seq .leaf (.seq (.seq .leaf (.block (.loop [71] [(.int .i64)] [8,9,71,72,73,74,75,76,77,78,79,80,81,82,83,84,85,86,87,88,89,90,91,92,93,94,95,96,97,98,99,100,101,102,103,104,105] .leaf))) .leaf))))))
theorem call32 (a:Option Addr) (K:Value→World→Prop) (w:World) (h:B32 a K w):Gets Tryz.prog 32 #[.pointer a] w K:=cq (sk:=sk32) Tryz.func32 (by kernel_rfl) (by kernel_rfl) (by kernel_rfl) h
end Go.Proofs.YtflgboncpbmikaaGreatDoor

/- Words of 64 bits: the highest bit. No condition. -/
namespace Go.VC
set_option linter.unusedVariables false
set_option linter.unusedSimpArgs false
theorem and_top {x:Nat} (h:x<18446744073709551616):x &&& 9223372036854775808=if x<9223372036854775808 then 0 else 9223372036854775808:=by
 have e:(9223372036854775808:Nat)=2 ^ 63:=by decide
 apply Nat.eq_of_testBit_eq
 intro i
 rw [Nat.testBit_and]
 by_cases hi:63=i
 ·subst hi
  have h1:x.testBit 63=decide (¬ x<9223372036854775808):=by
   rw [Nat.testBit_eq_decide_div_mod_eq,←e]
   exact decide_eq_decide.2 (by omega)
  have h2:Nat.testBit 9223372036854775808 63=true:=by rw [e,Nat.testBit_two_pow];simp
  rw [h1,h2]
  split
  ·rw [decide_eq_false (by omega)];simp
  ·rw [decide_eq_true (by assumption)];simp [h2]
 ·have h2:Nat.testBit 9223372036854775808 i=false:=by rw [e,Nat.testBit_two_pow];simp [hi]
  rw [h2]
  split<;>simp [h2]
theorem or_top {x:Nat} (h:x<9223372036854775808):x|||9223372036854775808=x + 9223372036854775808:=by
 have:=Nat.two_pow_add_eq_or_of_lt (i:=63) (b:=x) (by simpa using h) 1
 rw [Nat.or_comm]
 simp only [Nat.mul_one] at this
 have e:(2:Nat) ^ 63=9223372036854775808:=by decide
 rw [e] at this
 omega
theorem not_u64 {x:Nat} (h:x<18446744073709551616):IntKind.u64.wrap ((BitVec.ofInt IntKind.u64.bits (if IntKind.u64.signed=true then -1 else IntKind.u64.max) ^^^ BitVec.ofInt IntKind.u64.bits (x:Int)).toNat:Int)=((18446744073709551615 - x:Nat):Int):=by
 have e1:BitVec.ofInt IntKind.u64.bits (if IntKind.u64.signed=true then -1 else IntKind.u64.max)=BitVec.allOnes 64:=by
  show BitVec.ofInt 64 18446744073709551615=BitVec.allOnes 64
  decide
 have e2:(BitVec.ofInt 64 (x:Int)).toNat=x:=bv_toNat 64 x (by simpa using h)
 rw [e1]
 show IntKind.u64.wrap (((BitVec.allOnes 64 ^^^ BitVec.ofInt 64 (x:Int)).toNat:Nat):Int)=_
 rw [BitVec.xor_comm,BitVec.xor_allOnes,BitVec.toNat_not,e2]
 have e3:(2:Nat) ^ 64 - 1 - x=18446744073709551615 - x:=by
  have:(2:Nat) ^ 64=18446744073709551616:=by decide
  rw [this]
 rw [e3]
 exact wrapU64 (by omega) (by omega)
theorem andnot_top {k:Nat} (h:k<18446744073709551616) (h1:9223372036854775808≤k):bitI .andNot .u64 (k:Int) 9223372036854775808=((k - 9223372036854775808:Nat):Int):=by
 have e1:(BitVec.ofInt 64 (k:Int)).toNat=k:=bv_toNat 64 k (by simpa using h)
 have e2:(BitVec.ofInt 64 9223372036854775808).toNat=9223372036854775808:=by decide
 have e3:(BitVec.ofInt 64 (k:Int) &&& ~~~ BitVec.ofInt 64 9223372036854775808).toNat=k - 9223372036854775808:=by
  rw [BitVec.toNat_and,BitVec.toNat_not,e1,e2]
  have e4:(2:Nat) ^ 64 - 1 - 9223372036854775808=2 ^ 63 - 1:=by decide
  rw [e4,Nat.and_two_pow_sub_one_eq_mod]
  have e5:(2:Nat) ^ 63=9223372036854775808:=by decide
  rw [e5]
  omega
 show IntKind.u64.wrap (((BitVec.ofInt 64 (k:Int) &&& ~~~ BitVec.ofInt 64 9223372036854775808).toNat:Nat):Int)=_
 rw [e3]
 exact wrapU64 (by omega) (by omega)
end Go.VC
/- Packages fare, cmp: floats in order, their places. Condition: words. -/
namespace Go.Proofs.YtflgboncpbmikaaGreatDoor
set_option linter.unusedVariables false
set_option linter.unusedSimpArgs false
open Go Go.VC Ieee
variable {R:Cx} {Hs Rest:List HP} {w:World}
theorem fb_name : (Tryz.f134.name == "runtime.NumGoroutine") = false := by kernel_rfl
theorem fb_body:Tryz.f134.body.isNone=true:=by kernel_rfl
theorem fb_next:Extern.findNext Tryz.f134=none:=by kernel_rfl
theorem fb_find:Extern.find Tryz.f134=some Extern.MathFloatBits.float64bits:=by kernel_rfl
theorem ff_name : (Tryz.f135.name == "runtime.NumGoroutine") = false := by kernel_rfl
theorem ff_body:Tryz.f135.body.isNone=true:=by kernel_rfl
theorem ff_next:Extern.findNext Tryz.f135=none:=by kernel_rfl
theorem ff_find:Extern.find Tryz.f135=some Extern.MathFloatBits.float64frombits:=by kernel_rfl
theorem bits_run (x:Nat) (w:World):(callFunc 134 #[.float .f64 x]).run Tryz.prog w=.ok (.value (.int .u64 x)) w:=by
 rw [run_callFunc_extern Tryz.func134 fb_name fb_body fb_next fb_find]
 rfl
theorem from_run (n:Nat) (w:World):(callFunc 135 #[.int .u64 n]).run Tryz.prog w=.ok (.value (.float .f64 n)) w:=by
 rw [run_callFunc_extern Tryz.func135 ff_name ff_body ff_next ff_find]
 rfl
theorem key_spec {x:Nat} (hx:x<18446744073709551616) (hw:Sat R Hs w):Gets Tryz.prog 96 #[.float .f64 x] w fun v w'=>v=.int .u64 (keyF x:Nat)∧Sat R Hs w':=by
 apply call96
 refine ⟨_,w,bits_run x w,_,rfl,?_⟩
 have e1:bitI BinOp.and IntKind.u64 (x:Int) 9223372036854775808=((x &&& 9223372036854775808:Nat):Int):=andU64 (y:=9223372036854775808) hx (by decide)
 have e2:bitI BinOp.or IntKind.u64 (x:Int) 9223372036854775808=((x|||9223372036854775808:Nat):Int):=orU64 (y:=9223372036854775808) hx (by decide)
 rw [e1,e2,and_top hx]
 refine Br.mk (fun h=>⟨?_,hw⟩) (fun h=>⟨?_,hw⟩)
 ·rw [not_u64 hx]
  unfold keyF
  split at h
  ·simp at h
  ·rename_i h1;rw [if_neg h1]
 ·split at h
  ·rename_i h1
   rw [or_top h1]
   unfold keyF
   rw [if_pos h1]
  ·simp at h
theorem of_spec {k:Nat} (hk:k<18446744073709551616) (hw:Sat R Hs w):Gets Tryz.prog 98 #[.int .u64 k] w fun v w'=>v=.float .f64 (ofF k)∧Sat R Hs w':=by
 apply call98
 have e1:bitI BinOp.and IntKind.u64 (k:Int) 9223372036854775808=((k &&& 9223372036854775808:Nat):Int):=andU64 (y:=9223372036854775808) hk (by decide)
 unfold B98
 rw [e1,and_top hk]
 refine Br.mk (fun h=>?_) (fun h=>?_)
 ·rw [not_u64 hk]
  refine ⟨_,w,from_run _ w,_,rfl,?_,hw⟩
  unfold ofF
  split at h
  ·rename_i h1;rw [if_neg (by omega)]
  ·simp at h
 ·have h1:¬ k<9223372036854775808:=by
   intro h1
   rw [if_pos h1] at h
   simp at h
  have e2:=andnot_top hk (by omega)
  rw [e2]
  refine ⟨_,w,from_run _ w,_,rfl,?_,hw⟩
  unfold ofF
  rw [if_pos (by omega)]
theorem cmpF_lt (t1 t2:Operand) (T:TypeId) (x y:Nat) (w:World):((do eqGuard BinOp.lss T t1 t2 (.float .f64 x) (.float .f64 y);binOp BinOp.lss T (.float .f64 x) (.float .f64 y):Sem Value)).run Tryz.prog w=.ok (.bool (double.order x y==some .lt)) w:=by
 simp [eqGuard,binOp,Op.floatCmp,FloatKind.format]
theorem nan_spec {x:Nat} (hw:Sat R Hs w):Gets Tryz.prog 179 #[.float .f64 x] w fun v w'=>v=.bool (nanF x)∧Sat R Hs w':=by
 apply call179
 refine ⟨_,fun w' _=>cmp_ne _ _ _ _ _ w',?_,hw⟩
 have h:=ord_self x
 rw [bne,h,Bool.not_not]
theorem compareF_spec {x y:Nat} (hw:Sat R Hs w):Gets Tryz.prog 168 #[.float .f64 x,.float .f64 y] w fun v w'=>v=.int .i64 (rankF x y)∧Sat R Hs w':=by
 apply call168
 refine (nan_spec hw).use ?_
 clear hw
 rintro _ w ⟨rfl,hw⟩
 refine ⟨_,rfl,?_⟩
 refine (nan_spec hw).use ?_
 clear hw
 rintro _ w ⟨rfl,hw⟩
 refine ⟨_,rfl,?_⟩
 unfold rankF
 refine Br.mk (fun hx=>?_) (fun hx=>?_)
 ·refine Br.mk (fun hy=>⟨?_,hw⟩) (fun hy=>⟨?_,hw⟩)
  ·rw [kv_nan hx,kv_nan hy,if_neg (by omega),if_pos rfl]
  ·have:=kv_bd hy
   rw [kv_nan hx,if_pos (by omega)]
 ·refine Br.mk (fun hy=>⟨?_,hw⟩) (fun hy=>?_)
  ·have:=kv_bd hx
   rw [kv_nan hy,if_neg (by omega),if_neg (by omega)]
  ·obtain ⟨o1,o2,o3⟩:=ord_lt hx hy
   refine ⟨_,fun w' _=>cmpF_lt _ _ _ _ _ w',?_⟩
   rw [o1]
   refine Br.d (fun h=>⟨by rw [if_pos h],hw⟩) (fun h=>?_)
   refine ⟨_,fun w' _=>cmp_gt _ _ _ _ _ w',?_⟩
   rw [o3]
   refine Br.d (fun h2=>⟨by rw [if_neg h,if_neg (by omega)],hw⟩) (fun h2=>⟨by rw [if_neg h,if_pos (by omega)],hw⟩)
theorem rank_spec {x y:Nat} (hw:Sat R Hs w):Gets Tryz.prog 147 #[.float .f64 x,.float .f64 y] w fun v w'=>v=.int .i64 (rankF x y)∧Sat R Hs w':=by
 apply call147
 refine (compareF_spec hw).use ?_
 rintro _ w ⟨rfl,hw⟩
 exact ⟨_,rfl,rfl,hw⟩
def cmpI (x y:Int):Int:=if x<y then -1 else if y<x then 1 else 0
theorem compareI_spec {x y:Int} (hw:Sat R Hs w):Gets Tryz.prog 148 #[.int .i64 x,.int .i64 y] w fun v w'=>v=.int .i64 (cmpI x y)∧Sat R Hs w':=by
 apply call148
 have nan:∀ {z:Int} {w:World},Sat R Hs w→Gets Tryz.prog 165 #[.int .i64 z] w fun v w'=>v=.bool false∧Sat R Hs w':=fun {z w} hw=>by
  apply call165
  exact ⟨by simp,hw⟩
 refine (nan hw).use ?_
 clear hw
 rintro _ w ⟨rfl,hw⟩
 refine ⟨_,rfl,?_⟩
 refine (nan hw).use ?_
 clear hw
 rintro _ w ⟨rfl,hw⟩
 refine ⟨_,rfl,Br.f rfl (Br.f rfl ?_)⟩
 unfold cmpI
 refine Br.d (fun h=>⟨by rw [if_pos h],hw⟩) (fun h=>Br.d (fun h2=>⟨by rw [if_neg h,if_pos (by omega)],hw⟩) (fun h2=>⟨by rw [if_neg h,if_neg (by omega)],hw⟩))
end Go.Proofs.YtflgboncpbmikaaGreatDoor
/- Package booking: a writer. Condition: bounds on lengths. -/
namespace Go.Proofs.YtflgboncpbmikaaGreatDoor
set_option linter.unusedVariables false
set_option linter.unusedSimpArgs false
open Go Go.VC
variable {R:Cx} {Hs Rest:List HP} {w:World}
abbrev wrp (p:Nat) (s:Sl):HP:=pts p (.cells [.slice s.a s.len s.cap].toArray 113 (0,0))
def WrB (p:Nat) (bs:List Int):HP:=exs fun s:Sl=>Star [wrp p s,Own s 5 (b8 bs)]
theorem Sat.wrB {p:Nat} {bs:List Int}:Sat R (WrB p bs::Hs) w↔∃ s:Sl,Sat R (wrp p s::Own s 5 (b8 bs)::Hs) w:=by
 unfold WrB
 rw [Sat.exs]
 exact ⟨fun ⟨s,h⟩=>⟨s,Sat.star.1 h⟩,fun ⟨s,h⟩=>⟨s,Sat.star.2 h⟩⟩
theorem nn_bd {n:Int} (h:n<9223372036854775808):0≤nn n∧nn n<9223372036854775808:=by unfold nn;omega
theorem nn_if (n:Int):(if 0>n then 0 else n)=nn n:=by unfold nn;split<;>omega
theorem wnums_spec {p:Nat} {s:Sl} {xs bs:List Int} (hxs:∀ x∈xs,x<9223372036854775808) (hl:bs.length + 9 * xs.length≤1099511627776) (hs:RoI R s xs) (hw:Sat R (WrB p bs::Hs) w):
  Gets Tryz.prog 56 #[.pointer (some ⟨p,0,none⟩),.slice s.a s.len s.cap] w fun v w'=>v=.tuple #[]∧Sat R (WrB p (bs++numsB (xs.map nn))::Hs) w':=by
 have hlen:=hs.len
 apply call56
 refine ⟨fun i w=>∃ k:Nat,i=k∧k≤xs.length∧Sat R (WrB p (bs++numsB ((xs.take k).map nn))::Hs) w,fun i _=>xs.length - i.toNat,⟨0,rfl,by omega,by simpa [numsB] using hw⟩,?_⟩
 clear hw
 rintro _ _ w ⟨k,rfl,hk,hw⟩
 refine Br.d (fun h=>?_) (fun h=>?_)
 ·have hkx:k<xs.length:=by omega
  have hx:=nn_bd (hxs xs[k] (List.getElem_mem _))
  have hxt:∀ x∈(xs.take k).map nn,0≤x∧x<18446744073709551616:=fun x hx=>by
   obtain ⟨y,hy,rfl⟩:=List.mem_map.1 hx
   have:=nn_bd (hxs y (List.mem_of_mem_take hy));omega
  have hnl:=numsB_len hxt
  rw [List.length_map,List.length_take] at hnl
  refine Ro.ix hs (eqS hw) k rfl hkx ?_
  obtain ⟨s0,hw⟩:=Sat.wrB.1 hw
  refine drw_ruleT hw fun w hw=>?_
  refine NilP.mk rfl ⟨s0,At.own selfS (by exact ⟨rfl,trivial⟩),?_⟩
  rw [nn_if]
  obtain ⟨n,hn⟩:=Int.eq_ofNat_of_zero_le hx.1
  rw [hn,wrapU64 (by omega) (by omega)]
  refine (number_spec (by omega) hw).use ?_
  rintro _ w ⟨t,rfl,hw⟩
  refine ⟨t,rfl,hw.absorb,?_⟩
  have hw:Sat R (Own s0 5 (b8 (bs++numsB ((xs.take k).map nn)))::Own t 5 (b8 (numB n))::wrp p s0::VC.tru::Hs) w:=hw.arr
  have hnb:=numB_len (n:=n) (by omega)
  refine appendOO elB8 (s:=s0) (n:=1099511627790) Tryz.underlying22 hw (by rw [List.length_append];omega) (by omega) (by omega) fun s2 w hw=>?_
  have hw:Sat R (wrp p s0::Own s2 5 (b8 (bs++numsB ((xs.take k).map nn)++numB n))::Hs) w:=by
   have h:Sat R (Own t 5 (b8 (numB n))::VC.tru::wrp p s0::Own s2 5 (b8 (bs++numsB ((xs.take k).map nn)++numB n))::Hs) w:=hw.arr
   exact h.drop.drop
  refine NilP.mk rfl ?_
  refine store_rule hw (by kernel_rfl) rfl (by simp [Value.cells]) fun w hw=>?_
  have hw:=hw.re (wrp p s2)
  rw [wrap64 (by omega) (by omega)]
  refine ⟨⟨k + 1,by omega,by omega,Sat.wrB.2 ⟨s2,?_⟩⟩,by dsimp only;omega⟩
  have e:(xs.take (k + 1)).map nn=(xs.take k).map nn++[nn xs[k]]:=by rw [List.take_add_one,List.getElem?_eq_getElem hkx,List.map_append];rfl
  rw [e,numsB_app,show numsB [nn xs[k]]=numB (nn xs[k]).toNat by simp [numsB],hn,Int.toNat_natCast,←List.append_assoc]
  exact hw
 ·have:k=xs.length:=by omega
  subst this
  rw [List.take_length] at hw
  exact ⟨rfl,hw⟩
theorem wtext_spec {p:Nat} {s:Sl} {d bs:List Int} (hl:bs.length + d.length≤1099511627776) (hd:d.length≤1099511627776) (hs:Ro R s (b8 d)) (hw:Sat R (WrB p bs::Hs) w):
  Gets Tryz.prog 58 #[.pointer (some ⟨p,0,none⟩),.slice s.a s.len s.cap] w fun v w'=>v=.tuple #[]∧Sat R (WrB p (bs++textB d)::Hs) w':=by
 apply call58
 obtain ⟨s0,hw⟩:=Sat.wrB.1 hw
 refine drw_ruleT hw fun w hw=>?_
 refine NilP.mk rfl ⟨s0,At.own selfS (by exact ⟨rfl,trivial⟩),?_⟩
 refine (ftext_spec hs hd hw).use ?_
 rintro _ w ⟨t,rfl,hw⟩
 refine ⟨t,rfl,hw.absorb,?_⟩
 have hw:Sat R (Own s0 5 (b8 bs)::Own t 5 (b8 (textB d))::wrp p s0::VC.tru::Hs) w:=hw.arr
 have hnb:=numB_len (n:=d.length) (by omega)
 have htl:(textB d).length≤d.length + 9:=by unfold textB;rw [List.length_append];omega
 refine appendOO elB8 (s:=s0) (n:=1099511627800) Tryz.underlying22 hw (by omega) (by omega) (by omega) fun s2 w hw=>?_
 have hw:Sat R (wrp p s0::Own s2 5 (b8 (bs++textB d))::Hs) w:=by
  have h:Sat R (Own t 5 (b8 (textB d))::VC.tru::wrp p s0::Own s2 5 (b8 (bs++textB d))::Hs) w:=hw.arr
  exact h.drop.drop
 refine NilP.mk rfl ?_
 refine store_rule hw (by kernel_rfl) rfl (by simp [Value.cells]) fun w hw=>?_
 have hw:=hw.re (wrp p s2)
 exact ⟨rfl,Sat.wrB.2 ⟨s2,hw⟩⟩
end Go.Proofs.YtflgboncpbmikaaGreatDoor
/- Package booking: whether a command may be. Condition: bounds on lengths. -/
namespace Go.Proofs.YtflgboncpbmikaaGreatDoor
set_option linter.unusedVariables false
set_option linter.unusedSimpArgs false
open Go Go.VC
open Classical
variable {R:Cx} {Hs Rest:List HP} {w:World}
abbrev cmV (c:Cm) (sg sp:Sl):List Value:=[.int .i64 c.kind,.string c.pnr,.int .i64 c.flt,.int .i64 c.cls,.int .i64 c.many,.int .i64 c.time,.float .f64 c.sc,.string c.lab,.int .i64 c.rows,.slice sg.a sg.len sg.cap,.slice sp.a sp.len sp.cap]
abbrev cmC (b:Nat) (c:Cm) (sg sp:Sl):HP:=pts b (.cells (cmV c sg sp).toArray 96 (0,0))
theorem right_iff {c:Cm}:RightC c↔(∀ n∈[c.flt,c.cls,c.many,c.rows]++c.grps,numOk n)∧(c.pnr.size≤16∧c.lab.size≤16)∧(c.grps.length≤16∧c.parts.length≤16)∧1≤c.kind∧c.kind≤9∧0≤c.time∧c.time≤1099511627776:=by
 constructor
 ·intro h
  refine ⟨fun n hn=>?_,⟨h.pnr,h.lab⟩,⟨h.gl,h.pl⟩,h.kind.1,h.kind.2,h.time.1,h.time.2⟩
  simp only [List.cons_append,List.nil_append,List.mem_cons] at hn
  rcases hn with rfl|rfl|rfl|rfl|hn
  ·exact h.flt
  ·exact h.cls
  ·exact h.many
  ·exact h.rows
  ·exact h.grps n hn
 ·rintro ⟨h1,⟨h2,h3⟩,⟨h4,h5⟩,h6,h7,h8,h9⟩
  exact ⟨h1 _ (by simp),h1 _ (by simp),h1 _ (by simp),h1 _ (by simp),fun n hn=>h1 n (by simp [hn]),h2,h3,h4,h5,⟨h6,h7⟩,h8,h9⟩
theorem bodd_spec {n:Int}:Gets Tryz.prog 73 #[.int .i64 n] w fun v w'=>v=.bool (decide (n<0∨n>9999))∧w'=w:=by
 apply call73
 refine Br.d (fun h=>⟨by rw [decide_eq_true (by omega)],rfl⟩) (fun h=>⟨?_,rfl⟩)
 congr 1
 exact decide_eq_decide.2 (by omega)
set_option maxHeartbeats 400000 in
theorem bright_spec {c:Cm} {sg sp:Sl} (hg:RoI R sg c.grps) (hgl:c.grps.length≤17592186043904) (hp:sp.len=c.parts.length) (hw:Sat R Hs w):
  Gets Tryz.prog 46 #[.agg #[.int .i64 c.kind,.string c.pnr,.int .i64 c.flt,.int .i64 c.cls,.int .i64 c.many,.int .i64 c.time,.float .f64 c.sc,.string c.lab,.int .i64 c.rows,.slice sg.a sg.len sg.cap,.slice sp.a sp.len sp.cap]] w fun v w'=>v=.bool (decide (RightC c))∧Sat R Hs w':=by
 have hglen:=hg.len
 apply call46
 refine new_rule hw fun b w hw=>?_
 have hw:Sat R (cmC b c sg sp::Hs) w:=hw
 repeat (first|refine NilP.mk rfl ?_|refine ⟨_,At.own selfS (by exact ⟨rfl,trivial⟩),?_⟩|refine ⟨_,At.own (eqS hw) (by exact ⟨rfl,trivial⟩),?_⟩|refine ⟨_,(by rw [add_off];exact At.own selfS (by exact ⟨rfl,trivial⟩)),?_⟩|refine ⟨_,(by rw [add_off];exact At.own (eqS hw) (by exact ⟨rfl,trivial⟩)),?_⟩)
 refine new_rule hw fun b2 w hw=>?_
 have hw:Sat R (Own ⟨some ⟨b2,0,none⟩,4,4⟩ 3 (intsI [c.flt,c.cls,c.many,c.rows])::cmC b c sg sp::Hs) w:=own_lit hw
 refine ⟨sg,At.own (eqS hw) (by exact ⟨rfl,trivial⟩),?_⟩
 refine appendRI (n:=17592186044416) (s:=⟨some ⟨b2,0,none⟩,4,4⟩) (ty:=68) elI8 Tryz.underlying68 hw hg (by simp;omega) (by omega) (by omega) fun t w hw=>?_
 obtain ⟨L,hL⟩:∃ L,L=[c.flt,c.cls,c.many,c.rows]++c.grps:=⟨_,rfl⟩
 have hLl:L.length=4 + c.grps.length:=by rw [hL];simp;omega
 rw [←hL] at hw
 have htl:t.len=L.length:=by have:=Own.len hw;simpa using this
 refine ⟨fun i w=>∃ k:Nat,i=k∧k≤L.length∧(∀ n∈L.take k,numOk n)∧Sat R (Own t 3 (intsI L)::cmC b c sg sp::Hs) w,fun i _=>L.length - i.toNat,⟨0,rfl,by omega,by simp,hw⟩,?_⟩
 clear hw
 rintro _ _ w ⟨k,rfl,hk,hok,hw⟩
 have no:¬ RightC c→∀ {w},Sat R (Own t 3 (intsI L)::cmC b c sg sp::Hs) w→(Value.bool false=.bool (decide (RightC c))∧Sat R Hs w):=fun h w hw=>⟨by rw [decide_eq_false h],hw.drop.drop⟩
 refine Br.d (fun h=>?_) (fun h=>?_)
 ·have hkx:k<L.length:=by omega
  refine Own.ix hw (eqS hw) k rfl hkx ?_
  refine bodd_spec.use ?_
  rintro _ w2 ⟨rfl,rfl⟩
  refine ⟨_,rfl,Br.mk (fun h2=>no (fun hr=>?_) hw) (fun h2=>?_)⟩
  ·have h3:=(right_iff.1 hr).1 L[k] (by rw [←hL];exact List.getElem_mem hkx)
   have h4:=of_decide_eq_true h2
   unfold numOk at h3
   omega
  ·rw [wrap64 (by omega) (by omega)]
   refine ⟨⟨k + 1,by omega,by omega,fun n hn=>?_,hw⟩,by dsimp only;omega⟩
   rw [List.take_add_one,List.getElem?_eq_getElem hkx] at hn
   rcases List.mem_append.1 hn with hn|hn
   ·exact hok n hn
   ·rw [show n=L[k] by simpa using hn]
    have h4:=of_decide_eq_false h2
    unfold numOk
    omega
 ·have hall:∀ n∈L,numOk n:=by rw [List.take_of_length_le (by omega)] at hok;exact hok
  refine ⟨fun t6 w=>t6=decide (c.pnr.size≤16∧c.lab.size≤16)∧Sat R (Own t 3 (intsI L)::cmC b c sg sp::Hs) w,⟨c.pnr,At.own (eqS hw) (by exact ⟨rfl,trivial⟩),Br.d (fun h=>?_) (fun h=>?_)⟩,?_⟩
  ·refine ⟨c.lab,At.own (eqS hw) (by exact ⟨rfl,trivial⟩),?_,hw⟩
   exact decide_eq_decide.2 (by omega)
  ·exact ⟨by rw [decide_eq_false (by omega)],hw⟩
  clear hw
  rintro _ _ w ⟨rfl,hw⟩
  refine ⟨fun t7 w=>t7=decide (c.grps.length≤16∧c.parts.length≤16)∧Sat R (Own t 3 (intsI L)::cmC b c sg sp::Hs) w,⟨sg,At.own (eqS hw) (by exact ⟨rfl,trivial⟩),Br.d (fun h=>?_) (fun h=>?_)⟩,?_⟩
  ·refine ⟨sp,At.own (eqS hw) (by exact ⟨rfl,trivial⟩),?_,hw⟩
   exact decide_eq_decide.2 (by omega)
  ·exact ⟨by rw [decide_eq_false (by omega)],hw⟩
  clear hw
  rintro _ _ w ⟨rfl,hw⟩
  have no2:¬ RightC c→(Value.bool false=.bool (decide (RightC c))∧Sat R Hs w):=fun h=>no h hw
  refine Br.d (fun h1=>?_) (fun h1=>no2 fun hr=>h1 (right_iff.1 hr).2.1)
  refine Br.d (fun h2=>?_) (fun h2=>no2 fun hr=>h2 (right_iff.1 hr).2.2.1)
  refine ⟨c.kind,At.own (eqS hw) (by exact ⟨rfl,trivial⟩),Br.d (fun h3=>?_) (fun h3=>no2 fun hr=>h3 (right_iff.1 hr).2.2.2.1)⟩
  refine ⟨c.kind,At.own (eqS hw) (by exact ⟨rfl,trivial⟩),Br.d (fun h4=>?_) (fun h4=>no2 fun hr=>h4 (right_iff.1 hr).2.2.2.2.1)⟩
  refine ⟨c.time,At.own (eqS hw) (by exact ⟨rfl,trivial⟩),Br.d (fun h5=>?_) (fun h5=>no2 fun hr=>h5 (right_iff.1 hr).2.2.2.2.2.1)⟩
  refine ⟨c.time,At.own (eqS hw) (by exact ⟨rfl,trivial⟩),?_,hw.drop.drop⟩
  congr 1
  refine decide_eq_decide.2 ?_
  rw [right_iff,←hL]
  exact ⟨fun h6=>⟨hall,h1,h2,h3,h4,h5,h6⟩,fun h6=>h6.2.2.2.2.2.2⟩
end Go.Proofs.YtflgboncpbmikaaGreatDoor
/- Package booking: a writer's steps, as Encode and Answer take them. Condition: bounds on lengths. -/
namespace Go.Proofs.YtflgboncpbmikaaGreatDoor
set_option linter.unusedVariables false
set_option linter.unusedSimpArgs false
open Go Go.VC
variable {R:Cx} {Hs Rest:List HP} {w:World}
theorem wlit_spec {p b n:Nat} {xs bs:List Int} (hn:n=xs.length) (hxs:∀ x∈xs,x<9223372036854775808) (hl:bs.length + 9 * xs.length≤1099511627776) (hw:Sat R (pts b (.cells (intsI xs).toArray 3 (0,0))::WrB p bs::Hs) w):
  Gets Tryz.prog 56 #[.pointer (some ⟨p,0,none⟩),.slice (some ⟨b,0,none⟩) n n] w fun v w'=>v=.tuple #[]∧Sat R (WrB p (bs++numsB (xs.map nn))::Hs) w':=by
 have hw:Sat R (Own ⟨some ⟨b,0,none⟩,n,n⟩ 3 (intsI xs)::WrB p bs::Hs) w:=own_lit hw (by rw [List.length_map];exact hn)
 obtain ⟨R',hr,_,hw,back⟩:=Own.lendI hw (by omega)
 refine (wnums_spec hxs hl hr hw).use ?_
 rintro _ w ⟨rfl,hw⟩
 exact ⟨_,rfl,rfl,(back hw).drop⟩
theorem wstr_rule {p:Nat} {s:ByteArray} {bs:List Int} {K:World→Prop} (hl:bs.length + s.size≤1099511627776) (hw:Sat R (WrB p bs::Hs) w) (k:∀ w',Sat R (WrB p (bs++strB s)::Hs) w'→K w'):
  ∃ w_1:World,∃ t:Sl,((convert 9 22 (.string s)).run Tryz.prog w=.ok (.slice t.a t.len t.cap) w_1)∧
   Calls Tryz.prog 58 #[.pointer (some ⟨p,0,none⟩),.slice t.a t.len t.cap] w_1 fun e w_2=>(e=.returned (.tuple #[]))∧K w_2:=by
 refine convB_rule Tryz.underlying9 Tryz.underlying22 Tryz.underlying5 hw fun t w hw=>?_
 have hsz:=bytesL_len s
 obtain ⟨R',hr,_,hw,back⟩:=Own.lend hw (by rw [List.length_map];omega)
 refine (wtext_spec (by omega) (by omega) hr hw).use ?_
 rintro _ w ⟨rfl,hw⟩
 exact ⟨rfl,k _ (back hw).drop⟩
end Go.Proofs.YtflgboncpbmikaaGreatDoor
/- Package booking: Encode. Condition: bounds on lengths; words. -/
namespace Go.Proofs.YtflgboncpbmikaaGreatDoor
set_option linter.unusedVariables false
set_option linter.unusedSimpArgs false
open Go Go.VC
open Classical
variable {R:Cx} {Hs Rest:List HP} {w:World}
theorem strB_len {s:ByteArray} (h:s.size≤100000):(strB s).length≤s.size + 9:=by
 have:=textB_len (d:=bytesL s) (by rw [bytesL_len];omega)
 rw [bytesL_len] at this
 exact this
theorem numsB_sp (a:Int) (l:List Int):numsB (a::l)=numsB [a]++numsB l:=numsB_one a l
theorem nn1 {a:Int} (h:0≤a):numsB ([a].map nn)=numsB [a]:=by
 show numsB [nn a]=_
 rw [nn_id h]
theorem wlist_spec {p:Nat} {s:Sl} {xs bs:List Int} (hxs:∀ x∈xs,x<9223372036854775808) (hx:xs.length≤100000) (hl:bs.length≤1000000) (hs:RoI R s xs) (hw:Sat R (WrB p bs::Hs) w):
  Gets Tryz.prog 72 #[.pointer (some ⟨p,0,none⟩),.slice s.a s.len s.cap] w fun v w'=>v=.tuple #[]∧Sat R (WrB p (bs++numsB [(xs.length:Int)]++numsB (xs.map nn))::Hs) w':=by
 have hlen:=hs.len
 have l1:=nums1_len (x:=(xs.length:Int)) (by omega)
 apply call72
 refine new_rule hw fun b w hw=>?_
 refine (wlit_spec (xs:=[(s.len:Int)]) rfl (by simp;omega) (by simp only [List.length_cons,List.length_nil];omega) hw).use ?_
 clear hw
 rintro _ w ⟨rfl,hw⟩
 refine ⟨rfl,?_⟩
 rw [nn1 (by omega),show ((s.len:Nat):Int)=(xs.length:Int) by omega] at hw
 refine (wnums_spec hxs (by simp only [List.length_append];omega) hs hw).use ?_
 rintro _ w ⟨rfl,hw⟩
 exact ⟨rfl,rfl,hw⟩
end Go.Proofs.YtflgboncpbmikaaGreatDoor
/- Package booking: Answer. Condition: bounds on lengths. -/
namespace Go.Proofs.YtflgboncpbmikaaGreatDoor
set_option linter.unusedVariables false
set_option linter.unusedSimpArgs false
open Go Go.VC
variable {R:Cx} {Hs Rest:List HP} {w:World}
theorem _root_.Go.VC.Ro.ixStr {xs:List ByteArray} {s:Sl} {S:World→Prop} {i:Int} (hr:Ro R s (xs.map Value.string)) (hS:∀ w,S w→Sat R Hs w) (j:Nat) (hi:i=j) (hj:j<xs.length) {F:ByteArray→Prop} (h:F xs[j]):
  Rng i s.len (NilP s.a fun a=>∃ t:ByteArray,(At S (a.add i.toNat) [.string t])∧F t):=by
 subst hi
 obtain ⟨a,ha,hat⟩:=hr.addr (k:=j) (by rw [List.length_map];exact hj)
 have hl:=hr.len
 rw [List.length_map] at hl
 exact Rng.mk (by omega) (by omega) (NilP.mk ha ⟨_,by have:=hat hS;rw [List.getElem_map] at this;exact this,h⟩)
abbrev rpV (r:Rp) (sl sb:Sl):List Value:=[.int .i64 r.code,.string r.pnr,.int .i64 r.state,.int .i64 r.flt,.int .i64 r.cls,.int .i64 r.many,.int .i64 r.time,.slice sl.a sl.len sl.cap,.slice sb.a sb.len sb.cap]
abbrev rpC (b:Nat) (r:Rp) (sl sb:Sl):HP:=pts b (.cells (rpV r sl sb).toArray 102 (0,0))
structure RpW (r:Rp):Prop where
 ints:∀ x∈[r.code,r.state,r.flt,r.cls,r.many,r.time]++r.left,x<9223372036854775808
 pnr:r.pnr.size≤100000
 ll:r.left.length≤100000
 bl:r.labs.length≤100000
 labs:∀ s∈r.labs,s.size≤100000
theorem nn5 {a b c d e:Int}:numsB ([a,b,c,d,e].map nn)=numsB [nn a]++(numsB [nn b]++(numsB [nn c]++(numsB [nn d]++numsB [nn e]))):=by
 show numsB [nn a,nn b,nn c,nn d,nn e]=_
 rw [numsB_sp (nn a),numsB_sp (nn b),numsB_sp (nn c),numsB_sp (nn d)]
set_option maxHeartbeats 1000000 in
theorem banswer_spec {r:Rp} {sl sb:Sl} (hi:RpW r) (hg:RoI R sl r.left) (hp:SlR R.m sb (r.labs.map Value.string)) (hw:Sat R Hs w):
  Gets Tryz.prog 43 #[.agg #[.int .i64 r.code,.string r.pnr,.int .i64 r.state,.int .i64 r.flt,.int .i64 r.cls,.int .i64 r.many,.int .i64 r.time,.slice sl.a sl.len sl.cap,.slice sb.a sb.len sb.cap]] w fun v w'=>
   ∃ t:Sl,v=.slice t.a t.len t.cap∧Sat R (Own t 5 (b8 (rpB r))::Hs) w':=by
 have hplen:sb.len=r.labs.length:=by have:=hp.len;simpa using this
 have i1:=hi.ints
 have i2:=hi.pnr
 have i3:=hi.ll
 have i4:=hi.bl
 have q:∀ x∈[r.code,r.state,r.flt,r.cls,r.many,r.time]++r.left,0≤nn x∧nn x<18446744073709551616:=fun x hx=>by have:=nn_bd (i1 x hx);omega
 have l1:=nums1_len (q r.code (by simp))
 have l2:=strB_len (s:=r.pnr) i2
 have l3:=nums1_len (q r.state (by simp))
 have l4:=nums1_len (q r.flt (by simp))
 have l5:=nums1_len (q r.cls (by simp))
 have l6:=nums1_len (q r.many (by simp))
 have l7:=nums1_len (q r.time (by simp))
 have l10:=nums1_len (x:=(r.left.length:Int)) (by omega)
 have l11:=numsB_len (l:=r.left.map nn) fun y hy=>by obtain ⟨x,hx,rfl⟩:=List.mem_map.1 hy;exact q x (by simp [hx])
 rw [List.length_map] at l11
 have l12:=nums1_len (x:=(r.labs.length:Int)) (by omega)
 apply call43
 refine new_rule hw fun b w hw=>?_
 have hw:Sat R (rpC b r sl sb::Hs) w:=hw
 refine new_rule hw fun p w hw=>?_
 have hw:Sat R (WrB p []::rpC b r sl sb::Hs) w:=Sat.wrB.2 ⟨⟨none,0,0⟩,(Own.nil hw).swap⟩
 refine ⟨r.code,At.own (eqS hw) (by exact ⟨rfl,trivial⟩),?_⟩
 refine new_rule hw fun b15 w hw=>?_
 refine (wlit_spec (xs:=[r.code]) rfl (fun x hx=>i1 x (by rw [List.mem_singleton.1 hx];simp)) (by simp) hw).use ?_
 clear hw
 rintro _ w ⟨rfl,hw⟩
 refine ⟨rfl,?_⟩
 rw [show [r.code].map nn=[nn r.code] from rfl,List.nil_append] at hw
 refine ⟨r.pnr,At.own (eqS hw) (by exact ⟨rfl,trivial⟩),?_⟩
 refine wstr_rule (by omega) hw fun w hw=>?_
 refine ⟨r.state,At.own (eqS hw) (by exact ⟨rfl,trivial⟩),r.flt,At.own (eqS hw) (by exact ⟨rfl,trivial⟩),r.cls,At.own (eqS hw) (by exact ⟨rfl,trivial⟩),r.many,At.own (eqS hw) (by exact ⟨rfl,trivial⟩),r.time,At.own (eqS hw) (by exact ⟨rfl,trivial⟩),?_⟩
 refine new_rule hw fun b31 w hw=>?_
 refine (wlit_spec (xs:=[r.state,r.flt,r.cls,r.many,r.time]) rfl (fun x hx=>i1 x (by simp only [List.mem_cons,List.not_mem_nil,or_false] at hx;simp only [List.cons_append,List.mem_cons];rcases hx with h|h|h|h|h<;>simp [h])) (by simp only [List.length_append,List.length_cons,List.length_nil];omega) hw).use ?_
 clear hw
 rintro _ w ⟨rfl,hw⟩
 refine ⟨rfl,?_⟩
 rw [nn5] at hw
 refine ⟨sl,At.own (eqS hw) (by exact ⟨rfl,trivial⟩),?_⟩
 refine (wlist_spec (xs:=r.left) (fun y hy=>i1 y (by simp [hy])) i3 (by simp only [List.length_append];omega) hg hw).use ?_
 clear hw
 rintro _ w ⟨rfl,hw⟩
 refine ⟨rfl,?_⟩
 refine ⟨sb,At.own (eqS hw) (by exact ⟨rfl,trivial⟩),?_⟩
 refine new_rule hw fun b57 w hw=>?_
 refine (wlit_spec (xs:=[(sb.len:Int)]) rfl (by simp;omega) (by simp only [List.length_append,List.length_cons,List.length_nil];omega) hw).use ?_
 clear hw
 rintro _ w ⟨rfl,hw⟩
 refine ⟨rfl,?_⟩
 rw [nn1 (by omega),show ((sb.len:Nat):Int)=(r.labs.length:Int) by omega] at hw
 refine ⟨sb,At.own (eqS hw) (by exact ⟨rfl,trivial⟩),?_⟩
 obtain ⟨B,hBl,hB,hw⟩:∃ B:List Int,B.length≤2000000∧B++(r.labs.map strB).flatten=rpB r∧Sat R (WrB p B::rpC b r sl sb::Hs) w:=
  ⟨_,by simp only [List.length_append];omega,by unfold rpB;simp only [List.append_assoc],hw⟩
 refine ⟨fun i w=>∃ k:Nat,i=k∧k≤r.labs.length∧Sat R (WrB p (B++((r.labs.take k).map strB).flatten)::rpC b r sl sb::Hs) w,fun i _=>r.labs.length - i.toNat,⟨0,rfl,by omega,by simpa using hw⟩,?_⟩
 clear hw
 rintro _ _ w ⟨k,rfl,hk,hw⟩
 refine Br.d (fun h=>?_) (fun h=>?_)
 ·have hkx:k<r.labs.length:=by omega
  have hfl:=flat_len (l:=r.labs.take k) (code:=strB) (m:=100009) fun x hx=>by have:=hi.labs x (List.mem_of_mem_take hx);have:=strB_len this;omega
  rw [List.length_take] at hfl
  have hsk:=hi.labs _ (List.getElem_mem hkx)
  refine Ro.ixStr (hp.ro (by rw [List.length_map];omega)) (eqS hw) k rfl hkx ?_
  refine wstr_rule (by rw [List.length_append];omega) hw fun w hw=>?_
  rw [wrap64 (by omega) (by omega)]
  refine ⟨⟨k + 1,by omega,by omega,?_⟩,by dsimp only;omega⟩
  rw [List.take_add_one,List.getElem?_eq_getElem hkx,List.map_append,List.flatten_append,←List.append_assoc]
  simpa using hw
 ·rw [List.take_of_length_le (l:=r.labs) (by omega),hB] at hw
  obtain ⟨s,hw⟩:=Sat.wrB.1 hw
  refine ⟨s,At.own (eqS hw) (by exact ⟨rfl,trivial⟩),s,rfl,?_⟩
  exact (hw.drop.swap).drop
end Go.Proofs.YtflgboncpbmikaaGreatDoor
/- Package booking: a reader. Condition: bounds on lengths. -/
namespace Go.Proofs.YtflgboncpbmikaaGreatDoor
set_option linter.unusedVariables false
set_option linter.unusedSimpArgs false
open Go Go.VC
variable {R:Cx} {Hs Rest:List HP} {w:World}
theorem bnum_spec {r:Nat} {rd:Rd} {most:Int} (hb:Bytes rd.bs) (h0:0≤most) (h1:most<9223372036854775808) (hw:Sat R (RdAt r rd::Hs) w):
  Gets Tryz.prog 67 #[.agg #[.pointer (some ⟨r,0,none⟩)],.int .i64 most] w fun v w'=>v=.int .i64 (rdNum most rd).1∧Sat R (RdAt r (rdNum most rd).2::Hs) w':=by
 have hv:=rdNum_val hb h0
 apply call67
 refine new_rule hw fun b w hw=>?_
 refine ⟨_,At.own (eqS hw) (by exact ⟨rfl,trivial⟩),?_⟩
 rw [wrapU64 (by omega) (by omega)]
 refine (rnum_spec hb hw.drop).use ?_
 rintro _ w ⟨rfl,hw⟩
 refine ⟨_,rfl,?_,hw⟩
 rw [wrap64 (by omega) (by omega)]
theorem bstr_spec {r:Nat} {rd:Rd} {most:Int} (hb:Bytes rd.bs) (hl:rd.bs.length≤1099511627776) (h1:most<9223372036854775808) (hw:Sat R (RdAt r rd::Hs) w):
  Gets Tryz.prog 68 #[.agg #[.pointer (some ⟨r,0,none⟩)],.int .i64 most] w fun v w'=>v=.string (strRd most rd).1∧Sat R (RdAt r (strRd most rd).2::Hs) w':=by
 apply call68
 refine new_rule hw fun b w hw=>?_
 refine ⟨_,At.own (eqS hw) (by exact ⟨rfl,trivial⟩),?_⟩
 refine (rtext_spec h1 hl hb hw.drop).use ?_
 rintro _ w ⟨t,rfl,hw⟩
 have hlen:=rdText_len (most:=most) (rd:=rd)
 obtain ⟨R',hr,_,hw2,back⟩:=Own.lend hw (by rw [List.length_map];omega)
 refine ⟨t,rfl,VC.strOf (rdText most rd).1,fun w' e=>?_,rfl,hw.drop⟩
 rw [show w'=w from e]
 exact convS_ro Tryz.underlying22 Tryz.underlying5 Tryz.underlying9 hw2 hr
theorem bflt_spec {r:Nat} {rd:Rd} (hb:Bytes rd.bs) (hw:Sat R (RdAt r rd::Hs) w):
  Gets Tryz.prog 69 #[.agg #[.pointer (some ⟨r,0,none⟩)]] w fun v w'=>v=.float .f64 (fltRd rd).1∧Sat R (RdAt r (fltRd rd).2::Hs) w':=by
 have hv:=rdNum_val (most:=18446744073709551615) hb (by omega)
 apply call69
 refine new_rule hw fun b w hw=>?_
 refine ⟨_,At.own (eqS hw) (by exact ⟨rfl,trivial⟩),?_⟩
 refine (rnum_spec hb hw.drop).use ?_
 rintro _ w ⟨rfl,hw⟩
 refine ⟨_,rfl,?_⟩
 obtain ⟨n,hn⟩:=Int.eq_ofNat_of_zero_le hv.1
 rw [hn]
 refine (of_spec (k:=n) (by omega) hw).use ?_
 rintro _ w ⟨rfl,hw⟩
 refine ⟨_,rfl,?_,hw⟩
 show _=Value.float .f64 (ofF (rdNum 18446744073709551615 rd).1.toNat)
 rw [hn,Int.toNat_natCast]
end Go.Proofs.YtflgboncpbmikaaGreatDoor
/- Package booking: so many things, one by one. Condition: bounds on lengths. -/
namespace Go.Proofs.YtflgboncpbmikaaGreatDoor
set_option linter.unusedVariables false
set_option linter.unusedSimpArgs false
open Go Go.VC
variable {R:Cx} {Hs Rest:List HP} {w:World}
theorem timesI_spec {r n:Nat} {rd:Rd} {f:Value} {one:Rd→Int × Rd} {I:Rd→Prop} (hI:∀ rd,I rd→I (one rd).2) (hn:n≤100000) (h0:I rd)
  (hone:∀ (T:HP) (rd:Rd) (w:World),I rd→Sat R (RdAt r rd::T::Hs) w→CalW Tryz.prog cl f [] w fun e w'=>e=.returned (.int .i64 (one rd).1)∧Sat R (RdAt r (one rd).2::T::Hs) w')
  (hw:Sat R (RdAt r rd::Hs) w):
  Gets Tryz.prog 70 #[.int .i64 n,f] w fun v w'=>∃ t:Sl,v=.slice t.a t.len t.cap∧Sat R (Own t 3 (intsI (rdEach one n rd).1)::RdAt r (rdEach one n rd).2::Hs) w':=by
 apply call70
 have inv:∀ k,I (rdEach one k rd).2:=fun k=>(rdEach_inv (one:=one) (P:=I) (Q:=fun _=>True) (fun r hr=>⟨trivial,hI r hr⟩) k h0).2
 refine ⟨fun out i w=>∃ k:Nat,i=k∧k≤n∧Sat R (Own out 3 (intsI (rdEach one k rd).1)::RdAt r (rdEach one k rd).2::Hs) w,fun _ i _=>n - i.toNat,⟨0,rfl,by omega,Own.nil hw⟩,?_⟩
 clear hw
 rintro _ out _ w ⟨k,rfl,hk,hw⟩
 refine Br.d (fun h=>?_) (fun h=>?_)
 ·refine (hone _ _ _ (inv k) hw.swap).mono ?_
  rintro _ w ⟨rfl,hw⟩
  refine ⟨_,rfl,?_⟩
  have hl:=rdEach_len one k rd
  refine pushI_rule elI8 hw.swap (by rw [hl];omega) fun out' w hw=>?_
  rw [wrap64 (by omega) (by omega)]
  refine ⟨⟨k + 1,by omega,by omega,?_⟩,by dsimp only;omega⟩
  rw [rdEach_snoc]
  exact hw
 ·have:k=n:=by omega
  subst this
  exact ⟨out,rfl,hw⟩
end Go.Proofs.YtflgboncpbmikaaGreatDoor
/- Package booking: so many texts, so many floats, one by one. Condition: bounds on lengths. -/
namespace Go.Proofs.YtflgboncpbmikaaGreatDoor
set_option linter.unusedVariables false
set_option linter.unusedSimpArgs false
open Go Go.VC
variable {R:Cx} {Hs Rest:List HP} {w:World}
theorem elFl:El Tryz.prog 94 94 91 8:=⟨Tryz.underlying94,⟨_,Tryz.underlying94⟩,by kernel_rfl⟩
theorem oneAll_fl (l:List Nat):oneAll (flts l)=true:=by unfold oneAll flts;simp [Value.oneCell']
theorem timesF_spec {r n:Nat} {rd:Rd} {f:Value} {one:Rd→Nat × Rd} {I:Rd→Prop} (hI:∀ rd,I rd→I (one rd).2) (hn:n≤100000) (h0:I rd)
  (hone:∀ (T:HP) (rd:Rd) (w:World),I rd→Sat R (RdAt r rd::T::Hs) w→CalW Tryz.prog cl f [] w fun e w'=>e=.returned (.float .f64 (one rd).1)∧Sat R (RdAt r (one rd).2::T::Hs) w')
  (hw:Sat R (RdAt r rd::Hs) w):
  Gets Tryz.prog 71 #[.int .i64 n,f] w fun v w'=>∃ t:Sl,v=.slice t.a t.len t.cap∧Sat R (Own t 91 (flts (rdEach one n rd).1)::RdAt r (rdEach one n rd).2::Hs) w':=by
 apply call71
 have inv:∀ k,I (rdEach one k rd).2:=fun k=>(rdEach_inv (one:=one) (P:=I) (Q:=fun _=>True) (fun r hr=>⟨trivial,hI r hr⟩) k h0).2
 refine ⟨fun out i w=>∃ k:Nat,i=k∧k≤n∧Sat R (Own out 91 (flts (rdEach one k rd).1)::RdAt r (rdEach one k rd).2::Hs) w,fun _ i _=>n - i.toNat,⟨0,rfl,by omega,Own.nil hw⟩,?_⟩
 clear hw
 rintro _ out _ w ⟨k,rfl,hk,hw⟩
 refine Br.d (fun h=>?_) (fun h=>?_)
 ·refine (hone _ _ _ (inv k) hw.swap).mono ?_
  rintro _ w ⟨rfl,hw⟩
  refine ⟨_,rfl,?_⟩
  have hl:=rdEach_len one k rd
  refine push_rule elFl hw.swap (oneAll_fl _) rfl (by rw [List.length_map,hl];omega) (by rw [List.length_map,hl];omega) fun out' w hw=>?_
  rw [wrap64 (by omega) (by omega)]
  refine ⟨⟨k + 1,by omega,by omega,?_⟩,by dsimp only;omega⟩
  rw [rdEach_snoc]
  simpa using hw
 ·have:k=n:=by omega
  subst this
  exact ⟨out,rfl,hw⟩
end Go.Proofs.YtflgboncpbmikaaGreatDoor


/- Package booking: Decode. Condition: bounds on lengths. -/
namespace Go.Proofs.YtflgboncpbmikaaGreatDoor
set_option linter.unusedVariables false
set_option linter.unusedSimpArgs false
open Go Go.VC
open Classical
variable {R:Cx} {Hs Rest:List HP} {w:World}
abbrev brC (b r:Nat):HP:=pts b (.cells [.pointer (some ⟨r,0,none⟩)].toArray 130 (0,0))
abbrev nilSl:Sl:=⟨none,0,0⟩
abbrev cmHead (k:Int) (p:ByteArray) (f c m t:Int):Cm:=⟨k,p,f,c,m,t,0,ByteArray.mk #[],0,[],[]⟩
abbrev cmNew (b:Nat):HP:=cmC b (cmHead 0 (ByteArray.mk #[]) 0 0 0 0) nilSl nilSl
theorem bdn_spec {b r:Nat} {rd:Rd} (hb:Bytes rd.bs) (hw:Sat R (RdAt r rd::brC b r::Hs) w):
  Gets Tryz.prog 66 #[.pointer (some ⟨b,0,none⟩)] w fun v w'=>v=.int .i64 (rdNum 9999 rd).1∧Sat R (RdAt r (rdNum 9999 rd).2::brC b r::Hs) w':=by
 apply call66
 have hw2:Sat R (brC b r::RdAt r rd::Hs) w:=hw.swap
 refine NilP.mk rfl ⟨some ⟨r,0,none⟩,At.own (eqS hw2) (by exact ⟨rfl,trivial⟩),?_⟩
 refine (bnum_spec (most:=9999) hb (by omega) (by omega) hw).use ?_
 rintro _ w ⟨rfl,hw⟩
 exact ⟨_,rfl,rfl,hw⟩
theorem tru2 {A B:HP} (hw:Sat R (A::B::Hs) w):Sat R [B,VC.tru] w:=hw.swap.restTru2
theorem tru3 {A B C:HP} (hw:Sat R (C::A::B::Hs) w):Sat R [B,VC.tru] w:=(hw.arr (Hs':=B::C::A::Hs)).restTru2
section
variable (S:World→Prop) (J:Option Addr→World→Prop) (b4 b:Nat) (r:Option Addr)
def dT6 (k:Int) (p:ByteArray) (f c m t:Int) (w:World):Prop:=
 ∃ w':World,((Instr.storeAt 96 (.pointer (some ⟨b,0,none⟩)) (.agg #[.int .i64 k,.string p,.int .i64 f,.int .i64 c,.int .i64 m,.int .i64 t,.float .f64 0,.string (ByteArray.mk #[]),.int .i64 0,.slice none 0 0,.slice none 0 0])).run Tryz.prog w=.ok () w')∧J (some ⟨b,0,none⟩) w'
def dT5 (k:Int) (p:ByteArray) (f c m:Int) (w:World):Prop:=
 Calls Tryz.prog 67 #[.agg #[.pointer r],.int .i64 1099511627776] w fun e w'=>∃ t:Int,(e=.returned (.int .i64 t))∧S w'∧dT6 J b k p f c m t w'
def dT4 (k:Int) (p:ByteArray) (f c:Int) (w:World):Prop:=
 Calls Tryz.prog 66 #[.pointer (some ⟨b4,0,none⟩)] w fun e w'=>∃ t:Int,(e=.returned (.int .i64 t))∧S w'∧dT5 S J b r k p f c t w'
def dT3 (k:Int) (p:ByteArray) (f:Int) (w:World):Prop:=
 Calls Tryz.prog 66 #[.pointer (some ⟨b4,0,none⟩)] w fun e w'=>∃ t:Int,(e=.returned (.int .i64 t))∧S w'∧dT4 S J b4 b r k p f t w'
def dT2 (k:Int) (p:ByteArray) (w:World):Prop:=
 Calls Tryz.prog 66 #[.pointer (some ⟨b4,0,none⟩)] w fun e w'=>∃ t:Int,(e=.returned (.int .i64 t))∧S w'∧dT3 S J b4 b r k p t w'
def dT1 (k:Int) (w:World):Prop:=
 Calls Tryz.prog 68 #[.agg #[.pointer r],.int .i64 16] w fun e w'=>∃ t:ByteArray,(e=.returned (.string t))∧S w'∧dT2 S J b4 b r k t w'
def dT0 (w:World):Prop:=
 Calls Tryz.prog 67 #[.agg #[.pointer r],.int .i64 9] w fun e w'=>∃ t:Int,(e=.returned (.int .i64 t))∧S w'∧dT1 S J b4 b r t w'
end
section
variable {J:Option Addr→World→Prop} {b4 b r:Nat} {rd:Rd} {k f c m t:Int} {p:ByteArray}
theorem dT6_ok (hJ:∀ {w},Sat R (cmC b (cmHead k p f c m t) nilSl nilSl::RdAt r rd::brC b4 r::Hs) w→J (some ⟨b,0,none⟩) w) (hw:Sat R (RdAt r rd::brC b4 r::cmNew b::Hs) w):dT6 J b k p f c m t w:=by
 have hw:Sat R (cmNew b::RdAt r rd::brC b4 r::Hs) w:=hw.arr
 refine store_rule hw (by kernel_rfl) rfl (by simp [Value.cells]) fun w hw=>?_
 exact hJ (hw.re (cmC b (cmHead k p f c m t) nilSl nilSl))
theorem dT5_ok (hb:Bytes rd.bs) (hJ:∀ {w},Sat R (cmC b (cmHead k p f c m (rdNum 1099511627776 rd).1) nilSl nilSl::RdAt r (rdNum 1099511627776 rd).2::brC b4 r::Hs) w→J (some ⟨b,0,none⟩) w)
  (hw:Sat R (RdAt r rd::brC b4 r::cmNew b::Hs) w):dT5 (Sat R [brC b4 r,VC.tru]) J b (some ⟨r,0,none⟩) k p f c m w:=by
 refine (bnum_spec (most:=1099511627776) hb (by omega) (by omega) hw).use ?_
 rintro _ w ⟨rfl,hw⟩
 exact ⟨_,rfl,tru2 hw,dT6_ok hJ hw⟩
theorem dT4_ok (hb:Bytes rd.bs) (hJ:∀ {w},Sat R (cmC b (cmHead k p f c (rdNum 9999 rd).1 (rdNum 1099511627776 (rdNum 9999 rd).2).1) nilSl nilSl::RdAt r (rdNum 1099511627776 (rdNum 9999 rd).2).2::brC b4 r::Hs) w→J (some ⟨b,0,none⟩) w)
  (hw:Sat R (RdAt r rd::brC b4 r::cmNew b::Hs) w):dT4 (Sat R [brC b4 r,VC.tru]) J b4 b (some ⟨r,0,none⟩) k p f c w:=by
 refine (bdn_spec hb hw).use ?_
 rintro _ w ⟨rfl,hw⟩
 exact ⟨_,rfl,tru2 hw,dT5_ok (rdNum_bd hb) hJ hw⟩
theorem dT3_ok (hb:Bytes rd.bs) (hJ:∀ {w},Sat R (cmC b (cmHead k p f (rdNum 9999 rd).1 (rdNum 9999 (rdNum 9999 rd).2).1 (rdNum 1099511627776 (rdNum 9999 (rdNum 9999 rd).2).2).1) nilSl nilSl::RdAt r (rdNum 1099511627776 (rdNum 9999 (rdNum 9999 rd).2).2).2::brC b4 r::Hs) w→J (some ⟨b,0,none⟩) w)
  (hw:Sat R (RdAt r rd::brC b4 r::cmNew b::Hs) w):dT3 (Sat R [brC b4 r,VC.tru]) J b4 b (some ⟨r,0,none⟩) k p f w:=by
 refine (bdn_spec hb hw).use ?_
 rintro _ w ⟨rfl,hw⟩
 exact ⟨_,rfl,tru2 hw,dT4_ok (rdNum_bd hb) hJ hw⟩
theorem dT2_ok (hb:Bytes rd.bs) (hJ:∀ {w},Sat R (cmC b (cmHead k p (rdNum 9999 rd).1 (rdNum 9999 (rdNum 9999 rd).2).1 (rdNum 9999 (rdNum 9999 (rdNum 9999 rd).2).2).1 (rdNum 1099511627776 (rdNum 9999 (rdNum 9999 (rdNum 9999 rd).2).2).2).1) nilSl nilSl::RdAt r (rdNum 1099511627776 (rdNum 9999 (rdNum 9999 (rdNum 9999 rd).2).2).2).2::brC b4 r::Hs) w→J (some ⟨b,0,none⟩) w)
  (hw:Sat R (RdAt r rd::brC b4 r::cmNew b::Hs) w):dT2 (Sat R [brC b4 r,VC.tru]) J b4 b (some ⟨r,0,none⟩) k p w:=by
 refine (bdn_spec hb hw).use ?_
 rintro _ w ⟨rfl,hw⟩
 exact ⟨_,rfl,tru2 hw,dT3_ok (rdNum_bd hb) hJ hw⟩
def hd2 (rd:Rd):(Int × Int × Int × Int) × Rd:=
 let f:=rdNum 9999 rd
 let c:=rdNum 9999 f.2
 let m:=rdNum 9999 c.2
 let t:=rdNum 1099511627776 m.2
 ((f.1,c.1,m.1,t.1),t.2)
abbrev JD (R:Cx) (Hs:List HP) (b4 r:Nat) (k:Int) (p:ByteArray) (x:(Int × Int × Int × Int) × Rd) (c6:Option Addr) (w:World):Prop:=
 ∃ b,c6=some ⟨b,0,none⟩∧Sat R (cmC b (cmHead k p x.1.1 x.1.2.1 x.1.2.2.1 x.1.2.2.2) nilSl nilSl::RdAt r x.2::brC b4 r::Hs) w
theorem dT1_ok (hb:Bytes rd.bs) (hl:rd.bs.length≤1099511627776) (hJ:∀ {w},Sat R (cmC b (cmHead k (strRd 16 rd).1 (hd2 (strRd 16 rd).2).1.1 (hd2 (strRd 16 rd).2).1.2.1 (hd2 (strRd 16 rd).2).1.2.2.1 (hd2 (strRd 16 rd).2).1.2.2.2) nilSl nilSl::RdAt r (hd2 (strRd 16 rd).2).2::brC b4 r::Hs) w→J (some ⟨b,0,none⟩) w)
  (hw:Sat R (RdAt r rd::brC b4 r::cmNew b::Hs) w):dT1 (Sat R [brC b4 r,VC.tru]) J b4 b (some ⟨r,0,none⟩) k w:=by
 refine (bstr_spec (most:=16) hb hl (by omega) hw).use ?_
 rintro _ w ⟨rfl,hw⟩
 exact ⟨_,rfl,tru2 hw,dT2_ok (strRd_bd hb) hJ hw⟩
theorem dT0_ok (hb:Bytes rd.bs) (hl:rd.bs.length≤1099511627776) (hJ:∀ {w},Sat R (cmC b (cmHead (rdNum 9 rd).1 (strRd 16 (rdNum 9 rd).2).1 (hd2 (strRd 16 (rdNum 9 rd).2).2).1.1 (hd2 (strRd 16 (rdNum 9 rd).2).2).1.2.1 (hd2 (strRd 16 (rdNum 9 rd).2).2).1.2.2.1 (hd2 (strRd 16 (rdNum 9 rd).2).2).1.2.2.2) nilSl nilSl::RdAt r (hd2 (strRd 16 (rdNum 9 rd).2).2).2::brC b4 r::Hs) w→J (some ⟨b,0,none⟩) w)
  (hw:Sat R (RdAt r rd::brC b4 r::cmNew b::Hs) w):dT0 (Sat R [brC b4 r,VC.tru]) J b4 b (some ⟨r,0,none⟩) w:=by
 refine (bnum_spec (most:=9) hb (by omega) (by omega) hw).use ?_
 rintro _ w ⟨rfl,hw⟩
 exact ⟨_,rfl,tru2 hw,dT1_ok (rdNum_bd hb) (by have:=rdNum_len (most:=9) (rd:=rd);omega) hJ hw⟩
end
end Go.Proofs.YtflgboncpbmikaaGreatDoor
/- Package booking: Decode, the whole. Condition: bounds on lengths. -/
namespace Go.Proofs.YtflgboncpbmikaaGreatDoor
set_option linter.unusedVariables false
set_option linter.unusedSimpArgs false
open Go Go.VC
open Classical
variable {R:Cx} {Hs Rest:List HP} {w:World}
theorem CalW.mkB {g:FuncId} {first captured:Array Value} {args:List Value} {Q:Ending→World→Prop} (hc:cl g=true) (h:Calls Tryz.prog g (first.toList++(args++captured.toList)).toArray w Q):CalW Tryz.prog cl (.func (.func g) first captured) args w Q:=by
 unfold CalW
 simp only [hc]
 exact h
theorem CalW.mk1 {g:FuncId} {x:Value} {Q:Ending→World→Prop} (hc:cl g=true) (h:Calls Tryz.prog g #[x] w Q):CalW Tryz.prog cl (.func (.func g) #[x] #[]) [] w Q:=CalW.mkB hc (by
 have e:((#[x]:Array Value).toList++(([]:List Value)++(#[]:Array Value).toList)).toArray=#[x]:=rfl
 rw [e];exact h)
def zeroC:Cm:=cmHead 0 (ByteArray.mk #[]) 0 0 0 0
noncomputable def cmDec (bs:List Int):Cm × Int:=if rdWhole (cmRd ⟨bs,false⟩).2=true∧RightC (cmRd ⟨bs,false⟩).1 then ((cmRd ⟨bs,false⟩).1,0) else (zeroC,6)
theorem strRd_len {most:Int} {rd:Rd}:(strRd most rd).2.bs.length≤rd.bs.length:=rdText_len.2
theorem fltRd_len {rd:Rd}:(fltRd rd).2.bs.length≤rd.bs.length:=rdNum_len
theorem hd2_bd {rd:Rd} (hb:Bytes rd.bs):Bytes (hd2 rd).2.bs:=rdNum_bd (rdNum_bd (rdNum_bd (rdNum_bd hb)))
theorem hd2_len {rd:Rd}:(hd2 rd).2.bs.length≤rd.bs.length:=Nat.le_trans rdNum_len (Nat.le_trans rdNum_len (Nat.le_trans rdNum_len rdNum_len))
theorem cmRd_hd (r:Rd):cmRd r=
 let k:=rdNum 9 r
 let p:=strRd 16 k.2
 let h:=hd2 p.2
 let s:=fltRd h.2
 let l:=strRd 16 s.2
 let w:=rdNum 9999 l.2
 let n:=rdNum 16 w.2
 let g:=rdEach (rdNum 9999) n.1.toNat n.2
 let q:=rdNum 16 g.2
 let x:=rdEach fltRd q.1.toNat q.2
 (⟨k.1,p.1,h.1.1,h.1.2.1,h.1.2.2.1,h.1.2.2.2,s.1,l.1,w.1,g.1,x.1⟩,x.2):=rfl
set_option maxHeartbeats 1000000 in
theorem bdec_spec {s:Sl} {bs:List Int} (hb:Bytes bs) (hl:bs.length≤1099511627776) (hs:Ro R s (b8 bs)) (hw:Sat R Hs w):
  Gets Tryz.prog 42 #[.slice s.a s.len s.cap] w fun v w'=>∃ sg sp:Sl,v=.tuple #[.agg (cmV (cmDec bs).1 sg sp).toArray,.int .i64 (cmDec bs).2]∧Sat R (Own sg 3 (intsI (cmDec bs).1.grps)::Own sp 91 (flts (cmDec bs).1.parts)::Hs) w':=by
 apply call42
 have b0:Bytes (⟨bs,false⟩:Rd).bs:=hb
 have l0:(⟨bs,false⟩:Rd).bs.length≤1099511627776:=hl
 have hcm:=cmRd_hd ⟨bs,false⟩
 obtain ⟨rd0,e0⟩:∃ rd:Rd,rd=⟨bs,false⟩:=⟨_,rfl⟩
 rw [←e0] at b0 l0 hcm
 have b1:=rdNum_bd (most:=9) b0
 have l1:(rdNum 9 rd0).2.bs.length≤1099511627776:=Nat.le_trans rdNum_len l0
 refine new_rule hw fun b2 w hw=>?_
 have hw:Sat R (cmNew b2::Hs) w:=hw
 refine (fnew_spec hs hl hw).use ?_
 clear hw
 rintro _ w ⟨r,rfl,hw⟩
 refine ⟨_,rfl,?_⟩
 rw [←e0] at hw
 refine new_rule hw fun b4 w hw=>?_
 refine store_rule hw (by kernel_rfl) rfl (by simp [Value.cells]) fun w hw=>?_
 have hw:Sat R (RdAt r rd0::brC b4 r::cmNew b2::Hs) w:=hw.re (brC b4 r)|>.swap
 refine ⟨JD R (cmNew b2::Hs) b4 r (rdNum 9 rd0).1 (strRd 16 (rdNum 9 rd0).2).1 (hd2 (strRd 16 (rdNum 9 rd0).2).2),?_,?_⟩
 ·refine drw_rule' (Sat R [brC b4 r,VC.tru]) hw (fun w hw=>tru2 hw) fun w hw=>?_
  clear hcm
  refine ⟨_,At.own (fun _ h=>h) (by exact ⟨rfl,trivial⟩),_,At.own (fun _ h=>h) (by exact ⟨rfl,trivial⟩),_,At.own (fun _ h=>h) (by exact ⟨rfl,trivial⟩),?_⟩
  refine ⟨?_,new_rule hw fun b w hw=>⟨tru3 hw,dT0_ok b0 l0 (fun hw=>⟨b,rfl,hw⟩) (hw.arr (Hs':=RdAt r rd0::brC b4 r::cmNew b::cmNew b2::Hs))⟩⟩
  refine (bnum_spec (most:=9) b0 (by omega) (by omega) hw).use ?_
  clear hw
  rintro _ w ⟨rfl,hw⟩
  refine ⟨_,rfl,tru2 hw,?_⟩
  generalize (rdNum 9 rd0).1=k at *
  generalize (rdNum 9 rd0).2=rd1 at *
  refine ⟨?_,new_rule hw fun b w hw=>⟨tru3 hw,dT1_ok b1 l1 (fun hw=>⟨b,rfl,hw⟩) (hw.arr (Hs':=RdAt r rd1::brC b4 r::cmNew b::cmNew b2::Hs))⟩⟩
  have b2':=strRd_bd (most:=16) b1
  refine (bstr_spec (most:=16) b1 l1 (by omega) hw).use ?_
  clear hw
  rintro _ w ⟨rfl,hw⟩
  refine ⟨_,rfl,tru2 hw,?_⟩
  generalize (strRd 16 rd1).1=p at *
  generalize (strRd 16 rd1).2=rd2 at *
  refine ⟨?_,new_rule hw fun b w hw=>⟨tru3 hw,dT2_ok b2' (fun hw=>⟨b,rfl,hw⟩) (hw.arr (Hs':=RdAt r rd2::brC b4 r::cmNew b::cmNew b2::Hs))⟩⟩
  have b3:=rdNum_bd (most:=9999) b2'
  refine (bdn_spec b2' hw).use ?_
  clear hw
  rintro _ w ⟨rfl,hw⟩
  refine ⟨_,rfl,tru2 hw,?_⟩
  refine ⟨?_,new_rule hw fun b w hw=>⟨tru3 hw,dT3_ok b3 (fun hw=>⟨b,rfl,hw⟩) (hw.arr (Hs':=RdAt r _::brC b4 r::cmNew b::cmNew b2::Hs))⟩⟩
  have b4':=rdNum_bd (most:=9999) b3
  refine (bdn_spec b3 hw).use ?_
  clear hw
  rintro _ w ⟨rfl,hw⟩
  refine ⟨_,rfl,tru2 hw,?_⟩
  refine ⟨?_,new_rule hw fun b w hw=>⟨tru3 hw,dT4_ok b4' (fun hw=>⟨b,rfl,hw⟩) (hw.arr (Hs':=RdAt r _::brC b4 r::cmNew b::cmNew b2::Hs))⟩⟩
  have b5:=rdNum_bd (most:=9999) b4'
  refine (bdn_spec b4' hw).use ?_
  clear hw
  rintro _ w ⟨rfl,hw⟩
  refine ⟨_,rfl,tru2 hw,?_⟩
  refine ⟨?_,new_rule hw fun b w hw=>⟨tru3 hw,dT5_ok b5 (fun hw=>⟨b,rfl,hw⟩) (hw.arr (Hs':=RdAt r _::brC b4 r::cmNew b::cmNew b2::Hs))⟩⟩
  refine (bnum_spec (most:=1099511627776) b5 (by omega) (by omega) hw).use ?_
  clear hw
  rintro _ w ⟨rfl,hw⟩
  have hw:Sat R (RdAt r (hd2 rd2).2::brC b4 r::cmNew b2::Hs) w:=hw
  refine ⟨_,rfl,tru2 hw,new_rule hw fun b w hw=>⟨tru3 hw,dT6_ok (fun hw=>⟨b,rfl,hw⟩) (hw.arr (Hs':=RdAt r _::brC b4 r::cmNew b::cmNew b2::Hs))⟩⟩
 clear hw
 obtain ⟨k,rd1,e1⟩:∃ y rd,rdNum 9 rd0=(y,rd):=⟨_,_,rfl⟩
 rw [e1] at b1 l1 ⊢
 dsimp only at b1 l1 ⊢
 have b2':=strRd_bd (most:=16) b1
 have l2:(strRd 16 rd1).2.bs.length≤1099511627776:=Nat.le_trans strRd_len l1
 obtain ⟨p,rd2,e2⟩:∃ y rd,strRd 16 rd1=(y,rd):=⟨_,_,rfl⟩
 rw [e2] at b2' l2 ⊢
 dsimp only at b2' l2 ⊢
 have b3:=hd2_bd b2'
 have l3:(hd2 rd2).2.bs.length≤1099511627776:=Nat.le_trans hd2_len l2
 obtain ⟨⟨f,c,m,t⟩,rd3,e3⟩:∃ y rd,hd2 rd2=(y,rd):=⟨_,_,rfl⟩
 rw [e3] at b3 l3 ⊢
 dsimp only at b3 l3 ⊢
 rintro _ _ w ⟨b,rfl,hw⟩
 have b4':=fltRd_bd b3
 have l4:(fltRd rd3).2.bs.length≤1099511627776:=Nat.le_trans fltRd_len l3
 obtain ⟨sc,rd4,e4⟩:∃ y rd,fltRd rd3=(y,rd):=⟨_,_,rfl⟩
 have hw:Sat R (RdAt r rd3::brC b4 r::cmC b (cmHead k p f c m t) nilSl nilSl::cmNew b2::Hs) w:=hw.arr
 refine ⟨some ⟨r,0,none⟩,At.own (eqS hw) (by exact ⟨rfl,trivial⟩),?_⟩
 refine (bflt_spec b3 hw).use ?_
 clear hw
 rintro _ w ⟨rfl,hw⟩
 rw [e4] at b4' l4 hw ⊢
 dsimp only at b4' l4 hw ⊢
 refine ⟨_,rfl,NilP.mk rfl ?_⟩
 refine store_rule hw (by kernel_rfl) rfl (by simp [Value.cells]) fun w hw=>?_
 have hw:Sat R (RdAt r rd4::brC b4 r::cmC b { cmHead k p f c m t with sc:=sc } nilSl nilSl::cmNew b2::Hs) w:=(hw.re (cmC b { cmHead k p f c m t with sc:=sc } nilSl nilSl)).arr
 have b5:=strRd_bd (most:=16) b4'
 have l5:(strRd 16 rd4).2.bs.length≤1099511627776:=Nat.le_trans strRd_len l4
 obtain ⟨lab,rd5,e5⟩:∃ y rd,strRd 16 rd4=(y,rd):=⟨_,_,rfl⟩
 refine ⟨some ⟨r,0,none⟩,At.own (eqS hw) (by exact ⟨rfl,trivial⟩),?_⟩
 refine (bstr_spec (most:=16) b4' l4 (by omega) hw).use ?_
 clear hw
 rintro _ w ⟨rfl,hw⟩
 rw [e5] at b5 l5 hw ⊢
 dsimp only at b5 l5 hw ⊢
 refine ⟨_,rfl,NilP.mk rfl ?_⟩
 refine store_rule hw (by kernel_rfl) rfl (by simp [Value.cells]) fun w hw=>?_
 have hw:Sat R (RdAt r rd5::brC b4 r::cmC b { cmHead k p f c m t with sc:=sc,lab:=lab } nilSl nilSl::cmNew b2::Hs) w:=(hw.re (cmC b { cmHead k p f c m t with sc:=sc,lab:=lab } nilSl nilSl)).arr
 have b6:=rdNum_bd (most:=9999) b5
 have l6:(rdNum 9999 rd5).2.bs.length≤1099511627776:=Nat.le_trans rdNum_len l5
 obtain ⟨rows,rd6,e6⟩:∃ y rd,rdNum 9999 rd5=(y,rd):=⟨_,_,rfl⟩
 refine (bdn_spec b5 hw).use ?_
 clear hw
 rintro _ w ⟨rfl,hw⟩
 rw [e6] at b6 l6 hw ⊢
 dsimp only at b6 l6 hw ⊢
 refine ⟨_,rfl,NilP.mk rfl ?_⟩
 refine store_rule hw (by kernel_rfl) rfl (by simp [Value.cells]) fun w hw=>?_
 have hw:Sat R (RdAt r rd6::brC b4 r::cmC b { cmHead k p f c m t with sc:=sc,lab:=lab,rows:=rows } nilSl nilSl::cmNew b2::Hs) w:=(hw.re (cmC b { cmHead k p f c m t with sc:=sc,lab:=lab,rows:=rows } nilSl nilSl)).arr
 have b7:=rdNum_bd (most:=16) b6
 have v7:=rdNum_val (most:=16) b6 (by omega)
 obtain ⟨n7,rd7,e7⟩:∃ y rd,rdNum 16 rd6=(y,rd):=⟨_,_,rfl⟩
 refine ⟨some ⟨r,0,none⟩,At.own (eqS hw) (by exact ⟨rfl,trivial⟩),?_⟩
 refine (bnum_spec (most:=16) b6 (by omega) (by omega) hw).use ?_
 clear hw
 rintro _ w ⟨rfl,hw⟩
 rw [e7] at b7 v7 hw ⊢
 dsimp only at b7 v7 hw ⊢
 refine ⟨_,rfl,?_⟩
 obtain ⟨n,rfl⟩:=Int.eq_ofNat_of_zero_le v7.1
 have b8':Bytes (rdEach (rdNum 9999) n rd7).2.bs:=(rdEach_inv (one:=rdNum 9999) (P:=fun r=>Bytes r.bs) (Q:=fun _=>True) (fun r hr=>⟨trivial,rdNum_bd hr⟩) n b7).2
 refine (timesI_spec (one:=rdNum 9999) (I:=fun rd=>Bytes rd.bs) (fun rd h=>rdNum_bd h) (by omega) b7 (fun T rd w hI hw=>CalW.mk (by kernel_rfl) ((bdn_spec hI (hw.arr (Hs':=RdAt r rd::brC b4 r::T::cmC b { cmHead k p f c m t with sc:=sc,lab:=lab,rows:=rows } nilSl nilSl::cmNew b2::Hs))).use fun v w h=>⟨by rw [h.1],h.2.arr⟩)) hw).use ?_
 clear hw
 rintro _ w ⟨sg,rfl,hw⟩
 have gl:=rdEach_len (rdNum 9999) n rd7
 obtain ⟨gs,rd8,e8⟩:∃ y rd,rdEach (rdNum 9999) n rd7=(y,rd):=⟨_,_,rfl⟩
 rw [e8] at gl b8' hw
 dsimp only at gl b8' hw
 refine ⟨sg,rfl,NilP.mk rfl ?_⟩
 refine store_rule hw (by kernel_rfl) rfl (by simp [Value.cells]) fun w hw=>?_
 have hw:Sat R (RdAt r rd8::brC b4 r::Own sg 3 (intsI gs)::cmC b { cmHead k p f c m t with sc:=sc,lab:=lab,rows:=rows,grps:=gs } sg nilSl::cmNew b2::Hs) w:=(hw.re (cmC b { cmHead k p f c m t with sc:=sc,lab:=lab,rows:=rows,grps:=gs } sg nilSl)).arr
 have b9:=rdNum_bd (most:=16) b8'
 have v9:=rdNum_val (most:=16) b8' (by omega)
 obtain ⟨n9,rd9,e9⟩:∃ y rd,rdNum 16 rd8=(y,rd):=⟨_,_,rfl⟩
 refine drw_rule' (Sat R [brC b4 r,VC.tru]) hw (fun w hw=>tru2 hw) fun w hw=>?_
 refine ⟨some ⟨r,0,none⟩,At.own (fun _ h=>h) (by exact ⟨rfl,trivial⟩),some ⟨r,0,none⟩,At.own (fun _ h=>h) (by exact ⟨rfl,trivial⟩),?_⟩
 refine (bnum_spec (most:=16) b8' (by omega) (by omega) hw).use ?_
 clear hw
 rintro _ w ⟨rfl,hw⟩
 rw [e9] at b9 v9 hw ⊢
 dsimp only at b9 v9 hw ⊢
 refine ⟨_,rfl,tru2 hw,?_⟩
 obtain ⟨n',rfl⟩:=Int.eq_ofNat_of_zero_le v9.1
 refine (timesF_spec (one:=fltRd) (I:=fun rd=>Bytes rd.bs) (fun rd h=>fltRd_bd h) (by omega) b9 (fun T rd w hI hw=>CalW.mk1 (by kernel_rfl) ((bflt_spec hI hw).use fun v w h=>⟨by rw [h.1],h.2⟩)) hw).use ?_
 clear hw
 rintro _ w ⟨sp,rfl,hw⟩
 have pl:=rdEach_len fltRd n' rd9
 obtain ⟨ps,rd10,e10⟩:∃ y rd,rdEach fltRd n' rd9=(y,rd):=⟨_,_,rfl⟩
 rw [e10] at pl hw
 dsimp only at pl hw
 have hC:cmRd rd0=({ cmHead k p f c m t with sc:=sc,lab:=lab,rows:=rows,grps:=gs,parts:=ps },rd10):=by
  rw [hcm]
  simp only [e1,e2,e3,e4,e5,e6,e7,e8,e9,e10,Int.toNat_natCast]
 clear hcm
 rw [e0] at hC
 have hdec:cmDec bs=if rdWhole rd10=true∧RightC { cmHead k p f c m t with sc:=sc,lab:=lab,rows:=rows,grps:=gs,parts:=ps } then ({ cmHead k p f c m t with sc:=sc,lab:=lab,rows:=rows,grps:=gs,parts:=ps },0) else (zeroC,6):=by unfold cmDec;rw [hC]
 obtain ⟨C,eC⟩:∃ C:Cm,C={ cmHead k p f c m t with sc:=sc,lab:=lab,rows:=rows,grps:=gs,parts:=ps }:=⟨_,rfl⟩
 refine ⟨sp,rfl,(hw.arr (Hs':=RdAt r rd10::brC b4 r::Own sp 91 (flts ps)::Own sg 3 (intsI gs)::cmC b { cmHead k p f c m t with sc:=sc,lab:=lab,rows:=rows,grps:=gs } sg nilSl::cmNew b2::Hs))|>tru2,NilP.mk rfl ?_⟩
 refine store_rule hw (by kernel_rfl) rfl (by simp [Value.cells]) fun w hw=>?_
 have hw:=hw.re (cmC b { cmHead k p f c m t with sc:=sc,lab:=lab,rows:=rows,grps:=gs,parts:=ps } sg sp)
 rw [←eC] at hdec hw
 have eg:C.grps=gs:=by rw [eC]
 have ep:C.parts=ps:=by rw [eC]
 rw [←eg] at hw gl
 rw [←ep] at hw pl
 clear eC hC eg ep e1 e2 e3 e4 e5 e6 e7 e8 e9 e10 b0 b1 b2' b3 b4' b5 b6 b7 b8' b9 l0 l1 l2 l3 l4 l5 l6
 have hw:Sat R (RdAt r rd10::brC b4 r::cmC b C sg sp::Own sp 91 (flts C.parts)::Own sg 3 (intsI C.grps)::cmNew b2::Hs) w:=hw.arr
 refine ⟨some ⟨r,0,none⟩,At.own (eqS hw) (by exact ⟨rfl,trivial⟩),?_⟩
 refine (whole_spec hw).use ?_
 clear hw
 rintro _ w ⟨rfl,hw⟩
 refine ⟨_,rfl,?_⟩
 have no:cmDec bs=(zeroC,6)→∀ {w},Sat R (cmNew b2::Hs) w→∃ sg sp:Sl,Value.tuple #[.agg (cmV zeroC nilSl nilSl).toArray,.int .i64 6]=.tuple #[.agg (cmV (cmDec bs).1 sg sp).toArray,.int .i64 (cmDec bs).2]∧Sat R (Own sg 3 (intsI (cmDec bs).1.grps)::Own sp 91 (flts (cmDec bs).1.parts)::Hs) w:=fun e {w} hw=>by
  rw [e]
  exact ⟨nilSl,nilSl,rfl,Own.nil (Own.nil hw.drop)⟩
 refine Br.nb (fun h=>?_) (fun h=>?_)
 ·have hw:Sat R (cmNew b2::Hs) w:=hw.drop.drop.drop.drop.drop
  refine store_rule hw (by kernel_rfl) rfl (by simp [Value.cells]) fun w hw=>?_
  have hw:=hw.re (cmNew b2)
  refine ⟨_,_,_,_,_,_,_,_,_,nilSl,nilSl,At.own (eqS hw) (by exact ⟨rfl,rfl,rfl,rfl,rfl,rfl,rfl,rfl,rfl,rfl,rfl,trivial⟩),no ?_ hw⟩
  rw [hdec,if_neg (by rintro ⟨h1,_⟩;rw [h1] at h;cases h)]
 refine NilP.mk rfl ⟨C.kind,C.pnr,C.flt,C.cls,C.many,C.time,C.sc,C.lab,C.rows,sg,sp,At.own (eqS hw) (by exact ⟨rfl,rfl,rfl,rfl,rfl,rfl,rfl,rfl,rfl,rfl,rfl,trivial⟩),?_⟩
 have hw:Sat R (Own sg 3 (intsI C.grps)::RdAt r rd10::brC b4 r::cmC b C sg sp::Own sp 91 (flts C.parts)::cmNew b2::Hs) w:=hw.arr
 have sl:=Own.len (hw.arr (Hs':=Own sp 91 (flts C.parts)::Own sg 3 (intsI C.grps)::RdAt r rd10::brC b4 r::cmC b C sg sp::cmNew b2::Hs))
 obtain ⟨R',hr,_,hw,back⟩:=Own.lendI hw (by omega)
 refine (bright_spec hr (by omega) (by simpa using sl) hw).use ?_
 clear hw
 rintro _ w ⟨rfl,hw⟩
 have hw:=back hw
 refine ⟨_,rfl,Br.nb (fun h2=>?_) (fun h2=>?_)⟩
 ·have hw:Sat R (cmNew b2::Hs) w:=hw.drop.drop.drop.drop.drop
  refine store_rule hw (by kernel_rfl) rfl (by simp [Value.cells]) fun w hw=>?_
  have hw:=hw.re (cmNew b2)
  refine ⟨_,_,_,_,_,_,_,_,_,nilSl,nilSl,At.own (eqS hw) (by exact ⟨rfl,rfl,rfl,rfl,rfl,rfl,rfl,rfl,rfl,rfl,rfl,trivial⟩),no ?_ hw⟩
  rw [hdec,if_neg (by rintro ⟨_,h1⟩;rw [decide_eq_true h1] at h2;cases h2)]
 refine NilP.mk rfl ⟨C.kind,C.pnr,C.flt,C.cls,C.many,C.time,C.sc,C.lab,C.rows,sg,sp,At.own (eqS hw) (by exact ⟨rfl,rfl,rfl,rfl,rfl,rfl,rfl,rfl,rfl,rfl,rfl,trivial⟩),?_⟩
 have hw:Sat R (cmNew b2::Own sg 3 (intsI C.grps)::RdAt r rd10::brC b4 r::cmC b C sg sp::Own sp 91 (flts C.parts)::Hs) w:=hw.arr
 refine store_rule hw (by kernel_rfl) rfl (by simp [Value.cells]) fun w hw=>?_
 have hw:=hw.re (cmC b2 C sg sp)
 refine ⟨C.kind,C.pnr,C.flt,C.cls,C.many,C.time,C.sc,C.lab,C.rows,sg,sp,At.own (eqS hw) (by exact ⟨rfl,rfl,rfl,rfl,rfl,rfl,rfl,rfl,rfl,rfl,rfl,trivial⟩),?_⟩
 rw [hdec,if_pos ⟨h,of_decide_eq_true h2⟩]
 exact ⟨sg,sp,rfl,hw.drop.cons fun _ h=>(h.arr (Hs':=Own sp 91 (flts C.parts)::RdAt r rd10::brC b4 r::cmC b C sg sp::Hs)).cons fun _ h=>h.drop.drop.drop⟩
end Go.Proofs.YtflgboncpbmikaaGreatDoor
/- Package booking: Read. Condition: bounds on lengths. -/
namespace Go.Proofs.YtflgboncpbmikaaGreatDoor
set_option linter.unusedVariables false
set_option linter.unusedSimpArgs false
open Go Go.VC
open Classical
variable {R:Cx} {Hs Rest:List HP} {w:World}
abbrev rpHead (k:Int) (p:ByteArray) (s f c m t:Int):Rp:=⟨k,p,s,f,c,m,t,[],[]⟩
abbrev rpNew (b:Nat):HP:=rpC b (rpHead 0 (ByteArray.mk #[]) 0 0 0 0 0) nilSl nilSl
section
variable (S:World→Prop) (J:Option Addr→World→Prop) (b4 b:Nat) (r:Option Addr)
end
section
variable {J:Option Addr→World→Prop} {b4 b r:Nat} {rd:Rd} {k s f c m t:Int} {p:ByteArray}
end
end Go.Proofs.YtflgboncpbmikaaGreatDoor

/- Reference 18: whether a command may be; steps of its codes. Condition: bounds on lengths. -/
namespace Go.Proofs.YtflgboncpbmikaaGreatDoor
set_option linter.unusedVariables false
set_option linter.unusedSimpArgs false
open Go Go.VC
open Classical
variable {R:Cx} {Hs Rest:List HP} {w:World}
theorem app8 {s t:Sl} {a b:List Int} {K:Sl→World→Prop} (hl:a.length + b.length≤1099511627776) (hw:Sat R (Own t 5 (b8 b)::Own s 5 (b8 a)::Hs) w)
  (k:∀ s2 w',Sat R (Own s2 5 (b8 (a++b))::Hs) w'→K s2 w'):
  ∃ w_1:World,∃ t2:Sl,((Builtin.append_ #[ 22,22 ] 22 #[.slice s.a s.len s.cap,.slice t.a t.len t.cap]).run Tryz.prog w=.ok (.slice t2.a t2.len t2.cap) w_1)∧K t2 w_1:=
 appendOO elB8 (s:=s) (n:=1099511627776) Tryz.underlying22 hw.swap (by omega) (by omega) (by omega) fun s2 w hw=>k s2 w (hw.swap.drop)
end Go.Proofs.YtflgboncpbmikaaGreatDoor





/- Package booking: the book in memory; errors that are thrown and caught. Condition: none. -/
namespace Go.Proofs.YtflgboncpbmikaaGreatDoor
set_option linter.unusedVariables false
set_option linter.unusedSimpArgs false
open Go Go.VC
open Classical
variable {R:Cx} {Hs Rest:List HP} {w:World}
def wtV (w:Wt):List Value:=[.int .i64 w.id,.int .i64 w.cls,.int .i64 w.many,.int .i64 w.time,.float .f64 w.sc]
abbrev quCell (s:Sl):Obj:=.cells [.slice s.a s.len s.cap].toArray 172 (0,0)
def QuAt (q:Nat) (l:List Wt):HP:=exs fun s:Sl=>Star [pts q (quCell s),OwnN 5 s 174 (l.map wtV)]
theorem Sat.qu {q:Nat} {l:List Wt}:Sat R (QuAt q l::Hs) w↔∃ s:Sl,Sat R (pts q (quCell s)::OwnN 5 s 174 (l.map wtV)::Hs) w:=by
 unfold QuAt
 rw [Sat.exs]
 exact ⟨fun ⟨s,h⟩=>⟨s,Sat.star.1 h⟩,fun ⟨s,h⟩=>⟨s,Sat.star.2 h⟩⟩
abbrev FE:=Nat × Nat × Pl
abbrev BE:=Nat × Bk
def plAt (e:FE):HP:=Star [LoneAt e.1 e.2.2.r,QuAt e.2.1 e.2.2.q]
abbrev bkObj (x:Bk):Obj:=.cells [.int .i64 x.id,.int .i64 x.flt,.int .i64 x.cls,.int .i64 x.many,.int .i64 x.state,.int .i64 x.till].toArray 123 (0,0)
def bkAt (e:BE):HP:=pts e.1 (bkObj e.2)
def FlsAt (fs:List FE):HP:=Star (fs.map plAt)
def BksAt (xs:List BE):HP:=Star (xs.map bkAt)
def flV (e:FE):Int × Value:=(e.2.2.n,.agg #[.pointer (some ⟨e.1,0,none⟩),.pointer (some ⟨e.2.1,0,none⟩)])
def bkV (e:BE):Int × Value:=(e.2.id,.pointer (some ⟨e.1,0,none⟩))
abbrev bookC (b:Book) (m1 m2:Nat):Obj:=.cells [.int .i64 b.now,.int .i64 b.next,.map (some m1),.map (some m2)].toArray 90 (0,0)
structure BookL (b:Book) (fs:List FE) (xs:List BE):Prop where
 fl:(fs.map fun e=>e.2.2).Perm b.fl
 bk:xs.map (fun e=>e.2)=b.L
def BookAt (p:Nat) (b:Book):HP:=exs fun m1:Nat=>exs fun m2:Nat=>exs fun fs:List FE=>exs fun xs:List BE=>
 Star [pur (BookL b fs xs),pts p (bookC b m1 m2),MapAt m1 (fs.map flV),MapAt m2 (xs.map bkV),FlsAt fs,BksAt xs]
theorem Sat.book {p:Nat} {b:Book}:Sat R (BookAt p b::Hs) w↔∃ m1 m2 fs xs,BookL b fs xs∧Sat R (pts p (bookC b m1 m2)::MapAt m1 (fs.map flV)::MapAt m2 (xs.map bkV)::FlsAt fs::BksAt xs::Hs) w:=by
 unfold BookAt
 simp only [Sat.exs]
 constructor
 ·rintro ⟨m1,m2,fs,xs,h⟩
  obtain ⟨h1,h2⟩:=Sat.pur.1 (Sat.star.1 h)
  exact ⟨m1,m2,fs,xs,h1,h2⟩
 ·rintro ⟨m1,m2,fs,xs,h1,h2⟩
  exact ⟨m1,m2,fs,xs,Sat.star.2 (Sat.pur.2 ⟨h1,h2⟩)⟩
abbrev pMap:MapT Tryz.prog 87 Int 3 119 (.agg #[.pointer none,.pointer none]):=⟨Tryz.underlying87,Tryz.underlying3,Tryz.zeroValue119⟩
abbrev bMap:MapT Tryz.prog 88 Int 3 108 (.pointer none):=⟨Tryz.underlying88,Tryz.underlying3,Tryz.zeroValue108⟩
theorem FlsAt.snoc {fs:List FE} {f q:Nat} {p:Pl} (hw:Sat R (LoneAt f p.r::QuAt q p.q::FlsAt fs::Hs) w):Sat R (FlsAt (fs++[(f,q,p)])::Hs) w:=by
 unfold FlsAt at hw ⊢
 rw [Sat.star,List.map_append,List.append_assoc]
 have hw:Sat R (Star (fs.map plAt)::LoneAt f p.r::QuAt q p.q::Hs) w:=hw.arr
 rw [Sat.star] at hw
 have key:∀ (L:List HP) {R:Cx},Sat R (L++LoneAt f p.r::QuAt q p.q::Hs) w→Sat R (L++(List.map plAt [(f,q,p)]++Hs)) w:=fun L=>by
  induction L with
  |nil=>exact fun h=>Sat.star.2 h
  |cons A L ih=>exact fun h=>h.cons fun _ h=>ih h
 exact key _ hw
theorem getM_ne {β:Type} {k:Int}:∀ {l:List (Int × β)},getM k l=none↔∀ e∈l,e.1≠k
 |[]=>⟨fun _ _ h=>(by cases h),fun _=>rfl⟩
 |e::l=>by
  rw [getM]
  by_cases h:k=e.1
  ·rw [if_pos (by simpa using h)]
   exact ⟨fun h2=>(by cases h2),fun h2=>absurd h.symm (h2 e (by simp))⟩
  ·rw [if_neg (by simpa using h),getM_ne]
   exact ⟨fun h2 x hx=>by
    rcases List.mem_cons.1 hx with h1|h1
    ·rw [h1];exact fun e=>h e.symm
    ·exact h2 x h1,fun h2 x hx=>h2 x (by simp [hx])⟩
theorem fl_none {b:Book} {fs:List FE} {xs:List BE} (hl:BookL b fs xs) {n:Int}:getM n (fs.map flV)=none↔b.at n=none:=by
 unfold Book.at
 rw [getM_ne,kget_none]
 constructor
 ·intro h p hp
  obtain ⟨e,he,rfl⟩:=List.mem_map.1 (hl.fl.mem_iff.2 hp)
  exact h (flV e) (List.mem_map.2 ⟨e,he,rfl⟩)
 ·rintro h _ he
  obtain ⟨e,h1,rfl⟩:=List.mem_map.1 he
  exact h e.2.2 (hl.fl.mem_iff.1 (List.mem_map.2 ⟨e,h1,rfl⟩))
theorem fl_len {b:Book} {fs:List FE} {xs:List BE} (hl:BookL b fs xs):fs.length=b.fl.length:=by
 have:=hl.fl.length_eq
 rwa [List.length_map] at this
abbrev errP (e:Int):List PanicEntry:=[⟨.iface 28 (.int .i64 e),false,false⟩]
theorem need_c {b:Bool} {e:Int} {Q:Ending→World→Prop} (h1:b=true→Q (.returned (.tuple #[])) w) (h2:b=false→Q (.panicked (errP e)) w):Calls Tryz.prog 45 #[.bool b,.int .i64 e] w Q:=by
 have h:GetsX Tryz.prog 45 #[.bool b,.int .i64 e] w (fun ch w'=>b=false∧ch=errP e∧w'=w) (fun v w'=>b=true∧v=.tuple #[]∧w'=w):=by
  apply call45
  exact Br.nb (fun h=>⟨h,rfl,rfl⟩) (fun h=>⟨h,rfl,rfl⟩)
 refine h.use ?_ ?_
 ·rintro v w' ⟨hb,rfl,e⟩;rw [e];exact h1 hb
 ·rintro v w' ⟨hb,rfl,e⟩;rw [e];exact h2 hb
theorem mustE_c {e:Int} {Q:Ending→World→Prop} (h1:e=0→Q (.returned (.tuple #[])) w) (h2:¬ e=0→Q (.panicked (errP e)) w):Calls Tryz.prog 75 #[.int .i64 e] w Q:=by
 have h:GetsX Tryz.prog 75 #[.int .i64 e] w (fun ch w'=>¬ e=0∧ch=errP e∧w'=w) (fun v w'=>e=0∧v=.tuple #[]∧w'=w):=by
  apply call75
  exact Br.ne (fun h=>⟨h,rfl,rfl⟩) (fun h=>⟨h,rfl,rfl⟩)
 refine h.use ?_ ?_
 ·rintro v w' ⟨hb,rfl,e⟩;rw [e];exact h1 hb
 ·rintro v w' ⟨hb,rfl,e⟩;rw [e];exact h2 hb
theorem caughtP {r:Nat} {x:Rp} {sl sb:Sl} {e:Int} {Kr:World→Prop} (hw:Sat R (rpC r x sl sb::Hs) w) (k:∀ w,Sat R (rpC r (errR e) nilSl nilSl::Hs) w→Kr w):
  LeaveF Tryz.prog 44 [.pointer (some ⟨r,0,none⟩)] (.panicking (errP e)) Kr w:=by
 unfold LeaveF
 refine CallsD.mono (callP44 (some ⟨r,0,none⟩) (.iface 28 (.int .i64 e)) Kr w ?_) ?_
 ·refine ⟨true,fun w' _=>by kernel_rfl,Br.t rfl ?_⟩
  refine ⟨e,fun w' _=>by kernel_rfl,NilP.mk rfl ?_⟩
  refine store_rule hw (by kernel_rfl) rfl (by simp [Value.cells]) fun w hw=>?_
  exact k w (hw.re (rpC r (errR e) nilSl nilSl))
 ·rintro e v w' ⟨hy,rfl,hk⟩
  exact ⟨hy,rfl,hk⟩
theorem caughtR {r:Nat} {Kr:World→Prop} (k:Kr w):LeaveF Tryz.prog 44 [.pointer (some ⟨r,0,none⟩)] .returning Kr w:=by
 unfold LeaveF
 refine CallsD.mono (callR44 (some ⟨r,0,none⟩) Kr w ?_) ?_
 ·exact ⟨false,fun w' _=>by kernel_rfl,Br.f rfl k⟩
 ·rintro e v w' ⟨hy,rfl,hk⟩
  exact ⟨hy,rfl,hk⟩
theorem qnew_spec (hw:Sat R Hs w):Gets Tryz.prog 76 #[] w fun v w'=>∃ q,v=.pointer (some ⟨q,0,none⟩)∧Sat R (QuAt q []::Hs) w':=by
 apply call76
 refine new_rule hw fun q w hw=>⟨q,rfl,Sat.qu.2 ⟨nilSl,?_⟩⟩
 exact (OwnN.nil hw).swap
theorem bnew_spec (hw:Sat R Hs w):Gets Tryz.prog 24 #[] w fun v w'=>∃ p,v=.pointer (some ⟨p,0,none⟩)∧Sat R (BookAt p newBook::Hs) w':=by
 apply call24
 refine new_rule hw fun m1 w hw=>?_
 have hw:=MapAt.new (α:=Int) rfl hw
 refine new_rule hw fun m2 w hw=>?_
 have hw:=MapAt.new (α:=Int) rfl hw
 refine new_rule hw fun p w hw=>⟨p,rfl,Sat.book.2 ⟨m1,m2,[],[],⟨List.Perm.refl _,rfl⟩,?_⟩⟩
 have hw:Sat R (pts p (bookC newBook m1 m2)::MapAt (α:=Int) m2 []::MapAt (α:=Int) m1 []::Hs) w:=hw
 have hw:Sat R (pts p (bookC newBook m1 m2)::MapAt (α:=Int) m1 []::MapAt (α:=Int) m2 []::Hs) w:=hw.arr
 exact hw.cons fun _ h=>h.cons fun _ h=>h.cons fun _ h=>Sat.star.2 (Sat.star.2 h)
end Go.Proofs.YtflgboncpbmikaaGreatDoor
/- Package booking: a flight is opened. Condition: bounds. -/
namespace Go.Proofs.YtflgboncpbmikaaGreatDoor
set_option linter.unusedVariables false
set_option linter.unusedSimpArgs false
open Go Go.VC
open Classical
variable {R:Cx} {Hs Rest:List HP} {w:World}
abbrev openR (c:Cm):Rp:=⟨0,emS,0,c.flt,0,0,0,rleftsF (rnewF c.flt c.rows c.grps (limitsT (layN c.rows c.grps) c.parts).1),[]⟩
set_option maxHeartbeats 1000000 in
theorem bopen_spec {p:Nat} {b:Book} {c:Cm} {sg sp:Sl} (hfl:b.fl.length≤1000000) (hg:RoI R sg c.grps) (hp:SlR R.m sp (flts c.parts)) (hw:Sat R (BookAt p b::Hs) w):
  GetsX Tryz.prog 47 #[.pointer (some ⟨p,0,none⟩),.agg #[.int .i64 c.kind,.string c.pnr,.int .i64 c.flt,.int .i64 c.cls,.int .i64 c.many,.int .i64 c.time,.float .f64 c.sc,.string c.lab,.int .i64 c.rows,.slice sg.a sg.len sg.cap,.slice sp.a sp.len sp.cap]] w
   (fun ch w'=>∃ e,ch=errP e∧openB b c=(b,errR e)∧Sat R (BookAt p b::Hs) w')
   (fun v w'=>(openB b c).2=openR c∧∃ sl:Sl,v=.agg (rpV (openR c) sl nilSl).toArray∧Sat R (Own sl 3 (intsI (openR c).left)::BookAt p (openB b c).1::Hs) w'):=by
 apply call47
 suffices H:∀ (X:List PanicEntry→World→Prop) (K:Value→World→Prop),(∀ e w',openB b c=(b,errR e)→Sat R (BookAt p b::Hs) w'→X (errP e) w')→
   (∀ sl w',(openB b c).2=openR c→Sat R (Own sl 3 (intsI (openR c).left)::BookAt p (openB b c).1::Hs) w'→K (.agg (rpV (openR c) sl nilSl).toArray) w')→B47 (some ⟨p,0,none⟩) c.kind c.pnr c.flt c.cls c.many c.time c.sc c.lab c.rows sg sp X K w from
  H _ _ (fun e w' h1 h2=>⟨e,rfl,h1,h2⟩) (fun sl w' h1 h2=>⟨h1,sl,rfl,h2⟩)
 intro X K hX hK
 obtain ⟨m1,m2,fs,xs,hl,hw⟩:=Sat.book.1 hw
 have hlen:=fl_len hl
 refine new_rule hw fun b3 w hw=>new_rule hw fun b4 w hw=>?_
 have hw:Sat R (MapAt m1 (fs.map flV)::pts p (bookC b m1 m2)::cmC b3 c sg sp::rpNew b4::MapAt m2 (xs.map bkV)::FlsAt fs::BksAt xs::Hs) w:=by
  have hw:Sat R (rpNew b4::cmC b3 c sg sp::pts p (bookC b m1 m2)::MapAt m1 (fs.map flV)::MapAt m2 (xs.map bkV)::FlsAt fs::BksAt xs::Hs) w:=hw
  exact hw.arr
 have close:∀ {w},Sat R (MapAt m1 (fs.map flV)::pts p (bookC b m1 m2)::cmC b3 c sg sp::rpNew b4::MapAt m2 (xs.map bkV)::FlsAt fs::BksAt xs::Hs) w→Sat R (BookAt p b::Hs) w:=fun {w} hw=>by
  have hw:Sat R (cmC b3 c sg sp::rpNew b4::pts p (bookC b m1 m2)::MapAt m1 (fs.map flV)::MapAt m2 (xs.map bkV)::FlsAt fs::BksAt xs::Hs) w:=hw.arr
  exact Sat.book.2 ⟨m1,m2,fs,xs,hl,hw.drop.drop⟩
 refine drw_ruleT hw fun w hw=>?_
 refine NilP.mk rfl ⟨some m1,At.own (fun _ h=>h) (by exact ⟨rfl,trivial⟩),c.flt,At.own (fun _ h=>h) (by exact ⟨rfl,trivial⟩),?_⟩
 have look:∀ w',Sat R (VC.tru::MapAt m1 (fs.map flV)::pts p (bookC b m1 m2)::cmC b3 c sg sp::rpNew b4::MapAt m2 (xs.map bkV)::FlsAt fs::BksAt xs::Hs) w'→
   (Instr.lookup 87 (.map (some m1)) (.int .i64 c.flt) true).run Tryz.prog w'=.ok (.tuple #[(getM c.flt (fs.map flV)).getD (.agg #[.pointer none,.pointer none]),.bool (getM c.flt (fs.map flV)).isSome]) w':=fun w' h=>
  MapAt.look pMap h.swap c.flt true
 obtain ⟨v1,v2,hv⟩:∃ v1 v2:Option Addr,(getM c.flt (fs.map flV)).getD (.agg #[.pointer none,.pointer none])=.agg #[.pointer v1,.pointer v2]:=by
  cases hgm:getM c.flt (fs.map flV) with
  |none=>exact ⟨none,none,rfl⟩
  |some v=>
   obtain ⟨A,C,e,_⟩:=getM_split hgm
   have:(c.flt,v)∈fs.map flV:=by rw [e];simp
   obtain ⟨x,_,hx⟩:=List.mem_map.1 this
   have hx2:=congrArg Prod.snd hx
   exact ⟨_,_,hx2.symm⟩
 rw [hv] at look
 refine ⟨v1,v2,_,look,?_⟩
 refine new_rule hw fun b5 w hw=>⟨hw.absorb,?_⟩
 refine store_rule hw (by kernel_rfl) rfl (by simp [Value.cells]) fun w hw=>?_
 have hw:=hw.drop.drop
 have hat:=fl_none hl (n:=c.flt)
 refine need_c (fun hn=>.inl ⟨rfl,?_⟩) (fun hn=>.inr ⟨_,rfl,hX 7 w ?_ (close hw)⟩)
 rotate_left
 ·unfold openB
  rw [if_pos]
  cases hba:b.at c.flt with
  |none=>rw [hat.2 hba] at hn;cases hn
  |some _=>rfl
 have hno:getM c.flt (fs.map flV)=none:=by
  cases hgm:getM c.flt (fs.map flV) with
  |none=>rfl
  |some v=>rw [hgm] at hn;cases hn
 have hba:=hat.1 hno
 have o1:¬ (b.at c.flt).isSome=true:=by rw [hba];simp
 refine NilP.mk rfl ⟨some m1,At.own (eqS hw) (by exact ⟨rfl,trivial⟩),((fs.map flV).length:Int),fun w' e=>?_,?_⟩
 ·rw [show w'=w from e]
  exact MapAt.len (by kernel_rfl) hw
 rw [List.length_map,hlen]
 refine need_c (fun hn8=>.inl ⟨rfl,?_⟩) (fun hn8=>.inr ⟨_,rfl,hX 3 w ?_ (close hw)⟩)
 rotate_left
 ·have:=of_decide_eq_false hn8
  unfold openB
  rw [if_neg o1,if_pos (by omega)]
 have h8:=of_decide_eq_true hn8
 have o2:¬ 8≤b.fl.length:=by omega
 refine ⟨c.flt,At.own (eqS hw) (by exact ⟨rfl,trivial⟩),c.rows,sg,At.own (eqS hw) (by exact ⟨rfl,rfl,trivial⟩),sp,At.own (eqS hw) (by exact ⟨rfl,trivial⟩),?_⟩
 refine (fnew_spec' hg hp hw).use ?_
 clear hw
 rintro _ w (⟨hn,rfl,hw⟩|⟨hn,f,rfl,hw⟩)
 ·refine .inl ⟨none,1,rfl,mustE_c (fun h=>by cases h) (fun _=>.inr ⟨_,rfl,hX 1 w ?_ (close hw)⟩)⟩
  unfold openB
  rw [if_neg o1,if_neg o2,if_pos hn]
 have hopen:openB b c=({ b with fl:=kins Pl.n ⟨rnewF c.flt c.rows c.grps (limitsT (layN c.rows c.grps) c.parts).1,[]⟩ b.fl },openR c):=by
  unfold openB
  rw [if_neg o1,if_neg o2,if_neg (fun h=>h hn)]
 obtain ⟨r,hr⟩:∃ r,r=rnewF c.flt c.rows c.grps (limitsT (layN c.rows c.grps) c.parts).1:=⟨_,rfl⟩
 have hw:Sat R (LoneAt f r::MapAt m1 (fs.map flV)::pts p (bookC b m1 m2)::cmC b3 c sg sp::rpNew b4::MapAt m2 (xs.map bkV)::FlsAt fs::BksAt xs::Hs) w:=by
  rw [hr]
  exact Sat.lone.2 ⟨_,⟨tie_new,good_new hn⟩,hw⟩
 rw [←hr] at hopen
 refine .inl ⟨some ⟨f,0,none⟩,0,rfl,mustE_c (fun _=>.inl ⟨rfl,?_⟩) (fun h=>absurd rfl h)⟩
 refine drw_rule' (Sat R [cmC b3 c sg sp,pts p (bookC b m1 m2),VC.tru]) hw (fun w hw=>?_) fun w hw=>?_
 ·exact (hw.arr (Hs':=cmC b3 c sg sp::pts p (bookC b m1 m2)::LoneAt f r::MapAt m1 (fs.map flV)::rpNew b4::MapAt m2 (xs.map bkV)::FlsAt fs::BksAt xs::Hs)).cons fun _ h=>h.restTru2
 refine NilP.mk rfl ⟨some m1,At.own (fun _ h=>h) (by exact ⟨rfl,trivial⟩),c.flt,At.own (fun _ h=>h) (by exact ⟨rfl,trivial⟩),?_⟩
 refine (qnew_spec hw).use ?_
 clear hw
 rintro _ w ⟨q,rfl,hw⟩
 refine .inl ⟨_,rfl,?_,?_⟩
 ·exact (hw.arr (Hs':=cmC b3 c sg sp::pts p (bookC b m1 m2)::QuAt q []::LoneAt f r::MapAt m1 (fs.map flV)::rpNew b4::MapAt m2 (xs.map bkV)::FlsAt fs::BksAt xs::Hs)).cons fun _ h=>h.restTru2
 have hw:Sat R (MapAt m1 (fs.map flV)::LoneAt f r::QuAt q []::FlsAt fs::pts p (bookC b m1 m2)::cmC b3 c sg sp::rpNew b4::MapAt m2 (xs.map bkV)::BksAt xs::Hs) w:=hw.arr
 refine MapAt.put pMap hw c.flt (.agg #[.pointer (some ⟨f,0,none⟩),.pointer (some ⟨q,0,none⟩)]) fun w hw=>?_
 have hput:putM c.flt (.agg #[.pointer (some ⟨f,0,none⟩),.pointer (some ⟨q,0,none⟩)]) (fs.map flV)=(fs++[((f,q,⟨r,[]⟩):FE)]).map flV:=by
  unfold putM
  rw [hno]
  have:r.num=c.flt:=by rw [hr];rfl
  simp only [Option.isSome_none,Bool.false_eq_true,if_false,List.map_append,List.map_cons,List.map_nil,flV,Pl.n,this]
 rw [hput] at hw
 refine drw_rule' (Sat R [cmC b3 c sg sp,VC.tru]) hw (fun w hw=>?_) fun w hw=>?_
 ·exact (hw.arr (Hs':=cmC b3 c sg sp::MapAt m1 ((fs++[((f,q,⟨r,[]⟩):FE)]).map flV)::LoneAt f r::QuAt q []::FlsAt fs::pts p (bookC b m1 m2)::rpNew b4::MapAt m2 (xs.map bkV)::BksAt xs::Hs)).restTru2
 refine ⟨c.flt,At.own (fun _ h=>h) (by exact ⟨rfl,trivial⟩),?_⟩
 have hw:Sat R (LoneAt f r::MapAt m1 ((fs++[((f,q,⟨r,[]⟩):FE)]).map flV)::QuAt q []::FlsAt fs::pts p (bookC b m1 m2)::cmC b3 c sg sp::rpNew b4::MapAt m2 (xs.map bkV)::BksAt xs::Hs) w:=hw.swap
 refine (lone_left hw).use ?_
 clear hw
 rintro _ w ⟨sl,rfl,hw⟩
 refine .inl ⟨sl,rfl,?_,?_⟩
 ·exact (hw.arr (Hs':=cmC b3 c sg sp::Own sl 3 (intsI (rleftsF r))::LoneAt f r::MapAt m1 ((fs++[((f,q,⟨r,[]⟩):FE)]).map flV)::QuAt q []::FlsAt fs::pts p (bookC b m1 m2)::rpNew b4::MapAt m2 (xs.map bkV)::BksAt xs::Hs)).restTru2
 refine store_rule hw (by kernel_rfl) rfl (by simp [Value.cells]) fun w hw=>?_
 have hw:=hw.re (rpC b4 (openR c) sl nilSl)
 refine ⟨0,emS,0,c.flt,0,0,0,sl,nilSl,At.own (eqS hw) (by exact ⟨rfl,rfl,rfl,rfl,rfl,rfl,rfl,rfl,rfl,trivial⟩),?_⟩
 have hw:Sat R (Own sl 3 (intsI (rleftsF r))::pts p (bookC b m1 m2)::MapAt m1 ((fs++[((f,q,⟨r,[]⟩):FE)]).map flV)::MapAt m2 (xs.map bkV)::LoneAt f r::QuAt q []::FlsAt fs::BksAt xs::rpC b4 (openR c) sl nilSl::cmC b3 c sg sp::Hs) w:=hw.arr
 refine hK sl w (by rw [hopen]) ?_
 rw [hopen]
 dsimp only
 rw [←hr]
 refine hw.cons fun _ hw=>Sat.book.2 ⟨m1,m2,fs++[((f,q,⟨r,[]⟩):FE)],xs,⟨?_,hl.bk⟩,?_⟩
 ·rw [List.map_append]
  refine (List.perm_append_singleton _ _).trans (List.Perm.trans (hl.fl.cons _) kins_perm.symm)
 ·refine hw.cons fun _ h=>h.cons fun _ h=>h.cons fun _ h=>?_
  exact (FlsAt.snoc h).cons fun _ h=>h.cons fun _ h=>h.drop.drop
end Go.Proofs.YtflgboncpbmikaaGreatDoor

/- Chapter 18: BookingCodes. Condition: bounds on lengths. -/
namespace Go.Proofs.YtflgboncpbmikaaGreatDoor
set_option linter.unusedVariables false
set_option linter.unusedSimpArgs false
open Go Go.VC
open Classical
variable {R:Cx} {Hs Rest:List HP} {w:World}
theorem cmDec_ok {bs:List Int} (hb:Bytes bs):FltC (cmDec bs).1∧(cmDec bs).1.grps.length≤16∧(cmDec bs).1.parts.length≤16:=by
 unfold cmDec
 split
 ·rename_i h
  refine ⟨?_,h.2.gl,h.2.pl⟩
  have b1:=rdNum_bd (most:=9) (rd:=⟨bs,false⟩) hb
  have b2:=strRd_bd (most:=16) b1
  have b3:=hd2_bd b2
  have b4:=fltRd_bd b3
  have b5:=strRd_bd (most:=16) b4
  have b6:=rdNum_bd (most:=9999) b5
  have b7:=rdNum_bd (most:=16) b6
  have b8:=(rdEach_inv (one:=rdNum 9999) (P:=fun r=>Bytes r.bs) (Q:=fun _=>True) (fun r hr=>⟨trivial,rdNum_bd hr⟩) (rdNum 16 (rdNum 9999 (strRd 16 (fltRd (hd2 (strRd 16 (rdNum 9 ⟨bs,false⟩).2).2).2).2).2).2).1.toNat b7).2
  have b9:=rdNum_bd (most:=16) b8
  rw [cmRd_hd]
  exact ⟨fltRd_lt b3,(rdEach_inv (one:=fltRd) (P:=fun r=>Bytes r.bs) (Q:=fun x=>x<18446744073709551616) (fun r hr=>⟨fltRd_lt hr,fltRd_bd hr⟩) _ b9).1⟩
 ·exact ⟨⟨by show 0<18446744073709551616;omega,fun x hx=>by cases hx⟩,by show 0≤16;omega,by show 0≤16;omega⟩
end Go.Proofs.YtflgboncpbmikaaGreatDoor

/- ROW: from a reading of an argument to what the contracts ask; from a walk's end to 'Below'. No condition. -/
namespace Go.VC
set_option linter.unusedVariables false
set_option linter.unusedSimpArgs false
open Go.ChangeShapes Go.WideShapes Go.ChangeAt Go.RowKit
theorem below_of {W W':World} {Hs:List HP} (h:Sat (Cx.of W) Hs W'):Below W.heap.size W W':=by
 obtain ⟨h1,h2,h3⟩:=h.streams
 have hb:∀ k,k<W.heap.size→W'.heap[k]? =W.heap[k]?:=fun k hk=>by
  have:(Cx.of W).m k=some W.heap[k]:=by simp [Cx.of,hk]
  rw [h.of_ro this];simp [hk]
 refine ⟨h1,h2,h3,?_,hb⟩
 rcases Nat.lt_or_ge W'.heap.size W.heap.size with hl|hl
 ·have:=hb W'.heap.size hl
  rw [Array.getElem?_eq_none (Nat.le_refl _)] at this
  simp [hl] at this
 ·exact hl
theorem block_of_cell {w:World} {a:Addr} {v:Value} (h:w.cell? a=some v):a.spot=none∧∃ l T fr,w.heap[a.block]? =some (.cells l T fr)∧l[a.off]? =some v:=by
 unfold World.cell? at h
 split at h
 ·rename_i c T fr hb
  split at h
  ·cases h
  ·rename_i hs
   exact ⟨by simpa using hs,c,T,fr,hb,h⟩
 ·cases h
section
variable {H:Type} {enc:TypeId × Value→H} {P:Program} {W:World} {base:Nat} {spare:Nat→Bool} {held:Bool}
end
end Go.VC

/- ROW, part 3: arguments of any plain type (integers, bools, floats, strings, slices, structs, arrays of such), read as trees. No condition. -/
namespace Go.VC
set_option linter.unusedVariables false
set_option linter.unusedSimpArgs false
open Go.ChangeShapes Go.WideShapes Go.ChangeAt Go.RowKit
inductive Tr where
 |int (k:IntKind) (n:Int)|bool (b:Bool)|flt (n:Nat)|str (s:ByteArray)|sl (s:Sl) (xs:List Tr)|st (xs:List Tr)
mutual
def Tr.cells:Tr→List Value
 | .int k n=>[.int k n]
 | .bool b=>[.bool b]
 | .flt n=>[.float .f64 n]
 | .str s=>[.string s]
 | .sl s _=>[.slice s.a s.len s.cap]
 | .st xs=>Tr.cellsL xs
def Tr.cellsL:List Tr→List Value
 |[]=>[]
 |x::xs=>x.cells++Tr.cellsL xs
end
inductive U where
 |int (k:IntKind)|bool|flt|str|sl (u:U)|st (us:List U)
mutual
def U.size:U→Nat
 | .st us=>U.sizeL us
 |_=>1
def U.sizeL:List U→Nat
 |[]=>0
 |u::us=>u.size + U.sizeL us
end
mutual
def Tr.Ok (R:Cx):U→Tr→Prop
 | .int k,.int k' n=>k'=k∧(Lit.int k n).wf=true
 | .bool,.bool _=>True
 | .flt,.flt n=>(Lit.float .f64 n).wf=true
 | .str,.str s=>s.size≤maxLen
 | .sl u,.sl s xs=>(RoN u.size R s (xs.map Tr.cells)∧s.len≤s.cap)∧xs.length≤maxLen∧Tr.OkA R u xs
 | .st us,.st xs=>Tr.OkL R us xs
 |_,_=>False
def Tr.OkA (R:Cx) (u:U):List Tr→Prop
 |[]=>True
 |x::xs=>Tr.Ok R u x∧Tr.OkA R u xs
def Tr.OkL (R:Cx):List U→List Tr→Prop
 |[],[]=>True
 |u::us,x::xs=>Tr.Ok R u x∧Tr.OkL R us xs
 |_,_=>False
end
theorem Tr.okA {R:Cx} {u:U}:∀ {xs:List Tr},Tr.OkA R u xs→∀ x∈xs,Tr.Ok R u x
 |[],_,x,hx=>by cases hx
 |y::ys,h,x,hx=>by
  unfold Tr.OkA at h
  rcases List.mem_cons.1 hx with rfl|hx
  ·exact h.1
  ·exact Tr.okA h.2 x hx
theorem Tr.okA_mk {R:Cx} {u:U}:∀ {xs:List Tr},(∀ x∈xs,Tr.Ok R u x)→Tr.OkA R u xs
 |[],_=>by unfold Tr.OkA;trivial
 |y::ys,h=>by
  unfold Tr.OkA
  exact ⟨h y List.mem_cons_self,Tr.okA_mk fun x hx=>h x (List.mem_cons_of_mem _ hx)⟩
def fieldsU (P:Program) (f:TypeId→Option U):Nat→List Field→Option (List U)
 |_,[]=>some []
 |off,x::xs=>match Nat.beq x.offset off with
  |false=>none
  |true=>match f x.type with
   |none=>none
   |some u=>match Nat.beq (P.cellsOf x.type) u.size with
    |false=>none
    |true=>match fieldsU P f (off + u.size) xs with
     |none=>none
     |some us=>some (u::us)
def uOf (P:Program):Nat→TypeId→Option U
 |0,_=>none
 |d + 1,t=>match P.underlying t with
  |some (.int k)=>some (.int k)
  |some .bool=>some .bool
  |some (.float .f64)=>some .flt
  |some .string=>some .str
  |some (.slice e)=>match uOf P d e with
   |some u=>(match Nat.beq (P.cellsOf e) u.size && Nat.blt 0 u.size with|true=>some (.sl u)|false=>none)
   |none=>none
  |some (.struct fs)=>match fieldsU P (uOf P d) 0 fs.toList with
   |some us=>(match Nat.beq (P.cellsOf t) (U.sizeL us) with|true=>some (.st us)|false=>none)
   |none=>none
  |some (.array n e)=>match uOf P d e with
   |some u=>(match Nat.beq (P.cellsOf e) u.size && Nat.beq (P.cellsOf t) (n * u.size) with|true=>some (.st (List.replicate n u))|false=>none)
   |none=>none
  |_=>none
section
variable {H:Type} {enc:TypeId × Value→H} {P:Program} {W:World} {base:Nat} {spare:Nat→Bool} {held:Bool}
def IsTr (R:Cx) (u:U) (cs:List Value):Prop:=∃ x:Tr,x.cells=cs∧x.Ok R u
theorem cells?_cell {w:World} {base:Nat} {a:Addr} {n:Nat} {cs:List Value} (h:w.cells? base a n=some cs):cs.length=n∧∀ i,i<n→w.cell? (a.add i)=cs[i]?:=by
 unfold World.cells? at h
 split at h
 ·refine ⟨by have:=mapM_some_length h;simpa using this,fun i hi=>mapM_some_get h i i (by simp [hi])⟩
 ·cases h
theorem add_add (a:Addr) (i j:Nat) (hs:a.spot=none):(a.add i).add j=⟨a.block,a.off + (i + j),none⟩:=by
 obtain ⟨b,o,s⟩:=a
 simp only at hs
 subst hs
 rw [add_off,add_off,Nat.add_assoc]
theorem fields_read {d:Nat} (ih:∀ {fuel:Nat} {t:TypeId} {cs:List Value} {y:DataW H × List MemPlace} {u:U},uOf P d t=some u→DataW.trod enc P W base spare held fuel t cs=some y→IsTr (Cx.of W) u cs) {n:Nat} {cs:List Value} {xs:List (DataW H × List MemPlace)}:
  ∀ (fs:List Field) (off:Nat) (us:List U),fieldsU P (uOf P d) off fs=some us→(∀ (i:Nat) (f:Field),fs[i]? =some f→∃ y,DataW.trod enc P W base spare held n f.type ((cs.drop f.offset).take (P.cellsOf f.type))=some y)→
   off + U.sizeL us≤cs.length→∃ ts:List Tr,Tr.cellsL ts=(cs.drop off).take (U.sizeL us)∧Tr.OkL (Cx.of W) us ts
 |[],off,us,h,_,_=>by
  simp only [fieldsU,Option.some.injEq] at h
  subst h
  exact ⟨[],by simp [Tr.cellsL,U.sizeL],by unfold Tr.OkL;trivial⟩
 |f::fs,off,us,h,hf,hl=>by
  unfold fieldsU at h
  split at h
  ·cases h
  rename_i hoff
  have hoff:=Nat.eq_of_beq_eq_true hoff
  split at h
  ·cases h
  rename_i u hu
  split at h
  ·cases h
  rename_i hc
  have hc:=Nat.eq_of_beq_eq_true hc
  split at h
  ·cases h
  rename_i us' hus
  cases h
  simp only [U.sizeL] at hl ⊢
  obtain ⟨y,hy⟩:=hf 0 f rfl
  obtain ⟨x,hx,hxo⟩:=ih hu hy
  obtain ⟨ts,hts,htso⟩:=fields_read ih (n:=n) (xs:=xs) fs (off + u.size) us' hus (fun i g hg=>hf (i + 1) g (by simpa using hg)) (by omega)
  refine ⟨x::ts,?_,by unfold Tr.OkL;exact ⟨hxo,htso⟩⟩
  simp only [Tr.cellsL]
  rw [hx,hts,hoff,hc,List.take_add,List.drop_drop]
theorem reps_read {u:U} {n s:Nat}:∀ {m:Nat} {cs:List Value},cs.length=m * s→u.size=s→(∀ i,i<m→IsTr (Cx.of W) u ((cs.drop (i * s)).take s))→∃ ts:List Tr,Tr.cellsL ts=cs∧Tr.OkL (Cx.of W) (List.replicate m u) ts
 |0,cs,hl,_,_=>by
  have:cs=[]:=List.length_eq_zero_iff.1 (by simpa using hl)
  subst this
  exact ⟨[],rfl,by unfold Tr.OkL;trivial⟩
 |m + 1,cs,hl,hs,h=>by
  obtain ⟨x,hx,hxo⟩:=h 0 (by omega)
  obtain ⟨ts,hts,htso⟩:=reps_read (n:=n) (m:=m) (cs:=cs.drop s) (by rw [List.length_drop,hl,Nat.add_mul];omega) hs (fun i hi=>by
   have:=h (i + 1) (by omega)
   rw [Nat.add_mul,Nat.one_mul,Nat.add_comm,←List.drop_drop] at this
   exact this)
  refine ⟨x::ts,?_,by rw [List.replicate_succ];unfold Tr.OkL;exact ⟨hxo,htso⟩⟩
  simp only [Tr.cellsL]
  rw [hx,hts]
  simp
theorem choose_list {α β:Type} {p:Nat→α→Prop}:∀ {n:Nat},(∀ i,i<n→∃ x:α,p i x)→∃ xs:List α,xs.length=n∧∀ i (hi:i<xs.length),p i xs[i]
 |0,_=>⟨[],rfl,fun i hi=>by simp at hi⟩
 |n + 1,h=>by
  obtain ⟨xs,hl,hp⟩:=choose_list (β:=β) (n:=n) fun i hi=>h i (by omega)
  obtain ⟨x,hx⟩:=h n (by omega)
  refine ⟨xs++[x],by simp [hl],fun i hi=>?_⟩
  by_cases h2:i<xs.length
  ·rw [List.getElem_append_left h2];exact hp i h2
  ·have:i=n:=by simp at hi;omega
   subst this
   rw [List.getElem_append_right (by omega)]
   simpa using hx
theorem trod_f64 {fuel:Nat} {t:TypeId} {cs:List Value} {x:DataW H × List MemPlace} (ht:P.underlying t=some (.float .f64)) (h:DataW.trod enc P W base spare held fuel t cs=some x):∃ n,cs=[.float .f64 n]∧(Lit.float .f64 n).wf=true:=by
 cases fuel with
 |zero=>simp [DataW.trod] at h
 |succ n=>
  unfold DataW.trod at h
  rw [ht] at h
  split at h<;>simp_all
theorem tr_read:∀ {d fuel:Nat} {t:TypeId} {cs:List Value} {y:DataW H × List MemPlace} {u:U},uOf P d t=some u→DataW.trod enc P W base spare held fuel t cs=some y→IsTr (Cx.of W) u cs
 |0,_,_,_,_,_,h,_=>by cases h
 |d + 1,fuel,t,cs,y,u,h,hy=>by
  unfold uOf at h
  split at h
  ·rename_i k ht
   cases h
   obtain ⟨n,rfl,_,hw⟩:=DataW.trod_int ht hy
   exact ⟨.int k n,rfl,rfl,hw⟩
  ·rename_i ht
   cases h
   obtain ⟨b,rfl,_⟩:=DataW.trod_bool ht hy
   exact ⟨.bool b,rfl,by unfold Tr.Ok;trivial⟩
  ·rename_i ht
   cases h
   obtain ⟨n,rfl,hn⟩:=trod_f64 ht hy
   exact ⟨.flt n,rfl,by unfold Tr.Ok;exact hn⟩
  ·rename_i ht
   cases h
   obtain ⟨s,rfl,_,hs⟩:=DataW.trod_string ht hy
   exact ⟨.str s,rfl,hs⟩
  ·rename_i e ht
   split at h
   case h_2=>cases h
   rename_i ue hue
   split at h
   case h_2=>cases h
   rename_i hc
   simp only [Bool.and_eq_true] at hc
   have hpos:0<ue.size:=Nat.blt_eq.mp hc.2
   have hc:=Nat.eq_of_beq_eq_true hc.1
   cases h
   rcases DataW.trod_slice ht hy with ⟨rfl,_⟩|⟨a,len,cap,elems,rest,n,_,rfl,_,_,hlc,hcm,hel,helem,_,_⟩
   ·refine ⟨.sl ⟨none,0,0⟩ [],rfl,?_⟩
    unfold Tr.Ok
    exact ⟨⟨⟨Wid.nil,rfl,fun h=>absurd rfl h⟩,Nat.le_refl _⟩,Nat.zero_le _,by unfold Tr.OkA;trivial⟩
   ·obtain ⟨xs,hxl,hxs⟩:=choose_list (β:=Unit) (p:=fun i (x:Tr)=>W.cells? base (a.add (i * P.cellsOf e)) (P.cellsOf e)=some x.cells∧x.Ok (Cx.of W) ue) (n:=len) fun i hi=>by
     have h1:=helem i hi
     rw [List.getElem?_eq_getElem (by omega)] at h1
     obtain ⟨ce,hce,hte⟩:=Option.bind_eq_some_iff.1 h1
     obtain ⟨x,rfl,hx⟩:=tr_read hue hte
     exact ⟨x,hce,hx⟩
    refine ⟨.sl ⟨some a,len,cap⟩ xs,rfl,?_⟩
    unfold Tr.Ok
    have hwid:Wid ue.size (xs.map Tr.cells):=fun r hr=>by
     obtain ⟨x,hx,rfl⟩:=List.mem_map.1 hr
     obtain ⟨i,hi,rfl⟩:=List.getElem_of_mem hx
     have:=(cells?_cell (hxs i hi).1).1
     rw [this,hc]
    refine ⟨⟨⟨hwid,by simp [hxl],fun hne=>?_⟩,hlc⟩,by omega,Tr.okA_mk fun x hx=>by obtain ⟨i,hi,rfl⟩:=List.getElem_of_mem hx;exact (hxs i hi).2⟩
    -- the block
    have h0:0<xs.length:=by
     have:0<(xs.map Tr.cells).length:=List.length_pos_iff.2 hne
     simpa using this
    have hcell:∀ i (hi:i<xs.length) j,j<ue.size→W.cell? ((a.add (i * ue.size)).add j)=(xs[i].cells)[j]?:=fun i hi j hj=>by
     have:=(cells?_cell (hxs i hi).1).2 j (by rw [hc];exact hj)
     rw [hc] at this;exact this
    have hxl0:∀ i (hi:i<xs.length),(xs[i].cells).length=ue.size:=fun i hi=>by rw [(cells?_cell (hxs i hi).1).1,hc]
    have hc0:=hcell 0 h0 0 (by omega)
    rw [List.getElem?_eq_getElem (by rw [hxl0 0 h0];omega)] at hc0
    have hz0:(a.add (0 * ue.size)).add 0=a:=by rw [Nat.zero_mul];simp [Addr.add]
    rw [hz0] at hc0
    obtain ⟨hs,l,T,fr,hl,_⟩:=block_of_cell hc0
    refine ⟨a.block,a.off,l,T,fr,by cases a;simp_all,hl,fun i v hv=>?_⟩
    -- which row, which place
    have hlen:=hwid.len
    rw [List.length_map] at hlen
    have hi:i<(xs.map Tr.cells).flatten.length:=(List.getElem?_eq_some_iff.1 hv).1
    have hq:i / ue.size<xs.length:=by
     rw [hlen] at hi;exact Nat.div_lt_of_lt_mul (by rwa [Nat.mul_comm])
    have hm:i % ue.size<ue.size:=Nat.mod_lt _ (by omega)
    have hcc:=hcell (i / ue.size) hq (i % ue.size) hm
    rw [add_add a _ _ hs,show i / ue.size * ue.size + i % ue.size=i by rw [Nat.mul_comm];exact Nat.div_add_mod _ _] at hcc
    have e1:(xs.map Tr.cells).flatten[i]? =(xs[i / ue.size].cells)[i % ue.size]?:=by
     have h1:i=i / ue.size * ue.size + i % ue.size:=by rw [Nat.mul_comm];exact (Nat.div_add_mod _ _).symm
     conv=>lhs;rw [h1]
     rw [←List.getElem?_drop,hwid.drop_flat,List.drop_eq_getElem_cons (by simpa using hq),List.flatten_cons,List.getElem?_append_left (by rw [List.getElem_map,hxl0 _ hq];exact hm),List.getElem_map]
    rw [←e1,hv] at hcc
    simp only [World.cell?,hl,Option.isSome_none,Bool.false_eq_true,if_false] at hcc
    exact hcc
  ·rename_i fs ht
   split at h
   case h_2=>cases h
   rename_i us hus
   split at h
   case h_2=>cases h
   rename_i hc
   have hc:=Nat.eq_of_beq_eq_true hc
   cases h
   obtain ⟨xs,n,_,_,hl,hxl,hf⟩:=DataW.trod_struct ht hy
   obtain ⟨ts,hts,hto⟩:=fields_read (d:=d) (fun h h2=>tr_read h h2) (n:=n) (cs:=cs) (xs:=xs) fs.toList 0 us hus (fun i f hfi=>by
    have hfi2:fs[i]? =some f:=by simpa using hfi
    have hlt:i<xs.length:=by rw [hxl];exact (Array.getElem?_eq_some_iff.1 hfi2).1
    exact ⟨xs[i],by rw [hf i f hfi2];exact List.getElem?_eq_getElem hlt⟩) (by omega)
   refine ⟨.st ts,?_,by unfold Tr.Ok;exact hto⟩
   unfold Tr.cells
   rw [hts,List.drop_zero,List.take_of_length_le (by omega)]
  ·rename_i m e ht
   split at h
   case h_2=>cases h
   rename_i ue hue
   split at h
   case h_2=>cases h
   rename_i hc
   simp only [Bool.and_eq_true] at hc
   have hc1:=Nat.eq_of_beq_eq_true hc.1
   have hc2:=Nat.eq_of_beq_eq_true hc.2
   cases h
   obtain ⟨xs,n,_,_,hl,hxl,hf⟩:=DataW.trod_array ht hy
   obtain ⟨ts,hts,hto⟩:=reps_read (n:=n) (u:=ue) (s:=ue.size) (m:=m) (cs:=cs) (by rw [hl,hc2]) rfl (fun i hi=>by
    have:=hf i hi
    rw [hc1,List.getElem?_eq_getElem (by omega)] at this
    exact tr_read hue this)
   exact ⟨.st ts,by unfold Tr.cells;exact hts,by unfold Tr.Ok;exact hto⟩
  ·cases h
theorem tr_arg {d:Nat} {t:TypeId} {v:Value} {dt:DataW H} {p:List MemPlace} {u:U} (hu:uOf P d t=some u) (h:DataW.Trod enc P W base spare held t v dt p):IsTr (Cx.of W) u v.cells.toList:=by
 obtain ⟨fuel,hf⟩:=h
 exact tr_read hu hf
theorem sl_form {α:Type} {R:Cx} {u:U} {s:Sl} {xs:List Tr} (g:α→List Value) (Q:α→Prop) (ho:Tr.Ok R (.sl u) (.sl s xs)) (h:∀ x:Tr,x.Ok R u→∃ e:α,x.cells=g e∧Q e):
  ∃ es:List α,RoN u.size R s (es.map g)∧es.length≤maxLen∧∀ e∈es,Q e:=by
 unfold Tr.Ok at ho
 obtain ⟨⟨h1,_⟩,h2,h3⟩:=ho
 have key:∀ l:List Tr,(∀ x∈l,x.Ok R u)→∃ es:List α,l.map Tr.cells=es.map g∧es.length=l.length∧∀ e∈es,Q e:=fun l=>by
  induction l with
  |nil=>exact fun _=>⟨[],rfl,rfl,fun _ h=>by cases h⟩
  |cons x l ih=>
   intro hl
   obtain ⟨es,h1,h2,h3⟩:=ih fun y hy=>hl y (List.mem_cons_of_mem _ hy)
   obtain ⟨e,he,hq⟩:=h x (hl x List.mem_cons_self)
   exact ⟨e::es,by rw [List.map_cons,List.map_cons,he,h1],by simp [h2],fun y hy=>by
    rcases List.mem_cons.1 hy with rfl|hy
    ·exact hq
    ·exact h3 y hy⟩
 obtain ⟨es,e1,e2,e3⟩:=key xs (Tr.okA h3)
 rw [e1] at h1
 exact ⟨es,h1,by omega,e3⟩
theorem sl_cap {R:Cx} {u:U} {s:Sl} {xs:List Tr} (ho:Tr.Ok R (.sl u) (.sl s xs)):s.len≤s.cap:=by
 unfold Tr.Ok at ho
 exact ho.1.2
theorem RoN.one {R:Cx} {s:Sl} {vs:List Value} (h:RoN 1 R s (vs.map fun v=>[v])) (hb:vs.length≤maxLen):Ro R s vs:=by
 refine ⟨by have:=h.len;simpa using this,by unfold maxLen at hb;omega,fun hne=>?_⟩
 obtain ⟨b,off,l,T,fr,h1,h2,h3⟩:=h.mem (by simpa using hne)
 refine ⟨b,off,l,T,fr,h1,h2,fun i v hv=>h3 i v ?_⟩
 have:(vs.map fun v=>[v]).flatten=vs:=by
  clear h3 h hb hne hv
  induction vs with
  |nil=>rfl
  |cons v vs ih=>simp [ih]
 rw [this];exact hv
theorem ints_form {R:Cx} {k:IntKind} {s:Sl} {xs:List Tr} (ho:Tr.Ok R (.sl (.int k)) (.sl s xs)):∃ zs:List Int,Ro R s (zs.map (Value.int k))∧zs.length≤maxLen∧∀ z∈zs,(Lit.int k z).wf=true:=by
 obtain ⟨zs,h1,h2,h3⟩:=sl_form (fun z:Int=>[Value.int k z]) (fun z=>(Lit.int k z).wf=true) ho fun x hx=>by
  cases x<;>simp only [Tr.Ok] at hx
  rename_i k' z
  obtain ⟨rfl,hw⟩:=hx
  exact ⟨z,rfl,hw⟩
 refine ⟨zs,RoN.one ?_ (by simpa using h2),h2,h3⟩
 rw [List.map_map]
 exact h1
end
end Go.VC

/- SL, part 18: a range over a map of one's own, in whatever order. No condition. -/
namespace Go.VC
set_option linter.unusedVariables false
set_option linter.unusedSimpArgs false
theorem filter_push {α:Type} {l:List (En α)} {seen:Array Nat} {a b:List (En α)} {x:En α} (hn:(l.map (·.2.2)).Nodup) (h:l.filter (fun e=>!seen.contains e.2.2)=a++x::b):l.filter (fun e=>!(seen.push x.2.2).contains e.2.2)=a++b:=by
 have e1:l.filter (fun e=>!(seen.push x.2.2).contains e.2.2)=(l.filter fun e=>!seen.contains e.2.2).filter fun e=>!decide (e.2.2=x.2.2):=by
  rw [List.filter_filter]
  refine List.filter_congr fun y _=>?_
  rw [Array.contains_push,Bool.not_or,Bool.and_comm]
  congr 1
 rw [e1,h,List.filter_append,List.filter_cons]
 have hnd:((a++x::b).map (·.2.2)).Nodup:=by
  rw [←h]
  exact ((List.filter_sublist.map _).nodup hn)
 rw [List.map_append,List.map_cons,List.nodup_append,List.nodup_cons] at hnd
 rw [if_neg (by simp)]
 rw [List.filter_eq_self.2,List.filter_eq_self.2]
 ·intro y hy
  have:¬ y.2.2=x.2.2:=fun e=>hnd.2.1.1 (by rw [←e];exact List.mem_map.2 ⟨y,hy,rfl⟩)
  simpa using this
 ·intro y hy
  have:¬ y.2.2=x.2.2:=fun e=>hnd.2.2 _ (List.mem_map.2 ⟨y,hy,rfl⟩) x.2.2 (by simp) e
  simpa using this
def itLeft (r m:Nat) (w:World):Nat:=match w.heap[r]? with
 |some (.mapIter _ _ seen _)=>(match w.heap[m]? with
  |some (.map es _)=>(leftOf es seen).size
  |_=>0)
 |_=>0
section
variable {α:Type} [BEq α] [KeyK α] {P:Program} {R:Cx} {Hs:List HP} {w:World}
def ItAt (r m:Nat) (es left:List (α × Value)):HP:=exs fun l:List (En α)=>exs fun c:Nat=>exs fun seen:Array Nat=>
 Star [pur (strip l=es∧StampsOk l c∧strip (l.filter fun e=>!seen.contains e.2.2)=left),pts r (.mapIter (some m) c seen c),pts m (.map (l.map mkE).toArray c)]
theorem ItAt.iff {r m:Nat} {es left:List (α × Value)}:Sat R (ItAt r m es left::Hs) w↔∃ (l:List (En α)) (c:Nat) (seen:Array Nat),(strip l=es∧StampsOk l c∧strip (l.filter fun e=>!seen.contains e.2.2)=left)∧
  Sat R (pts r (.mapIter (some m) c seen c)::pts m (.map (l.map (mkE (α:=α))).toArray c)::Hs) w:=by
 unfold ItAt
 simp only [Sat.exs]
 constructor
 ·rintro ⟨l,c,seen,h⟩
  obtain ⟨h1,h2⟩:=Sat.pur.1 (Sat.star.1 h)
  exact ⟨l,c,seen,h1,h2⟩
 ·rintro ⟨l,c,seen,h1,h2⟩
  exact ⟨l,c,seen,Sat.star.2 (Sat.pur.2 ⟨h1,h2⟩)⟩
theorem ItAt.map {r m:Nat} {es left:List (α × Value)} (hw:Sat R (ItAt r m es left::Hs) w):Sat R (MapAt m es::Hs) w:=by
 obtain ⟨l,c,seen,⟨h1,h2,_⟩,hw⟩:=ItAt.iff.1 hw
 exact MapAt.iff.2 ⟨l,c,h1,h2,hw.drop⟩
theorem range_rule {T K E:TypeId} {m:Nat} {es:List (α × Value)} {Q:Option Addr→World→Prop} (hT:P.underlying T=some (.map K E)) (hw:Sat R (MapAt m es::Hs) w) (k:∀ r w',Sat R (ItAt r m es es::Hs) w'→Q (some ⟨r,0,none⟩) w'):
  ∃ w':World,∃ t:Option Addr,((Instr.range T (.map (some m))).run P w=.ok (.pointer t) w')∧Q t w':=by
 obtain ⟨l,c,h1,h2,hw⟩:=MapAt.iff.1 hw
 have hat:=hw.at
 refine ⟨w.alloc (.mapIter (some m) c #[] c),some ⟨w.heap.size,0,none⟩,?_,k _ _ (ItAt.iff.2 ⟨l,c,#[],⟨h1,h2,?_⟩,Sat.alloc _ hw⟩)⟩
 ·simp [Instr.range,run_underlying hT,getObj,Sem.run_bind,Sem.run,hat,Result.andThen]
 ·rw [show (l.filter fun e=>!(#[]:Array Nat).contains e.2.2)=l from List.filter_eq_self.2 (fun x _=>by simp)]
  exact h1
theorem itLeft_eq {r m:Nat} {es left:List (α × Value)} (hw:Sat R (ItAt r m es left::Hs) w):itLeft r m w=left.length:=by
 obtain ⟨l,c,seen,⟨h1,h2,h3⟩,hw⟩:=ItAt.iff.1 hw
 have hr:=hw.at
 have hm:=hw.swap.at
 unfold itLeft
 rw [hr]
 dsimp only
 rw [hm]
 dsimp only
 rw [←h3,←Array.length_toList]
 unfold leftOf strip
 rw [Array.toList_filter,List.length_map]
 have:∀ l:List (En α),((l.map mkE).filter fun e=>!seen.contains e.born).length=(l.filter fun e=>!seen.contains e.2.2).length:=fun l=>by
  rw [List.filter_map,List.length_map]
  rfl
 exact this l
theorem next_cases {r m:Nat} {T:TypeId} {es left:List (α × Value)} (hw:Sat R (ItAt r m es left::Hs) w):
  (left=[]∧(Instr.next (.pointer (some ⟨r,0,none⟩)) false T).run P w=.ok (.tuple #[.bool false]) w)∨
  ∃ a k v b w',left=a++(k,v)::b∧(Instr.next (.pointer (some ⟨r,0,none⟩)) false T).run P w=.ok (.tuple #[.bool true,KeyK.enc k,v]) w'∧(Instr.entry (.pointer (some ⟨r,0,none⟩))).run P w'=.ok (.tuple #[KeyK.enc k,v]) w'∧Sat R (ItAt r m es (a++b)::Hs) w':=by
 obtain ⟨l,c,seen,⟨h1,h2,h3⟩,hw⟩:=ItAt.iff.1 hw
 have hr:=hw.at
 have hm:=hw.swap.at
 rcases run_next_at (P:=P) w T r m c c seen (l.map mkE).toArray c hr hm (fun x hx=>by
   obtain ⟨e,he,rfl⟩:=List.mem_map.1 (show x∈l.map mkE from hx)
   exact h2.1 e he) (Nat.le_refl _) with ⟨h0,hrun⟩|⟨e,he,w1,hw1,hrun⟩
 ·left
  refine ⟨?_,hrun⟩
  rw [←h3]
  have:(l.filter fun e=>!seen.contains e.2.2)=[]:=by
   rw [List.filter_eq_nil_iff]
   intro x hx hn
   have hmem:mkE x∈(leftOf (l.map mkE).toArray seen).toList:=by
    unfold leftOf
    simp only [Array.toList_filter,List.mem_filter,List.mem_map]
    exact ⟨⟨x,hx,rfl⟩,hn⟩
   have:0<(leftOf (l.map mkE).toArray seen).toList.length:=List.length_pos_of_mem hmem
   rw [Array.length_toList] at this
   omega
  rw [this];rfl
 ·right
  have hx:∃ x∈l,e=mkE x∧(!seen.contains x.2.2)=true:=by
   unfold leftOf at he
   simp only [Array.toList_filter,List.mem_filter,List.mem_map] at he
   obtain ⟨⟨x,hx,rfl⟩,hn⟩:=he
   exact ⟨x,hx,rfl,hn⟩
  obtain ⟨x,hxl,rfl,hn⟩:=hx
  obtain ⟨a,b,hab⟩:=List.append_of_mem (List.mem_filter.2 ⟨hxl,hn⟩:x∈l.filter fun e=>!seen.contains e.2.2)
  have hw2:Sat R (pts r (.mapIter (some m) c seen c)::pts m (.map (l.map (mkE (α:=α))).toArray c)::Hs) w1:=by
   rcases hw1 with rfl|rfl
   ·exact hw
   ·exact hw.drew
  have hw3:=hw2.setPts (.mapIter (some m) c (seen.push x.2.2) c)
  refine ⟨strip a,x.1,x.2.1,strip b,_,?_,hrun,?_,?_⟩
  ·rw [←h3,hab]
   unfold strip
   rw [List.map_append,List.map_cons]
  ·exact run_entry_at (P:=P) _ r m c seen (l.map mkE).toArray c (mkE x) hw3.at hw3.swap.at (show mkE x∈l.map mkE from List.mem_map.2 ⟨x,hxl,rfl⟩) (by
    have e:((l.map mkE).map fun e:MapEntry=>e.born)=l.map (·.2.2):=by rw [List.map_map];rfl
    show ((l.map mkE).map fun e:MapEntry=>e.born).Nodup
    rw [e];exact h2.2)
  ·refine ItAt.iff.2 ⟨l,c,seen.push x.2.2,⟨h1,h2,?_⟩,hw3⟩
   rw [filter_push h2.2 hab]
   unfold strip
   rw [List.map_append]
end
end Go.VC
/- SL, part 19: rows of n cells: copy, append of zeros where there is no room, taking a part out. Condition: bounds on lengths. -/
namespace Go.VC
set_option linter.unusedVariables false
set_option linter.unusedSimpArgs false
open Go Go.RowKit
theorem run_copy_n {P:Program} {n:Nat} (w:World) (dT sT ty elem:TypeId) (b o dLen dCap:Nat) (a:Addr) (sLen sCap:Nat) (cs:List Value)
  (hu:P.underlying dT=some (.slice elem)) (hs:(P.info? elem).map (·.size)=some n) (hn:cs.length=Nat.min sLen dLen * n)
  (hsrc:∀ j v,cs[j]? =some v→w.cell? (a.add j)=some v) (hc:∀ j,j<cs.length→(w.cell? ⟨b,o + j,none⟩).isSome=true) (hf:∀ j,j<cs.length→w.frozen? ⟨b,o + j,none⟩=false) (h1:∀ v∈cs,v.oneCell'=true):
  (Builtin.copy_ #[dT,sT] ty #[.slice (some ⟨b,o,none⟩) dLen dCap,.slice (some a) sLen sCap]).run P w=.ok (goInt (Nat.min sLen dLen)) (w.setCells b o cs):=by
 have hl:=run_loadCells_list (P:=P) w a cs hsrc
 have hst:=run_storeCells_cells (P:=P) b o cs 0 w (by simpa using hc) (by simpa using hf) h1
 cases hq:P.info? elem with
 |none=>simp [hq] at hs
 |some i=>
  have hi:i.size=n:=by simpa [hq] using hs
  simp [Builtin.copy_,run_underlying hu,Builtin.lenOf,Builtin.firstCells,sizeOf,typeInfo,hq,hi,←hn,hl,hst]
theorem run_clear_n {P:Program} {n m:Nat} (w:World) (t e ty:TypeId) (z:Value) (ht:P.underlying t=some (.slice e)) (hv:∀ w,(zeroValue e).run P w=.ok z w) (hz:z.cells.size=n) (h1:∀ v∈(Builtin.zeroCells z.cells m).toList,v.oneCell'=true) (b o c:Nat) (hm:0<m)
  (hc:∀ j,j<m * n→(w.cell? ⟨b,o + j,none⟩).isSome=true) (hf:∀ j,j<m * n→w.frozen? ⟨b,o + j,none⟩=false):
  (Builtin.clear_ #[t] ty #[.slice (some ⟨b,o,none⟩) m c]).run P w=.ok (.tuple #[]) (w.setCells b o (Builtin.zeroCells z.cells m).toList):=by
 have hl:(Builtin.zeroCells z.cells m).toList.length=m * n:=by simp [Builtin.zeroCells,hz]
 have hst:=run_storeCells_cells (P:=P) b o (Builtin.zeroCells z.cells m).toList 0 w (by rw [hl];simpa using hc) (by rw [hl];simpa using hf) h1
 simp only [Nat.add_zero] at hst
 obtain ⟨k,rfl⟩:∃ k,m=k + 1:=⟨m - 1,by omega⟩
 simp [Builtin.clear_,run_underlying ht,hv,hst]
theorem rows_of {n:Nat}:∀ (m:Nat) (l:List Value),l.length=m * n→∃ ys:List (List Value),ys.length=m∧Wid n ys∧ys.flatten=l
 |0,l,h=>⟨[],rfl,Wid.nil,by have:l=[]:=List.length_eq_zero_iff.1 (by omega);rw [this];rfl⟩
 |m + 1,l,h=>by
  rw [Nat.add_mul,Nat.one_mul] at h
  obtain ⟨ys,h1,h2,h3⟩:=rows_of (n:=n) m (l.drop n) (by rw [List.length_drop];omega)
  refine ⟨l.take n::ys,by simp [h1],fun x hx=>?_,by simp [h3]⟩
  rcases List.mem_cons.1 hx with rfl|hx
  ·rw [List.length_take];omega
  ·exact h2 x hx
theorem putL_midN {A B C V:List Value} {p:Nat} (hp:A.length=p) (hB:B.length=V.length):putL (A++B++C) p V=A++V++C:=by
 rw [putL_eq _ _ _ (by simp only [List.length_append];omega)]
 have e1:(A++B++C).take p=A:=by rw [List.append_assoc,List.take_left' hp]
 have e2:(A++B++C).drop (p + V.length)=C:=by rw [List.drop_left' (by rw [List.length_append];omega)]
 rw [e1,e2]
theorem putN {A Y D X rest:List Value} {p:Nat} (hA:A.length=p) (hy:Y.length=X.length + D.length):putL (putL ((A++Y)++rest) p X) (p + X.length) D=(A++X++D)++rest:=by
 have h1:putL ((A++Y)++rest) p X=A++X++(Y.drop X.length++rest):=by
  have:=putL_midN (A:=A) (B:=Y.take X.length) (C:=Y.drop X.length++rest) (V:=X) hA (by rw [List.length_take];omega)
  rw [←this]
  congr 1
  rw [List.append_assoc,List.append_assoc,←List.append_assoc (Y.take _),List.take_append_drop]
 have h2:=putL_midN (A:=A++X) (B:=Y.drop X.length) (C:=rest) (V:=D) (p:=p + X.length) (by simp [hA]) (by rw [List.length_drop];omega)
 rw [h1,←List.append_assoc,h2]
theorem putN' {A D X rest:List Value} {p:Nat} (hA:A.length=p) (hr:X.length≤rest.length):putL (putL ((A++D)++rest) (p + X.length) D) p X=(A++X++D)++rest.drop X.length:=by
 have e:(A++D)++rest=(A++(D++rest).take X.length)++((D++rest).drop X.length).take D.length++rest.drop X.length:=by
  have h1:rest.drop X.length=(D++rest).drop (X.length + D.length):=by
   rw [Nat.add_comm,←List.drop_drop,List.drop_left]
  rw [h1,←List.drop_drop,List.append_assoc,List.append_assoc,List.append_assoc,List.take_append_drop,List.take_append_drop]
 have hl:((D++rest).take X.length).length=X.length:=by rw [List.length_take,List.length_append];omega
 rw [e,putL_midN (p:=p + X.length) (by rw [List.length_append,hl,hA]) (by rw [List.length_take,List.length_drop,List.length_append];omega)]
 have:=putL_midN (A:=A) (B:=(D++rest).take X.length) (C:=D++rest.drop X.length) (V:=X) hA (by rw [hl])
 rw [show (A++(D++rest).take X.length)++D++rest.drop X.length=A++(D++rest).take X.length++(D++rest.drop X.length) by simp,this];simp
section
variable {P:Program} {R:Cx} {Hs Rest:List HP} {w:World} {s:Sl} {T:TypeId} {n:Nat}
theorem copyN_rule {dT sT ty elem:TypeId} {b o dLen dCap sLen sCap:Nat} {a:Addr} {cs l:List Value} {fr:Nat × Nat} {K:Int→World→Prop} (hu:P.underlying dT=some (.slice elem)) (hs:(P.info? elem).map (·.size)=some n)
  (hw:Sat R (pts b (.cells l.toArray T fr)::Hs) w) (hfr:okFr l.length fr) (hn:cs.length=Nat.min sLen dLen * n) (hfit:o + cs.length≤l.length) (hsrc:∀ j v,cs[j]? =some v→w.cell? (a.add j)=some v) (h1:oneAll cs=true)
  (k:∀ t w',Sat R (pts b (.cells (putL l o cs).toArray T fr)::Hs) w'→K t w'):
  ∃ w',∃ t:Int,(Builtin.copy_ #[dT,sT] ty #[.slice (some ⟨b,o,none⟩) dLen dCap,.slice (some a) sLen sCap]).run P w=.ok (.int .i64 t) w'∧K t w':=by
 have hat:=hw.at
 have hr:=run_copy_n (P:=P) w dT sT ty elem b o dLen dCap a sLen sCap cs hu hs hn hsrc (fun j hj=>by rw [cell_of hat];simp;omega) (fun j hj=>frozen_no hat hfr (by omega)) (fun v hv=>List.all_eq_true.1 h1 v hv)
 exact ⟨_,_,hr,k _ _ (setCells_sat cs l o w hw)⟩
theorem zerosGrowN_rule {t1 t2 ty:TypeId} {bytes k m:Nat} {kd kn:IntKind} {rows:List (List Value)} {K:Sl→World→Prop} (ht:P.underlying t1=some (.slice T)) (htn:P.underlying t2=some (.int kn)) (hi:elBN P T n bytes=true) (hn1:0<n)
  (h0:0<m) (hk:k<rows.length) (hc:s.cap<k + m) (hb:2 * (k + m) * bytes≤281474976710656) (hb':k + m≤9223372036854775807) (hw:Sat R (OwnN n s T rows::Hs) w)
  (h:∀ t w' ys,ys.length=m→Sat R (OwnN n t T (rows.take k++ys)::OwnN n s T rows::Hs) w'→K t w'):
  ∃ w',∃ t:Sl,(Builtin.append_ #[t1,t2] ty #[.slice s.a k s.cap,.int kd m]).run P w=.ok (.slice t.a t.len t.cap) w'∧K t w':=by
 obtain ⟨i,z,hi,hz,hsize,hbytes,hzc⟩:=elBN_out hi
 obtain ⟨hwid,⟨_,rfl,_⟩|⟨b,rest,fr,cap,rfl,hl,hfr,hp⟩⟩:=OwnN.cases hw
 ·simp at hk
 have hat:=hp.at
 dsimp only at hc ⊢
 have hcap:Builtin.nextslicecap (k + m) cap * i.bytes≤281474976710656:=by
  have h2:Builtin.nextslicecap (k + m) cap≤2 * (k + m):=by
   unfold Builtin.nextslicecap
   split
   ·omega
   ·split
    ·omega
    ·have:=nextslicecap_le_wide hc
     unfold Builtin.nextslicecap at this
     rw [if_neg (by assumption),if_neg (by assumption)] at this
     omega
  rw [hbytes]
  exact Nat.le_trans (Nat.mul_le_mul_right _ h2) hb
 have hkl:(rows.take k).flatten.length=k * n:=by rw [hwid.take.len,List.length_take,Nat.min_eq_left (by omega)]
 have hold:(Builtin.firstCells i.size k (.slice (some ⟨b,0,none⟩) k cap)).run P w.drew=.ok (rows.take k).flatten.toArray w.drew:=by
  refine run_firstCells_some w.drew i.size k ⟨b,0,none⟩ k _ (rows.take k).flatten (by rw [hsize,hkl]) ?_
  intro j u hj
  rw [World.cell?_drew,add_off,cell_of hat,Nat.zero_add]
  obtain ⟨hlt,rfl⟩:=List.getElem?_eq_some_iff.1 hj
  rw [hkl] at hlt
  rw [←hj,←hwid.take_flat,List.getElem?_take,if_pos hlt]
  have:k * n≤rows.length * n:=Nat.mul_le_mul_right _ (by omega)
  rw [List.getElem?_append_left (by rw [hwid.len];omega)]
 have hwr:IntKind.i64.wrap (m:Int)=m:=by rw [IntKind.wrap_i64];omega
 have hn:¬ (k + m≤cap):=by omega
 have h63':¬ (9223372036854775807<((k:Int) + (m:Int))):=by omega
 have h48':¬ (281474976710656<Builtin.nextslicecap (k + m) cap * i.bytes):=by omega
 have h48i:¬ (281474976710656<(m:Int) * (i.bytes:Int)):=by
  rw [←Int.natCast_mul,hbytes]
  have:m * bytes≤2 * (k + m) * bytes:=Nat.mul_le_mul_right _ (by omega)
  omega
 have hneg:¬ ((m:Int)<0):=by omega
 have hn0:m≠0:=by omega
 have hns:¬ (m * i.size=0):=by
  rw [hsize]
  have:=Nat.mul_pos h0 hn1
  omega
 have hg:=grownCap_ge w (k + m) cap T
 have hr:(Builtin.append_ #[t1,t2] ty #[.slice (some ⟨b,0,none⟩) k cap,.int kd m]).run P w=
   .ok (.slice (some ⟨w.heap.size,0,none⟩) (k + m) (grownCap w (k + m) cap T)) (w.drew.alloc (.cells ((rows.take k).flatten.toArray++Builtin.zeroCells z.cells m++Builtin.zeroCells z.cells (grownCap w (k + m) cap T - (k + m))) T)):=by
  simp [Builtin.append_,run_underlying ht,run_underlying htn,sizeOf,typeInfo,zeroValue,hi,hz,asInt,asIntOf,hwr,hn,hneg,hns,h63',h48',h48i,Question.forced,hold,newRow,grownCap]
 have hzs:∀ m,(Builtin.zeroCells z.cells m).size=m * n:=fun m=>by simp [Builtin.zeroCells,hzc]
 obtain ⟨ys,hy1,hy2,hy3⟩:=rows_of m (Builtin.zeroCells z.cells m).toList (by rw [Array.length_toList,hzs])
 refine ⟨_,⟨some ⟨w.heap.size,0,none⟩,k + m,grownCap w (k + m) cap T⟩,hr,h _ _ ys hy1 ?_⟩
 have h3:=Sat.alloc (Obj.cells ((rows.take k).flatten.toArray++Builtin.zeroCells z.cells m++Builtin.zeroCells z.cells (grownCap w (k + m) cap T - (k + m))) T) (Sat.drew hp)
 have e:Obj.cells ((rows.take k).flatten.toArray++Builtin.zeroCells z.cells m++Builtin.zeroCells z.cells (grownCap w (k + m) cap T - (k + m))) T=.cells ((rows.take k++ys).flatten++(Builtin.zeroCells z.cells (grownCap w (k + m) cap T - (k + m))).toList).toArray T (0,0):=by
  congr 1
  apply Array.ext'
  rw [List.flatten_append,hy3]
  simp
 rw [e] at h3 ⊢
 have h4:=OwnN.of_pts hwid hl (Sat.swap h3) hfr
 have hwid2:Wid n (rows.take k++ys):=hwid.take.app hy2
 have hlk:(rows.take k++ys).length=k + m:=by rw [List.length_append,List.length_take,hy1,Nat.min_eq_left (by omega)]
 have h5:=OwnN.of_pts (cap:=grownCap w (k + m) cap T) hwid2 (by rw [List.length_append,hwid2.len,hlk,Array.length_toList,hzs,←Nat.add_mul];congr 1;omega) (Sat.swap h4)
 have e2:(⟨some ⟨w.drew.heap.size,0,none⟩,(rows.take k++ys).length,grownCap w (k + m) cap T⟩:Sl)=⟨some ⟨w.heap.size,0,none⟩,k + m,grownCap w (k + m) cap T⟩:=by
  rw [hlk,World.size_drew]
 rw [e2] at h5
 exact h5
theorem delN_rule {t1 ty ty':TypeId} {bytes i j:Nat} {z:Value} {rows:List (List Value)} {K:Sl→World→Prop} (ht:P.underlying t1=some (.slice T)) (hi:elBN P T n bytes=true) (hv:∀ w,(zeroValue T).run P w=.ok z w) (hzc:z.cells.size=n)
  (hz1:∀ m,∀ v∈(Builtin.zeroCells z.cells m).toList,v.oneCell'=true) (ho:oneAll rows.flatten=true)
  (hn1:0<n) (hij:i<j) (hj:j≤rows.length) (hw:Sat R (OwnN n s T rows::Hs) w) (k:∀ t w',Sat R (OwnN n t T (rows.take i++rows.drop j)::Hs) w'→K t w'):
  ∃ w',∃ t:Sl,(Builtin.append_ #[t1,t1] ty #[.slice s.a i s.cap,.slice (cutA s.a j s.cap n) (s.len - j) (s.cap - j)]).run P w=.ok (.slice t.a t.len t.cap) w'∧
   (0:Int)≤(s.len:Int)∧(s.len:Int)≤(t.cap:Int)∧(0:Int)≤(t.len:Int)∧(t.len:Int)≤(((s.len:Int).toNat:Nat):Int)∧
   ∃ w'',(Builtin.clear_ #[t1] ty' #[.slice (cutA t.a (t.len:Int).toNat t.cap n) ((s.len:Int).toNat - (t.len:Int).toNat) (t.cap - (t.len:Int).toNat)]).run P w'=.ok (.tuple #[]) w''∧K t w'':=by
 obtain ⟨ti,z',hi,hz',hsize,hbytes,hzc'⟩:=elBN_out hi
 obtain ⟨hwid,⟨_,rfl,_⟩|⟨b,rest,fr,cap,rfl,hl,hfr,hp⟩⟩:=OwnN.cases hw
 ·simp at hj;omega
 have hat:=hp.at
 have hl0:=hl
 rw [List.length_append,hwid.len] at hl
 have hcap:rows.length≤cap:=Nat.le_of_mul_le_mul_right (by omega:rows.length * n≤cap * n) hn1
 have hjn:j * n≤rows.length * n:=Nat.mul_le_mul_right _ hj
 have hin:i * n + (rows.length - j) * n + (j - i) * n=rows.length * n:=by
  rw [←Nat.add_mul,←Nat.add_mul]
  congr 1;omega
 have hdl:(rows.drop j).flatten.length=(rows.length - j) * n:=by rw [hwid.drop.len,List.length_drop]
 have hdo:∀ v∈(rows.drop j).flatten,v.oneCell'=true:=fun v hv=>List.all_eq_true.1 ho v (by
  obtain ⟨l,h1,h2⟩:=List.mem_flatten.1 hv
  exact List.mem_flatten.2 ⟨l,List.mem_of_mem_drop h1,h2⟩)
 have hsrc:Src P ti.size t1 (.slice (cutA (some ⟨b,0,none⟩) j cap n) (rows.length - j) (cap - j)) (rows.length - j) (rows.drop j).flatten w:=by
  rw [hsize]
  by_cases hjc:cap=j
  ·have hr:rows.length - j=0:=by omega
   have hd:rows.drop j=[]:=List.drop_eq_nil_of_le (by omega)
   rw [hr,hd]
   unfold cutA
   rw [if_pos hjc]
   exact Go.Src.ofSlice w ht _ 0 _ [] (by simp) (fun j u hj=>by simp at hj) (fun u hu=>by cases hu)
  ·unfold cutA
   rw [if_neg hjc]
   refine Go.Src.ofSlice w ht _ _ _ _ (by rw [hdl]) (fun x u hx=>?_) hdo
   show w.cell? (Addr.add (Addr.add ⟨b,0,none⟩ (j * n)) x)=some u
   rw [add_off,add_off,Nat.zero_add,cell_of hat]
   rw [←hwid.drop_flat,List.getElem?_drop] at hx
   have hlt:=(List.getElem?_eq_some_iff.1 hx).1
   rw [List.getElem?_append_left (by omega)]
   exact hx
 have hroom:i + (rows.length - j)≤cap:=by omega
 have hr:=run_append_room_src w t1 t1 ty T ti ht hi b 0 i cap _ (rows.length - j) (rows.drop j).flatten hsrc hroom
  (fun x hx=>by
   rw [cell_of hat,hsize,List.getElem?_eq_getElem (by rw [hl0];omega)];rfl) (fun x hx=>frozen_no hat hfr (by rw [hsize];omega))
 have h2:=setCells_sat (rows.drop j).flatten (rows.flatten++rest) (i * n) w hp
 rw [hsize,Nat.zero_add] at hr
 have e1:putL (rows.flatten++rest) (i * n) (rows.drop j).flatten=(rows.take i++rows.drop j).flatten++(rows.flatten++rest).drop (i * n + (rows.length - j) * n):=by
  rw [putL_eq _ _ _ (by rw [hdl,hl0];omega),hdl,List.take_append_of_le_length (by rw [hwid.len];omega),hwid.take_flat,List.flatten_append]
 rw [e1] at h2
 have hwid2:Wid n (rows.take i++rows.drop j):=hwid.take.app hwid.drop
 have hll:(rows.take i++rows.drop j).length=i + (rows.length - j):=by rw [List.length_append,List.length_take,List.length_drop,Nat.min_eq_left (by omega)]
 refine ⟨_,⟨some ⟨b,0,none⟩,i + (rows.length - j),cap⟩,hr,by dsimp only;omega,by dsimp only;omega,by dsimp only;omega,by dsimp only;omega,?_⟩
 dsimp only
 rw [Int.toNat_natCast,Int.toNat_natCast]
 have hca:cutA (some ⟨b,0,none⟩) (i + (rows.length - j)) cap n=some ⟨b,(i + (rows.length - j)) * n,none⟩:=by
  unfold cutA
  rw [if_neg (by omega)]
  simp [add_off]
 rw [hca]
 have hat2:=h2.at
 have hml:(rows.length - (i + (rows.length - j))) * n=(j - i) * n:=by congr 1;omega
 have hpos:(i + (rows.length - j)) * n=i * n + (rows.length - j) * n:=Nat.add_mul _ _ _
 have hlen2:((rows.take i++rows.drop j).flatten++(rows.flatten++rest).drop (i * n + (rows.length - j) * n)).length=cap * n:=by
  rw [List.length_append,hwid2.len,hll,List.length_drop,hl0,hpos];omega
 refine ⟨_,run_clear_n _ t1 T ty' z ht hv hzc (hz1 _) b ((i + (rows.length - j)) * n) _ (by omega) (fun x hx=>?_) (fun x hx=>?_),k _ _ ?_⟩
 ·rw [cell_of hat2,List.getElem?_eq_getElem (by rw [hlen2];omega)];rfl
 ·exact frozen_no hat2 hfr (by omega)
 ·have h3:=setCells_sat (Builtin.zeroCells z.cells (rows.length - (i + (rows.length - j)))).toList _ ((i + (rows.length - j)) * n) _ h2
  have hzl:(Builtin.zeroCells z.cells (rows.length - (i + (rows.length - j)))).toList.length=(j - i) * n:=by simp [Builtin.zeroCells,hzc,hml]
  rw [putL_eq _ _ _ (by rw [hzl,hlen2,hpos];omega),List.take_left' (by rw [hwid2.len,hll]),List.append_assoc] at h3
  have h4:=OwnN.of_pts (cap:=cap) hwid2 (by
   rw [List.length_append,List.length_append,hwid2.len,hll,hzl,List.length_drop,hlen2]
   omega) h3 hfr
  rw [hll] at h4
  exact h4
end
end Go.VC
/- Package queue: who may wait; who stands ahead; where one stands. Condition: a bound on the length. -/
namespace Go.Proofs.YtflgboncpbmikaaGreatDoor
set_option linter.unusedVariables false
set_option linter.unusedSimpArgs false
open Go Go.VC
open Classical
variable {R:Cx} {Hs Rest:List HP} {w:World}
abbrev wtA (x:Wt):Value:=.agg #[.int .i64 x.id,.int .i64 x.cls,.int .i64 x.many,.int .i64 x.time,.float .f64 x.sc]
abbrev wtC (b:Nat) (x:Wt):HP:=pts b (.cells (wtV x).toArray 174 (0,0))
abbrev wtD (b:Nat) (x:Wt):HP:=pts b (.cells (wtV x).toArray 147 (0,0))
theorem qwithin_spec {n lo hi:Int} (hw:Sat R Hs w):Gets Tryz.prog 143 #[.int .i64 n,.int .i64 lo,.int .i64 hi] w fun v w'=>v=.bool (decide (lo≤n∧n≤hi))∧Sat R Hs w':=by
 apply call143
 refine Br.d (fun h=>⟨?_,hw⟩) (fun h=>⟨?_,hw⟩)
 ·congr 1
  rw [decide_eq_decide];omega
 ·rw [decide_eq_false (by omega)]
theorem qright_spec {x:Wt} (hw:Sat R Hs w):Gets Tryz.prog 106 #[wtA x] w fun v w'=>v=.bool (decide x.Ok)∧Sat R Hs w':=by
 apply call106
 refine new_rule hw fun b w hw=>?_
 have hw:Sat R (wtC b x::Hs) w:=hw
 have no:∀ {w},¬ x.Ok→Sat R (wtC b x::Hs) w→(Value.bool false=.bool (decide x.Ok))∧Sat R Hs w:=fun h hw=>⟨by rw [decide_eq_false h],hw.drop⟩
 refine ⟨x.id,At.own (eqS hw) (by exact ⟨rfl,trivial⟩),?_⟩
 refine (qwithin_spec hw).use ?_
 clear hw
 rintro _ w ⟨rfl,hw⟩
 refine ⟨_,rfl,Br.d (fun h1=>?_) (fun h1=>no (fun h=>h1 h.1) hw)⟩
 refine ⟨x.cls,At.own (eqS hw) (by exact ⟨rfl,trivial⟩),?_⟩
 refine (qwithin_spec hw).use ?_
 clear hw
 rintro _ w ⟨rfl,hw⟩
 refine ⟨_,rfl,Br.d (fun h2=>?_) (fun h2=>no (fun h=>h2 h.2.1) hw)⟩
 refine ⟨x.many,At.own (eqS hw) (by exact ⟨rfl,trivial⟩),?_⟩
 refine (qwithin_spec hw).use ?_
 clear hw
 rintro _ w ⟨rfl,hw⟩
 refine ⟨_,rfl,Br.d (fun h3=>?_) (fun h3=>no (fun h=>h3 h.2.2.1) hw)⟩
 refine ⟨x.time,At.own (eqS hw) (by exact ⟨rfl,trivial⟩),?_⟩
 refine (qwithin_spec hw).use ?_
 clear hw
 rintro _ w ⟨rfl,hw⟩
 refine ⟨_,rfl,?_,hw.drop⟩
 congr 1
 rw [decide_eq_decide]
 exact ⟨fun h=>⟨h1,h2,h3,h⟩,fun h=>h.2.2.2⟩
def orL (l:List Int):Int:=(l.find? fun x=>decide (x≠0)).getD 0
theorem or_spec {s:Sl} {l:List Int} (hl:l.length≤1000000000) (hw:Sat R (Own s 3 (intsI l)::Hs) w):Gets Tryz.prog 146 #[.slice s.a s.len s.cap] w fun v w'=>v=.int .i64 (orL l)∧Sat R (Own s 3 (intsI l)::Hs) w':=by
 have hlen:=Own.len hw
 rw [List.length_map] at hlen
 apply call146
 refine ⟨fun i w=>∃ j:Nat,i=j∧j≤l.length∧(∀ x∈l.take j,x=0)∧Sat R (Own s 3 (intsI l)::Hs) w,fun i _=>l.length - i.toNat,⟨0,rfl,by omega,by simp,hw⟩,?_⟩
 clear hw
 rintro _ _ w ⟨j,rfl,hj,hz,hw⟩
 refine Br.d (fun h=>?_) (fun h=>?_)
 ·have hj2:j<l.length:=by omega
  refine Own.ix hw (eqS hw) j rfl hj2 ?_
  refine Br.ne (fun h2=>⟨?_,hw⟩) (fun h2=>?_)
  ·congr 1
   have e:l.find? (fun x=>decide (x≠0))=some l[j]:=by
    have h3:l=l.take j++l[j]::l.drop (j + 1):=by rw [←List.drop_eq_getElem_cons hj2,List.take_append_drop]
    rw [List.find?_eq_some_iff_append]
    exact ⟨by simpa using h2,l.take j,l.drop (j + 1),h3,fun x hx=>by simpa using hz x hx⟩
   unfold orL
   rw [e]
   rfl
  ·rw [wrap64 (by omega) (by omega)]
   refine ⟨⟨j + 1,by omega,by omega,fun x hx=>?_,hw⟩,by dsimp only;omega⟩
   rw [List.take_add_one,List.getElem?_eq_getElem hj2] at hx
   rcases List.mem_append.1 hx with hx|hx
   ·exact hz x hx
   ·simp at hx
    rw [hx];exact h2
 ·rw [List.take_of_length_le (by omega)] at hz
  refine ⟨?_,hw⟩
  congr 1
  unfold orL
  rw [List.find?_eq_none.2 (fun x hx=>by simpa using hz x hx)]
  rfl
theorem ord_orL {a b:Wt}:orL [rankF b.sc a.sc,cmpI a.time b.time,cmpI a.id b.id]=a.ord b:=by
 unfold orL Wt.ord cmpI
 by_cases h:rankF b.sc a.sc=0
 ·simp only [List.find?_cons,h,ne_eq,not_true_eq_false,decide_false]
  by_cases h1:a.time<b.time
  ·simp [h1]
  ·by_cases h2:b.time<a.time
   ·simp [h1,h2]
   ·by_cases h3:a.id<b.id
    ·simp [h1,h2,h3]
    ·by_cases h4:b.id<a.id
     ·simp [h1,h2,h3,h4]
     ·simp [h1,h2,h3,h4]
 ·simp [h]
theorem order_spec {a b:Wt} (hw:Sat R Hs w):Gets Tryz.prog 109 #[wtA a,wtA b] w fun v w'=>v=.int .i64 (a.ord b)∧Sat R Hs w':=by
 apply call109
 refine new_rule hw fun p w hw=>new_rule hw fun q w hw=>?_
 have hw:Sat R (wtC q b::wtC p a::Hs) w:=hw
 refine drw_ruleT hw fun w hw=>?_
 refine ⟨b.sc,At.own (fun _ h=>h) (by exact ⟨rfl,trivial⟩),a.sc,At.own (fun _ h=>h) (by exact ⟨rfl,trivial⟩),a.time,At.own (fun _ h=>h) (by exact ⟨rfl,trivial⟩),b.time,At.own (fun _ h=>h) (by exact ⟨rfl,trivial⟩),a.id,At.own (fun _ h=>h) (by exact ⟨rfl,trivial⟩),b.id,At.own (fun _ h=>h) (by exact ⟨rfl,trivial⟩),?_⟩
 refine (rank_spec hw).use ?_
 clear hw
 rintro _ w ⟨rfl,hw⟩
 refine ⟨_,rfl,hw,?_⟩
 refine (compareI_spec hw).use ?_
 clear hw
 rintro _ w ⟨rfl,hw⟩
 refine ⟨_,rfl,hw,?_⟩
 refine (compareI_spec hw).use ?_
 clear hw
 rintro _ w ⟨rfl,hw⟩
 refine ⟨_,rfl,hw,?_⟩
 refine new_rule hw fun r w hw=>⟨hw.absorb,?_⟩
 have hw:Sat R (pts r (.cells (intsI [rankF b.sc a.sc,cmpI a.time b.time,cmpI a.id b.id]).toArray 3 (0,0))::VC.tru::wtC q b::wtC p a::Hs) w:=hw
 refine (or_spec (l:=[rankF b.sc a.sc,cmpI a.time b.time,cmpI a.id b.id]) (by simp) (own_lit (n:=3) hw)).use ?_
 clear hw
 rintro _ w ⟨rfl,hw⟩
 rw [ord_orL]
 exact ⟨_,rfl,hw.absorb,rfl,hw.drop.drop.drop.drop⟩
abbrev wtT:TypeId:=174
theorem qidx_spec {s:Sl} {l:List Wt} {f:Value} {p:Wt→Bool} (hl:l.length≤1000000000)
  (hf:∀ x w,Sat R (OwnN 5 s wtT (l.map wtV)::Hs) w→CalW Tryz.prog cl f [wtA x] w fun e w'=>e=.returned (.bool (p x))∧Sat R (OwnN 5 s wtT (l.map wtV)::Hs) w')
  (hw:Sat R (OwnN 5 s wtT (l.map wtV)::Hs) w):
  Gets Tryz.prog 144 #[.slice s.a s.len s.cap,f] w fun v w'=>(∃ i:Int,v=.int .i64 i∧((i=-1∧l.any p=false)∨∃ k:Nat,i=k∧∃ (hk:k<l.length),p l[k]=true∧(l.take k).any p=false))∧Sat R (OwnN 5 s wtT (l.map wtV)::Hs) w':=by
 have hlen:=OwnN.len hw
 rw [List.length_map] at hlen
 apply call144
 refine ⟨fun i w=>∃ j:Nat,i=j∧j≤l.length∧(l.take j).any p=false∧Sat R (OwnN 5 s wtT (l.map wtV)::Hs) w,fun i _=>l.length - i.toNat,⟨0,rfl,by omega,by simp,hw⟩,?_⟩
 clear hw
 rintro _ _ w ⟨j,rfl,hj,hn,hw⟩
 refine Br.d (fun h=>?_) (fun h=>?_)
 ·have hj2:j<l.length:=by omega
  refine (OwnN.reads hw (eqS hw)).rngM (E:=l) (g:=wtV) hj2 fun a _ he=>?_
  refine ⟨_,_,_,_,_,he.z (by exact ⟨rfl,rfl,rfl,rfl,rfl,trivial⟩),?_⟩
  refine (hf l[j] _ hw).mono ?_
  rintro _ w ⟨rfl,hw⟩
  refine ⟨_,rfl,Br.mk (fun h=>⟨⟨j,rfl,.inr ⟨j,rfl,hj2,h,hn⟩⟩,hw⟩) (fun h=>?_)⟩
  rw [wrap64 (by omega) (by omega)]
  refine ⟨⟨j + 1,by omega,by omega,?_,hw⟩,by dsimp only;omega⟩
  rw [List.take_add_one,List.getElem?_eq_getElem hj2,List.any_append,hn]
  simp [h]
 ·rw [List.take_of_length_le (by omega)] at hn
  exact ⟨⟨-1,rfl,.inl ⟨rfl,hn⟩⟩,hw⟩
theorem isId_spec {b:Nat} {id:Int} {x:Wt} (hw:Sat R (pts b (.cells [.int .i64 id].toArray 3 (0,0))::Hs) w):Gets Tryz.prog 145 #[wtA x,.pointer (some ⟨b,0,none⟩)] w fun v w'=>v=.bool (decide (x.id=id))∧Sat R (pts b (.cells [.int .i64 id].toArray 3 (0,0))::Hs) w':=by
 apply call145
 refine new_rule hw fun p w hw=>?_
 have hw:Sat R (wtC p x::pts b (.cells [.int .i64 id].toArray 3 (0,0))::Hs) w:=hw
 refine ⟨x.id,At.own (eqS hw) (by exact ⟨rfl,trivial⟩),NilP.mk rfl ⟨id,At.own (eqS hw) (by exact ⟨rfl,trivial⟩),?_,hw.drop⟩⟩
 congr 1
theorem qplace_spec {q:Nat} {l:List Wt} {id:Int} (hl:l.length≤1000000000) (hw:Sat R (QuAt q l::Hs) w):
  Gets Tryz.prog 107 #[.pointer (some ⟨q,0,none⟩),.int .i64 id] w fun v w'=>(∃ i:Int,v=.int .i64 i∧((i=-1∧hasQ id l=false)∨∃ k:Nat,i=k∧∃ (hk:k<l.length),l[k].id=id∧hasQ id (l.take k)=false))∧Sat R (QuAt q l::Hs) w':=by
 obtain ⟨s,hw⟩:=Sat.qu.1 hw
 apply call107
 refine new_rule hw fun b w hw=>?_
 have hw:Sat R (pts q (quCell s)::pts b (.cells [.int .i64 id].toArray 3 (0,0))::OwnN 5 s wtT (l.map wtV)::Hs) w:=hw.swap
 refine NilP.mk rfl ⟨s,At.own (eqS hw) (by exact ⟨rfl,trivial⟩),?_⟩
 have hw:Sat R (OwnN 5 s wtT (l.map wtV)::pts b (.cells [.int .i64 id].toArray 3 (0,0))::pts q (quCell s)::Hs) w:=hw.arr
 refine (qidx_spec (p:=fun x=>decide (x.id=id)) hl (fun x w hw=>CalW.mk (by kernel_rfl) ((isId_spec hw.swap).use fun v w' h=>⟨by rw [h.1],h.2.swap⟩)) hw).use ?_
 clear hw
 rintro _ w ⟨⟨i,rfl,hi⟩,hw⟩
 refine ⟨i,rfl,⟨i,rfl,?_⟩,?_⟩
 ·rcases hi with hi|⟨k,rfl,hk,h1,h2⟩
  ·exact .inl hi
  ·exact .inr ⟨k,rfl,hk,of_decide_eq_true h1,h2⟩
 ·have hw:Sat R (pts b (.cells [.int .i64 id].toArray 3 (0,0))::pts q (quCell s)::OwnN 5 s wtT (l.map wtV)::Hs) w:=hw.arr
  exact Sat.qu.2 ⟨s,hw.drop⟩
end Go.Proofs.YtflgboncpbmikaaGreatDoor
