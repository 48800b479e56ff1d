/- The formulas of functions of this seat's translation, printed by a program of mine off the translation; each is proved equal to 'fnF' of the function's body, so it is enough for the call. No condition. -/
import Derived.Test.YtfgbbckfikiomaaGreatDoorB4
import Derived.Test.YtfgbbckfikiomaaGreatDoorB2
namespace Go.Proofs.YtfgbbckfikiomaaGreatDoor
open Go Go.VC
set_option linter.unusedVariables false
set_option maxRecDepth 10000
def B40 (c:Bool) (b:Int) (a:List PanicEntry→World→Prop) (K:Value→World→Prop) (w:World):Prop:=
 Br (!c)
 (a [⟨.iface 27 (.int .i64 b),false,false⟩] w)
 (K (.tuple #[]) w)
theorem call40 (c:Bool) (b:Int) (a:List PanicEntry→World→Prop) (K:Value→World→Prop) (w:World) (h:B40 c b a K w):GetsX Tryz.prog 40 #[.bool c,.int .i64 b] w a K:=cqx (sk:=.leaf) Tryz.func40 (by kernel_rfl) (by kernel_rfl) (by kernel_rfl) h
def B110 (a:Int) (b:List PanicEntry→World→Prop) (K:Value→World→Prop) (w:World):Prop:=
 Br (a !=0)
 (b [⟨.iface 27 (.int .i64 a),false,false⟩] w)
 (K (.tuple #[]) w)
theorem call110 (b:Int) (a:List PanicEntry→World→Prop) (K:Value→World→Prop) (w:World) (h:B110 b a K w):GetsX Tryz.prog 110 #[.int .i64 b] w a K:=cqx (sk:=.leaf) Tryz.func110 (by kernel_rfl) (by kernel_rfl) (by kernel_rfl) h
def B39 (g:Option Addr) (b:Value) (K:World→Prop) (w:World):Prop:=
 ∃ c:Bool,(∀ a,(fun a=>a=w) a→((do eqGuard BinOp.neq 20 (Operand.tmp 4) (Operand.const Value.nilIface) b .nilIface;binOp BinOp.neq 20 b .nilIface:Sem Value)).run Tryz.prog a=.ok (.bool c) a)∧
 Br c
 (∃ d:Int,(∀ a,(fun a=>a=w) a→((Instr.typeAssert b 20 27 false)).run Tryz.prog a=.ok (.int .i64 d) a)∧
 NilP g fun f=>
 ∃ e:World,((Instr.storeAt 31 (.pointer ((some (f)))) (.agg #[.int .i64 d,.string (ByteArray.mk #[]),.int .i64 0,.int .i64 0,.int .i64 0,.int .i64 0,.int .i64 0,.slice none 0 0,.slice none 0 0])).run Tryz.prog w=.ok () e)∧
 K e)
 (K w)
theorem callP39 (b:Option Addr) (a:Value) (K:World→Prop) (w:World) (h:B39 b a K w):CallsD Tryz.prog 39 #[.pointer b] (.panicking [⟨a,false,false⟩]) w fun c d e=>(∃ f,c=.returned f)∧d=.panicking [⟨a,true,false⟩]∧K e:=
 rec_panic (sk:=.leaf) cl_ok mixed Tryz.func39 (by kernel_rfl) (Nat.le_of_ble_eq_true (by kernel_rfl)) (cast (by kernel_rfl) h)
theorem callR39 (a:Option Addr) (K:World→Prop) (w:World) (h:B39 a .nilIface K w):CallsD Tryz.prog 39 #[.pointer a] .returning w fun b c d=>(∃ e,b=.returned e)∧c=.returning∧K d:=
 rec_return (sk:=.leaf) cl_ok mixed Tryz.func39 (by kernel_rfl) (Nat.le_of_ble_eq_true (by kernel_rfl)) (cast (by kernel_rfl) h)
def B41 (Q:Int) (T:ByteArray) (U:Int) (V:Int) (X:Int) (Y:Int) (Z:Nat) (aa:ByteArray) (ab:Int) (r:Sl) (q:Sl) (K:Value→World→Prop) (w:World):Prop:=
 New (.cells #[.int .i64 Q,.string T,.int .i64 U,.int .i64 V,.int .i64 X,.int .i64 Y,.float .f64 Z,.string aa,.int .i64 ab,.slice r.a r.len r.cap,.slice q.a q.len q.cap] 38 (0,0)) (fun c j=>
 ∃ H:Int,(At (fun b=>b=j) ⟨c,0 + 2,none⟩ [.int .i64 H])∧
 ∃ u:Int,(At (fun b=>b=j) ⟨c,0 + 3,none⟩ [.int .i64 u])∧
 ∃ v:Int,(At (fun b=>b=j) ⟨c,0 + 4,none⟩ [.int .i64 v])∧
 ∃ x:Int,(At (fun b=>b=j) ⟨c,0 + 8,none⟩ [.int .i64 x])∧
 New (.cells #[.int .i64 H,.int .i64 u,.int .i64 v,.int .i64 x] 3 (0,0)) (fun O J=>
 ∃ g:Sl,(At (fun b=>b=J) ⟨c,0 + 8 + 1,none⟩ [.slice g.a g.len g.cap])∧
 ∃ L:World,∃ i:Sl,((Builtin.append_ #[28,28] 28 #[.slice ((some ⟨O,0,none⟩)) 4 4,.slice g.a g.len g.cap]).run Tryz.prog J=.ok (.slice i.a i.len i.cap) L)∧
 ∃ (n:Int→World→Prop) (M:Int→World→Nat),(n 0 L)∧∀ (ad:Env) (f:Int) (e:World),n f e→
 Br (decide (f<(↑i.len:Int)))
 (Rng f i.len (NilP i.a fun N=>
 ∃ y:Int,(At (fun b=>b=e) (Addr.add N f.toNat) [.int .i64 y])∧
 Calls Tryz.prog 108 #[.int .i64 y] e fun ac s=>
 ∃ z:Bool,(ac=.returned (.bool z))∧
 Br z
 (K (.bool false) s)
 ((n (IntKind.i64.wrap (f + 1)) s)∧M (IntKind.i64.wrap (f + 1)) s<M f e)))
 (∃ (o:Bool→World→Prop),(∃ A:ByteArray,(At (fun b=>b=e) ⟨c,0 + 1,none⟩ [.string A])∧
 Br (decide ((↑A.size:Int)≤16))
 (∃ C:ByteArray,(At (fun b=>b=e) ⟨c,0 + 7,none⟩ [.string C])∧
 o (decide ((↑C.size:Int)≤16)) e)
 (o false e))∧
 ∀ (ae:Env) (I:Bool) (k:World),o I k→
 ∃ (p:Bool→World→Prop),(∃ l:Sl,(At (fun b=>b=k) ⟨c,0 + 8 + 1,none⟩ [.slice l.a l.len l.cap])∧
 Br (decide ((↑l.len:Int)≤16))
 (∃ m:Sl,(At (fun b=>b=k) ⟨c,0 + 10,none⟩ [.slice m.a m.len m.cap])∧
 p (decide ((↑m.len:Int)≤16)) k)
 (p false k))∧
 ∀ (af:Env) (t:Bool) (d:World),p t d→
 Br I
 (Br t
 (∃ D:Int,(At (fun b=>b=d) ⟨c,0,none⟩ [.int .i64 D])∧
 Br (decide (D ≥ 1))
 (∃ E:Int,(At (fun b=>b=d) ⟨c,0,none⟩ [.int .i64 E])∧
 Br (decide (E≤9))
 (∃ F:Int,(At (fun b=>b=d) ⟨c,0 + 5,none⟩ [.int .i64 F])∧
 Br (decide (F ≥ 0))
 (∃ G:Int,(At (fun b=>b=d) ⟨c,0 + 5,none⟩ [.int .i64 G])∧
 K (.bool (decide (G≤1099511627776))) d)
 (K (.bool false) d))
 (K (.bool false) d))
 (K (.bool false) d))
 (K (.bool false) d))
 (K (.bool false) d))) j) w
def sk41:Sk:=(.seq .leaf (.seq .leaf (.seq (.seq .leaf (.block (.loop [23] [(.int .i64)] [2,5,23,24,25,26,27,28,29,30] .leaf))) (.cut [6] [.bool] [6,31,32,33,34,35,36,37,38,39,40] .leaf (.cut [7] [.bool] [7,41,42,43,44,45,46,47,48,49,50,51] .leaf .leaf)))))
theorem call41 (d:Int) (e:ByteArray) (f:Int) (g:Int) (i:Int) (j:Int) (k:Nat) (l:ByteArray) (m:Int) (c:Sl) (b:Sl) (K:Value→World→Prop) (w:World) (h:B41 d e f g i j k l m c b K w):Gets Tryz.prog 41 #[.agg #[.int .i64 d,.string e,.int .i64 f,.int .i64 g,.int .i64 i,.int .i64 j,.float .f64 k,.string l,.int .i64 m,.slice c.a c.len c.cap,.slice b.a b.len b.cap]] w K:=cq (sk:=sk41) Tryz.func41 (by kernel_rfl) (by kernel_rfl) (by kernel_rfl) h
def B108 (a:Int) (K:Value→World→Prop) (w:World):Prop:=
 Br (decide (a<0))
 (K (.bool true) w)
 (K (.bool (decide (a>9999))) w)
theorem call108 (a:Int) (K:Value→World→Prop) (w:World) (h:B108 a K w):Gets Tryz.prog 108 #[.int .i64 a] w K:=cq (sk:=.leaf) Tryz.func108 (by kernel_rfl) (by kernel_rfl) (by kernel_rfl) h
def B14  (K:Value→World→Prop) (w:World):Prop:=
 New (.map #[] 0) (fun a d=>
 New (.map #[] 0) (fun b e=>
 New (.cells #[.int .i64 0,.int .i64 1,.map ((some a)),.map ((some b))] 80 (0,0)) (fun c f=>
 K (.pointer ((some ⟨c,0,none⟩))) f) e) d) w
theorem call14  (K:Value→World→Prop) (w:World) (h:B14  K w):Gets Tryz.prog 14 #[] w K:=cq (sk:=.leaf) Tryz.func14 (by kernel_rfl) (by kernel_rfl) (by kernel_rfl) h
def B49 (m:Option Addr) (i:Sl) (K:Value→World→Prop) (w:World):Prop:=
 ∃ (g:Int→World→Prop) (p:Int→World→Nat),(g 0 w)∧∀ (x:Env) (b:Int) (f:World),g b f→
 Br (decide (b<(↑i.len:Int)))
 (Rng b i.len (NilP i.a fun q=>
 ∃ j:Int,(At (fun u=>u=f) (Addr.add q b.toNat) [.int .i64 j])∧
 Drw f fun l v=>
 NilP m fun r=>
 ∃ c:Sl,(At l (Addr.add r 0) [.slice c.a c.len c.cap])∧
 Calls Tryz.prog 120 #[.int .u64 (IntKind.u64.wrap (if 0>j then 0 else j))] v fun t n=>
 ∃ d:Sl,(t=.returned (.slice d.a d.len d.cap))∧
 (l n)∧
 ∃ o:World,∃ e:Sl,((Builtin.append_ #[42,42] 42 #[.slice c.a c.len c.cap,.slice d.a d.len d.cap]).run Tryz.prog n=.ok (.slice e.a e.len e.cap) o)∧
 NilP m fun s=>
 ∃ k:World,((Instr.storeAt 42 (.pointer ((some (Addr.add s 0)))) (.slice e.a e.len e.cap)).run Tryz.prog o=.ok () k)∧
 (g (IntKind.i64.wrap (b + 1)) k)∧p (IntKind.i64.wrap (b + 1)) k<p b f))
 (K (.tuple #[]) f)
def sk49:Sk:=(.seq .leaf (.block (.loop [8] [(.int .i64)] [5,8,9,10,11,12,13,14,15,16,17,18,19,20,21,22,23,24] .leaf)))
theorem call49 (c:Option Addr) (b:Sl) (K:Value→World→Prop) (w:World) (h:B49 c b K w):Gets Tryz.prog 49 #[.pointer c,.slice b.a b.len b.cap] w K:=cq (sk:=sk49) Tryz.func49 (by kernel_rfl) (by kernel_rfl) (by kernel_rfl) h
def B75 (c:Option Addr) (b:Sl) (K:Value→World→Prop) (w:World):Prop:=
 New (.cells #[.int .i64 ((↑b.len:Int))] 3 (0,0)) (fun d g=>
 Calls Tryz.prog 49 #[.pointer c,.slice ((some ⟨d,0,none⟩)) 1 1] g fun e i=>
 (e=.returned (.tuple #[]))∧
 Calls Tryz.prog 49 #[.pointer c,.slice b.a b.len b.cap] i fun f j=>
 (f=.returned (.tuple #[]))∧
 K (.tuple #[]) j) w
theorem call75 (c:Option Addr) (b:Sl) (K:Value→World→Prop) (w:World) (h:B75 c b K w):Gets Tryz.prog 75 #[.pointer c,.slice b.a b.len b.cap] w K:=cq (sk:=.leaf) Tryz.func75 (by kernel_rfl) (by kernel_rfl) (by kernel_rfl) h
def B52 (g:Option Addr) (e:Sl) (K:Value→World→Prop) (w:World):Prop:=
 Drw w fun f o=>
 NilP g fun m=>
 ∃ d:Sl,(At f (Addr.add m 0) [.slice d.a d.len d.cap])∧
 Calls Tryz.prog 124 #[.slice e.a e.len e.cap] o fun n i=>
 ∃ b:Sl,(n=.returned (.slice b.a b.len b.cap))∧
 (f i)∧
 ∃ j:World,∃ c:Sl,((Builtin.append_ #[42,42] 42 #[.slice d.a d.len d.cap,.slice b.a b.len b.cap]).run Tryz.prog i=.ok (.slice c.a c.len c.cap) j)∧
 NilP g fun l=>
 ∃ k:World,((Instr.storeAt 42 (.pointer ((some (Addr.add l 0)))) (.slice c.a c.len c.cap)).run Tryz.prog j=.ok () k)∧
 K (.tuple #[]) k
theorem call52 (c:Option Addr) (b:Sl) (K:Value→World→Prop) (w:World) (h:B52 c b K w):Gets Tryz.prog 52 #[.pointer c,.slice b.a b.len b.cap] w K:=cq (sk:=.leaf) Tryz.func52 (by kernel_rfl) (by kernel_rfl) (by kernel_rfl) h
def B87 (g:Option Addr) (q:Nat) (K:Value→World→Prop) (w:World):Prop:=
 Drw w fun e r=>
 NilP g fun n=>
 ∃ d:Sl,(At e (Addr.add n 0) [.slice d.a d.len d.cap])∧
 Calls Tryz.prog 127 #[.float .f64 q] r fun o i=>
 ∃ f:Int,(o=.returned (.int .u64 f))∧
 (e i)∧
 Calls Tryz.prog 120 #[.int .u64 f] i fun p j=>
 ∃ b:Sl,(p=.returned (.slice b.a b.len b.cap))∧
 (e j)∧
 ∃ k:World,∃ c:Sl,((Builtin.append_ #[42,42] 42 #[.slice d.a d.len d.cap,.slice b.a b.len b.cap]).run Tryz.prog j=.ok (.slice c.a c.len c.cap) k)∧
 NilP g fun m=>
 ∃ l:World,((Instr.storeAt 42 (.pointer ((some (Addr.add m 0)))) (.slice c.a c.len c.cap)).run Tryz.prog k=.ok () l)∧
 K (.tuple #[]) l
theorem call87 (b:Option Addr) (a:Nat) (K:Value→World→Prop) (w:World) (h:B87 b a K w):Gets Tryz.prog 87 #[.pointer b,.float .f64 a] w K:=cq (sk:=.leaf) Tryz.func87 (by kernel_rfl) (by kernel_rfl) (by kernel_rfl) h
def B78 (g:Option Addr) (f:Int) (K:Value→World→Prop) (w:World):Prop:=
 New (.cells #[.pointer g] 126 (0,0)) (fun d c=>
 ∃ a:Option Addr,(At (fun i=>i=c) ⟨d,0,none⟩ [.pointer a])∧
 Calls Tryz.prog 147 #[.pointer a,.int .u64 (IntKind.u64.wrap f)] c fun e j=>
 ∃ b:Int,(e=.returned (.int .u64 b))∧
 K (.int .i64 (IntKind.i64.wrap b)) j) w
theorem call78 (b:Option Addr) (a:Int) (K:Value→World→Prop) (w:World) (h:B78 b a K w):Gets Tryz.prog 78 #[.agg #[.pointer b],.int .i64 a] w K:=cq (sk:=.leaf) Tryz.func78 (by kernel_rfl) (by kernel_rfl) (by kernel_rfl) h
def B79 (l:Option Addr) (k:Int) (K:Value→World→Prop) (w:World):Prop:=
 New (.cells #[.pointer l] 126 (0,0)) (fun i f=>
 ∃ d:Option Addr,(At (fun b=>b=f) ⟨i,0,none⟩ [.pointer d])∧
 Calls Tryz.prog 102 #[.pointer d,.int .i64 k] f fun j g=>
 ∃ c:Sl,(j=.returned (.slice c.a c.len c.cap))∧
 ∃ e:ByteArray,(∀ b,(fun b=>b=g) b→((convert 42 9 (.slice c.a c.len c.cap))).run Tryz.prog b=.ok (.string e) b)∧
 K (.string e) g) w
theorem call79 (b:Option Addr) (a:Int) (K:Value→World→Prop) (w:World) (h:B79 b a K w):Gets Tryz.prog 79 #[.agg #[.pointer b],.int .i64 a] w K:=cq (sk:=.leaf) Tryz.func79 (by kernel_rfl) (by kernel_rfl) (by kernel_rfl) h
def B91 (i:Option Addr) (K:Value→World→Prop) (w:World):Prop:=
 New (.cells #[.pointer i] 126 (0,0)) (fun e d=>
 ∃ a:Option Addr,(At (fun j=>j=d) ⟨e,0,none⟩ [.pointer a])∧
 Calls Tryz.prog 147 #[.pointer a,.int .u64 18446744073709551615] d fun f k=>
 ∃ b:Int,(f=.returned (.int .u64 b))∧
 Calls Tryz.prog 150 #[.int .u64 b] k fun g l=>
 ∃ c:Nat,(g=.returned (.float .f64 c))∧
 K (.float .f64 c) l) w
theorem call91 (a:Option Addr) (K:Value→World→Prop) (w:World) (h:B91 a K w):Gets Tryz.prog 91 #[.agg #[.pointer a]] w K:=cq (sk:=.leaf) Tryz.func91 (by kernel_rfl) (by kernel_rfl) (by kernel_rfl) h
def B80 (m:Int) (n:Value) (K:Value→World→Prop) (w:World):Prop:=
 ∃ (f:Sl→Int→World→Prop) (j:Sl→Int→World→Nat),(f ⟨none,0,0⟩ 0 w)∧∀ (q:Env) (b:Sl) (d:Int) (e:World),f b d e→
 Br (decide (d<m))
 (CalW Tryz.prog cl n [] e fun l o=>
 ∃ i:Int,(l=.returned (.int .i64 i))∧
 New (.cells #[.int .i64 i] 3 (0,0)) (fun k p=>
 ∃ g:World,∃ c:Sl,((Builtin.append_ #[28,28] 28 #[.slice b.a b.len b.cap,.slice ((some ⟨k,0,none⟩)) 1 1]).run Tryz.prog p=.ok (.slice c.a c.len c.cap) g)∧
 (f c (IntKind.i64.wrap (d + 1)) g)∧j c (IntKind.i64.wrap (d + 1)) g<j b d e) o)
 (K (.slice b.a b.len b.cap) e)
def sk80:Sk:=(.seq .leaf (.seq .leaf (.seq (.seq .leaf (.block (.loop [5,7] [.sl,(.int .i64)] [5,7,8,9,10,11,12,13,14] .leaf))) .leaf)))
theorem call80 (a:Int) (b:Value) (K:Value→World→Prop) (w:World) (h:B80 a b K w):Gets Tryz.prog 80 #[.int .i64 a,b] w K:=cq (sk:=sk80) Tryz.func80 (by kernel_rfl) (by kernel_rfl) (by kernel_rfl) h
def B81 (m:Int) (n:Value) (K:Value→World→Prop) (w:World):Prop:=
 ∃ (f:Sl→Int→World→Prop) (j:Sl→Int→World→Nat),(f ⟨none,0,0⟩ 0 w)∧∀ (q:Env) (b:Sl) (d:Int) (e:World),f b d e→
 Br (decide (d<m))
 (CalW Tryz.prog cl n [] e fun l o=>
 ∃ i:ByteArray,(l=.returned (.string i))∧
 New (.cells #[.string i] 9 (0,0)) (fun k p=>
 ∃ g:World,∃ c:Sl,((Builtin.append_ #[29,29] 29 #[.slice b.a b.len b.cap,.slice ((some ⟨k,0,none⟩)) 1 1]).run Tryz.prog p=.ok (.slice c.a c.len c.cap) g)∧
 (f c (IntKind.i64.wrap (d + 1)) g)∧j c (IntKind.i64.wrap (d + 1)) g<j b d e) o)
 (K (.slice b.a b.len b.cap) e)
def sk81:Sk:=(.seq .leaf (.seq .leaf (.seq (.seq .leaf (.block (.loop [5,7] [.sl,(.int .i64)] [5,7,8,9,10,11,12,13,14] .leaf))) .leaf)))
theorem call81 (a:Int) (b:Value) (K:Value→World→Prop) (w:World) (h:B81 a b K w):Gets Tryz.prog 81 #[.int .i64 a,b] w K:=cq (sk:=sk81) Tryz.func81 (by kernel_rfl) (by kernel_rfl) (by kernel_rfl) h
def B92 (m:Int) (n:Value) (K:Value→World→Prop) (w:World):Prop:=
 ∃ (f:Sl→Int→World→Prop) (j:Sl→Int→World→Nat),(f ⟨none,0,0⟩ 0 w)∧∀ (q:Env) (b:Sl) (d:Int) (e:World),f b d e→
 Br (decide (d<m))
 (CalW Tryz.prog cl n [] e fun l o=>
 ∃ i:Nat,(l=.returned (.float .f64 i))∧
 New (.cells #[.float .f64 i] 33 (0,0)) (fun k p=>
 ∃ g:World,∃ c:Sl,((Builtin.append_ #[36,36] 36 #[.slice b.a b.len b.cap,.slice ((some ⟨k,0,none⟩)) 1 1]).run Tryz.prog p=.ok (.slice c.a c.len c.cap) g)∧
 (f c (IntKind.i64.wrap (d + 1)) g)∧j c (IntKind.i64.wrap (d + 1)) g<j b d e) o)
 (K (.slice b.a b.len b.cap) e)
def sk92:Sk:=(.seq .leaf (.seq .leaf (.seq (.seq .leaf (.block (.loop [5,7] [.sl,(.int .i64)] [5,7,8,9,10,11,12,13,14] .leaf))) .leaf)))
theorem call92 (a:Int) (b:Value) (K:Value→World→Prop) (w:World) (h:B92 a b K w):Gets Tryz.prog 92 #[.int .i64 a,b] w K:=cq (sk:=sk92) Tryz.func92 (by kernel_rfl) (by kernel_rfl) (by kernel_rfl) h
def B29 (an:Int) (ao:ByteArray) (ap:Int) (aq:Int) (ar:Int) (au:Int) (av:Nat) (aw:ByteArray) (ax:Int) (s:Sl) (r:Sl) (K:Value→World→Prop) (w:World):Prop:=
 New (.cells #[.int .i64 an,.string ao,.int .i64 ap,.int .i64 aq,.int .i64 ar,.int .i64 au,.float .f64 av,.string aw,.int .i64 ax,.slice s.a s.len s.cap,.slice r.a r.len r.cap] 38 (0,0)) (fun c T=>
 ∃ F:Int,∃ G:ByteArray,∃ H:Int,∃ I:Int,∃ J:Int,∃ L:Int,∃ M:Nat,∃ N:ByteArray,∃ O:Int,∃ m:Sl,∃ l:Sl,(At (fun b=>b=T) ⟨c,0,none⟩ [.int .i64 F,.string G,.int .i64 H,.int .i64 I,.int .i64 J,.int .i64 L,.float .f64 M,.string N,.int .i64 O,.slice m.a m.len m.cap,.slice l.a l.len l.cap])∧
 Calls Tryz.prog 41 #[.agg #[.int .i64 F,.string G,.int .i64 H,.int .i64 I,.int .i64 J,.int .i64 L,.float .f64 M,.string N,.int .i64 O,.slice m.a m.len m.cap,.slice l.a l.len l.cap]] T fun ay ac=>
 ∃ Q:Bool,(ay=.returned (.bool Q))∧
 Br (!Q)
 (K (.tuple #[.slice none 0 0,.int .i64 1]) ac)
 (New (.cells #[.slice none 0 0] 93 (0,0)) (fun d ad=>
 ∃ t:Int,(At (fun b=>b=ad) ⟨c,0,none⟩ [.int .i64 t])∧
 New (.cells #[.int .i64 t] 3 (0,0)) (fun aj ba=>
 Calls Tryz.prog 49 #[.pointer ((some ⟨d,0,none⟩)),.slice ((some ⟨aj,0,none⟩)) 1 1] ba fun az ae=>
 (az=.returned (.tuple #[]))∧
 ∃ u:ByteArray,(At (fun b=>b=ae) ⟨c,0 + 1,none⟩ [.string u])∧
 ∃ af:World,∃ f:Sl,((convert 9 42 (.string u)).run Tryz.prog ae=.ok (.slice f.a f.len f.cap) af)∧
 Calls Tryz.prog 52 #[.pointer ((some ⟨d,0,none⟩)),.slice f.a f.len f.cap] af fun a0 o=>
 (a0=.returned (.tuple #[]))∧
 ∃ v:Int,(At (fun b=>b=o) ⟨c,0 + 2,none⟩ [.int .i64 v])∧
 ∃ x:Int,(At (fun b=>b=o) ⟨c,0 + 3,none⟩ [.int .i64 x])∧
 ∃ y:Int,(At (fun b=>b=o) ⟨c,0 + 4,none⟩ [.int .i64 y])∧
 ∃ z:Int,(At (fun b=>b=o) ⟨c,0 + 5,none⟩ [.int .i64 z])∧
 New (.cells #[.int .i64 v,.int .i64 x,.int .i64 y,.int .i64 z] 3 (0,0)) (fun ak bb=>
 Calls Tryz.prog 49 #[.pointer ((some ⟨d,0,none⟩)),.slice ((some ⟨ak,0,none⟩)) 4 4] bb fun a1 ag=>
 (a1=.returned (.tuple #[]))∧
 ∃ A:Nat,(At (fun b=>b=ag) ⟨c,0 + 6,none⟩ [.float .f64 A])∧
 Calls Tryz.prog 87 #[.pointer ((some ⟨d,0,none⟩)),.float .f64 A] ag fun a2 U=>
 (a2=.returned (.tuple #[]))∧
 ∃ C:ByteArray,(At (fun b=>b=U) ⟨c,0 + 7,none⟩ [.string C])∧
 ∃ V:World,∃ g:Sl,((convert 9 42 (.string C)).run Tryz.prog U=.ok (.slice g.a g.len g.cap) V)∧
 Calls Tryz.prog 52 #[.pointer ((some ⟨d,0,none⟩)),.slice g.a g.len g.cap] V fun a3 X=>
 (a3=.returned (.tuple #[]))∧
 ∃ D:Int,(At (fun b=>b=X) ⟨c,0 + 8,none⟩ [.int .i64 D])∧
 New (.cells #[.int .i64 D] 3 (0,0)) (fun al a8=>
 Calls Tryz.prog 49 #[.pointer ((some ⟨d,0,none⟩)),.slice ((some ⟨al,0,none⟩)) 1 1] a8 fun a4 Y=>
 (a4=.returned (.tuple #[]))∧
 ∃ i:Sl,(At (fun b=>b=Y) ⟨c,0 + 8 + 1,none⟩ [.slice i.a i.len i.cap])∧
 Calls Tryz.prog 75 #[.pointer ((some ⟨d,0,none⟩)),.slice i.a i.len i.cap] Y fun a5 Z=>
 (a5=.returned (.tuple #[]))∧
 ∃ p:Sl,(At (fun b=>b=Z) ⟨c,0 + 10,none⟩ [.slice p.a p.len p.cap])∧
 New (.cells #[.int .i64 ((↑p.len:Int))] 3 (0,0)) (fun am a9=>
 Calls Tryz.prog 49 #[.pointer ((some ⟨d,0,none⟩)),.slice ((some ⟨am,0,none⟩)) 1 1] a9 fun a6 aa=>
 (a6=.returned (.tuple #[]))∧
 ∃ j:Sl,(At (fun b=>b=aa) ⟨c,0 + 10,none⟩ [.slice j.a j.len j.cap])∧
 ∃ (q:Int→World→Prop) (ah:Int→World→Nat),(q 0 aa)∧∀ (bc:Env) (e:Int) (n:World),q e n→
 Br (decide (e<(↑j.len:Int)))
 (Rng e j.len (NilP j.a fun ai=>
 ∃ E:Nat,(At (fun b=>b=n) (Addr.add ai e.toNat) [.float .f64 E])∧
 Calls Tryz.prog 87 #[.pointer ((some ⟨d,0,none⟩)),.float .f64 E] n fun a7 ab=>
 (a7=.returned (.tuple #[]))∧
 (q (IntKind.i64.wrap (e + 1)) ab)∧ah (IntKind.i64.wrap (e + 1)) ab<ah e n))
 (∃ k:Sl,(At (fun b=>b=n) ⟨d,0,none⟩ [.slice k.a k.len k.cap])∧
 K (.tuple #[.slice k.a k.len k.cap,.int .i64 0]) n)) Z) X) o) ad) ac)) w
def sk29:Sk:=(.seq .leaf (.seq .leaf (.seq .leaf (.seq .leaf (.seq .leaf (.seq .leaf (.seq .leaf (.seq .leaf (.seq .leaf (.seq .leaf (.seq .leaf (.seq (.seq .leaf (.block (.loop [62] [(.int .i64)] [6,62,63,64,65,66,67,68,69] .leaf))) .leaf))))))))))))
theorem call29 (d:Int) (e:ByteArray) (f:Int) (g:Int) (i:Int) (j:Int) (k:Nat) (l:ByteArray) (m:Int) (c:Sl) (b:Sl) (K:Value→World→Prop) (w:World) (h:B29 d e f g i j k l m c b K w):Gets Tryz.prog 29 #[.agg #[.int .i64 d,.string e,.int .i64 f,.int .i64 g,.int .i64 i,.int .i64 j,.float .f64 k,.string l,.int .i64 m,.slice c.a c.len c.cap,.slice b.a b.len b.cap]] w K:=cq (sk:=sk29) Tryz.func29 (by kernel_rfl) (by kernel_rfl) (by kernel_rfl) h
def B31 (D:Sl) (K:Value→World→Prop) (w:World):Prop:=
 New (.cells #[.int .i64 0,.string (ByteArray.mk #[]),.int .i64 0,.int .i64 0,.int .i64 0,.int .i64 0,.float .f64 0,.string (ByteArray.mk #[]),.int .i64 0,.slice none 0 0,.slice none 0 0] 38 (0,0)) (fun j e7=>
 Calls Tryz.prog 76 #[.slice D.a D.len D.cap] e7 fun d6 e8=>
 ∃ cw:Option Addr,(d6=.returned (.pointer cw))∧
 New (.cells #[.pointer none] 126 (0,0)) (fun c e9=>
 ∃ dr:World,((Instr.storeAt 126 (.pointer ((some ⟨c,0,none⟩))) (.agg #[.pointer cw])).run Tryz.prog e9=.ok () dr)∧
 ∃ (e:Option Addr→World→Prop),(Drw dr fun b dz=>
 ∃ E:Option Addr,(At b ⟨c,0,none⟩ [.pointer E])∧
 ∃ A:Option Addr,(At b ⟨c,0,none⟩ [.pointer A])∧
 ∃ g:Option Addr,(At b ⟨c,0,none⟩ [.pointer g])∧
 (Calls Tryz.prog 78 #[.agg #[.pointer E],.int .i64 9] dz fun d7 L=>
 ∃ i:Int,(d7=.returned (.int .i64 i))∧
 (b L)∧
 (Calls Tryz.prog 79 #[.agg #[.pointer A],.int .i64 16] L fun ei V=>
 ∃ k:ByteArray,(ei=.returned (.string k))∧
 (b V)∧
 (Calls Tryz.prog 90 #[.pointer ((some ⟨c,0,none⟩))] V fun et X=>
 ∃ y:Int,(et=.returned (.int .i64 y))∧
 (b X)∧
 (Calls Tryz.prog 90 #[.pointer ((some ⟨c,0,none⟩))] X fun e1 Y=>
 ∃ C:Int,(e1=.returned (.int .i64 C))∧
 (b Y)∧
 (Calls Tryz.prog 90 #[.pointer ((some ⟨c,0,none⟩))] Y fun e2 G=>
 ∃ F:Int,(e2=.returned (.int .i64 F))∧
 (b G)∧
 (Calls Tryz.prog 78 #[.agg #[.pointer g],.int .i64 1099511627776] G fun e3 cx=>
 ∃ a2:Int,(e3=.returned (.int .i64 a2))∧
 (b cx)∧
 New (.cells #[.int .i64 0,.string (ByteArray.mk #[]),.int .i64 0,.int .i64 0,.int .i64 0,.int .i64 0,.float .f64 0,.string (ByteArray.mk #[]),.int .i64 0,.slice none 0 0,.slice none 0 0] 38 (0,0)) (fun ae cy=>
 (b cy)∧
 ∃ cz:World,((Instr.storeAt 38 (.pointer ((some ⟨ae,0,none⟩))) (.agg #[.int .i64 i,.string k,.int .i64 y,.int .i64 C,.int .i64 F,.int .i64 a2,.float .f64 0,.string (ByteArray.mk #[]),.int .i64 0,.slice none 0 0,.slice none 0 0])).run Tryz.prog cy=.ok () cz)∧
 e ((some ⟨ae,0,none⟩)) cz) cx)∧
 New (.cells #[.int .i64 0,.string (ByteArray.mk #[]),.int .i64 0,.int .i64 0,.int .i64 0,.int .i64 0,.float .f64 0,.string (ByteArray.mk #[]),.int .i64 0,.slice none 0 0,.slice none 0 0] 38 (0,0)) (fun af c0=>
 (b c0)∧
 Calls Tryz.prog 78 #[.agg #[.pointer g],.int .i64 1099511627776] c0 fun e4 c1=>
 ∃ a3:Int,(e4=.returned (.int .i64 a3))∧
 (b c1)∧
 ∃ c2:World,((Instr.storeAt 38 (.pointer ((some ⟨af,0,none⟩))) (.agg #[.int .i64 i,.string k,.int .i64 y,.int .i64 C,.int .i64 F,.int .i64 a3,.float .f64 0,.string (ByteArray.mk #[]),.int .i64 0,.slice none 0 0,.slice none 0 0])).run Tryz.prog c1=.ok () c2)∧
 e ((some ⟨af,0,none⟩)) c2) G)∧
 New (.cells #[.int .i64 0,.string (ByteArray.mk #[]),.int .i64 0,.int .i64 0,.int .i64 0,.int .i64 0,.float .f64 0,.string (ByteArray.mk #[]),.int .i64 0,.slice none 0 0,.slice none 0 0] 38 (0,0)) (fun ag c3=>
 (b c3)∧
 Calls Tryz.prog 90 #[.pointer ((some ⟨c,0,none⟩))] c3 fun e5 c4=>
 ∃ ax:Int,(e5=.returned (.int .i64 ax))∧
 (b c4)∧
 Calls Tryz.prog 78 #[.agg #[.pointer g],.int .i64 1099511627776] c4 fun e6 c5=>
 ∃ a4:Int,(e6=.returned (.int .i64 a4))∧
 (b c5)∧
 ∃ c6:World,((Instr.storeAt 38 (.pointer ((some ⟨ag,0,none⟩))) (.agg #[.int .i64 i,.string k,.int .i64 y,.int .i64 C,.int .i64 ax,.int .i64 a4,.float .f64 0,.string (ByteArray.mk #[]),.int .i64 0,.slice none 0 0,.slice none 0 0])).run Tryz.prog c5=.ok () c6)∧
 e ((some ⟨ag,0,none⟩)) c6) Y)∧
 New (.cells #[.int .i64 0,.string (ByteArray.mk #[]),.int .i64 0,.int .i64 0,.int .i64 0,.int .i64 0,.float .f64 0,.string (ByteArray.mk #[]),.int .i64 0,.slice none 0 0,.slice none 0 0] 38 (0,0)) (fun ah c7=>
 (b c7)∧
 Calls Tryz.prog 90 #[.pointer ((some ⟨c,0,none⟩))] c7 fun d8 c8=>
 ∃ ar:Int,(d8=.returned (.int .i64 ar))∧
 (b c8)∧
 Calls Tryz.prog 90 #[.pointer ((some ⟨c,0,none⟩))] c8 fun d9 c9=>
 ∃ ay:Int,(d9=.returned (.int .i64 ay))∧
 (b c9)∧
 Calls Tryz.prog 78 #[.agg #[.pointer g],.int .i64 1099511627776] c9 fun ea da=>
 ∃ a5:Int,(ea=.returned (.int .i64 a5))∧
 (b da)∧
 ∃ db:World,((Instr.storeAt 38 (.pointer ((some ⟨ah,0,none⟩))) (.agg #[.int .i64 i,.string k,.int .i64 y,.int .i64 ar,.int .i64 ay,.int .i64 a5,.float .f64 0,.string (ByteArray.mk #[]),.int .i64 0,.slice none 0 0,.slice none 0 0])).run Tryz.prog da=.ok () db)∧
 e ((some ⟨ah,0,none⟩)) db) X)∧
 New (.cells #[.int .i64 0,.string (ByteArray.mk #[]),.int .i64 0,.int .i64 0,.int .i64 0,.int .i64 0,.float .f64 0,.string (ByteArray.mk #[]),.int .i64 0,.slice none 0 0,.slice none 0 0] 38 (0,0)) (fun ai dc=>
 (b dc)∧
 Calls Tryz.prog 90 #[.pointer ((some ⟨c,0,none⟩))] dc fun eb dd=>
 ∃ ao:Int,(eb=.returned (.int .i64 ao))∧
 (b dd)∧
 Calls Tryz.prog 90 #[.pointer ((some ⟨c,0,none⟩))] dd fun ec de=>
 ∃ au:Int,(ec=.returned (.int .i64 au))∧
 (b de)∧
 Calls Tryz.prog 90 #[.pointer ((some ⟨c,0,none⟩))] de fun ed df=>
 ∃ az:Int,(ed=.returned (.int .i64 az))∧
 (b df)∧
 Calls Tryz.prog 78 #[.agg #[.pointer g],.int .i64 1099511627776] df fun ee dg=>
 ∃ a6:Int,(ee=.returned (.int .i64 a6))∧
 (b dg)∧
 ∃ dh:World,((Instr.storeAt 38 (.pointer ((some ⟨ai,0,none⟩))) (.agg #[.int .i64 i,.string k,.int .i64 ao,.int .i64 au,.int .i64 az,.int .i64 a6,.float .f64 0,.string (ByteArray.mk #[]),.int .i64 0,.slice none 0 0,.slice none 0 0])).run Tryz.prog dg=.ok () dh)∧
 e ((some ⟨ai,0,none⟩)) dh) V)∧
 New (.cells #[.int .i64 0,.string (ByteArray.mk #[]),.int .i64 0,.int .i64 0,.int .i64 0,.int .i64 0,.float .f64 0,.string (ByteArray.mk #[]),.int .i64 0,.slice none 0 0,.slice none 0 0] 38 (0,0)) (fun aj di=>
 (b di)∧
 Calls Tryz.prog 79 #[.agg #[.pointer A],.int .i64 16] di fun ef dj=>
 ∃ am:ByteArray,(ef=.returned (.string am))∧
 (b dj)∧
 Calls Tryz.prog 90 #[.pointer ((some ⟨c,0,none⟩))] dj fun eg dk=>
 ∃ ap:Int,(eg=.returned (.int .i64 ap))∧
 (b dk)∧
 Calls Tryz.prog 90 #[.pointer ((some ⟨c,0,none⟩))] dk fun eh dl=>
 ∃ av:Int,(eh=.returned (.int .i64 av))∧
 (b dl)∧
 Calls Tryz.prog 90 #[.pointer ((some ⟨c,0,none⟩))] dl fun ej dm=>
 ∃ a0:Int,(ej=.returned (.int .i64 a0))∧
 (b dm)∧
 Calls Tryz.prog 78 #[.agg #[.pointer g],.int .i64 1099511627776] dm fun ek dn=>
 ∃ a7:Int,(ek=.returned (.int .i64 a7))∧
 (b dn)∧
 ∃ dp:World,((Instr.storeAt 38 (.pointer ((some ⟨aj,0,none⟩))) (.agg #[.int .i64 i,.string am,.int .i64 ap,.int .i64 av,.int .i64 a0,.int .i64 a7,.float .f64 0,.string (ByteArray.mk #[]),.int .i64 0,.slice none 0 0,.slice none 0 0])).run Tryz.prog dn=.ok () dp)∧
 e ((some ⟨aj,0,none⟩)) dp) L)∧
 New (.cells #[.int .i64 0,.string (ByteArray.mk #[]),.int .i64 0,.int .i64 0,.int .i64 0,.int .i64 0,.float .f64 0,.string (ByteArray.mk #[]),.int .i64 0,.slice none 0 0,.slice none 0 0] 38 (0,0)) (fun ak dq=>
 (b dq)∧
 Calls Tryz.prog 78 #[.agg #[.pointer E],.int .i64 9] dq fun el ds=>
 ∃ al:Int,(el=.returned (.int .i64 al))∧
 (b ds)∧
 Calls Tryz.prog 79 #[.agg #[.pointer A],.int .i64 16] ds fun em dt=>
 ∃ an:ByteArray,(em=.returned (.string an))∧
 (b dt)∧
 Calls Tryz.prog 90 #[.pointer ((some ⟨c,0,none⟩))] dt fun en du=>
 ∃ aq:Int,(en=.returned (.int .i64 aq))∧
 (b du)∧
 Calls Tryz.prog 90 #[.pointer ((some ⟨c,0,none⟩))] du fun eo dv=>
 ∃ aw:Int,(eo=.returned (.int .i64 aw))∧
 (b dv)∧
 Calls Tryz.prog 90 #[.pointer ((some ⟨c,0,none⟩))] dv fun ep dw=>
 ∃ a1:Int,(ep=.returned (.int .i64 a1))∧
 (b dw)∧
 Calls Tryz.prog 78 #[.agg #[.pointer g],.int .i64 1099511627776] dw fun eq dx=>
 ∃ a8:Int,(eq=.returned (.int .i64 a8))∧
 (b dx)∧
 ∃ dy:World,((Instr.storeAt 38 (.pointer ((some ⟨ak,0,none⟩))) (.agg #[.int .i64 al,.string an,.int .i64 aq,.int .i64 aw,.int .i64 a1,.int .i64 a8,.float .f64 0,.string (ByteArray.mk #[]),.int .i64 0,.slice none 0 0,.slice none 0 0])).run Tryz.prog dx=.ok () dy)∧
 e ((some ⟨ak,0,none⟩)) dy) dz)∧
 ∀ (fg:Env) (f:Option Addr) (H:World),e f H→
 ∃ a9:Option Addr,(At (fun d=>d=H) ⟨c,0,none⟩ [.pointer a9])∧
 Calls Tryz.prog 91 #[.agg #[.pointer a9]] H fun er fa=>
 ∃ ba:Nat,(er=.returned (.float .f64 ba))∧
 NilP f fun Z=>
 ∃ I:World,((Instr.storeAt 33 (.pointer ((some ⟨Z.block,Z.off + 6,none⟩))) (.float .f64 ba)).run Tryz.prog fa=.ok () I)∧
 ∃ bb:Option Addr,(At (fun d=>d=I) ⟨c,0,none⟩ [.pointer bb])∧
 Calls Tryz.prog 79 #[.agg #[.pointer bb],.int .i64 16] I fun es fb=>
 ∃ bc:ByteArray,(es=.returned (.string bc))∧
 NilP f fun aa=>
 ∃ d0:World,((Instr.storeAt 9 (.pointer ((some ⟨aa.block,aa.off + 7,none⟩))) (.string bc)).run Tryz.prog fb=.ok () d0)∧
 Calls Tryz.prog 90 #[.pointer ((some ⟨c,0,none⟩))] d0 fun eu fc=>
 ∃ be:Int,(eu=.returned (.int .i64 be))∧
 NilP f fun ab=>
 ∃ J:World,((Instr.storeAt 3 (.pointer ((some ⟨ab.block,ab.off + 8,none⟩))) (.int .i64 be)).run Tryz.prog fc=.ok () J)∧
 ∃ bf:Option Addr,(At (fun d=>d=J) ⟨c,0,none⟩ [.pointer bf])∧
 Calls Tryz.prog 78 #[.agg #[.pointer bf],.int .i64 16] J fun ev fd=>
 ∃ bg:Int,(ev=.returned (.int .i64 bg))∧
 Calls Tryz.prog 80 #[.int .i64 bg,.func (.func 90) #[] #[.pointer ((some ⟨c,0,none⟩))]] fd fun ew fe=>
 ∃ l:Sl,(ew=.returned (.slice l.a l.len l.cap))∧
 NilP f fun ac=>
 ∃ d1:World,((Instr.storeAt 28 (.pointer ((some ⟨ac.block,ac.off + 8 + 1,none⟩))) (.slice l.a l.len l.cap)).run Tryz.prog fe=.ok () d1)∧
 Drw d1 fun z ff=>
 ∃ b8:Option Addr,(At z ⟨c,0,none⟩ [.pointer b8])∧
 ∃ ca:Option Addr,(At z ⟨c,0,none⟩ [.pointer ca])∧
 Calls Tryz.prog 78 #[.agg #[.pointer b8],.int .i64 16] ff fun ex d2=>
 ∃ b9:Int,(ex=.returned (.int .i64 b9))∧
 (z d2)∧
 Calls Tryz.prog 92 #[.int .i64 b9,.func (.func 91) #[.agg #[.pointer ca]] #[]] d2 fun ey d3=>
 ∃ s:Sl,(ey=.returned (.slice s.a s.len s.cap))∧
 (z d3)∧
 NilP f fun ad=>
 ∃ M:World,((Instr.storeAt 36 (.pointer ((some ⟨ad.block,ad.off + 10,none⟩))) (.slice s.a s.len s.cap)).run Tryz.prog d3=.ok () M)∧
 ∃ cb:Option Addr,(At (fun d=>d=M) ⟨c,0,none⟩ [.pointer cb])∧
 Calls Tryz.prog 83 #[.pointer cb] M fun ez N=>
 ∃ cc:Bool,(ez=.returned (.bool cc))∧
 Br (!cc)
 (∃ O:World,((Instr.storeAt 38 (.pointer ((some ⟨j,0,none⟩))) (.agg #[.int .i64 0,.string (ByteArray.mk #[]),.int .i64 0,.int .i64 0,.int .i64 0,.int .i64 0,.float .f64 0,.string (ByteArray.mk #[]),.int .i64 0,.slice none 0 0,.slice none 0 0])).run Tryz.prog N=.ok () O)∧
 ∃ bd:Int,∃ bh:ByteArray,∃ br:Int,∃ b1:Int,∃ b3:Int,∃ b4:Int,∃ b5:Nat,∃ b6:ByteArray,∃ b7:Int,∃ r:Sl,∃ m:Sl,(At (fun d=>d=O) ⟨j,0,none⟩ [.int .i64 bd,.string bh,.int .i64 br,.int .i64 b1,.int .i64 b3,.int .i64 b4,.float .f64 b5,.string b6,.int .i64 b7,.slice r.a r.len r.cap,.slice m.a m.len m.cap])∧
 K (.tuple #[.agg #[.int .i64 bd,.string bh,.int .i64 br,.int .i64 b1,.int .i64 b3,.int .i64 b4,.float .f64 b5,.string b6,.int .i64 b7,.slice r.a r.len r.cap,.slice m.a m.len m.cap],.int .i64 6]) O)
 (NilP f fun d4=>
 ∃ cd:Int,∃ ce:ByteArray,∃ cf:Int,∃ cg:Int,∃ ch:Int,∃ ci:Int,∃ cj:Nat,∃ ck:ByteArray,∃ cl:Int,∃ u:Sl,∃ t:Sl,(At (fun d=>d=N) d4 [.int .i64 cd,.string ce,.int .i64 cf,.int .i64 cg,.int .i64 ch,.int .i64 ci,.float .f64 cj,.string ck,.int .i64 cl,.slice u.a u.len u.cap,.slice t.a t.len t.cap])∧
 Calls Tryz.prog 41 #[.agg #[.int .i64 cd,.string ce,.int .i64 cf,.int .i64 cg,.int .i64 ch,.int .i64 ci,.float .f64 cj,.string ck,.int .i64 cl,.slice u.a u.len u.cap,.slice t.a t.len t.cap]] N fun e0 Q=>
 ∃ cm:Bool,(e0=.returned (.bool cm))∧
 Br (!cm)
 (∃ T:World,((Instr.storeAt 38 (.pointer ((some ⟨j,0,none⟩))) (.agg #[.int .i64 0,.string (ByteArray.mk #[]),.int .i64 0,.int .i64 0,.int .i64 0,.int .i64 0,.float .f64 0,.string (ByteArray.mk #[]),.int .i64 0,.slice none 0 0,.slice none 0 0])).run Tryz.prog Q=.ok () T)∧
 ∃ bi:Int,∃ bj:ByteArray,∃ bk:Int,∃ bl:Int,∃ bm:Int,∃ bn:Int,∃ bo:Nat,∃ bp:ByteArray,∃ bq:Int,∃ n:Sl,∃ o:Sl,(At (fun d=>d=T) ⟨j,0,none⟩ [.int .i64 bi,.string bj,.int .i64 bk,.int .i64 bl,.int .i64 bm,.int .i64 bn,.float .f64 bo,.string bp,.int .i64 bq,.slice n.a n.len n.cap,.slice o.a o.len o.cap])∧
 K (.tuple #[.agg #[.int .i64 bi,.string bj,.int .i64 bk,.int .i64 bl,.int .i64 bm,.int .i64 bn,.float .f64 bo,.string bp,.int .i64 bq,.slice n.a n.len n.cap,.slice o.a o.len o.cap],.int .i64 6]) T)
 (NilP f fun d5=>
 ∃ cn:Int,∃ co:ByteArray,∃ cp:Int,∃ cq:Int,∃ cr:Int,∃ cs:Int,∃ ct:Nat,∃ cu:ByteArray,∃ cv:Int,∃ x:Sl,∃ v:Sl,(At (fun d=>d=Q) d5 [.int .i64 cn,.string co,.int .i64 cp,.int .i64 cq,.int .i64 cr,.int .i64 cs,.float .f64 ct,.string cu,.int .i64 cv,.slice x.a x.len x.cap,.slice v.a v.len v.cap])∧
 ∃ U:World,((Instr.storeAt 38 (.pointer ((some ⟨j,0,none⟩))) (.agg #[.int .i64 cn,.string co,.int .i64 cp,.int .i64 cq,.int .i64 cr,.int .i64 cs,.float .f64 ct,.string cu,.int .i64 cv,.slice x.a x.len x.cap,.slice v.a v.len v.cap])).run Tryz.prog Q=.ok () U)∧
 ∃ bs:Int,∃ bt:ByteArray,∃ bu:Int,∃ bv:Int,∃ bw:Int,∃ bx:Int,∃ bz:Nat,∃ b0:ByteArray,∃ b2:Int,∃ p:Sl,∃ q:Sl,(At (fun d=>d=U) ⟨j,0,none⟩ [.int .i64 bs,.string bt,.int .i64 bu,.int .i64 bv,.int .i64 bw,.int .i64 bx,.float .f64 bz,.string b0,.int .i64 b2,.slice p.a p.len p.cap,.slice q.a q.len q.cap])∧
 K (.tuple #[.agg #[.int .i64 bs,.string bt,.int .i64 bu,.int .i64 bv,.int .i64 bw,.int .i64 bx,.float .f64 bz,.string b0,.int .i64 b2,.slice p.a p.len p.cap,.slice q.a q.len q.cap],.int .i64 0]) U))) e8) w
def sk31:Sk:=(.seq .leaf (.seq .leaf (.seq .leaf (.cut [6] [.ptr] [6,11,12,13,14,15,16,17,18,19,20,21,22,23] .leaf .leaf))))
theorem call31 (b:Sl) (K:Value→World→Prop) (w:World) (h:B31 b K w):Gets Tryz.prog 31 #[.slice b.a b.len b.cap] w K:=cq (sk:=sk31) Tryz.func31 (by kernel_rfl) (by kernel_rfl) (by kernel_rfl) h
def B90 (d:Option Addr) (K:Value→World→Prop) (w:World):Prop:=
 NilP d fun c=>
 ∃ a:Option Addr,(At (fun f=>f=w) c [.pointer a])∧
 Calls Tryz.prog 78 #[.agg #[.pointer a],.int .i64 9999] w fun e g=>
 ∃ b:Int,(e=.returned (.int .i64 b))∧
 K (.int .i64 b) g
theorem call90 (a:Option Addr) (K:Value→World→Prop) (w:World) (h:B90 a K w):Gets Tryz.prog 90 #[.pointer a] w K:=cq (sk:=.leaf) Tryz.func90 (by kernel_rfl) (by kernel_rfl) (by kernel_rfl) h
def B25 (Z:Int) (aa:ByteArray) (ab:Int) (ac:Int) (ad:Int) (ae:Int) (af:Int) (p:Sl) (q:Sl) (K:Value→World→Prop) (w:World):Prop:=
 New (.cells #[.int .i64 Z,.string aa,.int .i64 ab,.int .i64 ac,.int .i64 ad,.int .i64 ae,.int .i64 af,.slice p.a p.len p.cap,.slice q.a q.len q.cap] 31 (0,0)) (fun c ag=>
 New (.cells #[.slice none 0 0] 93 (0,0)) (fun d E=>
 ∃ r:Int,(At (fun b=>b=E) ⟨c,0,none⟩ [.int .i64 r])∧
 New (.cells #[.int .i64 r] 3 (0,0)) (fun M ai=>
 Calls Tryz.prog 49 #[.pointer ((some ⟨d,0,none⟩)),.slice ((some ⟨M,0,none⟩)) 1 1] ai fun Q F=>
 (Q=.returned (.tuple #[]))∧
 ∃ s:ByteArray,(At (fun b=>b=F) ⟨c,0 + 1,none⟩ [.string s])∧
 ∃ G:World,∃ f:Sl,((convert 9 42 (.string s)).run Tryz.prog F=.ok (.slice f.a f.len f.cap) G)∧
 Calls Tryz.prog 52 #[.pointer ((some ⟨d,0,none⟩)),.slice f.a f.len f.cap] G fun T m=>
 (T=.returned (.tuple #[]))∧
 ∃ t:Int,(At (fun b=>b=m) ⟨c,0 + 2,none⟩ [.int .i64 t])∧
 ∃ u:Int,(At (fun b=>b=m) ⟨c,0 + 3,none⟩ [.int .i64 u])∧
 ∃ v:Int,(At (fun b=>b=m) ⟨c,0 + 4,none⟩ [.int .i64 v])∧
 ∃ x:Int,(At (fun b=>b=m) ⟨c,0 + 5,none⟩ [.int .i64 x])∧
 ∃ y:Int,(At (fun b=>b=m) ⟨c,0 + 6,none⟩ [.int .i64 y])∧
 New (.cells #[.int .i64 t,.int .i64 u,.int .i64 v,.int .i64 x,.int .i64 y] 3 (0,0)) (fun N aj=>
 Calls Tryz.prog 49 #[.pointer ((some ⟨d,0,none⟩)),.slice ((some ⟨N,0,none⟩)) 5 5] aj fun U H=>
 (U=.returned (.tuple #[]))∧
 ∃ g:Sl,(At (fun b=>b=H) ⟨c,0 + 7,none⟩ [.slice g.a g.len g.cap])∧
 Calls Tryz.prog 75 #[.pointer ((some ⟨d,0,none⟩)),.slice g.a g.len g.cap] H fun V I=>
 (V=.returned (.tuple #[]))∧
 ∃ n:Sl,(At (fun b=>b=I) ⟨c,0 + 8,none⟩ [.slice n.a n.len n.cap])∧
 New (.cells #[.int .i64 ((↑n.len:Int))] 3 (0,0)) (fun O ah=>
 Calls Tryz.prog 49 #[.pointer ((some ⟨d,0,none⟩)),.slice ((some ⟨O,0,none⟩)) 1 1] ah fun X A=>
 (X=.returned (.tuple #[]))∧
 ∃ i:Sl,(At (fun b=>b=A) ⟨c,0 + 8,none⟩ [.slice i.a i.len i.cap])∧
 ∃ (o:Int→World→Prop) (J:Int→World→Nat),(o 0 A)∧∀ (ak:Env) (e:Int) (l:World),o e l→
 Br (decide (e<(↑i.len:Int)))
 (Rng e i.len (NilP i.a fun L=>
 ∃ z:ByteArray,(At (fun b=>b=l) (Addr.add L e.toNat) [.string z])∧
 ∃ C:World,∃ j:Sl,((convert 9 42 (.string z)).run Tryz.prog l=.ok (.slice j.a j.len j.cap) C)∧
 Calls Tryz.prog 52 #[.pointer ((some ⟨d,0,none⟩)),.slice j.a j.len j.cap] C fun Y D=>
 (Y=.returned (.tuple #[]))∧
 (o (IntKind.i64.wrap (e + 1)) D)∧J (IntKind.i64.wrap (e + 1)) D<J e l))
 (∃ k:Sl,(At (fun b=>b=l) ⟨d,0,none⟩ [.slice k.a k.len k.cap])∧
 K (.slice k.a k.len k.cap) l)) I) m) E) ag) w
def sk25:Sk:=(.seq .leaf (.seq .leaf (.seq .leaf (.seq .leaf (.seq .leaf (.seq .leaf (.seq .leaf (.seq (.seq .leaf (.block (.loop [44] [(.int .i64)] [5,44,45,46,47,48,49,50,51,52] .leaf))) .leaf))))))))
theorem call25 (d:Int) (e:ByteArray) (f:Int) (g:Int) (i:Int) (j:Int) (k:Int) (b:Sl) (c:Sl) (K:Value→World→Prop) (w:World) (h:B25 d e f g i j k b c K w):Gets Tryz.prog 25 #[.agg #[.int .i64 d,.string e,.int .i64 f,.int .i64 g,.int .i64 i,.int .i64 j,.int .i64 k,.slice b.a b.len b.cap,.slice c.a c.len c.cap]] w K:=cq (sk:=sk25) Tryz.func25 (by kernel_rfl) (by kernel_rfl) (by kernel_rfl) h
def B26 (x:Sl) (K:Value→World→Prop) (w:World):Prop:=
 New (.cells #[.int .i64 0,.string (ByteArray.mk #[]),.int .i64 0,.int .i64 0,.int .i64 0,.int .i64 0,.int .i64 0,.slice none 0 0,.slice none 0 0] 31 (0,0)) (fun s ef=>
 Calls Tryz.prog 76 #[.slice x.a x.len x.cap] ef fun c9 eg=>
 ∃ bw:Option Addr,(c9=.returned (.pointer bw))∧
 New (.cells #[.pointer none] 126 (0,0)) (fun c eh=>
 ∃ cq:World,((Instr.storeAt 126 (.pointer ((some ⟨c,0,none⟩))) (.agg #[.pointer bw])).run Tryz.prog eh=.ok () cq)∧
 ∃ (e:Option Addr→World→Prop),(Drw cq fun b c0=>
 ∃ t:Option Addr,(At b ⟨c,0,none⟩ [.pointer t])∧
 (Calls Tryz.prog 77 #[.pointer ((some ⟨c,0,none⟩))] c0 fun da D=>
 ∃ f:Int,(da=.returned (.int .i64 f))∧
 (b D)∧
 (Calls Tryz.prog 79 #[.agg #[.pointer t],.int .i64 16] D fun dl c7=>
 ∃ g:ByteArray,(dl=.returned (.string g))∧
 (Calls Tryz.prog 77 #[.pointer ((some ⟨c,0,none⟩))] c7 fun dx J=>
 ∃ i:Int,(dx=.returned (.int .i64 i))∧
 (b J)∧
 (Calls Tryz.prog 77 #[.pointer ((some ⟨c,0,none⟩))] J fun d8 L=>
 ∃ r:Int,(d8=.returned (.int .i64 r))∧
 (b L)∧
 (Calls Tryz.prog 77 #[.pointer ((some ⟨c,0,none⟩))] L fun ea z=>
 ∃ u:Int,(ea=.returned (.int .i64 u))∧
 (b z)∧
 (Calls Tryz.prog 77 #[.pointer ((some ⟨c,0,none⟩))] z fun eb A=>
 ∃ y:Int,(eb=.returned (.int .i64 y))∧
 (b A)∧
 (Calls Tryz.prog 77 #[.pointer ((some ⟨c,0,none⟩))] A fun ec bx=>
 ∃ ax:Int,(ec=.returned (.int .i64 ax))∧
 (b bx)∧
 New (.cells #[.int .i64 0,.string (ByteArray.mk #[]),.int .i64 0,.int .i64 0,.int .i64 0,.int .i64 0,.int .i64 0,.slice none 0 0,.slice none 0 0] 31 (0,0)) (fun O bz=>
 (b bz)∧
 ∃ b0:World,((Instr.storeAt 31 (.pointer ((some ⟨O,0,none⟩))) (.agg #[.int .i64 f,.string g,.int .i64 i,.int .i64 r,.int .i64 u,.int .i64 y,.int .i64 ax,.slice none 0 0,.slice none 0 0])).run Tryz.prog bz=.ok () b0)∧
 e ((some ⟨O,0,none⟩)) b0) bx)∧
 New (.cells #[.int .i64 0,.string (ByteArray.mk #[]),.int .i64 0,.int .i64 0,.int .i64 0,.int .i64 0,.int .i64 0,.slice none 0 0,.slice none 0 0] 31 (0,0)) (fun Q b1=>
 (b b1)∧
 Calls Tryz.prog 77 #[.pointer ((some ⟨c,0,none⟩))] b1 fun ed b2=>
 ∃ ay:Int,(ed=.returned (.int .i64 ay))∧
 (b b2)∧
 ∃ b3:World,((Instr.storeAt 31 (.pointer ((some ⟨Q,0,none⟩))) (.agg #[.int .i64 f,.string g,.int .i64 i,.int .i64 r,.int .i64 u,.int .i64 y,.int .i64 ay,.slice none 0 0,.slice none 0 0])).run Tryz.prog b2=.ok () b3)∧
 e ((some ⟨Q,0,none⟩)) b3) A)∧
 New (.cells #[.int .i64 0,.string (ByteArray.mk #[]),.int .i64 0,.int .i64 0,.int .i64 0,.int .i64 0,.int .i64 0,.slice none 0 0,.slice none 0 0] 31 (0,0)) (fun T b4=>
 (b b4)∧
 Calls Tryz.prog 77 #[.pointer ((some ⟨c,0,none⟩))] b4 fun ee b5=>
 ∃ ap:Int,(ee=.returned (.int .i64 ap))∧
 (b b5)∧
 Calls Tryz.prog 77 #[.pointer ((some ⟨c,0,none⟩))] b5 fun db b6=>
 ∃ az:Int,(db=.returned (.int .i64 az))∧
 (b b6)∧
 ∃ b7:World,((Instr.storeAt 31 (.pointer ((some ⟨T,0,none⟩))) (.agg #[.int .i64 f,.string g,.int .i64 i,.int .i64 r,.int .i64 u,.int .i64 ap,.int .i64 az,.slice none 0 0,.slice none 0 0])).run Tryz.prog b6=.ok () b7)∧
 e ((some ⟨T,0,none⟩)) b7) z)∧
 New (.cells #[.int .i64 0,.string (ByteArray.mk #[]),.int .i64 0,.int .i64 0,.int .i64 0,.int .i64 0,.int .i64 0,.slice none 0 0,.slice none 0 0] 31 (0,0)) (fun U b8=>
 (b b8)∧
 Calls Tryz.prog 77 #[.pointer ((some ⟨c,0,none⟩))] b8 fun dc b9=>
 ∃ ak:Int,(dc=.returned (.int .i64 ak))∧
 (b b9)∧
 Calls Tryz.prog 77 #[.pointer ((some ⟨c,0,none⟩))] b9 fun dd ca=>
 ∃ aq:Int,(dd=.returned (.int .i64 aq))∧
 (b ca)∧
 Calls Tryz.prog 77 #[.pointer ((some ⟨c,0,none⟩))] ca fun de cb=>
 ∃ a0:Int,(de=.returned (.int .i64 a0))∧
 (b cb)∧
 ∃ cc:World,((Instr.storeAt 31 (.pointer ((some ⟨U,0,none⟩))) (.agg #[.int .i64 f,.string g,.int .i64 i,.int .i64 r,.int .i64 ak,.int .i64 aq,.int .i64 a0,.slice none 0 0,.slice none 0 0])).run Tryz.prog cb=.ok () cc)∧
 e ((some ⟨U,0,none⟩)) cc) L)∧
 New (.cells #[.int .i64 0,.string (ByteArray.mk #[]),.int .i64 0,.int .i64 0,.int .i64 0,.int .i64 0,.int .i64 0,.slice none 0 0,.slice none 0 0] 31 (0,0)) (fun V cd=>
 (b cd)∧
 Calls Tryz.prog 77 #[.pointer ((some ⟨c,0,none⟩))] cd fun df ce=>
 ∃ ag:Int,(df=.returned (.int .i64 ag))∧
 (b ce)∧
 Calls Tryz.prog 77 #[.pointer ((some ⟨c,0,none⟩))] ce fun dg cf=>
 ∃ al:Int,(dg=.returned (.int .i64 al))∧
 (b cf)∧
 Calls Tryz.prog 77 #[.pointer ((some ⟨c,0,none⟩))] cf fun dh cg=>
 ∃ ar:Int,(dh=.returned (.int .i64 ar))∧
 (b cg)∧
 Calls Tryz.prog 77 #[.pointer ((some ⟨c,0,none⟩))] cg fun di ch=>
 ∃ a1:Int,(di=.returned (.int .i64 a1))∧
 (b ch)∧
 ∃ ci:World,((Instr.storeAt 31 (.pointer ((some ⟨V,0,none⟩))) (.agg #[.int .i64 f,.string g,.int .i64 i,.int .i64 ag,.int .i64 al,.int .i64 ar,.int .i64 a1,.slice none 0 0,.slice none 0 0])).run Tryz.prog ch=.ok () ci)∧
 e ((some ⟨V,0,none⟩)) ci) J)∧
 New (.cells #[.int .i64 0,.string (ByteArray.mk #[]),.int .i64 0,.int .i64 0,.int .i64 0,.int .i64 0,.int .i64 0,.slice none 0 0,.slice none 0 0] 31 (0,0)) (fun X cj=>
 (b cj)∧
 Calls Tryz.prog 77 #[.pointer ((some ⟨c,0,none⟩))] cj fun dj ck=>
 ∃ ad:Int,(dj=.returned (.int .i64 ad))∧
 (b ck)∧
 Calls Tryz.prog 77 #[.pointer ((some ⟨c,0,none⟩))] ck fun dk cl=>
 ∃ ah:Int,(dk=.returned (.int .i64 ah))∧
 (b cl)∧
 Calls Tryz.prog 77 #[.pointer ((some ⟨c,0,none⟩))] cl fun dm cm=>
 ∃ am:Int,(dm=.returned (.int .i64 am))∧
 (b cm)∧
 Calls Tryz.prog 77 #[.pointer ((some ⟨c,0,none⟩))] cm fun dn cn=>
 ∃ au:Int,(dn=.returned (.int .i64 au))∧
 (b cn)∧
 Calls Tryz.prog 77 #[.pointer ((some ⟨c,0,none⟩))] cn fun dp co=>
 ∃ a2:Int,(dp=.returned (.int .i64 a2))∧
 (b co)∧
 ∃ cp:World,((Instr.storeAt 31 (.pointer ((some ⟨X,0,none⟩))) (.agg #[.int .i64 f,.string g,.int .i64 ad,.int .i64 ah,.int .i64 am,.int .i64 au,.int .i64 a2,.slice none 0 0,.slice none 0 0])).run Tryz.prog co=.ok () cp)∧
 e ((some ⟨X,0,none⟩)) cp) c7)∧
 New (.cells #[.int .i64 0,.string (ByteArray.mk #[]),.int .i64 0,.int .i64 0,.int .i64 0,.int .i64 0,.int .i64 0,.slice none 0 0,.slice none 0 0] 31 (0,0)) (fun Y cr=>
 (b cr)∧
 Calls Tryz.prog 79 #[.agg #[.pointer t],.int .i64 16] cr fun dq ei=>
 ∃ ab:ByteArray,(dq=.returned (.string ab))∧
 Calls Tryz.prog 77 #[.pointer ((some ⟨c,0,none⟩))] ei fun dr cs=>
 ∃ ae:Int,(dr=.returned (.int .i64 ae))∧
 (b cs)∧
 Calls Tryz.prog 77 #[.pointer ((some ⟨c,0,none⟩))] cs fun ds ct=>
 ∃ ai:Int,(ds=.returned (.int .i64 ai))∧
 (b ct)∧
 Calls Tryz.prog 77 #[.pointer ((some ⟨c,0,none⟩))] ct fun dt cu=>
 ∃ an:Int,(dt=.returned (.int .i64 an))∧
 (b cu)∧
 Calls Tryz.prog 77 #[.pointer ((some ⟨c,0,none⟩))] cu fun du cv=>
 ∃ av:Int,(du=.returned (.int .i64 av))∧
 (b cv)∧
 Calls Tryz.prog 77 #[.pointer ((some ⟨c,0,none⟩))] cv fun dv cw=>
 ∃ a3:Int,(dv=.returned (.int .i64 a3))∧
 (b cw)∧
 ∃ cx:World,((Instr.storeAt 31 (.pointer ((some ⟨Y,0,none⟩))) (.agg #[.int .i64 f,.string ab,.int .i64 ae,.int .i64 ai,.int .i64 an,.int .i64 av,.int .i64 a3,.slice none 0 0,.slice none 0 0])).run Tryz.prog cw=.ok () cx)∧
 e ((some ⟨Y,0,none⟩)) cx) D)∧
 New (.cells #[.int .i64 0,.string (ByteArray.mk #[]),.int .i64 0,.int .i64 0,.int .i64 0,.int .i64 0,.int .i64 0,.slice none 0 0,.slice none 0 0] 31 (0,0)) (fun Z cy=>
 (b cy)∧
 Calls Tryz.prog 77 #[.pointer ((some ⟨c,0,none⟩))] cy fun dw cz=>
 ∃ aa:Int,(dw=.returned (.int .i64 aa))∧
 (b cz)∧
 Calls Tryz.prog 79 #[.agg #[.pointer t],.int .i64 16] cz fun dy ej=>
 ∃ ac:ByteArray,(dy=.returned (.string ac))∧
 Calls Tryz.prog 77 #[.pointer ((some ⟨c,0,none⟩))] ej fun dz c1=>
 ∃ af:Int,(dz=.returned (.int .i64 af))∧
 (b c1)∧
 Calls Tryz.prog 77 #[.pointer ((some ⟨c,0,none⟩))] c1 fun d0 c2=>
 ∃ aj:Int,(d0=.returned (.int .i64 aj))∧
 (b c2)∧
 Calls Tryz.prog 77 #[.pointer ((some ⟨c,0,none⟩))] c2 fun d1 c3=>
 ∃ ao:Int,(d1=.returned (.int .i64 ao))∧
 (b c3)∧
 Calls Tryz.prog 77 #[.pointer ((some ⟨c,0,none⟩))] c3 fun d2 c4=>
 ∃ aw:Int,(d2=.returned (.int .i64 aw))∧
 (b c4)∧
 Calls Tryz.prog 77 #[.pointer ((some ⟨c,0,none⟩))] c4 fun d3 c5=>
 ∃ a4:Int,(d3=.returned (.int .i64 a4))∧
 (b c5)∧
 ∃ c6:World,((Instr.storeAt 31 (.pointer ((some ⟨Z,0,none⟩))) (.agg #[.int .i64 aa,.string ac,.int .i64 af,.int .i64 aj,.int .i64 ao,.int .i64 aw,.int .i64 a4,.slice none 0 0,.slice none 0 0])).run Tryz.prog c5=.ok () c6)∧
 e ((some ⟨Z,0,none⟩)) c6) c0)∧
 ∀ (eo:Env) (v:Option Addr) (C:World),e v C→
 ∃ a5:Option Addr,(At (fun d=>d=C) ⟨c,0,none⟩ [.pointer a5])∧
 Calls Tryz.prog 78 #[.agg #[.pointer a5],.int .i64 8] C fun d4 ek=>
 ∃ a6:Int,(d4=.returned (.int .i64 a6))∧
 Calls Tryz.prog 80 #[.int .i64 a6,.func (.func 77) #[] #[.pointer ((some ⟨c,0,none⟩))]] ek fun d5 el=>
 ∃ j:Sl,(d5=.returned (.slice j.a j.len j.cap))∧
 NilP v fun M=>
 ∃ E:World,((Instr.storeAt 28 (.pointer ((some ⟨M.block,M.off + 7,none⟩))) (.slice j.a j.len j.cap)).run Tryz.prog el=.ok () E)∧
 ∃ a8:Option Addr,(At (fun d=>d=E) ⟨c,0,none⟩ [.pointer a8])∧
 Calls Tryz.prog 78 #[.agg #[.pointer a8],.int .i64 600] E fun d6 em=>
 ∃ a9:Int,(d6=.returned (.int .i64 a9))∧
 Calls Tryz.prog 81 #[.int .i64 a9,.func (.func 82) #[] #[.pointer ((some ⟨c,0,none⟩))]] em fun d7 en=>
 ∃ k:Sl,(d7=.returned (.slice k.a k.len k.cap))∧
 NilP v fun N=>
 ∃ F:World,((Instr.storeAt 29 (.pointer ((some ⟨N.block,N.off + 8,none⟩))) (.slice k.a k.len k.cap)).run Tryz.prog en=.ok () F)∧
 ∃ ba:Option Addr,(At (fun d=>d=F) ⟨c,0,none⟩ [.pointer ba])∧
 Calls Tryz.prog 83 #[.pointer ba] F fun d9 G=>
 ∃ bb:Bool,(d9=.returned (.bool bb))∧
 Br (!bb)
 (∃ H:World,((Instr.storeAt 31 (.pointer ((some ⟨s,0,none⟩))) (.agg #[.int .i64 0,.string (ByteArray.mk #[]),.int .i64 0,.int .i64 0,.int .i64 0,.int .i64 0,.int .i64 0,.slice none 0 0,.slice none 0 0])).run Tryz.prog G=.ok () H)∧
 ∃ a7:Int,∃ bc:ByteArray,∃ bj:Int,∃ bk:Int,∃ bl:Int,∃ bm:Int,∃ bn:Int,∃ n:Sl,∃ o:Sl,(At (fun d=>d=H) ⟨s,0,none⟩ [.int .i64 a7,.string bc,.int .i64 bj,.int .i64 bk,.int .i64 bl,.int .i64 bm,.int .i64 bn,.slice n.a n.len n.cap,.slice o.a o.len o.cap])∧
 K (.tuple #[.agg #[.int .i64 a7,.string bc,.int .i64 bj,.int .i64 bk,.int .i64 bl,.int .i64 bm,.int .i64 bn,.slice n.a n.len n.cap,.slice o.a o.len o.cap],.int .i64 6]) H)
 (NilP v fun c8=>
 ∃ bp:Int,∃ bq:ByteArray,∃ br:Int,∃ bs:Int,∃ bt:Int,∃ bu:Int,∃ bv:Int,∃ p:Sl,∃ q:Sl,(At (fun d=>d=G) c8 [.int .i64 bp,.string bq,.int .i64 br,.int .i64 bs,.int .i64 bt,.int .i64 bu,.int .i64 bv,.slice p.a p.len p.cap,.slice q.a q.len q.cap])∧
 ∃ I:World,((Instr.storeAt 31 (.pointer ((some ⟨s,0,none⟩))) (.agg #[.int .i64 bp,.string bq,.int .i64 br,.int .i64 bs,.int .i64 bt,.int .i64 bu,.int .i64 bv,.slice p.a p.len p.cap,.slice q.a q.len q.cap])).run Tryz.prog G=.ok () I)∧
 ∃ bo:Int,∃ bd:ByteArray,∃ be:Int,∃ bf:Int,∃ bg:Int,∃ bh:Int,∃ bi:Int,∃ l:Sl,∃ m:Sl,(At (fun d=>d=I) ⟨s,0,none⟩ [.int .i64 bo,.string bd,.int .i64 be,.int .i64 bf,.int .i64 bg,.int .i64 bh,.int .i64 bi,.slice l.a l.len l.cap,.slice m.a m.len m.cap])∧
 K (.tuple #[.agg #[.int .i64 bo,.string bd,.int .i64 be,.int .i64 bf,.int .i64 bg,.int .i64 bh,.int .i64 bi,.slice l.a l.len l.cap,.slice m.a m.len m.cap],.int .i64 0]) I)) eg) w
def sk26:Sk:=(.seq .leaf (.seq .leaf (.seq .leaf (.cut [6] [.ptr] [6,11,12,13,14,15,16,17,18,19,20,21,22,23,24,25] .leaf .leaf))))
theorem call26 (b:Sl) (K:Value→World→Prop) (w:World) (h:B26 b K w):Gets Tryz.prog 26 #[.slice b.a b.len b.cap] w K:=cq (sk:=sk26) Tryz.func26 (by kernel_rfl) (by kernel_rfl) (by kernel_rfl) h
def B77 (d:Option Addr) (K:Value→World→Prop) (w:World):Prop:=
 NilP d fun c=>
 ∃ a:Option Addr,(At (fun f=>f=w) c [.pointer a])∧
 Calls Tryz.prog 78 #[.agg #[.pointer a],.int .i64 1099511627776] w fun e g=>
 ∃ b:Int,(e=.returned (.int .i64 b))∧
 K (.int .i64 b) g
theorem call77 (a:Option Addr) (K:Value→World→Prop) (w:World) (h:B77 a K w):Gets Tryz.prog 77 #[.pointer a] w K:=cq (sk:=.leaf) Tryz.func77 (by kernel_rfl) (by kernel_rfl) (by kernel_rfl) h
def B82 (d:Option Addr) (K:Value→World→Prop) (w:World):Prop:=
 NilP d fun c=>
 ∃ a:Option Addr,(At (fun f=>f=w) c [.pointer a])∧
 Calls Tryz.prog 79 #[.agg #[.pointer a],.int .i64 16] w fun e g=>
 ∃ b:ByteArray,(e=.returned (.string b))∧
 K (.string b) g
theorem call82 (a:Option Addr) (K:Value→World→Prop) (w:World) (h:B82 a K w):Gets Tryz.prog 82 #[.pointer a] w K:=cq (sk:=.leaf) Tryz.func82 (by kernel_rfl) (by kernel_rfl) (by kernel_rfl) h
def B46 (s:Option Addr) (t:ByteArray) (c:List PanicEntry→World→Prop) (K:Value→World→Prop) (w:World):Prop:=
 Calls Tryz.prog 119 #[.string t] w fun i q=>
 (∃ l:Int,∃ m:Int,(i=.returned (.tuple #[.int .i64 l,.int .i64 m]))∧
 Calls Tryz.prog 110 #[.int .i64 m] q fun j b=>
 ((j=.returned (.tuple #[]))∧
 NilP s fun d=>
 ∃ n:Option Nat,(At (fun a=>a=b) ⟨d.block,d.off + 3,none⟩ [.map n])∧
 ∃ o:Option Addr,∃ p:Bool,(∀ a,(fun a=>a=b) a→((Instr.lookup 78 (.map n) (.int .i64 l) true)).run Tryz.prog a=.ok (.tuple #[.pointer o,.bool p]) a)∧
 Calls Tryz.prog 40 #[.bool p,.int .i64 2] b fun k r=>
 ((k=.returned (.tuple #[]))∧
 K (.pointer o) r)∨
 (∃ g:List PanicEntry,(k=.panicked g)∧c g r))∨
 (∃ f:List PanicEntry,(j=.panicked f)∧c f b))∨
 (∃ e:List PanicEntry,(i=.panicked e)∧c e q)
theorem call46 (b:Option Addr) (c:ByteArray) (a:List PanicEntry→World→Prop) (K:Value→World→Prop) (w:World) (h:B46 b c a K w):GetsX Tryz.prog 46 #[.pointer b,.string c] w a K:=cqx (sk:=.leaf) Tryz.func46 (by kernel_rfl) (by kernel_rfl) (by kernel_rfl) h
def B57 (u:Option Addr) (v:Int) (t:List PanicEntry→World→Prop) (K:Value→World→Prop) (w:World):Prop:=
 New (.cells #[.pointer none,.pointer none] 102 (0,0)) (fun g b=>
 NilP u fun e=>
 ∃ k:Option Nat,(At (fun a=>a=b) ⟨e.block,e.off + 2,none⟩ [.map k])∧
 ∃ l:Option Addr,∃ m:Option Addr,∃ n:Bool,(∀ a,(fun a=>a=b) a→((Instr.lookup 77 (.map k) (.int .i64 v) true)).run Tryz.prog a=.ok (.tuple #[.agg #[.pointer l,.pointer m],.bool n]) a)∧
 New (.cells #[.pointer none,.pointer none] 102 (0,0)) (fun f x=>
 ∃ s:World,((Instr.storeAt 102 (.pointer ((some ⟨f,0,none⟩))) (.agg #[.pointer l,.pointer m])).run Tryz.prog x=.ok () s)∧
 Calls Tryz.prog 40 #[.bool n,.int .i64 2] s fun j c=>
 ((j=.returned (.tuple #[]))∧
 ∃ o:Option Addr,∃ p:Option Addr,(At (fun a=>a=c) ⟨f,0,none⟩ [.pointer o,.pointer p])∧
 ∃ d:World,((Instr.storeAt 102 (.pointer ((some ⟨g,0,none⟩))) (.agg #[.pointer o,.pointer p])).run Tryz.prog c=.ok () d)∧
 ∃ q:Option Addr,∃ r:Option Addr,(At (fun a=>a=d) ⟨g,0,none⟩ [.pointer q,.pointer r])∧
 K (.agg #[.pointer q,.pointer r]) d)∨
 (∃ i:List PanicEntry,(j=.panicked i)∧t i c)) b) w
theorem call57 (b:Option Addr) (c:Int) (a:List PanicEntry→World→Prop) (K:Value→World→Prop) (w:World) (h:B57 b c a K w):GetsX Tryz.prog 57 #[.pointer b,.int .i64 c] w a K:=cqx (sk:=.leaf) Tryz.func57 (by kernel_rfl) (by kernel_rfl) (by kernel_rfl) h
def B114 (E:Option Addr) (b2:Int) (K:Value→World→Prop) (w:World):Prop:=
 NilP E fun D=>
 ∃ J:Option Nat,(At (fun b=>b=w) ⟨D.block,D.off + 2,none⟩ [.map J])∧
 ∃ L:Option Addr,∃ M:Option Addr,(∀ b,(fun b=>b=w) b→((Instr.lookup 77 (.map J) (.int .i64 b2) false)).run Tryz.prog b=.ok (.agg #[.pointer L,.pointer M]) b)∧
 New (.cells #[.pointer none,.pointer none] 102 (0,0)) (fun f b5=>
 ∃ bd:World,((Instr.storeAt 102 (.pointer ((some ⟨f,0,none⟩))) (.agg #[.pointer L,.pointer M])).run Tryz.prog b5=.ok () bd)∧
 ∃ (l:Option Addr→Bool→World→Prop),(Drw bd fun c bh=>
 ∃ o:Option Addr,(At c ⟨f,0 + 1,none⟩ [.pointer o])∧
 ∃ s:Option Addr,(At c ⟨f,0,none⟩ [.pointer s])∧
 (Calls Tryz.prog 58 #[.pointer s] bh fun bs x=>
 ∃ d:Sl,(bs=.returned (.slice d.a d.len d.cap))∧
 (c x)∧
 (Calls Tryz.prog 183 #[.pointer o,.slice d.a d.len d.cap] x fun bt bi=>
 ∃ N:Int,∃ O:Int,∃ ab:Int,∃ ac:Int,∃ ad:Nat,∃ ae:Bool,(bt=.returned (.tuple #[.agg #[.int .i64 N,.int .i64 O,.int .i64 ab,.int .i64 ac,.float .f64 ad],.bool ae]))∧
 (c bi)∧
 New (.cells #[.int .i64 0,.int .i64 0,.int .i64 0,.int .i64 0,.float .f64 0] 65 (0,0)) (fun F bj=>
 (c bj)∧
 ∃ bk:World,((Instr.storeAt 65 (.pointer ((some ⟨F,0,none⟩))) (.agg #[.int .i64 N,.int .i64 O,.int .i64 ab,.int .i64 ac,.float .f64 ad])).run Tryz.prog bj=.ok () bk)∧
 l ((some ⟨F,0,none⟩)) ae bk) bi)∧
 New (.cells #[.int .i64 0,.int .i64 0,.int .i64 0,.int .i64 0,.float .f64 0] 65 (0,0)) (fun G bl=>
 (c bl)∧
 Calls Tryz.prog 183 #[.pointer o,.slice d.a d.len d.cap] bl fun bu bm=>
 ∃ af:Int,∃ ag:Int,∃ ah:Int,∃ ai:Int,∃ Q:Nat,∃ T:Bool,(bu=.returned (.tuple #[.agg #[.int .i64 af,.int .i64 ag,.int .i64 ah,.int .i64 ai,.float .f64 Q],.bool T]))∧
 (c bm)∧
 ∃ a7:World,((Instr.storeAt 65 (.pointer ((some ⟨G,0,none⟩))) (.agg #[.int .i64 af,.int .i64 ag,.int .i64 ah,.int .i64 ai,.float .f64 Q])).run Tryz.prog bm=.ok () a7)∧
 l ((some ⟨G,0,none⟩)) T a7) x)∧
 New (.cells #[.int .i64 0,.int .i64 0,.int .i64 0,.int .i64 0,.float .f64 0] 65 (0,0)) (fun H a8=>
 (c a8)∧
 Calls Tryz.prog 58 #[.pointer s] a8 fun bv a9=>
 ∃ g:Sl,(bv=.returned (.slice g.a g.len g.cap))∧
 (c a9)∧
 Calls Tryz.prog 183 #[.pointer o,.slice g.a g.len g.cap] a9 fun bw ba=>
 ∃ U:Int,∃ V:Int,∃ X:Int,∃ Y:Int,∃ Z:Nat,∃ aa:Bool,(bw=.returned (.tuple #[.agg #[.int .i64 U,.int .i64 V,.int .i64 X,.int .i64 Y,.float .f64 Z],.bool aa]))∧
 (c ba)∧
 ∃ bb:World,((Instr.storeAt 65 (.pointer ((some ⟨H,0,none⟩))) (.agg #[.int .i64 U,.int .i64 V,.int .i64 X,.int .i64 Y,.float .f64 Z])).run Tryz.prog ba=.ok () bb)∧
 l ((some ⟨H,0,none⟩)) aa bb) bh)∧
 ∀ (ca:Env) (a6:Option Addr) (I:Bool) (bc:World),l a6 I bc→
 ∃ (p:Option Addr→Bool→World→Prop) (bn:Option Addr→Bool→World→Nat),(p a6 I bc)∧∀ (cb:Env) (e:Option Addr) (r:Bool) (j:World),p e r j→
 Br r
 (∃ aq:Option Addr,(At (fun b=>b=j) ⟨f,0 + 1,none⟩ [.pointer aq])∧
 NilP e fun bo=>
 ∃ ar:Int,(At (fun b=>b=j) (Addr.add bo 0) [.int .i64 ar])∧
 Calls Tryz.prog 116 #[.pointer aq,.int .i64 ar] j fun bx k=>
 ∃ b3:Int,(bx=.returned (.int .i64 b3))∧
 ∃ au:Option Addr,(At (fun b=>b=k) ⟨f,0,none⟩ [.pointer au])∧
 NilP e fun bp=>
 ∃ av:Int,(At (fun b=>b=k) (Addr.add bp 0) [.int .i64 av])∧
 NilP e fun y=>
 ∃ aw:Int,(At (fun b=>b=k) ⟨y.block,y.off + 1,none⟩ [.int .i64 aw])∧
 NilP e fun z=>
 ∃ ax:Int,(At (fun b=>b=k) ⟨z.block,z.off + 2,none⟩ [.int .i64 ax])∧
 Calls Tryz.prog 112 #[.pointer au,.int .i64 av,.int .i64 aw,.int .i64 ax] k fun bz b6=>
 ∃ b4:Int,(bz=.returned (.int .i64 b4))∧
 Drw b6 fun q b7=>
 NilP E fun A=>
 ∃ ay:Option Nat,(At q ⟨A.block,A.off + 3,none⟩ [.map ay])∧
 NilP e fun bq=>
 ∃ az:Int,(At q (Addr.add bq 0) [.int .i64 az])∧
 ∃ a0:Option Addr,(∀ b,q b→((Instr.lookup 78 (.map ay) (.int .i64 az) false)).run Tryz.prog b=.ok (.pointer a0) b)∧
 NilP a0 fun C=>
 ∃ u:World,((Instr.storeAt 3 (.pointer ((some ⟨C.block,C.off + 4,none⟩))) (.int .i64 2)).run Tryz.prog b7=.ok () u)∧
 NilP e fun br=>
 ∃ a1:Int,∃ a2:Int,∃ a3:Int,∃ a4:Int,∃ a5:Nat,(At (fun b=>b=u) br [.int .i64 a1,.int .i64 a2,.int .i64 a3,.int .i64 a4,.float .f64 a5])∧
 New (.cells #[.int .i64 0,.int .i64 0,.int .i64 0,.int .i64 0,.float .f64 0] 65 (0,0)) (fun n b8=>
 ∃ be:World,((Instr.storeAt 65 (.pointer ((some ⟨n,0,none⟩))) (.agg #[.int .i64 a1,.int .i64 a2,.int .i64 a3,.int .i64 a4,.float .f64 a5])).run Tryz.prog b8=.ok () be)∧
 Drw be fun m b9=>
 ∃ aj:Option Addr,(At m ⟨f,0 + 1,none⟩ [.pointer aj])∧
 ∃ ak:Option Addr,(At m ⟨f,0,none⟩ [.pointer ak])∧
 Calls Tryz.prog 58 #[.pointer ak] b9 fun b0 bf=>
 ∃ i:Sl,(b0=.returned (.slice i.a i.len i.cap))∧
 (m bf)∧
 Calls Tryz.prog 183 #[.pointer aj,.slice i.a i.len i.cap] bf fun b1 bg=>
 ∃ al:Int,∃ am:Int,∃ an:Int,∃ ao:Int,∃ ap:Nat,∃ t:Bool,(b1=.returned (.tuple #[.agg #[.int .i64 al,.int .i64 am,.int .i64 an,.int .i64 ao,.float .f64 ap],.bool t]))∧
 (m bg)∧
 ∃ v:World,((Instr.storeAt 65 (.pointer ((some ⟨n,0,none⟩))) (.agg #[.int .i64 al,.int .i64 am,.int .i64 an,.int .i64 ao,.float .f64 ap])).run Tryz.prog bg=.ok () v)∧
 (p ((some ⟨n,0,none⟩)) t v)∧bn ((some ⟨n,0,none⟩)) t v<bn e r j) u)
 (K (.tuple #[]) j)) w
def sk114:Sk:=(.seq .leaf (.cut [5,6] [.ptr,.bool] [5,6,13,14,15,16,17,18,19,20,21] .leaf (.block (.loop [5,6] [.ptr,.bool] [5,6,22,23,24,25,26,27,28,29,30,31,32,33,34,35,36,37,38,39,40,41,42,43,44,45,46,47,48,49,50,51,52,53,54,55] .leaf))))
theorem call114 (a:Option Addr) (b:Int) (K:Value→World→Prop) (w:World) (h:B114 a b K w):Gets Tryz.prog 114 #[.pointer a,.int .i64 b] w K:=cq (sk:=sk114) Tryz.func114 (by kernel_rfl) (by kernel_rfl) (by kernel_rfl) h
def B56 (ac:Option Addr) (c:Option Addr) (K:Value→World→Prop) (w:World):Prop:=
 New (.cells #[.int .i64 0,.string (ByteArray.mk #[]),.int .i64 0,.int .i64 0,.int .i64 0,.int .i64 0,.int .i64 0,.slice none 0 0,.slice none 0 0] 31 (0,0)) (fun u ah=>
 Drw ah fun j ai=>
 NilP ac fun t=>
 ∃ v:Option Nat,(At j ⟨t.block,t.off + 2,none⟩ [.map v])∧
 NilP c fun n=>
 ∃ x:Int,(At j ⟨n.block,n.off + 1,none⟩ [.int .i64 x])∧
 ∃ y:Option Addr,∃ z:Option Addr,(∀ d,j d→((Instr.lookup 77 (.map v) (.int .i64 x) false)).run Tryz.prog d=.ok (.agg #[.pointer y,.pointer z]) d)∧
 New (.cells #[.pointer none,.pointer none] 102 (0,0)) (fun k X=>
 (j X)∧
 ∃ l:World,((Instr.storeAt 102 (.pointer ((some ⟨k,0,none⟩))) (.agg #[.pointer y,.pointer z])).run Tryz.prog X=.ok () l)∧
 NilP c fun aa=>
 ∃ A:Int,(At (fun d=>d=l) (Addr.add aa 0) [.int .i64 A])∧
 Calls Tryz.prog 129 #[.int .i64 A] l fun ad aj=>
 ∃ C:ByteArray,∃ ag:Int,(ad=.returned (.tuple #[.string C,.int .i64 ag]))∧
 Drw aj fun b ak=>
 NilP c fun o=>
 ∃ D:Int,(At b ⟨o.block,o.off + 4,none⟩ [.int .i64 D])∧
 NilP c fun p=>
 ∃ E:Int,(At b ⟨p.block,p.off + 1,none⟩ [.int .i64 E])∧
 NilP c fun q=>
 ∃ F:Int,(At b ⟨q.block,q.off + 2,none⟩ [.int .i64 F])∧
 NilP c fun r=>
 ∃ G:Int,(At b ⟨r.block,r.off + 3,none⟩ [.int .i64 G])∧
 NilP c fun s=>
 ∃ H:Int,(At b ⟨s.block,s.off + 5,none⟩ [.int .i64 H])∧
 ∃ I:Option Addr,(At b ⟨k,0,none⟩ [.pointer I])∧
 ∃ J:Option Addr,(At b ⟨k,0,none⟩ [.pointer J])∧
 NilP c fun ab=>
 ∃ L:Int,(At b (Addr.add ab 0) [.int .i64 L])∧
 Calls Tryz.prog 58 #[.pointer I] ak fun ae Y=>
 ∃ e:Sl,(ae=.returned (.slice e.a e.len e.cap))∧
 (b Y)∧
 Calls Tryz.prog 130 #[.pointer J,.int .i64 L] Y fun af Z=>
 ∃ f:Sl,(af=.returned (.slice f.a f.len f.cap))∧
 (b Z)∧
 ∃ m:World,((Instr.storeAt 31 (.pointer ((some ⟨u,0,none⟩))) (.agg #[.int .i64 0,.string C,.int .i64 D,.int .i64 E,.int .i64 F,.int .i64 G,.int .i64 H,.slice e.a e.len e.cap,.slice f.a f.len f.cap])).run Tryz.prog Z=.ok () m)∧
 ∃ M:Int,∃ N:ByteArray,∃ O:Int,∃ Q:Int,∃ T:Int,∃ U:Int,∃ V:Int,∃ g:Sl,∃ i:Sl,(At (fun d=>d=m) ⟨u,0,none⟩ [.int .i64 M,.string N,.int .i64 O,.int .i64 Q,.int .i64 T,.int .i64 U,.int .i64 V,.slice g.a g.len g.cap,.slice i.a i.len i.cap])∧
 K (.agg #[.int .i64 M,.string N,.int .i64 O,.int .i64 Q,.int .i64 T,.int .i64 U,.int .i64 V,.slice g.a g.len g.cap,.slice i.a i.len i.cap]) m) ai) w
theorem call56 (a:Option Addr) (b:Option Addr) (K:Value→World→Prop) (w:World) (h:B56 a b K w):Gets Tryz.prog 56 #[.pointer a,.pointer b] w K:=cq (sk:=.leaf) Tryz.func56 (by kernel_rfl) (by kernel_rfl) (by kernel_rfl) h
def B42 (o:Option Addr) (aw:Int) (ax:ByteArray) (ay:Int) (az:Int) (a0:Int) (a1:Int) (a2:Nat) (a3:ByteArray) (a4:Int) (q:Sl) (p:Sl) (c:List PanicEntry→World→Prop) (K:Value→World→Prop) (w:World):Prop:=
 New (.cells #[.int .i64 aw,.string ax,.int .i64 ay,.int .i64 az,.int .i64 a0,.int .i64 a1,.float .f64 a2,.string a3,.int .i64 a4,.slice q.a q.len q.cap,.slice p.a p.len p.cap] 38 (0,0)) (fun d a5=>
 New (.cells #[.int .i64 0,.string (ByteArray.mk #[]),.int .i64 0,.int .i64 0,.int .i64 0,.int .i64 0,.int .i64 0,.slice none 0 0,.slice none 0 0] 31 (0,0)) (fun A a8=>
 Drw a8 fun l a9=>
 NilP o fun x=>
 ∃ Q:Option Nat,(At l ⟨x.block,x.off + 2,none⟩ [.map Q])∧
 ∃ T:Int,(At l ⟨d,0 + 2,none⟩ [.int .i64 T])∧
 ∃ U:Option Addr,∃ V:Option Addr,∃ X:Bool,(∀ b,l b→((Instr.lookup 77 (.map Q) (.int .i64 T) true)).run Tryz.prog b=.ok (.tuple #[.agg #[.pointer U,.pointer V],.bool X]) b)∧
 New (.cells #[.pointer none,.pointer none] 102 (0,0)) (fun av ap=>
 (l ap)∧
 ∃ aq:World,((Instr.storeAt 102 (.pointer ((some ⟨av,0,none⟩))) (.agg #[.pointer U,.pointer V])).run Tryz.prog ap=.ok () aq)∧
 Calls Tryz.prog 40 #[.bool (!X),.int .i64 7] aq fun I m=>
 ((I=.returned (.tuple #[]))∧
 NilP o fun y=>
 ∃ Y:Option Nat,(At (fun b=>b=m) ⟨y.block,y.off + 2,none⟩ [.map Y])∧
 ∃ Z:Int,(∀ b,(fun b=>b=m) b→((Builtin.len_ #[77] 3 #[.map Y])).run Tryz.prog b=.ok (.int .i64 Z) b)∧
 Calls Tryz.prog 40 #[.bool (decide (Z<8)),.int .i64 3] m fun J k=>
 ((J=.returned (.tuple #[]))∧
 ∃ aa:Int,(At (fun b=>b=k) ⟨d,0 + 2,none⟩ [.int .i64 aa])∧
 ∃ ab:Int,∃ e:Sl,(At (fun b=>b=k) ⟨d,0 + 8,none⟩ [.int .i64 ab,.slice e.a e.len e.cap])∧
 ∃ f:Sl,(At (fun b=>b=k) ⟨d,0 + 10,none⟩ [.slice f.a f.len f.cap])∧
 Calls Tryz.prog 109 #[.int .i64 aa,.agg #[.int .i64 ab,.slice e.a e.len e.cap],.slice f.a f.len f.cap] k fun L ar=>
 (∃ r:Option Addr,∃ ac:Int,(L=.returned (.tuple #[.pointer r,.int .i64 ac]))∧
 Calls Tryz.prog 110 #[.int .i64 ac] ar fun M au=>
 ((M=.returned (.tuple #[]))∧
 Drw au fun n a6=>
 NilP o fun z=>
 ∃ ad:Option Nat,(At n ⟨z.block,z.off + 2,none⟩ [.map ad])∧
 ∃ ae:Int,(At n ⟨d,0 + 2,none⟩ [.int .i64 ae])∧
 Calls Tryz.prog 111 #[] a6 fun N s=>
 (∃ af:Option Addr,(N=.returned (.pointer af))∧
 (n s)∧
 ∃ ao:World,((Instr.mapUpdate 77 (.map ad) (.int .i64 ae) (.agg #[.pointer r,.pointer af])).run Tryz.prog s=.ok () ao)∧
 Drw ao fun v a7=>
 ∃ ag:Int,(At v ⟨d,0 + 2,none⟩ [.int .i64 ag])∧
 Calls Tryz.prog 58 #[.pointer r] a7 fun O t=>
 (∃ g:Sl,(O=.returned (.slice g.a g.len g.cap))∧
 (v t)∧
 ∃ u:World,((Instr.storeAt 31 (.pointer ((some ⟨A,0,none⟩))) (.agg #[.int .i64 0,.string (ByteArray.mk #[]),.int .i64 0,.int .i64 ag,.int .i64 0,.int .i64 0,.int .i64 0,.slice g.a g.len g.cap,.slice none 0 0])).run Tryz.prog t=.ok () u)∧
 ∃ ah:Int,∃ ai:ByteArray,∃ aj:Int,∃ ak:Int,∃ al:Int,∃ am:Int,∃ an:Int,∃ i:Sl,∃ j:Sl,(At (fun b=>b=u) ⟨A,0,none⟩ [.int .i64 ah,.string ai,.int .i64 aj,.int .i64 ak,.int .i64 al,.int .i64 am,.int .i64 an,.slice i.a i.len i.cap,.slice j.a j.len j.cap])∧
 K (.agg #[.int .i64 ah,.string ai,.int .i64 aj,.int .i64 ak,.int .i64 al,.int .i64 am,.int .i64 an,.slice i.a i.len i.cap,.slice j.a j.len j.cap]) u)∨
 (∃ H:List PanicEntry,(O=.panicked H)∧c H t))∨
 (∃ G:List PanicEntry,(N=.panicked G)∧c G s))∨
 (∃ F:List PanicEntry,(M=.panicked F)∧c F au))∨
 (∃ E:List PanicEntry,(L=.panicked E)∧c E ar))∨
 (∃ D:List PanicEntry,(J=.panicked D)∧c D k))∨
 (∃ C:List PanicEntry,(I=.panicked C)∧c C m)) a9) a5) w
theorem call42 (e:Option Addr) (f:Int) (g:ByteArray) (i:Int) (j:Int) (k:Int) (l:Int) (m:Nat) (n:ByteArray) (o:Int) (c:Sl) (b:Sl) (d:List PanicEntry→World→Prop) (K:Value→World→Prop) (w:World) (h:B42 e f g i j k l m n o c b d K w):GetsX Tryz.prog 42 #[.pointer e,.agg #[.int .i64 f,.string g,.int .i64 i,.int .i64 j,.int .i64 k,.int .i64 l,.float .f64 m,.string n,.int .i64 o,.slice c.a c.len c.cap,.slice b.a b.len b.cap]] w d K:=cqx (sk:=.leaf) Tryz.func42 (by kernel_rfl) (by kernel_rfl) (by kernel_rfl) h
def B43 (d:Option Addr) (da:Int) (db:ByteArray) (dc:Int) (dd:Int) (de:Int) (df:Int) (dg:Nat) (dh:ByteArray) (di:Int) (H:Sl) (G:Sl) (c:List PanicEntry→World→Prop) (K:Value→World→Prop) (w:World):Prop:=
 New (.cells #[.int .i64 da,.string db,.int .i64 dc,.int .i64 dd,.int .i64 de,.int .i64 df,.float .f64 dg,.string dh,.int .i64 di,.slice H.a H.len H.cap,.slice G.a G.len G.cap] 38 (0,0)) (fun e dj=>
 New (.cells #[.int .i64 0,.string (ByteArray.mk #[]),.int .i64 0,.int .i64 0,.int .i64 0,.int .i64 0,.int .i64 0,.slice none 0 0,.slice none 0 0] 31 (0,0)) (fun x c0=>
 ∃ cf:Int,(At (fun b=>b=c0) ⟨e,0 + 2,none⟩ [.int .i64 cf])∧
 Calls Tryz.prog 57 #[.pointer d,.int .i64 cf] c0 fun aq c4=>
 (∃ a5:Option Addr,∃ ba:Option Addr,(aq=.returned (.agg #[.pointer a5,.pointer ba]))∧
 New (.cells #[.pointer none,.pointer none] 102 (0,0)) (fun v dp=>
 ∃ c7:World,((Instr.storeAt 102 (.pointer ((some ⟨v,0,none⟩))) (.agg #[.pointer a5,.pointer ba])).run Tryz.prog dp=.ok () c7)∧
 Drw c7 fun i dq=>
 NilP d fun Z=>
 ∃ bt:Int,(At i ⟨Z.block,Z.off + 1,none⟩ [.int .i64 bt])∧
 ∃ bu:Int,(At i ⟨e,0 + 2,none⟩ [.int .i64 bu])∧
 ∃ bv:Int,(At i ⟨e,0 + 3,none⟩ [.int .i64 bv])∧
 ∃ bw:Int,(At i ⟨e,0 + 4,none⟩ [.int .i64 bw])∧
 ∃ bx:Int,(At i ⟨e,0 + 5,none⟩ [.int .i64 bx])∧
 New (.cells #[.int .i64 bt,.int .i64 bu,.int .i64 bv,.int .i64 bw,.int .i64 1,.int .i64 bx] 106 (0,0)) (fun f A=>
 (i A)∧
 ∃ (C:World→Prop),(∃ bz:Int,(At (fun b=>b=A) ⟨e,0,none⟩ [.int .i64 bz])∧
 Br (bz==2)
 (Drw A fun F dr=>
 ∃ b0:Int,(At F ⟨e,0 + 5,none⟩ [.int .i64 b0])∧
 NilP d fun c8=>
 ∃ b1:Int,(At F (Addr.add c8 0) [.int .i64 b1])∧
 Calls Tryz.prog 40 #[.bool (decide (b0>b1)),.int .i64 1] dr fun ar U=>
 ((ar=.returned (.tuple #[]))∧
 (F U)∧
 C  U)∨
 (∃ ae:List PanicEntry,(ar=.panicked ae)∧c ae U))
 (Drw A fun u dk=>
 ∃ b2:Int,(At u ⟨e,0 + 3,none⟩ [.int .i64 b2])∧
 ∃ b3:Option Addr,(At u ⟨v,0,none⟩ [.pointer b3])∧
 Calls Tryz.prog 58 #[.pointer b3] dk fun ax I=>
 (∃ y:Sl,(ax=.returned (.slice y.a y.len y.cap))∧
 (u I)∧
 Calls Tryz.prog 40 #[.bool (decide (b2<(↑y.len:Int))),.int .i64 1] I fun ay J=>
 ((ay=.returned (.tuple #[]))∧
 (u J)∧
 ∃ cw:World,((Instr.storeAt 3 (.pointer ((some ⟨f,0 + 4,none⟩))) (.int .i64 3)).run Tryz.prog J=.ok () cw)∧
 ∃ cx:World,((Instr.storeAt 3 (.pointer ((some ⟨f,0 + 5,none⟩))) (.int .i64 0)).run Tryz.prog cw=.ok () cx)∧
 C  cx)∨
 (∃ aj:List PanicEntry,(ay=.panicked aj)∧c aj J))∨
 (∃ ai:List PanicEntry,(ax=.panicked ai)∧c ai I)))∧
 ∀ (ds:Env)  (r:World),C  r→
 ∃ (D:World→Prop),(NilP d fun ab=>
 ∃ b4:Option Nat,(At (fun b=>b=r) ⟨ab.block,ab.off + 3,none⟩ [.map b4])∧
 ∃ b5:Int,(∀ b,(fun b=>b=r) b→((Builtin.len_ #[78] 3 #[.map b4])).run Tryz.prog b=.ok (.int .i64 b5) b)∧
 Br (decide (b5<300))
 (NilP d fun ac=>
 ∃ b6:Int,(At (fun b=>b=r) ⟨ac.block,ac.off + 1,none⟩ [.int .i64 b6])∧
 Calls Tryz.prog 40 #[.bool (decide (b6<28629151)),.int .i64 3] r fun az cy=>
 ((az=.returned (.tuple #[]))∧
 D  cy)∨
 (∃ ak:List PanicEntry,(az=.panicked ak)∧c ak cy))
 (Calls Tryz.prog 40 #[.bool false,.int .i64 3] r fun a0 cz=>
 ((a0=.returned (.tuple #[]))∧
 D  cz)∨
 (∃ al:List PanicEntry,(a0=.panicked al)∧c al cz)))∧
 ∀ (dt:Env)  (z:World),D  z→
 ∃ (E:World→Prop),(∃ b7:Int,(At (fun b=>b=z) ⟨e,0,none⟩ [.int .i64 b7])∧
 Br (b7==2)
 (Drw z fun s dl=>
 ∃ b8:Option Addr,(At s ⟨v,0,none⟩ [.pointer b8])∧
 ∃ b9:Int,(At s ⟨f,0,none⟩ [.int .i64 b9])∧
 ∃ ca:Int,(At s ⟨f,0 + 2,none⟩ [.int .i64 ca])∧
 ∃ cb:Int,(At s ⟨f,0 + 3,none⟩ [.int .i64 cb])∧
 Calls Tryz.prog 112 #[.pointer b8,.int .i64 b9,.int .i64 ca,.int .i64 cb] dl fun a1 c1=>
 (∃ cc:Int,(a1=.returned (.int .i64 cc))∧
 Calls Tryz.prog 110 #[.int .i64 cc] c1 fun a2 L=>
 ((a2=.returned (.tuple #[]))∧
 (s L)∧
 E  L)∨
 (∃ an:List PanicEntry,(a2=.panicked an)∧c an L))∨
 (∃ am:List PanicEntry,(a1=.panicked am)∧c am c1))
 (Drw z fun g dm=>
 ∃ cd:Option Addr,(At g ⟨v,0 + 1,none⟩ [.pointer cd])∧
 ∃ ce:Int,(At g ⟨f,0,none⟩ [.int .i64 ce])∧
 ∃ cg:Int,(At g ⟨f,0 + 2,none⟩ [.int .i64 cg])∧
 ∃ ch:Int,(At g ⟨f,0 + 3,none⟩ [.int .i64 ch])∧
 NilP d fun c9=>
 ∃ a6:Int,(At g (Addr.add c9 0) [.int .i64 a6])∧
 ∃ a7:Nat,(At g ⟨e,0 + 6,none⟩ [.float .f64 a7])∧
 Calls Tryz.prog 113 #[.pointer cd,.agg #[.int .i64 ce,.int .i64 cg,.int .i64 ch,.int .i64 a6,.float .f64 a7]] dm fun a3 M=>
 (∃ a8:Int,(a3=.returned (.int .i64 a8))∧
 (g M)∧
 Calls Tryz.prog 110 #[.int .i64 a8] M fun a4 N=>
 ((a4=.returned (.tuple #[]))∧
 (g N)∧
 E  N)∨
 (∃ ap:List PanicEntry,(a4=.panicked ap)∧c ap N))∨
 (∃ ao:List PanicEntry,(a3=.panicked ao)∧c ao M)))∧
 ∀ (du:Env)  (c2:World),E  c2→
 Drw c2 fun V dn=>
 NilP d fun X=>
 ∃ a9:Option Nat,(At V ⟨X.block,X.off + 3,none⟩ [.map a9])∧
 ∃ bb:Int,(At V ⟨f,0,none⟩ [.int .i64 bb])∧
 ∃ O:World,((Instr.mapUpdate 78 (.map a9) (.int .i64 bb) (.pointer ((some ⟨f,0,none⟩)))).run Tryz.prog dn=.ok () O)∧
 NilP d fun Y=>
 ∃ bc:Int,(At (fun b=>b=O) ⟨Y.block,Y.off + 1,none⟩ [.int .i64 bc])∧
 NilP d fun aa=>
 ∃ t:World,((Instr.storeAt 3 (.pointer ((some ⟨aa.block,aa.off + 1,none⟩))) (.int .i64 (IntKind.i64.wrap (bc + 1)))).run Tryz.prog O=.ok () t)∧
 ∃ bd:Int,(At (fun b=>b=t) ⟨e,0,none⟩ [.int .i64 bd])∧
 Br (bd==7)
 (∃ be:Int,(At (fun b=>b=t) ⟨e,0 + 2,none⟩ [.int .i64 be])∧
 Calls Tryz.prog 114 #[.pointer d,.int .i64 be] t fun au c3=>
 ((au=.returned (.tuple #[]))∧
 Calls Tryz.prog 56 #[.pointer d,.pointer ((some ⟨f,0,none⟩))] c3 fun av c5=>
 (∃ bf:Int,∃ bg:ByteArray,∃ bn:Int,∃ bo:Int,∃ bp:Int,∃ bq:Int,∃ br:Int,∃ l:Sl,∃ m:Sl,(av=.returned (.agg #[.int .i64 bf,.string bg,.int .i64 bn,.int .i64 bo,.int .i64 bp,.int .i64 bq,.int .i64 br,.slice l.a l.len l.cap,.slice m.a m.len m.cap]))∧
 ∃ Q:World,((Instr.storeAt 31 (.pointer ((some ⟨x,0,none⟩))) (.agg #[.int .i64 bf,.string bg,.int .i64 bn,.int .i64 bo,.int .i64 bp,.int .i64 bq,.int .i64 br,.slice l.a l.len l.cap,.slice m.a m.len m.cap])).run Tryz.prog c5=.ok () Q)∧
 ∃ ci:Int,∃ cj:ByteArray,∃ cq:Int,∃ cr:Int,∃ cs:Int,∃ ct:Int,∃ cu:Int,∃ p:Sl,∃ q:Sl,(At (fun b=>b=Q) ⟨x,0,none⟩ [.int .i64 ci,.string cj,.int .i64 cq,.int .i64 cr,.int .i64 cs,.int .i64 ct,.int .i64 cu,.slice p.a p.len p.cap,.slice q.a q.len q.cap])∧
 K (.agg #[.int .i64 ci,.string cj,.int .i64 cq,.int .i64 cr,.int .i64 cs,.int .i64 ct,.int .i64 cu,.slice p.a p.len p.cap,.slice q.a q.len q.cap]) Q)∨
 (∃ ag:List PanicEntry,(av=.panicked ag)∧c ag c5))∨
 (∃ af:List PanicEntry,(au=.panicked af)∧c af c3))
 (Calls Tryz.prog 56 #[.pointer d,.pointer ((some ⟨f,0,none⟩))] t fun aw c6=>
 (∃ bs:Int,∃ bh:ByteArray,∃ bi:Int,∃ bj:Int,∃ bk:Int,∃ bl:Int,∃ bm:Int,∃ j:Sl,∃ k:Sl,(aw=.returned (.agg #[.int .i64 bs,.string bh,.int .i64 bi,.int .i64 bj,.int .i64 bk,.int .i64 bl,.int .i64 bm,.slice j.a j.len j.cap,.slice k.a k.len k.cap]))∧
 ∃ T:World,((Instr.storeAt 31 (.pointer ((some ⟨x,0,none⟩))) (.agg #[.int .i64 bs,.string bh,.int .i64 bi,.int .i64 bj,.int .i64 bk,.int .i64 bl,.int .i64 bm,.slice j.a j.len j.cap,.slice k.a k.len k.cap])).run Tryz.prog c6=.ok () T)∧
 ∃ cv:Int,∃ ck:ByteArray,∃ cl:Int,∃ cm:Int,∃ cn:Int,∃ co:Int,∃ cp:Int,∃ n:Sl,∃ o:Sl,(At (fun b=>b=T) ⟨x,0,none⟩ [.int .i64 cv,.string ck,.int .i64 cl,.int .i64 cm,.int .i64 cn,.int .i64 co,.int .i64 cp,.slice n.a n.len n.cap,.slice o.a o.len o.cap])∧
 K (.agg #[.int .i64 cv,.string ck,.int .i64 cl,.int .i64 cm,.int .i64 cn,.int .i64 co,.int .i64 cp,.slice n.a n.len n.cap,.slice o.a o.len o.cap]) T)∨
 (∃ ah:List PanicEntry,(aw=.panicked ah)∧c ah c6))) dq) c4)∨
 (∃ ad:List PanicEntry,(aq=.panicked ad)∧c ad c4)) dj) w
def sk43:Sk:=(.seq .leaf (.seq .leaf (.seq .leaf (.cut [] [] [25,26,27,28,29,30,31,32,33,34,35,36,37,38,39,40,41,42,43,44,45,46,47,48,49] .leaf (.cut [] [] [50,51,52,53,54,55,56,57,58,59,60,61,62,63] .leaf (.cut [] [] [64,65,66,67,68,69,70,71,72,73,74,75,76,77,78,79,80,81,82,83,84,85,86,87,88,89,90,91,92,93,94,95,96,97,98,99,100,101,102,103,104,105] .leaf .leaf))))))
theorem call43 (e:Option Addr) (f:Int) (g:ByteArray) (i:Int) (j:Int) (k:Int) (l:Int) (m:Nat) (n:ByteArray) (o:Int) (c:Sl) (b:Sl) (d:List PanicEntry→World→Prop) (K:Value→World→Prop) (w:World) (h:B43 e f g i j k l m n o c b d K w):GetsX Tryz.prog 43 #[.pointer e,.agg #[.int .i64 f,.string g,.int .i64 i,.int .i64 j,.int .i64 k,.int .i64 l,.float .f64 m,.string n,.int .i64 o,.slice c.a c.len c.cap,.slice b.a b.len b.cap]] w d K:=cqx (sk:=sk43) Tryz.func43 (by kernel_rfl) (by kernel_rfl) (by kernel_rfl) h
def B44 (c:Option Addr) (bn:Int) (bo:ByteArray) (bp:Int) (bq:Int) (br:Int) (bs:Int) (bt:Nat) (bu:ByteArray) (bv:Int) (C:Sl) (A:Sl) (f:List PanicEntry→World→Prop) (K:Value→World→Prop) (w:World):Prop:=
 New (.cells #[.int .i64 bn,.string bo,.int .i64 bp,.int .i64 bq,.int .i64 br,.int .i64 bs,.float .f64 bt,.string bu,.int .i64 bv,.slice C.a C.len C.cap,.slice A.a A.len A.cap] 38 (0,0)) (fun T bz=>
 New (.cells #[.int .i64 0,.string (ByteArray.mk #[]),.int .i64 0,.int .i64 0,.int .i64 0,.int .i64 0,.int .i64 0,.slice none 0 0,.slice none 0 0] 31 (0,0)) (fun U b1=>
 Drw b1 fun y b2=>
 ∃ ak:Int,(At y ⟨T,0 + 5,none⟩ [.int .i64 ak])∧
 NilP c fun bh=>
 ∃ al:Int,(At y (Addr.add bh 0) [.int .i64 al])∧
 Calls Tryz.prog 40 #[.bool (decide (ak ≥ al)),.int .i64 7] b2 fun ad t=>
 ((ad=.returned (.tuple #[]))∧
 (y t)∧
 ∃ am:Int,(At (fun b=>b=t) ⟨T,0 + 5,none⟩ [.int .i64 am])∧
 NilP c fun bi=>
 ∃ G:World,((Instr.storeAt 3 (.pointer ((some (Addr.add bi 0)))) (.int .i64 am)).run Tryz.prog t=.ok () G)∧
 NilP c fun H=>
 ∃ an:Option Nat,(At (fun b=>b=G) ⟨H.block,H.off + 3,none⟩ [.map an])∧
 Calls Tryz.prog 55 #[.map an] G fun ae bd=>
 (∃ ao:Value,(ae=.returned (ao))∧
 Calls Tryz.prog 50 #[ao] bd fun af be=>
 (∃ i:Sl,(af=.returned (.slice i.a i.len i.cap))∧
 ∃ (n:Int→World→Prop) (u:Int→World→Nat),(n 0 be)∧∀ (b3:Env) (d:Int) (e:World),n d e→
 Br (decide (d<(↑i.len:Int)))
 (Rng d i.len (NilP i.a fun bj=>
 ∃ p:Int,(At (fun b=>b=e) (Addr.add bj d.toNat) [.int .i64 p])∧
 NilP c fun I=>
 ∃ ap:Option Nat,(At (fun b=>b=e) ⟨I.block,I.off + 3,none⟩ [.map ap])∧
 ∃ q:Option Addr,(∀ b,(fun b=>b=e) b→((Instr.lookup 78 (.map ap) (.int .i64 p) false)).run Tryz.prog b=.ok (.pointer q) b)∧
 ∃ (x:Bool→World→Prop),(Drw e fun z bf=>
 NilP q fun J=>
 ∃ aq:Int,(At z ⟨J.block,J.off + 4,none⟩ [.int .i64 aq])∧
 Br (aq==1)
 (NilP q fun L=>
 ∃ ar:Int,(At z ⟨L.block,L.off + 5,none⟩ [.int .i64 ar])∧
 NilP c fun bk=>
 ∃ au:Int,(At z (Addr.add bk 0) [.int .i64 au])∧
 x (decide (ar≤au)) bf)
 (x false bf))∧
 ∀ (b4:Env) (av:Bool) (r:World),x av r→
 Br av
 (Drw r fun o b0=>
 NilP c fun M=>
 ∃ aw:Option Nat,(At o ⟨M.block,M.off + 2,none⟩ [.map aw])∧
 NilP q fun N=>
 ∃ ax:Int,(At o ⟨N.block,N.off + 1,none⟩ [.int .i64 ax])∧
 ∃ ay:Option Addr,∃ bw:Option Addr,(∀ b,o b→((Instr.lookup 77 (.map aw) (.int .i64 ax) false)).run Tryz.prog b=.ok (.agg #[.pointer ay,.pointer bw]) b)∧
 Calls Tryz.prog 115 #[.pointer ay,.int .i64 p] b0 fun ag s=>
 (∃ bx:Int,(ag=.returned (.int .i64 bx))∧
 (o s)∧
 NilP c fun O=>
 ∃ az:Option Nat,(At (fun b=>b=s) ⟨O.block,O.off + 3,none⟩ [.map az])∧
 ∃ D:World,((Builtin.delete_ #[78,3] 0 #[.map az,.int .i64 p]).run Tryz.prog s=.ok (.tuple #[]) D)∧
 (n (IntKind.i64.wrap (d + 1)) D)∧u (IntKind.i64.wrap (d + 1)) D<u d e)∨
 (∃ Z:List PanicEntry,(ag=.panicked Z)∧f Z s))
 ((n (IntKind.i64.wrap (d + 1)) r)∧u (IntKind.i64.wrap (d + 1)) r<u d e)))
 (NilP c fun Q=>
 ∃ a0:Option Nat,(At (fun b=>b=e) ⟨Q.block,Q.off + 2,none⟩ [.map a0])∧
 Calls Tryz.prog 51 #[.map a0] e fun ah bb=>
 (∃ a1:Value,(ah=.returned (a1))∧
 Calls Tryz.prog 50 #[a1] bb fun ai bc=>
 (∃ j:Sl,(ai=.returned (.slice j.a j.len j.cap))∧
 ∃ (v:Int→World→Prop) (bg:Int→World→Nat),(v 0 bc)∧∀ (b5:Env) (g:Int) (m:World),v g m→
 Br (decide (g<(↑j.len:Int)))
 (Rng g j.len (NilP j.a fun bl=>
 ∃ a2:Int,(At (fun b=>b=m) (Addr.add bl g.toNat) [.int .i64 a2])∧
 Calls Tryz.prog 114 #[.pointer c,.int .i64 a2] m fun aj E=>
 ((aj=.returned (.tuple #[]))∧
 (v (IntKind.i64.wrap (g + 1)) E)∧bg (IntKind.i64.wrap (g + 1)) E<bg g m)∨
 (∃ ac:List PanicEntry,(aj=.panicked ac)∧f ac E)))
 (NilP c fun bm=>
 ∃ a3:Int,(At (fun b=>b=m) (Addr.add bm 0) [.int .i64 a3])∧
 ∃ F:World,((Instr.storeAt 31 (.pointer ((some ⟨U,0,none⟩))) (.agg #[.int .i64 0,.string (ByteArray.mk #[]),.int .i64 0,.int .i64 0,.int .i64 0,.int .i64 0,.int .i64 a3,.slice none 0 0,.slice none 0 0])).run Tryz.prog m=.ok () F)∧
 ∃ a4:Int,∃ a5:ByteArray,∃ a6:Int,∃ a7:Int,∃ a8:Int,∃ a9:Int,∃ ba:Int,∃ k:Sl,∃ l:Sl,(At (fun b=>b=F) ⟨U,0,none⟩ [.int .i64 a4,.string a5,.int .i64 a6,.int .i64 a7,.int .i64 a8,.int .i64 a9,.int .i64 ba,.slice k.a k.len k.cap,.slice l.a l.len l.cap])∧
 K (.agg #[.int .i64 a4,.string a5,.int .i64 a6,.int .i64 a7,.int .i64 a8,.int .i64 a9,.int .i64 ba,.slice k.a k.len k.cap,.slice l.a l.len l.cap]) F))∨
 (∃ ab:List PanicEntry,(ai=.panicked ab)∧f ab bc))∨
 (∃ aa:List PanicEntry,(ah=.panicked aa)∧f aa bb)))∨
 (∃ Y:List PanicEntry,(af=.panicked Y)∧f Y be))∨
 (∃ X:List PanicEntry,(ae=.panicked X)∧f X bd))∨
 (∃ V:List PanicEntry,(ad=.panicked V)∧f V t)) bz) w
def sk44:Sk:=(.seq .leaf (.seq .leaf (.seq .leaf (.seq (.seq .leaf (.block (.loop [30] [(.int .i64)] [6,7,30,31,32,33,34,35,36,37,38,39,40,41,42,43,44,45,46,47,48,49,50,51,52,53,54,55,56,57,58,59,60,61,62,63,64,65,66,67,68,69,70,71,72,73] (.seq .leaf (.seq .leaf (.seq (.block (.seq .leaf (.seq .leaf (.cut [55] [.bool] [40,41,42,43,44,45,46,47,48,49,50,51,52,53,54,55] .leaf .leaf)))) .leaf)))))) (.seq (.seq .leaf (.block (.loop [81] [(.int .i64)] [9,81,82,83,84,85,86,87,88] .leaf))) .leaf)))))
theorem call44 (e:Option Addr) (f:Int) (g:ByteArray) (i:Int) (j:Int) (k:Int) (l:Int) (m:Nat) (n:ByteArray) (o:Int) (c:Sl) (b:Sl) (d:List PanicEntry→World→Prop) (K:Value→World→Prop) (w:World) (h:B44 e f g i j k l m n o c b d K w):GetsX Tryz.prog 44 #[.pointer e,.agg #[.int .i64 f,.string g,.int .i64 i,.int .i64 j,.int .i64 k,.int .i64 l,.float .f64 m,.string n,.int .i64 o,.slice c.a c.len c.cap,.slice b.a b.len b.cap]] w d K:=cqx (sk:=sk44) Tryz.func44 (by kernel_rfl) (by kernel_rfl) (by kernel_rfl) h
def B45 (g:Option Addr) (c:Option Addr) (ed:Int) (ee:ByteArray) (ef:Int) (eg:Int) (eh:Int) (ei:Int) (ej:Nat) (ek:ByteArray) (el:Int) (L:Sl) (J:Sl) (d:List PanicEntry→World→Prop) (K:Value→World→Prop) (w:World):Prop:=
 New (.cells #[.int .i64 ed,.string ee,.int .i64 ef,.int .i64 eg,.int .i64 eh,.int .i64 ei,.float .f64 ej,.string ek,.int .i64 el,.slice L.a L.len L.cap,.slice J.a J.len J.cap] 38 (0,0)) (fun I eo=>
 New (.cells #[.int .i64 0,.string (ByteArray.mk #[]),.int .i64 0,.int .i64 0,.int .i64 0,.int .i64 0,.int .i64 0,.slice none 0 0,.slice none 0 0] 31 (0,0)) (fun e es=>
 Drw es fun E ev=>
 NilP g fun ad=>
 ∃ ca:Option Nat,(At E ⟨ad.block,ad.off + 2,none⟩ [.map ca])∧
 NilP c fun ae=>
 ∃ cb:Int,(At E ⟨ae.block,ae.off + 1,none⟩ [.int .i64 cb])∧
 ∃ cc:Option Addr,∃ cd:Option Addr,(∀ b,E b→((Instr.lookup 77 (.map ca) (.int .i64 cb) false)).run Tryz.prog b=.ok (.agg #[.pointer cc,.pointer cd]) b)∧
 New (.cells #[.pointer none,.pointer none] 102 (0,0)) (fun C d3=>
 (E d3)∧
 ∃ f:World,((Instr.storeAt 102 (.pointer ((some ⟨C,0,none⟩))) (.agg #[.pointer cc,.pointer cd])).run Tryz.prog d3=.ok () f)∧
 NilP c fun af=>
 ∃ G:Int,(At (fun b=>b=f) ⟨af.block,af.off + 4,none⟩ [.int .i64 G])∧
 ∃ D:Int,(At (fun b=>b=f) ⟨I,0,none⟩ [.int .i64 D])∧
 Br (D==3)
 (NilP c fun ag=>
 ∃ ce:Int,(At (fun b=>b=f) ⟨ag.block,ag.off + 4,none⟩ [.int .i64 ce])∧
 Calls Tryz.prog 40 #[.bool (ce==1),.int .i64 7] f fun a1 d4=>
 ((a1=.returned (.tuple #[]))∧
 NilP c fun ah=>
 ∃ d5:World,((Instr.storeAt 3 (.pointer ((some ⟨ah.block,ah.off + 4,none⟩))) (.int .i64 2)).run Tryz.prog d4=.ok () d5)∧
 NilP c fun ai=>
 ∃ d6:World,((Instr.storeAt 3 (.pointer ((some ⟨ai.block,ai.off + 5,none⟩))) (.int .i64 0)).run Tryz.prog d5=.ok () d6)∧
 Calls Tryz.prog 56 #[.pointer g,.pointer c] d6 fun a2 d7=>
 (∃ bh:Int,∃ bi:ByteArray,∃ br:Int,∃ b1:Int,∃ b6:Int,∃ b7:Int,∃ b8:Int,∃ o:Sl,∃ p:Sl,(a2=.returned (.agg #[.int .i64 bh,.string bi,.int .i64 br,.int .i64 b1,.int .i64 b6,.int .i64 b7,.int .i64 b8,.slice o.a o.len o.cap,.slice p.a p.len p.cap]))∧
 ∃ N:World,((Instr.storeAt 31 (.pointer ((some ⟨e,0,none⟩))) (.agg #[.int .i64 bh,.string bi,.int .i64 br,.int .i64 b1,.int .i64 b6,.int .i64 b7,.int .i64 b8,.slice o.a o.len o.cap,.slice p.a p.len p.cap])).run Tryz.prog d7=.ok () N)∧
 ∃ cs:Int,∃ ct:ByteArray,∃ c2:Int,∃ db:Int,∃ dk:Int,∃ dp:Int,∃ dq:Int,∃ z:Sl,∃ A:Sl,(At (fun b=>b=N) ⟨e,0,none⟩ [.int .i64 cs,.string ct,.int .i64 c2,.int .i64 db,.int .i64 dk,.int .i64 dp,.int .i64 dq,.slice z.a z.len z.cap,.slice A.a A.len A.cap])∧
 K (.agg #[.int .i64 cs,.string ct,.int .i64 c2,.int .i64 db,.int .i64 dk,.int .i64 dp,.int .i64 dq,.slice z.a z.len z.cap,.slice A.a A.len A.cap]) N)∨
 (∃ am:List PanicEntry,(a2=.panicked am)∧d am d7))∨
 (∃ al:List PanicEntry,(a1=.panicked al)∧d al d4))
 (Br (D==4)
 (∃ (H:World→Prop),(Br (G==3)
 (Drw f fun Z ep=>
 ∃ cf:Option Addr,(At Z ⟨C,0 + 1,none⟩ [.pointer cf])∧
 NilP c fun d8=>
 ∃ cg:Int,(At Z (Addr.add d8 0) [.int .i64 cg])∧
 Calls Tryz.prog 116 #[.pointer cf,.int .i64 cg] ep fun a7 ds=>
 (∃ em:Int,(a7=.returned (.int .i64 em))∧
 H  ds)∨
 (∃ ar:List PanicEntry,(a7=.panicked ar)∧d ar ds))
 (Drw f fun aa eq=>
 ∃ ch:Option Addr,(At aa ⟨C,0,none⟩ [.pointer ch])∧
 NilP c fun d9=>
 ∃ ci:Int,(At aa (Addr.add d9 0) [.int .i64 ci])∧
 Calls Tryz.prog 115 #[.pointer ch,.int .i64 ci] eq fun a8 dt=>
 (∃ en:Int,(a8=.returned (.int .i64 en))∧
 H  dt)∨
 (∃ au:List PanicEntry,(a8=.panicked au)∧d au dt)))∧
 ∀ (ew:Env)  (du:World),H  du→
 Drw du fun ab er=>
 NilP g fun aj=>
 ∃ cj:Option Nat,(At ab ⟨aj.block,aj.off + 3,none⟩ [.map cj])∧
 NilP c fun ea=>
 ∃ ck:Int,(At ab (Addr.add ea 0) [.int .i64 ck])∧
 ∃ O:World,((Builtin.delete_ #[78,3] 0 #[.map cj,.int .i64 ck]).run Tryz.prog er=.ok (.tuple #[]) O)∧
 NilP c fun ak=>
 ∃ cl:Int,(At (fun b=>b=O) ⟨ak.block,ak.off + 1,none⟩ [.int .i64 cl])∧
 Calls Tryz.prog 114 #[.pointer g,.int .i64 cl] O fun a9 Q=>
 ((a9=.returned (.tuple #[]))∧
 ∃ cm:ByteArray,(At (fun b=>b=Q) ⟨I,0 + 1,none⟩ [.string cm])∧
 ∃ T:World,((Instr.storeAt 31 (.pointer ((some ⟨e,0,none⟩))) (.agg #[.int .i64 0,.string cm,.int .i64 0,.int .i64 0,.int .i64 0,.int .i64 0,.int .i64 0,.slice none 0 0,.slice none 0 0])).run Tryz.prog Q=.ok () T)∧
 ∃ dr:Int,∃ cu:ByteArray,∃ cv:Int,∃ cw:Int,∃ cx:Int,∃ cy:Int,∃ cz:Int,∃ q:Sl,∃ r:Sl,(At (fun b=>b=T) ⟨e,0,none⟩ [.int .i64 dr,.string cu,.int .i64 cv,.int .i64 cw,.int .i64 cx,.int .i64 cy,.int .i64 cz,.slice q.a q.len q.cap,.slice r.a r.len r.cap])∧
 K (.agg #[.int .i64 dr,.string cu,.int .i64 cv,.int .i64 cw,.int .i64 cx,.int .i64 cy,.int .i64 cz,.slice q.a q.len q.cap,.slice r.a r.len r.cap]) T)∨
 (∃ av:List PanicEntry,(a9=.panicked av)∧d av Q))
 (Br (D==5)
 (Calls Tryz.prog 40 #[.bool (!G==3),.int .i64 7] f fun ba dv=>
 ((ba=.returned (.tuple #[]))∧
 Drw dv fun F et=>
 ∃ cn:Option Addr,(At F ⟨C,0,none⟩ [.pointer cn])∧
 NilP c fun eb=>
 ∃ co:Int,(At F (Addr.add eb 0) [.int .i64 co])∧
 ∃ cp:ByteArray,(At F ⟨I,0 + 7,none⟩ [.string cp])∧
 Calls Tryz.prog 117 #[.pointer cn,.int .i64 co,.string cp] et fun bb dw=>
 (∃ cq:Int,(bb=.returned (.int .i64 cq))∧
 Calls Tryz.prog 110 #[.int .i64 cq] dw fun bc U=>
 ((bc=.returned (.tuple #[]))∧
 (F U)∧
 Calls Tryz.prog 56 #[.pointer g,.pointer c] U fun bd dx=>
 (∃ b9:Int,∃ bj:ByteArray,∃ bk:Int,∃ bl:Int,∃ bm:Int,∃ bn:Int,∃ bo:Int,∃ i:Sl,∃ j:Sl,(bd=.returned (.agg #[.int .i64 b9,.string bj,.int .i64 bk,.int .i64 bl,.int .i64 bm,.int .i64 bn,.int .i64 bo,.slice i.a i.len i.cap,.slice j.a j.len j.cap]))∧
 ∃ V:World,((Instr.storeAt 31 (.pointer ((some ⟨e,0,none⟩))) (.agg #[.int .i64 b9,.string bj,.int .i64 bk,.int .i64 bl,.int .i64 bm,.int .i64 bn,.int .i64 bo,.slice i.a i.len i.cap,.slice j.a j.len j.cap])).run Tryz.prog dx=.ok () V)∧
 ∃ c0:Int,∃ c1:ByteArray,∃ c3:Int,∃ c4:Int,∃ c5:Int,∃ c6:Int,∃ c7:Int,∃ s:Sl,∃ t:Sl,(At (fun b=>b=V) ⟨e,0,none⟩ [.int .i64 c0,.string c1,.int .i64 c3,.int .i64 c4,.int .i64 c5,.int .i64 c6,.int .i64 c7,.slice s.a s.len s.cap,.slice t.a t.len t.cap])∧
 K (.agg #[.int .i64 c0,.string c1,.int .i64 c3,.int .i64 c4,.int .i64 c5,.int .i64 c6,.int .i64 c7,.slice s.a s.len s.cap,.slice t.a t.len t.cap]) V)∨
 (∃ az:List PanicEntry,(bd=.panicked az)∧d az dx))∨
 (∃ ay:List PanicEntry,(bc=.panicked ay)∧d ay U))∨
 (∃ ax:List PanicEntry,(bb=.panicked ax)∧d ax dw))∨
 (∃ aw:List PanicEntry,(ba=.panicked aw)∧d aw dv))
 (Br (D==6)
 (Calls Tryz.prog 40 #[.bool (!G==3),.int .i64 7] f fun be dy=>
 ((be=.returned (.tuple #[]))∧
 Drw dy fun ac eu=>
 ∃ cr:Option Addr,(At ac ⟨C,0,none⟩ [.pointer cr])∧
 NilP c fun ec=>
 ∃ bf:Int,(At ac (Addr.add ec 0) [.int .i64 bf])∧
 Calls Tryz.prog 118 #[.pointer cr,.int .i64 bf] eu fun a3 dz=>
 (∃ M:Sl,∃ bg:Int,(a3=.returned (.tuple #[.slice M.a M.len M.cap,.int .i64 bg]))∧
 Calls Tryz.prog 110 #[.int .i64 bg] dz fun a4 d0=>
 ((a4=.returned (.tuple #[]))∧
 Calls Tryz.prog 56 #[.pointer g,.pointer c] d0 fun a5 d1=>
 (∃ bp:Int,∃ bq:ByteArray,∃ bs:Int,∃ bt:Int,∃ bu:Int,∃ bv:Int,∃ bw:Int,∃ k:Sl,∃ l:Sl,(a5=.returned (.agg #[.int .i64 bp,.string bq,.int .i64 bs,.int .i64 bt,.int .i64 bu,.int .i64 bv,.int .i64 bw,.slice k.a k.len k.cap,.slice l.a l.len l.cap]))∧
 ∃ X:World,((Instr.storeAt 31 (.pointer ((some ⟨e,0,none⟩))) (.agg #[.int .i64 bp,.string bq,.int .i64 bs,.int .i64 bt,.int .i64 bu,.int .i64 bv,.int .i64 bw,.slice k.a k.len k.cap,.slice l.a l.len l.cap])).run Tryz.prog d1=.ok () X)∧
 ∃ c8:Int,∃ c9:ByteArray,∃ da:Int,∃ dc:Int,∃ dd:Int,∃ de:Int,∃ df:Int,∃ u:Sl,∃ v:Sl,(At (fun b=>b=X) ⟨e,0,none⟩ [.int .i64 c8,.string c9,.int .i64 da,.int .i64 dc,.int .i64 dd,.int .i64 de,.int .i64 df,.slice u.a u.len u.cap,.slice v.a v.len v.cap])∧
 K (.agg #[.int .i64 c8,.string c9,.int .i64 da,.int .i64 dc,.int .i64 dd,.int .i64 de,.int .i64 df,.slice u.a u.len u.cap,.slice v.a v.len v.cap]) X)∨
 (∃ ap:List PanicEntry,(a5=.panicked ap)∧d ap d1))∨
 (∃ ao:List PanicEntry,(a4=.panicked ao)∧d ao d0))∨
 (∃ an:List PanicEntry,(a3=.panicked an)∧d an dz))∨
 (∃ a0:List PanicEntry,(be=.panicked a0)∧d a0 dy))
 (Calls Tryz.prog 56 #[.pointer g,.pointer c] f fun a6 d2=>
 (∃ bx:Int,∃ bz:ByteArray,∃ b0:Int,∃ b2:Int,∃ b3:Int,∃ b4:Int,∃ b5:Int,∃ m:Sl,∃ n:Sl,(a6=.returned (.agg #[.int .i64 bx,.string bz,.int .i64 b0,.int .i64 b2,.int .i64 b3,.int .i64 b4,.int .i64 b5,.slice m.a m.len m.cap,.slice n.a n.len n.cap]))∧
 ∃ Y:World,((Instr.storeAt 31 (.pointer ((some ⟨e,0,none⟩))) (.agg #[.int .i64 bx,.string bz,.int .i64 b0,.int .i64 b2,.int .i64 b3,.int .i64 b4,.int .i64 b5,.slice m.a m.len m.cap,.slice n.a n.len n.cap])).run Tryz.prog d2=.ok () Y)∧
 ∃ dg:Int,∃ dh:ByteArray,∃ di:Int,∃ dj:Int,∃ dl:Int,∃ dm:Int,∃ dn:Int,∃ x:Sl,∃ y:Sl,(At (fun b=>b=Y) ⟨e,0,none⟩ [.int .i64 dg,.string dh,.int .i64 di,.int .i64 dj,.int .i64 dl,.int .i64 dm,.int .i64 dn,.slice x.a x.len x.cap,.slice y.a y.len y.cap])∧
 K (.agg #[.int .i64 dg,.string dh,.int .i64 di,.int .i64 dj,.int .i64 dl,.int .i64 dm,.int .i64 dn,.slice x.a x.len x.cap,.slice y.a y.len y.cap]) Y)∨
 (∃ aq:List PanicEntry,(a6=.panicked aq)∧d aq d2)))))) ev) eo) w
def sk45:Sk:=(.seq .leaf (.seq .leaf (.seq .leaf (.seq (.seq .leaf (.block (.seq .leaf (.cond .leaf (.seq .leaf (.cond (.cut [] [] [43,44,45,46,47,48,49,50,51,52,53,54,55,56,57] .leaf .leaf) .leaf)))))) .leaf))))
theorem call45 (e:Option Addr) (p:Option Addr) (f:Int) (g:ByteArray) (i:Int) (j:Int) (k:Int) (l:Int) (m:Nat) (n:ByteArray) (o:Int) (c:Sl) (b:Sl) (d:List PanicEntry→World→Prop) (K:Value→World→Prop) (w:World) (h:B45 e p f g i j k l m n o c b d K w):GetsX Tryz.prog 45 #[.pointer e,.pointer p,.agg #[.int .i64 f,.string g,.int .i64 i,.int .i64 j,.int .i64 k,.int .i64 l,.float .f64 m,.string n,.int .i64 o,.slice c.a c.len c.cap,.slice b.a b.len b.cap]] w d K:=cqx (sk:=sk45) Tryz.func45 (by kernel_rfl) (by kernel_rfl) (by kernel_rfl) h
def B15 (g:Option Addr) (g4:Int) (g5:ByteArray) (g6:Int) (g7:Int) (g8:Int) (g9:Int) (ha:Nat) (hb:ByteArray) (hc:Int) (ap:Sl) (ao:Sl) (K:Value→World→Prop) (w:World):Prop:=
 New (.cells #[.int .i64 g4,.string g5,.int .i64 g6,.int .i64 g7,.int .i64 g8,.int .i64 g9,.float .f64 ha,.string hb,.int .i64 hc,.slice ap.a ap.len ap.cap,.slice ao.a ao.len ao.cap] 38 (0,0)) (fun d hd=>
 New (.cells #[.int .i64 0,.string (ByteArray.mk #[]),.int .i64 0,.int .i64 0,.int .i64 0,.int .i64 0,.int .i64 0,.slice none 0 0,.slice none 0 0] 31 (0,0)) (fun c gq=>
 ∃ dm:Int,∃ dn:ByteArray,∃ dp:Int,∃ dq:Int,∃ dr:Int,∃ ds:Int,∃ dt:Nat,∃ du:ByteArray,∃ dv:Int,∃ F:Sl,∃ E:Sl,(At (fun b=>b=gq) ⟨d,0,none⟩ [.int .i64 dm,.string dn,.int .i64 dp,.int .i64 dq,.int .i64 dr,.int .i64 ds,.float .f64 dt,.string du,.int .i64 dv,.slice F.a F.len F.cap,.slice E.a E.len E.cap])∧
 Calls Tryz.prog 41 #[.agg #[.int .i64 dm,.string dn,.int .i64 dp,.int .i64 dq,.int .i64 dr,.int .i64 ds,.float .f64 dt,.string du,.int .i64 dv,.slice F.a F.len F.cap,.slice E.a E.len E.cap]] gq fun a2 gy=>
 (∃ dw:Bool,(a2=.returned (.bool dw))∧
 Calls Tryz.prog 40 #[.bool dw,.int .i64 1] gy fun a3 al=>
 ((a3=.returned (.tuple #[]))∧
 ∃ f:Int,(At (fun b=>b=al) ⟨d,0,none⟩ [.int .i64 f])∧
 Br (f==1)
 (∃ ba:Int,∃ bb:ByteArray,∃ bc:Int,∃ bd:Int,∃ be:Int,∃ bf:Int,∃ bg:Nat,∃ bh:ByteArray,∃ bi:Int,∃ j:Sl,∃ i:Sl,(At (fun b=>b=al) ⟨d,0,none⟩ [.int .i64 ba,.string bb,.int .i64 bc,.int .i64 bd,.int .i64 be,.int .i64 bf,.float .f64 bg,.string bh,.int .i64 bi,.slice j.a j.len j.cap,.slice i.a i.len i.cap])∧
 Calls Tryz.prog 42 #[.pointer g,.agg #[.int .i64 ba,.string bb,.int .i64 bc,.int .i64 bd,.int .i64 be,.int .i64 bf,.float .f64 bg,.string bh,.int .i64 bi,.slice j.a j.len j.cap,.slice i.a i.len i.cap]] al fun a4 g0=>
 (∃ bj:Int,∃ bk:ByteArray,∃ bl:Int,∃ bm:Int,∃ bn:Int,∃ bo:Int,∃ bp:Int,∃ k:Sl,∃ l:Sl,(a4=.returned (.agg #[.int .i64 bj,.string bk,.int .i64 bl,.int .i64 bm,.int .i64 bn,.int .i64 bo,.int .i64 bp,.slice k.a k.len k.cap,.slice l.a l.len l.cap]))∧
 ∃ g1:World,((Instr.storeAt 31 (.pointer ((some ⟨c,0,none⟩))) (.agg #[.int .i64 bj,.string bk,.int .i64 bl,.int .i64 bm,.int .i64 bn,.int .i64 bo,.int .i64 bp,.slice k.a k.len k.cap,.slice l.a l.len l.cap])).run Tryz.prog g0=.ok () g1)∧
 LeaveF Tryz.prog 39 [.pointer ((some ⟨c,0,none⟩))] .returning (fun g2=>∃ dx:Int,∃ dy:ByteArray,∃ ek:Int,∃ et:Int,∃ e2:Int,∃ fb:Int,∃ fk:Int,∃ ab:Sl,∃ af:Sl,(At (fun b=>b=g2) ⟨c,0,none⟩ [.int .i64 dx,.string dy,.int .i64 ek,.int .i64 et,.int .i64 e2,.int .i64 fb,.int .i64 fk,.slice ab.a ab.len ab.cap,.slice af.a af.len af.cap])∧
 K (.agg #[.int .i64 dx,.string dy,.int .i64 ek,.int .i64 et,.int .i64 e2,.int .i64 fb,.int .i64 fk,.slice ab.a ab.len ab.cap,.slice af.a af.len af.cap]) g2) g1)∨
 (∃ aw:List PanicEntry,(a4=.panicked aw)∧LeaveF Tryz.prog 39 [.pointer ((some ⟨c,0,none⟩))] (.panicking aw) (fun g3=>∃ f7:Int,∃ dz:ByteArray,∃ d8:Int,∃ ee:Int,∃ ef:Int,∃ eg:Int,∃ eh:Int,∃ L:Sl,∃ M:Sl,(At (fun b=>b=g3) ⟨c,0,none⟩ [.int .i64 f7,.string dz,.int .i64 d8,.int .i64 ee,.int .i64 ef,.int .i64 eg,.int .i64 eh,.slice L.a L.len L.cap,.slice M.a M.len M.cap])∧
 K (.agg #[.int .i64 f7,.string dz,.int .i64 d8,.int .i64 ee,.int .i64 ef,.int .i64 eg,.int .i64 eh,.slice L.a L.len L.cap,.slice M.a M.len M.cap]) g3) g0))
 (∃ (an:Bool→World→Prop),(Br (f==2)
 (an (f==2) al)
 (an (f==7) al))∧
 ∀ (hf:Env) (bq:Bool) (e:World),an bq e→
 Br bq
 (∃ br:Int,∃ bs:ByteArray,∃ bt:Int,∃ bu:Int,∃ bv:Int,∃ bw:Int,∃ bx:Nat,∃ bz:ByteArray,∃ b0:Int,∃ n:Sl,∃ m:Sl,(At (fun b=>b=e) ⟨d,0,none⟩ [.int .i64 br,.string bs,.int .i64 bt,.int .i64 bu,.int .i64 bv,.int .i64 bw,.float .f64 bx,.string bz,.int .i64 b0,.slice n.a n.len n.cap,.slice m.a m.len m.cap])∧
 Calls Tryz.prog 43 #[.pointer g,.agg #[.int .i64 br,.string bs,.int .i64 bt,.int .i64 bu,.int .i64 bv,.int .i64 bw,.float .f64 bx,.string bz,.int .i64 b0,.slice n.a n.len n.cap,.slice m.a m.len m.cap]] e fun a5 gg=>
 (∃ b1:Int,∃ b2:ByteArray,∃ b3:Int,∃ b4:Int,∃ b5:Int,∃ b6:Int,∃ b7:Int,∃ o:Sl,∃ p:Sl,(a5=.returned (.agg #[.int .i64 b1,.string b2,.int .i64 b3,.int .i64 b4,.int .i64 b5,.int .i64 b6,.int .i64 b7,.slice o.a o.len o.cap,.slice p.a p.len p.cap]))∧
 ∃ gh:World,((Instr.storeAt 31 (.pointer ((some ⟨c,0,none⟩))) (.agg #[.int .i64 b1,.string b2,.int .i64 b3,.int .i64 b4,.int .i64 b5,.int .i64 b6,.int .i64 b7,.slice o.a o.len o.cap,.slice p.a p.len p.cap])).run Tryz.prog gg=.ok () gh)∧
 LeaveF Tryz.prog 39 [.pointer ((some ⟨c,0,none⟩))] .returning (fun gi=>∃ ei:Int,∃ ej:ByteArray,∃ el:Int,∃ em:Int,∃ en:Int,∃ eo:Int,∃ ep:Int,∃ N:Sl,∃ O:Sl,(At (fun b=>b=gi) ⟨c,0,none⟩ [.int .i64 ei,.string ej,.int .i64 el,.int .i64 em,.int .i64 en,.int .i64 eo,.int .i64 ep,.slice N.a N.len N.cap,.slice O.a O.len O.cap])∧
 K (.agg #[.int .i64 ei,.string ej,.int .i64 el,.int .i64 em,.int .i64 en,.int .i64 eo,.int .i64 ep,.slice N.a N.len N.cap,.slice O.a O.len O.cap]) gi) gh)∨
 (∃ ax:List PanicEntry,(a5=.panicked ax)∧LeaveF Tryz.prog 39 [.pointer ((some ⟨c,0,none⟩))] (.panicking ax) (fun gj=>∃ eq:Int,∃ er:ByteArray,∃ es:Int,∃ eu:Int,∃ ev:Int,∃ ew:Int,∃ ex:Int,∃ Q:Sl,∃ T:Sl,(At (fun b=>b=gj) ⟨c,0,none⟩ [.int .i64 eq,.string er,.int .i64 es,.int .i64 eu,.int .i64 ev,.int .i64 ew,.int .i64 ex,.slice Q.a Q.len Q.cap,.slice T.a T.len T.cap])∧
 K (.agg #[.int .i64 eq,.string er,.int .i64 es,.int .i64 eu,.int .i64 ev,.int .i64 ew,.int .i64 ex,.slice Q.a Q.len Q.cap,.slice T.a T.len T.cap]) gj) gg))
 (Br (f==8)
 (∃ b8:Int,∃ b9:ByteArray,∃ ca:Int,∃ cb:Int,∃ cc:Int,∃ cd:Int,∃ ce:Nat,∃ cf:ByteArray,∃ cg:Int,∃ r:Sl,∃ q:Sl,(At (fun b=>b=e) ⟨d,0,none⟩ [.int .i64 b8,.string b9,.int .i64 ca,.int .i64 cb,.int .i64 cc,.int .i64 cd,.float .f64 ce,.string cf,.int .i64 cg,.slice r.a r.len r.cap,.slice q.a q.len q.cap])∧
 Calls Tryz.prog 44 #[.pointer g,.agg #[.int .i64 b8,.string b9,.int .i64 ca,.int .i64 cb,.int .i64 cc,.int .i64 cd,.float .f64 ce,.string cf,.int .i64 cg,.slice r.a r.len r.cap,.slice q.a q.len q.cap]] e fun a6 gk=>
 (∃ ch:Int,∃ ci:ByteArray,∃ cj:Int,∃ ck:Int,∃ cl:Int,∃ cm:Int,∃ cn:Int,∃ s:Sl,∃ t:Sl,(a6=.returned (.agg #[.int .i64 ch,.string ci,.int .i64 cj,.int .i64 ck,.int .i64 cl,.int .i64 cm,.int .i64 cn,.slice s.a s.len s.cap,.slice t.a t.len t.cap]))∧
 ∃ gl:World,((Instr.storeAt 31 (.pointer ((some ⟨c,0,none⟩))) (.agg #[.int .i64 ch,.string ci,.int .i64 cj,.int .i64 ck,.int .i64 cl,.int .i64 cm,.int .i64 cn,.slice s.a s.len s.cap,.slice t.a t.len t.cap])).run Tryz.prog gk=.ok () gl)∧
 LeaveF Tryz.prog 39 [.pointer ((some ⟨c,0,none⟩))] .returning (fun gm=>∃ ey:Int,∃ ez:ByteArray,∃ e0:Int,∃ e1:Int,∃ e3:Int,∃ e4:Int,∃ e5:Int,∃ U:Sl,∃ V:Sl,(At (fun b=>b=gm) ⟨c,0,none⟩ [.int .i64 ey,.string ez,.int .i64 e0,.int .i64 e1,.int .i64 e3,.int .i64 e4,.int .i64 e5,.slice U.a U.len U.cap,.slice V.a V.len V.cap])∧
 K (.agg #[.int .i64 ey,.string ez,.int .i64 e0,.int .i64 e1,.int .i64 e3,.int .i64 e4,.int .i64 e5,.slice U.a U.len U.cap,.slice V.a V.len V.cap]) gm) gl)∨
 (∃ ay:List PanicEntry,(a6=.panicked ay)∧LeaveF Tryz.prog 39 [.pointer ((some ⟨c,0,none⟩))] (.panicking ay) (fun gn=>∃ e6:Int,∃ e7:ByteArray,∃ e8:Int,∃ e9:Int,∃ fa:Int,∃ fc:Int,∃ fd:Int,∃ X:Sl,∃ Y:Sl,(At (fun b=>b=gn) ⟨c,0,none⟩ [.int .i64 e6,.string e7,.int .i64 e8,.int .i64 e9,.int .i64 fa,.int .i64 fc,.int .i64 fd,.slice X.a X.len X.cap,.slice Y.a Y.len Y.cap])∧
 K (.agg #[.int .i64 e6,.string e7,.int .i64 e8,.int .i64 e9,.int .i64 fa,.int .i64 fc,.int .i64 fd,.slice X.a X.len X.cap,.slice Y.a Y.len Y.cap]) gn) gk))
 (Br (f==9)
 (∃ co:Int,∃ cp:ByteArray,∃ cq:Int,∃ cr:Int,∃ cs:Int,∃ ct:Int,∃ cu:Nat,∃ cv:ByteArray,∃ cw:Int,∃ v:Sl,∃ u:Sl,(At (fun b=>b=e) ⟨d,0,none⟩ [.int .i64 co,.string cp,.int .i64 cq,.int .i64 cr,.int .i64 cs,.int .i64 ct,.float .f64 cu,.string cv,.int .i64 cw,.slice v.a v.len v.cap,.slice u.a u.len u.cap])∧
 Calls Tryz.prog 19 #[.pointer g,.agg #[.int .i64 co,.string cp,.int .i64 cq,.int .i64 cr,.int .i64 cs,.int .i64 ct,.float .f64 cu,.string cv,.int .i64 cw,.slice v.a v.len v.cap,.slice u.a u.len u.cap]] e fun a7 go=>
 (∃ cx:Int,∃ cy:ByteArray,∃ cz:Int,∃ c0:Int,∃ c1:Int,∃ c2:Int,∃ c3:Int,∃ x:Sl,∃ y:Sl,(a7=.returned (.agg #[.int .i64 cx,.string cy,.int .i64 cz,.int .i64 c0,.int .i64 c1,.int .i64 c2,.int .i64 c3,.slice x.a x.len x.cap,.slice y.a y.len y.cap]))∧
 ∃ gp:World,((Instr.storeAt 31 (.pointer ((some ⟨c,0,none⟩))) (.agg #[.int .i64 cx,.string cy,.int .i64 cz,.int .i64 c0,.int .i64 c1,.int .i64 c2,.int .i64 c3,.slice x.a x.len x.cap,.slice y.a y.len y.cap])).run Tryz.prog go=.ok () gp)∧
 LeaveF Tryz.prog 39 [.pointer ((some ⟨c,0,none⟩))] .returning (fun gr=>∃ fe:Int,∃ ff:ByteArray,∃ fg:Int,∃ fh:Int,∃ fi:Int,∃ fj:Int,∃ fl:Int,∃ Z:Sl,∃ aa:Sl,(At (fun b=>b=gr) ⟨c,0,none⟩ [.int .i64 fe,.string ff,.int .i64 fg,.int .i64 fh,.int .i64 fi,.int .i64 fj,.int .i64 fl,.slice Z.a Z.len Z.cap,.slice aa.a aa.len aa.cap])∧
 K (.agg #[.int .i64 fe,.string ff,.int .i64 fg,.int .i64 fh,.int .i64 fi,.int .i64 fj,.int .i64 fl,.slice Z.a Z.len Z.cap,.slice aa.a aa.len aa.cap]) gr) gp)∨
 (∃ az:List PanicEntry,(a7=.panicked az)∧LeaveF Tryz.prog 39 [.pointer ((some ⟨c,0,none⟩))] (.panicking az) (fun gs=>∃ fm:Int,∃ fn:ByteArray,∃ fo:Int,∃ fp:Int,∃ fq:Int,∃ fr:Int,∃ fs:Int,∃ ac:Sl,∃ ad:Sl,(At (fun b=>b=gs) ⟨c,0,none⟩ [.int .i64 fm,.string fn,.int .i64 fo,.int .i64 fp,.int .i64 fq,.int .i64 fr,.int .i64 fs,.slice ac.a ac.len ac.cap,.slice ad.a ad.len ad.cap])∧
 K (.agg #[.int .i64 fm,.string fn,.int .i64 fo,.int .i64 fp,.int .i64 fq,.int .i64 fr,.int .i64 fs,.slice ac.a ac.len ac.cap,.slice ad.a ad.len ad.cap]) gs) go))
 (Drw e fun am he=>
 ∃ c4:ByteArray,(At am ⟨d,0 + 1,none⟩ [.string c4])∧
 ∃ c6:Int,∃ c7:ByteArray,∃ c8:Int,∃ c9:Int,∃ da:Int,∃ db:Int,∃ dc:Nat,∃ dd:ByteArray,∃ de:Int,∃ A:Sl,∃ z:Sl,(At am ⟨d,0,none⟩ [.int .i64 c6,.string c7,.int .i64 c8,.int .i64 c9,.int .i64 da,.int .i64 db,.float .f64 dc,.string dd,.int .i64 de,.slice A.a A.len A.cap,.slice z.a z.len z.cap])∧
 Calls Tryz.prog 46 #[.pointer g,.string c4] he fun a8 aq=>
 (∃ c5:Option Addr,(a8=.returned (.pointer c5))∧
 (am aq)∧
 Calls Tryz.prog 45 #[.pointer g,.pointer c5,.agg #[.int .i64 c6,.string c7,.int .i64 c8,.int .i64 c9,.int .i64 da,.int .i64 db,.float .f64 dc,.string dd,.int .i64 de,.slice A.a A.len A.cap,.slice z.a z.len z.cap]] aq fun a9 ar=>
 (∃ df:Int,∃ dg:ByteArray,∃ dh:Int,∃ di:Int,∃ dj:Int,∃ dk:Int,∃ dl:Int,∃ C:Sl,∃ D:Sl,(a9=.returned (.agg #[.int .i64 df,.string dg,.int .i64 dh,.int .i64 di,.int .i64 dj,.int .i64 dk,.int .i64 dl,.slice C.a C.len C.cap,.slice D.a D.len D.cap]))∧
 (am ar)∧
 ∃ gt:World,((Instr.storeAt 31 (.pointer ((some ⟨c,0,none⟩))) (.agg #[.int .i64 df,.string dg,.int .i64 dh,.int .i64 di,.int .i64 dj,.int .i64 dk,.int .i64 dl,.slice C.a C.len C.cap,.slice D.a D.len D.cap])).run Tryz.prog ar=.ok () gt)∧
 LeaveF Tryz.prog 39 [.pointer ((some ⟨c,0,none⟩))] .returning (fun gu=>∃ ft:Int,∃ fu:ByteArray,∃ fv:Int,∃ fw:Int,∃ fx:Int,∃ fy:Int,∃ fz:Int,∃ ae:Sl,∃ ag:Sl,(At (fun b=>b=gu) ⟨c,0,none⟩ [.int .i64 ft,.string fu,.int .i64 fv,.int .i64 fw,.int .i64 fx,.int .i64 fy,.int .i64 fz,.slice ae.a ae.len ae.cap,.slice ag.a ag.len ag.cap])∧
 K (.agg #[.int .i64 ft,.string fu,.int .i64 fv,.int .i64 fw,.int .i64 fx,.int .i64 fy,.int .i64 fz,.slice ae.a ae.len ae.cap,.slice ag.a ag.len ag.cap]) gu) gt)∨
 (∃ a1:List PanicEntry,(a9=.panicked a1)∧LeaveF Tryz.prog 39 [.pointer ((some ⟨c,0,none⟩))] (.panicking a1) (fun gv=>∃ f0:Int,∃ f1:ByteArray,∃ f2:Int,∃ f3:Int,∃ f4:Int,∃ f5:Int,∃ f6:Int,∃ ah:Sl,∃ ai:Sl,(At (fun b=>b=gv) ⟨c,0,none⟩ [.int .i64 f0,.string f1,.int .i64 f2,.int .i64 f3,.int .i64 f4,.int .i64 f5,.int .i64 f6,.slice ah.a ah.len ah.cap,.slice ai.a ai.len ai.cap])∧
 K (.agg #[.int .i64 f0,.string f1,.int .i64 f2,.int .i64 f3,.int .i64 f4,.int .i64 f5,.int .i64 f6,.slice ah.a ah.len ah.cap,.slice ai.a ai.len ai.cap]) gv) ar))∨
 (∃ a0:List PanicEntry,(a8=.panicked a0)∧LeaveF Tryz.prog 39 [.pointer ((some ⟨c,0,none⟩))] (.panicking a0) (fun gw=>∃ f8:Int,∃ f9:ByteArray,∃ ga:Int,∃ gb:Int,∃ gc:Int,∃ gd:Int,∃ ge:Int,∃ aj:Sl,∃ ak:Sl,(At (fun b=>b=gw) ⟨c,0,none⟩ [.int .i64 f8,.string f9,.int .i64 ga,.int .i64 gb,.int .i64 gc,.int .i64 gd,.int .i64 ge,.slice aj.a aj.len aj.cap,.slice ak.a ak.len ak.cap])∧
 K (.agg #[.int .i64 f8,.string f9,.int .i64 ga,.int .i64 gb,.int .i64 gc,.int .i64 gd,.int .i64 ge,.slice aj.a aj.len aj.cap,.slice ak.a ak.len ak.cap]) gw) aq))))))∨
 (∃ av:List PanicEntry,(a3=.panicked av)∧LeaveF Tryz.prog 39 [.pointer ((some ⟨c,0,none⟩))] (.panicking av) (fun gx=>∃ gf:Int,∃ d0:ByteArray,∃ d1:Int,∃ d2:Int,∃ d3:Int,∃ d4:Int,∃ d5:Int,∃ G:Sl,∃ H:Sl,(At (fun b=>b=gx) ⟨c,0,none⟩ [.int .i64 gf,.string d0,.int .i64 d1,.int .i64 d2,.int .i64 d3,.int .i64 d4,.int .i64 d5,.slice G.a G.len G.cap,.slice H.a H.len H.cap])∧
 K (.agg #[.int .i64 gf,.string d0,.int .i64 d1,.int .i64 d2,.int .i64 d3,.int .i64 d4,.int .i64 d5,.slice G.a G.len G.cap,.slice H.a H.len H.cap]) gx) al))∨
 (∃ au:List PanicEntry,(a2=.panicked au)∧LeaveF Tryz.prog 39 [.pointer ((some ⟨c,0,none⟩))] (.panicking au) (fun gz=>∃ d6:Int,∃ d7:ByteArray,∃ d9:Int,∃ ea:Int,∃ eb:Int,∃ ec:Int,∃ ed:Int,∃ I:Sl,∃ J:Sl,(At (fun b=>b=gz) ⟨c,0,none⟩ [.int .i64 d6,.string d7,.int .i64 d9,.int .i64 ea,.int .i64 eb,.int .i64 ec,.int .i64 ed,.slice I.a I.len I.cap,.slice J.a J.len J.cap])∧
 K (.agg #[.int .i64 d6,.string d7,.int .i64 d9,.int .i64 ea,.int .i64 eb,.int .i64 ec,.int .i64 ed,.slice I.a I.len I.cap,.slice J.a J.len J.cap]) gz) gy)) hd) w
def sk15:Sk:=(.seq .leaf (.seq (.seq .leaf (.block (.seq .leaf (.cond .leaf (.cut [15] [.bool] [15,16,17] .leaf .leaf))))) .leaf))
theorem call15 (d:Option Addr) (e:Int) (f:ByteArray) (g:Int) (i:Int) (j:Int) (k:Int) (l:Nat) (m:ByteArray) (n:Int) (c:Sl) (b:Sl) (K:Value→World→Prop) (w:World) (h:B15 d e f g i j k l m n c b K w):Gets Tryz.prog 15 #[.pointer d,.agg #[.int .i64 e,.string f,.int .i64 g,.int .i64 i,.int .i64 j,.int .i64 k,.float .f64 l,.string m,.int .i64 n,.slice c.a c.len c.cap,.slice b.a b.len b.cap]] w K:=cqd (sk:=sk15) Tryz.func15 (by kernel_rfl) (by kernel_rfl) (by kernel_rfl) h
def B19 (M:Option Addr) (dy:Int) (dz:ByteArray) (d0:Int) (d1:Int) (d2:Int) (d3:Int) (d4:Nat) (d5:ByteArray) (d6:Int) (Q:Sl) (O:Sl) (K:Value→World→Prop) (w:World):Prop:=
 New (.cells #[.int .i64 dy,.string dz,.int .i64 d0,.int .i64 d1,.int .i64 d2,.int .i64 d3,.float .f64 d4,.string d5,.int .i64 d6,.slice Q.a Q.len Q.cap,.slice O.a O.len O.cap] 38 (0,0)) (fun d d7=>
 New (.cells #[.int .i64 0,.string (ByteArray.mk #[]),.int .i64 0,.int .i64 0,.int .i64 0,.int .i64 0,.int .i64 0,.slice none 0 0,.slice none 0 0] 31 (0,0)) (fun c dm=>
 ∃ (L:World→Prop),(∃ bq:Int,∃ br:ByteArray,∃ bs:Int,∃ bt:Int,∃ bu:Int,∃ bv:Int,∃ bw:Nat,∃ bx:ByteArray,∃ bz:Int,∃ p:Sl,∃ o:Sl,(At (fun b=>b=dm) ⟨d,0,none⟩ [.int .i64 bq,.string br,.int .i64 bs,.int .i64 bt,.int .i64 bu,.int .i64 bv,.float .f64 bw,.string bx,.int .i64 bz,.slice p.a p.len p.cap,.slice o.a o.len o.cap])∧
 Calls Tryz.prog 41 #[.agg #[.int .i64 bq,.string br,.int .i64 bs,.int .i64 bt,.int .i64 bu,.int .i64 bv,.float .f64 bw,.string bx,.int .i64 bz,.slice p.a p.len p.cap,.slice o.a o.len o.cap]] dm fun ae J=>
 (∃ b0:Bool,(ae=.returned (.bool b0))∧
 Br b0
 (∃ am:Int,(At (fun b=>b=J) ⟨d,0,none⟩ [.int .i64 am])∧
 Calls Tryz.prog 40 #[.bool (am==9),.int .i64 1] J fun af dt=>
 ((af=.returned (.tuple #[]))∧
 L  dt)∨
 (∃ X:List PanicEntry,(af=.panicked X)∧LeaveF Tryz.prog 39 [.pointer ((some ⟨c,0,none⟩))] (.panicking X) (fun du=>∃ an:Int,∃ ao:ByteArray,∃ az:Int,∃ a5:Int,∃ a6:Int,∃ a7:Int,∃ a8:Int,∃ j:Sl,∃ k:Sl,(At (fun b=>b=du) ⟨c,0,none⟩ [.int .i64 an,.string ao,.int .i64 az,.int .i64 a5,.int .i64 a6,.int .i64 a7,.int .i64 a8,.slice j.a j.len j.cap,.slice k.a k.len k.cap])∧
 K (.agg #[.int .i64 an,.string ao,.int .i64 az,.int .i64 a5,.int .i64 a6,.int .i64 a7,.int .i64 a8,.slice j.a j.len j.cap,.slice k.a k.len k.cap]) du) dt))
 (Calls Tryz.prog 40 #[.bool false,.int .i64 1] J fun ag dv=>
 ((ag=.returned (.tuple #[]))∧
 L  dv)∨
 (∃ Y:List PanicEntry,(ag=.panicked Y)∧LeaveF Tryz.prog 39 [.pointer ((some ⟨c,0,none⟩))] (.panicking Y) (fun dw=>∃ a9:Int,∃ ap:ByteArray,∃ aq:Int,∃ ar:Int,∃ au:Int,∃ av:Int,∃ aw:Int,∃ e:Sl,∃ f:Sl,(At (fun b=>b=dw) ⟨c,0,none⟩ [.int .i64 a9,.string ap,.int .i64 aq,.int .i64 ar,.int .i64 au,.int .i64 av,.int .i64 aw,.slice e.a e.len e.cap,.slice f.a f.len f.cap])∧
 K (.agg #[.int .i64 a9,.string ap,.int .i64 aq,.int .i64 ar,.int .i64 au,.int .i64 av,.int .i64 aw,.slice e.a e.len e.cap,.slice f.a f.len f.cap]) dw) dv)))∨
 (∃ V:List PanicEntry,(ae=.panicked V)∧LeaveF Tryz.prog 39 [.pointer ((some ⟨c,0,none⟩))] (.panicking V) (fun dx=>∃ ax:Int,∃ ay:ByteArray,∃ a0:Int,∃ a1:Int,∃ a2:Int,∃ a3:Int,∃ a4:Int,∃ g:Sl,∃ i:Sl,(At (fun b=>b=dx) ⟨c,0,none⟩ [.int .i64 ax,.string ay,.int .i64 a0,.int .i64 a1,.int .i64 a2,.int .i64 a3,.int .i64 a4,.slice g.a g.len g.cap,.slice i.a i.len i.cap])∧
 K (.agg #[.int .i64 ax,.string ay,.int .i64 a0,.int .i64 a1,.int .i64 a2,.int .i64 a3,.int .i64 a4,.slice g.a g.len g.cap,.slice i.a i.len i.cap]) dx) J))∧
 ∀ (ea:Env)  (G:World),L  G→
 ∃ ba:ByteArray,(At (fun b=>b=G) ⟨d,0 + 1,none⟩ [.string ba])∧
 Br (!ba.toList==(ByteArray.mk #[]).toList)
 (∃ bb:ByteArray,(At (fun b=>b=G) ⟨d,0 + 1,none⟩ [.string bb])∧
 Calls Tryz.prog 46 #[.pointer M,.string bb] G fun ah de=>
 (∃ bc:Option Addr,(ah=.returned (.pointer bc))∧
 Calls Tryz.prog 56 #[.pointer M,.pointer bc] de fun ai df=>
 (∃ bd:Int,∃ be:ByteArray,∃ bf:Int,∃ bg:Int,∃ bh:Int,∃ bi:Int,∃ bj:Int,∃ l:Sl,∃ m:Sl,(ai=.returned (.agg #[.int .i64 bd,.string be,.int .i64 bf,.int .i64 bg,.int .i64 bh,.int .i64 bi,.int .i64 bj,.slice l.a l.len l.cap,.slice m.a m.len m.cap]))∧
 ∃ dg:World,((Instr.storeAt 31 (.pointer ((some ⟨c,0,none⟩))) (.agg #[.int .i64 bd,.string be,.int .i64 bf,.int .i64 bg,.int .i64 bh,.int .i64 bi,.int .i64 bj,.slice l.a l.len l.cap,.slice m.a m.len m.cap])).run Tryz.prog df=.ok () dg)∧
 LeaveF Tryz.prog 39 [.pointer ((some ⟨c,0,none⟩))] .returning (fun dh=>∃ b1:Int,∃ b2:ByteArray,∃ cb:Int,∃ ck:Int,∃ ct:Int,∃ c2:Int,∃ db:Int,∃ E:Sl,∃ F:Sl,(At (fun b=>b=dh) ⟨c,0,none⟩ [.int .i64 b1,.string b2,.int .i64 cb,.int .i64 ck,.int .i64 ct,.int .i64 c2,.int .i64 db,.slice E.a E.len E.cap,.slice F.a F.len F.cap])∧
 K (.agg #[.int .i64 b1,.string b2,.int .i64 cb,.int .i64 ck,.int .i64 ct,.int .i64 c2,.int .i64 db,.slice E.a E.len E.cap,.slice F.a F.len F.cap]) dh) dg)∨
 (∃ aa:List PanicEntry,(ai=.panicked aa)∧LeaveF Tryz.prog 39 [.pointer ((some ⟨c,0,none⟩))] (.panicking aa) (fun di=>∃ dd:Int,∃ b3:ByteArray,∃ b4:Int,∃ b5:Int,∃ b6:Int,∃ b7:Int,∃ b8:Int,∃ q:Sl,∃ r:Sl,(At (fun b=>b=di) ⟨c,0,none⟩ [.int .i64 dd,.string b3,.int .i64 b4,.int .i64 b5,.int .i64 b6,.int .i64 b7,.int .i64 b8,.slice q.a q.len q.cap,.slice r.a r.len r.cap])∧
 K (.agg #[.int .i64 dd,.string b3,.int .i64 b4,.int .i64 b5,.int .i64 b6,.int .i64 b7,.int .i64 b8,.slice q.a q.len q.cap,.slice r.a r.len r.cap]) di) df))∨
 (∃ Z:List PanicEntry,(ah=.panicked Z)∧LeaveF Tryz.prog 39 [.pointer ((some ⟨c,0,none⟩))] (.panicking Z) (fun dj=>∃ b9:Int,∃ ca:ByteArray,∃ cc:Int,∃ cd:Int,∃ ce:Int,∃ cf:Int,∃ cg:Int,∃ s:Sl,∃ t:Sl,(At (fun b=>b=dj) ⟨c,0,none⟩ [.int .i64 b9,.string ca,.int .i64 cc,.int .i64 cd,.int .i64 ce,.int .i64 cf,.int .i64 cg,.slice s.a s.len s.cap,.slice t.a t.len t.cap])∧
 K (.agg #[.int .i64 b9,.string ca,.int .i64 cc,.int .i64 cd,.int .i64 ce,.int .i64 cf,.int .i64 cg,.slice s.a s.len s.cap,.slice t.a t.len t.cap]) dj) de))
 (∃ bk:Int,(At (fun b=>b=G) ⟨d,0 + 2,none⟩ [.int .i64 bk])∧
 Calls Tryz.prog 57 #[.pointer M,.int .i64 bk] G fun aj dk=>
 (∃ bl:Option Addr,∃ bm:Option Addr,(aj=.returned (.agg #[.pointer bl,.pointer bm]))∧
 New (.cells #[.pointer none,.pointer none] 102 (0,0)) (fun N d8=>
 ∃ dl:World,((Instr.storeAt 102 (.pointer ((some ⟨N,0,none⟩))) (.agg #[.pointer bl,.pointer bm])).run Tryz.prog d8=.ok () dl)∧
 Drw dl fun H d9=>
 ∃ bn:Int,(At H ⟨d,0 + 2,none⟩ [.int .i64 bn])∧
 ∃ bo:Option Addr,(At H ⟨N,0,none⟩ [.pointer bo])∧
 ∃ bp:Option Addr,(At H ⟨N,0 + 1,none⟩ [.pointer bp])∧
 Calls Tryz.prog 58 #[.pointer bo] d9 fun ak T=>
 (∃ n:Sl,(ak=.returned (.slice n.a n.len n.cap))∧
 (H T)∧
 Calls Tryz.prog 59 #[.pointer bp] T fun al U=>
 (∃ I:Sl,(al=.returned (.slice I.a I.len I.cap))∧
 (H U)∧
 ∃ dn:World,((Instr.storeAt 31 (.pointer ((some ⟨c,0,none⟩))) (.agg #[.int .i64 0,.string (ByteArray.mk #[]),.int .i64 0,.int .i64 bn,.int .i64 0,.int .i64 ((↑I.len:Int)),.int .i64 0,.slice n.a n.len n.cap,.slice none 0 0])).run Tryz.prog U=.ok () dn)∧
 LeaveF Tryz.prog 39 [.pointer ((some ⟨c,0,none⟩))] .returning (fun dp=>∃ ch:Int,∃ ci:ByteArray,∃ cj:Int,∃ cl:Int,∃ cm:Int,∃ cn:Int,∃ co:Int,∃ u:Sl,∃ v:Sl,(At (fun b=>b=dp) ⟨c,0,none⟩ [.int .i64 ch,.string ci,.int .i64 cj,.int .i64 cl,.int .i64 cm,.int .i64 cn,.int .i64 co,.slice u.a u.len u.cap,.slice v.a v.len v.cap])∧
 K (.agg #[.int .i64 ch,.string ci,.int .i64 cj,.int .i64 cl,.int .i64 cm,.int .i64 cn,.int .i64 co,.slice u.a u.len u.cap,.slice v.a v.len v.cap]) dp) dn)∨
 (∃ ad:List PanicEntry,(al=.panicked ad)∧LeaveF Tryz.prog 39 [.pointer ((some ⟨c,0,none⟩))] (.panicking ad) (fun dq=>∃ cp:Int,∃ cq:ByteArray,∃ cr:Int,∃ cs:Int,∃ cu:Int,∃ cv:Int,∃ cw:Int,∃ x:Sl,∃ y:Sl,(At (fun b=>b=dq) ⟨c,0,none⟩ [.int .i64 cp,.string cq,.int .i64 cr,.int .i64 cs,.int .i64 cu,.int .i64 cv,.int .i64 cw,.slice x.a x.len x.cap,.slice y.a y.len y.cap])∧
 K (.agg #[.int .i64 cp,.string cq,.int .i64 cr,.int .i64 cs,.int .i64 cu,.int .i64 cv,.int .i64 cw,.slice x.a x.len x.cap,.slice y.a y.len y.cap]) dq) U))∨
 (∃ ac:List PanicEntry,(ak=.panicked ac)∧LeaveF Tryz.prog 39 [.pointer ((some ⟨c,0,none⟩))] (.panicking ac) (fun dr=>∃ cx:Int,∃ cy:ByteArray,∃ cz:Int,∃ c0:Int,∃ c1:Int,∃ c3:Int,∃ c4:Int,∃ z:Sl,∃ A:Sl,(At (fun b=>b=dr) ⟨c,0,none⟩ [.int .i64 cx,.string cy,.int .i64 cz,.int .i64 c0,.int .i64 c1,.int .i64 c3,.int .i64 c4,.slice z.a z.len z.cap,.slice A.a A.len A.cap])∧
 K (.agg #[.int .i64 cx,.string cy,.int .i64 cz,.int .i64 c0,.int .i64 c1,.int .i64 c3,.int .i64 c4,.slice z.a z.len z.cap,.slice A.a A.len A.cap]) dr) T)) dk)∨
 (∃ ab:List PanicEntry,(aj=.panicked ab)∧LeaveF Tryz.prog 39 [.pointer ((some ⟨c,0,none⟩))] (.panicking ab) (fun ds=>∃ c5:Int,∃ c6:ByteArray,∃ c7:Int,∃ c8:Int,∃ c9:Int,∃ da:Int,∃ dc:Int,∃ C:Sl,∃ D:Sl,(At (fun b=>b=ds) ⟨c,0,none⟩ [.int .i64 c5,.string c6,.int .i64 c7,.int .i64 c8,.int .i64 c9,.int .i64 da,.int .i64 dc,.slice C.a C.len C.cap,.slice D.a D.len D.cap])∧
 K (.agg #[.int .i64 c5,.string c6,.int .i64 c7,.int .i64 c8,.int .i64 c9,.int .i64 da,.int .i64 dc,.slice C.a C.len C.cap,.slice D.a D.len D.cap]) ds) dk))) d7) w
def sk19:Sk:=(.cut [] [] [6,7,8,9,10,11,12,13] .leaf .leaf)
theorem call19 (d:Option Addr) (e:Int) (f:ByteArray) (g:Int) (i:Int) (j:Int) (k:Int) (l:Nat) (m:ByteArray) (n:Int) (c:Sl) (b:Sl) (K:Value→World→Prop) (w:World) (h:B19 d e f g i j k l m n c b K w):Gets Tryz.prog 19 #[.pointer d,.agg #[.int .i64 e,.string f,.int .i64 g,.int .i64 i,.int .i64 j,.int .i64 k,.float .f64 l,.string m,.int .i64 n,.slice c.a c.len c.cap,.slice b.a b.len b.cap]] w K:=cqd (sk:=sk19) Tryz.func19 (by kernel_rfl) (by kernel_rfl) (by kernel_rfl) h
end Go.Proofs.YtfgbbckfikiomaaGreatDoor
/- The formulas of functions of this seat's translation, printed by a program of mine off the translation; each is proved equal to 'fnF' of the function's body, so it is enough for the call. No condition. -/
namespace Go.Proofs.YtfgbbckfikiomaaGreatDoor
open Go Go.VC
set_option linter.unusedVariables false
set_option maxRecDepth 10000
def B89 (d:Nat) (K:Value→World→Prop) (w:World):Prop:=
 Ext Tryz.prog 149 #[.float .f64 d] w fun c b=>
 ∃ a:Int,(c=.returned (.int .u64 a))∧
 Br (decide (a<9223372036854775808))
 (K (.int .u64 (IntKind.u64.wrap (a + 9223372036854775808))) b)
 (K (.int .u64 (IntKind.u64.wrap (18446744073709551615 - a))) b)
theorem call89 (a:Nat) (K:Value→World→Prop) (w:World) (h:B89 a K w):Gets Tryz.prog 89 #[.float .f64 a] w K:=cq (sk:=.leaf) Tryz.func89 (by kernel_rfl) (by kernel_rfl) (by kernel_rfl) h
def B62 (T:Int) (U:ByteArray) (V:Int) (X:Int) (Y:Int) (Z:Int) (aa:Nat) (ab:ByteArray) (ac:Int) (r:Sl) (q:Sl) (K:Value→World→Prop) (w:World):Prop:=
 New (.cells #[.int .i64 T,.string U,.int .i64 V,.int .i64 X,.int .i64 Y,.int .i64 Z,.float .f64 aa,.string ab,.int .i64 ac,.slice r.a r.len r.cap,.slice q.a q.len q.cap] 38 (0,0)) (fun d k=>
 ∃ G:Int,(At (fun b=>b=k) ⟨d,0 + 2,none⟩ [.int .i64 G])∧
 ∃ H:Int,(At (fun b=>b=k) ⟨d,0 + 3,none⟩ [.int .i64 H])∧
 ∃ u:Int,(At (fun b=>b=k) ⟨d,0 + 4,none⟩ [.int .i64 u])∧
 ∃ v:Int,(At (fun b=>b=k) ⟨d,0 + 8,none⟩ [.int .i64 v])∧
 New (.cells #[.int .i64 G,.int .i64 H,.int .i64 u,.int .i64 v] 3 (0,0)) (fun t ad=>
 ∃ (o:Int→World→Prop) (M:Int→World→Nat),(o 0 ad)∧∀ (ae:Env) (f:Int) (c:World),o f c→
 Br (decide (f<(↑4:Int)))
 (Rng f 4 (∃ x:Int,(At (fun b=>b=c) (Addr.add ⟨t,0,none⟩ f.toNat) [.int .i64 x])∧
 Br (decide (x<0))
 (K (.bool false) c)
 (Rng f 4 (∃ y:Int,(At (fun b=>b=c) (Addr.add ⟨t,0,none⟩ f.toNat) [.int .i64 y])∧
 Br (decide (y>9999))
 (K (.bool false) c)
 ((o (IntKind.i64.wrap (f + 1)) c)∧M (IntKind.i64.wrap (f + 1)) c<M f c)))))
 (∃ (s:World→Prop),(∃ z:Int,(At (fun b=>b=c) ⟨d,0,none⟩ [.int .i64 z])∧
 Br (decide (z<1))
 (K (.bool false) c)
 (∃ A:Int,(At (fun b=>b=c) ⟨d,0,none⟩ [.int .i64 A])∧
 Br (decide (A>9))
 (K (.bool false) c)
 (∃ C:Int,(At (fun b=>b=c) ⟨d,0 + 5,none⟩ [.int .i64 C])∧
 Br (decide (C<0))
 (K (.bool false) c)
 (∃ D:Int,(At (fun b=>b=c) ⟨d,0 + 5,none⟩ [.int .i64 D])∧
 Br (decide (D>1099511627776))
 (K (.bool false) c)
 (∃ E:ByteArray,(At (fun b=>b=c) ⟨d,0 + 1,none⟩ [.string E])∧
 Br (decide ((↑E.size:Int)>16))
 (K (.bool false) c)
 (∃ F:ByteArray,(At (fun b=>b=c) ⟨d,0 + 7,none⟩ [.string F])∧
 Br (decide ((↑F.size:Int)>16))
 (K (.bool false) c)
 (∃ l:Sl,(At (fun b=>b=c) ⟨d,0 + 8 + 1,none⟩ [.slice l.a l.len l.cap])∧
 Br (decide ((↑l.len:Int)>16))
 (K (.bool false) c)
 (∃ m:Sl,(At (fun b=>b=c) ⟨d,0 + 10,none⟩ [.slice m.a m.len m.cap])∧
 Br (decide ((↑m.len:Int)>16))
 (K (.bool false) c)
 (s  c)))))))))∧
 ∀ (af:Env)  (L:World),s  L→
 ∃ (p:Int→World→Prop) (N:Int→World→Nat),(p 0 L)∧∀ (ag:Env) (g:Int) (e:World),p g e→
 ∃ n:Sl,(At (fun b=>b=e) ⟨d,0 + 8 + 1,none⟩ [.slice n.a n.len n.cap])∧
 Br (decide (g<(↑n.len:Int)))
 (∃ i:Sl,(At (fun b=>b=e) ⟨d,0 + 8 + 1,none⟩ [.slice i.a i.len i.cap])∧
 Rng g i.len (NilP i.a fun O=>
 ∃ I:Int,(At (fun b=>b=e) (Addr.add O g.toNat) [.int .i64 I])∧
 Br (decide (I<0))
 (K (.bool false) e)
 (∃ j:Sl,(At (fun b=>b=e) ⟨d,0 + 8 + 1,none⟩ [.slice j.a j.len j.cap])∧
 Rng g j.len (NilP j.a fun Q=>
 ∃ J:Int,(At (fun b=>b=e) (Addr.add Q g.toNat) [.int .i64 J])∧
 Br (decide (J>9999))
 (K (.bool false) e)
 ((p (IntKind.i64.wrap (g + 1)) e)∧N (IntKind.i64.wrap (g + 1)) e<N g e)))))
 (K (.bool true) e))) k) w
def sk62:Sk:=(.seq .leaf (.seq .leaf (.seq (.seq .leaf (.block (.loop [4] [(.int .i64)] [2,4,16,17,18,19,20,21,22,23,24,25,26,27,28,29,30,31,32,33] .leaf))) (.cut [] [] [2,34,35,36,37,38,39,40,41,42,43,44,45,46,47,48,49,50,51,52,53,54,55,56,57,58,59,60,61,62,63,64,65,66,67,68,69,70,71,72,73,74,75,76] .leaf (.seq (.seq .leaf (.block (.loop [5] [(.int .i64)] [2,5,77,78,79,80,81,82,83,84,85,86,87,88,89,90,91,92,93,94,95,96,97,98,99,100] .leaf))) .leaf)))))
theorem call62 (d:Int) (e:ByteArray) (f:Int) (g:Int) (i:Int) (j:Int) (k:Nat) (l:ByteArray) (m:Int) (c:Sl) (b:Sl) (K:Value→World→Prop) (w:World) (h:B62 d e f g i j k l m c b K w):Gets Tryz.prog 62 #[.agg #[.int .i64 d,.string e,.int .i64 f,.int .i64 g,.int .i64 i,.int .i64 j,.float .f64 k,.string l,.int .i64 m,.slice c.a c.len c.cap,.slice b.a b.len b.cap]] w K:=cq (sk:=sk62) Tryz.func62 (by kernel_rfl) (by kernel_rfl) (by kernel_rfl) h
def B71 (i:Sl) (K:Value→World→Prop) (w:World):Prop:=
 ∃ (g:Sl→Int→World→Prop) (l:Sl→Int→World→Nat),(g ⟨none,0,0⟩ 0 w)∧∀ (q:Env) (b:Sl) (c:Int) (f:World),g b c f→
 Br (decide (c<(↑i.len:Int)))
 (Rng c i.len (NilP i.a fun m=>
 ∃ j:Int,(At (fun o=>o=f) (Addr.add m c.toNat) [.int .i64 j])∧
 Calls Tryz.prog 88 #[.int .u64 (IntKind.u64.wrap (if 0>j then 0 else j))] f fun n p=>
 ∃ d:Sl,(n=.returned (.slice d.a d.len d.cap))∧
 ∃ k:World,∃ e:Sl,((Builtin.append_ #[42,42] 42 #[.slice b.a b.len b.cap,.slice d.a d.len d.cap]).run Tryz.prog p=.ok (.slice e.a e.len e.cap) k)∧
 (g e (IntKind.i64.wrap (c + 1)) k)∧l e (IntKind.i64.wrap (c + 1)) k<l b c f))
 (K (.slice b.a b.len b.cap) f)
def sk71:Sk:=(.seq .leaf (.seq .leaf (.seq (.seq .leaf (.block (.loop [3,4] [.sl,(.int .i64)] [3,4,5,6,7,8,9,10,11,12,13,14,15,16,17,18,19] .leaf))) .leaf)))
theorem call71 (b:Sl) (K:Value→World→Prop) (w:World) (h:B71 b K w):Gets Tryz.prog 71 #[.slice b.a b.len b.cap] w K:=cq (sk:=sk71) Tryz.func71 (by kernel_rfl) (by kernel_rfl) (by kernel_rfl) h
def B30 (a8:Int) (a9:ByteArray) (ba:Int) (bb:Int) (bc:Int) (bd:Int) (be:Nat) (bf:ByteArray) (bg:Int) (O:Sl) (N:Sl) (K:Value→World→Prop) (w:World):Prop:=
 New (.cells #[.int .i64 a8,.string a9,.int .i64 ba,.int .i64 bb,.int .i64 bc,.int .i64 bd,.float .f64 be,.string bf,.int .i64 bg,.slice O.a O.len O.cap,.slice N.a N.len N.cap] 38 (0,0)) (fun c ax=>
 ∃ aj:Int,∃ ak:ByteArray,∃ al:Int,∃ am:Int,∃ an:Int,∃ ao:Int,∃ ap:Nat,∃ aq:ByteArray,∃ ar:Int,∃ A:Sl,∃ z:Sl,(At (fun b=>b=ax) ⟨c,0,none⟩ [.int .i64 aj,.string ak,.int .i64 al,.int .i64 am,.int .i64 an,.int .i64 ao,.float .f64 ap,.string aq,.int .i64 ar,.slice A.a A.len A.cap,.slice z.a z.len z.cap])∧
 Calls Tryz.prog 62 #[.agg #[.int .i64 aj,.string ak,.int .i64 al,.int .i64 am,.int .i64 an,.int .i64 ao,.float .f64 ap,.string aq,.int .i64 ar,.slice A.a A.len A.cap,.slice z.a z.len z.cap]] ax fun bh V=>
 ∃ au:Bool,(bh=.returned (.bool au))∧
 Br (!au)
 (K (.tuple #[.slice none 0 0,.int .i64 1]) V)
 (∃ Z:Int,(At (fun b=>b=V) ⟨c,0,none⟩ [.int .i64 Z])∧
 New (.cells #[.int .i64 Z] 3 (0,0)) (fun a4 b4=>
 Calls Tryz.prog 71 #[.slice ((some ⟨a4,0,none⟩)) 1 1] b4 fun bi a0=>
 ∃ g:Sl,(bi=.returned (.slice g.a g.len g.cap))∧
 ∃ aa:ByteArray,(At (fun b=>b=a0) ⟨c,0 + 1,none⟩ [.string aa])∧
 ∃ a1:World,∃ i:Sl,((convert 9 42 (.string aa)).run Tryz.prog a0=.ok (.slice i.a i.len i.cap) a1)∧
 Calls Tryz.prog 72 #[.slice i.a i.len i.cap] a1 fun bl b5=>
 ∃ j:Sl,(bl=.returned (.slice j.a j.len j.cap))∧
 ∃ D:World,∃ k:Sl,((Builtin.append_ #[42,42] 42 #[.slice g.a g.len g.cap,.slice j.a j.len j.cap]).run Tryz.prog b5=.ok (.slice k.a k.len k.cap) D)∧
 ∃ ab:Int,(At (fun b=>b=D) ⟨c,0 + 2,none⟩ [.int .i64 ab])∧
 ∃ ac:Int,(At (fun b=>b=D) ⟨c,0 + 3,none⟩ [.int .i64 ac])∧
 ∃ ad:Int,(At (fun b=>b=D) ⟨c,0 + 4,none⟩ [.int .i64 ad])∧
 ∃ ae:Int,(At (fun b=>b=D) ⟨c,0 + 5,none⟩ [.int .i64 ae])∧
 New (.cells #[.int .i64 ab,.int .i64 ac,.int .i64 ad,.int .i64 ae] 3 (0,0)) (fun a5 b6=>
 Calls Tryz.prog 71 #[.slice ((some ⟨a5,0,none⟩)) 4 4] b6 fun bm b7=>
 ∃ l:Sl,(bm=.returned (.slice l.a l.len l.cap))∧
 ∃ Q:World,∃ m:Sl,((Builtin.append_ #[42,42] 42 #[.slice k.a k.len k.cap,.slice l.a l.len l.cap]).run Tryz.prog b7=.ok (.slice m.a m.len m.cap) Q)∧
 ∃ af:Nat,(At (fun b=>b=Q) ⟨c,0 + 6,none⟩ [.float .f64 af])∧
 Calls Tryz.prog 89 #[.float .f64 af] Q fun bn bt=>
 ∃ ag:Int,(bn=.returned (.int .u64 ag))∧
 Calls Tryz.prog 88 #[.int .u64 ag] bt fun bo bu=>
 ∃ n:Sl,(bo=.returned (.slice n.a n.len n.cap))∧
 ∃ T:World,∃ o:Sl,((Builtin.append_ #[42,42] 42 #[.slice m.a m.len m.cap,.slice n.a n.len n.cap]).run Tryz.prog bu=.ok (.slice o.a o.len o.cap) T)∧
 ∃ ah:ByteArray,(At (fun b=>b=T) ⟨c,0 + 7,none⟩ [.string ah])∧
 ∃ ay:World,∃ p:Sl,((convert 9 42 (.string ah)).run Tryz.prog T=.ok (.slice p.a p.len p.cap) ay)∧
 Calls Tryz.prog 72 #[.slice p.a p.len p.cap] ay fun bp bv=>
 ∃ q:Sl,(bp=.returned (.slice q.a q.len q.cap))∧
 ∃ L:World,∃ r:Sl,((Builtin.append_ #[42,42] 42 #[.slice o.a o.len o.cap,.slice q.a q.len q.cap]).run Tryz.prog bv=.ok (.slice r.a r.len r.cap) L)∧
 ∃ ai:Int,(At (fun b=>b=L) ⟨c,0 + 8,none⟩ [.int .i64 ai])∧
 ∃ G:Sl,(At (fun b=>b=L) ⟨c,0 + 8 + 1,none⟩ [.slice G.a G.len G.cap])∧
 New (.cells #[.int .i64 ai,.int .i64 ((↑G.len:Int))] 3 (0,0)) (fun a6 bw=>
 Calls Tryz.prog 71 #[.slice ((some ⟨a6,0,none⟩)) 2 2] bw fun bq bx=>
 ∃ s:Sl,(bq=.returned (.slice s.a s.len s.cap))∧
 ∃ U:World,∃ t:Sl,((Builtin.append_ #[42,42] 42 #[.slice r.a r.len r.cap,.slice s.a s.len s.cap]).run Tryz.prog bx=.ok (.slice t.a t.len t.cap) U)∧
 ∃ u:Sl,(At (fun b=>b=U) ⟨c,0 + 8 + 1,none⟩ [.slice u.a u.len u.cap])∧
 Calls Tryz.prog 71 #[.slice u.a u.len u.cap] U fun br bz=>
 ∃ v:Sl,(br=.returned (.slice v.a v.len v.cap))∧
 ∃ X:World,∃ x:Sl,((Builtin.append_ #[42,42] 42 #[.slice t.a t.len t.cap,.slice v.a v.len v.cap]).run Tryz.prog bz=.ok (.slice x.a x.len x.cap) X)∧
 ∃ H:Sl,(At (fun b=>b=X) ⟨c,0 + 10,none⟩ [.slice H.a H.len H.cap])∧
 New (.cells #[.int .i64 ((↑H.len:Int))] 3 (0,0)) (fun a7 b0=>
 Calls Tryz.prog 71 #[.slice ((some ⟨a7,0,none⟩)) 1 1] b0 fun bs b1=>
 ∃ y:Sl,(bs=.returned (.slice y.a y.len y.cap))∧
 ∃ az:World,∃ I:Sl,((Builtin.append_ #[42,42] 42 #[.slice x.a x.len x.cap,.slice y.a y.len y.cap]).run Tryz.prog b1=.ok (.slice I.a I.len I.cap) az)∧
 ∃ (M:Sl→Int→World→Prop) (a2:Sl→Int→World→Nat),(M I 0 az)∧∀ (b8:Env) (d:Sl) (e:Int) (f:World),M d e f→
 ∃ J:Sl,(At (fun b=>b=f) ⟨c,0 + 10,none⟩ [.slice J.a J.len J.cap])∧
 Br (decide (e<(↑J.len:Int)))
 (∃ E:Sl,(At (fun b=>b=f) ⟨c,0 + 10,none⟩ [.slice E.a E.len E.cap])∧
 Rng e E.len (NilP E.a fun a3=>
 ∃ av:Nat,(At (fun b=>b=f) (Addr.add a3 e.toNat) [.float .f64 av])∧
 Calls Tryz.prog 89 #[.float .f64 av] f fun bj b2=>
 ∃ aw:Int,(bj=.returned (.int .u64 aw))∧
 Calls Tryz.prog 88 #[.int .u64 aw] b2 fun bk b3=>
 ∃ C:Sl,(bk=.returned (.slice C.a C.len C.cap))∧
 ∃ Y:World,∃ F:Sl,((Builtin.append_ #[42,42] 42 #[.slice d.a d.len d.cap,.slice C.a C.len C.cap]).run Tryz.prog b3=.ok (.slice F.a F.len F.cap) Y)∧
 (M F (IntKind.i64.wrap (e + 1)) Y)∧a2 F (IntKind.i64.wrap (e + 1)) Y<a2 d e f))
 (K (.tuple #[.slice d.a d.len d.cap,.int .i64 0]) f)) X) L) D) V)) w
def sk30:Sk:=(.seq .leaf (.seq .leaf (.seq .leaf (.seq .leaf (.seq .leaf (.seq .leaf (.seq .leaf (.seq .leaf (.seq .leaf (.seq .leaf (.seq .leaf (.seq (.seq .leaf (.block (.loop [5,6] [.sl,(.int .i64)] [5,6,69,70,71,72,73,74,75,76,77,78,79,80,81,82,83,84] .leaf))) .leaf))))))))))))
theorem call30 (d:Int) (e:ByteArray) (f:Int) (g:Int) (i:Int) (j:Int) (k:Nat) (l:ByteArray) (m:Int) (c:Sl) (b:Sl) (K:Value→World→Prop) (w:World) (h:B30 d e f g i j k l m c b K w):Gets Tryz.prog 30 #[.agg #[.int .i64 d,.string e,.int .i64 f,.int .i64 g,.int .i64 i,.int .i64 j,.float .f64 k,.string l,.int .i64 m,.slice c.a c.len c.cap,.slice b.a b.len b.cap]] w K:=cq (sk:=sk30) Tryz.func30 (by kernel_rfl) (by kernel_rfl) (by kernel_rfl) h
def B20 (I:Int) (J:ByteArray) (L:Int) (M:Int) (N:Int) (O:Int) (Q:Int) (k:Sl) (l:Sl) (T:Int) (U:ByteArray) (V:Int) (X:Int) (Y:Int) (Z:Int) (aa:Int) (m:Sl) (n:Sl) (K:Value→World→Prop) (w:World):Prop:=
 New (.cells #[.int .i64 I,.string J,.int .i64 L,.int .i64 M,.int .i64 N,.int .i64 O,.int .i64 Q,.slice k.a k.len k.cap,.slice l.a l.len l.cap] 31 (0,0)) (fun d ad=>
 New (.cells #[.int .i64 T,.string U,.int .i64 V,.int .i64 X,.int .i64 Y,.int .i64 Z,.int .i64 aa,.slice m.a m.len m.cap,.slice n.a n.len n.cap] 31 (0,0)) (fun e o=>
 ∃ j:Sl,(At (fun b=>b=o) ⟨d,0 + 7,none⟩ [.slice j.a j.len j.cap])∧
 ∃ f:Sl,(At (fun b=>b=o) ⟨e,0 + 7,none⟩ [.slice f.a f.len f.cap])∧
 Calls Tryz.prog 60 #[.slice j.a j.len j.cap,.slice f.a f.len f.cap] o fun ab p=>
 ∃ q:Bool,(ab=.returned (.bool q))∧
 ∃ g:Sl,(At (fun b=>b=p) ⟨d,0 + 8,none⟩ [.slice g.a g.len g.cap])∧
 ∃ i:Sl,(At (fun b=>b=p) ⟨e,0 + 8,none⟩ [.slice i.a i.len i.cap])∧
 Calls Tryz.prog 61 #[.slice g.a g.len g.cap,.slice i.a i.len i.cap] p fun ac c=>
 ∃ r:Bool,(ac=.returned (.bool r))∧
 ∃ s:Int,(At (fun b=>b=c) ⟨d,0,none⟩ [.int .i64 s])∧
 ∃ t:Int,(At (fun b=>b=c) ⟨e,0,none⟩ [.int .i64 t])∧
 Br (s==t)
 (∃ u:ByteArray,(At (fun b=>b=c) ⟨d,0 + 1,none⟩ [.string u])∧
 ∃ v:ByteArray,(At (fun b=>b=c) ⟨e,0 + 1,none⟩ [.string v])∧
 Br (u.toList==v.toList)
 (∃ x:Int,(At (fun b=>b=c) ⟨d,0 + 2,none⟩ [.int .i64 x])∧
 ∃ y:Int,(At (fun b=>b=c) ⟨e,0 + 2,none⟩ [.int .i64 y])∧
 Br (x==y)
 (∃ z:Int,(At (fun b=>b=c) ⟨d,0 + 3,none⟩ [.int .i64 z])∧
 ∃ A:Int,(At (fun b=>b=c) ⟨e,0 + 3,none⟩ [.int .i64 A])∧
 Br (z==A)
 (∃ C:Int,(At (fun b=>b=c) ⟨d,0 + 4,none⟩ [.int .i64 C])∧
 ∃ D:Int,(At (fun b=>b=c) ⟨e,0 + 4,none⟩ [.int .i64 D])∧
 Br (C==D)
 (∃ E:Int,(At (fun b=>b=c) ⟨d,0 + 5,none⟩ [.int .i64 E])∧
 ∃ F:Int,(At (fun b=>b=c) ⟨e,0 + 5,none⟩ [.int .i64 F])∧
 Br (E==F)
 (∃ G:Int,(At (fun b=>b=c) ⟨d,0 + 6,none⟩ [.int .i64 G])∧
 ∃ H:Int,(At (fun b=>b=c) ⟨e,0 + 6,none⟩ [.int .i64 H])∧
 Br (G==H)
 (Br q
 (K (.bool r) c)
 (K (.bool false) c))
 (K (.bool false) c))
 (K (.bool false) c))
 (K (.bool false) c))
 (K (.bool false) c))
 (K (.bool false) c))
 (K (.bool false) c))
 (K (.bool false) c)) ad) w
theorem call20 (f:Int) (g:ByteArray) (i:Int) (j:Int) (k:Int) (l:Int) (m:Int) (b:Sl) (c:Sl) (n:Int) (o:ByteArray) (p:Int) (q:Int) (r:Int) (s:Int) (t:Int) (d:Sl) (e:Sl) (K:Value→World→Prop) (w:World) (h:B20 f g i j k l m b c n o p q r s t d e K w):Gets Tryz.prog 20 #[.agg #[.int .i64 f,.string g,.int .i64 i,.int .i64 j,.int .i64 k,.int .i64 l,.int .i64 m,.slice b.a b.len b.cap,.slice c.a c.len c.cap],.agg #[.int .i64 n,.string o,.int .i64 p,.int .i64 q,.int .i64 r,.int .i64 s,.int .i64 t,.slice d.a d.len d.cap,.slice e.a e.len e.cap]] w K:=cq (sk:=.leaf) Tryz.func20 (by kernel_rfl) (by kernel_rfl) (by kernel_rfl) h
def B33 (Q:Int) (T:ByteArray) (U:Int) (V:Int) (X:Int) (Y:Int) (Z:Nat) (aa:ByteArray) (ab:Int) (l:Sl) (k:Sl) (ac:Int) (ad:ByteArray) (ae:Int) (af:Int) (ag:Int) (ah:Int) (ai:Nat) (aj:ByteArray) (ak:Int) (n:Sl) (m:Sl) (K:Value→World→Prop) (w:World):Prop:=
 New (.cells #[.int .i64 Q,.string T,.int .i64 U,.int .i64 V,.int .i64 X,.int .i64 Y,.float .f64 Z,.string aa,.int .i64 ab,.slice l.a l.len l.cap,.slice k.a k.len k.cap] 38 (0,0)) (fun al ap=>
 New (.cells #[.int .i64 ac,.string ad,.int .i64 ae,.int .i64 af,.int .i64 ag,.int .i64 ah,.float .f64 ai,.string aj,.int .i64 ak,.slice n.a n.len n.cap,.slice m.a m.len m.cap] 38 (0,0)) (fun am N=>
 ∃ o:Int,∃ p:ByteArray,∃ q:Int,∃ r:Int,∃ s:Int,∃ t:Int,∃ u:Nat,∃ v:ByteArray,∃ x:Int,∃ d:Sl,∃ c:Sl,(At (fun b=>b=N) ⟨al,0,none⟩ [.int .i64 o,.string p,.int .i64 q,.int .i64 r,.int .i64 s,.int .i64 t,.float .f64 u,.string v,.int .i64 x,.slice d.a d.len d.cap,.slice c.a c.len c.cap])∧
 Calls Tryz.prog 30 #[.agg #[.int .i64 o,.string p,.int .i64 q,.int .i64 r,.int .i64 s,.int .i64 t,.float .f64 u,.string v,.int .i64 x,.slice d.a d.len d.cap,.slice c.a c.len c.cap]] N fun an O=>
 ∃ e:Sl,∃ y:Int,(an=.returned (.tuple #[.slice e.a e.len e.cap,.int .i64 y]))∧
 ∃ z:Int,∃ A:ByteArray,∃ C:Int,∃ D:Int,∃ E:Int,∃ F:Int,∃ G:Nat,∃ H:ByteArray,∃ I:Int,∃ g:Sl,∃ f:Sl,(At (fun b=>b=O) ⟨am,0,none⟩ [.int .i64 z,.string A,.int .i64 C,.int .i64 D,.int .i64 E,.int .i64 F,.float .f64 G,.string H,.int .i64 I,.slice g.a g.len g.cap,.slice f.a f.len f.cap])∧
 Calls Tryz.prog 30 #[.agg #[.int .i64 z,.string A,.int .i64 C,.int .i64 D,.int .i64 E,.int .i64 F,.float .f64 G,.string H,.int .i64 I,.slice g.a g.len g.cap,.slice f.a f.len f.cap]] O fun ao j=>
 ∃ i:Sl,∃ J:Int,(ao=.returned (.tuple #[.slice i.a i.len i.cap,.int .i64 J]))∧
 Br (y==J)
 (∃ L:ByteArray,(∀ b,(fun b=>b=j) b→((convert 42 9 (.slice e.a e.len e.cap))).run Tryz.prog b=.ok (.string L) b)∧
 ∃ M:ByteArray,(∀ b,(fun b=>b=j) b→((convert 42 9 (.slice i.a i.len i.cap))).run Tryz.prog b=.ok (.string M) b)∧
 K (.bool (L.toList==M.toList)) j)
 (K (.bool false) j)) ap) w
theorem call33 (f:Int) (g:ByteArray) (i:Int) (j:Int) (k:Int) (l:Int) (m:Nat) (n:ByteArray) (o:Int) (c:Sl) (b:Sl) (p:Int) (q:ByteArray) (r:Int) (s:Int) (t:Int) (u:Int) (v:Nat) (x:ByteArray) (y:Int) (e:Sl) (d:Sl) (K:Value→World→Prop) (w:World) (h:B33 f g i j k l m n o c b p q r s t u v x y e d K w):Gets Tryz.prog 33 #[.agg #[.int .i64 f,.string g,.int .i64 i,.int .i64 j,.int .i64 k,.int .i64 l,.float .f64 m,.string n,.int .i64 o,.slice c.a c.len c.cap,.slice b.a b.len b.cap],.agg #[.int .i64 p,.string q,.int .i64 r,.int .i64 s,.int .i64 t,.int .i64 u,.float .f64 v,.string x,.int .i64 y,.slice e.a e.len e.cap,.slice d.a d.len d.cap]] w K:=cq (sk:=.leaf) Tryz.func33 (by kernel_rfl) (by kernel_rfl) (by kernel_rfl) h
end Go.Proofs.YtfgbbckfikiomaaGreatDoor
/- Words of 64 bits: the highest bit. No condition. -/
namespace Go.VC
set_option linter.unusedVariables false
theorem and_top {x:Nat} (h:x<18446744073709551616):x &&& 9223372036854775808=if x<9223372036854775808 then 0 else 9223372036854775808:=by
 have e:(9223372036854775808:Nat)=2 ^ 63:=by decide
 apply Nat.eq_of_testBit_eq
 intro i
 rw [Nat.testBit_and]
 by_cases hi:63=i
 ·subst hi
  have h1:x.testBit 63=decide (¬ x<9223372036854775808):=by
   rw [Nat.testBit_eq_decide_div_mod_eq,←e]
   exact decide_eq_decide.2 (by omega)
  have h2:Nat.testBit 9223372036854775808 63=true:=by rw [e,Nat.testBit_two_pow];simp
  rw [h1,h2]
  split
  ·rw [decide_eq_false (by omega)];simp
  ·rw [decide_eq_true (by assumption)];simp [h2]
 ·have h2:Nat.testBit 9223372036854775808 i=false:=by rw [e,Nat.testBit_two_pow];simp [hi]
  rw [h2]
  split<;>simp [h2]
theorem or_top {x:Nat} (h:x<9223372036854775808):x|||9223372036854775808=x + 9223372036854775808:=by
 have:=Nat.two_pow_add_eq_or_of_lt (i:=63) (b:=x) (by simpa using h) 1
 rw [Nat.or_comm]
 simp only [Nat.mul_one] at this
 have e:(2:Nat) ^ 63=9223372036854775808:=by decide
 rw [e] at this
 omega
theorem not_u64 {x:Nat} (h:x<18446744073709551616):IntKind.u64.wrap ((BitVec.ofInt IntKind.u64.bits (if IntKind.u64.signed=true then -1 else IntKind.u64.max) ^^^ BitVec.ofInt IntKind.u64.bits (x:Int)).toNat:Int)=((18446744073709551615 - x:Nat):Int):=by
 have e1:BitVec.ofInt IntKind.u64.bits (if IntKind.u64.signed=true then -1 else IntKind.u64.max)=BitVec.allOnes 64:=by
  show BitVec.ofInt 64 18446744073709551615=BitVec.allOnes 64
  decide
 have e2:(BitVec.ofInt 64 (x:Int)).toNat=x:=bv_toNat 64 x (by simpa using h)
 rw [e1]
 show IntKind.u64.wrap (((BitVec.allOnes 64 ^^^ BitVec.ofInt 64 (x:Int)).toNat:Nat):Int)=_
 rw [BitVec.xor_comm,BitVec.xor_allOnes,BitVec.toNat_not,e2]
 have e3:(2:Nat) ^ 64 - 1 - x=18446744073709551615 - x:=by
  have:(2:Nat) ^ 64=18446744073709551616:=by decide
  rw [this]
 rw [e3]
 exact wrapU64 (by omega) (by omega)
theorem andnot_top {k:Nat} (h:k<18446744073709551616) (h1:9223372036854775808≤k):bitI .andNot .u64 (k:Int) 9223372036854775808=((k - 9223372036854775808:Nat):Int):=by
 have e1:(BitVec.ofInt 64 (k:Int)).toNat=k:=bv_toNat 64 k (by simpa using h)
 have e2:(BitVec.ofInt 64 9223372036854775808).toNat=9223372036854775808:=by decide
 have e3:(BitVec.ofInt 64 (k:Int) &&& ~~~ BitVec.ofInt 64 9223372036854775808).toNat=k - 9223372036854775808:=by
  rw [BitVec.toNat_and,BitVec.toNat_not,e1,e2]
  have e4:(2:Nat) ^ 64 - 1 - 9223372036854775808=2 ^ 63 - 1:=by decide
  rw [e4,Nat.and_two_pow_sub_one_eq_mod]
  have e5:(2:Nat) ^ 63=9223372036854775808:=by decide
  rw [e5]
  omega
 show IntKind.u64.wrap (((BitVec.ofInt 64 (k:Int) &&& ~~~ BitVec.ofInt 64 9223372036854775808).toNat:Nat):Int)=_
 rw [e3]
 exact wrapU64 (by omega) (by omega)
end Go.VC
/- Packages fare, cmp: floats in order, their places. Condition: words. -/
namespace Go.Proofs.YtfgbbckfikiomaaGreatDoor
set_option linter.unusedVariables false
open Go Go.VC Ieee
variable {R:Cx} {Hs Rest:List HP} {w:World}
theorem fb_name : (Tryz.f149.name == "runtime.NumGoroutine") = false := by kernel_rfl
theorem fb_body:Tryz.f149.body.isNone=true:=by kernel_rfl
theorem fb_next:Extern.findNext Tryz.f149=none:=by kernel_rfl
theorem fb_find:Extern.find Tryz.f149=some Extern.MathFloatBits.float64bits:=by kernel_rfl
theorem ff_name : (Tryz.f151.name == "runtime.NumGoroutine") = false := by kernel_rfl
theorem ff_body:Tryz.f151.body.isNone=true:=by kernel_rfl
theorem ff_next:Extern.findNext Tryz.f151=none:=by kernel_rfl
theorem ff_find:Extern.find Tryz.f151=some Extern.MathFloatBits.float64frombits:=by kernel_rfl
theorem bits_run (x:Nat) (w:World):(callFunc 149 #[.float .f64 x]).run Tryz.prog w=.ok (.value (.int .u64 x)) w:=by
 rw [run_callFunc_extern Tryz.func149 fb_name fb_body fb_next fb_find]
 rfl
theorem from_run (n:Nat) (w:World):(callFunc 151 #[.int .u64 n]).run Tryz.prog w=.ok (.value (.float .f64 n)) w:=by
 rw [run_callFunc_extern Tryz.func151 ff_name ff_body ff_next ff_find]
 rfl
theorem key_spec {x:Nat} (hx:x<18446744073709551616) (hw:Sat R Hs w):Gets Tryz.prog 127 #[.float .f64 x] w fun v w'=>v=.int .u64 (keyF x:Nat)∧Sat R Hs w':=by
 apply call127
 refine ⟨_,w,bits_run x w,_,rfl,?_⟩
 have e1:bitI BinOp.and IntKind.u64 (x:Int) 9223372036854775808=((x &&& 9223372036854775808:Nat):Int):=andU64 (y:=9223372036854775808) hx (by decide)
 have e2:bitI BinOp.or IntKind.u64 (x:Int) 9223372036854775808=((x|||9223372036854775808:Nat):Int):=orU64 (y:=9223372036854775808) hx (by decide)
 rw [e1,e2,and_top hx]
 refine Br.mk (fun h=>⟨?_,hw⟩) (fun h=>⟨?_,hw⟩)
 ·rw [not_u64 hx]
  unfold keyF
  split at h
  ·simp at h
  ·rename_i h1;rw [if_neg h1]
 ·split at h
  ·rename_i h1
   rw [or_top h1]
   unfold keyF
   rw [if_pos h1]
  ·simp at h
theorem of_spec {k:Nat} (hk:k<18446744073709551616) (hw:Sat R Hs w):Gets Tryz.prog 150 #[.int .u64 k] w fun v w'=>v=.float .f64 (ofF k)∧Sat R Hs w':=by
 apply call150
 have e1:bitI BinOp.and IntKind.u64 (k:Int) 9223372036854775808=((k &&& 9223372036854775808:Nat):Int):=andU64 (y:=9223372036854775808) hk (by decide)
 unfold B150
 rw [e1,and_top hk]
 refine Br.mk (fun h=>?_) (fun h=>?_)
 ·rw [not_u64 hk]
  refine ⟨_,w,from_run _ w,_,rfl,?_,hw⟩
  unfold ofF
  split at h
  ·rename_i h1;rw [if_neg (by omega)]
  ·simp at h
 ·have h1:¬ k<9223372036854775808:=by
   intro h1
   rw [if_pos h1] at h
   simp at h
  have e2:=andnot_top hk (by omega)
  rw [e2]
  refine ⟨_,w,from_run _ w,_,rfl,?_,hw⟩
  unfold ofF
  rw [if_pos (by omega)]
theorem cmpF_lt (t1 t2:Operand) (T:TypeId) (x y:Nat) (w:World):((do eqGuard BinOp.lss T t1 t2 (.float .f64 x) (.float .f64 y);binOp BinOp.lss T (.float .f64 x) (.float .f64 y):Sem Value)).run Tryz.prog w=.ok (.bool (double.order x y==some .lt)) w:=by
 simp [eqGuard,binOp,Op.floatCmp,FloatKind.format]
theorem nan_spec {x:Nat} (hw:Sat R Hs w):Gets Tryz.prog 273 #[.float .f64 x] w fun v w'=>v=.bool (nanF x)∧Sat R Hs w':=by
 apply call273
 refine ⟨_,fun w' _=>cmp_ne _ _ _ _ _ w',?_,hw⟩
 have h:=ord_self x
 rw [bne,h,Bool.not_not]
theorem compareF_spec {x y:Nat} (hw:Sat R Hs w):Gets Tryz.prog 258 #[.float .f64 x,.float .f64 y] w fun v w'=>v=.int .i64 (rankF x y)∧Sat R Hs w':=by
 apply call258
 refine (nan_spec hw).use ?_
 clear hw
 rintro _ w ⟨rfl,hw⟩
 refine ⟨_,rfl,?_⟩
 refine (nan_spec hw).use ?_
 clear hw
 rintro _ w ⟨rfl,hw⟩
 refine ⟨_,rfl,?_⟩
 unfold rankF
 refine Br.mk (fun hx=>?_) (fun hx=>?_)
 ·refine Br.mk (fun hy=>⟨?_,hw⟩) (fun hy=>⟨?_,hw⟩)
  ·rw [kv_nan hx,kv_nan hy,if_neg (by omega),if_pos rfl]
  ·have:=kv_bd hy
   rw [kv_nan hx,if_pos (by omega)]
 ·refine Br.mk (fun hy=>⟨?_,hw⟩) (fun hy=>?_)
  ·have:=kv_bd hx
   rw [kv_nan hy,if_neg (by omega),if_neg (by omega)]
  ·obtain ⟨o1,o2,o3⟩:=ord_lt hx hy
   refine ⟨_,fun w' _=>cmpF_lt _ _ _ _ _ w',?_⟩
   rw [o1]
   refine Br.d (fun h=>⟨by rw [if_pos h],hw⟩) (fun h=>?_)
   refine ⟨_,fun w' _=>cmp_gt _ _ _ _ _ w',?_⟩
   rw [o3]
   refine Br.d (fun h2=>⟨by rw [if_neg h,if_neg (by omega)],hw⟩) (fun h2=>⟨by rw [if_neg h,if_pos (by omega)],hw⟩)
theorem rank_spec {x y:Nat} (hw:Sat R Hs w):Gets Tryz.prog 221 #[.float .f64 x,.float .f64 y] w fun v w'=>v=.int .i64 (rankF x y)∧Sat R Hs w':=by
 apply call221
 refine (compareF_spec hw).use ?_
 rintro _ w ⟨rfl,hw⟩
 exact ⟨_,rfl,rfl,hw⟩
def cmpI (x y:Int):Int:=if x<y then -1 else if y<x then 1 else 0
theorem compareI_spec {x y:Int} (hw:Sat R Hs w):Gets Tryz.prog 222 #[.int .i64 x,.int .i64 y] w fun v w'=>v=.int .i64 (cmpI x y)∧Sat R Hs w':=by
 apply call222
 have nan:∀ {z:Int} {w:World},Sat R Hs w→Gets Tryz.prog 259 #[.int .i64 z] w fun v w'=>v=.bool false∧Sat R Hs w':=fun {z w} hw=>by
  apply call259
  exact ⟨by simp,hw⟩
 refine (nan hw).use ?_
 clear hw
 rintro _ w ⟨rfl,hw⟩
 refine ⟨_,rfl,?_⟩
 refine (nan hw).use ?_
 clear hw
 rintro _ w ⟨rfl,hw⟩
 refine ⟨_,rfl,Br.f rfl (Br.f rfl ?_)⟩
 unfold cmpI
 refine Br.d (fun h=>⟨by rw [if_pos h],hw⟩) (fun h=>Br.d (fun h2=>⟨by rw [if_neg h,if_pos (by omega)],hw⟩) (fun h2=>⟨by rw [if_neg h,if_neg (by omega)],hw⟩))
theorem rkey_spec {x:Nat} (hx:x<18446744073709551616) (hw:Sat R Hs w):Gets Tryz.prog 89 #[.float .f64 x] w fun v w'=>v=.int .u64 (keyF x:Nat)∧Sat R Hs w':=by
 apply call89
 refine ⟨_,w,bits_run x w,_,rfl,?_⟩
 unfold keyF
 with_reducible refine Br.d (fun h=>?_) (fun h=>?_)
 ·refine ⟨?_,hw⟩
  have e1:IntKind.u64.wrap ((x:Int) + 9223372036854775808)=((x + 9223372036854775808:Nat):Int):=by rw [wrapU64 (by omega) (by omega)];omega
  have h1:x<9223372036854775808:=by omega
  rw [if_pos h1]
  exact congrArg (Value.int .u64) e1
 ·refine ⟨?_,hw⟩
  have e1:IntKind.u64.wrap (18446744073709551615 - (x:Int))=((18446744073709551615 - x:Nat):Int):=by rw [wrapU64 (by omega) (by omega)];omega
  have h1:¬ x<9223372036854775808:=by omega
  rw [if_neg h1]
  exact congrArg (Value.int .u64) e1
end Go.Proofs.YtfgbbckfikiomaaGreatDoor
/- Package booking: a writer. Condition: bounds on lengths. -/
namespace Go.Proofs.YtfgbbckfikiomaaGreatDoor
set_option linter.unusedVariables false
open Go Go.VC
variable {R:Cx} {Hs Rest:List HP} {w:World}
abbrev wrp (p:Nat) (s:Sl):HP:=pts p (.cells [.slice s.a s.len s.cap].toArray 93 (0,0))
def WrB (p:Nat) (bs:List Int):HP:=exs fun s:Sl=>Star [wrp p s,Own s 5 (b8 bs)]
theorem Sat.wrB {p:Nat} {bs:List Int}:Sat R (WrB p bs::Hs) w↔∃ s:Sl,Sat R (wrp p s::Own s 5 (b8 bs)::Hs) w:=by
 unfold WrB
 rw [Sat.exs]
 exact ⟨fun ⟨s,h⟩=>⟨s,Sat.star.1 h⟩,fun ⟨s,h⟩=>⟨s,Sat.star.2 h⟩⟩
theorem nn_bd {n:Int} (h:n<9223372036854775808):0≤nn n∧nn n<9223372036854775808:=by unfold nn;omega
theorem nn_if (n:Int):(if 0>n then 0 else n)=nn n:=by unfold nn;split<;>omega
theorem wnums_spec {p:Nat} {s:Sl} {xs bs:List Int} (hxs:∀ x∈xs,x<9223372036854775808) (hl:bs.length + 9 * xs.length≤1099511627776) (hs:RoI R s xs) (hw:Sat R (WrB p bs::Hs) w):
  Gets Tryz.prog 49 #[.pointer (some ⟨p,0,none⟩),.slice s.a s.len s.cap] w fun v w'=>v=.tuple #[]∧Sat R (WrB p (bs++numsB (xs.map nn))::Hs) w':=by
 have hlen:=hs.len
 apply call49
 refine ⟨fun i w=>∃ k:Nat,i=k∧k≤xs.length∧Sat R (WrB p (bs++numsB ((xs.take k).map nn))::Hs) w,fun i _=>xs.length - i.toNat,⟨0,rfl,by omega,by simpa [numsB] using hw⟩,?_⟩
 clear hw
 rintro _ _ w ⟨k,rfl,hk,hw⟩
 refine Br.d (fun h=>?_) (fun h=>?_)
 ·have hkx:k<xs.length:=by omega
  have hx:=nn_bd (hxs xs[k] (List.getElem_mem _))
  have hxt:∀ x∈(xs.take k).map nn,0≤x∧x<18446744073709551616:=fun x hx=>by
   obtain ⟨y,hy,rfl⟩:=List.mem_map.1 hx
   have:=nn_bd (hxs y (List.mem_of_mem_take hy));omega
  have hnl:=numsB_len hxt
  rw [List.length_map,List.length_take] at hnl
  refine Ro.ix hs (eqS hw) k rfl hkx ?_
  obtain ⟨s0,hw⟩:=Sat.wrB.1 hw
  refine drw_ruleT hw fun w hw=>?_
  refine NilP.mk rfl ⟨s0,At.own selfS (by exact ⟨rfl,trivial⟩),?_⟩
  rw [nn_if]
  obtain ⟨n,hn⟩:=Int.eq_ofNat_of_zero_le hx.1
  rw [hn,wrapU64 (by omega) (by omega)]
  refine (number_spec (by omega) hw).use ?_
  rintro _ w ⟨t,rfl,hw⟩
  refine ⟨t,rfl,hw.absorb,?_⟩
  have hw:Sat R (Own s0 5 (b8 (bs++numsB ((xs.take k).map nn)))::Own t 5 (b8 (numB n))::wrp p s0::VC.tru::Hs) w:=hw.arr
  have hnb:=numB_len (n:=n) (by omega)
  refine appendOO elB8 (s:=s0) (n:=1099511627790) Tryz.underlying42 hw (by rw [List.length_append];omega) (by omega) (by omega) fun s2 w hw=>?_
  have hw:Sat R (wrp p s0::Own s2 5 (b8 (bs++numsB ((xs.take k).map nn)++numB n))::Hs) w:=by
   have h:Sat R (Own t 5 (b8 (numB n))::VC.tru::wrp p s0::Own s2 5 (b8 (bs++numsB ((xs.take k).map nn)++numB n))::Hs) w:=hw.arr
   exact h.drop.drop
  refine NilP.mk rfl ?_
  refine store_rule hw (by kernel_rfl) rfl (by simp [Value.cells]) fun w hw=>?_
  have hw:=hw.re (wrp p s2)
  rw [wrap64 (by omega) (by omega)]
  refine ⟨⟨k + 1,by omega,by omega,Sat.wrB.2 ⟨s2,?_⟩⟩,by dsimp only;omega⟩
  have e:(xs.take (k + 1)).map nn=(xs.take k).map nn++[nn xs[k]]:=by rw [List.take_add_one,List.getElem?_eq_getElem hkx,List.map_append];rfl
  rw [e,numsB_app,show numsB [nn xs[k]]=numB (nn xs[k]).toNat by simp [numsB],hn,Int.toNat_natCast,←List.append_assoc]
  exact hw
 ·have:k=xs.length:=by omega
  subst this
  rw [List.take_length] at hw
  exact ⟨rfl,hw⟩
theorem wtext_spec {p:Nat} {s:Sl} {d bs:List Int} (hl:bs.length + d.length≤1099511627776) (hd:d.length≤1099511627776) (hs:Ro R s (b8 d)) (hw:Sat R (WrB p bs::Hs) w):
  Gets Tryz.prog 52 #[.pointer (some ⟨p,0,none⟩),.slice s.a s.len s.cap] w fun v w'=>v=.tuple #[]∧Sat R (WrB p (bs++textB d)::Hs) w':=by
 apply call52
 obtain ⟨s0,hw⟩:=Sat.wrB.1 hw
 refine drw_ruleT hw fun w hw=>?_
 refine NilP.mk rfl ⟨s0,At.own selfS (by exact ⟨rfl,trivial⟩),?_⟩
 refine (ftext_spec hs hd hw).use ?_
 rintro _ w ⟨t,rfl,hw⟩
 refine ⟨t,rfl,hw.absorb,?_⟩
 have hw:Sat R (Own s0 5 (b8 bs)::Own t 5 (b8 (textB d))::wrp p s0::VC.tru::Hs) w:=hw.arr
 have hnb:=numB_len (n:=d.length) (by omega)
 have htl:(textB d).length≤d.length + 9:=by unfold textB;rw [List.length_append];omega
 refine appendOO elB8 (s:=s0) (n:=1099511627800) Tryz.underlying42 hw (by omega) (by omega) (by omega) fun s2 w hw=>?_
 have hw:Sat R (wrp p s0::Own s2 5 (b8 (bs++textB d))::Hs) w:=by
  have h:Sat R (Own t 5 (b8 (textB d))::VC.tru::wrp p s0::Own s2 5 (b8 (bs++textB d))::Hs) w:=hw.arr
  exact h.drop.drop
 refine NilP.mk rfl ?_
 refine store_rule hw (by kernel_rfl) rfl (by simp [Value.cells]) fun w hw=>?_
 have hw:=hw.re (wrp p s2)
 exact ⟨rfl,Sat.wrB.2 ⟨s2,hw⟩⟩
theorem wfloat_spec {p x:Nat} {bs:List Int} (hl:bs.length≤1099511627776) (hx:x<18446744073709551616) (hw:Sat R (WrB p bs::Hs) w):
  Gets Tryz.prog 87 #[.pointer (some ⟨p,0,none⟩),.float .f64 x] w fun v w'=>v=.tuple #[]∧Sat R (WrB p (bs++fltB x)::Hs) w':=by
 apply call87
 obtain ⟨s0,hw⟩:=Sat.wrB.1 hw
 refine drw_ruleT hw fun w hw=>?_
 refine NilP.mk rfl ⟨s0,At.own selfS (by exact ⟨rfl,trivial⟩),?_⟩
 refine (key_spec hx hw).use ?_
 rintro _ w ⟨rfl,hw⟩
 refine ⟨_,rfl,hw,?_⟩
 refine (number_spec (key_lt hx) hw).use ?_
 rintro _ w ⟨t,rfl,hw⟩
 refine ⟨t,rfl,hw.absorb,?_⟩
 have hw:Sat R (Own s0 5 (b8 bs)::Own t 5 (b8 (numB (keyF x)))::wrp p s0::VC.tru::Hs) w:=hw.arr
 have hnb:(numB (keyF x)).length≤9:=fltB_len hx
 unfold fltB
 refine appendOO elB8 (s:=s0) (n:=1099511627800) Tryz.underlying42 hw (by omega) (by omega) (by omega) fun s2 w hw=>?_
 have hw:Sat R (wrp p s0::Own s2 5 (b8 (bs++numB (keyF x)))::Hs) w:=by
  have h:Sat R (Own t 5 (b8 (numB (keyF x)))::VC.tru::wrp p s0::Own s2 5 (b8 (bs++numB (keyF x)))::Hs) w:=hw.arr
  exact h.drop.drop
 refine NilP.mk rfl ?_
 refine store_rule hw (by kernel_rfl) rfl (by simp [Value.cells]) fun w hw=>?_
 have hw:=hw.re (wrp p s2)
 exact ⟨rfl,Sat.wrB.2 ⟨s2,hw⟩⟩
end Go.Proofs.YtfgbbckfikiomaaGreatDoor
/- Package booking: whether a command may be. Condition: bounds on lengths. -/
namespace Go.Proofs.YtfgbbckfikiomaaGreatDoor
set_option linter.unusedVariables false
open Go Go.VC
open Classical
variable {R:Cx} {Hs Rest:List HP} {w:World}
abbrev cmV (c:Cm) (sg sp:Sl):List Value:=[.int .i64 c.kind,.string c.pnr,.int .i64 c.flt,.int .i64 c.cls,.int .i64 c.many,.int .i64 c.time,.float .f64 c.sc,.string c.lab,.int .i64 c.rows,.slice sg.a sg.len sg.cap,.slice sp.a sp.len sp.cap]
abbrev cmC (b:Nat) (c:Cm) (sg sp:Sl):HP:=pts b (.cells (cmV c sg sp).toArray 38 (0,0))
theorem right_iff {c:Cm}:RightC c↔(∀ n∈[c.flt,c.cls,c.many,c.rows]++c.grps,numOk n)∧(c.pnr.size≤16∧c.lab.size≤16)∧(c.grps.length≤16∧c.parts.length≤16)∧1≤c.kind∧c.kind≤9∧0≤c.time∧c.time≤1099511627776:=by
 constructor
 ·intro h
  refine ⟨fun n hn=>?_,⟨h.pnr,h.lab⟩,⟨h.gl,h.pl⟩,h.kind.1,h.kind.2,h.time.1,h.time.2⟩
  simp only [List.cons_append,List.nil_append,List.mem_cons] at hn
  rcases hn with rfl|rfl|rfl|rfl|hn
  ·exact h.flt
  ·exact h.cls
  ·exact h.many
  ·exact h.rows
  ·exact h.grps n hn
 ·rintro ⟨h1,⟨h2,h3⟩,⟨h4,h5⟩,h6,h7,h8,h9⟩
  exact ⟨h1 _ (by simp),h1 _ (by simp),h1 _ (by simp),h1 _ (by simp),fun n hn=>h1 n (by simp [hn]),h2,h3,h4,h5,⟨h6,h7⟩,h8,h9⟩
theorem bodd_spec {n:Int}:Gets Tryz.prog 108 #[.int .i64 n] w fun v w'=>v=.bool (decide (n<0∨n>9999))∧w'=w:=by
 apply call108
 refine Br.d (fun h=>⟨by rw [decide_eq_true (by omega)],rfl⟩) (fun h=>⟨?_,rfl⟩)
 congr 1
 exact decide_eq_decide.2 (by omega)
set_option maxHeartbeats 400000 in
theorem bright_spec {c:Cm} {sg sp:Sl} (hg:RoI R sg c.grps) (hgl:c.grps.length≤17592186043904) (hp:sp.len=c.parts.length) (hw:Sat R Hs w):
  Gets Tryz.prog 41 #[.agg #[.int .i64 c.kind,.string c.pnr,.int .i64 c.flt,.int .i64 c.cls,.int .i64 c.many,.int .i64 c.time,.float .f64 c.sc,.string c.lab,.int .i64 c.rows,.slice sg.a sg.len sg.cap,.slice sp.a sp.len sp.cap]] w fun v w'=>v=.bool (decide (RightC c))∧Sat R Hs w':=by
 have hglen:=hg.len
 apply call41
 refine new_rule hw fun b w hw=>?_
 have hw:Sat R (cmC b c sg sp::Hs) w:=hw
 repeat (first|refine NilP.mk rfl ?_|refine ⟨_,At.own selfS (by exact ⟨rfl,trivial⟩),?_⟩|refine ⟨_,At.own (eqS hw) (by exact ⟨rfl,trivial⟩),?_⟩|refine ⟨_,(by rw [add_off];exact At.own selfS (by exact ⟨rfl,trivial⟩)),?_⟩|refine ⟨_,(by rw [add_off];exact At.own (eqS hw) (by exact ⟨rfl,trivial⟩)),?_⟩)
 refine new_rule hw fun b2 w hw=>?_
 have hw:Sat R (Own ⟨some ⟨b2,0,none⟩,4,4⟩ 3 (intsI [c.flt,c.cls,c.many,c.rows])::cmC b c sg sp::Hs) w:=own_lit hw
 refine ⟨sg,At.own (eqS hw) (by exact ⟨rfl,trivial⟩),?_⟩
 refine appendRI (n:=17592186044416) (s:=⟨some ⟨b2,0,none⟩,4,4⟩) (ty:=28) elI8 Tryz.underlying28 hw hg (by simp;omega) (by omega) (by omega) fun t w hw=>?_
 obtain ⟨L,hL⟩:∃ L,L=[c.flt,c.cls,c.many,c.rows]++c.grps:=⟨_,rfl⟩
 have hLl:L.length=4 + c.grps.length:=by rw [hL];simp;omega
 rw [←hL] at hw
 have htl:t.len=L.length:=by have:=Own.len hw;simpa using this
 refine ⟨fun i w=>∃ k:Nat,i=k∧k≤L.length∧(∀ n∈L.take k,numOk n)∧Sat R (Own t 3 (intsI L)::cmC b c sg sp::Hs) w,fun i _=>L.length - i.toNat,⟨0,rfl,by omega,by simp,hw⟩,?_⟩
 clear hw
 rintro _ _ w ⟨k,rfl,hk,hok,hw⟩
 have no:¬ RightC c→∀ {w},Sat R (Own t 3 (intsI L)::cmC b c sg sp::Hs) w→(Value.bool false=.bool (decide (RightC c))∧Sat R Hs w):=fun h w hw=>⟨by rw [decide_eq_false h],hw.drop.drop⟩
 refine Br.d (fun h=>?_) (fun h=>?_)
 ·have hkx:k<L.length:=by omega
  refine Own.ix hw (eqS hw) k rfl hkx ?_
  refine bodd_spec.use ?_
  rintro _ w2 ⟨rfl,rfl⟩
  refine ⟨_,rfl,Br.mk (fun h2=>no (fun hr=>?_) hw) (fun h2=>?_)⟩
  ·have h3:=(right_iff.1 hr).1 L[k] (by rw [←hL];exact List.getElem_mem hkx)
   have h4:=of_decide_eq_true h2
   unfold numOk at h3
   omega
  ·rw [wrap64 (by omega) (by omega)]
   refine ⟨⟨k + 1,by omega,by omega,fun n hn=>?_,hw⟩,by dsimp only;omega⟩
   rw [List.take_add_one,List.getElem?_eq_getElem hkx] at hn
   rcases List.mem_append.1 hn with hn|hn
   ·exact hok n hn
   ·rw [show n=L[k] by simpa using hn]
    have h4:=of_decide_eq_false h2
    unfold numOk
    omega
 ·have hall:∀ n∈L,numOk n:=by rw [List.take_of_length_le (by omega)] at hok;exact hok
  refine ⟨fun t6 w=>t6=decide (c.pnr.size≤16∧c.lab.size≤16)∧Sat R (Own t 3 (intsI L)::cmC b c sg sp::Hs) w,⟨c.pnr,At.own (eqS hw) (by exact ⟨rfl,trivial⟩),Br.d (fun h=>?_) (fun h=>?_)⟩,?_⟩
  ·refine ⟨c.lab,At.own (eqS hw) (by exact ⟨rfl,trivial⟩),?_,hw⟩
   exact decide_eq_decide.2 (by omega)
  ·exact ⟨by rw [decide_eq_false (by omega)],hw⟩
  clear hw
  rintro _ _ w ⟨rfl,hw⟩
  refine ⟨fun t7 w=>t7=decide (c.grps.length≤16∧c.parts.length≤16)∧Sat R (Own t 3 (intsI L)::cmC b c sg sp::Hs) w,⟨sg,At.own (eqS hw) (by exact ⟨rfl,trivial⟩),Br.d (fun h=>?_) (fun h=>?_)⟩,?_⟩
  ·refine ⟨sp,At.own (eqS hw) (by exact ⟨rfl,trivial⟩),?_,hw⟩
   exact decide_eq_decide.2 (by omega)
  ·exact ⟨by rw [decide_eq_false (by omega)],hw⟩
  clear hw
  rintro _ _ w ⟨rfl,hw⟩
  have no2:¬ RightC c→(Value.bool false=.bool (decide (RightC c))∧Sat R Hs w):=fun h=>no h hw
  refine Br.d (fun h1=>?_) (fun h1=>no2 fun hr=>h1 (right_iff.1 hr).2.1)
  refine Br.d (fun h2=>?_) (fun h2=>no2 fun hr=>h2 (right_iff.1 hr).2.2.1)
  refine ⟨c.kind,At.own (eqS hw) (by exact ⟨rfl,trivial⟩),Br.d (fun h3=>?_) (fun h3=>no2 fun hr=>h3 (right_iff.1 hr).2.2.2.1)⟩
  refine ⟨c.kind,At.own (eqS hw) (by exact ⟨rfl,trivial⟩),Br.d (fun h4=>?_) (fun h4=>no2 fun hr=>h4 (right_iff.1 hr).2.2.2.2.1)⟩
  refine ⟨c.time,At.own (eqS hw) (by exact ⟨rfl,trivial⟩),Br.d (fun h5=>?_) (fun h5=>no2 fun hr=>h5 (right_iff.1 hr).2.2.2.2.2.1)⟩
  refine ⟨c.time,At.own (eqS hw) (by exact ⟨rfl,trivial⟩),?_,hw.drop.drop⟩
  congr 1
  refine decide_eq_decide.2 ?_
  rw [right_iff,←hL]
  exact ⟨fun h6=>⟨hall,h1,h2,h3,h4,h5,h6⟩,fun h6=>h6.2.2.2.2.2.2⟩
end Go.Proofs.YtfgbbckfikiomaaGreatDoor
/- Package booking: a writer's steps, as Encode and Answer take them. Condition: bounds on lengths. -/
namespace Go.Proofs.YtfgbbckfikiomaaGreatDoor
set_option linter.unusedVariables false
open Go Go.VC
variable {R:Cx} {Hs Rest:List HP} {w:World}
theorem wlit_spec {p b n:Nat} {xs bs:List Int} (hn:n=xs.length) (hxs:∀ x∈xs,x<9223372036854775808) (hl:bs.length + 9 * xs.length≤1099511627776) (hw:Sat R (pts b (.cells (intsI xs).toArray 3 (0,0))::WrB p bs::Hs) w):
  Gets Tryz.prog 49 #[.pointer (some ⟨p,0,none⟩),.slice (some ⟨b,0,none⟩) n n] w fun v w'=>v=.tuple #[]∧Sat R (WrB p (bs++numsB (xs.map nn))::Hs) w':=by
 have hw:Sat R (Own ⟨some ⟨b,0,none⟩,n,n⟩ 3 (intsI xs)::WrB p bs::Hs) w:=own_lit hw (by rw [List.length_map];exact hn)
 obtain ⟨R',hr,_,hw,back⟩:=Own.lendI hw (by omega)
 refine (wnums_spec hxs hl hr hw).use ?_
 rintro _ w ⟨rfl,hw⟩
 exact ⟨_,rfl,rfl,(back hw).drop⟩
theorem wstr_rule {p:Nat} {s:ByteArray} {bs:List Int} {K:World→Prop} (hl:bs.length + s.size≤1099511627776) (hw:Sat R (WrB p bs::Hs) w) (k:∀ w',Sat R (WrB p (bs++strB s)::Hs) w'→K w'):
  ∃ w_1:World,∃ t:Sl,((convert 9 42 (.string s)).run Tryz.prog w=.ok (.slice t.a t.len t.cap) w_1)∧
   Calls Tryz.prog 52 #[.pointer (some ⟨p,0,none⟩),.slice t.a t.len t.cap] w_1 fun e w_2=>(e=.returned (.tuple #[]))∧K w_2:=by
 refine convB_rule Tryz.underlying9 Tryz.underlying42 Tryz.underlying5 hw fun t w hw=>?_
 have hsz:=bytesL_len s
 obtain ⟨R',hr,_,hw,back⟩:=Own.lend hw (by rw [List.length_map];omega)
 refine (wtext_spec (by omega) (by omega) hr hw).use ?_
 rintro _ w ⟨rfl,hw⟩
 exact ⟨rfl,k _ (back hw).drop⟩
end Go.Proofs.YtfgbbckfikiomaaGreatDoor
/- Package booking: Encode. Condition: bounds on lengths; words. -/
namespace Go.Proofs.YtfgbbckfikiomaaGreatDoor
set_option linter.unusedVariables false
open Go Go.VC
open Classical
variable {R:Cx} {Hs Rest:List HP} {w:World}
theorem strB_len {s:ByteArray} (h:s.size≤100000):(strB s).length≤s.size + 9:=by
 have:=textB_len (d:=bytesL s) (by rw [bytesL_len];omega)
 rw [bytesL_len] at this
 exact this
theorem numsB_sp (a:Int) (l:List Int):numsB (a::l)=numsB [a]++numsB l:=numsB_one a l
theorem nn4 {a b c d:Int} (h0:0≤a) (h1:0≤b) (h2:0≤c) (h3:0≤d):numsB ([a,b,c,d].map nn)=numsB [a]++(numsB [b]++(numsB [c]++numsB [d])):=by
 show numsB [nn a,nn b,nn c,nn d]=_
 rw [nn_id h0,nn_id h1,nn_id h2,nn_id h3,numsB_sp a,numsB_sp b,numsB_sp c]
theorem nn1 {a:Int} (h:0≤a):numsB ([a].map nn)=numsB [a]:=by
 show numsB [nn a]=_
 rw [nn_id h]
theorem wlist_spec {p:Nat} {s:Sl} {xs bs:List Int} (hxs:∀ x∈xs,x<9223372036854775808) (hx:xs.length≤100000) (hl:bs.length≤1000000) (hs:RoI R s xs) (hw:Sat R (WrB p bs::Hs) w):
  Gets Tryz.prog 75 #[.pointer (some ⟨p,0,none⟩),.slice s.a s.len s.cap] w fun v w'=>v=.tuple #[]∧Sat R (WrB p (bs++numsB [(xs.length:Int)]++numsB (xs.map nn))::Hs) w':=by
 have hlen:=hs.len
 have l1:=nums1_len (x:=(xs.length:Int)) (by omega)
 apply call75
 refine new_rule hw fun b w hw=>?_
 refine (wlit_spec (xs:=[(s.len:Int)]) rfl (by simp;omega) (by simp only [List.length_cons,List.length_nil];omega) hw).use ?_
 clear hw
 rintro _ w ⟨rfl,hw⟩
 refine ⟨rfl,?_⟩
 rw [nn1 (by omega),show ((s.len:Nat):Int)=(xs.length:Int) by omega] at hw
 refine (wnums_spec hxs (by simp only [List.length_append];omega) hs hw).use ?_
 rintro _ w ⟨rfl,hw⟩
 exact ⟨rfl,rfl,hw⟩
set_option maxHeartbeats 1000000 in
theorem benc_spec {c:Cm} {sg sp:Sl} (hf:FltC c) (hg:RoI R sg c.grps) (hgl:c.grps.length≤17592186043904) (hp:SlR R.m sp (flts c.parts)) (hpl:c.parts.length≤9223372036854775807) (hw:Sat R Hs w):
  Gets Tryz.prog 29 #[.agg #[.int .i64 c.kind,.string c.pnr,.int .i64 c.flt,.int .i64 c.cls,.int .i64 c.many,.int .i64 c.time,.float .f64 c.sc,.string c.lab,.int .i64 c.rows,.slice sg.a sg.len sg.cap,.slice sp.a sp.len sp.cap]] w fun v w'=>
   (¬ RightC c∧v=.tuple #[.slice none 0 0,.int .i64 1]∧Sat R Hs w')∨(RightC c∧∃ t:Sl,v=.tuple #[.slice t.a t.len t.cap,.int .i64 0]∧Sat R (Own t 5 (b8 (cmB c))::Hs) w'):=by
 have hplen:sp.len=c.parts.length:=by have:=hp.len;simpa using this
 apply call29
 refine new_rule hw fun b w hw=>?_
 have hw:Sat R (cmC b c sg sp::Hs) w:=hw
 refine ⟨c.kind,c.pnr,c.flt,c.cls,c.many,c.time,c.sc,c.lab,c.rows,sg,sp,At.own (eqS hw) (by exact ⟨rfl,rfl,rfl,rfl,rfl,rfl,rfl,rfl,rfl,rfl,rfl,trivial⟩),?_⟩
 refine (bright_spec hg hgl hplen hw).use ?_
 clear hw
 rintro _ w ⟨rfl,hw⟩
 refine ⟨_,rfl,Br.nd (fun hr=>.inl ⟨hr,rfl,hw.drop⟩) (fun hr=>?_)⟩
 have r1:=hr.flt
 have r2:=hr.cls
 have r3:=hr.many
 have r4:=hr.rows
 have r5:=hr.kind
 have r6:=hr.time
 have r7:=hr.pnr
 have r8:=hr.lab
 have r9:=hr.gl
 have r10:=hr.pl
 unfold numOk at r1 r2 r3 r4
 have l1:=nums1_len (x:=c.kind) (by omega)
 have l2:=strB_len (s:=c.pnr) (by omega)
 have l3:=nums1_len (x:=c.flt) (by omega)
 have l4:=nums1_len (x:=c.cls) (by omega)
 have l5:=nums1_len (x:=c.many) (by omega)
 have l6:=nums1_len (x:=c.time) (by omega)
 have l7:=fltB_len hf.sc
 have l8:=strB_len (s:=c.lab) (by omega)
 have l9:=nums1_len (x:=c.rows) (by omega)
 have l10:=nums1_len (x:=(c.grps.length:Int)) (by omega)
 have l11:=numsB_len (l:=c.grps) fun y hy=>by have:=hr.grps y hy;unfold numOk at this;omega
 have l12:=nums1_len (x:=(c.parts.length:Int)) (by omega)
 refine new_rule hw fun p w hw=>?_
 have hw:Sat R (WrB p []::cmC b c sg sp::Hs) w:=Sat.wrB.2 ⟨⟨none,0,0⟩,(Own.nil hw).swap⟩
 refine ⟨c.kind,At.own (eqS hw) (by exact ⟨rfl,trivial⟩),?_⟩
 refine new_rule hw fun b15 w hw=>?_
 refine (wlit_spec (xs:=[c.kind]) rfl (by simp;omega) (by simp) hw).use ?_
 clear hw
 rintro _ w ⟨rfl,hw⟩
 refine ⟨rfl,?_⟩
 rw [nn1 (by omega),List.nil_append] at hw
 refine ⟨c.pnr,At.own (eqS hw) (by exact ⟨rfl,trivial⟩),?_⟩
 refine wstr_rule (by omega) hw fun w hw=>?_
 refine ⟨c.flt,At.own (eqS hw) (by exact ⟨rfl,trivial⟩),c.cls,At.own (eqS hw) (by exact ⟨rfl,trivial⟩),c.many,At.own (eqS hw) (by exact ⟨rfl,trivial⟩),c.time,At.own (eqS hw) (by exact ⟨rfl,trivial⟩),?_⟩
 refine new_rule hw fun b31 w hw=>?_
 refine (wlit_spec (xs:=[c.flt,c.cls,c.many,c.time]) rfl (by simp;omega) (by simp only [List.length_append,List.length_cons,List.length_nil];omega) hw).use ?_
 clear hw
 rintro _ w ⟨rfl,hw⟩
 refine ⟨rfl,?_⟩
 rw [nn4 (by omega) (by omega) (by omega) (by omega)] at hw
 refine ⟨c.sc,At.own (eqS hw) (by exact ⟨rfl,trivial⟩),?_⟩
 refine (wfloat_spec (by simp only [List.length_append];omega) hf.sc hw).use ?_
 clear hw
 rintro _ w ⟨rfl,hw⟩
 refine ⟨rfl,?_⟩
 refine ⟨c.lab,At.own (eqS hw) (by exact ⟨rfl,trivial⟩),?_⟩
 refine wstr_rule (by simp only [List.length_append];omega) hw fun w hw=>?_
 refine ⟨c.rows,At.own (eqS hw) (by exact ⟨rfl,trivial⟩),?_⟩
 refine new_rule hw fun b46 w hw=>?_
 refine (wlit_spec (xs:=[c.rows]) rfl (by simp;omega) (by simp only [List.length_append,List.length_cons,List.length_nil];omega) hw).use ?_
 clear hw
 rintro _ w ⟨rfl,hw⟩
 refine ⟨rfl,?_⟩
 rw [nn1 (by omega)] at hw
 refine ⟨sg,At.own (eqS hw) (by exact ⟨rfl,trivial⟩),?_⟩
 refine (wlist_spec (xs:=c.grps) (fun y hy=>by have:=hr.grps y hy;unfold numOk at this;omega) (by omega) (by simp only [List.length_append];omega) hg hw).use ?_
 clear hw
 rintro _ w ⟨rfl,hw⟩
 refine ⟨rfl,?_⟩
 rw [nn_map fun y hy=>(hr.grps y hy).1] at hw
 refine ⟨sp,At.own (eqS hw) (by exact ⟨rfl,trivial⟩),?_⟩
 refine new_rule hw fun b57 w hw=>?_
 refine (wlit_spec (xs:=[(sp.len:Int)]) rfl (by simp;omega) (by simp only [List.length_append,List.length_cons,List.length_nil];omega) hw).use ?_
 clear hw
 rintro _ w ⟨rfl,hw⟩
 refine ⟨rfl,?_⟩
 rw [nn1 (by omega),show ((sp.len:Nat):Int)=(c.parts.length:Int) by omega] at hw
 refine ⟨sp,At.own (eqS hw) (by exact ⟨rfl,trivial⟩),?_⟩
 obtain ⟨B,hBl,hB,hw⟩:∃ B:List Int,B.length≤100000∧B++(c.parts.map fltB).flatten=cmB c∧Sat R (WrB p B::cmC b c sg sp::Hs) w:=
  ⟨_,by simp only [List.length_append];omega,by unfold cmB;simp only [List.append_assoc],hw⟩
 refine ⟨fun i w=>∃ k:Nat,i=k∧k≤c.parts.length∧Sat R (WrB p (B++((c.parts.take k).map fltB).flatten)::cmC b c sg sp::Hs) w,fun i _=>c.parts.length - i.toNat,⟨0,rfl,by omega,by simpa using hw⟩,?_⟩
 clear hw
 rintro _ _ w ⟨k,rfl,hk,hw⟩
 refine Br.d (fun h=>?_) (fun h=>?_)
 ·have hkx:k<c.parts.length:=by omega
  have hfl:=flat_len (l:=c.parts.take k) (code:=fltB) (m:=9) fun x hx=>fltB_len (hf.parts x (List.mem_of_mem_take hx))
  rw [List.length_take] at hfl
  refine Ro.ixF (hp.ro (by rw [List.length_map];omega)) (eqS hw) k rfl hkx ?_
  refine (wfloat_spec (by rw [List.length_append];omega) (hf.parts _ (List.getElem_mem hkx)) hw).use ?_
  clear hw
  rintro _ w ⟨rfl,hw⟩
  refine ⟨rfl,?_⟩
  rw [wrap64 (by omega) (by omega)]
  refine ⟨⟨k + 1,by omega,by omega,?_⟩,by dsimp only;omega⟩
  rw [List.take_add_one,List.getElem?_eq_getElem hkx,List.map_append,List.flatten_append,←List.append_assoc]
  simpa using hw
 ·rw [List.take_of_length_le (l:=c.parts) (by omega),hB] at hw
  obtain ⟨s,hw⟩:=Sat.wrB.1 hw
  refine ⟨s,At.own (eqS hw) (by exact ⟨rfl,trivial⟩),.inr ⟨hr,s,rfl,?_⟩⟩
  exact (hw.drop.swap).drop
end Go.Proofs.YtfgbbckfikiomaaGreatDoor
/- Package booking: Answer. Condition: bounds on lengths. -/
namespace Go.Proofs.YtfgbbckfikiomaaGreatDoor
set_option linter.unusedVariables false
open Go Go.VC
variable {R:Cx} {Hs Rest:List HP} {w:World}
theorem _root_.Go.VC.Ro.ixStr {xs:List ByteArray} {s:Sl} {S:World→Prop} {i:Int} (hr:Ro R s (xs.map Value.string)) (hS:∀ w,S w→Sat R Hs w) (j:Nat) (hi:i=j) (hj:j<xs.length) {F:ByteArray→Prop} (h:F xs[j]):
  Rng i s.len (NilP s.a fun a=>∃ t:ByteArray,(At S (a.add i.toNat) [.string t])∧F t):=by
 subst hi
 obtain ⟨a,ha,hat⟩:=hr.addr (k:=j) (by rw [List.length_map];exact hj)
 have hl:=hr.len
 rw [List.length_map] at hl
 exact Rng.mk (by omega) (by omega) (NilP.mk ha ⟨_,by have:=hat hS;rw [List.getElem_map] at this;exact this,h⟩)
abbrev rpV (r:Rp) (sl sb:Sl):List Value:=[.int .i64 r.code,.string r.pnr,.int .i64 r.state,.int .i64 r.flt,.int .i64 r.cls,.int .i64 r.many,.int .i64 r.time,.slice sl.a sl.len sl.cap,.slice sb.a sb.len sb.cap]
abbrev rpC (b:Nat) (r:Rp) (sl sb:Sl):HP:=pts b (.cells (rpV r sl sb).toArray 31 (0,0))
structure RpW (r:Rp):Prop where
 ints:∀ x∈[r.code,r.state,r.flt,r.cls,r.many,r.time]++r.left,x<9223372036854775808
 pnr:r.pnr.size≤100000
 ll:r.left.length≤100000
 bl:r.labs.length≤100000
 labs:∀ s∈r.labs,s.size≤100000
theorem nn5 {a b c d e:Int}:numsB ([a,b,c,d,e].map nn)=numsB [nn a]++(numsB [nn b]++(numsB [nn c]++(numsB [nn d]++numsB [nn e]))):=by
 show numsB [nn a,nn b,nn c,nn d,nn e]=_
 rw [numsB_sp (nn a),numsB_sp (nn b),numsB_sp (nn c),numsB_sp (nn d)]
set_option maxHeartbeats 1000000 in
theorem banswer_spec {r:Rp} {sl sb:Sl} (hi:RpW r) (hg:RoI R sl r.left) (hp:SlR R.m sb (r.labs.map Value.string)) (hw:Sat R Hs w):
  Gets Tryz.prog 25 #[.agg #[.int .i64 r.code,.string r.pnr,.int .i64 r.state,.int .i64 r.flt,.int .i64 r.cls,.int .i64 r.many,.int .i64 r.time,.slice sl.a sl.len sl.cap,.slice sb.a sb.len sb.cap]] w fun v w'=>
   ∃ t:Sl,v=.slice t.a t.len t.cap∧Sat R (Own t 5 (b8 (rpB r))::Hs) w':=by
 have hplen:sb.len=r.labs.length:=by have:=hp.len;simpa using this
 have i1:=hi.ints
 have i2:=hi.pnr
 have i3:=hi.ll
 have i4:=hi.bl
 have q:∀ x∈[r.code,r.state,r.flt,r.cls,r.many,r.time]++r.left,0≤nn x∧nn x<18446744073709551616:=fun x hx=>by have:=nn_bd (i1 x hx);omega
 have l1:=nums1_len (q r.code (by simp))
 have l2:=strB_len (s:=r.pnr) i2
 have l3:=nums1_len (q r.state (by simp))
 have l4:=nums1_len (q r.flt (by simp))
 have l5:=nums1_len (q r.cls (by simp))
 have l6:=nums1_len (q r.many (by simp))
 have l7:=nums1_len (q r.time (by simp))
 have l10:=nums1_len (x:=(r.left.length:Int)) (by omega)
 have l11:=numsB_len (l:=r.left.map nn) fun y hy=>by obtain ⟨x,hx,rfl⟩:=List.mem_map.1 hy;exact q x (by simp [hx])
 rw [List.length_map] at l11
 have l12:=nums1_len (x:=(r.labs.length:Int)) (by omega)
 apply call25
 refine new_rule hw fun b w hw=>?_
 have hw:Sat R (rpC b r sl sb::Hs) w:=hw
 refine new_rule hw fun p w hw=>?_
 have hw:Sat R (WrB p []::rpC b r sl sb::Hs) w:=Sat.wrB.2 ⟨⟨none,0,0⟩,(Own.nil hw).swap⟩
 refine ⟨r.code,At.own (eqS hw) (by exact ⟨rfl,trivial⟩),?_⟩
 refine new_rule hw fun b15 w hw=>?_
 refine (wlit_spec (xs:=[r.code]) rfl (fun x hx=>i1 x (by rw [List.mem_singleton.1 hx];simp)) (by simp) hw).use ?_
 clear hw
 rintro _ w ⟨rfl,hw⟩
 refine ⟨rfl,?_⟩
 rw [show [r.code].map nn=[nn r.code] from rfl,List.nil_append] at hw
 refine ⟨r.pnr,At.own (eqS hw) (by exact ⟨rfl,trivial⟩),?_⟩
 refine wstr_rule (by omega) hw fun w hw=>?_
 refine ⟨r.state,At.own (eqS hw) (by exact ⟨rfl,trivial⟩),r.flt,At.own (eqS hw) (by exact ⟨rfl,trivial⟩),r.cls,At.own (eqS hw) (by exact ⟨rfl,trivial⟩),r.many,At.own (eqS hw) (by exact ⟨rfl,trivial⟩),r.time,At.own (eqS hw) (by exact ⟨rfl,trivial⟩),?_⟩
 refine new_rule hw fun b31 w hw=>?_
 refine (wlit_spec (xs:=[r.state,r.flt,r.cls,r.many,r.time]) rfl (fun x hx=>i1 x (by simp only [List.mem_cons,List.not_mem_nil,or_false] at hx;simp only [List.cons_append,List.mem_cons];rcases hx with h|h|h|h|h<;>simp [h])) (by simp only [List.length_append,List.length_cons,List.length_nil];omega) hw).use ?_
 clear hw
 rintro _ w ⟨rfl,hw⟩
 refine ⟨rfl,?_⟩
 rw [nn5] at hw
 refine ⟨sl,At.own (eqS hw) (by exact ⟨rfl,trivial⟩),?_⟩
 refine (wlist_spec (xs:=r.left) (fun y hy=>i1 y (by simp [hy])) i3 (by simp only [List.length_append];omega) hg hw).use ?_
 clear hw
 rintro _ w ⟨rfl,hw⟩
 refine ⟨rfl,?_⟩
 refine ⟨sb,At.own (eqS hw) (by exact ⟨rfl,trivial⟩),?_⟩
 refine new_rule hw fun b57 w hw=>?_
 refine (wlit_spec (xs:=[(sb.len:Int)]) rfl (by simp;omega) (by simp only [List.length_append,List.length_cons,List.length_nil];omega) hw).use ?_
 clear hw
 rintro _ w ⟨rfl,hw⟩
 refine ⟨rfl,?_⟩
 rw [nn1 (by omega),show ((sb.len:Nat):Int)=(r.labs.length:Int) by omega] at hw
 refine ⟨sb,At.own (eqS hw) (by exact ⟨rfl,trivial⟩),?_⟩
 obtain ⟨B,hBl,hB,hw⟩:∃ B:List Int,B.length≤2000000∧B++(r.labs.map strB).flatten=rpB r∧Sat R (WrB p B::rpC b r sl sb::Hs) w:=
  ⟨_,by simp only [List.length_append];omega,by unfold rpB;simp only [List.append_assoc],hw⟩
 refine ⟨fun i w=>∃ k:Nat,i=k∧k≤r.labs.length∧Sat R (WrB p (B++((r.labs.take k).map strB).flatten)::rpC b r sl sb::Hs) w,fun i _=>r.labs.length - i.toNat,⟨0,rfl,by omega,by simpa using hw⟩,?_⟩
 clear hw
 rintro _ _ w ⟨k,rfl,hk,hw⟩
 refine Br.d (fun h=>?_) (fun h=>?_)
 ·have hkx:k<r.labs.length:=by omega
  have hfl:=flat_len (l:=r.labs.take k) (code:=strB) (m:=100009) fun x hx=>by have:=hi.labs x (List.mem_of_mem_take hx);have:=strB_len this;omega
  rw [List.length_take] at hfl
  have hsk:=hi.labs _ (List.getElem_mem hkx)
  refine Ro.ixStr (hp.ro (by rw [List.length_map];omega)) (eqS hw) k rfl hkx ?_
  refine wstr_rule (by rw [List.length_append];omega) hw fun w hw=>?_
  rw [wrap64 (by omega) (by omega)]
  refine ⟨⟨k + 1,by omega,by omega,?_⟩,by dsimp only;omega⟩
  rw [List.take_add_one,List.getElem?_eq_getElem hkx,List.map_append,List.flatten_append,←List.append_assoc]
  simpa using hw
 ·rw [List.take_of_length_le (l:=r.labs) (by omega),hB] at hw
  obtain ⟨s,hw⟩:=Sat.wrB.1 hw
  refine ⟨s,At.own (eqS hw) (by exact ⟨rfl,trivial⟩),s,rfl,?_⟩
  exact (hw.drop.swap).drop
end Go.Proofs.YtfgbbckfikiomaaGreatDoor
/- Package booking: a reader. Condition: bounds on lengths. -/
namespace Go.Proofs.YtfgbbckfikiomaaGreatDoor
set_option linter.unusedVariables false
open Go Go.VC
variable {R:Cx} {Hs Rest:List HP} {w:World}
theorem bnum_spec {r:Nat} {rd:Rd} {most:Int} (hb:Bytes rd.bs) (h0:0≤most) (h1:most<9223372036854775808) (hw:Sat R (RdAt r rd::Hs) w):
  Gets Tryz.prog 78 #[.agg #[.pointer (some ⟨r,0,none⟩)],.int .i64 most] w fun v w'=>v=.int .i64 (rdNum most rd).1∧Sat R (RdAt r (rdNum most rd).2::Hs) w':=by
 have hv:=rdNum_val hb h0
 apply call78
 refine new_rule hw fun b w hw=>?_
 refine ⟨_,At.own (eqS hw) (by exact ⟨rfl,trivial⟩),?_⟩
 rw [wrapU64 (by omega) (by omega)]
 refine (rnum_spec hb hw.drop).use ?_
 rintro _ w ⟨rfl,hw⟩
 refine ⟨_,rfl,?_,hw⟩
 rw [wrap64 (by omega) (by omega)]
theorem bstr_spec {r:Nat} {rd:Rd} {most:Int} (hb:Bytes rd.bs) (hl:rd.bs.length≤1099511627776) (h1:most<9223372036854775808) (hw:Sat R (RdAt r rd::Hs) w):
  Gets Tryz.prog 79 #[.agg #[.pointer (some ⟨r,0,none⟩)],.int .i64 most] w fun v w'=>v=.string (strRd most rd).1∧Sat R (RdAt r (strRd most rd).2::Hs) w':=by
 apply call79
 refine new_rule hw fun b w hw=>?_
 refine ⟨_,At.own (eqS hw) (by exact ⟨rfl,trivial⟩),?_⟩
 refine (rtext_spec h1 hl hb hw.drop).use ?_
 rintro _ w ⟨t,rfl,hw⟩
 have hlen:=rdText_len (most:=most) (rd:=rd)
 obtain ⟨R',hr,_,hw2,back⟩:=Own.lend hw (by rw [List.length_map];omega)
 refine ⟨t,rfl,VC.strOf (rdText most rd).1,fun w' e=>?_,rfl,hw.drop⟩
 rw [show w'=w from e]
 exact convS_ro Tryz.underlying42 Tryz.underlying5 Tryz.underlying9 hw2 hr
theorem bflt_spec {r:Nat} {rd:Rd} (hb:Bytes rd.bs) (hw:Sat R (RdAt r rd::Hs) w):
  Gets Tryz.prog 91 #[.agg #[.pointer (some ⟨r,0,none⟩)]] w fun v w'=>v=.float .f64 (fltRd rd).1∧Sat R (RdAt r (fltRd rd).2::Hs) w':=by
 have hv:=rdNum_val (most:=18446744073709551615) hb (by omega)
 apply call91
 refine new_rule hw fun b w hw=>?_
 refine ⟨_,At.own (eqS hw) (by exact ⟨rfl,trivial⟩),?_⟩
 refine (rnum_spec hb hw.drop).use ?_
 rintro _ w ⟨rfl,hw⟩
 refine ⟨_,rfl,?_⟩
 obtain ⟨n,hn⟩:=Int.eq_ofNat_of_zero_le hv.1
 rw [hn]
 refine (of_spec (k:=n) (by omega) hw).use ?_
 rintro _ w ⟨rfl,hw⟩
 refine ⟨_,rfl,?_,hw⟩
 show _=Value.float .f64 (ofF (rdNum 18446744073709551615 rd).1.toNat)
 rw [hn,Int.toNat_natCast]
end Go.Proofs.YtfgbbckfikiomaaGreatDoor
/- Package booking: so many things, one by one. Condition: bounds on lengths. -/
namespace Go.Proofs.YtfgbbckfikiomaaGreatDoor
set_option linter.unusedVariables false
open Go Go.VC
variable {R:Cx} {Hs Rest:List HP} {w:World}
theorem timesI_spec {r n:Nat} {rd:Rd} {f:Value} {one:Rd→Int × Rd} {I:Rd→Prop} (hI:∀ rd,I rd→I (one rd).2) (hn:n≤100000) (h0:I rd)
  (hone:∀ (T:HP) (rd:Rd) (w:World),I rd→Sat R (RdAt r rd::T::Hs) w→CalW Tryz.prog cl f [] w fun e w'=>e=.returned (.int .i64 (one rd).1)∧Sat R (RdAt r (one rd).2::T::Hs) w')
  (hw:Sat R (RdAt r rd::Hs) w):
  Gets Tryz.prog 80 #[.int .i64 n,f] w fun v w'=>∃ t:Sl,v=.slice t.a t.len t.cap∧Sat R (Own t 3 (intsI (rdEach one n rd).1)::RdAt r (rdEach one n rd).2::Hs) w':=by
 apply call80
 have inv:∀ k,I (rdEach one k rd).2:=fun k=>(rdEach_inv (one:=one) (P:=I) (Q:=fun _=>True) (fun r hr=>⟨trivial,hI r hr⟩) k h0).2
 refine ⟨fun out i w=>∃ k:Nat,i=k∧k≤n∧Sat R (Own out 3 (intsI (rdEach one k rd).1)::RdAt r (rdEach one k rd).2::Hs) w,fun _ i _=>n - i.toNat,⟨0,rfl,by omega,Own.nil hw⟩,?_⟩
 clear hw
 rintro _ out _ w ⟨k,rfl,hk,hw⟩
 refine Br.d (fun h=>?_) (fun h=>?_)
 ·refine (hone _ _ _ (inv k) hw.swap).mono ?_
  rintro _ w ⟨rfl,hw⟩
  refine ⟨_,rfl,?_⟩
  have hl:=rdEach_len one k rd
  refine pushI_rule elI8 hw.swap (by rw [hl];omega) fun out' w hw=>?_
  rw [wrap64 (by omega) (by omega)]
  refine ⟨⟨k + 1,by omega,by omega,?_⟩,by dsimp only;omega⟩
  rw [rdEach_snoc]
  exact hw
 ·have:k=n:=by omega
  subst this
  exact ⟨out,rfl,hw⟩
end Go.Proofs.YtfgbbckfikiomaaGreatDoor
/- Package booking: so many texts, so many floats, one by one. Condition: bounds on lengths. -/
namespace Go.Proofs.YtfgbbckfikiomaaGreatDoor
set_option linter.unusedVariables false
open Go Go.VC
variable {R:Cx} {Hs Rest:List HP} {w:World}
theorem elFl:El Tryz.prog 36 36 33 8:=⟨Tryz.underlying36,⟨_,Tryz.underlying36⟩,by kernel_rfl⟩
theorem oneAll_fl (l:List Nat):oneAll (flts l)=true:=by unfold oneAll flts;simp [Value.oneCell']
theorem timesS_spec {r n:Nat} {rd:Rd} {f:Value} {one:Rd→ByteArray × Rd} {I:Rd→Prop} (hI:∀ rd,I rd→I (one rd).2) (hn:n≤100000) (h0:I rd)
  (hone:∀ (T:HP) (rd:Rd) (w:World),I rd→Sat R (RdAt r rd::T::Hs) w→CalW Tryz.prog cl f [] w fun e w'=>e=.returned (.string (one rd).1)∧Sat R (RdAt r (one rd).2::T::Hs) w')
  (hw:Sat R (RdAt r rd::Hs) w):
  Gets Tryz.prog 81 #[.int .i64 n,f] w fun v w'=>∃ t:Sl,v=.slice t.a t.len t.cap∧Sat R (Own t 9 (strs (rdEach one n rd).1)::RdAt r (rdEach one n rd).2::Hs) w':=by
 apply call81
 have inv:∀ k,I (rdEach one k rd).2:=fun k=>(rdEach_inv (one:=one) (P:=I) (Q:=fun _=>True) (fun r hr=>⟨trivial,hI r hr⟩) k h0).2
 refine ⟨fun out i w=>∃ k:Nat,i=k∧k≤n∧Sat R (Own out 9 (strs (rdEach one k rd).1)::RdAt r (rdEach one k rd).2::Hs) w,fun _ i _=>n - i.toNat,⟨0,rfl,by omega,Own.nil hw⟩,?_⟩
 clear hw
 rintro _ out _ w ⟨k,rfl,hk,hw⟩
 refine Br.d (fun h=>?_) (fun h=>?_)
 ·refine (hone _ _ _ (inv k) hw.swap).mono ?_
  rintro _ w ⟨rfl,hw⟩
  refine ⟨_,rfl,?_⟩
  have hl:=rdEach_len one k rd
  refine push_rule elStr hw.swap (oneAll_str _) rfl (by rw [List.length_map,hl];omega) (by rw [List.length_map,hl];omega) fun out' w hw=>?_
  rw [wrap64 (by omega) (by omega)]
  refine ⟨⟨k + 1,by omega,by omega,?_⟩,by dsimp only;omega⟩
  rw [rdEach_snoc]
  simpa using hw
 ·have:k=n:=by omega
  subst this
  exact ⟨out,rfl,hw⟩
theorem timesF_spec {r n:Nat} {rd:Rd} {f:Value} {one:Rd→Nat × Rd} {I:Rd→Prop} (hI:∀ rd,I rd→I (one rd).2) (hn:n≤100000) (h0:I rd)
  (hone:∀ (T:HP) (rd:Rd) (w:World),I rd→Sat R (RdAt r rd::T::Hs) w→CalW Tryz.prog cl f [] w fun e w'=>e=.returned (.float .f64 (one rd).1)∧Sat R (RdAt r (one rd).2::T::Hs) w')
  (hw:Sat R (RdAt r rd::Hs) w):
  Gets Tryz.prog 92 #[.int .i64 n,f] w fun v w'=>∃ t:Sl,v=.slice t.a t.len t.cap∧Sat R (Own t 33 (flts (rdEach one n rd).1)::RdAt r (rdEach one n rd).2::Hs) w':=by
 apply call92
 have inv:∀ k,I (rdEach one k rd).2:=fun k=>(rdEach_inv (one:=one) (P:=I) (Q:=fun _=>True) (fun r hr=>⟨trivial,hI r hr⟩) k h0).2
 refine ⟨fun out i w=>∃ k:Nat,i=k∧k≤n∧Sat R (Own out 33 (flts (rdEach one k rd).1)::RdAt r (rdEach one k rd).2::Hs) w,fun _ i _=>n - i.toNat,⟨0,rfl,by omega,Own.nil hw⟩,?_⟩
 clear hw
 rintro _ out _ w ⟨k,rfl,hk,hw⟩
 refine Br.d (fun h=>?_) (fun h=>?_)
 ·refine (hone _ _ _ (inv k) hw.swap).mono ?_
  rintro _ w ⟨rfl,hw⟩
  refine ⟨_,rfl,?_⟩
  have hl:=rdEach_len one k rd
  refine push_rule elFl hw.swap (oneAll_fl _) rfl (by rw [List.length_map,hl];omega) (by rw [List.length_map,hl];omega) fun out' w hw=>?_
  rw [wrap64 (by omega) (by omega)]
  refine ⟨⟨k + 1,by omega,by omega,?_⟩,by dsimp only;omega⟩
  rw [rdEach_snoc]
  simpa using hw
 ·have:k=n:=by omega
  subst this
  exact ⟨out,rfl,hw⟩
end Go.Proofs.YtfgbbckfikiomaaGreatDoor
/- Reference 18: numbers as bytes. Condition: bounds on lengths. -/
namespace Go.Proofs.YtfgbbckfikiomaaGreatDoor
set_option linter.unusedVariables false
open Go Go.VC
variable {R:Cx} {Hs Rest:List HP} {w:World}
theorem r18nums_spec {s:Sl} {xs:List Int} (hxs:∀ x∈xs,x<9223372036854775808) (hl:9 * xs.length≤1099511627776) (hs:RoI R s xs) (hw:Sat R Hs w):
  Gets Tryz.prog 71 #[.slice s.a s.len s.cap] w fun v w'=>∃ t:Sl,v=.slice t.a t.len t.cap∧Sat R (Own t 5 (b8 (numsB (xs.map nn)))::Hs) w':=by
 have hlen:=hs.len
 apply call71
 refine ⟨fun out i w=>∃ k:Nat,i=k∧k≤xs.length∧Sat R (Own out 5 (b8 (numsB ((xs.take k).map nn)))::Hs) w,fun _ i _=>xs.length - i.toNat,⟨0,rfl,by omega,Own.nil hw⟩,?_⟩
 clear hw
 rintro _ out _ w ⟨k,rfl,hk,hw⟩
 refine Br.d (fun h=>?_) (fun h=>?_)
 ·have hkx:k<xs.length:=by omega
  have hx:=nn_bd (hxs xs[k] (List.getElem_mem _))
  have hxt:∀ x∈(xs.take k).map nn,0≤x∧x<18446744073709551616:=fun x hx=>by
   obtain ⟨y,hy,rfl⟩:=List.mem_map.1 hx
   have:=nn_bd (hxs y (List.mem_of_mem_take hy));omega
  have hnl:=numsB_len hxt
  rw [List.length_map,List.length_take] at hnl
  refine Ro.ix hs (eqS hw) k rfl hkx ?_
  rw [nn_if]
  obtain ⟨n,hn⟩:=Int.eq_ofNat_of_zero_le hx.1
  rw [hn,wrapU64 (by omega) (by omega)]
  refine (rnumber_spec (by omega) hw).use ?_
  rintro _ w ⟨t,rfl,hw⟩
  refine ⟨t,rfl,?_⟩
  have hnb:=numB_len (n:=n) (by omega)
  refine appendOO elB8 (s:=out) (n:=1099511627790) Tryz.underlying42 hw.swap (by omega) (by omega) (by omega) fun s2 w hw=>?_
  rw [wrap64 (by omega) (by omega)]
  refine ⟨⟨k + 1,by omega,by omega,?_⟩,by dsimp only;omega⟩
  have e:(xs.take (k + 1)).map nn=(xs.take k).map nn++[nn xs[k]]:=by rw [List.take_add_one,List.getElem?_eq_getElem hkx,List.map_append];rfl
  rw [e,numsB_app,show numsB [nn xs[k]]=numB (nn xs[k]).toNat by simp [numsB],hn,Int.toNat_natCast]
  exact hw.swap.drop
 ·rw [List.take_of_length_le (l:=xs) (by omega)] at hw
  exact ⟨out,rfl,hw⟩
end Go.Proofs.YtfgbbckfikiomaaGreatDoor

/- Package booking: Decode. Condition: bounds on lengths. -/
namespace Go.Proofs.YtfgbbckfikiomaaGreatDoor
set_option linter.unusedVariables false
open Go Go.VC
open Classical
variable {R:Cx} {Hs Rest:List HP} {w:World}
abbrev brC (b r:Nat):HP:=pts b (.cells [.pointer (some ⟨r,0,none⟩)].toArray 126 (0,0))
abbrev nilSl:Sl:=⟨none,0,0⟩
abbrev cmHead (k:Int) (p:ByteArray) (f c m t:Int):Cm:=⟨k,p,f,c,m,t,0,ByteArray.mk #[],0,[],[]⟩
abbrev cmNew (b:Nat):HP:=cmC b (cmHead 0 (ByteArray.mk #[]) 0 0 0 0) nilSl nilSl
theorem bdn_spec {b r:Nat} {rd:Rd} (hb:Bytes rd.bs) (hw:Sat R (RdAt r rd::brC b r::Hs) w):
  Gets Tryz.prog 90 #[.pointer (some ⟨b,0,none⟩)] w fun v w'=>v=.int .i64 (rdNum 9999 rd).1∧Sat R (RdAt r (rdNum 9999 rd).2::brC b r::Hs) w':=by
 apply call90
 have hw2:Sat R (brC b r::RdAt r rd::Hs) w:=hw.swap
 refine NilP.mk rfl ⟨some ⟨r,0,none⟩,At.own (eqS hw2) (by exact ⟨rfl,trivial⟩),?_⟩
 refine (bnum_spec (most:=9999) hb (by omega) (by omega) hw).use ?_
 rintro _ w ⟨rfl,hw⟩
 exact ⟨_,rfl,rfl,hw⟩
theorem tru2 {A B:HP} (hw:Sat R (A::B::Hs) w):Sat R [B,VC.tru] w:=hw.swap.restTru2
theorem tru3 {A B C:HP} (hw:Sat R (C::A::B::Hs) w):Sat R [B,VC.tru] w:=(hw.arr (Hs':=B::C::A::Hs)).restTru2
section
variable (S:World→Prop) (J:Option Addr→World→Prop) (b4 b:Nat) (r:Option Addr)
def dT6 (k:Int) (p:ByteArray) (f c m t:Int) (w:World):Prop:=
 ∃ w':World,((Instr.storeAt 38 (.pointer (some ⟨b,0,none⟩)) (.agg #[.int .i64 k,.string p,.int .i64 f,.int .i64 c,.int .i64 m,.int .i64 t,.float .f64 0,.string (ByteArray.mk #[]),.int .i64 0,.slice none 0 0,.slice none 0 0])).run Tryz.prog w=.ok () w')∧J (some ⟨b,0,none⟩) w'
def dT5 (k:Int) (p:ByteArray) (f c m:Int) (w:World):Prop:=
 Calls Tryz.prog 78 #[.agg #[.pointer r],.int .i64 1099511627776] w fun e w'=>∃ t:Int,(e=.returned (.int .i64 t))∧S w'∧dT6 J b k p f c m t w'
def dT4 (k:Int) (p:ByteArray) (f c:Int) (w:World):Prop:=
 Calls Tryz.prog 90 #[.pointer (some ⟨b4,0,none⟩)] w fun e w'=>∃ t:Int,(e=.returned (.int .i64 t))∧S w'∧dT5 S J b r k p f c t w'
def dT3 (k:Int) (p:ByteArray) (f:Int) (w:World):Prop:=
 Calls Tryz.prog 90 #[.pointer (some ⟨b4,0,none⟩)] w fun e w'=>∃ t:Int,(e=.returned (.int .i64 t))∧S w'∧dT4 S J b4 b r k p f t w'
def dT2 (k:Int) (p:ByteArray) (w:World):Prop:=
 Calls Tryz.prog 90 #[.pointer (some ⟨b4,0,none⟩)] w fun e w'=>∃ t:Int,(e=.returned (.int .i64 t))∧S w'∧dT3 S J b4 b r k p t w'
def dT1 (k:Int) (w:World):Prop:=
 Calls Tryz.prog 79 #[.agg #[.pointer r],.int .i64 16] w fun e w'=>∃ t:ByteArray,(e=.returned (.string t))∧S w'∧dT2 S J b4 b r k t w'
def dT0 (w:World):Prop:=
 Calls Tryz.prog 78 #[.agg #[.pointer r],.int .i64 9] w fun e w'=>∃ t:Int,(e=.returned (.int .i64 t))∧S w'∧dT1 S J b4 b r t w'
end
section
variable {J:Option Addr→World→Prop} {b4 b r:Nat} {rd:Rd} {k f c m t:Int} {p:ByteArray}
theorem dT6_ok (hJ:∀ {w},Sat R (cmC b (cmHead k p f c m t) nilSl nilSl::RdAt r rd::brC b4 r::Hs) w→J (some ⟨b,0,none⟩) w) (hw:Sat R (RdAt r rd::brC b4 r::cmNew b::Hs) w):dT6 J b k p f c m t w:=by
 have hw:Sat R (cmNew b::RdAt r rd::brC b4 r::Hs) w:=hw.arr
 refine store_rule hw (by kernel_rfl) rfl (by simp [Value.cells]) fun w hw=>?_
 exact hJ (hw.re (cmC b (cmHead k p f c m t) nilSl nilSl))
theorem dT5_ok (hb:Bytes rd.bs) (hJ:∀ {w},Sat R (cmC b (cmHead k p f c m (rdNum 1099511627776 rd).1) nilSl nilSl::RdAt r (rdNum 1099511627776 rd).2::brC b4 r::Hs) w→J (some ⟨b,0,none⟩) w)
  (hw:Sat R (RdAt r rd::brC b4 r::cmNew b::Hs) w):dT5 (Sat R [brC b4 r,VC.tru]) J b (some ⟨r,0,none⟩) k p f c m w:=by
 refine (bnum_spec (most:=1099511627776) hb (by omega) (by omega) hw).use ?_
 rintro _ w ⟨rfl,hw⟩
 exact ⟨_,rfl,tru2 hw,dT6_ok hJ hw⟩
theorem dT4_ok (hb:Bytes rd.bs) (hJ:∀ {w},Sat R (cmC b (cmHead k p f c (rdNum 9999 rd).1 (rdNum 1099511627776 (rdNum 9999 rd).2).1) nilSl nilSl::RdAt r (rdNum 1099511627776 (rdNum 9999 rd).2).2::brC b4 r::Hs) w→J (some ⟨b,0,none⟩) w)
  (hw:Sat R (RdAt r rd::brC b4 r::cmNew b::Hs) w):dT4 (Sat R [brC b4 r,VC.tru]) J b4 b (some ⟨r,0,none⟩) k p f c w:=by
 refine (bdn_spec hb hw).use ?_
 rintro _ w ⟨rfl,hw⟩
 exact ⟨_,rfl,tru2 hw,dT5_ok (rdNum_bd hb) hJ hw⟩
theorem dT3_ok (hb:Bytes rd.bs) (hJ:∀ {w},Sat R (cmC b (cmHead k p f (rdNum 9999 rd).1 (rdNum 9999 (rdNum 9999 rd).2).1 (rdNum 1099511627776 (rdNum 9999 (rdNum 9999 rd).2).2).1) nilSl nilSl::RdAt r (rdNum 1099511627776 (rdNum 9999 (rdNum 9999 rd).2).2).2::brC b4 r::Hs) w→J (some ⟨b,0,none⟩) w)
  (hw:Sat R (RdAt r rd::brC b4 r::cmNew b::Hs) w):dT3 (Sat R [brC b4 r,VC.tru]) J b4 b (some ⟨r,0,none⟩) k p f w:=by
 refine (bdn_spec hb hw).use ?_
 rintro _ w ⟨rfl,hw⟩
 exact ⟨_,rfl,tru2 hw,dT4_ok (rdNum_bd hb) hJ hw⟩
theorem dT2_ok (hb:Bytes rd.bs) (hJ:∀ {w},Sat R (cmC b (cmHead k p (rdNum 9999 rd).1 (rdNum 9999 (rdNum 9999 rd).2).1 (rdNum 9999 (rdNum 9999 (rdNum 9999 rd).2).2).1 (rdNum 1099511627776 (rdNum 9999 (rdNum 9999 (rdNum 9999 rd).2).2).2).1) nilSl nilSl::RdAt r (rdNum 1099511627776 (rdNum 9999 (rdNum 9999 (rdNum 9999 rd).2).2).2).2::brC b4 r::Hs) w→J (some ⟨b,0,none⟩) w)
  (hw:Sat R (RdAt r rd::brC b4 r::cmNew b::Hs) w):dT2 (Sat R [brC b4 r,VC.tru]) J b4 b (some ⟨r,0,none⟩) k p w:=by
 refine (bdn_spec hb hw).use ?_
 rintro _ w ⟨rfl,hw⟩
 exact ⟨_,rfl,tru2 hw,dT3_ok (rdNum_bd hb) hJ hw⟩
def hd2 (rd:Rd):(Int × Int × Int × Int) × Rd:=
 let f:=rdNum 9999 rd
 let c:=rdNum 9999 f.2
 let m:=rdNum 9999 c.2
 let t:=rdNum 1099511627776 m.2
 ((f.1,c.1,m.1,t.1),t.2)
abbrev JD (R:Cx) (Hs:List HP) (b4 r:Nat) (k:Int) (p:ByteArray) (x:(Int × Int × Int × Int) × Rd) (c6:Option Addr) (w:World):Prop:=
 ∃ b,c6=some ⟨b,0,none⟩∧Sat R (cmC b (cmHead k p x.1.1 x.1.2.1 x.1.2.2.1 x.1.2.2.2) nilSl nilSl::RdAt r x.2::brC b4 r::Hs) w
theorem dT1_ok (hb:Bytes rd.bs) (hl:rd.bs.length≤1099511627776) (hJ:∀ {w},Sat R (cmC b (cmHead k (strRd 16 rd).1 (hd2 (strRd 16 rd).2).1.1 (hd2 (strRd 16 rd).2).1.2.1 (hd2 (strRd 16 rd).2).1.2.2.1 (hd2 (strRd 16 rd).2).1.2.2.2) nilSl nilSl::RdAt r (hd2 (strRd 16 rd).2).2::brC b4 r::Hs) w→J (some ⟨b,0,none⟩) w)
  (hw:Sat R (RdAt r rd::brC b4 r::cmNew b::Hs) w):dT1 (Sat R [brC b4 r,VC.tru]) J b4 b (some ⟨r,0,none⟩) k w:=by
 refine (bstr_spec (most:=16) hb hl (by omega) hw).use ?_
 rintro _ w ⟨rfl,hw⟩
 exact ⟨_,rfl,tru2 hw,dT2_ok (strRd_bd hb) hJ hw⟩
theorem dT0_ok (hb:Bytes rd.bs) (hl:rd.bs.length≤1099511627776) (hJ:∀ {w},Sat R (cmC b (cmHead (rdNum 9 rd).1 (strRd 16 (rdNum 9 rd).2).1 (hd2 (strRd 16 (rdNum 9 rd).2).2).1.1 (hd2 (strRd 16 (rdNum 9 rd).2).2).1.2.1 (hd2 (strRd 16 (rdNum 9 rd).2).2).1.2.2.1 (hd2 (strRd 16 (rdNum 9 rd).2).2).1.2.2.2) nilSl nilSl::RdAt r (hd2 (strRd 16 (rdNum 9 rd).2).2).2::brC b4 r::Hs) w→J (some ⟨b,0,none⟩) w)
  (hw:Sat R (RdAt r rd::brC b4 r::cmNew b::Hs) w):dT0 (Sat R [brC b4 r,VC.tru]) J b4 b (some ⟨r,0,none⟩) w:=by
 refine (bnum_spec (most:=9) hb (by omega) (by omega) hw).use ?_
 rintro _ w ⟨rfl,hw⟩
 exact ⟨_,rfl,tru2 hw,dT1_ok (rdNum_bd hb) (by have:=rdNum_len (most:=9) (rd:=rd);omega) hJ hw⟩
end
end Go.Proofs.YtfgbbckfikiomaaGreatDoor
/- Package booking: Decode, the whole. Condition: bounds on lengths. -/
namespace Go.Proofs.YtfgbbckfikiomaaGreatDoor
set_option linter.unusedVariables false
open Go Go.VC
open Classical
variable {R:Cx} {Hs Rest:List HP} {w:World}
theorem CalW.mkB {g:FuncId} {first captured:Array Value} {args:List Value} {Q:Ending→World→Prop} (hc:cl g=true) (h:Calls Tryz.prog g (first.toList++(args++captured.toList)).toArray w Q):CalW Tryz.prog cl (.func (.func g) first captured) args w Q:=by
 unfold CalW
 simp only [hc]
 exact h
theorem CalW.mk1 {g:FuncId} {x:Value} {Q:Ending→World→Prop} (hc:cl g=true) (h:Calls Tryz.prog g #[x] w Q):CalW Tryz.prog cl (.func (.func g) #[x] #[]) [] w Q:=CalW.mkB hc (by
 have e:((#[x]:Array Value).toList++(([]:List Value)++(#[]:Array Value).toList)).toArray=#[x]:=rfl
 rw [e];exact h)
def zeroC:Cm:=cmHead 0 (ByteArray.mk #[]) 0 0 0 0
noncomputable def cmDec (bs:List Int):Cm × Int:=if rdWhole (cmRd ⟨bs,false⟩).2=true∧RightC (cmRd ⟨bs,false⟩).1 then ((cmRd ⟨bs,false⟩).1,0) else (zeroC,6)
theorem strRd_len {most:Int} {rd:Rd}:(strRd most rd).2.bs.length≤rd.bs.length:=rdText_len.2
theorem fltRd_len {rd:Rd}:(fltRd rd).2.bs.length≤rd.bs.length:=rdNum_len
theorem hd2_bd {rd:Rd} (hb:Bytes rd.bs):Bytes (hd2 rd).2.bs:=rdNum_bd (rdNum_bd (rdNum_bd (rdNum_bd hb)))
theorem hd2_len {rd:Rd}:(hd2 rd).2.bs.length≤rd.bs.length:=Nat.le_trans rdNum_len (Nat.le_trans rdNum_len (Nat.le_trans rdNum_len rdNum_len))
theorem cmRd_hd (r:Rd):cmRd r=
 let k:=rdNum 9 r
 let p:=strRd 16 k.2
 let h:=hd2 p.2
 let s:=fltRd h.2
 let l:=strRd 16 s.2
 let w:=rdNum 9999 l.2
 let n:=rdNum 16 w.2
 let g:=rdEach (rdNum 9999) n.1.toNat n.2
 let q:=rdNum 16 g.2
 let x:=rdEach fltRd q.1.toNat q.2
 (⟨k.1,p.1,h.1.1,h.1.2.1,h.1.2.2.1,h.1.2.2.2,s.1,l.1,w.1,g.1,x.1⟩,x.2):=rfl
set_option maxHeartbeats 1000000 in
theorem bdec_spec {s:Sl} {bs:List Int} (hb:Bytes bs) (hl:bs.length≤1099511627776) (hs:Ro R s (b8 bs)) (hw:Sat R Hs w):
  Gets Tryz.prog 31 #[.slice s.a s.len s.cap] w fun v w'=>∃ sg sp:Sl,v=.tuple #[.agg (cmV (cmDec bs).1 sg sp).toArray,.int .i64 (cmDec bs).2]∧Sat R (Own sg 3 (intsI (cmDec bs).1.grps)::Own sp 33 (flts (cmDec bs).1.parts)::Hs) w':=by
 apply call31
 have b0:Bytes (⟨bs,false⟩:Rd).bs:=hb
 have l0:(⟨bs,false⟩:Rd).bs.length≤1099511627776:=hl
 have hcm:=cmRd_hd ⟨bs,false⟩
 obtain ⟨rd0,e0⟩:∃ rd:Rd,rd=⟨bs,false⟩:=⟨_,rfl⟩
 rw [←e0] at b0 l0 hcm
 have b1:=rdNum_bd (most:=9) b0
 have l1:(rdNum 9 rd0).2.bs.length≤1099511627776:=Nat.le_trans rdNum_len l0
 refine new_rule hw fun b2 w hw=>?_
 have hw:Sat R (cmNew b2::Hs) w:=hw
 refine (fnew_spec hs hl hw).use ?_
 clear hw
 rintro _ w ⟨r,rfl,hw⟩
 refine ⟨_,rfl,?_⟩
 rw [←e0] at hw
 refine new_rule hw fun b4 w hw=>?_
 refine store_rule hw (by kernel_rfl) rfl (by simp [Value.cells]) fun w hw=>?_
 have hw:Sat R (RdAt r rd0::brC b4 r::cmNew b2::Hs) w:=hw.re (brC b4 r)|>.swap
 refine ⟨JD R (cmNew b2::Hs) b4 r (rdNum 9 rd0).1 (strRd 16 (rdNum 9 rd0).2).1 (hd2 (strRd 16 (rdNum 9 rd0).2).2),?_,?_⟩
 ·refine drw_rule' (Sat R [brC b4 r,VC.tru]) hw (fun w hw=>tru2 hw) fun w hw=>?_
  clear hcm
  refine ⟨_,At.own (fun _ h=>h) (by exact ⟨rfl,trivial⟩),_,At.own (fun _ h=>h) (by exact ⟨rfl,trivial⟩),_,At.own (fun _ h=>h) (by exact ⟨rfl,trivial⟩),?_⟩
  refine ⟨?_,new_rule hw fun b w hw=>⟨tru3 hw,dT0_ok b0 l0 (fun hw=>⟨b,rfl,hw⟩) (hw.arr (Hs':=RdAt r rd0::brC b4 r::cmNew b::cmNew b2::Hs))⟩⟩
  refine (bnum_spec (most:=9) b0 (by omega) (by omega) hw).use ?_
  clear hw
  rintro _ w ⟨rfl,hw⟩
  refine ⟨_,rfl,tru2 hw,?_⟩
  generalize (rdNum 9 rd0).1=k at *
  generalize (rdNum 9 rd0).2=rd1 at *
  refine ⟨?_,new_rule hw fun b w hw=>⟨tru3 hw,dT1_ok b1 l1 (fun hw=>⟨b,rfl,hw⟩) (hw.arr (Hs':=RdAt r rd1::brC b4 r::cmNew b::cmNew b2::Hs))⟩⟩
  have b2':=strRd_bd (most:=16) b1
  refine (bstr_spec (most:=16) b1 l1 (by omega) hw).use ?_
  clear hw
  rintro _ w ⟨rfl,hw⟩
  refine ⟨_,rfl,tru2 hw,?_⟩
  generalize (strRd 16 rd1).1=p at *
  generalize (strRd 16 rd1).2=rd2 at *
  refine ⟨?_,new_rule hw fun b w hw=>⟨tru3 hw,dT2_ok b2' (fun hw=>⟨b,rfl,hw⟩) (hw.arr (Hs':=RdAt r rd2::brC b4 r::cmNew b::cmNew b2::Hs))⟩⟩
  have b3:=rdNum_bd (most:=9999) b2'
  refine (bdn_spec b2' hw).use ?_
  clear hw
  rintro _ w ⟨rfl,hw⟩
  refine ⟨_,rfl,tru2 hw,?_⟩
  refine ⟨?_,new_rule hw fun b w hw=>⟨tru3 hw,dT3_ok b3 (fun hw=>⟨b,rfl,hw⟩) (hw.arr (Hs':=RdAt r _::brC b4 r::cmNew b::cmNew b2::Hs))⟩⟩
  have b4':=rdNum_bd (most:=9999) b3
  refine (bdn_spec b3 hw).use ?_
  clear hw
  rintro _ w ⟨rfl,hw⟩
  refine ⟨_,rfl,tru2 hw,?_⟩
  refine ⟨?_,new_rule hw fun b w hw=>⟨tru3 hw,dT4_ok b4' (fun hw=>⟨b,rfl,hw⟩) (hw.arr (Hs':=RdAt r _::brC b4 r::cmNew b::cmNew b2::Hs))⟩⟩
  have b5:=rdNum_bd (most:=9999) b4'
  refine (bdn_spec b4' hw).use ?_
  clear hw
  rintro _ w ⟨rfl,hw⟩
  refine ⟨_,rfl,tru2 hw,?_⟩
  refine ⟨?_,new_rule hw fun b w hw=>⟨tru3 hw,dT5_ok b5 (fun hw=>⟨b,rfl,hw⟩) (hw.arr (Hs':=RdAt r _::brC b4 r::cmNew b::cmNew b2::Hs))⟩⟩
  refine (bnum_spec (most:=1099511627776) b5 (by omega) (by omega) hw).use ?_
  clear hw
  rintro _ w ⟨rfl,hw⟩
  have hw:Sat R (RdAt r (hd2 rd2).2::brC b4 r::cmNew b2::Hs) w:=hw
  refine ⟨_,rfl,tru2 hw,new_rule hw fun b w hw=>⟨tru3 hw,dT6_ok (fun hw=>⟨b,rfl,hw⟩) (hw.arr (Hs':=RdAt r _::brC b4 r::cmNew b::cmNew b2::Hs))⟩⟩
 clear hw
 obtain ⟨k,rd1,e1⟩:∃ y rd,rdNum 9 rd0=(y,rd):=⟨_,_,rfl⟩
 rw [e1] at b1 l1 ⊢
 dsimp only at b1 l1 ⊢
 have b2':=strRd_bd (most:=16) b1
 have l2:(strRd 16 rd1).2.bs.length≤1099511627776:=Nat.le_trans strRd_len l1
 obtain ⟨p,rd2,e2⟩:∃ y rd,strRd 16 rd1=(y,rd):=⟨_,_,rfl⟩
 rw [e2] at b2' l2 ⊢
 dsimp only at b2' l2 ⊢
 have b3:=hd2_bd b2'
 have l3:(hd2 rd2).2.bs.length≤1099511627776:=Nat.le_trans hd2_len l2
 obtain ⟨⟨f,c,m,t⟩,rd3,e3⟩:∃ y rd,hd2 rd2=(y,rd):=⟨_,_,rfl⟩
 rw [e3] at b3 l3 ⊢
 dsimp only at b3 l3 ⊢
 rintro _ _ w ⟨b,rfl,hw⟩
 have b4':=fltRd_bd b3
 have l4:(fltRd rd3).2.bs.length≤1099511627776:=Nat.le_trans fltRd_len l3
 obtain ⟨sc,rd4,e4⟩:∃ y rd,fltRd rd3=(y,rd):=⟨_,_,rfl⟩
 have hw:Sat R (RdAt r rd3::brC b4 r::cmC b (cmHead k p f c m t) nilSl nilSl::cmNew b2::Hs) w:=hw.arr
 refine ⟨some ⟨r,0,none⟩,At.own (eqS hw) (by exact ⟨rfl,trivial⟩),?_⟩
 refine (bflt_spec b3 hw).use ?_
 clear hw
 rintro _ w ⟨rfl,hw⟩
 rw [e4] at b4' l4 hw ⊢
 dsimp only at b4' l4 hw ⊢
 refine ⟨_,rfl,NilP.mk rfl ?_⟩
 refine store_rule hw (by kernel_rfl) rfl (by simp [Value.cells]) fun w hw=>?_
 have hw:Sat R (RdAt r rd4::brC b4 r::cmC b { cmHead k p f c m t with sc:=sc } nilSl nilSl::cmNew b2::Hs) w:=(hw.re (cmC b { cmHead k p f c m t with sc:=sc } nilSl nilSl)).arr
 have b5:=strRd_bd (most:=16) b4'
 have l5:(strRd 16 rd4).2.bs.length≤1099511627776:=Nat.le_trans strRd_len l4
 obtain ⟨lab,rd5,e5⟩:∃ y rd,strRd 16 rd4=(y,rd):=⟨_,_,rfl⟩
 refine ⟨some ⟨r,0,none⟩,At.own (eqS hw) (by exact ⟨rfl,trivial⟩),?_⟩
 refine (bstr_spec (most:=16) b4' l4 (by omega) hw).use ?_
 clear hw
 rintro _ w ⟨rfl,hw⟩
 rw [e5] at b5 l5 hw ⊢
 dsimp only at b5 l5 hw ⊢
 refine ⟨_,rfl,NilP.mk rfl ?_⟩
 refine store_rule hw (by kernel_rfl) rfl (by simp [Value.cells]) fun w hw=>?_
 have hw:Sat R (RdAt r rd5::brC b4 r::cmC b { cmHead k p f c m t with sc:=sc,lab:=lab } nilSl nilSl::cmNew b2::Hs) w:=(hw.re (cmC b { cmHead k p f c m t with sc:=sc,lab:=lab } nilSl nilSl)).arr
 have b6:=rdNum_bd (most:=9999) b5
 have l6:(rdNum 9999 rd5).2.bs.length≤1099511627776:=Nat.le_trans rdNum_len l5
 obtain ⟨rows,rd6,e6⟩:∃ y rd,rdNum 9999 rd5=(y,rd):=⟨_,_,rfl⟩
 refine (bdn_spec b5 hw).use ?_
 clear hw
 rintro _ w ⟨rfl,hw⟩
 rw [e6] at b6 l6 hw ⊢
 dsimp only at b6 l6 hw ⊢
 refine ⟨_,rfl,NilP.mk rfl ?_⟩
 refine store_rule hw (by kernel_rfl) rfl (by simp [Value.cells]) fun w hw=>?_
 have hw:Sat R (RdAt r rd6::brC b4 r::cmC b { cmHead k p f c m t with sc:=sc,lab:=lab,rows:=rows } nilSl nilSl::cmNew b2::Hs) w:=(hw.re (cmC b { cmHead k p f c m t with sc:=sc,lab:=lab,rows:=rows } nilSl nilSl)).arr
 have b7:=rdNum_bd (most:=16) b6
 have v7:=rdNum_val (most:=16) b6 (by omega)
 obtain ⟨n7,rd7,e7⟩:∃ y rd,rdNum 16 rd6=(y,rd):=⟨_,_,rfl⟩
 refine ⟨some ⟨r,0,none⟩,At.own (eqS hw) (by exact ⟨rfl,trivial⟩),?_⟩
 refine (bnum_spec (most:=16) b6 (by omega) (by omega) hw).use ?_
 clear hw
 rintro _ w ⟨rfl,hw⟩
 rw [e7] at b7 v7 hw ⊢
 dsimp only at b7 v7 hw ⊢
 refine ⟨_,rfl,?_⟩
 obtain ⟨n,rfl⟩:=Int.eq_ofNat_of_zero_le v7.1
 have b8':Bytes (rdEach (rdNum 9999) n rd7).2.bs:=(rdEach_inv (one:=rdNum 9999) (P:=fun r=>Bytes r.bs) (Q:=fun _=>True) (fun r hr=>⟨trivial,rdNum_bd hr⟩) n b7).2
 refine (timesI_spec (one:=rdNum 9999) (I:=fun rd=>Bytes rd.bs) (fun rd h=>rdNum_bd h) (by omega) b7 (fun T rd w hI hw=>CalW.mk (by kernel_rfl) ((bdn_spec hI (hw.arr (Hs':=RdAt r rd::brC b4 r::T::cmC b { cmHead k p f c m t with sc:=sc,lab:=lab,rows:=rows } nilSl nilSl::cmNew b2::Hs))).use fun v w h=>⟨by rw [h.1],h.2.arr⟩)) hw).use ?_
 clear hw
 rintro _ w ⟨sg,rfl,hw⟩
 have gl:=rdEach_len (rdNum 9999) n rd7
 obtain ⟨gs,rd8,e8⟩:∃ y rd,rdEach (rdNum 9999) n rd7=(y,rd):=⟨_,_,rfl⟩
 rw [e8] at gl b8' hw
 dsimp only at gl b8' hw
 refine ⟨sg,rfl,NilP.mk rfl ?_⟩
 refine store_rule hw (by kernel_rfl) rfl (by simp [Value.cells]) fun w hw=>?_
 have hw:Sat R (RdAt r rd8::brC b4 r::Own sg 3 (intsI gs)::cmC b { cmHead k p f c m t with sc:=sc,lab:=lab,rows:=rows,grps:=gs } sg nilSl::cmNew b2::Hs) w:=(hw.re (cmC b { cmHead k p f c m t with sc:=sc,lab:=lab,rows:=rows,grps:=gs } sg nilSl)).arr
 have b9:=rdNum_bd (most:=16) b8'
 have v9:=rdNum_val (most:=16) b8' (by omega)
 obtain ⟨n9,rd9,e9⟩:∃ y rd,rdNum 16 rd8=(y,rd):=⟨_,_,rfl⟩
 refine drw_rule' (Sat R [brC b4 r,VC.tru]) hw (fun w hw=>tru2 hw) fun w hw=>?_
 refine ⟨some ⟨r,0,none⟩,At.own (fun _ h=>h) (by exact ⟨rfl,trivial⟩),some ⟨r,0,none⟩,At.own (fun _ h=>h) (by exact ⟨rfl,trivial⟩),?_⟩
 refine (bnum_spec (most:=16) b8' (by omega) (by omega) hw).use ?_
 clear hw
 rintro _ w ⟨rfl,hw⟩
 rw [e9] at b9 v9 hw ⊢
 dsimp only at b9 v9 hw ⊢
 refine ⟨_,rfl,tru2 hw,?_⟩
 obtain ⟨n',rfl⟩:=Int.eq_ofNat_of_zero_le v9.1
 refine (timesF_spec (one:=fltRd) (I:=fun rd=>Bytes rd.bs) (fun rd h=>fltRd_bd h) (by omega) b9 (fun T rd w hI hw=>CalW.mk1 (by kernel_rfl) ((bflt_spec hI hw).use fun v w h=>⟨by rw [h.1],h.2⟩)) hw).use ?_
 clear hw
 rintro _ w ⟨sp,rfl,hw⟩
 have pl:=rdEach_len fltRd n' rd9
 obtain ⟨ps,rd10,e10⟩:∃ y rd,rdEach fltRd n' rd9=(y,rd):=⟨_,_,rfl⟩
 rw [e10] at pl hw
 dsimp only at pl hw
 have hC:cmRd rd0=({ cmHead k p f c m t with sc:=sc,lab:=lab,rows:=rows,grps:=gs,parts:=ps },rd10):=by
  rw [hcm]
  simp only [e1,e2,e3,e4,e5,e6,e7,e8,e9,e10,Int.toNat_natCast]
 clear hcm
 rw [e0] at hC
 have hdec:cmDec bs=if rdWhole rd10=true∧RightC { cmHead k p f c m t with sc:=sc,lab:=lab,rows:=rows,grps:=gs,parts:=ps } then ({ cmHead k p f c m t with sc:=sc,lab:=lab,rows:=rows,grps:=gs,parts:=ps },0) else (zeroC,6):=by unfold cmDec;rw [hC]
 obtain ⟨C,eC⟩:∃ C:Cm,C={ cmHead k p f c m t with sc:=sc,lab:=lab,rows:=rows,grps:=gs,parts:=ps }:=⟨_,rfl⟩
 refine ⟨sp,rfl,(hw.arr (Hs':=RdAt r rd10::brC b4 r::Own sp 33 (flts ps)::Own sg 3 (intsI gs)::cmC b { cmHead k p f c m t with sc:=sc,lab:=lab,rows:=rows,grps:=gs } sg nilSl::cmNew b2::Hs))|>tru2,NilP.mk rfl ?_⟩
 refine store_rule hw (by kernel_rfl) rfl (by simp [Value.cells]) fun w hw=>?_
 have hw:=hw.re (cmC b { cmHead k p f c m t with sc:=sc,lab:=lab,rows:=rows,grps:=gs,parts:=ps } sg sp)
 rw [←eC] at hdec hw
 have eg:C.grps=gs:=by rw [eC]
 have ep:C.parts=ps:=by rw [eC]
 rw [←eg] at hw gl
 rw [←ep] at hw pl
 clear eC hC eg ep e1 e2 e3 e4 e5 e6 e7 e8 e9 e10 b0 b1 b2' b3 b4' b5 b6 b7 b8' b9 l0 l1 l2 l3 l4 l5 l6
 have hw:Sat R (RdAt r rd10::brC b4 r::cmC b C sg sp::Own sp 33 (flts C.parts)::Own sg 3 (intsI C.grps)::cmNew b2::Hs) w:=hw.arr
 refine ⟨some ⟨r,0,none⟩,At.own (eqS hw) (by exact ⟨rfl,trivial⟩),?_⟩
 refine (whole_spec hw).use ?_
 clear hw
 rintro _ w ⟨rfl,hw⟩
 refine ⟨_,rfl,?_⟩
 have no:cmDec bs=(zeroC,6)→∀ {w},Sat R (cmNew b2::Hs) w→∃ sg sp:Sl,Value.tuple #[.agg (cmV zeroC nilSl nilSl).toArray,.int .i64 6]=.tuple #[.agg (cmV (cmDec bs).1 sg sp).toArray,.int .i64 (cmDec bs).2]∧Sat R (Own sg 3 (intsI (cmDec bs).1.grps)::Own sp 33 (flts (cmDec bs).1.parts)::Hs) w:=fun e {w} hw=>by
  rw [e]
  exact ⟨nilSl,nilSl,rfl,Own.nil (Own.nil hw.drop)⟩
 refine Br.nb (fun h=>?_) (fun h=>?_)
 ·have hw:Sat R (cmNew b2::Hs) w:=hw.drop.drop.drop.drop.drop
  refine store_rule hw (by kernel_rfl) rfl (by simp [Value.cells]) fun w hw=>?_
  have hw:=hw.re (cmNew b2)
  refine ⟨_,_,_,_,_,_,_,_,_,nilSl,nilSl,At.own (eqS hw) (by exact ⟨rfl,rfl,rfl,rfl,rfl,rfl,rfl,rfl,rfl,rfl,rfl,trivial⟩),no ?_ hw⟩
  rw [hdec,if_neg (by rintro ⟨h1,_⟩;rw [h1] at h;cases h)]
 refine NilP.mk rfl ⟨C.kind,C.pnr,C.flt,C.cls,C.many,C.time,C.sc,C.lab,C.rows,sg,sp,At.own (eqS hw) (by exact ⟨rfl,rfl,rfl,rfl,rfl,rfl,rfl,rfl,rfl,rfl,rfl,trivial⟩),?_⟩
 have hw:Sat R (Own sg 3 (intsI C.grps)::RdAt r rd10::brC b4 r::cmC b C sg sp::Own sp 33 (flts C.parts)::cmNew b2::Hs) w:=hw.arr
 have sl:=Own.len (hw.arr (Hs':=Own sp 33 (flts C.parts)::Own sg 3 (intsI C.grps)::RdAt r rd10::brC b4 r::cmC b C sg sp::cmNew b2::Hs))
 obtain ⟨R',hr,_,hw,back⟩:=Own.lendI hw (by omega)
 refine (bright_spec hr (by omega) (by simpa using sl) hw).use ?_
 clear hw
 rintro _ w ⟨rfl,hw⟩
 have hw:=back hw
 refine ⟨_,rfl,Br.nb (fun h2=>?_) (fun h2=>?_)⟩
 ·have hw:Sat R (cmNew b2::Hs) w:=hw.drop.drop.drop.drop.drop
  refine store_rule hw (by kernel_rfl) rfl (by simp [Value.cells]) fun w hw=>?_
  have hw:=hw.re (cmNew b2)
  refine ⟨_,_,_,_,_,_,_,_,_,nilSl,nilSl,At.own (eqS hw) (by exact ⟨rfl,rfl,rfl,rfl,rfl,rfl,rfl,rfl,rfl,rfl,rfl,trivial⟩),no ?_ hw⟩
  rw [hdec,if_neg (by rintro ⟨_,h1⟩;rw [decide_eq_true h1] at h2;cases h2)]
 refine NilP.mk rfl ⟨C.kind,C.pnr,C.flt,C.cls,C.many,C.time,C.sc,C.lab,C.rows,sg,sp,At.own (eqS hw) (by exact ⟨rfl,rfl,rfl,rfl,rfl,rfl,rfl,rfl,rfl,rfl,rfl,trivial⟩),?_⟩
 have hw:Sat R (cmNew b2::Own sg 3 (intsI C.grps)::RdAt r rd10::brC b4 r::cmC b C sg sp::Own sp 33 (flts C.parts)::Hs) w:=hw.arr
 refine store_rule hw (by kernel_rfl) rfl (by simp [Value.cells]) fun w hw=>?_
 have hw:=hw.re (cmC b2 C sg sp)
 refine ⟨C.kind,C.pnr,C.flt,C.cls,C.many,C.time,C.sc,C.lab,C.rows,sg,sp,At.own (eqS hw) (by exact ⟨rfl,rfl,rfl,rfl,rfl,rfl,rfl,rfl,rfl,rfl,rfl,trivial⟩),?_⟩
 rw [hdec,if_pos ⟨h,of_decide_eq_true h2⟩]
 exact ⟨sg,sp,rfl,hw.drop.cons fun _ h=>(h.arr (Hs':=Own sp 33 (flts C.parts)::RdAt r rd10::brC b4 r::cmC b C sg sp::Hs)).cons fun _ h=>h.drop.drop.drop⟩
end Go.Proofs.YtfgbbckfikiomaaGreatDoor
/- Package booking: Read. Condition: bounds on lengths. -/
namespace Go.Proofs.YtfgbbckfikiomaaGreatDoor
set_option linter.unusedVariables false
open Go Go.VC
open Classical
variable {R:Cx} {Hs Rest:List HP} {w:World}
abbrev rpHead (k:Int) (p:ByteArray) (s f c m t:Int):Rp:=⟨k,p,s,f,c,m,t,[],[]⟩
abbrev rpNew (b:Nat):HP:=rpC b (rpHead 0 (ByteArray.mk #[]) 0 0 0 0 0) nilSl nilSl
abbrev MI:Int:=1099511627776
theorem brn_spec {b r:Nat} {rd:Rd} (hb:Bytes rd.bs) (hw:Sat R (RdAt r rd::brC b r::Hs) w):
  Gets Tryz.prog 77 #[.pointer (some ⟨b,0,none⟩)] w fun v w'=>v=.int .i64 (rdNum MI rd).1∧Sat R (RdAt r (rdNum MI rd).2::brC b r::Hs) w':=by
 apply call77
 have hw2:Sat R (brC b r::RdAt r rd::Hs) w:=hw.swap
 refine NilP.mk rfl ⟨some ⟨r,0,none⟩,At.own (eqS hw2) (by exact ⟨rfl,trivial⟩),?_⟩
 refine (bnum_spec (most:=MI) hb (by decide) (by decide) hw).use ?_
 rintro _ w ⟨rfl,hw⟩
 exact ⟨_,rfl,rfl,hw⟩
theorem brs_spec {b r:Nat} {rd:Rd} (hb:Bytes rd.bs) (hl:rd.bs.length≤1099511627776) (hw:Sat R (RdAt r rd::brC b r::Hs) w):
  Gets Tryz.prog 82 #[.pointer (some ⟨b,0,none⟩)] w fun v w'=>v=.string (strRd 16 rd).1∧Sat R (RdAt r (strRd 16 rd).2::brC b r::Hs) w':=by
 apply call82
 have hw2:Sat R (brC b r::RdAt r rd::Hs) w:=hw.swap
 refine NilP.mk rfl ⟨some ⟨r,0,none⟩,At.own (eqS hw2) (by exact ⟨rfl,trivial⟩),?_⟩
 refine (bstr_spec (most:=16) hb hl (by omega) hw).use ?_
 rintro _ w ⟨rfl,hw⟩
 exact ⟨_,rfl,rfl,hw⟩
section
variable (S:World→Prop) (J:Option Addr→World→Prop) (b4 b:Nat) (r:Option Addr)
def rT7 (k:Int) (p:ByteArray) (s f c m t:Int) (w:World):Prop:=
 ∃ w':World,((Instr.storeAt 31 (.pointer (some ⟨b,0,none⟩)) (.agg #[.int .i64 k,.string p,.int .i64 s,.int .i64 f,.int .i64 c,.int .i64 m,.int .i64 t,.slice none 0 0,.slice none 0 0])).run Tryz.prog w=.ok () w')∧J (some ⟨b,0,none⟩) w'
def rT6 (k:Int) (p:ByteArray) (s f c m:Int) (w:World):Prop:=
 Calls Tryz.prog 77 #[.pointer (some ⟨b4,0,none⟩)] w fun e w'=>∃ x:Int,(e=.returned (.int .i64 x))∧S w'∧rT7 J b k p s f c m x w'
def rT5 (k:Int) (p:ByteArray) (s f c:Int) (w:World):Prop:=
 Calls Tryz.prog 77 #[.pointer (some ⟨b4,0,none⟩)] w fun e w'=>∃ x:Int,(e=.returned (.int .i64 x))∧S w'∧rT6 S J b4 b k p s f c x w'
def rT4 (k:Int) (p:ByteArray) (s f:Int) (w:World):Prop:=
 Calls Tryz.prog 77 #[.pointer (some ⟨b4,0,none⟩)] w fun e w'=>∃ x:Int,(e=.returned (.int .i64 x))∧S w'∧rT5 S J b4 b k p s f x w'
def rT3 (k:Int) (p:ByteArray) (s:Int) (w:World):Prop:=
 Calls Tryz.prog 77 #[.pointer (some ⟨b4,0,none⟩)] w fun e w'=>∃ x:Int,(e=.returned (.int .i64 x))∧S w'∧rT4 S J b4 b k p s x w'
def rT2 (k:Int) (p:ByteArray) (w:World):Prop:=
 Calls Tryz.prog 77 #[.pointer (some ⟨b4,0,none⟩)] w fun e w'=>∃ x:Int,(e=.returned (.int .i64 x))∧S w'∧rT3 S J b4 b k p x w'
def rT1 (k:Int) (w:World):Prop:=
 Calls Tryz.prog 79 #[.agg #[.pointer r],.int .i64 16] w fun e w'=>∃ t:ByteArray,(e=.returned (.string t))∧rT2 S J b4 b k t w'
def rT0 (w:World):Prop:=
 Calls Tryz.prog 77 #[.pointer (some ⟨b4,0,none⟩)] w fun e w'=>∃ t:Int,(e=.returned (.int .i64 t))∧S w'∧rT1 S J b4 b r t w'
end
section
variable {J:Option Addr→World→Prop} {b4 b r:Nat} {rd:Rd} {k s f c m t:Int} {p:ByteArray}
theorem rT7_ok (hJ:∀ {w},Sat R (rpC b (rpHead k p s f c m t) nilSl nilSl::RdAt r rd::brC b4 r::Hs) w→J (some ⟨b,0,none⟩) w) (hw:Sat R (RdAt r rd::brC b4 r::rpNew b::Hs) w):rT7 J b k p s f c m t w:=by
 have hw:Sat R (rpNew b::RdAt r rd::brC b4 r::Hs) w:=hw.arr
 refine store_rule hw (by kernel_rfl) rfl (by simp [Value.cells]) fun w hw=>?_
 exact hJ (hw.re (rpC b (rpHead k p s f c m t) nilSl nilSl))
theorem rT6_ok (hb:Bytes rd.bs) (hJ:∀ {w},Sat R (rpC b (rpHead k p s f c m (rdNum MI rd).1) nilSl nilSl::RdAt r (rdNum MI rd).2::brC b4 r::Hs) w→J (some ⟨b,0,none⟩) w)
  (hw:Sat R (RdAt r rd::brC b4 r::rpNew b::Hs) w):rT6 (Sat R [brC b4 r,VC.tru]) J b4 b k p s f c m w:=by
 refine (brn_spec hb hw).use ?_
 rintro _ w ⟨rfl,hw⟩
 exact ⟨_,rfl,tru2 hw,rT7_ok hJ hw⟩
theorem rT5_ok (hb:Bytes rd.bs) (hJ:∀ {w},Sat R (rpC b (rpHead k p s f c (rdNum MI rd).1 (rdNum MI (rdNum MI rd).2).1) nilSl nilSl::RdAt r (rdNum MI (rdNum MI rd).2).2::brC b4 r::Hs) w→J (some ⟨b,0,none⟩) w)
  (hw:Sat R (RdAt r rd::brC b4 r::rpNew b::Hs) w):rT5 (Sat R [brC b4 r,VC.tru]) J b4 b k p s f c w:=by
 refine (brn_spec hb hw).use ?_
 rintro _ w ⟨rfl,hw⟩
 exact ⟨_,rfl,tru2 hw,rT6_ok (rdNum_bd hb) hJ hw⟩
theorem rT4_ok (hb:Bytes rd.bs) (hJ:∀ {w},Sat R (rpC b (rpHead k p s f (rdNum MI rd).1 (rdNum MI (rdNum MI rd).2).1 (rdNum MI (rdNum MI (rdNum MI rd).2).2).1) nilSl nilSl::RdAt r (rdNum MI (rdNum MI (rdNum MI rd).2).2).2::brC b4 r::Hs) w→J (some ⟨b,0,none⟩) w)
  (hw:Sat R (RdAt r rd::brC b4 r::rpNew b::Hs) w):rT4 (Sat R [brC b4 r,VC.tru]) J b4 b k p s f w:=by
 refine (brn_spec hb hw).use ?_
 rintro _ w ⟨rfl,hw⟩
 exact ⟨_,rfl,tru2 hw,rT5_ok (rdNum_bd hb) hJ hw⟩
theorem rT3_ok (hb:Bytes rd.bs) (hJ:∀ {w},Sat R (rpC b (rpHead k p s (rdNum MI rd).1 (rdNum MI (rdNum MI rd).2).1 (rdNum MI (rdNum MI (rdNum MI rd).2).2).1 (rdNum MI (rdNum MI (rdNum MI (rdNum MI rd).2).2).2).1) nilSl nilSl::RdAt r (rdNum MI (rdNum MI (rdNum MI (rdNum MI rd).2).2).2).2::brC b4 r::Hs) w→J (some ⟨b,0,none⟩) w)
  (hw:Sat R (RdAt r rd::brC b4 r::rpNew b::Hs) w):rT3 (Sat R [brC b4 r,VC.tru]) J b4 b k p s w:=by
 refine (brn_spec hb hw).use ?_
 rintro _ w ⟨rfl,hw⟩
 exact ⟨_,rfl,tru2 hw,rT4_ok (rdNum_bd hb) hJ hw⟩
theorem rT2_ok (hb:Bytes rd.bs) (hJ:∀ {w},Sat R (rpC b (rpHead k p (rdNum MI rd).1 (rdNum MI (rdNum MI rd).2).1 (rdNum MI (rdNum MI (rdNum MI rd).2).2).1 (rdNum MI (rdNum MI (rdNum MI (rdNum MI rd).2).2).2).1 (rdNum MI (rdNum MI (rdNum MI (rdNum MI (rdNum MI rd).2).2).2).2).1) nilSl nilSl::RdAt r (rdNum MI (rdNum MI (rdNum MI (rdNum MI (rdNum MI rd).2).2).2).2).2::brC b4 r::Hs) w→J (some ⟨b,0,none⟩) w)
  (hw:Sat R (RdAt r rd::brC b4 r::rpNew b::Hs) w):rT2 (Sat R [brC b4 r,VC.tru]) J b4 b k p w:=by
 refine (brn_spec hb hw).use ?_
 rintro _ w ⟨rfl,hw⟩
 exact ⟨_,rfl,tru2 hw,rT3_ok (rdNum_bd hb) hJ hw⟩
def hd5 (rd:Rd):(Int × Int × Int × Int × Int) × Rd:=
 let s:=rdNum MI rd
 let f:=rdNum MI s.2
 let c:=rdNum MI f.2
 let m:=rdNum MI c.2
 let t:=rdNum MI m.2
 ((s.1,f.1,c.1,m.1,t.1),t.2)
abbrev JR (R:Cx) (Hs:List HP) (b4 r:Nat) (k:Int) (p:ByteArray) (x:(Int × Int × Int × Int × Int) × Rd) (c6:Option Addr) (w:World):Prop:=
 ∃ b,c6=some ⟨b,0,none⟩∧Sat R (rpC b (rpHead k p x.1.1 x.1.2.1 x.1.2.2.1 x.1.2.2.2.1 x.1.2.2.2.2) nilSl nilSl::RdAt r x.2::brC b4 r::Hs) w
abbrev rpH5 (k:Int) (p:ByteArray) (x:Int × Int × Int × Int × Int):Rp:=rpHead k p x.1 x.2.1 x.2.2.1 x.2.2.2.1 x.2.2.2.2
theorem rT1_ok (hb:Bytes rd.bs) (hl:rd.bs.length≤1099511627776) (hJ:∀ {w},Sat R (rpC b (rpH5 k (strRd 16 rd).1 (hd5 (strRd 16 rd).2).1) nilSl nilSl::RdAt r (hd5 (strRd 16 rd).2).2::brC b4 r::Hs) w→J (some ⟨b,0,none⟩) w)
  (hw:Sat R (RdAt r rd::brC b4 r::rpNew b::Hs) w):rT1 (Sat R [brC b4 r,VC.tru]) J b4 b (some ⟨r,0,none⟩) k w:=by
 refine (bstr_spec (most:=16) hb hl (by omega) hw).use ?_
 rintro _ w ⟨rfl,hw⟩
 exact ⟨_,rfl,rT2_ok (strRd_bd hb) hJ hw⟩
theorem rT0_ok (hb:Bytes rd.bs) (hl:rd.bs.length≤1099511627776) (hJ:∀ {w},Sat R (rpC b (rpH5 (rdNum MI rd).1 (strRd 16 (rdNum MI rd).2).1 (hd5 (strRd 16 (rdNum MI rd).2).2).1) nilSl nilSl::RdAt r (hd5 (strRd 16 (rdNum MI rd).2).2).2::brC b4 r::Hs) w→J (some ⟨b,0,none⟩) w)
  (hw:Sat R (RdAt r rd::brC b4 r::rpNew b::Hs) w):rT0 (Sat R [brC b4 r,VC.tru]) J b4 b (some ⟨r,0,none⟩) w:=by
 refine (brn_spec hb hw).use ?_
 rintro _ w ⟨rfl,hw⟩
 exact ⟨_,rfl,tru2 hw,rT1_ok (rdNum_bd hb) (by have:=rdNum_len (most:=MI) (rd:=rd);omega) hJ hw⟩
end
end Go.Proofs.YtfgbbckfikiomaaGreatDoor
/- Package booking: Read, the whole. Condition: bounds on lengths. -/
namespace Go.Proofs.YtfgbbckfikiomaaGreatDoor
set_option linter.unusedVariables false
open Go Go.VC
open Classical
variable {R:Cx} {Hs Rest:List HP} {w:World}
def zeroR:Rp:=rpHead 0 (ByteArray.mk #[]) 0 0 0 0 0
def rpDec (bs:List Int):Rp × Int:=if rdWhole (rpRd ⟨bs,false⟩).2=true then ((rpRd ⟨bs,false⟩).1,0) else (zeroR,6)
theorem hd5_bd {rd:Rd} (hb:Bytes rd.bs):Bytes (hd5 rd).2.bs:=rdNum_bd (rdNum_bd (rdNum_bd (rdNum_bd (rdNum_bd hb))))
theorem hd5_len {rd:Rd}:(hd5 rd).2.bs.length≤rd.bs.length:=Nat.le_trans rdNum_len (Nat.le_trans rdNum_len (Nat.le_trans rdNum_len (Nat.le_trans rdNum_len rdNum_len)))
theorem rpRd_hd (r:Rd):rpRd r=
 let k:=rdNum MI r
 let p:=strRd 16 k.2
 let h:=hd5 p.2
 let n:=rdNum 8 h.2
 let g:=rdEach (rdNum MI) n.1.toNat n.2
 let q:=rdNum 600 g.2
 let x:=rdEach (strRd 16) q.1.toNat q.2
 (⟨k.1,p.1,h.1.1,h.1.2.1,h.1.2.2.1,h.1.2.2.2.1,h.1.2.2.2.2,g.1,x.1⟩,x.2):=rfl
set_option maxHeartbeats 1000000 in
theorem bread_spec {s:Sl} {bs:List Int} (hb:Bytes bs) (hl:bs.length≤1099511627776) (hs:Ro R s (b8 bs)) (hw:Sat R Hs w):
  Gets Tryz.prog 26 #[.slice s.a s.len s.cap] w fun v w'=>∃ sl sb:Sl,v=.tuple #[.agg (rpV (rpDec bs).1 sl sb).toArray,.int .i64 (rpDec bs).2]∧Sat R (Own sl 3 (intsI (rpDec bs).1.left)::Own sb 9 (strs (rpDec bs).1.labs)::Hs) w':=by
 apply call26
 have b0:Bytes (⟨bs,false⟩:Rd).bs:=hb
 have l0:(⟨bs,false⟩:Rd).bs.length≤1099511627776:=hl
 have hcm:=rpRd_hd ⟨bs,false⟩
 obtain ⟨rd0,e0⟩:∃ rd:Rd,rd=⟨bs,false⟩:=⟨_,rfl⟩
 rw [←e0] at b0 l0 hcm
 have b1:=rdNum_bd (most:=MI) b0
 have l1:(rdNum MI rd0).2.bs.length≤1099511627776:=Nat.le_trans rdNum_len l0
 refine new_rule hw fun b2 w hw=>?_
 have hw:Sat R (rpNew b2::Hs) w:=hw
 refine (fnew_spec hs hl hw).use ?_
 clear hw
 rintro _ w ⟨r,rfl,hw⟩
 refine ⟨_,rfl,?_⟩
 rw [←e0] at hw
 refine new_rule hw fun b4 w hw=>?_
 refine store_rule hw (by kernel_rfl) rfl (by simp [Value.cells]) fun w hw=>?_
 have hw:Sat R (RdAt r rd0::brC b4 r::rpNew b2::Hs) w:=hw.re (brC b4 r)|>.swap
 refine ⟨JR R (rpNew b2::Hs) b4 r (rdNum MI rd0).1 (strRd 16 (rdNum MI rd0).2).1 (hd5 (strRd 16 (rdNum MI rd0).2).2),?_,?_⟩
 ·refine drw_rule' (Sat R [brC b4 r,VC.tru]) hw (fun w hw=>tru2 hw) fun w hw=>?_
  clear hcm
  refine ⟨_,At.own (fun _ h=>h) (by exact ⟨rfl,trivial⟩),?_⟩
  refine ⟨?_,new_rule hw fun b w hw=>⟨tru3 hw,rT0_ok b0 l0 (fun hw=>⟨b,rfl,hw⟩) (hw.arr (Hs':=RdAt r rd0::brC b4 r::rpNew b::rpNew b2::Hs))⟩⟩
  refine (brn_spec b0 hw).use ?_
  clear hw
  rintro _ w ⟨rfl,hw⟩
  refine ⟨_,rfl,tru2 hw,?_⟩
  generalize (rdNum MI rd0).1=k at *
  generalize (rdNum MI rd0).2=rd1 at *
  refine ⟨?_,new_rule hw fun b w hw=>⟨tru3 hw,rT1_ok b1 l1 (fun hw=>⟨b,rfl,hw⟩) (hw.arr (Hs':=RdAt r rd1::brC b4 r::rpNew b::rpNew b2::Hs))⟩⟩
  have c2:=strRd_bd (most:=16) b1
  refine (bstr_spec (most:=16) b1 l1 (by omega) hw).use ?_
  clear hw
  rintro _ w ⟨rfl,hw⟩
  refine ⟨_,rfl,?_⟩
  generalize (strRd 16 rd1).1=p at *
  generalize (strRd 16 rd1).2=rd2 at *
  refine ⟨?_,new_rule hw fun b w hw=>⟨tru3 hw,rT2_ok c2 (fun hw=>⟨b,rfl,hw⟩) (hw.arr (Hs':=RdAt r _::brC b4 r::rpNew b::rpNew b2::Hs))⟩⟩
  have c3:=rdNum_bd (most:=MI) c2
  refine (brn_spec c2 hw).use ?_
  clear hw
  rintro _ w ⟨rfl,hw⟩
  refine ⟨_,rfl,tru2 hw,?_⟩
  refine ⟨?_,new_rule hw fun b w hw=>⟨tru3 hw,rT3_ok c3 (fun hw=>⟨b,rfl,hw⟩) (hw.arr (Hs':=RdAt r _::brC b4 r::rpNew b::rpNew b2::Hs))⟩⟩
  have c4:=rdNum_bd (most:=MI) c3
  refine (brn_spec c3 hw).use ?_
  clear hw
  rintro _ w ⟨rfl,hw⟩
  refine ⟨_,rfl,tru2 hw,?_⟩
  refine ⟨?_,new_rule hw fun b w hw=>⟨tru3 hw,rT4_ok c4 (fun hw=>⟨b,rfl,hw⟩) (hw.arr (Hs':=RdAt r _::brC b4 r::rpNew b::rpNew b2::Hs))⟩⟩
  have c5:=rdNum_bd (most:=MI) c4
  refine (brn_spec c4 hw).use ?_
  clear hw
  rintro _ w ⟨rfl,hw⟩
  refine ⟨_,rfl,tru2 hw,?_⟩
  refine ⟨?_,new_rule hw fun b w hw=>⟨tru3 hw,rT5_ok c5 (fun hw=>⟨b,rfl,hw⟩) (hw.arr (Hs':=RdAt r _::brC b4 r::rpNew b::rpNew b2::Hs))⟩⟩
  have c6:=rdNum_bd (most:=MI) c5
  refine (brn_spec c5 hw).use ?_
  clear hw
  rintro _ w ⟨rfl,hw⟩
  refine ⟨_,rfl,tru2 hw,?_⟩
  refine ⟨?_,new_rule hw fun b w hw=>⟨tru3 hw,rT6_ok c6 (fun hw=>⟨b,rfl,hw⟩) (hw.arr (Hs':=RdAt r _::brC b4 r::rpNew b::rpNew b2::Hs))⟩⟩
  have c7:=rdNum_bd (most:=MI) c6
  refine (brn_spec c6 hw).use ?_
  clear hw
  rintro _ w ⟨rfl,hw⟩
  refine ⟨_,rfl,tru2 hw,?_⟩
  have hw:Sat R (RdAt r (hd5 rd2).2::brC b4 r::rpNew b2::Hs) w:=hw
  exact new_rule hw fun b w hw=>⟨tru3 hw,rT7_ok (fun hw=>⟨b,rfl,hw⟩) (hw.arr (Hs':=RdAt r _::brC b4 r::rpNew b::rpNew b2::Hs))⟩
 clear hw
 obtain ⟨k,rd1,e1⟩:∃ y rd,rdNum MI rd0=(y,rd):=⟨_,_,rfl⟩
 rw [e1] at b1 l1 ⊢
 dsimp only at b1 l1 ⊢
 have c2:=strRd_bd (most:=16) b1
 have l2:(strRd 16 rd1).2.bs.length≤1099511627776:=Nat.le_trans strRd_len l1
 obtain ⟨p,rd2,e2⟩:∃ y rd,strRd 16 rd1=(y,rd):=⟨_,_,rfl⟩
 rw [e2] at c2 l2 ⊢
 dsimp only at c2 l2 ⊢
 have b3:=hd5_bd c2
 have l3:(hd5 rd2).2.bs.length≤1099511627776:=Nat.le_trans hd5_len l2
 obtain ⟨⟨st,f,c,m,t⟩,rd3,e3⟩:∃ y rd,hd5 rd2=(y,rd):=⟨_,_,rfl⟩
 rw [e3] at b3 l3 ⊢
 dsimp only at b3 l3 ⊢
 rintro _ _ w ⟨b,rfl,hw⟩
 have hw:Sat R (RdAt r rd3::brC b4 r::rpC b (rpHead k p st f c m t) nilSl nilSl::rpNew b2::Hs) w:=hw.arr
 have b7:=rdNum_bd (most:=8) b3
 have v7:=rdNum_val (most:=8) b3 (by omega)
 have l7:(rdNum 8 rd3).2.bs.length≤1099511627776:=Nat.le_trans rdNum_len l3
 obtain ⟨n7,rd7,e7⟩:∃ y rd,rdNum 8 rd3=(y,rd):=⟨_,_,rfl⟩
 refine ⟨some ⟨r,0,none⟩,At.own (eqS hw) (by exact ⟨rfl,trivial⟩),?_⟩
 refine (bnum_spec (most:=8) b3 (by omega) (by omega) hw).use ?_
 clear hw
 rintro _ w ⟨rfl,hw⟩
 rw [e7] at b7 v7 l7 hw ⊢
 dsimp only at b7 v7 l7 hw ⊢
 refine ⟨_,rfl,?_⟩
 obtain ⟨n,rfl⟩:=Int.eq_ofNat_of_zero_le v7.1
 have b8':=(rdEach_inv (one:=rdNum MI) (P:=fun r=>Bytes r.bs∧r.bs.length≤1099511627776) (Q:=fun _=>True) (fun r hr=>⟨trivial,rdNum_bd hr.1,Nat.le_trans rdNum_len hr.2⟩) n ⟨b7,l7⟩).2
 refine (timesI_spec (one:=rdNum MI) (I:=fun rd=>Bytes rd.bs) (fun rd h=>rdNum_bd h) (by omega) b7 (fun T rd w hI hw=>CalW.mk (by kernel_rfl) ((brn_spec hI (hw.arr (Hs':=RdAt r rd::brC b4 r::T::rpC b (rpHead k p st f c m t) nilSl nilSl::rpNew b2::Hs))).use fun v w h=>⟨by rw [h.1],h.2.arr⟩)) hw).use ?_
 clear hw
 rintro _ w ⟨sg,rfl,hw⟩
 have gl:=rdEach_len (rdNum MI) n rd7
 obtain ⟨gs,rd8,e8⟩:∃ y rd,rdEach (rdNum MI) n rd7=(y,rd):=⟨_,_,rfl⟩
 rw [e8] at gl b8' hw
 dsimp only at gl b8' hw
 obtain ⟨b8'',l8⟩:=b8'
 refine ⟨sg,rfl,NilP.mk rfl ?_⟩
 refine store_rule hw (by kernel_rfl) rfl (by simp [Value.cells]) fun w hw=>?_
 have hw:Sat R (RdAt r rd8::brC b4 r::Own sg 3 (intsI gs)::rpC b { rpHead k p st f c m t with left:=gs } sg nilSl::rpNew b2::Hs) w:=(hw.re (rpC b { rpHead k p st f c m t with left:=gs } sg nilSl)).arr
 have b9:=rdNum_bd (most:=600) b8''
 have v9:=rdNum_val (most:=600) b8'' (by omega)
 have l9:(rdNum 600 rd8).2.bs.length≤1099511627776:=Nat.le_trans rdNum_len l8
 obtain ⟨n9,rd9,e9⟩:∃ y rd,rdNum 600 rd8=(y,rd):=⟨_,_,rfl⟩
 refine ⟨some ⟨r,0,none⟩,At.own (eqS hw) (by exact ⟨rfl,trivial⟩),?_⟩
 refine (bnum_spec (most:=600) b8'' (by omega) (by omega) hw).use ?_
 clear hw
 rintro _ w ⟨rfl,hw⟩
 rw [e9] at b9 v9 l9 hw ⊢
 dsimp only at b9 v9 l9 hw ⊢
 refine ⟨_,rfl,?_⟩
 obtain ⟨n',rfl⟩:=Int.eq_ofNat_of_zero_le v9.1
 refine (timesS_spec (one:=strRd 16) (I:=fun rd=>Bytes rd.bs∧rd.bs.length≤1099511627776) (fun rd h=>⟨strRd_bd h.1,Nat.le_trans strRd_len h.2⟩) (by omega) ⟨b9,l9⟩ (fun T rd w hI hw=>CalW.mk (by kernel_rfl) ((brs_spec hI.1 hI.2 (hw.arr (Hs':=RdAt r rd::brC b4 r::T::Own sg 3 (intsI gs)::rpC b { rpHead k p st f c m t with left:=gs } sg nilSl::rpNew b2::Hs))).use fun v w h=>⟨by rw [h.1],h.2.arr⟩)) hw).use ?_
 clear hw
 rintro _ w ⟨sp,rfl,hw⟩
 obtain ⟨ps,rd10,e10⟩:∃ y rd,rdEach (strRd 16) n' rd9=(y,rd):=⟨_,_,rfl⟩
 rw [e10] at hw
 dsimp only at hw
 have hC:rpRd rd0=({ rpHead k p st f c m t with left:=gs,labs:=ps },rd10):=by
  rw [hcm]
  simp only [e1,e2,e3,e7,e8,e9,e10,Int.toNat_natCast]
 clear hcm
 rw [e0] at hC
 have hdec:rpDec bs=if rdWhole rd10=true then ({ rpHead k p st f c m t with left:=gs,labs:=ps },0) else (zeroR,6):=by unfold rpDec;rw [hC]
 obtain ⟨C,eC⟩:∃ C:Rp,C={ rpHead k p st f c m t with left:=gs,labs:=ps }:=⟨_,rfl⟩
 refine ⟨sp,rfl,NilP.mk rfl ?_⟩
 refine store_rule hw (by kernel_rfl) rfl (by simp [Value.cells]) fun w hw=>?_
 have hw:=hw.re (rpC b { rpHead k p st f c m t with left:=gs,labs:=ps } sg sp)
 rw [←eC] at hdec hw
 have eg:C.left=gs:=by rw [eC]
 have ep:C.labs=ps:=by rw [eC]
 rw [←eg] at hw
 rw [←ep] at hw
 clear eC hC eg ep e1 e2 e3 e7 e8 e9 e10 b0 b1 c2 b3 b7 b8'' b9 l0 l1 l2 l3 l7 l8 l9
 have hw:Sat R (RdAt r rd10::brC b4 r::rpC b C sg sp::Own sp 9 (strs C.labs)::Own sg 3 (intsI C.left)::rpNew b2::Hs) w:=hw.arr
 refine ⟨some ⟨r,0,none⟩,At.own (eqS hw) (by exact ⟨rfl,trivial⟩),?_⟩
 refine (whole_spec hw).use ?_
 clear hw
 rintro _ w ⟨rfl,hw⟩
 refine ⟨_,rfl,Br.nb (fun h=>?_) (fun h=>?_)⟩
 ·have hw:Sat R (rpNew b2::Hs) w:=hw.drop.drop.drop.drop.drop
  refine store_rule hw (by kernel_rfl) rfl (by simp [Value.cells]) fun w hw=>?_
  have hw:=hw.re (rpNew b2)
  refine ⟨_,_,_,_,_,_,_,nilSl,nilSl,At.own (eqS hw) (by exact ⟨rfl,rfl,rfl,rfl,rfl,rfl,rfl,rfl,rfl,trivial⟩),?_⟩
  rw [hdec,if_neg (by rw [h];simp)]
  exact ⟨nilSl,nilSl,rfl,Own.nil (Own.nil hw.drop)⟩
 refine NilP.mk rfl ⟨C.code,C.pnr,C.state,C.flt,C.cls,C.many,C.time,sg,sp,At.own (eqS hw) (by exact ⟨rfl,rfl,rfl,rfl,rfl,rfl,rfl,rfl,rfl,trivial⟩),?_⟩
 have hw:Sat R (rpNew b2::RdAt r rd10::brC b4 r::rpC b C sg sp::Own sp 9 (strs C.labs)::Own sg 3 (intsI C.left)::Hs) w:=hw.arr
 refine store_rule hw (by kernel_rfl) rfl (by simp [Value.cells]) fun w hw=>?_
 have hw:=hw.re (rpC b2 C sg sp)
 refine ⟨C.code,C.pnr,C.state,C.flt,C.cls,C.many,C.time,sg,sp,At.own (eqS hw) (by exact ⟨rfl,rfl,rfl,rfl,rfl,rfl,rfl,rfl,rfl,trivial⟩),?_⟩
 rw [hdec,if_pos h]
 exact ⟨sg,sp,rfl,(hw.drop.arr (Hs':=Own sg 3 (intsI C.left)::Own sp 9 (strs C.labs)::RdAt r rd10::brC b4 r::rpC b C sg sp::Hs)).cons fun _ h=>h.cons fun _ h=>h.drop.drop.drop⟩
end Go.Proofs.YtfgbbckfikiomaaGreatDoor
/- Reference 18: whether a command may be; steps of its codes. Condition: bounds on lengths. -/
namespace Go.Proofs.YtfgbbckfikiomaaGreatDoor
set_option linter.unusedVariables false
open Go Go.VC
open Classical
variable {R:Cx} {Hs Rest:List HP} {w:World}
set_option maxHeartbeats 400000 in
theorem r18right_spec {c:Cm} {sg sp:Sl} (hg:RoI R sg c.grps) (hgl:c.grps.length≤100000) (hp:sp.len=c.parts.length) (hw:Sat R Hs w):
  Gets Tryz.prog 62 #[.agg #[.int .i64 c.kind,.string c.pnr,.int .i64 c.flt,.int .i64 c.cls,.int .i64 c.many,.int .i64 c.time,.float .f64 c.sc,.string c.lab,.int .i64 c.rows,.slice sg.a sg.len sg.cap,.slice sp.a sp.len sp.cap]] w fun v w'=>v=.bool (decide (RightC c))∧Sat R Hs w':=by
 have hglen:=hg.len
 apply call62
 refine new_rule hw fun b w hw=>?_
 have hw:Sat R (cmC b c sg sp::Hs) w:=hw
 refine ⟨c.flt,At.own (eqS hw) (by exact ⟨rfl,trivial⟩),c.cls,At.own (eqS hw) (by exact ⟨rfl,trivial⟩),c.many,At.own (eqS hw) (by exact ⟨rfl,trivial⟩),c.rows,At.own (eqS hw) (by exact ⟨rfl,trivial⟩),?_⟩
 refine new_rule hw fun b2 w hw=>?_
 have hw:Sat R (Own ⟨some ⟨b2,0,none⟩,4,4⟩ 3 (intsI [c.flt,c.cls,c.many,c.rows])::cmC b c sg sp::Hs) w:=own_lit hw
 obtain ⟨L,hL⟩:∃ L,L=[c.flt,c.cls,c.many,c.rows]:=⟨_,rfl⟩
 have hLl:L.length=4:=by rw [hL];rfl
 rw [←hL] at hw
 have no:¬ RightC c→∀ {w},Sat R (Own ⟨some ⟨b2,0,none⟩,4,4⟩ 3 (intsI L)::cmC b c sg sp::Hs) w→(Value.bool false=.bool (decide (RightC c))∧Sat R Hs w):=fun h w hw=>⟨by rw [decide_eq_false h],hw.drop.drop⟩
 have bad:∀ n∈L,¬ numOk n→¬ RightC c:=fun n hn h hr=>h ((right_iff.1 hr).1 n (List.mem_append.2 (.inl (by rw [←hL];exact hn))))
 refine ⟨fun i w=>∃ k:Nat,i=k∧k≤4∧(∀ n∈L.take k,numOk n)∧Sat R (Own ⟨some ⟨b2,0,none⟩,4,4⟩ 3 (intsI L)::cmC b c sg sp::Hs) w,fun i _=>4 - i.toNat,⟨0,rfl,by omega,by simp,hw⟩,?_⟩
 clear hw
 rintro _ _ w ⟨k,rfl,hk,hok,hw⟩
 refine Br.d (fun h=>?_) (fun h=>?_)
 ·have hkx:k<L.length:=by omega
  refine Own.ix (s:=⟨some ⟨b2,0,none⟩,4,4⟩) hw (eqS hw) k rfl hkx ?_
  refine Br.d (fun h2=>no (bad _ (List.getElem_mem hkx) (by unfold numOk;omega)) hw) (fun h2=>?_)
  refine Own.ix (s:=⟨some ⟨b2,0,none⟩,4,4⟩) hw (eqS hw) k rfl hkx ?_
  refine Br.d (fun h3=>no (bad _ (List.getElem_mem hkx) (by unfold numOk;omega)) hw) (fun h3=>?_)
  rw [wrap64 (by omega) (by omega)]
  refine ⟨⟨k + 1,by omega,by omega,fun n hn=>?_,hw⟩,by dsimp only;omega⟩
  rw [List.take_add_one,List.getElem?_eq_getElem hkx] at hn
  rcases List.mem_append.1 hn with hn|hn
  ·exact hok n hn
  ·rw [show n=L[k] by simpa using hn]
   unfold numOk
   omega
 rw [List.take_of_length_le (by omega)] at hok
 refine ⟨fun w=>((1≤c.kind∧c.kind≤9∧0≤c.time∧c.time≤1099511627776)∧(c.pnr.size≤16∧c.lab.size≤16)∧(c.grps.length≤16∧c.parts.length≤16))∧Sat R (Own ⟨some ⟨b2,0,none⟩,4,4⟩ 3 (intsI L)::cmC b c sg sp::Hs) w,?_,?_⟩
 ·refine ⟨c.kind,At.own (eqS hw) (by exact ⟨rfl,trivial⟩),Br.d (fun h1=>no (fun hr=>by have:=hr.kind;omega) hw) (fun h1=>?_)⟩
  refine ⟨c.kind,At.own (eqS hw) (by exact ⟨rfl,trivial⟩),Br.d (fun h2=>no (fun hr=>by have:=hr.kind;omega) hw) (fun h2=>?_)⟩
  refine ⟨c.time,At.own (eqS hw) (by exact ⟨rfl,trivial⟩),Br.d (fun h3=>no (fun hr=>by have:=hr.time;omega) hw) (fun h3=>?_)⟩
  refine ⟨c.time,At.own (eqS hw) (by exact ⟨rfl,trivial⟩),Br.d (fun h4=>no (fun hr=>by have:=hr.time;omega) hw) (fun h4=>?_)⟩
  refine ⟨c.pnr,At.own (eqS hw) (by exact ⟨rfl,trivial⟩),Br.d (fun h5=>no (fun hr=>by have:=hr.pnr;omega) hw) (fun h5=>?_)⟩
  refine ⟨c.lab,At.own (eqS hw) (by exact ⟨rfl,trivial⟩),Br.d (fun h6=>no (fun hr=>by have:=hr.lab;omega) hw) (fun h6=>?_)⟩
  refine ⟨sg,At.own (eqS hw) (by exact ⟨rfl,trivial⟩),Br.d (fun h7=>no (fun hr=>by have:=hr.gl;omega) hw) (fun h7=>?_)⟩
  refine ⟨sp,At.own (eqS hw) (by exact ⟨rfl,trivial⟩),Br.d (fun h8=>no (fun hr=>by have:=hr.pl;omega) hw) (fun h8=>?_)⟩
  exact ⟨⟨⟨by omega,by omega,by omega,by omega⟩,⟨by omega,by omega⟩,by omega,by omega⟩,hw⟩
 clear hw h hk
 rintro _ w ⟨⟨h1,h2,h3⟩,hw⟩
 refine ⟨fun i w=>∃ k:Nat,i=k∧k≤c.grps.length∧(∀ n∈c.grps.take k,numOk n)∧Sat R (Own ⟨some ⟨b2,0,none⟩,4,4⟩ 3 (intsI L)::cmC b c sg sp::Hs) w,fun i _=>c.grps.length - i.toNat,⟨0,rfl,by omega,by simp,hw⟩,?_⟩
 clear hw
 rintro _ _ w ⟨k,rfl,hk,hok2,hw⟩
 have badg:∀ n∈c.grps,¬ numOk n→¬ RightC c:=fun n hn h hr=>h (hr.grps n hn)
 refine ⟨sg,At.own (eqS hw) (by exact ⟨rfl,trivial⟩),Br.d (fun h=>?_) (fun h=>?_)⟩
 ·have hkx:k<c.grps.length:=by omega
  refine ⟨sg,At.own (eqS hw) (by exact ⟨rfl,trivial⟩),Ro.ix hg (eqS hw) k rfl hkx ?_⟩
  refine Br.d (fun h2=>no (badg _ (List.getElem_mem hkx) (by unfold numOk;omega)) hw) (fun h2=>?_)
  refine ⟨sg,At.own (eqS hw) (by exact ⟨rfl,trivial⟩),Ro.ix hg (eqS hw) k rfl hkx ?_⟩
  refine Br.d (fun h3=>no (badg _ (List.getElem_mem hkx) (by unfold numOk;omega)) hw) (fun h3=>?_)
  rw [wrap64 (by omega) (by omega)]
  refine ⟨⟨k + 1,by omega,by omega,fun n hn=>?_,hw⟩,by dsimp only;omega⟩
  rw [List.take_add_one,List.getElem?_eq_getElem hkx] at hn
  rcases List.mem_append.1 hn with hn|hn
  ·exact hok2 n hn
  ·rw [show n=c.grps[k] by simpa using hn]
   unfold numOk
   omega
 ·rw [List.take_of_length_le (by omega)] at hok2
  refine ⟨?_,hw.drop.drop⟩
  rw [decide_eq_true]
  refine right_iff.2 ⟨fun n hn=>?_,h2,h3,h1⟩
  rcases List.mem_append.1 hn with hn|hn
  ·exact hok n (by rw [hL];exact hn)
  ·exact hok2 n hn
theorem app8 {s t:Sl} {a b:List Int} {K:Sl→World→Prop} (hl:a.length + b.length≤1099511627776) (hw:Sat R (Own t 5 (b8 b)::Own s 5 (b8 a)::Hs) w)
  (k:∀ s2 w',Sat R (Own s2 5 (b8 (a++b))::Hs) w'→K s2 w'):
  ∃ w_1:World,∃ t2:Sl,((Builtin.append_ #[ 42,42 ] 42 #[.slice s.a s.len s.cap,.slice t.a t.len t.cap]).run Tryz.prog w=.ok (.slice t2.a t2.len t2.cap) w_1)∧K t2 w_1:=
 appendOO elB8 (s:=s) (n:=1099511627776) Tryz.underlying42 hw.swap (by omega) (by omega) (by omega) fun s2 w hw=>k s2 w (hw.swap.drop)
theorem rlit_spec {b n:Nat} {xs:List Int} (hn:n=xs.length) (hxs:∀ x∈xs,x<9223372036854775808) (hl:9 * xs.length≤1099511627776) (hw:Sat R (pts b (.cells (intsI xs).toArray 3 (0,0))::Hs) w):
  Gets Tryz.prog 71 #[.slice (some ⟨b,0,none⟩) n n] w fun v w'=>∃ t:Sl,v=.slice t.a t.len t.cap∧Sat R (Own t 5 (b8 (numsB (xs.map nn)))::Hs) w':=by
 have hw:Sat R (Own ⟨some ⟨b,0,none⟩,n,n⟩ 3 (intsI xs)::Hs) w:=own_lit hw (by rw [List.length_map];exact hn)
 obtain ⟨R',hr,_,hw,back⟩:=Own.lendI hw (by omega)
 refine (r18nums_spec hxs hl hr hw).use ?_
 rintro _ w ⟨t,rfl,hw⟩
 exact ⟨_,rfl,t,rfl,(back hw).swap.cons fun _ h=>h.drop⟩
theorem rstr_rule {s:ByteArray} {K:Sl→World→Prop} (hl:s.size≤1099511627776) (hw:Sat R Hs w) (k:∀ t w',Sat R (Own t 5 (b8 (strB s))::Hs) w'→K t w'):
  ∃ w_1:World,∃ t:Sl,((convert 9 42 (.string s)).run Tryz.prog w=.ok (.slice t.a t.len t.cap) w_1)∧
   Calls Tryz.prog 72 #[.slice t.a t.len t.cap] w_1 fun e w_2=>∃ t2:Sl,(e=.returned (.slice t2.a t2.len t2.cap))∧K t2 w_2:=by
 refine convB_rule Tryz.underlying9 Tryz.underlying42 Tryz.underlying5 hw fun t w hw=>?_
 have hsz:=bytesL_len s
 obtain ⟨R',hr,_,hw,back⟩:=Own.lend hw (by rw [List.length_map];omega)
 refine (rtextB_spec hr (by omega) hw).use ?_
 rintro _ w ⟨t2,rfl,hw⟩
 exact ⟨t2,rfl,k _ _ ((back hw).swap.cons fun _ h=>h.drop)⟩
theorem rflt_rule {x:Nat} {K:Sl→World→Prop} (hx:x<18446744073709551616) (hw:Sat R Hs w) (k:∀ t w',Sat R (Own t 5 (b8 (fltB x))::Hs) w'→K t w'):
  Calls Tryz.prog 89 #[.float .f64 x] w fun e w'=>∃ y:Int,(e=.returned (.int .u64 y))∧
   Calls Tryz.prog 88 #[.int .u64 y] w' fun e w'=>∃ t2:Sl,(e=.returned (.slice t2.a t2.len t2.cap))∧K t2 w':=by
 refine (rkey_spec hx hw).use ?_
 rintro _ w ⟨rfl,hw⟩
 refine ⟨_,rfl,?_⟩
 refine (rnumber_spec (key_lt hx) hw).use ?_
 rintro _ w ⟨t,rfl,hw⟩
 exact ⟨t,rfl,k _ _ hw⟩
end Go.Proofs.YtfgbbckfikiomaaGreatDoor
