/- The formulas of functions of this seat's translation, printed by a program of mine off the translation; each is proved equal to 'fnF' of the function's body, so it is enough for the call. No condition. -/
import Derived.Test.YtlplemdmegpoeaaGreatDoorB4
import Derived.Test.YtlplemdmegpoeaaGreatDoorB2
import Derived.Test.YtlplemdmegpoeaaGreatDoorB1
import Derived.ProofKit
import Derived.OpenShut
import Derived.ShutString
import Derived.ChangeOld
import Derived.Below
import Derived.Lib.SmallJoins
import Derived.Test.YtlplemdmegpoeaaGreatDoorB3
import Derived.Maps.RangeRun
import Derived.Lib.Overlaps
set_option linter.unusedVariables false
set_option linter.unusedSimpArgs false
namespace Go.Proofs.YtlplemdmegpoeaaGreatDoor
section
open Go Go.VC Tryz
set_option maxRecDepth 10000
def B37 (c:Bool) (b:Int) (a:List PanicEntry->World->Prop) (K:Value->World->Prop) (w:World):Prop:=
 Br (!c)
 (a [⟨.iface 29 (.int .i64 b),false,false⟩] w)
 (K (.tuple #[]) w)
theorem ZAv (c:Bool) (b:Int) (a:List PanicEntry->World->Prop) (K:Value->World->Prop) (w:World) (h:B37 c b a K w):ZaV prog 37 #[.bool c,.int .i64 b] w a K:=cqx (sk:=.leaf) h func37
def B99 (a:Int) (b:List PanicEntry->World->Prop) (K:Value->World->Prop) (w:World):Prop:=
 Br (a !=0)
 (b [⟨.iface 29 (.int .i64 a),false,false⟩] w)
 (K (.tuple #[]) w)
theorem Zz1 (b:Int) (a:List PanicEntry->World->Prop) (K:Value->World->Prop) (w:World) (h:B99 b a K w):ZaV prog 99 #[.int .i64 b] w a K:=cqx (sk:=.leaf) h func99
def B36 (g:Option Addr) (b:Value) (K:World->Prop) (w:World):Prop:=
 ∃ c:Bool,(∀ a,(λ a=>a=w) a->((do eqGuard BinOp.neq 20 (Operand.tmp 4) (Operand.const Value.nilIface) b .nilIface;binOp BinOp.neq 20 b .nilIface:Sem Value)).run prog a=.ok (.bool c) a)/\
 Br c
 (∃ d:Int,(∀ a,(λ a=>a=w) a->((Instr.typeAssert b 20 29 false)).run prog a=.ok (.int .i64 d) a)/\
 Zd g λ f=>
 ∃ e:World,(St 33 (f) (.agg #[.int .i64 d,.string (ByteArray.mk #[]),.int .i64 0,.int .i64 0,.int .i64 0,.int .i64 0,.int .i64 0,.slice none 0 0,.slice none 0 0]) w e)/\
 K e)
 (K w)
theorem Zxh (b:Option Addr) (a:Value) (K:World->Prop) (w:World) (h:B36 b a K w):CallsD prog 36 #[.pointer b] (.panicking [⟨a,false,false⟩]) w λ c d e=>(∃ f,c=.returned f)/\d=.panicking [⟨a,true,false⟩]/\K e:=
 Zhp (sk:=.leaf) Zkq mixed func36 (by kernel_rfl) (Nat.le_of_ble_eq_true (by kernel_rfl)) (cast (by kernel_rfl) h)
theorem Zxg (a:Option Addr) (K:World->Prop) (w:World) (h:B36 a .nilIface K w):CallsD prog 36 #[.pointer a] .returning w λ b c d=>(∃ e,b=.returned e)/\c=.returning/\K d:=
 ZfX (sk:=.leaf) Zkq mixed func36 (by kernel_rfl) (Nat.le_of_ble_eq_true (by kernel_rfl)) (cast (by kernel_rfl) h)
def B38 (Q:Int) (T:ByteArray) (U:Int) (V:Int) (X:Int) (Y:Int) (Z:Nat) (aa:ByteArray) (ab:Int) (r:Sl) (q:Sl) (K:Value->World->Prop) (w:World):Prop:=
 New (.cells #[.int .i64 Q,.string T,.int .i64 U,.int .i64 V,.int .i64 X,.int .i64 Y,.float .f64 Z,.string aa,.int .i64 ab,r.v,q.v] 40 (0,0)) (λ c j=>
 ∃ H,(Aw j ⟨c,0 + 2,none⟩ [.int .i64 H])/\
 ∃ u,(Aw j ⟨c,0 + 3,none⟩ [.int .i64 u])/\
 ∃ v,(Aw j ⟨c,0 + 4,none⟩ [.int .i64 v])/\
 ∃ x,(Aw j ⟨c,0 + 8,none⟩ [.int .i64 x])/\
 New (.cells #[.int .i64 H,.int .i64 u,.int .i64 v,.int .i64 x] 3 (0,0)) (λ O J=>
 ∃ g:Sl,(Aw J ⟨c,0 + 8 + 1,none⟩ [g.v])/\
 ∃ L:World,∃ i:Sl,((Builtin.append_ #[30,30] 30 #[.slice ((some ⟨O,0,none⟩)) 4 4,g.v]).run prog J=.ok (i.v) L)/\
 ∃ (n:Int->World->Prop) (M:Int->World->Nat),(n 0 L)/\∀ (ad:Env) (f:Int) (e:World),n f e->
 Br (decide (f<(↑i.len:Int)))
 (Rng f i.len (Zd i.a λ N=>
 ∃ y,(Aw e (Addr.add N f.toNat) [.int .i64 y])/\
 Calls prog 97 #[.int .i64 y] e λ ac s=>
 ∃ z,(ac=.returned (.bool z))/\
 Br z
 (K (.bool false) s)
 ((n (IntKind.i64.wrap (f + 1)) s)/\M (IntKind.i64.wrap (f + 1)) s<M f e)))
 (∃ (o:Bool->World->Prop),(∃ A,(Aw e ⟨c,0 + 1,none⟩ [.string A])/\
 Br (decide ((↑A.size:Int)<=16))
 (∃ C,(Aw e ⟨c,0 + 7,none⟩ [.string C])/\
 o (decide ((↑C.size:Int)<=16)) e)
 (o false e))/\
 ∀ (ae:Env) (I:Bool) (k:World),o I k->
 ∃ (p:Bool->World->Prop),(∃ l:Sl,(Aw k ⟨c,0 + 8 + 1,none⟩ [l.v])/\
 Br (decide ((↑l.len:Int)<=16))
 (∃ m:Sl,(Aw k ⟨c,0 + 10,none⟩ [m.v])/\
 p (decide ((↑m.len:Int)<=16)) k)
 (p false k))/\
 ∀ (af:Env) (t:Bool) (d:World),p t d->
 Br I
 (Br t
 (∃ D,(Aw d ⟨c,0,none⟩ [.int .i64 D])/\
 Br (decide (D >= 1))
 (∃ E,(Aw d ⟨c,0,none⟩ [.int .i64 E])/\
 Br (decide (E<=9))
 (∃ F,(Aw d ⟨c,0 + 5,none⟩ [.int .i64 F])/\
 Br (decide (F >= 0))
 (∃ G,(Aw d ⟨c,0 + 5,none⟩ [.int .i64 G])/\
 K (.bool (decide (G<=1099511627776))) d)
 (K (.bool false) d))
 (K (.bool false) d))
 (K (.bool false) d))
 (K (.bool false) d))
 (K (.bool false) d))) j) w
def sk38:Sk:=(.seq .leaf (.seq .leaf (.seq (.seq .leaf (.block (.loop [23] [(.int .i64)] [2,5,23,24,25,26,27,28,29,30] .leaf))) (.cut [6] [.bool] [6,31,32,33,34,35,36,37,38,39,40] .leaf (.cut [7] [.bool] [7,41,42,43,44,45,46,47,48,49,50,51] .leaf .leaf)))))
theorem ZAu (d:Int) (e:ByteArray) (f:Int) (g:Int) (i:Int) (j:Int) (k:Nat) (l:ByteArray) (m:Int) (c:Sl) (b:Sl) (K:Value->World->Prop) (w:World) (h:B38 d e f g i j k l m c b K w):Zo prog 38 #[.agg #[.int .i64 d,.string e,.int .i64 f,.int .i64 g,.int .i64 i,.int .i64 j,.float .f64 k,.string l,.int .i64 m,c.v,b.v]] w K:=cq (sk:=sk38) h func38
def B97 (a:Int) (K:Value->World->Prop) (w:World):Prop:=
 Br (decide (a<0))
 (K (.bool true) w)
 (K (.bool (decide (a>9999))) w)
theorem Zz3 (a:Int) (K:Value->World->Prop) (w:World) (h:B97 a K w):Zo prog 97 #[.int .i64 a] w K:=cq (sk:=.leaf) h func97
def B10  (K:Value->World->Prop) (w:World):Prop:=
 New (.map #[] 0) (λ a d=>
 New (.map #[] 0) (λ b e=>
 New (.cells #[.int .i64 0,.int .i64 1,.map ((some a)),.map ((some b))] 80 (0,0)) (λ c f=>
 K (.pointer ((some ⟨c,0,none⟩))) f) e) d) w
theorem ZAH  (K:Value->World->Prop) (w:World) (h:B10  K w):Zo prog 10 #[] w K:=cq (sk:=.leaf) h func10
def B60 (m:Option Addr) (i:Sl) (K:Value->World->Prop) (w:World):Prop:=
 ∃ (g:Int->World->Prop) (p:Int->World->Nat),(g 0 w)/\∀ (x:Env) (b:Int) (f:World),g b f->
 Br (decide (b<(↑i.len:Int)))
 (Rng b i.len (Zd i.a λ q=>
 ∃ j,(Aw f (Addr.add q b.toNat) [.int .i64 j])/\
 Drw f λ l v=>
 Zd m λ r=>
 ∃ c:Sl,(At l (Addr.add r 0) [c.v])/\
 Calls prog 128 #[.int .u64 (IntKind.u64.wrap (if 0>j then 0 else j))] v λ t n=>
 ∃ d:Sl,(t=.returned (d.v))/\
 (l n)/\
 ∃ o:World,∃ e:Sl,((Builtin.append_ #[47,47] 47 #[c.v,d.v]).run prog n=.ok (e.v) o)/\
 Zd m λ s=>
 ∃ k:World,(St 47 (Addr.add s 0) (e.v) o k)/\
 (g (IntKind.i64.wrap (b + 1)) k)/\p (IntKind.i64.wrap (b + 1)) k<p b f))
 (K (.tuple #[]) f)
def sk60:Sk:=(.seq .leaf (.block (.loop [8] [(.int .i64)] [5,8,9,10,11,12,13,14,15,16,17,18,19,20,21,22,23,24] .leaf)))
theorem ZAl (c:Option Addr) (b:Sl) (K:Value->World->Prop) (w:World) (h:B60 c b K w):Zo prog 60 #[.pointer c,b.v] w K:=cq (sk:=sk60) h func60
def B218 (c:Option Addr) (b:Sl) (K:Value->World->Prop) (w:World):Prop:=
 New (.cells #[.int .i64 ((↑b.len:Int))] 3 (0,0)) (λ d g=>
 Calls prog 60 #[.pointer c,.slice ((some ⟨d,0,none⟩)) 1 1] g λ e i=>
 (e=.returned (.tuple #[]))/\
 Calls prog 60 #[.pointer c,b.v] i λ f j=>
 (f=.returned (.tuple #[]))/\
 K (.tuple #[]) j) w
theorem ZxZ (c:Option Addr) (b:Sl) (K:Value->World->Prop) (w:World) (h:B218 c b K w):Zo prog 218 #[.pointer c,b.v] w K:=cq (sk:=.leaf) h func218
def B63 (g:Option Addr) (e:Sl) (K:Value->World->Prop) (w:World):Prop:=
 Drw w λ f o=>
 Zd g λ m=>
 ∃ d:Sl,(At f (Addr.add m 0) [d.v])/\
 Calls prog 83 #[e.v] o λ n i=>
 ∃ b:Sl,(n=.returned (b.v))/\
 (f i)/\
 ∃ j:World,∃ c:Sl,((Builtin.append_ #[47,47] 47 #[d.v,b.v]).run prog i=.ok (c.v) j)/\
 Zd g λ l=>
 ∃ k:World,(St 47 (Addr.add l 0) (c.v) j k)/\
 K (.tuple #[]) k
theorem ZAk (c:Option Addr) (b:Sl) (K:Value->World->Prop) (w:World) (h:B63 c b K w):Zo prog 63 #[.pointer c,b.v] w K:=cq (sk:=.leaf) h func63
def B157 (g:Option Addr) (f:Int) (K:Value->World->Prop) (w:World):Prop:=
 New (.cells #[.pointer g] 216 (0,0)) (λ d c=>
 ∃ a,(Aw c ⟨d,0,none⟩ [.pointer a])/\
 Calls prog 93 #[.pointer a,.int .u64 (IntKind.u64.wrap f)] c λ e j=>
 ∃ b,(e=.returned (.int .u64 b))/\
 K (.int .i64 (IntKind.i64.wrap b)) j) w
theorem Zyx (b:Option Addr) (a:Int) (K:Value->World->Prop) (w:World) (h:B157 b a K w):Zo prog 157 #[.agg #[.pointer b],.int .i64 a] w K:=cq (sk:=.leaf) h func157
def B214 (l:Option Addr) (k:Int) (K:Value->World->Prop) (w:World):Prop:=
 New (.cells #[.pointer l] 216 (0,0)) (λ i f=>
 ∃ d,(Aw f ⟨i,0,none⟩ [.pointer d])/\
 Calls prog 94 #[.pointer d,.int .i64 k] f λ j g=>
 ∃ c:Sl,(j=.returned (c.v))/\
 ∃ e:ByteArray,(∀ b,(λ b=>b=g) b->((convert 47 9 (c.v))).run prog b=.ok (.string e) b)/\
 K (.string e) g) w
theorem Zx3 (b:Option Addr) (a:Int) (K:Value->World->Prop) (w:World) (h:B214 b a K w):Zo prog 214 #[.agg #[.pointer b],.int .i64 a] w K:=cq (sk:=.leaf) h func214
def B215 (i:Option Addr) (K:Value->World->Prop) (w:World):Prop:=
 New (.cells #[.pointer i] 216 (0,0)) (λ e d=>
 ∃ a,(Aw d ⟨e,0,none⟩ [.pointer a])/\
 Calls prog 93 #[.pointer a,.int .u64 18446744073709551615] d λ f k=>
 ∃ b,(f=.returned (.int .u64 b))/\
 Calls prog 229 #[.int .u64 b] k λ g l=>
 ∃ c,(g=.returned (.float .f64 c))/\
 K (.float .f64 c) l) w
theorem Zx2 (a:Option Addr) (K:Value->World->Prop) (w:World) (h:B215 a K w):Zo prog 215 #[.agg #[.pointer a]] w K:=cq (sk:=.leaf) h func215
def B216 (m:Int) (n:Value) (K:Value->World->Prop) (w:World):Prop:=
 ∃ (f:Sl->Int->World->Prop) (j:Sl->Int->World->Nat),(f ⟨none,0,0⟩ 0 w)/\∀ (q:Env) (b:Sl) (d:Int) (e:World),f b d e->
 Br (decide (d<m))
 (Zak prog cl n [] e λ l o=>
 ∃ i,(l=.returned (.int .i64 i))/\
 New (.cells #[.int .i64 i] 3 (0,0)) (λ k p=>
 ∃ g:World,∃ c:Sl,((Builtin.append_ #[30,30] 30 #[b.v,.slice ((some ⟨k,0,none⟩)) 1 1]).run prog p=.ok (c.v) g)/\
 (f c (IntKind.i64.wrap (d + 1)) g)/\j c (IntKind.i64.wrap (d + 1)) g<j b d e) o)
 (K (b.v) e)
def ZBk:Sk:=(.seq .leaf (.seq .leaf (.seq (.seq .leaf (.block (.loop [5,7] [.sl,(.int .i64)] [5,7,8,9,10,11,12,13,14] .leaf))) .leaf)))
theorem Zx1 (a:Int) (b:Value) (K:Value->World->Prop) (w:World) (h:B216 a b K w):Zo prog 216 #[.int .i64 a,b] w K:=cq (sk:=ZBk) h func216
def B217 (m:Int) (n:Value) (K:Value->World->Prop) (w:World):Prop:=
 ∃ (f:Sl->Int->World->Prop) (j:Sl->Int->World->Nat),(f ⟨none,0,0⟩ 0 w)/\∀ (q:Env) (b:Sl) (d:Int) (e:World),f b d e->
 Br (decide (d<m))
 (Zak prog cl n [] e λ l o=>
 ∃ i,(l=.returned (.float .f64 i))/\
 New (.cells #[.float .f64 i] 35 (0,0)) (λ k p=>
 ∃ g:World,∃ c:Sl,((Builtin.append_ #[38,38] 38 #[b.v,.slice ((some ⟨k,0,none⟩)) 1 1]).run prog p=.ok (c.v) g)/\
 (f c (IntKind.i64.wrap (d + 1)) g)/\j c (IntKind.i64.wrap (d + 1)) g<j b d e) o)
 (K (b.v) e)
def ZBj:Sk:=(.seq .leaf (.seq .leaf (.seq (.seq .leaf (.block (.loop [5,7] [.sl,(.int .i64)] [5,7,8,9,10,11,12,13,14] .leaf))) .leaf)))
theorem Zx0 (a:Int) (b:Value) (K:Value->World->Prop) (w:World) (h:B217 a b K w):Zo prog 217 #[.int .i64 a,b] w K:=cq (sk:=ZBj) h func217
def B141 (D:Sl) (K:Value->World->Prop) (w:World):Prop:=
 New (.cells #[.int .i64 0,.string (ByteArray.mk #[]),.int .i64 0,.int .i64 0,.int .i64 0,.int .i64 0,.float .f64 0,.string (ByteArray.mk #[]),.int .i64 0,.slice none 0 0,.slice none 0 0] 40 (0,0)) (λ j e7=>
 Calls prog 91 #[D.v] e7 λ d6 e8=>
 ∃ cw,(d6=.returned (.pointer cw))/\
 New (.cells #[.pointer none] 216 (0,0)) (λ c e9=>
 ∃ dr:World,(St 216 ⟨c,0,none⟩ (.agg #[.pointer cw]) e9 dr)/\
 ∃ (e:Option Addr->World->Prop),(Drw dr λ b dz=>
 ∃ E,(At b ⟨c,0,none⟩ [.pointer E])/\
 ∃ A,(At b ⟨c,0,none⟩ [.pointer A])/\
 ∃ g,(At b ⟨c,0,none⟩ [.pointer g])/\
 (Calls prog 157 #[.agg #[.pointer E],.int .i64 9] dz λ d7 L=>
 ∃ i,(d7=.returned (.int .i64 i))/\
 (b L)/\
 (Calls prog 214 #[.agg #[.pointer A],.int .i64 16] L λ ei V=>
 ∃ k,(ei=.returned (.string k))/\
 (b V)/\
 (Calls prog 213 #[.pointer ((some ⟨c,0,none⟩))] V λ et X=>
 ∃ y,(et=.returned (.int .i64 y))/\
 (b X)/\
 (Calls prog 213 #[.pointer ((some ⟨c,0,none⟩))] X λ e1 Y=>
 ∃ C,(e1=.returned (.int .i64 C))/\
 (b Y)/\
 (Calls prog 213 #[.pointer ((some ⟨c,0,none⟩))] Y λ e2 G=>
 ∃ F,(e2=.returned (.int .i64 F))/\
 (b G)/\
 (Calls prog 157 #[.agg #[.pointer g],.int .i64 1099511627776] G λ e3 cx=>
 ∃ a2,(e3=.returned (.int .i64 a2))/\
 (b cx)/\
 New (.cells #[.int .i64 0,.string (ByteArray.mk #[]),.int .i64 0,.int .i64 0,.int .i64 0,.int .i64 0,.float .f64 0,.string (ByteArray.mk #[]),.int .i64 0,.slice none 0 0,.slice none 0 0] 40 (0,0)) (λ ae cy=>
 (b cy)/\
 ∃ cz:World,(St 40 ⟨ae,0,none⟩ (.agg #[.int .i64 i,.string k,.int .i64 y,.int .i64 C,.int .i64 F,.int .i64 a2,.float .f64 0,.string (ByteArray.mk #[]),.int .i64 0,.slice none 0 0,.slice none 0 0]) cy cz)/\
 e ((some ⟨ae,0,none⟩)) cz) cx)/\
 New (.cells #[.int .i64 0,.string (ByteArray.mk #[]),.int .i64 0,.int .i64 0,.int .i64 0,.int .i64 0,.float .f64 0,.string (ByteArray.mk #[]),.int .i64 0,.slice none 0 0,.slice none 0 0] 40 (0,0)) (λ af c0=>
 (b c0)/\
 Calls prog 157 #[.agg #[.pointer g],.int .i64 1099511627776] c0 λ e4 c1=>
 ∃ a3,(e4=.returned (.int .i64 a3))/\
 (b c1)/\
 ∃ c2:World,(St 40 ⟨af,0,none⟩ (.agg #[.int .i64 i,.string k,.int .i64 y,.int .i64 C,.int .i64 F,.int .i64 a3,.float .f64 0,.string (ByteArray.mk #[]),.int .i64 0,.slice none 0 0,.slice none 0 0]) c1 c2)/\
 e ((some ⟨af,0,none⟩)) c2) G)/\
 New (.cells #[.int .i64 0,.string (ByteArray.mk #[]),.int .i64 0,.int .i64 0,.int .i64 0,.int .i64 0,.float .f64 0,.string (ByteArray.mk #[]),.int .i64 0,.slice none 0 0,.slice none 0 0] 40 (0,0)) (λ ag c3=>
 (b c3)/\
 Calls prog 213 #[.pointer ((some ⟨c,0,none⟩))] c3 λ e5 c4=>
 ∃ ax,(e5=.returned (.int .i64 ax))/\
 (b c4)/\
 Calls prog 157 #[.agg #[.pointer g],.int .i64 1099511627776] c4 λ e6 c5=>
 ∃ a4,(e6=.returned (.int .i64 a4))/\
 (b c5)/\
 ∃ c6:World,(St 40 ⟨ag,0,none⟩ (.agg #[.int .i64 i,.string k,.int .i64 y,.int .i64 C,.int .i64 ax,.int .i64 a4,.float .f64 0,.string (ByteArray.mk #[]),.int .i64 0,.slice none 0 0,.slice none 0 0]) c5 c6)/\
 e ((some ⟨ag,0,none⟩)) c6) Y)/\
 New (.cells #[.int .i64 0,.string (ByteArray.mk #[]),.int .i64 0,.int .i64 0,.int .i64 0,.int .i64 0,.float .f64 0,.string (ByteArray.mk #[]),.int .i64 0,.slice none 0 0,.slice none 0 0] 40 (0,0)) (λ ah c7=>
 (b c7)/\
 Calls prog 213 #[.pointer ((some ⟨c,0,none⟩))] c7 λ d8 c8=>
 ∃ ar,(d8=.returned (.int .i64 ar))/\
 (b c8)/\
 Calls prog 213 #[.pointer ((some ⟨c,0,none⟩))] c8 λ d9 c9=>
 ∃ ay,(d9=.returned (.int .i64 ay))/\
 (b c9)/\
 Calls prog 157 #[.agg #[.pointer g],.int .i64 1099511627776] c9 λ ea da=>
 ∃ a5,(ea=.returned (.int .i64 a5))/\
 (b da)/\
 ∃ db:World,(St 40 ⟨ah,0,none⟩ (.agg #[.int .i64 i,.string k,.int .i64 y,.int .i64 ar,.int .i64 ay,.int .i64 a5,.float .f64 0,.string (ByteArray.mk #[]),.int .i64 0,.slice none 0 0,.slice none 0 0]) da db)/\
 e ((some ⟨ah,0,none⟩)) db) X)/\
 New (.cells #[.int .i64 0,.string (ByteArray.mk #[]),.int .i64 0,.int .i64 0,.int .i64 0,.int .i64 0,.float .f64 0,.string (ByteArray.mk #[]),.int .i64 0,.slice none 0 0,.slice none 0 0] 40 (0,0)) (λ ai dc=>
 (b dc)/\
 Calls prog 213 #[.pointer ((some ⟨c,0,none⟩))] dc λ eb dd=>
 ∃ ao,(eb=.returned (.int .i64 ao))/\
 (b dd)/\
 Calls prog 213 #[.pointer ((some ⟨c,0,none⟩))] dd λ ec de=>
 ∃ au,(ec=.returned (.int .i64 au))/\
 (b de)/\
 Calls prog 213 #[.pointer ((some ⟨c,0,none⟩))] de λ ed df=>
 ∃ az,(ed=.returned (.int .i64 az))/\
 (b df)/\
 Calls prog 157 #[.agg #[.pointer g],.int .i64 1099511627776] df λ ee dg=>
 ∃ a6,(ee=.returned (.int .i64 a6))/\
 (b dg)/\
 ∃ dh:World,(St 40 ⟨ai,0,none⟩ (.agg #[.int .i64 i,.string k,.int .i64 ao,.int .i64 au,.int .i64 az,.int .i64 a6,.float .f64 0,.string (ByteArray.mk #[]),.int .i64 0,.slice none 0 0,.slice none 0 0]) dg dh)/\
 e ((some ⟨ai,0,none⟩)) dh) V)/\
 New (.cells #[.int .i64 0,.string (ByteArray.mk #[]),.int .i64 0,.int .i64 0,.int .i64 0,.int .i64 0,.float .f64 0,.string (ByteArray.mk #[]),.int .i64 0,.slice none 0 0,.slice none 0 0] 40 (0,0)) (λ aj di=>
 (b di)/\
 Calls prog 214 #[.agg #[.pointer A],.int .i64 16] di λ ef dj=>
 ∃ am,(ef=.returned (.string am))/\
 (b dj)/\
 Calls prog 213 #[.pointer ((some ⟨c,0,none⟩))] dj λ eg dk=>
 ∃ ap,(eg=.returned (.int .i64 ap))/\
 (b dk)/\
 Calls prog 213 #[.pointer ((some ⟨c,0,none⟩))] dk λ eh dl=>
 ∃ av,(eh=.returned (.int .i64 av))/\
 (b dl)/\
 Calls prog 213 #[.pointer ((some ⟨c,0,none⟩))] dl λ ej dm=>
 ∃ a0,(ej=.returned (.int .i64 a0))/\
 (b dm)/\
 Calls prog 157 #[.agg #[.pointer g],.int .i64 1099511627776] dm λ ek dn=>
 ∃ a7,(ek=.returned (.int .i64 a7))/\
 (b dn)/\
 ∃ dp:World,(St 40 ⟨aj,0,none⟩ (.agg #[.int .i64 i,.string am,.int .i64 ap,.int .i64 av,.int .i64 a0,.int .i64 a7,.float .f64 0,.string (ByteArray.mk #[]),.int .i64 0,.slice none 0 0,.slice none 0 0]) dn dp)/\
 e ((some ⟨aj,0,none⟩)) dp) L)/\
 New (.cells #[.int .i64 0,.string (ByteArray.mk #[]),.int .i64 0,.int .i64 0,.int .i64 0,.int .i64 0,.float .f64 0,.string (ByteArray.mk #[]),.int .i64 0,.slice none 0 0,.slice none 0 0] 40 (0,0)) (λ ak dq=>
 (b dq)/\
 Calls prog 157 #[.agg #[.pointer E],.int .i64 9] dq λ el ds=>
 ∃ al,(el=.returned (.int .i64 al))/\
 (b ds)/\
 Calls prog 214 #[.agg #[.pointer A],.int .i64 16] ds λ em dt=>
 ∃ an,(em=.returned (.string an))/\
 (b dt)/\
 Calls prog 213 #[.pointer ((some ⟨c,0,none⟩))] dt λ en du=>
 ∃ aq,(en=.returned (.int .i64 aq))/\
 (b du)/\
 Calls prog 213 #[.pointer ((some ⟨c,0,none⟩))] du λ eo dv=>
 ∃ aw,(eo=.returned (.int .i64 aw))/\
 (b dv)/\
 Calls prog 213 #[.pointer ((some ⟨c,0,none⟩))] dv λ ep dw=>
 ∃ a1,(ep=.returned (.int .i64 a1))/\
 (b dw)/\
 Calls prog 157 #[.agg #[.pointer g],.int .i64 1099511627776] dw λ eq dx=>
 ∃ a8,(eq=.returned (.int .i64 a8))/\
 (b dx)/\
 ∃ dy:World,(St 40 ⟨ak,0,none⟩ (.agg #[.int .i64 al,.string an,.int .i64 aq,.int .i64 aw,.int .i64 a1,.int .i64 a8,.float .f64 0,.string (ByteArray.mk #[]),.int .i64 0,.slice none 0 0,.slice none 0 0]) dx dy)/\
 e ((some ⟨ak,0,none⟩)) dy) dz)/\
 ∀ (fg:Env) (f:Option Addr) (H:World),e f H->
 ∃ a9,(Aw H ⟨c,0,none⟩ [.pointer a9])/\
 Calls prog 215 #[.agg #[.pointer a9]] H λ er fa=>
 ∃ ba,(er=.returned (.float .f64 ba))/\
 Zd f λ Z=>
 ∃ I:World,(St 35 ⟨Z.block,Z.off + 6,none⟩ (.float .f64 ba) fa I)/\
 ∃ bb,(Aw I ⟨c,0,none⟩ [.pointer bb])/\
 Calls prog 214 #[.agg #[.pointer bb],.int .i64 16] I λ es fb=>
 ∃ bc,(es=.returned (.string bc))/\
 Zd f λ aa=>
 ∃ d0:World,(St 9 ⟨aa.block,aa.off + 7,none⟩ (.string bc) fb d0)/\
 Calls prog 213 #[.pointer ((some ⟨c,0,none⟩))] d0 λ eu fc=>
 ∃ be,(eu=.returned (.int .i64 be))/\
 Zd f λ ab=>
 ∃ J:World,(St 3 ⟨ab.block,ab.off + 8,none⟩ (.int .i64 be) fc J)/\
 ∃ bf,(Aw J ⟨c,0,none⟩ [.pointer bf])/\
 Calls prog 157 #[.agg #[.pointer bf],.int .i64 16] J λ ev fd=>
 ∃ bg,(ev=.returned (.int .i64 bg))/\
 Calls prog 216 #[.int .i64 bg,.func (.func 213) #[] #[.pointer ((some ⟨c,0,none⟩))]] fd λ ew fe=>
 ∃ l:Sl,(ew=.returned (l.v))/\
 Zd f λ ac=>
 ∃ d1:World,(St 30 ⟨ac.block,ac.off + 8 + 1,none⟩ (l.v) fe d1)/\
 Drw d1 λ z ff=>
 ∃ b8,(At z ⟨c,0,none⟩ [.pointer b8])/\
 ∃ ca,(At z ⟨c,0,none⟩ [.pointer ca])/\
 Calls prog 157 #[.agg #[.pointer b8],.int .i64 16] ff λ ex d2=>
 ∃ b9,(ex=.returned (.int .i64 b9))/\
 (z d2)/\
 Calls prog 217 #[.int .i64 b9,.func (.func 215) #[.agg #[.pointer ca]] #[]] d2 λ ey d3=>
 ∃ s:Sl,(ey=.returned (s.v))/\
 (z d3)/\
 Zd f λ ad=>
 ∃ M:World,(St 38 ⟨ad.block,ad.off + 10,none⟩ (s.v) d3 M)/\
 ∃ cb,(Aw M ⟨c,0,none⟩ [.pointer cb])/\
 Calls prog 96 #[.pointer cb] M λ ez N=>
 ∃ cc,(ez=.returned (.bool cc))/\
 Br (!cc)
 (∃ O:World,(St 40 ⟨j,0,none⟩ (.agg #[.int .i64 0,.string (ByteArray.mk #[]),.int .i64 0,.int .i64 0,.int .i64 0,.int .i64 0,.float .f64 0,.string (ByteArray.mk #[]),.int .i64 0,.slice none 0 0,.slice none 0 0]) N O)/\
 ∃ bd bh br b1 b3 b4 b5 b6 b7,∃ r m:Sl,(Aw O ⟨j,0,none⟩ [.int .i64 bd,.string bh,.int .i64 br,.int .i64 b1,.int .i64 b3,.int .i64 b4,.float .f64 b5,.string b6,.int .i64 b7,r.v,m.v])/\
 K (.tuple #[.agg #[.int .i64 bd,.string bh,.int .i64 br,.int .i64 b1,.int .i64 b3,.int .i64 b4,.float .f64 b5,.string b6,.int .i64 b7,r.v,m.v],.int .i64 6]) O)
 (Zd f λ d4=>
 ∃ cd ce cf cg ch ci cj ck cl,∃ u t:Sl,(Aw N d4 [.int .i64 cd,.string ce,.int .i64 cf,.int .i64 cg,.int .i64 ch,.int .i64 ci,.float .f64 cj,.string ck,.int .i64 cl,u.v,t.v])/\
 Calls prog 38 #[.agg #[.int .i64 cd,.string ce,.int .i64 cf,.int .i64 cg,.int .i64 ch,.int .i64 ci,.float .f64 cj,.string ck,.int .i64 cl,u.v,t.v]] N λ e0 Q=>
 ∃ cm,(e0=.returned (.bool cm))/\
 Br (!cm)
 (∃ T:World,(St 40 ⟨j,0,none⟩ (.agg #[.int .i64 0,.string (ByteArray.mk #[]),.int .i64 0,.int .i64 0,.int .i64 0,.int .i64 0,.float .f64 0,.string (ByteArray.mk #[]),.int .i64 0,.slice none 0 0,.slice none 0 0]) Q T)/\
 ∃ bi bj bk bl bm bn bo bp bq,∃ n o:Sl,(Aw T ⟨j,0,none⟩ [.int .i64 bi,.string bj,.int .i64 bk,.int .i64 bl,.int .i64 bm,.int .i64 bn,.float .f64 bo,.string bp,.int .i64 bq,n.v,o.v])/\
 K (.tuple #[.agg #[.int .i64 bi,.string bj,.int .i64 bk,.int .i64 bl,.int .i64 bm,.int .i64 bn,.float .f64 bo,.string bp,.int .i64 bq,n.v,o.v],.int .i64 6]) T)
 (Zd f λ d5=>
 ∃ cn co cp cq cr cs ct cu cv,∃ x v:Sl,(Aw Q d5 [.int .i64 cn,.string co,.int .i64 cp,.int .i64 cq,.int .i64 cr,.int .i64 cs,.float .f64 ct,.string cu,.int .i64 cv,x.v,v.v])/\
 ∃ U:World,(St 40 ⟨j,0,none⟩ (.agg #[.int .i64 cn,.string co,.int .i64 cp,.int .i64 cq,.int .i64 cr,.int .i64 cs,.float .f64 ct,.string cu,.int .i64 cv,x.v,v.v]) Q U)/\
 ∃ bs bt bu bv bw bx bz b0 b2,∃ p q:Sl,(Aw U ⟨j,0,none⟩ [.int .i64 bs,.string bt,.int .i64 bu,.int .i64 bv,.int .i64 bw,.int .i64 bx,.float .f64 bz,.string b0,.int .i64 b2,p.v,q.v])/\
 K (.tuple #[.agg #[.int .i64 bs,.string bt,.int .i64 bu,.int .i64 bv,.int .i64 bw,.int .i64 bx,.float .f64 bz,.string b0,.int .i64 b2,p.v,q.v],.int .i64 0]) U))) e8) w
def ZBw:Sk:=(.seq .leaf (.seq .leaf (.seq .leaf (.cut [6] [.ptr] [6,11,12,13,14,15,16,17,18,19,20,21,22,23] .leaf .leaf))))
theorem ZyG (b:Sl) (K:Value->World->Prop) (w:World) (h:B141 b K w):Zo prog 141 #[b.v] w K:=cq (sk:=ZBw) h func141
def B213 (d:Option Addr) (K:Value->World->Prop) (w:World):Prop:=
 Zd d λ c=>
 ∃ a,(Aw w c [.pointer a])/\
 Calls prog 157 #[.agg #[.pointer a],.int .i64 9999] w λ e g=>
 ∃ b,(e=.returned (.int .i64 b))/\
 K (.int .i64 b) g
theorem Zx4 (a:Option Addr) (K:Value->World->Prop) (w:World) (h:B213 a K w):Zo prog 213 #[.pointer a] w K:=cq (sk:=.leaf) h func213
def B142 (Z:Int) (aa:ByteArray) (ab:Int) (ac:Int) (ad:Int) (ae:Int) (af:Int) (p:Sl) (q:Sl) (K:Value->World->Prop) (w:World):Prop:=
 New (.cells #[.int .i64 Z,.string aa,.int .i64 ab,.int .i64 ac,.int .i64 ad,.int .i64 ae,.int .i64 af,p.v,q.v] 33 (0,0)) (λ c ag=>
 New (.cells #[.slice none 0 0] 112 (0,0)) (λ d E=>
 ∃ r,(Aw E ⟨c,0,none⟩ [.int .i64 r])/\
 New (.cells #[.int .i64 r] 3 (0,0)) (λ M ai=>
 Calls prog 60 #[.pointer ((some ⟨d,0,none⟩)),.slice ((some ⟨M,0,none⟩)) 1 1] ai λ Q F=>
 (Q=.returned (.tuple #[]))/\
 ∃ s,(Aw F ⟨c,0 + 1,none⟩ [.string s])/\
 ∃ G:World,∃ f:Sl,((convert 9 47 (.string s)).run prog F=.ok (f.v) G)/\
 Calls prog 63 #[.pointer ((some ⟨d,0,none⟩)),f.v] G λ T m=>
 (T=.returned (.tuple #[]))/\
 ∃ t,(Aw m ⟨c,0 + 2,none⟩ [.int .i64 t])/\
 ∃ u,(Aw m ⟨c,0 + 3,none⟩ [.int .i64 u])/\
 ∃ v,(Aw m ⟨c,0 + 4,none⟩ [.int .i64 v])/\
 ∃ x,(Aw m ⟨c,0 + 5,none⟩ [.int .i64 x])/\
 ∃ y,(Aw m ⟨c,0 + 6,none⟩ [.int .i64 y])/\
 New (.cells #[.int .i64 t,.int .i64 u,.int .i64 v,.int .i64 x,.int .i64 y] 3 (0,0)) (λ N aj=>
 Calls prog 60 #[.pointer ((some ⟨d,0,none⟩)),.slice ((some ⟨N,0,none⟩)) 5 5] aj λ U H=>
 (U=.returned (.tuple #[]))/\
 ∃ g:Sl,(Aw H ⟨c,0 + 7,none⟩ [g.v])/\
 Calls prog 218 #[.pointer ((some ⟨d,0,none⟩)),g.v] H λ V I=>
 (V=.returned (.tuple #[]))/\
 ∃ n:Sl,(Aw I ⟨c,0 + 8,none⟩ [n.v])/\
 New (.cells #[.int .i64 ((↑n.len:Int))] 3 (0,0)) (λ O ah=>
 Calls prog 60 #[.pointer ((some ⟨d,0,none⟩)),.slice ((some ⟨O,0,none⟩)) 1 1] ah λ X A=>
 (X=.returned (.tuple #[]))/\
 ∃ i:Sl,(Aw A ⟨c,0 + 8,none⟩ [i.v])/\
 ∃ (o:Int->World->Prop) (J:Int->World->Nat),(o 0 A)/\∀ (ak:Env) (e:Int) (l:World),o e l->
 Br (decide (e<(↑i.len:Int)))
 (Rng e i.len (Zd i.a λ L=>
 ∃ z,(Aw l (Addr.add L e.toNat) [.string z])/\
 ∃ C:World,∃ j:Sl,((convert 9 47 (.string z)).run prog l=.ok (j.v) C)/\
 Calls prog 63 #[.pointer ((some ⟨d,0,none⟩)),j.v] C λ Y D=>
 (Y=.returned (.tuple #[]))/\
 (o (IntKind.i64.wrap (e + 1)) D)/\J (IntKind.i64.wrap (e + 1)) D<J e l))
 (∃ k:Sl,(Aw l ⟨d,0,none⟩ [k.v])/\
 K (k.v) l)) I) m) E) ag) w
def ZBv:Sk:=(.seq .leaf (.seq .leaf (.seq .leaf (.seq .leaf (.seq .leaf (.seq .leaf (.seq .leaf (.seq (.seq .leaf (.block (.loop [44] [(.int .i64)] [5,44,45,46,47,48,49,50,51,52] .leaf))) .leaf))))))))
theorem ZyF (d:Int) (e:ByteArray) (f:Int) (g:Int) (i:Int) (j:Int) (k:Int) (b:Sl) (c:Sl) (K:Value->World->Prop) (w:World) (h:B142 d e f g i j k b c K w):Zo prog 142 #[.agg #[.int .i64 d,.string e,.int .i64 f,.int .i64 g,.int .i64 i,.int .i64 j,.int .i64 k,b.v,c.v]] w K:=cq (sk:=ZBv) h func142
def B43 (s:Option Addr) (t:ByteArray) (c:List PanicEntry->World->Prop) (K:Value->World->Prop) (w:World):Prop:=
 Calls prog 108 #[.string t] w λ i q=>
 (∃ l m,(i=.returned (.tuple #[.int .i64 l,.int .i64 m]))/\
 Calls prog 99 #[.int .i64 m] q λ j b=>
 ((j=.returned (.tuple #[]))/\
 Zd s λ d=>
 ∃ n:Option Nat,(Aw b ⟨d.block,d.off + 3,none⟩ [.map n])/\
 ∃ o:Option Addr,∃ p:Bool,(∀ a,(λ a=>a=b) a->((Instr.lookup 78 (.map n) (.int .i64 l) true)).run prog a=.ok (.tuple #[.pointer o,.bool p]) a)/\
 Calls prog 37 #[.bool p,.int .i64 2] b λ k r=>
 ((k=.returned (.tuple #[]))/\
 K (.pointer o) r)\/
 (∃ g:List PanicEntry,(k=.panicked g)/\c g r))\/
 (∃ f:List PanicEntry,(j=.panicked f)/\c f b))\/
 (∃ e:List PanicEntry,(i=.panicked e)/\c e q)
theorem ZAq (b:Option Addr) (c:ByteArray) (a:List PanicEntry->World->Prop) (K:Value->World->Prop) (w:World) (h:B43 b c a K w):ZaV prog 43 #[.pointer b,.string c] w a K:=cqx (sk:=.leaf) h func43
def B54 (u:Option Addr) (v:Int) (t:List PanicEntry->World->Prop) (K:Value->World->Prop) (w:World):Prop:=
 New (.cells #[.pointer none,.pointer none] 97 (0,0)) (λ g b=>
 Zd u λ e=>
 ∃ k:Option Nat,(Aw b ⟨e.block,e.off + 2,none⟩ [.map k])/\
 ∃ l m:Option Addr,∃ n:Bool,(∀ a,(λ a=>a=b) a->((Instr.lookup 77 (.map k) (.int .i64 v) true)).run prog a=.ok (.tuple #[.agg #[.pointer l,.pointer m],.bool n]) a)/\
 New (.cells #[.pointer none,.pointer none] 97 (0,0)) (λ f x=>
 ∃ s:World,(St 97 ⟨f,0,none⟩ (.agg #[.pointer l,.pointer m]) x s)/\
 Calls prog 37 #[.bool n,.int .i64 2] s λ j c=>
 ((j=.returned (.tuple #[]))/\
 ∃ o p,(Aw c ⟨f,0,none⟩ [.pointer o,.pointer p])/\
 ∃ d:World,(St 97 ⟨g,0,none⟩ (.agg #[.pointer o,.pointer p]) c d)/\
 ∃ q r,(Aw d ⟨g,0,none⟩ [.pointer q,.pointer r])/\
 K (.agg #[.pointer q,.pointer r]) d)\/
 (∃ i:List PanicEntry,(j=.panicked i)/\t i c)) b) w
theorem ZAo (b:Option Addr) (c:Int) (a:List PanicEntry->World->Prop) (K:Value->World->Prop) (w:World) (h:B54 b c a K w):ZaV prog 54 #[.pointer b,.int .i64 c] w a K:=cqx (sk:=.leaf) h func54
def B103 (E:Option Addr) (b2:Int) (K:Value->World->Prop) (w:World):Prop:=
 Zd E λ D=>
 ∃ J:Option Nat,(Aw w ⟨D.block,D.off + 2,none⟩ [.map J])/\
 ∃ L M:Option Addr,(∀ b,(λ b=>b=w) b->((Instr.lookup 77 (.map J) (.int .i64 b2) false)).run prog b=.ok (.agg #[.pointer L,.pointer M]) b)/\
 New (.cells #[.pointer none,.pointer none] 97 (0,0)) (λ f b5=>
 ∃ bd:World,(St 97 ⟨f,0,none⟩ (.agg #[.pointer L,.pointer M]) b5 bd)/\
 ∃ (l:Option Addr->Bool->World->Prop),(Drw bd λ c bh=>
 ∃ o,(At c ⟨f,0 + 1,none⟩ [.pointer o])/\
 ∃ s,(At c ⟨f,0,none⟩ [.pointer s])/\
 (Calls prog 55 #[.pointer s] bh λ bs x=>
 ∃ d:Sl,(bs=.returned (d.v))/\
 (c x)/\
 (Calls prog 174 #[.pointer o,d.v] x λ bt bi=>
 ∃ N O ab ac ad ae,(bt=.returned (.tuple #[.agg #[.int .i64 N,.int .i64 O,.int .i64 ab,.int .i64 ac,.float .f64 ad],.bool ae]))/\
 (c bi)/\
 New (.cells #[.int .i64 0,.int .i64 0,.int .i64 0,.int .i64 0,.float .f64 0] 168 (0,0)) (λ F bj=>
 (c bj)/\
 ∃ bk:World,(St 168 ⟨F,0,none⟩ (.agg #[.int .i64 N,.int .i64 O,.int .i64 ab,.int .i64 ac,.float .f64 ad]) bj bk)/\
 l ((some ⟨F,0,none⟩)) ae bk) bi)/\
 New (.cells #[.int .i64 0,.int .i64 0,.int .i64 0,.int .i64 0,.float .f64 0] 168 (0,0)) (λ G bl=>
 (c bl)/\
 Calls prog 174 #[.pointer o,d.v] bl λ bu bm=>
 ∃ af ag ah ai Q T,(bu=.returned (.tuple #[.agg #[.int .i64 af,.int .i64 ag,.int .i64 ah,.int .i64 ai,.float .f64 Q],.bool T]))/\
 (c bm)/\
 ∃ a7:World,(St 168 ⟨G,0,none⟩ (.agg #[.int .i64 af,.int .i64 ag,.int .i64 ah,.int .i64 ai,.float .f64 Q]) bm a7)/\
 l ((some ⟨G,0,none⟩)) T a7) x)/\
 New (.cells #[.int .i64 0,.int .i64 0,.int .i64 0,.int .i64 0,.float .f64 0] 168 (0,0)) (λ H a8=>
 (c a8)/\
 Calls prog 55 #[.pointer s] a8 λ bv a9=>
 ∃ g:Sl,(bv=.returned (g.v))/\
 (c a9)/\
 Calls prog 174 #[.pointer o,g.v] a9 λ bw ba=>
 ∃ U V X Y Z aa,(bw=.returned (.tuple #[.agg #[.int .i64 U,.int .i64 V,.int .i64 X,.int .i64 Y,.float .f64 Z],.bool aa]))/\
 (c ba)/\
 ∃ bb:World,(St 168 ⟨H,0,none⟩ (.agg #[.int .i64 U,.int .i64 V,.int .i64 X,.int .i64 Y,.float .f64 Z]) ba bb)/\
 l ((some ⟨H,0,none⟩)) aa bb) bh)/\
 ∀ (ca:Env) (a6:Option Addr) (I:Bool) (bc:World),l a6 I bc->
 ∃ (p:Option Addr->Bool->World->Prop) (bn:Option Addr->Bool->World->Nat),(p a6 I bc)/\∀ (cb:Env) (e:Option Addr) (r:Bool) (j:World),p e r j->
 Br r
 (∃ aq,(Aw j ⟨f,0 + 1,none⟩ [.pointer aq])/\
 Zd e λ bo=>
 ∃ ar,(Aw j (Addr.add bo 0) [.int .i64 ar])/\
 Calls prog 105 #[.pointer aq,.int .i64 ar] j λ bx k=>
 ∃ b3,(bx=.returned (.int .i64 b3))/\
 ∃ au,(Aw k ⟨f,0,none⟩ [.pointer au])/\
 Zd e λ bp=>
 ∃ av,(Aw k (Addr.add bp 0) [.int .i64 av])/\
 Zd e λ y=>
 ∃ aw,(Aw k ⟨y.block,y.off + 1,none⟩ [.int .i64 aw])/\
 Zd e λ z=>
 ∃ ax,(Aw k ⟨z.block,z.off + 2,none⟩ [.int .i64 ax])/\
 Calls prog 101 #[.pointer au,.int .i64 av,.int .i64 aw,.int .i64 ax] k λ bz b6=>
 ∃ b4,(bz=.returned (.int .i64 b4))/\
 Drw b6 λ q b7=>
 Zd E λ A=>
 ∃ ay:Option Nat,(At q ⟨A.block,A.off + 3,none⟩ [.map ay])/\
 Zd e λ bq=>
 ∃ az,(At q (Addr.add bq 0) [.int .i64 az])/\
 ∃ a0:Option Addr,(∀ b,q b->((Instr.lookup 78 (.map ay) (.int .i64 az) false)).run prog b=.ok (.pointer a0) b)/\
 Zd a0 λ C=>
 ∃ u:World,(St 3 ⟨C.block,C.off + 4,none⟩ (.int .i64 2) b7 u)/\
 Zd e λ br=>
 ∃ a1 a2 a3 a4 a5,(Aw u br [.int .i64 a1,.int .i64 a2,.int .i64 a3,.int .i64 a4,.float .f64 a5])/\
 New (.cells #[.int .i64 0,.int .i64 0,.int .i64 0,.int .i64 0,.float .f64 0] 168 (0,0)) (λ n b8=>
 ∃ be:World,(St 168 ⟨n,0,none⟩ (.agg #[.int .i64 a1,.int .i64 a2,.int .i64 a3,.int .i64 a4,.float .f64 a5]) b8 be)/\
 Drw be λ m b9=>
 ∃ aj,(At m ⟨f,0 + 1,none⟩ [.pointer aj])/\
 ∃ ak,(At m ⟨f,0,none⟩ [.pointer ak])/\
 Calls prog 55 #[.pointer ak] b9 λ b0 bf=>
 ∃ i:Sl,(b0=.returned (i.v))/\
 (m bf)/\
 Calls prog 174 #[.pointer aj,i.v] bf λ b1 bg=>
 ∃ al am an ao ap t,(b1=.returned (.tuple #[.agg #[.int .i64 al,.int .i64 am,.int .i64 an,.int .i64 ao,.float .f64 ap],.bool t]))/\
 (m bg)/\
 ∃ v:World,(St 168 ⟨n,0,none⟩ (.agg #[.int .i64 al,.int .i64 am,.int .i64 an,.int .i64 ao,.float .f64 ap]) bg v)/\
 (p ((some ⟨n,0,none⟩)) t v)/\bn ((some ⟨n,0,none⟩)) t v<bn e r j) u)
 (K (.tuple #[]) j)) w
def ZBF:Sk:=(.seq .leaf (.cut [5,6] [.ptr,.bool] [5,6,13,14,15,16,17,18,19,20,21] .leaf (.block (.loop [5,6] [.ptr,.bool] [5,6,22,23,24,25,26,27,28,29,30,31,32,33,34,35,36,37,38,39,40,41,42,43,44,45,46,47,48,49,50,51,52,53,54,55] .leaf))))
theorem ZyV (a:Option Addr) (b:Int) (K:Value->World->Prop) (w:World) (h:B103 a b K w):Zo prog 103 #[.pointer a,.int .i64 b] w K:=cq (sk:=ZBF) h func103
def B53 (ac:Option Addr) (c:Option Addr) (K:Value->World->Prop) (w:World):Prop:=
 New (.cells #[.int .i64 0,.string (ByteArray.mk #[]),.int .i64 0,.int .i64 0,.int .i64 0,.int .i64 0,.int .i64 0,.slice none 0 0,.slice none 0 0] 33 (0,0)) (λ u ah=>
 Drw ah λ j ai=>
 Zd ac λ t=>
 ∃ v:Option Nat,(At j ⟨t.block,t.off + 2,none⟩ [.map v])/\
 Zd c λ n=>
 ∃ x,(At j ⟨n.block,n.off + 1,none⟩ [.int .i64 x])/\
 ∃ y z:Option Addr,(∀ d,j d->((Instr.lookup 77 (.map v) (.int .i64 x) false)).run prog d=.ok (.agg #[.pointer y,.pointer z]) d)/\
 New (.cells #[.pointer none,.pointer none] 97 (0,0)) (λ k X=>
 (j X)/\
 ∃ l:World,(St 97 ⟨k,0,none⟩ (.agg #[.pointer y,.pointer z]) X l)/\
 Zd c λ aa=>
 ∃ A,(Aw l (Addr.add aa 0) [.int .i64 A])/\
 Calls prog 121 #[.int .i64 A] l λ ad aj=>
 ∃ C ag,(ad=.returned (.tuple #[.string C,.int .i64 ag]))/\
 Drw aj λ b ak=>
 Zd c λ o=>
 ∃ D,(At b ⟨o.block,o.off + 4,none⟩ [.int .i64 D])/\
 Zd c λ p=>
 ∃ E,(At b ⟨p.block,p.off + 1,none⟩ [.int .i64 E])/\
 Zd c λ q=>
 ∃ F,(At b ⟨q.block,q.off + 2,none⟩ [.int .i64 F])/\
 Zd c λ r=>
 ∃ G,(At b ⟨r.block,r.off + 3,none⟩ [.int .i64 G])/\
 Zd c λ s=>
 ∃ H,(At b ⟨s.block,s.off + 5,none⟩ [.int .i64 H])/\
 ∃ I,(At b ⟨k,0,none⟩ [.pointer I])/\
 ∃ J,(At b ⟨k,0,none⟩ [.pointer J])/\
 Zd c λ ab=>
 ∃ L,(At b (Addr.add ab 0) [.int .i64 L])/\
 Calls prog 55 #[.pointer I] ak λ ae Y=>
 ∃ e:Sl,(ae=.returned (e.v))/\
 (b Y)/\
 Calls prog 122 #[.pointer J,.int .i64 L] Y λ af Z=>
 ∃ f:Sl,(af=.returned (f.v))/\
 (b Z)/\
 ∃ m:World,(St 33 ⟨u,0,none⟩ (.agg #[.int .i64 0,.string C,.int .i64 D,.int .i64 E,.int .i64 F,.int .i64 G,.int .i64 H,e.v,f.v]) Z m)/\
 ∃ M N O Q T U V,∃ g i:Sl,(Aw m ⟨u,0,none⟩ [.int .i64 M,.string N,.int .i64 O,.int .i64 Q,.int .i64 T,.int .i64 U,.int .i64 V,g.v,i.v])/\
 K (.agg #[.int .i64 M,.string N,.int .i64 O,.int .i64 Q,.int .i64 T,.int .i64 U,.int .i64 V,g.v,i.v]) m) ai) w
theorem ZAp (a:Option Addr) (b:Option Addr) (K:Value->World->Prop) (w:World) (h:B53 a b K w):Zo prog 53 #[.pointer a,.pointer b] w K:=cq (sk:=.leaf) h func53
def B39 (o:Option Addr) (aw:Int) (ax:ByteArray) (ay:Int) (az:Int) (a0:Int) (a1:Int) (a2:Nat) (a3:ByteArray) (a4:Int) (q:Sl) (p:Sl) (c:List PanicEntry->World->Prop) (K:Value->World->Prop) (w:World):Prop:=
 New (.cells #[.int .i64 aw,.string ax,.int .i64 ay,.int .i64 az,.int .i64 a0,.int .i64 a1,.float .f64 a2,.string a3,.int .i64 a4,q.v,p.v] 40 (0,0)) (λ d a5=>
 New (.cells #[.int .i64 0,.string (ByteArray.mk #[]),.int .i64 0,.int .i64 0,.int .i64 0,.int .i64 0,.int .i64 0,.slice none 0 0,.slice none 0 0] 33 (0,0)) (λ A a8=>
 Drw a8 λ l a9=>
 Zd o λ x=>
 ∃ Q:Option Nat,(At l ⟨x.block,x.off + 2,none⟩ [.map Q])/\
 ∃ T,(At l ⟨d,0 + 2,none⟩ [.int .i64 T])/\
 ∃ U V:Option Addr,∃ X:Bool,(∀ b,l b->((Instr.lookup 77 (.map Q) (.int .i64 T) true)).run prog b=.ok (.tuple #[.agg #[.pointer U,.pointer V],.bool X]) b)/\
 New (.cells #[.pointer none,.pointer none] 97 (0,0)) (λ av ap=>
 (l ap)/\
 ∃ aq:World,(St 97 ⟨av,0,none⟩ (.agg #[.pointer U,.pointer V]) ap aq)/\
 Calls prog 37 #[.bool (!X),.int .i64 7] aq λ I m=>
 ((I=.returned (.tuple #[]))/\
 Zd o λ y=>
 ∃ Y:Option Nat,(Aw m ⟨y.block,y.off + 2,none⟩ [.map Y])/\
 ∃ Z:Int,(∀ b,(λ b=>b=m) b->((Builtin.len_ #[77] 3 #[.map Y])).run prog b=.ok (.int .i64 Z) b)/\
 Calls prog 37 #[.bool (decide (Z<8)),.int .i64 3] m λ J k=>
 ((J=.returned (.tuple #[]))/\
 ∃ aa,(Aw k ⟨d,0 + 2,none⟩ [.int .i64 aa])/\
 ∃ ab,∃ e:Sl,(Aw k ⟨d,0 + 8,none⟩ [.int .i64 ab,e.v])/\
 ∃ f:Sl,(Aw k ⟨d,0 + 10,none⟩ [f.v])/\
 Calls prog 98 #[.int .i64 aa,.agg #[.int .i64 ab,e.v],f.v] k λ L ar=>
 (∃ r ac,(L=.returned (.tuple #[.pointer r,.int .i64 ac]))/\
 Calls prog 99 #[.int .i64 ac] ar λ M au=>
 ((M=.returned (.tuple #[]))/\
 Drw au λ n a6=>
 Zd o λ z=>
 ∃ ad:Option Nat,(At n ⟨z.block,z.off + 2,none⟩ [.map ad])/\
 ∃ ae,(At n ⟨d,0 + 2,none⟩ [.int .i64 ae])/\
 Calls prog 100 #[] a6 λ N s=>
 (∃ af,(N=.returned (.pointer af))/\
 (n s)/\
 ∃ ao:World,((Instr.mapUpdate 77 (.map ad) (.int .i64 ae) (.agg #[.pointer r,.pointer af])).run prog s=.ok () ao)/\
 Drw ao λ v a7=>
 ∃ ag,(At v ⟨d,0 + 2,none⟩ [.int .i64 ag])/\
 Calls prog 55 #[.pointer r] a7 λ O t=>
 (∃ g:Sl,(O=.returned (g.v))/\
 (v t)/\
 ∃ u:World,(St 33 ⟨A,0,none⟩ (.agg #[.int .i64 0,.string (ByteArray.mk #[]),.int .i64 0,.int .i64 ag,.int .i64 0,.int .i64 0,.int .i64 0,g.v,.slice none 0 0]) t u)/\
 ∃ ah ai aj ak al am an,∃ i j:Sl,(Aw u ⟨A,0,none⟩ [.int .i64 ah,.string ai,.int .i64 aj,.int .i64 ak,.int .i64 al,.int .i64 am,.int .i64 an,i.v,j.v])/\
 K (.agg #[.int .i64 ah,.string ai,.int .i64 aj,.int .i64 ak,.int .i64 al,.int .i64 am,.int .i64 an,i.v,j.v]) u)\/
 (∃ H:List PanicEntry,(O=.panicked H)/\c H t))\/
 (∃ G:List PanicEntry,(N=.panicked G)/\c G s))\/
 (∃ F:List PanicEntry,(M=.panicked F)/\c F au))\/
 (∃ E:List PanicEntry,(L=.panicked E)/\c E ar))\/
 (∃ D:List PanicEntry,(J=.panicked D)/\c D k))\/
 (∃ C:List PanicEntry,(I=.panicked C)/\c C m)) a9) a5) w
theorem ZAt (e:Option Addr) (f:Int) (g:ByteArray) (i:Int) (j:Int) (k:Int) (l:Int) (m:Nat) (n:ByteArray) (o:Int) (c:Sl) (b:Sl) (d:List PanicEntry->World->Prop) (K:Value->World->Prop) (w:World) (h:B39 e f g i j k l m n o c b d K w):ZaV prog 39 #[.pointer e,.agg #[.int .i64 f,.string g,.int .i64 i,.int .i64 j,.int .i64 k,.int .i64 l,.float .f64 m,.string n,.int .i64 o,c.v,b.v]] w d K:=cqx (sk:=.leaf) h func39
def B40 (d:Option Addr) (da:Int) (db:ByteArray) (dc:Int) (dd:Int) (de:Int) (df:Int) (dg:Nat) (dh:ByteArray) (di:Int) (H:Sl) (G:Sl) (c:List PanicEntry->World->Prop) (K:Value->World->Prop) (w:World):Prop:=
 New (.cells #[.int .i64 da,.string db,.int .i64 dc,.int .i64 dd,.int .i64 de,.int .i64 df,.float .f64 dg,.string dh,.int .i64 di,H.v,G.v] 40 (0,0)) (λ e dj=>
 New (.cells #[.int .i64 0,.string (ByteArray.mk #[]),.int .i64 0,.int .i64 0,.int .i64 0,.int .i64 0,.int .i64 0,.slice none 0 0,.slice none 0 0] 33 (0,0)) (λ x c0=>
 ∃ cf,(Aw c0 ⟨e,0 + 2,none⟩ [.int .i64 cf])/\
 Calls prog 54 #[.pointer d,.int .i64 cf] c0 λ aq c4=>
 (∃ a5 ba,(aq=.returned (.agg #[.pointer a5,.pointer ba]))/\
 New (.cells #[.pointer none,.pointer none] 97 (0,0)) (λ v dp=>
 ∃ c7:World,(St 97 ⟨v,0,none⟩ (.agg #[.pointer a5,.pointer ba]) dp c7)/\
 Drw c7 λ i dq=>
 Zd d λ Z=>
 ∃ bt,(At i ⟨Z.block,Z.off + 1,none⟩ [.int .i64 bt])/\
 ∃ bu,(At i ⟨e,0 + 2,none⟩ [.int .i64 bu])/\
 ∃ bv,(At i ⟨e,0 + 3,none⟩ [.int .i64 bv])/\
 ∃ bw,(At i ⟨e,0 + 4,none⟩ [.int .i64 bw])/\
 ∃ bx,(At i ⟨e,0 + 5,none⟩ [.int .i64 bx])/\
 New (.cells #[.int .i64 bt,.int .i64 bu,.int .i64 bv,.int .i64 bw,.int .i64 1,.int .i64 bx] 121 (0,0)) (λ f A=>
 (i A)/\
 ∃ (C:World->Prop),(∃ bz,(Aw A ⟨e,0,none⟩ [.int .i64 bz])/\
 Br (bz==2)
 (Drw A λ F dr=>
 ∃ b0,(At F ⟨e,0 + 5,none⟩ [.int .i64 b0])/\
 Zd d λ c8=>
 ∃ b1,(At F (Addr.add c8 0) [.int .i64 b1])/\
 Calls prog 37 #[.bool (decide (b0>b1)),.int .i64 1] dr λ ar U=>
 ((ar=.returned (.tuple #[]))/\
 (F U)/\
 C  U)\/
 (∃ ae:List PanicEntry,(ar=.panicked ae)/\c ae U))
 (Drw A λ u dk=>
 ∃ b2,(At u ⟨e,0 + 3,none⟩ [.int .i64 b2])/\
 ∃ b3,(At u ⟨v,0,none⟩ [.pointer b3])/\
 Calls prog 55 #[.pointer b3] dk λ ax I=>
 (∃ y:Sl,(ax=.returned (y.v))/\
 (u I)/\
 Calls prog 37 #[.bool (decide (b2<(↑y.len:Int))),.int .i64 1] I λ ay J=>
 ((ay=.returned (.tuple #[]))/\
 (u J)/\
 ∃ cw:World,(St 3 ⟨f,0 + 4,none⟩ (.int .i64 3) J cw)/\
 ∃ cx:World,(St 3 ⟨f,0 + 5,none⟩ (.int .i64 0) cw cx)/\
 C  cx)\/
 (∃ aj:List PanicEntry,(ay=.panicked aj)/\c aj J))\/
 (∃ ai:List PanicEntry,(ax=.panicked ai)/\c ai I)))/\
 ∀ (ds:Env)  (r:World),C  r->
 ∃ (D:World->Prop),(Zd d λ ab=>
 ∃ b4:Option Nat,(Aw r ⟨ab.block,ab.off + 3,none⟩ [.map b4])/\
 ∃ b5:Int,(∀ b,(λ b=>b=r) b->((Builtin.len_ #[78] 3 #[.map b4])).run prog b=.ok (.int .i64 b5) b)/\
 Br (decide (b5<300))
 (Zd d λ ac=>
 ∃ b6,(Aw r ⟨ac.block,ac.off + 1,none⟩ [.int .i64 b6])/\
 Calls prog 37 #[.bool (decide (b6<28629151)),.int .i64 3] r λ az cy=>
 ((az=.returned (.tuple #[]))/\
 D  cy)\/
 (∃ ak:List PanicEntry,(az=.panicked ak)/\c ak cy))
 (Calls prog 37 #[.bool false,.int .i64 3] r λ a0 cz=>
 ((a0=.returned (.tuple #[]))/\
 D  cz)\/
 (∃ al:List PanicEntry,(a0=.panicked al)/\c al cz)))/\
 ∀ (dt:Env)  (z:World),D  z->
 ∃ (E:World->Prop),(∃ b7,(Aw z ⟨e,0,none⟩ [.int .i64 b7])/\
 Br (b7==2)
 (Drw z λ s dl=>
 ∃ b8,(At s ⟨v,0,none⟩ [.pointer b8])/\
 ∃ b9,(At s ⟨f,0,none⟩ [.int .i64 b9])/\
 ∃ ca,(At s ⟨f,0 + 2,none⟩ [.int .i64 ca])/\
 ∃ cb,(At s ⟨f,0 + 3,none⟩ [.int .i64 cb])/\
 Calls prog 101 #[.pointer b8,.int .i64 b9,.int .i64 ca,.int .i64 cb] dl λ a1 c1=>
 (∃ cc,(a1=.returned (.int .i64 cc))/\
 Calls prog 99 #[.int .i64 cc] c1 λ a2 L=>
 ((a2=.returned (.tuple #[]))/\
 (s L)/\
 E  L)\/
 (∃ an:List PanicEntry,(a2=.panicked an)/\c an L))\/
 (∃ am:List PanicEntry,(a1=.panicked am)/\c am c1))
 (Drw z λ g dm=>
 ∃ cd,(At g ⟨v,0 + 1,none⟩ [.pointer cd])/\
 ∃ ce,(At g ⟨f,0,none⟩ [.int .i64 ce])/\
 ∃ cg,(At g ⟨f,0 + 2,none⟩ [.int .i64 cg])/\
 ∃ ch,(At g ⟨f,0 + 3,none⟩ [.int .i64 ch])/\
 Zd d λ c9=>
 ∃ a6,(At g (Addr.add c9 0) [.int .i64 a6])/\
 ∃ a7,(At g ⟨e,0 + 6,none⟩ [.float .f64 a7])/\
 Calls prog 102 #[.pointer cd,.agg #[.int .i64 ce,.int .i64 cg,.int .i64 ch,.int .i64 a6,.float .f64 a7]] dm λ a3 M=>
 (∃ a8,(a3=.returned (.int .i64 a8))/\
 (g M)/\
 Calls prog 99 #[.int .i64 a8] M λ a4 N=>
 ((a4=.returned (.tuple #[]))/\
 (g N)/\
 E  N)\/
 (∃ ap:List PanicEntry,(a4=.panicked ap)/\c ap N))\/
 (∃ ao:List PanicEntry,(a3=.panicked ao)/\c ao M)))/\
 ∀ (du:Env)  (c2:World),E  c2->
 Drw c2 λ V dn=>
 Zd d λ X=>
 ∃ a9:Option Nat,(At V ⟨X.block,X.off + 3,none⟩ [.map a9])/\
 ∃ bb,(At V ⟨f,0,none⟩ [.int .i64 bb])/\
 ∃ O:World,((Instr.mapUpdate 78 (.map a9) (.int .i64 bb) (.pointer ((some ⟨f,0,none⟩)))).run prog dn=.ok () O)/\
 Zd d λ Y=>
 ∃ bc,(Aw O ⟨Y.block,Y.off + 1,none⟩ [.int .i64 bc])/\
 Zd d λ aa=>
 ∃ t:World,(St 3 ⟨aa.block,aa.off + 1,none⟩ (.int .i64 (IntKind.i64.wrap (bc + 1))) O t)/\
 ∃ bd,(Aw t ⟨e,0,none⟩ [.int .i64 bd])/\
 Br (bd==7)
 (∃ be,(Aw t ⟨e,0 + 2,none⟩ [.int .i64 be])/\
 Calls prog 103 #[.pointer d,.int .i64 be] t λ au c3=>
 ((au=.returned (.tuple #[]))/\
 Calls prog 53 #[.pointer d,.pointer ((some ⟨f,0,none⟩))] c3 λ av c5=>
 (∃ bf bg bn bo bp bq br,∃ l m:Sl,(av=.returned (.agg #[.int .i64 bf,.string bg,.int .i64 bn,.int .i64 bo,.int .i64 bp,.int .i64 bq,.int .i64 br,l.v,m.v]))/\
 ∃ Q:World,(St 33 ⟨x,0,none⟩ (.agg #[.int .i64 bf,.string bg,.int .i64 bn,.int .i64 bo,.int .i64 bp,.int .i64 bq,.int .i64 br,l.v,m.v]) c5 Q)/\
 ∃ ci cj cq cr cs ct cu,∃ p q:Sl,(Aw Q ⟨x,0,none⟩ [.int .i64 ci,.string cj,.int .i64 cq,.int .i64 cr,.int .i64 cs,.int .i64 ct,.int .i64 cu,p.v,q.v])/\
 K (.agg #[.int .i64 ci,.string cj,.int .i64 cq,.int .i64 cr,.int .i64 cs,.int .i64 ct,.int .i64 cu,p.v,q.v]) Q)\/
 (∃ ag:List PanicEntry,(av=.panicked ag)/\c ag c5))\/
 (∃ af:List PanicEntry,(au=.panicked af)/\c af c3))
 (Calls prog 53 #[.pointer d,.pointer ((some ⟨f,0,none⟩))] t λ aw c6=>
 (∃ bs bh bi bj bk bl bm,∃ j k:Sl,(aw=.returned (.agg #[.int .i64 bs,.string bh,.int .i64 bi,.int .i64 bj,.int .i64 bk,.int .i64 bl,.int .i64 bm,j.v,k.v]))/\
 ∃ T:World,(St 33 ⟨x,0,none⟩ (.agg #[.int .i64 bs,.string bh,.int .i64 bi,.int .i64 bj,.int .i64 bk,.int .i64 bl,.int .i64 bm,j.v,k.v]) c6 T)/\
 ∃ cv ck cl cm cn co cp,∃ n o:Sl,(Aw T ⟨x,0,none⟩ [.int .i64 cv,.string ck,.int .i64 cl,.int .i64 cm,.int .i64 cn,.int .i64 co,.int .i64 cp,n.v,o.v])/\
 K (.agg #[.int .i64 cv,.string ck,.int .i64 cl,.int .i64 cm,.int .i64 cn,.int .i64 co,.int .i64 cp,n.v,o.v]) T)\/
 (∃ ah:List PanicEntry,(aw=.panicked ah)/\c ah c6))) dq) c4)\/
 (∃ ad:List PanicEntry,(aq=.panicked ad)/\c ad c4)) dj) w
def sk40:Sk:=(.seq .leaf (.seq .leaf (.seq .leaf (.cut [] [] [25,26,27,28,29,30,31,32,33,34,35,36,37,38,39,40,41,42,43,44,45,46,47,48,49] .leaf (.cut [] [] [50,51,52,53,54,55,56,57,58,59,60,61,62,63] .leaf (.cut [] [] [64,65,66,67,68,69,70,71,72,73,74,75,76,77,78,79,80,81,82,83,84,85,86,87,88,89,90,91,92,93,94,95,96,97,98,99,100,101,102,103,104,105] .leaf .leaf))))))
theorem ZvG (e:Option Addr) (f:Int) (g:ByteArray) (i:Int) (j:Int) (k:Int) (l:Int) (m:Nat) (n:ByteArray) (o:Int) (c:Sl) (b:Sl) (d:List PanicEntry->World->Prop) (K:Value->World->Prop) (w:World) (h:B40 e f g i j k l m n o c b d K w):ZaV prog 40 #[.pointer e,.agg #[.int .i64 f,.string g,.int .i64 i,.int .i64 j,.int .i64 k,.int .i64 l,.float .f64 m,.string n,.int .i64 o,c.v,b.v]] w d K:=cqx (sk:=sk40) h func40
def B41 (c:Option Addr) (bn:Int) (bo:ByteArray) (bp:Int) (bq:Int) (br:Int) (bs:Int) (bt:Nat) (bu:ByteArray) (bv:Int) (C:Sl) (A:Sl) (f:List PanicEntry->World->Prop) (K:Value->World->Prop) (w:World):Prop:=
 New (.cells #[.int .i64 bn,.string bo,.int .i64 bp,.int .i64 bq,.int .i64 br,.int .i64 bs,.float .f64 bt,.string bu,.int .i64 bv,C.v,A.v] 40 (0,0)) (λ T bz=>
 New (.cells #[.int .i64 0,.string (ByteArray.mk #[]),.int .i64 0,.int .i64 0,.int .i64 0,.int .i64 0,.int .i64 0,.slice none 0 0,.slice none 0 0] 33 (0,0)) (λ U b1=>
 Drw b1 λ y b2=>
 ∃ ak,(At y ⟨T,0 + 5,none⟩ [.int .i64 ak])/\
 Zd c λ bh=>
 ∃ al,(At y (Addr.add bh 0) [.int .i64 al])/\
 Calls prog 37 #[.bool (decide (ak >= al)),.int .i64 7] b2 λ ad t=>
 ((ad=.returned (.tuple #[]))/\
 (y t)/\
 ∃ am,(Aw t ⟨T,0 + 5,none⟩ [.int .i64 am])/\
 Zd c λ bi=>
 ∃ G:World,(St 3 (Addr.add bi 0) (.int .i64 am) t G)/\
 Zd c λ H=>
 ∃ an:Option Nat,(Aw G ⟨H.block,H.off + 3,none⟩ [.map an])/\
 Calls prog 66 #[.map an] G λ ae bd=>
 (∃ ao:Value,(ae=.returned (ao))/\
 Calls prog 61 #[ao] bd λ af be=>
 (∃ i:Sl,(af=.returned (i.v))/\
 ∃ (n:Int->World->Prop) (u:Int->World->Nat),(n 0 be)/\∀ (b3:Env) (d:Int) (e:World),n d e->
 Br (decide (d<(↑i.len:Int)))
 (Rng d i.len (Zd i.a λ bj=>
 ∃ p,(Aw e (Addr.add bj d.toNat) [.int .i64 p])/\
 Zd c λ I=>
 ∃ ap:Option Nat,(Aw e ⟨I.block,I.off + 3,none⟩ [.map ap])/\
 ∃ q:Option Addr,(∀ b,(λ b=>b=e) b->((Instr.lookup 78 (.map ap) (.int .i64 p) false)).run prog b=.ok (.pointer q) b)/\
 ∃ (x:Bool->World->Prop),(Drw e λ z bf=>
 Zd q λ J=>
 ∃ aq,(At z ⟨J.block,J.off + 4,none⟩ [.int .i64 aq])/\
 Br (aq==1)
 (Zd q λ L=>
 ∃ ar,(At z ⟨L.block,L.off + 5,none⟩ [.int .i64 ar])/\
 Zd c λ bk=>
 ∃ au,(At z (Addr.add bk 0) [.int .i64 au])/\
 x (decide (ar<=au)) bf)
 (x false bf))/\
 ∀ (b4:Env) (av:Bool) (r:World),x av r->
 Br av
 (Drw r λ o b0=>
 Zd c λ M=>
 ∃ aw:Option Nat,(At o ⟨M.block,M.off + 2,none⟩ [.map aw])/\
 Zd q λ N=>
 ∃ ax,(At o ⟨N.block,N.off + 1,none⟩ [.int .i64 ax])/\
 ∃ ay bw:Option Addr,(∀ b,o b->((Instr.lookup 77 (.map aw) (.int .i64 ax) false)).run prog b=.ok (.agg #[.pointer ay,.pointer bw]) b)/\
 Calls prog 104 #[.pointer ay,.int .i64 p] b0 λ ag s=>
 (∃ bx,(ag=.returned (.int .i64 bx))/\
 (o s)/\
 Zd c λ O=>
 ∃ az:Option Nat,(Aw s ⟨O.block,O.off + 3,none⟩ [.map az])/\
 ∃ D:World,((Builtin.delete_ #[78,3] 0 #[.map az,.int .i64 p]).run prog s=.ok (.tuple #[]) D)/\
 (n (IntKind.i64.wrap (d + 1)) D)/\u (IntKind.i64.wrap (d + 1)) D<u d e)\/
 (∃ Z:List PanicEntry,(ag=.panicked Z)/\f Z s))
 ((n (IntKind.i64.wrap (d + 1)) r)/\u (IntKind.i64.wrap (d + 1)) r<u d e)))
 (Zd c λ Q=>
 ∃ a0:Option Nat,(Aw e ⟨Q.block,Q.off + 2,none⟩ [.map a0])/\
 Calls prog 62 #[.map a0] e λ ah bb=>
 (∃ a1:Value,(ah=.returned (a1))/\
 Calls prog 61 #[a1] bb λ ai bc=>
 (∃ j:Sl,(ai=.returned (j.v))/\
 ∃ (v:Int->World->Prop) (bg:Int->World->Nat),(v 0 bc)/\∀ (b5:Env) (g:Int) (m:World),v g m->
 Br (decide (g<(↑j.len:Int)))
 (Rng g j.len (Zd j.a λ bl=>
 ∃ a2,(Aw m (Addr.add bl g.toNat) [.int .i64 a2])/\
 Calls prog 103 #[.pointer c,.int .i64 a2] m λ aj E=>
 ((aj=.returned (.tuple #[]))/\
 (v (IntKind.i64.wrap (g + 1)) E)/\bg (IntKind.i64.wrap (g + 1)) E<bg g m)\/
 (∃ ac:List PanicEntry,(aj=.panicked ac)/\f ac E)))
 (Zd c λ bm=>
 ∃ a3,(Aw m (Addr.add bm 0) [.int .i64 a3])/\
 ∃ F:World,(St 33 ⟨U,0,none⟩ (.agg #[.int .i64 0,.string (ByteArray.mk #[]),.int .i64 0,.int .i64 0,.int .i64 0,.int .i64 0,.int .i64 a3,.slice none 0 0,.slice none 0 0]) m F)/\
 ∃ a4 a5 a6 a7 a8 a9 ba,∃ k l:Sl,(Aw F ⟨U,0,none⟩ [.int .i64 a4,.string a5,.int .i64 a6,.int .i64 a7,.int .i64 a8,.int .i64 a9,.int .i64 ba,k.v,l.v])/\
 K (.agg #[.int .i64 a4,.string a5,.int .i64 a6,.int .i64 a7,.int .i64 a8,.int .i64 a9,.int .i64 ba,k.v,l.v]) F))\/
 (∃ ab:List PanicEntry,(ai=.panicked ab)/\f ab bc))\/
 (∃ aa:List PanicEntry,(ah=.panicked aa)/\f aa bb)))\/
 (∃ Y:List PanicEntry,(af=.panicked Y)/\f Y be))\/
 (∃ X:List PanicEntry,(ae=.panicked X)/\f X bd))\/
 (∃ V:List PanicEntry,(ad=.panicked V)/\f V t)) bz) w
def sk41:Sk:=(.seq .leaf (.seq .leaf (.seq .leaf (.seq (.seq .leaf (.block (.loop [30] [(.int .i64)] [6,7,30,31,32,33,34,35,36,37,38,39,40,41,42,43,44,45,46,47,48,49,50,51,52,53,54,55,56,57,58,59,60,61,62,63,64,65,66,67,68,69,70,71,72,73] (.seq .leaf (.seq .leaf (.seq (.block (.seq .leaf (.seq .leaf (.cut [55] [.bool] [40,41,42,43,44,45,46,47,48,49,50,51,52,53,54,55] .leaf .leaf)))) .leaf)))))) (.seq (.seq .leaf (.block (.loop [81] [(.int .i64)] [9,81,82,83,84,85,86,87,88] .leaf))) .leaf)))))
theorem ZAs (e:Option Addr) (f:Int) (g:ByteArray) (i:Int) (j:Int) (k:Int) (l:Int) (m:Nat) (n:ByteArray) (o:Int) (c:Sl) (b:Sl) (d:List PanicEntry->World->Prop) (K:Value->World->Prop) (w:World) (h:B41 e f g i j k l m n o c b d K w):ZaV prog 41 #[.pointer e,.agg #[.int .i64 f,.string g,.int .i64 i,.int .i64 j,.int .i64 k,.int .i64 l,.float .f64 m,.string n,.int .i64 o,c.v,b.v]] w d K:=cqx (sk:=sk41) h func41
def B42 (g:Option Addr) (c:Option Addr) (ed:Int) (ee:ByteArray) (ef:Int) (eg:Int) (eh:Int) (ei:Int) (ej:Nat) (ek:ByteArray) (el:Int) (L:Sl) (J:Sl) (d:List PanicEntry->World->Prop) (K:Value->World->Prop) (w:World):Prop:=
 New (.cells #[.int .i64 ed,.string ee,.int .i64 ef,.int .i64 eg,.int .i64 eh,.int .i64 ei,.float .f64 ej,.string ek,.int .i64 el,L.v,J.v] 40 (0,0)) (λ I eo=>
 New (.cells #[.int .i64 0,.string (ByteArray.mk #[]),.int .i64 0,.int .i64 0,.int .i64 0,.int .i64 0,.int .i64 0,.slice none 0 0,.slice none 0 0] 33 (0,0)) (λ e es=>
 Drw es λ E ev=>
 Zd g λ ad=>
 ∃ ca:Option Nat,(At E ⟨ad.block,ad.off + 2,none⟩ [.map ca])/\
 Zd c λ ae=>
 ∃ cb,(At E ⟨ae.block,ae.off + 1,none⟩ [.int .i64 cb])/\
 ∃ cc cd:Option Addr,(∀ b,E b->((Instr.lookup 77 (.map ca) (.int .i64 cb) false)).run prog b=.ok (.agg #[.pointer cc,.pointer cd]) b)/\
 New (.cells #[.pointer none,.pointer none] 97 (0,0)) (λ C d3=>
 (E d3)/\
 ∃ f:World,(St 97 ⟨C,0,none⟩ (.agg #[.pointer cc,.pointer cd]) d3 f)/\
 Zd c λ af=>
 ∃ G,(Aw f ⟨af.block,af.off + 4,none⟩ [.int .i64 G])/\
 ∃ D,(Aw f ⟨I,0,none⟩ [.int .i64 D])/\
 Br (D==3)
 (Zd c λ ag=>
 ∃ ce,(Aw f ⟨ag.block,ag.off + 4,none⟩ [.int .i64 ce])/\
 Calls prog 37 #[.bool (ce==1),.int .i64 7] f λ a1 d4=>
 ((a1=.returned (.tuple #[]))/\
 Zd c λ ah=>
 ∃ d5:World,(St 3 ⟨ah.block,ah.off + 4,none⟩ (.int .i64 2) d4 d5)/\
 Zd c λ ai=>
 ∃ d6:World,(St 3 ⟨ai.block,ai.off + 5,none⟩ (.int .i64 0) d5 d6)/\
 Calls prog 53 #[.pointer g,.pointer c] d6 λ a2 d7=>
 (∃ bh bi br b1 b6 b7 b8,∃ o p:Sl,(a2=.returned (.agg #[.int .i64 bh,.string bi,.int .i64 br,.int .i64 b1,.int .i64 b6,.int .i64 b7,.int .i64 b8,o.v,p.v]))/\
 ∃ N:World,(St 33 ⟨e,0,none⟩ (.agg #[.int .i64 bh,.string bi,.int .i64 br,.int .i64 b1,.int .i64 b6,.int .i64 b7,.int .i64 b8,o.v,p.v]) d7 N)/\
 ∃ cs ct c2 db dk dp dq,∃ z A:Sl,(Aw N ⟨e,0,none⟩ [.int .i64 cs,.string ct,.int .i64 c2,.int .i64 db,.int .i64 dk,.int .i64 dp,.int .i64 dq,z.v,A.v])/\
 K (.agg #[.int .i64 cs,.string ct,.int .i64 c2,.int .i64 db,.int .i64 dk,.int .i64 dp,.int .i64 dq,z.v,A.v]) N)\/
 (∃ am:List PanicEntry,(a2=.panicked am)/\d am d7))\/
 (∃ al:List PanicEntry,(a1=.panicked al)/\d al d4))
 (Br (D==4)
 (∃ (H:World->Prop),(Br (G==3)
 (Drw f λ Z ep=>
 ∃ cf,(At Z ⟨C,0 + 1,none⟩ [.pointer cf])/\
 Zd c λ d8=>
 ∃ cg,(At Z (Addr.add d8 0) [.int .i64 cg])/\
 Calls prog 105 #[.pointer cf,.int .i64 cg] ep λ a7 ds=>
 (∃ em,(a7=.returned (.int .i64 em))/\
 H  ds)\/
 (∃ ar:List PanicEntry,(a7=.panicked ar)/\d ar ds))
 (Drw f λ aa eq=>
 ∃ ch,(At aa ⟨C,0,none⟩ [.pointer ch])/\
 Zd c λ d9=>
 ∃ ci,(At aa (Addr.add d9 0) [.int .i64 ci])/\
 Calls prog 104 #[.pointer ch,.int .i64 ci] eq λ a8 dt=>
 (∃ en,(a8=.returned (.int .i64 en))/\
 H  dt)\/
 (∃ au:List PanicEntry,(a8=.panicked au)/\d au dt)))/\
 ∀ (ew:Env)  (du:World),H  du->
 Drw du λ ab er=>
 Zd g λ aj=>
 ∃ cj:Option Nat,(At ab ⟨aj.block,aj.off + 3,none⟩ [.map cj])/\
 Zd c λ ea=>
 ∃ ck,(At ab (Addr.add ea 0) [.int .i64 ck])/\
 ∃ O:World,((Builtin.delete_ #[78,3] 0 #[.map cj,.int .i64 ck]).run prog er=.ok (.tuple #[]) O)/\
 Zd c λ ak=>
 ∃ cl,(Aw O ⟨ak.block,ak.off + 1,none⟩ [.int .i64 cl])/\
 Calls prog 103 #[.pointer g,.int .i64 cl] O λ a9 Q=>
 ((a9=.returned (.tuple #[]))/\
 ∃ cm,(Aw Q ⟨I,0 + 1,none⟩ [.string cm])/\
 ∃ T:World,(St 33 ⟨e,0,none⟩ (.agg #[.int .i64 0,.string cm,.int .i64 0,.int .i64 0,.int .i64 0,.int .i64 0,.int .i64 0,.slice none 0 0,.slice none 0 0]) Q T)/\
 ∃ dr cu cv cw cx cy cz,∃ q r:Sl,(Aw T ⟨e,0,none⟩ [.int .i64 dr,.string cu,.int .i64 cv,.int .i64 cw,.int .i64 cx,.int .i64 cy,.int .i64 cz,q.v,r.v])/\
 K (.agg #[.int .i64 dr,.string cu,.int .i64 cv,.int .i64 cw,.int .i64 cx,.int .i64 cy,.int .i64 cz,q.v,r.v]) T)\/
 (∃ av:List PanicEntry,(a9=.panicked av)/\d av Q))
 (Br (D==5)
 (Calls prog 37 #[.bool (!G==3),.int .i64 7] f λ ba dv=>
 ((ba=.returned (.tuple #[]))/\
 Drw dv λ F et=>
 ∃ cn,(At F ⟨C,0,none⟩ [.pointer cn])/\
 Zd c λ eb=>
 ∃ co,(At F (Addr.add eb 0) [.int .i64 co])/\
 ∃ cp,(At F ⟨I,0 + 7,none⟩ [.string cp])/\
 Calls prog 106 #[.pointer cn,.int .i64 co,.string cp] et λ bb dw=>
 (∃ cq,(bb=.returned (.int .i64 cq))/\
 Calls prog 99 #[.int .i64 cq] dw λ bc U=>
 ((bc=.returned (.tuple #[]))/\
 (F U)/\
 Calls prog 53 #[.pointer g,.pointer c] U λ bd dx=>
 (∃ b9 bj bk bl bm bn bo,∃ i j:Sl,(bd=.returned (.agg #[.int .i64 b9,.string bj,.int .i64 bk,.int .i64 bl,.int .i64 bm,.int .i64 bn,.int .i64 bo,i.v,j.v]))/\
 ∃ V:World,(St 33 ⟨e,0,none⟩ (.agg #[.int .i64 b9,.string bj,.int .i64 bk,.int .i64 bl,.int .i64 bm,.int .i64 bn,.int .i64 bo,i.v,j.v]) dx V)/\
 ∃ c0 c1 c3 c4 c5 c6 c7,∃ s t:Sl,(Aw V ⟨e,0,none⟩ [.int .i64 c0,.string c1,.int .i64 c3,.int .i64 c4,.int .i64 c5,.int .i64 c6,.int .i64 c7,s.v,t.v])/\
 K (.agg #[.int .i64 c0,.string c1,.int .i64 c3,.int .i64 c4,.int .i64 c5,.int .i64 c6,.int .i64 c7,s.v,t.v]) V)\/
 (∃ az:List PanicEntry,(bd=.panicked az)/\d az dx))\/
 (∃ ay:List PanicEntry,(bc=.panicked ay)/\d ay U))\/
 (∃ ax:List PanicEntry,(bb=.panicked ax)/\d ax dw))\/
 (∃ aw:List PanicEntry,(ba=.panicked aw)/\d aw dv))
 (Br (D==6)
 (Calls prog 37 #[.bool (!G==3),.int .i64 7] f λ be dy=>
 ((be=.returned (.tuple #[]))/\
 Drw dy λ ac eu=>
 ∃ cr,(At ac ⟨C,0,none⟩ [.pointer cr])/\
 Zd c λ ec=>
 ∃ bf,(At ac (Addr.add ec 0) [.int .i64 bf])/\
 Calls prog 107 #[.pointer cr,.int .i64 bf] eu λ a3 dz=>
 (∃ M:Sl,∃ bg,(a3=.returned (.tuple #[M.v,.int .i64 bg]))/\
 Calls prog 99 #[.int .i64 bg] dz λ a4 d0=>
 ((a4=.returned (.tuple #[]))/\
 Calls prog 53 #[.pointer g,.pointer c] d0 λ a5 d1=>
 (∃ bp bq bs bt bu bv bw,∃ k l:Sl,(a5=.returned (.agg #[.int .i64 bp,.string bq,.int .i64 bs,.int .i64 bt,.int .i64 bu,.int .i64 bv,.int .i64 bw,k.v,l.v]))/\
 ∃ X:World,(St 33 ⟨e,0,none⟩ (.agg #[.int .i64 bp,.string bq,.int .i64 bs,.int .i64 bt,.int .i64 bu,.int .i64 bv,.int .i64 bw,k.v,l.v]) d1 X)/\
 ∃ c8 c9 da dc dd de df,∃ u v:Sl,(Aw X ⟨e,0,none⟩ [.int .i64 c8,.string c9,.int .i64 da,.int .i64 dc,.int .i64 dd,.int .i64 de,.int .i64 df,u.v,v.v])/\
 K (.agg #[.int .i64 c8,.string c9,.int .i64 da,.int .i64 dc,.int .i64 dd,.int .i64 de,.int .i64 df,u.v,v.v]) X)\/
 (∃ ap:List PanicEntry,(a5=.panicked ap)/\d ap d1))\/
 (∃ ao:List PanicEntry,(a4=.panicked ao)/\d ao d0))\/
 (∃ an:List PanicEntry,(a3=.panicked an)/\d an dz))\/
 (∃ a0:List PanicEntry,(be=.panicked a0)/\d a0 dy))
 (Calls prog 53 #[.pointer g,.pointer c] f λ a6 d2=>
 (∃ bx bz b0 b2 b3 b4 b5,∃ m n:Sl,(a6=.returned (.agg #[.int .i64 bx,.string bz,.int .i64 b0,.int .i64 b2,.int .i64 b3,.int .i64 b4,.int .i64 b5,m.v,n.v]))/\
 ∃ Y:World,(St 33 ⟨e,0,none⟩ (.agg #[.int .i64 bx,.string bz,.int .i64 b0,.int .i64 b2,.int .i64 b3,.int .i64 b4,.int .i64 b5,m.v,n.v]) d2 Y)/\
 ∃ dg dh di dj dl dm dn,∃ x y:Sl,(Aw Y ⟨e,0,none⟩ [.int .i64 dg,.string dh,.int .i64 di,.int .i64 dj,.int .i64 dl,.int .i64 dm,.int .i64 dn,x.v,y.v])/\
 K (.agg #[.int .i64 dg,.string dh,.int .i64 di,.int .i64 dj,.int .i64 dl,.int .i64 dm,.int .i64 dn,x.v,y.v]) Y)\/
 (∃ aq:List PanicEntry,(a6=.panicked aq)/\d aq d2)))))) ev) eo) w
def sk42:Sk:=(.seq .leaf (.seq .leaf (.seq .leaf (.seq (.seq .leaf (.block (.seq .leaf (.cond .leaf (.seq .leaf (.cond (.cut [] [] [43,44,45,46,47,48,49,50,51,52,53,54,55,56,57] .leaf .leaf) .leaf)))))) .leaf))))
theorem ZAr (e:Option Addr) (p:Option Addr) (f:Int) (g:ByteArray) (i:Int) (j:Int) (k:Int) (l:Int) (m:Nat) (n:ByteArray) (o:Int) (c:Sl) (b:Sl) (d:List PanicEntry->World->Prop) (K:Value->World->Prop) (w:World) (h:B42 e p f g i j k l m n o c b d K w):ZaV prog 42 #[.pointer e,.pointer p,.agg #[.int .i64 f,.string g,.int .i64 i,.int .i64 j,.int .i64 k,.int .i64 l,.float .f64 m,.string n,.int .i64 o,c.v,b.v]] w d K:=cqx (sk:=sk42) h func42
def B12 (g:Option Addr) (g4:Int) (g5:ByteArray) (g6:Int) (g7:Int) (g8:Int) (g9:Int) (ha:Nat) (hb:ByteArray) (hc:Int) (ap:Sl) (ao:Sl) (K:Value->World->Prop) (w:World):Prop:=
 New (.cells #[.int .i64 g4,.string g5,.int .i64 g6,.int .i64 g7,.int .i64 g8,.int .i64 g9,.float .f64 ha,.string hb,.int .i64 hc,ap.v,ao.v] 40 (0,0)) (λ d hd=>
 New (.cells #[.int .i64 0,.string (ByteArray.mk #[]),.int .i64 0,.int .i64 0,.int .i64 0,.int .i64 0,.int .i64 0,.slice none 0 0,.slice none 0 0] 33 (0,0)) (λ c gq=>
 ∃ dm dn dp dq dr ds dt du dv,∃ F E:Sl,(Aw gq ⟨d,0,none⟩ [.int .i64 dm,.string dn,.int .i64 dp,.int .i64 dq,.int .i64 dr,.int .i64 ds,.float .f64 dt,.string du,.int .i64 dv,F.v,E.v])/\
 Calls prog 38 #[.agg #[.int .i64 dm,.string dn,.int .i64 dp,.int .i64 dq,.int .i64 dr,.int .i64 ds,.float .f64 dt,.string du,.int .i64 dv,F.v,E.v]] gq λ a2 gy=>
 (∃ dw,(a2=.returned (.bool dw))/\
 Calls prog 37 #[.bool dw,.int .i64 1] gy λ a3 al=>
 ((a3=.returned (.tuple #[]))/\
 ∃ f,(Aw al ⟨d,0,none⟩ [.int .i64 f])/\
 Br (f==1)
 (∃ ba bb bc bd be bf bg bh bi,∃ j i:Sl,(Aw al ⟨d,0,none⟩ [.int .i64 ba,.string bb,.int .i64 bc,.int .i64 bd,.int .i64 be,.int .i64 bf,.float .f64 bg,.string bh,.int .i64 bi,j.v,i.v])/\
 Calls prog 39 #[.pointer g,.agg #[.int .i64 ba,.string bb,.int .i64 bc,.int .i64 bd,.int .i64 be,.int .i64 bf,.float .f64 bg,.string bh,.int .i64 bi,j.v,i.v]] al λ a4 g0=>
 (∃ bj bk bl bm bn bo bp,∃ k l:Sl,(a4=.returned (.agg #[.int .i64 bj,.string bk,.int .i64 bl,.int .i64 bm,.int .i64 bn,.int .i64 bo,.int .i64 bp,k.v,l.v]))/\
 ∃ g1:World,(St 33 ⟨c,0,none⟩ (.agg #[.int .i64 bj,.string bk,.int .i64 bl,.int .i64 bm,.int .i64 bn,.int .i64 bo,.int .i64 bp,k.v,l.v]) g0 g1)/\
 Zs prog 36 [.pointer ((some ⟨c,0,none⟩))] .returning (λ g2=>∃ dx dy ek et e2 fb fk,∃ ab af:Sl,(Aw g2 ⟨c,0,none⟩ [.int .i64 dx,.string dy,.int .i64 ek,.int .i64 et,.int .i64 e2,.int .i64 fb,.int .i64 fk,ab.v,af.v])/\
 K (.agg #[.int .i64 dx,.string dy,.int .i64 ek,.int .i64 et,.int .i64 e2,.int .i64 fb,.int .i64 fk,ab.v,af.v]) g2) g1)\/
 (∃ aw:List PanicEntry,(a4=.panicked aw)/\Zs prog 36 [.pointer ((some ⟨c,0,none⟩))] (.panicking aw) (λ g3=>∃ f7 dz d8 ee ef eg eh,∃ L M:Sl,(Aw g3 ⟨c,0,none⟩ [.int .i64 f7,.string dz,.int .i64 d8,.int .i64 ee,.int .i64 ef,.int .i64 eg,.int .i64 eh,L.v,M.v])/\
 K (.agg #[.int .i64 f7,.string dz,.int .i64 d8,.int .i64 ee,.int .i64 ef,.int .i64 eg,.int .i64 eh,L.v,M.v]) g3) g0))
 (∃ (an:Bool->World->Prop),(Br (f==2)
 (an (f==2) al)
 (an (f==7) al))/\
 ∀ (hf:Env) (bq:Bool) (e:World),an bq e->
 Br bq
 (∃ br bs bt bu bv bw bx bz b0,∃ n m:Sl,(Aw e ⟨d,0,none⟩ [.int .i64 br,.string bs,.int .i64 bt,.int .i64 bu,.int .i64 bv,.int .i64 bw,.float .f64 bx,.string bz,.int .i64 b0,n.v,m.v])/\
 Calls prog 40 #[.pointer g,.agg #[.int .i64 br,.string bs,.int .i64 bt,.int .i64 bu,.int .i64 bv,.int .i64 bw,.float .f64 bx,.string bz,.int .i64 b0,n.v,m.v]] e λ a5 gg=>
 (∃ b1 b2 b3 b4 b5 b6 b7,∃ o p:Sl,(a5=.returned (.agg #[.int .i64 b1,.string b2,.int .i64 b3,.int .i64 b4,.int .i64 b5,.int .i64 b6,.int .i64 b7,o.v,p.v]))/\
 ∃ gh:World,(St 33 ⟨c,0,none⟩ (.agg #[.int .i64 b1,.string b2,.int .i64 b3,.int .i64 b4,.int .i64 b5,.int .i64 b6,.int .i64 b7,o.v,p.v]) gg gh)/\
 Zs prog 36 [.pointer ((some ⟨c,0,none⟩))] .returning (λ gi=>∃ ei ej el em en eo ep,∃ N O:Sl,(Aw gi ⟨c,0,none⟩ [.int .i64 ei,.string ej,.int .i64 el,.int .i64 em,.int .i64 en,.int .i64 eo,.int .i64 ep,N.v,O.v])/\
 K (.agg #[.int .i64 ei,.string ej,.int .i64 el,.int .i64 em,.int .i64 en,.int .i64 eo,.int .i64 ep,N.v,O.v]) gi) gh)\/
 (∃ ax:List PanicEntry,(a5=.panicked ax)/\Zs prog 36 [.pointer ((some ⟨c,0,none⟩))] (.panicking ax) (λ gj=>∃ eq er es eu ev ew ex,∃ Q T:Sl,(Aw gj ⟨c,0,none⟩ [.int .i64 eq,.string er,.int .i64 es,.int .i64 eu,.int .i64 ev,.int .i64 ew,.int .i64 ex,Q.v,T.v])/\
 K (.agg #[.int .i64 eq,.string er,.int .i64 es,.int .i64 eu,.int .i64 ev,.int .i64 ew,.int .i64 ex,Q.v,T.v]) gj) gg))
 (Br (f==8)
 (∃ b8 b9 ca cb cc cd ce cf cg,∃ r q:Sl,(Aw e ⟨d,0,none⟩ [.int .i64 b8,.string b9,.int .i64 ca,.int .i64 cb,.int .i64 cc,.int .i64 cd,.float .f64 ce,.string cf,.int .i64 cg,r.v,q.v])/\
 Calls prog 41 #[.pointer g,.agg #[.int .i64 b8,.string b9,.int .i64 ca,.int .i64 cb,.int .i64 cc,.int .i64 cd,.float .f64 ce,.string cf,.int .i64 cg,r.v,q.v]] e λ a6 gk=>
 (∃ ch ci cj ck cl cm cn,∃ s t:Sl,(a6=.returned (.agg #[.int .i64 ch,.string ci,.int .i64 cj,.int .i64 ck,.int .i64 cl,.int .i64 cm,.int .i64 cn,s.v,t.v]))/\
 ∃ gl:World,(St 33 ⟨c,0,none⟩ (.agg #[.int .i64 ch,.string ci,.int .i64 cj,.int .i64 ck,.int .i64 cl,.int .i64 cm,.int .i64 cn,s.v,t.v]) gk gl)/\
 Zs prog 36 [.pointer ((some ⟨c,0,none⟩))] .returning (λ gm=>∃ ey ez e0 e1 e3 e4 e5,∃ U V:Sl,(Aw gm ⟨c,0,none⟩ [.int .i64 ey,.string ez,.int .i64 e0,.int .i64 e1,.int .i64 e3,.int .i64 e4,.int .i64 e5,U.v,V.v])/\
 K (.agg #[.int .i64 ey,.string ez,.int .i64 e0,.int .i64 e1,.int .i64 e3,.int .i64 e4,.int .i64 e5,U.v,V.v]) gm) gl)\/
 (∃ ay:List PanicEntry,(a6=.panicked ay)/\Zs prog 36 [.pointer ((some ⟨c,0,none⟩))] (.panicking ay) (λ gn=>∃ e6 e7 e8 e9 fa fc fd,∃ X Y:Sl,(Aw gn ⟨c,0,none⟩ [.int .i64 e6,.string e7,.int .i64 e8,.int .i64 e9,.int .i64 fa,.int .i64 fc,.int .i64 fd,X.v,Y.v])/\
 K (.agg #[.int .i64 e6,.string e7,.int .i64 e8,.int .i64 e9,.int .i64 fa,.int .i64 fc,.int .i64 fd,X.v,Y.v]) gn) gk))
 (Br (f==9)
 (∃ co cp cq cr cs ct cu cv cw,∃ v u:Sl,(Aw e ⟨d,0,none⟩ [.int .i64 co,.string cp,.int .i64 cq,.int .i64 cr,.int .i64 cs,.int .i64 ct,.float .f64 cu,.string cv,.int .i64 cw,v.v,u.v])/\
 Calls prog 16 #[.pointer g,.agg #[.int .i64 co,.string cp,.int .i64 cq,.int .i64 cr,.int .i64 cs,.int .i64 ct,.float .f64 cu,.string cv,.int .i64 cw,v.v,u.v]] e λ a7 go=>
 (∃ cx cy cz c0 c1 c2 c3,∃ x y:Sl,(a7=.returned (.agg #[.int .i64 cx,.string cy,.int .i64 cz,.int .i64 c0,.int .i64 c1,.int .i64 c2,.int .i64 c3,x.v,y.v]))/\
 ∃ gp:World,(St 33 ⟨c,0,none⟩ (.agg #[.int .i64 cx,.string cy,.int .i64 cz,.int .i64 c0,.int .i64 c1,.int .i64 c2,.int .i64 c3,x.v,y.v]) go gp)/\
 Zs prog 36 [.pointer ((some ⟨c,0,none⟩))] .returning (λ gr=>∃ fe ff fg fh fi fj fl,∃ Z aa:Sl,(Aw gr ⟨c,0,none⟩ [.int .i64 fe,.string ff,.int .i64 fg,.int .i64 fh,.int .i64 fi,.int .i64 fj,.int .i64 fl,Z.v,aa.v])/\
 K (.agg #[.int .i64 fe,.string ff,.int .i64 fg,.int .i64 fh,.int .i64 fi,.int .i64 fj,.int .i64 fl,Z.v,aa.v]) gr) gp)\/
 (∃ az:List PanicEntry,(a7=.panicked az)/\Zs prog 36 [.pointer ((some ⟨c,0,none⟩))] (.panicking az) (λ gs=>∃ fm fn fo fp fq fr fs,∃ ac ad:Sl,(Aw gs ⟨c,0,none⟩ [.int .i64 fm,.string fn,.int .i64 fo,.int .i64 fp,.int .i64 fq,.int .i64 fr,.int .i64 fs,ac.v,ad.v])/\
 K (.agg #[.int .i64 fm,.string fn,.int .i64 fo,.int .i64 fp,.int .i64 fq,.int .i64 fr,.int .i64 fs,ac.v,ad.v]) gs) go))
 (Drw e λ am he=>
 ∃ c4,(At am ⟨d,0 + 1,none⟩ [.string c4])/\
 ∃ c6 c7 c8 c9 da db dc dd de,∃ A z:Sl,(At am ⟨d,0,none⟩ [.int .i64 c6,.string c7,.int .i64 c8,.int .i64 c9,.int .i64 da,.int .i64 db,.float .f64 dc,.string dd,.int .i64 de,A.v,z.v])/\
 Calls prog 43 #[.pointer g,.string c4] he λ a8 aq=>
 (∃ c5,(a8=.returned (.pointer c5))/\
 (am aq)/\
 Calls prog 42 #[.pointer g,.pointer c5,.agg #[.int .i64 c6,.string c7,.int .i64 c8,.int .i64 c9,.int .i64 da,.int .i64 db,.float .f64 dc,.string dd,.int .i64 de,A.v,z.v]] aq λ a9 ar=>
 (∃ df dg dh di dj dk dl,∃ C D:Sl,(a9=.returned (.agg #[.int .i64 df,.string dg,.int .i64 dh,.int .i64 di,.int .i64 dj,.int .i64 dk,.int .i64 dl,C.v,D.v]))/\
 (am ar)/\
 ∃ gt:World,(St 33 ⟨c,0,none⟩ (.agg #[.int .i64 df,.string dg,.int .i64 dh,.int .i64 di,.int .i64 dj,.int .i64 dk,.int .i64 dl,C.v,D.v]) ar gt)/\
 Zs prog 36 [.pointer ((some ⟨c,0,none⟩))] .returning (λ gu=>∃ ft fu fv fw fx fy fz,∃ ae ag:Sl,(Aw gu ⟨c,0,none⟩ [.int .i64 ft,.string fu,.int .i64 fv,.int .i64 fw,.int .i64 fx,.int .i64 fy,.int .i64 fz,ae.v,ag.v])/\
 K (.agg #[.int .i64 ft,.string fu,.int .i64 fv,.int .i64 fw,.int .i64 fx,.int .i64 fy,.int .i64 fz,ae.v,ag.v]) gu) gt)\/
 (∃ a1:List PanicEntry,(a9=.panicked a1)/\Zs prog 36 [.pointer ((some ⟨c,0,none⟩))] (.panicking a1) (λ gv=>∃ f0 f1 f2 f3 f4 f5 f6,∃ ah ai:Sl,(Aw gv ⟨c,0,none⟩ [.int .i64 f0,.string f1,.int .i64 f2,.int .i64 f3,.int .i64 f4,.int .i64 f5,.int .i64 f6,ah.v,ai.v])/\
 K (.agg #[.int .i64 f0,.string f1,.int .i64 f2,.int .i64 f3,.int .i64 f4,.int .i64 f5,.int .i64 f6,ah.v,ai.v]) gv) ar))\/
 (∃ a0:List PanicEntry,(a8=.panicked a0)/\Zs prog 36 [.pointer ((some ⟨c,0,none⟩))] (.panicking a0) (λ gw=>∃ f8 f9 ga gb gc gd ge,∃ aj ak:Sl,(Aw gw ⟨c,0,none⟩ [.int .i64 f8,.string f9,.int .i64 ga,.int .i64 gb,.int .i64 gc,.int .i64 gd,.int .i64 ge,aj.v,ak.v])/\
 K (.agg #[.int .i64 f8,.string f9,.int .i64 ga,.int .i64 gb,.int .i64 gc,.int .i64 gd,.int .i64 ge,aj.v,ak.v]) gw) aq))))))\/
 (∃ av:List PanicEntry,(a3=.panicked av)/\Zs prog 36 [.pointer ((some ⟨c,0,none⟩))] (.panicking av) (λ gx=>∃ gf d0 d1 d2 d3 d4 d5,∃ G H:Sl,(Aw gx ⟨c,0,none⟩ [.int .i64 gf,.string d0,.int .i64 d1,.int .i64 d2,.int .i64 d3,.int .i64 d4,.int .i64 d5,G.v,H.v])/\
 K (.agg #[.int .i64 gf,.string d0,.int .i64 d1,.int .i64 d2,.int .i64 d3,.int .i64 d4,.int .i64 d5,G.v,H.v]) gx) al))\/
 (∃ au:List PanicEntry,(a2=.panicked au)/\Zs prog 36 [.pointer ((some ⟨c,0,none⟩))] (.panicking au) (λ gz=>∃ d6 d7 d9 ea eb ec ed,∃ I J:Sl,(Aw gz ⟨c,0,none⟩ [.int .i64 d6,.string d7,.int .i64 d9,.int .i64 ea,.int .i64 eb,.int .i64 ec,.int .i64 ed,I.v,J.v])/\
 K (.agg #[.int .i64 d6,.string d7,.int .i64 d9,.int .i64 ea,.int .i64 eb,.int .i64 ec,.int .i64 ed,I.v,J.v]) gz) gy)) hd) w
def sk12:Sk:=(.seq .leaf (.seq (.seq .leaf (.block (.seq .leaf (.cond .leaf (.cut [15] [.bool] [15,16,17] .leaf .leaf))))) .leaf))
theorem ZAG (d:Option Addr) (e:Int) (f:ByteArray) (g:Int) (i:Int) (j:Int) (k:Int) (l:Nat) (m:ByteArray) (n:Int) (c:Sl) (b:Sl) (K:Value->World->Prop) (w:World) (h:B12 d e f g i j k l m n c b K w):Zo prog 12 #[.pointer d,.agg #[.int .i64 e,.string f,.int .i64 g,.int .i64 i,.int .i64 j,.int .i64 k,.float .f64 l,.string m,.int .i64 n,c.v,b.v]] w K:=cqd (sk:=sk12) h func12
def B16 (M:Option Addr) (dy:Int) (dz:ByteArray) (d0:Int) (d1:Int) (d2:Int) (d3:Int) (d4:Nat) (d5:ByteArray) (d6:Int) (Q:Sl) (O:Sl) (K:Value->World->Prop) (w:World):Prop:=
 New (.cells #[.int .i64 dy,.string dz,.int .i64 d0,.int .i64 d1,.int .i64 d2,.int .i64 d3,.float .f64 d4,.string d5,.int .i64 d6,Q.v,O.v] 40 (0,0)) (λ d d7=>
 New (.cells #[.int .i64 0,.string (ByteArray.mk #[]),.int .i64 0,.int .i64 0,.int .i64 0,.int .i64 0,.int .i64 0,.slice none 0 0,.slice none 0 0] 33 (0,0)) (λ c dm=>
 ∃ (L:World->Prop),(∃ bq br bs bt bu bv bw bx bz,∃ p o:Sl,(Aw dm ⟨d,0,none⟩ [.int .i64 bq,.string br,.int .i64 bs,.int .i64 bt,.int .i64 bu,.int .i64 bv,.float .f64 bw,.string bx,.int .i64 bz,p.v,o.v])/\
 Calls prog 38 #[.agg #[.int .i64 bq,.string br,.int .i64 bs,.int .i64 bt,.int .i64 bu,.int .i64 bv,.float .f64 bw,.string bx,.int .i64 bz,p.v,o.v]] dm λ ae J=>
 (∃ b0,(ae=.returned (.bool b0))/\
 Br b0
 (∃ am,(Aw J ⟨d,0,none⟩ [.int .i64 am])/\
 Calls prog 37 #[.bool (am==9),.int .i64 1] J λ af dt=>
 ((af=.returned (.tuple #[]))/\
 L  dt)\/
 (∃ X:List PanicEntry,(af=.panicked X)/\Zs prog 36 [.pointer ((some ⟨c,0,none⟩))] (.panicking X) (λ du=>∃ an ao az a5 a6 a7 a8,∃ j k:Sl,(Aw du ⟨c,0,none⟩ [.int .i64 an,.string ao,.int .i64 az,.int .i64 a5,.int .i64 a6,.int .i64 a7,.int .i64 a8,j.v,k.v])/\
 K (.agg #[.int .i64 an,.string ao,.int .i64 az,.int .i64 a5,.int .i64 a6,.int .i64 a7,.int .i64 a8,j.v,k.v]) du) dt))
 (Calls prog 37 #[.bool false,.int .i64 1] J λ ag dv=>
 ((ag=.returned (.tuple #[]))/\
 L  dv)\/
 (∃ Y:List PanicEntry,(ag=.panicked Y)/\Zs prog 36 [.pointer ((some ⟨c,0,none⟩))] (.panicking Y) (λ dw=>∃ a9 ap aq ar au av aw,∃ e f:Sl,(Aw dw ⟨c,0,none⟩ [.int .i64 a9,.string ap,.int .i64 aq,.int .i64 ar,.int .i64 au,.int .i64 av,.int .i64 aw,e.v,f.v])/\
 K (.agg #[.int .i64 a9,.string ap,.int .i64 aq,.int .i64 ar,.int .i64 au,.int .i64 av,.int .i64 aw,e.v,f.v]) dw) dv)))\/
 (∃ V:List PanicEntry,(ae=.panicked V)/\Zs prog 36 [.pointer ((some ⟨c,0,none⟩))] (.panicking V) (λ dx=>∃ ax ay a0 a1 a2 a3 a4,∃ g i:Sl,(Aw dx ⟨c,0,none⟩ [.int .i64 ax,.string ay,.int .i64 a0,.int .i64 a1,.int .i64 a2,.int .i64 a3,.int .i64 a4,g.v,i.v])/\
 K (.agg #[.int .i64 ax,.string ay,.int .i64 a0,.int .i64 a1,.int .i64 a2,.int .i64 a3,.int .i64 a4,g.v,i.v]) dx) J))/\
 ∀ (ea:Env)  (G:World),L  G->
 ∃ ba,(Aw G ⟨d,0 + 1,none⟩ [.string ba])/\
 Br (!ba.toList==(ByteArray.mk #[]).toList)
 (∃ bb,(Aw G ⟨d,0 + 1,none⟩ [.string bb])/\
 Calls prog 43 #[.pointer M,.string bb] G λ ah de=>
 (∃ bc,(ah=.returned (.pointer bc))/\
 Calls prog 53 #[.pointer M,.pointer bc] de λ ai df=>
 (∃ bd be bf bg bh bi bj,∃ l m:Sl,(ai=.returned (.agg #[.int .i64 bd,.string be,.int .i64 bf,.int .i64 bg,.int .i64 bh,.int .i64 bi,.int .i64 bj,l.v,m.v]))/\
 ∃ dg:World,(St 33 ⟨c,0,none⟩ (.agg #[.int .i64 bd,.string be,.int .i64 bf,.int .i64 bg,.int .i64 bh,.int .i64 bi,.int .i64 bj,l.v,m.v]) df dg)/\
 Zs prog 36 [.pointer ((some ⟨c,0,none⟩))] .returning (λ dh=>∃ b1 b2 cb ck ct c2 db,∃ E F:Sl,(Aw dh ⟨c,0,none⟩ [.int .i64 b1,.string b2,.int .i64 cb,.int .i64 ck,.int .i64 ct,.int .i64 c2,.int .i64 db,E.v,F.v])/\
 K (.agg #[.int .i64 b1,.string b2,.int .i64 cb,.int .i64 ck,.int .i64 ct,.int .i64 c2,.int .i64 db,E.v,F.v]) dh) dg)\/
 (∃ aa:List PanicEntry,(ai=.panicked aa)/\Zs prog 36 [.pointer ((some ⟨c,0,none⟩))] (.panicking aa) (λ di=>∃ dd b3 b4 b5 b6 b7 b8,∃ q r:Sl,(Aw di ⟨c,0,none⟩ [.int .i64 dd,.string b3,.int .i64 b4,.int .i64 b5,.int .i64 b6,.int .i64 b7,.int .i64 b8,q.v,r.v])/\
 K (.agg #[.int .i64 dd,.string b3,.int .i64 b4,.int .i64 b5,.int .i64 b6,.int .i64 b7,.int .i64 b8,q.v,r.v]) di) df))\/
 (∃ Z:List PanicEntry,(ah=.panicked Z)/\Zs prog 36 [.pointer ((some ⟨c,0,none⟩))] (.panicking Z) (λ dj=>∃ b9 ca cc cd ce cf cg,∃ s t:Sl,(Aw dj ⟨c,0,none⟩ [.int .i64 b9,.string ca,.int .i64 cc,.int .i64 cd,.int .i64 ce,.int .i64 cf,.int .i64 cg,s.v,t.v])/\
 K (.agg #[.int .i64 b9,.string ca,.int .i64 cc,.int .i64 cd,.int .i64 ce,.int .i64 cf,.int .i64 cg,s.v,t.v]) dj) de))
 (∃ bk,(Aw G ⟨d,0 + 2,none⟩ [.int .i64 bk])/\
 Calls prog 54 #[.pointer M,.int .i64 bk] G λ aj dk=>
 (∃ bl bm,(aj=.returned (.agg #[.pointer bl,.pointer bm]))/\
 New (.cells #[.pointer none,.pointer none] 97 (0,0)) (λ N d8=>
 ∃ dl:World,(St 97 ⟨N,0,none⟩ (.agg #[.pointer bl,.pointer bm]) d8 dl)/\
 Drw dl λ H d9=>
 ∃ bn,(At H ⟨d,0 + 2,none⟩ [.int .i64 bn])/\
 ∃ bo,(At H ⟨N,0,none⟩ [.pointer bo])/\
 ∃ bp,(At H ⟨N,0 + 1,none⟩ [.pointer bp])/\
 Calls prog 55 #[.pointer bo] d9 λ ak T=>
 (∃ n:Sl,(ak=.returned (n.v))/\
 (H T)/\
 Calls prog 56 #[.pointer bp] T λ al U=>
 (∃ I:Sl,(al=.returned (I.v))/\
 (H U)/\
 ∃ dn:World,(St 33 ⟨c,0,none⟩ (.agg #[.int .i64 0,.string (ByteArray.mk #[]),.int .i64 0,.int .i64 bn,.int .i64 0,.int .i64 ((↑I.len:Int)),.int .i64 0,n.v,.slice none 0 0]) U dn)/\
 Zs prog 36 [.pointer ((some ⟨c,0,none⟩))] .returning (λ dp=>∃ ch ci cj cl cm cn co,∃ u v:Sl,(Aw dp ⟨c,0,none⟩ [.int .i64 ch,.string ci,.int .i64 cj,.int .i64 cl,.int .i64 cm,.int .i64 cn,.int .i64 co,u.v,v.v])/\
 K (.agg #[.int .i64 ch,.string ci,.int .i64 cj,.int .i64 cl,.int .i64 cm,.int .i64 cn,.int .i64 co,u.v,v.v]) dp) dn)\/
 (∃ ad:List PanicEntry,(al=.panicked ad)/\Zs prog 36 [.pointer ((some ⟨c,0,none⟩))] (.panicking ad) (λ dq=>∃ cp cq cr cs cu cv cw,∃ x y:Sl,(Aw dq ⟨c,0,none⟩ [.int .i64 cp,.string cq,.int .i64 cr,.int .i64 cs,.int .i64 cu,.int .i64 cv,.int .i64 cw,x.v,y.v])/\
 K (.agg #[.int .i64 cp,.string cq,.int .i64 cr,.int .i64 cs,.int .i64 cu,.int .i64 cv,.int .i64 cw,x.v,y.v]) dq) U))\/
 (∃ ac:List PanicEntry,(ak=.panicked ac)/\Zs prog 36 [.pointer ((some ⟨c,0,none⟩))] (.panicking ac) (λ dr=>∃ cx cy cz c0 c1 c3 c4,∃ z A:Sl,(Aw dr ⟨c,0,none⟩ [.int .i64 cx,.string cy,.int .i64 cz,.int .i64 c0,.int .i64 c1,.int .i64 c3,.int .i64 c4,z.v,A.v])/\
 K (.agg #[.int .i64 cx,.string cy,.int .i64 cz,.int .i64 c0,.int .i64 c1,.int .i64 c3,.int .i64 c4,z.v,A.v]) dr) T)) dk)\/
 (∃ ab:List PanicEntry,(aj=.panicked ab)/\Zs prog 36 [.pointer ((some ⟨c,0,none⟩))] (.panicking ab) (λ ds=>∃ c5 c6 c7 c8 c9 da dc,∃ C D:Sl,(Aw ds ⟨c,0,none⟩ [.int .i64 c5,.string c6,.int .i64 c7,.int .i64 c8,.int .i64 c9,.int .i64 da,.int .i64 dc,C.v,D.v])/\
 K (.agg #[.int .i64 c5,.string c6,.int .i64 c7,.int .i64 c8,.int .i64 c9,.int .i64 da,.int .i64 dc,C.v,D.v]) ds) dk))) d7) w
def sk16:Sk:=(.cut [] [] [6,7,8,9,10,11,12,13] .leaf .leaf)
theorem ZAF (d:Option Addr) (e:Int) (f:ByteArray) (g:Int) (i:Int) (j:Int) (k:Int) (l:Nat) (m:ByteArray) (n:Int) (c:Sl) (b:Sl) (K:Value->World->Prop) (w:World) (h:B16 d e f g i j k l m n c b K w):Zo prog 16 #[.pointer d,.agg #[.int .i64 e,.string f,.int .i64 g,.int .i64 i,.int .i64 j,.int .i64 k,.float .f64 l,.string m,.int .i64 n,c.v,b.v]] w K:=cqd (sk:=sk16) h func16
def B18 (d:Option Addr) (K:Value->World->Prop) (w:World):Prop:=
 New (.cells #[.slice none 0 0] 112 (0,0)) (λ k bc=>
 Drw bc λ i bj=>
 Zd d λ av=>
 ∃ O,(At i (Addr.add av 0) [.int .i64 O])/\
 Zd d λ A=>
 ∃ Q,(At i ⟨A.block,A.off + 1,none⟩ [.int .i64 Q])/\
 Zd d λ C=>
 ∃ T:Option Nat,(At i ⟨C.block,C.off + 2,none⟩ [.map T])/\
 ∃ U:Int,(∀ b,i b->((Builtin.len_ #[77] 3 #[.map T])).run prog b=.ok (.int .i64 U) b)/\
 New (.cells #[.int .i64 O,.int .i64 Q,.int .i64 U] 3 (0,0)) (λ az aq=>
 (i aq)/\
 Calls prog 60 #[.pointer ((some ⟨k,0,none⟩)),.slice ((some ⟨az,0,none⟩)) 3 3] aq λ a1 x=>
 (a1=.returned (.tuple #[]))/\
 (i x)/\
 Zd d λ D=>
 ∃ V:Option Nat,(Aw x ⟨D.block,D.off + 2,none⟩ [.map V])/\
 Calls prog 62 #[.map V] x λ a2 bl=>
 ∃ X:Value,(a2=.returned (X))/\
 Calls prog 61 #[X] bl λ a4 bm=>
 ∃ m:Sl,(a4=.returned (m.v))/\
 ∃ (r:Int->World->Prop) (ar:Int->World->Nat),(r 0 bm)/\∀ (bo:Env) (f:Int) (c:World),r f c->
 Br (decide (f<(↑m.len:Int)))
 (Rng f m.len (Zd m.a λ aw=>
 ∃ Y,(Aw c (Addr.add aw f.toNat) [.int .i64 Y])/\
 Zd d λ E=>
 ∃ Z:Option Nat,(Aw c ⟨E.block,E.off + 2,none⟩ [.map Z])/\
 ∃ aa ab:Option Addr,(∀ b,(λ b=>b=c) b->((Instr.lookup 77 (.map Z) (.int .i64 Y) false)).run prog b=.ok (.agg #[.pointer aa,.pointer ab]) b)/\
 New (.cells #[.pointer none,.pointer none] 97 (0,0)) (λ t bn=>
 ∃ y:World,(St 97 ⟨t,0,none⟩ (.agg #[.pointer aa,.pointer ab]) bn y)/\
 ∃ ac,(Aw y ⟨t,0,none⟩ [.pointer ac])/\
 Calls prog 64 #[.pointer ac] y λ a5 bd=>
 ∃ n:Sl,(a5=.returned (n.v))/\
 Calls prog 63 #[.pointer ((some ⟨k,0,none⟩)),n.v] bd λ a6 an=>
 (a6=.returned (.tuple #[]))/\
 ∃ ad,(Aw an ⟨t,0 + 1,none⟩ [.pointer ad])/\
 Calls prog 65 #[.pointer ad] an λ a7 be=>
 ∃ o:Sl,(a7=.returned (o.v))/\
 Calls prog 63 #[.pointer ((some ⟨k,0,none⟩)),o.v] be λ a8 ao=>
 (a8=.returned (.tuple #[]))/\
 (r (IntKind.i64.wrap (f + 1)) ao)/\ar (IntKind.i64.wrap (f + 1)) ao<ar f c) c))
 (Zd d λ F=>
 ∃ ae:Option Nat,(Aw c ⟨F.block,F.off + 3,none⟩ [.map ae])/\
 ∃ af:Int,(∀ b,(λ b=>b=c) b->((Builtin.len_ #[78] 3 #[.map ae])).run prog b=.ok (.int .i64 af) b)/\
 New (.cells #[.int .i64 af] 3 (0,0)) (λ a0 bf=>
 Calls prog 60 #[.pointer ((some ⟨k,0,none⟩)),.slice ((some ⟨a0,0,none⟩)) 1 1] bf λ a9 ap=>
 (a9=.returned (.tuple #[]))/\
 Zd d λ G=>
 ∃ ag:Option Nat,(Aw ap ⟨G.block,G.off + 3,none⟩ [.map ag])/\
 Calls prog 66 #[.map ag] ap λ ba bg=>
 ∃ ah:Value,(ba=.returned (ah))/\
 Calls prog 61 #[ah] bg λ bb bh=>
 ∃ p:Sl,(bb=.returned (p.v))/\
 ∃ (s:Int->World->Prop) (au:Int->World->Nat),(s 0 bh)/\∀ (bp:Env) (g:Int) (e:World),s g e->
 Br (decide (g<(↑p.len:Int)))
 (Rng g p.len (Zd p.a λ ax=>
 ∃ u,(Aw e (Addr.add ax g.toNat) [.int .i64 u])/\
 Zd d λ H=>
 ∃ ai:Option Nat,(Aw e ⟨H.block,H.off + 3,none⟩ [.map ai])/\
 ∃ q:Option Addr,(∀ b,(λ b=>b=e) b->((Instr.lookup 78 (.map ai) (.int .i64 u) false)).run prog b=.ok (.pointer q) b)/\
 Drw e λ j bi=>
 Zd q λ I=>
 ∃ aj,(At j ⟨I.block,I.off + 1,none⟩ [.int .i64 aj])/\
 Zd q λ J=>
 ∃ ak,(At j ⟨J.block,J.off + 2,none⟩ [.int .i64 ak])/\
 Zd q λ L=>
 ∃ al,(At j ⟨L.block,L.off + 3,none⟩ [.int .i64 al])/\
 Zd q λ M=>
 ∃ am,(At j ⟨M.block,M.off + 4,none⟩ [.int .i64 am])/\
 Zd q λ z=>
 ∃ N,(At j ⟨z.block,z.off + 5,none⟩ [.int .i64 N])/\
 New (.cells #[.int .i64 u,.int .i64 aj,.int .i64 ak,.int .i64 al,.int .i64 am,.int .i64 N] 3 (0,0)) (λ ay bk=>
 Calls prog 60 #[.pointer ((some ⟨k,0,none⟩)),.slice ((some ⟨ay,0,none⟩)) 6 6] bk λ a3 v=>
 (a3=.returned (.tuple #[]))/\
 (j v)/\
 (s (IntKind.i64.wrap (g + 1)) v)/\au (IntKind.i64.wrap (g + 1)) v<au g e) bi))
 (∃ l:Sl,(Aw e ⟨k,0,none⟩ [l.v])/\
 K (l.v) e)) c)) bj) w
def sk18:Sk:=(.seq .leaf (.seq .leaf (.seq .leaf (.seq (.seq .leaf (.block (.loop [35] [(.int .i64)] [5,6,35,36,37,38,39,40,41,42,43,44,45,46,47,48,49,50,51,52,53,54,55] .leaf))) (.seq .leaf (.seq (.seq .leaf (.block (.loop [71] [(.int .i64)] [8,9,71,72,73,74,75,76,77,78,79,80,81,82,83,84,85,86,87,88,89,90,91,92,93,94,95,96,97,98,99,100,101,102,103,104,105] .leaf))) .leaf))))))
theorem ZAE (a:Option Addr) (K:Value->World->Prop) (w:World) (h:B18 a K w):Zo prog 18 #[.pointer a] w K:=cq (sk:=sk18) h func18
def B162 (G:Option Addr) (H:Option Addr) (N:Option Addr) (K:Value->World->Prop) (w:World):Prop:=
 New (.cells #[.pointer G,.pointer H] 97 (0,0)) (λ g I=>
 New (.cells #[.pointer N] 86 (0,0)) (λ i d=>
 ∃ v,(Aw d ⟨g,0,none⟩ [.pointer v])/\
 Br v.isNone
 (K (.bool false) d)
 (∃ x,(Aw d ⟨i,0,none⟩ [.pointer x])/\
 Zd x λ m=>
 ∃ n,(Aw d ⟨m.block,m.off + 4,none⟩ [.int .i64 n])/\
 Br (n==3)
 (Drw d λ b J=>
 ∃ o,(At b ⟨i,0,none⟩ [.pointer o])/\
 Zd o λ l=>
 ∃ p,(At b ⟨l.block,l.off + 2,none⟩ [.int .i64 p])/\
 ∃ q,(At b ⟨g,0,none⟩ [.pointer q])/\
 Calls prog 55 #[.pointer q] J λ A k=>
 ∃ j:Sl,(A=.returned (j.v))/\
 (b k)/\
 Br (decide (p<(↑j.len:Int)))
 (∃ r,(At b ⟨g,0 + 1,none⟩ [.pointer r])/\
 Calls prog 56 #[.pointer r] k λ C y=>
 ∃ e:Sl,(C=.returned (e.v))/\
 (b y)/\
 Calls prog 230 #[e.v,.func (.func 231) #[] #[.pointer ((some ⟨i,0,none⟩))]] y λ D z=>
 ∃ s,(D=.returned (.bool s))/\
 (b z)/\
 K (.bool s) z)
 (K (.bool false) k))
 (∃ t,(Aw d ⟨g,0,none⟩ [.pointer t])/\
 Calls prog 134 #[.pointer t] d λ E L=>
 ∃ f:Sl,(E=.returned (f.v))/\
 Calls prog 232 #[f.v,.func (.func 233) #[] #[.pointer ((some ⟨i,0,none⟩))]] L λ F M=>
 ∃ u,(F=.returned (.bool u))/\
 K (.bool u) M))) I) w
theorem ZsS (a:Option Addr) (b:Option Addr) (c:Option Addr) (K:Value->World->Prop) (w:World) (h:B162 a b c K w):Zo prog 162 #[.agg #[.pointer a,.pointer b],.pointer c] w K:=cq (sk:=.leaf) h func162
def B231 (u:Int) (v:Int) (x:Int) (y:Int) (z:Nat) (c:Option Addr) (K:Value->World->Prop) (w:World):Prop:=
 New (.cells #[.int .i64 u,.int .i64 v,.int .i64 x,.int .i64 y,.float .f64 z] 168 (0,0)) (λ b A=>
 Drw A λ a d=>
 ∃ n,(At a ⟨b,0,none⟩ [.int .i64 n])/\
 Zd c λ s=>
 ∃ o,(At a s [.pointer o])/\
 Zd o λ t=>
 ∃ p,(At a (Addr.add t 0) [.int .i64 p])/\
 Br (n==p)
 (∃ g,(At a ⟨b,0 + 1,none⟩ [.int .i64 g])/\
 Zd c λ q=>
 ∃ i,(At a q [.pointer i])/\
 Zd i λ e=>
 ∃ j,(At a ⟨e.block,e.off + 2,none⟩ [.int .i64 j])/\
 Br (g==j)
 (∃ k,(At a ⟨b,0 + 2,none⟩ [.int .i64 k])/\
 Zd c λ r=>
 ∃ l,(At a r [.pointer l])/\
 Zd l λ f=>
 ∃ m,(At a ⟨f.block,f.off + 3,none⟩ [.int .i64 m])/\
 K (.bool (k==m)) d)
 (K (.bool false) d))
 (K (.bool false) d)) w
theorem ZxR (b:Int) (c:Int) (d:Int) (e:Int) (f:Nat) (a:Option Addr) (K:Value->World->Prop) (w:World) (h:B231 b c d e f a K w):Zo prog 231 #[.agg #[.int .i64 b,.int .i64 c,.int .i64 d,.int .i64 e,.float .f64 f],.pointer a] w K:=cq (sk:=.leaf) h func231
def B233 (x:Int) (y:Int) (z:Int) (e:Sl) (d:Option Addr) (K:Value->World->Prop) (w:World):Prop:=
 New (.cells #[.int .i64 x,.int .i64 y,.int .i64 z,e.v] 197 (0,0)) (λ c A=>
 Drw A λ b f=>
 ∃ p,(At b ⟨c,0,none⟩ [.int .i64 p])/\
 Zd d λ u=>
 ∃ q,(At b u [.pointer q])/\
 Zd q λ v=>
 ∃ r,(At b (Addr.add v 0) [.int .i64 r])/\
 Br (p==r)
 (∃ j,(At b ⟨c,0 + 1,none⟩ [.int .i64 j])/\
 Zd d λ s=>
 ∃ k,(At b s [.pointer k])/\
 Zd k λ g=>
 ∃ l,(At b ⟨g.block,g.off + 2,none⟩ [.int .i64 l])/\
 Br (j==l)
 (∃ m,(At b ⟨c,0 + 2,none⟩ [.int .i64 m])/\
 Zd d λ t=>
 ∃ n,(At b t [.pointer n])/\
 Zd n λ i=>
 ∃ o,(At b ⟨i.block,i.off + 3,none⟩ [.int .i64 o])/\
 K (.bool (m==o)) f)
 (K (.bool false) f))
 (K (.bool false) f)) w
theorem ZxP (d:Int) (e:Int) (f:Int) (b:Sl) (c:Option Addr) (K:Value->World->Prop) (w:World) (h:B233 d e f b c K w):Zo prog 233 #[.agg #[.int .i64 d,.int .i64 e,.int .i64 f,b.v],.pointer c] w K:=cq (sk:=.leaf) h func233
def B95 (I:Sl) (K:Value->World->Prop) (w:World):Prop:=
 New (.cells #[.pointer none] 25 (0,0)) (λ c id=>
 New (.cells #[.int .i64 0] 29 (0,0)) (λ d ie=>
 Calls prog 91 #[I.v] ie λ c0 hv=>
 (∃ es,(c0=.returned (.pointer es))/\
 New (.cells #[.pointer none] 216 (0,0)) (λ f ig=>
 ∃ hz:World,(St 216 ⟨f,0,none⟩ (.agg #[.pointer es]) ig hz)/\
 Calls prog 10 #[] hz λ c1 h0=>
 (∃ ez,(c1=.returned (.pointer ez))/\
 ∃ h2:World,(St 25 ⟨c,0,none⟩ (.pointer ez) h0 h2)/\
 Drw h2 λ k ik=>
 ∃ e2,(At k ⟨c,0,none⟩ [.pointer e2])/\
 ∃ e6,(At k ⟨c,0,none⟩ [.pointer e6])/\
 ∃ e7,(At k ⟨f,0,none⟩ [.pointer e7])/\
 ∃ e9,(At k ⟨f,0,none⟩ [.pointer e9])/\
 Calls prog 157 #[.agg #[.pointer e7],.int .i64 1099511627776] ik λ dc bk=>
 (∃ e8,(dc=.returned (.int .i64 e8))/\
 (k bk)/\
 Calls prog 157 #[.agg #[.pointer e9],.int .i64 28629151] bk λ dn Q=>
 (∃ fa,(dn=.returned (.int .i64 fa))/\
 (k Q)/\
 Zd e2 λ ic=>
 ∃ T:World,(St 3 (Addr.add ic 0) (.int .i64 e8) Q T)/\
 (k T)/\
 Zd e6 λ bz=>
 ∃ U:World,(St 3 ⟨bz.block,bz.off + 1,none⟩ (.int .i64 fa) T U)/\
 ∃ fb,(Aw U ⟨f,0,none⟩ [.pointer fb])/\
 Calls prog 157 #[.agg #[.pointer fb],.int .i64 8] U λ du hm=>
 (∃ fc,(du=.returned (.int .i64 fc))/\
 ∃ (F:Int->Int->Int->World->Prop) (h9:Int->Int->Int->World->Nat),(F 0 0 0 hm)/\∀ (il:Env) (J:Int) (x:Int) (r:Int) (o:World),F J x r o->
 Br (decide (r<fc))
 (∃ fr,(Aw o ⟨f,0,none⟩ [.pointer fr])/\
 Calls prog 94 #[.pointer fr,.int .i64 65536] o λ dv hn=>
 (∃ m:Sl,(dv=.returned (m.v))/\
 Calls prog 158 #[m.v] hn λ dw V=>
 (∃ s fs,(dw=.returned (.tuple #[.pointer s,.int .i64 fs]))/\
 ∃ ft,(Aw V ⟨f,0,none⟩ [.pointer ft])/\
 Calls prog 94 #[.pointer ft,.int .i64 65536] V λ dx ho=>
 (∃ n:Sl,(dx=.returned (n.v))/\
 Calls prog 159 #[n.v] ho λ dy C=>
 (∃ N fu,(dy=.returned (.tuple #[.pointer N,.int .i64 fu]))/\
 ∃ (z:World->Prop),(Br (fs==0)
 (Br (fu==0)
 (Calls prog 160 #[.pointer s] C λ dz hp=>
 (∃ fv,(dz=.returned (.int .i64 fv))/\
 Calls prog 156 #[.bool (decide (fv>J))] hp λ c2 hq=>
 ((c2=.returned (.tuple #[]))/\
 z  hq)\/
 (∃ b3:List PanicEntry,(c2=.panicked b3)/\Zs prog 155 [.pointer ((some ⟨c,0,none⟩)),.pointer ((some ⟨d,0,none⟩))] (.panicking b3) (λ X=>∃ fw,(Aw X ⟨c,0,none⟩ [.pointer fw])/\
 ∃ fx,(Aw X ⟨d,0,none⟩ [.int .i64 fx])/\
 K (.tuple #[.pointer fw,.int .i64 fx]) X) hq))\/
 (∃ cz:List PanicEntry,(dz=.panicked cz)/\Zs prog 155 [.pointer ((some ⟨c,0,none⟩)),.pointer ((some ⟨d,0,none⟩))] (.panicking cz) (λ Y=>∃ fy,(Aw Y ⟨c,0,none⟩ [.pointer fy])/\
 ∃ fz,(Aw Y ⟨d,0,none⟩ [.int .i64 fz])/\
 K (.tuple #[.pointer fy,.int .i64 fz]) Y) hp))
 (Calls prog 156 #[.bool false] C λ c3 hr=>
 ((c3=.returned (.tuple #[]))/\
 z  hr)\/
 (∃ b4:List PanicEntry,(c3=.panicked b4)/\Zs prog 155 [.pointer ((some ⟨c,0,none⟩)),.pointer ((some ⟨d,0,none⟩))] (.panicking b4) (λ Z=>∃ f0,(Aw Z ⟨c,0,none⟩ [.pointer f0])/\
 ∃ f1,(Aw Z ⟨d,0,none⟩ [.int .i64 f1])/\
 K (.tuple #[.pointer f0,.int .i64 f1]) Z) hr)))
 (Calls prog 156 #[.bool false] C λ c4 hs=>
 ((c4=.returned (.tuple #[]))/\
 z  hs)\/
 (∃ b5:List PanicEntry,(c4=.panicked b5)/\Zs prog 155 [.pointer ((some ⟨c,0,none⟩)),.pointer ((some ⟨d,0,none⟩))] (.panicking b5) (λ aa=>∃ f2,(Aw aa ⟨c,0,none⟩ [.pointer f2])/\
 ∃ f3,(Aw aa ⟨d,0,none⟩ [.int .i64 f3])/\
 K (.tuple #[.pointer f2,.int .i64 f3]) aa) hs)))/\
 ∀ (im:Env)  (ht:World),z  ht->
 Calls prog 160 #[.pointer s] ht λ c5 D=>
 (∃ A,(c5=.returned (.int .i64 A))/\
 ∃ f4,(Aw D ⟨c,0,none⟩ [.pointer f4])/\
 Zd f4 λ b0=>
 ∃ f5:Option Nat,(Aw D ⟨b0.block,b0.off + 2,none⟩ [.map f5])/\
 ∃ hu:World,((Instr.mapUpdate 77 (.map f5) (.int .i64 A) (.agg #[.pointer s,.pointer N])).run prog D=.ok () hu)/\
 Calls prog 134 #[.pointer s] hu λ c6 hw=>
 (∃ t:Sl,(c6=.returned (t.v))/\
 Calls prog 56 #[.pointer N] hw λ c7 ab=>
 (∃ u:Sl,(c7=.returned (u.v))/\
 (F A (IntKind.i64.wrap (x + IntKind.i64.wrap ((↑t.len:Int) + (↑u.len:Int)))) (IntKind.i64.wrap (r + 1)) ab)/\h9 A (IntKind.i64.wrap (x + IntKind.i64.wrap ((↑t.len:Int) + (↑u.len:Int)))) (IntKind.i64.wrap (r + 1)) ab<h9 J x r o)\/
 (∃ b8:List PanicEntry,(c7=.panicked b8)/\Zs prog 155 [.pointer ((some ⟨c,0,none⟩)),.pointer ((some ⟨d,0,none⟩))] (.panicking b8) (λ ac=>∃ fd,(Aw ac ⟨c,0,none⟩ [.pointer fd])/\
 ∃ fj,(Aw ac ⟨d,0,none⟩ [.int .i64 fj])/\
 K (.tuple #[.pointer fd,.int .i64 fj]) ac) ab))\/
 (∃ b7:List PanicEntry,(c6=.panicked b7)/\Zs prog 155 [.pointer ((some ⟨c,0,none⟩)),.pointer ((some ⟨d,0,none⟩))] (.panicking b7) (λ ad=>∃ fk,(Aw ad ⟨c,0,none⟩ [.pointer fk])/\
 ∃ fl,(Aw ad ⟨d,0,none⟩ [.int .i64 fl])/\
 K (.tuple #[.pointer fk,.int .i64 fl]) ad) hw))\/
 (∃ b6:List PanicEntry,(c5=.panicked b6)/\Zs prog 155 [.pointer ((some ⟨c,0,none⟩)),.pointer ((some ⟨d,0,none⟩))] (.panicking b6) (λ ae=>∃ fm,(Aw ae ⟨c,0,none⟩ [.pointer fm])/\
 ∃ fn,(Aw ae ⟨d,0,none⟩ [.int .i64 fn])/\
 K (.tuple #[.pointer fm,.int .i64 fn]) ae) D))\/
 (∃ cy:List PanicEntry,(dy=.panicked cy)/\Zs prog 155 [.pointer ((some ⟨c,0,none⟩)),.pointer ((some ⟨d,0,none⟩))] (.panicking cy) (λ af=>∃ fo,(Aw af ⟨c,0,none⟩ [.pointer fo])/\
 ∃ fp,(Aw af ⟨d,0,none⟩ [.int .i64 fp])/\
 K (.tuple #[.pointer fo,.int .i64 fp]) af) C))\/
 (∃ cx:List PanicEntry,(dx=.panicked cx)/\Zs prog 155 [.pointer ((some ⟨c,0,none⟩)),.pointer ((some ⟨d,0,none⟩))] (.panicking cx) (λ ag=>∃ fq,(Aw ag ⟨c,0,none⟩ [.pointer fq])/\
 ∃ fe,(Aw ag ⟨d,0,none⟩ [.int .i64 fe])/\
 K (.tuple #[.pointer fq,.int .i64 fe]) ag) ho))\/
 (∃ cw:List PanicEntry,(dw=.panicked cw)/\Zs prog 155 [.pointer ((some ⟨c,0,none⟩)),.pointer ((some ⟨d,0,none⟩))] (.panicking cw) (λ ah=>∃ ff,(Aw ah ⟨c,0,none⟩ [.pointer ff])/\
 ∃ fg,(Aw ah ⟨d,0,none⟩ [.int .i64 fg])/\
 K (.tuple #[.pointer ff,.int .i64 fg]) ah) V))\/
 (∃ cv:List PanicEntry,(dv=.panicked cv)/\Zs prog 155 [.pointer ((some ⟨c,0,none⟩)),.pointer ((some ⟨d,0,none⟩))] (.panicking cv) (λ ai=>∃ fh,(Aw ai ⟨c,0,none⟩ [.pointer fh])/\
 ∃ fi,(Aw ai ⟨d,0,none⟩ [.int .i64 fi])/\
 K (.tuple #[.pointer fh,.int .i64 fi]) ai) hn))
 (∃ f6,(Aw o ⟨f,0,none⟩ [.pointer f6])/\
 Calls prog 157 #[.agg #[.pointer f6],.int .i64 300] o λ c8 hx=>
 (∃ O,(c8=.returned (.int .i64 O))/\
 ∃ (G:Int->Int->World->Prop) (ia:Int->Int->World->Nat),(G 0 0 hx)/\∀ (io:Env) (L:Int) (v:Int) (y:World),G L v y->
 Br (decide (v<O))
 (Drw y λ i ih=>
 ∃ gn,(At i ⟨f,0,none⟩ [.pointer gn])/\
 ∃ gs,(At i ⟨f,0,none⟩ [.pointer gs])/\
 ∃ gu,(At i ⟨f,0,none⟩ [.pointer gu])/\
 Calls prog 157 #[.agg #[.pointer gn],.int .i64 28629151] ih λ c9 aj=>
 (∃ go,(c9=.returned (.int .i64 go))/\
 (i aj)/\
 Calls prog 161 #[.pointer ((some ⟨f,0,none⟩))] aj λ da ak=>
 (∃ gp,(da=.returned (.int .i64 gp))/\
 (i ak)/\
 Calls prog 161 #[.pointer ((some ⟨f,0,none⟩))] ak λ db al=>
 (∃ gq,(db=.returned (.int .i64 gq))/\
 (i al)/\
 Calls prog 161 #[.pointer ((some ⟨f,0,none⟩))] al λ dd am=>
 (∃ gr,(dd=.returned (.int .i64 gr))/\
 (i am)/\
 Calls prog 157 #[.agg #[.pointer gs],.int .i64 3] am λ de an=>
 (∃ gt,(de=.returned (.int .i64 gt))/\
 (i an)/\
 Calls prog 157 #[.agg #[.pointer gu],.int .i64 1099511627776] an λ df ao=>
 (∃ gv,(df=.returned (.int .i64 gv))/\
 (i ao)/\
 New (.cells #[.int .i64 go,.int .i64 gp,.int .i64 gq,.int .i64 gr,.int .i64 gt,.int .i64 gv] 121 (0,0)) (λ g hy=>
 (i hy)/\
 ∃ (j:World->Prop),(Drw hy λ e p=>
 ∃ d0,(At e ⟨g,0,none⟩ [.int .i64 d0])/\
 Br (decide (d0>L))
 (∃ d1,(At e ⟨g,0,none⟩ [.int .i64 d1])/\
 ∃ d2,(At e ⟨c,0,none⟩ [.pointer d2])/\
 Zd d2 λ bu=>
 ∃ d3,(At e ⟨bu.block,bu.off + 1,none⟩ [.int .i64 d3])/\
 Br (decide (d1<d3))
 (∃ d4,(At e ⟨g,0 + 4,none⟩ [.int .i64 d4])/\
 Br (decide (d4 >= 1))
 (∃ d5,(At e ⟨g,0 + 4,none⟩ [.int .i64 d5])/\
 ∃ d6,(At e ⟨g,0 + 5,none⟩ [.int .i64 d6])/\
 ∃ d7,(At e ⟨c,0,none⟩ [.pointer d7])/\
 Zd d7 λ ib=>
 ∃ d8,(At e (Addr.add ib 0) [.int .i64 d8])/\
 Br ((d5==1)==decide (d6>d8))
 (∃ d9,(At e ⟨g,0 + 4,none⟩ [.int .i64 d9])/\
 Br (d9==1)
 (Calls prog 156 #[.bool true] p λ dg ap=>
 ((dg=.returned (.tuple #[]))/\
 (e ap)/\
 j  ap)\/
 (∃ ch:List PanicEntry,(dg=.panicked ch)/\Zs prog 155 [.pointer ((some ⟨c,0,none⟩)),.pointer ((some ⟨d,0,none⟩))] (.panicking ch) (λ aq=>∃ eb,(Aw aq ⟨c,0,none⟩ [.pointer eb])/\
 ∃ ec,(Aw aq ⟨d,0,none⟩ [.int .i64 ec])/\
 K (.tuple #[.pointer eb,.int .i64 ec]) aq) ap))
 (∃ ea,(At e ⟨g,0 + 5,none⟩ [.int .i64 ea])/\
 Calls prog 156 #[.bool (ea==0)] p λ dh ar=>
 ((dh=.returned (.tuple #[]))/\
 (e ar)/\
 j  ar)\/
 (∃ ci:List PanicEntry,(dh=.panicked ci)/\Zs prog 155 [.pointer ((some ⟨c,0,none⟩)),.pointer ((some ⟨d,0,none⟩))] (.panicking ci) (λ au=>∃ ef,(Aw au ⟨c,0,none⟩ [.pointer ef])/\
 ∃ eg,(Aw au ⟨d,0,none⟩ [.int .i64 eg])/\
 K (.tuple #[.pointer ef,.int .i64 eg]) au) ar)))
 (Calls prog 156 #[.bool false] p λ di av=>
 ((di=.returned (.tuple #[]))/\
 (e av)/\
 j  av)\/
 (∃ cj:List PanicEntry,(di=.panicked cj)/\Zs prog 155 [.pointer ((some ⟨c,0,none⟩)),.pointer ((some ⟨d,0,none⟩))] (.panicking cj) (λ aw=>∃ eh,(Aw aw ⟨c,0,none⟩ [.pointer eh])/\
 ∃ ei,(Aw aw ⟨d,0,none⟩ [.int .i64 ei])/\
 K (.tuple #[.pointer eh,.int .i64 ei]) aw) av)))
 (Calls prog 156 #[.bool false] p λ dj ax=>
 ((dj=.returned (.tuple #[]))/\
 (e ax)/\
 j  ax)\/
 (∃ ck:List PanicEntry,(dj=.panicked ck)/\Zs prog 155 [.pointer ((some ⟨c,0,none⟩)),.pointer ((some ⟨d,0,none⟩))] (.panicking ck) (λ ay=>∃ ej,(Aw ay ⟨c,0,none⟩ [.pointer ej])/\
 ∃ ek,(Aw ay ⟨d,0,none⟩ [.int .i64 ek])/\
 K (.tuple #[.pointer ej,.int .i64 ek]) ay) ax)))
 (Calls prog 156 #[.bool false] p λ dk az=>
 ((dk=.returned (.tuple #[]))/\
 (e az)/\
 j  az)\/
 (∃ cl:List PanicEntry,(dk=.panicked cl)/\Zs prog 155 [.pointer ((some ⟨c,0,none⟩)),.pointer ((some ⟨d,0,none⟩))] (.panicking cl) (λ a0=>∃ el,(Aw a0 ⟨c,0,none⟩ [.pointer el])/\
 ∃ em,(Aw a0 ⟨d,0,none⟩ [.int .i64 em])/\
 K (.tuple #[.pointer el,.int .i64 em]) a0) az)))
 (Calls prog 156 #[.bool false] p λ dl a1=>
 ((dl=.returned (.tuple #[]))/\
 (e a1)/\
 j  a1)\/
 (∃ cm:List PanicEntry,(dl=.panicked cm)/\Zs prog 155 [.pointer ((some ⟨c,0,none⟩)),.pointer ((some ⟨d,0,none⟩))] (.panicking cm) (λ a2=>∃ ed,(Aw a2 ⟨c,0,none⟩ [.pointer ed])/\
 ∃ ee,(Aw a2 ⟨d,0,none⟩ [.int .i64 ee])/\
 K (.tuple #[.pointer ed,.int .i64 ee]) a2) a1)))/\
 ∀ (ip:Env)  (h1:World),j  h1->
 Drw h1 λ l ii=>
 ∃ en,(At l ⟨c,0,none⟩ [.pointer en])/\
 Zd en λ bv=>
 ∃ eo:Option Nat,(At l ⟨bv.block,bv.off + 2,none⟩ [.map eo])/\
 ∃ ep,(At l ⟨g,0 + 1,none⟩ [.int .i64 ep])/\
 ∃ eq er:Option Addr,(∀ b,l b->((Instr.lookup 77 (.map eo) (.int .i64 ep) false)).run prog b=.ok (.agg #[.pointer eq,.pointer er]) b)/\
 Calls prog 162 #[.agg #[.pointer eq,.pointer er],.pointer ((some ⟨g,0,none⟩))] ii λ dm a3=>
 (∃ et,(dm=.returned (.bool et))/\
 (l a3)/\
 Calls prog 156 #[.bool et] a3 λ dp E=>
 ((dp=.returned (.tuple #[]))/\
 (l E)/\
 ∃ M,(Aw E ⟨g,0,none⟩ [.int .i64 M])/\
 Drw E λ H ij=>
 ∃ eu,(At H ⟨c,0,none⟩ [.pointer eu])/\
 Zd eu λ bw=>
 ∃ ev:Option Nat,(At H ⟨bw.block,bw.off + 3,none⟩ [.map ev])/\
 ∃ ew,(At H ⟨g,0,none⟩ [.int .i64 ew])/\
 ∃ a4:World,((Instr.mapUpdate 78 (.map ev) (.int .i64 ew) (.pointer ((some ⟨g,0,none⟩)))).run prog ij=.ok () a4)/\
 (G M (IntKind.i64.wrap (v + 1)) a4)/\ia M (IntKind.i64.wrap (v + 1)) a4<ia L v y)\/
 (∃ cp:List PanicEntry,(dp=.panicked cp)/\Zs prog 155 [.pointer ((some ⟨c,0,none⟩)),.pointer ((some ⟨d,0,none⟩))] (.panicking cp) (λ a5=>∃ f7,(Aw a5 ⟨c,0,none⟩ [.pointer f7])/\
 ∃ gf,(Aw a5 ⟨d,0,none⟩ [.int .i64 gf])/\
 K (.tuple #[.pointer f7,.int .i64 gf]) a5) E))\/
 (∃ cn:List PanicEntry,(dm=.panicked cn)/\Zs prog 155 [.pointer ((some ⟨c,0,none⟩)),.pointer ((some ⟨d,0,none⟩))] (.panicking cn) (λ a6=>∃ gg,(Aw a6 ⟨c,0,none⟩ [.pointer gg])/\
 ∃ gh,(Aw a6 ⟨d,0,none⟩ [.int .i64 gh])/\
 K (.tuple #[.pointer gg,.int .i64 gh]) a6) a3)) ao)\/
 (∃ cg:List PanicEntry,(df=.panicked cg)/\Zs prog 155 [.pointer ((some ⟨c,0,none⟩)),.pointer ((some ⟨d,0,none⟩))] (.panicking cg) (λ a7=>∃ gi,(Aw a7 ⟨c,0,none⟩ [.pointer gi])/\
 ∃ gj,(Aw a7 ⟨d,0,none⟩ [.int .i64 gj])/\
 K (.tuple #[.pointer gi,.int .i64 gj]) a7) ao))\/
 (∃ cf:List PanicEntry,(de=.panicked cf)/\Zs prog 155 [.pointer ((some ⟨c,0,none⟩)),.pointer ((some ⟨d,0,none⟩))] (.panicking cf) (λ a8=>∃ gk,(Aw a8 ⟨c,0,none⟩ [.pointer gk])/\
 ∃ gl,(Aw a8 ⟨d,0,none⟩ [.int .i64 gl])/\
 K (.tuple #[.pointer gk,.int .i64 gl]) a8) an))\/
 (∃ ce:List PanicEntry,(dd=.panicked ce)/\Zs prog 155 [.pointer ((some ⟨c,0,none⟩)),.pointer ((some ⟨d,0,none⟩))] (.panicking ce) (λ a9=>∃ gm,(Aw a9 ⟨c,0,none⟩ [.pointer gm])/\
 ∃ f8,(Aw a9 ⟨d,0,none⟩ [.int .i64 f8])/\
 K (.tuple #[.pointer gm,.int .i64 f8]) a9) am))\/
 (∃ cc:List PanicEntry,(db=.panicked cc)/\Zs prog 155 [.pointer ((some ⟨c,0,none⟩)),.pointer ((some ⟨d,0,none⟩))] (.panicking cc) (λ ba=>∃ f9,(Aw ba ⟨c,0,none⟩ [.pointer f9])/\
 ∃ ga,(Aw ba ⟨d,0,none⟩ [.int .i64 ga])/\
 K (.tuple #[.pointer f9,.int .i64 ga]) ba) al))\/
 (∃ cb:List PanicEntry,(da=.panicked cb)/\Zs prog 155 [.pointer ((some ⟨c,0,none⟩)),.pointer ((some ⟨d,0,none⟩))] (.panicking cb) (λ bb=>∃ gb,(Aw bb ⟨c,0,none⟩ [.pointer gb])/\
 ∃ gc,(Aw bb ⟨d,0,none⟩ [.int .i64 gc])/\
 K (.tuple #[.pointer gb,.int .i64 gc]) bb) ak))\/
 (∃ ca:List PanicEntry,(c9=.panicked ca)/\Zs prog 155 [.pointer ((some ⟨c,0,none⟩)),.pointer ((some ⟨d,0,none⟩))] (.panicking ca) (λ bc=>∃ gd,(Aw bc ⟨c,0,none⟩ [.pointer gd])/\
 ∃ ge,(Aw bc ⟨d,0,none⟩ [.int .i64 ge])/\
 K (.tuple #[.pointer gd,.int .i64 ge]) bc) aj))
 (∃ ex,(Aw y ⟨f,0,none⟩ [.pointer ex])/\
 Calls prog 96 #[.pointer ex] y λ dq q=>
 (∃ ey,(dq=.returned (.bool ey))/\
 Br ey
 (∃ e0,(Aw q ⟨c,0,none⟩ [.pointer e0])/\
 Zd e0 λ bx=>
 ∃ e1,(Aw q ⟨bx.block,bx.off + 1,none⟩ [.int .i64 e1])/\
 Br (decide (e1 >= 1))
 (Calls prog 156 #[.bool (x==O)] q λ dr bd=>
 ((dr=.returned (.tuple #[]))/\
 ∃ e3,(Aw bd ⟨c,0,none⟩ [.pointer e3])/\
 ∃ h3:World,(St 25 ⟨c,0,none⟩ (.pointer e3) bd h3)/\
 ∃ h4:World,(St 29 ⟨d,0,none⟩ (.int .i64 0) h3 h4)/\
 Zs prog 155 [.pointer ((some ⟨c,0,none⟩)),.pointer ((some ⟨d,0,none⟩))] .returning (λ be=>∃ gw,(Aw be ⟨c,0,none⟩ [.pointer gw])/\
 ∃ gx,(Aw be ⟨d,0,none⟩ [.int .i64 gx])/\
 K (.tuple #[.pointer gw,.int .i64 gx]) be) h4)\/
 (∃ cr:List PanicEntry,(dr=.panicked cr)/\Zs prog 155 [.pointer ((some ⟨c,0,none⟩)),.pointer ((some ⟨d,0,none⟩))] (.panicking cr) (λ bf=>∃ g8,(Aw bf ⟨c,0,none⟩ [.pointer g8])/\
 ∃ hf,(Aw bf ⟨d,0,none⟩ [.int .i64 hf])/\
 K (.tuple #[.pointer g8,.int .i64 hf]) bf) bd))
 (Calls prog 156 #[.bool false] q λ ds bg=>
 ((ds=.returned (.tuple #[]))/\
 ∃ e4,(Aw bg ⟨c,0,none⟩ [.pointer e4])/\
 ∃ h5:World,(St 25 ⟨c,0,none⟩ (.pointer e4) bg h5)/\
 ∃ h6:World,(St 29 ⟨d,0,none⟩ (.int .i64 0) h5 h6)/\
 Zs prog 155 [.pointer ((some ⟨c,0,none⟩)),.pointer ((some ⟨d,0,none⟩))] .returning (λ bh=>∃ hg,(Aw bh ⟨c,0,none⟩ [.pointer hg])/\
 ∃ hh,(Aw bh ⟨d,0,none⟩ [.int .i64 hh])/\
 K (.tuple #[.pointer hg,.int .i64 hh]) bh) h6)\/
 (∃ cs:List PanicEntry,(ds=.panicked cs)/\Zs prog 155 [.pointer ((some ⟨c,0,none⟩)),.pointer ((some ⟨d,0,none⟩))] (.panicking cs) (λ bi=>∃ hi,(Aw bi ⟨c,0,none⟩ [.pointer hi])/\
 ∃ hj,(Aw bi ⟨d,0,none⟩ [.int .i64 hj])/\
 K (.tuple #[.pointer hi,.int .i64 hj]) bi) bg)))
 (Calls prog 156 #[.bool false] q λ dt bj=>
 ((dt=.returned (.tuple #[]))/\
 ∃ e5,(Aw bj ⟨c,0,none⟩ [.pointer e5])/\
 ∃ h7:World,(St 25 ⟨c,0,none⟩ (.pointer e5) bj h7)/\
 ∃ h8:World,(St 29 ⟨d,0,none⟩ (.int .i64 0) h7 h8)/\
 Zs prog 155 [.pointer ((some ⟨c,0,none⟩)),.pointer ((some ⟨d,0,none⟩))] .returning (λ bl=>∃ hk,(Aw bl ⟨c,0,none⟩ [.pointer hk])/\
 ∃ hl,(Aw bl ⟨d,0,none⟩ [.int .i64 hl])/\
 K (.tuple #[.pointer hk,.int .i64 hl]) bl) h8)\/
 (∃ ct:List PanicEntry,(dt=.panicked ct)/\Zs prog 155 [.pointer ((some ⟨c,0,none⟩)),.pointer ((some ⟨d,0,none⟩))] (.panicking ct) (λ bm=>∃ gy,(Aw bm ⟨c,0,none⟩ [.pointer gy])/\
 ∃ gz,(Aw bm ⟨d,0,none⟩ [.int .i64 gz])/\
 K (.tuple #[.pointer gy,.int .i64 gz]) bm) bj)))\/
 (∃ cq:List PanicEntry,(dq=.panicked cq)/\Zs prog 155 [.pointer ((some ⟨c,0,none⟩)),.pointer ((some ⟨d,0,none⟩))] (.panicking cq) (λ bn=>∃ g0,(Aw bn ⟨c,0,none⟩ [.pointer g0])/\
 ∃ g1,(Aw bn ⟨d,0,none⟩ [.int .i64 g1])/\
 K (.tuple #[.pointer g0,.int .i64 g1]) bn) q)))\/
 (∃ b9:List PanicEntry,(c8=.panicked b9)/\Zs prog 155 [.pointer ((some ⟨c,0,none⟩)),.pointer ((some ⟨d,0,none⟩))] (.panicking b9) (λ bo=>∃ g2,(Aw bo ⟨c,0,none⟩ [.pointer g2])/\
 ∃ g3,(Aw bo ⟨d,0,none⟩ [.int .i64 g3])/\
 K (.tuple #[.pointer g2,.int .i64 g3]) bo) hx)))\/
 (∃ cu:List PanicEntry,(du=.panicked cu)/\Zs prog 155 [.pointer ((some ⟨c,0,none⟩)),.pointer ((some ⟨d,0,none⟩))] (.panicking cu) (λ bp=>∃ g4,(Aw bp ⟨c,0,none⟩ [.pointer g4])/\
 ∃ g5,(Aw bp ⟨d,0,none⟩ [.int .i64 g5])/\
 K (.tuple #[.pointer g4,.int .i64 g5]) bp) hm))\/
 (∃ co:List PanicEntry,(dn=.panicked co)/\Zs prog 155 [.pointer ((some ⟨c,0,none⟩)),.pointer ((some ⟨d,0,none⟩))] (.panicking co) (λ bq=>∃ g6,(Aw bq ⟨c,0,none⟩ [.pointer g6])/\
 ∃ g7,(Aw bq ⟨d,0,none⟩ [.int .i64 g7])/\
 K (.tuple #[.pointer g6,.int .i64 g7]) bq) Q))\/
 (∃ cd:List PanicEntry,(dc=.panicked cd)/\Zs prog 155 [.pointer ((some ⟨c,0,none⟩)),.pointer ((some ⟨d,0,none⟩))] (.panicking cd) (λ br=>∃ g9,(Aw br ⟨c,0,none⟩ [.pointer g9])/\
 ∃ ha,(Aw br ⟨d,0,none⟩ [.int .i64 ha])/\
 K (.tuple #[.pointer g9,.int .i64 ha]) br) bk))\/
 (∃ b2:List PanicEntry,(c1=.panicked b2)/\Zs prog 155 [.pointer ((some ⟨c,0,none⟩)),.pointer ((some ⟨d,0,none⟩))] (.panicking b2) (λ bs=>∃ hb,(Aw bs ⟨c,0,none⟩ [.pointer hb])/\
 ∃ hc,(Aw bs ⟨d,0,none⟩ [.int .i64 hc])/\
 K (.tuple #[.pointer hb,.int .i64 hc]) bs) h0)) hv)\/
 (∃ b1:List PanicEntry,(c0=.panicked b1)/\Zs prog 155 [.pointer ((some ⟨c,0,none⟩)),.pointer ((some ⟨d,0,none⟩))] (.panicking b1) (λ bt=>∃ hd,(Aw bt ⟨c,0,none⟩ [.pointer hd])/\
 ∃ he,(Aw bt ⟨d,0,none⟩ [.int .i64 he])/\
 K (.tuple #[.pointer hd,.int .i64 he]) bt) hv)) id) w
def sk95:Sk:=(.seq .leaf (.seq .leaf (.seq .leaf (.seq .leaf (.seq .leaf (.seq (.seq .leaf (.block (.loop [6,7,32] [(.int .i64),(.int .i64),(.int .i64)] [6,7,8,9,10,11,32,33,34,35,36,37,38,39,40,41,42,43,44,45,46,47,48,49,50,51,52,53,54,55,56,57,58,59,60,61,62,63,64,65,66,67,68,69,70,71,72,73,74,75,76,77,78,79,80,81] (.seq .leaf (.seq .leaf (.seq (.block (.seq .leaf (.seq .leaf (.cut [] [] [48,49,50,51,52,53,54,55,56,57,58,59,60,61] .leaf .leaf)))) .leaf)))))) (.seq .leaf (.seq .leaf (.seq (.seq .leaf (.block (.loop [6,85] [(.int .i64),(.int .i64)] [6,13,14,85,86,87,88,89,90,91,92,93,94,95,96,97,98,99,100,101,102,103,104,105,106,107,108,109,110,111,112,113,114,115,116,117,118,119,120,121,122,123,124,125,126,127,128,129,130,131,132,133,134,135,136,137,138,139,140,141,142,143,144,145,146,147,148,149,150,151,152,153,154,155,156,157,158,159,160,161,162,163,164,165,166,167,168,169,170,171,172,173,174,175,176,177,178,179,180,181,182,183,184,185] (.seq .leaf (.seq .leaf (.seq (.block (.seq .leaf (.seq .leaf (.cut [] [] [102,103,104,105,106,107,108,109,110,111,112,113,114,115,116,117,118,119,120,121,122,123,124,125,126,127,128,129,130,131,132,133,134,135,136,137,138,139,140,141,142,143,144,145,146,147,148,149,150,151,152,153,154,155,156,157,158] .leaf .leaf)))) .leaf)))))) .leaf)))))))))
theorem Zz5 (b:Sl) (K:Value->World->Prop) (w:World) (h:B95 b K w):Zo prog 95 #[b.v] w K:=cqd (sk:=sk95) h func95
def B155 (i:Option Addr) (j:Option Addr) (c:Value) (K:World->Prop) (w:World):Prop:=
 ∃ e:Bool,(∀ a,(λ a=>a=w) a->((do eqGuard BinOp.neq 20 (Operand.tmp 4) (Operand.const Value.nilIface) c .nilIface;binOp BinOp.neq 20 c .nilIface:Sem Value)).run prog a=.ok (.bool e) a)/\
 Br e
 (Drw w λ d k=>
 ∃ f:Int,(∀ a,d a->((Instr.typeAssert c 20 29 false)).run prog a=.ok (.int .i64 f) a)/\
 ∃ b:World,((Instr.storeAt 25 (.pointer i) (.pointer none)).run prog k=.ok () b)/\
 (d b)/\
 ∃ g:World,((Instr.storeAt 29 (.pointer j) (.int .i64 f)).run prog b=.ok () g)/\
 K g)
 (K w)
theorem ZuW (b:Option Addr) (c:Option Addr) (a:Value) (K:World->Prop) (w:World) (h:B155 b c a K w):CallsD prog 155 #[.pointer b,.pointer c] (.panicking [⟨a,false,false⟩]) w λ d e f=>(∃ g,d=.returned g)/\e=.panicking [⟨a,true,false⟩]/\K f:=
 Zhp (sk:=.leaf) Zkq mixed func155 (by kernel_rfl) (Nat.le_of_ble_eq_true (by kernel_rfl)) (cast (by kernel_rfl) h)
theorem ZuU (a:Option Addr) (b:Option Addr) (K:World->Prop) (w:World) (h:B155 a b .nilIface K w):CallsD prog 155 #[.pointer a,.pointer b] .returning w λ c d e=>(∃ f,c=.returned f)/\d=.returning/\K e:=
 ZfX (sk:=.leaf) Zkq mixed func155 (by kernel_rfl) (Nat.le_of_ble_eq_true (by kernel_rfl)) (cast (by kernel_rfl) h)
def B156 (e:Bool) (d:List PanicEntry->World->Prop) (K:Value->World->Prop) (w:World):Prop:=
 Calls prog 37 #[.bool e,.int .i64 6] w λ b c=>
 ((b=.returned (.tuple #[]))/\
 K (.tuple #[]) c)\/
 (∃ a:List PanicEntry,(b=.panicked a)/\d a c)
theorem Zyy (b:Bool) (a:List PanicEntry->World->Prop) (K:Value->World->Prop) (w:World) (h:B156 b a K w):ZaV prog 156 #[.bool b] w a K:=cqx (sk:=.leaf) h func156
def B161 (d:Option Addr) (K:Value->World->Prop) (w:World):Prop:=
 Zd d λ c=>
 ∃ a,(Aw w c [.pointer a])/\
 Calls prog 157 #[.agg #[.pointer a],.int .i64 9999] w λ e g=>
 ∃ b,(e=.returned (.int .i64 b))/\
 K (.int .i64 b) g
theorem Zyt (a:Option Addr) (K:Value->World->Prop) (w:World) (h:B161 a K w):Zo prog 161 #[.pointer a] w K:=cq (sk:=.leaf) h func161
end
end Go.Proofs.YtlplemdmegpoeaaGreatDoor

namespace Go.VC
theorem Ztj {x:Nat} (h:x<18446744073709551616):x &&& 9223372036854775808=if x<9223372036854775808 then 0 else 9223372036854775808:=by
 have e:(9223372036854775808:Nat)=2 ^ 63:=by decide
 apply Nat.eq_of_testBit_eq;intro i;rw [Nat.testBit_and];by_cases hi:63=i
 ·subst hi
  have h1:x.testBit 63=decide (¬ x<9223372036854775808):=by
   rw [Nat.testBit_eq_decide_div_mod_eq,<-e];exact decide_eq_decide.2 (by omega)
  have h2:Nat.testBit 9223372036854775808 63=true:=by rw [e,Nat.testBit_two_pow];simp
  rw [h1,h2];split
  ·rw [decide_eq_false (by omega)];simp
  ·rw [decide_eq_true (by assumption)];simp [h2]
 ·have h2:Nat.testBit 9223372036854775808 i=false:=by rw [e,Nat.testBit_two_pow];simp [hi]
  rw [h2];split<;>simp [h2]
theorem Zzv {x:Nat} (h:x<9223372036854775808):x|||9223372036854775808=x + 9223372036854775808:=by
 have:=Nat.two_pow_add_eq_or_of_lt (i:=63) (b:=x) (by simpa using h) 1;rw [Nat.or_comm];simp only [Nat.mul_one] at this;have e:(2:Nat) ^ 63=9223372036854775808:=by decide
 rw [e] at this;omega
theorem Zrw {x:Nat} (h:x<18446744073709551616):IntKind.u64.wrap ((BitVec.ofInt IntKind.u64.bits (if IntKind.u64.signed=true then -1 else IntKind.u64.max) ^^^ BitVec.ofInt IntKind.u64.bits (x:Int)).toNat:Int)=((18446744073709551615 - x:Nat):Int):=by
 have e1:BitVec.ofInt IntKind.u64.bits (if IntKind.u64.signed=true then -1 else IntKind.u64.max)=BitVec.allOnes 64:=by
  show BitVec.ofInt 64 18446744073709551615=BitVec.allOnes 64;decide
 have e2:(BitVec.ofInt 64 (x:Int)).toNat=x:=ZeC 64 x (by simpa using h);rw [e1];show IntKind.u64.wrap (((BitVec.allOnes 64 ^^^ BitVec.ofInt 64 (x:Int)).toNat:Nat):Int)=_;rw [BitVec.xor_comm,BitVec.xor_allOnes,BitVec.toNat_not,e2];have e3:(2:Nat) ^ 64 - 1 - x=18446744073709551615 - x:=by
  have:(2:Nat) ^ 64=18446744073709551616:=by decide
  rw [this]
 rw [e3];exact Zax (by omega) (by omega)
theorem ZpQ {k:Nat} (h:k<18446744073709551616) (h1:9223372036854775808<=k):ZfM .andNot .u64 (k:Int) 9223372036854775808=((k - 9223372036854775808:Nat):Int):=by
 have e1:(BitVec.ofInt 64 (k:Int)).toNat=k:=ZeC 64 k (by simpa using h);have e2:(BitVec.ofInt 64 9223372036854775808).toNat=9223372036854775808:=by decide
 have e3:(BitVec.ofInt 64 (k:Int) &&& ~~~ BitVec.ofInt 64 9223372036854775808).toNat=k - 9223372036854775808:=by
  rw [BitVec.toNat_and,BitVec.toNat_not,e1,e2];have e4:(2:Nat) ^ 64 - 1 - 9223372036854775808=2 ^ 63 - 1:=by decide
  rw [e4,Nat.and_two_pow_sub_one_eq_mod];have e5:(2:Nat) ^ 63=9223372036854775808:=by decide
  rw [e5];omega
 show IntKind.u64.wrap (((BitVec.ofInt 64 (k:Int) &&& ~~~ BitVec.ofInt 64 9223372036854775808).toNat:Nat):Int)=_;rw [e3];exact Zax (by omega) (by omega)
end Go.VC
namespace Go.Proofs.YtlplemdmegpoeaaGreatDoor
section
open Go Go.VC Ieee Tryz
variable {R:Cx} {Hs Rest:List HP} {w:World}
theorem ZwW : (f210.name == "runtime.NumGoroutine") = false := by kernel_rfl
theorem ZwY:f210.body.isNone=true:=by kernel_rfl
theorem ZwV:Extern.findNext f210=none:=by kernel_rfl
theorem ZwX:Extern.find f210=some Extern.MathFloatBits.float64bits:=by kernel_rfl
theorem ZwS : (f222.name == "runtime.NumGoroutine") = false := by kernel_rfl
theorem ZwU:f222.body.isNone=true:=by kernel_rfl
theorem ZwR:Extern.findNext f222=none:=by kernel_rfl
theorem ZwT:Extern.find f222=some Extern.MathFloatBits.float64frombits:=by kernel_rfl
theorem Zu3 (x:Nat) (w:World):(callFunc 210 #[.float .f64 x]).run prog w=.ok (.value (.int .u64 x)) w:=by
 rw [run_callFunc_extern func210 ZwW ZwY ZwV ZwX];rfl
theorem Zn1 (n:Nat) (w:World):(callFunc 222 #[.int .u64 n]).run prog w=.ok (.value (.float .f64 n)) w:=by
 rw [run_callFunc_extern func222 ZwS ZwU ZwR ZwT];rfl
theorem Zuq {x:Nat} (hx:x<18446744073709551616) (hw:Sat R Hs w):Zo prog 135 #[.float .f64 x] w λ v w'=>v=.int .u64 (Zts x:Nat)/\Sat R Hs w':=by
 apply ZyI;refine ⟨_,w,Zu3 x w,_,rfl,?_⟩;have e1:ZfM BinOp.and IntKind.u64 (x:Int) 9223372036854775808=((x &&& 9223372036854775808:Nat):Int):=ZvI (y:=9223372036854775808) hx (by decide);have e2:ZfM BinOp.or IntKind.u64 (x:Int) 9223372036854775808=((x|||9223372036854775808:Nat):Int):=Zzw (y:=9223372036854775808) hx (by decide);rw [e1,e2,Ztj hx];refine Br.mk (λ h=>⟨?_,hw⟩) (λ h=>⟨?_,hw⟩)
 ·rw [Zrw hx]
  unfold Zts;split at h
  ·simp at h
  ·rename_i h1;rw [if_neg h1]
 ·split at h
  ·rename_i h1
   rw [Zzv h1];unfold Zts;rw [if_pos h1]
  ·simp at h
theorem Zrr {k:Nat} (hk:k<18446744073709551616) (hw:Sat R Hs w):Zo prog 229 #[.int .u64 k] w λ v w'=>v=.float .f64 (ofF k)/\Sat R Hs w':=by
 apply ZxT;have e1:ZfM BinOp.and IntKind.u64 (k:Int) 9223372036854775808=((k &&& 9223372036854775808:Nat):Int):=ZvI (y:=9223372036854775808) hk (by decide);unfold B229;rw [e1,Ztj hk];refine Br.mk (λ h=>?_) (λ h=>?_)
 ·rw [Zrw hk]
  refine ⟨_,w,Zn1 _ w,_,rfl,?_,hw⟩;unfold ofF;split at h
  ·rename_i h1;rw [if_neg (by omega)]
  ·simp at h
 ·have h1:¬ k<9223372036854775808:=by
   intro h1;rw [if_pos h1] at h;simp at h
  have e2:=ZpQ hk (by omega);rw [e2];refine ⟨_,w,Zn1 _ w,_,rfl,?_,hw⟩;unfold ofF;rw [if_pos (by omega)]
theorem Zw8 (t1 t2:Operand) (T:TypeId) (x y:Nat) (w:World):((do eqGuard BinOp.lss T t1 t2 (.float .f64 x) (.float .f64 y);binOp BinOp.lss T (.float .f64 x) (.float .f64 y):Sem Value)).run prog w=.ok (.bool (double.order x y==some .lt)) w:=by
 simp [eqGuard,binOp,Op.floatCmp,FloatKind.format]
theorem ZnI {x:Nat} (hw:Sat R Hs w):Zo prog 293 #[.float .f64 x] w λ v w'=>v=.bool (Zo7 x)/\Sat R Hs w':=by
 apply Zxl;refine ⟨_,λ w' _=>ZzX _ _ _ _ _ w',?_,hw⟩;have h:=Zt8 x;rw [bne,h,Bool.not_not]
theorem Zkm {x y:Nat} (hw:Sat R Hs w):Zo prog 277 #[.float .f64 x,.float .f64 y] w λ v w'=>v=.int .i64 (Zhr x y)/\Sat R Hs w':=by
 apply Zxp;refine (ZnI hw).use ?_;clear hw;rintro _ w ⟨rfl,hw⟩;refine ⟨_,rfl,?_⟩;refine (ZnI hw).use ?_;clear hw;rintro _ w ⟨rfl,hw⟩;refine ⟨_,rfl,?_⟩;unfold Zhr;refine Br.mk (λ hx=>?_) (λ hx=>?_)
 ·refine Br.mk (λ hy=>⟨?_,hw⟩) (λ hy=>⟨?_,hw⟩)
  ·rw [ZnR hx,ZnR hy,if_neg (by omega),if_pos rfl]
  ·have:=ZzK hy
   rw [ZnR hx,if_pos (by omega)]
 ·refine Br.mk (λ hy=>⟨?_,hw⟩) (λ hy=>?_)
  ·have:=ZzK hx
   rw [ZnR hy,if_neg (by omega),if_neg (by omega)]
  ·obtain ⟨o1,o2,o3⟩:=Zvi hx hy
   refine ⟨_,λ w' _=>Zw8 _ _ _ _ _ w',?_⟩;rw [o1];refine Br.d (λ h=>⟨by rw [if_pos h],hw⟩) (λ h=>?_);refine ⟨_,λ w' _=>ZvC _ _ _ _ _ w',?_⟩;rw [o3];refine Br.d (λ h2=>⟨by rw [if_neg h,if_neg (by omega)],hw⟩) (λ h2=>⟨by rw [if_neg h,if_pos (by omega)],hw⟩)
theorem Zq0 {x y:Nat} (hw:Sat R Hs w):Zo prog 243 #[.float .f64 x,.float .f64 y] w λ v w'=>v=.int .i64 (Zhr x y)/\Sat R Hs w':=by
 apply ZxF;refine (Zkm hw).use ?_;rintro _ w ⟨rfl,hw⟩;exact ⟨_,rfl,rfl,hw⟩
def ZuO (x y:Int):Int:=if x<y then -1 else if y<x then 1 else 0
theorem ZfK {x y:Int} (hw:Sat R Hs w):Zo prog 244 #[.int .i64 x,.int .i64 y] w λ v w'=>v=.int .i64 (ZuO x y)/\Sat R Hs w':=by
 apply ZxE;have nan:∀ {z:Int} {w:World},Sat R Hs w->Zo prog 278 #[.int .i64 z] w λ v w'=>v=.bool false/\Sat R Hs w':=λ {z w} hw=>by
  apply ZsQ;exact ⟨by simp,hw⟩
 refine (nan hw).use ?_;clear hw;rintro _ w ⟨rfl,hw⟩;refine ⟨_,rfl,?_⟩;refine (nan hw).use ?_;clear hw;rintro _ w ⟨rfl,hw⟩;refine ⟨_,rfl,Br.f rfl (Br.f rfl ?_)⟩;unfold ZuO;refine Br.d (λ h=>⟨by rw [if_pos h],hw⟩) (λ h=>Br.d (λ h2=>⟨by rw [if_neg h,if_pos (by omega)],hw⟩) (λ h2=>⟨by rw [if_neg h,if_neg (by omega)],hw⟩))
end
section
open Go Go.VC Tryz
variable {R:Cx} {Hs Rest:List HP} {w:World}
abbrev wrp (p:Nat) (s:Sl):HP:=pts p (.cells [.slice s.a s.len s.cap].toArray 112 (0,0))
def WrB (p:Nat) (bs:List Int):HP:=exs λ s:Sl=>ZaI [wrp p s,Own s 5 (b8 bs)]
theorem Sat.wrB {p:Nat} {bs:List Int}:Sat R (WrB p bs::Hs) w↔∃ s:Sl,Sat R (wrp p s::Own s 5 (b8 bs)::Hs) w:=by
 unfold WrB;rw [Sat.exs];exact ⟨λ⟨s,h⟩=>⟨s,Sat.star.1 h⟩,λ⟨s,h⟩=>⟨s,Sat.star.2 h⟩⟩
theorem Zo4 {n:Int} (h:n<9223372036854775808):0<=nn n/\nn n<9223372036854775808:=by unfold nn;omega
theorem ZzD (n:Int):(if 0>n then 0 else n)=nn n:=by unfold nn;split<;>omega
theorem Zip {p:Nat} {s:Sl} {xs bs:List Int} (hxs:∀ x∈xs,x<9223372036854775808) (hl:bs.length + 9 * xs.length<=1099511627776) (hs:RoI R s xs) (hw:Sat R (WrB p bs::Hs) w):
  Zo prog 60 #[.pointer (some ⟨p,0,none⟩),.slice s.a s.len s.cap] w λ v w'=>v=.tuple #[]/\Sat R (WrB p (bs++Zm (xs.map nn))::Hs) w':=by
 have hlen:=hs.len;apply ZAl;refine ⟨λ i w=>∃ k:Nat,i=k/\k<=xs.length/\Sat R (WrB p (bs++Zm ((xs.take k).map nn))::Hs) w,λ i _=>xs.length - i.toNat,⟨0,rfl,by omega,by simpa [Zm] using hw⟩,?_⟩;clear hw;rintro _ _ w ⟨k,rfl,hk,hw⟩;refine Br.d (λ h=>?_) (λ h=>?_)
 ·have hkx:k<xs.length:=by omega
  have hx:=Zo4 (hxs xs[k] (List.getElem_mem _));have hxt:∀ x∈(xs.take k).map nn,0<=x/\x<18446744073709551616:=λ x hx=>by
   obtain ⟨y,hy,rfl⟩:=List.mem_map.1 hx;have:=Zo4 (hxs y (List.mem_of_mem_take hy));omega
  have hnl:=ZX hxt;rw [List.length_map,List.length_take] at hnl;refine Ro.ix hs (eqS hw) k rfl hkx ?_;obtain ⟨s0,hw⟩:=Sat.wrB.1 hw;refine Zbf hw λ w hw=>?_;refine Zd.mk rfl ⟨s0,oS,?_⟩;rw [ZzD];obtain ⟨n,hn⟩:=Int.eq_ofNat_of_zero_le hx.1;rw [hn,Zax (by omega) (by omega)];refine (ZbR (by omega) hw).use ?_;rintro _ w ⟨t,rfl,hw⟩;refine ⟨t,rfl,hw.absorb,?_⟩;have hw:Sat R (Own s0 5 (b8 (bs++Zm ((xs.take k).map nn)))::Own t 5 (b8 (Zf4 n))::wrp p s0::VC.tru::Hs) w:=hw.arr;have hnb:=Zbx (n:=n) (by omega);refine ZfP Zvt (s:=s0) (n:=1099511627790) underlying47 hw (by rw [List.length_append];omega) (by omega) (by omega) λ s2 w hw=>?_;have hw:Sat R (wrp p s0::Own s2 5 (b8 (bs++Zm ((xs.take k).map nn)++Zf4 n))::Hs) w:=by
   have h:Sat R (Own t 5 (b8 (Zf4 n))::VC.tru::wrp p s0::Own s2 5 (b8 (bs++Zm ((xs.take k).map nn)++Zf4 n))::Hs) w:=hw.arr;exact h.drop.drop
  refine Zd.mk rfl ?_;refine Za hw (by kernel_rfl) rfl (by simp [Value.cells]) λ w hw=>?_;have hw:=hw.re (wrp p s2);rw [Zl (by omega) (by omega)];refine ⟨⟨k + 1,by omega,by omega,Sat.wrB.2 ⟨s2,?_⟩⟩,by dsimp only;omega⟩;have e:(xs.take (k + 1)).map nn=(xs.take k).map nn++[nn xs[k]]:=by rw [List.take_add_one,List.getElem?_eq_getElem hkx,List.map_append];rfl
  rw [e,Zhv,show Zm [nn xs[k]]=Zf4 (nn xs[k]).toNat by simp [Zm],hn,Int.toNat_natCast,<-List.append_assoc];exact hw
 ·have:k=xs.length:=by omega
  subst this;rw [List.take_length] at hw;exact ⟨rfl,hw⟩
theorem Zio {p:Nat} {s:Sl} {d bs:List Int} (hl:bs.length + d.length<=1099511627776) (hd:d.length<=1099511627776) (hs:Ro R s (b8 d)) (hw:Sat R (WrB p bs::Hs) w):
  Zo prog 63 #[.pointer (some ⟨p,0,none⟩),.slice s.a s.len s.cap] w λ v w'=>v=.tuple #[]/\Sat R (WrB p (bs++ZaX d)::Hs) w':=by
 apply ZAk;obtain ⟨s0,hw⟩:=Sat.wrB.1 hw;refine Zbf hw λ w hw=>?_;refine Zd.mk rfl ⟨s0,oS,?_⟩;refine (Zeu hs hd hw).use ?_;rintro _ w ⟨t,rfl,hw⟩;refine ⟨t,rfl,hw.absorb,?_⟩;have hw:Sat R (Own s0 5 (b8 bs)::Own t 5 (b8 (ZaX d))::wrp p s0::VC.tru::Hs) w:=hw.arr;have hnb:=Zbx (n:=d.length) (by omega);have htl:(ZaX d).length<=d.length + 9:=by unfold ZaX;rw [List.length_append];omega
 refine ZfP Zvt (s:=s0) (n:=1099511627800) underlying47 hw (by omega) (by omega) (by omega) λ s2 w hw=>?_;have hw:Sat R (wrp p s0::Own s2 5 (b8 (bs++ZaX d))::Hs) w:=by
  have h:Sat R (Own t 5 (b8 (ZaX d))::VC.tru::wrp p s0::Own s2 5 (b8 (bs++ZaX d))::Hs) w:=hw.arr;exact h.drop.drop
 refine Zd.mk rfl ?_;refine Za hw (by kernel_rfl) rfl (by simp [Value.cells]) λ w hw=>?_;have hw:=hw.re (wrp p s2);exact ⟨rfl,Sat.wrB.2 ⟨s2,hw⟩⟩
end
section
open Go Go.VC Tryz
open Classical
variable {R:Cx} {Hs Rest:List HP} {w:World}
abbrev cmV (c:Cm) (sg sp:Sl):List Value:=[.int .i64 c.kind,.string c.pnr,.int .i64 c.flt,.int .i64 c.cls,.int .i64 c.many,.int .i64 c.time,.float .f64 c.sc,.string c.lab,.int .i64 c.rows,.slice sg.a sg.len sg.cap,.slice sp.a sp.len sp.cap]
abbrev cmC (b:Nat) (c:Cm) (sg sp:Sl):HP:=pts b (.cells (cmV c sg sp).toArray 40 (0,0))
theorem Zcv {c:Cm}:ZaJ c↔(∀ n∈[c.flt,c.cls,c.many,c.rows]++c.grps,ZgK n)/\(c.pnr.size<=16/\c.lab.size<=16)/\(c.grps.length<=16/\c.parts.length<=16)/\1<=c.kind/\c.kind<=9/\0<=c.time/\c.time<=1099511627776:=by
 constructor
 ·intro h
  refine ⟨λ n hn=>?_,⟨h.pnr,h.lab⟩,⟨h.gl,h.pl⟩,h.kind.1,h.kind.2,h.time.1,h.time.2⟩;simp only [List.cons_append,List.nil_append,List.mem_cons] at hn;rcases hn with rfl|rfl|rfl|rfl|hn
  ·exact h.flt
  ·exact h.cls
  ·exact h.many
  ·exact h.rows
  ·exact h.grps n hn
 ·rintro ⟨h1,⟨h2,h3⟩,⟨h4,h5⟩,h6,h7,h8,h9⟩
  exact ⟨h1 _ (by simp),h1 _ (by simp),h1 _ (by simp),h1 _ (by simp),λ n hn=>h1 n (by simp [hn]),h2,h3,h4,h5,⟨h6,h7⟩,h8,h9⟩
theorem ZsX {n:Int}:Zo prog 97 #[.int .i64 n] w λ v w'=>v=.bool (decide (n<0\/n>9999))/\w'=w:=by
 apply Zz3;refine Br.d (λ h=>⟨by rw [decide_eq_true (by omega)],rfl⟩) (λ h=>⟨?_,rfl⟩)
 congr 1
 exact decide_eq_decide.2 (by omega)
set_option maxHeartbeats 400000 in
theorem Ze8 {c:Cm} {sg sp:Sl} (hg:RoI R sg c.grps) (hgl:c.grps.length<=17592186043904) (hp:sp.len=c.parts.length) (hw:Sat R Hs w):
  Zo prog 38 #[.agg #[.int .i64 c.kind,.string c.pnr,.int .i64 c.flt,.int .i64 c.cls,.int .i64 c.many,.int .i64 c.time,.float .f64 c.sc,.string c.lab,.int .i64 c.rows,.slice sg.a sg.len sg.cap,.slice sp.a sp.len sp.cap]] w λ v w'=>v=.bool (decide (ZaJ c))/\Sat R Hs w':=by
 have hglen:=hg.len;apply ZAu;refine Zb hw λ b w hw=>?_;have hw:Sat R (cmC b c sg sp::Hs) w:=hw
 repeat (first|refine Zd.mk rfl ?_|refine ⟨_,oS,?_⟩|refine ⟨_,oA hw,?_⟩|refine ⟨_,(by rw [Zz];exact oS),?_⟩|refine ⟨_,(by rw [Zz];exact oA hw),?_⟩)
 refine Zb hw λ b2 w hw=>?_;have hw:Sat R (Own ⟨some ⟨b2,0,none⟩,4,4⟩ 3 (Zg [c.flt,c.cls,c.many,c.rows])::cmC b c sg sp::Hs) w:=Zc4 hw;refine ⟨sg,oA hw,?_⟩;refine Zkv (n:=17592186044416) (s:=⟨some ⟨b2,0,none⟩,4,4⟩) (ty:=30) Ztt underlying30 hw hg (by simp;omega) (by omega) (by omega) λ t w hw=>?_;obtain ⟨L,hL⟩:∃ L,L=[c.flt,c.cls,c.many,c.rows]++c.grps:=⟨_,rfl⟩;have hLl:L.length=4 + c.grps.length:=by rw [hL];simp;omega
 rw [<-hL] at hw;have htl:t.len=L.length:=by have:=Own.len hw;simpa using this
 refine ⟨λ i w=>∃ k:Nat,i=k/\k<=L.length/\(∀ n∈L.take k,ZgK n)/\Sat R (Own t 3 (Zg L)::cmC b c sg sp::Hs) w,λ i _=>L.length - i.toNat,⟨0,rfl,by omega,by simp,hw⟩,?_⟩;clear hw;rintro _ _ w ⟨k,rfl,hk,hok,hw⟩;have no:¬ ZaJ c->∀ {w},Sat R (Own t 3 (Zg L)::cmC b c sg sp::Hs) w->(Value.bool false=.bool (decide (ZaJ c))/\Sat R Hs w):=λ h w hw=>⟨by rw [decide_eq_false h],hw.drop.drop⟩;refine Br.d (λ h=>?_) (λ h=>?_)
 ·have hkx:k<L.length:=by omega
  refine Own.ix hw (eqS hw) k rfl hkx ?_;refine ZsX.use ?_;rintro _ w2 ⟨rfl,rfl⟩;refine ⟨_,rfl,Br.mk (λ h2=>no (λ hr=>?_) hw) (λ h2=>?_)⟩
  ·have h3:=(Zcv.1 hr).1 L[k] (by rw [<-hL];exact List.getElem_mem hkx)
   have h4:=of_decide_eq_true h2;unfold ZgK at h3;omega
  ·rw [Zl (by omega) (by omega)]
   refine ⟨⟨k + 1,by omega,by omega,λ n hn=>?_,hw⟩,by dsimp only;omega⟩;rw [List.take_add_one,List.getElem?_eq_getElem hkx] at hn;rcases List.mem_append.1 hn with hn|hn
   ·exact hok n hn
   ·rw [show n=L[k] by simpa using hn]
    have h4:=of_decide_eq_false h2;unfold ZgK;omega
 ·have hall:∀ n∈L,ZgK n:=by rw [List.take_of_length_le (by omega)] at hok;exact hok
  refine ⟨λ t6 w=>t6=decide (c.pnr.size<=16/\c.lab.size<=16)/\Sat R (Own t 3 (Zg L)::cmC b c sg sp::Hs) w,⟨c.pnr,oA hw,Br.d (λ h=>?_) (λ h=>?_)⟩,?_⟩
  ·refine ⟨c.lab,oA hw,?_,hw⟩
   exact decide_eq_decide.2 (by omega)
  ·exact ⟨by rw [decide_eq_false (by omega)],hw⟩
  clear hw;rintro _ _ w ⟨rfl,hw⟩;refine ⟨λ t7 w=>t7=decide (c.grps.length<=16/\c.parts.length<=16)/\Sat R (Own t 3 (Zg L)::cmC b c sg sp::Hs) w,⟨sg,oA hw,Br.d (λ h=>?_) (λ h=>?_)⟩,?_⟩
  ·refine ⟨sp,oA hw,?_,hw⟩
   exact decide_eq_decide.2 (by omega)
  ·exact ⟨by rw [decide_eq_false (by omega)],hw⟩
  clear hw;rintro _ _ w ⟨rfl,hw⟩;have no2:¬ ZaJ c->(Value.bool false=.bool (decide (ZaJ c))/\Sat R Hs w):=λ h=>no h hw;refine Br.d (λ h1=>?_) (λ h1=>no2 λ hr=>h1 (Zcv.1 hr).2.1);refine Br.d (λ h2=>?_) (λ h2=>no2 λ hr=>h2 (Zcv.1 hr).2.2.1);refine ⟨c.kind,oA hw,Br.d (λ h3=>?_) (λ h3=>no2 λ hr=>h3 (Zcv.1 hr).2.2.2.1)⟩;refine ⟨c.kind,oA hw,Br.d (λ h4=>?_) (λ h4=>no2 λ hr=>h4 (Zcv.1 hr).2.2.2.2.1)⟩;refine ⟨c.time,oA hw,Br.d (λ h5=>?_) (λ h5=>no2 λ hr=>h5 (Zcv.1 hr).2.2.2.2.2.1)⟩;refine ⟨c.time,oA hw,?_,hw.drop.drop⟩
  congr 1
  refine decide_eq_decide.2 ?_;rw [Zcv,<-hL];exact ⟨λ h6=>⟨hall,h1,h2,h3,h4,h5,h6⟩,λ h6=>h6.2.2.2.2.2.2⟩
end
section
open Go Go.VC Tryz
variable {R:Cx} {Hs Rest:List HP} {w:World}
theorem Zcs {p b n:Nat} {xs bs:List Int} (hn:n=xs.length) (hxs:∀ x∈xs,x<9223372036854775808) (hl:bs.length + 9 * xs.length<=1099511627776) (hw:Sat R (pts b (.cells (Zg xs).toArray 3 (0,0))::WrB p bs::Hs) w):
  Zo prog 60 #[.pointer (some ⟨p,0,none⟩),.slice (some ⟨b,0,none⟩) n n] w λ v w'=>v=.tuple #[]/\Sat R (WrB p (bs++Zm (xs.map nn))::Hs) w':=by
 have hw:Sat R (Own ⟨some ⟨b,0,none⟩,n,n⟩ 3 (Zg xs)::WrB p bs::Hs) w:=Zc4 hw (by rw [List.length_map];exact hn);obtain ⟨R',hr,_,hw,back⟩:=Own.lendI hw (by omega);refine (Zip hxs hl hr hw).use ?_;rintro _ w ⟨rfl,hw⟩;exact ⟨_,rfl,rfl,(back hw).drop⟩
theorem ZkD {p:Nat} {s:ByteArray} {bs:List Int} {K:World->Prop} (hl:bs.length + s.size<=1099511627776) (hw:Sat R (WrB p bs::Hs) w) (k:∀ w',Sat R (WrB p (bs++Zqr s)::Hs) w'->K w'):
  ∃ w_1:World,∃ t:Sl,((convert 9 47 (.string s)).run prog w=.ok (.slice t.a t.len t.cap) w_1)/\
   Calls prog 63 #[.pointer (some ⟨p,0,none⟩),.slice t.a t.len t.cap] w_1 λ e w_2=>(e=.returned (.tuple #[]))/\K w_2:=by
 refine Zpz underlying9 underlying47 underlying5 hw λ t w hw=>?_;have hsz:=Zaj s;obtain ⟨R',hr,_,hw,back⟩:=Own.lend hw (by rw [List.length_map];omega);refine (Zio (by omega) (by omega) hr hw).use ?_;rintro _ w ⟨rfl,hw⟩;exact ⟨rfl,k _ (back hw).drop⟩
end
section
open Go Go.VC Tryz
open Classical
variable {R:Cx} {Hs Rest:List HP} {w:World}
theorem Znk {s:ByteArray} (h:s.size<=100000):(Zqr s).length<=s.size + 9:=by
 have:=ZaO (d:=ZY s) (by rw [Zaj];omega);rw [Zaj] at this;exact this
theorem Zbh (a:Int) (l:List Int):Zm (a::l)=Zm [a]++Zm l:=Zb7 a l
theorem nn1 {a:Int} (h:0<=a):Zm ([a].map nn)=Zm [a]:=by
 show Zm [nn a]=_;rw [Zcj h]
theorem Zos {p:Nat} {s:Sl} {xs bs:List Int} (hxs:∀ x∈xs,x<9223372036854775808) (hx:xs.length<=100000) (hl:bs.length<=1000000) (hs:RoI R s xs) (hw:Sat R (WrB p bs::Hs) w):
  Zo prog 218 #[.pointer (some ⟨p,0,none⟩),.slice s.a s.len s.cap] w λ v w'=>v=.tuple #[]/\Sat R (WrB p (bs++Zm [(xs.length:Int)]++Zm (xs.map nn))::Hs) w':=by
 have hlen:=hs.len;have l1:=Zw (x:=(xs.length:Int)) (by omega);apply ZxZ;refine Zb hw λ b w hw=>?_;refine (Zcs (xs:=[(s.len:Int)]) rfl (by simp;omega) (by simp only [List.length_cons,List.length_nil];omega) hw).use ?_;clear hw;rintro _ w ⟨rfl,hw⟩;refine ⟨rfl,?_⟩;rw [nn1 (by omega),show ((s.len:Nat):Int)=(xs.length:Int) by omega] at hw;refine (Zip hxs (by simp only [List.length_append];omega) hs hw).use ?_;rintro _ w ⟨rfl,hw⟩;exact ⟨rfl,rfl,hw⟩
end
section
open Go Go.VC Tryz
variable {R:Cx} {Hs Rest:List HP} {w:World}
theorem _root_.Go.VC.Ro.ixStr {xs:List ByteArray} {s:Sl} {S:World->Prop} {i:Int} (hr:Ro R s (xs.map Value.string)) (hS:∀ w,S w->Sat R Hs w) (j:Nat) (hi:i=j) (hj:j<xs.length) {F:ByteArray->Prop} (h:F xs[j]):
  Rng i s.len (Zd s.a λ a=>∃ t:ByteArray,(At S (a.add i.toNat) [.string t])/\F t):=by
 subst hi;obtain ⟨a,ha,hat⟩:=hr.addr (k:=j) (by rw [List.length_map];exact hj);have hl:=hr.len;rw [List.length_map] at hl;exact Rng.mk (by omega) (by omega) (Zd.mk ha ⟨_,by have:=hat hS;rw [List.getElem_map] at this;exact this,h⟩)
abbrev rpV (r:Rp) (sl sb:Sl):List Value:=[.int .i64 r.code,.string r.pnr,.int .i64 r.state,.int .i64 r.flt,.int .i64 r.cls,.int .i64 r.many,.int .i64 r.time,.slice sl.a sl.len sl.cap,.slice sb.a sb.len sb.cap]
abbrev rpC (b:Nat) (r:Rp) (sl sb:Sl):HP:=pts b (.cells (rpV r sl sb).toArray 33 (0,0))
structure RpW (r:Rp):Prop where
 ints:∀ x∈[r.code,r.state,r.flt,r.cls,r.many,r.time]++r.left,x<9223372036854775808
 pnr:r.pnr.size<=100000
 ll:r.left.length<=100000
 bl:r.labs.length<=100000
 labs:∀ s∈r.labs,s.size<=100000
theorem nn5 {a b c d e:Int}:Zm ([a,b,c,d,e].map nn)=Zm [nn a]++(Zm [nn b]++(Zm [nn c]++(Zm [nn d]++Zm [nn e]))):=by
 show Zm [nn a,nn b,nn c,nn d,nn e]=_;rw [Zbh (nn a),Zbh (nn b),Zbh (nn c),Zbh (nn d)]
set_option maxHeartbeats 1000000 in
theorem ZgD {r:Rp} {sl sb:Sl} (hi:RpW r) (hg:RoI R sl r.left) (hp:SlR R.m sb (r.labs.map Value.string)) (hw:Sat R Hs w):
  Zo prog 142 #[.agg #[.int .i64 r.code,.string r.pnr,.int .i64 r.state,.int .i64 r.flt,.int .i64 r.cls,.int .i64 r.many,.int .i64 r.time,.slice sl.a sl.len sl.cap,.slice sb.a sb.len sb.cap]] w λ v w'=>
   ∃ t:Sl,v=.slice t.a t.len t.cap/\Sat R (Own t 5 (b8 (rpB r))::Hs) w':=by
 have hplen:sb.len=r.labs.length:=by have:=hp.len;simpa using this
 have i1:=hi.ints;have i2:=hi.pnr;have i3:=hi.ll;have i4:=hi.bl;have q:∀ x∈[r.code,r.state,r.flt,r.cls,r.many,r.time]++r.left,0<=nn x/\nn x<18446744073709551616:=λ x hx=>by have:=Zo4 (i1 x hx);omega
 have l1:=Zw (q r.code (by simp));have l2:=Znk (s:=r.pnr) i2;have l3:=Zw (q r.state (by simp));have l4:=Zw (q r.flt (by simp));have l5:=Zw (q r.cls (by simp));have l6:=Zw (q r.many (by simp));have l7:=Zw (q r.time (by simp));have l10:=Zw (x:=(r.left.length:Int)) (by omega);have l11:=ZX (l:=r.left.map nn) λ y hy=>by obtain ⟨x,hx,rfl⟩:=List.mem_map.1 hy;exact q x (by simp [hx])
 rw [List.length_map] at l11;have l12:=Zw (x:=(r.labs.length:Int)) (by omega);apply ZyF;refine Zb hw λ b w hw=>?_;have hw:Sat R (rpC b r sl sb::Hs) w:=hw;refine Zb hw λ p w hw=>?_;have hw:Sat R (WrB p []::rpC b r sl sb::Hs) w:=Sat.wrB.2 ⟨⟨none,0,0⟩,(Own.nil hw).swap⟩;refine ⟨r.code,oA hw,?_⟩;refine Zb hw λ b15 w hw=>?_;refine (Zcs (xs:=[r.code]) rfl (λ x hx=>i1 x (by rw [List.mem_singleton.1 hx];simp)) (by simp) hw).use ?_;clear hw;rintro _ w ⟨rfl,hw⟩;refine ⟨rfl,?_⟩;rw [show [r.code].map nn=[nn r.code] from rfl,List.nil_append] at hw
 refine ⟨r.pnr,oA hw,?_⟩;refine ZkD (by omega) hw λ w hw=>?_;refine ⟨r.state,oA hw,r.flt,oA hw,r.cls,oA hw,r.many,oA hw,r.time,oA hw,?_⟩;refine Zb hw λ b31 w hw=>?_;refine (Zcs (xs:=[r.state,r.flt,r.cls,r.many,r.time]) rfl (λ x hx=>i1 x (by simp only [List.mem_cons,List.not_mem_nil,or_false] at hx;simp only [List.cons_append,List.mem_cons];rcases hx with h|h|h|h|h<;>simp [h])) (by simp only [List.length_append,List.length_cons,List.length_nil];omega) hw).use ?_;clear hw;rintro _ w ⟨rfl,hw⟩;refine ⟨rfl,?_⟩;rw [nn5] at hw;refine ⟨sl,oA hw,?_⟩;refine (Zos (xs:=r.left) (λ y hy=>i1 y (by simp [hy])) i3 (by simp only [List.length_append];omega) hg hw).use ?_;clear hw;rintro _ w ⟨rfl,hw⟩;refine ⟨rfl,?_⟩;refine ⟨sb,oA hw,?_⟩;refine Zb hw λ b57 w hw=>?_;refine (Zcs (xs:=[(sb.len:Int)]) rfl (by simp;omega) (by simp only [List.length_append,List.length_cons,List.length_nil];omega) hw).use ?_;clear hw;rintro _ w ⟨rfl,hw⟩;refine ⟨rfl,?_⟩;rw [nn1 (by omega),show ((sb.len:Nat):Int)=(r.labs.length:Int) by omega] at hw;refine ⟨sb,oA hw,?_⟩;obtain ⟨B,hBl,hB,hw⟩:∃ B:List Int,B.length<=2000000/\B++(r.labs.map Zqr).flatten=rpB r/\Sat R (WrB p B::rpC b r sl sb::Hs) w:=
  ⟨_,by simp only [List.length_append];omega,by unfold rpB;simp only [List.append_assoc],hw⟩
 refine ⟨λ i w=>∃ k:Nat,i=k/\k<=r.labs.length/\Sat R (WrB p (B++((r.labs.take k).map Zqr).flatten)::rpC b r sl sb::Hs) w,λ i _=>r.labs.length - i.toNat,⟨0,rfl,by omega,by simpa using hw⟩,?_⟩;clear hw;rintro _ _ w ⟨k,rfl,hk,hw⟩;refine Br.d (λ h=>?_) (λ h=>?_)
 ·have hkx:k<r.labs.length:=by omega
  have hfl:=ZbC (l:=r.labs.take k) (code:=Zqr) (m:=100009) λ x hx=>by have:=hi.labs x (List.mem_of_mem_take hx);have:=Znk this;omega
  rw [List.length_take] at hfl;have hsk:=hi.labs _ (List.getElem_mem hkx);refine Ro.ixStr (hp.ro (by rw [List.length_map];omega)) (eqS hw) k rfl hkx ?_;refine ZkD (by rw [List.length_append];omega) hw λ w hw=>?_;rw [Zl (by omega) (by omega)];refine ⟨⟨k + 1,by omega,by omega,?_⟩,by dsimp only;omega⟩;rw [List.take_add_one,List.getElem?_eq_getElem hkx,List.map_append,List.flatten_append,<-List.append_assoc];simpa using hw
 ·rw [List.take_of_length_le (l:=r.labs) (by omega),hB] at hw
  obtain ⟨s,hw⟩:=Sat.wrB.1 hw;refine ⟨s,oA hw,s,rfl,?_⟩;exact (hw.drop.swap).drop
end
section
open Go Go.VC Tryz
variable {R:Cx} {Hs Rest:List HP} {w:World}
theorem Zao {r:Nat} {rd:Rd} {most:Int} (hb:Zv rd.bs) (h0:0<=most) (h1:most<9223372036854775808) (hw:Sat R (ZC r rd::Hs) w):
  Zo prog 157 #[.agg #[.pointer (some ⟨r,0,none⟩)],.int .i64 most] w λ v w'=>v=.int .i64 (Zc most rd).1/\Sat R (ZC r (Zc most rd).2::Hs) w':=by
 have hv:=Zy hb h0;apply Zyx;refine Zb hw λ b w hw=>?_;refine ⟨_,oA hw,?_⟩;rw [Zax (by omega) (by omega)];refine (Zcu hb hw.drop).use ?_;rintro _ w ⟨rfl,hw⟩;refine ⟨_,rfl,?_,hw⟩;rw [Zl (by omega) (by omega)]
theorem Zh6 {r:Nat} {rd:Rd} {most:Int} (hb:Zv rd.bs) (hl:rd.bs.length<=1099511627776) (h1:most<9223372036854775808) (hw:Sat R (ZC r rd::Hs) w):
  Zo prog 214 #[.agg #[.pointer (some ⟨r,0,none⟩)],.int .i64 most] w λ v w'=>v=.string (Zbq most rd).1/\Sat R (ZC r (Zbq most rd).2::Hs) w':=by
 apply Zx3;refine Zb hw λ b w hw=>?_;refine ⟨_,oA hw,?_⟩;refine (ZbO h1 hl hb hw.drop).use ?_;rintro _ w ⟨t,rfl,hw⟩;have hlen:=ZbP (most:=most) (rd:=rd);obtain ⟨R',hr,_,hw2,back⟩:=Own.lend hw (by rw [List.length_map];omega);refine ⟨t,rfl,VC.strOf (ZL most rd).1,λ w' e=>?_,rfl,hw.drop⟩;rw [show w'=w from e]
 exact ZfJ underlying47 underlying5 underlying9 hw2 hr
theorem Zl1 {r:Nat} {rd:Rd} (hb:Zv rd.bs) (hw:Sat R (ZC r rd::Hs) w):
  Zo prog 215 #[.agg #[.pointer (some ⟨r,0,none⟩)]] w λ v w'=>v=.float .f64 (ZdD rd).1/\Sat R (ZC r (ZdD rd).2::Hs) w':=by
 have hv:=Zy (most:=18446744073709551615) hb (by omega);apply Zx2;refine Zb hw λ b w hw=>?_;refine ⟨_,oA hw,?_⟩;refine (Zcu hb hw.drop).use ?_;rintro _ w ⟨rfl,hw⟩;refine ⟨_,rfl,?_⟩;obtain ⟨n,hn⟩:=Int.eq_ofNat_of_zero_le hv.1;rw [hn];refine (Zrr (k:=n) (by omega) hw).use ?_;rintro _ w ⟨rfl,hw⟩;refine ⟨_,rfl,?_,hw⟩;show _=Value.float .f64 (ofF (Zc 18446744073709551615 rd).1.toNat);rw [hn,Int.toNat_natCast]
end
section
open Go Go.VC Tryz
variable {R:Cx} {Hs Rest:List HP} {w:World}
theorem Zme {r n:Nat} {rd:Rd} {f:Value} {one:Rd->Int × Rd} {I:Rd->Prop} (hI:∀ rd,I rd->I (one rd).2) (hn:n<=100000) (h0:I rd)
  (hone:∀ (T:HP) (rd:Rd) (w:World),I rd->Sat R (ZC r rd::T::Hs) w->Zak prog cl f [] w λ e w'=>e=.returned (.int .i64 (one rd).1)/\Sat R (ZC r (one rd).2::T::Hs) w')
  (hw:Sat R (ZC r rd::Hs) w):
  Zo prog 216 #[.int .i64 n,f] w λ v w'=>∃ t:Sl,v=.slice t.a t.len t.cap/\Sat R (Own t 3 (Zg (ZG one n rd).1)::ZC r (ZG one n rd).2::Hs) w':=by
 apply Zx1;have inv:∀ k,I (ZG one k rd).2:=λ k=>(Za9 (one:=one) (P:=I) (Q:=λ _=>True) (λ r hr=>⟨trivial,hI r hr⟩) k h0).2;refine ⟨λ out i w=>∃ k:Nat,i=k/\k<=n/\Sat R (Own out 3 (Zg (ZG one k rd).1)::ZC r (ZG one k rd).2::Hs) w,λ _ i _=>n - i.toNat,⟨0,rfl,by omega,Own.nil hw⟩,?_⟩;clear hw;rintro _ out _ w ⟨k,rfl,hk,hw⟩;refine Br.d (λ h=>?_) (λ h=>?_)
 ·refine (hone _ _ _ (inv k) hw.swap).mono ?_
  rintro _ w ⟨rfl,hw⟩;refine ⟨_,rfl,?_⟩;have hl:=Zbl one k rd;refine Zdg Ztt hw.swap (by rw [hl];omega) λ out' w hw=>?_;rw [Zl (by omega) (by omega)];refine ⟨⟨k + 1,by omega,by omega,?_⟩,by dsimp only;omega⟩;rw [ZbQ];exact hw
 ·have:k=n:=by omega
  subst this;exact ⟨out,rfl,hw⟩
end
section
open Go Go.VC Tryz
variable {R:Cx} {Hs Rest:List HP} {w:World}
theorem elFl:El prog 38 38 35 8:=⟨underlying38,⟨_,underlying38⟩,by kernel_rfl⟩
theorem Zrq (l:List Nat):Za0 (Zi3 l)=true:=by unfold Za0 Zi3;simp [Value.oneCell']
theorem Zmf {r n:Nat} {rd:Rd} {f:Value} {one:Rd->Nat × Rd} {I:Rd->Prop} (hI:∀ rd,I rd->I (one rd).2) (hn:n<=100000) (h0:I rd)
  (hone:∀ (T:HP) (rd:Rd) (w:World),I rd->Sat R (ZC r rd::T::Hs) w->Zak prog cl f [] w λ e w'=>e=.returned (.float .f64 (one rd).1)/\Sat R (ZC r (one rd).2::T::Hs) w')
  (hw:Sat R (ZC r rd::Hs) w):
  Zo prog 217 #[.int .i64 n,f] w λ v w'=>∃ t:Sl,v=.slice t.a t.len t.cap/\Sat R (Own t 35 (Zi3 (ZG one n rd).1)::ZC r (ZG one n rd).2::Hs) w':=by
 apply Zx0;have inv:∀ k,I (ZG one k rd).2:=λ k=>(Za9 (one:=one) (P:=I) (Q:=λ _=>True) (λ r hr=>⟨trivial,hI r hr⟩) k h0).2;refine ⟨λ out i w=>∃ k:Nat,i=k/\k<=n/\Sat R (Own out 35 (Zi3 (ZG one k rd).1)::ZC r (ZG one k rd).2::Hs) w,λ _ i _=>n - i.toNat,⟨0,rfl,by omega,Own.nil hw⟩,?_⟩;clear hw;rintro _ out _ w ⟨k,rfl,hk,hw⟩;refine Br.d (λ h=>?_) (λ h=>?_)
 ·refine (hone _ _ _ (inv k) hw.swap).mono ?_
  rintro _ w ⟨rfl,hw⟩;refine ⟨_,rfl,?_⟩;have hl:=Zbl one k rd;refine Zfk elFl hw.swap (Zrq _) rfl (by rw [List.length_map,hl];omega) (by rw [List.length_map,hl];omega) λ out' w hw=>?_;rw [Zl (by omega) (by omega)];refine ⟨⟨k + 1,by omega,by omega,?_⟩,by dsimp only;omega⟩;rw [ZbQ];simpa using hw
 ·have:k=n:=by omega
  subst this;exact ⟨out,rfl,hw⟩
end
end Go.Proofs.YtlplemdmegpoeaaGreatDoor


namespace Go.Proofs.YtlplemdmegpoeaaGreatDoor
section
open Go Go.VC Tryz
open Classical
variable {R:Cx} {Hs Rest:List HP} {w:World}
abbrev brC (b r:Nat):HP:=pts b (.cells [.pointer (some ⟨r,0,none⟩)].toArray 216 (0,0))
abbrev ZE:Sl:=⟨none,0,0⟩
abbrev ZaH (k:Int) (p:ByteArray) (f c m t:Int):Cm:=⟨k,p,f,c,m,t,0,ByteArray.mk #[],0,[],[]⟩
abbrev ZaC (b:Nat):HP:=cmC b (ZaH 0 (ByteArray.mk #[]) 0 0 0 0) ZE ZE
theorem Zc0 {b r:Nat} {rd:Rd} (hb:Zv rd.bs) (hw:Sat R (ZC r rd::brC b r::Hs) w):
  Zo prog 213 #[.pointer (some ⟨b,0,none⟩)] w λ v w'=>v=.int .i64 (Zc 9999 rd).1/\Sat R (ZC r (Zc 9999 rd).2::brC b r::Hs) w':=by
 apply Zx4;have hw2:Sat R (brC b r::ZC r rd::Hs) w:=hw.swap;refine Zd.mk rfl ⟨some ⟨r,0,none⟩,At.own (eqS hw2) (by exact ⟨rfl,trivial⟩),?_⟩;refine (Zao (most:=9999) hb (by omega) (by omega) hw).use ?_;rintro _ w ⟨rfl,hw⟩;exact ⟨_,rfl,rfl,hw⟩
theorem Zl6 {A B:HP} (hw:Sat R (A::B::Hs) w):Sat R [B,VC.tru] w:=hw.swap.restTru2
theorem ZvS {A B C:HP} (hw:Sat R (C::A::B::Hs) w):Sat R [B,VC.tru] w:=(hw.arr (Hs':=B::C::A::Hs)).restTru2
section
variable (S:World->Prop) (J:Option Addr->World->Prop) (b4 b:Nat) (r:Option Addr)
def dT6 (k:Int) (p:ByteArray) (f c m t:Int) (w:World):Prop:=
 ∃ w':World,((Instr.storeAt 40 (.pointer (some ⟨b,0,none⟩)) (.agg #[.int .i64 k,.string p,.int .i64 f,.int .i64 c,.int .i64 m,.int .i64 t,.float .f64 0,.string (ByteArray.mk #[]),.int .i64 0,.slice none 0 0,.slice none 0 0])).run prog w=.ok () w')/\J (some ⟨b,0,none⟩) w'
def dT5 (k:Int) (p:ByteArray) (f c m:Int) (w:World):Prop:=
 Calls prog 157 #[.agg #[.pointer r],.int .i64 1099511627776] w λ e w'=>∃ t:Int,(e=.returned (.int .i64 t))/\S w'/\dT6 J b k p f c m t w'
def dT4 (k:Int) (p:ByteArray) (f c:Int) (w:World):Prop:=
 Calls prog 213 #[.pointer (some ⟨b4,0,none⟩)] w λ e w'=>∃ t:Int,(e=.returned (.int .i64 t))/\S w'/\dT5 S J b r k p f c t w'
def dT3 (k:Int) (p:ByteArray) (f:Int) (w:World):Prop:=
 Calls prog 213 #[.pointer (some ⟨b4,0,none⟩)] w λ e w'=>∃ t:Int,(e=.returned (.int .i64 t))/\S w'/\dT4 S J b4 b r k p f t w'
def dT2 (k:Int) (p:ByteArray) (w:World):Prop:=
 Calls prog 213 #[.pointer (some ⟨b4,0,none⟩)] w λ e w'=>∃ t:Int,(e=.returned (.int .i64 t))/\S w'/\dT3 S J b4 b r k p t w'
def dT1 (k:Int) (w:World):Prop:=
 Calls prog 214 #[.agg #[.pointer r],.int .i64 16] w λ e w'=>∃ t:ByteArray,(e=.returned (.string t))/\S w'/\dT2 S J b4 b r k t w'
def dT0 (w:World):Prop:=
 Calls prog 157 #[.agg #[.pointer r],.int .i64 9] w λ e w'=>∃ t:Int,(e=.returned (.int .i64 t))/\S w'/\dT1 S J b4 b r t w'
end
section
variable {J:Option Addr->World->Prop} {b4 b r:Nat} {rd:Rd} {k f c m t:Int} {p:ByteArray}
theorem Zvv (hJ:∀ {w},Sat R (cmC b (ZaH k p f c m t) ZE ZE::ZC r rd::brC b4 r::Hs) w->J (some ⟨b,0,none⟩) w) (hw:Sat R (ZC r rd::brC b4 r::ZaC b::Hs) w):dT6 J b k p f c m t w:=by
 have hw:Sat R (ZaC b::ZC r rd::brC b4 r::Hs) w:=hw.arr;refine Za hw (by kernel_rfl) rfl (by simp [Value.cells]) λ w hw=>?_;exact hJ (hw.re (cmC b (ZaH k p f c m t) ZE ZE))
theorem Zvw (hb:Zv rd.bs) (hJ:∀ {w},Sat R (cmC b (ZaH k p f c m (Zc 1099511627776 rd).1) ZE ZE::ZC r (Zc 1099511627776 rd).2::brC b4 r::Hs) w->J (some ⟨b,0,none⟩) w)
  (hw:Sat R (ZC r rd::brC b4 r::ZaC b::Hs) w):dT5 (Sat R [brC b4 r,VC.tru]) J b (some ⟨r,0,none⟩) k p f c m w:=by
 refine (Zao (most:=1099511627776) hb (by omega) (by omega) hw).use ?_;rintro _ w ⟨rfl,hw⟩;exact ⟨_,rfl,Zl6 hw,Zvv hJ hw⟩
theorem Zvx (hb:Zv rd.bs) (hJ:∀ {w},Sat R (cmC b (ZaH k p f c (Zc 9999 rd).1 (Zc 1099511627776 (Zc 9999 rd).2).1) ZE ZE::ZC r (Zc 1099511627776 (Zc 9999 rd).2).2::brC b4 r::Hs) w->J (some ⟨b,0,none⟩) w)
  (hw:Sat R (ZC r rd::brC b4 r::ZaC b::Hs) w):dT4 (Sat R [brC b4 r,VC.tru]) J b4 b (some ⟨r,0,none⟩) k p f c w:=by
 refine (Zc0 hb hw).use ?_;rintro _ w ⟨rfl,hw⟩;exact ⟨_,rfl,Zl6 hw,Zvw (Ze hb) hJ hw⟩
theorem Zvy (hb:Zv rd.bs) (hJ:∀ {w},Sat R (cmC b (ZaH k p f (Zc 9999 rd).1 (Zc 9999 (Zc 9999 rd).2).1 (Zc 1099511627776 (Zc 9999 (Zc 9999 rd).2).2).1) ZE ZE::ZC r (Zc 1099511627776 (Zc 9999 (Zc 9999 rd).2).2).2::brC b4 r::Hs) w->J (some ⟨b,0,none⟩) w)
  (hw:Sat R (ZC r rd::brC b4 r::ZaC b::Hs) w):dT3 (Sat R [brC b4 r,VC.tru]) J b4 b (some ⟨r,0,none⟩) k p f w:=by
 refine (Zc0 hb hw).use ?_;rintro _ w ⟨rfl,hw⟩;exact ⟨_,rfl,Zl6 hw,Zvx (Ze hb) hJ hw⟩
theorem Zvz (hb:Zv rd.bs) (hJ:∀ {w},Sat R (cmC b (ZaH k p (Zc 9999 rd).1 (Zc 9999 (Zc 9999 rd).2).1 (Zc 9999 (Zc 9999 (Zc 9999 rd).2).2).1 (Zc 1099511627776 (Zc 9999 (Zc 9999 (Zc 9999 rd).2).2).2).1) ZE ZE::ZC r (Zc 1099511627776 (Zc 9999 (Zc 9999 (Zc 9999 rd).2).2).2).2::brC b4 r::Hs) w->J (some ⟨b,0,none⟩) w)
  (hw:Sat R (ZC r rd::brC b4 r::ZaC b::Hs) w):dT2 (Sat R [brC b4 r,VC.tru]) J b4 b (some ⟨r,0,none⟩) k p w:=by
 refine (Zc0 hb hw).use ?_;rintro _ w ⟨rfl,hw⟩;exact ⟨_,rfl,Zl6 hw,Zvy (Ze hb) hJ hw⟩
def hd2 (rd:Rd):(Int × Int × Int × Int) × Rd:=
 let f:=Zc 9999 rd
 let c:=Zc 9999 f.2
 let m:=Zc 9999 c.2
 let t:=Zc 1099511627776 m.2
 ((f.1,c.1,m.1,t.1),t.2)
abbrev JD (R:Cx) (Hs:List HP) (b4 r:Nat) (k:Int) (p:ByteArray) (x:(Int × Int × Int × Int) × Rd) (c6:Option Addr) (w:World):Prop:=
 ∃ b,c6=some ⟨b,0,none⟩/\Sat R (cmC b (ZaH k p x.1.1 x.1.2.1 x.1.2.2.1 x.1.2.2.2) ZE ZE::ZC r x.2::brC b4 r::Hs) w
theorem ZvA (hb:Zv rd.bs) (hl:rd.bs.length<=1099511627776) (hJ:∀ {w},Sat R (cmC b (ZaH k (Zbq 16 rd).1 (hd2 (Zbq 16 rd).2).1.1 (hd2 (Zbq 16 rd).2).1.2.1 (hd2 (Zbq 16 rd).2).1.2.2.1 (hd2 (Zbq 16 rd).2).1.2.2.2) ZE ZE::ZC r (hd2 (Zbq 16 rd).2).2::brC b4 r::Hs) w->J (some ⟨b,0,none⟩) w)
  (hw:Sat R (ZC r rd::brC b4 r::ZaC b::Hs) w):dT1 (Sat R [brC b4 r,VC.tru]) J b4 b (some ⟨r,0,none⟩) k w:=by
 refine (Zh6 (most:=16) hb hl (by omega) hw).use ?_;rintro _ w ⟨rfl,hw⟩;exact ⟨_,rfl,Zl6 hw,Zvz (Zef hb) hJ hw⟩
theorem ZzW (hb:Zv rd.bs) (hl:rd.bs.length<=1099511627776) (hJ:∀ {w},Sat R (cmC b (ZaH (Zc 9 rd).1 (Zbq 16 (Zc 9 rd).2).1 (hd2 (Zbq 16 (Zc 9 rd).2).2).1.1 (hd2 (Zbq 16 (Zc 9 rd).2).2).1.2.1 (hd2 (Zbq 16 (Zc 9 rd).2).2).1.2.2.1 (hd2 (Zbq 16 (Zc 9 rd).2).2).1.2.2.2) ZE ZE::ZC r (hd2 (Zbq 16 (Zc 9 rd).2).2).2::brC b4 r::Hs) w->J (some ⟨b,0,none⟩) w)
  (hw:Sat R (ZC r rd::brC b4 r::ZaC b::Hs) w):dT0 (Sat R [brC b4 r,VC.tru]) J b4 b (some ⟨r,0,none⟩) w:=by
 refine (Zao (most:=9) hb (by omega) (by omega) hw).use ?_;rintro _ w ⟨rfl,hw⟩;exact ⟨_,rfl,Zl6 hw,ZvA (Ze hb) (by have:=Z4 (most:=9) (rd:=rd);omega) hJ hw⟩
end
end
section
open Go Go.VC Tryz
open Classical
variable {R:Cx} {Hs Rest:List HP} {w:World}
theorem Zak.mkB {g:FuncId} {first captured:Array Value} {args:List Value} {Q:Ending->World->Prop} (hc:cl g=true) (h:Calls prog g (first.toList++(args++captured.toList)).toArray w Q):Zak prog cl (.func (.func g) first captured) args w Q:=by
 unfold Zak;simp only [hc];exact h
theorem Zak.mk1 {g:FuncId} {x:Value} {Q:Ending->World->Prop} (hc:cl g=true) (h:Calls prog g #[x] w Q):Zak prog cl (.func (.func g) #[x] #[]) [] w Q:=Zak.mkB hc (by
 have e:((#[x]:Array Value).toList++(([]:List Value)++(#[]:Array Value).toList)).toArray=#[x]:=rfl;rw [e];exact h)
def Zty:Cm:=ZaH 0 (ByteArray.mk #[]) 0 0 0 0
noncomputable def Zcc (bs:List Int):Cm × Int:=if Z5 (ZzZ ⟨bs,false⟩).2=true/\ZaJ (ZzZ ⟨bs,false⟩).1 then ((ZzZ ⟨bs,false⟩).1,0) else (Zty,6)
theorem ZkL {most:Int} {rd:Rd}:(Zbq most rd).2.bs.length<=rd.bs.length:=ZbP.2
theorem Zsi {rd:Rd}:(ZdD rd).2.bs.length<=rd.bs.length:=Z4
theorem Zvo {rd:Rd} (hb:Zv rd.bs):Zv (hd2 rd).2.bs:=Ze (Ze (Ze (Ze hb)))
theorem ZwG {rd:Rd}:(hd2 rd).2.bs.length<=rd.bs.length:=Nat.le_trans Z4 (Nat.le_trans Z4 (Nat.le_trans Z4 Z4))
theorem ZsI (r:Rd):ZzZ r=
 let k:=Zc 9 r
 let p:=Zbq 16 k.2
 let h:=hd2 p.2
 let s:=ZdD h.2
 let l:=Zbq 16 s.2
 let w:=Zc 9999 l.2
 let n:=Zc 16 w.2
 let g:=ZG (Zc 9999) n.1.toNat n.2
 let q:=Zc 16 g.2
 let x:=ZG ZdD q.1.toNat q.2
 (⟨k.1,p.1,h.1.1,h.1.2.1,h.1.2.2.1,h.1.2.2.2,s.1,l.1,w.1,g.1,x.1⟩,x.2):=rfl
set_option maxHeartbeats 1000000 in
theorem Ztb {s:Sl} {bs:List Int} (hb:Zv bs) (hl:bs.length<=1099511627776) (hs:Ro R s (b8 bs)) (hw:Sat R Hs w):
  Zo prog 141 #[.slice s.a s.len s.cap] w λ v w'=>∃ sg sp:Sl,v=.tuple #[.agg (cmV (Zcc bs).1 sg sp).toArray,.int .i64 (Zcc bs).2]/\Sat R (Own sg 3 (Zg (Zcc bs).1.grps)::Own sp 35 (Zi3 (Zcc bs).1.parts)::Hs) w':=by
 apply ZyG;have b0:Zv (⟨bs,false⟩:Rd).bs:=hb;have l0:(⟨bs,false⟩:Rd).bs.length<=1099511627776:=hl;have hcm:=ZsI ⟨bs,false⟩;obtain ⟨rd0,e0⟩:∃ rd:Rd,rd=⟨bs,false⟩:=⟨_,rfl⟩;rw [<-e0] at b0 l0 hcm;have b1:=Ze (most:=9) b0;have l1:(Zc 9 rd0).2.bs.length<=1099511627776:=Nat.le_trans Z4 l0;refine Zb hw λ b2 w hw=>?_;have hw:Sat R (ZaC b2::Hs) w:=hw;refine (Zdj hs hl hw).use ?_;clear hw;rintro _ w ⟨r,rfl,hw⟩;refine ⟨_,rfl,?_⟩;rw [<-e0] at hw;refine Zb hw λ b4 w hw=>?_;refine Za hw (by kernel_rfl) rfl (by simp [Value.cells]) λ w hw=>?_;have hw:Sat R (ZC r rd0::brC b4 r::ZaC b2::Hs) w:=hw.re (brC b4 r)|>.swap
 refine ⟨JD R (ZaC b2::Hs) b4 r (Zc 9 rd0).1 (Zbq 16 (Zc 9 rd0).2).1 (hd2 (Zbq 16 (Zc 9 rd0).2).2),?_,?_⟩
 ·refine ZA (Sat R [brC b4 r,VC.tru]) hw (λ w hw=>Zl6 hw) λ w hw=>?_
  clear hcm;refine ⟨_,At.own (λ _ h=>h) (by exact ⟨rfl,trivial⟩),_,At.own (λ _ h=>h) (by exact ⟨rfl,trivial⟩),_,At.own (λ _ h=>h) (by exact ⟨rfl,trivial⟩),?_⟩;refine ⟨?_,Zb hw λ b w hw=>⟨ZvS hw,ZzW b0 l0 (λ hw=>⟨b,rfl,hw⟩) (hw.arr (Hs':=ZC r rd0::brC b4 r::ZaC b::ZaC b2::Hs))⟩⟩;refine (Zao (most:=9) b0 (by omega) (by omega) hw).use ?_;clear hw;rintro _ w ⟨rfl,hw⟩;refine ⟨_,rfl,Zl6 hw,?_⟩;generalize (Zc 9 rd0).1=k at *;generalize (Zc 9 rd0).2=rd1 at *;refine ⟨?_,Zb hw λ b w hw=>⟨ZvS hw,ZvA b1 l1 (λ hw=>⟨b,rfl,hw⟩) (hw.arr (Hs':=ZC r rd1::brC b4 r::ZaC b::ZaC b2::Hs))⟩⟩;have b2':=Zef (most:=16) b1;refine (Zh6 (most:=16) b1 l1 (by omega) hw).use ?_;clear hw;rintro _ w ⟨rfl,hw⟩;refine ⟨_,rfl,Zl6 hw,?_⟩;generalize (Zbq 16 rd1).1=p at *;generalize (Zbq 16 rd1).2=rd2 at *;refine ⟨?_,Zb hw λ b w hw=>⟨ZvS hw,Zvz b2' (λ hw=>⟨b,rfl,hw⟩) (hw.arr (Hs':=ZC r rd2::brC b4 r::ZaC b::ZaC b2::Hs))⟩⟩;have b3:=Ze (most:=9999) b2';refine (Zc0 b2' hw).use ?_;clear hw;rintro _ w ⟨rfl,hw⟩;refine ⟨_,rfl,Zl6 hw,?_⟩;refine ⟨?_,Zb hw λ b w hw=>⟨ZvS hw,Zvy b3 (λ hw=>⟨b,rfl,hw⟩) (hw.arr (Hs':=ZC r _::brC b4 r::ZaC b::ZaC b2::Hs))⟩⟩;have b4':=Ze (most:=9999) b3;refine (Zc0 b3 hw).use ?_;clear hw;rintro _ w ⟨rfl,hw⟩;refine ⟨_,rfl,Zl6 hw,?_⟩;refine ⟨?_,Zb hw λ b w hw=>⟨ZvS hw,Zvx b4' (λ hw=>⟨b,rfl,hw⟩) (hw.arr (Hs':=ZC r _::brC b4 r::ZaC b::ZaC b2::Hs))⟩⟩;have b5:=Ze (most:=9999) b4';refine (Zc0 b4' hw).use ?_;clear hw;rintro _ w ⟨rfl,hw⟩;refine ⟨_,rfl,Zl6 hw,?_⟩;refine ⟨?_,Zb hw λ b w hw=>⟨ZvS hw,Zvw b5 (λ hw=>⟨b,rfl,hw⟩) (hw.arr (Hs':=ZC r _::brC b4 r::ZaC b::ZaC b2::Hs))⟩⟩;refine (Zao (most:=1099511627776) b5 (by omega) (by omega) hw).use ?_;clear hw;rintro _ w ⟨rfl,hw⟩;have hw:Sat R (ZC r (hd2 rd2).2::brC b4 r::ZaC b2::Hs) w:=hw;refine ⟨_,rfl,Zl6 hw,Zb hw λ b w hw=>⟨ZvS hw,Zvv (λ hw=>⟨b,rfl,hw⟩) (hw.arr (Hs':=ZC r _::brC b4 r::ZaC b::ZaC b2::Hs))⟩⟩
 clear hw;obtain ⟨k,rd1,e1⟩:∃ y rd,Zc 9 rd0=(y,rd):=⟨_,_,rfl⟩;rw [e1] at b1 l1 ⊢;dsimp only at b1 l1 ⊢;have b2':=Zef (most:=16) b1;have l2:(Zbq 16 rd1).2.bs.length<=1099511627776:=Nat.le_trans ZkL l1;obtain ⟨p,rd2,e2⟩:∃ y rd,Zbq 16 rd1=(y,rd):=⟨_,_,rfl⟩;rw [e2] at b2' l2 ⊢;dsimp only at b2' l2 ⊢;have b3:=Zvo b2';have l3:(hd2 rd2).2.bs.length<=1099511627776:=Nat.le_trans ZwG l2;obtain ⟨⟨f,c,m,t⟩,rd3,e3⟩:∃ y rd,hd2 rd2=(y,rd):=⟨_,_,rfl⟩;rw [e3] at b3 l3 ⊢;dsimp only at b3 l3 ⊢;rintro _ _ w ⟨b,rfl,hw⟩;have b4':=ZfE b3;have l4:(ZdD rd3).2.bs.length<=1099511627776:=Nat.le_trans Zsi l3;obtain ⟨sc,rd4,e4⟩:∃ y rd,ZdD rd3=(y,rd):=⟨_,_,rfl⟩;have hw:Sat R (ZC r rd3::brC b4 r::cmC b (ZaH k p f c m t) ZE ZE::ZaC b2::Hs) w:=hw.arr;refine ⟨some ⟨r,0,none⟩,oA hw,?_⟩;refine (Zl1 b3 hw).use ?_;clear hw;rintro _ w ⟨rfl,hw⟩;rw [e4] at b4' l4 hw ⊢;dsimp only at b4' l4 hw ⊢;refine ⟨_,rfl,Zd.mk rfl ?_⟩;refine Za hw (by kernel_rfl) rfl (by simp [Value.cells]) λ w hw=>?_;have hw:Sat R (ZC r rd4::brC b4 r::cmC b { ZaH k p f c m t with sc:=sc } ZE ZE::ZaC b2::Hs) w:=(hw.re (cmC b { ZaH k p f c m t with sc:=sc } ZE ZE)).arr;have b5:=Zef (most:=16) b4';have l5:(Zbq 16 rd4).2.bs.length<=1099511627776:=Nat.le_trans ZkL l4;obtain ⟨lab,rd5,e5⟩:∃ y rd,Zbq 16 rd4=(y,rd):=⟨_,_,rfl⟩;refine ⟨some ⟨r,0,none⟩,oA hw,?_⟩;refine (Zh6 (most:=16) b4' l4 (by omega) hw).use ?_;clear hw;rintro _ w ⟨rfl,hw⟩;rw [e5] at b5 l5 hw ⊢;dsimp only at b5 l5 hw ⊢;refine ⟨_,rfl,Zd.mk rfl ?_⟩;refine Za hw (by kernel_rfl) rfl (by simp [Value.cells]) λ w hw=>?_;have hw:Sat R (ZC r rd5::brC b4 r::cmC b { ZaH k p f c m t with sc:=sc,lab:=lab } ZE ZE::ZaC b2::Hs) w:=(hw.re (cmC b { ZaH k p f c m t with sc:=sc,lab:=lab } ZE ZE)).arr;have b6:=Ze (most:=9999) b5;have l6:(Zc 9999 rd5).2.bs.length<=1099511627776:=Nat.le_trans Z4 l5;obtain ⟨rows,rd6,e6⟩:∃ y rd,Zc 9999 rd5=(y,rd):=⟨_,_,rfl⟩;refine (Zc0 b5 hw).use ?_;clear hw;rintro _ w ⟨rfl,hw⟩;rw [e6] at b6 l6 hw ⊢;dsimp only at b6 l6 hw ⊢;refine ⟨_,rfl,Zd.mk rfl ?_⟩;refine Za hw (by kernel_rfl) rfl (by simp [Value.cells]) λ w hw=>?_;have hw:Sat R (ZC r rd6::brC b4 r::cmC b { ZaH k p f c m t with sc:=sc,lab:=lab,rows:=rows } ZE ZE::ZaC b2::Hs) w:=(hw.re (cmC b { ZaH k p f c m t with sc:=sc,lab:=lab,rows:=rows } ZE ZE)).arr;have b7:=Ze (most:=16) b6;have v7:=Zy (most:=16) b6 (by omega);obtain ⟨n7,rd7,e7⟩:∃ y rd,Zc 16 rd6=(y,rd):=⟨_,_,rfl⟩;refine ⟨some ⟨r,0,none⟩,oA hw,?_⟩;refine (Zao (most:=16) b6 (by omega) (by omega) hw).use ?_;clear hw;rintro _ w ⟨rfl,hw⟩;rw [e7] at b7 v7 hw ⊢;dsimp only at b7 v7 hw ⊢;refine ⟨_,rfl,?_⟩;obtain ⟨n,rfl⟩:=Int.eq_ofNat_of_zero_le v7.1;have b8':Zv (ZG (Zc 9999) n rd7).2.bs:=(Za9 (one:=Zc 9999) (P:=λ r=>Zv r.bs) (Q:=λ _=>True) (λ r hr=>⟨trivial,Ze hr⟩) n b7).2;refine (Zme (one:=Zc 9999) (I:=λ rd=>Zv rd.bs) (λ rd h=>Ze h) (by omega) b7 (λ T rd w hI hw=>Zak.mk (by kernel_rfl) ((Zc0 hI (hw.arr (Hs':=ZC r rd::brC b4 r::T::cmC b { ZaH k p f c m t with sc:=sc,lab:=lab,rows:=rows } ZE ZE::ZaC b2::Hs))).use λ v w h=>⟨by rw [h.1],h.2.arr⟩)) hw).use ?_;clear hw;rintro _ w ⟨sg,rfl,hw⟩;have gl:=Zbl (Zc 9999) n rd7;obtain ⟨gs,rd8,e8⟩:∃ y rd,ZG (Zc 9999) n rd7=(y,rd):=⟨_,_,rfl⟩;rw [e8] at gl b8' hw;dsimp only at gl b8' hw;refine ⟨sg,rfl,Zd.mk rfl ?_⟩;refine Za hw (by kernel_rfl) rfl (by simp [Value.cells]) λ w hw=>?_;have hw:Sat R (ZC r rd8::brC b4 r::Own sg 3 (Zg gs)::cmC b { ZaH k p f c m t with sc:=sc,lab:=lab,rows:=rows,grps:=gs } sg ZE::ZaC b2::Hs) w:=(hw.re (cmC b { ZaH k p f c m t with sc:=sc,lab:=lab,rows:=rows,grps:=gs } sg ZE)).arr;have b9:=Ze (most:=16) b8';have v9:=Zy (most:=16) b8' (by omega);obtain ⟨n9,rd9,e9⟩:∃ y rd,Zc 16 rd8=(y,rd):=⟨_,_,rfl⟩;refine ZA (Sat R [brC b4 r,VC.tru]) hw (λ w hw=>Zl6 hw) λ w hw=>?_;refine ⟨some ⟨r,0,none⟩,At.own (λ _ h=>h) (by exact ⟨rfl,trivial⟩),some ⟨r,0,none⟩,At.own (λ _ h=>h) (by exact ⟨rfl,trivial⟩),?_⟩;refine (Zao (most:=16) b8' (by omega) (by omega) hw).use ?_;clear hw;rintro _ w ⟨rfl,hw⟩;rw [e9] at b9 v9 hw ⊢;dsimp only at b9 v9 hw ⊢;refine ⟨_,rfl,Zl6 hw,?_⟩;obtain ⟨n',rfl⟩:=Int.eq_ofNat_of_zero_le v9.1;refine (Zmf (one:=ZdD) (I:=λ rd=>Zv rd.bs) (λ rd h=>ZfE h) (by omega) b9 (λ T rd w hI hw=>Zak.mk1 (by kernel_rfl) ((Zl1 hI hw).use λ v w h=>⟨by rw [h.1],h.2⟩)) hw).use ?_;clear hw;rintro _ w ⟨sp,rfl,hw⟩;have pl:=Zbl ZdD n' rd9;obtain ⟨ps,rd10,e10⟩:∃ y rd,ZG ZdD n' rd9=(y,rd):=⟨_,_,rfl⟩;rw [e10] at pl hw;dsimp only at pl hw;have hC:ZzZ rd0=({ ZaH k p f c m t with sc:=sc,lab:=lab,rows:=rows,grps:=gs,parts:=ps },rd10):=by
  rw [hcm];simp only [e1,e2,e3,e4,e5,e6,e7,e8,e9,e10,Int.toNat_natCast]
 clear hcm;rw [e0] at hC;have hdec:Zcc bs=if Z5 rd10=true/\ZaJ { ZaH k p f c m t with sc:=sc,lab:=lab,rows:=rows,grps:=gs,parts:=ps } then ({ ZaH k p f c m t with sc:=sc,lab:=lab,rows:=rows,grps:=gs,parts:=ps },0) else (Zty,6):=by unfold Zcc;rw [hC]
 obtain ⟨C,eC⟩:∃ C:Cm,C={ ZaH k p f c m t with sc:=sc,lab:=lab,rows:=rows,grps:=gs,parts:=ps }:=⟨_,rfl⟩;refine ⟨sp,rfl,(hw.arr (Hs':=ZC r rd10::brC b4 r::Own sp 35 (Zi3 ps)::Own sg 3 (Zg gs)::cmC b { ZaH k p f c m t with sc:=sc,lab:=lab,rows:=rows,grps:=gs } sg ZE::ZaC b2::Hs))|>Zl6,Zd.mk rfl ?_⟩;refine Za hw (by kernel_rfl) rfl (by simp [Value.cells]) λ w hw=>?_;have hw:=hw.re (cmC b { ZaH k p f c m t with sc:=sc,lab:=lab,rows:=rows,grps:=gs,parts:=ps } sg sp);rw [<-eC] at hdec hw;have eg:C.grps=gs:=by rw [eC]
 have ep:C.parts=ps:=by rw [eC]
 rw [<-eg] at hw gl;rw [<-ep] at hw pl;clear eC hC eg ep e1 e2 e3 e4 e5 e6 e7 e8 e9 e10 b0 b1 b2' b3 b4' b5 b6 b7 b8' b9 l0 l1 l2 l3 l4 l5 l6;have hw:Sat R (ZC r rd10::brC b4 r::cmC b C sg sp::Own sp 35 (Zi3 C.parts)::Own sg 3 (Zg C.grps)::ZaC b2::Hs) w:=hw.arr;refine ⟨some ⟨r,0,none⟩,oA hw,?_⟩;refine (ZbK hw).use ?_;clear hw;rintro _ w ⟨rfl,hw⟩;refine ⟨_,rfl,?_⟩;have no:Zcc bs=(Zty,6)->∀ {w},Sat R (ZaC b2::Hs) w->∃ sg sp:Sl,Value.tuple #[.agg (cmV Zty ZE ZE).toArray,.int .i64 6]=.tuple #[.agg (cmV (Zcc bs).1 sg sp).toArray,.int .i64 (Zcc bs).2]/\Sat R (Own sg 3 (Zg (Zcc bs).1.grps)::Own sp 35 (Zi3 (Zcc bs).1.parts)::Hs) w:=λ e {w} hw=>by
  rw [e];exact ⟨ZE,ZE,rfl,Own.nil (Own.nil hw.drop)⟩
 refine Br.nb (λ h=>?_) (λ h=>?_)
 ·have hw:Sat R (ZaC b2::Hs) w:=hw.drop.drop.drop.drop.drop
  refine Za hw (by kernel_rfl) rfl (by simp [Value.cells]) λ w hw=>?_;have hw:=hw.re (ZaC b2);refine ⟨_,_,_,_,_,_,_,_,_,ZE,ZE,At.own (eqS hw) (by exact ⟨rfl,rfl,rfl,rfl,rfl,rfl,rfl,rfl,rfl,rfl,rfl,trivial⟩),no ?_ hw⟩;rw [hdec,if_neg (by rintro ⟨h1,_⟩;rw [h1] at h;cases h)]
 refine Zd.mk rfl ⟨C.kind,C.pnr,C.flt,C.cls,C.many,C.time,C.sc,C.lab,C.rows,sg,sp,At.own (eqS hw) (by exact ⟨rfl,rfl,rfl,rfl,rfl,rfl,rfl,rfl,rfl,rfl,rfl,trivial⟩),?_⟩;have hw:Sat R (Own sg 3 (Zg C.grps)::ZC r rd10::brC b4 r::cmC b C sg sp::Own sp 35 (Zi3 C.parts)::ZaC b2::Hs) w:=hw.arr;have sl:=Own.len (hw.arr (Hs':=Own sp 35 (Zi3 C.parts)::Own sg 3 (Zg C.grps)::ZC r rd10::brC b4 r::cmC b C sg sp::ZaC b2::Hs));obtain ⟨R',hr,_,hw,back⟩:=Own.lendI hw (by omega);refine (Ze8 hr (by omega) (by simpa using sl) hw).use ?_;clear hw;rintro _ w ⟨rfl,hw⟩;have hw:=back hw;refine ⟨_,rfl,Br.nb (λ h2=>?_) (λ h2=>?_)⟩
 ·have hw:Sat R (ZaC b2::Hs) w:=hw.drop.drop.drop.drop.drop
  refine Za hw (by kernel_rfl) rfl (by simp [Value.cells]) λ w hw=>?_;have hw:=hw.re (ZaC b2);refine ⟨_,_,_,_,_,_,_,_,_,ZE,ZE,At.own (eqS hw) (by exact ⟨rfl,rfl,rfl,rfl,rfl,rfl,rfl,rfl,rfl,rfl,rfl,trivial⟩),no ?_ hw⟩;rw [hdec,if_neg (by rintro ⟨_,h1⟩;rw [decide_eq_true h1] at h2;cases h2)]
 refine Zd.mk rfl ⟨C.kind,C.pnr,C.flt,C.cls,C.many,C.time,C.sc,C.lab,C.rows,sg,sp,At.own (eqS hw) (by exact ⟨rfl,rfl,rfl,rfl,rfl,rfl,rfl,rfl,rfl,rfl,rfl,trivial⟩),?_⟩;have hw:Sat R (ZaC b2::Own sg 3 (Zg C.grps)::ZC r rd10::brC b4 r::cmC b C sg sp::Own sp 35 (Zi3 C.parts)::Hs) w:=hw.arr;refine Za hw (by kernel_rfl) rfl (by simp [Value.cells]) λ w hw=>?_;have hw:=hw.re (cmC b2 C sg sp);refine ⟨C.kind,C.pnr,C.flt,C.cls,C.many,C.time,C.sc,C.lab,C.rows,sg,sp,At.own (eqS hw) (by exact ⟨rfl,rfl,rfl,rfl,rfl,rfl,rfl,rfl,rfl,rfl,rfl,trivial⟩),?_⟩;rw [hdec,if_pos ⟨h,of_decide_eq_true h2⟩];exact ⟨sg,sp,rfl,hw.drop.cons λ _ h=>(h.arr (Hs':=Own sp 35 (Zi3 C.parts)::ZC r rd10::brC b4 r::cmC b C sg sp::Hs)).cons λ _ h=>h.drop.drop.drop⟩
end
section
open Go Go.VC Tryz
open Classical
variable {R:Cx} {Hs Rest:List HP} {w:World}
abbrev Zzt (k:Int) (p:ByteArray) (s f c m t:Int):Rp:=⟨k,p,s,f,c,m,t,[],[]⟩
abbrev Zq (b:Nat):HP:=rpC b (Zzt 0 (ByteArray.mk #[]) 0 0 0 0 0) ZE ZE
section
variable (S:World->Prop) (J:Option Addr->World->Prop) (b4 b:Nat) (r:Option Addr)
end
section
variable {J:Option Addr->World->Prop} {b4 b r:Nat} {rd:Rd} {k s f c m t:Int} {p:ByteArray}
end
end
end Go.Proofs.YtlplemdmegpoeaaGreatDoor

namespace Go.Proofs.YtlplemdmegpoeaaGreatDoor
section
open Go Go.VC Tryz
open Classical
variable {R:Cx} {Hs Rest:List HP} {w:World}
theorem ZAL {s t:Sl} {a b:List Int} {K:Sl->World->Prop} (hl:a.length + b.length<=1099511627776) (hw:Sat R (Own t 5 (b8 b)::Own s 5 (b8 a)::Hs) w)
  (k:∀ s2 w',Sat R (Own s2 5 (b8 (a++b))::Hs) w'->K s2 w'):
  ∃ w_1:World,∃ t2:Sl,((Builtin.append_ #[ 47,47 ] 47 #[.slice s.a s.len s.cap,.slice t.a t.len t.cap]).run prog w=.ok (.slice t2.a t2.len t2.cap) w_1)/\K t2 w_1:=
 ZfP Zvt (s:=s) (n:=1099511627776) underlying47 hw.swap (by omega) (by omega) (by omega) λ s2 w hw=>k s2 w (hw.swap.drop)
end
end Go.Proofs.YtlplemdmegpoeaaGreatDoor





namespace Go.Proofs.YtlplemdmegpoeaaGreatDoor
section
open Go Go.VC Tryz
open Classical
variable {R:Cx} {Hs Rest:List HP} {w:World}
def wtV (w:Wt):List Value:=[.int .i64 w.id,.int .i64 w.cls,.int .i64 w.many,.int .i64 w.time,.float .f64 w.sc]
abbrev ZaB (s:Sl):Obj:=.cells [.slice s.a s.len s.cap].toArray 190 (0,0)
def ZF (q:Nat) (l:List Wt):HP:=exs λ s:Sl=>ZaI [pts q (ZaB s),ZP 5 s 192 (l.map wtV)]
theorem Sat.qu {q:Nat} {l:List Wt}:Sat R (ZF q l::Hs) w↔∃ s:Sl,Sat R (pts q (ZaB s)::ZP 5 s 192 (l.map wtV)::Hs) w:=by
 unfold ZF;rw [Sat.exs];exact ⟨λ⟨s,h⟩=>⟨s,Sat.star.1 h⟩,λ⟨s,h⟩=>⟨s,Sat.star.2 h⟩⟩
abbrev FE:=Nat × Nat × Pl
abbrev BE:=Nat × Bk
def ZBM (e:FE):HP:=ZaI [Zf e.1 e.2.2.r,ZF e.2.1 e.2.2.q]
abbrev Zp (x:Bk):Obj:=.cells [.int .i64 x.id,.int .i64 x.flt,.int .i64 x.cls,.int .i64 x.many,.int .i64 x.state,.int .i64 x.till].toArray 121 (0,0)
def bkAt (e:BE):HP:=pts e.1 (Zp e.2)
def Zi (fs:List FE):HP:=ZaI (fs.map ZBM)
def Zk (xs:List BE):HP:=ZaI (xs.map bkAt)
def flV (e:FE):Int × Value:=(e.2.2.n,.agg #[.pointer (some ⟨e.1,0,none⟩),.pointer (some ⟨e.2.1,0,none⟩)])
def bkV (e:BE):Int × Value:=(e.2.id,.pointer (some ⟨e.1,0,none⟩))
abbrev Zh (b:ZR) (m1 m2:Nat):Obj:=.cells [.int .i64 b.now,.int .i64 b.next,.map (some m1),.map (some m2)].toArray 80 (0,0)
structure ZaQ (b:ZR) (fs:List FE) (xs:List BE):Prop where
 fl:(fs.map λ e=>e.2.2).Perm b.fl
 bk:xs.map (λ e=>e.2)=b.L
def Zj (p:Nat) (b:ZR):HP:=exs λ m1:Nat=>exs λ m2:Nat=>exs λ fs:List FE=>exs λ xs:List BE=>
 ZaI [pur (ZaQ b fs xs),pts p (Zh b m1 m2),MapAt m1 (fs.map flV),MapAt m2 (xs.map bkV),Zi fs,Zk xs]
theorem Sat.book {p:Nat} {b:ZR}:Sat R (Zj p b::Hs) w↔∃ m1 m2 fs xs,ZaQ b fs xs/\Sat R (pts p (Zh b m1 m2)::MapAt m1 (fs.map flV)::MapAt m2 (xs.map bkV)::Zi fs::Zk xs::Hs) w:=by
 unfold Zj;simp only [Sat.exs];constructor
 ·rintro ⟨m1,m2,fs,xs,h⟩
  obtain ⟨h1,h2⟩:=Sat.pur.1 (Sat.star.1 h);exact ⟨m1,m2,fs,xs,h1,h2⟩
 ·rintro ⟨m1,m2,fs,xs,h1,h2⟩
  exact ⟨m1,m2,fs,xs,Sat.star.2 (Sat.pur.2 ⟨h1,h2⟩)⟩
abbrev Ztq:Ztv prog 77 Int 3 97 (.agg #[.pointer none,.pointer none]):=⟨underlying77,underlying3,zeroValue97⟩
abbrev Zu7:Ztv prog 78 Int 3 86 (.pointer none):=⟨underlying78,underlying3,zeroValue86⟩
theorem Zi.snoc {fs:List FE} {f q:Nat} {p:Pl} (hw:Sat R (Zf f p.r::ZF q p.q::Zi fs::Hs) w):Sat R (Zi (fs++[(f,q,p)])::Hs) w:=by
 unfold Zi at hw ⊢;rw [Sat.star,List.map_append,List.append_assoc];have hw:Sat R (ZaI (fs.map ZBM)::Zf f p.r::ZF q p.q::Hs) w:=hw.arr;rw [Sat.star] at hw;have key:∀ (L:List HP) {R:Cx},Sat R (L++Zf f p.r::ZF q p.q::Hs) w->Sat R (L++(List.map ZBM [(f,q,p)]++Hs)) w:=λ L=>by
  induction L with
  |nil=>exact λ h=>Sat.star.2 h
  |cons A L ih=>exact λ h=>h.cons λ _ h=>ih h
 exact key _ hw
theorem Zd0 {β:Type} {k:Int}:∀ {l:List (Int × β)},ZD k l=none↔∀ e∈l,e.1≠k
 |[]=>⟨λ _ _ h=>(by cases h),λ _=>rfl⟩
 |e::l=>by
  rw [ZD];by_cases h:k=e.1
  ·rw [if_pos (by simpa using h)]
   exact ⟨λ h2=>(by cases h2),λ h2=>absurd h.symm (h2 e (by simp))⟩
  ·rw [if_neg (by simpa using h),Zd0]
   exact ⟨λ h2 x hx=>by
    rcases List.mem_cons.1 hx with h1|h1
    ·rw [h1];exact λ e=>h e.symm
    ·exact h2 x h1,λ h2 x hx=>h2 x (by simp [hx])⟩
theorem Zgg {b:ZR} {fs:List FE} {xs:List BE} (hl:ZaQ b fs xs) {n:Int}:ZD n (fs.map flV)=none↔b.at n=none:=by
 unfold ZR.at;rw [Zd0,ZdY];constructor
 ·intro h p hp
  obtain ⟨e,he,rfl⟩:=List.mem_map.1 (hl.fl.mem_iff.2 hp);exact h (flV e) (List.mem_map.2 ⟨e,he,rfl⟩)
 ·rintro h _ he
  obtain ⟨e,h1,rfl⟩:=List.mem_map.1 he;exact h e.2.2 (hl.fl.mem_iff.1 (List.mem_map.2 ⟨e,h1,rfl⟩))
theorem Zn6 {b:ZR} {fs:List FE} {xs:List BE} (hl:ZaQ b fs xs):fs.length=b.fl.length:=by
 have:=hl.fl.length_eq;rwa [List.length_map] at this
abbrev ZgB (e:Int):List PanicEntry:=[⟨.iface 29 (.int .i64 e),false,false⟩]
theorem ZbH {b:Bool} {e:Int} {Q:Ending->World->Prop} (h1:b=true->Q (.returned (.tuple #[])) w) (h2:b=false->Q (.panicked (ZgB e)) w):Calls prog 37 #[.bool b,.int .i64 e] w Q:=by
 have h:ZaV prog 37 #[.bool b,.int .i64 e] w (λ ch w'=>b=false/\ch=ZgB e/\w'=w) (λ v w'=>b=true/\v=.tuple #[]/\w'=w):=by
  apply ZAv;exact Br.nb (λ h=>⟨h,rfl,rfl⟩) (λ h=>⟨h,rfl,rfl⟩)
 refine h.use ?_ ?_
 ·rintro v w' ⟨hb,rfl,e⟩;rw [e];exact h1 hb
 ·rintro v w' ⟨hb,rfl,e⟩;rw [e];exact h2 hb
theorem Ze0 {e:Int} {Q:Ending->World->Prop} (h1:e=0->Q (.returned (.tuple #[])) w) (h2:¬ e=0->Q (.panicked (ZgB e)) w):Calls prog 99 #[.int .i64 e] w Q:=by
 have h:ZaV prog 99 #[.int .i64 e] w (λ ch w'=>¬ e=0/\ch=ZgB e/\w'=w) (λ v w'=>e=0/\v=.tuple #[]/\w'=w):=by
  apply Zz1;exact Br.ne (λ h=>⟨h,rfl,rfl⟩) (λ h=>⟨h,rfl,rfl⟩)
 refine h.use ?_ ?_
 ·rintro v w' ⟨hb,rfl,e⟩;rw [e];exact h1 hb
 ·rintro v w' ⟨hb,rfl,e⟩;rw [e];exact h2 hb
theorem Zxf {r:Nat} {x:Rp} {sl sb:Sl} {e:Int} {Kr:World->Prop} (hw:Sat R (rpC r x sl sb::Hs) w) (k:∀ w,Sat R (rpC r (Zbn e) ZE ZE::Hs) w->Kr w):
  Zs prog 36 [.pointer (some ⟨r,0,none⟩)] (.panicking (ZgB e)) Kr w:=by
 unfold Zs;refine CallsD.mono (Zxh (some ⟨r,0,none⟩) (.iface 29 (.int .i64 e)) Kr w ?_) ?_
 ·refine ⟨true,λ w' _=>by kernel_rfl,Br.t rfl ?_⟩
  refine ⟨e,λ w' _=>by kernel_rfl,Zd.mk rfl ?_⟩;refine Za hw (by kernel_rfl) rfl (by simp [Value.cells]) λ w hw=>?_;exact k w (hw.re (rpC r (Zbn e) ZE ZE))
 ·rintro e v w' ⟨hy,rfl,hk⟩
  exact ⟨hy,rfl,hk⟩
theorem ZsN {r:Nat} {Kr:World->Prop} (k:Kr w):Zs prog 36 [.pointer (some ⟨r,0,none⟩)] .returning Kr w:=by
 unfold Zs;refine CallsD.mono (Zxg (some ⟨r,0,none⟩) Kr w ?_) ?_
 ·exact ⟨false,λ w' _=>by kernel_rfl,Br.f rfl k⟩
 ·rintro e v w' ⟨hy,rfl,hk⟩
  exact ⟨hy,rfl,hk⟩
theorem Zk9 (hw:Sat R Hs w):Zo prog 100 #[] w λ v w'=>∃ q,v=.pointer (some ⟨q,0,none⟩)/\Sat R (ZF q []::Hs) w':=by
 apply ZyY;refine Zb hw λ q w hw=>⟨q,rfl,Sat.qu.2 ⟨ZE,?_⟩⟩;exact (ZP.nil hw).swap
theorem ZlY (hw:Sat R Hs w):Zo prog 10 #[] w λ v w'=>∃ p,v=.pointer (some ⟨p,0,none⟩)/\Sat R (Zj p Z3::Hs) w':=by
 apply ZAH;refine Zb hw λ m1 w hw=>?_;have hw:=MapAt.new (α:=Int) rfl hw;refine Zb hw λ m2 w hw=>?_;have hw:=MapAt.new (α:=Int) rfl hw;refine Zb hw λ p w hw=>⟨p,rfl,Sat.book.2 ⟨m1,m2,[],[],⟨List.Perm.refl _,rfl⟩,?_⟩⟩;have hw:Sat R (pts p (Zh Z3 m1 m2)::MapAt (α:=Int) m2 []::MapAt (α:=Int) m1 []::Hs) w:=hw;have hw:Sat R (pts p (Zh Z3 m1 m2)::MapAt (α:=Int) m1 []::MapAt (α:=Int) m2 []::Hs) w:=hw.arr;exact hw.cons λ _ h=>h.cons λ _ h=>h.cons λ _ h=>Sat.star.2 (Sat.star.2 h)
end
section
open Go Go.VC Tryz
open Classical
variable {R:Cx} {Hs Rest:List HP} {w:World}
abbrev ZjD (c:Cm):Rp:=⟨0,emS,0,c.flt,0,0,0,Zr (Zmp c.flt c.rows c.grps (Zac (Za5 c.rows c.grps) c.parts).1),[]⟩
set_option maxHeartbeats 1000000 in
theorem ZpG {p:Nat} {b:ZR} {c:Cm} {sg sp:Sl} (hfl:b.fl.length<=1000000) (hg:RoI R sg c.grps) (hp:SlR R.m sp (Zi3 c.parts)) (hw:Sat R (Zj p b::Hs) w):
  ZaV prog 39 #[.pointer (some ⟨p,0,none⟩),.agg #[.int .i64 c.kind,.string c.pnr,.int .i64 c.flt,.int .i64 c.cls,.int .i64 c.many,.int .i64 c.time,.float .f64 c.sc,.string c.lab,.int .i64 c.rows,.slice sg.a sg.len sg.cap,.slice sp.a sp.len sp.cap]] w
   (λ ch w'=>∃ e,ch=ZgB e/\ZdK b c=(b,Zbn e)/\Sat R (Zj p b::Hs) w')
   (λ v w'=>(ZdK b c).2=ZjD c/\∃ sl:Sl,v=.agg (rpV (ZjD c) sl ZE).toArray/\Sat R (Own sl 3 (Zg (ZjD c).left)::Zj p (ZdK b c).1::Hs) w'):=by
 apply ZAt
 suffices H:∀ (X:List PanicEntry->World->Prop) (K:Value->World->Prop),(∀ e w',ZdK b c=(b,Zbn e)->Sat R (Zj p b::Hs) w'->X (ZgB e) w')->
   (∀ sl w',(ZdK b c).2=ZjD c->Sat R (Own sl 3 (Zg (ZjD c).left)::Zj p (ZdK b c).1::Hs) w'->K (.agg (rpV (ZjD c) sl ZE).toArray) w')->B39 (some ⟨p,0,none⟩) c.kind c.pnr c.flt c.cls c.many c.time c.sc c.lab c.rows sg sp X K w from
  H _ _ (λ e w' h1 h2=>⟨e,rfl,h1,h2⟩) (λ sl w' h1 h2=>⟨h1,sl,rfl,h2⟩)
 intro X K hX hK;obtain ⟨m1,m2,fs,xs,hl,hw⟩:=Sat.book.1 hw;have hlen:=Zn6 hl;refine Zb hw λ b3 w hw=>Zb hw λ b4 w hw=>?_;have hw:Sat R (MapAt m1 (fs.map flV)::pts p (Zh b m1 m2)::cmC b3 c sg sp::Zq b4::MapAt m2 (xs.map bkV)::Zi fs::Zk xs::Hs) w:=by
  have hw:Sat R (Zq b4::cmC b3 c sg sp::pts p (Zh b m1 m2)::MapAt m1 (fs.map flV)::MapAt m2 (xs.map bkV)::Zi fs::Zk xs::Hs) w:=hw;exact hw.arr
 have close:∀ {w},Sat R (MapAt m1 (fs.map flV)::pts p (Zh b m1 m2)::cmC b3 c sg sp::Zq b4::MapAt m2 (xs.map bkV)::Zi fs::Zk xs::Hs) w->Sat R (Zj p b::Hs) w:=λ {w} hw=>by
  have hw:Sat R (cmC b3 c sg sp::Zq b4::pts p (Zh b m1 m2)::MapAt m1 (fs.map flV)::MapAt m2 (xs.map bkV)::Zi fs::Zk xs::Hs) w:=hw.arr;exact Sat.book.2 ⟨m1,m2,fs,xs,hl,hw.drop.drop⟩
 refine Zbf hw λ w hw=>?_;refine Zd.mk rfl ⟨some m1,At.own (λ _ h=>h) (by exact ⟨rfl,trivial⟩),c.flt,At.own (λ _ h=>h) (by exact ⟨rfl,trivial⟩),?_⟩;have look:∀ w',Sat R (VC.tru::MapAt m1 (fs.map flV)::pts p (Zh b m1 m2)::cmC b3 c sg sp::Zq b4::MapAt m2 (xs.map bkV)::Zi fs::Zk xs::Hs) w'->
   (Instr.lookup 77 (.map (some m1)) (.int .i64 c.flt) true).run prog w'=.ok (.tuple #[(ZD c.flt (fs.map flV)).getD (.agg #[.pointer none,.pointer none]),.bool (ZD c.flt (fs.map flV)).isSome]) w':=λ w' h=>
  MapAt.look Ztq h.swap c.flt true
 obtain ⟨v1,v2,hv⟩:∃ v1 v2:Option Addr,(ZD c.flt (fs.map flV)).getD (.agg #[.pointer none,.pointer none])=.agg #[.pointer v1,.pointer v2]:=by
  cases hgm:ZD c.flt (fs.map flV) with
  |none=>exact ⟨none,none,rfl⟩
  |some v=>
   obtain ⟨A,C,e,_⟩:=Zar hgm;have:(c.flt,v)∈fs.map flV:=by rw [e];simp
   obtain ⟨x,_,hx⟩:=List.mem_map.1 this;have hx2:=congrArg Prod.snd hx;exact ⟨_,_,hx2.symm⟩
 rw [hv] at look;refine ⟨v1,v2,_,look,?_⟩;refine Zb hw λ b5 w hw=>⟨hw.absorb,?_⟩;refine Za hw (by kernel_rfl) rfl (by simp [Value.cells]) λ w hw=>?_;have hw:=hw.drop.drop;have hat:=Zgg hl (n:=c.flt);refine ZbH (λ hn=>.inl ⟨rfl,?_⟩) (λ hn=>.inr ⟨_,rfl,hX 7 w ?_ (close hw)⟩)
 rotate_left
 ·unfold ZdK
  rw [if_pos];cases hba:b.at c.flt with
  |none=>rw [hat.2 hba] at hn;cases hn
  |some _=>rfl
 have hno:ZD c.flt (fs.map flV)=none:=by
  cases hgm:ZD c.flt (fs.map flV) with
  |none=>rfl
  |some v=>rw [hgm] at hn;cases hn
 have hba:=hat.1 hno;have o1:¬ (b.at c.flt).isSome=true:=by rw [hba];simp
 refine Zd.mk rfl ⟨some m1,oA hw,((fs.map flV).length:Int),λ w' e=>?_,?_⟩
 ·rw [show w'=w from e]
  exact MapAt.len (by kernel_rfl) hw
 rw [List.length_map,hlen];refine ZbH (λ hn8=>.inl ⟨rfl,?_⟩) (λ hn8=>.inr ⟨_,rfl,hX 3 w ?_ (close hw)⟩)
 rotate_left
 ·have:=of_decide_eq_false hn8
  unfold ZdK;rw [if_neg o1,if_pos (by omega)]
 have h8:=of_decide_eq_true hn8;have o2:¬ 8<=b.fl.length:=by omega
 refine ⟨c.flt,oA hw,c.rows,sg,At.own (eqS hw) (by exact ⟨rfl,rfl,trivial⟩),sp,oA hw,?_⟩;refine (Zpp hg hp hw).use ?_;clear hw;rintro _ w (⟨hn,rfl,hw⟩|⟨hn,f,rfl,hw⟩)
 ·refine .inl ⟨none,1,rfl,Ze0 (λ h=>by cases h) (λ _=>.inr ⟨_,rfl,hX 1 w ?_ (close hw)⟩)⟩
  unfold ZdK;rw [if_neg o1,if_neg o2,if_pos hn]
 have hopen:ZdK b c=({ b with fl:=ZpW Pl.n ⟨Zmp c.flt c.rows c.grps (Zac (Za5 c.rows c.grps) c.parts).1,[]⟩ b.fl },ZjD c):=by
  unfold ZdK;rw [if_neg o1,if_neg o2,if_neg (λ h=>h hn)]
 obtain ⟨r,hr⟩:∃ r,r=Zmp c.flt c.rows c.grps (Zac (Za5 c.rows c.grps) c.parts).1:=⟨_,rfl⟩;have hw:Sat R (Zf f r::MapAt m1 (fs.map flV)::pts p (Zh b m1 m2)::cmC b3 c sg sp::Zq b4::MapAt m2 (xs.map bkV)::Zi fs::Zk xs::Hs) w:=by
  rw [hr];exact Sat.lone.2 ⟨_,⟨Zqf,Zj3 hn⟩,hw⟩
 rw [<-hr] at hopen;refine .inl ⟨some ⟨f,0,none⟩,0,rfl,Ze0 (λ _=>.inl ⟨rfl,?_⟩) (λ h=>absurd rfl h)⟩;refine ZA (Sat R [cmC b3 c sg sp,pts p (Zh b m1 m2),VC.tru]) hw (λ w hw=>?_) λ w hw=>?_
 ·exact (hw.arr (Hs':=cmC b3 c sg sp::pts p (Zh b m1 m2)::Zf f r::MapAt m1 (fs.map flV)::Zq b4::MapAt m2 (xs.map bkV)::Zi fs::Zk xs::Hs)).cons λ _ h=>h.restTru2
 refine Zd.mk rfl ⟨some m1,At.own (λ _ h=>h) (by exact ⟨rfl,trivial⟩),c.flt,At.own (λ _ h=>h) (by exact ⟨rfl,trivial⟩),?_⟩;refine (Zk9 hw).use ?_;clear hw;rintro _ w ⟨q,rfl,hw⟩;refine .inl ⟨_,rfl,?_,?_⟩
 ·exact (hw.arr (Hs':=cmC b3 c sg sp::pts p (Zh b m1 m2)::ZF q []::Zf f r::MapAt m1 (fs.map flV)::Zq b4::MapAt m2 (xs.map bkV)::Zi fs::Zk xs::Hs)).cons λ _ h=>h.restTru2
 have hw:Sat R (MapAt m1 (fs.map flV)::Zf f r::ZF q []::Zi fs::pts p (Zh b m1 m2)::cmC b3 c sg sp::Zq b4::MapAt m2 (xs.map bkV)::Zk xs::Hs) w:=hw.arr;refine MapAt.put Ztq hw c.flt (.agg #[.pointer (some ⟨f,0,none⟩),.pointer (some ⟨q,0,none⟩)]) λ w hw=>?_;have hput:Zci c.flt (.agg #[.pointer (some ⟨f,0,none⟩),.pointer (some ⟨q,0,none⟩)]) (fs.map flV)=(fs++[((f,q,⟨r,[]⟩):FE)]).map flV:=by
  unfold Zci;rw [hno];have:r.num=c.flt:=by rw [hr];rfl
  simp only [Option.isSome_none,Bool.false_eq_true,if_false,List.map_append,List.map_cons,List.map_nil,flV,Pl.n,this]
 rw [hput] at hw;refine ZA (Sat R [cmC b3 c sg sp,VC.tru]) hw (λ w hw=>?_) λ w hw=>?_
 ·exact (hw.arr (Hs':=cmC b3 c sg sp::MapAt m1 ((fs++[((f,q,⟨r,[]⟩):FE)]).map flV)::Zf f r::ZF q []::Zi fs::pts p (Zh b m1 m2)::Zq b4::MapAt m2 (xs.map bkV)::Zk xs::Hs)).restTru2
 refine ⟨c.flt,At.own (λ _ h=>h) (by exact ⟨rfl,trivial⟩),?_⟩;have hw:Sat R (Zf f r::MapAt m1 ((fs++[((f,q,⟨r,[]⟩):FE)]).map flV)::ZF q []::Zi fs::pts p (Zh b m1 m2)::cmC b3 c sg sp::Zq b4::MapAt m2 (xs.map bkV)::Zk xs::Hs) w:=hw.swap;refine (Zb8 hw).use ?_;clear hw;rintro _ w ⟨sl,rfl,hw⟩;refine .inl ⟨sl,rfl,?_,?_⟩
 ·exact (hw.arr (Hs':=cmC b3 c sg sp::Own sl 3 (Zg (Zr r))::Zf f r::MapAt m1 ((fs++[((f,q,⟨r,[]⟩):FE)]).map flV)::ZF q []::Zi fs::pts p (Zh b m1 m2)::Zq b4::MapAt m2 (xs.map bkV)::Zk xs::Hs)).restTru2
 refine Za hw (by kernel_rfl) rfl (by simp [Value.cells]) λ w hw=>?_;have hw:=hw.re (rpC b4 (ZjD c) sl ZE);refine ⟨0,emS,0,c.flt,0,0,0,sl,ZE,At.own (eqS hw) (by exact ⟨rfl,rfl,rfl,rfl,rfl,rfl,rfl,rfl,rfl,trivial⟩),?_⟩;have hw:Sat R (Own sl 3 (Zg (Zr r))::pts p (Zh b m1 m2)::MapAt m1 ((fs++[((f,q,⟨r,[]⟩):FE)]).map flV)::MapAt m2 (xs.map bkV)::Zf f r::ZF q []::Zi fs::Zk xs::rpC b4 (ZjD c) sl ZE::cmC b3 c sg sp::Hs) w:=hw.arr;refine hK sl w (by rw [hopen]) ?_;rw [hopen];dsimp only;rw [<-hr];refine hw.cons λ _ hw=>Sat.book.2 ⟨m1,m2,fs++[((f,q,⟨r,[]⟩):FE)],xs,⟨?_,hl.bk⟩,?_⟩
 ·rw [List.map_append]
  refine (List.perm_append_singleton _ _).trans (List.Perm.trans (hl.fl.cons _) Zly.symm)
 ·refine hw.cons λ _ h=>h.cons λ _ h=>h.cons λ _ h=>?_
  exact (Zi.snoc h).cons λ _ h=>h.cons λ _ h=>h.drop.drop
end
end Go.Proofs.YtlplemdmegpoeaaGreatDoor

namespace Go.Proofs.YtlplemdmegpoeaaGreatDoor
section
open Go Go.VC Tryz
open Classical
variable {R:Cx} {Hs Rest:List HP} {w:World}
theorem Zoj {bs:List Int} (hb:Zv bs):FltC (Zcc bs).1/\(Zcc bs).1.grps.length<=16/\(Zcc bs).1.parts.length<=16:=by
 unfold Zcc;split
 ·rename_i h
  refine ⟨?_,h.2.gl,h.2.pl⟩;have b1:=Ze (most:=9) (rd:=⟨bs,false⟩) hb;have b2:=Zef (most:=16) b1;have b3:=Zvo b2;have b4:=ZfE b3;have b5:=Zef (most:=16) b4;have b6:=Ze (most:=9999) b5;have b7:=Ze (most:=16) b6;have b8:=(Za9 (one:=Zc 9999) (P:=λ r=>Zv r.bs) (Q:=λ _=>True) (λ r hr=>⟨trivial,Ze hr⟩) (Zc 16 (Zc 9999 (Zbq 16 (ZdD (hd2 (Zbq 16 (Zc 9 ⟨bs,false⟩).2).2).2).2).2).2).1.toNat b7).2;have b9:=Ze (most:=16) b8;rw [ZsI];exact ⟨Zj9 b3,(Za9 (one:=ZdD) (P:=λ r=>Zv r.bs) (Q:=λ x=>x<18446744073709551616) (λ r hr=>⟨Zj9 hr,ZfE hr⟩) _ b9).1⟩
 ·exact ⟨⟨by show 0<18446744073709551616;omega,λ x hx=>by cases hx⟩,by show 0<=16;omega,by show 0<=16;omega⟩
end
end Go.Proofs.YtlplemdmegpoeaaGreatDoor

namespace Go.VC
section
open Go.ChangeShapes Go.WideShapes Go.ChangeAt Go.RowKit
theorem Zu6 {W W':World} {Hs:List HP} (h:Sat (Cx.of W) Hs W'):Below W.heap.size W W':=by
 obtain ⟨h1,h2,h3⟩:=h.streams;have hb:∀ k,k<W.heap.size->W'.heap[k]? =W.heap[k]?:=λ k hk=>by
  have:(Cx.of W).m k=some W.heap[k]:=by simp [Cx.of,hk]
  rw [h.of_ro this];simp [hk]
 refine ⟨h1,h2,h3,?_,hb⟩;rcases Nat.lt_or_ge W'.heap.size W.heap.size with hl|hl
 ·have:=hb W'.heap.size hl
  rw [Array.getElem?_eq_none (Nat.le_refl _)] at this;simp [hl] at this
 ·exact hl
theorem Zkr {w:World} {a:Addr} {v:Value} (h:w.cell? a=some v):a.spot=none/\∃ l T fr,w.heap[a.block]? =some (.cells l T fr)/\l[a.off]? =some v:=by
 unfold World.cell? at h;split at h
 ·rename_i c T fr hb
  split at h
  ·cases h
  ·rename_i hs
   exact ⟨by simpa using hs,c,T,fr,hb,h⟩
 ·cases h
section
variable {H:Type} {enc:TypeId × Value->H} {P:Program} {W:World} {base:Nat} {spare:Nat->Bool} {held:Bool}
end
end
end Go.VC

namespace Go.VC
section
open Go.ChangeShapes Go.WideShapes Go.ChangeAt Go.RowKit
inductive Tr where
 |int (k:IntKind) (n:Int)|bool (b:Bool)|flt (n:Nat)|str (s:ByteArray)|sl (s:Sl) (xs:List Tr)|st (xs:List Tr)
mutual
def Tr.cells:Tr->List Value
 | .int k n=>[.int k n]
 | .bool b=>[.bool b]
 | .flt n=>[.float .f64 n]
 | .str s=>[.string s]
 | .sl s _=>[.slice s.a s.len s.cap]
 | .st xs=>Tr.cellsL xs
def Tr.cellsL:List Tr->List Value
 |[]=>[]
 |x::xs=>x.cells++Tr.cellsL xs
end
inductive U where
 |int (k:IntKind)|bool|flt|str|sl (u:U)|st (us:List U)
mutual
def U.size:U->Nat
 | .st us=>U.sizeL us
 |_=>1
def U.sizeL:List U->Nat
 |[]=>0
 |u::us=>u.size + U.sizeL us
end
mutual
def Tr.Ok (R:Cx):U->Tr->Prop
 | .int k,.int k' n=>k'=k/\(Lit.int k n).wf=true
 | .bool,.bool _=>True
 | .flt,.flt n=>(Lit.float .f64 n).wf=true
 | .str,.str s=>s.size<=maxLen
 | .sl u,.sl s xs=>(RoN u.size R s (xs.map Tr.cells)/\s.len<=s.cap)/\xs.length<=maxLen/\Tr.OkA R u xs
 | .st us,.st xs=>Tr.OkL R us xs
 |_,_=>False
def Tr.OkA (R:Cx) (u:U):List Tr->Prop
 |[]=>True
 |x::xs=>Tr.Ok R u x/\Tr.OkA R u xs
def Tr.OkL (R:Cx):List U->List Tr->Prop
 |[],[]=>True
 |u::us,x::xs=>Tr.Ok R u x/\Tr.OkL R us xs
 |_,_=>False
end
theorem Tr.okA {R:Cx} {u:U}:∀ {xs:List Tr},Tr.OkA R u xs->∀ x∈xs,Tr.Ok R u x
 |[],_,x,hx=>by cases hx
 |y::ys,h,x,hx=>by
  unfold Tr.OkA at h;rcases List.mem_cons.1 hx with rfl|hx
  ·exact h.1
  ·exact Tr.okA h.2 x hx
theorem Tr.okA_mk {R:Cx} {u:U}:∀ {xs:List Tr},(∀ x∈xs,Tr.Ok R u x)->Tr.OkA R u xs
 |[],_=>by unfold Tr.OkA;trivial
 |y::ys,h=>by
  unfold Tr.OkA;exact ⟨h y List.mem_cons_self,Tr.okA_mk λ x hx=>h x (List.mem_cons_of_mem _ hx)⟩
def ZhU (P:Program) (f:TypeId->Option U):Nat->List Field->Option (List U)
 |_,[]=>some []
 |off,x::xs=>match Nat.beq x.offset off with
  |false=>none
  |true=>match f x.type with
   |none=>none
   |some u=>match Nat.beq (P.cellsOf x.type) u.size with
    |false=>none
    |true=>match ZhU P f (off + u.size) xs with
     |none=>none
     |some us=>some (u::us)
def uOf (P:Program):Nat->TypeId->Option U
 |0,_=>none
 |d + 1,t=>match P.underlying t with
  |some (.int k)=>some (.int k)
  |some .bool=>some .bool
  |some (.float .f64)=>some .flt
  |some .string=>some .str
  |some (.slice e)=>match uOf P d e with
   |some u=>(match Nat.beq (P.cellsOf e) u.size && Nat.blt 0 u.size with|true=>some (.sl u)|false=>none)
   |none=>none
  |some (.struct fs)=>match ZhU P (uOf P d) 0 fs.toList with
   |some us=>(match Nat.beq (P.cellsOf t) (U.sizeL us) with|true=>some (.st us)|false=>none)
   |none=>none
  |some (.array n e)=>match uOf P d e with
   |some u=>(match Nat.beq (P.cellsOf e) u.size && Nat.beq (P.cellsOf t) (n * u.size) with|true=>some (.st (List.replicate n u))|false=>none)
   |none=>none
  |_=>none
section
variable {H:Type} {enc:TypeId × Value->H} {P:Program} {W:World} {base:Nat} {spare:Nat->Bool} {held:Bool}
def ZA1 (R:Cx) (u:U) (cs:List Value):Prop:=∃ x:Tr,x.cells=cs/\x.Ok R u
theorem Ze7 {w:World} {base:Nat} {a:Addr} {n:Nat} {cs:List Value} (h:w.cells? base a n=some cs):cs.length=n/\∀ i,i<n->w.cell? (a.add i)=cs[i]?:=by
 unfold World.cells? at h;split at h
 ·refine ⟨by have:=mapM_some_length h;simpa using this,λ i hi=>mapM_some_get h i i (by simp [hi])⟩
 ·cases h
theorem Zy4 (a:Addr) (i j:Nat) (hs:a.spot=none):(a.add i).add j=⟨a.block,a.off + (i + j),none⟩:=by
 obtain ⟨b,o,s⟩:=a;simp only at hs;subst hs;rw [Zz,Zz,Nat.add_assoc]
theorem ZhT {d:Nat} (ih:∀ {fuel:Nat} {t:TypeId} {cs:List Value} {y:DataW H × List MemPlace} {u:U},uOf P d t=some u->DataW.trod enc P W base spare held fuel t cs=some y->ZA1 (Cx.of W) u cs) {n:Nat} {cs:List Value} {xs:List (DataW H × List MemPlace)}:
  ∀ (fs:List Field) (off:Nat) (us:List U),ZhU P (uOf P d) off fs=some us->(∀ (i:Nat) (f:Field),fs[i]? =some f->∃ y,DataW.trod enc P W base spare held n f.type ((cs.drop f.offset).take (P.cellsOf f.type))=some y)->
   off + U.sizeL us<=cs.length->∃ ts:List Tr,Tr.cellsL ts=(cs.drop off).take (U.sizeL us)/\Tr.OkL (Cx.of W) us ts
 |[],off,us,h,_,_=>by
  simp only [ZhU,Option.some.injEq] at h;subst h;exact ⟨[],by simp [Tr.cellsL,U.sizeL],by unfold Tr.OkL;trivial⟩
 |f::fs,off,us,h,hf,hl=>by
  unfold ZhU at h;split at h
  ·cases h
  rename_i hoff;have hoff:=Nat.eq_of_beq_eq_true hoff;split at h
  ·cases h
  rename_i u hu;split at h
  ·cases h
  rename_i hc;have hc:=Nat.eq_of_beq_eq_true hc;split at h
  ·cases h
  rename_i us' hus;cases h;simp only [U.sizeL] at hl ⊢;obtain ⟨y,hy⟩:=hf 0 f rfl;obtain ⟨x,hx,hxo⟩:=ih hu hy;obtain ⟨ts,hts,htso⟩:=ZhT ih (n:=n) (xs:=xs) fs (off + u.size) us' hus (λ i g hg=>hf (i + 1) g (by simpa using hg)) (by omega);refine ⟨x::ts,?_,by unfold Tr.OkL;exact ⟨hxo,htso⟩⟩;simp only [Tr.cellsL];rw [hx,hts,hoff,hc,List.take_add,List.drop_drop]
theorem Zk1 {u:U} {n s:Nat}:∀ {m:Nat} {cs:List Value},cs.length=m * s->u.size=s->(∀ i,i<m->ZA1 (Cx.of W) u ((cs.drop (i * s)).take s))->∃ ts:List Tr,Tr.cellsL ts=cs/\Tr.OkL (Cx.of W) (List.replicate m u) ts
 |0,cs,hl,_,_=>by
  have:cs=[]:=List.length_eq_zero_iff.1 (by simpa using hl);subst this;exact ⟨[],rfl,by unfold Tr.OkL;trivial⟩
 |m + 1,cs,hl,hs,h=>by
  obtain ⟨x,hx,hxo⟩:=h 0 (by omega);obtain ⟨ts,hts,htso⟩:=Zk1 (n:=n) (m:=m) (cs:=cs.drop s) (by rw [List.length_drop,hl,Nat.add_mul];omega) hs (λ i hi=>by
   have:=h (i + 1) (by omega);rw [Nat.add_mul,Nat.one_mul,Nat.add_comm,<-List.drop_drop] at this;exact this)
  refine ⟨x::ts,?_,by rw [List.replicate_succ];unfold Tr.OkL;exact ⟨hxo,htso⟩⟩;simp only [Tr.cellsL];rw [hx,hts];simp
theorem Zh5 {α β:Type} {p:Nat->α->Prop}:∀ {n:Nat},(∀ i,i<n->∃ x:α,p i x)->∃ xs:List α,xs.length=n/\∀ i (hi:i<xs.length),p i xs[i]
 |0,_=>⟨[],rfl,λ i hi=>by simp at hi⟩
 |n + 1,h=>by
  obtain ⟨xs,hl,hp⟩:=Zh5 (β:=β) (n:=n) λ i hi=>h i (by omega);obtain ⟨x,hx⟩:=h n (by omega);refine ⟨xs++[x],by simp [hl],λ i hi=>?_⟩;by_cases h2:i<xs.length
  ·rw [List.getElem_append_left h2];exact hp i h2
  ·have:i=n:=by simp at hi;omega
   subst this;rw [List.getElem_append_right (by omega)];simpa using hx
theorem ZtD {fuel:Nat} {t:TypeId} {cs:List Value} {x:DataW H × List MemPlace} (ht:P.underlying t=some (.float .f64)) (h:DataW.trod enc P W base spare held fuel t cs=some x):∃ n,cs=[.float .f64 n]/\(Lit.float .f64 n).wf=true:=by
 cases fuel with
 |zero=>simp [DataW.trod] at h
 |succ n=>
  unfold DataW.trod at h;rw [ht] at h;split at h<;>simp_all
theorem Zjg:∀ {d fuel:Nat} {t:TypeId} {cs:List Value} {y:DataW H × List MemPlace} {u:U},uOf P d t=some u->DataW.trod enc P W base spare held fuel t cs=some y->ZA1 (Cx.of W) u cs
 |0,_,_,_,_,_,h,_=>by cases h
 |d + 1,fuel,t,cs,y,u,h,hy=>by
  unfold uOf at h;split at h
  ·rename_i k ht
   cases h;obtain ⟨n,rfl,_,hw⟩:=DataW.trod_int ht hy;exact ⟨.int k n,rfl,rfl,hw⟩
  ·rename_i ht
   cases h;obtain ⟨b,rfl,_⟩:=DataW.trod_bool ht hy;exact ⟨.bool b,rfl,by unfold Tr.Ok;trivial⟩
  ·rename_i ht
   cases h;obtain ⟨n,rfl,hn⟩:=ZtD ht hy;exact ⟨.flt n,rfl,by unfold Tr.Ok;exact hn⟩
  ·rename_i ht
   cases h;obtain ⟨s,rfl,_,hs⟩:=DataW.trod_string ht hy;exact ⟨.str s,rfl,hs⟩
  ·rename_i e ht
   split at h
   case h_2=>cases h
   rename_i ue hue;split at h
   case h_2=>cases h
   rename_i hc;simp only [Bool.and_eq_true] at hc;have hpos:0<ue.size:=Nat.blt_eq.mp hc.2;have hc:=Nat.eq_of_beq_eq_true hc.1;cases h;rcases DataW.trod_slice ht hy with ⟨rfl,_⟩|⟨a,len,cap,elems,rest,n,_,rfl,_,_,hlc,hcm,hel,helem,_,_⟩
   ·refine ⟨.sl ⟨none,0,0⟩ [],rfl,?_⟩
    unfold Tr.Ok;exact ⟨⟨⟨Wid.nil,rfl,λ h=>absurd rfl h⟩,Nat.le_refl _⟩,Nat.zero_le _,by unfold Tr.OkA;trivial⟩
   ·obtain ⟨xs,hxl,hxs⟩:=Zh5 (β:=Unit) (p:=λ i (x:Tr)=>W.cells? base (a.add (i * P.cellsOf e)) (P.cellsOf e)=some x.cells/\x.Ok (Cx.of W) ue) (n:=len) λ i hi=>by
     have h1:=helem i hi;rw [List.getElem?_eq_getElem (by omega)] at h1;obtain ⟨ce,hce,hte⟩:=Option.bind_eq_some_iff.1 h1;obtain ⟨x,rfl,hx⟩:=Zjg hue hte;exact ⟨x,hce,hx⟩
    refine ⟨.sl ⟨some a,len,cap⟩ xs,rfl,?_⟩;unfold Tr.Ok;have hwid:Wid ue.size (xs.map Tr.cells):=λ r hr=>by
     obtain ⟨x,hx,rfl⟩:=List.mem_map.1 hr;obtain ⟨i,hi,rfl⟩:=List.getElem_of_mem hx;have:=(Ze7 (hxs i hi).1).1;rw [this,hc]
    refine ⟨⟨⟨hwid,by simp [hxl],λ hne=>?_⟩,hlc⟩,by omega,Tr.okA_mk λ x hx=>by obtain ⟨i,hi,rfl⟩:=List.getElem_of_mem hx;exact (hxs i hi).2⟩
    -- the block
    have h0:0<xs.length:=by
     have:0<(xs.map Tr.cells).length:=List.length_pos_iff.2 hne;simpa using this
    have hcell:∀ i (hi:i<xs.length) j,j<ue.size->W.cell? ((a.add (i * ue.size)).add j)=(xs[i].cells)[j]?:=λ i hi j hj=>by
     have:=(Ze7 (hxs i hi).1).2 j (by rw [hc];exact hj);rw [hc] at this;exact this
    have hxl0:∀ i (hi:i<xs.length),(xs[i].cells).length=ue.size:=λ i hi=>by rw [(Ze7 (hxs i hi).1).1,hc]
    have hc0:=hcell 0 h0 0 (by omega);rw [List.getElem?_eq_getElem (by rw [hxl0 0 h0];omega)] at hc0;have hz0:(a.add (0 * ue.size)).add 0=a:=by rw [Nat.zero_mul];simp [Addr.add]
    rw [hz0] at hc0;obtain ⟨hs,l,T,fr,hl,_⟩:=Zkr hc0;refine ⟨a.block,a.off,l,T,fr,by cases a;simp_all,hl,λ i v hv=>?_⟩
    -- which row, which place
    have hlen:=hwid.len;rw [List.length_map] at hlen;have hi:i<(xs.map Tr.cells).flatten.length:=(List.getElem?_eq_some_iff.1 hv).1;have hq:i / ue.size<xs.length:=by
     rw [hlen] at hi;exact Nat.div_lt_of_lt_mul (by rwa [Nat.mul_comm])
    have hm:i % ue.size<ue.size:=Nat.mod_lt _ (by omega);have hcc:=hcell (i / ue.size) hq (i % ue.size) hm;rw [Zy4 a _ _ hs,show i / ue.size * ue.size + i % ue.size=i by rw [Nat.mul_comm];exact Nat.div_add_mod _ _] at hcc;have e1:(xs.map Tr.cells).flatten[i]? =(xs[i / ue.size].cells)[i % ue.size]?:=by
     have h1:i=i / ue.size * ue.size + i % ue.size:=by rw [Nat.mul_comm];exact (Nat.div_add_mod _ _).symm
     conv=>lhs;rw [h1]
     rw [<-List.getElem?_drop,hwid.drop_flat,List.drop_eq_getElem_cons (by simpa using hq),List.flatten_cons,List.getElem?_append_left (by rw [List.getElem_map,hxl0 _ hq];exact hm),List.getElem_map]
    rw [<-e1,hv] at hcc;simp only [World.cell?,hl,Option.isSome_none,Bool.false_eq_true,if_false] at hcc;exact hcc
  ·rename_i fs ht
   split at h
   case h_2=>cases h
   rename_i us hus;split at h
   case h_2=>cases h
   rename_i hc;have hc:=Nat.eq_of_beq_eq_true hc;cases h;obtain ⟨xs,n,_,_,hl,hxl,hf⟩:=DataW.trod_struct ht hy;obtain ⟨ts,hts,hto⟩:=ZhT (d:=d) (λ h h2=>Zjg h h2) (n:=n) (cs:=cs) (xs:=xs) fs.toList 0 us hus (λ i f hfi=>by
    have hfi2:fs[i]? =some f:=by simpa using hfi
    have hlt:i<xs.length:=by rw [hxl];exact (Array.getElem?_eq_some_iff.1 hfi2).1
    exact ⟨xs[i],by rw [hf i f hfi2];exact List.getElem?_eq_getElem hlt⟩) (by omega)
   refine ⟨.st ts,?_,by unfold Tr.Ok;exact hto⟩;unfold Tr.cells;rw [hts,List.drop_zero,List.take_of_length_le (by omega)]
  ·rename_i m e ht
   split at h
   case h_2=>cases h
   rename_i ue hue;split at h
   case h_2=>cases h
   rename_i hc;simp only [Bool.and_eq_true] at hc;have hc1:=Nat.eq_of_beq_eq_true hc.1;have hc2:=Nat.eq_of_beq_eq_true hc.2;cases h;obtain ⟨xs,n,_,_,hl,hxl,hf⟩:=DataW.trod_array ht hy;obtain ⟨ts,hts,hto⟩:=Zk1 (n:=n) (u:=ue) (s:=ue.size) (m:=m) (cs:=cs) (by rw [hl,hc2]) rfl (λ i hi=>by
    have:=hf i hi;rw [hc1,List.getElem?_eq_getElem (by omega)] at this;exact Zjg hue this)
   exact ⟨.st ts,by unfold Tr.cells;exact hts,by unfold Tr.Ok;exact hto⟩
  ·cases h
theorem Zzn {d:Nat} {t:TypeId} {v:Value} {dt:DataW H} {p:List MemPlace} {u:U} (hu:uOf P d t=some u) (h:DataW.Trod enc P W base spare held t v dt p):ZA1 (Cx.of W) u v.cells.toList:=by
 obtain ⟨fuel,hf⟩:=h;exact Zjg hu hf
theorem Zqx {α:Type} {R:Cx} {u:U} {s:Sl} {xs:List Tr} (g:α->List Value) (Q:α->Prop) (ho:Tr.Ok R (.sl u) (.sl s xs)) (h:∀ x:Tr,x.Ok R u->∃ e:α,x.cells=g e/\Q e):
  ∃ es:List α,RoN u.size R s (es.map g)/\es.length<=maxLen/\∀ e∈es,Q e:=by
 unfold Tr.Ok at ho;obtain ⟨⟨h1,_⟩,h2,h3⟩:=ho;have key:∀ l:List Tr,(∀ x∈l,x.Ok R u)->∃ es:List α,l.map Tr.cells=es.map g/\es.length=l.length/\∀ e∈es,Q e:=λ l=>by
  induction l with
  |nil=>exact λ _=>⟨[],rfl,rfl,λ _ h=>by cases h⟩
  |cons x l ih=>
   intro hl;obtain ⟨es,h1,h2,h3⟩:=ih λ y hy=>hl y (List.mem_cons_of_mem _ hy);obtain ⟨e,he,hq⟩:=h x (hl x List.mem_cons_self);exact ⟨e::es,by rw [List.map_cons,List.map_cons,he,h1],by simp [h2],λ y hy=>by
    rcases List.mem_cons.1 hy with rfl|hy
    ·exact hq
    ·exact h3 y hy⟩
 obtain ⟨es,e1,e2,e3⟩:=key xs (Tr.okA h3);rw [e1] at h1;exact ⟨es,h1,by omega,e3⟩
theorem Zzr {R:Cx} {u:U} {s:Sl} {xs:List Tr} (ho:Tr.Ok R (.sl u) (.sl s xs)):s.len<=s.cap:=by
 unfold Tr.Ok at ho;exact ho.1.2
theorem RoN.one {R:Cx} {s:Sl} {vs:List Value} (h:RoN 1 R s (vs.map λ v=>[v])) (hb:vs.length<=maxLen):Ro R s vs:=by
 refine ⟨by have:=h.len;simpa using this,by unfold maxLen at hb;omega,λ hne=>?_⟩;obtain ⟨b,off,l,T,fr,h1,h2,h3⟩:=h.mem (by simpa using hne);refine ⟨b,off,l,T,fr,h1,h2,λ i v hv=>h3 i v ?_⟩;have:(vs.map λ v=>[v]).flatten=vs:=by
  clear h3 h hb hne hv
  induction vs with
  |nil=>rfl
  |cons v vs ih=>simp [ih]
 rw [this];exact hv
theorem Zr5 {R:Cx} {k:IntKind} {s:Sl} {xs:List Tr} (ho:Tr.Ok R (.sl (.int k)) (.sl s xs)):∃ zs:List Int,Ro R s (zs.map (Value.int k))/\zs.length<=maxLen/\∀ z∈zs,(Lit.int k z).wf=true:=by
 obtain ⟨zs,h1,h2,h3⟩:=Zqx (λ z:Int=>[Value.int k z]) (λ z=>(Lit.int k z).wf=true) ho λ x hx=>by
  cases x<;>simp only [Tr.Ok] at hx;rename_i k' z;obtain ⟨rfl,hw⟩:=hx;exact ⟨z,rfl,hw⟩
 refine ⟨zs,RoN.one ?_ (by simpa using h2),h2,h3⟩;rw [List.map_map];exact h1
end
end
end Go.VC

namespace Go.VC
section
theorem ZmU {α:Type} {l:List (En α)} {seen:Array Nat} {a b:List (En α)} {x:En α} (hn:(l.map (·.2.2)).Nodup) (h:l.filter (λ e=>!seen.contains e.2.2)=a++x::b):l.filter (λ e=>!(seen.push x.2.2).contains e.2.2)=a++b:=by
 have e1:l.filter (λ e=>!(seen.push x.2.2).contains e.2.2)=(l.filter λ e=>!seen.contains e.2.2).filter λ e=>!decide (e.2.2=x.2.2):=by
  rw [List.filter_filter];refine List.filter_congr λ y _=>?_;rw [Array.contains_push,Bool.not_or,Bool.and_comm]
  congr 1
 rw [e1,h,List.filter_append,List.filter_cons];have hnd:((a++x::b).map (·.2.2)).Nodup:=by
  rw [<-h];exact ((List.filter_sublist.map _).nodup hn)
 rw [List.map_append,List.map_cons,List.nodup_append,List.nodup_cons] at hnd;rw [if_neg (by simp)];rw [List.filter_eq_self.2,List.filter_eq_self.2]
 ·intro y hy
  have:¬ y.2.2=x.2.2:=λ e=>hnd.2.1.1 (by rw [<-e];exact List.mem_map.2 ⟨y,hy,rfl⟩);simpa using this
 ·intro y hy
  have:¬ y.2.2=x.2.2:=λ e=>hnd.2.2 _ (List.mem_map.2 ⟨y,hy,rfl⟩) x.2.2 (by simp) e;simpa using this
def Zr2 (r m:Nat) (w:World):Nat:=match w.heap[r]? with
 |some (.mapIter _ _ seen _)=>(match w.heap[m]? with
  |some (.map es _)=>(leftOf es seen).size
  |_=>0)
 |_=>0
section
variable {α:Type} [BEq α] [ZaW α] {P:Program} {R:Cx} {Hs:List HP} {w:World}
def Zje (r m:Nat) (es left:List (α × Value)):HP:=exs λ l:List (En α)=>exs λ c:Nat=>exs λ seen:Array Nat=>
 ZaI [pur (Zbp l=es/\ZbZ l c/\Zbp (l.filter λ e=>!seen.contains e.2.2)=left),pts r (.mapIter (some m) c seen c),pts m (.map (l.map mkE).toArray c)]
theorem Zje.iff {r m:Nat} {es left:List (α × Value)}:Sat R (Zje r m es left::Hs) w↔∃ (l:List (En α)) (c:Nat) (seen:Array Nat),(Zbp l=es/\ZbZ l c/\Zbp (l.filter λ e=>!seen.contains e.2.2)=left)/\
  Sat R (pts r (.mapIter (some m) c seen c)::pts m (.map (l.map (mkE (α:=α))).toArray c)::Hs) w:=by
 unfold Zje;simp only [Sat.exs];constructor
 ·rintro ⟨l,c,seen,h⟩
  obtain ⟨h1,h2⟩:=Sat.pur.1 (Sat.star.1 h);exact ⟨l,c,seen,h1,h2⟩
 ·rintro ⟨l,c,seen,h1,h2⟩
  exact ⟨l,c,seen,Sat.star.2 (Sat.pur.2 ⟨h1,h2⟩)⟩
theorem Zje.map {r m:Nat} {es left:List (α × Value)} (hw:Sat R (Zje r m es left::Hs) w):Sat R (MapAt m es::Hs) w:=by
 obtain ⟨l,c,seen,⟨h1,h2,_⟩,hw⟩:=Zje.iff.1 hw;exact MapAt.iff.2 ⟨l,c,h1,h2,hw.drop⟩
theorem ZoQ {T K E:TypeId} {m:Nat} {es:List (α × Value)} {Q:Option Addr->World->Prop} (hT:P.underlying T=some (.map K E)) (hw:Sat R (MapAt m es::Hs) w) (k:∀ r w',Sat R (Zje r m es es::Hs) w'->Q (some ⟨r,0,none⟩) w'):
  ∃ w':World,∃ t:Option Addr,((Instr.range T (.map (some m))).run P w=.ok (.pointer t) w')/\Q t w':=by
 obtain ⟨l,c,h1,h2,hw⟩:=MapAt.iff.1 hw;have hat:=hw.at;refine ⟨w.alloc (.mapIter (some m) c #[] c),some ⟨w.heap.size,0,none⟩,?_,k _ _ (Zje.iff.2 ⟨l,c,#[],⟨h1,h2,?_⟩,Sat.alloc _ hw⟩)⟩
 ·simp [Instr.range,run_underlying hT,getObj,Sem.run_bind,Sem.run,hat,Result.andThen]
 ·rw [show (l.filter λ e=>!(#[]:Array Nat).contains e.2.2)=l from List.filter_eq_self.2 (λ x _=>by simp)]
  exact h1
theorem ZlA {r m:Nat} {es left:List (α × Value)} (hw:Sat R (Zje r m es left::Hs) w):Zr2 r m w=left.length:=by
 obtain ⟨l,c,seen,⟨h1,h2,h3⟩,hw⟩:=Zje.iff.1 hw;have hr:=hw.at;have hm:=hw.swap.at;unfold Zr2;rw [hr];dsimp only;rw [hm];dsimp only;rw [<-h3,<-Array.length_toList];unfold leftOf Zbp;rw [Array.toList_filter,List.length_map];have:∀ l:List (En α),((l.map mkE).filter λ e=>!seen.contains e.born).length=(l.filter λ e=>!seen.contains e.2.2).length:=λ l=>by
  rw [List.filter_map,List.length_map];rfl
 exact this l
theorem Zo5 {r m:Nat} {T:TypeId} {es left:List (α × Value)} (hw:Sat R (Zje r m es left::Hs) w):
  (left=[]/\(Instr.next (.pointer (some ⟨r,0,none⟩)) false T).run P w=.ok (.tuple #[.bool false]) w)\/
  ∃ a k v b w',left=a++(k,v)::b/\(Instr.next (.pointer (some ⟨r,0,none⟩)) false T).run P w=.ok (.tuple #[.bool true,ZaW.enc k,v]) w'/\(Instr.entry (.pointer (some ⟨r,0,none⟩))).run P w'=.ok (.tuple #[ZaW.enc k,v]) w'/\Sat R (Zje r m es (a++b)::Hs) w':=by
 obtain ⟨l,c,seen,⟨h1,h2,h3⟩,hw⟩:=Zje.iff.1 hw;have hr:=hw.at;have hm:=hw.swap.at;rcases run_next_at (P:=P) w T r m c c seen (l.map mkE).toArray c hr hm (λ x hx=>by
   obtain ⟨e,he,rfl⟩:=List.mem_map.1 (show x∈l.map mkE from hx)
   exact h2.1 e he) (Nat.le_refl _) with ⟨h0,hrun⟩|⟨e,he,w1,hw1,hrun⟩
 ·left
  refine ⟨?_,hrun⟩;rw [<-h3];have:(l.filter λ e=>!seen.contains e.2.2)=[]:=by
   rw [List.filter_eq_nil_iff];intro x hx hn;have hmem:mkE x∈(leftOf (l.map mkE).toArray seen).toList:=by
    unfold leftOf;simp only [Array.toList_filter,List.mem_filter,List.mem_map];exact ⟨⟨x,hx,rfl⟩,hn⟩
   have:0<(leftOf (l.map mkE).toArray seen).toList.length:=List.length_pos_of_mem hmem;rw [Array.length_toList] at this;omega
  rw [this];rfl
 ·right
  have hx:∃ x∈l,e=mkE x/\(!seen.contains x.2.2)=true:=by
   unfold leftOf at he;simp only [Array.toList_filter,List.mem_filter,List.mem_map] at he;obtain ⟨⟨x,hx,rfl⟩,hn⟩:=he;exact ⟨x,hx,rfl,hn⟩
  obtain ⟨x,hxl,rfl,hn⟩:=hx;obtain ⟨a,b,hab⟩:=List.append_of_mem (List.mem_filter.2 ⟨hxl,hn⟩:x∈l.filter λ e=>!seen.contains e.2.2);have hw2:Sat R (pts r (.mapIter (some m) c seen c)::pts m (.map (l.map (mkE (α:=α))).toArray c)::Hs) w1:=by
   rcases hw1 with rfl|rfl
   ·exact hw
   ·exact hw.drew
  have hw3:=hw2.setPts (.mapIter (some m) c (seen.push x.2.2) c);refine ⟨Zbp a,x.1,x.2.1,Zbp b,_,?_,hrun,?_,?_⟩
  ·rw [<-h3,hab]
   unfold Zbp;rw [List.map_append,List.map_cons]
  ·exact run_entry_at (P:=P) _ r m c seen (l.map mkE).toArray c (mkE x) hw3.at hw3.swap.at (show mkE x∈l.map mkE from List.mem_map.2 ⟨x,hxl,rfl⟩) (by
    have e:((l.map mkE).map λ e:MapEntry=>e.born)=l.map (·.2.2):=by rw [List.map_map];rfl
    show ((l.map mkE).map λ e:MapEntry=>e.born).Nodup;rw [e];exact h2.2)
  ·refine Zje.iff.2 ⟨l,c,seen.push x.2.2,⟨h1,h2,?_⟩,hw3⟩
   rw [ZmU h2.2 hab];unfold Zbp;rw [List.map_append]
end
end
section
open Go Go.RowKit
theorem ZoL {P:Program} {n:Nat} (w:World) (dT sT ty elem:TypeId) (b o dLen dCap:Nat) (a:Addr) (sLen sCap:Nat) (cs:List Value)
  (hu:P.underlying dT=some (.slice elem)) (hs:(P.info? elem).map (·.size)=some n) (hn:cs.length=Nat.min sLen dLen * n)
  (hsrc:∀ j v,cs[j]? =some v->w.cell? (a.add j)=some v) (hc:∀ j,j<cs.length->(w.cell? ⟨b,o + j,none⟩).isSome=true) (hf:∀ j,j<cs.length->w.frozen? ⟨b,o + j,none⟩=false) (h1:∀ v∈cs,v.oneCell'=true):
  (Builtin.copy_ #[dT,sT] ty #[.slice (some ⟨b,o,none⟩) dLen dCap,.slice (some a) sLen sCap]).run P w=.ok (goInt (Nat.min sLen dLen)) (w.setCells b o cs):=by
 have hl:=run_loadCells_list (P:=P) w a cs hsrc;have hst:=run_storeCells_cells (P:=P) b o cs 0 w (by simpa using hc) (by simpa using hf) h1;cases hq:P.info? elem with
 |none=>simp [hq] at hs
 |some i=>
  have hi:i.size=n:=by simpa [hq] using hs
  simp [Builtin.copy_,run_underlying hu,Builtin.lenOf,Builtin.firstCells,sizeOf,typeInfo,hq,hi,<-hn,hl,hst]
theorem Zmn {P:Program} {n m:Nat} (w:World) (t e ty:TypeId) (z:Value) (ht:P.underlying t=some (.slice e)) (hv:∀ w,(zeroValue e).run P w=.ok z w) (hz:z.cells.size=n) (h1:∀ v∈(Builtin.zeroCells z.cells m).toList,v.oneCell'=true) (b o c:Nat) (hm:0<m)
  (hc:∀ j,j<m * n->(w.cell? ⟨b,o + j,none⟩).isSome=true) (hf:∀ j,j<m * n->w.frozen? ⟨b,o + j,none⟩=false):
  (Builtin.clear_ #[t] ty #[.slice (some ⟨b,o,none⟩) m c]).run P w=.ok (.tuple #[]) (w.setCells b o (Builtin.zeroCells z.cells m).toList):=by
 have hl:(Builtin.zeroCells z.cells m).toList.length=m * n:=by simp [Builtin.zeroCells,hz]
 have hst:=run_storeCells_cells (P:=P) b o (Builtin.zeroCells z.cells m).toList 0 w (by rw [hl];simpa using hc) (by rw [hl];simpa using hf) h1;simp only [Nat.add_zero] at hst;obtain ⟨k,rfl⟩:∃ k,m=k + 1:=⟨m - 1,by omega⟩;simp [Builtin.clear_,run_underlying ht,hv,hst]
theorem ZqM {n:Nat}:∀ (m:Nat) (l:List Value),l.length=m * n->∃ ys:List (List Value),ys.length=m/\Wid n ys/\ys.flatten=l
 |0,l,h=>⟨[],rfl,Wid.nil,by have:l=[]:=List.length_eq_zero_iff.1 (by omega);rw [this];rfl⟩
 |m + 1,l,h=>by
  rw [Nat.add_mul,Nat.one_mul] at h;obtain ⟨ys,h1,h2,h3⟩:=ZqM (n:=n) m (l.drop n) (by rw [List.length_drop];omega);refine ⟨l.take n::ys,by simp [h1],λ x hx=>?_,by simp [h3]⟩;rcases List.mem_cons.1 hx with rfl|hx
  ·rw [List.length_take];omega
  ·exact h2 x hx
theorem Zfj {A B C V:List Value} {p:Nat} (hp:A.length=p) (hB:B.length=V.length):ZeI (A++B++C) p V=A++V++C:=by
 rw [ZeX _ _ _ (by simp only [List.length_append];omega)];have e1:(A++B++C).take p=A:=by rw [List.append_assoc,List.take_left' hp]
 have e2:(A++B++C).drop (p + V.length)=C:=by rw [List.drop_left' (by rw [List.length_append];omega)]
 rw [e1,e2]
theorem putN {A Y D X rest:List Value} {p:Nat} (hA:A.length=p) (hy:Y.length=X.length + D.length):ZeI (ZeI ((A++Y)++rest) p X) (p + X.length) D=(A++X++D)++rest:=by
 have h1:ZeI ((A++Y)++rest) p X=A++X++(Y.drop X.length++rest):=by
  have:=Zfj (A:=A) (B:=Y.take X.length) (C:=Y.drop X.length++rest) (V:=X) hA (by rw [List.length_take];omega);rw [<-this]
  congr 1
  rw [List.append_assoc,List.append_assoc,<-List.append_assoc (Y.take _),List.take_append_drop]
 have h2:=Zfj (A:=A++X) (B:=Y.drop X.length) (C:=rest) (V:=D) (p:=p + X.length) (by simp [hA]) (by rw [List.length_drop];omega);rw [h1,<-List.append_assoc,h2]
theorem ZBK {A D X rest:List Value} {p:Nat} (hA:A.length=p) (hr:X.length<=rest.length):ZeI (ZeI ((A++D)++rest) (p + X.length) D) p X=(A++X++D)++rest.drop X.length:=by
 have e:(A++D)++rest=(A++(D++rest).take X.length)++((D++rest).drop X.length).take D.length++rest.drop X.length:=by
  have h1:rest.drop X.length=(D++rest).drop (X.length + D.length):=by
   rw [Nat.add_comm,<-List.drop_drop,List.drop_left]
  rw [h1,<-List.drop_drop,List.append_assoc,List.append_assoc,List.append_assoc,List.take_append_drop,List.take_append_drop]
 have hl:((D++rest).take X.length).length=X.length:=by rw [List.length_take,List.length_append];omega
 rw [e,Zfj (p:=p + X.length) (by rw [List.length_append,hl,hA]) (by rw [List.length_take,List.length_drop,List.length_append];omega)];have:=Zfj (A:=A) (B:=(D++rest).take X.length) (C:=D++rest.drop X.length) (V:=X) hA (by rw [hl]);rw [show (A++(D++rest).take X.length)++D++rest.drop X.length=A++(D++rest).take X.length++(D++rest.drop X.length) by simp,this];simp
section
variable {P:Program} {R:Cx} {Hs Rest:List HP} {w:World} {s:Sl} {T:TypeId} {n:Nat}
theorem Zez {dT sT ty elem:TypeId} {b o dLen dCap sLen sCap:Nat} {a:Addr} {cs l:List Value} {fr:Nat × Nat} {K:Int->World->Prop} (hu:P.underlying dT=some (.slice elem)) (hs:(P.info? elem).map (·.size)=some n)
  (hw:Sat R (pts b (.cells l.toArray T fr)::Hs) w) (hfr:ZnG l.length fr) (hn:cs.length=Nat.min sLen dLen * n) (hfit:o + cs.length<=l.length) (hsrc:∀ j v,cs[j]? =some v->w.cell? (a.add j)=some v) (h1:Za0 cs=true)
  (k:∀ t w',Sat R (pts b (.cells (ZeI l o cs).toArray T fr)::Hs) w'->K t w'):
  ∃ w',∃ t:Int,(Builtin.copy_ #[dT,sT] ty #[.slice (some ⟨b,o,none⟩) dLen dCap,.slice (some a) sLen sCap]).run P w=.ok (.int .i64 t) w'/\K t w':=by
 have hat:=hw.at;have hr:=ZoL (P:=P) w dT sT ty elem b o dLen dCap a sLen sCap cs hu hs hn hsrc (λ j hj=>by rw [Zaz hat];simp;omega) (λ j hj=>ZcH hat hfr (by omega)) (λ v hv=>List.all_eq_true.1 h1 v hv);exact ⟨_,_,hr,k _ _ (ZaL cs l o w hw)⟩
theorem Zg2 {t1 t2 ty:TypeId} {bytes k m:Nat} {kd kn:IntKind} {rows:List (List Value)} {K:Sl->World->Prop} (ht:P.underlying t1=some (.slice T)) (htn:P.underlying t2=some (.int kn)) (hi:ZzS P T n bytes=true) (hn1:0<n)
  (h0:0<m) (hk:k<rows.length) (hc:s.cap<k + m) (hb:2 * (k + m) * bytes<=281474976710656) (hb':k + m<=9223372036854775807) (hw:Sat R (ZP n s T rows::Hs) w)
  (h:∀ t w' ys,ys.length=m->Sat R (ZP n t T (rows.take k++ys)::ZP n s T rows::Hs) w'->K t w'):
  ∃ w',∃ t:Sl,(Builtin.append_ #[t1,t2] ty #[.slice s.a k s.cap,.int kd m]).run P w=.ok (.slice t.a t.len t.cap) w'/\K t w':=by
 obtain ⟨i,z,hi,hz,hsize,hbytes,hzc⟩:=Zkg hi;obtain ⟨hwid,⟨_,rfl,_⟩|⟨b,rest,fr,cap,rfl,hl,hfr,hp⟩⟩:=ZP.cases hw
 ·simp at hk
 have hat:=hp.at;dsimp only at hc ⊢;have hcap:Builtin.nextslicecap (k + m) cap * i.bytes<=281474976710656:=by
  have h2:Builtin.nextslicecap (k + m) cap<=2 * (k + m):=by
   unfold Builtin.nextslicecap;split
   ·omega
   ·split
    ·omega
    ·have:=nextslicecap_le_wide hc
     unfold Builtin.nextslicecap at this;rw [if_neg (by assumption),if_neg (by assumption)] at this;omega
  rw [hbytes];exact Nat.le_trans (Nat.mul_le_mul_right _ h2) hb
 have hkl:(rows.take k).flatten.length=k * n:=by rw [hwid.take.len,List.length_take,Nat.min_eq_left (by omega)]
 have hold:(Builtin.firstCells i.size k (.slice (some ⟨b,0,none⟩) k cap)).run P w.drew=.ok (rows.take k).flatten.toArray w.drew:=by
  refine run_firstCells_some w.drew i.size k ⟨b,0,none⟩ k _ (rows.take k).flatten (by rw [hsize,hkl]) ?_;intro j u hj;rw [World.cell?_drew,Zz,Zaz hat,Nat.zero_add];obtain ⟨hlt,rfl⟩:=List.getElem?_eq_some_iff.1 hj;rw [hkl] at hlt;rw [<-hj,<-hwid.take_flat,List.getElem?_take,if_pos hlt];have:k * n<=rows.length * n:=Nat.mul_le_mul_right _ (by omega);rw [List.getElem?_append_left (by rw [hwid.len];omega)]
 have hwr:IntKind.i64.wrap (m:Int)=m:=by rw [IntKind.wrap_i64];omega
 have hn:¬ (k + m<=cap):=by omega
 have h63':¬ (9223372036854775807<((k:Int) + (m:Int))):=by omega
 have h48':¬ (281474976710656<Builtin.nextslicecap (k + m) cap * i.bytes):=by omega
 have h48i:¬ (281474976710656<(m:Int) * (i.bytes:Int)):=by
  rw [<-Int.natCast_mul,hbytes];have:m * bytes<=2 * (k + m) * bytes:=Nat.mul_le_mul_right _ (by omega);omega
 have hneg:¬ ((m:Int)<0):=by omega
 have hn0:m≠0:=by omega
 have hns:¬ (m * i.size=0):=by
  rw [hsize];have:=Nat.mul_pos h0 hn1;omega
 have hg:=grownCap_ge w (k + m) cap T;have hr:(Builtin.append_ #[t1,t2] ty #[.slice (some ⟨b,0,none⟩) k cap,.int kd m]).run P w=
   .ok (.slice (some ⟨w.heap.size,0,none⟩) (k + m) (grownCap w (k + m) cap T)) (w.drew.alloc (.cells ((rows.take k).flatten.toArray++Builtin.zeroCells z.cells m++Builtin.zeroCells z.cells (grownCap w (k + m) cap T - (k + m))) T)):=by
  simp [Builtin.append_,run_underlying ht,run_underlying htn,sizeOf,typeInfo,zeroValue,hi,hz,asInt,asIntOf,hwr,hn,hneg,hns,h63',h48',h48i,Question.forced,hold,newRow,grownCap]
 have hzs:∀ m,(Builtin.zeroCells z.cells m).size=m * n:=λ m=>by simp [Builtin.zeroCells,hzc]
 obtain ⟨ys,hy1,hy2,hy3⟩:=ZqM m (Builtin.zeroCells z.cells m).toList (by rw [Array.length_toList,hzs]);refine ⟨_,⟨some ⟨w.heap.size,0,none⟩,k + m,grownCap w (k + m) cap T⟩,hr,h _ _ ys hy1 ?_⟩;have h3:=Sat.alloc (Obj.cells ((rows.take k).flatten.toArray++Builtin.zeroCells z.cells m++Builtin.zeroCells z.cells (grownCap w (k + m) cap T - (k + m))) T) (Sat.drew hp);have e:Obj.cells ((rows.take k).flatten.toArray++Builtin.zeroCells z.cells m++Builtin.zeroCells z.cells (grownCap w (k + m) cap T - (k + m))) T=.cells ((rows.take k++ys).flatten++(Builtin.zeroCells z.cells (grownCap w (k + m) cap T - (k + m))).toList).toArray T (0,0):=by
  congr 1
  apply Array.ext';rw [List.flatten_append,hy3];simp
 rw [e] at h3 ⊢;have h4:=ZP.of_pts hwid hl (Sat.swap h3) hfr;have hwid2:Wid n (rows.take k++ys):=hwid.take.app hy2;have hlk:(rows.take k++ys).length=k + m:=by rw [List.length_append,List.length_take,hy1,Nat.min_eq_left (by omega)]
 have h5:=ZP.of_pts (cap:=grownCap w (k + m) cap T) hwid2 (by rw [List.length_append,hwid2.len,hlk,Array.length_toList,hzs,<-Nat.add_mul];congr 1;omega) (Sat.swap h4);have e2:(⟨some ⟨w.drew.heap.size,0,none⟩,(rows.take k++ys).length,grownCap w (k + m) cap T⟩:Sl)=⟨some ⟨w.heap.size,0,none⟩,k + m,grownCap w (k + m) cap T⟩:=by
  rw [hlk,World.size_drew]
 rw [e2] at h5;exact h5
theorem Zsz {t1 ty ty':TypeId} {bytes i j:Nat} {z:Value} {rows:List (List Value)} {K:Sl->World->Prop} (ht:P.underlying t1=some (.slice T)) (hi:ZzS P T n bytes=true) (hv:∀ w,(zeroValue T).run P w=.ok z w) (hzc:z.cells.size=n)
  (hz1:∀ m,∀ v∈(Builtin.zeroCells z.cells m).toList,v.oneCell'=true) (ho:Za0 rows.flatten=true)
  (hn1:0<n) (hij:i<j) (hj:j<=rows.length) (hw:Sat R (ZP n s T rows::Hs) w) (k:∀ t w',Sat R (ZP n t T (rows.take i++rows.drop j)::Hs) w'->K t w'):
  ∃ w',∃ t:Sl,(Builtin.append_ #[t1,t1] ty #[.slice s.a i s.cap,.slice (Zcn s.a j s.cap n) (s.len - j) (s.cap - j)]).run P w=.ok (.slice t.a t.len t.cap) w'/\
   (0:Int)<=(s.len:Int)/\(s.len:Int)<=(t.cap:Int)/\(0:Int)<=(t.len:Int)/\(t.len:Int)<=(((s.len:Int).toNat:Nat):Int)/\
   ∃ w'',(Builtin.clear_ #[t1] ty' #[.slice (Zcn t.a (t.len:Int).toNat t.cap n) ((s.len:Int).toNat - (t.len:Int).toNat) (t.cap - (t.len:Int).toNat)]).run P w'=.ok (.tuple #[]) w''/\K t w'':=by
 obtain ⟨ti,z',hi,hz',hsize,hbytes,hzc'⟩:=Zkg hi;obtain ⟨hwid,⟨_,rfl,_⟩|⟨b,rest,fr,cap,rfl,hl,hfr,hp⟩⟩:=ZP.cases hw
 ·simp at hj;omega
 have hat:=hp.at;have hl0:=hl;rw [List.length_append,hwid.len] at hl;have hcap:rows.length<=cap:=Nat.le_of_mul_le_mul_right (by omega:rows.length * n<=cap * n) hn1;have hjn:j * n<=rows.length * n:=Nat.mul_le_mul_right _ hj;have hin:i * n + (rows.length - j) * n + (j - i) * n=rows.length * n:=by
  rw [<-Nat.add_mul,<-Nat.add_mul]
  congr 1;omega
 have hdl:(rows.drop j).flatten.length=(rows.length - j) * n:=by rw [hwid.drop.len,List.length_drop]
 have hdo:∀ v∈(rows.drop j).flatten,v.oneCell'=true:=λ v hv=>List.all_eq_true.1 ho v (by
  obtain ⟨l,h1,h2⟩:=List.mem_flatten.1 hv;exact List.mem_flatten.2 ⟨l,List.mem_of_mem_drop h1,h2⟩)
 have hsrc:Src P ti.size t1 (.slice (Zcn (some ⟨b,0,none⟩) j cap n) (rows.length - j) (cap - j)) (rows.length - j) (rows.drop j).flatten w:=by
  rw [hsize];by_cases hjc:cap=j
  ·have hr:rows.length - j=0:=by omega
   have hd:rows.drop j=[]:=List.drop_eq_nil_of_le (by omega);rw [hr,hd];unfold Zcn;rw [if_pos hjc];exact Go.Src.ofSlice w ht _ 0 _ [] (by simp) (λ j u hj=>by simp at hj) (λ u hu=>by cases hu)
  ·unfold Zcn
   rw [if_neg hjc];refine Go.Src.ofSlice w ht _ _ _ _ (by rw [hdl]) (λ x u hx=>?_) hdo;show w.cell? (Addr.add (Addr.add ⟨b,0,none⟩ (j * n)) x)=some u;rw [Zz,Zz,Nat.zero_add,Zaz hat];rw [<-hwid.drop_flat,List.getElem?_drop] at hx;have hlt:=(List.getElem?_eq_some_iff.1 hx).1;rw [List.getElem?_append_left (by omega)];exact hx
 have hroom:i + (rows.length - j)<=cap:=by omega
 have hr:=run_append_room_src w t1 t1 ty T ti ht hi b 0 i cap _ (rows.length - j) (rows.drop j).flatten hsrc hroom
  (λ x hx=>by
   rw [Zaz hat,hsize,List.getElem?_eq_getElem (by rw [hl0];omega)];rfl) (λ x hx=>ZcH hat hfr (by rw [hsize];omega))
 have h2:=ZaL (rows.drop j).flatten (rows.flatten++rest) (i * n) w hp;rw [hsize,Nat.zero_add] at hr;have e1:ZeI (rows.flatten++rest) (i * n) (rows.drop j).flatten=(rows.take i++rows.drop j).flatten++(rows.flatten++rest).drop (i * n + (rows.length - j) * n):=by
  rw [ZeX _ _ _ (by rw [hdl,hl0];omega),hdl,List.take_append_of_le_length (by rw [hwid.len];omega),hwid.take_flat,List.flatten_append]
 rw [e1] at h2;have hwid2:Wid n (rows.take i++rows.drop j):=hwid.take.app hwid.drop;have hll:(rows.take i++rows.drop j).length=i + (rows.length - j):=by rw [List.length_append,List.length_take,List.length_drop,Nat.min_eq_left (by omega)]
 refine ⟨_,⟨some ⟨b,0,none⟩,i + (rows.length - j),cap⟩,hr,by dsimp only;omega,by dsimp only;omega,by dsimp only;omega,by dsimp only;omega,?_⟩;dsimp only;rw [Int.toNat_natCast,Int.toNat_natCast];have hca:Zcn (some ⟨b,0,none⟩) (i + (rows.length - j)) cap n=some ⟨b,(i + (rows.length - j)) * n,none⟩:=by
  unfold Zcn;rw [if_neg (by omega)];simp [Zz]
 rw [hca];have hat2:=h2.at;have hml:(rows.length - (i + (rows.length - j))) * n=(j - i) * n:=by congr 1;omega
 have hpos:(i + (rows.length - j)) * n=i * n + (rows.length - j) * n:=Nat.add_mul _ _ _;have hlen2:((rows.take i++rows.drop j).flatten++(rows.flatten++rest).drop (i * n + (rows.length - j) * n)).length=cap * n:=by
  rw [List.length_append,hwid2.len,hll,List.length_drop,hl0,hpos];omega
 refine ⟨_,Zmn _ t1 T ty' z ht hv hzc (hz1 _) b ((i + (rows.length - j)) * n) _ (by omega) (λ x hx=>?_) (λ x hx=>?_),k _ _ ?_⟩
 ·rw [Zaz hat2,List.getElem?_eq_getElem (by rw [hlen2];omega)];rfl
 ·exact ZcH hat2 hfr (by omega)
 ·have h3:=ZaL (Builtin.zeroCells z.cells (rows.length - (i + (rows.length - j)))).toList _ ((i + (rows.length - j)) * n) _ h2
  have hzl:(Builtin.zeroCells z.cells (rows.length - (i + (rows.length - j)))).toList.length=(j - i) * n:=by simp [Builtin.zeroCells,hzc,hml]
  rw [ZeX _ _ _ (by rw [hzl,hlen2,hpos];omega),List.take_left' (by rw [hwid2.len,hll]),List.append_assoc] at h3;have h4:=ZP.of_pts (cap:=cap) hwid2 (by
   rw [List.length_append,List.length_append,hwid2.len,hll,hzl,List.length_drop,hlen2];omega) h3 hfr
  rw [hll] at h4;exact h4
end
end
end Go.VC
namespace Go.Proofs.YtlplemdmegpoeaaGreatDoor
section
open Go Go.VC Tryz
open Classical
variable {R:Cx} {Hs Rest:List HP} {w:World}
abbrev wtA (x:Wt):Value:=.agg #[.int .i64 x.id,.int .i64 x.cls,.int .i64 x.many,.int .i64 x.time,.float .f64 x.sc]
abbrev wtC (b:Nat) (x:Wt):HP:=pts b (.cells (wtV x).toArray 192 (0,0))
abbrev wtD (b:Nat) (x:Wt):HP:=pts b (.cells (wtV x).toArray 168 (0,0))
theorem ZcT {n lo hi:Int} (hw:Sat R Hs w):Zo prog 239 #[.int .i64 n,.int .i64 lo,.int .i64 hi] w λ v w'=>v=.bool (decide (lo<=n/\n<=hi))/\Sat R Hs w':=by
 apply ZxJ;refine Br.d (λ h=>⟨?_,hw⟩) (λ h=>⟨?_,hw⟩)
 ·congr 1
  rw [decide_eq_decide];omega
 ·rw [decide_eq_false (by omega)]
theorem Zmt {x:Wt} (hw:Sat R Hs w):Zo prog 169 #[wtA x] w λ v w'=>v=.bool (decide x.Ok)/\Sat R Hs w':=by
 apply Zym;refine Zb hw λ b w hw=>?_;have hw:Sat R (wtC b x::Hs) w:=hw;have no:∀ {w},¬ x.Ok->Sat R (wtC b x::Hs) w->(Value.bool false=.bool (decide x.Ok))/\Sat R Hs w:=λ h hw=>⟨by rw [decide_eq_false h],hw.drop⟩;refine ⟨x.id,oA hw,?_⟩;refine (ZcT hw).use ?_;clear hw;rintro _ w ⟨rfl,hw⟩;refine ⟨_,rfl,Br.d (λ h1=>?_) (λ h1=>no (λ h=>h1 h.1) hw)⟩;refine ⟨x.cls,oA hw,?_⟩;refine (ZcT hw).use ?_;clear hw;rintro _ w ⟨rfl,hw⟩;refine ⟨_,rfl,Br.d (λ h2=>?_) (λ h2=>no (λ h=>h2 h.2.1) hw)⟩;refine ⟨x.many,oA hw,?_⟩;refine (ZcT hw).use ?_;clear hw;rintro _ w ⟨rfl,hw⟩;refine ⟨_,rfl,Br.d (λ h3=>?_) (λ h3=>no (λ h=>h3 h.2.2.1) hw)⟩;refine ⟨x.time,oA hw,?_⟩;refine (ZcT hw).use ?_;clear hw;rintro _ w ⟨rfl,hw⟩;refine ⟨_,rfl,?_,hw.drop⟩
 congr 1
 rw [decide_eq_decide];exact ⟨λ h=>⟨h1,h2,h3,h⟩,λ h=>h.2.2.2⟩
def orL (l:List Int):Int:=(l.find? λ x=>decide (x≠0)).getD 0
theorem Zwl {s:Sl} {l:List Int} (hl:l.length<=1000000000) (hw:Sat R (Own s 3 (Zg l)::Hs) w):Zo prog 242 #[.slice s.a s.len s.cap] w λ v w'=>v=.int .i64 (orL l)/\Sat R (Own s 3 (Zg l)::Hs) w':=by
 have hlen:=Own.len hw;rw [List.length_map] at hlen;apply ZxG;refine ⟨λ i w=>∃ j:Nat,i=j/\j<=l.length/\(∀ x∈l.take j,x=0)/\Sat R (Own s 3 (Zg l)::Hs) w,λ i _=>l.length - i.toNat,⟨0,rfl,by omega,by simp,hw⟩,?_⟩;clear hw;rintro _ _ w ⟨j,rfl,hj,hz,hw⟩;refine Br.d (λ h=>?_) (λ h=>?_)
 ·have hj2:j<l.length:=by omega
  refine Own.ix hw (eqS hw) j rfl hj2 ?_;refine Br.ne (λ h2=>⟨?_,hw⟩) (λ h2=>?_)
  ·congr 1
   have e:l.find? (λ x=>decide (x≠0))=some l[j]:=by
    have h3:l=l.take j++l[j]::l.drop (j + 1):=by rw [<-List.drop_eq_getElem_cons hj2,List.take_append_drop]
    rw [List.find?_eq_some_iff_append];exact ⟨by simpa using h2,l.take j,l.drop (j + 1),h3,λ x hx=>by simpa using hz x hx⟩
   unfold orL;rw [e];rfl
  ·rw [Zl (by omega) (by omega)]
   refine ⟨⟨j + 1,by omega,by omega,λ x hx=>?_,hw⟩,by dsimp only;omega⟩;rw [List.take_add_one,List.getElem?_eq_getElem hj2] at hx;rcases List.mem_append.1 hx with hx|hx
   ·exact hz x hx
   ·simp at hx
    rw [hx];exact h2
 ·rw [List.take_of_length_le (by omega)] at hz
  refine ⟨?_,hw⟩
  congr 1
  unfold orL;rw [List.find?_eq_none.2 (λ x hx=>by simpa using hz x hx)];rfl
theorem Zwk {a b:Wt}:orL [Zhr b.sc a.sc,ZuO a.time b.time,ZuO a.id b.id]=a.ord b:=by
 unfold orL Wt.ord ZuO;by_cases h:Zhr b.sc a.sc=0
 ·simp only [List.find?_cons,h,ne_eq,not_true_eq_false,decide_false]
  by_cases h1:a.time<b.time
  ·simp [h1]
  ·by_cases h2:b.time<a.time
   ·simp [h1,h2]
   ·by_cases h3:a.id<b.id
    ·simp [h1,h2,h3]
    ·by_cases h4:b.id<a.id
     ·simp [h1,h2,h3,h4]
     ·simp [h1,h2,h3,h4]
 ·simp [h]
theorem ZiN {a b:Wt} (hw:Sat R Hs w):Zo prog 172 #[wtA a,wtA b] w λ v w'=>v=.int .i64 (a.ord b)/\Sat R Hs w':=by
 apply Zyj;refine Zb hw λ p w hw=>Zb hw λ q w hw=>?_;have hw:Sat R (wtC q b::wtC p a::Hs) w:=hw;refine Zbf hw λ w hw=>?_;refine ⟨b.sc,At.own (λ _ h=>h) (by exact ⟨rfl,trivial⟩),a.sc,At.own (λ _ h=>h) (by exact ⟨rfl,trivial⟩),a.time,At.own (λ _ h=>h) (by exact ⟨rfl,trivial⟩),b.time,At.own (λ _ h=>h) (by exact ⟨rfl,trivial⟩),a.id,At.own (λ _ h=>h) (by exact ⟨rfl,trivial⟩),b.id,At.own (λ _ h=>h) (by exact ⟨rfl,trivial⟩),?_⟩;refine (Zq0 hw).use ?_;clear hw;rintro _ w ⟨rfl,hw⟩;refine ⟨_,rfl,hw,?_⟩;refine (ZfK hw).use ?_;clear hw;rintro _ w ⟨rfl,hw⟩;refine ⟨_,rfl,hw,?_⟩;refine (ZfK hw).use ?_;clear hw;rintro _ w ⟨rfl,hw⟩;refine ⟨_,rfl,hw,?_⟩;refine Zb hw λ r w hw=>⟨hw.absorb,?_⟩;have hw:Sat R (pts r (.cells (Zg [Zhr b.sc a.sc,ZuO a.time b.time,ZuO a.id b.id]).toArray 3 (0,0))::VC.tru::wtC q b::wtC p a::Hs) w:=hw;refine (Zwl (l:=[Zhr b.sc a.sc,ZuO a.time b.time,ZuO a.id b.id]) (by simp) (Zc4 (n:=3) hw)).use ?_;clear hw;rintro _ w ⟨rfl,hw⟩;rw [Zwk];exact ⟨_,rfl,hw.absorb,rfl,hw.drop.drop.drop.drop⟩
abbrev wtT:TypeId:=192
theorem Zq5 {s:Sl} {l:List Wt} {f:Value} {p:Wt->Bool} (hl:l.length<=1000000000)
  (hf:∀ x w,Sat R (ZP 5 s wtT (l.map wtV)::Hs) w->Zak prog cl f [wtA x] w λ e w'=>e=.returned (.bool (p x))/\Sat R (ZP 5 s wtT (l.map wtV)::Hs) w')
  (hw:Sat R (ZP 5 s wtT (l.map wtV)::Hs) w):
  Zo prog 240 #[.slice s.a s.len s.cap,f] w λ v w'=>(∃ i:Int,v=.int .i64 i/\((i=-1/\l.any p=false)\/∃ k:Nat,i=k/\∃ (hk:k<l.length),p l[k]=true/\(l.take k).any p=false))/\Sat R (ZP 5 s wtT (l.map wtV)::Hs) w':=by
 have hlen:=ZP.len hw;rw [List.length_map] at hlen;apply ZxI;refine ⟨λ i w=>∃ j:Nat,i=j/\j<=l.length/\(l.take j).any p=false/\Sat R (ZP 5 s wtT (l.map wtV)::Hs) w,λ i _=>l.length - i.toNat,⟨0,rfl,by omega,by simp,hw⟩,?_⟩;clear hw;rintro _ _ w ⟨j,rfl,hj,hn,hw⟩;refine Br.d (λ h=>?_) (λ h=>?_)
 ·have hj2:j<l.length:=by omega
  refine (ZP.reads hw (eqS hw)).rngM (E:=l) (g:=wtV) hj2 λ a _ he=>?_;refine ⟨_,_,_,_,_,he.z (by exact ⟨rfl,rfl,rfl,rfl,rfl,trivial⟩),?_⟩;refine (hf l[j] _ hw).mono ?_;rintro _ w ⟨rfl,hw⟩;refine ⟨_,rfl,Br.mk (λ h=>⟨⟨j,rfl,.inr ⟨j,rfl,hj2,h,hn⟩⟩,hw⟩) (λ h=>?_)⟩;rw [Zl (by omega) (by omega)];refine ⟨⟨j + 1,by omega,by omega,?_,hw⟩,by dsimp only;omega⟩;rw [List.take_add_one,List.getElem?_eq_getElem hj2,List.any_append,hn];simp [h]
 ·rw [List.take_of_length_le (by omega)] at hn
  exact ⟨⟨-1,rfl,.inl ⟨rfl,hn⟩⟩,hw⟩
theorem Zr3 {b:Nat} {id:Int} {x:Wt} (hw:Sat R (pts b (.cells [.int .i64 id].toArray 3 (0,0))::Hs) w):Zo prog 241 #[wtA x,.pointer (some ⟨b,0,none⟩)] w λ v w'=>v=.bool (decide (x.id=id))/\Sat R (pts b (.cells [.int .i64 id].toArray 3 (0,0))::Hs) w':=by
 apply ZxH;refine Zb hw λ p w hw=>?_;have hw:Sat R (wtC p x::pts b (.cells [.int .i64 id].toArray 3 (0,0))::Hs) w:=hw;refine ⟨x.id,oA hw,Zd.mk rfl ⟨id,oA hw,?_,hw.drop⟩⟩
 congr 1
theorem Zht {q:Nat} {l:List Wt} {id:Int} (hl:l.length<=1000000000) (hw:Sat R (ZF q l::Hs) w):
  Zo prog 170 #[.pointer (some ⟨q,0,none⟩),.int .i64 id] w λ v w'=>(∃ i:Int,v=.int .i64 i/\((i=-1/\ZgA id l=false)\/∃ k:Nat,i=k/\∃ (hk:k<l.length),l[k].id=id/\ZgA id (l.take k)=false))/\Sat R (ZF q l::Hs) w':=by
 obtain ⟨s,hw⟩:=Sat.qu.1 hw;apply Zyl;refine Zb hw λ b w hw=>?_;have hw:Sat R (pts q (ZaB s)::pts b (.cells [.int .i64 id].toArray 3 (0,0))::ZP 5 s wtT (l.map wtV)::Hs) w:=hw.swap;refine Zd.mk rfl ⟨s,oA hw,?_⟩;have hw:Sat R (ZP 5 s wtT (l.map wtV)::pts b (.cells [.int .i64 id].toArray 3 (0,0))::pts q (ZaB s)::Hs) w:=hw.arr;refine (Zq5 (p:=λ x=>decide (x.id=id)) hl (λ x w hw=>Zak.mk (by kernel_rfl) ((Zr3 hw.swap).use λ v w' h=>⟨by rw [h.1],h.2.swap⟩)) hw).use ?_;clear hw;rintro _ w ⟨⟨i,rfl,hi⟩,hw⟩;refine ⟨i,rfl,⟨i,rfl,?_⟩,?_⟩
 ·rcases hi with hi|⟨k,rfl,hk,h1,h2⟩
  ·exact .inl hi
  ·exact .inr ⟨k,rfl,hk,of_decide_eq_true h1,h2⟩
 ·have hw:Sat R (pts b (.cells [.int .i64 id].toArray 3 (0,0))::pts q (ZaB s)::ZP 5 s wtT (l.map wtV)::Hs) w:=hw.arr
  exact Sat.qu.2 ⟨s,hw.drop⟩
end
section
open Go Go.VC Tryz
open Classical
variable {R:Cx} {Hs Rest:List HP} {w:World}
theorem Zt4 : (f245.name == "runtime.NumGoroutine") = false := by kernel_rfl
theorem Zt6:f245.body.isNone=true:=by kernel_rfl
theorem Zt3:Extern.findNext f245=none:=by kernel_rfl
theorem Zt5:∃ tR,Extern.find f245=some (Extern.SlicesOverlaps.overlaps #[ 188,188 ] #[tR]):=⟨4,by kernel_rfl⟩
theorem elW:ElN prog 188 188 wtT 5 40:=⟨underlying188,⟨_,underlying188⟩,by kernel_rfl⟩
theorem szW1:Zhc prog wtT=5:=by kernel_rfl
theorem szW (w:World):(sizeOf wtT).run prog w=.ok 5 w:=by
 obtain ⟨i,hi⟩:=Zni (P:=prog) (t:=wtT) (by rw [szW1];decide);have:=Za6 hi w;rw [szW1] at this;exact this
theorem Zg3 (x:Wt):(wtV x).length=5:=rfl
theorem Zdu (l:List Wt):Wid 5 (l.map wtV):=λ y hy=>by
 obtain ⟨x,_,rfl⟩:=List.mem_map.1 hy;rfl
theorem ZvN (x:Wt):Za0 (wtV x)=true:=rfl
theorem Zp2 (l:List Wt):Za0 (l.map wtV).flatten=true:=by
 unfold Za0;rw [List.all_eq_true];intro v hv;obtain ⟨r,h1,h2⟩:=List.mem_flatten.1 hv;obtain ⟨x,_,rfl⟩:=List.mem_map.1 h1;exact List.all_eq_true.1 (ZvN x) v h2
theorem ZsD {b k m:Nat} (h:m≠k):Zcn (some ⟨b,0,none⟩) k m 5=some ⟨b,k * 5,none⟩:=by
 simp only [Zcn,if_neg h,Option.map_some,Zz];simp
theorem Zih {b1 b2 o:Nat} {x:Wt} {T2:TypeId} {l:List Value} {fr:Nat × Nat} {la lc:Nat} {Q:Ending->World->Prop} (hl:l≠[])
  (hw:Sat R (pts b2 (.cells l.toArray T2 fr)::wtC b1 x::Hs) w) (k:Q (.returned (.bool false)) w):
  Ext prog 245 #[.slice (some ⟨b1,0,none⟩) 1 1,.slice (some ⟨b2,o,none⟩) la lc] w Q:=by
 have h2:=hw.at;have h1:=hw.swap.at;have hne:b1≠b2:=by
  rintro rfl;obtain ⟨h,hA,hd,h',hB,hd',_⟩:=hw;rw [show h=_ from hA] at hd hd'
  rw [show h'=_ from hB] at hd'
  have:=hd' b1 (by simp [Z1.one]);simp only [Cx.add,Z1.add,Z1.one] at this;split at this<;>simp_all
 obtain ⟨tR,hf⟩:=Zt5;refine ⟨.bool false,w,?_,k⟩;rw [run_callFunc_extern func245 Zt4 Zt6 Zt3 hf];rw [Lib.run_overlaps_apart (P:=prog) w 188 tR wtT underlying188 5 (λ w=>szW w) ⟨b1,0,none⟩ ⟨b2,o,none⟩ 1 1 la lc hne wtT T2 5 l.length ?_ ?_ ?_ ?_ ?_]
 ·rfl
 ·simp only [World.shape?,h1];rfl
 ·simp only [World.shape?,h2];simp
 ·cases l with
  |nil=>exact absurd rfl hl
  |cons a l=>simp
 ·simp [World.frozen?,h1]
 ·simp [World.frozen?,h1]
theorem Zva {b:Nat} {x:Wt} (h:w.heap[b]? =some (.cells (wtV x).toArray wtT (0,0))):∀ j v,(wtV x)[j]? =some v->w.cell? ((⟨b,0,none⟩:Addr).add j)=some v:=by
 intro j v hj;rw [Zz,Zaz h,Nat.zero_add];exact hj
theorem ZkN {b o:Nat} {xs rest:List Value} {T:TypeId} {fr:Nat × Nat} (h:w.heap[b]? =some (.cells (xs++rest).toArray T fr)):∀ j v,(xs.drop o)[j]? =some v->w.cell? ((⟨b,o,none⟩:Addr).add j)=some v:=by
 intro j v hj;rw [Zz,Zaz h];rw [List.getElem?_drop] at hj;have hlt:=(List.getElem?_eq_some_iff.1 hj).1;rw [List.getElem?_append_left (by omega)];exact hj
theorem Zla {s:Sl} {l:List Wt} {x:Wt} {p b:Nat} (hl:l.length<=1000000000) (hp:p<=l.length) (hw:Sat R (ZP 5 s wtT (l.map wtV)::wtC b x::Hs) w):
  Zo prog 173 #[.slice s.a s.len s.cap,.int .i64 p,.slice (some ⟨b,0,none⟩) 1 1] w λ v w'=>∃ t:Sl,v=.slice t.a t.len t.cap/\Sat R (ZP 5 t wtT ((l.take p++x::l.drop p).map wtV)::wtC b x::Hs) w':=by
 have hlen:=ZP.len hw;have hcap:=ZP.cap (by omega) hw;rw [List.length_map] at hlen;have hrl:(l.map wtV).length=l.length:=List.length_map _;refine Zyi s p ⟨some ⟨b,0,none⟩,1,1⟩ _ _ ?_;unfold B173;dsimp only;have w1:IntKind.i64.wrap ((s.len:Int) + ((1:Nat):Int))=((l.length + 1:Nat):Int):=by rw [Zl (by omega) (by omega)];omega
 have w2:IntKind.i64.wrap (((l.length + 1:Nat):Int) - p)=((l.length + 1 - p:Nat):Int):=by rw [Zl (by omega) (by omega)];omega
 have w3:IntKind.i64.wrap ((p:Int) + ((1:Nat):Int))=((p + 1:Nat):Int):=by rw [Zl (by omega) (by omega)];omega
 rw [w1,w2,w3];simp only [Int.toNat_natCast];have hA:((l.map wtV).take p).flatten.length=p * 5:=by rw [(Zdu l).take.len,List.length_take,hrl,Nat.min_eq_left hp]
 have hD:((l.map wtV).drop p).flatten.length=(l.length - p) * 5:=by rw [(Zdu l).drop.len,List.length_drop,hrl]
 have hDo:Za0 ((l.map wtV).drop p).flatten=true:=by rw [<-List.map_drop];exact Zp2 _
 have hrows:(l.map wtV).flatten=((l.map wtV).take p).flatten++((l.map wtV).drop p).flatten:=by rw [<-List.flatten_append,List.take_append_drop]
 have hin:((l.map wtV).take p).flatten++wtV x++((l.map wtV).drop p).flatten=((l.take p++x::l.drop p).map wtV).flatten:=by simp [List.map_take,List.map_drop]
 have hinl:(l.take p++x::l.drop p).length=l.length + 1:=by simp;omega
 refine ⟨by omega,by omega,Br.f rfl (Br.e (λ h=>?_) (λ h=>Br.d (λ h2=>?_) (λ h2=>?_)))⟩
 ·-- behind all
  refine ZgE elW hw (Zoo elW.hk 1 hw rfl rfl) (Wid.one rfl) (by simp;omega) (by simp;omega) λ t w hw=>⟨t,rfl,?_⟩;have e:l.map wtV++[wtV x]=(l.take p++x::l.drop p).map wtV:=by
   rw [List.take_of_length_le (by omega),List.drop_eq_nil_of_le (by omega)];simp
  rw [e] at hw;exact hw
 ·-- no room
  refine ⟨by omega,by omega,?_⟩;refine Zg2 underlying188 underlying3 elW.hi (by omega) (by omega) (by rw [hrl];omega) (by omega) (by omega) (by omega) hw λ t w ys hys hw=>?_;have hyw:Wid 5 ys:=λ y hy=>ZP.wid hw y (List.mem_append_right _ hy);have htl:=ZP.len hw;have hxs:((l.map wtV).take p++ys).length=l.length + 1:=by rw [List.length_append,List.length_take,hrl,hys,Nat.min_eq_left hp];omega
  rw [hxs] at htl;refine ⟨by omega,by omega,?_⟩;obtain ⟨hwid,⟨_,h0,_⟩|⟨b',rest,fr,cap,rfl,hcl,hfr,hw⟩⟩:=ZP.cases hw
  ·have:=congrArg List.length h0
   rw [hxs] at this;cases this
  dsimp only at htl ⊢;rw [List.flatten_append] at hw hcl;have hY:ys.flatten.length=(l.length + 1 - p) * 5:=by rw [hyw.len,hys]
  have hcl2:=hcl;rw [List.length_append,List.length_append,hA,hY] at hcl2;have hb1:=(hw.takeP (b:=b) inferInstance).at;rw [hxs,ZsD (by omega)];refine Zez underlying188 (by kernel_rfl) hw (by rw [hcl];exact hfr) (cs:=wtV x) (by show 5=Nat.min 1 _ * 5;rw [show Nat.min 1 (l.length + 1 - p)=1 from Nat.min_eq_left (by omega)]) (by rw [hcl];show p * 5 + 5<=_;omega) (Zva hb1) rfl λ _ w hw=>?_
  refine Zu hw λ w hw=>⟨by omega,by omega,by omega,by omega,?_⟩;obtain ⟨_,⟨_,h0,_⟩|⟨bs,rest2,fr2,cap2,rfl,hcl3,hfr2,hws⟩⟩:=ZP.cases hw.swap
  ·have h3:l.length=0:=by
    have:=congrArg List.length h0;rw [hrl] at this;exact this
   omega
  clear w1 w2 w3;dsimp only at hlen hcap h h2 ⊢;rw [hrl] at h hcap;have hsat:=hws.at;rw [ZsD (by omega),ZsD (by omega)];have hdrop:(l.map wtV).flatten.drop (p * 5)=((l.map wtV).drop p).flatten:=(Zdu l).drop_flat p;refine Zez underlying188 (by kernel_rfl) hws.swap (by rw [Zbw,hcl];exact hfr) (cs:=((l.map wtV).drop p).flatten) (by rw [hD,hrl,show Nat.min (l.length - p) (l.length + 1 - (p + 1))=l.length - p from Nat.min_eq_left (by omega)])
   (by rw [Zbw,hcl,hD];omega) (by rw [<-hdrop];exact ZkN hsat) hDo λ _ w hw=>?_
  rw [show (p + 1) * 5=p * 5 + (wtV x).length by rw [Zg3];omega,putN hA (by rw [hY,hD,Zg3];omega),hin] at hw;have hfin:=ZP.of_pts (cap:=cap) (Zdu _) (by rw [List.length_append,(Zdu _).len,List.length_map,hinl];omega) hw hfr;rw [List.length_map,hinl] at hfin;refine ⟨⟨some ⟨b',0,none⟩,l.length + 1,cap⟩,rfl,?_⟩;exact Sat.cons (λ R' h=>h.drop) hfin
 ·-- room
  obtain ⟨_,⟨_,h0,_⟩|⟨bs,rest,fr,cap,rfl,hcl,hfr,hws⟩⟩:=ZP.cases hw
  ·have h3:l.length=0:=by
    have:=congrArg List.length h0;rw [hrl] at this;exact this
   omega
  clear w1 w2 w3;dsimp only at hlen hcap h h2 ⊢;rw [hrl] at h hcap;have hcl2:=hcl;rw [List.length_append,(Zdu l).len,hrl] at hcl2;have hroom:5<=rest.length:=by omega
  refine ⟨by omega,by omega,by omega,by omega,?_⟩;rw [ZsD (by omega)];refine Zih (by intro h0;have h5:=congrArg List.length h0;rw [hcl,List.length_nil] at h5;omega) hws ?_;refine ⟨_,rfl,Br.t rfl ?_⟩;refine Zu hws λ w hws=>⟨by omega,by omega,by omega,by omega,?_⟩;rw [ZsD (by omega)];have hsat:=hws.at;have hdrop:(l.map wtV).flatten.drop (p * 5)=((l.map wtV).drop p).flatten:=(Zdu l).drop_flat p;refine Zez underlying188 (by kernel_rfl) hws (by rw [hcl];exact hfr) (cs:=((l.map wtV).drop p).flatten) (by rw [hD,show Nat.min (l.length + 1 - p) (l.length + 1 - (p + 1))=l.length - p from (Nat.min_eq_right (by omega)).trans (by omega)])
   (by rw [hcl,hD];omega) (by rw [<-hdrop];exact ZkN hsat) hDo λ _ w hw=>?_
  refine ⟨by omega,by omega,?_⟩;have hb1:=hw.swap.at;refine Zez underlying188 (by kernel_rfl) hw (by rw [Zbw,hcl];exact hfr) (cs:=wtV x) (by show 5=Nat.min 1 _ * 5;rw [show Nat.min 1 (l.length + 1 - p)=1 from Nat.min_eq_left (by omega)]) (by rw [Zbw,hcl];show p * 5 + 5<=_;omega) (Zva hb1) rfl λ _ w hw=>?_
  rw [hrows,show (p + 1) * 5=p * 5 + (wtV x).length by rw [Zg3];omega,ZBK hA (by rw [Zg3];exact hroom),hin] at hw;have hfin:=ZP.of_pts (cap:=cap) (Zdu _) (by rw [List.length_append,(Zdu _).len,List.length_map,hinl,List.length_drop,Zg3];omega) hw hfr;rw [List.length_map,hinl] at hfin;exact ⟨_,rfl,hfin⟩
theorem zvW (w:World):(zeroValue wtT).run prog w=.ok (.agg #[.int .i64 0,.int .i64 0,.int .i64 0,.int .i64 0,.float .f64 0]) w:=by
 rw [zeroValue192 ]
theorem Zlb {s:Sl} {l:List Wt} {k:Nat} (hl:l.length<=1000000000) (hk:k<l.length) (hw:Sat R (ZP 5 s wtT (l.map wtV)::Hs) w):
  Zo prog 176 #[.slice s.a s.len s.cap,.int .i64 k,.int .i64 ((k + 1:Nat):Int)] w λ v w'=>∃ t:Sl,v=.slice t.a t.len t.cap/\Sat R (ZP 5 t wtT ((l.take k++l.drop (k + 1)).map wtV)::Hs) w':=by
 have hlen:=ZP.len hw;have hcap:=ZP.cap (by omega) hw;rw [List.length_map] at hlen;apply Zyf;unfold B176;simp only [Int.toNat_natCast];refine ⟨by omega,by omega,by omega,by omega,by omega,by omega,Br.e (λ h=>by omega) (λ _=>?_)⟩;refine Zu hw λ w hw=>⟨by omega,by omega,by omega,by omega,?_⟩;refine Zsz (z:=.agg #[.int .i64 0,.int .i64 0,.int .i64 0,.int .i64 0,.float .f64 0]) (i:=k) (j:=k + 1) (rows:=l.map wtV) elW.ht elW.hi zvW rfl (λ m v hv=>?_) (Zp2 l) (by omega) (by omega) (by rw [List.length_map];omega) hw λ t w hw=>⟨t,rfl,?_⟩
 ·unfold Builtin.zeroCells at hv
  rw [Array.mem_toList_iff,Array.mem_map] at hv;obtain ⟨i,_,rfl⟩:=hv;have h5:i % 5<5:=Nat.mod_lt _ (by omega);show ((#[Value.int .i64 0,.int .i64 0,.int .i64 0,.int .i64 0,.float .f64 0]:Array Value)[i % 5]!).oneCell'=true;generalize i % 5=j at h5
  match j,h5 with
  |0,_=>rfl
  |1,_=>rfl
  |2,_=>rfl
  |3,_=>rfl
  |4,_=>rfl
 ·rw [List.map_append,List.map_take,List.map_drop]
  exact hw
end
end Go.Proofs.YtlplemdmegpoeaaGreatDoor
