/- The formulas of functions of this seat's translation, printed by a program of mine off the translation; each is proved equal to 'fnF' of the function's body, so it is enough for the call. No condition. -/
import Derived.Test.YtlplemdmegpoeaaGreatDoorB4
import Derived.Test.YtlplemdmegpoeaaGreatDoorB2
import Derived.Test.YtlplemdmegpoeaaGreatDoorB1
import Derived.ProofKit
import Derived.OpenShut
import Derived.ShutString
import Derived.ChangeOld
import Derived.Below
import Derived.Lib.SmallJoins
import Derived.Test.YtlplemdmegpoeaaGreatDoorB3
import Derived.Maps.RangeRun
import Derived.Lib.Overlaps
set_option linter.unusedVariables false
set_option linter.unusedSimpArgs false
set_option maxHeartbeats 8000000
namespace Go.Proofs.YtlplemdmegpoeaaGreatDoor
section
open Go Go.VC Tryz
set_option maxRecDepth 10000
def B37 (c:Bool) (b:Int) (a:List PanicEntry->World->Prop) (K:nK) (w : nW):Prop:=
 Br (!c)
 (a [⟨.iface 29 (nI b),false,false⟩] w)
 (K (.tuple #[]) w)
theorem ZBu (c:Bool) (b:Int) (a:List PanicEntry->World->Prop) (K:nK) (w : nW) (h:B37 c b a K w):Zba prog 37 #[.bool c,nI b] w a K:=cqx (sk:=.leaf) h func37
def B99 (a:Int) (b:List PanicEntry->World->Prop) (K:nK) (w : nW):Prop:=
 Br (a !=0)
 (b [⟨.iface 29 (nI a),false,false⟩] w)
 (K (.tuple #[]) w)
theorem ZAU (b:Int) (a:List PanicEntry->World->Prop) (K:nK) (w : nW) (h:B99 b a K w):Zba prog 99 #[nI b] w a K:=cqx (sk:=.leaf) h func99
def B36 (g:Option Addr) (b:Value) (K:World->Prop) (w : nW):Prop:=
 ∃ c:Bool,(∀ a,(λ a=>a=w) a->((do eqGuard BinOp.neq 20 (Operand.tmp 4) (Operand.const Value.nilIface) b .nilIface;binOp BinOp.neq 20 b .nilIface:Sem Value)).run prog a=.ok (.bool c) a)/\
 Br c
 (∃ d:Int,(∀ a,(λ a=>a=w) a->((Instr.typeAssert b 20 29 false)).run prog a=.ok (nI d) a)/\
 Zc g λ f=>
 ∃ e,(St 33 (f) (.agg #[nI d,.string (ByteArray.mk #[]),nI 0,nI 0,nI 0,nI 0,nI 0,.slice none 0 0,.slice none 0 0]) w e)/\
 K e)
 (K w)
theorem Zx7 (b:Option Addr) (a:Value) (K:World->Prop) (w : nW) (h:B36 b a K w):CallsD prog 36 #[.pointer b] (.panicking [⟨a,false,false⟩]) w λ c d e=>(∃ f,c=.returned f)/\d=.panicking [⟨a,true,false⟩]/\K e:=
 Zlz (sk:=.leaf) ZnH mixed func36 (by kernel_rfl) (Nat.le_of_ble_eq_true (by kernel_rfl)) (cast (by kernel_rfl) h)
theorem Zx6 (a:Option Addr) (K:World->Prop) (w : nW) (h:B36 a .nilIface K w):CallsD prog 36 #[.pointer a] .returning w λ b c d=>(∃ e,b=.returned e)/\c=.returning/\K d:=
 Zi1 (sk:=.leaf) ZnH mixed func36 (by kernel_rfl) (Nat.le_of_ble_eq_true (by kernel_rfl)) (cast (by kernel_rfl) h)
def B38 (Q:Int) (T:ByteArray) (U:Int) (V:Int) (X:Int) (Y:Int) (Z:Nat) (aa:ByteArray) (ab:Int) (r:Sl) (q:Sl) (K:nK) (w : nW):Prop:=
 New (.cells #[nI Q,.string T,nI U,nI V,nI X,nI Y,.float .f64 Z,.string aa,nI ab,r.v,q.v] 40 (0,0)) (λ c j=>
 ∃ H,(Aw j ⟨c,0 + 2,none⟩ [nI H])/\
 ∃ u,(Aw j ⟨c,0 + 3,none⟩ [nI u])/\
 ∃ v,(Aw j ⟨c,0 + 4,none⟩ [nI v])/\
 ∃ x,(Aw j ⟨c,0 + 8,none⟩ [nI x])/\
 New (.cells #[nI H,nI u,nI v,nI x] 3 (0,0)) (λ O J=>
 ∃ g:Sl,(Aw J ⟨c,0 + 8 + 1,none⟩ [g.v])/\
 ∃ L:World,∃ i:Sl,((Builtin.append_ #[30,30] 30 #[.slice ((some ⟨O,0,none⟩)) 4 4,g.v]).run prog J=.ok (i.v) L)/\
 ∃ (n:Int->World->Prop) (M:Int->World->Nat),(n 0 L)/\∀ (ad:Env) (f:Int) (e:World),n f e->
 Br (decide (f<(↑i.len:Int)))
 (Rng f i.len (Zc i.a λ N=>
 ∃ y,(Aw e (Addr.add N f.toNat) [nI y])/\
 nC 97 #[nI y] e λ ac s=>
 ∃ z,(ac=.returned (.bool z))/\
 Br z
 (K (.bool false) s)
 ((n (wI (f + 1)) s)/\M (wI (f + 1)) s<M f e)))
 (∃ (o:Bool->World->Prop),(∃ A,(Aw e ⟨c,0 + 1,none⟩ [.string A])/\
 Br (decide ((↑A.size:Int)<=16))
 (∃ C,(Aw e ⟨c,0 + 7,none⟩ [.string C])/\
 o (decide ((↑C.size:Int)<=16)) e)
 (o false e))/\
 ∀ (ae:Env) (I:Bool) (k:World),o I k->
 ∃ (p:Bool->World->Prop),(∃ l:Sl,(Aw k ⟨c,0 + 8 + 1,none⟩ [l.v])/\
 Br (decide ((↑l.len:Int)<=16))
 (∃ m:Sl,(Aw k ⟨c,0 + 10,none⟩ [m.v])/\
 p (decide ((↑m.len:Int)<=16)) k)
 (p false k))/\
 ∀ (af:Env) (t:Bool) (d:World),p t d->
 Br I
 (Br t
 (∃ D,(Aw d ⟨c,0,none⟩ [nI D])/\
 Br (decide (D >= 1))
 (∃ E,(Aw d ⟨c,0,none⟩ [nI E])/\
 Br (decide (E<=9))
 (∃ F,(Aw d ⟨c,0 + 5,none⟩ [nI F])/\
 Br (decide (F >= 0))
 (∃ G,(Aw d ⟨c,0 + 5,none⟩ [nI G])/\
 K (.bool (decide (G<=1099511627776))) d)
 (K (.bool false) d))
 (K (.bool false) d))
 (K (.bool false) d))
 (K (.bool false) d))
 (K (.bool false) d))) j) w
def sk38:Sk:=(.seq .leaf (.seq .leaf (.seq (.seq .leaf (.block (.loop [23] [(.int .i64)] [2,5,23,24,25,26,27,28,29,30] .leaf))) (.cut [6] [.bool] [6,31,32,33,34,35,36,37,38,39,40] .leaf (.cut [7] [.bool] [7,41,42,43,44,45,46,47,48,49,50,51] .leaf .leaf)))))
theorem ZBt (d:Int) (e:ByteArray) (f:Int) (g:Int) (i:Int) (j:Int) (k:Nat) (l:ByteArray) (m:Int) (c:Sl) (b:Sl) (K:nK) (w : nW) (h:B38 d e f g i j k l m c b K w):Zm prog 38 #[.agg #[nI d,.string e,nI f,nI g,nI i,nI j,.float .f64 k,.string l,nI m,c.v,b.v]] w K:=cq (sk:=sk38) h func38
def B97 (a:Int) (K:nK) (w : nW):Prop:=
 Br (decide (a<0))
 (K (.bool true) w)
 (K (.bool (decide (a>9999))) w)
theorem ZAW (a:Int) (K:nK) (w : nW) (h:B97 a K w):Zm prog 97 #[nI a] w K:=cq (sk:=.leaf) h func97
def B10  (K:nK) (w : nW):Prop:=
 New (.map #[] 0) (λ a d=>
 New (.map #[] 0) (λ b e=>
 New (.cells #[nI 0,nI 1,.map ((some a)),.map ((some b))] 80 (0,0)) (λ c f=>
 K (.pointer ((some ⟨c,0,none⟩))) f) e) d) w
theorem ZBH  (K:nK) (w : nW) (h:B10  K w):Zm prog 10 #[] w K:=cq (sk:=.leaf) h func10
def B60 (m:Option Addr) (i:Sl) (K:nK) (w : nW):Prop:=
 ∃ (g:Int->World->Prop) (p:Int->World->Nat),(g 0 w)/\∀ (x:Env) (b:Int) (f:World),g b f->
 Br (decide (b<(↑i.len:Int)))
 (Rng b i.len (Zc i.a λ q=>
 ∃ j,(Aw f (Addr.add q b.toNat) [nI j])/\
 Drw f λ l v=>
 Zc m λ r=>
 ∃ c:Sl,(At l (Addr.add r 0) [c.v])/\
 nC 128 #[.int .u64 (IntKind.u64.wrap (if 0>j then 0 else j))] v λ t n=>
 ∃ d:Sl,(t=.returned (d.v))/\
 (l n)/\
 ∃ o:World,∃ e:Sl,((Builtin.append_ #[47,47] 47 #[c.v,d.v]).run prog n=.ok (e.v) o)/\
 Zc m λ s=>
 ∃ k,(St 47 (Addr.add s 0) (e.v) o k)/\
 (g (wI (b + 1)) k)/\p (wI (b + 1)) k<p b f))
 (K (.tuple #[]) f)
def sk60:Sk:=(.seq .leaf (.block (.loop [8] [(.int .i64)] [5,8,9,10,11,12,13,14,15,16,17,18,19,20,21,22,23,24] .leaf)))
theorem ZBj (c:Option Addr) (b:Sl) (K:nK) (w : nW) (h:B60 c b K w):Zm prog 60 #[.pointer c,b.v] w K:=cq (sk:=sk60) h func60
def B218 (c:Option Addr) (b:Sl) (K:nK) (w : nW):Prop:=
 New (.cells #[nI ((↑b.len:Int))] 3 (0,0)) (λ d g=>
 nC 60 #[.pointer c,.slice ((some ⟨d,0,none⟩)) 1 1] g λ e i=>
 (e=.returned (.tuple #[]))/\
 nC 60 #[.pointer c,b.v] i λ f j=>
 (f=.returned (.tuple #[]))/\
 K (.tuple #[]) j) w
theorem ZyJ (c:Option Addr) (b:Sl) (K:nK) (w : nW) (h:B218 c b K w):Zm prog 218 #[.pointer c,b.v] w K:=cq (sk:=.leaf) h func218
def B63 (g:Option Addr) (e:Sl) (K:nK) (w : nW):Prop:=
 Drw w λ f o=>
 Zc g λ m=>
 ∃ d:Sl,(At f (Addr.add m 0) [d.v])/\
 nC 83 #[e.v] o λ n i=>
 ∃ b:Sl,(n=.returned (b.v))/\
 (f i)/\
 ∃ j:World,∃ c:Sl,((Builtin.append_ #[47,47] 47 #[d.v,b.v]).run prog i=.ok (c.v) j)/\
 Zc g λ l=>
 ∃ k,(St 47 (Addr.add l 0) (c.v) j k)/\
 K (.tuple #[]) k
theorem ZBi (c:Option Addr) (b:Sl) (K:nK) (w : nW) (h:B63 c b K w):Zm prog 63 #[.pointer c,b.v] w K:=cq (sk:=.leaf) h func63
def B157 (g:Option Addr) (f:Int) (K:nK) (w : nW):Prop:=
 New (.cells #[.pointer g] 216 (0,0)) (λ d c=>
 ∃ a,(Aw c ⟨d,0,none⟩ [.pointer a])/\
 nC 93 #[.pointer a,.int .u64 (IntKind.u64.wrap f)] c λ e j=>
 ∃ b,(e=.returned (.int .u64 b))/\
 K (nI (wI b)) j) w
theorem Zzl (b:Option Addr) (a:Int) (K:nK) (w : nW) (h:B157 b a K w):Zm prog 157 #[.agg #[.pointer b],nI a] w K:=cq (sk:=.leaf) h func157
def B214 (l:Option Addr) (k:Int) (K:nK) (w : nW):Prop:=
 New (.cells #[.pointer l] 216 (0,0)) (λ i f=>
 ∃ d,(Aw f ⟨i,0,none⟩ [.pointer d])/\
 nC 94 #[.pointer d,nI k] f λ j g=>
 ∃ c:Sl,(j=.returned (c.v))/\
 ∃ e:ByteArray,(∀ b,(λ b=>b=g) b->((convert 47 9 (c.v))).run prog b=.ok (.string e) b)/\
 K (.string e) g) w
theorem ZyN (b:Option Addr) (a:Int) (K:nK) (w : nW) (h:B214 b a K w):Zm prog 214 #[.agg #[.pointer b],nI a] w K:=cq (sk:=.leaf) h func214
def B215 (i:Option Addr) (K:nK) (w : nW):Prop:=
 New (.cells #[.pointer i] 216 (0,0)) (λ e d=>
 ∃ a,(Aw d ⟨e,0,none⟩ [.pointer a])/\
 nC 93 #[.pointer a,.int .u64 18446744073709551615] d λ f k=>
 ∃ b,(f=.returned (.int .u64 b))/\
 nC 229 #[.int .u64 b] k λ g l=>
 ∃ c,(g=.returned (.float .f64 c))/\
 K (.float .f64 c) l) w
theorem ZyM (a:Option Addr) (K:nK) (w : nW) (h:B215 a K w):Zm prog 215 #[.agg #[.pointer a]] w K:=cq (sk:=.leaf) h func215
def B216 (m:Int) (n:Value) (K:nK) (w : nW):Prop:=
 ∃ (f:Sl->Int->World->Prop) (j:Sl->Int->World->Nat),(f ⟨none,0,0⟩ 0 w)/\∀ (q:Env) (b:Sl) (d:Int) (e:World),f b d e->
 Br (decide (d<m))
 (Zbq prog cl n [] e λ l o=>
 ∃ i,(l=.returned (nI i))/\
 New (.cells #[nI i] 3 (0,0)) (λ k p=>
 ∃ g:World,∃ c:Sl,((Builtin.append_ #[30,30] 30 #[b.v,.slice ((some ⟨k,0,none⟩)) 1 1]).run prog p=.ok (c.v) g)/\
 (f c (wI (d + 1)) g)/\j c (wI (d + 1)) g<j b d e) o)
 (K (b.v) e)
def ZCl:Sk:=(.seq .leaf (.seq .leaf (.seq (.seq .leaf (.block (.loop [5,7] [.sl,(.int .i64)] [5,7,8,9,10,11,12,13,14] .leaf))) .leaf)))
theorem ZyL (a:Int) (b:Value) (K:nK) (w : nW) (h:B216 a b K w):Zm prog 216 #[nI a,b] w K:=cq (sk:=ZCl) h func216
def B217 (m:Int) (n:Value) (K:nK) (w : nW):Prop:=
 ∃ (f:Sl->Int->World->Prop) (j:Sl->Int->World->Nat),(f ⟨none,0,0⟩ 0 w)/\∀ (q:Env) (b:Sl) (d:Int) (e:World),f b d e->
 Br (decide (d<m))
 (Zbq prog cl n [] e λ l o=>
 ∃ i,(l=.returned (.float .f64 i))/\
 New (.cells #[.float .f64 i] 35 (0,0)) (λ k p=>
 ∃ g:World,∃ c:Sl,((Builtin.append_ #[38,38] 38 #[b.v,.slice ((some ⟨k,0,none⟩)) 1 1]).run prog p=.ok (c.v) g)/\
 (f c (wI (d + 1)) g)/\j c (wI (d + 1)) g<j b d e) o)
 (K (b.v) e)
def ZCk:Sk:=(.seq .leaf (.seq .leaf (.seq (.seq .leaf (.block (.loop [5,7] [.sl,(.int .i64)] [5,7,8,9,10,11,12,13,14] .leaf))) .leaf)))
theorem ZyK (a:Int) (b:Value) (K:nK) (w : nW) (h:B217 a b K w):Zm prog 217 #[nI a,b] w K:=cq (sk:=ZCk) h func217
def B141 (D:Sl) (K:nK) (w : nW):Prop:=
 New (.cells #[nI 0,.string (ByteArray.mk #[]),nI 0,nI 0,nI 0,nI 0,.float .f64 0,.string (ByteArray.mk #[]),nI 0,.slice none 0 0,.slice none 0 0] 40 (0,0)) (λ j e7=>
 nC 91 #[D.v] e7 λ d6 e8=>
 ∃ cw,(d6=.returned (.pointer cw))/\
 New (.cells #[.pointer none] 216 (0,0)) (λ c e9=>
 ∃ dr,(St 216 ⟨c,0,none⟩ (.agg #[.pointer cw]) e9 dr)/\
 ∃ (e:Option Addr->World->Prop),(Drw dr λ b dz=>
 ∃ E,(At b ⟨c,0,none⟩ [.pointer E])/\
 ∃ A,(At b ⟨c,0,none⟩ [.pointer A])/\
 ∃ g,(At b ⟨c,0,none⟩ [.pointer g])/\
 (nC 157 #[.agg #[.pointer E],nI 9] dz λ d7 L=>
 ∃ i,(d7=.returned (nI i))/\
 (b L)/\
 (nC 214 #[.agg #[.pointer A],nI 16] L λ ei V=>
 ∃ k,(ei=.returned (.string k))/\
 (b V)/\
 (nC 213 #[.pointer ((some ⟨c,0,none⟩))] V λ et X=>
 ∃ y,(et=.returned (nI y))/\
 (b X)/\
 (nC 213 #[.pointer ((some ⟨c,0,none⟩))] X λ e1 Y=>
 ∃ C,(e1=.returned (nI C))/\
 (b Y)/\
 (nC 213 #[.pointer ((some ⟨c,0,none⟩))] Y λ e2 G=>
 ∃ F,(e2=.returned (nI F))/\
 (b G)/\
 (nC 157 #[.agg #[.pointer g],nI 1099511627776] G λ e3 cx=>
 ∃ a2,(e3=.returned (nI a2))/\
 (b cx)/\
 New (.cells #[nI 0,.string (ByteArray.mk #[]),nI 0,nI 0,nI 0,nI 0,.float .f64 0,.string (ByteArray.mk #[]),nI 0,.slice none 0 0,.slice none 0 0] 40 (0,0)) (λ ae cy=>
 (b cy)/\
 ∃ cz,(St 40 ⟨ae,0,none⟩ (.agg #[nI i,.string k,nI y,nI C,nI F,nI a2,.float .f64 0,.string (ByteArray.mk #[]),nI 0,.slice none 0 0,.slice none 0 0]) cy cz)/\
 e ((some ⟨ae,0,none⟩)) cz) cx)/\
 New (.cells #[nI 0,.string (ByteArray.mk #[]),nI 0,nI 0,nI 0,nI 0,.float .f64 0,.string (ByteArray.mk #[]),nI 0,.slice none 0 0,.slice none 0 0] 40 (0,0)) (λ af c0=>
 (b c0)/\
 nC 157 #[.agg #[.pointer g],nI 1099511627776] c0 λ e4 c1=>
 ∃ a3,(e4=.returned (nI a3))/\
 (b c1)/\
 ∃ c2,(St 40 ⟨af,0,none⟩ (.agg #[nI i,.string k,nI y,nI C,nI F,nI a3,.float .f64 0,.string (ByteArray.mk #[]),nI 0,.slice none 0 0,.slice none 0 0]) c1 c2)/\
 e ((some ⟨af,0,none⟩)) c2) G)/\
 New (.cells #[nI 0,.string (ByteArray.mk #[]),nI 0,nI 0,nI 0,nI 0,.float .f64 0,.string (ByteArray.mk #[]),nI 0,.slice none 0 0,.slice none 0 0] 40 (0,0)) (λ ag c3=>
 (b c3)/\
 nC 213 #[.pointer ((some ⟨c,0,none⟩))] c3 λ e5 c4=>
 ∃ ax,(e5=.returned (nI ax))/\
 (b c4)/\
 nC 157 #[.agg #[.pointer g],nI 1099511627776] c4 λ e6 c5=>
 ∃ a4,(e6=.returned (nI a4))/\
 (b c5)/\
 ∃ c6,(St 40 ⟨ag,0,none⟩ (.agg #[nI i,.string k,nI y,nI C,nI ax,nI a4,.float .f64 0,.string (ByteArray.mk #[]),nI 0,.slice none 0 0,.slice none 0 0]) c5 c6)/\
 e ((some ⟨ag,0,none⟩)) c6) Y)/\
 New (.cells #[nI 0,.string (ByteArray.mk #[]),nI 0,nI 0,nI 0,nI 0,.float .f64 0,.string (ByteArray.mk #[]),nI 0,.slice none 0 0,.slice none 0 0] 40 (0,0)) (λ ah c7=>
 (b c7)/\
 nC 213 #[.pointer ((some ⟨c,0,none⟩))] c7 λ d8 c8=>
 ∃ ar,(d8=.returned (nI ar))/\
 (b c8)/\
 nC 213 #[.pointer ((some ⟨c,0,none⟩))] c8 λ d9 c9=>
 ∃ ay,(d9=.returned (nI ay))/\
 (b c9)/\
 nC 157 #[.agg #[.pointer g],nI 1099511627776] c9 λ ea da=>
 ∃ a5,(ea=.returned (nI a5))/\
 (b da)/\
 ∃ db,(St 40 ⟨ah,0,none⟩ (.agg #[nI i,.string k,nI y,nI ar,nI ay,nI a5,.float .f64 0,.string (ByteArray.mk #[]),nI 0,.slice none 0 0,.slice none 0 0]) da db)/\
 e ((some ⟨ah,0,none⟩)) db) X)/\
 New (.cells #[nI 0,.string (ByteArray.mk #[]),nI 0,nI 0,nI 0,nI 0,.float .f64 0,.string (ByteArray.mk #[]),nI 0,.slice none 0 0,.slice none 0 0] 40 (0,0)) (λ ai dc=>
 (b dc)/\
 nC 213 #[.pointer ((some ⟨c,0,none⟩))] dc λ eb dd=>
 ∃ ao,(eb=.returned (nI ao))/\
 (b dd)/\
 nC 213 #[.pointer ((some ⟨c,0,none⟩))] dd λ ec de=>
 ∃ au,(ec=.returned (nI au))/\
 (b de)/\
 nC 213 #[.pointer ((some ⟨c,0,none⟩))] de λ ed df=>
 ∃ az,(ed=.returned (nI az))/\
 (b df)/\
 nC 157 #[.agg #[.pointer g],nI 1099511627776] df λ ee dg=>
 ∃ a6,(ee=.returned (nI a6))/\
 (b dg)/\
 ∃ dh,(St 40 ⟨ai,0,none⟩ (.agg #[nI i,.string k,nI ao,nI au,nI az,nI a6,.float .f64 0,.string (ByteArray.mk #[]),nI 0,.slice none 0 0,.slice none 0 0]) dg dh)/\
 e ((some ⟨ai,0,none⟩)) dh) V)/\
 New (.cells #[nI 0,.string (ByteArray.mk #[]),nI 0,nI 0,nI 0,nI 0,.float .f64 0,.string (ByteArray.mk #[]),nI 0,.slice none 0 0,.slice none 0 0] 40 (0,0)) (λ aj di=>
 (b di)/\
 nC 214 #[.agg #[.pointer A],nI 16] di λ ef dj=>
 ∃ am,(ef=.returned (.string am))/\
 (b dj)/\
 nC 213 #[.pointer ((some ⟨c,0,none⟩))] dj λ eg dk=>
 ∃ ap,(eg=.returned (nI ap))/\
 (b dk)/\
 nC 213 #[.pointer ((some ⟨c,0,none⟩))] dk λ eh dl=>
 ∃ av,(eh=.returned (nI av))/\
 (b dl)/\
 nC 213 #[.pointer ((some ⟨c,0,none⟩))] dl λ ej dm=>
 ∃ a0,(ej=.returned (nI a0))/\
 (b dm)/\
 nC 157 #[.agg #[.pointer g],nI 1099511627776] dm λ ek dn=>
 ∃ a7,(ek=.returned (nI a7))/\
 (b dn)/\
 ∃ dp,(St 40 ⟨aj,0,none⟩ (.agg #[nI i,.string am,nI ap,nI av,nI a0,nI a7,.float .f64 0,.string (ByteArray.mk #[]),nI 0,.slice none 0 0,.slice none 0 0]) dn dp)/\
 e ((some ⟨aj,0,none⟩)) dp) L)/\
 New (.cells #[nI 0,.string (ByteArray.mk #[]),nI 0,nI 0,nI 0,nI 0,.float .f64 0,.string (ByteArray.mk #[]),nI 0,.slice none 0 0,.slice none 0 0] 40 (0,0)) (λ ak dq=>
 (b dq)/\
 nC 157 #[.agg #[.pointer E],nI 9] dq λ el ds=>
 ∃ al,(el=.returned (nI al))/\
 (b ds)/\
 nC 214 #[.agg #[.pointer A],nI 16] ds λ em dt=>
 ∃ an,(em=.returned (.string an))/\
 (b dt)/\
 nC 213 #[.pointer ((some ⟨c,0,none⟩))] dt λ en du=>
 ∃ aq,(en=.returned (nI aq))/\
 (b du)/\
 nC 213 #[.pointer ((some ⟨c,0,none⟩))] du λ eo dv=>
 ∃ aw,(eo=.returned (nI aw))/\
 (b dv)/\
 nC 213 #[.pointer ((some ⟨c,0,none⟩))] dv λ ep dw=>
 ∃ a1,(ep=.returned (nI a1))/\
 (b dw)/\
 nC 157 #[.agg #[.pointer g],nI 1099511627776] dw λ eq dx=>
 ∃ a8,(eq=.returned (nI a8))/\
 (b dx)/\
 ∃ dy,(St 40 ⟨ak,0,none⟩ (.agg #[nI al,.string an,nI aq,nI aw,nI a1,nI a8,.float .f64 0,.string (ByteArray.mk #[]),nI 0,.slice none 0 0,.slice none 0 0]) dx dy)/\
 e ((some ⟨ak,0,none⟩)) dy) dz)/\
 ∀ (fg:Env) (f:Option Addr) (H:World),e f H->
 ∃ a9,(Aw H ⟨c,0,none⟩ [.pointer a9])/\
 nC 215 #[.agg #[.pointer a9]] H λ er fa=>
 ∃ ba,(er=.returned (.float .f64 ba))/\
 Zc f λ Z=>
 ∃ I,(St 35 (nO Z 6) (.float .f64 ba) fa I)/\
 ∃ bb,(Aw I ⟨c,0,none⟩ [.pointer bb])/\
 nC 214 #[.agg #[.pointer bb],nI 16] I λ es fb=>
 ∃ bc,(es=.returned (.string bc))/\
 Zc f λ aa=>
 ∃ d0,(St 9 (nO aa 7) (.string bc) fb d0)/\
 nC 213 #[.pointer ((some ⟨c,0,none⟩))] d0 λ eu fc=>
 ∃ be,(eu=.returned (nI be))/\
 Zc f λ ab=>
 ∃ J,(St 3 (nO ab 8) (nI be) fc J)/\
 ∃ bf,(Aw J ⟨c,0,none⟩ [.pointer bf])/\
 nC 157 #[.agg #[.pointer bf],nI 16] J λ ev fd=>
 ∃ bg,(ev=.returned (nI bg))/\
 nC 216 #[nI bg,.func (.func 213) #[] #[.pointer ((some ⟨c,0,none⟩))]] fd λ ew fe=>
 ∃ l:Sl,(ew=.returned (l.v))/\
 Zc f λ ac=>
 ∃ d1,(St 30 ⟨ac.block,ac.off + 8 + 1,none⟩ (l.v) fe d1)/\
 Drw d1 λ z ff=>
 ∃ b8,(At z ⟨c,0,none⟩ [.pointer b8])/\
 ∃ ca,(At z ⟨c,0,none⟩ [.pointer ca])/\
 nC 157 #[.agg #[.pointer b8],nI 16] ff λ ex d2=>
 ∃ b9,(ex=.returned (nI b9))/\
 (z d2)/\
 nC 217 #[nI b9,.func (.func 215) #[.agg #[.pointer ca]] #[]] d2 λ ey d3=>
 ∃ s:Sl,(ey=.returned (s.v))/\
 (z d3)/\
 Zc f λ ad=>
 ∃ M,(St 38 (nO ad 10) (s.v) d3 M)/\
 ∃ cb,(Aw M ⟨c,0,none⟩ [.pointer cb])/\
 nC 96 #[.pointer cb] M λ ez N=>
 ∃ cc,(ez=.returned (.bool cc))/\
 Br (!cc)
 (∃ O,(St 40 ⟨j,0,none⟩ (.agg #[nI 0,.string (ByteArray.mk #[]),nI 0,nI 0,nI 0,nI 0,.float .f64 0,.string (ByteArray.mk #[]),nI 0,.slice none 0 0,.slice none 0 0]) N O)/\
 ∃ bd bh br b1 b3 b4 b5 b6 b7,∃ r m:Sl,(Aw O ⟨j,0,none⟩ [nI bd,.string bh,nI br,nI b1,nI b3,nI b4,.float .f64 b5,.string b6,nI b7,r.v,m.v])/\
 K (.tuple #[.agg #[nI bd,.string bh,nI br,nI b1,nI b3,nI b4,.float .f64 b5,.string b6,nI b7,r.v,m.v],nI 6]) O)
 (Zc f λ d4=>
 ∃ cd ce cf cg ch ci cj ck cl,∃ u t:Sl,(Aw N d4 [nI cd,.string ce,nI cf,nI cg,nI ch,nI ci,.float .f64 cj,.string ck,nI cl,u.v,t.v])/\
 nC 38 #[.agg #[nI cd,.string ce,nI cf,nI cg,nI ch,nI ci,.float .f64 cj,.string ck,nI cl,u.v,t.v]] N λ e0 Q=>
 ∃ cm,(e0=.returned (.bool cm))/\
 Br (!cm)
 (∃ T,(St 40 ⟨j,0,none⟩ (.agg #[nI 0,.string (ByteArray.mk #[]),nI 0,nI 0,nI 0,nI 0,.float .f64 0,.string (ByteArray.mk #[]),nI 0,.slice none 0 0,.slice none 0 0]) Q T)/\
 ∃ bi bj bk bl bm bn bo bp bq,∃ n o:Sl,(Aw T ⟨j,0,none⟩ [nI bi,.string bj,nI bk,nI bl,nI bm,nI bn,.float .f64 bo,.string bp,nI bq,n.v,o.v])/\
 K (.tuple #[.agg #[nI bi,.string bj,nI bk,nI bl,nI bm,nI bn,.float .f64 bo,.string bp,nI bq,n.v,o.v],nI 6]) T)
 (Zc f λ d5=>
 ∃ cn co cp cq cr cs ct cu cv,∃ x v:Sl,(Aw Q d5 [nI cn,.string co,nI cp,nI cq,nI cr,nI cs,.float .f64 ct,.string cu,nI cv,x.v,v.v])/\
 ∃ U,(St 40 ⟨j,0,none⟩ (.agg #[nI cn,.string co,nI cp,nI cq,nI cr,nI cs,.float .f64 ct,.string cu,nI cv,x.v,v.v]) Q U)/\
 ∃ bs bt bu bv bw bx bz b0 b2,∃ p q:Sl,(Aw U ⟨j,0,none⟩ [nI bs,.string bt,nI bu,nI bv,nI bw,nI bx,.float .f64 bz,.string b0,nI b2,p.v,q.v])/\
 K (.tuple #[.agg #[nI bs,.string bt,nI bu,nI bv,nI bw,nI bx,.float .f64 bz,.string b0,nI b2,p.v,q.v],nI 0]) U))) e8) w
def ZCE:Sk:=(.seq .leaf (.seq .leaf (.seq .leaf (.cut [6] [.ptr] [6,11,12,13,14,15,16,17,18,19,20,21,22,23] .leaf .leaf))))
theorem Zzy (b:Sl) (K:nK) (w : nW) (h:B141 b K w):Zm prog 141 #[b.v] w K:=cq (sk:=ZCE) h func141
def B213 (d:Option Addr) (K:nK) (w : nW):Prop:=
 Zc d λ c=>
 ∃ a,(Aw w c [.pointer a])/\
 nC 157 #[.agg #[.pointer a],nI 9999] w λ e g=>
 ∃ b,(e=.returned (nI b))/\
 K (nI b) g
theorem ZyO (a:Option Addr) (K:nK) (w : nW) (h:B213 a K w):Zm prog 213 #[.pointer a] w K:=cq (sk:=.leaf) h func213
def B142 (Z:Int) (aa:ByteArray) (ab:Int) (ac:Int) (ad:Int) (ae:Int) (af:Int) (p:Sl) (q:Sl) (K:nK) (w : nW):Prop:=
 New (.cells #[nI Z,.string aa,nI ab,nI ac,nI ad,nI ae,nI af,p.v,q.v] 33 (0,0)) (λ c ag=>
 New (.cells #[.slice none 0 0] 112 (0,0)) (λ d E=>
 ∃ r,(Aw E ⟨c,0,none⟩ [nI r])/\
 New (.cells #[nI r] 3 (0,0)) (λ M ai=>
 nC 60 #[.pointer ((some ⟨d,0,none⟩)),.slice ((some ⟨M,0,none⟩)) 1 1] ai λ Q F=>
 (Q=.returned (.tuple #[]))/\
 ∃ s,(Aw F ⟨c,0 + 1,none⟩ [.string s])/\
 ∃ G:World,∃ f:Sl,((convert 9 47 (.string s)).run prog F=.ok (f.v) G)/\
 nC 63 #[.pointer ((some ⟨d,0,none⟩)),f.v] G λ T m=>
 (T=.returned (.tuple #[]))/\
 ∃ t,(Aw m ⟨c,0 + 2,none⟩ [nI t])/\
 ∃ u,(Aw m ⟨c,0 + 3,none⟩ [nI u])/\
 ∃ v,(Aw m ⟨c,0 + 4,none⟩ [nI v])/\
 ∃ x,(Aw m ⟨c,0 + 5,none⟩ [nI x])/\
 ∃ y,(Aw m ⟨c,0 + 6,none⟩ [nI y])/\
 New (.cells #[nI t,nI u,nI v,nI x,nI y] 3 (0,0)) (λ N aj=>
 nC 60 #[.pointer ((some ⟨d,0,none⟩)),.slice ((some ⟨N,0,none⟩)) 5 5] aj λ U H=>
 (U=.returned (.tuple #[]))/\
 ∃ g:Sl,(Aw H ⟨c,0 + 7,none⟩ [g.v])/\
 nC 218 #[.pointer ((some ⟨d,0,none⟩)),g.v] H λ V I=>
 (V=.returned (.tuple #[]))/\
 ∃ n:Sl,(Aw I ⟨c,0 + 8,none⟩ [n.v])/\
 New (.cells #[nI ((↑n.len:Int))] 3 (0,0)) (λ O ah=>
 nC 60 #[.pointer ((some ⟨d,0,none⟩)),.slice ((some ⟨O,0,none⟩)) 1 1] ah λ X A=>
 (X=.returned (.tuple #[]))/\
 ∃ i:Sl,(Aw A ⟨c,0 + 8,none⟩ [i.v])/\
 ∃ (o:Int->World->Prop) (J:Int->World->Nat),(o 0 A)/\∀ (ak:Env) (e:Int) (l:World),o e l->
 Br (decide (e<(↑i.len:Int)))
 (Rng e i.len (Zc i.a λ L=>
 ∃ z,(Aw l (Addr.add L e.toNat) [.string z])/\
 ∃ C:World,∃ j:Sl,((convert 9 47 (.string z)).run prog l=.ok (j.v) C)/\
 nC 63 #[.pointer ((some ⟨d,0,none⟩)),j.v] C λ Y D=>
 (Y=.returned (.tuple #[]))/\
 (o (wI (e + 1)) D)/\J (wI (e + 1)) D<J e l))
 (∃ k:Sl,(Aw l ⟨d,0,none⟩ [k.v])/\
 K (k.v) l)) I) m) E) ag) w
def ZCD:Sk:=(.seq .leaf (.seq .leaf (.seq .leaf (.seq .leaf (.seq .leaf (.seq .leaf (.seq .leaf (.seq (.seq .leaf (.block (.loop [44] [(.int .i64)] [5,44,45,46,47,48,49,50,51,52] .leaf))) .leaf))))))))
theorem Zzx (d:Int) (e:ByteArray) (f:Int) (g:Int) (i:Int) (j:Int) (k:Int) (b:Sl) (c:Sl) (K:nK) (w : nW) (h:B142 d e f g i j k b c K w):Zm prog 142 #[.agg #[nI d,.string e,nI f,nI g,nI i,nI j,nI k,b.v,c.v]] w K:=cq (sk:=ZCD) h func142
def B43 (s:Option Addr) (t:ByteArray) (c:List PanicEntry->World->Prop) (K:nK) (w : nW):Prop:=
 nC 108 #[.string t] w λ i q=>
 (∃ l m,(i=.returned (.tuple #[nI l,nI m]))/\
 nC 99 #[nI m] q λ j b=>
 ((j=.returned (.tuple #[]))/\
 Zc s λ d=>
 ∃ n:Option Nat,(Aw b (nO d 3) [.map n])/\
 ∃ o:Option Addr,∃ p:Bool,(∀ a,(λ a=>a=b) a->((Instr.lookup 78 (.map n) (nI l) true)).run prog a=.ok (.tuple #[.pointer o,.bool p]) a)/\
 nC 37 #[.bool p,nI 2] b λ k r=>
 ((k=.returned (.tuple #[]))/\
 K (.pointer o) r)\/
 (∃ g:List PanicEntry,(k=.panicked g)/\c g r))\/
 (∃ f:List PanicEntry,(j=.panicked f)/\c f b))\/
 (∃ e:List PanicEntry,(i=.panicked e)/\c e q)
theorem ZBp (b:Option Addr) (c:ByteArray) (a:List PanicEntry->World->Prop) (K:nK) (w : nW) (h:B43 b c a K w):Zba prog 43 #[.pointer b,.string c] w a K:=cqx (sk:=.leaf) h func43
def B54 (u:Option Addr) (v:Int) (t:List PanicEntry->World->Prop) (K:nK) (w : nW):Prop:=
 New (.cells #[.pointer none,.pointer none] 97 (0,0)) (λ g b=>
 Zc u λ e=>
 ∃ k:Option Nat,(Aw b (nO e 2) [.map k])/\
 ∃ l m:Option Addr,∃ n:Bool,(∀ a,(λ a=>a=b) a->((Instr.lookup 77 (.map k) (nI v) true)).run prog a=.ok (.tuple #[.agg #[.pointer l,.pointer m],.bool n]) a)/\
 New (.cells #[.pointer none,.pointer none] 97 (0,0)) (λ f x=>
 ∃ s,(St 97 ⟨f,0,none⟩ (.agg #[.pointer l,.pointer m]) x s)/\
 nC 37 #[.bool n,nI 2] s λ j c=>
 ((j=.returned (.tuple #[]))/\
 ∃ o p,(Aw c ⟨f,0,none⟩ [.pointer o,.pointer p])/\
 ∃ d,(St 97 ⟨g,0,none⟩ (.agg #[.pointer o,.pointer p]) c d)/\
 ∃ q r,(Aw d ⟨g,0,none⟩ [.pointer q,.pointer r])/\
 K (.agg #[.pointer q,.pointer r]) d)\/
 (∃ i:List PanicEntry,(j=.panicked i)/\t i c)) b) w
theorem ZBn (b:Option Addr) (c:Int) (a:List PanicEntry->World->Prop) (K:nK) (w : nW) (h:B54 b c a K w):Zba prog 54 #[.pointer b,nI c] w a K:=cqx (sk:=.leaf) h func54
def B103 (E:Option Addr) (b2:Int) (K:nK) (w : nW):Prop:=
 Zc E λ D=>
 ∃ J:Option Nat,(Aw w (nO D 2) [.map J])/\
 ∃ L M:Option Addr,(∀ b,(λ b=>b=w) b->((Instr.lookup 77 (.map J) (nI b2) false)).run prog b=.ok (.agg #[.pointer L,.pointer M]) b)/\
 New (.cells #[.pointer none,.pointer none] 97 (0,0)) (λ f b5=>
 ∃ bd,(St 97 ⟨f,0,none⟩ (.agg #[.pointer L,.pointer M]) b5 bd)/\
 ∃ (l:Option Addr->Bool->World->Prop),(Drw bd λ c bh=>
 ∃ o,(At c ⟨f,0 + 1,none⟩ [.pointer o])/\
 ∃ s,(At c ⟨f,0,none⟩ [.pointer s])/\
 (nC 55 #[.pointer s] bh λ bs x=>
 ∃ d:Sl,(bs=.returned (d.v))/\
 (c x)/\
 (nC 174 #[.pointer o,d.v] x λ bt bi=>
 ∃ N O ab ac ad ae,(bt=.returned (.tuple #[.agg #[nI N,nI O,nI ab,nI ac,.float .f64 ad],.bool ae]))/\
 (c bi)/\
 New (.cells #[nI 0,nI 0,nI 0,nI 0,.float .f64 0] 168 (0,0)) (λ F bj=>
 (c bj)/\
 ∃ bk,(St 168 ⟨F,0,none⟩ (.agg #[nI N,nI O,nI ab,nI ac,.float .f64 ad]) bj bk)/\
 l ((some ⟨F,0,none⟩)) ae bk) bi)/\
 New (.cells #[nI 0,nI 0,nI 0,nI 0,.float .f64 0] 168 (0,0)) (λ G bl=>
 (c bl)/\
 nC 174 #[.pointer o,d.v] bl λ bu bm=>
 ∃ af ag ah ai Q T,(bu=.returned (.tuple #[.agg #[nI af,nI ag,nI ah,nI ai,.float .f64 Q],.bool T]))/\
 (c bm)/\
 ∃ a7,(St 168 ⟨G,0,none⟩ (.agg #[nI af,nI ag,nI ah,nI ai,.float .f64 Q]) bm a7)/\
 l ((some ⟨G,0,none⟩)) T a7) x)/\
 New (.cells #[nI 0,nI 0,nI 0,nI 0,.float .f64 0] 168 (0,0)) (λ H a8=>
 (c a8)/\
 nC 55 #[.pointer s] a8 λ bv a9=>
 ∃ g:Sl,(bv=.returned (g.v))/\
 (c a9)/\
 nC 174 #[.pointer o,g.v] a9 λ bw ba=>
 ∃ U V X Y Z aa,(bw=.returned (.tuple #[.agg #[nI U,nI V,nI X,nI Y,.float .f64 Z],.bool aa]))/\
 (c ba)/\
 ∃ bb,(St 168 ⟨H,0,none⟩ (.agg #[nI U,nI V,nI X,nI Y,.float .f64 Z]) ba bb)/\
 l ((some ⟨H,0,none⟩)) aa bb) bh)/\
 ∀ (ca:Env) (a6:Option Addr) (I:Bool) (bc:World),l a6 I bc->
 ∃ (p:Option Addr->Bool->World->Prop) (bn:Option Addr->Bool->World->Nat),(p a6 I bc)/\∀ (cb:Env) (e:Option Addr) (r:Bool) (j:World),p e r j->
 Br r
 (∃ aq,(Aw j ⟨f,0 + 1,none⟩ [.pointer aq])/\
 Zc e λ bo=>
 ∃ ar,(Aw j (Addr.add bo 0) [nI ar])/\
 nC 105 #[.pointer aq,nI ar] j λ bx k=>
 ∃ b3,(bx=.returned (nI b3))/\
 ∃ au,(Aw k ⟨f,0,none⟩ [.pointer au])/\
 Zc e λ bp=>
 ∃ av,(Aw k (Addr.add bp 0) [nI av])/\
 Zc e λ y=>
 ∃ aw,(Aw k (nO y 1) [nI aw])/\
 Zc e λ z=>
 ∃ ax,(Aw k (nO z 2) [nI ax])/\
 nC 101 #[.pointer au,nI av,nI aw,nI ax] k λ bz b6=>
 ∃ b4,(bz=.returned (nI b4))/\
 Drw b6 λ q b7=>
 Zc E λ A=>
 ∃ ay:Option Nat,(At q (nO A 3) [.map ay])/\
 Zc e λ bq=>
 ∃ az,(At q (Addr.add bq 0) [nI az])/\
 ∃ a0:Option Addr,(∀ b,q b->((Instr.lookup 78 (.map ay) (nI az) false)).run prog b=.ok (.pointer a0) b)/\
 Zc a0 λ C=>
 ∃ u,(St 3 (nO C 4) (nI 2) b7 u)/\
 Zc e λ br=>
 ∃ a1 a2 a3 a4 a5,(Aw u br [nI a1,nI a2,nI a3,nI a4,.float .f64 a5])/\
 New (.cells #[nI 0,nI 0,nI 0,nI 0,.float .f64 0] 168 (0,0)) (λ n b8=>
 ∃ be,(St 168 ⟨n,0,none⟩ (.agg #[nI a1,nI a2,nI a3,nI a4,.float .f64 a5]) b8 be)/\
 Drw be λ m b9=>
 ∃ aj,(At m ⟨f,0 + 1,none⟩ [.pointer aj])/\
 ∃ ak,(At m ⟨f,0,none⟩ [.pointer ak])/\
 nC 55 #[.pointer ak] b9 λ b0 bf=>
 ∃ i:Sl,(b0=.returned (i.v))/\
 (m bf)/\
 nC 174 #[.pointer aj,i.v] bf λ b1 bg=>
 ∃ al am an ao ap t,(b1=.returned (.tuple #[.agg #[nI al,nI am,nI an,nI ao,.float .f64 ap],.bool t]))/\
 (m bg)/\
 ∃ v,(St 168 ⟨n,0,none⟩ (.agg #[nI al,nI am,nI an,nI ao,.float .f64 ap]) bg v)/\
 (p ((some ⟨n,0,none⟩)) t v)/\bn ((some ⟨n,0,none⟩)) t v<bn e r j) u)
 (K (.tuple #[]) j)) w
def ZCQ:Sk:=(.seq .leaf (.cut [5,6] [.ptr,.bool] [5,6,13,14,15,16,17,18,19,20,21] .leaf (.block (.loop [5,6] [.ptr,.bool] [5,6,22,23,24,25,26,27,28,29,30,31,32,33,34,35,36,37,38,39,40,41,42,43,44,45,46,47,48,49,50,51,52,53,54,55] .leaf))))
theorem ZzR (a:Option Addr) (b:Int) (K:nK) (w : nW) (h:B103 a b K w):Zm prog 103 #[.pointer a,nI b] w K:=cq (sk:=ZCQ) h func103
def B53 (ac:Option Addr) (c:Option Addr) (K:nK) (w : nW):Prop:=
 New (.cells #[nI 0,.string (ByteArray.mk #[]),nI 0,nI 0,nI 0,nI 0,nI 0,.slice none 0 0,.slice none 0 0] 33 (0,0)) (λ u ah=>
 Drw ah λ j ai=>
 Zc ac λ t=>
 ∃ v:Option Nat,(At j (nO t 2) [.map v])/\
 Zc c λ n=>
 ∃ x,(At j (nO n 1) [nI x])/\
 ∃ y z:Option Addr,(∀ d,j d->((Instr.lookup 77 (.map v) (nI x) false)).run prog d=.ok (.agg #[.pointer y,.pointer z]) d)/\
 New (.cells #[.pointer none,.pointer none] 97 (0,0)) (λ k X=>
 (j X)/\
 ∃ l,(St 97 ⟨k,0,none⟩ (.agg #[.pointer y,.pointer z]) X l)/\
 Zc c λ aa=>
 ∃ A,(Aw l (Addr.add aa 0) [nI A])/\
 nC 121 #[nI A] l λ ad aj=>
 ∃ C ag,(ad=.returned (.tuple #[.string C,nI ag]))/\
 Drw aj λ b ak=>
 Zc c λ o=>
 ∃ D,(At b (nO o 4) [nI D])/\
 Zc c λ p=>
 ∃ E,(At b (nO p 1) [nI E])/\
 Zc c λ q=>
 ∃ F,(At b (nO q 2) [nI F])/\
 Zc c λ r=>
 ∃ G,(At b (nO r 3) [nI G])/\
 Zc c λ s=>
 ∃ H,(At b (nO s 5) [nI H])/\
 ∃ I,(At b ⟨k,0,none⟩ [.pointer I])/\
 ∃ J,(At b ⟨k,0,none⟩ [.pointer J])/\
 Zc c λ ab=>
 ∃ L,(At b (Addr.add ab 0) [nI L])/\
 nC 55 #[.pointer I] ak λ ae Y=>
 ∃ e:Sl,(ae=.returned (e.v))/\
 (b Y)/\
 nC 122 #[.pointer J,nI L] Y λ af Z=>
 ∃ f:Sl,(af=.returned (f.v))/\
 (b Z)/\
 ∃ m,(St 33 ⟨u,0,none⟩ (.agg #[nI 0,.string C,nI D,nI E,nI F,nI G,nI H,e.v,f.v]) Z m)/\
 ∃ M N O Q T U V,∃ g i:Sl,(Aw m ⟨u,0,none⟩ [nI M,.string N,nI O,nI Q,nI T,nI U,nI V,g.v,i.v])/\
 K (.agg #[nI M,.string N,nI O,nI Q,nI T,nI U,nI V,g.v,i.v]) m) ai) w
theorem ZBo (a:Option Addr) (b:Option Addr) (K:nK) (w : nW) (h:B53 a b K w):Zm prog 53 #[.pointer a,.pointer b] w K:=cq (sk:=.leaf) h func53
def B39 (o:Option Addr) (aw:Int) (ax:ByteArray) (ay:Int) (az:Int) (a0:Int) (a1:Int) (a2:Nat) (a3:ByteArray) (a4:Int) (q:Sl) (p:Sl) (c:List PanicEntry->World->Prop) (K:nK) (w : nW):Prop:=
 New (.cells #[nI aw,.string ax,nI ay,nI az,nI a0,nI a1,.float .f64 a2,.string a3,nI a4,q.v,p.v] 40 (0,0)) (λ d a5=>
 New (.cells #[nI 0,.string (ByteArray.mk #[]),nI 0,nI 0,nI 0,nI 0,nI 0,.slice none 0 0,.slice none 0 0] 33 (0,0)) (λ A a8=>
 Drw a8 λ l a9=>
 Zc o λ x=>
 ∃ Q:Option Nat,(At l (nO x 2) [.map Q])/\
 ∃ T,(At l ⟨d,0 + 2,none⟩ [nI T])/\
 ∃ U V:Option Addr,∃ X:Bool,(∀ b,l b->((Instr.lookup 77 (.map Q) (nI T) true)).run prog b=.ok (.tuple #[.agg #[.pointer U,.pointer V],.bool X]) b)/\
 New (.cells #[.pointer none,.pointer none] 97 (0,0)) (λ av ap=>
 (l ap)/\
 ∃ aq,(St 97 ⟨av,0,none⟩ (.agg #[.pointer U,.pointer V]) ap aq)/\
 nC 37 #[.bool (!X),nI 7] aq λ I m=>
 ((I=.returned (.tuple #[]))/\
 Zc o λ y=>
 ∃ Y:Option Nat,(Aw m (nO y 2) [.map Y])/\
 ∃ Z:Int,(∀ b,(λ b=>b=m) b->((Builtin.len_ #[77] 3 #[.map Y])).run prog b=.ok (nI Z) b)/\
 nC 37 #[.bool (decide (Z<8)),nI 3] m λ J k=>
 ((J=.returned (.tuple #[]))/\
 ∃ aa,(Aw k ⟨d,0 + 2,none⟩ [nI aa])/\
 ∃ ab,∃ e:Sl,(Aw k ⟨d,0 + 8,none⟩ [nI ab,e.v])/\
 ∃ f:Sl,(Aw k ⟨d,0 + 10,none⟩ [f.v])/\
 nC 98 #[nI aa,.agg #[nI ab,e.v],f.v] k λ L ar=>
 (∃ r ac,(L=.returned (.tuple #[.pointer r,nI ac]))/\
 nC 99 #[nI ac] ar λ M au=>
 ((M=.returned (.tuple #[]))/\
 Drw au λ n a6=>
 Zc o λ z=>
 ∃ ad:Option Nat,(At n (nO z 2) [.map ad])/\
 ∃ ae,(At n ⟨d,0 + 2,none⟩ [nI ae])/\
 nC 100 #[] a6 λ N s=>
 (∃ af,(N=.returned (.pointer af))/\
 (n s)/\
 ∃ ao:World,((Instr.mapUpdate 77 (.map ad) (nI ae) (.agg #[.pointer r,.pointer af])).run prog s=.ok () ao)/\
 Drw ao λ v a7=>
 ∃ ag,(At v ⟨d,0 + 2,none⟩ [nI ag])/\
 nC 55 #[.pointer r] a7 λ O t=>
 (∃ g:Sl,(O=.returned (g.v))/\
 (v t)/\
 ∃ u,(St 33 ⟨A,0,none⟩ (.agg #[nI 0,.string (ByteArray.mk #[]),nI 0,nI ag,nI 0,nI 0,nI 0,g.v,.slice none 0 0]) t u)/\
 ∃ ah ai aj ak al am an,∃ i j:Sl,(Aw u ⟨A,0,none⟩ [nI ah,.string ai,nI aj,nI ak,nI al,nI am,nI an,i.v,j.v])/\
 K (.agg #[nI ah,.string ai,nI aj,nI ak,nI al,nI am,nI an,i.v,j.v]) u)\/
 (∃ H:List PanicEntry,(O=.panicked H)/\c H t))\/
 (∃ G:List PanicEntry,(N=.panicked G)/\c G s))\/
 (∃ F:List PanicEntry,(M=.panicked F)/\c F au))\/
 (∃ E:List PanicEntry,(L=.panicked E)/\c E ar))\/
 (∃ D:List PanicEntry,(J=.panicked D)/\c D k))\/
 (∃ C:List PanicEntry,(I=.panicked C)/\c C m)) a9) a5) w
theorem ZBs (e:Option Addr) (f:Int) (g:ByteArray) (i:Int) (j:Int) (k:Int) (l:Int) (m:Nat) (n:ByteArray) (o:Int) (c:Sl) (b:Sl) (d:List PanicEntry->World->Prop) (K:nK) (w : nW) (h:B39 e f g i j k l m n o c b d K w):Zba prog 39 #[.pointer e,.agg #[nI f,.string g,nI i,nI j,nI k,nI l,.float .f64 m,.string n,nI o,c.v,b.v]] w d K:=cqx (sk:=.leaf) h func39
def B40 (d:Option Addr) (da:Int) (db:ByteArray) (dc:Int) (dd:Int) (de:Int) (df:Int) (dg:Nat) (dh:ByteArray) (di:Int) (H:Sl) (G:Sl) (c:List PanicEntry->World->Prop) (K:nK) (w : nW):Prop:=
 New (.cells #[nI da,.string db,nI dc,nI dd,nI de,nI df,.float .f64 dg,.string dh,nI di,H.v,G.v] 40 (0,0)) (λ e dj=>
 New (.cells #[nI 0,.string (ByteArray.mk #[]),nI 0,nI 0,nI 0,nI 0,nI 0,.slice none 0 0,.slice none 0 0] 33 (0,0)) (λ x c0=>
 ∃ cf,(Aw c0 ⟨e,0 + 2,none⟩ [nI cf])/\
 nC 54 #[.pointer d,nI cf] c0 λ aq c4=>
 (∃ a5 ba,(aq=.returned (.agg #[.pointer a5,.pointer ba]))/\
 New (.cells #[.pointer none,.pointer none] 97 (0,0)) (λ v dp=>
 ∃ c7,(St 97 ⟨v,0,none⟩ (.agg #[.pointer a5,.pointer ba]) dp c7)/\
 Drw c7 λ i dq=>
 Zc d λ Z=>
 ∃ bt,(At i (nO Z 1) [nI bt])/\
 ∃ bu,(At i ⟨e,0 + 2,none⟩ [nI bu])/\
 ∃ bv,(At i ⟨e,0 + 3,none⟩ [nI bv])/\
 ∃ bw,(At i ⟨e,0 + 4,none⟩ [nI bw])/\
 ∃ bx,(At i ⟨e,0 + 5,none⟩ [nI bx])/\
 New (.cells #[nI bt,nI bu,nI bv,nI bw,nI 1,nI bx] 121 (0,0)) (λ f A=>
 (i A)/\
 ∃ (C:World->Prop),(∃ bz,(Aw A ⟨e,0,none⟩ [nI bz])/\
 Br (bz==2)
 (Drw A λ F dr=>
 ∃ b0,(At F ⟨e,0 + 5,none⟩ [nI b0])/\
 Zc d λ c8=>
 ∃ b1,(At F (Addr.add c8 0) [nI b1])/\
 nC 37 #[.bool (decide (b0>b1)),nI 1] dr λ ar U=>
 ((ar=.returned (.tuple #[]))/\
 (F U)/\
 C  U)\/
 (∃ ae:List PanicEntry,(ar=.panicked ae)/\c ae U))
 (Drw A λ u dk=>
 ∃ b2,(At u ⟨e,0 + 3,none⟩ [nI b2])/\
 ∃ b3,(At u ⟨v,0,none⟩ [.pointer b3])/\
 nC 55 #[.pointer b3] dk λ ax I=>
 (∃ y:Sl,(ax=.returned (y.v))/\
 (u I)/\
 nC 37 #[.bool (decide (b2<(↑y.len:Int))),nI 1] I λ ay J=>
 ((ay=.returned (.tuple #[]))/\
 (u J)/\
 ∃ cw,(St 3 ⟨f,0 + 4,none⟩ (nI 3) J cw)/\
 ∃ cx,(St 3 ⟨f,0 + 5,none⟩ (nI 0) cw cx)/\
 C  cx)\/
 (∃ aj:List PanicEntry,(ay=.panicked aj)/\c aj J))\/
 (∃ ai:List PanicEntry,(ax=.panicked ai)/\c ai I)))/\
 ∀ (ds:Env)  (r:World),C  r->
 ∃ (D:World->Prop),(Zc d λ ab=>
 ∃ b4:Option Nat,(Aw r (nO ab 3) [.map b4])/\
 ∃ b5:Int,(∀ b,(λ b=>b=r) b->((Builtin.len_ #[78] 3 #[.map b4])).run prog b=.ok (nI b5) b)/\
 Br (decide (b5<300))
 (Zc d λ ac=>
 ∃ b6,(Aw r (nO ac 1) [nI b6])/\
 nC 37 #[.bool (decide (b6<28629151)),nI 3] r λ az cy=>
 ((az=.returned (.tuple #[]))/\
 D  cy)\/
 (∃ ak:List PanicEntry,(az=.panicked ak)/\c ak cy))
 (nC 37 #[.bool false,nI 3] r λ a0 cz=>
 ((a0=.returned (.tuple #[]))/\
 D  cz)\/
 (∃ al:List PanicEntry,(a0=.panicked al)/\c al cz)))/\
 ∀ (dt:Env)  (z:World),D  z->
 ∃ (E:World->Prop),(∃ b7,(Aw z ⟨e,0,none⟩ [nI b7])/\
 Br (b7==2)
 (Drw z λ s dl=>
 ∃ b8,(At s ⟨v,0,none⟩ [.pointer b8])/\
 ∃ b9,(At s ⟨f,0,none⟩ [nI b9])/\
 ∃ ca,(At s ⟨f,0 + 2,none⟩ [nI ca])/\
 ∃ cb,(At s ⟨f,0 + 3,none⟩ [nI cb])/\
 nC 101 #[.pointer b8,nI b9,nI ca,nI cb] dl λ a1 c1=>
 (∃ cc,(a1=.returned (nI cc))/\
 nC 99 #[nI cc] c1 λ a2 L=>
 ((a2=.returned (.tuple #[]))/\
 (s L)/\
 E  L)\/
 (∃ an:List PanicEntry,(a2=.panicked an)/\c an L))\/
 (∃ am:List PanicEntry,(a1=.panicked am)/\c am c1))
 (Drw z λ g dm=>
 ∃ cd,(At g ⟨v,0 + 1,none⟩ [.pointer cd])/\
 ∃ ce,(At g ⟨f,0,none⟩ [nI ce])/\
 ∃ cg,(At g ⟨f,0 + 2,none⟩ [nI cg])/\
 ∃ ch,(At g ⟨f,0 + 3,none⟩ [nI ch])/\
 Zc d λ c9=>
 ∃ a6,(At g (Addr.add c9 0) [nI a6])/\
 ∃ a7,(At g ⟨e,0 + 6,none⟩ [.float .f64 a7])/\
 nC 102 #[.pointer cd,.agg #[nI ce,nI cg,nI ch,nI a6,.float .f64 a7]] dm λ a3 M=>
 (∃ a8,(a3=.returned (nI a8))/\
 (g M)/\
 nC 99 #[nI a8] M λ a4 N=>
 ((a4=.returned (.tuple #[]))/\
 (g N)/\
 E  N)\/
 (∃ ap:List PanicEntry,(a4=.panicked ap)/\c ap N))\/
 (∃ ao:List PanicEntry,(a3=.panicked ao)/\c ao M)))/\
 ∀ (du:Env)  (c2:World),E  c2->
 Drw c2 λ V dn=>
 Zc d λ X=>
 ∃ a9:Option Nat,(At V (nO X 3) [.map a9])/\
 ∃ bb,(At V ⟨f,0,none⟩ [nI bb])/\
 ∃ O:World,((Instr.mapUpdate 78 (.map a9) (nI bb) (.pointer ((some ⟨f,0,none⟩)))).run prog dn=.ok () O)/\
 Zc d λ Y=>
 ∃ bc,(Aw O (nO Y 1) [nI bc])/\
 Zc d λ aa=>
 ∃ t,(St 3 (nO aa 1) (nI (wI (bc + 1))) O t)/\
 ∃ bd,(Aw t ⟨e,0,none⟩ [nI bd])/\
 Br (bd==7)
 (∃ be,(Aw t ⟨e,0 + 2,none⟩ [nI be])/\
 nC 103 #[.pointer d,nI be] t λ au c3=>
 ((au=.returned (.tuple #[]))/\
 nC 53 #[.pointer d,.pointer ((some ⟨f,0,none⟩))] c3 λ av c5=>
 (∃ bf bg bn bo bp bq br,∃ l m:Sl,(av=.returned (.agg #[nI bf,.string bg,nI bn,nI bo,nI bp,nI bq,nI br,l.v,m.v]))/\
 ∃ Q,(St 33 ⟨x,0,none⟩ (.agg #[nI bf,.string bg,nI bn,nI bo,nI bp,nI bq,nI br,l.v,m.v]) c5 Q)/\
 ∃ ci cj cq cr cs ct cu,∃ p q:Sl,(Aw Q ⟨x,0,none⟩ [nI ci,.string cj,nI cq,nI cr,nI cs,nI ct,nI cu,p.v,q.v])/\
 K (.agg #[nI ci,.string cj,nI cq,nI cr,nI cs,nI ct,nI cu,p.v,q.v]) Q)\/
 (∃ ag:List PanicEntry,(av=.panicked ag)/\c ag c5))\/
 (∃ af:List PanicEntry,(au=.panicked af)/\c af c3))
 (nC 53 #[.pointer d,.pointer ((some ⟨f,0,none⟩))] t λ aw c6=>
 (∃ bs bh bi bj bk bl bm,∃ j k:Sl,(aw=.returned (.agg #[nI bs,.string bh,nI bi,nI bj,nI bk,nI bl,nI bm,j.v,k.v]))/\
 ∃ T,(St 33 ⟨x,0,none⟩ (.agg #[nI bs,.string bh,nI bi,nI bj,nI bk,nI bl,nI bm,j.v,k.v]) c6 T)/\
 ∃ cv ck cl cm cn co cp,∃ n o:Sl,(Aw T ⟨x,0,none⟩ [nI cv,.string ck,nI cl,nI cm,nI cn,nI co,nI cp,n.v,o.v])/\
 K (.agg #[nI cv,.string ck,nI cl,nI cm,nI cn,nI co,nI cp,n.v,o.v]) T)\/
 (∃ ah:List PanicEntry,(aw=.panicked ah)/\c ah c6))) dq) c4)\/
 (∃ ad:List PanicEntry,(aq=.panicked ad)/\c ad c4)) dj) w
def sk40:Sk:=(.seq .leaf (.seq .leaf (.seq .leaf (.cut [] [] [25,26,27,28,29,30,31,32,33,34,35,36,37,38,39,40,41,42,43,44,45,46,47,48,49] .leaf (.cut [] [] [50,51,52,53,54,55,56,57,58,59,60,61,62,63] .leaf (.cut [] [] [64,65,66,67,68,69,70,71,72,73,74,75,76,77,78,79,80,81,82,83,84,85,86,87,88,89,90,91,92,93,94,95,96,97,98,99,100,101,102,103,104,105] .leaf .leaf))))))
theorem Zwv (e:Option Addr) (f:Int) (g:ByteArray) (i:Int) (j:Int) (k:Int) (l:Int) (m:Nat) (n:ByteArray) (o:Int) (c:Sl) (b:Sl) (d:List PanicEntry->World->Prop) (K:nK) (w : nW) (h:B40 e f g i j k l m n o c b d K w):Zba prog 40 #[.pointer e,.agg #[nI f,.string g,nI i,nI j,nI k,nI l,.float .f64 m,.string n,nI o,c.v,b.v]] w d K:=cqx (sk:=sk40) h func40
def B41 (c:Option Addr) (bn:Int) (bo:ByteArray) (bp:Int) (bq:Int) (br:Int) (bs:Int) (bt:Nat) (bu:ByteArray) (bv:Int) (C:Sl) (A:Sl) (f:List PanicEntry->World->Prop) (K:nK) (w : nW):Prop:=
 New (.cells #[nI bn,.string bo,nI bp,nI bq,nI br,nI bs,.float .f64 bt,.string bu,nI bv,C.v,A.v] 40 (0,0)) (λ T bz=>
 New (.cells #[nI 0,.string (ByteArray.mk #[]),nI 0,nI 0,nI 0,nI 0,nI 0,.slice none 0 0,.slice none 0 0] 33 (0,0)) (λ U b1=>
 Drw b1 λ y b2=>
 ∃ ak,(At y ⟨T,0 + 5,none⟩ [nI ak])/\
 Zc c λ bh=>
 ∃ al,(At y (Addr.add bh 0) [nI al])/\
 nC 37 #[.bool (decide (ak >= al)),nI 7] b2 λ ad t=>
 ((ad=.returned (.tuple #[]))/\
 (y t)/\
 ∃ am,(Aw t ⟨T,0 + 5,none⟩ [nI am])/\
 Zc c λ bi=>
 ∃ G,(St 3 (Addr.add bi 0) (nI am) t G)/\
 Zc c λ H=>
 ∃ an:Option Nat,(Aw G (nO H 3) [.map an])/\
 nC 66 #[.map an] G λ ae bd=>
 (∃ ao:Value,(ae=.returned (ao))/\
 nC 61 #[ao] bd λ af be=>
 (∃ i:Sl,(af=.returned (i.v))/\
 ∃ (n:Int->World->Prop) (u:Int->World->Nat),(n 0 be)/\∀ (b3:Env) (d:Int) (e:World),n d e->
 Br (decide (d<(↑i.len:Int)))
 (Rng d i.len (Zc i.a λ bj=>
 ∃ p,(Aw e (Addr.add bj d.toNat) [nI p])/\
 Zc c λ I=>
 ∃ ap:Option Nat,(Aw e (nO I 3) [.map ap])/\
 ∃ q:Option Addr,(∀ b,(λ b=>b=e) b->((Instr.lookup 78 (.map ap) (nI p) false)).run prog b=.ok (.pointer q) b)/\
 ∃ (x:Bool->World->Prop),(Drw e λ z bf=>
 Zc q λ J=>
 ∃ aq,(At z (nO J 4) [nI aq])/\
 Br (aq==1)
 (Zc q λ L=>
 ∃ ar,(At z (nO L 5) [nI ar])/\
 Zc c λ bk=>
 ∃ au,(At z (Addr.add bk 0) [nI au])/\
 x (decide (ar<=au)) bf)
 (x false bf))/\
 ∀ (b4:Env) (av:Bool) (r:World),x av r->
 Br av
 (Drw r λ o b0=>
 Zc c λ M=>
 ∃ aw:Option Nat,(At o (nO M 2) [.map aw])/\
 Zc q λ N=>
 ∃ ax,(At o (nO N 1) [nI ax])/\
 ∃ ay bw:Option Addr,(∀ b,o b->((Instr.lookup 77 (.map aw) (nI ax) false)).run prog b=.ok (.agg #[.pointer ay,.pointer bw]) b)/\
 nC 104 #[.pointer ay,nI p] b0 λ ag s=>
 (∃ bx,(ag=.returned (nI bx))/\
 (o s)/\
 Zc c λ O=>
 ∃ az:Option Nat,(Aw s (nO O 3) [.map az])/\
 ∃ D:World,((Builtin.delete_ #[78,3] 0 #[.map az,nI p]).run prog s=.ok (.tuple #[]) D)/\
 (n (wI (d + 1)) D)/\u (wI (d + 1)) D<u d e)\/
 (∃ Z:List PanicEntry,(ag=.panicked Z)/\f Z s))
 ((n (wI (d + 1)) r)/\u (wI (d + 1)) r<u d e)))
 (Zc c λ Q=>
 ∃ a0:Option Nat,(Aw e (nO Q 2) [.map a0])/\
 nC 62 #[.map a0] e λ ah bb=>
 (∃ a1:Value,(ah=.returned (a1))/\
 nC 61 #[a1] bb λ ai bc=>
 (∃ j:Sl,(ai=.returned (j.v))/\
 ∃ (v:Int->World->Prop) (bg:Int->World->Nat),(v 0 bc)/\∀ (b5:Env) (g:Int) (m:World),v g m->
 Br (decide (g<(↑j.len:Int)))
 (Rng g j.len (Zc j.a λ bl=>
 ∃ a2,(Aw m (Addr.add bl g.toNat) [nI a2])/\
 nC 103 #[.pointer c,nI a2] m λ aj E=>
 ((aj=.returned (.tuple #[]))/\
 (v (wI (g + 1)) E)/\bg (wI (g + 1)) E<bg g m)\/
 (∃ ac:List PanicEntry,(aj=.panicked ac)/\f ac E)))
 (Zc c λ bm=>
 ∃ a3,(Aw m (Addr.add bm 0) [nI a3])/\
 ∃ F,(St 33 ⟨U,0,none⟩ (.agg #[nI 0,.string (ByteArray.mk #[]),nI 0,nI 0,nI 0,nI 0,nI a3,.slice none 0 0,.slice none 0 0]) m F)/\
 ∃ a4 a5 a6 a7 a8 a9 ba,∃ k l:Sl,(Aw F ⟨U,0,none⟩ [nI a4,.string a5,nI a6,nI a7,nI a8,nI a9,nI ba,k.v,l.v])/\
 K (.agg #[nI a4,.string a5,nI a6,nI a7,nI a8,nI a9,nI ba,k.v,l.v]) F))\/
 (∃ ab:List PanicEntry,(ai=.panicked ab)/\f ab bc))\/
 (∃ aa:List PanicEntry,(ah=.panicked aa)/\f aa bb)))\/
 (∃ Y:List PanicEntry,(af=.panicked Y)/\f Y be))\/
 (∃ X:List PanicEntry,(ae=.panicked X)/\f X bd))\/
 (∃ V:List PanicEntry,(ad=.panicked V)/\f V t)) bz) w
def sk41:Sk:=(.seq .leaf (.seq .leaf (.seq .leaf (.seq (.seq .leaf (.block (.loop [30] [(.int .i64)] [6,7,30,31,32,33,34,35,36,37,38,39,40,41,42,43,44,45,46,47,48,49,50,51,52,53,54,55,56,57,58,59,60,61,62,63,64,65,66,67,68,69,70,71,72,73] (.seq .leaf (.seq .leaf (.seq (.block (.seq .leaf (.seq .leaf (.cut [55] [.bool] [40,41,42,43,44,45,46,47,48,49,50,51,52,53,54,55] .leaf .leaf)))) .leaf)))))) (.seq (.seq .leaf (.block (.loop [81] [(.int .i64)] [9,81,82,83,84,85,86,87,88] .leaf))) .leaf)))))
theorem ZBr (e:Option Addr) (f:Int) (g:ByteArray) (i:Int) (j:Int) (k:Int) (l:Int) (m:Nat) (n:ByteArray) (o:Int) (c:Sl) (b:Sl) (d:List PanicEntry->World->Prop) (K:nK) (w : nW) (h:B41 e f g i j k l m n o c b d K w):Zba prog 41 #[.pointer e,.agg #[nI f,.string g,nI i,nI j,nI k,nI l,.float .f64 m,.string n,nI o,c.v,b.v]] w d K:=cqx (sk:=sk41) h func41
def B42 (g:Option Addr) (c:Option Addr) (ed:Int) (ee:ByteArray) (ef:Int) (eg:Int) (eh:Int) (ei:Int) (ej:Nat) (ek:ByteArray) (el:Int) (L:Sl) (J:Sl) (d:List PanicEntry->World->Prop) (K:nK) (w : nW):Prop:=
 New (.cells #[nI ed,.string ee,nI ef,nI eg,nI eh,nI ei,.float .f64 ej,.string ek,nI el,L.v,J.v] 40 (0,0)) (λ I eo=>
 New (.cells #[nI 0,.string (ByteArray.mk #[]),nI 0,nI 0,nI 0,nI 0,nI 0,.slice none 0 0,.slice none 0 0] 33 (0,0)) (λ e es=>
 Drw es λ E ev=>
 Zc g λ ad=>
 ∃ ca:Option Nat,(At E (nO ad 2) [.map ca])/\
 Zc c λ ae=>
 ∃ cb,(At E (nO ae 1) [nI cb])/\
 ∃ cc cd:Option Addr,(∀ b,E b->((Instr.lookup 77 (.map ca) (nI cb) false)).run prog b=.ok (.agg #[.pointer cc,.pointer cd]) b)/\
 New (.cells #[.pointer none,.pointer none] 97 (0,0)) (λ C d3=>
 (E d3)/\
 ∃ f,(St 97 ⟨C,0,none⟩ (.agg #[.pointer cc,.pointer cd]) d3 f)/\
 Zc c λ af=>
 ∃ G,(Aw f (nO af 4) [nI G])/\
 ∃ D,(Aw f ⟨I,0,none⟩ [nI D])/\
 Br (D==3)
 (Zc c λ ag=>
 ∃ ce,(Aw f (nO ag 4) [nI ce])/\
 nC 37 #[.bool (ce==1),nI 7] f λ a1 d4=>
 ((a1=.returned (.tuple #[]))/\
 Zc c λ ah=>
 ∃ d5,(St 3 (nO ah 4) (nI 2) d4 d5)/\
 Zc c λ ai=>
 ∃ d6,(St 3 (nO ai 5) (nI 0) d5 d6)/\
 nC 53 #[.pointer g,.pointer c] d6 λ a2 d7=>
 (∃ bh bi br b1 b6 b7 b8,∃ o p:Sl,(a2=.returned (.agg #[nI bh,.string bi,nI br,nI b1,nI b6,nI b7,nI b8,o.v,p.v]))/\
 ∃ N,(St 33 ⟨e,0,none⟩ (.agg #[nI bh,.string bi,nI br,nI b1,nI b6,nI b7,nI b8,o.v,p.v]) d7 N)/\
 ∃ cs ct c2 db dk dp dq,∃ z A:Sl,(Aw N ⟨e,0,none⟩ [nI cs,.string ct,nI c2,nI db,nI dk,nI dp,nI dq,z.v,A.v])/\
 K (.agg #[nI cs,.string ct,nI c2,nI db,nI dk,nI dp,nI dq,z.v,A.v]) N)\/
 (∃ am:List PanicEntry,(a2=.panicked am)/\d am d7))\/
 (∃ al:List PanicEntry,(a1=.panicked al)/\d al d4))
 (Br (D==4)
 (∃ (H:World->Prop),(Br (G==3)
 (Drw f λ Z ep=>
 ∃ cf,(At Z ⟨C,0 + 1,none⟩ [.pointer cf])/\
 Zc c λ d8=>
 ∃ cg,(At Z (Addr.add d8 0) [nI cg])/\
 nC 105 #[.pointer cf,nI cg] ep λ a7 ds=>
 (∃ em,(a7=.returned (nI em))/\
 H  ds)\/
 (∃ ar:List PanicEntry,(a7=.panicked ar)/\d ar ds))
 (Drw f λ aa eq=>
 ∃ ch,(At aa ⟨C,0,none⟩ [.pointer ch])/\
 Zc c λ d9=>
 ∃ ci,(At aa (Addr.add d9 0) [nI ci])/\
 nC 104 #[.pointer ch,nI ci] eq λ a8 dt=>
 (∃ en,(a8=.returned (nI en))/\
 H  dt)\/
 (∃ au:List PanicEntry,(a8=.panicked au)/\d au dt)))/\
 ∀ (ew:Env)  (du:World),H  du->
 Drw du λ ab er=>
 Zc g λ aj=>
 ∃ cj:Option Nat,(At ab (nO aj 3) [.map cj])/\
 Zc c λ ea=>
 ∃ ck,(At ab (Addr.add ea 0) [nI ck])/\
 ∃ O:World,((Builtin.delete_ #[78,3] 0 #[.map cj,nI ck]).run prog er=.ok (.tuple #[]) O)/\
 Zc c λ ak=>
 ∃ cl,(Aw O (nO ak 1) [nI cl])/\
 nC 103 #[.pointer g,nI cl] O λ a9 Q=>
 ((a9=.returned (.tuple #[]))/\
 ∃ cm,(Aw Q ⟨I,0 + 1,none⟩ [.string cm])/\
 ∃ T,(St 33 ⟨e,0,none⟩ (.agg #[nI 0,.string cm,nI 0,nI 0,nI 0,nI 0,nI 0,.slice none 0 0,.slice none 0 0]) Q T)/\
 ∃ dr cu cv cw cx cy cz,∃ q r:Sl,(Aw T ⟨e,0,none⟩ [nI dr,.string cu,nI cv,nI cw,nI cx,nI cy,nI cz,q.v,r.v])/\
 K (.agg #[nI dr,.string cu,nI cv,nI cw,nI cx,nI cy,nI cz,q.v,r.v]) T)\/
 (∃ av:List PanicEntry,(a9=.panicked av)/\d av Q))
 (Br (D==5)
 (nC 37 #[.bool (!G==3),nI 7] f λ ba dv=>
 ((ba=.returned (.tuple #[]))/\
 Drw dv λ F et=>
 ∃ cn,(At F ⟨C,0,none⟩ [.pointer cn])/\
 Zc c λ eb=>
 ∃ co,(At F (Addr.add eb 0) [nI co])/\
 ∃ cp,(At F ⟨I,0 + 7,none⟩ [.string cp])/\
 nC 106 #[.pointer cn,nI co,.string cp] et λ bb dw=>
 (∃ cq,(bb=.returned (nI cq))/\
 nC 99 #[nI cq] dw λ bc U=>
 ((bc=.returned (.tuple #[]))/\
 (F U)/\
 nC 53 #[.pointer g,.pointer c] U λ bd dx=>
 (∃ b9 bj bk bl bm bn bo,∃ i j:Sl,(bd=.returned (.agg #[nI b9,.string bj,nI bk,nI bl,nI bm,nI bn,nI bo,i.v,j.v]))/\
 ∃ V,(St 33 ⟨e,0,none⟩ (.agg #[nI b9,.string bj,nI bk,nI bl,nI bm,nI bn,nI bo,i.v,j.v]) dx V)/\
 ∃ c0 c1 c3 c4 c5 c6 c7,∃ s t:Sl,(Aw V ⟨e,0,none⟩ [nI c0,.string c1,nI c3,nI c4,nI c5,nI c6,nI c7,s.v,t.v])/\
 K (.agg #[nI c0,.string c1,nI c3,nI c4,nI c5,nI c6,nI c7,s.v,t.v]) V)\/
 (∃ az:List PanicEntry,(bd=.panicked az)/\d az dx))\/
 (∃ ay:List PanicEntry,(bc=.panicked ay)/\d ay U))\/
 (∃ ax:List PanicEntry,(bb=.panicked ax)/\d ax dw))\/
 (∃ aw:List PanicEntry,(ba=.panicked aw)/\d aw dv))
 (Br (D==6)
 (nC 37 #[.bool (!G==3),nI 7] f λ be dy=>
 ((be=.returned (.tuple #[]))/\
 Drw dy λ ac eu=>
 ∃ cr,(At ac ⟨C,0,none⟩ [.pointer cr])/\
 Zc c λ ec=>
 ∃ bf,(At ac (Addr.add ec 0) [nI bf])/\
 nC 107 #[.pointer cr,nI bf] eu λ a3 dz=>
 (∃ M:Sl,∃ bg,(a3=.returned (.tuple #[M.v,nI bg]))/\
 nC 99 #[nI bg] dz λ a4 d0=>
 ((a4=.returned (.tuple #[]))/\
 nC 53 #[.pointer g,.pointer c] d0 λ a5 d1=>
 (∃ bp bq bs bt bu bv bw,∃ k l:Sl,(a5=.returned (.agg #[nI bp,.string bq,nI bs,nI bt,nI bu,nI bv,nI bw,k.v,l.v]))/\
 ∃ X,(St 33 ⟨e,0,none⟩ (.agg #[nI bp,.string bq,nI bs,nI bt,nI bu,nI bv,nI bw,k.v,l.v]) d1 X)/\
 ∃ c8 c9 da dc dd de df,∃ u v:Sl,(Aw X ⟨e,0,none⟩ [nI c8,.string c9,nI da,nI dc,nI dd,nI de,nI df,u.v,v.v])/\
 K (.agg #[nI c8,.string c9,nI da,nI dc,nI dd,nI de,nI df,u.v,v.v]) X)\/
 (∃ ap:List PanicEntry,(a5=.panicked ap)/\d ap d1))\/
 (∃ ao:List PanicEntry,(a4=.panicked ao)/\d ao d0))\/
 (∃ an:List PanicEntry,(a3=.panicked an)/\d an dz))\/
 (∃ a0:List PanicEntry,(be=.panicked a0)/\d a0 dy))
 (nC 53 #[.pointer g,.pointer c] f λ a6 d2=>
 (∃ bx bz b0 b2 b3 b4 b5,∃ m n:Sl,(a6=.returned (.agg #[nI bx,.string bz,nI b0,nI b2,nI b3,nI b4,nI b5,m.v,n.v]))/\
 ∃ Y,(St 33 ⟨e,0,none⟩ (.agg #[nI bx,.string bz,nI b0,nI b2,nI b3,nI b4,nI b5,m.v,n.v]) d2 Y)/\
 ∃ dg dh di dj dl dm dn,∃ x y:Sl,(Aw Y ⟨e,0,none⟩ [nI dg,.string dh,nI di,nI dj,nI dl,nI dm,nI dn,x.v,y.v])/\
 K (.agg #[nI dg,.string dh,nI di,nI dj,nI dl,nI dm,nI dn,x.v,y.v]) Y)\/
 (∃ aq:List PanicEntry,(a6=.panicked aq)/\d aq d2)))))) ev) eo) w
def sk42:Sk:=(.seq .leaf (.seq .leaf (.seq .leaf (.seq (.seq .leaf (.block (.seq .leaf (.cond .leaf (.seq .leaf (.cond (.cut [] [] [43,44,45,46,47,48,49,50,51,52,53,54,55,56,57] .leaf .leaf) .leaf)))))) .leaf))))
theorem ZBq (e:Option Addr) (p:Option Addr) (f:Int) (g:ByteArray) (i:Int) (j:Int) (k:Int) (l:Int) (m:Nat) (n:ByteArray) (o:Int) (c:Sl) (b:Sl) (d:List PanicEntry->World->Prop) (K:nK) (w : nW) (h:B42 e p f g i j k l m n o c b d K w):Zba prog 42 #[.pointer e,.pointer p,.agg #[nI f,.string g,nI i,nI j,nI k,nI l,.float .f64 m,.string n,nI o,c.v,b.v]] w d K:=cqx (sk:=sk42) h func42
def B12 (g:Option Addr) (g4:Int) (g5:ByteArray) (g6:Int) (g7:Int) (g8:Int) (g9:Int) (ha:Nat) (hb:ByteArray) (hc:Int) (ap:Sl) (ao:Sl) (K:nK) (w : nW):Prop:=
 New (.cells #[nI g4,.string g5,nI g6,nI g7,nI g8,nI g9,.float .f64 ha,.string hb,nI hc,ap.v,ao.v] 40 (0,0)) (λ d hd=>
 New (.cells #[nI 0,.string (ByteArray.mk #[]),nI 0,nI 0,nI 0,nI 0,nI 0,.slice none 0 0,.slice none 0 0] 33 (0,0)) (λ c gq=>
 ∃ dm dn dp dq dr ds dt du dv,∃ F E:Sl,(Aw gq ⟨d,0,none⟩ [nI dm,.string dn,nI dp,nI dq,nI dr,nI ds,.float .f64 dt,.string du,nI dv,F.v,E.v])/\
 nC 38 #[.agg #[nI dm,.string dn,nI dp,nI dq,nI dr,nI ds,.float .f64 dt,.string du,nI dv,F.v,E.v]] gq λ a2 gy=>
 (∃ dw,(a2=.returned (.bool dw))/\
 nC 37 #[.bool dw,nI 1] gy λ a3 al=>
 ((a3=.returned (.tuple #[]))/\
 ∃ f,(Aw al ⟨d,0,none⟩ [nI f])/\
 Br (f==1)
 (∃ ba bb bc bd be bf bg bh bi,∃ j i:Sl,(Aw al ⟨d,0,none⟩ [nI ba,.string bb,nI bc,nI bd,nI be,nI bf,.float .f64 bg,.string bh,nI bi,j.v,i.v])/\
 nC 39 #[.pointer g,.agg #[nI ba,.string bb,nI bc,nI bd,nI be,nI bf,.float .f64 bg,.string bh,nI bi,j.v,i.v]] al λ a4 g0=>
 (∃ bj bk bl bm bn bo bp,∃ k l:Sl,(a4=.returned (.agg #[nI bj,.string bk,nI bl,nI bm,nI bn,nI bo,nI bp,k.v,l.v]))/\
 ∃ g1,(St 33 ⟨c,0,none⟩ (.agg #[nI bj,.string bk,nI bl,nI bm,nI bn,nI bo,nI bp,k.v,l.v]) g0 g1)/\
 Z1 prog 36 [.pointer ((some ⟨c,0,none⟩))] .returning (λ g2=>∃ dx dy ek et e2 fb fk,∃ ab af:Sl,(Aw g2 ⟨c,0,none⟩ [nI dx,.string dy,nI ek,nI et,nI e2,nI fb,nI fk,ab.v,af.v])/\
 K (.agg #[nI dx,.string dy,nI ek,nI et,nI e2,nI fb,nI fk,ab.v,af.v]) g2) g1)\/
 (∃ aw:List PanicEntry,(a4=.panicked aw)/\Z1 prog 36 [.pointer ((some ⟨c,0,none⟩))] (.panicking aw) (λ g3=>∃ f7 dz d8 ee ef eg eh,∃ L M:Sl,(Aw g3 ⟨c,0,none⟩ [nI f7,.string dz,nI d8,nI ee,nI ef,nI eg,nI eh,L.v,M.v])/\
 K (.agg #[nI f7,.string dz,nI d8,nI ee,nI ef,nI eg,nI eh,L.v,M.v]) g3) g0))
 (∃ (an:Bool->World->Prop),(Br (f==2)
 (an (f==2) al)
 (an (f==7) al))/\
 ∀ (hf:Env) (bq:Bool) (e:World),an bq e->
 Br bq
 (∃ br bs bt bu bv bw bx bz b0,∃ n m:Sl,(Aw e ⟨d,0,none⟩ [nI br,.string bs,nI bt,nI bu,nI bv,nI bw,.float .f64 bx,.string bz,nI b0,n.v,m.v])/\
 nC 40 #[.pointer g,.agg #[nI br,.string bs,nI bt,nI bu,nI bv,nI bw,.float .f64 bx,.string bz,nI b0,n.v,m.v]] e λ a5 gg=>
 (∃ b1 b2 b3 b4 b5 b6 b7,∃ o p:Sl,(a5=.returned (.agg #[nI b1,.string b2,nI b3,nI b4,nI b5,nI b6,nI b7,o.v,p.v]))/\
 ∃ gh,(St 33 ⟨c,0,none⟩ (.agg #[nI b1,.string b2,nI b3,nI b4,nI b5,nI b6,nI b7,o.v,p.v]) gg gh)/\
 Z1 prog 36 [.pointer ((some ⟨c,0,none⟩))] .returning (λ gi=>∃ ei ej el em en eo ep,∃ N O:Sl,(Aw gi ⟨c,0,none⟩ [nI ei,.string ej,nI el,nI em,nI en,nI eo,nI ep,N.v,O.v])/\
 K (.agg #[nI ei,.string ej,nI el,nI em,nI en,nI eo,nI ep,N.v,O.v]) gi) gh)\/
 (∃ ax:List PanicEntry,(a5=.panicked ax)/\Z1 prog 36 [.pointer ((some ⟨c,0,none⟩))] (.panicking ax) (λ gj=>∃ eq er es eu ev ew ex,∃ Q T:Sl,(Aw gj ⟨c,0,none⟩ [nI eq,.string er,nI es,nI eu,nI ev,nI ew,nI ex,Q.v,T.v])/\
 K (.agg #[nI eq,.string er,nI es,nI eu,nI ev,nI ew,nI ex,Q.v,T.v]) gj) gg))
 (Br (f==8)
 (∃ b8 b9 ca cb cc cd ce cf cg,∃ r q:Sl,(Aw e ⟨d,0,none⟩ [nI b8,.string b9,nI ca,nI cb,nI cc,nI cd,.float .f64 ce,.string cf,nI cg,r.v,q.v])/\
 nC 41 #[.pointer g,.agg #[nI b8,.string b9,nI ca,nI cb,nI cc,nI cd,.float .f64 ce,.string cf,nI cg,r.v,q.v]] e λ a6 gk=>
 (∃ ch ci cj ck cl cm cn,∃ s t:Sl,(a6=.returned (.agg #[nI ch,.string ci,nI cj,nI ck,nI cl,nI cm,nI cn,s.v,t.v]))/\
 ∃ gl,(St 33 ⟨c,0,none⟩ (.agg #[nI ch,.string ci,nI cj,nI ck,nI cl,nI cm,nI cn,s.v,t.v]) gk gl)/\
 Z1 prog 36 [.pointer ((some ⟨c,0,none⟩))] .returning (λ gm=>∃ ey ez e0 e1 e3 e4 e5,∃ U V:Sl,(Aw gm ⟨c,0,none⟩ [nI ey,.string ez,nI e0,nI e1,nI e3,nI e4,nI e5,U.v,V.v])/\
 K (.agg #[nI ey,.string ez,nI e0,nI e1,nI e3,nI e4,nI e5,U.v,V.v]) gm) gl)\/
 (∃ ay:List PanicEntry,(a6=.panicked ay)/\Z1 prog 36 [.pointer ((some ⟨c,0,none⟩))] (.panicking ay) (λ gn=>∃ e6 e7 e8 e9 fa fc fd,∃ X Y:Sl,(Aw gn ⟨c,0,none⟩ [nI e6,.string e7,nI e8,nI e9,nI fa,nI fc,nI fd,X.v,Y.v])/\
 K (.agg #[nI e6,.string e7,nI e8,nI e9,nI fa,nI fc,nI fd,X.v,Y.v]) gn) gk))
 (Br (f==9)
 (∃ co cp cq cr cs ct cu cv cw,∃ v u:Sl,(Aw e ⟨d,0,none⟩ [nI co,.string cp,nI cq,nI cr,nI cs,nI ct,.float .f64 cu,.string cv,nI cw,v.v,u.v])/\
 nC 16 #[.pointer g,.agg #[nI co,.string cp,nI cq,nI cr,nI cs,nI ct,.float .f64 cu,.string cv,nI cw,v.v,u.v]] e λ a7 go=>
 (∃ cx cy cz c0 c1 c2 c3,∃ x y:Sl,(a7=.returned (.agg #[nI cx,.string cy,nI cz,nI c0,nI c1,nI c2,nI c3,x.v,y.v]))/\
 ∃ gp,(St 33 ⟨c,0,none⟩ (.agg #[nI cx,.string cy,nI cz,nI c0,nI c1,nI c2,nI c3,x.v,y.v]) go gp)/\
 Z1 prog 36 [.pointer ((some ⟨c,0,none⟩))] .returning (λ gr=>∃ fe ff fg fh fi fj fl,∃ Z aa:Sl,(Aw gr ⟨c,0,none⟩ [nI fe,.string ff,nI fg,nI fh,nI fi,nI fj,nI fl,Z.v,aa.v])/\
 K (.agg #[nI fe,.string ff,nI fg,nI fh,nI fi,nI fj,nI fl,Z.v,aa.v]) gr) gp)\/
 (∃ az:List PanicEntry,(a7=.panicked az)/\Z1 prog 36 [.pointer ((some ⟨c,0,none⟩))] (.panicking az) (λ gs=>∃ fm fn fo fp fq fr fs,∃ ac ad:Sl,(Aw gs ⟨c,0,none⟩ [nI fm,.string fn,nI fo,nI fp,nI fq,nI fr,nI fs,ac.v,ad.v])/\
 K (.agg #[nI fm,.string fn,nI fo,nI fp,nI fq,nI fr,nI fs,ac.v,ad.v]) gs) go))
 (Drw e λ am he=>
 ∃ c4,(At am ⟨d,0 + 1,none⟩ [.string c4])/\
 ∃ c6 c7 c8 c9 da db dc dd de,∃ A z:Sl,(At am ⟨d,0,none⟩ [nI c6,.string c7,nI c8,nI c9,nI da,nI db,.float .f64 dc,.string dd,nI de,A.v,z.v])/\
 nC 43 #[.pointer g,.string c4] he λ a8 aq=>
 (∃ c5,(a8=.returned (.pointer c5))/\
 (am aq)/\
 nC 42 #[.pointer g,.pointer c5,.agg #[nI c6,.string c7,nI c8,nI c9,nI da,nI db,.float .f64 dc,.string dd,nI de,A.v,z.v]] aq λ a9 ar=>
 (∃ df dg dh di dj dk dl,∃ C D:Sl,(a9=.returned (.agg #[nI df,.string dg,nI dh,nI di,nI dj,nI dk,nI dl,C.v,D.v]))/\
 (am ar)/\
 ∃ gt,(St 33 ⟨c,0,none⟩ (.agg #[nI df,.string dg,nI dh,nI di,nI dj,nI dk,nI dl,C.v,D.v]) ar gt)/\
 Z1 prog 36 [.pointer ((some ⟨c,0,none⟩))] .returning (λ gu=>∃ ft fu fv fw fx fy fz,∃ ae ag:Sl,(Aw gu ⟨c,0,none⟩ [nI ft,.string fu,nI fv,nI fw,nI fx,nI fy,nI fz,ae.v,ag.v])/\
 K (.agg #[nI ft,.string fu,nI fv,nI fw,nI fx,nI fy,nI fz,ae.v,ag.v]) gu) gt)\/
 (∃ a1:List PanicEntry,(a9=.panicked a1)/\Z1 prog 36 [.pointer ((some ⟨c,0,none⟩))] (.panicking a1) (λ gv=>∃ f0 f1 f2 f3 f4 f5 f6,∃ ah ai:Sl,(Aw gv ⟨c,0,none⟩ [nI f0,.string f1,nI f2,nI f3,nI f4,nI f5,nI f6,ah.v,ai.v])/\
 K (.agg #[nI f0,.string f1,nI f2,nI f3,nI f4,nI f5,nI f6,ah.v,ai.v]) gv) ar))\/
 (∃ a0:List PanicEntry,(a8=.panicked a0)/\Z1 prog 36 [.pointer ((some ⟨c,0,none⟩))] (.panicking a0) (λ gw=>∃ f8 f9 ga gb gc gd ge,∃ aj ak:Sl,(Aw gw ⟨c,0,none⟩ [nI f8,.string f9,nI ga,nI gb,nI gc,nI gd,nI ge,aj.v,ak.v])/\
 K (.agg #[nI f8,.string f9,nI ga,nI gb,nI gc,nI gd,nI ge,aj.v,ak.v]) gw) aq))))))\/
 (∃ av:List PanicEntry,(a3=.panicked av)/\Z1 prog 36 [.pointer ((some ⟨c,0,none⟩))] (.panicking av) (λ gx=>∃ gf d0 d1 d2 d3 d4 d5,∃ G H:Sl,(Aw gx ⟨c,0,none⟩ [nI gf,.string d0,nI d1,nI d2,nI d3,nI d4,nI d5,G.v,H.v])/\
 K (.agg #[nI gf,.string d0,nI d1,nI d2,nI d3,nI d4,nI d5,G.v,H.v]) gx) al))\/
 (∃ au:List PanicEntry,(a2=.panicked au)/\Z1 prog 36 [.pointer ((some ⟨c,0,none⟩))] (.panicking au) (λ gz=>∃ d6 d7 d9 ea eb ec ed,∃ I J:Sl,(Aw gz ⟨c,0,none⟩ [nI d6,.string d7,nI d9,nI ea,nI eb,nI ec,nI ed,I.v,J.v])/\
 K (.agg #[nI d6,.string d7,nI d9,nI ea,nI eb,nI ec,nI ed,I.v,J.v]) gz) gy)) hd) w
def sk12:Sk:=(.seq .leaf (.seq (.seq .leaf (.block (.seq .leaf (.cond .leaf (.cut [15] [.bool] [15,16,17] .leaf .leaf))))) .leaf))
theorem ZBG (d:Option Addr) (e:Int) (f:ByteArray) (g:Int) (i:Int) (j:Int) (k:Int) (l:Nat) (m:ByteArray) (n:Int) (c:Sl) (b:Sl) (K:nK) (w : nW) (h:B12 d e f g i j k l m n c b K w):Zm prog 12 #[.pointer d,.agg #[nI e,.string f,nI g,nI i,nI j,nI k,.float .f64 l,.string m,nI n,c.v,b.v]] w K:=cqd (sk:=sk12) h func12
def B16 (M:Option Addr) (dy:Int) (dz:ByteArray) (d0:Int) (d1:Int) (d2:Int) (d3:Int) (d4:Nat) (d5:ByteArray) (d6:Int) (Q:Sl) (O:Sl) (K:nK) (w : nW):Prop:=
 New (.cells #[nI dy,.string dz,nI d0,nI d1,nI d2,nI d3,.float .f64 d4,.string d5,nI d6,Q.v,O.v] 40 (0,0)) (λ d d7=>
 New (.cells #[nI 0,.string (ByteArray.mk #[]),nI 0,nI 0,nI 0,nI 0,nI 0,.slice none 0 0,.slice none 0 0] 33 (0,0)) (λ c dm=>
 ∃ (L:World->Prop),(∃ bq br bs bt bu bv bw bx bz,∃ p o:Sl,(Aw dm ⟨d,0,none⟩ [nI bq,.string br,nI bs,nI bt,nI bu,nI bv,.float .f64 bw,.string bx,nI bz,p.v,o.v])/\
 nC 38 #[.agg #[nI bq,.string br,nI bs,nI bt,nI bu,nI bv,.float .f64 bw,.string bx,nI bz,p.v,o.v]] dm λ ae J=>
 (∃ b0,(ae=.returned (.bool b0))/\
 Br b0
 (∃ am,(Aw J ⟨d,0,none⟩ [nI am])/\
 nC 37 #[.bool (am==9),nI 1] J λ af dt=>
 ((af=.returned (.tuple #[]))/\
 L  dt)\/
 (∃ X:List PanicEntry,(af=.panicked X)/\Z1 prog 36 [.pointer ((some ⟨c,0,none⟩))] (.panicking X) (λ du=>∃ an ao az a5 a6 a7 a8,∃ j k:Sl,(Aw du ⟨c,0,none⟩ [nI an,.string ao,nI az,nI a5,nI a6,nI a7,nI a8,j.v,k.v])/\
 K (.agg #[nI an,.string ao,nI az,nI a5,nI a6,nI a7,nI a8,j.v,k.v]) du) dt))
 (nC 37 #[.bool false,nI 1] J λ ag dv=>
 ((ag=.returned (.tuple #[]))/\
 L  dv)\/
 (∃ Y:List PanicEntry,(ag=.panicked Y)/\Z1 prog 36 [.pointer ((some ⟨c,0,none⟩))] (.panicking Y) (λ dw=>∃ a9 ap aq ar au av aw,∃ e f:Sl,(Aw dw ⟨c,0,none⟩ [nI a9,.string ap,nI aq,nI ar,nI au,nI av,nI aw,e.v,f.v])/\
 K (.agg #[nI a9,.string ap,nI aq,nI ar,nI au,nI av,nI aw,e.v,f.v]) dw) dv)))\/
 (∃ V:List PanicEntry,(ae=.panicked V)/\Z1 prog 36 [.pointer ((some ⟨c,0,none⟩))] (.panicking V) (λ dx=>∃ ax ay a0 a1 a2 a3 a4,∃ g i:Sl,(Aw dx ⟨c,0,none⟩ [nI ax,.string ay,nI a0,nI a1,nI a2,nI a3,nI a4,g.v,i.v])/\
 K (.agg #[nI ax,.string ay,nI a0,nI a1,nI a2,nI a3,nI a4,g.v,i.v]) dx) J))/\
 ∀ (ea:Env)  (G:World),L  G->
 ∃ ba,(Aw G ⟨d,0 + 1,none⟩ [.string ba])/\
 Br (!ba.toList==(ByteArray.mk #[]).toList)
 (∃ bb,(Aw G ⟨d,0 + 1,none⟩ [.string bb])/\
 nC 43 #[.pointer M,.string bb] G λ ah de=>
 (∃ bc,(ah=.returned (.pointer bc))/\
 nC 53 #[.pointer M,.pointer bc] de λ ai df=>
 (∃ bd be bf bg bh bi bj,∃ l m:Sl,(ai=.returned (.agg #[nI bd,.string be,nI bf,nI bg,nI bh,nI bi,nI bj,l.v,m.v]))/\
 ∃ dg,(St 33 ⟨c,0,none⟩ (.agg #[nI bd,.string be,nI bf,nI bg,nI bh,nI bi,nI bj,l.v,m.v]) df dg)/\
 Z1 prog 36 [.pointer ((some ⟨c,0,none⟩))] .returning (λ dh=>∃ b1 b2 cb ck ct c2 db,∃ E F:Sl,(Aw dh ⟨c,0,none⟩ [nI b1,.string b2,nI cb,nI ck,nI ct,nI c2,nI db,E.v,F.v])/\
 K (.agg #[nI b1,.string b2,nI cb,nI ck,nI ct,nI c2,nI db,E.v,F.v]) dh) dg)\/
 (∃ aa:List PanicEntry,(ai=.panicked aa)/\Z1 prog 36 [.pointer ((some ⟨c,0,none⟩))] (.panicking aa) (λ di=>∃ dd b3 b4 b5 b6 b7 b8,∃ q r:Sl,(Aw di ⟨c,0,none⟩ [nI dd,.string b3,nI b4,nI b5,nI b6,nI b7,nI b8,q.v,r.v])/\
 K (.agg #[nI dd,.string b3,nI b4,nI b5,nI b6,nI b7,nI b8,q.v,r.v]) di) df))\/
 (∃ Z:List PanicEntry,(ah=.panicked Z)/\Z1 prog 36 [.pointer ((some ⟨c,0,none⟩))] (.panicking Z) (λ dj=>∃ b9 ca cc cd ce cf cg,∃ s t:Sl,(Aw dj ⟨c,0,none⟩ [nI b9,.string ca,nI cc,nI cd,nI ce,nI cf,nI cg,s.v,t.v])/\
 K (.agg #[nI b9,.string ca,nI cc,nI cd,nI ce,nI cf,nI cg,s.v,t.v]) dj) de))
 (∃ bk,(Aw G ⟨d,0 + 2,none⟩ [nI bk])/\
 nC 54 #[.pointer M,nI bk] G λ aj dk=>
 (∃ bl bm,(aj=.returned (.agg #[.pointer bl,.pointer bm]))/\
 New (.cells #[.pointer none,.pointer none] 97 (0,0)) (λ N d8=>
 ∃ dl,(St 97 ⟨N,0,none⟩ (.agg #[.pointer bl,.pointer bm]) d8 dl)/\
 Drw dl λ H d9=>
 ∃ bn,(At H ⟨d,0 + 2,none⟩ [nI bn])/\
 ∃ bo,(At H ⟨N,0,none⟩ [.pointer bo])/\
 ∃ bp,(At H ⟨N,0 + 1,none⟩ [.pointer bp])/\
 nC 55 #[.pointer bo] d9 λ ak T=>
 (∃ n:Sl,(ak=.returned (n.v))/\
 (H T)/\
 nC 56 #[.pointer bp] T λ al U=>
 (∃ I:Sl,(al=.returned (I.v))/\
 (H U)/\
 ∃ dn,(St 33 ⟨c,0,none⟩ (.agg #[nI 0,.string (ByteArray.mk #[]),nI 0,nI bn,nI 0,nI ((↑I.len:Int)),nI 0,n.v,.slice none 0 0]) U dn)/\
 Z1 prog 36 [.pointer ((some ⟨c,0,none⟩))] .returning (λ dp=>∃ ch ci cj cl cm cn co,∃ u v:Sl,(Aw dp ⟨c,0,none⟩ [nI ch,.string ci,nI cj,nI cl,nI cm,nI cn,nI co,u.v,v.v])/\
 K (.agg #[nI ch,.string ci,nI cj,nI cl,nI cm,nI cn,nI co,u.v,v.v]) dp) dn)\/
 (∃ ad:List PanicEntry,(al=.panicked ad)/\Z1 prog 36 [.pointer ((some ⟨c,0,none⟩))] (.panicking ad) (λ dq=>∃ cp cq cr cs cu cv cw,∃ x y:Sl,(Aw dq ⟨c,0,none⟩ [nI cp,.string cq,nI cr,nI cs,nI cu,nI cv,nI cw,x.v,y.v])/\
 K (.agg #[nI cp,.string cq,nI cr,nI cs,nI cu,nI cv,nI cw,x.v,y.v]) dq) U))\/
 (∃ ac:List PanicEntry,(ak=.panicked ac)/\Z1 prog 36 [.pointer ((some ⟨c,0,none⟩))] (.panicking ac) (λ dr=>∃ cx cy cz c0 c1 c3 c4,∃ z A:Sl,(Aw dr ⟨c,0,none⟩ [nI cx,.string cy,nI cz,nI c0,nI c1,nI c3,nI c4,z.v,A.v])/\
 K (.agg #[nI cx,.string cy,nI cz,nI c0,nI c1,nI c3,nI c4,z.v,A.v]) dr) T)) dk)\/
 (∃ ab:List PanicEntry,(aj=.panicked ab)/\Z1 prog 36 [.pointer ((some ⟨c,0,none⟩))] (.panicking ab) (λ ds=>∃ c5 c6 c7 c8 c9 da dc,∃ C D:Sl,(Aw ds ⟨c,0,none⟩ [nI c5,.string c6,nI c7,nI c8,nI c9,nI da,nI dc,C.v,D.v])/\
 K (.agg #[nI c5,.string c6,nI c7,nI c8,nI c9,nI da,nI dc,C.v,D.v]) ds) dk))) d7) w
def sk16:Sk:=(.cut [] [] [6,7,8,9,10,11,12,13] .leaf .leaf)
theorem ZBF (d:Option Addr) (e:Int) (f:ByteArray) (g:Int) (i:Int) (j:Int) (k:Int) (l:Nat) (m:ByteArray) (n:Int) (c:Sl) (b:Sl) (K:nK) (w : nW) (h:B16 d e f g i j k l m n c b K w):Zm prog 16 #[.pointer d,.agg #[nI e,.string f,nI g,nI i,nI j,nI k,.float .f64 l,.string m,nI n,c.v,b.v]] w K:=cqd (sk:=sk16) h func16
def B18 (d:Option Addr) (K:nK) (w : nW):Prop:=
 New (.cells #[.slice none 0 0] 112 (0,0)) (λ k bc=>
 Drw bc λ i bj=>
 Zc d λ av=>
 ∃ O,(At i (Addr.add av 0) [nI O])/\
 Zc d λ A=>
 ∃ Q,(At i (nO A 1) [nI Q])/\
 Zc d λ C=>
 ∃ T:Option Nat,(At i (nO C 2) [.map T])/\
 ∃ U:Int,(∀ b,i b->((Builtin.len_ #[77] 3 #[.map T])).run prog b=.ok (nI U) b)/\
 New (.cells #[nI O,nI Q,nI U] 3 (0,0)) (λ az aq=>
 (i aq)/\
 nC 60 #[.pointer ((some ⟨k,0,none⟩)),.slice ((some ⟨az,0,none⟩)) 3 3] aq λ a1 x=>
 (a1=.returned (.tuple #[]))/\
 (i x)/\
 Zc d λ D=>
 ∃ V:Option Nat,(Aw x (nO D 2) [.map V])/\
 nC 62 #[.map V] x λ a2 bl=>
 ∃ X:Value,(a2=.returned (X))/\
 nC 61 #[X] bl λ a4 bm=>
 ∃ m:Sl,(a4=.returned (m.v))/\
 ∃ (r:Int->World->Prop) (ar:Int->World->Nat),(r 0 bm)/\∀ (bo:Env) (f:Int) (c:World),r f c->
 Br (decide (f<(↑m.len:Int)))
 (Rng f m.len (Zc m.a λ aw=>
 ∃ Y,(Aw c (Addr.add aw f.toNat) [nI Y])/\
 Zc d λ E=>
 ∃ Z:Option Nat,(Aw c (nO E 2) [.map Z])/\
 ∃ aa ab:Option Addr,(∀ b,(λ b=>b=c) b->((Instr.lookup 77 (.map Z) (nI Y) false)).run prog b=.ok (.agg #[.pointer aa,.pointer ab]) b)/\
 New (.cells #[.pointer none,.pointer none] 97 (0,0)) (λ t bn=>
 ∃ y,(St 97 ⟨t,0,none⟩ (.agg #[.pointer aa,.pointer ab]) bn y)/\
 ∃ ac,(Aw y ⟨t,0,none⟩ [.pointer ac])/\
 nC 64 #[.pointer ac] y λ a5 bd=>
 ∃ n:Sl,(a5=.returned (n.v))/\
 nC 63 #[.pointer ((some ⟨k,0,none⟩)),n.v] bd λ a6 an=>
 (a6=.returned (.tuple #[]))/\
 ∃ ad,(Aw an ⟨t,0 + 1,none⟩ [.pointer ad])/\
 nC 65 #[.pointer ad] an λ a7 be=>
 ∃ o:Sl,(a7=.returned (o.v))/\
 nC 63 #[.pointer ((some ⟨k,0,none⟩)),o.v] be λ a8 ao=>
 (a8=.returned (.tuple #[]))/\
 (r (wI (f + 1)) ao)/\ar (wI (f + 1)) ao<ar f c) c))
 (Zc d λ F=>
 ∃ ae:Option Nat,(Aw c (nO F 3) [.map ae])/\
 ∃ af:Int,(∀ b,(λ b=>b=c) b->((Builtin.len_ #[78] 3 #[.map ae])).run prog b=.ok (nI af) b)/\
 New (.cells #[nI af] 3 (0,0)) (λ a0 bf=>
 nC 60 #[.pointer ((some ⟨k,0,none⟩)),.slice ((some ⟨a0,0,none⟩)) 1 1] bf λ a9 ap=>
 (a9=.returned (.tuple #[]))/\
 Zc d λ G=>
 ∃ ag:Option Nat,(Aw ap (nO G 3) [.map ag])/\
 nC 66 #[.map ag] ap λ ba bg=>
 ∃ ah:Value,(ba=.returned (ah))/\
 nC 61 #[ah] bg λ bb bh=>
 ∃ p:Sl,(bb=.returned (p.v))/\
 ∃ (s:Int->World->Prop) (au:Int->World->Nat),(s 0 bh)/\∀ (bp:Env) (g:Int) (e:World),s g e->
 Br (decide (g<(↑p.len:Int)))
 (Rng g p.len (Zc p.a λ ax=>
 ∃ u,(Aw e (Addr.add ax g.toNat) [nI u])/\
 Zc d λ H=>
 ∃ ai:Option Nat,(Aw e (nO H 3) [.map ai])/\
 ∃ q:Option Addr,(∀ b,(λ b=>b=e) b->((Instr.lookup 78 (.map ai) (nI u) false)).run prog b=.ok (.pointer q) b)/\
 Drw e λ j bi=>
 Zc q λ I=>
 ∃ aj,(At j (nO I 1) [nI aj])/\
 Zc q λ J=>
 ∃ ak,(At j (nO J 2) [nI ak])/\
 Zc q λ L=>
 ∃ al,(At j (nO L 3) [nI al])/\
 Zc q λ M=>
 ∃ am,(At j (nO M 4) [nI am])/\
 Zc q λ z=>
 ∃ N,(At j (nO z 5) [nI N])/\
 New (.cells #[nI u,nI aj,nI ak,nI al,nI am,nI N] 3 (0,0)) (λ ay bk=>
 nC 60 #[.pointer ((some ⟨k,0,none⟩)),.slice ((some ⟨ay,0,none⟩)) 6 6] bk λ a3 v=>
 (a3=.returned (.tuple #[]))/\
 (j v)/\
 (s (wI (g + 1)) v)/\au (wI (g + 1)) v<au g e) bi))
 (∃ l:Sl,(Aw e ⟨k,0,none⟩ [l.v])/\
 K (l.v) e)) c)) bj) w
def sk18:Sk:=(.seq .leaf (.seq .leaf (.seq .leaf (.seq (.seq .leaf (.block (.loop [35] [(.int .i64)] [5,6,35,36,37,38,39,40,41,42,43,44,45,46,47,48,49,50,51,52,53,54,55] .leaf))) (.seq .leaf (.seq (.seq .leaf (.block (.loop [71] [(.int .i64)] [8,9,71,72,73,74,75,76,77,78,79,80,81,82,83,84,85,86,87,88,89,90,91,92,93,94,95,96,97,98,99,100,101,102,103,104,105] .leaf))) .leaf))))))
theorem ZBE (a:Option Addr) (K:nK) (w : nW) (h:B18 a K w):Zm prog 18 #[.pointer a] w K:=cq (sk:=sk18) h func18
set_option maxRecDepth 10000
def B139 (d:Nat) (K:nK) (w : nW):Prop:=
 Ext prog 210 #[.float .f64 d] w λ c b=>
 ∃ a,(c=.returned (.int .u64 a))/\
 Br (decide (a<9223372036854775808))
 (K (.int .u64 (IntKind.u64.wrap (a + 9223372036854775808))) b)
 (K (.int .u64 (IntKind.u64.wrap (18446744073709551615 - a))) b)
theorem ZzA (a:Nat) (K:nK) (w : nW) (h:B139 a K w):Zm prog 139 #[.float .f64 a] w K:=cq (sk:=.leaf) h func139
def B148 (a:Int) (K:nK) (w : nW):Prop:=
 Br (decide (a >= 9223372036854775808))
 (Ext prog 222 #[.int .u64 (IntKind.u64.wrap (a - 9223372036854775808))] w λ d f=>
 ∃ c,(d=.returned (.float .f64 c))/\
 K (.float .f64 c) f)
 (Ext prog 222 #[.int .u64 (IntKind.u64.wrap (18446744073709551615 - a))] w λ e g=>
 ∃ b,(e=.returned (.float .f64 b))/\
 K (.float .f64 b) g)
theorem Zzs (a:Int) (K:nK) (w : nW) (h:B148 a K w):Zm prog 148 #[.int .u64 a] w K:=cq (sk:=.leaf) h func148
def B258 (b:Nat) (c:Nat) (K:nK) (w : nW):Prop:=
 ∃ d:Bool,(∀ a,(λ a=>a=w) a->((do eqGuard BinOp.neq 35 (Operand.tmp 7) (Operand.tmp 8) (.float .f64 b) (.float .f64 b);binOp BinOp.neq 35 (.float .f64 b) (.float .f64 b):Sem Value)).run prog a=.ok (.bool d) a)/\
 ∃ e:Bool,(∀ a,(λ a=>a=w) a->((do eqGuard BinOp.neq 35 (Operand.tmp 10) (Operand.tmp 11) (.float .f64 c) (.float .f64 c);binOp BinOp.neq 35 (.float .f64 c) (.float .f64 c):Sem Value)).run prog a=.ok (.bool e) a)/\
 Br d
 (Br e
 (K (nI 0) w)
 (∃ f:Bool,(∀ a,(λ a=>a=w) a->((do eqGuard BinOp.eql 35 (Operand.tmp 19) (Operand.tmp 20) (.float .f64 b) (.float .f64 c);binOp BinOp.eql 35 (.float .f64 b) (.float .f64 c):Sem Value)).run prog a=.ok (.bool f) a)/\
 Br f
 (K (nI 0) w)
 (Br d
 (K (nI ((-1))) w)
 (∃ i:Bool,(∀ a,(λ a=>a=w) a->((do eqGuard BinOp.lss 35 (Operand.tmp 26) (Operand.tmp 27) (.float .f64 b) (.float .f64 c);binOp BinOp.lss 35 (.float .f64 b) (.float .f64 c):Sem Value)).run prog a=.ok (.bool i) a)/\
 Br i
 (K (nI ((-1))) w)
 (K (nI 1) w)))))
 (∃ g:Bool,(∀ a,(λ a=>a=w) a->((do eqGuard BinOp.eql 35 (Operand.tmp 19) (Operand.tmp 20) (.float .f64 b) (.float .f64 c);binOp BinOp.eql 35 (.float .f64 b) (.float .f64 c):Sem Value)).run prog a=.ok (.bool g) a)/\
 Br g
 (K (nI 0) w)
 (Br d
 (K (nI ((-1))) w)
 (∃ j:Bool,(∀ a,(λ a=>a=w) a->((do eqGuard BinOp.lss 35 (Operand.tmp 26) (Operand.tmp 27) (.float .f64 b) (.float .f64 c);binOp BinOp.lss 35 (.float .f64 b) (.float .f64 c):Sem Value)).run prog a=.ok (.bool j) a)/\
 Br j
 (K (nI ((-1))) w)
 (K (nI 1) w))))
theorem Zyk (a:Nat) (b:Nat) (K:nK) (w : nW) (h:B258 a b K w):Zm prog 258 #[.float .f64 a,.float .f64 b] w K:=cq (sk:=.leaf) h func258
def B189 (m:Int) (n:Int) (o:Int) (p:Int) (q:Nat) (K:nK) (w : nW):Prop:=
 New (.cells #[nI m,nI n,nI o,nI p,.float .f64 q] 168 (0,0)) (λ c a=>
 ∃ k,(Aw a ⟨c,0,none⟩ [nI k])/\
 Br (decide (k >= 1))
 (∃ l,(Aw a ⟨c,0,none⟩ [nI l])/\
 Br (decide (l<=28629151))
 (∃ d,(Aw a ⟨c,0 + 1,none⟩ [nI d])/\
 Br (decide (d >= 0))
 (∃ e,(Aw a ⟨c,0 + 1,none⟩ [nI e])/\
 Br (decide (e<=7))
 (∃ f,(Aw a ⟨c,0 + 2,none⟩ [nI f])/\
 Br (decide (f >= 1))
 (∃ g,(Aw a ⟨c,0 + 2,none⟩ [nI g])/\
 Br (decide (g<=600))
 (∃ i,(Aw a ⟨c,0 + 3,none⟩ [nI i])/\
 Br (decide (i >= 0))
 (∃ j,(Aw a ⟨c,0 + 3,none⟩ [nI j])/\
 K (.bool (decide (j<=1099511627776))) a)
 (K (.bool false) a))
 (K (.bool false) a))
 (K (.bool false) a))
 (K (.bool false) a))
 (K (.bool false) a))
 (K (.bool false) a))
 (K (.bool false) a)) w
theorem ZyY (a:Int) (b:Int) (c:Int) (d:Int) (e:Nat) (K:nK) (w : nW) (h:B189 a b c d e K w):Zm prog 189 #[.agg #[nI a,nI b,nI c,nI d,.float .f64 e]] w K:=cq (sk:=.leaf) h func189
def B191 (p:Int) (q:Int) (r:Int) (s:Int) (t:Nat) (u:Int) (v:Int) (x:Int) (y:Int) (z:Nat) (K:nK) (w : nW):Prop:=
 New (.cells #[nI p,nI q,nI r,nI s,.float .f64 t] 168 (0,0)) (λ c C=>
 New (.cells #[nI u,nI v,nI x,nI y,.float .f64 z] 168 (0,0)) (λ d f=>
 ∃ n,(Aw f ⟨c,0 + 4,none⟩ [.float .f64 n])/\
 ∃ o,(Aw f ⟨d,0 + 4,none⟩ [.float .f64 o])/\
 nC 258 #[.float .f64 n,.float .f64 o] f λ A b=>
 ∃ e,(A=.returned (nI e))/\
 Br (e !=0)
 (K (.bool (decide (e>0))) b)
 (∃ g,(Aw b ⟨c,0 + 3,none⟩ [nI g])/\
 ∃ i,(Aw b ⟨d,0 + 3,none⟩ [nI i])/\
 Br (g !=i)
 (∃ j,(Aw b ⟨c,0 + 3,none⟩ [nI j])/\
 ∃ k,(Aw b ⟨d,0 + 3,none⟩ [nI k])/\
 K (.bool (decide (j<k))) b)
 (∃ l,(Aw b ⟨c,0,none⟩ [nI l])/\
 ∃ m,(Aw b ⟨d,0,none⟩ [nI m])/\
 K (.bool (decide (l<m))) b))) C) w
theorem ZyW (a:Int) (b:Int) (c:Int) (d:Int) (e:Nat) (f:Int) (g:Int) (i:Int) (j:Int) (k:Nat) (K:nK) (w : nW) (h:B191 a b c d e f g i j k K w):Zm prog 191 #[.agg #[nI a,nI b,nI c,nI d,.float .f64 e],.agg #[nI f,nI g,nI i,nI j,.float .f64 k]] w K:=cq (sk:=.leaf) h func191
def B190 (i:Option Addr) (o:Int) (K:nK) (w : nW):Prop:=
 ∃ (g:Int->World->Prop) (k:Int->World->Nat),(g 0 w)/\∀ (p:Env) (c:Int) (b:World),g c b->
 Zc i λ n=>
 ∃ f:Sl,(Aw b (Addr.add n 0) [f.v])/\
 Br (decide (c<(↑f.len:Int)))
 (Zc i λ l=>
 ∃ d:Sl,(Aw b (Addr.add l 0) [d.v])/\
 Rng c d.len (Zc d.a λ m=>
 ∃ j,(Aw b (Addr.add (Addr.add m (Zcp c.toNat 5)) 0) [nI j])/\
 Br (j==o)
 (K (nI c) b)
 ((g (wI (c + 1)) b)/\k (wI (c + 1)) b<k c b)))
 (K (nI ((-1))) b)
def ZCr:Sk:=(.seq .leaf (.seq (.seq .leaf (.block (.loop [5] [(.int .i64)] [4,5,6,7,8,9,10,11,12,13,14,15,16,17,18,19,20,21,22,23,24,25] .leaf))) .leaf))
theorem ZyX (b:Option Addr) (a:Int) (K:nK) (w : nW) (h:B190 b a K w):Zm prog 190 #[.pointer b,nI a] w K:=cq (sk:=ZCr) h func190
def B112 (f:Option Addr) (ay:Int) (az:Int) (a0:Int) (a1:Int) (a2:Nat) (K:nK) (w : nW):Prop:=
 New (.cells #[nI ay,nI az,nI a0,nI a1,.float .f64 a2] 168 (0,0)) (λ n ad=>
 ∃ X Y Z aa ab,(Aw ad ⟨n,0,none⟩ [nI X,nI Y,nI Z,nI aa,.float .f64 ab])/\
 nC 189 #[.agg #[nI X,nI Y,nI Z,nI aa,.float .f64 ab]] ad λ av v=>
 ∃ ac,(av=.returned (.bool ac))/\
 Br (!ac)
 (K (nI 1) v)
 (∃ z,(Aw v ⟨n,0,none⟩ [nI z])/\
 nC 190 #[.pointer f,nI z] v λ aw q=>
 ∃ A,(aw=.returned (nI A))/\
 Br (decide (A >= 0))
 (K (nI 7) q)
 (Zc f λ ak=>
 ∃ o:Sl,(Aw q (Addr.add ak 0) [o.v])/\
 Br (decide ((↑o.len:Int) >= 200))
 (K (nI 3) q)
 (∃ (t:Int->World->Prop),(∃ (s:Int->World->Prop) (aj:Int->World->Nat),(s 0 q)/\∀ (a4:Env) (c:Int) (x:World),s c x->
 Drw x λ l ag=>
 Zc f λ al=>
 ∃ p:Sl,(At l (Addr.add al 0) [p.v])/\
 Br (decide (c<(↑p.len:Int)))
 (Zc f λ am=>
 ∃ m:Sl,(At l (Addr.add am 0) [m.v])/\
 Rng c m.len (Zc m.a λ an=>
 ∃ C D E F G,(At l (Addr.add an (Zcp c.toNat 5)) [nI C,nI D,nI E,nI F,.float .f64 G])/\
 ∃ H I J L M,(At l ⟨n,0,none⟩ [nI H,nI I,nI J,nI L,.float .f64 M])/\
 nC 191 #[.agg #[nI C,nI D,nI E,nI F,.float .f64 G],.agg #[nI H,nI I,nI J,nI L,.float .f64 M]] ag λ ax r=>
 ∃ N,(ax=.returned (.bool N))/\
 (l r)/\
 Br N
 ((s (wI (c + 1)) r)/\aj (wI (c + 1)) r<aj c x)
 (t c r)))
 (t c ag))/\
 ∀ (a5:Env) (d:Int) (ah:World),t d ah->
 New (.cells #[] 168 (0,0)) (λ ar ai=>
 Zc f λ ao=>
 ∃ g:Sl,(Aw ai (Addr.add ao 0) [g.v])/\
 ((0:Int)<=d)/\
 ((d:Int)<=(↑g.cap:Int))/\
 ∃ y:World,∃ i:Sl,((Builtin.append_ #[100,100] 100 #[.slice ((some ⟨ar,0,none⟩)) 0 0,.slice g.a d.toNat g.cap]).run prog ai=.ok (i.v) y)/\
 ∃ O Q T U V,(Aw y ⟨n,0,none⟩ [nI O,nI Q,nI T,nI U,.float .f64 V])/\
 New (.cells #[nI O,nI Q,nI T,nI U,.float .f64 V] 168 (0,0)) (λ au a3=>
 ∃ u:World,∃ j:Sl,((Builtin.append_ #[100,100] 100 #[i.v,.slice ((some ⟨au,0,none⟩)) 1 1]).run prog a3=.ok (j.v) u)/\
 Zc f λ ap=>
 ∃ e:Sl,(Aw u (Addr.add ap 0) [e.v])/\
 ((0:Int)<=d)/\
 ((d:Int)<=(↑e.len:Int))/\
 ∃ ae:World,∃ k:Sl,((Builtin.append_ #[100,100] 100 #[j.v,.slice (Zck e.a d.toNat e.cap 5) (e.len - d.toNat) (e.cap - d.toNat)]).run prog u=.ok (k.v) ae)/\
 Zc f λ aq=>
 ∃ af,(St 100 (Addr.add aq 0) (k.v) ae af)/\
 K (nI 0) af) y) ah)))) w
def ZCM:Sk:=(.seq .leaf (.seq .leaf (.seq .leaf (.seq .leaf (.seq .leaf (.seq .leaf (.cut [6] [(.int .i64)] [6,23,24,25,26,27,28,29,30,31,32,33,34,35,36,37,38,39,40,41,42] (.block (.loop [6] [(.int .i64)] [6,23,24,25,26,27,28,29,30,31,32,33,34,35,36,37,38,39,40,41,42] .leaf)) .leaf)))))))
theorem ZzL (a:Option Addr) (b:Int) (c:Int) (d:Int) (e:Int) (f:Nat) (K:nK) (w : nW) (h:B112 a b c d e f K w):Zm prog 112 #[.pointer a,.agg #[nI b,nI c,nI d,nI e,.float .f64 f]] w K:=cq (sk:=ZCM) h func112
def B70 (t:Option Addr) (K:nK) (w : nW):Prop:=
 Zc t λ V=>
 ∃ o:Sl,(Aw w (Addr.add V 0) [o.v])/\
 nC 137 #[.int .u64 (IntKind.u64.wrap (↑o.len:Int))] w λ Y ab=>
 ∃ p:Sl,(Y=.returned (p.v))/\
 ∃ (r:Sl->Int->World->Prop) (N:Sl->Int->World->Nat),(r p 0 ab)/\∀ (af:Env) (i:Sl) (e:Int) (g:World),r i e g->
 Zc t λ Q=>
 ∃ q:Sl,(Aw g (Addr.add Q 0) [q.v])/\
 Br (decide (e<(↑q.len:Int)))
 (Zc t λ T=>
 ∃ m:Sl,(Aw g (Addr.add T 0) [m.v])/\
 Rng e m.len (Zc m.a λ U=>
 ∃ v x y z A,(Aw g (Addr.add U (Zcp e.toNat 5)) [nI v,nI x,nI y,nI z,.float .f64 A])/\
 New (.cells #[nI 0,nI 0,nI 0,nI 0,.float .f64 0] 168 (0,0)) (λ j ac=>
 ∃ J,(St 168 ⟨j,0,none⟩ (.agg #[nI v,nI x,nI y,nI z,.float .f64 A]) ac J)/\
 Drw J λ c ad=>
 ∃ C,(At c ⟨j,0,none⟩ [nI C])/\
 ∃ D,(At c ⟨j,0 + 1,none⟩ [nI D])/\
 ∃ E,(At c ⟨j,0 + 2,none⟩ [nI E])/\
 ∃ F,(At c ⟨j,0 + 3,none⟩ [nI F])/\
 ∃ G,(At c ⟨j,0 + 4,none⟩ [.float .f64 G])/\
 nC 139 #[.float .f64 G] ad λ Z L=>
 ∃ H,(Z=.returned (.int .u64 H))/\
 (c L)/\
 New (.cells #[.int .u64 (IntKind.u64.wrap C),.int .u64 (IntKind.u64.wrap D),.int .u64 (IntKind.u64.wrap E),.int .u64 (IntKind.u64.wrap F),.int .u64 H] 141 (0,0)) (λ X M=>
 (c M)/\
 ∃ (s:Sl->Int->World->Prop) (O:Sl->Int->World->Nat),(s i 0 M)/\∀ (ag:Env) (d:Sl) (f:Int) (l:World),s d f l->
 Br (decide (f<5))
 (Rng f 5 (∃ I,(Aw l (Addr.add ⟨X,0,none⟩ f.toNat) [.int .u64 I])/\
 nC 137 #[.int .u64 I] l λ aa ae=>
 ∃ k:Sl,(aa=.returned (k.v))/\
 ∃ u:World,∃ n:Sl,((Builtin.append_ #[47,47] 47 #[d.v,k.v]).run prog ae=.ok (n.v) u)/\
 (s n (wI (f + 1)) u)/\O n (wI (f + 1)) u<O d f l))
 ((r d (wI (e + 1)) l)/\N d (wI (e + 1)) l<N i e g)) L) g))
 (K (i.v) g)
def sk70:Sk:=(.seq .leaf (.seq .leaf (.seq (.seq .leaf (.block (.loop [3,4] [.sl,(.int .i64)] [3,4,5,6,7,15,16,17,18,19,20,21,22,23,24,25,26,27,28,29,30,31,32,33,34,35,36,37,38,39,40,41,42,43,44,45,46,47,48,49,50,51,52,53,54,55,56,57] (.seq .leaf (.seq (.block (.seq .leaf (.seq .leaf (.seq .leaf (.block (.loop [3,7] [.sl,(.int .i64)] [3,7,47,48,49,50,51,52,53,54,55,56,57] .leaf)))))) .leaf))))) .leaf)))
theorem ZBf (a:Option Addr) (K:nK) (w : nW) (h:B70 a K w):Zm prog 70 #[.pointer a] w K:=cq (sk:=sk70) h func70
def B145 (d:Sl) (K:nK) (w : nW):Prop:=
 New (.cells #[d.v,nI 0,.bool false] 140 (0,0)) (λ c aa=>
 nC 77 #[.pointer ((some ⟨c,0,none⟩)),.int .u64 200] aa λ M ae=>
 ∃ p,(M=.returned (.int .u64 p))/\
 New (.cells #[.slice none 0 0] 109 (0,0)) (λ l af=>
 ∃ (k:Int->World->Prop) (L:Int->World->Nat),(k 0 af)/\∀ (al:Env) (f:Int) (j:World),k f j->
 Br (decide (f<p))
 (nC 77 #[.pointer ((some ⟨c,0,none⟩)),.int .u64 28629151] j λ N ag=>
 ∃ q,(N=.returned (.int .u64 q))/\
 nC 77 #[.pointer ((some ⟨c,0,none⟩)),.int .u64 7] ag λ O ah=>
 ∃ r,(O=.returned (.int .u64 r))/\
 nC 77 #[.pointer ((some ⟨c,0,none⟩)),.int .u64 600] ah λ Q ai=>
 ∃ s,(Q=.returned (.int .u64 s))/\
 nC 77 #[.pointer ((some ⟨c,0,none⟩)),.int .u64 1099511627776] ai λ T aj=>
 ∃ t,(T=.returned (.int .u64 t))/\
 New (.cells #[nI 0,nI 0,nI 0,nI 0,.float .f64 0] 168 (0,0)) (λ m ak=>
 ∃ I,(St 168 ⟨m,0,none⟩ (.agg #[nI (wI q),nI (wI r),nI (wI s),nI (wI t),.float .f64 0]) ak I)/\
 nC 77 #[.pointer ((some ⟨c,0,none⟩)),.int .u64 18446744073709551615] I λ U ab=>
 ∃ u,(U=.returned (.int .u64 u))/\
 nC 148 #[.int .u64 u] ab λ V ac=>
 ∃ v,(V=.returned (.float .f64 v))/\
 ∃ n,(St 35 ⟨m,0 + 4,none⟩ (.float .f64 v) ac n)/\
 ∃ x y z A C,(Aw n ⟨m,0,none⟩ [nI x,nI y,nI z,nI A,.float .f64 C])/\
 nC 112 #[.pointer ((some ⟨l,0,none⟩)),.agg #[nI x,nI y,nI z,nI A,.float .f64 C]] n λ X g=>
 ∃ D,(X=.returned (nI D))/\
 ∃ E,(Aw g ⟨c,0 + 2,none⟩ [.bool E])/\
 Br E
 (K (.tuple #[.pointer none,nI 6]) g)
 (Br (D !=0)
 (K (.tuple #[.pointer none,nI 6]) g)
 ((k (IntKind.u64.wrap (f + 1)) g)/\L (IntKind.u64.wrap (f + 1)) g<L f j))) aj)
 (nC 80 #[.pointer ((some ⟨c,0,none⟩))] j λ Y ad=>
 ∃ F,(Y=.returned (.bool F))/\
 Drw ad λ o J=>
 Br (!F)
 (K (.tuple #[.pointer none,nI 6]) J)
 (∃ H:ByteArray,(∀ b,o b->((convert 47 9 (d.v))).run prog b=.ok (.string H) b)/\
 nC 70 #[.pointer ((some ⟨l,0,none⟩))] J λ Z i=>
 ∃ e:Sl,(Z=.returned (e.v))/\
 (o i)/\
 ∃ G:ByteArray,(∀ b,(λ b=>b=i) b->((convert 47 9 (e.v))).run prog b=.ok (.string G) b)/\
 Br (!G.toList==H.toList)
 (K (.tuple #[.pointer none,nI 6]) i)
 (K (.tuple #[.pointer ((some ⟨l,0,none⟩)),nI 0]) i)))) ae) w
def ZCA:Sk:=(.seq .leaf (.seq .leaf (.seq .leaf (.seq .leaf (.seq (.seq .leaf (.block (.loop [7] [(.int .u64)] [2,3,7,8,9,18,19,20,21,22,23,24,25,26,27,28,29,30,31,32,33,34,35,36,37,38,39,40,41,42,43,44,45,46,47,48,49,50] .leaf))) (.seq .leaf (.seq (.seq (.block .leaf) .leaf) .leaf)))))))
theorem Zzu (b:Sl) (K:nK) (w : nW) (h:B145 b K w):Zm prog 145 #[b.v] w K:=cq (sk:=ZCA) h func145
def B58 (k:Option Addr) (q:Int) (K:nK) (w : nW):Prop:=
 ∃ (g:Int->World->Prop) (n:Int->World->Nat),(g 0 w)/\∀ (r:Env) (c:Int) (b:World),g c b->
 Zc k λ j=>
 ∃ f:Sl,(Aw b (nO j 2) [f.v])/\
 Br (decide (c<(↑f.len:Int)))
 (Zc k λ i=>
 ∃ e:Sl,(Aw b (nO i 2) [e.v])/\
 Rng c e.len (Zc e.a λ o=>
 ∃ l,(Aw b (Addr.add (Addr.add o (Zcp c.toNat 2)) 0) [.pointer l])/\
 Zc l λ p=>
 ∃ m,(Aw b (Addr.add p 0) [nI m])/\
 Br (m==q)
 (K (nI c) b)
 ((g (wI (c + 1)) b)/\n (wI (c + 1)) b<n c b)))
 (K (nI ((-1))) b)
def sk58:Sk:=(.seq .leaf (.seq (.seq .leaf (.block (.loop [5] [(.int .i64)] [4,5,6,7,8,9,10,11,12,13,14,15,16,17,18,19,20,21,22,23,24,25,26,27,28] .leaf))) .leaf))
theorem ZBk (a:Option Addr) (b:Int) (K:nK) (w : nW) (h:B58 a b K w):Zm prog 58 #[.pointer a,nI b] w K:=cq (sk:=sk58) h func58
def B79 (t:Sl) (K:nK) (w : nW):Prop:=
 New (.cells #[t.v,nI 0,.bool false] 140 (0,0)) (λ b a7=>
 nC 77 #[.pointer ((some ⟨b,0,none⟩)),.int .u64 1099511627776] a7 λ ap bd=>
 ∃ L,(ap=.returned (.int .u64 L))/\
 nC 77 #[.pointer ((some ⟨b,0,none⟩)),.int .u64 28629151] bd λ aq bj=>
 ∃ M,(aq=.returned (.int .u64 M))/\
 New (.cells #[nI (wI L),nI (wI M),.slice none 0 0,.slice none 0 0] 46 (0,0)) (λ c bk=>
 nC 77 #[.pointer ((some ⟨b,0,none⟩)),.int .u64 8] bk λ az bl=>
 ∃ N,(az=.returned (.int .u64 N))/\
 ∃ (r:Int->World->Prop) (al:Int->World->Nat),(r 0 bl)/\∀ (bp:Env) (l:Int) (q:World),r l q->
 Br (decide (l<N))
 (nC 78 #[.pointer ((some ⟨b,0,none⟩)),nI 65536] q λ a0 bm=>
 ∃ f:Sl,(a0=.returned (f.v))/\
 nC 144 #[f.v] bm λ a1 bn=>
 ∃ O Q,(a1=.returned (.tuple #[.pointer O,nI Q]))/\
 nC 78 #[.pointer ((some ⟨b,0,none⟩)),nI 65536] bn λ a2 bo=>
 ∃ g:Sl,(a2=.returned (g.v))/\
 nC 145 #[g.v] bo λ a3 m=>
 ∃ T U,(a3=.returned (.tuple #[.pointer T,nI U]))/\
 ∃ (A:World->Prop),(∃ V,(Aw m ⟨b,0 + 2,none⟩ [.bool V])/\
 Br V
 (K (.tuple #[.pointer none,nI 6]) m)
 (Br (Q !=0)
 (K (.tuple #[.pointer none,nI 6]) m)
 (Br (U !=0)
 (K (.tuple #[.pointer none,nI 6]) m)
 (A  m))))/\
 ∀ (bq:Env)  (v:World),A  v->
 ∃ i:Sl,(Aw v ⟨c,0 + 2,none⟩ [i.v])/\
 New (.cells #[.pointer O,.pointer T] 107 (0,0)) (λ ao a8=>
 ∃ ae:World,∃ j:Sl,((Builtin.append_ #[43,43] 43 #[i.v,.slice ((some ⟨ao,0,none⟩)) 1 1]).run prog a8=.ok (j.v) ae)/\
 ∃ x,(St 43 ⟨c,0 + 2,none⟩ (j.v) ae x)/\
 (r (IntKind.u64.wrap (l + 1)) x)/\al (IntKind.u64.wrap (l + 1)) x<al l q) v)
 (nC 77 #[.pointer ((some ⟨b,0,none⟩)),.int .u64 300] q λ a4 a9=>
 ∃ X,(a4=.returned (.int .u64 X))/\
 ∃ (s:Int->World->Prop) (am:Int->World->Nat),(s 0 a9)/\∀ (br:Env) (k:Int) (p:World),s k p->
 Br (decide (k<X))
 (nC 77 #[.pointer ((some ⟨b,0,none⟩)),.int .u64 28629151] p λ a5 ba=>
 ∃ Y,(a5=.returned (.int .u64 Y))/\
 nC 77 #[.pointer ((some ⟨b,0,none⟩)),.int .u64 9999] ba λ a6 bb=>
 ∃ Z,(a6=.returned (.int .u64 Z))/\
 nC 77 #[.pointer ((some ⟨b,0,none⟩)),.int .u64 9999] bb λ ar bc=>
 ∃ aa,(ar=.returned (.int .u64 aa))/\
 nC 77 #[.pointer ((some ⟨b,0,none⟩)),.int .u64 9999] bc λ au be=>
 ∃ ab,(au=.returned (.int .u64 ab))/\
 New (.cells #[nI 0,nI 0,nI 0,nI 0,nI 0,nI 0] 125 (0,0)) (λ o bf=>
 ∃ af,(St 125 ⟨o,0,none⟩ (.agg #[nI (wI Y),nI (wI Z),nI (wI aa),nI (wI ab),nI 0,nI 0]) bf af)/\
 nC 77 #[.pointer ((some ⟨b,0,none⟩)),.int .u64 3] af λ av bg=>
 ∃ ac,(av=.returned (.int .u64 ac))/\
 ∃ ag,(St 3 ⟨o,0 + 4,none⟩ (nI (wI ac)) bg ag)/\
 nC 77 #[.pointer ((some ⟨b,0,none⟩)),.int .u64 1099511627776] ag λ aw bh=>
 ∃ ad,(aw=.returned (.int .u64 ad))/\
 ∃ ah,(St 3 ⟨o,0 + 5,none⟩ (nI (wI ad)) bh ah)/\
 Drw ah λ n bi=>
 ∃ d:Sl,(At n ⟨c,0 + 3,none⟩ [d.v])/\
 ∃ C D E F G H,(At n ⟨o,0,none⟩ [nI C,nI D,nI E,nI F,nI G,nI H])/\
 New (.cells #[nI C,nI D,nI E,nI F,nI G,nI H] 125 (0,0)) (λ an ai=>
 (n ai)/\
 ∃ y:World,∃ e:Sl,((Builtin.append_ #[44,44] 44 #[d.v,.slice ((some ⟨an,0,none⟩)) 1 1]).run prog ai=.ok (e.v) y)/\
 (n y)/\
 ∃ z,(St 44 ⟨c,0 + 3,none⟩ (e.v) y z)/\
 (s (IntKind.u64.wrap (k + 1)) z)/\am (IntKind.u64.wrap (k + 1)) z<am k p) bi) be)
 (nC 80 #[.pointer ((some ⟨b,0,none⟩))] p λ ax aj=>
 ∃ I,(ax=.returned (.bool I))/\
 Br I
 (nC 146 #[.pointer ((some ⟨c,0,none⟩))] aj λ ay ak=>
 ∃ J,(ay=.returned (.bool J))/\
 Br (!J)
 (K (.tuple #[.pointer none,nI 6]) ak)
 (K (.tuple #[.pointer ((some ⟨c,0,none⟩)),nI 0]) ak))
 (K (.tuple #[.pointer none,nI 6]) aj)))) bj) w
def sk79:Sk:=(.seq .leaf (.seq .leaf (.seq .leaf (.seq .leaf (.seq (.seq .leaf (.block (.loop [7] [(.int .u64)] [2,3,7,8,9,10,11,29,30,31,32,33,34,35,36,37,38,39,40,41,42,43,44,45,46,47,48,49,50,51,52,53,54,55,56,57,58,59,60,61,62,63,64,65,66,67,68,69] (.seq .leaf (.seq (.block (.seq .leaf (.seq .leaf (.cut [] [] [2,3,46,47,48,49,50,51,52,53,54,55,56,57] .leaf .leaf)))) .leaf))))) (.seq .leaf (.seq (.seq .leaf (.block (.loop [12] [(.int .u64)] [12,13,72,73,74,75,76,77,78,79,80,81,82,83,84,85,86,87,88,89,90,91,92,93,94,95,96,97,98,99,100,101,102,103,104,105,106,107] .leaf))) .leaf)))))))
theorem ZA6 (b:Sl) (K:nK) (w : nW) (h:B79 b K w):Zm prog 79 #[b.v] w K:=cq (sk:=sk79) h func79
def B146 (c:Option Addr) (K:nK) (w : nW):Prop:=
 Zc c λ Q=>
 ∃ ak,(Aw w (nO Q 1) [nI ak])/\
 Br (decide (ak<1))
 (K (.bool false) w)
 (∃ (I:Int->Int->World->Prop) (bo:Int->Int->World->Nat),(I 0 0 w)/\∀ (b6:Env) (A:Int) (b:Int) (C:World),I A b C->
 Zc c λ V=>
 ∃ F:Sl,(Aw C (nO V 2) [F.v])/\
 Br (decide (b<(↑F.len:Int)))
 (∃ (L:World->Prop),(Drw C λ m N=>
 Br (decide (b>0))
 (Zc c λ Z=>
 ∃ r:Sl,(At m (nO Z 2) [r.v])/\
 Rng b r.len (Zc r.a λ bt=>
 ∃ a6,(At m (Addr.add (Addr.add bt (Zcp b.toNat 2)) 0) [.pointer a6])/\
 Zc a6 λ bu=>
 ∃ a7,(At m (Addr.add bu 0) [nI a7])/\
 Zc c λ aa=>
 ∃ s:Sl,(At m (nO aa 2) [s.v])/\
 Rng (wI (b - 1)) s.len (Zc s.a λ bv=>
 ∃ a8,(At m (Addr.add (Addr.add bv (Zcp (wI (b - 1)).toNat 2)) 0) [.pointer a8])/\
 Zc a8 λ bw=>
 ∃ a9,(At m (Addr.add bw 0) [nI a9])/\
 Br (decide (a7<=a9))
 (K (.bool false) N)
 (L  N))))
 (L  N))/\
 ∀ (b7:Env)  (bm:World),L  bm->
 Drw bm λ n bn=>
 Zc c λ ab=>
 ∃ t:Sl,(At n (nO ab 2) [t.v])/\
 Rng b t.len (Zc t.a λ bx=>
 ∃ ba,(At n (Addr.add (Addr.add bx (Zcp b.toNat 2)) 0) [.pointer ba])/\
 Zc ba λ ac=>
 ∃ u:Sl,(At n (nO ac 4) [u.v])/\
 Zc c λ ad=>
 ∃ v:Sl,(At n (nO ad 2) [v.v])/\
 Rng b v.len (Zc v.a λ ae=>
 ∃ bb,(At n (nO (ae.add (Zcp b.toNat 2)) 1) [.pointer bb])/\
 Zc bb λ bz=>
 ∃ x:Sl,(At n (Addr.add bz 0) [x.v])/\
 (I (wI (wI (A + (↑u.len:Int)) + (↑x.len:Int))) (wI (b + 1)) bn)/\bo (wI (wI (A + (↑u.len:Int)) + (↑x.len:Int))) (wI (b + 1)) bn<bo A b C)))
 (∃ (J:Int->World->Prop) (bp:Int->World->Nat),(J 0 C)/\∀ (b8:Env) (f:Int) (j:World),J f j->
 Zc c λ af=>
 ∃ G:Sl,(Aw j (nO af 3) [G.v])/\
 Br (decide (f<(↑G.len:Int)))
 (Zc c λ ag=>
 ∃ y:Sl,(Aw j (nO ag 3) [y.v])/\
 Rng f y.len (Zc y.a λ b0=>
 ∃ bc bd be bf bg bh,(Aw j (Addr.add b0 (Zcp f.toNat 6)) [nI bc,nI bd,nI be,nI bf,nI bg,nI bh])/\
 New (.cells #[nI 0,nI 0,nI 0,nI 0,nI 0,nI 0] 125 (0,0)) (λ d b4=>
 ∃ O,(St 125 ⟨d,0,none⟩ (.agg #[nI bc,nI bd,nI be,nI bf,nI bg,nI bh]) b4 O)/\
 ∃ bi,(Aw O ⟨d,0 + 1,none⟩ [nI bi])/\
 nC 58 #[.pointer c,nI bi] O λ b1 b5=>
 ∃ z,(b1=.returned (nI z))/\
 ∃ (M:World->Prop),(Drw b5 λ i g=>
 ∃ bj,(At i ⟨d,0,none⟩ [nI bj])/\
 Br (decide (bj<1))
 (K (.bool false) g)
 (∃ ah,(At i ⟨d,0,none⟩ [nI ah])/\
 Zc c λ T=>
 ∃ ai,(At i (nO T 1) [nI ai])/\
 Br (decide (ah >= ai))
 (K (.bool false) g)
 (Br (decide (f>0))
 (∃ aj,(At i ⟨d,0,none⟩ [nI aj])/\
 Zc c λ U=>
 ∃ p:Sl,(At i (nO U 3) [p.v])/\
 Rng (wI (f - 1)) p.len (Zc p.a λ bq=>
 ∃ al,(At i (Addr.add (Addr.add bq (Zcp (wI (f - 1)).toNat 6)) 0) [nI al])/\
 Br (decide (aj<=al))
 (K (.bool false) g)
 (Br (decide (z<0))
 (K (.bool false) g)
 (∃ am,(At i ⟨d,0 + 4,none⟩ [nI am])/\
 Br (decide (am<1))
 (K (.bool false) g)
 (M  g)))))
 (Br (decide (z<0))
 (K (.bool false) g)
 (∃ an,(At i ⟨d,0 + 4,none⟩ [nI an])/\
 Br (decide (an<1))
 (K (.bool false) g)
 (M  g))))))/\
 ∀ (b9:Env)  (bk:World),M  bk->
 ∃ (o:World->Prop),(Drw bk λ k l=>
 ∃ ao,(At k ⟨d,0 + 4,none⟩ [nI ao])/\
 Br (ao==1)
 (∃ ap,(At k ⟨d,0 + 5,none⟩ [nI ap])/\
 Zc c λ br=>
 ∃ aq,(At k (Addr.add br 0) [nI aq])/\
 Br (decide (ap<=aq))
 (K (.bool false) l)
 (∃ ar,(At k ⟨d,0 + 4,none⟩ [nI ar])/\
 Br (ar !=1)
 (∃ av,(At k ⟨d,0 + 5,none⟩ [nI av])/\
 Br (av !=0)
 (K (.bool false) l)
 (o  l))
 (o  l)))
 (∃ au,(At k ⟨d,0 + 4,none⟩ [nI au])/\
 Br (au !=1)
 (∃ aw,(At k ⟨d,0 + 5,none⟩ [nI aw])/\
 Br (aw !=0)
 (K (.bool false) l)
 (o  l))
 (o  l)))/\
 ∀ (ca:Env)  (bl:World),o  bl->
 Drw bl λ D b3=>
 Zc c λ X=>
 ∃ q:Sl,(At D (nO X 2) [q.v])/\
 Rng z q.len (Zc q.a λ bs=>
 ∃ ax ay,(At D (Addr.add bs (Zcp z.toNat 2)) [.pointer ax,.pointer ay])/\
 ∃ az a0 a1 a2 a3 a4,(At D ⟨d,0,none⟩ [nI az,nI a0,nI a1,nI a2,nI a3,nI a4])/\
 nC 221 #[.agg #[.pointer ax,.pointer ay],.agg #[nI az,nI a0,nI a1,nI a2,nI a3,nI a4]] b3 λ b2 H=>
 ∃ a5,(b2=.returned (.bool a5))/\
 (D H)/\
 Br (!a5)
 (K (.bool false) H)
 ((J (wI (f + 1)) H)/\bp (wI (f + 1)) H<bp f j))) j))
 (Zc c λ Y=>
 ∃ E:Sl,(Aw j (nO Y 3) [E.v])/\
 K (.bool (A==(↑E.len:Int))) j)))
def ZCz:Sk:=(.seq .leaf (.seq .leaf (.seq .leaf (.seq (.seq .leaf (.block (.loop [3,4] [(.int .i64),(.int .i64)] [2,3,4,14,15,16,17,18,19,20,21,22,23,24,25,26,27,28,29,30,31,32,33,34,35,36,37,38,39,40,41,42,43,44,45,46,47,48,49,50,51,52,53,54,55,56,57,58,59,60,61,62,63,64,65,66,67,68,69,70,71,72,73,74,75,76,77] (.seq .leaf (.seq (.block (.cut [] [] [2,23,24,25,26,27,28,29,30,31,32,33,34,35,36,37,38,39,40,41,42,43,44,45,46,47,48,49,50] .leaf .leaf)) .leaf))))) (.seq (.seq .leaf (.block (.loop [5] [(.int .i64)] [2,5,6,7,8,78,79,80,81,82,83,84,85,86,87,88,89,90,91,92,93,94,95,96,97,98,99,100,101,102,103,104,105,106,107,108,109,110,111,112,113,114,115,116,117,118,119,120,121,122,123,124,125,126,127,128,129,130,131,132,133,134,135,136,137,138,139,140,141,142,143,144,145,146,147,148,149,150,151,152,153,154,155,156,157,158,159,160,161,162,163,164,165,166,167,168,169] (.seq .leaf (.seq (.block (.seq .leaf (.seq .leaf (.cut [] [] [2,98,99,100,101,102,103,104,105,106,107,108,109,110,111,112,113,114,115,116,117,118,119,120,121,122,123,124,125,126,127,128,129,130,131,132,133,134,135,136] .leaf (.cut [] [] [2,137,138,139,140,141,142,143,144,145,146,147,148,149,150,151,152,153,154,155,156,157,158] .leaf .leaf))))) .leaf))))) .leaf)))))
theorem Zzt (a:Option Addr) (K:nK) (w : nW) (h:B146 a K w):Zm prog 146 #[.pointer a] w K:=cq (sk:=ZCz) h func146
def B221 (ap:Option Addr) (aq:Option Addr) (aw:Int) (ax:Int) (ay:Int) (az:Int) (a0:Int) (a1:Int) (K:nK) (w : nW):Prop:=
 New (.cells #[.pointer ap,.pointer aq] 107 (0,0)) (λ m ar=>
 New (.cells #[nI aw,nI ax,nI ay,nI az,nI a0,nI a1] 125 (0,0)) (λ f x=>
 ∃ D,(Aw x ⟨f,0 + 4,none⟩ [nI D])/\
 Br (D==3)
 (∃ (u:Int->World->Prop) (aj:Int->World->Nat),(u 0 x)/\∀ (a2:Env) (i:Int) (d:World),u i d->
 ∃ E,(Aw d ⟨m,0 + 1,none⟩ [.pointer E])/\
 Zc E λ al=>
 ∃ r:Sl,(Aw d (Addr.add al 0) [r.v])/\
 Br (decide (i<(↑r.len:Int)))
 (∃ F,(Aw d ⟨m,0 + 1,none⟩ [.pointer F])/\
 Zc F λ am=>
 ∃ n:Sl,(Aw d (Addr.add am 0) [n.v])/\
 Rng i n.len (Zc n.a λ an=>
 ∃ G H I J L,(Aw d (Addr.add an (Zcp i.toNat 5)) [nI G,nI H,nI I,nI J,.float .f64 L])/\
 New (.cells #[nI 0,nI 0,nI 0,nI 0,.float .f64 0] 168 (0,0)) (λ q au=>
 ∃ l,(St 168 ⟨q,0,none⟩ (.agg #[nI G,nI H,nI I,nI J,.float .f64 L]) au l)/\
 ∃ M,(Aw l ⟨q,0,none⟩ [nI M])/\
 ∃ N,(Aw l ⟨f,0,none⟩ [nI N])/\
 Br (M==N)
 (Drw l λ g y=>
 ∃ O,(At g ⟨q,0 + 1,none⟩ [nI O])/\
 ∃ Q,(At g ⟨f,0 + 2,none⟩ [nI Q])/\
 Br (O==Q)
 (∃ T,(At g ⟨q,0 + 2,none⟩ [nI T])/\
 ∃ U,(At g ⟨f,0 + 3,none⟩ [nI U])/\
 Br (T==U)
 (∃ V,(At g ⟨f,0 + 2,none⟩ [nI V])/\
 ∃ X,(At g ⟨m,0,none⟩ [.pointer X])/\
 Zc X λ z=>
 ∃ s:Sl,(At g (nO z 3) [s.v])/\
 K (.bool (decide (V<(↑s.len:Int)))) y)
 (K (.bool false) y))
 (K (.bool false) y))
 ((u (wI (i + 1)) l)/\aj (wI (i + 1)) l<aj i d)) d))
 (K (.bool false) d))
 (∃ (v:Int->World->Prop) (ak:Int->World->Nat),(v 0 x)/\∀ (a3:Env) (j:Int) (e:World),v j e->
 ∃ Y,(Aw e ⟨m,0,none⟩ [.pointer Y])/\
 Zc Y λ A=>
 ∃ t:Sl,(Aw e (nO A 4) [t.v])/\
 Br (decide (j<(↑t.len:Int)))
 (∃ Z,(Aw e ⟨m,0,none⟩ [.pointer Z])/\
 Zc Z λ C=>
 ∃ o:Sl,(Aw e (nO C 4) [o.v])/\
 Rng j o.len (Zc o.a λ ao=>
 ∃ aa ab ac,∃ k:Sl,(Aw e (Addr.add ao (Zcp j.toNat 4)) [nI aa,nI ab,nI ac,k.v])/\
 New (.cells #[nI 0,nI 0,nI 0,.slice none 0 0] 197 (0,0)) (λ p av=>
 ∃ c,(St 197 ⟨p,0,none⟩ (.agg #[nI aa,nI ab,nI ac,k.v]) av c)/\
 ∃ ad,(Aw c ⟨p,0,none⟩ [nI ad])/\
 ∃ ae,(Aw c ⟨f,0,none⟩ [nI ae])/\
 Br (ad==ae)
 (∃ af,(Aw c ⟨p,0 + 1,none⟩ [nI af])/\
 ∃ ag,(Aw c ⟨f,0 + 2,none⟩ [nI ag])/\
 Br (af==ag)
 (∃ ah,(Aw c ⟨p,0 + 2,none⟩ [nI ah])/\
 ∃ ai,(Aw c ⟨f,0 + 3,none⟩ [nI ai])/\
 K (.bool (ah==ai)) c)
 (K (.bool false) c))
 ((v (wI (j + 1)) c)/\ak (wI (j + 1)) c<ak j e)) e))
 (K (.bool false) e))) ar) w
def ZCh:Sk:=(.seq .leaf (.seq (.seq .leaf (.cond (.seq (.seq .leaf (.block (.loop [5] [(.int .i64)] [4,5,6,12,13,14,15,16,17,18,19,20,21,22,23,24,25,26,27,28,29,30,31,32,33,34,35,36,37,38,39,40,41,42,43,44,45,46,47,48,49,50,51,52,53,54,55,56,57] .leaf))) .leaf) .leaf)) (.seq (.seq .leaf (.block (.loop [7] [(.int .i64)] [4,7,8,58,59,60,61,62,63,64,65,66,67,68,69,70,71,72,73,74,75,76,77,78,79,80,81,82,83,84,85,86,87,88,89,90,91,92] .leaf))) .leaf)))
theorem ZyG (a:Option Addr) (b:Option Addr) (c:Int) (d:Int) (e:Int) (f:Int) (g:Int) (i:Int) (K:nK) (w : nW) (h:B221 a b c d e f g i K w):Zm prog 221 #[.agg #[.pointer a,.pointer b],.agg #[nI c,nI d,nI e,nI f,nI g,nI i]] w K:=cq (sk:=ZCh) h func221
end
end Go.Proofs.YtlplemdmegpoeaaGreatDoor
namespace Go.VC
theorem ZtY {x:Nat} (h:x<18446744073709551616):x &&& 9223372036854775808=if x<9223372036854775808 then 0 else 9223372036854775808:=by
 have e:(9223372036854775808:Nat)=2 ^ 63:=by decide
 apply Nat.eq_of_testBit_eq;intro i;rw [Nat.testBit_and];by_cases hi:63=i
 ·subst hi
  have h1:x.testBit 63=decide (¬ x<9223372036854775808):=by
   rw [Nat.testBit_eq_decide_div_mod_eq,<-e];exact decide_eq_decide.2 (by omega)
  have h2:Nat.testBit 9223372036854775808 63=true:=by rw [e,Nat.testBit_two_pow];simp
  rw [h1,h2];split
  ·rw [decide_eq_false (by omega)];simp
  ·rw [decide_eq_true (by assumption)];simp [h2]
 ·have h2:Nat.testBit 9223372036854775808 i=false:=by rw [e,Nat.testBit_two_pow];simp [hi]
  rw [h2];split<;>simp [h2]
theorem ZAq {x:Nat} (h:x<9223372036854775808):x|||9223372036854775808=x + 9223372036854775808:=by
 have:=Nat.two_pow_add_eq_or_of_lt (i:=63) (b:=x) (by simpa using h) 1;rw [Nat.or_comm];simp only [Nat.mul_one] at this;have e:(2:Nat) ^ 63=9223372036854775808:=by decide
 rw [e] at this;omega
theorem Zsg {x:Nat} (h:x<18446744073709551616):IntKind.u64.wrap ((BitVec.ofInt IntKind.u64.bits (if IntKind.u64.signed=true then -1 else IntKind.u64.max) ^^^ BitVec.ofInt IntKind.u64.bits (x:Int)).toNat:Int)=((18446744073709551615 - x:Nat):Int):=by
 have e1:BitVec.ofInt IntKind.u64.bits (if IntKind.u64.signed=true then -1 else IntKind.u64.max)=BitVec.allOnes 64:=by
  show BitVec.ofInt 64 18446744073709551615=BitVec.allOnes 64;decide
 have e2:(BitVec.ofInt 64 (x:Int)).toNat=x:=ZeS 64 x (by simpa using h);rw [e1];show IntKind.u64.wrap (((BitVec.allOnes 64 ^^^ BitVec.ofInt 64 (x:Int)).toNat:Nat):Int)=_;rw [BitVec.xor_comm,BitVec.xor_allOnes,BitVec.toNat_not,e2];have e3:(2:Nat) ^ 64 - 1 - x=18446744073709551615 - x:=by
  have:(2:Nat) ^ 64=18446744073709551616:=by decide
  rw [this]
 rw [e3];exact ZP
theorem Zqx {k:Nat} (h:k<18446744073709551616) (h1:9223372036854775808<=k):Zgf .andNot .u64 (k:Int) 9223372036854775808=((k - 9223372036854775808:Nat):Int):=by
 have e1:(BitVec.ofInt 64 (k:Int)).toNat=k:=ZeS 64 k (by simpa using h);have e2:(BitVec.ofInt 64 9223372036854775808).toNat=9223372036854775808:=by decide
 have e3:(BitVec.ofInt 64 (k:Int) &&& ~~~ BitVec.ofInt 64 9223372036854775808).toNat=k - 9223372036854775808:=by
  rw [BitVec.toNat_and,BitVec.toNat_not,e1,e2];have e4:(2:Nat) ^ 64 - 1 - 9223372036854775808=2 ^ 63 - 1:=by decide
  rw [e4,Nat.and_two_pow_sub_one_eq_mod];have e5:(2:Nat) ^ 63=9223372036854775808:=by decide
  rw [e5];omega
 show IntKind.u64.wrap (((BitVec.ofInt 64 (k:Int) &&& ~~~ BitVec.ofInt 64 9223372036854775808).toNat:Nat):Int)=_;rw [e3];exact ZP
end Go.VC
namespace Go.Proofs.YtlplemdmegpoeaaGreatDoor
section
open Go Go.VC Ieee Tryz
variable {R:Cx} {Hs Rest:List HP} {w:World}
theorem ZxO : (f210.name == "runtime.NumGoroutine") = false := by kernel_rfl
theorem ZxQ:f210.body.isNone=true:=by kernel_rfl
theorem ZxN:Extern.findNext f210=none:=by kernel_rfl
theorem ZxP:Extern.find f210=some Extern.MathFloatBits.float64bits:=by kernel_rfl
theorem ZxK : (f222.name == "runtime.NumGoroutine") = false := by kernel_rfl
theorem ZxM:f222.body.isNone=true:=by kernel_rfl
theorem ZxJ:Extern.findNext f222=none:=by kernel_rfl
theorem ZxL:Extern.find f222=some Extern.MathFloatBits.float64frombits:=by kernel_rfl
theorem Zo2 (x:Nat) (w : nW):(callFunc 210 #[.float .f64 x]).run prog w=.ok (.value (.int .u64 x)) w:=by
 rw [run_callFunc_extern func210 ZxO ZxQ ZxN ZxP];rfl
theorem Zhl (n:Nat) (w : nW):(callFunc 222 #[.int .u64 n]).run prog w=.ok (.value (.float .f64 n)) w:=by
 rw [run_callFunc_extern func222 ZxK ZxM ZxJ ZxL];rfl
theorem Zu7 {x:Nat} (hx:x<18446744073709551616) (hw:Sat R Hs w):Zm prog 135 #[.float .f64 x] w λ v w'=>v=.int .u64 (ZmI x:Nat)/\Sat R Hs w':=by
 apply ZzC;refine ⟨_,w,Zo2 x w,_,rfl,?_⟩;have e1:Zgf BinOp.and IntKind.u64 (x:Int) 9223372036854775808=((x &&& 9223372036854775808:Nat):Int):=Zwy (y:=9223372036854775808) hx (by decide);have e2:Zgf BinOp.or IntKind.u64 (x:Int) 9223372036854775808=((x|||9223372036854775808:Nat):Int):=ZAr (y:=9223372036854775808) hx (by decide);rw [e1,e2,ZtY hx];refine Br.mk (λ h=>⟨?_,hw⟩) (λ h=>⟨?_,hw⟩)
 ·rw [Zsg hx]
  unfold ZmI;split at h
  ·simp at h
  ·rename_i h1;rw [if_neg h1]
 ·split at h
  ·rename_i h1
   rw [ZAq h1];unfold ZmI;rw [if_pos h1]
  ·simp at h
theorem Zxi {k:Nat} (hk:k<18446744073709551616) (hw:Sat R Hs w):Zm prog 229 #[.int .u64 k] w λ v w'=>v=.float .f64 (ofF k)/\Sat R Hs w':=by
 apply ZyF;have e1:Zgf BinOp.and IntKind.u64 (k:Int) 9223372036854775808=((k &&& 9223372036854775808:Nat):Int):=Zwy (y:=9223372036854775808) hk (by decide);unfold B229;rw [e1,ZtY hk];refine Br.mk (λ h=>?_) (λ h=>?_)
 ·rw [Zsg hk]
  refine ⟨_,w,Zhl _ w,_,rfl,?_,hw⟩;unfold ofF;split at h
  ·rename_i h1;rw [if_neg (by omega)]
  ·simp at h
 ·have h1:¬ k<9223372036854775808:=by
   intro h1;rw [if_pos h1] at h;simp at h
  have e2:=Zqx hk (by omega);rw [e2];refine ⟨_,w,Zhl _ w,_,rfl,?_,hw⟩;unfold ofF;rw [if_pos (by omega)]
theorem ZnG (t1 t2:Operand) (T:TypeId) (x y:Nat) (w : nW):((do eqGuard BinOp.lss T t1 t2 (.float .f64 x) (.float .f64 y);binOp BinOp.lss T (.float .f64 x) (.float .f64 y):Sem Value)).run prog w=.ok (.bool (double.order x y==some .lt)) w:=by
 simp [eqGuard,binOp,Op.floatCmp,FloatKind.format]
theorem Ztn (t1 t2:Operand) (T:TypeId) (x y:Nat) (w : nW):((do eqGuard BinOp.eql T t1 t2 (.float .f64 x) (.float .f64 y);binOp BinOp.eql T (.float .f64 x) (.float .f64 y):Sem Value)).run prog w=.ok (.bool (double.order x y==some .eq)) w:=by
 simp [eqGuard,binOp,Op.floatCmp,FloatKind.format]
theorem Zoo {x:Nat} (hw:Sat R Hs w):Zm prog 293 #[.float .f64 x] w λ v w'=>v=.bool (ZmH x)/\Sat R Hs w':=by
 apply Zyb;refine ⟨_,λ w' _=>Ztm _ _ _ _ _ w',?_,hw⟩;have h:=Zok x;rw [bne,h,Bool.not_not]
theorem ZkJ {x y:Nat} (hw:Sat R Hs w):Zm prog 277 #[.float .f64 x,.float .f64 y] w λ v w'=>v=nI (Zfi x y)/\Sat R Hs w':=by
 apply Zyf;refine (Zoo hw).u λ w hw=>?_;refine ⟨_,rfl,?_⟩;refine (Zoo hw).u λ w hw=>?_;refine ⟨_,rfl,?_⟩;unfold Zfi;refine Br.mk (λ hx=>?_) (λ hx=>?_)
 ·refine Br.mk (λ hy=>⟨?_,hw⟩) (λ hy=>⟨?_,hw⟩)
  ·rw [ZgX hx,ZgX hy,if_neg (by omega),if_pos rfl]
  ·have:=Zu5 hy
   rw [ZgX hx,if_pos (by omega)]
 ·refine Br.mk (λ hy=>⟨?_,hw⟩) (λ hy=>?_)
  ·have:=Zu5 hx
   rw [ZgX hy,if_neg (by omega),if_neg (by omega)]
  ·obtain ⟨o1,o2,o3⟩:=Zsa hx hy
   refine ⟨_,λ w' _=>ZnG _ _ _ _ _ w',?_⟩;rw [o1];refine Br.d (λ h=>⟨by rw [if_pos h],hw⟩) (λ h=>?_);refine ⟨_,λ w' _=>Zwr _ _ _ _ _ w',?_⟩;rw [o3];refine Br.d (λ h2=>⟨by rw [if_neg h,if_neg (by omega)],hw⟩) (λ h2=>⟨by rw [if_neg h,if_pos (by omega)],hw⟩)
theorem ZrJ {x y:Nat} (hw:Sat R Hs w):Zm prog 243 #[.float .f64 x,.float .f64 y] w λ v w'=>v=nI (Zfi x y)/\Sat R Hs w':=by
 apply Zyv;refine (ZkJ hw).u λ w hw=>?_;exact ⟨_,rfl,rfl,hw⟩
def Zvz (x y:Int):Int:=if x<y then -1 else if y<x then 1 else 0
theorem Zgd {x y:Int} (hw:Sat R Hs w):Zm prog 244 #[nI x,nI y] w λ v w'=>v=nI (Zvz x y)/\Sat R Hs w':=by
 apply Zyu;have nan:∀ {z:Int} {w:World},Sat R Hs w->Zm prog 278 #[nI z] w λ v w'=>v=.bool false/\Sat R Hs w':=λ {z w} hw=>by
  apply Ztw;exact ⟨by simp,hw⟩
 refine (nan hw).u λ w hw=>?_;refine ⟨_,rfl,?_⟩;refine (nan hw).u λ w hw=>?_;refine ⟨_,rfl,Br.f rfl (Br.f rfl ?_)⟩;unfold Zvz;refine Br.d (λ h=>⟨by rw [if_pos h],hw⟩) (λ h=>Br.d (λ h2=>⟨by rw [if_neg h,if_pos (by omega)],hw⟩) (λ h2=>⟨by rw [if_neg h,if_neg (by omega)],hw⟩))
theorem Zru {x:Nat} (hx:x<18446744073709551616) (hw:Sat R Hs w):Zm prog 139 #[.float .f64 x] w λ v w'=>v=.int .u64 (ZmI x:Nat)/\Sat R Hs w':=by
 apply ZzA;refine ⟨_,w,Zo2 x w,_,rfl,?_⟩;unfold ZmI
 with_reducible refine Br.d (λ h=>?_) (λ h=>?_)
 ·refine ⟨?_,hw⟩
  have e1:IntKind.u64.wrap ((x:Int) + 9223372036854775808)=((x + 9223372036854775808:Nat):Int):=by rw [ZP];omega
  have h1:x<9223372036854775808:=by omega
  rw [if_pos h1];exact congrArg (Value.int .u64) e1
 ·refine ⟨?_,hw⟩
  have e1:IntKind.u64.wrap (18446744073709551615 - (x:Int))=((18446744073709551615 - x:Nat):Int):=by rw [ZP];omega
  have h1:¬ x<9223372036854775808:=by omega
  rw [if_neg h1];exact congrArg (Value.int .u64) e1
theorem Zux {k:Nat} (hk:k<18446744073709551616) (hw:Sat R Hs w):Zm prog 148 #[.int .u64 k] w λ v w'=>v=.float .f64 (ofF k)/\Sat R Hs w':=by
 apply Zzs;unfold B148 ofF
 with_reducible refine Br.d (λ h=>?_) (λ h=>?_)
 ·rw [ZP,show (k:Int) - 9223372036854775808=((k - 9223372036854775808:Nat):Int) by omega]
  exact ⟨_,w,Zhl _ w,_,rfl,by rw [if_pos (by omega)],hw⟩
 ·rw [ZP,show 18446744073709551615 - (k:Int)=((18446744073709551615 - k:Nat):Int) by omega]
  exact ⟨_,w,Zhl _ w,_,rfl,by rw [if_neg (by omega)],hw⟩
theorem Zpr {x y:Nat} (hw:Sat R Hs w):Zm prog 258 #[.float .f64 x,.float .f64 y] w λ v w'=>v=nI (Zfi x y)/\Sat R Hs w':=by
 apply Zyk;have ne:∀ z:Nat,(double.order z z !=some .eq)=ZmH z:=λ z=>by rw [bne,Zok z,Bool.not_not]
 refine ⟨_,λ w' _=>Ztm _ _ _ _ _ w',_,λ w' _=>Ztm _ _ _ _ _ w',?_⟩;rw [ne x,ne y];unfold Zfi;refine Br.mk (λ hx=>?_) (λ hx=>?_)
 ·refine Br.mk (λ hy=>⟨by rw [ZgX hx,ZgX hy,if_neg (by omega),if_pos rfl],hw⟩) (λ hy=>?_)
  refine ⟨_,λ w' _=>Ztn _ _ _ _ _ w',?_⟩;rw [Zhe (.inl hx)];refine Br.f rfl (Br.t hx ⟨?_,hw⟩);have:=Zu5 hy;rw [ZgX hx,if_pos (by omega)]
 ·refine ⟨_,λ w' _=>Ztn _ _ _ _ _ w',?_⟩
  by_cases hy:ZmH y=true
  ·rw [Zhe (.inr hy)]
   refine Br.f rfl (Br.f hx ⟨_,λ w' _=>ZnG _ _ _ _ _ w',?_⟩);rw [Zhe (.inr hy)];have:=Zu5 hx;exact Br.f rfl ⟨by rw [ZgX hy,if_neg (by omega),if_neg (by omega)],hw⟩
  ·have hy:ZmH y=false:=by simpa using hy
   obtain ⟨o1,o2,o3⟩:=Zsa hx hy;rw [o2];refine Br.d (λ h=>⟨by rw [if_neg (by omega),if_pos h],hw⟩) (λ h=>Br.f hx ⟨_,λ w' _=>ZnG _ _ _ _ _ w',?_⟩);rw [o1];exact Br.d (λ h2=>⟨by rw [if_pos h2],hw⟩) (λ h2=>⟨by rw [if_neg h2,if_neg h],hw⟩)
end
section
open Go Go.VC Tryz
variable {R:Cx} {Hs Rest:List HP} {w:World}
abbrev wrp (p:Nat) (s:Sl):HP:=pts p (.cells [.slice s.a s.len s.cap].toArray 112 (0,0))
def WrB (p:Nat) (bs:List Int):HP:=exs λ s:Sl=>Zah [wrp p s,Own s 5 (b8 bs)]
theorem Sat.wrB {p:Nat} {bs:List Int}:Sat R (WrB p bs::Hs) w↔∃ s:Sl,Sat R (wrp p s::Own s 5 (b8 bs)::Hs) w:=by
 unfold WrB;rw [Sat.exs];exact ⟨λ⟨s,h⟩=>⟨s,Sat.star.1 h⟩,λ⟨s,h⟩=>⟨s,Sat.star.2 h⟩⟩
theorem ZpO {n:Int} (h:n<9223372036854775808):0<=nn n/\nn n<9223372036854775808:=by unfold nn;omega
theorem ZAy (n:Int):(if 0>n then 0 else n)=nn n:=by unfold nn;split<;>omega
theorem ZiI {p:Nat} {s:Sl} {xs bs:List Int} (hxs:∀ x∈xs,x<9223372036854775808) (hl:bs.length + 9 * xs.length<=1099511627776) (hs:RoI R s xs) (hw:Sat R (WrB p bs::Hs) w):
  Zm prog 60 #[nP p,.slice s.a s.len s.cap] w λ v w'=>v=.tuple #[]/\Sat R (WrB p (bs++Zl (xs.map nn))::Hs) w':=by
 have hlen:=hs.len;apply ZBj;refine ⟨λ i w=>∃ k:Nat,i=k/\k<=xs.length/\Sat R (WrB p (bs++Zl ((xs.take k).map nn))::Hs) w,λ i _=>xs.length - i.toNat,⟨0,rfl,by omega,by simpa [Zl] using hw⟩,?_⟩;clear hw;rintro _ _ w ⟨k,rfl,hk,hw⟩;refine Br.d (λ h=>?_) (λ h=>?_)
 ·have hkx:k<xs.length:=by omega
  have hx:=ZpO (hxs xs[k] (List.getElem_mem _));have hxt:∀ x∈(xs.take k).map nn,0<=x/\x<18446744073709551616:=λ x hx=>by
   obtain ⟨y,hy,rfl⟩:=List.mem_map.1 hx;have:=ZpO (hxs y (List.mem_of_mem_take hy));omega
  have hnl:=ZW hxt;rw [List.length_map,List.length_take] at hnl;refine Ro.ix hs (eqS hw) k rfl hkx ?_;obtain ⟨s0,hw⟩:=Sat.wrB.1 hw;refine ZaV hw λ w hw=>?_;refine Zc.mk rfl ⟨s0,oS,?_⟩;rw [ZAy];obtain ⟨n,hn⟩:=Int.eq_ofNat_of_zero_le hx.1;rw [hn,ZP];refine (ZbY (by omega) hw).u1 λ t w hw=>?_;refine ⟨t,rfl,hw.absorb,?_⟩;have hw:Sat R (Own s0 5 (b8 (bs++Zl ((xs.take k).map nn)))::Own t 5 (b8 (Zec n))::wrp p s0::VC.tru::Hs) w:=hw.arr;have hnb:=Zbn (n:=n) (by omega);refine Zde ZqG (s:=s0) (n:=1099511627790) underlying47 hw (by rw [List.length_append];omega) (by omega) (by omega) λ s2 w hw=>?_;have hw:Sat R (wrp p s0::Own s2 5 (b8 (bs++Zl ((xs.take k).map nn)++Zec n))::Hs) w:=by
   have h:Sat R (Own t 5 (b8 (Zec n))::VC.tru::wrp p s0::Own s2 5 (b8 (bs++Zl ((xs.take k).map nn)++Zec n))::Hs) w:=hw.arr;exact h.drop.drop
  refine Zc.mk rfl ?_;refine sRu hw λ w hw=>?_;have hw:=hw.re (wrp p s2);rw [Zf];refine ⟨⟨k + 1,by omega,by omega,Sat.wrB.2 ⟨s2,?_⟩⟩,by dsimp only;omega⟩;have e:(xs.take (k + 1)).map nn=(xs.take k).map nn++[nn xs[k]]:=by rw [List.take_add_one,List.getElem?_eq_getElem hkx,List.map_append];rfl
  rw [e,ZhO,show Zl [nn xs[k]]=Zec (nn xs[k]).toNat by simp [Zl],hn,Int.toNat_natCast,<-List.append_assoc];exact hw
 ·have:k=xs.length:=by omega
  subst this;rw [List.take_length] at hw;exact ⟨rfl,hw⟩
theorem ZiH {p:Nat} {s:Sl} {d bs:List Int} (hl:bs.length + d.length<=1099511627776) (hd:d.length<=1099511627776) (hs:Ro R s (b8 d)) (hw:Sat R (WrB p bs::Hs) w):
  Zm prog 63 #[nP p,.slice s.a s.len s.cap] w λ v w'=>v=.tuple #[]/\Sat R (WrB p (bs++ZaZ d)::Hs) w':=by
 apply ZBi;obtain ⟨s0,hw⟩:=Sat.wrB.1 hw;refine ZaV hw λ w hw=>?_;refine Zc.mk rfl ⟨s0,oS,?_⟩;refine (ZeK hs hd hw).u1 λ t w hw=>?_;refine ⟨t,rfl,hw.absorb,?_⟩;have hw:Sat R (Own s0 5 (b8 bs)::Own t 5 (b8 (ZaZ d))::wrp p s0::VC.tru::Hs) w:=hw.arr;have hnb:=Zbn (n:=d.length) (by omega);have htl:(ZaZ d).length<=d.length + 9:=by unfold ZaZ;rw [List.length_append];omega
 refine Zde ZqG (s:=s0) (n:=1099511627800) underlying47 hw (by omega) (by omega) (by omega) λ s2 w hw=>?_;have hw:Sat R (wrp p s0::Own s2 5 (b8 (bs++ZaZ d))::Hs) w:=by
  have h:Sat R (Own t 5 (b8 (ZaZ d))::VC.tru::wrp p s0::Own s2 5 (b8 (bs++ZaZ d))::Hs) w:=hw.arr;exact h.drop.drop
 refine Zc.mk rfl ?_;refine sRu hw λ w hw=>?_;have hw:=hw.re (wrp p s2);exact ⟨rfl,Sat.wrB.2 ⟨s2,hw⟩⟩
end
section
open Go Go.VC Tryz
open Classical
variable {R:Cx} {Hs Rest:List HP} {w:World}
abbrev cmV (c:Cm) (sg sp:Sl):List Value:=[nI c.kind,.string c.pnr,nI c.flt,nI c.cls,nI c.many,nI c.time,.float .f64 c.sc,.string c.lab,nI c.rows,.slice sg.a sg.len sg.cap,.slice sp.a sp.len sp.cap]
abbrev cmC (b:Nat) (c:Cm) (sg sp:Sl):HP:=pts b (.cells (cmV c sg sp).toArray 40 (0,0))
theorem ZcG {c:Cm}:ZaL c↔(∀ n∈[c.flt,c.cls,c.many,c.rows]++c.grps,Zg5 n)/\(c.pnr.size<=16/\c.lab.size<=16)/\(c.grps.length<=16/\c.parts.length<=16)/\1<=c.kind/\c.kind<=9/\0<=c.time/\c.time<=1099511627776:=by
 constructor
 ·intro h
  refine ⟨λ n hn=>?_,⟨h.pnr,h.lab⟩,⟨h.gl,h.pl⟩,h.kind.1,h.kind.2,h.time.1,h.time.2⟩;simp only [List.cons_append,List.nil_append,List.mem_cons] at hn;rcases hn with rfl|rfl|rfl|rfl|hn
  ·exact h.flt
  ·exact h.cls
  ·exact h.many
  ·exact h.rows
  ·exact h.grps n hn
 ·rintro ⟨h1,⟨h2,h3⟩,⟨h4,h5⟩,h6,h7,h8,h9⟩
  exact ⟨h1 _ (by simp),h1 _ (by simp),h1 _ (by simp),h1 _ (by simp),λ n hn=>h1 n (by simp [hn]),h2,h3,h4,h5,⟨h6,h7⟩,h8,h9⟩
theorem ZtD {n:Int}:Zm prog 97 #[nI n] w λ v w'=>v=.bool (decide (n<0\/n>9999))/\w'=w:=by
 apply ZAW;refine Br.d (λ h=>⟨by rw [decide_eq_true (by omega)],rfl⟩) (λ h=>⟨?_,rfl⟩)
 congr 1
 exact decide_eq_decide.2 (by omega)
theorem Zfx {c:Cm} {sg sp:Sl} (hg:RoI R sg c.grps) (hgl:c.grps.length<=17592186043904) (hp:sp.len=c.parts.length) (hw:Sat R Hs w):
  Zm prog 38 #[.agg #[nI c.kind,.string c.pnr,nI c.flt,nI c.cls,nI c.many,nI c.time,.float .f64 c.sc,.string c.lab,nI c.rows,.slice sg.a sg.len sg.cap,.slice sp.a sp.len sp.cap]] w λ v w'=>v=.bool (decide (ZaL c))/\Sat R Hs w':=by
 have hglen:=hg.len;apply ZBt;refine Za hw λ b w hw=>?_;have hw:Sat R (cmC b c sg sp::Hs) w:=hw
 repeat (first|refine Zc.mk rfl ?_|refine ⟨_,oS,?_⟩|refine ⟨_,oA hw,?_⟩|refine ⟨_,(by rw [Zy];exact oS),?_⟩|refine ⟨_,(by rw [Zy];exact oA hw),?_⟩)
 refine Za hw λ b2 w hw=>?_;have hw:Sat R (Own ⟨some ⟨b2,0,none⟩,4,4⟩ 3 (Ze [c.flt,c.cls,c.many,c.rows])::cmC b c sg sp::Hs) w:=ZbH hw;refine ⟨sg,oA hw,?_⟩;refine Zho (n:=17592186044416) (s:=⟨some ⟨b2,0,none⟩,4,4⟩) (ty:=30) ZqF underlying30 hw hg (by simp;omega) (by omega) (by omega) λ t w hw=>?_;obtain ⟨L,hL⟩:∃ L,L=[c.flt,c.cls,c.many,c.rows]++c.grps:=⟨_,rfl⟩;have hLl:L.length=4 + c.grps.length:=by rw [hL];simp;omega
 rw [<-hL] at hw;have htl:t.len=L.length:=by have:=Own.len hw;simpa using this
 refine ⟨λ i w=>∃ k:Nat,i=k/\k<=L.length/\(∀ n∈L.take k,Zg5 n)/\Sat R (Own t 3 (Ze L)::cmC b c sg sp::Hs) w,λ i _=>L.length - i.toNat,⟨0,rfl,by omega,by simp,hw⟩,?_⟩;clear hw;rintro _ _ w ⟨k,rfl,hk,hok,hw⟩;have no:¬ ZaL c->∀ {w},Sat R (Own t 3 (Ze L)::cmC b c sg sp::Hs) w->(Value.bool false=.bool (decide (ZaL c))/\Sat R Hs w):=λ h w hw=>⟨by rw [decide_eq_false h],hw.drop.drop⟩;refine Br.d (λ h=>?_) (λ h=>?_)
 ·have hkx:k<L.length:=by omega
  refine Own.ix hw (eqS hw) k rfl hkx ?_;refine ZtD.use ?_;rintro _ w2 ⟨rfl,rfl⟩;refine ⟨_,rfl,Br.mk (λ h2=>no (λ hr=>?_) hw) (λ h2=>?_)⟩
  ·have h3:=(ZcG.1 hr).1 L[k] (by rw [<-hL];exact List.getElem_mem hkx)
   have h4:=of_decide_eq_true h2;unfold Zg5 at h3;omega
  ·rw [Zf]
   refine ⟨⟨k + 1,by omega,by omega,λ n hn=>?_,hw⟩,by dsimp only;omega⟩;rw [List.take_add_one,List.getElem?_eq_getElem hkx] at hn;rcases List.mem_append.1 hn with hn|hn
   ·exact hok n hn
   ·rw [show n=L[k] by simpa using hn]
    have h4:=of_decide_eq_false h2;unfold Zg5;omega
 ·have hall:∀ n∈L,Zg5 n:=by rw [List.take_of_length_le (by omega)] at hok;exact hok
  refine ⟨λ t6 w=>t6=decide (c.pnr.size<=16/\c.lab.size<=16)/\Sat R (Own t 3 (Ze L)::cmC b c sg sp::Hs) w,⟨c.pnr,oA hw,Br.d (λ h=>?_) (λ h=>?_)⟩,?_⟩
  ·refine ⟨c.lab,oA hw,?_,hw⟩
   exact decide_eq_decide.2 (by omega)
  ·exact ⟨by rw [decide_eq_false (by omega)],hw⟩
  clear hw;rintro _ _ w ⟨rfl,hw⟩;refine ⟨λ t7 w=>t7=decide (c.grps.length<=16/\c.parts.length<=16)/\Sat R (Own t 3 (Ze L)::cmC b c sg sp::Hs) w,⟨sg,oA hw,Br.d (λ h=>?_) (λ h=>?_)⟩,?_⟩
  ·refine ⟨sp,oA hw,?_,hw⟩
   exact decide_eq_decide.2 (by omega)
  ·exact ⟨by rw [decide_eq_false (by omega)],hw⟩
  clear hw;rintro _ _ w ⟨rfl,hw⟩;have no2:¬ ZaL c->(Value.bool false=.bool (decide (ZaL c))/\Sat R Hs w):=λ h=>no h hw;refine Br.d (λ h1=>?_) (λ h1=>no2 λ hr=>h1 (ZcG.1 hr).2.1);refine Br.d (λ h2=>?_) (λ h2=>no2 λ hr=>h2 (ZcG.1 hr).2.2.1);refine ⟨c.kind,oA hw,Br.d (λ h3=>?_) (λ h3=>no2 λ hr=>h3 (ZcG.1 hr).2.2.2.1)⟩;refine ⟨c.kind,oA hw,Br.d (λ h4=>?_) (λ h4=>no2 λ hr=>h4 (ZcG.1 hr).2.2.2.2.1)⟩;refine ⟨c.time,oA hw,Br.d (λ h5=>?_) (λ h5=>no2 λ hr=>h5 (ZcG.1 hr).2.2.2.2.2.1)⟩;refine ⟨c.time,oA hw,?_,hw.drop.drop⟩
  congr 1
  refine decide_eq_decide.2 ?_;rw [ZcG,<-hL];exact ⟨λ h6=>⟨hall,h1,h2,h3,h4,h5,h6⟩,λ h6=>h6.2.2.2.2.2.2⟩
end
section
open Go Go.VC Tryz
variable {R:Cx} {Hs Rest:List HP} {w:World}
theorem ZcD {p b n:Nat} {xs bs:List Int} (hn:n=xs.length) (hxs:∀ x∈xs,x<9223372036854775808) (hl:bs.length + 9 * xs.length<=1099511627776) (hw:Sat R (pts b (.cells (Ze xs).toArray 3 (0,0))::WrB p bs::Hs) w):
  Zm prog 60 #[nP p,.slice (some ⟨b,0,none⟩) n n] w λ v w'=>v=.tuple #[]/\Sat R (WrB p (bs++Zl (xs.map nn))::Hs) w':=by
 have hw:Sat R (Own ⟨some ⟨b,0,none⟩,n,n⟩ 3 (Ze xs)::WrB p bs::Hs) w:=ZbH hw (by rw [List.length_map];exact hn);obtain ⟨R',hr,_,hw,back⟩:=Own.lendI hw (by omega);refine (ZiI hxs hl hr hw).u λ w hw=>?_;exact ⟨_,rfl,rfl,(back hw).drop⟩
theorem Zk1 {p:Nat} {s:ByteArray} {bs:List Int} {K:World->Prop} (hl:bs.length + s.size<=1099511627776) (hw:Sat R (WrB p bs::Hs) w) (k:∀ w',Sat R (WrB p (bs++Zq7 s)::Hs) w'->K w'):
  ∃ w_1:World,∃ t:Sl,((convert 9 47 (.string s)).run prog w=.ok (.slice t.a t.len t.cap) w_1)/\
   nC 63 #[nP p,.slice t.a t.len t.cap] w_1 λ e w_2=>(e=.returned (.tuple #[]))/\K w_2:=by
 refine Zqg underlying9 underlying47 underlying5 hw λ t w hw=>?_;have hsz:=Zak s;obtain ⟨R',hr,_,hw,back⟩:=Own.lend hw (by rw [List.length_map];omega);refine (ZiH (by omega) (by omega) hr hw).u λ w hw=>?_;exact ⟨rfl,k _ (back hw).drop⟩
end
section
open Go Go.VC Tryz
open Classical
variable {R:Cx} {Hs Rest:List HP} {w:World}
theorem Zn3 {s:ByteArray} (h:s.size<=100000):(Zq7 s).length<=s.size + 9:=by
 have:=ZaT (d:=ZX s) (by rw [Zak];omega);rw [Zak] at this;exact this
theorem Zbm (a:Int) (l:List Int):Zl (a::l)=Zl [a]++Zl l:=Zcd a l
theorem nn1 {a:Int} (h:0<=a):Zl ([a].map nn)=Zl [a]:=by
 show Zl [nn a]=_;rw [Zcu h]
theorem Zo9 {p:Nat} {s:Sl} {xs bs:List Int} (hxs:∀ x∈xs,x<9223372036854775808) (hx:xs.length<=100000) (hl:bs.length<=1000000) (hs:RoI R s xs) (hw:Sat R (WrB p bs::Hs) w):
  Zm prog 218 #[nP p,.slice s.a s.len s.cap] w λ v w'=>v=.tuple #[]/\Sat R (WrB p (bs++Zl [(xs.length:Int)]++Zl (xs.map nn))::Hs) w':=by
 have hlen:=hs.len;have l1:=Zu (x:=(xs.length:Int)) (by omega);apply ZyJ;refine Za hw λ b w hw=>?_;refine (ZcD (xs:=[(s.len:Int)]) rfl (by simp;omega) (by simp only [List.length_cons,List.length_nil];omega) hw).u λ w hw=>?_;refine ⟨rfl,?_⟩;rw [nn1 (by omega),show ((s.len:Nat):Int)=(xs.length:Int) by omega] at hw;refine (ZiI hxs (by simp only [List.length_append];omega) hs hw).u λ w hw=>?_;exact ⟨rfl,rfl,hw⟩
end
section
open Go Go.VC Tryz
variable {R:Cx} {Hs Rest:List HP} {w:World}
theorem _root_.Go.VC.Ro.ixStr {xs:List ByteArray} {s:Sl} {S:World->Prop} {i:Int} (hr:Ro R s (xs.map Value.string)) (hS:∀ w,S w->Sat R Hs w) (j:Nat) (hi:i=j) (hj:j<xs.length) {F:ByteArray->Prop} (h:F xs[j]):
  Rng i s.len (Zc s.a λ a=>∃ t:ByteArray,(At S (a.add i.toNat) [.string t])/\F t):=by
 subst hi;obtain ⟨a,ha,hat⟩:=hr.addr (k:=j) (by rw [List.length_map];exact hj);have hl:=hr.len;rw [List.length_map] at hl;exact Rng.mk (by omega) (by omega) (Zc.mk ha ⟨_,by have:=hat hS;rw [List.getElem_map] at this;exact this,h⟩)
abbrev rpV (r:Rp) (sl sb:Sl):List Value:=[nI r.code,.string r.pnr,nI r.state,nI r.flt,nI r.cls,nI r.many,nI r.time,.slice sl.a sl.len sl.cap,.slice sb.a sb.len sb.cap]
abbrev rpC (b:Nat) (r:Rp) (sl sb:Sl):HP:=pts b (.cells (rpV r sl sb).toArray 33 (0,0))
structure RpW (r:Rp):Prop where
 ints:∀ x∈[r.code,r.state,r.flt,r.cls,r.many,r.time]++r.left,x<9223372036854775808
 pnr:r.pnr.size<=100000
 ll:r.left.length<=100000
 bl:r.labs.length<=100000
 labs:∀ s∈r.labs,s.size<=100000
theorem nn5 {a b c d e:Int}:Zl ([a,b,c,d,e].map nn)=Zl [nn a]++(Zl [nn b]++(Zl [nn c]++(Zl [nn d]++Zl [nn e]))):=by
 show Zl [nn a,nn b,nn c,nn d,nn e]=_;rw [Zbm (nn a),Zbm (nn b),Zbm (nn c),Zbm (nn d)]
theorem Zg0 {r:Rp} {sl sb:Sl} (hi:RpW r) (hg:RoI R sl r.left) (hp:SlR R.m sb (r.labs.map Value.string)) (hw:Sat R Hs w):
  Zm prog 142 #[.agg #[nI r.code,.string r.pnr,nI r.state,nI r.flt,nI r.cls,nI r.many,nI r.time,.slice sl.a sl.len sl.cap,.slice sb.a sb.len sb.cap]] w λ v w'=>
   ∃ t:Sl,v=.slice t.a t.len t.cap/\Sat R (Own t 5 (b8 (rpB r))::Hs) w':=by
 have hplen:sb.len=r.labs.length:=by have:=hp.len;simpa using this
 have i1:=hi.ints;have i2:=hi.pnr;have i3:=hi.ll;have i4:=hi.bl;have q:∀ x∈[r.code,r.state,r.flt,r.cls,r.many,r.time]++r.left,0<=nn x/\nn x<18446744073709551616:=λ x hx=>by have:=ZpO (i1 x hx);omega
 have l1:=Zu (q r.code (by simp));have l2:=Zn3 (s:=r.pnr) i2;have l3:=Zu (q r.state (by simp));have l4:=Zu (q r.flt (by simp));have l5:=Zu (q r.cls (by simp));have l6:=Zu (q r.many (by simp));have l7:=Zu (q r.time (by simp));have l10:=Zu (x:=(r.left.length:Int)) (by omega);have l11:=ZW (l:=r.left.map nn) λ y hy=>by obtain ⟨x,hx,rfl⟩:=List.mem_map.1 hy;exact q x (by simp [hx])
 rw [List.length_map] at l11;have l12:=Zu (x:=(r.labs.length:Int)) (by omega);apply Zzx;refine Za hw λ b w hw=>?_;have hw:Sat R (rpC b r sl sb::Hs) w:=hw;refine Za hw λ p w hw=>?_;have hw:Sat R (WrB p []::rpC b r sl sb::Hs) w:=Sat.wrB.2 ⟨⟨none,0,0⟩,(Own.nil hw).swap⟩;refine ⟨r.code,oA hw,?_⟩;refine Za hw λ b15 w hw=>?_;refine (ZcD (xs:=[r.code]) rfl (λ x hx=>i1 x (by rw [List.mem_singleton.1 hx];simp)) (by simp) hw).u λ w hw=>?_;refine ⟨rfl,?_⟩;rw [show [r.code].map nn=[nn r.code] from rfl,List.nil_append] at hw
 refine ⟨r.pnr,oA hw,?_⟩;refine Zk1 (by omega) hw λ w hw=>?_;refine ⟨r.state,oA hw,r.flt,oA hw,r.cls,oA hw,r.many,oA hw,r.time,oA hw,?_⟩;refine Za hw λ b31 w hw=>?_;refine (ZcD (xs:=[r.state,r.flt,r.cls,r.many,r.time]) rfl (λ x hx=>i1 x (by simp only [List.mem_cons,List.not_mem_nil,or_false] at hx;simp only [List.cons_append,List.mem_cons];rcases hx with h|h|h|h|h<;>simp [h])) (by simp only [List.length_append,List.length_cons,List.length_nil];omega) hw).u λ w hw=>?_;refine ⟨rfl,?_⟩;rw [nn5] at hw;refine ⟨sl,oA hw,?_⟩;refine (Zo9 (xs:=r.left) (λ y hy=>i1 y (by simp [hy])) i3 (by simp only [List.length_append];omega) hg hw).u λ w hw=>?_;refine ⟨rfl,?_⟩;refine ⟨sb,oA hw,?_⟩;refine Za hw λ b57 w hw=>?_;refine (ZcD (xs:=[(sb.len:Int)]) rfl (by simp;omega) (by simp only [List.length_append,List.length_cons,List.length_nil];omega) hw).u λ w hw=>?_;refine ⟨rfl,?_⟩;rw [nn1 (by omega),show ((sb.len:Nat):Int)=(r.labs.length:Int) by omega] at hw;refine ⟨sb,oA hw,?_⟩;obtain ⟨B,hBl,hB,hw⟩:∃ B:List Int,B.length<=2000000/\B++(r.labs.map Zq7).flatten=rpB r/\Sat R (WrB p B::rpC b r sl sb::Hs) w:=
  ⟨_,by simp only [List.length_append];omega,by unfold rpB;simp only [List.append_assoc],hw⟩
 refine ⟨λ i w=>∃ k:Nat,i=k/\k<=r.labs.length/\Sat R (WrB p (B++((r.labs.take k).map Zq7).flatten)::rpC b r sl sb::Hs) w,λ i _=>r.labs.length - i.toNat,⟨0,rfl,by omega,by simpa using hw⟩,?_⟩;clear hw;rintro _ _ w ⟨k,rfl,hk,hw⟩;refine Br.d (λ h=>?_) (λ h=>?_)
 ·have hkx:k<r.labs.length:=by omega
  have hfl:=Zbo (l:=r.labs.take k) (code:=Zq7) (m:=100009) λ x hx=>by have:=hi.labs x (List.mem_of_mem_take hx);have:=Zn3 this;omega
  rw [List.length_take] at hfl;have hsk:=hi.labs _ (List.getElem_mem hkx);refine Ro.ixStr (hp.ro) (eqS hw) k rfl hkx ?_;refine Zk1 (by rw [List.length_append];omega) hw λ w hw=>?_;rw [Zf];refine ⟨⟨k + 1,by omega,by omega,?_⟩,by dsimp only;omega⟩;rw [List.take_add_one,List.getElem?_eq_getElem hkx,List.map_append,List.flatten_append,<-List.append_assoc];simpa using hw
 ·rw [List.take_of_length_le (l:=r.labs) (by omega),hB] at hw
  obtain ⟨s,hw⟩:=Sat.wrB.1 hw;refine ⟨s,oA hw,s,rfl,?_⟩;exact (hw.drop.swap).drop
theorem ZcW {r:Nat} {rd:Rd} {most:Int} (hb:Zr rd.bs) (h0:0<=most) (h1:most<9223372036854775808) (hw:Sat R (Zaz r rd::Hs) w):
  Zm prog 157 #[.agg #[nP r],nI most] w λ v w'=>v=nI (Zb most rd).1/\Sat R (Zaz r (Zb most rd).2::Hs) w':=by
 have hv:=Zn hb h0;apply Zzl;refine Za hw λ b w hw=>?_;refine ⟨_,oA hw,?_⟩;rw [ZP];refine (ZhG hb hw.drop).u λ w hw=>?_;refine ⟨_,rfl,?_,hw⟩;rw [Zf]
theorem Zio {r:Nat} {rd:Rd} {most:Int} (hb:Zr rd.bs) (hl:rd.bs.length<=1099511627776) (h1:most<9223372036854775808) (hw:Sat R (Zaz r rd::Hs) w):
  Zm prog 214 #[.agg #[nP r],nI most] w λ v w'=>v=.string (ZbA most rd).1/\Sat R (Zaz r (ZbA most rd).2::Hs) w':=by
 apply ZyN;refine Za hw λ b w hw=>?_;refine ⟨_,oA hw,?_⟩;refine (ZiU h1 hl hb hw.drop).u1 λ t w hw=>?_;have hlen:=Zdv (most:=most) (rd:=rd);obtain ⟨R',hr,_,hw2,back⟩:=Own.lend hw (by rw [List.length_map];omega);refine ⟨t,rfl,VC.strOf (ZD most rd).1,λ w' e=>?_,rfl,hw.drop⟩;rw [show w'=w from e]
 exact Zdc underlying47 underlying5 underlying9 hw2 hr
theorem Zmz {r:Nat} {rd:Rd} (hb:Zr rd.bs) (hw:Sat R (Zaz r rd::Hs) w):
  Zm prog 215 #[.agg #[nP r]] w λ v w'=>v=.float .f64 (ZcU rd).1/\Sat R (Zaz r (ZcU rd).2::Hs) w':=by
 have hv:=Zn (most:=18446744073709551615) hb (by omega);apply ZyM;refine Za hw λ b w hw=>?_;refine ⟨_,oA hw,?_⟩;refine (ZhG hb hw.drop).u λ w hw=>?_;refine ⟨_,rfl,?_⟩;obtain ⟨n,hn⟩:=Int.eq_ofNat_of_zero_le hv.1;rw [hn];refine (Zxi (k:=n) (by omega) hw).u λ w hw=>?_;refine ⟨_,rfl,?_,hw⟩;show _=Value.float .f64 (ofF (Zb 18446744073709551615 rd).1.toNat);rw [hn,Int.toNat_natCast]
theorem ZmL {r n:Nat} {rd:Rd} {f:Value} {one:Rd->Int × Rd} {I:Rd->Prop} (hI:∀ rd,I rd->I (one rd).2) (hn:n<=100000) (h0:I rd)
  (hone:∀ (T:HP) (rd:Rd) (w : nW),I rd->Sat R (Zaz r rd::T::Hs) w->Zbq prog cl f [] w λ e w'=>e=.returned (nI (one rd).1)/\Sat R (Zaz r (one rd).2::T::Hs) w')
  (hw:Sat R (Zaz r rd::Hs) w):
  Zm prog 216 #[nI n,f] w λ v w'=>∃ t:Sl,v=.slice t.a t.len t.cap/\Sat R (Own t 3 (Ze (ZG one n rd).1)::Zaz r (ZG one n rd).2::Hs) w':=by
 apply ZyL;have inv:∀ k,I (ZG one k rd).2:=λ k=>(Zcx (one:=one) (P:=I) (Q:=λ _=>True) (λ r hr=>⟨trivial,hI r hr⟩) k h0).2;refine ⟨λ out i w=>∃ k:Nat,i=k/\k<=n/\Sat R (Own out 3 (Ze (ZG one k rd).1)::Zaz r (ZG one k rd).2::Hs) w,λ _ i _=>n - i.toNat,⟨0,rfl,by omega,Own.nil hw⟩,?_⟩;clear hw;rintro _ out _ w ⟨k,rfl,hk,hw⟩;refine Br.d (λ h=>?_) (λ h=>?_)
 ·refine (hone _ _ _ (inv k) hw.swap).mono ?_
  rintro _ w ⟨rfl,hw⟩;refine ⟨_,rfl,?_⟩;have hl:=Za8 one k rd;refine ZbX ZqF hw.swap (by rw [hl];omega) λ out' w hw=>?_;rw [Zf];refine ⟨⟨k + 1,by omega,by omega,?_⟩,by dsimp only;omega⟩;rw [Zbr];exact hw
 ·have:k=n:=by omega
  subst this;exact ⟨out,rfl,hw⟩
theorem elFl:El prog 38 38 35 8:=⟨underlying38,⟨_,underlying38⟩,by kernel_rfl⟩
theorem Zsd (l:List Nat):ZaE (Zjn l)=true:=by unfold ZaE Zjn;simp [Value.oneCell']
theorem ZmM {r n:Nat} {rd:Rd} {f:Value} {one:Rd->Nat × Rd} {I:Rd->Prop} (hI:∀ rd,I rd->I (one rd).2) (hn:n<=100000) (h0:I rd)
  (hone:∀ (T:HP) (rd:Rd) (w : nW),I rd->Sat R (Zaz r rd::T::Hs) w->Zbq prog cl f [] w λ e w'=>e=.returned (.float .f64 (one rd).1)/\Sat R (Zaz r (one rd).2::T::Hs) w')
  (hw:Sat R (Zaz r rd::Hs) w):
  Zm prog 217 #[nI n,f] w λ v w'=>∃ t:Sl,v=.slice t.a t.len t.cap/\Sat R (Own t 35 (Zjn (ZG one n rd).1)::Zaz r (ZG one n rd).2::Hs) w':=by
 apply ZyK;have inv:∀ k,I (ZG one k rd).2:=λ k=>(Zcx (one:=one) (P:=I) (Q:=λ _=>True) (λ r hr=>⟨trivial,hI r hr⟩) k h0).2;refine ⟨λ out i w=>∃ k:Nat,i=k/\k<=n/\Sat R (Own out 35 (Zjn (ZG one k rd).1)::Zaz r (ZG one k rd).2::Hs) w,λ _ i _=>n - i.toNat,⟨0,rfl,by omega,Own.nil hw⟩,?_⟩;clear hw;rintro _ out _ w ⟨k,rfl,hk,hw⟩;refine Br.d (λ h=>?_) (λ h=>?_)
 ·refine (hone _ _ _ (inv k) hw.swap).mono ?_
  rintro _ w ⟨rfl,hw⟩;refine ⟨_,rfl,?_⟩;have hl:=Za8 one k rd;refine ZfL elFl hw.swap (Zsd _) rfl (by rw [List.length_map,hl];omega) (by rw [List.length_map,hl];omega) λ out' w hw=>?_;rw [Zf];refine ⟨⟨k + 1,by omega,by omega,?_⟩,by dsimp only;omega⟩;rw [Zbr];simpa using hw
 ·have:k=n:=by omega
  subst this;exact ⟨out,rfl,hw⟩
end
end Go.Proofs.YtlplemdmegpoeaaGreatDoor

namespace Go.Proofs.YtlplemdmegpoeaaGreatDoor
section
open Go Go.VC Tryz
variable {R:Cx} {Hs Rest:List HP} {w:World}
theorem _root_.Go.VC.SlR.b8take {h:ZY} {s:Sl} {xs:List Int} (a:SlR h s (b8 xs)) {k:Nat} (hk:k<=xs.length):SlR h ⟨s.a,k,s.cap⟩ (b8 (xs.take k)):=by
 have:=a.take (k:=k) (by simpa using hk);simpa using this
theorem _root_.Go.VC.SlR.b8drop {h:ZY} {s:Sl} {xs:List Int} (a:SlR h s (b8 xs)) {k:Nat} (hk:k<=xs.length):SlR h (Zcn s k) (b8 (xs.drop k)):=by
 have:=a.drop (k:=k) (by simpa using hk);simpa using this
theorem ZbW {r:Nat} {s:Sl} {bs:List Int} {rd:Rd} {most:Int} (hm:most<9223372036854775808) (hl:bs.length<=1099511627776) (hb:∀ x∈bs,0<=x/\x<256) (hs:SlR R.m s (b8 bs)) (hw:Sat R (ZB r s bs rd::Hs) w):
  Zm prog 78 #[nP r,nI most] w λ v w'=>∃ t:Sl,v=.slice t.a t.len t.cap/\Sat R (Own t 5 (b8 (ZD most rd).1)::ZB r s bs (ZD most rd).2::Hs) w':=by
 have hsl:s.len=bs.length:=by have:=hs.len;simpa using this
 have hscap:=hs.cap;obtain ⟨n,⟨hn,hd⟩,hw⟩:=Sat.rrd.1 hw;have hlen:rd.bs.length=bs.length - n:=by rw [<-hd,List.length_drop]
 have hb2:∀ x∈rd.bs,0<=x/\x<256:=λ x hx=>hb x (by rw [<-hd] at hx;exact List.mem_of_mem_drop hx);apply ZA7;refine (ZiZ hl hb hs hn hw).u λ w hw=>?_;refine ⟨_,_,_,rfl,?_⟩;rw [hd];have bad:ZD most rd=([],⟨rd.bs,true⟩)->∀ {w},Sat R (pts r (Z4 s n rd.bad)::Hs) w->Zc (some ⟨r,0,none⟩) λ a_t25=>
   ∃ w_2:World,((Instr.storeAt 4 (.pointer ((some (nO a_t25 2)))) (.bool true)).run prog w=.ok () w_2)/\
   (∃ t:Sl,Value.slice none 0 0=.slice t.a t.len t.cap/\Sat R (Own t 5 (b8 (ZD most rd).1)::ZB r s bs (ZD most rd).2::Hs) w_2):=λ e w hw=>by
  refine Zc.mk rfl ?_;refine sRu hw λ w hw=>?_;have hw:=hw.re (pts r (Z4 s n true));rw [e];exact ⟨⟨none,0,0⟩,rfl,Own.nil (Sat.rrd.2 ⟨n,⟨hn,hd⟩,hw⟩)⟩
 refine ⟨λ w=>(∃ x k,rd.bad=false/\ZaU rd.bs=some (x,false,k)/\0<=most/\x<=most/\x<=(rd.bs.length:Int) - k)/\Sat R (pts r (Z4 s n rd.bad)::Hs) w,Zo hw λ w hw=>?_,?_⟩
 ·by_cases hbd:rd.bad=true
  ·have e:Zbj ⟨rd.bs,rd.bad⟩=(0,false,0):=by unfold Zbj;rw [if_pos hbd]
   rw [e];dsimp only;refine Br.mk (λ h=>bad ?_ hw) (λ h=>by simp at h);unfold ZD;rw [if_pos hbd];rw [show rd=⟨rd.bs,rd.bad⟩ from rfl,hbd]
  ·have hbd:rd.bad=false:=by simpa using hbd
   cases hp:ZaU rd.bs with
   |none=>
    have e:Zbj ⟨rd.bs,rd.bad⟩=(0,false,0):=by unfold Zbj;simp [hp]
    rw [e];dsimp only;refine Br.mk (λ h=>bad ?_ hw) (λ h=>by simp at h);unfold ZD;rw [if_neg (by rw [hbd];simp),hp]
   |some p=>
    obtain ⟨x,neg,k⟩:=p;have e:Zbj ⟨rd.bs,rd.bad⟩=(x,neg,(k:Int)):=by unfold Zbj;simp [hp,hbd]
    rw [e];dsimp only;obtain ⟨x0,x1,k0,k1,k2⟩:=ZeF hb2 hp;have e2:ZD most rd=if neg=false/\0<=most/\x<=most/\x<=((rd.bs.length:Int) - k) then (((rd.bs.drop k).take x.toNat),⟨rd.bs.drop (k + x.toNat),false⟩) else ([],⟨rd.bs,true⟩):=by
     unfold ZD;rw [if_neg (by rw [hbd];simp),hp]
    refine Br.e (λ h=>by omega) (λ _=>Br.mk (λ h=>bad ?_ hw) (λ h=>Br.d (λ h2=>bad ?_ hw) (λ h2=>?_)))
    ·rw [e2,if_neg (by rintro ⟨h3,_⟩;rw [h3] at h;cases h)]
    ·rw [e2,if_neg (by rintro ⟨_,h3,_⟩;omega)]
    ·rw [ZP (x:=most)]
     refine Br.d (λ h3=>bad ?_ hw) (λ h3=>?_)
     ·rw [e2,if_neg (by rintro ⟨_,_,h4,_⟩;omega)]
     ·refine Zc.mk rfl ⟨s,oS,Zc.mk rfl ⟨n,oS,?_⟩⟩
      have e3:IntKind.u64.wrap (wI (wI ((s.len:Int) - (n:Int)) - (k:Int)))=(rd.bs.length:Int) - k:=by
       rw [Zf (x:=(s.len:Int) - (n:Int)),Zf,ZP];omega
      rw [e3];refine Br.d (λ h4=>bad ?_ hw) (λ h4=>⟨⟨x,k,hbd,by rw [h],by omega,by omega,by omega⟩,hw⟩);rw [e2,if_neg (by rintro ⟨_,_,_,h5⟩;omega)]
 clear bad hw;rintro _ w ⟨⟨x,k,hbd,hp,hm0,hxm,hxl⟩,hw⟩;obtain ⟨x0,x1,k0,k1,k2⟩:=ZeF hb2 hp;have e:Zbj ⟨rd.bs,rd.bad⟩=(x,false,(k:Int)):=by unfold Zbj;simp [hp,hbd]
 have e2:ZD most rd=(((rd.bs.drop k).take x.toNat),⟨rd.bs.drop (k + x.toNat),false⟩):=by
  unfold ZD;rw [if_neg (by rw [hbd];simp),hp];dsimp only;rw [if_pos ⟨rfl,hm0,hxm,hxl⟩]
 rw [e,e2];dsimp only;obtain ⟨m,rfl⟩:=Int.eq_ofNat_of_zero_le x0;refine Zc.mk rfl ⟨n,oA hw,Zc.mk rfl ?_⟩;have e3:wI ((n:Int) + (k:Int))=((n + k:Nat):Int):=by rw [Zf];omega
 have e4:wI (((n + k:Nat):Int) + wI (m:Int))=((n + k + m:Nat):Int):=by rw [Zf (x:=(m:Int)),Zf];omega
 try dsimp only
 rw [e3,e4];refine sRu hw λ w hw=>?_;rw [hbd] at hw;have hw:=hw.re (pts r (Z4 s (n + k + m) false));refine ZaV hw λ w hw=>?_;refine Zc.mk rfl ⟨s,oS,Zc.mk rfl ⟨((n + k + m:Nat):Int),oS,by omega,by omega,by omega,by omega,?_⟩⟩;rw [Int.toNat_natCast,Int.toNat_natCast,Int.toNat_natCast];refine Za hw λ b w hw=>?_;have e5:n + k + m - (n + k)=m:=by omega
 rw [e5];have hro:SlR R.m ⟨(Zcn s (n + k)).a,m,(Zcn s (n + k)).cap⟩ (b8 ((rd.bs.drop k).take m)):=by
  have:=(hs.b8drop (k:=n + k) (by omega)).b8take (k:=m) (by simp;omega);rw [<-List.drop_drop,hd] at this;exact this
 have hll:((rd.bs.drop k).take m).length<=1099511627776:=by simp;omega
 refine ⟨hw.absorb,?_⟩;have hw:Sat R (Own ⟨some ⟨b,0,none⟩,0,0⟩ 5 (([]:List Int).map (Value.int .u8))::VC.tru::pts r (Z4 s (n + k + m) false)::Hs) w:=ZbH hw;refine Zho ZqG (s:=⟨some ⟨b,0,none⟩,0,0⟩) (t:=⟨(Zcn s (n + k)).a,m,(Zcn s (n + k)).cap⟩) (n:=1099511627776) underlying47 hw (hro.ro (by simp;omega)) (by simp;omega) (by omega) (by omega) λ t w hw=>?_;refine ⟨hw.absorb,t,rfl,?_⟩;rw [List.nil_append] at hw;refine hw.cons λ _ h=>Sat.rrd.2 ⟨n + k + m,⟨by omega,?_⟩,h.drop⟩;show bs.drop (n + k + m)=rd.bs.drop (k + m);rw [<-hd,List.drop_drop,Nat.add_assoc]
end
section
open Go Go.VC Tryz
open Classical
variable {R:Cx} {Hs Rest:List HP} {w:World}
abbrev brC (b r:Nat):HP:=pts b (.cells [nP r].toArray 216 (0,0))
abbrev ZE:Sl:=⟨none,0,0⟩
abbrev ZaJ (k:Int) (p:ByteArray) (f c m t:Int):Cm:=⟨k,p,f,c,m,t,0,ByteArray.mk #[],0,[],[]⟩
abbrev ZaA (b:Nat):HP:=cmC b (ZaJ 0 (ByteArray.mk #[]) 0 0 0 0) ZE ZE
theorem Zdd {b r:Nat} {rd:Rd} (hb:Zr rd.bs) (hw:Sat R (Zaz r rd::brC b r::Hs) w):
  Zm prog 213 #[nP b] w λ v w'=>v=nI (Zb 9999 rd).1/\Sat R (Zaz r (Zb 9999 rd).2::brC b r::Hs) w':=by
 apply ZyO;have hw2:Sat R (brC b r::Zaz r rd::Hs) w:=hw.swap;refine Zc.mk rfl ⟨some ⟨r,0,none⟩,At.own (eqS hw2) (by exact ⟨rfl,trivial⟩),?_⟩;refine (ZcW (most:=9999) hb (by omega) (by omega) hw).u λ w hw=>?_;exact ⟨_,rfl,rfl,hw⟩
theorem ZmF {A B:HP} (hw:Sat R (A::B::Hs) w):Sat R [B,VC.tru] w:=hw.swap.restTru2
theorem ZwK {A B C:HP} (hw:Sat R (C::A::B::Hs) w):Sat R [B,VC.tru] w:=(hw.arr (Hs':=B::C::A::Hs)).restTru2
section
variable (S:World->Prop) (J:Option Addr->World->Prop) (b4 b:Nat) (r:Option Addr)
def dT6 (k:Int) (p:ByteArray) (f c m t:Int) (w : nW):Prop:=
 ∃ w':World,((Instr.storeAt 40 (nP b) (.agg #[nI k,.string p,nI f,nI c,nI m,nI t,.float .f64 0,.string (ByteArray.mk #[]),nI 0,.slice none 0 0,.slice none 0 0])).run prog w=.ok () w')/\J (some ⟨b,0,none⟩) w'
def dT5 (k:Int) (p:ByteArray) (f c m:Int) (w : nW):Prop:=
 nC 157 #[.agg #[.pointer r],nI 1099511627776] w λ e w'=>∃ t:Int,(e=.returned (nI t))/\S w'/\dT6 J b k p f c m t w'
def dT4 (k:Int) (p:ByteArray) (f c:Int) (w : nW):Prop:=
 nC 213 #[nP b4] w λ e w'=>∃ t:Int,(e=.returned (nI t))/\S w'/\dT5 S J b r k p f c t w'
def dT3 (k:Int) (p:ByteArray) (f:Int) (w : nW):Prop:=
 nC 213 #[nP b4] w λ e w'=>∃ t:Int,(e=.returned (nI t))/\S w'/\dT4 S J b4 b r k p f t w'
def dT2 (k:Int) (p:ByteArray) (w : nW):Prop:=
 nC 213 #[nP b4] w λ e w'=>∃ t:Int,(e=.returned (nI t))/\S w'/\dT3 S J b4 b r k p t w'
def dT1 (k:Int) (w : nW):Prop:=
 nC 214 #[.agg #[.pointer r],nI 16] w λ e w'=>∃ t:ByteArray,(e=.returned (.string t))/\S w'/\dT2 S J b4 b r k t w'
def dT0 (w : nW):Prop:=
 nC 157 #[.agg #[.pointer r],nI 9] w λ e w'=>∃ t:Int,(e=.returned (nI t))/\S w'/\dT1 S J b4 b r t w'
end
section
variable {J:Option Addr->World->Prop} {b4 b r:Nat} {rd:Rd} {k f c m t:Int} {p:ByteArray}
theorem Zwk (hJ:∀ {w},Sat R (cmC b (ZaJ k p f c m t) ZE ZE::Zaz r rd::brC b4 r::Hs) w->J (some ⟨b,0,none⟩) w) (hw:Sat R (Zaz r rd::brC b4 r::ZaA b::Hs) w):dT6 J b k p f c m t w:=by
 have hw:Sat R (ZaA b::Zaz r rd::brC b4 r::Hs) w:=hw.arr;refine sRu hw λ w hw=>?_;exact hJ (hw.re (cmC b (ZaJ k p f c m t) ZE ZE))
theorem Zwl (hb:Zr rd.bs) (hJ:∀ {w},Sat R (cmC b (ZaJ k p f c m (Zb 1099511627776 rd).1) ZE ZE::Zaz r (Zb 1099511627776 rd).2::brC b4 r::Hs) w->J (some ⟨b,0,none⟩) w)
  (hw:Sat R (Zaz r rd::brC b4 r::ZaA b::Hs) w):dT5 (Sat R [brC b4 r,VC.tru]) J b (some ⟨r,0,none⟩) k p f c m w:=by
 refine (ZcW (most:=1099511627776) hb (by omega) (by omega) hw).u λ w hw=>?_;exact ⟨_,rfl,ZmF hw,Zwk hJ hw⟩
theorem Zwm (hb:Zr rd.bs) (hJ:∀ {w},Sat R (cmC b (ZaJ k p f c (Zb 9999 rd).1 (Zb 1099511627776 (Zb 9999 rd).2).1) ZE ZE::Zaz r (Zb 1099511627776 (Zb 9999 rd).2).2::brC b4 r::Hs) w->J (some ⟨b,0,none⟩) w)
  (hw:Sat R (Zaz r rd::brC b4 r::ZaA b::Hs) w):dT4 (Sat R [brC b4 r,VC.tru]) J b4 b (some ⟨r,0,none⟩) k p f c w:=by
 refine (Zdd hb hw).u λ w hw=>?_;exact ⟨_,rfl,ZmF hw,Zwl (Zd hb) hJ hw⟩
theorem Zwn (hb:Zr rd.bs) (hJ:∀ {w},Sat R (cmC b (ZaJ k p f (Zb 9999 rd).1 (Zb 9999 (Zb 9999 rd).2).1 (Zb 1099511627776 (Zb 9999 (Zb 9999 rd).2).2).1) ZE ZE::Zaz r (Zb 1099511627776 (Zb 9999 (Zb 9999 rd).2).2).2::brC b4 r::Hs) w->J (some ⟨b,0,none⟩) w)
  (hw:Sat R (Zaz r rd::brC b4 r::ZaA b::Hs) w):dT3 (Sat R [brC b4 r,VC.tru]) J b4 b (some ⟨r,0,none⟩) k p f w:=by
 refine (Zdd hb hw).u λ w hw=>?_;exact ⟨_,rfl,ZmF hw,Zwm (Zd hb) hJ hw⟩
theorem Zwo (hb:Zr rd.bs) (hJ:∀ {w},Sat R (cmC b (ZaJ k p (Zb 9999 rd).1 (Zb 9999 (Zb 9999 rd).2).1 (Zb 9999 (Zb 9999 (Zb 9999 rd).2).2).1 (Zb 1099511627776 (Zb 9999 (Zb 9999 (Zb 9999 rd).2).2).2).1) ZE ZE::Zaz r (Zb 1099511627776 (Zb 9999 (Zb 9999 (Zb 9999 rd).2).2).2).2::brC b4 r::Hs) w->J (some ⟨b,0,none⟩) w)
  (hw:Sat R (Zaz r rd::brC b4 r::ZaA b::Hs) w):dT2 (Sat R [brC b4 r,VC.tru]) J b4 b (some ⟨r,0,none⟩) k p w:=by
 refine (Zdd hb hw).u λ w hw=>?_;exact ⟨_,rfl,ZmF hw,Zwn (Zd hb) hJ hw⟩
def hd2 (rd:Rd):(Int × Int × Int × Int) × Rd:=
 let f:=Zb 9999 rd
 let c:=Zb 9999 f.2
 let m:=Zb 9999 c.2
 let t:=Zb 1099511627776 m.2
 ((f.1,c.1,m.1,t.1),t.2)
abbrev JD (R:Cx) (Hs:List HP) (b4 r:Nat) (k:Int) (p:ByteArray) (x:(Int × Int × Int × Int) × Rd) (c6:Option Addr) (w : nW):Prop:=
 ∃ b,c6=some ⟨b,0,none⟩/\Sat R (cmC b (ZaJ k p x.1.1 x.1.2.1 x.1.2.2.1 x.1.2.2.2) ZE ZE::Zaz r x.2::brC b4 r::Hs) w
theorem Zwp (hb:Zr rd.bs) (hl:rd.bs.length<=1099511627776) (hJ:∀ {w},Sat R (cmC b (ZaJ k (ZbA 16 rd).1 (hd2 (ZbA 16 rd).2).1.1 (hd2 (ZbA 16 rd).2).1.2.1 (hd2 (ZbA 16 rd).2).1.2.2.1 (hd2 (ZbA 16 rd).2).1.2.2.2) ZE ZE::Zaz r (hd2 (ZbA 16 rd).2).2::brC b4 r::Hs) w->J (some ⟨b,0,none⟩) w)
  (hw:Sat R (Zaz r rd::brC b4 r::ZaA b::Hs) w):dT1 (Sat R [brC b4 r,VC.tru]) J b4 b (some ⟨r,0,none⟩) k w:=by
 refine (Zio (most:=16) hb hl (by omega) hw).u λ w hw=>?_;exact ⟨_,rfl,ZmF hw,Zwo (Zew hb) hJ hw⟩
theorem ZAR (hb:Zr rd.bs) (hl:rd.bs.length<=1099511627776) (hJ:∀ {w},Sat R (cmC b (ZaJ (Zb 9 rd).1 (ZbA 16 (Zb 9 rd).2).1 (hd2 (ZbA 16 (Zb 9 rd).2).2).1.1 (hd2 (ZbA 16 (Zb 9 rd).2).2).1.2.1 (hd2 (ZbA 16 (Zb 9 rd).2).2).1.2.2.1 (hd2 (ZbA 16 (Zb 9 rd).2).2).1.2.2.2) ZE ZE::Zaz r (hd2 (ZbA 16 (Zb 9 rd).2).2).2::brC b4 r::Hs) w->J (some ⟨b,0,none⟩) w)
  (hw:Sat R (Zaz r rd::brC b4 r::ZaA b::Hs) w):dT0 (Sat R [brC b4 r,VC.tru]) J b4 b (some ⟨r,0,none⟩) w:=by
 refine (ZcW (most:=9) hb (by omega) (by omega) hw).u λ w hw=>?_;exact ⟨_,rfl,ZmF hw,Zwp (Zd hb) (by have:=Zal (most:=9) (rd:=rd);omega) hJ hw⟩
end
end
section
open Go Go.VC Tryz
open Classical
variable {R:Cx} {Hs Rest:List HP} {w:World}
theorem Zbq.mkB {g:FuncId} {first captured:Array Value} {args:List Value} {Q:Ending->World->Prop} (hc:cl g=true) (h:Calls prog g (first.toList++(args++captured.toList)).toArray w Q):Zbq prog cl (.func (.func g) first captured) args w Q:=by
 unfold Zbq;simp only [hc];exact h
theorem Zbq.mk1 {g:FuncId} {x:Value} {Q:Ending->World->Prop} (hc:cl g=true) (h:Calls prog g #[x] w Q):Zbq prog cl (.func (.func g) #[x] #[]) [] w Q:=Zbq.mkB hc (by
 have e:((#[x]:Array Value).toList++(([]:List Value)++(#[]:Array Value).toList)).toArray=#[x]:=rfl;rw [e];exact h)
def Zuc:Cm:=ZaJ 0 (ByteArray.mk #[]) 0 0 0 0
noncomputable def Zcl (bs:List Int):Cm × Int:=if ZF (ZAT ⟨bs,false⟩).2=true/\ZaL (ZAT ⟨bs,false⟩).1 then ((ZAT ⟨bs,false⟩).1,0) else (Zuc,6)
theorem Zla {most:Int} {rd:Rd}:(ZbA most rd).2.bs.length<=rd.bs.length:=Zdv.2
theorem ZsW {rd:Rd}:(ZcU rd).2.bs.length<=rd.bs.length:=Zal
theorem Zwc {rd:Rd} (hb:Zr rd.bs):Zr (hd2 rd).2.bs:=Zd (Zd (Zd (Zd hb)))
theorem Zxy {rd:Rd}:(hd2 rd).2.bs.length<=rd.bs.length:=Nat.le_trans Zal (Nat.le_trans Zal (Nat.le_trans Zal Zal))
theorem Zto (r:Rd):ZAT r=
 let k:=Zb 9 r
 let p:=ZbA 16 k.2
 let h:=hd2 p.2
 let s:=ZcU h.2
 let l:=ZbA 16 s.2
 let w:=Zb 9999 l.2
 let n:=Zb 16 w.2
 let g:=ZG (Zb 9999) n.1.toNat n.2
 let q:=Zb 16 g.2
 let x:=ZG ZcU q.1.toNat q.2
 (⟨k.1,p.1,h.1.1,h.1.2.1,h.1.2.2.1,h.1.2.2.2,s.1,l.1,w.1,g.1,x.1⟩,x.2):=rfl
theorem ZtO {s:Sl} {bs:List Int} (hb:Zr bs) (hl:bs.length<=1099511627776) (hs:Ro R s (b8 bs)) (hw:Sat R Hs w):
  Zm prog 141 #[.slice s.a s.len s.cap] w λ v w'=>∃ sg sp:Sl,v=.tuple #[.agg (cmV (Zcl bs).1 sg sp).toArray,nI (Zcl bs).2]/\Sat R (Own sg 3 (Ze (Zcl bs).1.grps)::Own sp 35 (Zjn (Zcl bs).1.parts)::Hs) w':=by
 apply Zzy;have b0:Zr (⟨bs,false⟩:Rd).bs:=hb;have l0:(⟨bs,false⟩:Rd).bs.length<=1099511627776:=hl;have hcm:=Zto ⟨bs,false⟩;obtain ⟨rd0,e0⟩:∃ rd:Rd,rd=⟨bs,false⟩:=⟨_,rfl⟩;rw [<-e0] at b0 l0 hcm;have b1:=Zd (most:=9) b0;have l1:(Zb 9 rd0).2.bs.length<=1099511627776:=Nat.le_trans Zal l0;refine Za hw λ b2 w hw=>?_;have hw:Sat R (ZaA b2::Hs) w:=hw;refine (Zmi hs hl hw).use ?_;clear hw;rintro _ w ⟨r,rfl,hw⟩;refine ⟨_,rfl,?_⟩;rw [<-e0] at hw;refine Za hw λ b4 w hw=>?_;refine sRu hw λ w hw=>?_;have hw:Sat R (Zaz r rd0::brC b4 r::ZaA b2::Hs) w:=hw.re (brC b4 r)|>.swap
 refine ⟨JD R (ZaA b2::Hs) b4 r (Zb 9 rd0).1 (ZbA 16 (Zb 9 rd0).2).1 (hd2 (ZbA 16 (Zb 9 rd0).2).2),?_,?_⟩
 ·refine ZC (Sat R [brC b4 r,VC.tru]) hw (λ w hw=>ZmF hw) λ w hw=>?_
  clear hcm;refine ⟨_,oS,_,oS,_,oS,?_⟩;refine ⟨?_,Za hw λ b w hw=>⟨ZwK hw,ZAR b0 l0 (λ hw=>⟨b,rfl,hw⟩) (hw.arr (Hs':=Zaz r rd0::brC b4 r::ZaA b::ZaA b2::Hs))⟩⟩;refine (ZcW (most:=9) b0 (by omega) (by omega) hw).use ?_;clear hw;rintro _ w ⟨rfl,hw⟩;refine ⟨_,rfl,ZmF hw,?_⟩;generalize (Zb 9 rd0).1=k at *;generalize (Zb 9 rd0).2=rd1 at *;refine ⟨?_,Za hw λ b w hw=>⟨ZwK hw,Zwp b1 l1 (λ hw=>⟨b,rfl,hw⟩) (hw.arr (Hs':=Zaz r rd1::brC b4 r::ZaA b::ZaA b2::Hs))⟩⟩;have b2':=Zew (most:=16) b1;refine (Zio (most:=16) b1 l1 (by omega) hw).use ?_;clear hw;rintro _ w ⟨rfl,hw⟩;refine ⟨_,rfl,ZmF hw,?_⟩;generalize (ZbA 16 rd1).1=p at *;generalize (ZbA 16 rd1).2=rd2 at *;refine ⟨?_,Za hw λ b w hw=>⟨ZwK hw,Zwo b2' (λ hw=>⟨b,rfl,hw⟩) (hw.arr (Hs':=Zaz r rd2::brC b4 r::ZaA b::ZaA b2::Hs))⟩⟩;have b3:=Zd (most:=9999) b2';refine (Zdd b2' hw).use ?_;clear hw;rintro _ w ⟨rfl,hw⟩;refine ⟨_,rfl,ZmF hw,?_⟩;refine ⟨?_,Za hw λ b w hw=>⟨ZwK hw,Zwn b3 (λ hw=>⟨b,rfl,hw⟩) (hw.arr (Hs':=Zaz r _::brC b4 r::ZaA b::ZaA b2::Hs))⟩⟩;have b4':=Zd (most:=9999) b3;refine (Zdd b3 hw).use ?_;clear hw;rintro _ w ⟨rfl,hw⟩;refine ⟨_,rfl,ZmF hw,?_⟩;refine ⟨?_,Za hw λ b w hw=>⟨ZwK hw,Zwm b4' (λ hw=>⟨b,rfl,hw⟩) (hw.arr (Hs':=Zaz r _::brC b4 r::ZaA b::ZaA b2::Hs))⟩⟩;have b5:=Zd (most:=9999) b4';refine (Zdd b4' hw).use ?_;clear hw;rintro _ w ⟨rfl,hw⟩;refine ⟨_,rfl,ZmF hw,?_⟩;refine ⟨?_,Za hw λ b w hw=>⟨ZwK hw,Zwl b5 (λ hw=>⟨b,rfl,hw⟩) (hw.arr (Hs':=Zaz r _::brC b4 r::ZaA b::ZaA b2::Hs))⟩⟩;refine (ZcW (most:=1099511627776) b5 (by omega) (by omega) hw).use ?_;clear hw;rintro _ w ⟨rfl,hw⟩;have hw:Sat R (Zaz r (hd2 rd2).2::brC b4 r::ZaA b2::Hs) w:=hw;refine ⟨_,rfl,ZmF hw,Za hw λ b w hw=>⟨ZwK hw,Zwk (λ hw=>⟨b,rfl,hw⟩) (hw.arr (Hs':=Zaz r _::brC b4 r::ZaA b::ZaA b2::Hs))⟩⟩
 clear hw;obtain ⟨k,rd1,e1⟩:∃ y rd,Zb 9 rd0=(y,rd):=⟨_,_,rfl⟩;rw [e1] at b1 l1 ⊢;dsimp only at b1 l1 ⊢;have b2':=Zew (most:=16) b1;have l2:(ZbA 16 rd1).2.bs.length<=1099511627776:=Nat.le_trans Zla l1;obtain ⟨p,rd2,e2⟩:∃ y rd,ZbA 16 rd1=(y,rd):=⟨_,_,rfl⟩;rw [e2] at b2' l2 ⊢;dsimp only at b2' l2 ⊢;have b3:=Zwc b2';have l3:(hd2 rd2).2.bs.length<=1099511627776:=Nat.le_trans Zxy l2;obtain ⟨⟨f,c,m,t⟩,rd3,e3⟩:∃ y rd,hd2 rd2=(y,rd):=⟨_,_,rfl⟩;rw [e3] at b3 l3 ⊢;dsimp only at b3 l3 ⊢;rintro _ _ w ⟨b,rfl,hw⟩;have b4':=Zf5 b3;have l4:(ZcU rd3).2.bs.length<=1099511627776:=Nat.le_trans ZsW l3;obtain ⟨sc,rd4,e4⟩:∃ y rd,ZcU rd3=(y,rd):=⟨_,_,rfl⟩;have hw:Sat R (Zaz r rd3::brC b4 r::cmC b (ZaJ k p f c m t) ZE ZE::ZaA b2::Hs) w:=hw.arr;refine ⟨some ⟨r,0,none⟩,oA hw,?_⟩;refine (Zmz b3 hw).use ?_;clear hw;rintro _ w ⟨rfl,hw⟩;rw [e4] at b4' l4 hw ⊢;dsimp only at b4' l4 hw ⊢;refine ⟨_,rfl,Zc.mk rfl ?_⟩;refine sRu hw λ w hw=>?_;have hw:Sat R (Zaz r rd4::brC b4 r::cmC b { ZaJ k p f c m t with sc:=sc } ZE ZE::ZaA b2::Hs) w:=(hw.re (cmC b { ZaJ k p f c m t with sc:=sc } ZE ZE)).arr;have b5:=Zew (most:=16) b4';have l5:(ZbA 16 rd4).2.bs.length<=1099511627776:=Nat.le_trans Zla l4;obtain ⟨lab,rd5,e5⟩:∃ y rd,ZbA 16 rd4=(y,rd):=⟨_,_,rfl⟩;refine ⟨some ⟨r,0,none⟩,oA hw,?_⟩;refine (Zio (most:=16) b4' l4 (by omega) hw).use ?_;clear hw;rintro _ w ⟨rfl,hw⟩;rw [e5] at b5 l5 hw ⊢;dsimp only at b5 l5 hw ⊢;refine ⟨_,rfl,Zc.mk rfl ?_⟩;refine sRu hw λ w hw=>?_;have hw:Sat R (Zaz r rd5::brC b4 r::cmC b { ZaJ k p f c m t with sc:=sc,lab:=lab } ZE ZE::ZaA b2::Hs) w:=(hw.re (cmC b { ZaJ k p f c m t with sc:=sc,lab:=lab } ZE ZE)).arr;have b6:=Zd (most:=9999) b5;have l6:(Zb 9999 rd5).2.bs.length<=1099511627776:=Nat.le_trans Zal l5;obtain ⟨rows,rd6,e6⟩:∃ y rd,Zb 9999 rd5=(y,rd):=⟨_,_,rfl⟩;refine (Zdd b5 hw).use ?_;clear hw;rintro _ w ⟨rfl,hw⟩;rw [e6] at b6 l6 hw ⊢;dsimp only at b6 l6 hw ⊢;refine ⟨_,rfl,Zc.mk rfl ?_⟩;refine sRu hw λ w hw=>?_;have hw:Sat R (Zaz r rd6::brC b4 r::cmC b { ZaJ k p f c m t with sc:=sc,lab:=lab,rows:=rows } ZE ZE::ZaA b2::Hs) w:=(hw.re (cmC b { ZaJ k p f c m t with sc:=sc,lab:=lab,rows:=rows } ZE ZE)).arr;have b7:=Zd (most:=16) b6;have v7:=Zn (most:=16) b6 (by omega);obtain ⟨n7,rd7,e7⟩:∃ y rd,Zb 16 rd6=(y,rd):=⟨_,_,rfl⟩;refine ⟨some ⟨r,0,none⟩,oA hw,?_⟩;refine (ZcW (most:=16) b6 (by omega) (by omega) hw).use ?_;clear hw;rintro _ w ⟨rfl,hw⟩;rw [e7] at b7 v7 hw ⊢;dsimp only at b7 v7 hw ⊢;refine ⟨_,rfl,?_⟩;obtain ⟨n,rfl⟩:=Int.eq_ofNat_of_zero_le v7.1;have b8':Zr (ZG (Zb 9999) n rd7).2.bs:=(Zcx (one:=Zb 9999) (P:=λ r=>Zr r.bs) (Q:=λ _=>True) (λ r hr=>⟨trivial,Zd hr⟩) n b7).2;refine (ZmL (one:=Zb 9999) (I:=λ rd=>Zr rd.bs) (λ rd h=>Zd h) (by omega) b7 (λ T rd w hI hw=>Zbq.mk (by kernel_rfl) ((Zdd hI (hw.arr (Hs':=Zaz r rd::brC b4 r::T::cmC b { ZaJ k p f c m t with sc:=sc,lab:=lab,rows:=rows } ZE ZE::ZaA b2::Hs))).use λ v w h=>⟨by rw [h.1],h.2.arr⟩)) hw).use ?_;clear hw;rintro _ w ⟨sg,rfl,hw⟩;have gl:=Za8 (Zb 9999) n rd7;obtain ⟨gs,rd8,e8⟩:∃ y rd,ZG (Zb 9999) n rd7=(y,rd):=⟨_,_,rfl⟩;rw [e8] at gl b8' hw;dsimp only at gl b8' hw;refine ⟨sg,rfl,Zc.mk rfl ?_⟩;refine sRu hw λ w hw=>?_;have hw:Sat R (Zaz r rd8::brC b4 r::Own sg 3 (Ze gs)::cmC b { ZaJ k p f c m t with sc:=sc,lab:=lab,rows:=rows,grps:=gs } sg ZE::ZaA b2::Hs) w:=(hw.re (cmC b { ZaJ k p f c m t with sc:=sc,lab:=lab,rows:=rows,grps:=gs } sg ZE)).arr;have b9:=Zd (most:=16) b8';have v9:=Zn (most:=16) b8' (by omega);obtain ⟨n9,rd9,e9⟩:∃ y rd,Zb 16 rd8=(y,rd):=⟨_,_,rfl⟩;refine ZC (Sat R [brC b4 r,VC.tru]) hw (λ w hw=>ZmF hw) λ w hw=>?_;refine ⟨some ⟨r,0,none⟩,oS,some ⟨r,0,none⟩,oS,?_⟩;refine (ZcW (most:=16) b8' (by omega) (by omega) hw).use ?_;clear hw;rintro _ w ⟨rfl,hw⟩;rw [e9] at b9 v9 hw ⊢;dsimp only at b9 v9 hw ⊢;refine ⟨_,rfl,ZmF hw,?_⟩;obtain ⟨n',rfl⟩:=Int.eq_ofNat_of_zero_le v9.1;refine (ZmM (one:=ZcU) (I:=λ rd=>Zr rd.bs) (λ rd h=>Zf5 h) (by omega) b9 (λ T rd w hI hw=>Zbq.mk1 (by kernel_rfl) ((Zmz hI hw).use λ v w h=>⟨by rw [h.1],h.2⟩)) hw).use ?_;clear hw;rintro _ w ⟨sp,rfl,hw⟩;have pl:=Za8 ZcU n' rd9;obtain ⟨ps,rd10,e10⟩:∃ y rd,ZG ZcU n' rd9=(y,rd):=⟨_,_,rfl⟩;rw [e10] at pl hw;dsimp only at pl hw;have hC:ZAT rd0=({ ZaJ k p f c m t with sc:=sc,lab:=lab,rows:=rows,grps:=gs,parts:=ps },rd10):=by
  rw [hcm];simp only [e1,e2,e3,e4,e5,e6,e7,e8,e9,e10,Int.toNat_natCast]
 clear hcm;rw [e0] at hC;have hdec:Zcl bs=if ZF rd10=true/\ZaL { ZaJ k p f c m t with sc:=sc,lab:=lab,rows:=rows,grps:=gs,parts:=ps } then ({ ZaJ k p f c m t with sc:=sc,lab:=lab,rows:=rows,grps:=gs,parts:=ps },0) else (Zuc,6):=by unfold Zcl;rw [hC]
 obtain ⟨C,eC⟩:∃ C:Cm,C={ ZaJ k p f c m t with sc:=sc,lab:=lab,rows:=rows,grps:=gs,parts:=ps }:=⟨_,rfl⟩;refine ⟨sp,rfl,(hw.arr (Hs':=Zaz r rd10::brC b4 r::Own sp 35 (Zjn ps)::Own sg 3 (Ze gs)::cmC b { ZaJ k p f c m t with sc:=sc,lab:=lab,rows:=rows,grps:=gs } sg ZE::ZaA b2::Hs))|>ZmF,Zc.mk rfl ?_⟩;refine sRu hw λ w hw=>?_;have hw:=hw.re (cmC b { ZaJ k p f c m t with sc:=sc,lab:=lab,rows:=rows,grps:=gs,parts:=ps } sg sp);rw [<-eC] at hdec hw;have eg:C.grps=gs:=by rw [eC]
 have ep:C.parts=ps:=by rw [eC]
 rw [<-eg] at hw gl;rw [<-ep] at hw pl;clear eC hC eg ep e1 e2 e3 e4 e5 e6 e7 e8 e9 e10 b0 b1 b2' b3 b4' b5 b6 b7 b8' b9 l0 l1 l2 l3 l4 l5 l6;have hw:Sat R (Zaz r rd10::brC b4 r::cmC b C sg sp::Own sp 35 (Zjn C.parts)::Own sg 3 (Ze C.grps)::ZaA b2::Hs) w:=hw.arr;refine ⟨some ⟨r,0,none⟩,oA hw,?_⟩;refine (ZiJ hw).use ?_;clear hw;rintro _ w ⟨rfl,hw⟩;refine ⟨_,rfl,?_⟩;have no:Zcl bs=(Zuc,6)->∀ {w},Sat R (ZaA b2::Hs) w->∃ sg sp:Sl,Value.tuple #[.agg (cmV Zuc ZE ZE).toArray,nI 6]=.tuple #[.agg (cmV (Zcl bs).1 sg sp).toArray,nI (Zcl bs).2]/\Sat R (Own sg 3 (Ze (Zcl bs).1.grps)::Own sp 35 (Zjn (Zcl bs).1.parts)::Hs) w:=λ e {w} hw=>by
  rw [e];exact ⟨ZE,ZE,rfl,Own.nil (Own.nil hw.drop)⟩
 refine Br.nb (λ h=>?_) (λ h=>?_)
 ·have hw:Sat R (ZaA b2::Hs) w:=hw.drop.drop.drop.drop.drop
  refine sRu hw λ w hw=>?_;have hw:=hw.re (ZaA b2);refine ⟨_,_,_,_,_,_,_,_,_,ZE,ZE,oA hw,no ?_ hw⟩;rw [hdec,if_neg (by rintro ⟨h1,_⟩;rw [h1] at h;cases h)]
 refine Zc.mk rfl ⟨C.kind,C.pnr,C.flt,C.cls,C.many,C.time,C.sc,C.lab,C.rows,sg,sp,oA hw,?_⟩;have hw:Sat R (Own sg 3 (Ze C.grps)::Zaz r rd10::brC b4 r::cmC b C sg sp::Own sp 35 (Zjn C.parts)::ZaA b2::Hs) w:=hw.arr;have sl:=Own.len (hw.arr (Hs':=Own sp 35 (Zjn C.parts)::Own sg 3 (Ze C.grps)::Zaz r rd10::brC b4 r::cmC b C sg sp::ZaA b2::Hs));obtain ⟨R',hr,_,hw,back⟩:=Own.lendI hw (by omega);refine (Zfx hr (by omega) (by simpa using sl) hw).use ?_;clear hw;rintro _ w ⟨rfl,hw⟩;have hw:=back hw;refine ⟨_,rfl,Br.nb (λ h2=>?_) (λ h2=>?_)⟩
 ·have hw:Sat R (ZaA b2::Hs) w:=hw.drop.drop.drop.drop.drop
  refine sRu hw λ w hw=>?_;have hw:=hw.re (ZaA b2);refine ⟨_,_,_,_,_,_,_,_,_,ZE,ZE,oA hw,no ?_ hw⟩;rw [hdec,if_neg (by rintro ⟨_,h1⟩;rw [decide_eq_true h1] at h2;cases h2)]
 refine Zc.mk rfl ⟨C.kind,C.pnr,C.flt,C.cls,C.many,C.time,C.sc,C.lab,C.rows,sg,sp,oA hw,?_⟩;have hw:Sat R (ZaA b2::Own sg 3 (Ze C.grps)::Zaz r rd10::brC b4 r::cmC b C sg sp::Own sp 35 (Zjn C.parts)::Hs) w:=hw.arr;refine sRu hw λ w hw=>?_;have hw:=hw.re (cmC b2 C sg sp);refine ⟨C.kind,C.pnr,C.flt,C.cls,C.many,C.time,C.sc,C.lab,C.rows,sg,sp,oA hw,?_⟩;rw [hdec,if_pos ⟨h,of_decide_eq_true h2⟩];exact ⟨sg,sp,rfl,hw.drop.cons λ _ h=>(h.arr (Hs':=Own sp 35 (Zjn C.parts)::Zaz r rd10::brC b4 r::cmC b C sg sp::Hs)).cons λ _ h=>h.drop.drop.drop⟩
end
section
open Go Go.VC Tryz
open Classical
variable {R:Cx} {Hs Rest:List HP} {w:World}
abbrev ZAm (k:Int) (p:ByteArray) (s f c m t:Int):Rp:=⟨k,p,s,f,c,m,t,[],[]⟩
abbrev Zp (b:Nat):HP:=rpC b (ZAm 0 (ByteArray.mk #[]) 0 0 0 0 0) ZE ZE
section
variable (S:World->Prop) (J:Option Addr->World->Prop) (b4 b:Nat) (r:Option Addr)
end
section
variable {J:Option Addr->World->Prop} {b4 b r:Nat} {rd:Rd} {k s f c m t:Int} {p:ByteArray}
end
end
end Go.Proofs.YtlplemdmegpoeaaGreatDoor

namespace Go.Proofs.YtlplemdmegpoeaaGreatDoor
section
open Go Go.VC Tryz
open Classical
variable {R:Cx} {Hs Rest:List HP} {w:World}
theorem ZBL {s t:Sl} {a b:List Int} {K:Sl->World->Prop} (hl:a.length + b.length<=1099511627776) (hw:Sat R (Own t 5 (b8 b)::Own s 5 (b8 a)::Hs) w)
  (k:∀ s2 w',Sat R (Own s2 5 (b8 (a++b))::Hs) w'->K s2 w'):
  ∃ w_1:World,∃ t2:Sl,((Builtin.append_ #[ 47,47 ] 47 #[.slice s.a s.len s.cap,.slice t.a t.len t.cap]).run prog w=.ok (.slice t2.a t2.len t2.cap) w_1)/\K t2 w_1:=
 Zde ZqG (s:=s) (n:=1099511627776) underlying47 hw.swap (by omega) (by omega) (by omega) λ s2 w hw=>k s2 w (hw.swap.drop)
end
end Go.Proofs.YtlplemdmegpoeaaGreatDoor

namespace Go.Proofs.YtlplemdmegpoeaaGreatDoor
section
open Go Go.VC Tryz
open Classical
variable {R:Cx} {Hs Rest:List HP} {w:World}
theorem Zuj {x:Int} (h:0<=x) (h2:x<9223372036854775808):wI x=x:=Zf (by omega) h2
end
end Go.Proofs.YtlplemdmegpoeaaGreatDoor

namespace Go.Proofs.YtlplemdmegpoeaaGreatDoor
section
open Go Go.VC Tryz
set_option maxRecDepth 10000
def sk3:Sk:=(.seq .leaf (.seq .leaf (.seq .leaf (.cut [] [] [2,15,16,17,18,19,20] .leaf (.seq .leaf (.seq .leaf (.seq (.seq .leaf (.block (.loop [7] [(.int .i64)] [2,7,8,9,10,23,24,25,26,27,28,29,30,31,32,33,34,35,36,37,38,39,40,41,42,43,44,45,46,47,48,49,50,51,52,53,54,55,56,57,58,59,60,61,62,63,64,65,66,67,68,69,70,71,72,73] (.cut [] [] [23,24,25,26,27,28,29,30] .leaf (.seq (.block (.seq .leaf (.seq (.block .leaf) (.cut [] [] [2,47,48,49,50,51,52,53,54,55,56,57] (.seq (.block .leaf) .leaf) (.seq .leaf (.seq (.block .leaf) .leaf)))))) .leaf))))) (.seq .leaf (.seq (.block .leaf) .leaf)))))))))
end
end Go.Proofs.YtlplemdmegpoeaaGreatDoor

namespace Go.Proofs.YtlplemdmegpoeaaGreatDoor
section
open Go Go.VC Tryz
open Classical
variable {R:Cx} {Hs Rest:List HP} {w:World}
def wtV (w:Wt):List Value:=[nI w.id,nI w.cls,nI w.many,nI w.time,.float .f64 w.sc]
abbrev Zay (s:Sl):Obj:=.cells [.slice s.a s.len s.cap].toArray 190 (0,0)
def ZR (q:Nat) (l:List Wt):HP:=exs λ s:Sl=>Zah [pts q (Zay s),Zs 5 s 192 (l.map wtV)]
theorem Sat.qu {q:Nat} {l:List Wt}:Sat R (ZR q l::Hs) w↔∃ s:Sl,Sat R (pts q (Zay s)::Zs 5 s 192 (l.map wtV)::Hs) w:=by
 unfold ZR;rw [Sat.exs];exact ⟨λ⟨s,h⟩=>⟨s,Sat.star.1 h⟩,λ⟨s,h⟩=>⟨s,Sat.star.2 h⟩⟩
abbrev FE:=Nat × Nat × Pl
abbrev BE:=Nat × Bk
def ZCZ (e:FE):HP:=Zah [Zg e.1 e.2.2.r,ZR e.2.1 e.2.2.q]
abbrev ZA (x:Bk):Obj:=.cells [nI x.id,nI x.flt,nI x.cls,nI x.many,nI x.state,nI x.till].toArray 121 (0,0)
def bkAt (e:BE):HP:=pts e.1 (ZA e.2)
def Zi (fs:List FE):HP:=Zah (fs.map ZCZ)
def Zj (xs:List BE):HP:=Zah (xs.map bkAt)
def flV (e:FE):Int × Value:=(e.2.2.n,.agg #[.pointer (some ⟨e.1,0,none⟩),.pointer (some ⟨e.2.1,0,none⟩)])
def bkV (e:BE):Int × Value:=(e.2.id,.pointer (some ⟨e.1,0,none⟩))
abbrev Zh (b:ZU) (m1 m2:Nat):Obj:=.cells [nI b.now,nI b.next,.map (some m1),.map (some m2)].toArray 80 (0,0)
structure ZaX (b:ZU) (fs:List FE) (xs:List BE):Prop where
 fl:(fs.map λ e=>e.2.2).Perm b.fl
 bk:xs.map (λ e=>e.2)=b.L
def Zk (p:Nat) (b:ZU):HP:=exs λ m1:Nat=>exs λ m2:Nat=>exs λ fs:List FE=>exs λ xs:List BE=>
 Zah [pur (ZaX b fs xs),pts p (Zh b m1 m2),MapAt m1 (fs.map flV),MapAt m2 (xs.map bkV),Zi fs,Zj xs]
theorem Sat.book {p:Nat} {b:ZU}:Sat R (Zk p b::Hs) w↔∃ m1 m2 fs xs,ZaX b fs xs/\Sat R (pts p (Zh b m1 m2)::MapAt m1 (fs.map flV)::MapAt m2 (xs.map bkV)::Zi fs::Zj xs::Hs) w:=by
 unfold Zk;simp only [Sat.exs];constructor
 ·rintro ⟨m1,m2,fs,xs,h⟩
  obtain ⟨h1,h2⟩:=Sat.pur.1 (Sat.star.1 h);exact ⟨m1,m2,fs,xs,h1,h2⟩
 ·rintro ⟨m1,m2,fs,xs,h1,h2⟩
  exact ⟨m1,m2,fs,xs,Sat.star.2 (Sat.pur.2 ⟨h1,h2⟩)⟩
abbrev Zv5:Zwz prog 77 Int 3 97 (.agg #[.pointer none,.pointer none]):=⟨underlying77,underlying3,zeroValue97⟩
abbrev Zwx:Zwz prog 78 Int 3 86 (.pointer none):=⟨underlying78,underlying3,zeroValue86⟩
theorem Zi.snoc {fs:List FE} {f q:Nat} {p:Pl} (hw:Sat R (Zg f p.r::ZR q p.q::Zi fs::Hs) w):Sat R (Zi (fs++[(f,q,p)])::Hs) w:=by
 unfold Zi at hw ⊢;rw [Sat.star,List.map_append,List.append_assoc];have hw:Sat R (Zah (fs.map ZCZ)::Zg f p.r::ZR q p.q::Hs) w:=hw.arr;rw [Sat.star] at hw;have key:∀ (L:List HP) {R:Cx},Sat R (L++Zg f p.r::ZR q p.q::Hs) w->Sat R (L++(List.map ZCZ [(f,q,p)]++Hs)) w:=λ L=>by
  induction L with
  |nil=>exact λ h=>Sat.star.2 h
  |cons A L ih=>exact λ h=>h.cons λ _ h=>ih h
 exact key _ hw
theorem Zfs {β:Type} {k:Int}:∀ {l:List (Int × β)},ZO k l=none↔∀ e∈l,e.1≠k
 |[]=>⟨λ _ _ h=>(by cases h),λ _=>rfl⟩
 |e::l=>by
  rw [ZO];by_cases h:k=e.1
  ·rw [if_pos (by simpa using h)]
   exact ⟨λ h2=>(by cases h2),λ h2=>absurd h.symm (h2 e (by simp))⟩
  ·rw [if_neg (by simpa using h),Zfs]
   exact ⟨λ h2 x hx=>by
    rcases List.mem_cons.1 hx with h1|h1
    ·rw [h1];exact λ e=>h e.symm
    ·exact h2 x h1,λ h2 x hx=>h2 x (by simp [hx])⟩
theorem Zh9 {b:ZU} {fs:List FE} {xs:List BE} (hl:ZaX b fs xs) {n:Int}:ZO n (fs.map flV)=none↔b.at n=none:=by
 unfold ZU.at;rw [Zfs,Zeg];constructor
 ·intro h p hp
  obtain ⟨e,he,rfl⟩:=List.mem_map.1 (hl.fl.mem_iff.2 hp);exact h (flV e) (List.mem_map.2 ⟨e,he,rfl⟩)
 ·rintro h _ he
  obtain ⟨e,h1,rfl⟩:=List.mem_map.1 he;exact h e.2.2 (hl.fl.mem_iff.1 (List.mem_map.2 ⟨e,h1,rfl⟩))
theorem ZsZ {b:ZU} {fs:List FE} {xs:List BE} (hl:ZaX b fs xs):fs.length=b.fl.length:=by
 have:=hl.fl.length_eq;rwa [List.length_map] at this
abbrev Zjr (e:Int):List PanicEntry:=[⟨.iface 29 (nI e),false,false⟩]
theorem Zce {b:Bool} {e:Int} {Q:Ending->World->Prop} (h1:b=true->Q (.returned (.tuple #[])) w) (h2:b=false->Q (.panicked (Zjr e)) w):nC 37 #[.bool b,nI e] w Q:=by
 have h:Zba prog 37 #[.bool b,nI e] w (λ ch w'=>b=false/\ch=Zjr e/\w'=w) (λ v w'=>b=true/\v=.tuple #[]/\w'=w):=by
  apply ZBu;exact Br.nb (λ h=>⟨h,rfl,rfl⟩) (λ h=>⟨h,rfl,rfl⟩)
 refine h.use ?_ ?_
 ·rintro v w' ⟨hb,rfl,e⟩;rw [e];exact h1 hb
 ·rintro v w' ⟨hb,rfl,e⟩;rw [e];exact h2 hb
theorem Zfn {e:Int} {Q:Ending->World->Prop} (h1:e=0->Q (.returned (.tuple #[])) w) (h2:¬ e=0->Q (.panicked (Zjr e)) w):nC 99 #[nI e] w Q:=by
 have h:Zba prog 99 #[nI e] w (λ ch w'=>¬ e=0/\ch=Zjr e/\w'=w) (λ v w'=>e=0/\v=.tuple #[]/\w'=w):=by
  apply ZAU;exact Br.ne (λ h=>⟨h,rfl,rfl⟩) (λ h=>⟨h,rfl,rfl⟩)
 refine h.use ?_ ?_
 ·rintro v w' ⟨hb,rfl,e⟩;rw [e];exact h1 hb
 ·rintro v w' ⟨hb,rfl,e⟩;rw [e];exact h2 hb
theorem Zx5 {r:Nat} {x:Rp} {sl sb:Sl} {e:Int} {Kr:World->Prop} (hw:Sat R (rpC r x sl sb::Hs) w) (k:∀ w,Sat R (rpC r (Zby e) ZE ZE::Hs) w->Kr w):
  Z1 prog 36 [nP r] (.panicking (Zjr e)) Kr w:=by
 unfold Z1;refine CallsD.mono (Zx7 (some ⟨r,0,none⟩) (.iface 29 (nI e)) Kr w ?_) ?_
 ·refine ⟨true,λ w' _=>by kernel_rfl,Br.t rfl ?_⟩
  refine ⟨e,λ w' _=>by kernel_rfl,Zc.mk rfl ?_⟩;refine sRu hw λ w hw=>?_;exact k w (hw.re (rpC r (Zby e) ZE ZE))
 ·rintro e v w' ⟨hy,rfl,hk⟩
  exact ⟨hy,rfl,hk⟩
theorem Ztt {r:Nat} {Kr:World->Prop} (k:Kr w):Z1 prog 36 [nP r] .returning Kr w:=by
 unfold Z1;refine CallsD.mono (Zx6 (some ⟨r,0,none⟩) Kr w ?_) ?_
 ·exact ⟨false,λ w' _=>by kernel_rfl,Br.f rfl k⟩
 ·rintro e v w' ⟨hy,rfl,hk⟩
  exact ⟨hy,rfl,hk⟩
theorem ZrN (hw:Sat R Hs w):Zm prog 100 #[] w λ v w'=>∃ q,v=nP q/\Sat R (ZR q []::Hs) w':=by
 apply ZzU;refine Za hw λ q w hw=>⟨q,rfl,Sat.qu.2 ⟨ZE,?_⟩⟩;exact (Zs.nil hw).swap
theorem ZtE (hw:Sat R Hs w):Zm prog 10 #[] w λ v w'=>∃ p,v=nP p/\Sat R (Zk p Zfm::Hs) w':=by
 apply ZBH;refine Za hw λ m1 w hw=>?_;have hw:=MapAt.new (α:=Int) rfl hw;refine Za hw λ m2 w hw=>?_;have hw:=MapAt.new (α:=Int) rfl hw;refine Za hw λ p w hw=>⟨p,rfl,Sat.book.2 ⟨m1,m2,[],[],⟨List.Perm.refl _,rfl⟩,?_⟩⟩;have hw:Sat R (pts p (Zh Zfm m1 m2)::MapAt (α:=Int) m2 []::MapAt (α:=Int) m1 []::Hs) w:=hw;have hw:Sat R (pts p (Zh Zfm m1 m2)::MapAt (α:=Int) m1 []::MapAt (α:=Int) m2 []::Hs) w:=hw.arr;exact hw.cons λ _ h=>h.cons λ _ h=>h.cons λ _ h=>Sat.star.2 (Sat.star.2 h)
abbrev Zj2 (c:Cm):Rp:=⟨0,emS,0,c.flt,0,0,0,Zq (ZmY c.flt c.rows c.grps (Zaf (Za5 c.rows c.grps) c.parts).1),[]⟩
theorem Zqo {p:Nat} {b:ZU} {c:Cm} {sg sp:Sl} (hfl:b.fl.length<=1000000) (hg:RoI R sg c.grps) (hp:SlR R.m sp (Zjn c.parts)) (hw:Sat R (Zk p b::Hs) w):
  Zba prog 39 #[nP p,.agg #[nI c.kind,.string c.pnr,nI c.flt,nI c.cls,nI c.many,nI c.time,.float .f64 c.sc,.string c.lab,nI c.rows,.slice sg.a sg.len sg.cap,.slice sp.a sp.len sp.cap]] w
   (λ ch w'=>∃ e,ch=Zjr e/\Zd0 b c=(b,Zby e)/\Sat R (Zk p b::Hs) w')
   (λ v w'=>(Zd0 b c).2=Zj2 c/\∃ sl:Sl,v=.agg (rpV (Zj2 c) sl ZE).toArray/\Sat R (Own sl 3 (Ze (Zj2 c).left)::Zk p (Zd0 b c).1::Hs) w'):=by
 apply ZBs
 suffices H:∀ (X:List PanicEntry->World->Prop) (K:nK),(∀ e w',Zd0 b c=(b,Zby e)->Sat R (Zk p b::Hs) w'->X (Zjr e) w')->
   (∀ sl w',(Zd0 b c).2=Zj2 c->Sat R (Own sl 3 (Ze (Zj2 c).left)::Zk p (Zd0 b c).1::Hs) w'->K (.agg (rpV (Zj2 c) sl ZE).toArray) w')->B39 (some ⟨p,0,none⟩) c.kind c.pnr c.flt c.cls c.many c.time c.sc c.lab c.rows sg sp X K w from
  H _ _ (λ e w' h1 h2=>⟨e,rfl,h1,h2⟩) (λ sl w' h1 h2=>⟨h1,sl,rfl,h2⟩)
 intro X K hX hK;obtain ⟨m1,m2,fs,xs,hl,hw⟩:=Sat.book.1 hw;have hlen:=ZsZ hl;refine Za hw λ b3 w hw=>Za hw λ b4 w hw=>?_;have hw:Sat R (MapAt m1 (fs.map flV)::pts p (Zh b m1 m2)::cmC b3 c sg sp::Zp b4::MapAt m2 (xs.map bkV)::Zi fs::Zj xs::Hs) w:=by
  have hw:Sat R (Zp b4::cmC b3 c sg sp::pts p (Zh b m1 m2)::MapAt m1 (fs.map flV)::MapAt m2 (xs.map bkV)::Zi fs::Zj xs::Hs) w:=hw;exact hw.arr
 have close:∀ {w},Sat R (MapAt m1 (fs.map flV)::pts p (Zh b m1 m2)::cmC b3 c sg sp::Zp b4::MapAt m2 (xs.map bkV)::Zi fs::Zj xs::Hs) w->Sat R (Zk p b::Hs) w:=λ {w} hw=>by
  have hw:Sat R (cmC b3 c sg sp::Zp b4::pts p (Zh b m1 m2)::MapAt m1 (fs.map flV)::MapAt m2 (xs.map bkV)::Zi fs::Zj xs::Hs) w:=hw.arr;exact Sat.book.2 ⟨m1,m2,fs,xs,hl,hw.drop.drop⟩
 refine ZaV hw λ w hw=>?_;refine Zc.mk rfl ⟨some m1,oS,c.flt,oS,?_⟩;have look:∀ w',Sat R (VC.tru::MapAt m1 (fs.map flV)::pts p (Zh b m1 m2)::cmC b3 c sg sp::Zp b4::MapAt m2 (xs.map bkV)::Zi fs::Zj xs::Hs) w'->
   (Instr.lookup 77 (.map (some m1)) (nI c.flt) true).run prog w'=.ok (.tuple #[(ZO c.flt (fs.map flV)).getD (.agg #[.pointer none,.pointer none]),.bool (ZO c.flt (fs.map flV)).isSome]) w':=λ w' h=>
  MapAt.look Zv5 h.swap c.flt true
 obtain ⟨v1,v2,hv⟩:∃ v1 v2:Option Addr,(ZO c.flt (fs.map flV)).getD (.agg #[.pointer none,.pointer none])=.agg #[.pointer v1,.pointer v2]:=by
  cases hgm:ZO c.flt (fs.map flV) with
  |none=>exact ⟨none,none,rfl⟩
  |some v=>
   obtain ⟨A,C,e,_⟩:=ZaG hgm;have:(c.flt,v)∈fs.map flV:=by rw [e];simp
   obtain ⟨x,_,hx⟩:=List.mem_map.1 this;have hx2:=congrArg Prod.snd hx;exact ⟨_,_,hx2.symm⟩
 rw [hv] at look;refine ⟨v1,v2,_,look,?_⟩;refine Za hw λ b5 w hw=>⟨hw.absorb,?_⟩;refine sRu hw λ w hw=>?_;have hw:=hw.drop.drop;have hat:=Zh9 hl (n:=c.flt);refine Zce (λ hn=>.inl ⟨rfl,?_⟩) (λ hn=>.inr ⟨_,rfl,hX 7 w ?_ (close hw)⟩)
 rotate_left
 ·unfold Zd0
  rw [if_pos];cases hba:b.at c.flt with
  |none=>rw [hat.2 hba] at hn;cases hn
  |some _=>rfl
 have hno:ZO c.flt (fs.map flV)=none:=by
  cases hgm:ZO c.flt (fs.map flV) with
  |none=>rfl
  |some v=>rw [hgm] at hn;cases hn
 have hba:=hat.1 hno;have o1:¬ (b.at c.flt).isSome=true:=by rw [hba];simp
 refine Zc.mk rfl ⟨some m1,oA hw,((fs.map flV).length:Int),λ w' e=>?_,?_⟩
 ·rw [show w'=w from e]
  exact MapAt.len (by kernel_rfl) hw
 rw [List.length_map,hlen];refine Zce (λ hn8=>.inl ⟨rfl,?_⟩) (λ hn8=>.inr ⟨_,rfl,hX 3 w ?_ (close hw)⟩)
 rotate_left
 ·have:=of_decide_eq_false hn8
  unfold Zd0;rw [if_neg o1,if_pos (by omega)]
 have h8:=of_decide_eq_true hn8;have o2:¬ 8<=b.fl.length:=by omega
 refine ⟨c.flt,oA hw,c.rows,sg,oA hw,sp,oA hw,?_⟩;refine (Zp7 hg hp hw).use ?_;clear hw;rintro _ w (⟨hn,rfl,hw⟩|⟨hn,f,rfl,hw⟩)
 ·refine .inl ⟨none,1,rfl,Zfn (λ h=>by cases h) (λ _=>.inr ⟨_,rfl,hX 1 w ?_ (close hw)⟩)⟩
  unfold Zd0;rw [if_neg o1,if_neg o2,if_pos hn]
 have hopen:Zd0 b c=({ b with fl:=ZqC Pl.n ⟨ZmY c.flt c.rows c.grps (Zaf (Za5 c.rows c.grps) c.parts).1,[]⟩ b.fl },Zj2 c):=by
  unfold Zd0;rw [if_neg o1,if_neg o2,if_neg (λ h=>h hn)]
 obtain ⟨r,hr⟩:∃ r,r=ZmY c.flt c.rows c.grps (Zaf (Za5 c.rows c.grps) c.parts).1:=⟨_,rfl⟩;have hw:Sat R (Zg f r::MapAt m1 (fs.map flV)::pts p (Zh b m1 m2)::cmC b3 c sg sp::Zp b4::MapAt m2 (xs.map bkV)::Zi fs::Zj xs::Hs) w:=by
  rw [hr];exact Sat.lone.2 ⟨_,⟨ZqU,Zks hn⟩,hw⟩
 rw [<-hr] at hopen;refine .inl ⟨some ⟨f,0,none⟩,0,rfl,Zfn (λ _=>.inl ⟨rfl,?_⟩) (λ h=>absurd rfl h)⟩;refine ZC (Sat R [cmC b3 c sg sp,pts p (Zh b m1 m2),VC.tru]) hw (λ w hw=>?_) λ w hw=>?_
 ·exact (hw.arr (Hs':=cmC b3 c sg sp::pts p (Zh b m1 m2)::Zg f r::MapAt m1 (fs.map flV)::Zp b4::MapAt m2 (xs.map bkV)::Zi fs::Zj xs::Hs)).cons λ _ h=>h.restTru2
 refine Zc.mk rfl ⟨some m1,oS,c.flt,oS,?_⟩;refine (ZrN hw).u1 λ q w hw=>?_;refine .inl ⟨_,rfl,?_,?_⟩
 ·exact (hw.arr (Hs':=cmC b3 c sg sp::pts p (Zh b m1 m2)::ZR q []::Zg f r::MapAt m1 (fs.map flV)::Zp b4::MapAt m2 (xs.map bkV)::Zi fs::Zj xs::Hs)).cons λ _ h=>h.restTru2
 have hw:Sat R (MapAt m1 (fs.map flV)::Zg f r::ZR q []::Zi fs::pts p (Zh b m1 m2)::cmC b3 c sg sp::Zp b4::MapAt m2 (xs.map bkV)::Zj xs::Hs) w:=hw.arr;refine MapAt.put Zv5 hw c.flt (.agg #[nP f,nP q]) λ w hw=>?_;have hput:Ze4 c.flt (.agg #[nP f,nP q]) (fs.map flV)=(fs++[((f,q,⟨r,[]⟩):FE)]).map flV:=by
  unfold Ze4;rw [hno];have:r.num=c.flt:=by rw [hr];rfl
  simp only [Option.isSome_none,Bool.false_eq_true,if_false,List.map_append,List.map_cons,List.map_nil,flV,Pl.n,this]
 rw [hput] at hw;refine ZC (Sat R [cmC b3 c sg sp,VC.tru]) hw (λ w hw=>?_) λ w hw=>?_
 ·exact (hw.arr (Hs':=cmC b3 c sg sp::MapAt m1 ((fs++[((f,q,⟨r,[]⟩):FE)]).map flV)::Zg f r::ZR q []::Zi fs::pts p (Zh b m1 m2)::Zp b4::MapAt m2 (xs.map bkV)::Zj xs::Hs)).restTru2
 refine ⟨c.flt,oS,?_⟩;have hw:Sat R (Zg f r::MapAt m1 ((fs++[((f,q,⟨r,[]⟩):FE)]).map flV)::ZR q []::Zi fs::pts p (Zh b m1 m2)::cmC b3 c sg sp::Zp b4::MapAt m2 (xs.map bkV)::Zj xs::Hs) w:=hw.swap;refine (ZcQ hw).u1 λ sl w hw=>?_;refine .inl ⟨sl,rfl,?_,?_⟩
 ·exact (hw.arr (Hs':=cmC b3 c sg sp::Own sl 3 (Ze (Zq r))::Zg f r::MapAt m1 ((fs++[((f,q,⟨r,[]⟩):FE)]).map flV)::ZR q []::Zi fs::pts p (Zh b m1 m2)::Zp b4::MapAt m2 (xs.map bkV)::Zj xs::Hs)).restTru2
 refine sRu hw λ w hw=>?_;have hw:=hw.re (rpC b4 (Zj2 c) sl ZE);refine ⟨0,emS,0,c.flt,0,0,0,sl,ZE,oA hw,?_⟩;have hw:Sat R (Own sl 3 (Ze (Zq r))::pts p (Zh b m1 m2)::MapAt m1 ((fs++[((f,q,⟨r,[]⟩):FE)]).map flV)::MapAt m2 (xs.map bkV)::Zg f r::ZR q []::Zi fs::Zj xs::rpC b4 (Zj2 c) sl ZE::cmC b3 c sg sp::Hs) w:=hw.arr;refine hK sl w (by rw [hopen]) ?_;rw [hopen];dsimp only;rw [<-hr];refine hw.cons λ _ hw=>Sat.book.2 ⟨m1,m2,fs++[((f,q,⟨r,[]⟩):FE)],xs,⟨?_,hl.bk⟩,?_⟩
 ·rw [List.map_append]
  refine (List.perm_append_singleton _ _).trans (List.Perm.trans (hl.fl.cons _) Zl5.symm)
 ·refine hw.cons λ _ h=>h.cons λ _ h=>h.cons λ _ h=>?_
  exact (Zi.snoc h).cons λ _ h=>h.cons λ _ h=>h.drop.drop
end
end Go.Proofs.YtlplemdmegpoeaaGreatDoor

namespace Go.Proofs.YtlplemdmegpoeaaGreatDoor
section
open Go Go.VC Tryz
open Classical
variable {R:Cx} {Hs Rest:List HP} {w:World}
theorem ZoW {bs:List Int} (hb:Zr bs):FltC (Zcl bs).1/\(Zcl bs).1.grps.length<=16/\(Zcl bs).1.parts.length<=16:=by
 unfold Zcl;split
 ·rename_i h
  refine ⟨?_,h.2.gl,h.2.pl⟩;have b1:=Zd (most:=9) (rd:=⟨bs,false⟩) hb;have b2:=Zew (most:=16) b1;have b3:=Zwc b2;have b4:=Zf5 b3;have b5:=Zew (most:=16) b4;have b6:=Zd (most:=9999) b5;have b7:=Zd (most:=16) b6;have b8:=(Zcx (one:=Zb 9999) (P:=λ r=>Zr r.bs) (Q:=λ _=>True) (λ r hr=>⟨trivial,Zd hr⟩) (Zb 16 (Zb 9999 (ZbA 16 (ZcU (hd2 (ZbA 16 (Zb 9 ⟨bs,false⟩).2).2).2).2).2).2).1.toNat b7).2;have b9:=Zd (most:=16) b8;rw [Zto];exact ⟨Zkx b3,(Zcx (one:=ZcU) (P:=λ r=>Zr r.bs) (Q:=λ x=>x<18446744073709551616) (λ r hr=>⟨Zkx hr,Zf5 hr⟩) _ b9).1⟩
 ·exact ⟨⟨by show 0<18446744073709551616;omega,λ x hx=>by cases hx⟩,by show 0<=16;omega,by show 0<=16;omega⟩
end
end Go.Proofs.YtlplemdmegpoeaaGreatDoor

namespace Go.VC
section
open Go.ChangeShapes Go.WideShapes Go.ChangeAt Go.RowKit
theorem ZvL {W W':World} {Hs:List HP} (h:Sat (Cx.of W) Hs W'):Below W.heap.size W W':=by
 obtain ⟨h1,h2,h3⟩:=h.streams;have hb:∀ k,k<W.heap.size->W'.heap[k]? =W.heap[k]?:=λ k hk=>by
  have:(Cx.of W).m k=some W.heap[k]:=by simp [Cx.of,hk]
  rw [h.of_ro this];simp [hk]
 refine ⟨h1,h2,h3,?_,hb⟩;rcases Nat.lt_or_ge W'.heap.size W.heap.size with hl|hl
 ·have:=hb W'.heap.size hl
  rw [Array.getElem?_eq_none (Nat.le_refl _)] at this;simp [hl] at this
 ·exact hl
theorem ZkN {w:World} {a:Addr} {v:Value} (h:w.cell? a=some v):a.spot=none/\∃ l T fr,w.heap[a.block]? =some (.cells l T fr)/\l[a.off]? =some v:=by
 unfold World.cell? at h;split at h
 ·rename_i c T fr hb
  split at h
  ·cases h
  ·rename_i hs
   exact ⟨by simpa using hs,c,T,fr,hb,h⟩
 ·cases h
section
variable {H:Type} {enc:TypeId × Value->H} {P:Program} {W:World} {base:Nat} {spare:Nat->Bool} {held:Bool}
end
end
end Go.VC

namespace Go.VC
section
open Go.ChangeShapes Go.WideShapes Go.ChangeAt Go.RowKit
inductive Tr where
 |int (k:IntKind) (n:Int)|bool (b:Bool)|flt (n:Nat)|str (s:ByteArray)|sl (s:Sl) (xs:List Tr)|st (xs:List Tr)
mutual
def Tr.cells:Tr->List Value
 | .int k n=>[.int k n]
 | .bool b=>[.bool b]
 | .flt n=>[.float .f64 n]
 | .str s=>[.string s]
 | .sl s _=>[.slice s.a s.len s.cap]
 | .st xs=>Tr.cellsL xs
def Tr.cellsL:List Tr->List Value
 |[]=>[]
 |x::xs=>x.cells++Tr.cellsL xs
end
inductive U where
 |int (k:IntKind)|bool|flt|str|sl (u:U)|st (us:List U)
mutual
def U.size:U->Nat
 | .st us=>U.sizeL us
 |_=>1
def U.sizeL:List U->Nat
 |[]=>0
 |u::us=>u.size + U.sizeL us
end
mutual
def Tr.Ok (R:Cx):U->Tr->Prop
 | .int k,.int k' n=>k'=k/\(Lit.int k n).wf=true
 | .bool,.bool _=>True
 | .flt,.flt n=>(Lit.float .f64 n).wf=true
 | .str,.str s=>s.size<=maxLen
 | .sl u,.sl s xs=>(RoN u.size R s (xs.map Tr.cells)/\s.len<=s.cap)/\xs.length<=maxLen/\Tr.OkA R u xs
 | .st us,.st xs=>Tr.OkL R us xs
 |_,_=>False
def Tr.OkA (R:Cx) (u:U):List Tr->Prop
 |[]=>True
 |x::xs=>Tr.Ok R u x/\Tr.OkA R u xs
def Tr.OkL (R:Cx):List U->List Tr->Prop
 |[],[]=>True
 |u::us,x::xs=>Tr.Ok R u x/\Tr.OkL R us xs
 |_,_=>False
end
theorem Tr.okA {R:Cx} {u:U}:∀ {xs:List Tr},Tr.OkA R u xs->∀ x∈xs,Tr.Ok R u x
 |[],_,x,hx=>by cases hx
 |y::ys,h,x,hx=>by
  unfold Tr.OkA at h;rcases List.mem_cons.1 hx with rfl|hx
  ·exact h.1
  ·exact Tr.okA h.2 x hx
theorem Tr.okA_mk {R:Cx} {u:U}:∀ {xs:List Tr},(∀ x∈xs,Tr.Ok R u x)->Tr.OkA R u xs
 |[],_=>by unfold Tr.OkA;trivial
 |y::ys,h=>by
  unfold Tr.OkA;exact ⟨h y List.mem_cons_self,Tr.okA_mk λ x hx=>h x (List.mem_cons_of_mem _ hx)⟩
def Zib (P:Program) (f:TypeId->Option U):Nat->List Field->Option (List U)
 |_,[]=>some []
 |off,x::xs=>match Nat.beq x.offset off with
  |false=>none
  |true=>match f x.type with
   |none=>none
   |some u=>match Nat.beq (P.cellsOf x.type) u.size with
    |false=>none
    |true=>match Zib P f (off + u.size) xs with
     |none=>none
     |some us=>some (u::us)
def uOf (P:Program):Nat->TypeId->Option U
 |0,_=>none
 |d + 1,t=>match P.underlying t with
  |some (.int k)=>some (.int k)
  |some .bool=>some .bool
  |some (.float .f64)=>some .flt
  |some .string=>some .str
  |some (.slice e)=>match uOf P d e with
   |some u=>(match Nat.beq (P.cellsOf e) u.size && Nat.blt 0 u.size with|true=>some (.sl u)|false=>none)
   |none=>none
  |some (.struct fs)=>match Zib P (uOf P d) 0 fs.toList with
   |some us=>(match Nat.beq (P.cellsOf t) (U.sizeL us) with|true=>some (.st us)|false=>none)
   |none=>none
  |some (.array n e)=>match uOf P d e with
   |some u=>(match Nat.beq (P.cellsOf e) u.size && Nat.beq (P.cellsOf t) (n * u.size) with|true=>some (.st (List.replicate n u))|false=>none)
   |none=>none
  |_=>none
section
variable {H:Type} {enc:TypeId × Value->H} {P:Program} {W:World} {base:Nat} {spare:Nat->Bool} {held:Bool}
def ZB2 (R:Cx) (u:U) (cs:List Value):Prop:=∃ x:Tr,x.cells=cs/\x.Ok R u
theorem Zfw {w:World} {base:Nat} {a:Addr} {n:Nat} {cs:List Value} (h:w.cells? base a n=some cs):cs.length=n/\∀ i,i<n->w.cell? (a.add i)=cs[i]?:=by
 unfold World.cells? at h;split at h
 ·refine ⟨by have:=mapM_some_length h;simpa using this,λ i hi=>mapM_some_get h i i (by simp [hi])⟩
 ·cases h
theorem Zz1 (a:Addr) (i j:Nat) (hs:a.spot=none):(a.add i).add j=⟨a.block,a.off + (i + j),none⟩:=by
 obtain ⟨b,o,s⟩:=a;simp only at hs;subst hs;rw [Zy,Zy,Nat.add_assoc]
theorem Zia {d:Nat} (ih:∀ {fuel:Nat} {t:TypeId} {cs:List Value} {y:DataW H × List MemPlace} {u:U},uOf P d t=some u->DataW.trod enc P W base spare held fuel t cs=some y->ZB2 (Cx.of W) u cs) {n:Nat} {cs:List Value} {xs:List (DataW H × List MemPlace)}:
  ∀ (fs:List Field) (off:Nat) (us:List U),Zib P (uOf P d) off fs=some us->(∀ (i:Nat) (f:Field),fs[i]? =some f->∃ y,DataW.trod enc P W base spare held n f.type ((cs.drop f.offset).take (P.cellsOf f.type))=some y)->
   off + U.sizeL us<=cs.length->∃ ts:List Tr,Tr.cellsL ts=(cs.drop off).take (U.sizeL us)/\Tr.OkL (Cx.of W) us ts
 |[],off,us,h,_,_=>by
  simp only [Zib,Option.some.injEq] at h;subst h;exact ⟨[],by simp [Tr.cellsL,U.sizeL],by unfold Tr.OkL;trivial⟩
 |f::fs,off,us,h,hf,hl=>by
  unfold Zib at h;split at h
  ·cases h
  rename_i hoff;have hoff:=Nat.eq_of_beq_eq_true hoff;split at h
  ·cases h
  rename_i u hu;split at h
  ·cases h
  rename_i hc;have hc:=Nat.eq_of_beq_eq_true hc;split at h
  ·cases h
  rename_i us' hus;cases h;simp only [U.sizeL] at hl ⊢;obtain ⟨y,hy⟩:=hf 0 f rfl;obtain ⟨x,hx,hxo⟩:=ih hu hy;obtain ⟨ts,hts,htso⟩:=Zia ih (n:=n) (xs:=xs) fs (off + u.size) us' hus (λ i g hg=>hf (i + 1) g (by simpa using hg)) (by omega);refine ⟨x::ts,?_,by unfold Tr.OkL;exact ⟨hxo,htso⟩⟩;simp only [Tr.cellsL];rw [hx,hts,hoff,hc,List.take_add,List.drop_drop]
theorem Zlx {u:U} {n s:Nat}:∀ {m:Nat} {cs:List Value},cs.length=m * s->u.size=s->(∀ i,i<m->ZB2 (Cx.of W) u ((cs.drop (i * s)).take s))->∃ ts:List Tr,Tr.cellsL ts=cs/\Tr.OkL (Cx.of W) (List.replicate m u) ts
 |0,cs,hl,_,_=>by
  have:cs=[]:=List.length_eq_zero_iff.1 (by simpa using hl);subst this;exact ⟨[],rfl,by unfold Tr.OkL;trivial⟩
 |m + 1,cs,hl,hs,h=>by
  obtain ⟨x,hx,hxo⟩:=h 0 (by omega);obtain ⟨ts,hts,htso⟩:=Zlx (n:=n) (m:=m) (cs:=cs.drop s) (by rw [List.length_drop,hl,Nat.add_mul];omega) hs (λ i hi=>by
   have:=h (i + 1) (by omega);rw [Nat.add_mul,Nat.one_mul,Nat.add_comm,<-List.drop_drop] at this;exact this)
  refine ⟨x::ts,?_,by rw [List.replicate_succ];unfold Tr.OkL;exact ⟨hxo,htso⟩⟩;simp only [Tr.cellsL];rw [hx,hts];simp
theorem Zin {α β:Type} {p:Nat->α->Prop}:∀ {n:Nat},(∀ i,i<n->∃ x:α,p i x)->∃ xs:List α,xs.length=n/\∀ i (hi:i<xs.length),p i xs[i]
 |0,_=>⟨[],rfl,λ i hi=>by simp at hi⟩
 |n + 1,h=>by
  obtain ⟨xs,hl,hp⟩:=Zin (β:=β) (n:=n) λ i hi=>h i (by omega);obtain ⟨x,hx⟩:=h n (by omega);refine ⟨xs++[x],by simp [hl],λ i hi=>?_⟩;by_cases h2:i<xs.length
  ·rw [List.getElem_append_left h2];exact hp i h2
  ·have:i=n:=by simp at hi;omega
   subst this;rw [List.getElem_append_right (by omega)];simpa using hx
theorem Zuo {fuel:Nat} {t:TypeId} {cs:List Value} {x:DataW H × List MemPlace} (ht:P.underlying t=some (.float .f64)) (h:DataW.trod enc P W base spare held fuel t cs=some x):∃ n,cs=[.float .f64 n]/\(Lit.float .f64 n).wf=true:=by
 cases fuel with
 |zero=>simp [DataW.trod] at h
 |succ n=>
  unfold DataW.trod at h;rw [ht] at h;split at h<;>simp_all
theorem ZjF:∀ {d fuel:Nat} {t:TypeId} {cs:List Value} {y:DataW H × List MemPlace} {u:U},uOf P d t=some u->DataW.trod enc P W base spare held fuel t cs=some y->ZB2 (Cx.of W) u cs
 |0,_,_,_,_,_,h,_=>by cases h
 |d + 1,fuel,t,cs,y,u,h,hy=>by
  unfold uOf at h;split at h
  ·rename_i k ht
   cases h;obtain ⟨n,rfl,_,hw⟩:=DataW.trod_int ht hy;exact ⟨.int k n,rfl,rfl,hw⟩
  ·rename_i ht
   cases h;obtain ⟨b,rfl,_⟩:=DataW.trod_bool ht hy;exact ⟨.bool b,rfl,by unfold Tr.Ok;trivial⟩
  ·rename_i ht
   cases h;obtain ⟨n,rfl,hn⟩:=Zuo ht hy;exact ⟨.flt n,rfl,by unfold Tr.Ok;exact hn⟩
  ·rename_i ht
   cases h;obtain ⟨s,rfl,_,hs⟩:=DataW.trod_string ht hy;exact ⟨.str s,rfl,hs⟩
  ·rename_i e ht
   split at h
   case h_2=>cases h
   rename_i ue hue;split at h
   case h_2=>cases h
   rename_i hc;simp only [Bool.and_eq_true] at hc;have hpos:0<ue.size:=Nat.blt_eq.mp hc.2;have hc:=Nat.eq_of_beq_eq_true hc.1;cases h;rcases DataW.trod_slice ht hy with ⟨rfl,_⟩|⟨a,len,cap,elems,rest,n,_,rfl,_,_,hlc,hcm,hel,helem,_,_⟩
   ·refine ⟨.sl ⟨none,0,0⟩ [],rfl,?_⟩
    unfold Tr.Ok;exact ⟨⟨⟨Wid.nil,rfl,λ h=>absurd rfl h⟩,Nat.le_refl _⟩,Nat.zero_le _,by unfold Tr.OkA;trivial⟩
   ·obtain ⟨xs,hxl,hxs⟩:=Zin (β:=Unit) (p:=λ i (x:Tr)=>W.cells? base (a.add (i * P.cellsOf e)) (P.cellsOf e)=some x.cells/\x.Ok (Cx.of W) ue) (n:=len) λ i hi=>by
     have h1:=helem i hi;rw [List.getElem?_eq_getElem (by omega)] at h1;obtain ⟨ce,hce,hte⟩:=Option.bind_eq_some_iff.1 h1;obtain ⟨x,rfl,hx⟩:=ZjF hue hte;exact ⟨x,hce,hx⟩
    refine ⟨.sl ⟨some a,len,cap⟩ xs,rfl,?_⟩;unfold Tr.Ok;have hwid:Wid ue.size (xs.map Tr.cells):=λ r hr=>by
     obtain ⟨x,hx,rfl⟩:=List.mem_map.1 hr;obtain ⟨i,hi,rfl⟩:=List.getElem_of_mem hx;have:=(Zfw (hxs i hi).1).1;rw [this,hc]
    refine ⟨⟨⟨hwid,by simp [hxl],λ hne=>?_⟩,hlc⟩,by omega,Tr.okA_mk λ x hx=>by obtain ⟨i,hi,rfl⟩:=List.getElem_of_mem hx;exact (hxs i hi).2⟩
    -- the block
    have h0:0<xs.length:=by
     have:0<(xs.map Tr.cells).length:=List.length_pos_iff.2 hne;simpa using this
    have hcell:∀ i (hi:i<xs.length) j,j<ue.size->W.cell? ((a.add (i * ue.size)).add j)=(xs[i].cells)[j]?:=λ i hi j hj=>by
     have:=(Zfw (hxs i hi).1).2 j (by rw [hc];exact hj);rw [hc] at this;exact this
    have hxl0:∀ i (hi:i<xs.length),(xs[i].cells).length=ue.size:=λ i hi=>by rw [(Zfw (hxs i hi).1).1,hc]
    have hc0:=hcell 0 h0 0 (by omega);rw [List.getElem?_eq_getElem (by rw [hxl0 0 h0];omega)] at hc0;have hz0:(a.add (0 * ue.size)).add 0=a:=by rw [Nat.zero_mul];simp [Addr.add]
    rw [hz0] at hc0;obtain ⟨hs,l,T,fr,hl,_⟩:=ZkN hc0;refine ⟨a.block,a.off,l,T,fr,by cases a;simp_all,hl,λ i v hv=>?_⟩
    -- which row, which place
    have hlen:=hwid.len;rw [List.length_map] at hlen;have hi:i<(xs.map Tr.cells).flatten.length:=(List.getElem?_eq_some_iff.1 hv).1;have hq:i / ue.size<xs.length:=by
     rw [hlen] at hi;exact Nat.div_lt_of_lt_mul (by rwa [Nat.mul_comm])
    have hm:i % ue.size<ue.size:=Nat.mod_lt _ (by omega);have hcc:=hcell (i / ue.size) hq (i % ue.size) hm;rw [Zz1 a _ _ hs,show i / ue.size * ue.size + i % ue.size=i by rw [Nat.mul_comm];exact Nat.div_add_mod _ _] at hcc;have e1:(xs.map Tr.cells).flatten[i]? =(xs[i / ue.size].cells)[i % ue.size]?:=by
     have h1:i=i / ue.size * ue.size + i % ue.size:=by rw [Nat.mul_comm];exact (Nat.div_add_mod _ _).symm
     conv=>lhs;rw [h1]
     rw [<-List.getElem?_drop,hwid.drop_flat,List.drop_eq_getElem_cons (by simpa using hq),List.flatten_cons,List.getElem?_append_left (by rw [List.getElem_map,hxl0 _ hq];exact hm),List.getElem_map]
    rw [<-e1,hv] at hcc;simp only [World.cell?,hl,Option.isSome_none,Bool.false_eq_true,if_false] at hcc;exact hcc
  ·rename_i fs ht
   split at h
   case h_2=>cases h
   rename_i us hus;split at h
   case h_2=>cases h
   rename_i hc;have hc:=Nat.eq_of_beq_eq_true hc;cases h;obtain ⟨xs,n,_,_,hl,hxl,hf⟩:=DataW.trod_struct ht hy;obtain ⟨ts,hts,hto⟩:=Zia (d:=d) (λ h h2=>ZjF h h2) (n:=n) (cs:=cs) (xs:=xs) fs.toList 0 us hus (λ i f hfi=>by
    have hfi2:fs[i]? =some f:=by simpa using hfi
    have hlt:i<xs.length:=by rw [hxl];exact (Array.getElem?_eq_some_iff.1 hfi2).1
    exact ⟨xs[i],by rw [hf i f hfi2];exact List.getElem?_eq_getElem hlt⟩) (by omega)
   refine ⟨.st ts,?_,by unfold Tr.Ok;exact hto⟩;unfold Tr.cells;rw [hts,List.drop_zero,List.take_of_length_le (by omega)]
  ·rename_i m e ht
   split at h
   case h_2=>cases h
   rename_i ue hue;split at h
   case h_2=>cases h
   rename_i hc;simp only [Bool.and_eq_true] at hc;have hc1:=Nat.eq_of_beq_eq_true hc.1;have hc2:=Nat.eq_of_beq_eq_true hc.2;cases h;obtain ⟨xs,n,_,_,hl,hxl,hf⟩:=DataW.trod_array ht hy;obtain ⟨ts,hts,hto⟩:=Zlx (n:=n) (u:=ue) (s:=ue.size) (m:=m) (cs:=cs) (by rw [hl,hc2]) rfl (λ i hi=>by
    have:=hf i hi;rw [hc1,List.getElem?_eq_getElem (by omega)] at this;exact ZjF hue this)
   exact ⟨.st ts,by unfold Tr.cells;exact hts,by unfold Tr.Ok;exact hto⟩
  ·cases h
theorem ZvQ {d:Nat} {t:TypeId} {v:Value} {dt:DataW H} {p:List MemPlace} {u:U} (hu:uOf P d t=some u) (h:DataW.Trod enc P W base spare held t v dt p):ZB2 (Cx.of W) u v.cells.toList:=by
 obtain ⟨fuel,hf⟩:=h;exact ZjF hu hf
theorem Zrf {α:Type} {R:Cx} {u:U} {s:Sl} {xs:List Tr} (g:α->List Value) (Q:α->Prop) (ho:Tr.Ok R (.sl u) (.sl s xs)) (h:∀ x:Tr,x.Ok R u->∃ e:α,x.cells=g e/\Q e):
  ∃ es:List α,RoN u.size R s (es.map g)/\es.length<=maxLen/\∀ e∈es,Q e:=by
 unfold Tr.Ok at ho;obtain ⟨⟨h1,_⟩,h2,h3⟩:=ho;have key:∀ l:List Tr,(∀ x∈l,x.Ok R u)->∃ es:List α,l.map Tr.cells=es.map g/\es.length=l.length/\∀ e∈es,Q e:=λ l=>by
  induction l with
  |nil=>exact λ _=>⟨[],rfl,rfl,λ _ h=>by cases h⟩
  |cons x l ih=>
   intro hl;obtain ⟨es,h1,h2,h3⟩:=ih λ y hy=>hl y (List.mem_cons_of_mem _ hy);obtain ⟨e,he,hq⟩:=h x (hl x List.mem_cons_self);exact ⟨e::es,by rw [List.map_cons,List.map_cons,he,h1],by simp [h2],λ y hy=>by
    rcases List.mem_cons.1 hy with rfl|hy
    ·exact hq
    ·exact h3 y hy⟩
 obtain ⟨es,e1,e2,e3⟩:=key xs (Tr.okA h3);rw [e1] at h1;exact ⟨es,h1,by omega,e3⟩
theorem ZvT {R:Cx} {u:U} {s:Sl} {xs:List Tr} (ho:Tr.Ok R (.sl u) (.sl s xs)):s.len<=s.cap:=by
 unfold Tr.Ok at ho;exact ho.1.2
theorem RoN.one {R:Cx} {s:Sl} {vs:List Value} (h:RoN 1 R s (vs.map λ v=>[v])) (hb:vs.length<=maxLen):Ro R s vs:=by
 refine ⟨by have:=h.len;simpa using this,by unfold maxLen at hb;omega,λ hne=>?_⟩;obtain ⟨b,off,l,T,fr,h1,h2,h3⟩:=h.mem (by simpa using hne);refine ⟨b,off,l,T,fr,h1,h2,λ i v hv=>h3 i v ?_⟩;have:(vs.map λ v=>[v]).flatten=vs:=by
  clear h3 h hb hne hv
  induction vs with
  |nil=>rfl
  |cons v vs ih=>simp [ih]
 rw [this];exact hv
theorem Zl8 {R:Cx} {k:IntKind} {s:Sl} {xs:List Tr} (ho:Tr.Ok R (.sl (.int k)) (.sl s xs)):∃ zs:List Int,Ro R s (zs.map (Value.int k))/\zs.length<=maxLen/\∀ z∈zs,(Lit.int k z).wf=true:=by
 obtain ⟨zs,h1,h2,h3⟩:=Zrf (λ z:Int=>[Value.int k z]) (λ z=>(Lit.int k z).wf=true) ho λ x hx=>by
  cases x<;>simp only [Tr.Ok] at hx;rename_i k' z;obtain ⟨rfl,hw⟩:=hx;exact ⟨z,rfl,hw⟩
 refine ⟨zs,RoN.one ?_ (by simpa using h2),h2,h3⟩;rw [List.map_map];exact h1
end
end
end Go.VC
namespace Go.Proofs.YtlplemdmegpoeaaGreatDoor
section
open Go Go.VC Go.ChangeShapes Go.WideShapes Go.ChangeAt Go.RowKit
variable {H:Type} {enc:TypeId × Value->H} {W:World} {r:Reach} {b0:Nat} {v:Value} {d:DataW H} {p:List MemPlace}
set_option maxRecDepth 100000 in
theorem Zqm (hv:Value.okWide Tryz.prog W r b0 47 v) (h:DataW.Trod enc Tryz.prog W 0 (λ _=>true) true 47 v d p):
  ∃ (s:Sl) (bs:List Int),v=.slice s.a s.len s.cap/\SlR (Cx.of W).m s (b8 bs)/\Zr bs:=by
 obtain ⟨a,n,c,rfl⟩:=okWide_slice Tryz.underlying47 hv;obtain ⟨x,hx,ho⟩:=ZvQ (d:=6) (u:=.sl (.int .u8)) (by kernel_rfl) h;cases x<;>simp only [Tr.Ok] at ho;rename_i s xs;have ho:Tr.Ok (Cx.of W) (.sl (.int .u8)) (.sl s xs):=by unfold Tr.Ok;exact ho
 obtain ⟨bs,h1,h2,h3⟩:=Zl8 ho;have e:[Value.slice s.a s.len s.cap]=[Value.slice a n c]:=by simpa [Tr.cells,Value.cells] using hx
 have e:=(List.cons.inj e).1;simp only [Value.slice.injEq] at e;obtain ⟨rfl,rfl,rfl⟩:=e;refine ⟨s,bs,rfl,⟨h1.len,ZvT ho,h1.mem⟩,λ z hz=>?_⟩;have:=h3 z hz;simp [Lit.wf,IntKind.min,IntKind.max,IntKind.bits,IntKind.signed] at this;omega
end
end Go.Proofs.YtlplemdmegpoeaaGreatDoor
namespace Go.VC
section
theorem ZnA {α:Type} {l:List (En α)} {seen:Array Nat} {a b:List (En α)} {x:En α} (hn:(l.map (·.2.2)).Nodup) (h:l.filter (λ e=>!seen.contains e.2.2)=a++x::b):l.filter (λ e=>!(seen.push x.2.2).contains e.2.2)=a++b:=by
 have e1:l.filter (λ e=>!(seen.push x.2.2).contains e.2.2)=(l.filter λ e=>!seen.contains e.2.2).filter λ e=>!decide (e.2.2=x.2.2):=by
  rw [List.filter_filter];refine List.filter_congr λ y _=>?_;rw [Array.contains_push,Bool.not_or,Bool.and_comm]
  congr 1
 rw [e1,h,List.filter_append,List.filter_cons];have hnd:((a++x::b).map (·.2.2)).Nodup:=by
  rw [<-h];exact ((List.filter_sublist.map _).nodup hn)
 rw [List.map_append,List.map_cons,List.nodup_append,List.nodup_cons] at hnd;rw [if_neg (by simp)];rw [List.filter_eq_self.2,List.filter_eq_self.2]
 ·intro y hy
  have:¬ y.2.2=x.2.2:=λ e=>hnd.2.1.1 (by rw [<-e];exact List.mem_map.2 ⟨y,hy,rfl⟩);simpa using this
 ·intro y hy
  have:¬ y.2.2=x.2.2:=λ e=>hnd.2.2 _ (List.mem_map.2 ⟨y,hy,rfl⟩) x.2.2 (by simp) e;simpa using this
def ZsK (r m:Nat) (w:World):Nat:=match w.heap[r]? with
 |some (.mapIter _ _ seen _)=>(match w.heap[m]? with
  |some (.map es _)=>(leftOf es seen).size
  |_=>0)
 |_=>0
section
variable {α:Type} [BEq α] [Zbt α] {P:Program} {R:Cx} {Hs:List HP} {w:World}
def ZjB (r m:Nat) (es left:List (α × Value)):HP:=exs λ l:List (En α)=>exs λ c:Nat=>exs λ seen:Array Nat=>
 Zah [pur (ZbT l=es/\Zb8 l c/\ZbT (l.filter λ e=>!seen.contains e.2.2)=left),pts r (.mapIter (some m) c seen c),pts m (.map (l.map mkE).toArray c)]
theorem ZjB.iff {r m:Nat} {es left:List (α × Value)}:Sat R (ZjB r m es left::Hs) w↔∃ (l:List (En α)) (c:Nat) (seen:Array Nat),(ZbT l=es/\Zb8 l c/\ZbT (l.filter λ e=>!seen.contains e.2.2)=left)/\
  Sat R (pts r (.mapIter (some m) c seen c)::pts m (.map (l.map (mkE (α:=α))).toArray c)::Hs) w:=by
 unfold ZjB;simp only [Sat.exs];constructor
 ·rintro ⟨l,c,seen,h⟩
  obtain ⟨h1,h2⟩:=Sat.pur.1 (Sat.star.1 h);exact ⟨l,c,seen,h1,h2⟩
 ·rintro ⟨l,c,seen,h1,h2⟩
  exact ⟨l,c,seen,Sat.star.2 (Sat.pur.2 ⟨h1,h2⟩)⟩
theorem ZjB.map {r m:Nat} {es left:List (α × Value)} (hw:Sat R (ZjB r m es left::Hs) w):Sat R (MapAt m es::Hs) w:=by
 obtain ⟨l,c,seen,⟨h1,h2,_⟩,hw⟩:=ZjB.iff.1 hw;exact MapAt.iff.2 ⟨l,c,h1,h2,hw.drop⟩
theorem ZpA {T K E:TypeId} {m:Nat} {es:List (α × Value)} {Q:Option Addr->World->Prop} (hT:P.underlying T=some (.map K E)) (hw:Sat R (MapAt m es::Hs) w) (k:∀ r w',Sat R (ZjB r m es es::Hs) w'->Q (some ⟨r,0,none⟩) w'):
  ∃ w':World,∃ t:Option Addr,((Instr.range T (.map (some m))).run P w=.ok (.pointer t) w')/\Q t w':=by
 obtain ⟨l,c,h1,h2,hw⟩:=MapAt.iff.1 hw;have hat:=hw.at;refine ⟨w.alloc (.mapIter (some m) c #[] c),some ⟨w.heap.size,0,none⟩,?_,k _ _ (ZjB.iff.2 ⟨l,c,#[],⟨h1,h2,?_⟩,Sat.alloc _ hw⟩)⟩
 ·simp [Instr.range,run_underlying hT,getObj,Sem.run_bind,Sem.run,hat,Result.andThen]
 ·rw [show (l.filter λ e=>!(#[]:Array Nat).contains e.2.2)=l from List.filter_eq_self.2 (λ x _=>by simp)]
  exact h1
theorem Zl7 {r m:Nat} {es left:List (α × Value)} (hw:Sat R (ZjB r m es left::Hs) w):ZsK r m w=left.length:=by
 obtain ⟨l,c,seen,⟨h1,h2,h3⟩,hw⟩:=ZjB.iff.1 hw;have hr:=hw.at;have hm:=hw.swap.at;unfold ZsK;rw [hr];dsimp only;rw [hm];dsimp only;rw [<-h3,<-Array.length_toList];unfold leftOf ZbT;rw [Array.toList_filter,List.length_map];have:∀ l:List (En α),((l.map mkE).filter λ e=>!seen.contains e.born).length=(l.filter λ e=>!seen.contains e.2.2).length:=λ l=>by
  rw [List.filter_map,List.length_map];rfl
 exact this l
theorem ZpP {r m:Nat} {T:TypeId} {es left:List (α × Value)} (hw:Sat R (ZjB r m es left::Hs) w):
  (left=[]/\(Instr.next (.pointer (some ⟨r,0,none⟩)) false T).run P w=.ok (.tuple #[.bool false]) w)\/
  ∃ a k v b w',left=a++(k,v)::b/\(Instr.next (.pointer (some ⟨r,0,none⟩)) false T).run P w=.ok (.tuple #[.bool true,Zbt.enc k,v]) w'/\(Instr.entry (.pointer (some ⟨r,0,none⟩))).run P w'=.ok (.tuple #[Zbt.enc k,v]) w'/\Sat R (ZjB r m es (a++b)::Hs) w':=by
 obtain ⟨l,c,seen,⟨h1,h2,h3⟩,hw⟩:=ZjB.iff.1 hw;have hr:=hw.at;have hm:=hw.swap.at;rcases run_next_at (P:=P) w T r m c c seen (l.map mkE).toArray c hr hm (λ x hx=>by
   obtain ⟨e,he,rfl⟩:=List.mem_map.1 (show x∈l.map mkE from hx)
   exact h2.1 e he) (Nat.le_refl _) with ⟨h0,hrun⟩|⟨e,he,w1,hw1,hrun⟩
 ·left
  refine ⟨?_,hrun⟩;rw [<-h3];have:(l.filter λ e=>!seen.contains e.2.2)=[]:=by
   rw [List.filter_eq_nil_iff];intro x hx hn;have hmem:mkE x∈(leftOf (l.map mkE).toArray seen).toList:=by
    unfold leftOf;simp only [Array.toList_filter,List.mem_filter,List.mem_map];exact ⟨⟨x,hx,rfl⟩,hn⟩
   have:0<(leftOf (l.map mkE).toArray seen).toList.length:=List.length_pos_of_mem hmem;rw [Array.length_toList] at this;omega
  rw [this];rfl
 ·right
  have hx:∃ x∈l,e=mkE x/\(!seen.contains x.2.2)=true:=by
   unfold leftOf at he;simp only [Array.toList_filter,List.mem_filter,List.mem_map] at he;obtain ⟨⟨x,hx,rfl⟩,hn⟩:=he;exact ⟨x,hx,rfl,hn⟩
  obtain ⟨x,hxl,rfl,hn⟩:=hx;obtain ⟨a,b,hab⟩:=List.append_of_mem (List.mem_filter.2 ⟨hxl,hn⟩:x∈l.filter λ e=>!seen.contains e.2.2);have hw2:Sat R (pts r (.mapIter (some m) c seen c)::pts m (.map (l.map (mkE (α:=α))).toArray c)::Hs) w1:=by
   rcases hw1 with rfl|rfl
   ·exact hw
   ·exact hw.drew
  have hw3:=hw2.setPts (.mapIter (some m) c (seen.push x.2.2) c);refine ⟨ZbT a,x.1,x.2.1,ZbT b,_,?_,hrun,?_,?_⟩
  ·rw [<-h3,hab]
   unfold ZbT;rw [List.map_append,List.map_cons]
  ·exact run_entry_at (P:=P) _ r m c seen (l.map mkE).toArray c (mkE x) hw3.at hw3.swap.at (show mkE x∈l.map mkE from List.mem_map.2 ⟨x,hxl,rfl⟩) (by
    have e:((l.map mkE).map λ e:MapEntry=>e.born)=l.map (·.2.2):=by rw [List.map_map];rfl
    show ((l.map mkE).map λ e:MapEntry=>e.born).Nodup;rw [e];exact h2.2)
  ·refine ZjB.iff.2 ⟨l,c,seen.push x.2.2,⟨h1,h2,?_⟩,hw3⟩
   rw [ZnA h2.2 hab];unfold ZbT;rw [List.map_append]
end
end
section
open Go Go.RowKit
theorem Zpp {P:Program} {n:Nat} (w:World) (dT sT ty elem:TypeId) (b o dLen dCap:Nat) (a:Addr) (sLen sCap:Nat) (cs:List Value)
  (hu:P.underlying dT=some (.slice elem)) (hs:(P.info? elem).map (·.size)=some n) (hn:cs.length=Nat.min sLen dLen * n)
  (hsrc:∀ j v,cs[j]? =some v->w.cell? (a.add j)=some v) (hc:∀ j,j<cs.length->(w.cell? ⟨b,o + j,none⟩).isSome=true) (hf:∀ j,j<cs.length->w.frozen? ⟨b,o + j,none⟩=false) (h1:∀ v∈cs,v.oneCell'=true):
  (Builtin.copy_ #[dT,sT] ty #[.slice (some ⟨b,o,none⟩) dLen dCap,.slice (some a) sLen sCap]).run P w=.ok (goInt (Nat.min sLen dLen)) (w.setCells b o cs):=by
 have hl:=run_loadCells_list (P:=P) w a cs hsrc;have hst:=run_storeCells_cells (P:=P) b o cs 0 w (by simpa using hc) (by simpa using hf) h1;cases hq:P.info? elem with
 |none=>simp [hq] at hs
 |some i=>
  have hi:i.size=n:=by simpa [hq] using hs
  simp [Builtin.copy_,run_underlying hu,Builtin.lenOf,Builtin.firstCells,sizeOf,typeInfo,hq,hi,<-hn,hl,hst]
theorem ZmV {P:Program} {n m:Nat} (w:World) (t e ty:TypeId) (z:Value) (ht:P.underlying t=some (.slice e)) (hv:∀ w,(zeroValue e).run P w=.ok z w) (hz:z.cells.size=n) (h1:∀ v∈(Builtin.zeroCells z.cells m).toList,v.oneCell'=true) (b o c:Nat) (hm:0<m)
  (hc:∀ j,j<m * n->(w.cell? ⟨b,o + j,none⟩).isSome=true) (hf:∀ j,j<m * n->w.frozen? ⟨b,o + j,none⟩=false):
  (Builtin.clear_ #[t] ty #[.slice (some ⟨b,o,none⟩) m c]).run P w=.ok (.tuple #[]) (w.setCells b o (Builtin.zeroCells z.cells m).toList):=by
 have hl:(Builtin.zeroCells z.cells m).toList.length=m * n:=by simp [Builtin.zeroCells,hz]
 have hst:=run_storeCells_cells (P:=P) b o (Builtin.zeroCells z.cells m).toList 0 w (by rw [hl];simpa using hc) (by rw [hl];simpa using hf) h1;simp only [Nat.add_zero] at hst;obtain ⟨k,rfl⟩:∃ k,m=k + 1:=⟨m - 1,by omega⟩;simp [Builtin.clear_,run_underlying ht,hv,hst]
theorem Zrt {n:Nat}:∀ (m:Nat) (l:List Value),l.length=m * n->∃ ys:List (List Value),ys.length=m/\Wid n ys/\ys.flatten=l
 |0,l,h=>⟨[],rfl,Wid.nil,by have:l=[]:=List.length_eq_zero_iff.1 (by omega);rw [this];rfl⟩
 |m + 1,l,h=>by
  rw [Nat.add_mul,Nat.one_mul] at h;obtain ⟨ys,h1,h2,h3⟩:=Zrt (n:=n) m (l.drop n) (by rw [List.length_drop];omega);refine ⟨l.take n::ys,by simp [h1],λ x hx=>?_,by simp [h3]⟩;rcases List.mem_cons.1 hx with rfl|hx
  ·rw [List.length_take];omega
  ·exact h2 x hx
theorem ZfK {A B C V:List Value} {p:Nat} (hp:A.length=p) (hB:B.length=V.length):ZeD (A++B++C) p V=A++V++C:=by
 rw [Zfj _ _ _ (by simp only [List.length_append];omega)];have e1:(A++B++C).take p=A:=by rw [List.append_assoc,List.take_left' hp]
 have e2:(A++B++C).drop (p + V.length)=C:=by rw [List.drop_left' (by rw [List.length_append];omega)]
 rw [e1,e2]
theorem putN {A Y D X rest:List Value} {p:Nat} (hA:A.length=p) (hy:Y.length=X.length + D.length):ZeD (ZeD ((A++Y)++rest) p X) (p + X.length) D=(A++X++D)++rest:=by
 have h1:ZeD ((A++Y)++rest) p X=A++X++(Y.drop X.length++rest):=by
  have:=ZfK (A:=A) (B:=Y.take X.length) (C:=Y.drop X.length++rest) (V:=X) hA (by rw [List.length_take];omega);rw [<-this]
  congr 1
  rw [List.append_assoc,List.append_assoc,<-List.append_assoc (Y.take _),List.take_append_drop]
 have h2:=ZfK (A:=A++X) (B:=Y.drop X.length) (C:=rest) (V:=D) (p:=p + X.length) (by simp [hA]) (by rw [List.length_drop];omega);rw [h1,<-List.append_assoc,h2]
theorem ZCX {A D X rest:List Value} {p:Nat} (hA:A.length=p) (hr:X.length<=rest.length):ZeD (ZeD ((A++D)++rest) (p + X.length) D) p X=(A++X++D)++rest.drop X.length:=by
 have e:(A++D)++rest=(A++(D++rest).take X.length)++((D++rest).drop X.length).take D.length++rest.drop X.length:=by
  have h1:rest.drop X.length=(D++rest).drop (X.length + D.length):=by
   rw [Nat.add_comm,<-List.drop_drop,List.drop_left]
  rw [h1,<-List.drop_drop,List.append_assoc,List.append_assoc,List.append_assoc,List.take_append_drop,List.take_append_drop]
 have hl:((D++rest).take X.length).length=X.length:=by rw [List.length_take,List.length_append];omega
 rw [e,ZfK (p:=p + X.length) (by rw [List.length_append,hl,hA]) (by rw [List.length_take,List.length_drop,List.length_append];omega)];have:=ZfK (A:=A) (B:=(D++rest).take X.length) (C:=D++rest.drop X.length) (V:=X) hA (by rw [hl]);rw [show (A++(D++rest).take X.length)++D++rest.drop X.length=A++(D++rest).take X.length++(D++rest.drop X.length) by simp,this];simp
section
variable {P:Program} {R:Cx} {Hs Rest:List HP} {w:World} {s:Sl} {T:TypeId} {n:Nat}
theorem ZeP {dT sT ty elem:TypeId} {b o dLen dCap sLen sCap:Nat} {a:Addr} {cs l:List Value} {fr:Nat × Nat} {K:Int->World->Prop} (hu:P.underlying dT=some (.slice elem)) (hs:(P.info? elem).map (·.size)=some n)
  (hw:Sat R (pts b (.cells l.toArray T fr)::Hs) w) (hfr:Zna l.length fr) (hn:cs.length=Nat.min sLen dLen * n) (hfit:o + cs.length<=l.length) (hsrc:∀ j v,cs[j]? =some v->w.cell? (a.add j)=some v) (h1:ZaE cs=true)
  (k:∀ t w',Sat R (pts b (.cells (ZeD l o cs).toArray T fr)::Hs) w'->K t w'):
  ∃ w',∃ t:Int,(Builtin.copy_ #[dT,sT] ty #[.slice (some ⟨b,o,none⟩) dLen dCap,.slice (some a) sLen sCap]).run P w=.ok (.int .i64 t) w'/\K t w':=by
 have hat:=hw.at;have hr:=Zpp (P:=P) w dT sT ty elem b o dLen dCap a sLen sCap cs hu hs hn hsrc (λ j hj=>by rw [Zaw hat];simp;omega) (λ j hj=>ZcT hat hfr (by omega)) (λ v hv=>List.all_eq_true.1 h1 v hv);exact ⟨_,_,hr,k _ _ (ZaP cs l o w hw)⟩
theorem Zhp {t1 t2 ty:TypeId} {bytes k m:Nat} {kd kn:IntKind} {rows:List (List Value)} {K:Sl->World->Prop} (ht:P.underlying t1=some (.slice T)) (htn:P.underlying t2=some (.int kn)) (hi:ZAN P T n bytes=true) (hn1:0<n)
  (h0:0<m) (hk:k<rows.length) (hc:s.cap<k + m) (hb:2 * (k + m) * bytes<=281474976710656) (hb':k + m<=9223372036854775807) (hw:Sat R (Zs n s T rows::Hs) w)
  (h:∀ t w' ys,ys.length=m->Sat R (Zs n t T (rows.take k++ys)::Zs n s T rows::Hs) w'->K t w'):
  ∃ w',∃ t:Sl,(Builtin.append_ #[t1,t2] ty #[.slice s.a k s.cap,.int kd m]).run P w=.ok (.slice t.a t.len t.cap) w'/\K t w':=by
 obtain ⟨i,z,hi,hz,hsize,hbytes,hzc⟩:=ZkC hi;obtain ⟨hwid,⟨_,rfl,_⟩|⟨b,rest,fr,cap,rfl,hl,hfr,hp⟩⟩:=Zs.cases hw
 ·simp at hk
 have hat:=hp.at;dsimp only at hc ⊢;have hcap:Builtin.nextslicecap (k + m) cap * i.bytes<=281474976710656:=by
  have h2:Builtin.nextslicecap (k + m) cap<=2 * (k + m):=by
   unfold Builtin.nextslicecap;split
   ·omega
   ·split
    ·omega
    ·have:=nextslicecap_le_wide hc
     unfold Builtin.nextslicecap at this;rw [if_neg (by assumption),if_neg (by assumption)] at this;omega
  rw [hbytes];exact Nat.le_trans (Nat.mul_le_mul_right _ h2) hb
 have hkl:(rows.take k).flatten.length=k * n:=by rw [hwid.take.len,List.length_take,Nat.min_eq_left (by omega)]
 have hold:(Builtin.firstCells i.size k (.slice (some ⟨b,0,none⟩) k cap)).run P w.drew=.ok (rows.take k).flatten.toArray w.drew:=by
  refine run_firstCells_some w.drew i.size k ⟨b,0,none⟩ k _ (rows.take k).flatten (by rw [hsize,hkl]) ?_;intro j u hj;rw [World.cell?_drew,Zy,Zaw hat,Nat.zero_add];obtain ⟨hlt,rfl⟩:=List.getElem?_eq_some_iff.1 hj;rw [hkl] at hlt;rw [<-hj,<-hwid.take_flat,List.getElem?_take,if_pos hlt];have:k * n<=rows.length * n:=Nat.mul_le_mul_right _ (by omega);rw [List.getElem?_append_left (by rw [hwid.len];omega)]
 have hwr:IntKind.i64.wrap (m:Int)=m:=by rw [IntKind.wrap_i64];omega
 have hn:¬ (k + m<=cap):=by omega
 have h63':¬ (9223372036854775807<((k:Int) + (m:Int))):=by omega
 have h48':¬ (281474976710656<Builtin.nextslicecap (k + m) cap * i.bytes):=by omega
 have h48i:¬ (281474976710656<(m:Int) * (i.bytes:Int)):=by
  rw [<-Int.natCast_mul,hbytes];have:m * bytes<=2 * (k + m) * bytes:=Nat.mul_le_mul_right _ (by omega);omega
 have hneg:¬ ((m:Int)<0):=by omega
 have hn0:m≠0:=by omega
 have hns:¬ (m * i.size=0):=by
  rw [hsize];have:=Nat.mul_pos h0 hn1;omega
 have hg:=grownCap_ge w (k + m) cap T;have hr:(Builtin.append_ #[t1,t2] ty #[.slice (some ⟨b,0,none⟩) k cap,.int kd m]).run P w=
   .ok (.slice (some ⟨w.heap.size,0,none⟩) (k + m) (grownCap w (k + m) cap T)) (w.drew.alloc (.cells ((rows.take k).flatten.toArray++Builtin.zeroCells z.cells m++Builtin.zeroCells z.cells (grownCap w (k + m) cap T - (k + m))) T)):=by
  simp [Builtin.append_,run_underlying ht,run_underlying htn,sizeOf,typeInfo,zeroValue,hi,hz,asInt,asIntOf,hwr,hn,hneg,hns,h63',h48',h48i,Question.forced,hold,newRow,grownCap]
 have hzs:∀ m,(Builtin.zeroCells z.cells m).size=m * n:=λ m=>by simp [Builtin.zeroCells,hzc]
 obtain ⟨ys,hy1,hy2,hy3⟩:=Zrt m (Builtin.zeroCells z.cells m).toList (by rw [Array.length_toList,hzs]);refine ⟨_,⟨some ⟨w.heap.size,0,none⟩,k + m,grownCap w (k + m) cap T⟩,hr,h _ _ ys hy1 ?_⟩;have h3:=Sat.alloc (Obj.cells ((rows.take k).flatten.toArray++Builtin.zeroCells z.cells m++Builtin.zeroCells z.cells (grownCap w (k + m) cap T - (k + m))) T) (Sat.drew hp);have e:Obj.cells ((rows.take k).flatten.toArray++Builtin.zeroCells z.cells m++Builtin.zeroCells z.cells (grownCap w (k + m) cap T - (k + m))) T=.cells ((rows.take k++ys).flatten++(Builtin.zeroCells z.cells (grownCap w (k + m) cap T - (k + m))).toList).toArray T (0,0):=by
  congr 1
  apply Array.ext';rw [List.flatten_append,hy3];simp
 rw [e] at h3 ⊢;have h4:=Zs.of_pts hwid hl (Sat.swap h3) hfr;have hwid2:Wid n (rows.take k++ys):=hwid.take.app hy2;have hlk:(rows.take k++ys).length=k + m:=by rw [List.length_append,List.length_take,hy1,Nat.min_eq_left (by omega)]
 have h5:=Zs.of_pts (cap:=grownCap w (k + m) cap T) hwid2 (by rw [List.length_append,hwid2.len,hlk,Array.length_toList,hzs,<-Nat.add_mul];congr 1;omega) (Sat.swap h4);have e2:(⟨some ⟨w.drew.heap.size,0,none⟩,(rows.take k++ys).length,grownCap w (k + m) cap T⟩:Sl)=⟨some ⟨w.heap.size,0,none⟩,k + m,grownCap w (k + m) cap T⟩:=by
  rw [hlk,World.size_drew]
 rw [e2] at h5;exact h5
theorem Ztd {t1 ty ty':TypeId} {bytes i j:Nat} {z:Value} {rows:List (List Value)} {K:Sl->World->Prop} (ht:P.underlying t1=some (.slice T)) (hi:ZAN P T n bytes=true) (hv:∀ w,(zeroValue T).run P w=.ok z w) (hzc:z.cells.size=n)
  (hz1:∀ m,∀ v∈(Builtin.zeroCells z.cells m).toList,v.oneCell'=true) (ho:ZaE rows.flatten=true)
  (hn1:0<n) (hij:i<j) (hj:j<=rows.length) (hw:Sat R (Zs n s T rows::Hs) w) (k:∀ t w',Sat R (Zs n t T (rows.take i++rows.drop j)::Hs) w'->K t w'):
  ∃ w',∃ t:Sl,(Builtin.append_ #[t1,t1] ty #[.slice s.a i s.cap,.slice (Zck s.a j s.cap n) (s.len - j) (s.cap - j)]).run P w=.ok (.slice t.a t.len t.cap) w'/\
   (0:Int)<=(s.len:Int)/\(s.len:Int)<=(t.cap:Int)/\(0:Int)<=(t.len:Int)/\(t.len:Int)<=(((s.len:Int).toNat:Nat):Int)/\
   ∃ w'',(Builtin.clear_ #[t1] ty' #[.slice (Zck t.a (t.len:Int).toNat t.cap n) ((s.len:Int).toNat - (t.len:Int).toNat) (t.cap - (t.len:Int).toNat)]).run P w'=.ok (.tuple #[]) w''/\K t w'':=by
 obtain ⟨ti,z',hi,hz',hsize,hbytes,hzc'⟩:=ZkC hi;obtain ⟨hwid,⟨_,rfl,_⟩|⟨b,rest,fr,cap,rfl,hl,hfr,hp⟩⟩:=Zs.cases hw
 ·simp at hj;omega
 have hat:=hp.at;have hl0:=hl;rw [List.length_append,hwid.len] at hl;have hcap:rows.length<=cap:=Nat.le_of_mul_le_mul_right (by omega:rows.length * n<=cap * n) hn1;have hjn:j * n<=rows.length * n:=Nat.mul_le_mul_right _ hj;have hin:i * n + (rows.length - j) * n + (j - i) * n=rows.length * n:=by
  rw [<-Nat.add_mul,<-Nat.add_mul]
  congr 1;omega
 have hdl:(rows.drop j).flatten.length=(rows.length - j) * n:=by rw [hwid.drop.len,List.length_drop]
 have hdo:∀ v∈(rows.drop j).flatten,v.oneCell'=true:=λ v hv=>List.all_eq_true.1 ho v (by
  obtain ⟨l,h1,h2⟩:=List.mem_flatten.1 hv;exact List.mem_flatten.2 ⟨l,List.mem_of_mem_drop h1,h2⟩)
 have hsrc:Src P ti.size t1 (.slice (Zck (some ⟨b,0,none⟩) j cap n) (rows.length - j) (cap - j)) (rows.length - j) (rows.drop j).flatten w:=by
  rw [hsize];by_cases hjc:cap=j
  ·have hr:rows.length - j=0:=by omega
   have hd:rows.drop j=[]:=List.drop_eq_nil_of_le (by omega);rw [hr,hd];unfold Zck;rw [if_pos hjc];exact Go.Src.ofSlice w ht _ 0 _ [] (by simp) (λ j u hj=>by simp at hj) (λ u hu=>by cases hu)
  ·unfold Zck
   rw [if_neg hjc];refine Go.Src.ofSlice w ht _ _ _ _ (by rw [hdl]) (λ x u hx=>?_) hdo;show w.cell? (Addr.add (Addr.add ⟨b,0,none⟩ (j * n)) x)=some u;rw [Zy,Zy,Nat.zero_add,Zaw hat];rw [<-hwid.drop_flat,List.getElem?_drop] at hx;have hlt:=(List.getElem?_eq_some_iff.1 hx).1;rw [List.getElem?_append_left (by omega)];exact hx
 have hroom:i + (rows.length - j)<=cap:=by omega
 have hr:=run_append_room_src w t1 t1 ty T ti ht hi b 0 i cap _ (rows.length - j) (rows.drop j).flatten hsrc hroom
  (λ x hx=>by
   rw [Zaw hat,hsize,List.getElem?_eq_getElem (by rw [hl0];omega)];rfl) (λ x hx=>ZcT hat hfr (by rw [hsize];omega))
 have h2:=ZaP (rows.drop j).flatten (rows.flatten++rest) (i * n) w hp;rw [hsize,Nat.zero_add] at hr;have e1:ZeD (rows.flatten++rest) (i * n) (rows.drop j).flatten=(rows.take i++rows.drop j).flatten++(rows.flatten++rest).drop (i * n + (rows.length - j) * n):=by
  rw [Zfj _ _ _ (by rw [hdl,hl0];omega),hdl,List.take_append_of_le_length (by rw [hwid.len];omega),hwid.take_flat,List.flatten_append]
 rw [e1] at h2;have hwid2:Wid n (rows.take i++rows.drop j):=hwid.take.app hwid.drop;have hll:(rows.take i++rows.drop j).length=i + (rows.length - j):=by rw [List.length_append,List.length_take,List.length_drop,Nat.min_eq_left (by omega)]
 refine ⟨_,⟨some ⟨b,0,none⟩,i + (rows.length - j),cap⟩,hr,by dsimp only;omega,by dsimp only;omega,by dsimp only;omega,by dsimp only;omega,?_⟩;dsimp only;rw [Int.toNat_natCast,Int.toNat_natCast];have hca:Zck (some ⟨b,0,none⟩) (i + (rows.length - j)) cap n=some ⟨b,(i + (rows.length - j)) * n,none⟩:=by
  unfold Zck;rw [if_neg (by omega)];simp [Zy]
 rw [hca];have hat2:=h2.at;have hml:(rows.length - (i + (rows.length - j))) * n=(j - i) * n:=by congr 1;omega
 have hpos:(i + (rows.length - j)) * n=i * n + (rows.length - j) * n:=Nat.add_mul _ _ _;have hlen2:((rows.take i++rows.drop j).flatten++(rows.flatten++rest).drop (i * n + (rows.length - j) * n)).length=cap * n:=by
  rw [List.length_append,hwid2.len,hll,List.length_drop,hl0,hpos];omega
 refine ⟨_,ZmV _ t1 T ty' z ht hv hzc (hz1 _) b ((i + (rows.length - j)) * n) _ (by omega) (λ x hx=>?_) (λ x hx=>?_),k _ _ ?_⟩
 ·rw [Zaw hat2,List.getElem?_eq_getElem (by rw [hlen2];omega)];rfl
 ·exact ZcT hat2 hfr (by omega)
 ·have h3:=ZaP (Builtin.zeroCells z.cells (rows.length - (i + (rows.length - j)))).toList _ ((i + (rows.length - j)) * n) _ h2
  have hzl:(Builtin.zeroCells z.cells (rows.length - (i + (rows.length - j)))).toList.length=(j - i) * n:=by simp [Builtin.zeroCells,hzc,hml]
  rw [Zfj _ _ _ (by rw [hzl,hlen2,hpos];omega),List.take_left' (by rw [hwid2.len,hll]),List.append_assoc] at h3;have h4:=Zs.of_pts (cap:=cap) hwid2 (by
   rw [List.length_append,List.length_append,hwid2.len,hll,hzl,List.length_drop,hlen2];omega) h3 hfr
  rw [hll] at h4;exact h4
end
end
end Go.VC
namespace Go.Proofs.YtlplemdmegpoeaaGreatDoor
section
open Go Go.VC Tryz
open Classical
variable {R:Cx} {Hs Rest:List HP} {w:World}
abbrev wtA (x:Wt):Value:=.agg #[nI x.id,nI x.cls,nI x.many,nI x.time,.float .f64 x.sc]
abbrev wtC (b:Nat) (x:Wt):HP:=pts b (.cells (wtV x).toArray 192 (0,0))
abbrev wtD (b:Nat) (x:Wt):HP:=pts b (.cells (wtV x).toArray 168 (0,0))
theorem Zc7 {n lo hi:Int} (hw:Sat R Hs w):Zm prog 239 #[nI n,nI lo,nI hi] w λ v w'=>v=.bool (decide (lo<=n/\n<=hi))/\Sat R Hs w':=by
 apply Zyz;refine Br.d (λ h=>⟨?_,hw⟩) (λ h=>⟨?_,hw⟩)
 ·congr 1
  rw [decide_eq_decide];omega
 ·rw [decide_eq_false (by omega)]
theorem Zm4 {x:Wt} (hw:Sat R Hs w):Zm prog 169 #[wtA x] w λ v w'=>v=.bool (decide x.Ok)/\Sat R Hs w':=by
 apply Zze;refine Za hw λ b w hw=>?_;have hw:Sat R (wtC b x::Hs) w:=hw;have no:∀ {w},¬ x.Ok->Sat R (wtC b x::Hs) w->(Value.bool false=.bool (decide x.Ok))/\Sat R Hs w:=λ h hw=>⟨by rw [decide_eq_false h],hw.drop⟩;refine ⟨x.id,oA hw,?_⟩;refine (Zc7 hw).u λ w hw=>?_;refine ⟨_,rfl,Br.d (λ h1=>?_) (λ h1=>no (λ h=>h1 h.1) hw)⟩;refine ⟨x.cls,oA hw,?_⟩;refine (Zc7 hw).u λ w hw=>?_;refine ⟨_,rfl,Br.d (λ h2=>?_) (λ h2=>no (λ h=>h2 h.2.1) hw)⟩;refine ⟨x.many,oA hw,?_⟩;refine (Zc7 hw).u λ w hw=>?_;refine ⟨_,rfl,Br.d (λ h3=>?_) (λ h3=>no (λ h=>h3 h.2.2.1) hw)⟩;refine ⟨x.time,oA hw,?_⟩;refine (Zc7 hw).u λ w hw=>?_;refine ⟨_,rfl,?_,hw.drop⟩
 congr 1
 rw [decide_eq_decide];exact ⟨λ h=>⟨h1,h2,h3,h⟩,λ h=>h.2.2.2⟩
def orL (l:List Int):Int:=(l.find? λ x=>decide (x≠0)).getD 0
theorem Zxb {s:Sl} {l:List Int} (hl:l.length<=1000000000) (hw:Sat R (Own s 3 (Ze l)::Hs) w):Zm prog 242 #[.slice s.a s.len s.cap] w λ v w'=>v=nI (orL l)/\Sat R (Own s 3 (Ze l)::Hs) w':=by
 have hlen:=Own.len hw;rw [List.length_map] at hlen;apply Zyw;refine ⟨λ i w=>∃ j:Nat,i=j/\j<=l.length/\(∀ x∈l.take j,x=0)/\Sat R (Own s 3 (Ze l)::Hs) w,λ i _=>l.length - i.toNat,⟨0,rfl,by omega,by simp,hw⟩,?_⟩;clear hw;rintro _ _ w ⟨j,rfl,hj,hz,hw⟩;refine Br.d (λ h=>?_) (λ h=>?_)
 ·have hj2:j<l.length:=by omega
  refine Own.ix hw (eqS hw) j rfl hj2 ?_;refine Br.ne (λ h2=>⟨?_,hw⟩) (λ h2=>?_)
  ·congr 1
   have e:l.find? (λ x=>decide (x≠0))=some l[j]:=by
    have h3:l=l.take j++l[j]::l.drop (j + 1):=by rw [<-List.drop_eq_getElem_cons hj2,List.take_append_drop]
    rw [List.find?_eq_some_iff_append];exact ⟨by simpa using h2,l.take j,l.drop (j + 1),h3,λ x hx=>by simpa using hz x hx⟩
   unfold orL;rw [e];rfl
  ·rw [Zf]
   refine ⟨⟨j + 1,by omega,by omega,λ x hx=>?_,hw⟩,by dsimp only;omega⟩;rw [List.take_add_one,List.getElem?_eq_getElem hj2] at hx;rcases List.mem_append.1 hx with hx|hx
   ·exact hz x hx
   ·simp at hx
    rw [hx];exact h2
 ·rw [List.take_of_length_le (by omega)] at hz
  refine ⟨?_,hw⟩
  congr 1
  unfold orL;rw [List.find?_eq_none.2 (λ x hx=>by simpa using hz x hx)];rfl
theorem Zxa {a b:Wt}:orL [Zfi b.sc a.sc,Zvz a.time b.time,Zvz a.id b.id]=a.ord b:=by
 unfold orL Wt.ord Zvz;by_cases h:Zfi b.sc a.sc=0
 ·simp only [List.find?_cons,h,ne_eq,not_true_eq_false,decide_false]
  by_cases h1:a.time<b.time
  ·simp [h1]
  ·by_cases h2:b.time<a.time
   ·simp [h1,h2]
   ·by_cases h3:a.id<b.id
    ·simp [h1,h2,h3]
    ·by_cases h4:b.id<a.id
     ·simp [h1,h2,h3,h4]
     ·simp [h1,h2,h3,h4]
 ·simp [h]
theorem ZpJ {a b:Wt} (hw:Sat R Hs w):Zm prog 172 #[wtA a,wtA b] w λ v w'=>v=nI (a.ord b)/\Sat R Hs w':=by
 apply Zzb;refine Za hw λ p w hw=>Za hw λ q w hw=>?_;have hw:Sat R (wtC q b::wtC p a::Hs) w:=hw;refine ZaV hw λ w hw=>?_;refine ⟨b.sc,oS,a.sc,oS,a.time,oS,b.time,oS,a.id,oS,b.id,oS,?_⟩;refine (ZrJ hw).u λ w hw=>?_;refine ⟨_,rfl,hw,?_⟩;refine (Zgd hw).u λ w hw=>?_;refine ⟨_,rfl,hw,?_⟩;refine (Zgd hw).u λ w hw=>?_;refine ⟨_,rfl,hw,?_⟩;refine Za hw λ r w hw=>⟨hw.absorb,?_⟩;have hw:Sat R (pts r (.cells (Ze [Zfi b.sc a.sc,Zvz a.time b.time,Zvz a.id b.id]).toArray 3 (0,0))::VC.tru::wtC q b::wtC p a::Hs) w:=hw;refine (Zxb (l:=[Zfi b.sc a.sc,Zvz a.time b.time,Zvz a.id b.id]) (by simp) (ZbH (n:=3) hw)).u λ w hw=>?_;rw [Zxa];exact ⟨_,rfl,hw.absorb,rfl,hw.drop.drop.drop.drop⟩
abbrev wtT:TypeId:=192
theorem ZrO {s:Sl} {l:List Wt} {f:Value} {p:Wt->Bool} (hl:l.length<=1000000000)
  (hf:∀ x w,Sat R (Zs 5 s wtT (l.map wtV)::Hs) w->Zbq prog cl f [wtA x] w λ e w'=>e=.returned (.bool (p x))/\Sat R (Zs 5 s wtT (l.map wtV)::Hs) w')
  (hw:Sat R (Zs 5 s wtT (l.map wtV)::Hs) w):
  Zm prog 240 #[.slice s.a s.len s.cap,f] w λ v w'=>(∃ i:Int,v=nI i/\((i=-1/\l.any p=false)\/∃ k:Nat,i=k/\∃ (hk:k<l.length),p l[k]=true/\(l.take k).any p=false))/\Sat R (Zs 5 s wtT (l.map wtV)::Hs) w':=by
 have hlen:=Zs.len hw;rw [List.length_map] at hlen;apply Zyy;refine ⟨λ i w=>∃ j:Nat,i=j/\j<=l.length/\(l.take j).any p=false/\Sat R (Zs 5 s wtT (l.map wtV)::Hs) w,λ i _=>l.length - i.toNat,⟨0,rfl,by omega,by simp,hw⟩,?_⟩;clear hw;rintro _ _ w ⟨j,rfl,hj,hn,hw⟩;refine Br.d (λ h=>?_) (λ h=>?_)
 ·have hj2:j<l.length:=by omega
  refine (Zs.reads hw (eqS hw)).rngM (E:=l) (g:=wtV) hj2 λ a _ he=>?_;refine ⟨_,_,_,_,_,he.z (by exact ⟨rfl,rfl,rfl,rfl,rfl,trivial⟩),?_⟩;refine (hf l[j] _ hw).mono ?_;rintro _ w ⟨rfl,hw⟩;refine ⟨_,rfl,Br.mk (λ h=>⟨⟨j,rfl,.inr ⟨j,rfl,hj2,h,hn⟩⟩,hw⟩) (λ h=>?_)⟩;rw [Zf];refine ⟨⟨j + 1,by omega,by omega,?_,hw⟩,by dsimp only;omega⟩;rw [List.take_add_one,List.getElem?_eq_getElem hj2,List.any_append,hn];simp [h]
 ·rw [List.take_of_length_le (by omega)] at hn
  exact ⟨⟨-1,rfl,.inl ⟨rfl,hn⟩⟩,hw⟩
theorem ZsL {b:Nat} {id:Int} {x:Wt} (hw:Sat R (pts b (.cells [nI id].toArray 3 (0,0))::Hs) w):Zm prog 241 #[wtA x,nP b] w λ v w'=>v=.bool (decide (x.id=id))/\Sat R (pts b (.cells [nI id].toArray 3 (0,0))::Hs) w':=by
 apply Zyx;refine Za hw λ p w hw=>?_;have hw:Sat R (wtC p x::pts b (.cells [nI id].toArray 3 (0,0))::Hs) w:=hw;refine ⟨x.id,oA hw,Zc.mk rfl ⟨id,oA hw,?_,hw.drop⟩⟩
 congr 1
theorem ZhN {q:Nat} {l:List Wt} {id:Int} (hl:l.length<=1000000000) (hw:Sat R (ZR q l::Hs) w):
  Zm prog 170 #[nP q,nI id] w λ v w'=>(∃ i:Int,v=nI i/\((i=-1/\Ze7 id l=false)\/∃ k:Nat,i=k/\∃ (hk:k<l.length),l[k].id=id/\Ze7 id (l.take k)=false))/\Sat R (ZR q l::Hs) w':=by
 obtain ⟨s,hw⟩:=Sat.qu.1 hw;apply Zzd;refine Za hw λ b w hw=>?_;have hw:Sat R (pts q (Zay s)::pts b (.cells [nI id].toArray 3 (0,0))::Zs 5 s wtT (l.map wtV)::Hs) w:=hw.swap;refine Zc.mk rfl ⟨s,oA hw,?_⟩;have hw:Sat R (Zs 5 s wtT (l.map wtV)::pts b (.cells [nI id].toArray 3 (0,0))::pts q (Zay s)::Hs) w:=hw.arr;refine (ZrO (p:=λ x=>decide (x.id=id)) hl (λ x w hw=>Zbq.mk (by kernel_rfl) ((ZsL hw.swap).use λ v w' h=>⟨by rw [h.1],h.2.swap⟩)) hw).use ?_;clear hw;rintro _ w ⟨⟨i,rfl,hi⟩,hw⟩;refine ⟨i,rfl,⟨i,rfl,?_⟩,?_⟩
 ·rcases hi with hi|⟨k,rfl,hk,h1,h2⟩
  ·exact .inl hi
  ·exact .inr ⟨k,rfl,hk,of_decide_eq_true h1,h2⟩
 ·have hw:Sat R (pts b (.cells [nI id].toArray 3 (0,0))::pts q (Zay s)::Zs 5 s wtT (l.map wtV)::Hs) w:=hw.arr
  exact Sat.qu.2 ⟨s,hw.drop⟩
theorem ZuO : (f245.name == "runtime.NumGoroutine") = false := by kernel_rfl
theorem ZuQ:f245.body.isNone=true:=by kernel_rfl
theorem ZuN:Extern.findNext f245=none:=by kernel_rfl
theorem ZuP:∃ tR,Extern.find f245=some (Extern.SlicesOverlaps.overlaps #[ 188,188 ] #[tR]):=⟨4,by kernel_rfl⟩
theorem elW:ElN prog 188 188 wtT 5 40:=⟨underlying188,⟨_,underlying188⟩,by kernel_rfl⟩
theorem szW1:Zhx prog wtT=5:=by kernel_rfl
theorem szW (w : nW):(sizeOf wtT).run prog w=.ok 5 w:=by
 obtain ⟨i,hi⟩:=Zn1 (P:=prog) (t:=wtT) (by rw [szW1];decide);have:=Za7 hi w;rw [szW1] at this;exact this
theorem Zhq (x:Wt):(wtV x).length=5:=rfl
theorem ZdJ (l:List Wt):Wid 5 (l.map wtV):=λ y hy=>by
 obtain ⟨x,_,rfl⟩:=List.mem_map.1 hy;rfl
theorem ZwE (x:Wt):ZaE (wtV x)=true:=rfl
theorem ZjC (l:List Wt):ZaE (l.map wtV).flatten=true:=by
 unfold ZaE;rw [List.all_eq_true];intro v hv;obtain ⟨r,h1,h2⟩:=List.mem_flatten.1 hv;obtain ⟨x,_,rfl⟩:=List.mem_map.1 h1;exact List.all_eq_true.1 (ZwE x) v h2
theorem Ztg {b k m:Nat} (h:m≠k):Zck (some ⟨b,0,none⟩) k m 5=some ⟨b,k * 5,none⟩:=by
 simp only [Zck,if_neg h,Option.map_some,Zy];simp
theorem Ziz {b1 b2 o:Nat} {x:Wt} {T2:TypeId} {l:List Value} {fr:Nat × Nat} {la lc:Nat} {Q:Ending->World->Prop} (hl:l≠[])
  (hw:Sat R (pts b2 (.cells l.toArray T2 fr)::wtC b1 x::Hs) w) (k:Q (.returned (.bool false)) w):
  Ext prog 245 #[.slice (some ⟨b1,0,none⟩) 1 1,.slice (some ⟨b2,o,none⟩) la lc] w Q:=by
 have h2:=hw.at;have h1:=hw.swap.at;have hne:b1≠b2:=by
  rintro rfl;obtain ⟨h,hA,hd,h',hB,hd',_⟩:=hw;rw [show h=_ from hA] at hd hd'
  rw [show h'=_ from hB] at hd'
  have:=hd' b1 (by simp [ZY.one]);simp only [Cx.add,ZY.add,ZY.one] at this;split at this<;>simp_all
 obtain ⟨tR,hf⟩:=ZuP;refine ⟨.bool false,w,?_,k⟩;rw [run_callFunc_extern func245 ZuO ZuQ ZuN hf];rw [Lib.run_overlaps_apart (P:=prog) w 188 tR wtT underlying188 5 (λ w=>szW w) ⟨b1,0,none⟩ ⟨b2,o,none⟩ 1 1 la lc hne wtT T2 5 l.length ?_ ?_ ?_ ?_ ?_]
 ·rfl
 ·simp only [World.shape?,h1];rfl
 ·simp only [World.shape?,h2];simp
 ·cases l with
  |nil=>exact absurd rfl hl
  |cons a l=>simp
 ·simp [World.frozen?,h1]
 ·simp [World.frozen?,h1]
theorem ZvR {b:Nat} {x:Wt} (h:w.heap[b]? =some (.cells (wtV x).toArray wtT (0,0))):∀ j v,(wtV x)[j]? =some v->w.cell? ((⟨b,0,none⟩:Addr).add j)=some v:=by
 intro j v hj;rw [Zy,Zaw h,Nat.zero_add];exact hj
theorem Zlc {b o:Nat} {xs rest:List Value} {T:TypeId} {fr:Nat × Nat} (h:w.heap[b]? =some (.cells (xs++rest).toArray T fr)):∀ j v,(xs.drop o)[j]? =some v->w.cell? ((⟨b,o,none⟩:Addr).add j)=some v:=by
 intro j v hj;rw [Zy,Zaw h];rw [List.getElem?_drop] at hj;have hlt:=(List.getElem?_eq_some_iff.1 hj).1;rw [List.getElem?_append_left (by omega)];exact hj
theorem ZlH {s:Sl} {l:List Wt} {x:Wt} {p b:Nat} (hl:l.length<=1000000000) (hp:p<=l.length) (hw:Sat R (Zs 5 s wtT (l.map wtV)::wtC b x::Hs) w):
  Zm prog 173 #[.slice s.a s.len s.cap,nI p,.slice (some ⟨b,0,none⟩) 1 1] w λ v w'=>∃ t:Sl,v=.slice t.a t.len t.cap/\Sat R (Zs 5 t wtT ((l.take p++x::l.drop p).map wtV)::wtC b x::Hs) w':=by
 have hlen:=Zs.len hw;have hcap:=Zs.cap (by omega) hw;rw [List.length_map] at hlen;have hrl:(l.map wtV).length=l.length:=List.length_map _;refine Zza s p ⟨some ⟨b,0,none⟩,1,1⟩ _ _ ?_;unfold B173;dsimp only;have w1:wI ((s.len:Int) + ((1:Nat):Int))=((l.length + 1:Nat):Int):=by rw [Zf];omega
 have w2:wI (((l.length + 1:Nat):Int) - p)=((l.length + 1 - p:Nat):Int):=by rw [Zf];omega
 have w3:wI ((p:Int) + ((1:Nat):Int))=((p + 1:Nat):Int):=by rw [Zf];omega
 rw [w1,w2,w3];simp only [Int.toNat_natCast];have hA:((l.map wtV).take p).flatten.length=p * 5:=by rw [(ZdJ l).take.len,List.length_take,hrl,Nat.min_eq_left hp]
 have hD:((l.map wtV).drop p).flatten.length=(l.length - p) * 5:=by rw [(ZdJ l).drop.len,List.length_drop,hrl]
 have hDo:ZaE ((l.map wtV).drop p).flatten=true:=by rw [<-List.map_drop];exact ZjC _
 have hrows:(l.map wtV).flatten=((l.map wtV).take p).flatten++((l.map wtV).drop p).flatten:=by rw [<-List.flatten_append,List.take_append_drop]
 have hin:((l.map wtV).take p).flatten++wtV x++((l.map wtV).drop p).flatten=((l.take p++x::l.drop p).map wtV).flatten:=by simp [List.map_take,List.map_drop]
 have hinl:(l.take p++x::l.drop p).length=l.length + 1:=by simp;omega
 refine ⟨by omega,by omega,Br.f rfl (Br.e (λ h=>?_) (λ h=>Br.d (λ h2=>?_) (λ h2=>?_)))⟩
 ·-- behind all
  refine ZaR elW hw (ZeU elW.hk 1 hw rfl rfl) (Wid.one rfl) (by simp;omega) (by simp;omega) λ t w hw=>⟨t,rfl,?_⟩;have e:l.map wtV++[wtV x]=(l.take p++x::l.drop p).map wtV:=by
   rw [List.take_of_length_le (by omega),List.drop_eq_nil_of_le (by omega)];simp
  rw [e] at hw;exact hw
 ·-- no room
  refine ⟨by omega,by omega,?_⟩;refine Zhp underlying188 underlying3 elW.hi (by omega) (by omega) (by rw [hrl];omega) (by omega) (by omega) (by omega) hw λ t w ys hys hw=>?_;have hyw:Wid 5 ys:=λ y hy=>Zs.wid hw y (List.mem_append_right _ hy);have htl:=Zs.len hw;have hxs:((l.map wtV).take p++ys).length=l.length + 1:=by rw [List.length_append,List.length_take,hrl,hys,Nat.min_eq_left hp];omega
  rw [hxs] at htl;refine ⟨by omega,by omega,?_⟩;obtain ⟨hwid,⟨_,h0,_⟩|⟨b',rest,fr,cap,rfl,hcl,hfr,hw⟩⟩:=Zs.cases hw
  ·have:=congrArg List.length h0
   rw [hxs] at this;cases this
  dsimp only at htl ⊢;rw [List.flatten_append] at hw hcl;have hY:ys.flatten.length=(l.length + 1 - p) * 5:=by rw [hyw.len,hys]
  have hcl2:=hcl;rw [List.length_append,List.length_append,hA,hY] at hcl2;have hb1:=(hw.takeP (b:=b) inferInstance).at;rw [hxs,Ztg (by omega)];refine ZeP underlying188 (by kernel_rfl) hw (by rw [hcl];exact hfr) (cs:=wtV x) (by show 5=Nat.min 1 _ * 5;rw [show Nat.min 1 (l.length + 1 - p)=1 from Nat.min_eq_left (by omega)]) (by rw [hcl];show p * 5 + 5<=_;omega) (ZvR hb1) rfl λ _ w hw=>?_
  refine Zo hw λ w hw=>⟨by omega,by omega,by omega,by omega,?_⟩;obtain ⟨_,⟨_,h0,_⟩|⟨bs,rest2,fr2,cap2,rfl,hcl3,hfr2,hws⟩⟩:=Zs.cases hw.swap
  ·have h3:l.length=0:=by
    have:=congrArg List.length h0;rw [hrl] at this;exact this
   omega
  clear w1 w2 w3;dsimp only at hlen hcap h h2 ⊢;rw [hrl] at h hcap;have hsat:=hws.at;rw [Ztg (by omega),Ztg (by omega)];have hdrop:(l.map wtV).flatten.drop (p * 5)=((l.map wtV).drop p).flatten:=(ZdJ l).drop_flat p;refine ZeP underlying188 (by kernel_rfl) hws.swap (by rw [ZbG,hcl];exact hfr) (cs:=((l.map wtV).drop p).flatten) (by rw [hD,hrl,show Nat.min (l.length - p) (l.length + 1 - (p + 1))=l.length - p from Nat.min_eq_left (by omega)])
   (by rw [ZbG,hcl,hD];omega) (by rw [<-hdrop];exact Zlc hsat) hDo λ _ w hw=>?_
  rw [show (p + 1) * 5=p * 5 + (wtV x).length by rw [Zhq];omega,putN hA (by rw [hY,hD,Zhq];omega),hin] at hw;have hfin:=Zs.of_pts (cap:=cap) (ZdJ _) (by rw [List.length_append,(ZdJ _).len,List.length_map,hinl];omega) hw hfr;rw [List.length_map,hinl] at hfin;refine ⟨⟨some ⟨b',0,none⟩,l.length + 1,cap⟩,rfl,?_⟩;exact Sat.cons (λ R' h=>h.drop) hfin
 ·-- room
  obtain ⟨_,⟨_,h0,_⟩|⟨bs,rest,fr,cap,rfl,hcl,hfr,hws⟩⟩:=Zs.cases hw
  ·have h3:l.length=0:=by
    have:=congrArg List.length h0;rw [hrl] at this;exact this
   omega
  clear w1 w2 w3;dsimp only at hlen hcap h h2 ⊢;rw [hrl] at h hcap;have hcl2:=hcl;rw [List.length_append,(ZdJ l).len,hrl] at hcl2;have hroom:5<=rest.length:=by omega
  refine ⟨by omega,by omega,by omega,by omega,?_⟩;rw [Ztg (by omega)];refine Ziz (by intro h0;have h5:=congrArg List.length h0;rw [hcl,List.length_nil] at h5;omega) hws ?_;refine ⟨_,rfl,Br.t rfl ?_⟩;refine Zo hws λ w hws=>⟨by omega,by omega,by omega,by omega,?_⟩;rw [Ztg (by omega)];have hsat:=hws.at;have hdrop:(l.map wtV).flatten.drop (p * 5)=((l.map wtV).drop p).flatten:=(ZdJ l).drop_flat p;refine ZeP underlying188 (by kernel_rfl) hws (by rw [hcl];exact hfr) (cs:=((l.map wtV).drop p).flatten) (by rw [hD,show Nat.min (l.length + 1 - p) (l.length + 1 - (p + 1))=l.length - p from (Nat.min_eq_right (by omega)).trans (by omega)])
   (by rw [hcl,hD];omega) (by rw [<-hdrop];exact Zlc hsat) hDo λ _ w hw=>?_
  refine ⟨by omega,by omega,?_⟩;have hb1:=hw.swap.at;refine ZeP underlying188 (by kernel_rfl) hw (by rw [ZbG,hcl];exact hfr) (cs:=wtV x) (by show 5=Nat.min 1 _ * 5;rw [show Nat.min 1 (l.length + 1 - p)=1 from Nat.min_eq_left (by omega)]) (by rw [ZbG,hcl];show p * 5 + 5<=_;omega) (ZvR hb1) rfl λ _ w hw=>?_
  rw [hrows,show (p + 1) * 5=p * 5 + (wtV x).length by rw [Zhq];omega,ZCX hA (by rw [Zhq];exact hroom),hin] at hw;have hfin:=Zs.of_pts (cap:=cap) (ZdJ _) (by rw [List.length_append,(ZdJ _).len,List.length_map,hinl,List.length_drop,Zhq];omega) hw hfr;rw [List.length_map,hinl] at hfin;exact ⟨_,rfl,hfin⟩
theorem zvW (w : nW):(zeroValue wtT).run prog w=.ok (.agg #[nI 0,nI 0,nI 0,nI 0,.float .f64 0]) w:=by
 rw [zeroValue192 ]
theorem ZlI {s:Sl} {l:List Wt} {k:Nat} (hl:l.length<=1000000000) (hk:k<l.length) (hw:Sat R (Zs 5 s wtT (l.map wtV)::Hs) w):
  Zm prog 176 #[.slice s.a s.len s.cap,nI k,nI ((k + 1:Nat):Int)] w λ v w'=>∃ t:Sl,v=.slice t.a t.len t.cap/\Sat R (Zs 5 t wtT ((l.take k++l.drop (k + 1)).map wtV)::Hs) w':=by
 have hlen:=Zs.len hw;have hcap:=Zs.cap (by omega) hw;rw [List.length_map] at hlen;apply Zy7;unfold B176;simp only [Int.toNat_natCast];refine ⟨by omega,by omega,by omega,by omega,by omega,by omega,Br.e (λ h=>by omega) (λ _=>?_)⟩;refine Zo hw λ w hw=>⟨by omega,by omega,by omega,by omega,?_⟩;refine Ztd (z:=.agg #[nI 0,nI 0,nI 0,nI 0,.float .f64 0]) (i:=k) (j:=k + 1) (rows:=l.map wtV) elW.ht elW.hi zvW rfl (λ m v hv=>?_) (ZjC l) (by omega) (by omega) (by rw [List.length_map];omega) hw λ t w hw=>⟨t,rfl,?_⟩
 ·unfold Builtin.zeroCells at hv
  rw [Array.mem_toList_iff,Array.mem_map] at hv;obtain ⟨i,_,rfl⟩:=hv;have h5:i % 5<5:=Nat.mod_lt _ (by omega);show ((#[nI 0,nI 0,nI 0,nI 0,.float .f64 0]:Array Value)[i % 5]!).oneCell'=true;generalize i % 5=j at h5
  match j,h5 with
  |0,_=>rfl
  |1,_=>rfl
  |2,_=>rfl
  |3,_=>rfl
  |4,_=>rfl
 ·rw [List.map_append,List.map_take,List.map_drop]
  exact hw
end
end Go.Proofs.YtlplemdmegpoeaaGreatDoor
