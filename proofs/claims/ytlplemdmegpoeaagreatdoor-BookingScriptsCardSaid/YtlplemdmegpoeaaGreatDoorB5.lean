/- The formulas of functions of this seat's translation, printed by a program of mine off the translation; each is proved equal to 'fnF' of the function's body, so it is enough for the call. No condition. -/
import Derived.Test.YtlplemdmegpoeaaGreatDoorB4
import Derived.Test.YtlplemdmegpoeaaGreatDoorB2
import Derived.Test.YtlplemdmegpoeaaGreatDoorB1
import Derived.ProofKit
import Derived.OpenShut
import Derived.ShutString
import Derived.ChangeOld
import Derived.Below
import Derived.Lib.SmallJoins
import Derived.Maps.RangeRun
set_option linter.unusedVariables false
set_option linter.unusedSimpArgs false
set_option maxHeartbeats 8000000
namespace Go.Proofs.YtlplemdmegpoeaaGreatDoor
section
open Go Go.VC Tryz
set_option maxRecDepth 10000
def B37 (c:Bool) (b:Int) (a:List PanicEntry->World->Prop) (K:nK) (w : nW):Prop:=
 Br (!c)
 (a [⟨.iface 29 (nI b),false,false⟩] w)
 (K (.tuple #[]) w)
theorem Zyf (c:Bool) (b:Int) (a:List PanicEntry->World->Prop) (K:nK) (w : nW) (h:B37 c b a K w):Zcg prog 37 #[.bool c,nI b] w a K:=cqx (sk:=.leaf) h func37
def B99 (a:Int) (b:List PanicEntry->World->Prop) (K:nK) (w : nW):Prop:=
 Br (a !=0)
 (b [⟨.iface 29 (nI a),false,false⟩] w)
 (K (.tuple #[]) w)
theorem ZxI (b:Int) (a:List PanicEntry->World->Prop) (K:nK) (w : nW) (h:B99 b a K w):Zcg prog 99 #[nI b] w a K:=cqx (sk:=.leaf) h func99
def B36 (g:Option Addr) (b:Value) (K:World->Prop) (w : nW):Prop:=
 ∃ c:Bool,(∀ a,(λ a=>a=w) a->((do eqGuard BinOp.neq 20 (Operand.tmp 4) (Operand.const Value.nilIface) b .nilIface;binOp BinOp.neq 20 b .nilIface:Sem Value)).run prog a=.ok (.bool c) a)/\
 Br c
 (∃ d:Int,(∀ a,(λ a=>a=w) a->((Instr.typeAssert b 20 29 false)).run prog a=.ok (nI d) a)/\
 Zb g λ f=>
 ∃ e,(St 33 (f) (.agg #[nI d,.string (ByteArray.mk #[]),nI 0,nI 0,nI 0,nI 0,nI 0,.slice none 0 0,.slice none 0 0]) w e)/\
 K e)
 (K w)
theorem Zu6 (b:Option Addr) (a:Value) (K:World->Prop) (w : nW) (h:B36 b a K w):CallsD prog 36 #[.pointer b] (.panicking [⟨a,false,false⟩]) w λ c d e=>(∃ f,c=.returned f)/\d=.panicking [⟨a,true,false⟩]/\K e:=
 Zp0 (sk:=.leaf) ZrC mixed func36 (by kernel_rfl) (Nat.le_of_ble_eq_true (by kernel_rfl)) (cast (by kernel_rfl) h)
theorem Zu5 (a:Option Addr) (K:World->Prop) (w : nW) (h:B36 a .nilIface K w):CallsD prog 36 #[.pointer a] .returning w λ b c d=>(∃ e,b=.returned e)/\c=.returning/\K d:=
 Zoj (sk:=.leaf) ZrC mixed func36 (by kernel_rfl) (Nat.le_of_ble_eq_true (by kernel_rfl)) (cast (by kernel_rfl) h)
def B38 (Q:Int) (T:ByteArray) (U:Int) (V:Int) (X:Int) (Y:Int) (Z:Nat) (aa:ByteArray) (ab:Int) (r:Sl) (q:Sl) (K:nK) (w : nW):Prop:=
 New (.cells #[nI Q,.string T,nI U,nI V,nI X,nI Y,.float .f64 Z,.string aa,nI ab,r.v,q.v] 40 (0,0)) (λ c j=>
 ∃ H,(Aw j ⟨c,0 + 2,none⟩ [nI H])/\
 ∃ u,(Aw j ⟨c,0 + 3,none⟩ [nI u])/\
 ∃ v,(Aw j ⟨c,0 + 4,none⟩ [nI v])/\
 ∃ x,(Aw j ⟨c,0 + 8,none⟩ [nI x])/\
 New (.cells #[nI H,nI u,nI v,nI x] 3 (0,0)) (λ O J=>
 ∃ g:Sl,(Aw J ⟨c,0 + 8 + 1,none⟩ [g.v])/\
 ∃ L:World,∃ i:Sl,((Builtin.append_ #[30,30] 30 #[.slice ((some ⟨O,0,none⟩)) 4 4,g.v]).run prog J=.ok (i.v) L)/\
 ∃ (n:Int->World->Prop) (M:Int->World->Nat),(n 0 L)/\∀ (ad:Env) (f:Int) (e:World),n f e->
 Br (decide (f<(↑i.len:Int)))
 (Rng f i.len (Zb i.a λ N=>
 ∃ y,(Aw e (Addr.add N f.toNat) [nI y])/\
 nC 97 #[nI y] e λ ac s=>
 ∃ z,(ac=.returned (.bool z))/\
 Br z
 (K (.bool false) s)
 ((n (wI (f + 1)) s)/\M (wI (f + 1)) s<M f e)))
 (∃ (o:Bool->World->Prop),(∃ A,(Aw e ⟨c,0 + 1,none⟩ [.string A])/\
 Br (decide ((↑A.size:Int)<=16))
 (∃ C,(Aw e ⟨c,0 + 7,none⟩ [.string C])/\
 o (decide ((↑C.size:Int)<=16)) e)
 (o false e))/\
 ∀ (ae:Env) (I:Bool) (k:World),o I k->
 ∃ (p:Bool->World->Prop),(∃ l:Sl,(Aw k ⟨c,0 + 8 + 1,none⟩ [l.v])/\
 Br (decide ((↑l.len:Int)<=16))
 (∃ m:Sl,(Aw k ⟨c,0 + 10,none⟩ [m.v])/\
 p (decide ((↑m.len:Int)<=16)) k)
 (p false k))/\
 ∀ (af:Env) (t:Bool) (d:World),p t d->
 Br I
 (Br t
 (∃ D,(Aw d ⟨c,0,none⟩ [nI D])/\
 Br (decide (D >= 1))
 (∃ E,(Aw d ⟨c,0,none⟩ [nI E])/\
 Br (decide (E<=9))
 (∃ F,(Aw d ⟨c,0 + 5,none⟩ [nI F])/\
 Br (decide (F >= 0))
 (∃ G,(Aw d ⟨c,0 + 5,none⟩ [nI G])/\
 K (.bool (decide (G<=1099511627776))) d)
 (K (.bool false) d))
 (K (.bool false) d))
 (K (.bool false) d))
 (K (.bool false) d))
 (K (.bool false) d))) j) w
def sk38:Sk:=(.seq .leaf (.seq .leaf (.seq (.seq .leaf (.block (.loop [23] [(.int .i64)] [2,5,23,24,25,26,27,28,29,30] .leaf))) (.cut [6] [.bool] [6,31,32,33,34,35,36,37,38,39,40] .leaf (.cut [7] [.bool] [7,41,42,43,44,45,46,47,48,49,50,51] .leaf .leaf)))))
theorem Zye (d:Int) (e:ByteArray) (f:Int) (g:Int) (i:Int) (j:Int) (k:Nat) (l:ByteArray) (m:Int) (c:Sl) (b:Sl) (K:nK) (w : nW) (h:B38 d e f g i j k l m c b K w):Zk prog 38 #[.agg #[nI d,.string e,nI f,nI g,nI i,nI j,.float .f64 k,.string l,nI m,c.v,b.v]] w K:=cq (sk:=sk38) h func38
def B97 (a:Int) (K:nK) (w : nW):Prop:=
 Br (decide (a<0))
 (K (.bool true) w)
 (K (.bool (decide (a>9999))) w)
theorem ZxK (a:Int) (K:nK) (w : nW) (h:B97 a K w):Zk prog 97 #[nI a] w K:=cq (sk:=.leaf) h func97
def B10  (K:nK) (w : nW):Prop:=
 New (.map #[] 0) (λ a d=>
 New (.map #[] 0) (λ b e=>
 New (.cells #[nI 0,nI 1,.map ((some a)),.map ((some b))] 80 (0,0)) (λ c f=>
 K (.pointer ((some ⟨c,0,none⟩))) f) e) d) w
theorem Zyp  (K:nK) (w : nW) (h:B10  K w):Zk prog 10 #[] w K:=cq (sk:=.leaf) h func10
def B60 (m:Option Addr) (i:Sl) (K:nK) (w : nW):Prop:=
 ∃ (g:Int->World->Prop) (p:Int->World->Nat),(g 0 w)/\∀ (x:Env) (b:Int) (f:World),g b f->
 Br (decide (b<(↑i.len:Int)))
 (Rng b i.len (Zb i.a λ q=>
 ∃ j,(Aw f (Addr.add q b.toNat) [nI j])/\
 Drw f λ l v=>
 Zb m λ r=>
 ∃ c:Sl,(At l (Addr.add r 0) [c.v])/\
 nC 128 #[.int .u64 (IntKind.u64.wrap (if 0>j then 0 else j))] v λ t n=>
 ∃ d:Sl,(t=.returned (d.v))/\
 (l n)/\
 ∃ o:World,∃ e:Sl,((Builtin.append_ #[47,47] 47 #[c.v,d.v]).run prog n=.ok (e.v) o)/\
 Zb m λ s=>
 ∃ k,(St 47 (Addr.add s 0) (e.v) o k)/\
 (g (wI (b + 1)) k)/\p (wI (b + 1)) k<p b f))
 (K (.tuple #[]) f)
def sk60:Sk:=(.seq .leaf (.block (.loop [8] [(.int .i64)] [5,8,9,10,11,12,13,14,15,16,17,18,19,20,21,22,23,24] .leaf)))
theorem ZxT (c:Option Addr) (b:Sl) (K:nK) (w : nW) (h:B60 c b K w):Zk prog 60 #[.pointer c,b.v] w K:=cq (sk:=sk60) h func60
def B63 (g:Option Addr) (e:Sl) (K:nK) (w : nW):Prop:=
 Drw w λ f o=>
 Zb g λ m=>
 ∃ d:Sl,(At f (Addr.add m 0) [d.v])/\
 nC 83 #[e.v] o λ n i=>
 ∃ b:Sl,(n=.returned (b.v))/\
 (f i)/\
 ∃ j:World,∃ c:Sl,((Builtin.append_ #[47,47] 47 #[d.v,b.v]).run prog i=.ok (c.v) j)/\
 Zb g λ l=>
 ∃ k,(St 47 (Addr.add l 0) (c.v) j k)/\
 K (.tuple #[]) k
theorem ZxS (c:Option Addr) (b:Sl) (K:nK) (w : nW) (h:B63 c b K w):Zk prog 63 #[.pointer c,b.v] w K:=cq (sk:=.leaf) h func63
def B15 (c:Option Addr) (K:nK) (w : nW):Prop:=
 Zb c λ b=>
 ∃ a,(Aw w (Addr.add b 0) [nI a])/\
 K (nI a) w
theorem Zyl (a:Option Addr) (K:nK) (w : nW) (h:B15 a K w):Zk prog 15 #[.pointer a] w K:=cq (sk:=.leaf) h func15
def B43 (s:Option Addr) (t:ByteArray) (c:List PanicEntry->World->Prop) (K:nK) (w : nW):Prop:=
 nC 108 #[.string t] w λ i q=>
 (∃ l m,(i=.returned (.tuple #[nI l,nI m]))/\
 nC 99 #[nI m] q λ j b=>
 ((j=.returned (.tuple #[]))/\
 Zb s λ d=>
 ∃ n:Option Nat,(Aw b (nO d 3) [.map n])/\
 ∃ o:Option Addr,∃ p:Bool,(∀ a,(λ a=>a=b) a->((Instr.lookup 78 (.map n) (nI l) true)).run prog a=.ok (.tuple #[.pointer o,.bool p]) a)/\
 nC 37 #[.bool p,nI 2] b λ k r=>
 ((k=.returned (.tuple #[]))/\
 K (.pointer o) r)\/
 (∃ g:List PanicEntry,(k=.panicked g)/\c g r))\/
 (∃ f:List PanicEntry,(j=.panicked f)/\c f b))\/
 (∃ e:List PanicEntry,(i=.panicked e)/\c e q)
theorem Zya (b:Option Addr) (c:ByteArray) (a:List PanicEntry->World->Prop) (K:nK) (w : nW) (h:B43 b c a K w):Zcg prog 43 #[.pointer b,.string c] w a K:=cqx (sk:=.leaf) h func43
def B54 (u:Option Addr) (v:Int) (t:List PanicEntry->World->Prop) (K:nK) (w : nW):Prop:=
 New (.cells #[.pointer none,.pointer none] 97 (0,0)) (λ g b=>
 Zb u λ e=>
 ∃ k:Option Nat,(Aw b (nO e 2) [.map k])/\
 ∃ l m:Option Addr,∃ n:Bool,(∀ a,(λ a=>a=b) a->((Instr.lookup 77 (.map k) (nI v) true)).run prog a=.ok (.tuple #[.agg #[.pointer l,.pointer m],.bool n]) a)/\
 New (.cells #[.pointer none,.pointer none] 97 (0,0)) (λ f x=>
 ∃ s,(St 97 ⟨f,0,none⟩ (.agg #[.pointer l,.pointer m]) x s)/\
 nC 37 #[.bool n,nI 2] s λ j c=>
 ((j=.returned (.tuple #[]))/\
 ∃ o p,(Aw c ⟨f,0,none⟩ [.pointer o,.pointer p])/\
 ∃ d,(St 97 ⟨g,0,none⟩ (.agg #[.pointer o,.pointer p]) c d)/\
 ∃ q r,(Aw d ⟨g,0,none⟩ [.pointer q,.pointer r])/\
 K (.agg #[.pointer q,.pointer r]) d)\/
 (∃ i:List PanicEntry,(j=.panicked i)/\t i c)) b) w
theorem ZxZ (b:Option Addr) (c:Int) (a:List PanicEntry->World->Prop) (K:nK) (w : nW) (h:B54 b c a K w):Zcg prog 54 #[.pointer b,nI c] w a K:=cqx (sk:=.leaf) h func54
def B103 (E:Option Addr) (b2:Int) (K:nK) (w : nW):Prop:=
 Zb E λ D=>
 ∃ J:Option Nat,(Aw w (nO D 2) [.map J])/\
 ∃ L M:Option Addr,(∀ b,(λ b=>b=w) b->((Instr.lookup 77 (.map J) (nI b2) false)).run prog b=.ok (.agg #[.pointer L,.pointer M]) b)/\
 New (.cells #[.pointer none,.pointer none] 97 (0,0)) (λ f b5=>
 ∃ bd,(St 97 ⟨f,0,none⟩ (.agg #[.pointer L,.pointer M]) b5 bd)/\
 ∃ (l:Option Addr->Bool->World->Prop),(Drw bd λ c bh=>
 ∃ o,(At c ⟨f,0 + 1,none⟩ [.pointer o])/\
 ∃ s,(At c ⟨f,0,none⟩ [.pointer s])/\
 (nC 55 #[.pointer s] bh λ bs x=>
 ∃ d:Sl,(bs=.returned (d.v))/\
 (c x)/\
 (nC 174 #[.pointer o,d.v] x λ bt bi=>
 ∃ N O ab ac ad ae,(bt=.returned (.tuple #[.agg #[nI N,nI O,nI ab,nI ac,.float .f64 ad],.bool ae]))/\
 (c bi)/\
 New (.cells #[nI 0,nI 0,nI 0,nI 0,.float .f64 0] 168 (0,0)) (λ F bj=>
 (c bj)/\
 ∃ bk,(St 168 ⟨F,0,none⟩ (.agg #[nI N,nI O,nI ab,nI ac,.float .f64 ad]) bj bk)/\
 l ((some ⟨F,0,none⟩)) ae bk) bi)/\
 New (.cells #[nI 0,nI 0,nI 0,nI 0,.float .f64 0] 168 (0,0)) (λ G bl=>
 (c bl)/\
 nC 174 #[.pointer o,d.v] bl λ bu bm=>
 ∃ af ag ah ai Q T,(bu=.returned (.tuple #[.agg #[nI af,nI ag,nI ah,nI ai,.float .f64 Q],.bool T]))/\
 (c bm)/\
 ∃ a7,(St 168 ⟨G,0,none⟩ (.agg #[nI af,nI ag,nI ah,nI ai,.float .f64 Q]) bm a7)/\
 l ((some ⟨G,0,none⟩)) T a7) x)/\
 New (.cells #[nI 0,nI 0,nI 0,nI 0,.float .f64 0] 168 (0,0)) (λ H a8=>
 (c a8)/\
 nC 55 #[.pointer s] a8 λ bv a9=>
 ∃ g:Sl,(bv=.returned (g.v))/\
 (c a9)/\
 nC 174 #[.pointer o,g.v] a9 λ bw ba=>
 ∃ U V X Y Z aa,(bw=.returned (.tuple #[.agg #[nI U,nI V,nI X,nI Y,.float .f64 Z],.bool aa]))/\
 (c ba)/\
 ∃ bb,(St 168 ⟨H,0,none⟩ (.agg #[nI U,nI V,nI X,nI Y,.float .f64 Z]) ba bb)/\
 l ((some ⟨H,0,none⟩)) aa bb) bh)/\
 ∀ (ca:Env) (a6:Option Addr) (I:Bool) (bc:World),l a6 I bc->
 ∃ (p:Option Addr->Bool->World->Prop) (bn:Option Addr->Bool->World->Nat),(p a6 I bc)/\∀ (cb:Env) (e:Option Addr) (r:Bool) (j:World),p e r j->
 Br r
 (∃ aq,(Aw j ⟨f,0 + 1,none⟩ [.pointer aq])/\
 Zb e λ bo=>
 ∃ ar,(Aw j (Addr.add bo 0) [nI ar])/\
 nC 105 #[.pointer aq,nI ar] j λ bx k=>
 ∃ b3,(bx=.returned (nI b3))/\
 ∃ au,(Aw k ⟨f,0,none⟩ [.pointer au])/\
 Zb e λ bp=>
 ∃ av,(Aw k (Addr.add bp 0) [nI av])/\
 Zb e λ y=>
 ∃ aw,(Aw k (nO y 1) [nI aw])/\
 Zb e λ z=>
 ∃ ax,(Aw k (nO z 2) [nI ax])/\
 nC 101 #[.pointer au,nI av,nI aw,nI ax] k λ bz b6=>
 ∃ b4,(bz=.returned (nI b4))/\
 Drw b6 λ q b7=>
 Zb E λ A=>
 ∃ ay:Option Nat,(At q (nO A 3) [.map ay])/\
 Zb e λ bq=>
 ∃ az,(At q (Addr.add bq 0) [nI az])/\
 ∃ a0:Option Addr,(∀ b,q b->((Instr.lookup 78 (.map ay) (nI az) false)).run prog b=.ok (.pointer a0) b)/\
 Zb a0 λ C=>
 ∃ u,(St 3 (nO C 4) (nI 2) b7 u)/\
 Zb e λ br=>
 ∃ a1 a2 a3 a4 a5,(Aw u br [nI a1,nI a2,nI a3,nI a4,.float .f64 a5])/\
 New (.cells #[nI 0,nI 0,nI 0,nI 0,.float .f64 0] 168 (0,0)) (λ n b8=>
 ∃ be,(St 168 ⟨n,0,none⟩ (.agg #[nI a1,nI a2,nI a3,nI a4,.float .f64 a5]) b8 be)/\
 Drw be λ m b9=>
 ∃ aj,(At m ⟨f,0 + 1,none⟩ [.pointer aj])/\
 ∃ ak,(At m ⟨f,0,none⟩ [.pointer ak])/\
 nC 55 #[.pointer ak] b9 λ b0 bf=>
 ∃ i:Sl,(b0=.returned (i.v))/\
 (m bf)/\
 nC 174 #[.pointer aj,i.v] bf λ b1 bg=>
 ∃ al am an ao ap t,(b1=.returned (.tuple #[.agg #[nI al,nI am,nI an,nI ao,.float .f64 ap],.bool t]))/\
 (m bg)/\
 ∃ v,(St 168 ⟨n,0,none⟩ (.agg #[nI al,nI am,nI an,nI ao,.float .f64 ap]) bg v)/\
 (p ((some ⟨n,0,none⟩)) t v)/\bn ((some ⟨n,0,none⟩)) t v<bn e r j) u)
 (K (.tuple #[]) j)) w
def ZzG:Sk:=(.seq .leaf (.cut [5,6] [.ptr,.bool] [5,6,13,14,15,16,17,18,19,20,21] .leaf (.block (.loop [5,6] [.ptr,.bool] [5,6,22,23,24,25,26,27,28,29,30,31,32,33,34,35,36,37,38,39,40,41,42,43,44,45,46,47,48,49,50,51,52,53,54,55] .leaf))))
theorem ZwS (a:Option Addr) (b:Int) (K:nK) (w : nW) (h:B103 a b K w):Zk prog 103 #[.pointer a,nI b] w K:=cq (sk:=ZzG) h func103
def B53 (ac:Option Addr) (c:Option Addr) (K:nK) (w : nW):Prop:=
 New (.cells #[nI 0,.string (ByteArray.mk #[]),nI 0,nI 0,nI 0,nI 0,nI 0,.slice none 0 0,.slice none 0 0] 33 (0,0)) (λ u ah=>
 Drw ah λ j ai=>
 Zb ac λ t=>
 ∃ v:Option Nat,(At j (nO t 2) [.map v])/\
 Zb c λ n=>
 ∃ x,(At j (nO n 1) [nI x])/\
 ∃ y z:Option Addr,(∀ d,j d->((Instr.lookup 77 (.map v) (nI x) false)).run prog d=.ok (.agg #[.pointer y,.pointer z]) d)/\
 New (.cells #[.pointer none,.pointer none] 97 (0,0)) (λ k X=>
 (j X)/\
 ∃ l,(St 97 ⟨k,0,none⟩ (.agg #[.pointer y,.pointer z]) X l)/\
 Zb c λ aa=>
 ∃ A,(Aw l (Addr.add aa 0) [nI A])/\
 nC 121 #[nI A] l λ ad aj=>
 ∃ C ag,(ad=.returned (.tuple #[.string C,nI ag]))/\
 Drw aj λ b ak=>
 Zb c λ o=>
 ∃ D,(At b (nO o 4) [nI D])/\
 Zb c λ p=>
 ∃ E,(At b (nO p 1) [nI E])/\
 Zb c λ q=>
 ∃ F,(At b (nO q 2) [nI F])/\
 Zb c λ r=>
 ∃ G,(At b (nO r 3) [nI G])/\
 Zb c λ s=>
 ∃ H,(At b (nO s 5) [nI H])/\
 ∃ I,(At b ⟨k,0,none⟩ [.pointer I])/\
 ∃ J,(At b ⟨k,0,none⟩ [.pointer J])/\
 Zb c λ ab=>
 ∃ L,(At b (Addr.add ab 0) [nI L])/\
 nC 55 #[.pointer I] ak λ ae Y=>
 ∃ e:Sl,(ae=.returned (e.v))/\
 (b Y)/\
 nC 122 #[.pointer J,nI L] Y λ af Z=>
 ∃ f:Sl,(af=.returned (f.v))/\
 (b Z)/\
 ∃ m,(St 33 ⟨u,0,none⟩ (.agg #[nI 0,.string C,nI D,nI E,nI F,nI G,nI H,e.v,f.v]) Z m)/\
 ∃ M N O Q T U V,∃ g i:Sl,(Aw m ⟨u,0,none⟩ [nI M,.string N,nI O,nI Q,nI T,nI U,nI V,g.v,i.v])/\
 K (.agg #[nI M,.string N,nI O,nI Q,nI T,nI U,nI V,g.v,i.v]) m) ai) w
theorem Zx0 (a:Option Addr) (b:Option Addr) (K:nK) (w : nW) (h:B53 a b K w):Zk prog 53 #[.pointer a,.pointer b] w K:=cq (sk:=.leaf) h func53
def B39 (o:Option Addr) (aw:Int) (ax:ByteArray) (ay:Int) (az:Int) (a0:Int) (a1:Int) (a2:Nat) (a3:ByteArray) (a4:Int) (q:Sl) (p:Sl) (c:List PanicEntry->World->Prop) (K:nK) (w : nW):Prop:=
 New (.cells #[nI aw,.string ax,nI ay,nI az,nI a0,nI a1,.float .f64 a2,.string a3,nI a4,q.v,p.v] 40 (0,0)) (λ d a5=>
 New (.cells #[nI 0,.string (ByteArray.mk #[]),nI 0,nI 0,nI 0,nI 0,nI 0,.slice none 0 0,.slice none 0 0] 33 (0,0)) (λ A a8=>
 Drw a8 λ l a9=>
 Zb o λ x=>
 ∃ Q:Option Nat,(At l (nO x 2) [.map Q])/\
 ∃ T,(At l ⟨d,0 + 2,none⟩ [nI T])/\
 ∃ U V:Option Addr,∃ X:Bool,(∀ b,l b->((Instr.lookup 77 (.map Q) (nI T) true)).run prog b=.ok (.tuple #[.agg #[.pointer U,.pointer V],.bool X]) b)/\
 New (.cells #[.pointer none,.pointer none] 97 (0,0)) (λ av ap=>
 (l ap)/\
 ∃ aq,(St 97 ⟨av,0,none⟩ (.agg #[.pointer U,.pointer V]) ap aq)/\
 nC 37 #[.bool (!X),nI 7] aq λ I m=>
 ((I=.returned (.tuple #[]))/\
 Zb o λ y=>
 ∃ Y:Option Nat,(Aw m (nO y 2) [.map Y])/\
 ∃ Z:Int,(∀ b,(λ b=>b=m) b->((Builtin.len_ #[77] 3 #[.map Y])).run prog b=.ok (nI Z) b)/\
 nC 37 #[.bool (decide (Z<8)),nI 3] m λ J k=>
 ((J=.returned (.tuple #[]))/\
 ∃ aa,(Aw k ⟨d,0 + 2,none⟩ [nI aa])/\
 ∃ ab,∃ e:Sl,(Aw k ⟨d,0 + 8,none⟩ [nI ab,e.v])/\
 ∃ f:Sl,(Aw k ⟨d,0 + 10,none⟩ [f.v])/\
 nC 98 #[nI aa,.agg #[nI ab,e.v],f.v] k λ L ar=>
 (∃ r ac,(L=.returned (.tuple #[.pointer r,nI ac]))/\
 nC 99 #[nI ac] ar λ M au=>
 ((M=.returned (.tuple #[]))/\
 Drw au λ n a6=>
 Zb o λ z=>
 ∃ ad:Option Nat,(At n (nO z 2) [.map ad])/\
 ∃ ae,(At n ⟨d,0 + 2,none⟩ [nI ae])/\
 nC 100 #[] a6 λ N s=>
 (∃ af,(N=.returned (.pointer af))/\
 (n s)/\
 ∃ ao:World,((Instr.mapUpdate 77 (.map ad) (nI ae) (.agg #[.pointer r,.pointer af])).run prog s=.ok () ao)/\
 Drw ao λ v a7=>
 ∃ ag,(At v ⟨d,0 + 2,none⟩ [nI ag])/\
 nC 55 #[.pointer r] a7 λ O t=>
 (∃ g:Sl,(O=.returned (g.v))/\
 (v t)/\
 ∃ u,(St 33 ⟨A,0,none⟩ (.agg #[nI 0,.string (ByteArray.mk #[]),nI 0,nI ag,nI 0,nI 0,nI 0,g.v,.slice none 0 0]) t u)/\
 ∃ ah ai aj ak al am an,∃ i j:Sl,(Aw u ⟨A,0,none⟩ [nI ah,.string ai,nI aj,nI ak,nI al,nI am,nI an,i.v,j.v])/\
 K (.agg #[nI ah,.string ai,nI aj,nI ak,nI al,nI am,nI an,i.v,j.v]) u)\/
 (∃ H:List PanicEntry,(O=.panicked H)/\c H t))\/
 (∃ G:List PanicEntry,(N=.panicked G)/\c G s))\/
 (∃ F:List PanicEntry,(M=.panicked F)/\c F au))\/
 (∃ E:List PanicEntry,(L=.panicked E)/\c E ar))\/
 (∃ D:List PanicEntry,(J=.panicked D)/\c D k))\/
 (∃ C:List PanicEntry,(I=.panicked C)/\c C m)) a9) a5) w
theorem Zyd (e:Option Addr) (f:Int) (g:ByteArray) (i:Int) (j:Int) (k:Int) (l:Int) (m:Nat) (n:ByteArray) (o:Int) (c:Sl) (b:Sl) (d:List PanicEntry->World->Prop) (K:nK) (w : nW) (h:B39 e f g i j k l m n o c b d K w):Zcg prog 39 #[.pointer e,.agg #[nI f,.string g,nI i,nI j,nI k,nI l,.float .f64 m,.string n,nI o,c.v,b.v]] w d K:=cqx (sk:=.leaf) h func39
def B40 (d:Option Addr) (da:Int) (db:ByteArray) (dc:Int) (dd:Int) (de:Int) (df:Int) (dg:Nat) (dh:ByteArray) (di:Int) (H:Sl) (G:Sl) (c:List PanicEntry->World->Prop) (K:nK) (w : nW):Prop:=
 New (.cells #[nI da,.string db,nI dc,nI dd,nI de,nI df,.float .f64 dg,.string dh,nI di,H.v,G.v] 40 (0,0)) (λ e dj=>
 New (.cells #[nI 0,.string (ByteArray.mk #[]),nI 0,nI 0,nI 0,nI 0,nI 0,.slice none 0 0,.slice none 0 0] 33 (0,0)) (λ x c0=>
 ∃ cf,(Aw c0 ⟨e,0 + 2,none⟩ [nI cf])/\
 nC 54 #[.pointer d,nI cf] c0 λ aq c4=>
 (∃ a5 ba,(aq=.returned (.agg #[.pointer a5,.pointer ba]))/\
 New (.cells #[.pointer none,.pointer none] 97 (0,0)) (λ v dp=>
 ∃ c7,(St 97 ⟨v,0,none⟩ (.agg #[.pointer a5,.pointer ba]) dp c7)/\
 Drw c7 λ i dq=>
 Zb d λ Z=>
 ∃ bt,(At i (nO Z 1) [nI bt])/\
 ∃ bu,(At i ⟨e,0 + 2,none⟩ [nI bu])/\
 ∃ bv,(At i ⟨e,0 + 3,none⟩ [nI bv])/\
 ∃ bw,(At i ⟨e,0 + 4,none⟩ [nI bw])/\
 ∃ bx,(At i ⟨e,0 + 5,none⟩ [nI bx])/\
 New (.cells #[nI bt,nI bu,nI bv,nI bw,nI 1,nI bx] 121 (0,0)) (λ f A=>
 (i A)/\
 ∃ (C:World->Prop),(∃ bz,(Aw A ⟨e,0,none⟩ [nI bz])/\
 Br (bz==2)
 (Drw A λ F dr=>
 ∃ b0,(At F ⟨e,0 + 5,none⟩ [nI b0])/\
 Zb d λ c8=>
 ∃ b1,(At F (Addr.add c8 0) [nI b1])/\
 nC 37 #[.bool (decide (b0>b1)),nI 1] dr λ ar U=>
 ((ar=.returned (.tuple #[]))/\
 (F U)/\
 C  U)\/
 (∃ ae:List PanicEntry,(ar=.panicked ae)/\c ae U))
 (Drw A λ u dk=>
 ∃ b2,(At u ⟨e,0 + 3,none⟩ [nI b2])/\
 ∃ b3,(At u ⟨v,0,none⟩ [.pointer b3])/\
 nC 55 #[.pointer b3] dk λ ax I=>
 (∃ y:Sl,(ax=.returned (y.v))/\
 (u I)/\
 nC 37 #[.bool (decide (b2<(↑y.len:Int))),nI 1] I λ ay J=>
 ((ay=.returned (.tuple #[]))/\
 (u J)/\
 ∃ cw,(St 3 ⟨f,0 + 4,none⟩ (nI 3) J cw)/\
 ∃ cx,(St 3 ⟨f,0 + 5,none⟩ (nI 0) cw cx)/\
 C  cx)\/
 (∃ aj:List PanicEntry,(ay=.panicked aj)/\c aj J))\/
 (∃ ai:List PanicEntry,(ax=.panicked ai)/\c ai I)))/\
 ∀ (ds:Env)  (r:World),C  r->
 ∃ (D:World->Prop),(Zb d λ ab=>
 ∃ b4:Option Nat,(Aw r (nO ab 3) [.map b4])/\
 ∃ b5:Int,(∀ b,(λ b=>b=r) b->((Builtin.len_ #[78] 3 #[.map b4])).run prog b=.ok (nI b5) b)/\
 Br (decide (b5<300))
 (Zb d λ ac=>
 ∃ b6,(Aw r (nO ac 1) [nI b6])/\
 nC 37 #[.bool (decide (b6<28629151)),nI 3] r λ az cy=>
 ((az=.returned (.tuple #[]))/\
 D  cy)\/
 (∃ ak:List PanicEntry,(az=.panicked ak)/\c ak cy))
 (nC 37 #[.bool false,nI 3] r λ a0 cz=>
 ((a0=.returned (.tuple #[]))/\
 D  cz)\/
 (∃ al:List PanicEntry,(a0=.panicked al)/\c al cz)))/\
 ∀ (dt:Env)  (z:World),D  z->
 ∃ (E:World->Prop),(∃ b7,(Aw z ⟨e,0,none⟩ [nI b7])/\
 Br (b7==2)
 (Drw z λ s dl=>
 ∃ b8,(At s ⟨v,0,none⟩ [.pointer b8])/\
 ∃ b9,(At s ⟨f,0,none⟩ [nI b9])/\
 ∃ ca,(At s ⟨f,0 + 2,none⟩ [nI ca])/\
 ∃ cb,(At s ⟨f,0 + 3,none⟩ [nI cb])/\
 nC 101 #[.pointer b8,nI b9,nI ca,nI cb] dl λ a1 c1=>
 (∃ cc,(a1=.returned (nI cc))/\
 nC 99 #[nI cc] c1 λ a2 L=>
 ((a2=.returned (.tuple #[]))/\
 (s L)/\
 E  L)\/
 (∃ an:List PanicEntry,(a2=.panicked an)/\c an L))\/
 (∃ am:List PanicEntry,(a1=.panicked am)/\c am c1))
 (Drw z λ g dm=>
 ∃ cd,(At g ⟨v,0 + 1,none⟩ [.pointer cd])/\
 ∃ ce,(At g ⟨f,0,none⟩ [nI ce])/\
 ∃ cg,(At g ⟨f,0 + 2,none⟩ [nI cg])/\
 ∃ ch,(At g ⟨f,0 + 3,none⟩ [nI ch])/\
 Zb d λ c9=>
 ∃ a6,(At g (Addr.add c9 0) [nI a6])/\
 ∃ a7,(At g ⟨e,0 + 6,none⟩ [.float .f64 a7])/\
 nC 102 #[.pointer cd,.agg #[nI ce,nI cg,nI ch,nI a6,.float .f64 a7]] dm λ a3 M=>
 (∃ a8,(a3=.returned (nI a8))/\
 (g M)/\
 nC 99 #[nI a8] M λ a4 N=>
 ((a4=.returned (.tuple #[]))/\
 (g N)/\
 E  N)\/
 (∃ ap:List PanicEntry,(a4=.panicked ap)/\c ap N))\/
 (∃ ao:List PanicEntry,(a3=.panicked ao)/\c ao M)))/\
 ∀ (du:Env)  (c2:World),E  c2->
 Drw c2 λ V dn=>
 Zb d λ X=>
 ∃ a9:Option Nat,(At V (nO X 3) [.map a9])/\
 ∃ bb,(At V ⟨f,0,none⟩ [nI bb])/\
 ∃ O:World,((Instr.mapUpdate 78 (.map a9) (nI bb) (.pointer ((some ⟨f,0,none⟩)))).run prog dn=.ok () O)/\
 Zb d λ Y=>
 ∃ bc,(Aw O (nO Y 1) [nI bc])/\
 Zb d λ aa=>
 ∃ t,(St 3 (nO aa 1) (nI (wI (bc + 1))) O t)/\
 ∃ bd,(Aw t ⟨e,0,none⟩ [nI bd])/\
 Br (bd==7)
 (∃ be,(Aw t ⟨e,0 + 2,none⟩ [nI be])/\
 nC 103 #[.pointer d,nI be] t λ au c3=>
 ((au=.returned (.tuple #[]))/\
 nC 53 #[.pointer d,.pointer ((some ⟨f,0,none⟩))] c3 λ av c5=>
 (∃ bf bg bn bo bp bq br,∃ l m:Sl,(av=.returned (.agg #[nI bf,.string bg,nI bn,nI bo,nI bp,nI bq,nI br,l.v,m.v]))/\
 ∃ Q,(St 33 ⟨x,0,none⟩ (.agg #[nI bf,.string bg,nI bn,nI bo,nI bp,nI bq,nI br,l.v,m.v]) c5 Q)/\
 ∃ ci cj cq cr cs ct cu,∃ p q:Sl,(Aw Q ⟨x,0,none⟩ [nI ci,.string cj,nI cq,nI cr,nI cs,nI ct,nI cu,p.v,q.v])/\
 K (.agg #[nI ci,.string cj,nI cq,nI cr,nI cs,nI ct,nI cu,p.v,q.v]) Q)\/
 (∃ ag:List PanicEntry,(av=.panicked ag)/\c ag c5))\/
 (∃ af:List PanicEntry,(au=.panicked af)/\c af c3))
 (nC 53 #[.pointer d,.pointer ((some ⟨f,0,none⟩))] t λ aw c6=>
 (∃ bs bh bi bj bk bl bm,∃ j k:Sl,(aw=.returned (.agg #[nI bs,.string bh,nI bi,nI bj,nI bk,nI bl,nI bm,j.v,k.v]))/\
 ∃ T,(St 33 ⟨x,0,none⟩ (.agg #[nI bs,.string bh,nI bi,nI bj,nI bk,nI bl,nI bm,j.v,k.v]) c6 T)/\
 ∃ cv ck cl cm cn co cp,∃ n o:Sl,(Aw T ⟨x,0,none⟩ [nI cv,.string ck,nI cl,nI cm,nI cn,nI co,nI cp,n.v,o.v])/\
 K (.agg #[nI cv,.string ck,nI cl,nI cm,nI cn,nI co,nI cp,n.v,o.v]) T)\/
 (∃ ah:List PanicEntry,(aw=.panicked ah)/\c ah c6))) dq) c4)\/
 (∃ ad:List PanicEntry,(aq=.panicked ad)/\c ad c4)) dj) w
def sk40:Sk:=(.seq .leaf (.seq .leaf (.seq .leaf (.cut [] [] [25,26,27,28,29,30,31,32,33,34,35,36,37,38,39,40,41,42,43,44,45,46,47,48,49] .leaf (.cut [] [] [50,51,52,53,54,55,56,57,58,59,60,61,62,63] .leaf (.cut [] [] [64,65,66,67,68,69,70,71,72,73,74,75,76,77,78,79,80,81,82,83,84,85,86,87,88,89,90,91,92,93,94,95,96,97,98,99,100,101,102,103,104,105] .leaf .leaf))))))
theorem ZtQ (e:Option Addr) (f:Int) (g:ByteArray) (i:Int) (j:Int) (k:Int) (l:Int) (m:Nat) (n:ByteArray) (o:Int) (c:Sl) (b:Sl) (d:List PanicEntry->World->Prop) (K:nK) (w : nW) (h:B40 e f g i j k l m n o c b d K w):Zcg prog 40 #[.pointer e,.agg #[nI f,.string g,nI i,nI j,nI k,nI l,.float .f64 m,.string n,nI o,c.v,b.v]] w d K:=cqx (sk:=sk40) h func40
def B41 (c:Option Addr) (bn:Int) (bo:ByteArray) (bp:Int) (bq:Int) (br:Int) (bs:Int) (bt:Nat) (bu:ByteArray) (bv:Int) (C:Sl) (A:Sl) (f:List PanicEntry->World->Prop) (K:nK) (w : nW):Prop:=
 New (.cells #[nI bn,.string bo,nI bp,nI bq,nI br,nI bs,.float .f64 bt,.string bu,nI bv,C.v,A.v] 40 (0,0)) (λ T bz=>
 New (.cells #[nI 0,.string (ByteArray.mk #[]),nI 0,nI 0,nI 0,nI 0,nI 0,.slice none 0 0,.slice none 0 0] 33 (0,0)) (λ U b1=>
 Drw b1 λ y b2=>
 ∃ ak,(At y ⟨T,0 + 5,none⟩ [nI ak])/\
 Zb c λ bh=>
 ∃ al,(At y (Addr.add bh 0) [nI al])/\
 nC 37 #[.bool (decide (ak >= al)),nI 7] b2 λ ad t=>
 ((ad=.returned (.tuple #[]))/\
 (y t)/\
 ∃ am,(Aw t ⟨T,0 + 5,none⟩ [nI am])/\
 Zb c λ bi=>
 ∃ G,(St 3 (Addr.add bi 0) (nI am) t G)/\
 Zb c λ H=>
 ∃ an:Option Nat,(Aw G (nO H 3) [.map an])/\
 nC 66 #[.map an] G λ ae bd=>
 (∃ ao:Value,(ae=.returned (ao))/\
 nC 61 #[ao] bd λ af be=>
 (∃ i:Sl,(af=.returned (i.v))/\
 ∃ (n:Int->World->Prop) (u:Int->World->Nat),(n 0 be)/\∀ (b3:Env) (d:Int) (e:World),n d e->
 Br (decide (d<(↑i.len:Int)))
 (Rng d i.len (Zb i.a λ bj=>
 ∃ p,(Aw e (Addr.add bj d.toNat) [nI p])/\
 Zb c λ I=>
 ∃ ap:Option Nat,(Aw e (nO I 3) [.map ap])/\
 ∃ q:Option Addr,(∀ b,(λ b=>b=e) b->((Instr.lookup 78 (.map ap) (nI p) false)).run prog b=.ok (.pointer q) b)/\
 ∃ (x:Bool->World->Prop),(Drw e λ z bf=>
 Zb q λ J=>
 ∃ aq,(At z (nO J 4) [nI aq])/\
 Br (aq==1)
 (Zb q λ L=>
 ∃ ar,(At z (nO L 5) [nI ar])/\
 Zb c λ bk=>
 ∃ au,(At z (Addr.add bk 0) [nI au])/\
 x (decide (ar<=au)) bf)
 (x false bf))/\
 ∀ (b4:Env) (av:Bool) (r:World),x av r->
 Br av
 (Drw r λ o b0=>
 Zb c λ M=>
 ∃ aw:Option Nat,(At o (nO M 2) [.map aw])/\
 Zb q λ N=>
 ∃ ax,(At o (nO N 1) [nI ax])/\
 ∃ ay bw:Option Addr,(∀ b,o b->((Instr.lookup 77 (.map aw) (nI ax) false)).run prog b=.ok (.agg #[.pointer ay,.pointer bw]) b)/\
 nC 104 #[.pointer ay,nI p] b0 λ ag s=>
 (∃ bx,(ag=.returned (nI bx))/\
 (o s)/\
 Zb c λ O=>
 ∃ az:Option Nat,(Aw s (nO O 3) [.map az])/\
 ∃ D:World,((Builtin.delete_ #[78,3] 0 #[.map az,nI p]).run prog s=.ok (.tuple #[]) D)/\
 (n (wI (d + 1)) D)/\u (wI (d + 1)) D<u d e)\/
 (∃ Z:List PanicEntry,(ag=.panicked Z)/\f Z s))
 ((n (wI (d + 1)) r)/\u (wI (d + 1)) r<u d e)))
 (Zb c λ Q=>
 ∃ a0:Option Nat,(Aw e (nO Q 2) [.map a0])/\
 nC 62 #[.map a0] e λ ah bb=>
 (∃ a1:Value,(ah=.returned (a1))/\
 nC 61 #[a1] bb λ ai bc=>
 (∃ j:Sl,(ai=.returned (j.v))/\
 ∃ (v:Int->World->Prop) (bg:Int->World->Nat),(v 0 bc)/\∀ (b5:Env) (g:Int) (m:World),v g m->
 Br (decide (g<(↑j.len:Int)))
 (Rng g j.len (Zb j.a λ bl=>
 ∃ a2,(Aw m (Addr.add bl g.toNat) [nI a2])/\
 nC 103 #[.pointer c,nI a2] m λ aj E=>
 ((aj=.returned (.tuple #[]))/\
 (v (wI (g + 1)) E)/\bg (wI (g + 1)) E<bg g m)\/
 (∃ ac:List PanicEntry,(aj=.panicked ac)/\f ac E)))
 (Zb c λ bm=>
 ∃ a3,(Aw m (Addr.add bm 0) [nI a3])/\
 ∃ F,(St 33 ⟨U,0,none⟩ (.agg #[nI 0,.string (ByteArray.mk #[]),nI 0,nI 0,nI 0,nI 0,nI a3,.slice none 0 0,.slice none 0 0]) m F)/\
 ∃ a4 a5 a6 a7 a8 a9 ba,∃ k l:Sl,(Aw F ⟨U,0,none⟩ [nI a4,.string a5,nI a6,nI a7,nI a8,nI a9,nI ba,k.v,l.v])/\
 K (.agg #[nI a4,.string a5,nI a6,nI a7,nI a8,nI a9,nI ba,k.v,l.v]) F))\/
 (∃ ab:List PanicEntry,(ai=.panicked ab)/\f ab bc))\/
 (∃ aa:List PanicEntry,(ah=.panicked aa)/\f aa bb)))\/
 (∃ Y:List PanicEntry,(af=.panicked Y)/\f Y be))\/
 (∃ X:List PanicEntry,(ae=.panicked X)/\f X bd))\/
 (∃ V:List PanicEntry,(ad=.panicked V)/\f V t)) bz) w
def sk41:Sk:=(.seq .leaf (.seq .leaf (.seq .leaf (.seq (.seq .leaf (.block (.loop [30] [(.int .i64)] [6,7,30,31,32,33,34,35,36,37,38,39,40,41,42,43,44,45,46,47,48,49,50,51,52,53,54,55,56,57,58,59,60,61,62,63,64,65,66,67,68,69,70,71,72,73] (.seq .leaf (.seq .leaf (.seq (.block (.seq .leaf (.seq .leaf (.cut [55] [.bool] [40,41,42,43,44,45,46,47,48,49,50,51,52,53,54,55] .leaf .leaf)))) .leaf)))))) (.seq (.seq .leaf (.block (.loop [81] [(.int .i64)] [9,81,82,83,84,85,86,87,88] .leaf))) .leaf)))))
theorem Zyc (e:Option Addr) (f:Int) (g:ByteArray) (i:Int) (j:Int) (k:Int) (l:Int) (m:Nat) (n:ByteArray) (o:Int) (c:Sl) (b:Sl) (d:List PanicEntry->World->Prop) (K:nK) (w : nW) (h:B41 e f g i j k l m n o c b d K w):Zcg prog 41 #[.pointer e,.agg #[nI f,.string g,nI i,nI j,nI k,nI l,.float .f64 m,.string n,nI o,c.v,b.v]] w d K:=cqx (sk:=sk41) h func41
def B42 (g:Option Addr) (c:Option Addr) (ed:Int) (ee:ByteArray) (ef:Int) (eg:Int) (eh:Int) (ei:Int) (ej:Nat) (ek:ByteArray) (el:Int) (L:Sl) (J:Sl) (d:List PanicEntry->World->Prop) (K:nK) (w : nW):Prop:=
 New (.cells #[nI ed,.string ee,nI ef,nI eg,nI eh,nI ei,.float .f64 ej,.string ek,nI el,L.v,J.v] 40 (0,0)) (λ I eo=>
 New (.cells #[nI 0,.string (ByteArray.mk #[]),nI 0,nI 0,nI 0,nI 0,nI 0,.slice none 0 0,.slice none 0 0] 33 (0,0)) (λ e es=>
 Drw es λ E ev=>
 Zb g λ ad=>
 ∃ ca:Option Nat,(At E (nO ad 2) [.map ca])/\
 Zb c λ ae=>
 ∃ cb,(At E (nO ae 1) [nI cb])/\
 ∃ cc cd:Option Addr,(∀ b,E b->((Instr.lookup 77 (.map ca) (nI cb) false)).run prog b=.ok (.agg #[.pointer cc,.pointer cd]) b)/\
 New (.cells #[.pointer none,.pointer none] 97 (0,0)) (λ C d3=>
 (E d3)/\
 ∃ f,(St 97 ⟨C,0,none⟩ (.agg #[.pointer cc,.pointer cd]) d3 f)/\
 Zb c λ af=>
 ∃ G,(Aw f (nO af 4) [nI G])/\
 ∃ D,(Aw f ⟨I,0,none⟩ [nI D])/\
 Br (D==3)
 (Zb c λ ag=>
 ∃ ce,(Aw f (nO ag 4) [nI ce])/\
 nC 37 #[.bool (ce==1),nI 7] f λ a1 d4=>
 ((a1=.returned (.tuple #[]))/\
 Zb c λ ah=>
 ∃ d5,(St 3 (nO ah 4) (nI 2) d4 d5)/\
 Zb c λ ai=>
 ∃ d6,(St 3 (nO ai 5) (nI 0) d5 d6)/\
 nC 53 #[.pointer g,.pointer c] d6 λ a2 d7=>
 (∃ bh bi br b1 b6 b7 b8,∃ o p:Sl,(a2=.returned (.agg #[nI bh,.string bi,nI br,nI b1,nI b6,nI b7,nI b8,o.v,p.v]))/\
 ∃ N,(St 33 ⟨e,0,none⟩ (.agg #[nI bh,.string bi,nI br,nI b1,nI b6,nI b7,nI b8,o.v,p.v]) d7 N)/\
 ∃ cs ct c2 db dk dp dq,∃ z A:Sl,(Aw N ⟨e,0,none⟩ [nI cs,.string ct,nI c2,nI db,nI dk,nI dp,nI dq,z.v,A.v])/\
 K (.agg #[nI cs,.string ct,nI c2,nI db,nI dk,nI dp,nI dq,z.v,A.v]) N)\/
 (∃ am:List PanicEntry,(a2=.panicked am)/\d am d7))\/
 (∃ al:List PanicEntry,(a1=.panicked al)/\d al d4))
 (Br (D==4)
 (∃ (H:World->Prop),(Br (G==3)
 (Drw f λ Z ep=>
 ∃ cf,(At Z ⟨C,0 + 1,none⟩ [.pointer cf])/\
 Zb c λ d8=>
 ∃ cg,(At Z (Addr.add d8 0) [nI cg])/\
 nC 105 #[.pointer cf,nI cg] ep λ a7 ds=>
 (∃ em,(a7=.returned (nI em))/\
 H  ds)\/
 (∃ ar:List PanicEntry,(a7=.panicked ar)/\d ar ds))
 (Drw f λ aa eq=>
 ∃ ch,(At aa ⟨C,0,none⟩ [.pointer ch])/\
 Zb c λ d9=>
 ∃ ci,(At aa (Addr.add d9 0) [nI ci])/\
 nC 104 #[.pointer ch,nI ci] eq λ a8 dt=>
 (∃ en,(a8=.returned (nI en))/\
 H  dt)\/
 (∃ au:List PanicEntry,(a8=.panicked au)/\d au dt)))/\
 ∀ (ew:Env)  (du:World),H  du->
 Drw du λ ab er=>
 Zb g λ aj=>
 ∃ cj:Option Nat,(At ab (nO aj 3) [.map cj])/\
 Zb c λ ea=>
 ∃ ck,(At ab (Addr.add ea 0) [nI ck])/\
 ∃ O:World,((Builtin.delete_ #[78,3] 0 #[.map cj,nI ck]).run prog er=.ok (.tuple #[]) O)/\
 Zb c λ ak=>
 ∃ cl,(Aw O (nO ak 1) [nI cl])/\
 nC 103 #[.pointer g,nI cl] O λ a9 Q=>
 ((a9=.returned (.tuple #[]))/\
 ∃ cm,(Aw Q ⟨I,0 + 1,none⟩ [.string cm])/\
 ∃ T,(St 33 ⟨e,0,none⟩ (.agg #[nI 0,.string cm,nI 0,nI 0,nI 0,nI 0,nI 0,.slice none 0 0,.slice none 0 0]) Q T)/\
 ∃ dr cu cv cw cx cy cz,∃ q r:Sl,(Aw T ⟨e,0,none⟩ [nI dr,.string cu,nI cv,nI cw,nI cx,nI cy,nI cz,q.v,r.v])/\
 K (.agg #[nI dr,.string cu,nI cv,nI cw,nI cx,nI cy,nI cz,q.v,r.v]) T)\/
 (∃ av:List PanicEntry,(a9=.panicked av)/\d av Q))
 (Br (D==5)
 (nC 37 #[.bool (!G==3),nI 7] f λ ba dv=>
 ((ba=.returned (.tuple #[]))/\
 Drw dv λ F et=>
 ∃ cn,(At F ⟨C,0,none⟩ [.pointer cn])/\
 Zb c λ eb=>
 ∃ co,(At F (Addr.add eb 0) [nI co])/\
 ∃ cp,(At F ⟨I,0 + 7,none⟩ [.string cp])/\
 nC 106 #[.pointer cn,nI co,.string cp] et λ bb dw=>
 (∃ cq,(bb=.returned (nI cq))/\
 nC 99 #[nI cq] dw λ bc U=>
 ((bc=.returned (.tuple #[]))/\
 (F U)/\
 nC 53 #[.pointer g,.pointer c] U λ bd dx=>
 (∃ b9 bj bk bl bm bn bo,∃ i j:Sl,(bd=.returned (.agg #[nI b9,.string bj,nI bk,nI bl,nI bm,nI bn,nI bo,i.v,j.v]))/\
 ∃ V,(St 33 ⟨e,0,none⟩ (.agg #[nI b9,.string bj,nI bk,nI bl,nI bm,nI bn,nI bo,i.v,j.v]) dx V)/\
 ∃ c0 c1 c3 c4 c5 c6 c7,∃ s t:Sl,(Aw V ⟨e,0,none⟩ [nI c0,.string c1,nI c3,nI c4,nI c5,nI c6,nI c7,s.v,t.v])/\
 K (.agg #[nI c0,.string c1,nI c3,nI c4,nI c5,nI c6,nI c7,s.v,t.v]) V)\/
 (∃ az:List PanicEntry,(bd=.panicked az)/\d az dx))\/
 (∃ ay:List PanicEntry,(bc=.panicked ay)/\d ay U))\/
 (∃ ax:List PanicEntry,(bb=.panicked ax)/\d ax dw))\/
 (∃ aw:List PanicEntry,(ba=.panicked aw)/\d aw dv))
 (Br (D==6)
 (nC 37 #[.bool (!G==3),nI 7] f λ be dy=>
 ((be=.returned (.tuple #[]))/\
 Drw dy λ ac eu=>
 ∃ cr,(At ac ⟨C,0,none⟩ [.pointer cr])/\
 Zb c λ ec=>
 ∃ bf,(At ac (Addr.add ec 0) [nI bf])/\
 nC 107 #[.pointer cr,nI bf] eu λ a3 dz=>
 (∃ M:Sl,∃ bg,(a3=.returned (.tuple #[M.v,nI bg]))/\
 nC 99 #[nI bg] dz λ a4 d0=>
 ((a4=.returned (.tuple #[]))/\
 nC 53 #[.pointer g,.pointer c] d0 λ a5 d1=>
 (∃ bp bq bs bt bu bv bw,∃ k l:Sl,(a5=.returned (.agg #[nI bp,.string bq,nI bs,nI bt,nI bu,nI bv,nI bw,k.v,l.v]))/\
 ∃ X,(St 33 ⟨e,0,none⟩ (.agg #[nI bp,.string bq,nI bs,nI bt,nI bu,nI bv,nI bw,k.v,l.v]) d1 X)/\
 ∃ c8 c9 da dc dd de df,∃ u v:Sl,(Aw X ⟨e,0,none⟩ [nI c8,.string c9,nI da,nI dc,nI dd,nI de,nI df,u.v,v.v])/\
 K (.agg #[nI c8,.string c9,nI da,nI dc,nI dd,nI de,nI df,u.v,v.v]) X)\/
 (∃ ap:List PanicEntry,(a5=.panicked ap)/\d ap d1))\/
 (∃ ao:List PanicEntry,(a4=.panicked ao)/\d ao d0))\/
 (∃ an:List PanicEntry,(a3=.panicked an)/\d an dz))\/
 (∃ a0:List PanicEntry,(be=.panicked a0)/\d a0 dy))
 (nC 53 #[.pointer g,.pointer c] f λ a6 d2=>
 (∃ bx bz b0 b2 b3 b4 b5,∃ m n:Sl,(a6=.returned (.agg #[nI bx,.string bz,nI b0,nI b2,nI b3,nI b4,nI b5,m.v,n.v]))/\
 ∃ Y,(St 33 ⟨e,0,none⟩ (.agg #[nI bx,.string bz,nI b0,nI b2,nI b3,nI b4,nI b5,m.v,n.v]) d2 Y)/\
 ∃ dg dh di dj dl dm dn,∃ x y:Sl,(Aw Y ⟨e,0,none⟩ [nI dg,.string dh,nI di,nI dj,nI dl,nI dm,nI dn,x.v,y.v])/\
 K (.agg #[nI dg,.string dh,nI di,nI dj,nI dl,nI dm,nI dn,x.v,y.v]) Y)\/
 (∃ aq:List PanicEntry,(a6=.panicked aq)/\d aq d2)))))) ev) eo) w
def sk42:Sk:=(.seq .leaf (.seq .leaf (.seq .leaf (.seq (.seq .leaf (.block (.seq .leaf (.cond .leaf (.seq .leaf (.cond (.cut [] [] [43,44,45,46,47,48,49,50,51,52,53,54,55,56,57] .leaf .leaf) .leaf)))))) .leaf))))
theorem Zyb (e:Option Addr) (p:Option Addr) (f:Int) (g:ByteArray) (i:Int) (j:Int) (k:Int) (l:Int) (m:Nat) (n:ByteArray) (o:Int) (c:Sl) (b:Sl) (d:List PanicEntry->World->Prop) (K:nK) (w : nW) (h:B42 e p f g i j k l m n o c b d K w):Zcg prog 42 #[.pointer e,.pointer p,.agg #[nI f,.string g,nI i,nI j,nI k,nI l,.float .f64 m,.string n,nI o,c.v,b.v]] w d K:=cqx (sk:=sk42) h func42
def B12 (g:Option Addr) (g4:Int) (g5:ByteArray) (g6:Int) (g7:Int) (g8:Int) (g9:Int) (ha:Nat) (hb:ByteArray) (hc:Int) (ap:Sl) (ao:Sl) (K:nK) (w : nW):Prop:=
 New (.cells #[nI g4,.string g5,nI g6,nI g7,nI g8,nI g9,.float .f64 ha,.string hb,nI hc,ap.v,ao.v] 40 (0,0)) (λ d hd=>
 New (.cells #[nI 0,.string (ByteArray.mk #[]),nI 0,nI 0,nI 0,nI 0,nI 0,.slice none 0 0,.slice none 0 0] 33 (0,0)) (λ c gq=>
 ∃ dm dn dp dq dr ds dt du dv,∃ F E:Sl,(Aw gq ⟨d,0,none⟩ [nI dm,.string dn,nI dp,nI dq,nI dr,nI ds,.float .f64 dt,.string du,nI dv,F.v,E.v])/\
 nC 38 #[.agg #[nI dm,.string dn,nI dp,nI dq,nI dr,nI ds,.float .f64 dt,.string du,nI dv,F.v,E.v]] gq λ a2 gy=>
 (∃ dw,(a2=.returned (.bool dw))/\
 nC 37 #[.bool dw,nI 1] gy λ a3 al=>
 ((a3=.returned (.tuple #[]))/\
 ∃ f,(Aw al ⟨d,0,none⟩ [nI f])/\
 Br (f==1)
 (∃ ba bb bc bd be bf bg bh bi,∃ j i:Sl,(Aw al ⟨d,0,none⟩ [nI ba,.string bb,nI bc,nI bd,nI be,nI bf,.float .f64 bg,.string bh,nI bi,j.v,i.v])/\
 nC 39 #[.pointer g,.agg #[nI ba,.string bb,nI bc,nI bd,nI be,nI bf,.float .f64 bg,.string bh,nI bi,j.v,i.v]] al λ a4 g0=>
 (∃ bj bk bl bm bn bo bp,∃ k l:Sl,(a4=.returned (.agg #[nI bj,.string bk,nI bl,nI bm,nI bn,nI bo,nI bp,k.v,l.v]))/\
 ∃ g1,(St 33 ⟨c,0,none⟩ (.agg #[nI bj,.string bk,nI bl,nI bm,nI bn,nI bo,nI bp,k.v,l.v]) g0 g1)/\
 Zad prog 36 [.pointer ((some ⟨c,0,none⟩))] .returning (λ g2=>∃ dx dy ek et e2 fb fk,∃ ab af:Sl,(Aw g2 ⟨c,0,none⟩ [nI dx,.string dy,nI ek,nI et,nI e2,nI fb,nI fk,ab.v,af.v])/\
 K (.agg #[nI dx,.string dy,nI ek,nI et,nI e2,nI fb,nI fk,ab.v,af.v]) g2) g1)\/
 (∃ aw:List PanicEntry,(a4=.panicked aw)/\Zad prog 36 [.pointer ((some ⟨c,0,none⟩))] (.panicking aw) (λ g3=>∃ f7 dz d8 ee ef eg eh,∃ L M:Sl,(Aw g3 ⟨c,0,none⟩ [nI f7,.string dz,nI d8,nI ee,nI ef,nI eg,nI eh,L.v,M.v])/\
 K (.agg #[nI f7,.string dz,nI d8,nI ee,nI ef,nI eg,nI eh,L.v,M.v]) g3) g0))
 (∃ (an:Bool->World->Prop),(Br (f==2)
 (an (f==2) al)
 (an (f==7) al))/\
 ∀ (hf:Env) (bq:Bool) (e:World),an bq e->
 Br bq
 (∃ br bs bt bu bv bw bx bz b0,∃ n m:Sl,(Aw e ⟨d,0,none⟩ [nI br,.string bs,nI bt,nI bu,nI bv,nI bw,.float .f64 bx,.string bz,nI b0,n.v,m.v])/\
 nC 40 #[.pointer g,.agg #[nI br,.string bs,nI bt,nI bu,nI bv,nI bw,.float .f64 bx,.string bz,nI b0,n.v,m.v]] e λ a5 gg=>
 (∃ b1 b2 b3 b4 b5 b6 b7,∃ o p:Sl,(a5=.returned (.agg #[nI b1,.string b2,nI b3,nI b4,nI b5,nI b6,nI b7,o.v,p.v]))/\
 ∃ gh,(St 33 ⟨c,0,none⟩ (.agg #[nI b1,.string b2,nI b3,nI b4,nI b5,nI b6,nI b7,o.v,p.v]) gg gh)/\
 Zad prog 36 [.pointer ((some ⟨c,0,none⟩))] .returning (λ gi=>∃ ei ej el em en eo ep,∃ N O:Sl,(Aw gi ⟨c,0,none⟩ [nI ei,.string ej,nI el,nI em,nI en,nI eo,nI ep,N.v,O.v])/\
 K (.agg #[nI ei,.string ej,nI el,nI em,nI en,nI eo,nI ep,N.v,O.v]) gi) gh)\/
 (∃ ax:List PanicEntry,(a5=.panicked ax)/\Zad prog 36 [.pointer ((some ⟨c,0,none⟩))] (.panicking ax) (λ gj=>∃ eq er es eu ev ew ex,∃ Q T:Sl,(Aw gj ⟨c,0,none⟩ [nI eq,.string er,nI es,nI eu,nI ev,nI ew,nI ex,Q.v,T.v])/\
 K (.agg #[nI eq,.string er,nI es,nI eu,nI ev,nI ew,nI ex,Q.v,T.v]) gj) gg))
 (Br (f==8)
 (∃ b8 b9 ca cb cc cd ce cf cg,∃ r q:Sl,(Aw e ⟨d,0,none⟩ [nI b8,.string b9,nI ca,nI cb,nI cc,nI cd,.float .f64 ce,.string cf,nI cg,r.v,q.v])/\
 nC 41 #[.pointer g,.agg #[nI b8,.string b9,nI ca,nI cb,nI cc,nI cd,.float .f64 ce,.string cf,nI cg,r.v,q.v]] e λ a6 gk=>
 (∃ ch ci cj ck cl cm cn,∃ s t:Sl,(a6=.returned (.agg #[nI ch,.string ci,nI cj,nI ck,nI cl,nI cm,nI cn,s.v,t.v]))/\
 ∃ gl,(St 33 ⟨c,0,none⟩ (.agg #[nI ch,.string ci,nI cj,nI ck,nI cl,nI cm,nI cn,s.v,t.v]) gk gl)/\
 Zad prog 36 [.pointer ((some ⟨c,0,none⟩))] .returning (λ gm=>∃ ey ez e0 e1 e3 e4 e5,∃ U V:Sl,(Aw gm ⟨c,0,none⟩ [nI ey,.string ez,nI e0,nI e1,nI e3,nI e4,nI e5,U.v,V.v])/\
 K (.agg #[nI ey,.string ez,nI e0,nI e1,nI e3,nI e4,nI e5,U.v,V.v]) gm) gl)\/
 (∃ ay:List PanicEntry,(a6=.panicked ay)/\Zad prog 36 [.pointer ((some ⟨c,0,none⟩))] (.panicking ay) (λ gn=>∃ e6 e7 e8 e9 fa fc fd,∃ X Y:Sl,(Aw gn ⟨c,0,none⟩ [nI e6,.string e7,nI e8,nI e9,nI fa,nI fc,nI fd,X.v,Y.v])/\
 K (.agg #[nI e6,.string e7,nI e8,nI e9,nI fa,nI fc,nI fd,X.v,Y.v]) gn) gk))
 (Br (f==9)
 (∃ co cp cq cr cs ct cu cv cw,∃ v u:Sl,(Aw e ⟨d,0,none⟩ [nI co,.string cp,nI cq,nI cr,nI cs,nI ct,.float .f64 cu,.string cv,nI cw,v.v,u.v])/\
 nC 16 #[.pointer g,.agg #[nI co,.string cp,nI cq,nI cr,nI cs,nI ct,.float .f64 cu,.string cv,nI cw,v.v,u.v]] e λ a7 go=>
 (∃ cx cy cz c0 c1 c2 c3,∃ x y:Sl,(a7=.returned (.agg #[nI cx,.string cy,nI cz,nI c0,nI c1,nI c2,nI c3,x.v,y.v]))/\
 ∃ gp,(St 33 ⟨c,0,none⟩ (.agg #[nI cx,.string cy,nI cz,nI c0,nI c1,nI c2,nI c3,x.v,y.v]) go gp)/\
 Zad prog 36 [.pointer ((some ⟨c,0,none⟩))] .returning (λ gr=>∃ fe ff fg fh fi fj fl,∃ Z aa:Sl,(Aw gr ⟨c,0,none⟩ [nI fe,.string ff,nI fg,nI fh,nI fi,nI fj,nI fl,Z.v,aa.v])/\
 K (.agg #[nI fe,.string ff,nI fg,nI fh,nI fi,nI fj,nI fl,Z.v,aa.v]) gr) gp)\/
 (∃ az:List PanicEntry,(a7=.panicked az)/\Zad prog 36 [.pointer ((some ⟨c,0,none⟩))] (.panicking az) (λ gs=>∃ fm fn fo fp fq fr fs,∃ ac ad:Sl,(Aw gs ⟨c,0,none⟩ [nI fm,.string fn,nI fo,nI fp,nI fq,nI fr,nI fs,ac.v,ad.v])/\
 K (.agg #[nI fm,.string fn,nI fo,nI fp,nI fq,nI fr,nI fs,ac.v,ad.v]) gs) go))
 (Drw e λ am he=>
 ∃ c4,(At am ⟨d,0 + 1,none⟩ [.string c4])/\
 ∃ c6 c7 c8 c9 da db dc dd de,∃ A z:Sl,(At am ⟨d,0,none⟩ [nI c6,.string c7,nI c8,nI c9,nI da,nI db,.float .f64 dc,.string dd,nI de,A.v,z.v])/\
 nC 43 #[.pointer g,.string c4] he λ a8 aq=>
 (∃ c5,(a8=.returned (.pointer c5))/\
 (am aq)/\
 nC 42 #[.pointer g,.pointer c5,.agg #[nI c6,.string c7,nI c8,nI c9,nI da,nI db,.float .f64 dc,.string dd,nI de,A.v,z.v]] aq λ a9 ar=>
 (∃ df dg dh di dj dk dl,∃ C D:Sl,(a9=.returned (.agg #[nI df,.string dg,nI dh,nI di,nI dj,nI dk,nI dl,C.v,D.v]))/\
 (am ar)/\
 ∃ gt,(St 33 ⟨c,0,none⟩ (.agg #[nI df,.string dg,nI dh,nI di,nI dj,nI dk,nI dl,C.v,D.v]) ar gt)/\
 Zad prog 36 [.pointer ((some ⟨c,0,none⟩))] .returning (λ gu=>∃ ft fu fv fw fx fy fz,∃ ae ag:Sl,(Aw gu ⟨c,0,none⟩ [nI ft,.string fu,nI fv,nI fw,nI fx,nI fy,nI fz,ae.v,ag.v])/\
 K (.agg #[nI ft,.string fu,nI fv,nI fw,nI fx,nI fy,nI fz,ae.v,ag.v]) gu) gt)\/
 (∃ a1:List PanicEntry,(a9=.panicked a1)/\Zad prog 36 [.pointer ((some ⟨c,0,none⟩))] (.panicking a1) (λ gv=>∃ f0 f1 f2 f3 f4 f5 f6,∃ ah ai:Sl,(Aw gv ⟨c,0,none⟩ [nI f0,.string f1,nI f2,nI f3,nI f4,nI f5,nI f6,ah.v,ai.v])/\
 K (.agg #[nI f0,.string f1,nI f2,nI f3,nI f4,nI f5,nI f6,ah.v,ai.v]) gv) ar))\/
 (∃ a0:List PanicEntry,(a8=.panicked a0)/\Zad prog 36 [.pointer ((some ⟨c,0,none⟩))] (.panicking a0) (λ gw=>∃ f8 f9 ga gb gc gd ge,∃ aj ak:Sl,(Aw gw ⟨c,0,none⟩ [nI f8,.string f9,nI ga,nI gb,nI gc,nI gd,nI ge,aj.v,ak.v])/\
 K (.agg #[nI f8,.string f9,nI ga,nI gb,nI gc,nI gd,nI ge,aj.v,ak.v]) gw) aq))))))\/
 (∃ av:List PanicEntry,(a3=.panicked av)/\Zad prog 36 [.pointer ((some ⟨c,0,none⟩))] (.panicking av) (λ gx=>∃ gf d0 d1 d2 d3 d4 d5,∃ G H:Sl,(Aw gx ⟨c,0,none⟩ [nI gf,.string d0,nI d1,nI d2,nI d3,nI d4,nI d5,G.v,H.v])/\
 K (.agg #[nI gf,.string d0,nI d1,nI d2,nI d3,nI d4,nI d5,G.v,H.v]) gx) al))\/
 (∃ au:List PanicEntry,(a2=.panicked au)/\Zad prog 36 [.pointer ((some ⟨c,0,none⟩))] (.panicking au) (λ gz=>∃ d6 d7 d9 ea eb ec ed,∃ I J:Sl,(Aw gz ⟨c,0,none⟩ [nI d6,.string d7,nI d9,nI ea,nI eb,nI ec,nI ed,I.v,J.v])/\
 K (.agg #[nI d6,.string d7,nI d9,nI ea,nI eb,nI ec,nI ed,I.v,J.v]) gz) gy)) hd) w
def sk12:Sk:=(.seq .leaf (.seq (.seq .leaf (.block (.seq .leaf (.cond .leaf (.cut [15] [.bool] [15,16,17] .leaf .leaf))))) .leaf))
theorem ZtR (d:Option Addr) (e:Int) (f:ByteArray) (g:Int) (i:Int) (j:Int) (k:Int) (l:Nat) (m:ByteArray) (n:Int) (c:Sl) (b:Sl) (K:nK) (w : nW) (h:B12 d e f g i j k l m n c b K w):Zk prog 12 #[.pointer d,.agg #[nI e,.string f,nI g,nI i,nI j,nI k,.float .f64 l,.string m,nI n,c.v,b.v]] w K:=cqd (sk:=sk12) h func12
def B16 (M:Option Addr) (dy:Int) (dz:ByteArray) (d0:Int) (d1:Int) (d2:Int) (d3:Int) (d4:Nat) (d5:ByteArray) (d6:Int) (Q:Sl) (O:Sl) (K:nK) (w : nW):Prop:=
 New (.cells #[nI dy,.string dz,nI d0,nI d1,nI d2,nI d3,.float .f64 d4,.string d5,nI d6,Q.v,O.v] 40 (0,0)) (λ d d7=>
 New (.cells #[nI 0,.string (ByteArray.mk #[]),nI 0,nI 0,nI 0,nI 0,nI 0,.slice none 0 0,.slice none 0 0] 33 (0,0)) (λ c dm=>
 ∃ (L:World->Prop),(∃ bq br bs bt bu bv bw bx bz,∃ p o:Sl,(Aw dm ⟨d,0,none⟩ [nI bq,.string br,nI bs,nI bt,nI bu,nI bv,.float .f64 bw,.string bx,nI bz,p.v,o.v])/\
 nC 38 #[.agg #[nI bq,.string br,nI bs,nI bt,nI bu,nI bv,.float .f64 bw,.string bx,nI bz,p.v,o.v]] dm λ ae J=>
 (∃ b0,(ae=.returned (.bool b0))/\
 Br b0
 (∃ am,(Aw J ⟨d,0,none⟩ [nI am])/\
 nC 37 #[.bool (am==9),nI 1] J λ af dt=>
 ((af=.returned (.tuple #[]))/\
 L  dt)\/
 (∃ X:List PanicEntry,(af=.panicked X)/\Zad prog 36 [.pointer ((some ⟨c,0,none⟩))] (.panicking X) (λ du=>∃ an ao az a5 a6 a7 a8,∃ j k:Sl,(Aw du ⟨c,0,none⟩ [nI an,.string ao,nI az,nI a5,nI a6,nI a7,nI a8,j.v,k.v])/\
 K (.agg #[nI an,.string ao,nI az,nI a5,nI a6,nI a7,nI a8,j.v,k.v]) du) dt))
 (nC 37 #[.bool false,nI 1] J λ ag dv=>
 ((ag=.returned (.tuple #[]))/\
 L  dv)\/
 (∃ Y:List PanicEntry,(ag=.panicked Y)/\Zad prog 36 [.pointer ((some ⟨c,0,none⟩))] (.panicking Y) (λ dw=>∃ a9 ap aq ar au av aw,∃ e f:Sl,(Aw dw ⟨c,0,none⟩ [nI a9,.string ap,nI aq,nI ar,nI au,nI av,nI aw,e.v,f.v])/\
 K (.agg #[nI a9,.string ap,nI aq,nI ar,nI au,nI av,nI aw,e.v,f.v]) dw) dv)))\/
 (∃ V:List PanicEntry,(ae=.panicked V)/\Zad prog 36 [.pointer ((some ⟨c,0,none⟩))] (.panicking V) (λ dx=>∃ ax ay a0 a1 a2 a3 a4,∃ g i:Sl,(Aw dx ⟨c,0,none⟩ [nI ax,.string ay,nI a0,nI a1,nI a2,nI a3,nI a4,g.v,i.v])/\
 K (.agg #[nI ax,.string ay,nI a0,nI a1,nI a2,nI a3,nI a4,g.v,i.v]) dx) J))/\
 ∀ (ea:Env)  (G:World),L  G->
 ∃ ba,(Aw G ⟨d,0 + 1,none⟩ [.string ba])/\
 Br (!ba.toList==(ByteArray.mk #[]).toList)
 (∃ bb,(Aw G ⟨d,0 + 1,none⟩ [.string bb])/\
 nC 43 #[.pointer M,.string bb] G λ ah de=>
 (∃ bc,(ah=.returned (.pointer bc))/\
 nC 53 #[.pointer M,.pointer bc] de λ ai df=>
 (∃ bd be bf bg bh bi bj,∃ l m:Sl,(ai=.returned (.agg #[nI bd,.string be,nI bf,nI bg,nI bh,nI bi,nI bj,l.v,m.v]))/\
 ∃ dg,(St 33 ⟨c,0,none⟩ (.agg #[nI bd,.string be,nI bf,nI bg,nI bh,nI bi,nI bj,l.v,m.v]) df dg)/\
 Zad prog 36 [.pointer ((some ⟨c,0,none⟩))] .returning (λ dh=>∃ b1 b2 cb ck ct c2 db,∃ E F:Sl,(Aw dh ⟨c,0,none⟩ [nI b1,.string b2,nI cb,nI ck,nI ct,nI c2,nI db,E.v,F.v])/\
 K (.agg #[nI b1,.string b2,nI cb,nI ck,nI ct,nI c2,nI db,E.v,F.v]) dh) dg)\/
 (∃ aa:List PanicEntry,(ai=.panicked aa)/\Zad prog 36 [.pointer ((some ⟨c,0,none⟩))] (.panicking aa) (λ di=>∃ dd b3 b4 b5 b6 b7 b8,∃ q r:Sl,(Aw di ⟨c,0,none⟩ [nI dd,.string b3,nI b4,nI b5,nI b6,nI b7,nI b8,q.v,r.v])/\
 K (.agg #[nI dd,.string b3,nI b4,nI b5,nI b6,nI b7,nI b8,q.v,r.v]) di) df))\/
 (∃ Z:List PanicEntry,(ah=.panicked Z)/\Zad prog 36 [.pointer ((some ⟨c,0,none⟩))] (.panicking Z) (λ dj=>∃ b9 ca cc cd ce cf cg,∃ s t:Sl,(Aw dj ⟨c,0,none⟩ [nI b9,.string ca,nI cc,nI cd,nI ce,nI cf,nI cg,s.v,t.v])/\
 K (.agg #[nI b9,.string ca,nI cc,nI cd,nI ce,nI cf,nI cg,s.v,t.v]) dj) de))
 (∃ bk,(Aw G ⟨d,0 + 2,none⟩ [nI bk])/\
 nC 54 #[.pointer M,nI bk] G λ aj dk=>
 (∃ bl bm,(aj=.returned (.agg #[.pointer bl,.pointer bm]))/\
 New (.cells #[.pointer none,.pointer none] 97 (0,0)) (λ N d8=>
 ∃ dl,(St 97 ⟨N,0,none⟩ (.agg #[.pointer bl,.pointer bm]) d8 dl)/\
 Drw dl λ H d9=>
 ∃ bn,(At H ⟨d,0 + 2,none⟩ [nI bn])/\
 ∃ bo,(At H ⟨N,0,none⟩ [.pointer bo])/\
 ∃ bp,(At H ⟨N,0 + 1,none⟩ [.pointer bp])/\
 nC 55 #[.pointer bo] d9 λ ak T=>
 (∃ n:Sl,(ak=.returned (n.v))/\
 (H T)/\
 nC 56 #[.pointer bp] T λ al U=>
 (∃ I:Sl,(al=.returned (I.v))/\
 (H U)/\
 ∃ dn,(St 33 ⟨c,0,none⟩ (.agg #[nI 0,.string (ByteArray.mk #[]),nI 0,nI bn,nI 0,nI ((↑I.len:Int)),nI 0,n.v,.slice none 0 0]) U dn)/\
 Zad prog 36 [.pointer ((some ⟨c,0,none⟩))] .returning (λ dp=>∃ ch ci cj cl cm cn co,∃ u v:Sl,(Aw dp ⟨c,0,none⟩ [nI ch,.string ci,nI cj,nI cl,nI cm,nI cn,nI co,u.v,v.v])/\
 K (.agg #[nI ch,.string ci,nI cj,nI cl,nI cm,nI cn,nI co,u.v,v.v]) dp) dn)\/
 (∃ ad:List PanicEntry,(al=.panicked ad)/\Zad prog 36 [.pointer ((some ⟨c,0,none⟩))] (.panicking ad) (λ dq=>∃ cp cq cr cs cu cv cw,∃ x y:Sl,(Aw dq ⟨c,0,none⟩ [nI cp,.string cq,nI cr,nI cs,nI cu,nI cv,nI cw,x.v,y.v])/\
 K (.agg #[nI cp,.string cq,nI cr,nI cs,nI cu,nI cv,nI cw,x.v,y.v]) dq) U))\/
 (∃ ac:List PanicEntry,(ak=.panicked ac)/\Zad prog 36 [.pointer ((some ⟨c,0,none⟩))] (.panicking ac) (λ dr=>∃ cx cy cz c0 c1 c3 c4,∃ z A:Sl,(Aw dr ⟨c,0,none⟩ [nI cx,.string cy,nI cz,nI c0,nI c1,nI c3,nI c4,z.v,A.v])/\
 K (.agg #[nI cx,.string cy,nI cz,nI c0,nI c1,nI c3,nI c4,z.v,A.v]) dr) T)) dk)\/
 (∃ ab:List PanicEntry,(aj=.panicked ab)/\Zad prog 36 [.pointer ((some ⟨c,0,none⟩))] (.panicking ab) (λ ds=>∃ c5 c6 c7 c8 c9 da dc,∃ C D:Sl,(Aw ds ⟨c,0,none⟩ [nI c5,.string c6,nI c7,nI c8,nI c9,nI da,nI dc,C.v,D.v])/\
 K (.agg #[nI c5,.string c6,nI c7,nI c8,nI c9,nI da,nI dc,C.v,D.v]) ds) dk))) d7) w
def sk16:Sk:=(.cut [] [] [6,7,8,9,10,11,12,13] .leaf .leaf)
theorem Zyk (d:Option Addr) (e:Int) (f:ByteArray) (g:Int) (i:Int) (j:Int) (k:Int) (l:Nat) (m:ByteArray) (n:Int) (c:Sl) (b:Sl) (K:nK) (w : nW) (h:B16 d e f g i j k l m n c b K w):Zk prog 16 #[.pointer d,.agg #[nI e,.string f,nI g,nI i,nI j,nI k,.float .f64 l,.string m,nI n,c.v,b.v]] w K:=cqd (sk:=sk16) h func16
def B18 (d:Option Addr) (K:nK) (w : nW):Prop:=
 New (.cells #[.slice none 0 0] 112 (0,0)) (λ k bc=>
 Drw bc λ i bj=>
 Zb d λ av=>
 ∃ O,(At i (Addr.add av 0) [nI O])/\
 Zb d λ A=>
 ∃ Q,(At i (nO A 1) [nI Q])/\
 Zb d λ C=>
 ∃ T:Option Nat,(At i (nO C 2) [.map T])/\
 ∃ U:Int,(∀ b,i b->((Builtin.len_ #[77] 3 #[.map T])).run prog b=.ok (nI U) b)/\
 New (.cells #[nI O,nI Q,nI U] 3 (0,0)) (λ az aq=>
 (i aq)/\
 nC 60 #[.pointer ((some ⟨k,0,none⟩)),.slice ((some ⟨az,0,none⟩)) 3 3] aq λ a1 x=>
 (a1=.returned (.tuple #[]))/\
 (i x)/\
 Zb d λ D=>
 ∃ V:Option Nat,(Aw x (nO D 2) [.map V])/\
 nC 62 #[.map V] x λ a2 bl=>
 ∃ X:Value,(a2=.returned (X))/\
 nC 61 #[X] bl λ a4 bm=>
 ∃ m:Sl,(a4=.returned (m.v))/\
 ∃ (r:Int->World->Prop) (ar:Int->World->Nat),(r 0 bm)/\∀ (bo:Env) (f:Int) (c:World),r f c->
 Br (decide (f<(↑m.len:Int)))
 (Rng f m.len (Zb m.a λ aw=>
 ∃ Y,(Aw c (Addr.add aw f.toNat) [nI Y])/\
 Zb d λ E=>
 ∃ Z:Option Nat,(Aw c (nO E 2) [.map Z])/\
 ∃ aa ab:Option Addr,(∀ b,(λ b=>b=c) b->((Instr.lookup 77 (.map Z) (nI Y) false)).run prog b=.ok (.agg #[.pointer aa,.pointer ab]) b)/\
 New (.cells #[.pointer none,.pointer none] 97 (0,0)) (λ t bn=>
 ∃ y,(St 97 ⟨t,0,none⟩ (.agg #[.pointer aa,.pointer ab]) bn y)/\
 ∃ ac,(Aw y ⟨t,0,none⟩ [.pointer ac])/\
 nC 64 #[.pointer ac] y λ a5 bd=>
 ∃ n:Sl,(a5=.returned (n.v))/\
 nC 63 #[.pointer ((some ⟨k,0,none⟩)),n.v] bd λ a6 an=>
 (a6=.returned (.tuple #[]))/\
 ∃ ad,(Aw an ⟨t,0 + 1,none⟩ [.pointer ad])/\
 nC 65 #[.pointer ad] an λ a7 be=>
 ∃ o:Sl,(a7=.returned (o.v))/\
 nC 63 #[.pointer ((some ⟨k,0,none⟩)),o.v] be λ a8 ao=>
 (a8=.returned (.tuple #[]))/\
 (r (wI (f + 1)) ao)/\ar (wI (f + 1)) ao<ar f c) c))
 (Zb d λ F=>
 ∃ ae:Option Nat,(Aw c (nO F 3) [.map ae])/\
 ∃ af:Int,(∀ b,(λ b=>b=c) b->((Builtin.len_ #[78] 3 #[.map ae])).run prog b=.ok (nI af) b)/\
 New (.cells #[nI af] 3 (0,0)) (λ a0 bf=>
 nC 60 #[.pointer ((some ⟨k,0,none⟩)),.slice ((some ⟨a0,0,none⟩)) 1 1] bf λ a9 ap=>
 (a9=.returned (.tuple #[]))/\
 Zb d λ G=>
 ∃ ag:Option Nat,(Aw ap (nO G 3) [.map ag])/\
 nC 66 #[.map ag] ap λ ba bg=>
 ∃ ah:Value,(ba=.returned (ah))/\
 nC 61 #[ah] bg λ bb bh=>
 ∃ p:Sl,(bb=.returned (p.v))/\
 ∃ (s:Int->World->Prop) (au:Int->World->Nat),(s 0 bh)/\∀ (bp:Env) (g:Int) (e:World),s g e->
 Br (decide (g<(↑p.len:Int)))
 (Rng g p.len (Zb p.a λ ax=>
 ∃ u,(Aw e (Addr.add ax g.toNat) [nI u])/\
 Zb d λ H=>
 ∃ ai:Option Nat,(Aw e (nO H 3) [.map ai])/\
 ∃ q:Option Addr,(∀ b,(λ b=>b=e) b->((Instr.lookup 78 (.map ai) (nI u) false)).run prog b=.ok (.pointer q) b)/\
 Drw e λ j bi=>
 Zb q λ I=>
 ∃ aj,(At j (nO I 1) [nI aj])/\
 Zb q λ J=>
 ∃ ak,(At j (nO J 2) [nI ak])/\
 Zb q λ L=>
 ∃ al,(At j (nO L 3) [nI al])/\
 Zb q λ M=>
 ∃ am,(At j (nO M 4) [nI am])/\
 Zb q λ z=>
 ∃ N,(At j (nO z 5) [nI N])/\
 New (.cells #[nI u,nI aj,nI ak,nI al,nI am,nI N] 3 (0,0)) (λ ay bk=>
 nC 60 #[.pointer ((some ⟨k,0,none⟩)),.slice ((some ⟨ay,0,none⟩)) 6 6] bk λ a3 v=>
 (a3=.returned (.tuple #[]))/\
 (j v)/\
 (s (wI (g + 1)) v)/\au (wI (g + 1)) v<au g e) bi))
 (∃ l:Sl,(Aw e ⟨k,0,none⟩ [l.v])/\
 K (l.v) e)) c)) bj) w
def sk18:Sk:=(.seq .leaf (.seq .leaf (.seq .leaf (.seq (.seq .leaf (.block (.loop [35] [(.int .i64)] [5,6,35,36,37,38,39,40,41,42,43,44,45,46,47,48,49,50,51,52,53,54,55] .leaf))) (.seq .leaf (.seq (.seq .leaf (.block (.loop [71] [(.int .i64)] [8,9,71,72,73,74,75,76,77,78,79,80,81,82,83,84,85,86,87,88,89,90,91,92,93,94,95,96,97,98,99,100,101,102,103,104,105] .leaf))) .leaf))))))
theorem Zyi (a:Option Addr) (K:nK) (w : nW) (h:B18 a K w):Zk prog 18 #[.pointer a] w K:=cq (sk:=sk18) h func18
set_option maxRecDepth 10000
def B139 (d:Nat) (K:nK) (w : nW):Prop:=
 Ext prog 210 #[.float .f64 d] w λ c b=>
 ∃ a,(c=.returned (.int .u64 a))/\
 Br (decide (a<9223372036854775808))
 (K (.int .u64 (IntKind.u64.wrap (a + 9223372036854775808))) b)
 (K (.int .u64 (IntKind.u64.wrap (18446744073709551615 - a))) b)
theorem Zwm (a:Nat) (K:nK) (w : nW) (h:B139 a K w):Zk prog 139 #[.float .f64 a] w K:=cq (sk:=.leaf) h func139
def B258 (b:Nat) (c:Nat) (K:nK) (w : nW):Prop:=
 ∃ d:Bool,(∀ a,(λ a=>a=w) a->((do eqGuard BinOp.neq 35 (Operand.tmp 7) (Operand.tmp 8) (.float .f64 b) (.float .f64 b);binOp BinOp.neq 35 (.float .f64 b) (.float .f64 b):Sem Value)).run prog a=.ok (.bool d) a)/\
 ∃ e:Bool,(∀ a,(λ a=>a=w) a->((do eqGuard BinOp.neq 35 (Operand.tmp 10) (Operand.tmp 11) (.float .f64 c) (.float .f64 c);binOp BinOp.neq 35 (.float .f64 c) (.float .f64 c):Sem Value)).run prog a=.ok (.bool e) a)/\
 Br d
 (Br e
 (K (nI 0) w)
 (∃ f:Bool,(∀ a,(λ a=>a=w) a->((do eqGuard BinOp.eql 35 (Operand.tmp 19) (Operand.tmp 20) (.float .f64 b) (.float .f64 c);binOp BinOp.eql 35 (.float .f64 b) (.float .f64 c):Sem Value)).run prog a=.ok (.bool f) a)/\
 Br f
 (K (nI 0) w)
 (Br d
 (K (nI ((-1))) w)
 (∃ i:Bool,(∀ a,(λ a=>a=w) a->((do eqGuard BinOp.lss 35 (Operand.tmp 26) (Operand.tmp 27) (.float .f64 b) (.float .f64 c);binOp BinOp.lss 35 (.float .f64 b) (.float .f64 c):Sem Value)).run prog a=.ok (.bool i) a)/\
 Br i
 (K (nI ((-1))) w)
 (K (nI 1) w)))))
 (∃ g:Bool,(∀ a,(λ a=>a=w) a->((do eqGuard BinOp.eql 35 (Operand.tmp 19) (Operand.tmp 20) (.float .f64 b) (.float .f64 c);binOp BinOp.eql 35 (.float .f64 b) (.float .f64 c):Sem Value)).run prog a=.ok (.bool g) a)/\
 Br g
 (K (nI 0) w)
 (Br d
 (K (nI ((-1))) w)
 (∃ j:Bool,(∀ a,(λ a=>a=w) a->((do eqGuard BinOp.lss 35 (Operand.tmp 26) (Operand.tmp 27) (.float .f64 b) (.float .f64 c);binOp BinOp.lss 35 (.float .f64 b) (.float .f64 c):Sem Value)).run prog a=.ok (.bool j) a)/\
 Br j
 (K (nI ((-1))) w)
 (K (nI 1) w))))
theorem Zvk (a:Nat) (b:Nat) (K:nK) (w : nW) (h:B258 a b K w):Zk prog 258 #[.float .f64 a,.float .f64 b] w K:=cq (sk:=.leaf) h func258
def B193 (f:Int) (K:nK) (w : nW):Prop:=
 ∃ (c:Int->World->Prop) (e:Int->World->Nat),(c 0 w)/\∀ (g:Env) (a:Int) (b:World),c a b->
 Br (decide (a<31))
 (∃ d:UInt8,((0:Int)<=a)/\
 ((ByteArray.mk #[65,66,67,68,69,70,71,72,74,75,76,77,78,80,81,82,84,85,86,87,88,89,90,50,51,52,53,54,55,56,57])[a.toNat]? =some d)/\
 Br ((↑d.toNat:Int)==f)
 (K (nI a) b)
 ((c (wI (a + 1)) b)/\e (wI (a + 1)) b<e a b))
 (K (nI ((-1))) b)
def Zy9:Sk:=(.seq .leaf (.seq (.seq .leaf (.block (.loop [3] [(.int .i64)] [2,3,4,5,6,7,8,9,10,11,12] .leaf))) .leaf))
theorem ZvS (a:Int) (K:nK) (w : nW) (h:B193 a K w):Zk prog 193 #[.int .u8 a] w K:=cq (sk:=Zy9) h func193
def B194 (k:Value) (K:nK) (w : nW):Prop:=
 New (.cells (Value.cells k) 248 (0,0)) (λ c b=>
 ∃ i,(Aw b (Addr.add ⟨c,0,none⟩ 0) [nI i])/\
 ∃ j,(Aw b (Addr.add ⟨c,0,none⟩ 1) [nI j])/\
 ∃ d,(Aw b (Addr.add ⟨c,0,none⟩ 2) [nI d])/\
 ∃ e,(Aw b (Addr.add ⟨c,0,none⟩ 3) [nI e])/\
 ∃ f,(Aw b (Addr.add ⟨c,0,none⟩ 4) [nI f])/\
 ∃ g,(Aw b (Addr.add ⟨c,0,none⟩ 5) [nI g])/\
 K (nI (wI (wI (wI (wI (wI (wI (2 * i) + wI (3 * j)) + wI (4 * d)) + wI (5 * e)) + wI (6 * f)) + g))) b) w
theorem ZvR (a:Value) (K:nK) (w : nW) (h:B194 a K w):Zk prog 194 #[a] w K:=cq (sk:=.leaf) h func194
def B124 (p:Int) (K:nK) (w : nW):Prop:=
 ∃ (x:World->Prop),(Br (decide (p<0))
 (K (.tuple #[.string (ByteArray.mk #[]),nI 1]) w)
 (Br (decide (p >= 28629151))
 (K (.tuple #[.string (ByteArray.mk #[]),nI 1]) w)
 (x  w)))/\
 ∀ (M:Env)  (D:World),x  D->
 New (.cells #[nI 0,nI 0,nI 0,nI 0,nI 0,nI 0] 248 (0,0)) (λ g J=>
 ∃ (m:Int->Int->World->Prop) (E:Int->Int->World->Nat),(m p 4 J)/\∀ (N:Env) (i:Int) (d:Int) (k:World),m i d k->
 Br (decide (d >= 0))
 (Rng d 6 (∃ t,(St 3 (Addr.add ⟨g,0,none⟩ d.toNat) (nI (i.tmod 31)) k t)/\
 (m (wI (i.tdiv 31)) (wI (d - 1)) t)/\E (wI (i.tdiv 31)) (wI (d - 1)) t<E i d k))
 (∃ (n:World->Prop) (F:World->Nat),(n  k)/\∀ (O:Env)  (l:World),n  l->
 ∃ q:List Value,(q.length=6)/\
 (Aw l ⟨g,0,none⟩ q)/\
 nC 194 #[.agg q.toArray] l λ I u=>
 ∃ y,(I=.returned (nI y))/\
 Br (y.tmod 31 !=0)
 (∃ z,(Aw u (Addr.add ⟨g,0,none⟩ 5) [nI z])/\
 ∃ v,(St 3 (Addr.add ⟨g,0,none⟩ 5) (nI (wI (z + 1))) u v)/\
 (n  v)/\F  v<F  l)
 (∃ (o:Sl->Int->World->Prop) (G:Sl->Int->World->Nat),(o ⟨none,0,0⟩ 0 u)/\∀ (Q:Env) (c:Sl) (e:Int) (f:World),o c e f->
 Br (decide (e<6))
 (Rng e 6 (∃ r,(Aw f (Addr.add ⟨g,0,none⟩ e.toNat) [nI r])/\
 ∃ A:UInt8,((0:Int)<=r)/\
 ((ByteArray.mk #[65,66,67,68,69,70,71,72,74,75,76,77,78,80,81,82,84,85,86,87,88,89,90,50,51,52,53,54,55,56,57])[r.toNat]? =some A)/\
 New (.cells #[.int .u8 ((↑A.toNat:Int))] 5 (0,0)) (λ H L=>
 ∃ s:World,∃ j:Sl,((Builtin.append_ #[47,47] 47 #[c.v,.slice ((some ⟨H,0,none⟩)) 1 1]).run prog L=.ok (j.v) s)/\
 (o j (wI (e + 1)) s)/\G j (wI (e + 1)) s<G c e f) f))
 (∃ C:ByteArray,(∀ b,(λ b=>b=f) b->((convert 47 9 (c.v))).run prog b=.ok (.string C) b)/\
 K (.tuple #[.string C,nI 0]) f)))) D
def Zzt:Sk:=(.seq .leaf (.cut [] [] [2,3,8,9,10,11,12,13] .leaf (.seq .leaf (.seq (.seq .leaf (.block (.loop [0,5] [(.int .i64),(.int .i64)] [0,5,14,15,16,17,18,19,20,21,22,23] .leaf))) (.seq (.block (.loop [] [] [24,25,26,27,28,29,30,31] .leaf)) (.seq .leaf (.seq (.seq .leaf (.block (.loop [6,7] [.sl,(.int .i64)] [6,7,32,33,34,35,36,37,38,39,40,41,42] .leaf))) .leaf)))))))
theorem Zwx (a:Int) (K:nK) (w : nW) (h:B124 a K w):Zk prog 124 #[nI a] w K:=cq (sk:=Zzt) h func124
def B116 (l:ByteArray) (K:nK) (w : nW):Prop:=
 Br ((↑l.size:Int) !=6)
 (K (.tuple #[nI 0,nI 6]) w)
 (New (.cells #[nI 0,nI 0,nI 0,nI 0,nI 0,nI 0] 248 (0,0)) (λ g t=>
 ∃ (f:Int->Int->World->Prop) (i:Int->Int->World->Nat),(f 0 0 t)/\∀ (v:Env) (b:Int) (a:Int) (d:World),f b a d->
 Br (decide (a<6))
 (∃ m:UInt8,((0:Int)<=a)/\
 (l[a.toNat]? =some m)/\
 nC 193 #[.int .u8 ((↑m.toNat:Int))] d λ r u=>
 ∃ n,(r=.returned (nI n))/\
 Rng a 6 (∃ c,(St 3 (Addr.add ⟨g,0,none⟩ a.toNat) (nI n) u c)/\
 Rng a 6 (∃ o,(Aw c (Addr.add ⟨g,0,none⟩ a.toNat) [nI o])/\
 Br (decide (o<0))
 (K (.tuple #[nI 0,nI 6]) c)
 (Br (decide (a<5))
 (Rng a 6 (∃ j,(Aw c (Addr.add ⟨g,0,none⟩ a.toNat) [nI j])/\
 (f (wI (wI (b * 31) + j)) (wI (a + 1)) c)/\i (wI (wI (b * 31) + j)) (wI (a + 1)) c<i b a d))
 ((f b (wI (a + 1)) c)/\i b (wI (a + 1)) c<i b a d)))))
 (∃ k:List Value,(k.length=6)/\
 (Aw d ⟨g,0,none⟩ k)/\
 nC 194 #[.agg k.toArray] d λ s q=>
 ∃ p,(s=.returned (nI p))/\
 Br (p.tmod 31 !=0)
 (K (.tuple #[nI 0,nI 6]) q)
 (K (.tuple #[nI b,nI 0]) q))) w)
def Zzy:Sk:=(.seq .leaf (.seq .leaf (.seq .leaf (.seq .leaf (.seq (.seq .leaf (.block (.loop [5,6] [(.int .i64),(.int .i64)] [2,3,5,6,10,11,12,13,14,15,16,17,18,19,20,21,22,23,24,25,26,27,28,29,30,31] .leaf))) .leaf)))))
theorem ZwF (a:ByteArray) (K:nK) (w : nW) (h:B116 a K w):Zk prog 116 #[.string a] w K:=cq (sk:=Zzy) h func116
def B189 (m:Int) (n:Int) (o:Int) (p:Int) (q:Nat) (K:nK) (w : nW):Prop:=
 New (.cells #[nI m,nI n,nI o,nI p,.float .f64 q] 168 (0,0)) (λ c a=>
 ∃ k,(Aw a ⟨c,0,none⟩ [nI k])/\
 Br (decide (k >= 1))
 (∃ l,(Aw a ⟨c,0,none⟩ [nI l])/\
 Br (decide (l<=28629151))
 (∃ d,(Aw a ⟨c,0 + 1,none⟩ [nI d])/\
 Br (decide (d >= 0))
 (∃ e,(Aw a ⟨c,0 + 1,none⟩ [nI e])/\
 Br (decide (e<=7))
 (∃ f,(Aw a ⟨c,0 + 2,none⟩ [nI f])/\
 Br (decide (f >= 1))
 (∃ g,(Aw a ⟨c,0 + 2,none⟩ [nI g])/\
 Br (decide (g<=600))
 (∃ i,(Aw a ⟨c,0 + 3,none⟩ [nI i])/\
 Br (decide (i >= 0))
 (∃ j,(Aw a ⟨c,0 + 3,none⟩ [nI j])/\
 K (.bool (decide (j<=1099511627776))) a)
 (K (.bool false) a))
 (K (.bool false) a))
 (K (.bool false) a))
 (K (.bool false) a))
 (K (.bool false) a))
 (K (.bool false) a))
 (K (.bool false) a)) w
theorem ZvW (a:Int) (b:Int) (c:Int) (d:Int) (e:Nat) (K:nK) (w : nW) (h:B189 a b c d e K w):Zk prog 189 #[.agg #[nI a,nI b,nI c,nI d,.float .f64 e]] w K:=cq (sk:=.leaf) h func189
def B191 (p:Int) (q:Int) (r:Int) (s:Int) (t:Nat) (u:Int) (v:Int) (x:Int) (y:Int) (z:Nat) (K:nK) (w : nW):Prop:=
 New (.cells #[nI p,nI q,nI r,nI s,.float .f64 t] 168 (0,0)) (λ c C=>
 New (.cells #[nI u,nI v,nI x,nI y,.float .f64 z] 168 (0,0)) (λ d f=>
 ∃ n,(Aw f ⟨c,0 + 4,none⟩ [.float .f64 n])/\
 ∃ o,(Aw f ⟨d,0 + 4,none⟩ [.float .f64 o])/\
 nC 258 #[.float .f64 n,.float .f64 o] f λ A b=>
 ∃ e,(A=.returned (nI e))/\
 Br (e !=0)
 (K (.bool (decide (e>0))) b)
 (∃ g,(Aw b ⟨c,0 + 3,none⟩ [nI g])/\
 ∃ i,(Aw b ⟨d,0 + 3,none⟩ [nI i])/\
 Br (g !=i)
 (∃ j,(Aw b ⟨c,0 + 3,none⟩ [nI j])/\
 ∃ k,(Aw b ⟨d,0 + 3,none⟩ [nI k])/\
 K (.bool (decide (j<k))) b)
 (∃ l,(Aw b ⟨c,0,none⟩ [nI l])/\
 ∃ m,(Aw b ⟨d,0,none⟩ [nI m])/\
 K (.bool (decide (l<m))) b))) C) w
theorem ZvU (a:Int) (b:Int) (c:Int) (d:Int) (e:Nat) (f:Int) (g:Int) (i:Int) (j:Int) (k:Nat) (K:nK) (w : nW) (h:B191 a b c d e f g i j k K w):Zk prog 191 #[.agg #[nI a,nI b,nI c,nI d,.float .f64 e],.agg #[nI f,nI g,nI i,nI j,.float .f64 k]] w K:=cq (sk:=.leaf) h func191
def B190 (i:Option Addr) (o:Int) (K:nK) (w : nW):Prop:=
 ∃ (g:Int->World->Prop) (k:Int->World->Nat),(g 0 w)/\∀ (p:Env) (c:Int) (b:World),g c b->
 Zb i λ n=>
 ∃ f:Sl,(Aw b (Addr.add n 0) [f.v])/\
 Br (decide (c<(↑f.len:Int)))
 (Zb i λ l=>
 ∃ d:Sl,(Aw b (Addr.add l 0) [d.v])/\
 Rng c d.len (Zb d.a λ m=>
 ∃ j,(Aw b (Addr.add (Addr.add m (ZaD c.toNat 5)) 0) [nI j])/\
 Br (j==o)
 (K (nI c) b)
 ((g (wI (c + 1)) b)/\k (wI (c + 1)) b<k c b)))
 (K (nI ((-1))) b)
def Zzb:Sk:=(.seq .leaf (.seq (.seq .leaf (.block (.loop [5] [(.int .i64)] [4,5,6,7,8,9,10,11,12,13,14,15,16,17,18,19,20,21,22,23,24,25] .leaf))) .leaf))
theorem ZvV (b:Option Addr) (a:Int) (K:nK) (w : nW) (h:B190 b a K w):Zk prog 190 #[.pointer b,nI a] w K:=cq (sk:=Zzb) h func190
def B112 (f:Option Addr) (ay:Int) (az:Int) (a0:Int) (a1:Int) (a2:Nat) (K:nK) (w : nW):Prop:=
 New (.cells #[nI ay,nI az,nI a0,nI a1,.float .f64 a2] 168 (0,0)) (λ n ad=>
 ∃ X Y Z aa ab,(Aw ad ⟨n,0,none⟩ [nI X,nI Y,nI Z,nI aa,.float .f64 ab])/\
 nC 189 #[.agg #[nI X,nI Y,nI Z,nI aa,.float .f64 ab]] ad λ av v=>
 ∃ ac,(av=.returned (.bool ac))/\
 Br (!ac)
 (K (nI 1) v)
 (∃ z,(Aw v ⟨n,0,none⟩ [nI z])/\
 nC 190 #[.pointer f,nI z] v λ aw q=>
 ∃ A,(aw=.returned (nI A))/\
 Br (decide (A >= 0))
 (K (nI 7) q)
 (Zb f λ ak=>
 ∃ o:Sl,(Aw q (Addr.add ak 0) [o.v])/\
 Br (decide ((↑o.len:Int) >= 200))
 (K (nI 3) q)
 (∃ (t:Int->World->Prop),(∃ (s:Int->World->Prop) (aj:Int->World->Nat),(s 0 q)/\∀ (a4:Env) (c:Int) (x:World),s c x->
 Drw x λ l ag=>
 Zb f λ al=>
 ∃ p:Sl,(At l (Addr.add al 0) [p.v])/\
 Br (decide (c<(↑p.len:Int)))
 (Zb f λ am=>
 ∃ m:Sl,(At l (Addr.add am 0) [m.v])/\
 Rng c m.len (Zb m.a λ an=>
 ∃ C D E F G,(At l (Addr.add an (ZaD c.toNat 5)) [nI C,nI D,nI E,nI F,.float .f64 G])/\
 ∃ H I J L M,(At l ⟨n,0,none⟩ [nI H,nI I,nI J,nI L,.float .f64 M])/\
 nC 191 #[.agg #[nI C,nI D,nI E,nI F,.float .f64 G],.agg #[nI H,nI I,nI J,nI L,.float .f64 M]] ag λ ax r=>
 ∃ N,(ax=.returned (.bool N))/\
 (l r)/\
 Br N
 ((s (wI (c + 1)) r)/\aj (wI (c + 1)) r<aj c x)
 (t c r)))
 (t c ag))/\
 ∀ (a5:Env) (d:Int) (ah:World),t d ah->
 New (.cells #[] 168 (0,0)) (λ ar ai=>
 Zb f λ ao=>
 ∃ g:Sl,(Aw ai (Addr.add ao 0) [g.v])/\
 ((0:Int)<=d)/\
 ((d:Int)<=(↑g.cap:Int))/\
 ∃ y:World,∃ i:Sl,((Builtin.append_ #[100,100] 100 #[.slice ((some ⟨ar,0,none⟩)) 0 0,.slice g.a d.toNat g.cap]).run prog ai=.ok (i.v) y)/\
 ∃ O Q T U V,(Aw y ⟨n,0,none⟩ [nI O,nI Q,nI T,nI U,.float .f64 V])/\
 New (.cells #[nI O,nI Q,nI T,nI U,.float .f64 V] 168 (0,0)) (λ au a3=>
 ∃ u:World,∃ j:Sl,((Builtin.append_ #[100,100] 100 #[i.v,.slice ((some ⟨au,0,none⟩)) 1 1]).run prog a3=.ok (j.v) u)/\
 Zb f λ ap=>
 ∃ e:Sl,(Aw u (Addr.add ap 0) [e.v])/\
 ((0:Int)<=d)/\
 ((d:Int)<=(↑e.len:Int))/\
 ∃ ae:World,∃ k:Sl,((Builtin.append_ #[100,100] 100 #[j.v,.slice (ZbI e.a d.toNat e.cap 5) (e.len - d.toNat) (e.cap - d.toNat)]).run prog u=.ok (k.v) ae)/\
 Zb f λ aq=>
 ∃ af,(St 100 (Addr.add aq 0) (k.v) ae af)/\
 K (nI 0) af) y) ah)))) w
def ZzA:Sk:=(.seq .leaf (.seq .leaf (.seq .leaf (.seq .leaf (.seq .leaf (.seq .leaf (.cut [6] [(.int .i64)] [6,23,24,25,26,27,28,29,30,31,32,33,34,35,36,37,38,39,40,41,42] (.block (.loop [6] [(.int .i64)] [6,23,24,25,26,27,28,29,30,31,32,33,34,35,36,37,38,39,40,41,42] .leaf)) .leaf)))))))
theorem ZwJ (a:Option Addr) (b:Int) (c:Int) (d:Int) (e:Int) (f:Nat) (K:nK) (w : nW) (h:B112 a b c d e f K w):Zk prog 112 #[.pointer a,.agg #[nI b,nI c,nI d,nI e,.float .f64 f]] w K:=cq (sk:=ZzA) h func112
def B118 (i:Option Addr) (t:Int) (K:nK) (w : nW):Prop:=
 nC 190 #[.pointer i,nI t] w λ s l=>
 ∃ b,(s=.returned (nI b))/\
 Br (decide (b<0))
 (K (nI 2) l)
 (Drw l λ g u=>
 Zb i λ o=>
 ∃ d:Sl,(At g (Addr.add o 0) [d.v])/\
 ((0:Int)<=b)/\
 ((b:Int)<=(↑d.cap:Int))/\
 Zb i λ p=>
 ∃ c:Sl,(At g (Addr.add p 0) [c.v])/\
 ((0:Int)<=wI (b + 1))/\
 ((wI (b + 1):Int)<=(↑c.len:Int))/\
 New (.cells #[] 168 (0,0)) (λ r m=>
 (g m)/\
 ∃ j:World,∃ e:Sl,((Builtin.append_ #[100,100] 100 #[.slice ((some ⟨r,0,none⟩)) 0 0,.slice d.a b.toNat d.cap]).run prog m=.ok (e.v) j)/\
 (g j)/\
 ∃ k:World,∃ f:Sl,((Builtin.append_ #[100,100] 100 #[e.v,.slice (ZbI c.a (wI (b + 1)).toNat c.cap 5) (c.len - (wI (b + 1)).toNat) (c.cap - (wI (b + 1)).toNat)]).run prog j=.ok (f.v) k)/\
 (g k)/\
 Zb i λ q=>
 ∃ n,(St 100 (Addr.add q 0) (f.v) k n)/\
 K (nI 0) n) u)
theorem ZwD (b:Option Addr) (a:Int) (K:nK) (w : nW) (h:B118 b a K w):Zk prog 118 #[.pointer b,nI a] w K:=cq (sk:=.leaf) h func118
def B192 (r:Option Addr) (n:Sl) (K:nK) (w : nW):Prop:=
 New (.cells #[nI 0,nI 0,nI 0,nI 0,.float .f64 0] 168 (0,0)) (λ k ab=>
 ∃ (i:Int->World->Prop) (m:Int->World->Nat),(i 0 ab)/\∀ (ad:Env) (c:Int) (d:World),i c d->
 Zb r λ X=>
 ∃ l:Sl,(Aw d (Addr.add X 0) [l.v])/\
 Br (decide (c<(↑l.len:Int)))
 (Zb r λ Y=>
 ∃ g:Sl,(Aw d (Addr.add Y 0) [g.v])/\
 Rng c g.len (Zb g.a λ Z=>
 ∃ s t u v x,(Aw d (Addr.add Z (ZaD c.toNat 5)) [nI s,nI t,nI u,nI v,.float .f64 x])/\
 New (.cells #[nI 0,nI 0,nI 0,nI 0,.float .f64 0] 168 (0,0)) (λ f ac=>
 ∃ V,(St 168 ⟨f,0,none⟩ (.agg #[nI s,nI t,nI u,nI v,.float .f64 x]) ac V)/\
 Drw V λ j e=>
 ∃ y,(At j ⟨f,0 + 1,none⟩ [nI y])/\
 Br (decide (y<(↑n.len:Int)))
 (∃ z,(At j ⟨f,0 + 2,none⟩ [nI z])/\
 ∃ o,(At j ⟨f,0 + 1,none⟩ [nI o])/\
 Rng o n.len (Zb n.a λ aa=>
 ∃ A,(At j (Addr.add aa o.toNat) [nI A])/\
 Br (decide (z<=A))
 (∃ C D E F G,(Aw e ⟨f,0,none⟩ [nI C,nI D,nI E,nI F,.float .f64 G])/\
 ∃ p,(St 168 ⟨k,0,none⟩ (.agg #[nI C,nI D,nI E,nI F,.float .f64 G]) e p)/\
 ∃ H I J L M,(Aw p ⟨k,0,none⟩ [nI H,nI I,nI J,nI L,.float .f64 M])/\
 K (.tuple #[.agg #[nI H,nI I,nI J,nI L,.float .f64 M],.bool true]) p)
 ((i (wI (c + 1)) e)/\m (wI (c + 1)) e<m c d)))
 ((i (wI (c + 1)) e)/\m (wI (c + 1)) e<m c d)) d))
 (∃ q,(St 168 ⟨k,0,none⟩ (.agg #[nI 0,nI 0,nI 0,nI 0,.float .f64 0]) d q)/\
 ∃ N O Q T U,(Aw q ⟨k,0,none⟩ [nI N,nI O,nI Q,nI T,.float .f64 U])/\
 K (.tuple #[.agg #[nI N,nI O,nI Q,nI T,.float .f64 U],.bool false]) q)) w
def Zza:Sk:=(.seq .leaf (.seq (.seq .leaf (.block (.loop [6] [(.int .i64)] [5,6,7,8,9,10,11,12,13,14,15,16,17,18,19,20,21,22,23,24,25,26,27,28,29,30,31,32,33,34,35,36,37,38,39] .leaf))) .leaf))
theorem ZvT (c:Option Addr) (b:Sl) (K:nK) (w : nW) (h:B192 c b K w):Zk prog 192 #[.pointer c,b.v] w K:=cq (sk:=Zza) h func192
def B70 (t:Option Addr) (K:nK) (w : nW):Prop:=
 Zb t λ V=>
 ∃ o:Sl,(Aw w (Addr.add V 0) [o.v])/\
 nC 137 #[.int .u64 (IntKind.u64.wrap (↑o.len:Int))] w λ Y ab=>
 ∃ p:Sl,(Y=.returned (p.v))/\
 ∃ (r:Sl->Int->World->Prop) (N:Sl->Int->World->Nat),(r p 0 ab)/\∀ (af:Env) (i:Sl) (e:Int) (g:World),r i e g->
 Zb t λ Q=>
 ∃ q:Sl,(Aw g (Addr.add Q 0) [q.v])/\
 Br (decide (e<(↑q.len:Int)))
 (Zb t λ T=>
 ∃ m:Sl,(Aw g (Addr.add T 0) [m.v])/\
 Rng e m.len (Zb m.a λ U=>
 ∃ v x y z A,(Aw g (Addr.add U (ZaD e.toNat 5)) [nI v,nI x,nI y,nI z,.float .f64 A])/\
 New (.cells #[nI 0,nI 0,nI 0,nI 0,.float .f64 0] 168 (0,0)) (λ j ac=>
 ∃ J,(St 168 ⟨j,0,none⟩ (.agg #[nI v,nI x,nI y,nI z,.float .f64 A]) ac J)/\
 Drw J λ c ad=>
 ∃ C,(At c ⟨j,0,none⟩ [nI C])/\
 ∃ D,(At c ⟨j,0 + 1,none⟩ [nI D])/\
 ∃ E,(At c ⟨j,0 + 2,none⟩ [nI E])/\
 ∃ F,(At c ⟨j,0 + 3,none⟩ [nI F])/\
 ∃ G,(At c ⟨j,0 + 4,none⟩ [.float .f64 G])/\
 nC 139 #[.float .f64 G] ad λ Z L=>
 ∃ H,(Z=.returned (.int .u64 H))/\
 (c L)/\
 New (.cells #[.int .u64 (IntKind.u64.wrap C),.int .u64 (IntKind.u64.wrap D),.int .u64 (IntKind.u64.wrap E),.int .u64 (IntKind.u64.wrap F),.int .u64 H] 141 (0,0)) (λ X M=>
 (c M)/\
 ∃ (s:Sl->Int->World->Prop) (O:Sl->Int->World->Nat),(s i 0 M)/\∀ (ag:Env) (d:Sl) (f:Int) (l:World),s d f l->
 Br (decide (f<5))
 (Rng f 5 (∃ I,(Aw l (Addr.add ⟨X,0,none⟩ f.toNat) [.int .u64 I])/\
 nC 137 #[.int .u64 I] l λ aa ae=>
 ∃ k:Sl,(aa=.returned (k.v))/\
 ∃ u:World,∃ n:Sl,((Builtin.append_ #[47,47] 47 #[d.v,k.v]).run prog ae=.ok (n.v) u)/\
 (s n (wI (f + 1)) u)/\O n (wI (f + 1)) u<O d f l))
 ((r d (wI (e + 1)) l)/\N d (wI (e + 1)) l<N i e g)) L) g))
 (K (i.v) g)
def sk70:Sk:=(.seq .leaf (.seq .leaf (.seq (.seq .leaf (.block (.loop [3,4] [.sl,(.int .i64)] [3,4,5,6,7,15,16,17,18,19,20,21,22,23,24,25,26,27,28,29,30,31,32,33,34,35,36,37,38,39,40,41,42,43,44,45,46,47,48,49,50,51,52,53,54,55,56,57] (.seq .leaf (.seq (.block (.seq .leaf (.seq .leaf (.seq .leaf (.block (.loop [3,7] [.sl,(.int .i64)] [3,7,47,48,49,50,51,52,53,54,55,56,57] .leaf)))))) .leaf))))) .leaf)))
theorem ZxM (a:Option Addr) (K:nK) (w : nW) (h:B70 a K w):Zk prog 70 #[.pointer a] w K:=cq (sk:=sk70) h func70
def B11  (K:nK) (w : nW):Prop:=
 New (.cells #[nI 0,nI 1,.slice none 0 0,.slice none 0 0] 46 (0,0)) (λ a b=>
 K (.pointer ((some ⟨a,0,none⟩))) b) w
theorem Zyo  (K:nK) (w : nW) (h:B11  K w):Zk prog 11 #[] w K:=cq (sk:=.leaf) h func11
def B46 (T:Int) (U:ByteArray) (V:Int) (X:Int) (Y:Int) (Z:Int) (aa:Nat) (ab:ByteArray) (ac:Int) (r:Sl) (q:Sl) (K:nK) (w : nW):Prop:=
 New (.cells #[nI T,.string U,nI V,nI X,nI Y,nI Z,.float .f64 aa,.string ab,nI ac,r.v,q.v] 40 (0,0)) (λ d k=>
 ∃ G,(Aw k ⟨d,0 + 2,none⟩ [nI G])/\
 ∃ H,(Aw k ⟨d,0 + 3,none⟩ [nI H])/\
 ∃ u,(Aw k ⟨d,0 + 4,none⟩ [nI u])/\
 ∃ v,(Aw k ⟨d,0 + 8,none⟩ [nI v])/\
 New (.cells #[nI G,nI H,nI u,nI v] 3 (0,0)) (λ t ad=>
 ∃ (o:Int->World->Prop) (M:Int->World->Nat),(o 0 ad)/\∀ (ae:Env) (f:Int) (c:World),o f c->
 Br (decide (f<(↑4:Int)))
 (Rng f 4 (∃ x,(Aw c (Addr.add ⟨t,0,none⟩ f.toNat) [nI x])/\
 Br (decide (x<0))
 (K (.bool false) c)
 (Rng f 4 (∃ y,(Aw c (Addr.add ⟨t,0,none⟩ f.toNat) [nI y])/\
 Br (decide (y>9999))
 (K (.bool false) c)
 ((o (wI (f + 1)) c)/\M (wI (f + 1)) c<M f c)))))
 (∃ (s:World->Prop),(∃ z,(Aw c ⟨d,0,none⟩ [nI z])/\
 Br (decide (z<1))
 (K (.bool false) c)
 (∃ A,(Aw c ⟨d,0,none⟩ [nI A])/\
 Br (decide (A>9))
 (K (.bool false) c)
 (∃ C,(Aw c ⟨d,0 + 5,none⟩ [nI C])/\
 Br (decide (C<0))
 (K (.bool false) c)
 (∃ D,(Aw c ⟨d,0 + 5,none⟩ [nI D])/\
 Br (decide (D>1099511627776))
 (K (.bool false) c)
 (∃ E,(Aw c ⟨d,0 + 1,none⟩ [.string E])/\
 Br (decide ((↑E.size:Int)>16))
 (K (.bool false) c)
 (∃ F,(Aw c ⟨d,0 + 7,none⟩ [.string F])/\
 Br (decide ((↑F.size:Int)>16))
 (K (.bool false) c)
 (∃ l:Sl,(Aw c ⟨d,0 + 8 + 1,none⟩ [l.v])/\
 Br (decide ((↑l.len:Int)>16))
 (K (.bool false) c)
 (∃ m:Sl,(Aw c ⟨d,0 + 10,none⟩ [m.v])/\
 Br (decide ((↑m.len:Int)>16))
 (K (.bool false) c)
 (s  c)))))))))/\
 ∀ (af:Env)  (L:World),s  L->
 ∃ (p:Int->World->Prop) (N:Int->World->Nat),(p 0 L)/\∀ (ag:Env) (g:Int) (e:World),p g e->
 ∃ n:Sl,(Aw e ⟨d,0 + 8 + 1,none⟩ [n.v])/\
 Br (decide (g<(↑n.len:Int)))
 (∃ i:Sl,(Aw e ⟨d,0 + 8 + 1,none⟩ [i.v])/\
 Rng g i.len (Zb i.a λ O=>
 ∃ I,(Aw e (Addr.add O g.toNat) [nI I])/\
 Br (decide (I<0))
 (K (.bool false) e)
 (∃ j:Sl,(Aw e ⟨d,0 + 8 + 1,none⟩ [j.v])/\
 Rng g j.len (Zb j.a λ Q=>
 ∃ J,(Aw e (Addr.add Q g.toNat) [nI J])/\
 Br (decide (J>9999))
 (K (.bool false) e)
 ((p (wI (g + 1)) e)/\N (wI (g + 1)) e<N g e)))))
 (K (.bool true) e))) k) w
def sk46:Sk:=(.seq .leaf (.seq .leaf (.seq (.seq .leaf (.block (.loop [4] [(.int .i64)] [2,4,16,17,18,19,20,21,22,23,24,25,26,27,28,29,30,31,32,33] .leaf))) (.cut [] [] [2,34,35,36,37,38,39,40,41,42,43,44,45,46,47,48,49,50,51,52,53,54,55,56,57,58,59,60,61,62,63,64,65,66,67,68,69,70,71,72,73,74,75,76] .leaf (.seq (.seq .leaf (.block (.loop [5] [(.int .i64)] [2,5,77,78,79,80,81,82,83,84,85,86,87,88,89,90,91,92,93,94,95,96,97,98,99,100] .leaf))) .leaf)))))
theorem Zx7 (d:Int) (e:ByteArray) (f:Int) (g:Int) (i:Int) (j:Int) (k:Nat) (l:ByteArray) (m:Int) (c:Sl) (b:Sl) (K:nK) (w : nW) (h:B46 d e f g i j k l m c b K w):Zk prog 46 #[.agg #[nI d,.string e,nI f,nI g,nI i,nI j,.float .f64 k,.string l,nI m,c.v,b.v]] w K:=cq (sk:=sk46) h func46
def B67 (i:Sl) (K:nK) (w : nW):Prop:=
 ∃ (g:Sl->Int->World->Prop) (l:Sl->Int->World->Nat),(g ⟨none,0,0⟩ 0 w)/\∀ (q:Env) (b:Sl) (c:Int) (f:World),g b c f->
 Br (decide (c<(↑i.len:Int)))
 (Rng c i.len (Zb i.a λ m=>
 ∃ j,(Aw f (Addr.add m c.toNat) [nI j])/\
 nC 137 #[.int .u64 (IntKind.u64.wrap (if 0>j then 0 else j))] f λ n p=>
 ∃ d:Sl,(n=.returned (d.v))/\
 ∃ k:World,∃ e:Sl,((Builtin.append_ #[47,47] 47 #[b.v,d.v]).run prog p=.ok (e.v) k)/\
 (g e (wI (c + 1)) k)/\l e (wI (c + 1)) k<l b c f))
 (K (b.v) f)
def sk67:Sk:=(.seq .leaf (.seq .leaf (.seq (.seq .leaf (.block (.loop [3,4] [.sl,(.int .i64)] [3,4,5,6,7,8,9,10,11,12,13,14,15,16,17,18,19] .leaf))) .leaf)))
theorem ZxP (b:Sl) (K:nK) (w : nW) (h:B67 b K w):Zk prog 67 #[b.v] w K:=cq (sk:=sk67) h func67
def B58 (k:Option Addr) (q:Int) (K:nK) (w : nW):Prop:=
 ∃ (g:Int->World->Prop) (n:Int->World->Nat),(g 0 w)/\∀ (r:Env) (c:Int) (b:World),g c b->
 Zb k λ j=>
 ∃ f:Sl,(Aw b (nO j 2) [f.v])/\
 Br (decide (c<(↑f.len:Int)))
 (Zb k λ i=>
 ∃ e:Sl,(Aw b (nO i 2) [e.v])/\
 Rng c e.len (Zb e.a λ o=>
 ∃ l,(Aw b (Addr.add (Addr.add o (ZaD c.toNat 2)) 0) [.pointer l])/\
 Zb l λ p=>
 ∃ m,(Aw b (Addr.add p 0) [nI m])/\
 Br (m==q)
 (K (nI c) b)
 ((g (wI (c + 1)) b)/\n (wI (c + 1)) b<n c b)))
 (K (nI ((-1))) b)
def sk58:Sk:=(.seq .leaf (.seq (.seq .leaf (.block (.loop [5] [(.int .i64)] [4,5,6,7,8,9,10,11,12,13,14,15,16,17,18,19,20,21,22,23,24,25,26,27,28] .leaf))) .leaf))
theorem ZxV (a:Option Addr) (b:Int) (K:nK) (w : nW) (h:B58 a b K w):Zk prog 58 #[.pointer a,nI b] w K:=cq (sk:=sk58) h func58
def B117 (k:Option Addr) (o:Int) (K:nK) (w : nW):Prop:=
 ∃ (g:Int->World->Prop) (m:Int->World->Nat),(g 0 w)/\∀ (p:Env) (c:Int) (b:World),g c b->
 Zb k λ j=>
 ∃ f:Sl,(Aw b (nO j 3) [f.v])/\
 Br (decide (c<(↑f.len:Int)))
 (Zb k λ i=>
 ∃ d:Sl,(Aw b (nO i 3) [d.v])/\
 Rng c d.len (Zb d.a λ n=>
 ∃ l,(Aw b (Addr.add (Addr.add n (ZaD c.toNat 6)) 0) [nI l])/\
 Br (l==o)
 (K (nI c) b)
 ((g (wI (c + 1)) b)/\m (wI (c + 1)) b<m c b)))
 (K (nI ((-1))) b)
def Zzx:Sk:=(.seq .leaf (.seq (.seq .leaf (.block (.loop [5] [(.int .i64)] [4,5,6,7,8,9,10,11,12,13,14,15,16,17,18,19,20,21,22,23,24,25] .leaf))) .leaf))
theorem ZwE (a:Option Addr) (b:Int) (K:nK) (w : nW) (h:B117 a b K w):Zk prog 117 #[.pointer a,nI b] w K:=cq (sk:=Zzx) h func117
def B51 (f:Option Addr) (j:ByteArray) (K:nK) (w : nW):Prop:=
 nC 116 #[.string j] w λ g d=>
 ∃ c a,(g=.returned (.tuple #[nI c,nI a]))/\
 Br (a !=0)
 (K (.tuple #[nI 0,nI a]) d)
 (nC 117 #[.pointer f,nI c] d λ i e=>
 ∃ b,(i=.returned (nI b))/\
 Br (decide (b<0))
 (K (.tuple #[nI 0,nI 2]) e)
 (K (.tuple #[nI b,nI 0]) e))
theorem Zx2 (a:Option Addr) (b:ByteArray) (K:nK) (w : nW) (h:B51 a b K w):Zk prog 51 #[.pointer a,.string b] w K:=cq (sk:=.leaf) h func51
def B115 (i:Option Addr) (b:Int) (K:nK) (w : nW):Prop:=
 Drw w λ g r=>
 Zb i λ n=>
 ∃ f:Sl,(At g (nO n 3) [f.v])/\
 ((0:Int)<=b)/\
 ((b:Int)<=(↑f.cap:Int))/\
 Zb i λ l=>
 ∃ c:Sl,(At g (nO l 3) [c.v])/\
 ((0:Int)<=wI (b + 1))/\
 ((wI (b + 1):Int)<=(↑c.len:Int))/\
 New (.cells #[] 125 (0,0)) (λ q o=>
 (g o)/\
 ∃ j:World,∃ d:Sl,((Builtin.append_ #[44,44] 44 #[.slice ((some ⟨q,0,none⟩)) 0 0,.slice f.a b.toNat f.cap]).run prog o=.ok (d.v) j)/\
 (g j)/\
 ∃ k:World,∃ e:Sl,((Builtin.append_ #[44,44] 44 #[d.v,.slice (ZbI c.a (wI (b + 1)).toNat c.cap 6) (c.len - (wI (b + 1)).toNat) (c.cap - (wI (b + 1)).toNat)]).run prog j=.ok (e.v) k)/\
 (g k)/\
 Zb i λ m=>
 ∃ p,(St 44 (nO m 3) (e.v) k p)/\
 K (.tuple #[]) p) r
theorem ZwG (a:Option Addr) (b:Int) (K:nK) (w : nW) (h:B115 a b K w):Zk prog 115 #[.pointer a,nI b] w K:=cq (sk:=.leaf) h func115
def B113 (r:Option Addr) (H:Int) (K:nK) (w : nW):Prop:=
 Zb r λ C=>
 ∃ i:Sl,(Aw w (nO C 2) [i.v])/\
 Rng H i.len (Zb i.a λ a4=>
 ∃ I J,(Aw w (Addr.add a4 (ZaD H.toNat 2)) [.pointer I,.pointer J])/\
 New (.cells #[.pointer none,.pointer none] 107 (0,0)) (λ g bi=>
 ∃ aw,(St 107 ⟨g,0,none⟩ (.agg #[.pointer I,.pointer J]) bi aw)/\
 ∃ (p:World->Prop) (a3:World->Nat),(p  aw)/\∀ (bl:Env)  (u:World),p  u->
 ∃ (m:Option Addr->Bool->World->Prop),(Drw u λ c ay=>
 ∃ n,(At c ⟨g,0 + 1,none⟩ [.pointer n])/\
 ∃ s,(At c ⟨g,0,none⟩ [.pointer s])/\
 (nC 59 #[.pointer s] ay λ a8 v=>
 ∃ d:Sl,(a8=.returned (d.v))/\
 (c v)/\
 (nC 192 #[.pointer n,d.v] v λ a9 az=>
 ∃ L M Z aa ab ac,(a9=.returned (.tuple #[.agg #[nI L,nI M,nI Z,nI aa,.float .f64 ab],.bool ac]))/\
 (c az)/\
 New (.cells #[nI 0,nI 0,nI 0,nI 0,.float .f64 0] 168 (0,0)) (λ D a0=>
 (c a0)/\
 ∃ a1,(St 168 ⟨D,0,none⟩ (.agg #[nI L,nI M,nI Z,nI aa,.float .f64 ab]) a0 a1)/\
 m ((some ⟨D,0,none⟩)) ac a1) az)/\
 New (.cells #[nI 0,nI 0,nI 0,nI 0,.float .f64 0] 168 (0,0)) (λ E a2=>
 (c a2)/\
 nC 192 #[.pointer n,d.v] a2 λ ba ao=>
 ∃ ad ae af ag N O,(ba=.returned (.tuple #[.agg #[nI ad,nI ae,nI af,nI ag,.float .f64 N],.bool O]))/\
 (c ao)/\
 ∃ ap,(St 168 ⟨E,0,none⟩ (.agg #[nI ad,nI ae,nI af,nI ag,.float .f64 N]) ao ap)/\
 m ((some ⟨E,0,none⟩)) O ap) v)/\
 New (.cells #[nI 0,nI 0,nI 0,nI 0,.float .f64 0] 168 (0,0)) (λ F aq=>
 (c aq)/\
 nC 59 #[.pointer s] aq λ bb ar=>
 ∃ e:Sl,(bb=.returned (e.v))/\
 (c ar)/\
 nC 192 #[.pointer n,e.v] ar λ bc au=>
 ∃ Q T U V X Y,(bc=.returned (.tuple #[.agg #[nI Q,nI T,nI U,nI V,.float .f64 X],.bool Y]))/\
 (c au)/\
 ∃ av,(St 168 ⟨F,0,none⟩ (.agg #[nI Q,nI T,nI U,nI V,.float .f64 X]) au av)/\
 m ((some ⟨F,0,none⟩)) Y av) ay)/\
 ∀ (bm:Env) (f:Option Addr) (G:Bool) (k:World),m f G k->
 Br (!G)
 (K (.tuple #[]) k)
 (∃ ah,(Aw k ⟨g,0 + 1,none⟩ [.pointer ah])/\
 Zb f λ a5=>
 ∃ ai,(Aw k (Addr.add a5 0) [nI ai])/\
 nC 118 #[.pointer ah,nI ai] k λ bd l=>
 ∃ bg,(bd=.returned (nI bg))/\
 ∃ aj,(Aw l ⟨g,0,none⟩ [.pointer aj])/\
 Zb f λ a6=>
 ∃ ak,(Aw l (Addr.add a6 0) [nI ak])/\
 Zb f λ x=>
 ∃ al,(Aw l (nO x 1) [nI al])/\
 Zb f λ y=>
 ∃ am,(Aw l (nO y 2) [nI am])/\
 nC 111 #[.pointer aj,nI ak,nI al,nI am] l λ be bj=>
 ∃ bh,(be=.returned (nI bh))/\
 Drw bj λ q bk=>
 Zb r λ z=>
 ∃ j:Sl,(At q (nO z 3) [j.v])/\
 Zb f λ a7=>
 ∃ an,(At q (Addr.add a7 0) [nI an])/\
 nC 117 #[.pointer r,nI an] bk λ bf ax=>
 ∃ o,(bf=.returned (nI o))/\
 (q ax)/\
 Rng o j.len (Zb j.a λ A=>
 ∃ t,(St 3 (nO (A.add (ZaD o.toNat 6)) 4) (nI 2) ax t)/\
 (p  t)/\a3  t<a3  u))) w)
def Zzz:Sk:=(.seq .leaf (.block (.loop [] [] [5,6,14,15,16,17,18,19,20,21,22,23,24,25,26,27,28,29,30,31,32,33,34,35,36,37,38,39,40,41,42,43,44,45,46,47,48] (.block (.cut [5,6] [.ptr,.bool] [5,6,14,15,16,17,18,19,20,21,22] .leaf .leaf)))))
theorem ZwI (a:Option Addr) (b:Int) (K:nK) (w : nW) (h:B113 a b K w):Zk prog 113 #[.pointer a,nI b] w K:=cq (sk:=Zzz) h func113
def B57 (u:Option Addr) (ad:Int) (K:nK) (w : nW):Prop:=
 New (.cells #[nI 0,.string (ByteArray.mk #[]),nI 0,nI 0,nI 0,nI 0,nI 0,.slice none 0 0,.slice none 0 0] 33 (0,0)) (λ v Q=>
 Zb u λ Z=>
 ∃ t:Sl,(Aw Q (nO Z 3) [t.v])/\
 Rng ad t.len (Zb t.a λ b1=>
 ∃ ae af ag ah ai aj,(Aw Q (Addr.add b1 (ZaD ad.toNat 6)) [nI ae,nI af,nI ag,nI ah,nI ai,nI aj])/\
 New (.cells #[nI 0,nI 0,nI 0,nI 0,nI 0,nI 0] 125 (0,0)) (λ d ch=>
 ∃ bt,(St 125 ⟨d,0,none⟩ (.agg #[nI ae,nI af,nI ag,nI ah,nI ai,nI aj]) ch bt)/\
 ∃ (A:Option Addr->World->Prop),(Drw bt λ e bu=>
 Zb u λ aa=>
 ∃ f:Sl,(At e (nO aa 2) [f.v])/\
 ∃ E,(At e ⟨d,0 + 1,none⟩ [nI E])/\
 (nC 58 #[.pointer u,nI E] bu λ b7 bv=>
 ∃ F,(b7=.returned (nI F))/\
 (e bv)/\
 Rng F f.len (Zb f.a λ b2=>
 ∃ ak al,(At e (Addr.add b2 (ZaD F.toNat 2)) [.pointer ak,.pointer al])/\
 New (.cells #[.pointer none,.pointer none] 107 (0,0)) (λ ab bw=>
 (e bw)/\
 ∃ bx,(St 107 ⟨ab,0,none⟩ (.agg #[.pointer ak,.pointer al]) bw bx)/\
 A ((some ⟨ab,0,none⟩)) bx) bv))/\
 New (.cells #[.pointer none,.pointer none] 107 (0,0)) (λ ac bz=>
 (e bz)/\
 nC 58 #[.pointer u,nI E] bz λ b8 b0=>
 ∃ G,(b8=.returned (nI G))/\
 (e b0)/\
 Rng G f.len (Zb f.a λ b3=>
 ∃ am an,(At e (Addr.add b3 (ZaD G.toNat 2)) [.pointer am,.pointer an])/\
 ∃ bn,(St 107 ⟨ac,0,none⟩ (.agg #[.pointer am,.pointer an]) b0 bn)/\
 A ((some ⟨ac,0,none⟩)) bn)) bu)/\
 ∀ (cj:Env) (x:Option Addr) (T:World),A x T->
 ∃ ao,(Aw T ⟨d,0,none⟩ [nI ao])/\
 nC 124 #[nI ao] T λ b9 cf=>
 ∃ H ce,(b9=.returned (.tuple #[.string H,nI ce]))/\
 Drw cf λ c bo=>
 ∃ I,(At c ⟨d,0 + 4,none⟩ [nI I])/\
 ∃ J,(At c ⟨d,0 + 1,none⟩ [nI J])/\
 ∃ L,(At c ⟨d,0 + 2,none⟩ [nI L])/\
 ∃ M,(At c ⟨d,0 + 3,none⟩ [nI M])/\
 ∃ N,(At c ⟨d,0 + 5,none⟩ [nI N])/\
 Zb x λ b4=>
 ∃ O,(At c (Addr.add b4 0) [.pointer O])/\
 (nC 59 #[.pointer O] bo λ ca bp=>
 ∃ g:Sl,(ca=.returned (g.v))/\
 (c bp)/\
 New (.cells #[nI 0,.string (ByteArray.mk #[]),nI 0,nI 0,nI 0,nI 0,nI 0,.slice none 0 0,.slice none 0 0] 33 (0,0)) (λ C bq=>
 (c bq)/\
 ∃ y,(St 33 ⟨C,0,none⟩ (.agg #[nI 0,.string H,nI I,nI J,nI L,nI M,nI N,g.v,.slice none 0 0]) bq y)/\
 Zb x λ b5=>
 ∃ ap,(Aw y (Addr.add b5 0) [.pointer ap])/\
 ∃ ar,(Aw y ⟨d,0,none⟩ [nI ar])/\
 nC 125 #[.pointer ap,nI ar] y λ cb cg=>
 ∃ j:Sl,(cb=.returned (j.v))/\
 ∃ U,(St 31 ⟨C,0 + 8,none⟩ (j.v) cg U)/\
 ∃ av aw a3 a4 a5 a6 a7,∃ n o:Sl,(Aw U ⟨C,0,none⟩ [nI av,.string aw,nI a3,nI a4,nI a5,nI a6,nI a7,n.v,o.v])/\
 ∃ V,(St 33 ⟨v,0,none⟩ (.agg #[nI av,.string aw,nI a3,nI a4,nI a5,nI a6,nI a7,n.v,o.v]) U V)/\
 ∃ a9 ba bh bi bj bk bl,∃ r s:Sl,(Aw V ⟨v,0,none⟩ [nI a9,.string ba,nI bh,nI bi,nI bj,nI bk,nI bl,r.v,s.v])/\
 K (.agg #[nI a9,.string ba,nI bh,nI bi,nI bj,nI bk,nI bl,r.v,s.v]) V) bp)/\
 New (.cells #[nI 0,.string (ByteArray.mk #[]),nI 0,nI 0,nI 0,nI 0,nI 0,.slice none 0 0,.slice none 0 0] 33 (0,0)) (λ D br=>
 (c br)/\
 nC 59 #[.pointer O] br λ cc bs=>
 ∃ i:Sl,(cc=.returned (i.v))/\
 (c bs)/\
 ∃ z,(St 33 ⟨D,0,none⟩ (.agg #[nI 0,.string H,nI I,nI J,nI L,nI M,nI N,i.v,.slice none 0 0]) bs z)/\
 Zb x λ b6=>
 ∃ aq,(Aw z (Addr.add b6 0) [.pointer aq])/\
 ∃ au,(Aw z ⟨d,0,none⟩ [nI au])/\
 nC 125 #[.pointer aq,nI au] z λ cd ci=>
 ∃ k:Sl,(cd=.returned (k.v))/\
 ∃ X,(St 31 ⟨D,0 + 8,none⟩ (k.v) ci X)/\
 ∃ a8 ax ay az a0 a1 a2,∃ l m:Sl,(Aw X ⟨D,0,none⟩ [nI a8,.string ax,nI ay,nI az,nI a0,nI a1,nI a2,l.v,m.v])/\
 ∃ Y,(St 33 ⟨v,0,none⟩ (.agg #[nI a8,.string ax,nI ay,nI az,nI a0,nI a1,nI a2,l.v,m.v]) X Y)/\
 ∃ bm bb bc bd be bf bg,∃ p q:Sl,(Aw Y ⟨v,0,none⟩ [nI bm,.string bb,nI bc,nI bd,nI be,nI bf,nI bg,p.v,q.v])/\
 K (.agg #[nI bm,.string bb,nI bc,nI bd,nI be,nI bf,nI bg,p.v,q.v]) Y) bo) Q)) w
def sk57:Sk:=(.seq .leaf (.seq .leaf (.cut [6] [.ptr] [6,17,18,19,20,21,22,23,24,25,26] .leaf .leaf)))
theorem ZxW (a:Option Addr) (b:Int) (K:nK) (w : nW) (h:B57 a b K w):Zk prog 57 #[.pointer a,nI b] w K:=cq (sk:=sk57) h func57
def B17 (A:Option Addr) (cc:Int) (cd:ByteArray) (ce:Int) (cf:Int) (cg:Int) (ch:Int) (ci:Nat) (cj:ByteArray) (ck:Int) (H:Sl) (G:Sl) (K:nK) (w : nW):Prop:=
 New (.cells #[nI cc,.string cd,nI ce,nI cf,nI cg,nI ch,.float .f64 ci,.string cj,nI ck,H.v,G.v] 40 (0,0)) (λ f cq=>
 New (.cells #[nI 0,.string (ByteArray.mk #[]),nI 0,nI 0,nI 0,nI 0,nI 0,.slice none 0 0,.slice none 0 0] 33 (0,0)) (λ c b8=>
 ∃ ao ap aq ar au av aw ax ay,∃ l k:Sl,(Aw b8 ⟨f,0,none⟩ [nI ao,.string ap,nI aq,nI ar,nI au,nI av,.float .f64 aw,.string ax,nI ay,l.v,k.v])/\
 nC 46 #[.agg #[nI ao,.string ap,nI aq,nI ar,nI au,nI av,.float .f64 aw,.string ax,nI ay,l.v,k.v]] b8 λ cl F=>
 ∃ Y,(cl=.returned (.bool Y))/\
 ∃ (T:World->Prop),(Br (!Y)
 (∃ N,(St 33 ⟨c,0,none⟩ (.agg #[nI 1,.string (ByteArray.mk #[]),nI 0,nI 0,nI 0,nI 0,nI 0,.slice none 0 0,.slice none 0 0]) F N)/\
 ∃ az a0 a9 bi br b1 b4,∃ x y:Sl,(Aw N ⟨c,0,none⟩ [nI az,.string a0,nI a9,nI bi,nI br,nI b1,nI b4,x.v,y.v])/\
 K (.agg #[nI az,.string a0,nI a9,nI bi,nI br,nI b1,nI b4,x.v,y.v]) N)
 (∃ Z,(Aw F ⟨f,0,none⟩ [nI Z])/\
 Br (Z !=9)
 (∃ O,(St 33 ⟨c,0,none⟩ (.agg #[nI 1,.string (ByteArray.mk #[]),nI 0,nI 0,nI 0,nI 0,nI 0,.slice none 0 0,.slice none 0 0]) F O)/\
 ∃ b5 a1 a2 a3 a4 a5 a6,∃ m n:Sl,(Aw O ⟨c,0,none⟩ [nI b5,.string a1,nI a2,nI a3,nI a4,nI a5,nI a6,m.v,n.v])/\
 K (.agg #[nI b5,.string a1,nI a2,nI a3,nI a4,nI a5,nI a6,m.v,n.v]) O)
 (T  F)))/\
 ∀ (ct:Env)  (z:World),T  z->
 ∃ aa,(Aw z ⟨f,0 + 1,none⟩ [.string aa])/\
 Br (!aa.toList==(ByteArray.mk #[]).toList)
 (∃ ab,(Aw z ⟨f,0 + 1,none⟩ [.string ab])/\
 nC 51 #[.pointer A,.string ab] z λ cm b9=>
 ∃ ac I,(cm=.returned (.tuple #[nI ac,nI I]))/\
 Br (I !=0)
 (∃ Q,(St 33 ⟨c,0,none⟩ (.agg #[nI I,.string (ByteArray.mk #[]),nI 0,nI 0,nI 0,nI 0,nI 0,.slice none 0 0,.slice none 0 0]) b9 Q)/\
 ∃ a7 a8 ba bb bc bd be,∃ o p:Sl,(Aw Q ⟨c,0,none⟩ [nI a7,.string a8,nI ba,nI bb,nI bc,nI bd,nI be,o.v,p.v])/\
 K (.agg #[nI a7,.string a8,nI ba,nI bb,nI bc,nI bd,nI be,o.v,p.v]) Q)
 (nC 57 #[.pointer A,nI ac] b9 λ cn cs=>
 ∃ ad ae af ag ah ai aj,∃ g i:Sl,(cn=.returned (.agg #[nI ad,.string ae,nI af,nI ag,nI ah,nI ai,nI aj,g.v,i.v]))/\
 ∃ J,(St 33 ⟨c,0,none⟩ (.agg #[nI ad,.string ae,nI af,nI ag,nI ah,nI ai,nI aj,g.v,i.v]) cs J)/\
 ∃ bf bg bh bj bk bl bm,∃ q r:Sl,(Aw J ⟨c,0,none⟩ [nI bf,.string bg,nI bh,nI bj,nI bk,nI bl,nI bm,q.v,r.v])/\
 K (.agg #[nI bf,.string bg,nI bh,nI bj,nI bk,nI bl,nI bm,q.v,r.v]) J))
 (∃ ak,(Aw z ⟨f,0 + 2,none⟩ [nI ak])/\
 nC 58 #[.pointer A,nI ak] z λ co b6=>
 ∃ e,(co=.returned (nI e))/\
 Br (decide (e<0))
 (∃ L,(St 33 ⟨c,0,none⟩ (.agg #[nI 2,.string (ByteArray.mk #[]),nI 0,nI 0,nI 0,nI 0,nI 0,.slice none 0 0,.slice none 0 0]) b6 L)/\
 ∃ bn bo bp bq bs bt bu,∃ s t:Sl,(Aw L ⟨c,0,none⟩ [nI bn,.string bo,nI bp,nI bq,nI bs,nI bt,nI bu,s.v,t.v])/\
 K (.agg #[nI bn,.string bo,nI bp,nI bq,nI bs,nI bt,nI bu,s.v,t.v]) L)
 (Drw b6 λ d cr=>
 ∃ al,(At d ⟨f,0 + 2,none⟩ [nI al])/\
 Zb A λ U=>
 ∃ C:Sl,(At d (nO U 2) [C.v])/\
 Rng e C.len (Zb C.a λ ca=>
 ∃ am,(At d (Addr.add (Addr.add ca (ZaD e.toNat 2)) 0) [.pointer am])/\
 Zb A λ V=>
 ∃ D:Sl,(At d (nO V 2) [D.v])/\
 Rng e D.len (Zb D.a λ X=>
 ∃ an,(At d (nO (X.add (ZaD e.toNat 2)) 1) [.pointer an])/\
 Zb an λ cb=>
 ∃ E:Sl,(At d (Addr.add cb 0) [E.v])/\
 nC 59 #[.pointer am] cr λ cp b7=>
 ∃ j:Sl,(cp=.returned (j.v))/\
 (d b7)/\
 ∃ M,(St 33 ⟨c,0,none⟩ (.agg #[nI 0,.string (ByteArray.mk #[]),nI 0,nI al,nI 0,nI ((↑E.len:Int)),nI 0,j.v,.slice none 0 0]) b7 M)/\
 ∃ bv bw bx bz b0 b2 b3,∃ u v:Sl,(Aw M ⟨c,0,none⟩ [nI bv,.string bw,nI bx,nI bz,nI b0,nI b2,nI b3,u.v,v.v])/\
 K (.agg #[nI bv,.string bw,nI bx,nI bz,nI b0,nI b2,nI b3,u.v,v.v]) M))))) cq) w
def sk17:Sk:=(.seq .leaf (.seq .leaf (.cut [] [] [11,12,13,14,15,16,17,18] .leaf .leaf)))
theorem Zyj (d:Option Addr) (e:Int) (f:ByteArray) (g:Int) (i:Int) (j:Int) (k:Int) (l:Nat) (m:ByteArray) (n:Int) (c:Sl) (b:Sl) (K:nK) (w : nW) (h:B17 d e f g i j k l m n c b K w):Zk prog 17 #[.pointer d,.agg #[nI e,.string f,nI g,nI i,nI j,nI k,.float .f64 l,.string m,nI n,c.v,b.v]] w K:=cq (sk:=sk17) h func17
def B14 (f:Option Addr) (fg:Int) (fh:ByteArray) (fi:Int) (fj:Int) (fk:Int) (fl:Int) (fm:Nat) (fn:ByteArray) (fo:Int) (ag:Sl) (af:Sl) (K:nK) (w : nW):Prop:=
 New (.cells #[nI fg,.string fh,nI fi,nI fj,nI fk,nI fl,.float .f64 fm,.string fn,nI fo,ag.v,af.v] 40 (0,0)) (λ e fx=>
 New (.cells #[nI 0,.string (ByteArray.mk #[]),nI 0,nI 0,nI 0,nI 0,nI 0,.slice none 0 0,.slice none 0 0] 33 (0,0)) (λ c ff=>
 ∃ dk dl dm dn dp dq dr ds dt,∃ J I:Sl,(Aw ff ⟨e,0,none⟩ [nI dk,.string dl,nI dm,nI dn,nI dp,nI dq,.float .f64 dr,.string ds,nI dt,J.v,I.v])/\
 nC 46 #[.agg #[nI dk,.string dl,nI dm,nI dn,nI dp,nI dq,.float .f64 dr,.string ds,nI dt,J.v,I.v]] ff λ fp d=>
 ∃ du,(fp=.returned (.bool du))/\
 Br (!du)
 (∃ ao,(St 33 ⟨c,0,none⟩ (.agg #[nI 1,.string (ByteArray.mk #[]),nI 0,nI 0,nI 0,nI 0,nI 0,.slice none 0 0,.slice none 0 0]) d ao)/\
 ∃ dv dw d5 ee en ew e5,∃ ab ae:Sl,(Aw ao ⟨c,0,none⟩ [nI dv,.string dw,nI d5,nI ee,nI en,nI ew,nI e5,ab.v,ae.v])/\
 K (.agg #[nI dv,.string dw,nI d5,nI ee,nI en,nI ew,nI e5,ab.v,ae.v]) ao)
 (∃ g,(Aw d ⟨e,0,none⟩ [nI g])/\
 Br (g==1)
 (∃ ar au av aw ax ay az a0 a1,∃ j i:Sl,(Aw d ⟨e,0,none⟩ [nI ar,.string au,nI av,nI aw,nI ax,nI ay,.float .f64 az,.string a0,nI a1,j.v,i.v])/\
 nC 47 #[.pointer f,.agg #[nI ar,.string au,nI av,nI aw,nI ax,nI ay,.float .f64 az,.string a0,nI a1,j.v,i.v]] d λ fq f1=>
 ∃ a2 a3 a4 a5 a6 a7 a8,∃ k l:Sl,(fq=.returned (.agg #[nI a2,.string a3,nI a4,nI a5,nI a6,nI a7,nI a8,k.v,l.v]))/\
 ∃ ap,(St 33 ⟨c,0,none⟩ (.agg #[nI a2,.string a3,nI a4,nI a5,nI a6,nI a7,nI a8,k.v,l.v]) f1 ap)/\
 ∃ fe dx dy dz d0 d1 d2,∃ L M:Sl,(Aw ap ⟨c,0,none⟩ [nI fe,.string dx,nI dy,nI dz,nI d0,nI d1,nI d2,L.v,M.v])/\
 K (.agg #[nI fe,.string dx,nI dy,nI dz,nI d0,nI d1,nI d2,L.v,M.v]) ap)
 (Br (g==2)
 (∃ a9 ba bb bc bd be bf bg bh,∃ n m:Sl,(Aw d ⟨e,0,none⟩ [nI a9,.string ba,nI bb,nI bc,nI bd,nI be,.float .f64 bf,.string bg,nI bh,n.v,m.v])/\
 nC 48 #[.pointer f,.agg #[nI a9,.string ba,nI bb,nI bc,nI bd,nI be,.float .f64 bf,.string bg,nI bh,n.v,m.v]] d λ fr f2=>
 ∃ bi bj bk bl bm bn bo,∃ o p:Sl,(fr=.returned (.agg #[nI bi,.string bj,nI bk,nI bl,nI bm,nI bn,nI bo,o.v,p.v]))/\
 ∃ aq,(St 33 ⟨c,0,none⟩ (.agg #[nI bi,.string bj,nI bk,nI bl,nI bm,nI bn,nI bo,o.v,p.v]) f2 aq)/\
 ∃ d3 d4 d6 d7 d8 d9 ea,∃ N O:Sl,(Aw aq ⟨c,0,none⟩ [nI d3,.string d4,nI d6,nI d7,nI d8,nI d9,nI ea,N.v,O.v])/\
 K (.agg #[nI d3,.string d4,nI d6,nI d7,nI d8,nI d9,nI ea,N.v,O.v]) aq)
 (Br (g==7)
 (∃ bp bq br bs bt bu bv bw bx,∃ r q:Sl,(Aw d ⟨e,0,none⟩ [nI bp,.string bq,nI br,nI bs,nI bt,nI bu,.float .f64 bv,.string bw,nI bx,r.v,q.v])/\
 nC 49 #[.pointer f,.agg #[nI bp,.string bq,nI br,nI bs,nI bt,nI bu,.float .f64 bv,.string bw,nI bx,r.v,q.v]] d λ fs f3=>
 ∃ bz b0 b1 b2 b3 b4 b5,∃ s t:Sl,(fs=.returned (.agg #[nI bz,.string b0,nI b1,nI b2,nI b3,nI b4,nI b5,s.v,t.v]))/\
 ∃ ai,(St 33 ⟨c,0,none⟩ (.agg #[nI bz,.string b0,nI b1,nI b2,nI b3,nI b4,nI b5,s.v,t.v]) f3 ai)/\
 ∃ eb ec ed ef eg eh ei,∃ Q T:Sl,(Aw ai ⟨c,0,none⟩ [nI eb,.string ec,nI ed,nI ef,nI eg,nI eh,nI ei,Q.v,T.v])/\
 K (.agg #[nI eb,.string ec,nI ed,nI ef,nI eg,nI eh,nI ei,Q.v,T.v]) ai)
 (Br (g==8)
 (∃ b6 b7 b8 b9 ca cb cc cd ce,∃ v u:Sl,(Aw d ⟨e,0,none⟩ [nI b6,.string b7,nI b8,nI b9,nI ca,nI cb,.float .f64 cc,.string cd,nI ce,v.v,u.v])/\
 nC 50 #[.pointer f,.agg #[nI b6,.string b7,nI b8,nI b9,nI ca,nI cb,.float .f64 cc,.string cd,nI ce,v.v,u.v]] d λ ft fy=>
 ∃ cf cg ch ci cj ck cl,∃ x y:Sl,(ft=.returned (.agg #[nI cf,.string cg,nI ch,nI ci,nI cj,nI ck,nI cl,x.v,y.v]))/\
 ∃ aj,(St 33 ⟨c,0,none⟩ (.agg #[nI cf,.string cg,nI ch,nI ci,nI cj,nI ck,nI cl,x.v,y.v]) fy aj)/\
 ∃ ej ek el em eo ep eq,∃ U V:Sl,(Aw aj ⟨c,0,none⟩ [nI ej,.string ek,nI el,nI em,nI eo,nI ep,nI eq,U.v,V.v])/\
 K (.agg #[nI ej,.string ek,nI el,nI em,nI eo,nI ep,nI eq,U.v,V.v]) aj)
 (Br (g==9)
 (∃ cm cn co cp cq cr cs ct cu,∃ A z:Sl,(Aw d ⟨e,0,none⟩ [nI cm,.string cn,nI co,nI cp,nI cq,nI cr,.float .f64 cs,.string ct,nI cu,A.v,z.v])/\
 nC 17 #[.pointer f,.agg #[nI cm,.string cn,nI co,nI cp,nI cq,nI cr,.float .f64 cs,.string ct,nI cu,A.v,z.v]] d λ fu fz=>
 ∃ cv cw cx cy cz c0 c1,∃ C D:Sl,(fu=.returned (.agg #[nI cv,.string cw,nI cx,nI cy,nI cz,nI c0,nI c1,C.v,D.v]))/\
 ∃ ak,(St 33 ⟨c,0,none⟩ (.agg #[nI cv,.string cw,nI cx,nI cy,nI cz,nI c0,nI c1,C.v,D.v]) fz ak)/\
 ∃ er es et eu ev ex ey,∃ X Y:Sl,(Aw ak ⟨c,0,none⟩ [nI er,.string es,nI et,nI eu,nI ev,nI ex,nI ey,X.v,Y.v])/\
 K (.agg #[nI er,.string es,nI et,nI eu,nI ev,nI ex,nI ey,X.v,Y.v]) ak)
 (∃ c2,(Aw d ⟨e,0 + 1,none⟩ [.string c2])/\
 nC 51 #[.pointer f,.string c2] d λ fv al=>
 ∃ c3 ah,(fv=.returned (.tuple #[nI c3,nI ah]))/\
 Br (ah !=0)
 (∃ am,(St 33 ⟨c,0,none⟩ (.agg #[nI ah,.string (ByteArray.mk #[]),nI 0,nI 0,nI 0,nI 0,nI 0,.slice none 0 0,.slice none 0 0]) al am)/\
 ∃ ez e0 e1 e2 e3 e4 e6,∃ Z aa:Sl,(Aw am ⟨c,0,none⟩ [nI ez,.string e0,nI e1,nI e2,nI e3,nI e4,nI e6,Z.v,aa.v])/\
 K (.agg #[nI ez,.string e0,nI e1,nI e2,nI e3,nI e4,nI e6,Z.v,aa.v]) am)
 (∃ c4 c5 c6 c7 c8 c9 da db dc,∃ F E:Sl,(Aw al ⟨e,0,none⟩ [nI c4,.string c5,nI c6,nI c7,nI c8,nI c9,.float .f64 da,.string db,nI dc,F.v,E.v])/\
 nC 52 #[.pointer f,nI c3,.agg #[nI c4,.string c5,nI c6,nI c7,nI c8,nI c9,.float .f64 da,.string db,nI dc,F.v,E.v]] al λ fw f0=>
 ∃ dd de df dg dh di dj,∃ G H:Sl,(fw=.returned (.agg #[nI dd,.string de,nI df,nI dg,nI dh,nI di,nI dj,G.v,H.v]))/\
 ∃ an,(St 33 ⟨c,0,none⟩ (.agg #[nI dd,.string de,nI df,nI dg,nI dh,nI di,nI dj,G.v,H.v]) f0 an)/\
 ∃ e7 e8 e9 fa fb fc fd,∃ ac ad:Sl,(Aw an ⟨c,0,none⟩ [nI e7,.string e8,nI e9,nI fa,nI fb,nI fc,nI fd,ac.v,ad.v])/\
 K (.agg #[nI e7,.string e8,nI e9,nI fa,nI fb,nI fc,nI fd,ac.v,ad.v]) an)))))))) fx) w
theorem Zym (d:Option Addr) (e:Int) (f:ByteArray) (g:Int) (i:Int) (j:Int) (k:Int) (l:Nat) (m:ByteArray) (n:Int) (c:Sl) (b:Sl) (K:nK) (w : nW) (h:B14 d e f g i j k l m n c b K w):Zk prog 14 #[.pointer d,.agg #[nI e,.string f,nI g,nI i,nI j,nI k,.float .f64 l,.string m,nI n,c.v,b.v]] w K:=cq (sk:=.leaf) h func14
def B47 (g:Option Addr) (bu:Int) (bv:ByteArray) (bw:Int) (bx:Int) (bz:Int) (b0:Int) (b1:Nat) (b2:ByteArray) (b3:Int) (J:Sl) (I:Sl) (K:nK) (w : nW):Prop:=
 New (.cells #[nI bu,.string bv,nI bw,nI bx,nI bz,nI b0,.float .f64 b1,.string b2,nI b3,J.v,I.v] 40 (0,0)) (λ j b7=>
 New (.cells #[nI 0,.string (ByteArray.mk #[]),nI 0,nI 0,nI 0,nI 0,nI 0,.slice none 0 0,.slice none 0 0] 33 (0,0)) (λ e bm=>
 ∃ ae,(Aw bm ⟨j,0 + 2,none⟩ [nI ae])/\
 nC 58 #[.pointer g,nI ae] bm λ b4 i=>
 ∃ af,(b4=.returned (nI af))/\
 Br (decide (af >= 0))
 (∃ Q,(St 33 ⟨e,0,none⟩ (.agg #[nI 7,.string (ByteArray.mk #[]),nI 0,nI 0,nI 0,nI 0,nI 0,.slice none 0 0,.slice none 0 0]) i Q)/\
 ∃ am an ay a7 bc bd be,∃ y z:Sl,(Aw Q ⟨e,0,none⟩ [nI am,.string an,nI ay,nI a7,nI bc,nI bd,nI be,y.v,z.v])/\
 K (.agg #[nI am,.string an,nI ay,nI a7,nI bc,nI bd,nI be,y.v,z.v]) Q)
 (Zb g λ Y=>
 ∃ D:Sl,(Aw i (nO Y 2) [D.v])/\
 Br (decide ((↑D.len:Int) >= 8))
 (∃ T,(St 33 ⟨e,0,none⟩ (.agg #[nI 3,.string (ByteArray.mk #[]),nI 0,nI 0,nI 0,nI 0,nI 0,.slice none 0 0,.slice none 0 0]) i T)/\
 ∃ bf ao ap aq ar au av,∃ r s:Sl,(Aw T ⟨e,0,none⟩ [nI bf,.string ao,nI ap,nI aq,nI ar,nI au,nI av,r.v,s.v])/\
 K (.agg #[nI bf,.string ao,nI ap,nI aq,nI ar,nI au,nI av,r.v,s.v]) T)
 (∃ ag,(Aw i ⟨j,0 + 2,none⟩ [nI ag])/\
 ∃ ah,∃ k:Sl,(Aw i ⟨j,0 + 8,none⟩ [nI ah,k.v])/\
 ∃ l:Sl,(Aw i ⟨j,0 + 10,none⟩ [l.v])/\
 nC 109 #[nI ag,.agg #[nI ah,k.v],l.v] i λ b5 bn=>
 ∃ L M,(b5=.returned (.tuple #[.pointer L,nI M]))/\
 Br (M !=0)
 (∃ U,(St 33 ⟨e,0,none⟩ (.agg #[nI M,.string (ByteArray.mk #[]),nI 0,nI 0,nI 0,nI 0,nI 0,.slice none 0 0,.slice none 0 0]) bn U)/\
 ∃ aw ax az a0 a1 a2 a3,∃ t u:Sl,(Aw U ⟨e,0,none⟩ [nI aw,.string ax,nI az,nI a0,nI a1,nI a2,nI a3,t.v,u.v])/\
 K (.agg #[nI aw,.string ax,nI az,nI a0,nI a1,nI a2,nI a3,t.v,u.v]) U)
 (∃ (H:Int->World->Prop),(∃ (G:Int->World->Prop) (bo:Int->World->Nat),(G 0 bn)/\∀ (cb:Env) (c:Int) (V:World),G c V->
 Drw V λ A F=>
 Zb g λ Z=>
 ∃ E:Sl,(At A (nO Z 2) [E.v])/\
 Br (decide (c<(↑E.len:Int)))
 (Zb g λ aa=>
 ∃ C:Sl,(At A (nO aa 2) [C.v])/\
 Rng c C.len (Zb C.a λ bp=>
 ∃ ai,(At A (Addr.add (Addr.add bp (ZaD c.toNat 2)) 0) [.pointer ai])/\
 Zb ai λ bq=>
 ∃ aj,(At A (Addr.add bq 0) [nI aj])/\
 ∃ ak,(At A ⟨j,0 + 2,none⟩ [nI ak])/\
 Br (decide (aj<ak))
 ((G (wI (c + 1)) F)/\bo (wI (c + 1)) F<bo c V)
 (H c F)))
 (H c F))/\
 ∀ (cc:Env) (d:Int) (bg:World),H d bg->
 New (.cells #[] 107 (0,0)) (λ br bh=>
 Zb g λ ab=>
 ∃ m:Sl,(Aw bh (nO ab 2) [m.v])/\
 ((0:Int)<=d)/\
 ((d:Int)<=(↑m.cap:Int))/\
 ∃ bi:World,∃ n:Sl,((Builtin.append_ #[43,43] 43 #[.slice ((some ⟨br,0,none⟩)) 0 0,.slice m.a d.toNat m.cap]).run prog bh=.ok (n.v) bi)/\
 New (.cells #[.slice none 0 0] 109 (0,0)) (λ bs b8=>
 New (.cells #[.pointer L,.pointer ((some ⟨bs,0,none⟩))] 107 (0,0)) (λ bt b9=>
 ∃ N:World,∃ o:Sl,((Builtin.append_ #[43,43] 43 #[n.v,.slice ((some ⟨bt,0,none⟩)) 1 1]).run prog b9=.ok (o.v) N)/\
 Zb g λ ac=>
 ∃ f:Sl,(Aw N (nO ac 2) [f.v])/\
 ((0:Int)<=d)/\
 ((d:Int)<=(↑f.len:Int))/\
 ∃ bj:World,∃ p:Sl,((Builtin.append_ #[43,43] 43 #[o.v,.slice (ZbI f.a d.toNat f.cap 2) (f.len - d.toNat) (f.cap - d.toNat)]).run prog N=.ok (p.v) bj)/\
 Zb g λ ad=>
 ∃ bk,(St 43 (nO ad 2) (p.v) bj bk)/\
 Drw bk λ X ca=>
 ∃ al,(At X ⟨j,0 + 2,none⟩ [nI al])/\
 nC 59 #[.pointer L] ca λ b6 bl=>
 ∃ q:Sl,(b6=.returned (q.v))/\
 (X bl)/\
 ∃ O,(St 33 ⟨e,0,none⟩ (.agg #[nI 0,.string (ByteArray.mk #[]),nI 0,nI al,nI 0,nI 0,nI 0,q.v,.slice none 0 0]) bl O)/\
 ∃ a4 a5 a6 a8 a9 ba bb,∃ v x:Sl,(Aw O ⟨e,0,none⟩ [nI a4,.string a5,nI a6,nI a8,nI a9,nI ba,nI bb,v.v,x.v])/\
 K (.agg #[nI a4,.string a5,nI a6,nI a8,nI a9,nI ba,nI bb,v.v,x.v]) O) b8) bi) bg)))) b7) w
def sk47:Sk:=(.seq .leaf (.seq .leaf (.seq .leaf (.seq .leaf (.seq .leaf (.seq .leaf (.cut [7] [(.int .i64)] [7,36,37,38,39,40,41,42,43,44,45,46,47,48,49,50,51,52,53,54,55,56,57,58,59,60] (.block (.loop [7] [(.int .i64)] [7,36,37,38,39,40,41,42,43,44,45,46,47,48,49,50,51,52,53,54,55,56,57,58,59,60] .leaf)) .leaf)))))))
theorem Zx6 (d:Option Addr) (e:Int) (f:ByteArray) (g:Int) (i:Int) (j:Int) (k:Int) (l:Nat) (m:ByteArray) (n:Int) (c:Sl) (b:Sl) (K:nK) (w : nW) (h:B47 d e f g i j k l m n c b K w):Zk prog 47 #[.pointer d,.agg #[nI e,.string f,nI g,nI i,nI j,nI k,.float .f64 l,.string m,nI n,c.v,b.v]] w K:=cq (sk:=sk47) h func47
def B110 (f:Option Addr) (K:nK) (w : nW):Prop:=
 Zb f λ e=>
 ∃ b:Sl,(Aw w (nO e 3) [b.v])/\
 Br (decide ((↑b.len:Int) >= 300))
 (K (.bool true) w)
 (Zb f λ d=>
 ∃ g,(Aw w (nO d 1) [nI g])/\
 K (.bool (decide (g >= 28629151))) w)
theorem ZwL (a:Option Addr) (K:nK) (w : nW) (h:B110 a K w):Zk prog 110 #[.pointer a] w K:=cq (sk:=.leaf) h func110
def B48 (c:Option Addr) (b5:Int) (b6:ByteArray) (b7:Int) (b8:Int) (b9:Int) (ca:Int) (cb:Nat) (cc:ByteArray) (cd:Int) (C:Sl) (A:Sl) (K:nK) (w : nW):Prop:=
 New (.cells #[nI b5,.string b6,nI b7,nI b8,nI b9,nI ca,.float .f64 cb,.string cc,nI cd,C.v,A.v] 40 (0,0)) (λ f ci=>
 New (.cells #[nI 0,.string (ByteArray.mk #[]),nI 0,nI 0,nI 0,nI 0,nI 0,.slice none 0 0,.slice none 0 0] 33 (0,0)) (λ d b0=>
 ∃ ac,(Aw b0 ⟨f,0 + 2,none⟩ [nI ac])/\
 nC 58 #[.pointer c,nI ac] b0 λ ce cl=>
 ∃ y,(ce=.returned (nI y))/\
 nC 110 #[.pointer c] cl λ cf b1=>
 ∃ ad,(cf=.returned (.bool ad))/\
 Br (decide (y<0))
 (∃ L,(St 33 ⟨d,0,none⟩ (.agg #[nI 2,.string (ByteArray.mk #[]),nI 0,nI 0,nI 0,nI 0,nI 0,.slice none 0 0,.slice none 0 0]) b1 L)/\
 ∃ az a0 a9 bi br bv bw,∃ u v:Sl,(Aw L ⟨d,0,none⟩ [nI az,.string a0,nI a9,nI bi,nI br,nI bv,nI bw,u.v,v.v])/\
 K (.agg #[nI az,.string a0,nI a9,nI bi,nI br,nI bv,nI bw,u.v,v.v]) L)
 (Drw b1 λ Q M=>
 ∃ ae,(At Q ⟨f,0 + 5,none⟩ [nI ae])/\
 Zb c λ b2=>
 ∃ af,(At Q (Addr.add b2 0) [nI af])/\
 Br (decide (ae<=af))
 (∃ N,(St 33 ⟨d,0,none⟩ (.agg #[nI 1,.string (ByteArray.mk #[]),nI 0,nI 0,nI 0,nI 0,nI 0,.slice none 0 0,.slice none 0 0]) M N)/\
 ∃ bx a1 a2 a3 a4 a5 a6,∃ m n:Sl,(Aw N ⟨d,0,none⟩ [nI bx,.string a1,nI a2,nI a3,nI a4,nI a5,nI a6,m.v,n.v])/\
 K (.agg #[nI bx,.string a1,nI a2,nI a3,nI a4,nI a5,nI a6,m.v,n.v]) N)
 (Br ad
 (∃ O,(St 33 ⟨d,0,none⟩ (.agg #[nI 3,.string (ByteArray.mk #[]),nI 0,nI 0,nI 0,nI 0,nI 0,.slice none 0 0,.slice none 0 0]) M O)/\
 ∃ a7 a8 ba bb bc bd be,∃ o p:Sl,(Aw O ⟨d,0,none⟩ [nI a7,.string a8,nI ba,nI bb,nI bc,nI bd,nI be,o.v,p.v])/\
 K (.agg #[nI a7,.string a8,nI ba,nI bb,nI bc,nI bd,nI be,o.v,p.v]) O)
 (Drw M λ g cm=>
 Zb c λ T=>
 ∃ x:Sl,(At g (nO T 2) [x.v])/\
 Rng y x.len (Zb x.a λ b3=>
 ∃ ag,(At g (Addr.add (Addr.add b3 (ZaD y.toNat 2)) 0) [.pointer ag])/\
 Zb c λ U=>
 ∃ ah,(At g (nO U 1) [nI ah])/\
 ∃ ai,(At g ⟨f,0 + 3,none⟩ [nI ai])/\
 ∃ aj,(At g ⟨f,0 + 4,none⟩ [nI aj])/\
 nC 111 #[.pointer ag,nI ah,nI ai,nI aj] cm λ cg E=>
 ∃ D,(cg=.returned (nI D))/\
 (g E)/\
 Br (D !=0)
 (∃ F,(St 33 ⟨d,0,none⟩ (.agg #[nI D,.string (ByteArray.mk #[]),nI 0,nI 0,nI 0,nI 0,nI 0,.slice none 0 0,.slice none 0 0]) E F)/\
 ∃ bf bg bh bj bk bl bm,∃ q r:Sl,(Aw F ⟨d,0,none⟩ [nI bf,.string bg,nI bh,nI bj,nI bk,nI bl,nI bm,q.v,r.v])/\
 K (.agg #[nI bf,.string bg,nI bh,nI bj,nI bk,nI bl,nI bm,q.v,r.v]) F)
 (Drw E λ e cj=>
 Zb c λ V=>
 ∃ i:Sl,(At e (nO V 3) [i.v])/\
 Zb c λ X=>
 ∃ ak,(At e (nO X 1) [nI ak])/\
 ∃ al,(At e ⟨f,0 + 2,none⟩ [nI al])/\
 ∃ am,(At e ⟨f,0 + 3,none⟩ [nI am])/\
 ∃ an,(At e ⟨f,0 + 4,none⟩ [nI an])/\
 ∃ ao,(At e ⟨f,0 + 5,none⟩ [nI ao])/\
 New (.cells #[nI ak,nI al,nI am,nI an,nI 1,nI ao] 125 (0,0)) (λ b4 bz=>
 (e bz)/\
 ∃ G:World,∃ j:Sl,((Builtin.append_ #[44,44] 44 #[i.v,.slice ((some ⟨b4,0,none⟩)) 1 1]).run prog bz=.ok (j.v) G)/\
 (e G)/\
 Zb c λ Y=>
 ∃ H,(St 44 (nO Y 3) (j.v) G H)/\
 Zb c λ Z=>
 ∃ ap,(Aw H (nO Z 1) [nI ap])/\
 Zb c λ aa=>
 ∃ I,(St 3 (nO aa 1) (nI (wI (ap + 1))) H I)/\
 Zb c λ ab=>
 ∃ z:Sl,(Aw I (nO ab 3) [z.v])/\
 nC 57 #[.pointer c,nI (wI ((↑z.len:Int) - 1))] I λ ch ck=>
 ∃ aq ar au av aw ax ay,∃ k l:Sl,(ch=.returned (.agg #[nI aq,.string ar,nI au,nI av,nI aw,nI ax,nI ay,k.v,l.v]))/\
 ∃ J,(St 33 ⟨d,0,none⟩ (.agg #[nI aq,.string ar,nI au,nI av,nI aw,nI ax,nI ay,k.v,l.v]) ck J)/\
 ∃ bn bo bp bq bs bt bu,∃ s t:Sl,(Aw J ⟨d,0,none⟩ [nI bn,.string bo,nI bp,nI bq,nI bs,nI bt,nI bu,s.v,t.v])/\
 K (.agg #[nI bn,.string bo,nI bp,nI bq,nI bs,nI bt,nI bu,s.v,t.v]) J) cj)))))) ci) w
theorem Zx5 (d:Option Addr) (e:Int) (f:ByteArray) (g:Int) (i:Int) (j:Int) (k:Int) (l:Nat) (m:ByteArray) (n:Int) (c:Sl) (b:Sl) (K:nK) (w : nW) (h:B48 d e f g i j k l m n c b K w):Zk prog 48 #[.pointer d,.agg #[nI e,.string f,nI g,nI i,nI j,nI k,.float .f64 l,.string m,nI n,c.v,b.v]] w K:=cq (sk:=.leaf) h func48
def B49 (c:Option Addr) (cc:Int) (cd:ByteArray) (ce:Int) (cf:Int) (cg:Int) (ch:Int) (ci:Nat) (cj:ByteArray) (ck:Int) (F:Sl) (E:Sl) (K:nK) (w : nW):Prop:=
 New (.cells #[nI cc,.string cd,nI ce,nI cf,nI cg,nI ch,.float .f64 ci,.string cj,nI ck,F.v,E.v] 40 (0,0)) (λ f cq=>
 New (.cells #[nI 0,.string (ByteArray.mk #[]),nI 0,nI 0,nI 0,nI 0,nI 0,.slice none 0 0,.slice none 0 0] 33 (0,0)) (λ d b7=>
 ∃ ag,(Aw b7 ⟨f,0 + 2,none⟩ [nI ag])/\
 nC 58 #[.pointer c,nI ag] b7 λ cl ct=>
 ∃ g,(cl=.returned (nI g))/\
 nC 110 #[.pointer c] ct λ cm b8=>
 ∃ ao,(cm=.returned (.bool ao))/\
 Br (decide (g<0))
 (∃ N,(St 33 ⟨d,0,none⟩ (.agg #[nI 2,.string (ByteArray.mk #[]),nI 0,nI 0,nI 0,nI 0,nI 0,.slice none 0 0,.slice none 0 0]) b8 N)/\
 ∃ a4 a5 be bn bw b1 b2,∃ v x:Sl,(Aw N ⟨d,0,none⟩ [nI a4,.string a5,nI be,nI bn,nI bw,nI b1,nI b2,v.v,x.v])/\
 K (.agg #[nI a4,.string a5,nI be,nI bn,nI bw,nI b1,nI b2,v.v,x.v]) N)
 (Drw b8 λ A O=>
 ∃ ap,(At A ⟨f,0 + 3,none⟩ [nI ap])/\
 Zb c λ U=>
 ∃ y:Sl,(At A (nO U 2) [y.v])/\
 Rng g y.len (Zb y.a λ b9=>
 ∃ aq,(At A (Addr.add (Addr.add b9 (ZaD g.toNat 2)) 0) [.pointer aq])/\
 Zb aq λ V=>
 ∃ D:Sl,(At A (nO V 3) [D.v])/\
 Br (decide (ap >= (↑D.len:Int)))
 (∃ Q,(St 33 ⟨d,0,none⟩ (.agg #[nI 1,.string (ByteArray.mk #[]),nI 0,nI 0,nI 0,nI 0,nI 0,.slice none 0 0,.slice none 0 0]) O Q)/\
 ∃ b3 a6 a7 a8 a9 ba bb,∃ n o:Sl,(Aw Q ⟨d,0,none⟩ [nI b3,.string a6,nI a7,nI a8,nI a9,nI ba,nI bb,n.v,o.v])/\
 K (.agg #[nI b3,.string a6,nI a7,nI a8,nI a9,nI ba,nI bb,n.v,o.v]) Q)
 (Br ao
 (∃ T,(St 33 ⟨d,0,none⟩ (.agg #[nI 3,.string (ByteArray.mk #[]),nI 0,nI 0,nI 0,nI 0,nI 0,.slice none 0 0,.slice none 0 0]) O T)/\
 ∃ bc bd bf bg bh bi bj,∃ p q:Sl,(Aw T ⟨d,0,none⟩ [nI bc,.string bd,nI bf,nI bg,nI bh,nI bi,nI bj,p.v,q.v])/\
 K (.agg #[nI bc,.string bd,nI bf,nI bg,nI bh,nI bi,nI bj,p.v,q.v]) T)
 (Drw O λ e cu=>
 Zb c λ X=>
 ∃ z:Sl,(At e (nO X 2) [z.v])/\
 Rng g z.len (Zb z.a λ Y=>
 ∃ ar,(At e (nO (Y.add (ZaD g.toNat 2)) 1) [.pointer ar])/\
 Zb c λ Z=>
 ∃ au,(At e (nO Z 1) [nI au])/\
 ∃ av,(At e ⟨f,0 + 3,none⟩ [nI av])/\
 ∃ aw,(At e ⟨f,0 + 4,none⟩ [nI aw])/\
 Zb c λ ca=>
 ∃ ax,(At e (Addr.add ca 0) [nI ax])/\
 ∃ ay,(At e ⟨f,0 + 6,none⟩ [.float .f64 ay])/\
 nC 112 #[.pointer ar,.agg #[nI au,nI av,nI aw,nI ax,.float .f64 ay]] cu λ cn H=>
 ∃ G,(cn=.returned (nI G))/\
 (e H)/\
 Br (G !=0)
 (∃ I,(St 33 ⟨d,0,none⟩ (.agg #[nI G,.string (ByteArray.mk #[]),nI 0,nI 0,nI 0,nI 0,nI 0,.slice none 0 0,.slice none 0 0]) H I)/\
 ∃ bk bl bm bo bp bq br,∃ r s:Sl,(Aw I ⟨d,0,none⟩ [nI bk,.string bl,nI bm,nI bo,nI bp,nI bq,nI br,r.v,s.v])/\
 K (.agg #[nI bk,.string bl,nI bm,nI bo,nI bp,nI bq,nI br,r.v,s.v]) I)
 (Drw H λ i cr=>
 Zb c λ aa=>
 ∃ l:Sl,(At i (nO aa 3) [l.v])/\
 Zb c λ ab=>
 ∃ az,(At i (nO ab 1) [nI az])/\
 ∃ a0,(At i ⟨f,0 + 2,none⟩ [nI a0])/\
 ∃ a1,(At i ⟨f,0 + 3,none⟩ [nI a1])/\
 ∃ a2,(At i ⟨f,0 + 4,none⟩ [nI a2])/\
 New (.cells #[nI az,nI a0,nI a1,nI a2,nI 3,nI 0] 125 (0,0)) (λ cb b4=>
 (i b4)/\
 ∃ J:World,∃ m:Sl,((Builtin.append_ #[44,44] 44 #[l.v,.slice ((some ⟨cb,0,none⟩)) 1 1]).run prog b4=.ok (m.v) J)/\
 (i J)/\
 Zb c λ ac=>
 ∃ L,(St 44 (nO ac 3) (m.v) J L)/\
 Zb c λ ad=>
 ∃ a3,(Aw L (nO ad 1) [nI a3])/\
 Zb c λ ae=>
 ∃ b5,(St 3 (nO ae 1) (nI (wI (a3 + 1))) L b5)/\
 nC 113 #[.pointer c,nI g] b5 λ co b6=>
 (co=.returned (.tuple #[]))/\
 Zb c λ af=>
 ∃ C:Sl,(Aw b6 (nO af 3) [C.v])/\
 nC 57 #[.pointer c,nI (wI ((↑C.len:Int) - 1))] b6 λ cp cs=>
 ∃ ah ai aj ak al am an,∃ j k:Sl,(cp=.returned (.agg #[nI ah,.string ai,nI aj,nI ak,nI al,nI am,nI an,j.v,k.v]))/\
 ∃ M,(St 33 ⟨d,0,none⟩ (.agg #[nI ah,.string ai,nI aj,nI ak,nI al,nI am,nI an,j.v,k.v]) cs M)/\
 ∃ bs bt bu bv bx bz b0,∃ t u:Sl,(Aw M ⟨d,0,none⟩ [nI bs,.string bt,nI bu,nI bv,nI bx,nI bz,nI b0,t.v,u.v])/\
 K (.agg #[nI bs,.string bt,nI bu,nI bv,nI bx,nI bz,nI b0,t.v,u.v]) M) cr))))))) cq) w
theorem Zx4 (d:Option Addr) (e:Int) (f:ByteArray) (g:Int) (i:Int) (j:Int) (k:Int) (l:Nat) (m:ByteArray) (n:Int) (c:Sl) (b:Sl) (K:nK) (w : nW) (h:B49 d e f g i j k l m n c b K w):Zk prog 49 #[.pointer d,.agg #[nI e,.string f,nI g,nI i,nI j,nI k,.float .f64 l,.string m,nI n,c.v,b.v]] w K:=cq (sk:=.leaf) h func49
def B50 (c:Option Addr) (bd:Int) (be:ByteArray) (bf:Int) (bg:Int) (bh:Int) (bi:Int) (bj:Nat) (bk:ByteArray) (bl:Int) (C:Sl) (A:Sl) (K:nK) (w : nW):Prop:=
 New (.cells #[nI bd,.string be,nI bf,nI bg,nI bh,nI bi,.float .f64 bj,.string bk,nI bl,C.v,A.v] 40 (0,0)) (λ N br=>
 New (.cells #[nI 0,.string (ByteArray.mk #[]),nI 0,nI 0,nI 0,nI 0,nI 0,.slice none 0 0,.slice none 0 0] 33 (0,0)) (λ r bt=>
 Drw bt λ H F=>
 ∃ ai,(At H ⟨N,0 + 5,none⟩ [nI ai])/\
 Zb c λ a7=>
 ∃ O,(At H (Addr.add a7 0) [nI O])/\
 Br (decide (ai<O))
 (∃ G,(St 33 ⟨r,0,none⟩ (.agg #[nI 7,.string (ByteArray.mk #[]),nI 0,nI 0,nI 0,nI 0,nI 0,.slice none 0 0,.slice none 0 0]) F G)/\
 ∃ aj ak ar au av aw ax,∃ k l:Sl,(Aw G ⟨r,0,none⟩ [nI aj,.string ak,nI ar,nI au,nI av,nI aw,nI ax,k.v,l.v])/\
 K (.agg #[nI aj,.string ak,nI ar,nI au,nI av,nI aw,nI ax,k.v,l.v]) G)
 (∃ Q,(Aw F ⟨N,0 + 5,none⟩ [nI Q])/\
 Zb c λ a8=>
 ∃ a3,(St 3 (Addr.add a8 0) (nI Q) F a3)/\
 ∃ (q:Int->World->Prop) (v:Int->World->Nat),(q 0 a3)/\∀ (bv:Env) (d:Int) (e:World),q d e->
 Zb c λ I=>
 ∃ s:Sl,(Aw e (nO I 3) [s.v])/\
 Br (decide (d<(↑s.len:Int)))
 (Zb c λ J=>
 ∃ o:Sl,(Aw e (nO J 3) [o.v])/\
 Rng d o.len (Zb o.a λ a9=>
 ∃ T U V X Y Z,(Aw e (Addr.add a9 (ZaD d.toNat 6)) [nI T,nI U,nI V,nI X,nI Y,nI Z])/\
 New (.cells #[nI 0,nI 0,nI 0,nI 0,nI 0,nI 0] 125 (0,0)) (λ n bu=>
 ∃ a4,(St 125 ⟨n,0,none⟩ (.agg #[nI T,nI U,nI V,nI X,nI Y,nI Z]) bu a4)/\
 ∃ (y:Bool->World->Prop),(Drw a4 λ z a5=>
 ∃ aa,(At z ⟨n,0 + 4,none⟩ [nI aa])/\
 Br (aa==1)
 (∃ ab,(At z ⟨n,0 + 5,none⟩ [nI ab])/\
 Zb c λ ba=>
 ∃ ac,(At z (Addr.add ba 0) [nI ac])/\
 y (decide (ab<=ac)) a5)
 (y false a5))/\
 ∀ (bw:Env) (ad:Bool) (u:World),y ad u->
 Br ad
 (Drw u λ f bs=>
 Zb c λ L=>
 ∃ p:Sl,(At f (nO L 2) [p.v])/\
 ∃ ae,(At f ⟨n,0 + 1,none⟩ [nI ae])/\
 ∃ ag,(At f ⟨n,0,none⟩ [nI ag])/\
 nC 58 #[.pointer c,nI ae] bs λ bm az=>
 ∃ D,(bm=.returned (nI D))/\
 (f az)/\
 Rng D p.len (Zb p.a λ bb=>
 ∃ af,(At f (Addr.add (Addr.add bb (ZaD D.toNat 2)) 0) [.pointer af])/\
 nC 114 #[.pointer af,nI ag] az λ bn a0=>
 ∃ bq,(bn=.returned (nI bq))/\
 (f a0)/\
 nC 115 #[.pointer c,nI d] a0 λ bo a1=>
 (bo=.returned (.tuple #[]))/\
 (q d a1)/\v d a1<v d e))
 ((q (wI (d + 1)) u)/\v (wI (d + 1)) u<v d e)) e))
 (∃ (x:Int->World->Prop) (a6:Int->World->Nat),(x 0 e)/\∀ (bx:Env) (g:Int) (m:World),x g m->
 Zb c λ M=>
 ∃ t:Sl,(Aw m (nO M 2) [t.v])/\
 Br (decide (g<(↑t.len:Int)))
 (nC 113 #[.pointer c,nI g] m λ bp a2=>
 (bp=.returned (.tuple #[]))/\
 (x (wI (g + 1)) a2)/\a6 (wI (g + 1)) a2<a6 g m)
 (Zb c λ bc=>
 ∃ ah,(Aw m (Addr.add bc 0) [nI ah])/\
 ∃ E,(St 33 ⟨r,0,none⟩ (.agg #[nI 0,.string (ByteArray.mk #[]),nI 0,nI 0,nI 0,nI 0,nI ah,.slice none 0 0,.slice none 0 0]) m E)/\
 ∃ ay al am an ao ap aq,∃ i j:Sl,(Aw E ⟨r,0,none⟩ [nI ay,.string al,nI am,nI an,nI ao,nI ap,nI aq,i.v,j.v])/\
 K (.agg #[nI ay,.string al,nI am,nI an,nI ao,nI ap,nI aq,i.v,j.v]) E)))) br) w
def sk50:Sk:=(.seq .leaf (.seq .leaf (.seq .leaf (.seq (.seq .leaf (.block (.loop [5] [(.int .i64)] [5,6,21,22,23,24,25,26,27,28,29,30,31,32,33,34,35,36,37,38,39,40,41,42,43,44,45,46,47,48,49,50,51,52,53,54,55,56,57,58,59,60,61,62,63,64,65] (.seq .leaf (.block (.seq .leaf (.cut [46] [.bool] [35,36,37,38,39,40,41,42,43,44,45,46] .leaf .leaf))))))) (.seq (.seq .leaf (.block (.loop [7] [(.int .i64)] [7,66,67,68,69,70,71,72,73,74,75,76,77] .leaf))) .leaf)))))
theorem Zx3 (d:Option Addr) (e:Int) (f:ByteArray) (g:Int) (i:Int) (j:Int) (k:Int) (l:Nat) (m:ByteArray) (n:Int) (c:Sl) (b:Sl) (K:nK) (w : nW) (h:B50 d e f g i j k l m n c b K w):Zk prog 50 #[.pointer d,.agg #[nI e,.string f,nI g,nI i,nI j,nI k,.float .f64 l,.string m,nI n,c.v,b.v]] w K:=cq (sk:=sk50) h func50
def B52 (f:Option Addr) (e:Int) (d4:Int) (d5:ByteArray) (d6:Int) (d7:Int) (d8:Int) (d9:Int) (ea:Nat) (eb:ByteArray) (ec:Int) (U:Sl) (T:Sl) (K:nK) (w : nW):Prop:=
 New (.cells #[nI d4,.string d5,nI d6,nI d7,nI d8,nI d9,.float .f64 ea,.string eb,nI ec,U.v,T.v] 40 (0,0)) (λ I er=>
 New (.cells #[nI 0,.string (ByteArray.mk #[]),nI 0,nI 0,nI 0,nI 0,nI 0,.slice none 0 0,.slice none 0 0] 33 (0,0)) (λ d ac=>
 Zb f λ an=>
 ∃ L:Sl,(Aw ac (nO an 3) [L.v])/\
 Rng e L.len (Zb L.a λ d2=>
 ∃ bg bh bi bj bk bl,(Aw ac (Addr.add d2 (ZaD e.toNat 6)) [nI bg,nI bh,nI bi,nI bj,nI bk,nI bl])/\
 New (.cells #[nI 0,nI 0,nI 0,nI 0,nI 0,nI 0] 125 (0,0)) (λ g ez=>
 ∃ aj,(St 125 ⟨g,0,none⟩ (.agg #[nI bg,nI bh,nI bi,nI bj,nI bk,nI bl]) ez aj)/\
 ∃ bm,(Aw aj ⟨g,0 + 1,none⟩ [nI bm])/\
 nC 58 #[.pointer f,nI bm] aj λ ed ak=>
 ∃ M,(ed=.returned (nI M))/\
 Zb f λ ao=>
 ∃ N:Sl,(Aw ak (nO ao 2) [N.v])/\
 Rng M N.len (Zb N.a λ d3=>
 ∃ bn bo,(Aw ak (Addr.add d3 (ZaD M.toNat 2)) [.pointer bn,.pointer bo])/\
 New (.cells #[.pointer none,.pointer none] 107 (0,0)) (λ J e0=>
 ∃ c,(St 107 ⟨J,0,none⟩ (.agg #[.pointer bn,.pointer bo]) e0 c)/\
 ∃ V,(Aw c ⟨I,0,none⟩ [nI V])/\
 Br (V==3)
 (∃ bw,(Aw c ⟨g,0 + 4,none⟩ [nI bw])/\
 Br (bw !=1)
 (∃ al,(St 33 ⟨d,0,none⟩ (.agg #[nI 7,.string (ByteArray.mk #[]),nI 0,nI 0,nI 0,nI 0,nI 0,.slice none 0 0,.slice none 0 0]) c al)/\
 ∃ b5 b6 cf co cx c6 df,∃ C G:Sl,(Aw al ⟨d,0,none⟩ [nI b5,.string b6,nI cf,nI co,nI cx,nI c6,nI df,C.v,G.v])/\
 K (.agg #[nI b5,.string b6,nI cf,nI co,nI cx,nI c6,nI df,C.v,G.v]) al)
 (Zb f λ ap=>
 ∃ O:Sl,(Aw c (nO ap 3) [O.v])/\
 Rng e O.len (Zb O.a λ aq=>
 ∃ am,(St 3 (nO (aq.add (ZaD e.toNat 6)) 4) (nI 2) c am)/\
 Zb f λ ar=>
 ∃ Q:Sl,(Aw am (nO ar 3) [Q.v])/\
 Rng e Q.len (Zb Q.a λ au=>
 ∃ dx,(St 3 (nO (au.add (ZaD e.toNat 6)) 5) (nI 0) am dx)/\
 nC 57 #[.pointer f,nI e] dx λ ee es=>
 ∃ av aw a5 bb bc bd be,∃ m n:Sl,(ee=.returned (.agg #[nI av,.string aw,nI a5,nI bb,nI bc,nI bd,nI be,m.v,n.v]))/\
 ∃ aa,(St 33 ⟨d,0,none⟩ (.agg #[nI av,.string aw,nI a5,nI bb,nI bc,nI bd,nI be,m.v,n.v]) es aa)/\
 ∃ dw b7 b8 b9 ca cb cc,∃ o p:Sl,(Aw aa ⟨d,0,none⟩ [nI dw,.string b7,nI b8,nI b9,nI ca,nI cb,nI cc,o.v,p.v])/\
 K (.agg #[nI dw,.string b7,nI b8,nI b9,nI ca,nI cb,nI cc,o.v,p.v]) aa))))
 (Br (V==4)
 (∃ bx,(Aw c ⟨g,0 + 4,none⟩ [nI bx])/\
 Br (bx==3)
 (∃ bz,(Aw c ⟨J,0 + 1,none⟩ [.pointer bz])/\
 ∃ b0,(Aw c ⟨g,0,none⟩ [nI b0])/\
 nC 118 #[.pointer bz,nI b0] c λ eh et=>
 ∃ ep,(eh=.returned (nI ep))/\
 nC 115 #[.pointer f,nI e] et λ ei eu=>
 (ei=.returned (.tuple #[]))/\
 nC 113 #[.pointer f,nI M] eu λ ej dy=>
 (ej=.returned (.tuple #[]))/\
 ∃ b3,(Aw dy ⟨I,0 + 1,none⟩ [.string b3])/\
 ∃ ab,(St 33 ⟨d,0,none⟩ (.agg #[nI 0,.string b3,nI 0,nI 0,nI 0,nI 0,nI 0,.slice none 0 0,.slice none 0 0]) dy ab)/\
 ∃ cd ce cg ch ci cj ck,∃ q r:Sl,(Aw ab ⟨d,0,none⟩ [nI cd,.string ce,nI cg,nI ch,nI ci,nI cj,nI ck,q.v,r.v])/\
 K (.agg #[nI cd,.string ce,nI cg,nI ch,nI ci,nI cj,nI ck,q.v,r.v]) ab)
 (∃ b1,(Aw c ⟨J,0,none⟩ [.pointer b1])/\
 ∃ b2,(Aw c ⟨g,0,none⟩ [nI b2])/\
 nC 114 #[.pointer b1,nI b2] c λ ek ev=>
 ∃ eq,(ek=.returned (nI eq))/\
 nC 115 #[.pointer f,nI e] ev λ el ew=>
 (el=.returned (.tuple #[]))/\
 nC 113 #[.pointer f,nI M] ew λ em dz=>
 (em=.returned (.tuple #[]))/\
 ∃ b4,(Aw dz ⟨I,0 + 1,none⟩ [.string b4])/\
 ∃ ad,(St 33 ⟨d,0,none⟩ (.agg #[nI 0,.string b4,nI 0,nI 0,nI 0,nI 0,nI 0,.slice none 0 0,.slice none 0 0]) dz ad)/\
 ∃ cl cm cn cp cq cr cs,∃ s t:Sl,(Aw ad ⟨d,0,none⟩ [nI cl,.string cm,nI cn,nI cp,nI cq,nI cr,nI cs,s.v,t.v])/\
 K (.agg #[nI cl,.string cm,nI cn,nI cp,nI cq,nI cr,nI cs,s.v,t.v]) ad))
 (∃ bp,(Aw c ⟨g,0 + 4,none⟩ [nI bp])/\
 Br (bp==3)
 (∃ ae,(St 33 ⟨d,0,none⟩ (.agg #[nI 7,.string (ByteArray.mk #[]),nI 0,nI 0,nI 0,nI 0,nI 0,.slice none 0 0,.slice none 0 0]) c ae)/\
 ∃ ct cu cv cw cy cz c0,∃ u v:Sl,(Aw ae ⟨d,0,none⟩ [nI ct,.string cu,nI cv,nI cw,nI cy,nI cz,nI c0,u.v,v.v])/\
 K (.agg #[nI ct,.string cu,nI cv,nI cw,nI cy,nI cz,nI c0,u.v,v.v]) ae)
 (∃ bq,(Aw c ⟨I,0,none⟩ [nI bq])/\
 Br (bq==5)
 (∃ br,(Aw c ⟨J,0,none⟩ [.pointer br])/\
 ∃ bs,(Aw c ⟨g,0,none⟩ [nI bs])/\
 ∃ bt,(Aw c ⟨I,0 + 7,none⟩ [.string bt])/\
 nC 119 #[.pointer br,nI bs,.string bt] c λ en d0=>
 ∃ X,(en=.returned (nI X))/\
 Br (X !=0)
 (∃ af,(St 33 ⟨d,0,none⟩ (.agg #[nI X,.string (ByteArray.mk #[]),nI 0,nI 0,nI 0,nI 0,nI 0,.slice none 0 0,.slice none 0 0]) d0 af)/\
 ∃ c1 c2 c3 c4 c5 c7 c8,∃ x y:Sl,(Aw af ⟨d,0,none⟩ [nI c1,.string c2,nI c3,nI c4,nI c5,nI c7,nI c8,x.v,y.v])/\
 K (.agg #[nI c1,.string c2,nI c3,nI c4,nI c5,nI c7,nI c8,x.v,y.v]) af)
 (nC 57 #[.pointer f,nI e] d0 λ eo ex=>
 ∃ bf ax ay az a0 a1 a2,∃ i j:Sl,(eo=.returned (.agg #[nI bf,.string ax,nI ay,nI az,nI a0,nI a1,nI a2,i.v,j.v]))/\
 ∃ ag,(St 33 ⟨d,0,none⟩ (.agg #[nI bf,.string ax,nI ay,nI az,nI a0,nI a1,nI a2,i.v,j.v]) ex ag)/\
 ∃ c9 da db dc dd de dg,∃ z A:Sl,(Aw ag ⟨d,0,none⟩ [nI c9,.string da,nI db,nI dc,nI dd,nI de,nI dg,z.v,A.v])/\
 K (.agg #[nI c9,.string da,nI db,nI dc,nI dd,nI de,nI dg,z.v,A.v]) ag))
 (∃ bu,(Aw c ⟨J,0,none⟩ [.pointer bu])/\
 ∃ bv,(Aw c ⟨g,0,none⟩ [nI bv])/\
 nC 120 #[.pointer bu,nI bv] c λ ef d1=>
 ∃ Y:Sl,∃ Z,(ef=.returned (.tuple #[Y.v,nI Z]))/\
 Br (Z !=0)
 (∃ ah,(St 33 ⟨d,0,none⟩ (.agg #[nI Z,.string (ByteArray.mk #[]),nI 0,nI 0,nI 0,nI 0,nI 0,.slice none 0 0,.slice none 0 0]) d1 ah)/\
 ∃ dh di dj dk dl dm dn,∃ D E:Sl,(Aw ah ⟨d,0,none⟩ [nI dh,.string di,nI dj,nI dk,nI dl,nI dm,nI dn,D.v,E.v])/\
 K (.agg #[nI dh,.string di,nI dj,nI dk,nI dl,nI dm,nI dn,D.v,E.v]) ah)
 (nC 57 #[.pointer f,nI e] d1 λ eg ey=>
 ∃ a3 a4 a6 a7 a8 a9 ba,∃ k l:Sl,(eg=.returned (.agg #[nI a3,.string a4,nI a6,nI a7,nI a8,nI a9,nI ba,k.v,l.v]))/\
 ∃ ai,(St 33 ⟨d,0,none⟩ (.agg #[nI a3,.string a4,nI a6,nI a7,nI a8,nI a9,nI ba,k.v,l.v]) ey ai)/\
 ∃ dp dq dr ds dt du dv,∃ F H:Sl,(Aw ai ⟨d,0,none⟩ [nI dp,.string dq,nI dr,nI ds,nI dt,nI du,nI dv,F.v,H.v])/\
 K (.agg #[nI dp,.string dq,nI dr,nI ds,nI dt,nI du,nI dv,F.v,H.v]) ai)))))) ak)) ac)) er) w
theorem Zx1 (d:Option Addr) (o:Int) (e:Int) (f:ByteArray) (g:Int) (i:Int) (j:Int) (k:Int) (l:Nat) (m:ByteArray) (n:Int) (c:Sl) (b:Sl) (K:nK) (w : nW) (h:B52 d o e f g i j k l m n c b K w):Zk prog 52 #[.pointer d,nI o,.agg #[nI e,.string f,nI g,nI i,nI j,nI k,.float .f64 l,.string m,nI n,c.v,b.v]] w K:=cq (sk:=.leaf) h func52
def B19 (d:Option Addr) (K:nK) (w : nW):Prop:=
 Drw w λ t ba=>
 Zb d λ az=>
 ∃ aa,(At t (Addr.add az 0) [nI aa])/\
 Zb d λ N=>
 ∃ ab,(At t (nO N 1) [nI ab])/\
 Zb d λ O=>
 ∃ A:Sl,(At t (nO O 2) [A.v])/\
 New (.cells #[nI aa,nI ab,nI ((↑A.len:Int))] 3 (0,0)) (λ a0 ar=>
 (t ar)/\
 nC 67 #[.slice ((some ⟨a0,0,none⟩)) 3 3] ar λ a3 au=>
 ∃ C:Sl,(a3=.returned (C.v))/\
 (t au)/\
 ∃ (I:Sl->Int->World->Prop) (av:Sl->Int->World->Nat),(I C 0 au)/\∀ (bk:Env) (e:Sl) (c:Int) (i:World),I e c i->
 Zb d λ Q=>
 ∃ D:Sl,(Aw i (nO Q 2) [D.v])/\
 Br (decide (c<(↑D.len:Int)))
 (Zb d λ T=>
 ∃ u:Sl,(Aw i (nO T 2) [u.v])/\
 Rng c u.len (Zb u.a λ ax=>
 ∃ ac,(Aw i (Addr.add (Addr.add ax (ZaD c.toNat 2)) 0) [.pointer ac])/\
 nC 69 #[.pointer ac] i λ a4 bg=>
 ∃ m:Sl,(a4=.returned (m.v))/\
 nC 68 #[m.v] bg λ a5 bh=>
 ∃ n:Sl,(a5=.returned (n.v))/\
 ∃ H:World,∃ o:Sl,((Builtin.append_ #[47,47] 47 #[e.v,n.v]).run prog bh=.ok (o.v) H)/\
 Zb d λ U=>
 ∃ v:Sl,(Aw H (nO U 2) [v.v])/\
 Rng c v.len (Zb v.a λ V=>
 ∃ ad,(Aw H (nO (V.add (ZaD c.toNat 2)) 1) [.pointer ad])/\
 nC 70 #[.pointer ad] H λ a6 bi=>
 ∃ p:Sl,(a6=.returned (p.v))/\
 nC 68 #[p.v] bi λ a7 bj=>
 ∃ q:Sl,(a7=.returned (q.v))/\
 ∃ L:World,∃ x:Sl,((Builtin.append_ #[47,47] 47 #[o.v,q.v]).run prog bj=.ok (x.v) L)/\
 (I x (wI (c + 1)) L)/\av x (wI (c + 1)) L<av e c i)))
 (Zb d λ X=>
 ∃ E:Sl,(Aw i (nO X 3) [E.v])/\
 New (.cells #[nI ((↑E.len:Int))] 3 (0,0)) (λ a1 bb=>
 nC 67 #[.slice ((some ⟨a1,0,none⟩)) 1 1] bb λ a8 bc=>
 ∃ r:Sl,(a8=.returned (r.v))/\
 ∃ aq:World,∃ F:Sl,((Builtin.append_ #[47,47] 47 #[e.v,r.v]).run prog bc=.ok (F.v) aq)/\
 ∃ (J:Sl->Int->World->Prop) (aw:Sl->Int->World->Nat),(J F 0 aq)/\∀ (bl:Env) (f:Sl) (k:Int) (l:World),J f k l->
 Zb d λ Y=>
 ∃ G:Sl,(Aw l (nO Y 3) [G.v])/\
 Br (decide (k<(↑G.len:Int)))
 (Zb d λ Z=>
 ∃ y:Sl,(Aw l (nO Z 3) [y.v])/\
 Rng k y.len (Zb y.a λ ay=>
 ∃ ae af ag ah ai aj,(Aw l (Addr.add ay (ZaD k.toNat 6)) [nI ae,nI af,nI ag,nI ah,nI ai,nI aj])/\
 New (.cells #[nI 0,nI 0,nI 0,nI 0,nI 0,nI 0] 125 (0,0)) (λ j bd=>
 ∃ g,(St 125 ⟨j,0,none⟩ (.agg #[nI ae,nI af,nI ag,nI ah,nI ai,nI aj]) bd g)/\
 ∃ ak,(Aw g ⟨j,0,none⟩ [nI ak])/\
 ∃ al,(Aw g ⟨j,0 + 1,none⟩ [nI al])/\
 ∃ am,(Aw g ⟨j,0 + 2,none⟩ [nI am])/\
 ∃ an,(Aw g ⟨j,0 + 3,none⟩ [nI an])/\
 ∃ ao,(Aw g ⟨j,0 + 4,none⟩ [nI ao])/\
 ∃ ap,(Aw g ⟨j,0 + 5,none⟩ [nI ap])/\
 New (.cells #[nI ak,nI al,nI am,nI an,nI ao,nI ap] 3 (0,0)) (λ a2 be=>
 nC 67 #[.slice ((some ⟨a2,0,none⟩)) 6 6] be λ a9 bf=>
 ∃ s:Sl,(a9=.returned (s.v))/\
 ∃ M:World,∃ z:Sl,((Builtin.append_ #[47,47] 47 #[f.v,s.v]).run prog bf=.ok (z.v) M)/\
 (J z (wI (k + 1)) M)/\aw z (wI (k + 1)) M<aw f k l) g) l))
 (K (f.v) l)) i)) ba
def sk19:Sk:=(.seq .leaf (.seq .leaf (.seq (.seq .leaf (.block (.loop [3,4] [.sl,(.int .i64)] [3,4,22,23,24,25,26,27,28,29,30,31,32,33,34,35,36,37,38,39,40,41,42,43,44,45,46,47,48,49,50,51,52,53,54] .leaf))) (.seq .leaf (.seq (.seq .leaf (.block (.loop [3,5] [.sl,(.int .i64)] [3,5,6,64,65,66,67,68,69,70,71,72,73,74,75,76,77,78,79,80,81,82,83,84,85,86,87,88,89,90,91,92,93,94,95] .leaf))) .leaf)))))
theorem Zyh (a:Option Addr) (K:nK) (w : nW) (h:B19 a K w):Zk prog 19 #[.pointer a] w K:=cq (sk:=sk19) h func19
def B13 (I:Int) (J:ByteArray) (L:Int) (M:Int) (N:Int) (O:Int) (Q:Int) (k:Sl) (l:Sl) (T:Int) (U:ByteArray) (V:Int) (X:Int) (Y:Int) (Z:Int) (aa:Int) (m:Sl) (n:Sl) (K:nK) (w : nW):Prop:=
 New (.cells #[nI I,.string J,nI L,nI M,nI N,nI O,nI Q,k.v,l.v] 33 (0,0)) (λ d ad=>
 New (.cells #[nI T,.string U,nI V,nI X,nI Y,nI Z,nI aa,m.v,n.v] 33 (0,0)) (λ e o=>
 ∃ j:Sl,(Aw o ⟨d,0 + 7,none⟩ [j.v])/\
 ∃ f:Sl,(Aw o ⟨e,0 + 7,none⟩ [f.v])/\
 nC 44 #[j.v,f.v] o λ ab p=>
 ∃ q,(ab=.returned (.bool q))/\
 ∃ g:Sl,(Aw p ⟨d,0 + 8,none⟩ [g.v])/\
 ∃ i:Sl,(Aw p ⟨e,0 + 8,none⟩ [i.v])/\
 nC 45 #[g.v,i.v] p λ ac c=>
 ∃ r,(ac=.returned (.bool r))/\
 ∃ s,(Aw c ⟨d,0,none⟩ [nI s])/\
 ∃ t,(Aw c ⟨e,0,none⟩ [nI t])/\
 Br (s==t)
 (∃ u,(Aw c ⟨d,0 + 1,none⟩ [.string u])/\
 ∃ v,(Aw c ⟨e,0 + 1,none⟩ [.string v])/\
 Br (u.toList==v.toList)
 (∃ x,(Aw c ⟨d,0 + 2,none⟩ [nI x])/\
 ∃ y,(Aw c ⟨e,0 + 2,none⟩ [nI y])/\
 Br (x==y)
 (∃ z,(Aw c ⟨d,0 + 3,none⟩ [nI z])/\
 ∃ A,(Aw c ⟨e,0 + 3,none⟩ [nI A])/\
 Br (z==A)
 (∃ C,(Aw c ⟨d,0 + 4,none⟩ [nI C])/\
 ∃ D,(Aw c ⟨e,0 + 4,none⟩ [nI D])/\
 Br (C==D)
 (∃ E,(Aw c ⟨d,0 + 5,none⟩ [nI E])/\
 ∃ F,(Aw c ⟨e,0 + 5,none⟩ [nI F])/\
 Br (E==F)
 (∃ G,(Aw c ⟨d,0 + 6,none⟩ [nI G])/\
 ∃ H,(Aw c ⟨e,0 + 6,none⟩ [nI H])/\
 Br (G==H)
 (Br q
 (K (.bool r) c)
 (K (.bool false) c))
 (K (.bool false) c))
 (K (.bool false) c))
 (K (.bool false) c))
 (K (.bool false) c))
 (K (.bool false) c))
 (K (.bool false) c))
 (K (.bool false) c)) ad) w
theorem Zyn (f:Int) (g:ByteArray) (i:Int) (j:Int) (k:Int) (l:Int) (m:Int) (b:Sl) (c:Sl) (n:Int) (o:ByteArray) (p:Int) (q:Int) (r:Int) (s:Int) (t:Int) (d:Sl) (e:Sl) (K:nK) (w : nW) (h:B13 f g i j k l m b c n o p q r s t d e K w):Zk prog 13 #[.agg #[nI f,.string g,nI i,nI j,nI k,nI l,nI m,b.v,c.v],.agg #[nI n,.string o,nI p,nI q,nI r,nI s,nI t,d.v,e.v]] w K:=cq (sk:=.leaf) h func13
end
end Go.Proofs.YtlplemdmegpoeaaGreatDoor
namespace Go.VC
theorem Zw0 {x:Nat} (h:x<18446744073709551616):x &&& 9223372036854775808=if x<9223372036854775808 then 0 else 9223372036854775808:=by
 have e:(9223372036854775808:Nat)=2 ^ 63:=by decide
 apply Nat.eq_of_testBit_eq;intro i;rw [Nat.testBit_and];by_cases hi:63=i
 ·subst hi
  have h1:x.testBit 63=decide (¬ x<9223372036854775808):=by
   rw [Nat.testBit_eq_decide_div_mod_eq,<-e];exact decide_eq_decide.2 (by omega)
  have h2:Nat.testBit 9223372036854775808 63=true:=by rw [e,Nat.testBit_two_pow];simp
  rw [h1,h2];split
  ·rw [decide_eq_false (by omega)];simp
  ·rw [decide_eq_true (by assumption)];simp [h2]
 ·have h2:Nat.testBit 9223372036854775808 i=false:=by rw [e,Nat.testBit_two_pow];simp [hi]
  rw [h2];split<;>simp [h2]
theorem Zxm {x:Nat} (h:x<9223372036854775808):x|||9223372036854775808=x + 9223372036854775808:=by
 have:=Nat.two_pow_add_eq_or_of_lt (i:=63) (b:=x) (by simpa using h) 1;rw [Nat.or_comm];simp only [Nat.mul_one] at this;have e:(2:Nat) ^ 63=9223372036854775808:=by decide
 rw [e] at this;omega
theorem Zuu {x:Nat} (h:x<18446744073709551616):IntKind.u64.wrap ((BitVec.ofInt IntKind.u64.bits (if IntKind.u64.signed=true then -1 else IntKind.u64.max) ^^^ BitVec.ofInt IntKind.u64.bits (x:Int)).toNat:Int)=((18446744073709551615 - x:Nat):Int):=by
 have e1:BitVec.ofInt IntKind.u64.bits (if IntKind.u64.signed=true then -1 else IntKind.u64.max)=BitVec.allOnes 64:=by
  show BitVec.ofInt 64 18446744073709551615=BitVec.allOnes 64;decide
 have e2:(BitVec.ofInt 64 (x:Int)).toNat=x:=Zfr 64 x (by simpa using h);rw [e1];show IntKind.u64.wrap (((BitVec.allOnes 64 ^^^ BitVec.ofInt 64 (x:Int)).toNat:Nat):Int)=_;rw [BitVec.xor_comm,BitVec.xor_allOnes,BitVec.toNat_not,e2];have e3:(2:Nat) ^ 64 - 1 - x=18446744073709551615 - x:=by
  have:(2:Nat) ^ 64=18446744073709551616:=by decide
  rw [this]
 rw [e3];exact Zar
end Go.VC
namespace Go.Proofs.YtlplemdmegpoeaaGreatDoor
section
open Go Go.VC Ieee Tryz
variable {R:Cx} {Hs Rest:List HP} {w:World}
theorem ZuS : (f210.name == "runtime.NumGoroutine") = false := by kernel_rfl
theorem ZuU:f210.body.isNone=true:=by kernel_rfl
theorem ZuR:Extern.findNext f210=none:=by kernel_rfl
theorem ZuT:Extern.find f210=some Extern.MathFloatBits.float64bits:=by kernel_rfl
theorem ZnG (x:Nat) (w : nW):(callFunc 210 #[.float .f64 x]).run prog w=.ok (.value (.int .u64 x)) w:=by
 rw [run_callFunc_extern func210 ZuS ZuU ZuR ZuT];rfl
theorem Zs1 {x:Nat} (hx:x<18446744073709551616) (hw:Sat R Hs w):Zk prog 135 #[.float .f64 x] w λ v w'=>v=.int .u64 (ZqX x:Nat)/\Sat R Hs w':=by
 apply Zwp;refine ⟨_,w,ZnG x w,_,rfl,?_⟩;have e1:ZnH BinOp.and IntKind.u64 (x:Int) 9223372036854775808=((x &&& 9223372036854775808:Nat):Int):=Zyt (y:=9223372036854775808) hx (by decide);have e2:ZnH BinOp.or IntKind.u64 (x:Int) 9223372036854775808=((x|||9223372036854775808:Nat):Int):=ZzQ (y:=9223372036854775808) hx (by decide);rw [e1,e2,Zw0 hx];refine Br.mk (λ h=>⟨?_,hw⟩) (λ h=>⟨?_,hw⟩)
 ·rw [Zuu hx]
  unfold ZqX;split at h
  ·simp at h
  ·rename_i h1;rw [if_neg h1]
 ·split at h
  ·rename_i h1
   rw [Zxm h1];unfold ZqX;rw [if_pos h1]
  ·simp at h
theorem Zmv (t1 t2:Operand) (T:TypeId) (x y:Nat) (w : nW):((do eqGuard BinOp.lss T t1 t2 (.float .f64 x) (.float .f64 y);binOp BinOp.lss T (.float .f64 x) (.float .f64 y):Sem Value)).run prog w=.ok (.bool (double.order x y==some .lt)) w:=by
 simp [eqGuard,binOp,Op.floatCmp,FloatKind.format]
theorem ZrB (t1 t2:Operand) (T:TypeId) (x y:Nat) (w : nW):((do eqGuard BinOp.eql T t1 t2 (.float .f64 x) (.float .f64 y);binOp BinOp.eql T (.float .f64 x) (.float .f64 y):Sem Value)).run prog w=.ok (.bool (double.order x y==some .eq)) w:=by
 simp [eqGuard,binOp,Op.floatCmp,FloatKind.format]
theorem Znc {x:Nat} (hw:Sat R Hs w):Zk prog 293 #[.float .f64 x] w λ v w'=>v=.bool (Zlx x)/\Sat R Hs w':=by
 apply Zva;refine ⟨_,λ w' _=>ZnC _ _ _ _ _ w',?_,hw⟩;have h:=Zm9 x;rw [bne,h,Bool.not_not]
theorem ZjQ {x y:Nat} (hw:Sat R Hs w):Zk prog 277 #[.float .f64 x,.float .f64 y] w λ v w'=>v=nI (ZeA x y)/\Sat R Hs w':=by
 apply Zve;refine (Znc hw).u λ w hw=>?_;refine ⟨_,rfl,?_⟩;refine (Znc hw).u λ w hw=>?_;refine ⟨_,rfl,?_⟩;unfold ZeA;refine Br.mk (λ hx=>?_) (λ hx=>?_)
 ·refine Br.mk (λ hy=>⟨?_,hw⟩) (λ hy=>⟨?_,hw⟩)
  ·rw [Zf8 hx,Zf8 hy,if_neg (by omega),if_pos rfl]
  ·have:=ZsZ hy
   rw [Zf8 hx,if_pos (by omega)]
 ·refine Br.mk (λ hy=>⟨?_,hw⟩) (λ hy=>?_)
  ·have:=ZsZ hx
   rw [Zf8 hy,if_neg (by omega),if_neg (by omega)]
  ·obtain ⟨o1,o2,o3⟩:=Zqu hx hy
   refine ⟨_,λ w' _=>Zmv _ _ _ _ _ w',?_⟩;rw [o1];refine Br.d (λ h=>⟨by rw [if_pos h],hw⟩) (λ h=>?_);refine ⟨_,λ w' _=>ZtN _ _ _ _ _ w',?_⟩;rw [o3];refine Br.d (λ h2=>⟨by rw [if_neg h,if_neg (by omega)],hw⟩) (λ h2=>⟨by rw [if_neg h,if_pos (by omega)],hw⟩)
theorem Zp7 {x y:Nat} (hw:Sat R Hs w):Zk prog 243 #[.float .f64 x,.float .f64 y] w λ v w'=>v=nI (ZeA x y)/\Sat R Hs w':=by
 apply Zvw;refine (ZjQ hw).u λ w hw=>?_;exact ⟨_,rfl,rfl,hw⟩
def Ztk (x y:Int):Int:=if x<y then -1 else if y<x then 1 else 0
theorem Zfq {x y:Int} (hw:Sat R Hs w):Zk prog 244 #[nI x,nI y] w λ v w'=>v=nI (Ztk x y)/\Sat R Hs w':=by
 apply Zvv;have nan:∀ {z:Int} {w:World},Sat R Hs w->Zk prog 278 #[nI z] w λ v w'=>v=.bool false/\Sat R Hs w':=λ {z w} hw=>by
  apply ZrI;exact ⟨by simp,hw⟩
 refine (nan hw).u λ w hw=>?_;refine ⟨_,rfl,?_⟩;refine (nan hw).u λ w hw=>?_;refine ⟨_,rfl,Br.f rfl (Br.f rfl ?_)⟩;unfold Ztk;refine Br.d (λ h=>⟨by rw [if_pos h],hw⟩) (λ h=>Br.d (λ h2=>⟨by rw [if_neg h,if_pos (by omega)],hw⟩) (λ h2=>⟨by rw [if_neg h,if_neg (by omega)],hw⟩))
theorem ZpV {x:Nat} (hx:x<18446744073709551616) (hw:Sat R Hs w):Zk prog 139 #[.float .f64 x] w λ v w'=>v=.int .u64 (ZqX x:Nat)/\Sat R Hs w':=by
 apply Zwm;refine ⟨_,w,ZnG x w,_,rfl,?_⟩;unfold ZqX
 with_reducible refine Br.d (λ h=>?_) (λ h=>?_)
 ·refine ⟨?_,hw⟩
  have e1:IntKind.u64.wrap ((x:Int) + 9223372036854775808)=((x + 9223372036854775808:Nat):Int):=by rw [Zar];omega
  have h1:x<9223372036854775808:=by omega
  rw [if_pos h1];exact congrArg (Value.int .u64) e1
 ·refine ⟨?_,hw⟩
  have e1:IntKind.u64.wrap (18446744073709551615 - (x:Int))=((18446744073709551615 - x:Nat):Int):=by rw [Zar];omega
  have h1:¬ x<9223372036854775808:=by omega
  rw [if_neg h1];exact congrArg (Value.int .u64) e1
theorem Zn7 {x y:Nat} (hw:Sat R Hs w):Zk prog 258 #[.float .f64 x,.float .f64 y] w λ v w'=>v=nI (ZeA x y)/\Sat R Hs w':=by
 apply Zvk;have ne:∀ z:Nat,(double.order z z !=some .eq)=Zlx z:=λ z=>by rw [bne,Zm9 z,Bool.not_not]
 refine ⟨_,λ w' _=>ZnC _ _ _ _ _ w',_,λ w' _=>ZnC _ _ _ _ _ w',?_⟩;rw [ne x,ne y];unfold ZeA;refine Br.mk (λ hx=>?_) (λ hx=>?_)
 ·refine Br.mk (λ hy=>⟨by rw [Zf8 hx,Zf8 hy,if_neg (by omega),if_pos rfl],hw⟩) (λ hy=>?_)
  refine ⟨_,λ w' _=>ZrB _ _ _ _ _ w',?_⟩;rw [Zgs (.inl hx)];refine Br.f rfl (Br.t hx ⟨?_,hw⟩);have:=ZsZ hy;rw [Zf8 hx,if_pos (by omega)]
 ·refine ⟨_,λ w' _=>ZrB _ _ _ _ _ w',?_⟩
  by_cases hy:Zlx y=true
  ·rw [Zgs (.inr hy)]
   refine Br.f rfl (Br.f hx ⟨_,λ w' _=>Zmv _ _ _ _ _ w',?_⟩);rw [Zgs (.inr hy)];have:=ZsZ hx;exact Br.f rfl ⟨by rw [Zf8 hy,if_neg (by omega),if_neg (by omega)],hw⟩
  ·have hy:Zlx y=false:=by simpa using hy
   obtain ⟨o1,o2,o3⟩:=Zqu hx hy;rw [o2];refine Br.d (λ h=>⟨by rw [if_neg (by omega),if_pos h],hw⟩) (λ h=>Br.f hx ⟨_,λ w' _=>Zmv _ _ _ _ _ w',?_⟩);rw [o1];exact Br.d (λ h2=>⟨by rw [if_pos h2],hw⟩) (λ h2=>⟨by rw [if_neg h2,if_neg h],hw⟩)
end
section
open Go Go.VC Tryz
variable {R:Cx} {Hs Rest:List HP} {w:World}
abbrev wrp (p:Nat) (s:Sl):HP:=pts p (.cells [.slice s.a s.len s.cap].toArray 112 (0,0))
def WrB (p:Nat) (bs:List Int):HP:=exs λ s:Sl=>ZhI [wrp p s,Own s 5 (b8 bs)]
theorem Sat.wrB {p:Nat} {bs:List Int}:Sat R (WrB p bs::Hs) w↔∃ s:Sl,Sat R (wrp p s::Own s 5 (b8 bs)::Hs) w:=by
 unfold WrB;rw [Sat.exs];exact ⟨λ⟨s,h⟩=>⟨s,Sat.star.1 h⟩,λ⟨s,h⟩=>⟨s,Sat.star.2 h⟩⟩
theorem ZsT {n:Int} (h:n<9223372036854775808):0<=nn n/\nn n<9223372036854775808:=by unfold nn;omega
theorem Zxq (n:Int):(if 0>n then 0 else n)=nn n:=by unfold nn;split<;>omega
theorem ZnP {p:Nat} {s:Sl} {xs bs:List Int} (hxs:∀ x∈xs,x<9223372036854775808) (hl:bs.length + 9 * xs.length<=1099511627776) (hs:RoI R s xs) (hw:Sat R (WrB p bs::Hs) w):
  Zk prog 60 #[nP p,.slice s.a s.len s.cap] w λ v w'=>v=.tuple #[]/\Sat R (WrB p (bs++Zi (xs.map nn))::Hs) w':=by
 have hlen:=hs.len;apply ZxT;refine ⟨λ i w=>∃ k:Nat,i=k/\k<=xs.length/\Sat R (WrB p (bs++Zi ((xs.take k).map nn))::Hs) w,λ i _=>xs.length - i.toNat,⟨0,rfl,by omega,by simpa [Zi] using hw⟩,?_⟩;clear hw;rintro _ _ w ⟨k,rfl,hk,hw⟩;refine Br.d (λ h=>?_) (λ h=>?_)
 ·have hkx:k<xs.length:=by omega
  have hx:=ZsT (hxs xs[k] (List.getElem_mem _));have hxt:∀ x∈(xs.take k).map nn,0<=x/\x<18446744073709551616:=λ x hx=>by
   obtain ⟨y,hy,rfl⟩:=List.mem_map.1 hx;have:=ZsT (hxs y (List.mem_of_mem_take hy));omega
  have hnl:=ZI hxt;rw [List.length_map,List.length_take] at hnl;refine Ro.ix hs (eqS hw) k rfl hkx ?_;obtain ⟨s0,hw⟩:=Sat.wrB.1 hw;refine Za7 hw λ w hw=>?_;refine Zb.mk rfl ⟨s0,oS,?_⟩;rw [Zxq];obtain ⟨n,hn⟩:=Int.eq_ofNat_of_zero_le hx.1;rw [hn,Zar];refine (Zct (by omega) hw).u1 λ t w hw=>?_;refine ⟨t,rfl,hw.absorb,?_⟩;have hw:Sat R (Own s0 5 (b8 (bs++Zi ((xs.take k).map nn)))::Own t 5 (b8 (ZeO n))::wrp p s0::VC.tru::Hs) w:=hw.arr;have hnb:=Zbd (n:=n) (by omega);refine Zaz ZhK (s:=s0) (n:=1099511627790) underlying47 hw (by rw [List.length_append];omega) (by omega) (by omega) λ s2 w hw=>?_;have hw:Sat R (wrp p s0::Own s2 5 (b8 (bs++Zi ((xs.take k).map nn)++ZeO n))::Hs) w:=by
   have h:Sat R (Own t 5 (b8 (ZeO n))::VC.tru::wrp p s0::Own s2 5 (b8 (bs++Zi ((xs.take k).map nn)++ZeO n))::Hs) w:=hw.arr;exact h.drop.drop
  refine Zb.mk rfl ?_;refine sRu hw λ w hw=>?_;have hw:=hw.re (wrp p s2);rw [Zd];refine ⟨⟨k + 1,by omega,by omega,Sat.wrB.2 ⟨s2,?_⟩⟩,by dsimp only;omega⟩;have e:(xs.take (k + 1)).map nn=(xs.take k).map nn++[nn xs[k]]:=by rw [List.take_add_one,List.getElem?_eq_getElem hkx,List.map_append];rfl
  rw [e,ZdF,show Zi [nn xs[k]]=ZeO (nn xs[k]).toNat by simp [Zi],hn,Int.toNat_natCast,<-List.append_assoc];exact hw
 ·have:k=xs.length:=by omega
  subst this;rw [List.take_length] at hw;exact ⟨rfl,hw⟩
theorem ZnN {p:Nat} {s:Sl} {d bs:List Int} (hl:bs.length + d.length<=1099511627776) (hd:d.length<=1099511627776) (hs:Ro R s (b8 d)) (hw:Sat R (WrB p bs::Hs) w):
  Zk prog 63 #[nP p,.slice s.a s.len s.cap] w λ v w'=>v=.tuple #[]/\Sat R (WrB p (bs++Zca d)::Hs) w':=by
 apply ZxS;obtain ⟨s0,hw⟩:=Sat.wrB.1 hw;refine Za7 hw λ w hw=>?_;refine Zb.mk rfl ⟨s0,oS,?_⟩;refine (ZoO hs hd hw).u1 λ t w hw=>?_;refine ⟨t,rfl,hw.absorb,?_⟩;have hw:Sat R (Own s0 5 (b8 bs)::Own t 5 (b8 (Zca d))::wrp p s0::VC.tru::Hs) w:=hw.arr;have hnb:=Zbd (n:=d.length) (by omega);have htl:(Zca d).length<=d.length + 9:=by unfold Zca;rw [List.length_append];omega
 refine Zaz ZhK (s:=s0) (n:=1099511627800) underlying47 hw (by omega) (by omega) (by omega) λ s2 w hw=>?_;have hw:Sat R (wrp p s0::Own s2 5 (b8 (bs++Zca d))::Hs) w:=by
  have h:Sat R (Own t 5 (b8 (Zca d))::VC.tru::wrp p s0::Own s2 5 (b8 (bs++Zca d))::Hs) w:=hw.arr;exact h.drop.drop
 refine Zb.mk rfl ?_;refine sRu hw λ w hw=>?_;have hw:=hw.re (wrp p s2);exact ⟨rfl,Sat.wrB.2 ⟨s2,hw⟩⟩
end
section
open Go Go.VC Tryz
open Classical
variable {R:Cx} {Hs Rest:List HP} {w:World}
abbrev cmV (c:Cm) (sg sp:Sl):List Value:=[nI c.kind,.string c.pnr,nI c.flt,nI c.cls,nI c.many,nI c.time,.float .f64 c.sc,.string c.lab,nI c.rows,.slice sg.a sg.len sg.cap,.slice sp.a sp.len sp.cap]
abbrev cmC (b:Nat) (c:Cm) (sg sp:Sl):HP:=pts b (.cells (cmV c sg sp).toArray 40 (0,0))
theorem Zbx {c:Cm}:Z5 c↔(∀ n∈[c.flt,c.cls,c.many,c.rows]++c.grps,Zcu n)/\(c.pnr.size<=16/\c.lab.size<=16)/\(c.grps.length<=16/\c.parts.length<=16)/\1<=c.kind/\c.kind<=9/\0<=c.time/\c.time<=1099511627776:=by
 constructor
 ·intro h
  refine ⟨λ n hn=>?_,⟨h.pnr,h.lab⟩,⟨h.gl,h.pl⟩,h.kind.1,h.kind.2,h.time.1,h.time.2⟩;simp only [List.cons_append,List.nil_append,List.mem_cons] at hn;rcases hn with rfl|rfl|rfl|rfl|hn
  ·exact h.flt
  ·exact h.cls
  ·exact h.many
  ·exact h.rows
  ·exact h.grps n hn
 ·rintro ⟨h1,⟨h2,h3⟩,⟨h4,h5⟩,h6,h7,h8,h9⟩
  exact ⟨h1 _ (by simp),h1 _ (by simp),h1 _ (by simp),h1 _ (by simp),λ n hn=>h1 n (by simp [hn]),h2,h3,h4,h5,⟨h6,h7⟩,h8,h9⟩
theorem ZrN {n:Int}:Zk prog 97 #[nI n] w λ v w'=>v=.bool (decide (n<0\/n>9999))/\w'=w:=by
 apply ZxK;refine Br.d (λ h=>⟨by rw [decide_eq_true (by omega)],rfl⟩) (λ h=>⟨?_,rfl⟩)
 congr 1
 exact decide_eq_decide.2 (by omega)
theorem ZeM {c:Cm} {sg sp:Sl} (hg:RoI R sg c.grps) (hgl:c.grps.length<=17592186043904) (hp:sp.len=c.parts.length) (hw:Sat R Hs w):
  Zk prog 38 #[.agg #[nI c.kind,.string c.pnr,nI c.flt,nI c.cls,nI c.many,nI c.time,.float .f64 c.sc,.string c.lab,nI c.rows,.slice sg.a sg.len sg.cap,.slice sp.a sp.len sp.cap]] w λ v w'=>v=.bool (decide (Z5 c))/\Sat R Hs w':=by
 have hglen:=hg.len;apply Zye;refine Za hw λ b w hw=>?_;have hw:Sat R (cmC b c sg sp::Hs) w:=hw
 repeat (first|refine Zb.mk rfl ?_|refine ⟨_,oS,?_⟩|refine ⟨_,oA hw,?_⟩|refine ⟨_,(by rw [Zs];exact oS),?_⟩|refine ⟨_,(by rw [Zs];exact oA hw),?_⟩)
 refine Za hw λ b2 w hw=>?_;have hw:Sat R (Own ⟨some ⟨b2,0,none⟩,4,4⟩ 3 (Zc [c.flt,c.cls,c.many,c.rows])::cmC b c sg sp::Hs) w:=Za0 hw;refine ⟨sg,oA hw,?_⟩;refine Zel (n:=17592186044416) (s:=⟨some ⟨b2,0,none⟩,4,4⟩) (ty:=30) ZiC underlying30 hw hg (by simp;omega) (by omega) (by omega) λ t w hw=>?_;obtain ⟨L,hL⟩:∃ L,L=[c.flt,c.cls,c.many,c.rows]++c.grps:=⟨_,rfl⟩;have hLl:L.length=4 + c.grps.length:=by rw [hL];simp;omega
 rw [<-hL] at hw;have htl:t.len=L.length:=by have:=Own.len hw;simpa using this
 refine ⟨λ i w=>∃ k:Nat,i=k/\k<=L.length/\(∀ n∈L.take k,Zcu n)/\Sat R (Own t 3 (Zc L)::cmC b c sg sp::Hs) w,λ i _=>L.length - i.toNat,⟨0,rfl,by omega,by simp,hw⟩,?_⟩;clear hw;rintro _ _ w ⟨k,rfl,hk,hok,hw⟩;have no:¬ Z5 c->∀ {w},Sat R (Own t 3 (Zc L)::cmC b c sg sp::Hs) w->(Value.bool false=.bool (decide (Z5 c))/\Sat R Hs w):=λ h w hw=>⟨by rw [decide_eq_false h],hw.drop.drop⟩;refine Br.d (λ h=>?_) (λ h=>?_)
 ·have hkx:k<L.length:=by omega
  refine Own.ix hw (eqS hw) k rfl hkx ?_;refine ZrN.use ?_;rintro _ w2 ⟨rfl,rfl⟩;refine ⟨_,rfl,Br.mk (λ h2=>no (λ hr=>?_) hw) (λ h2=>?_)⟩
  ·have h3:=(Zbx.1 hr).1 L[k] (by rw [<-hL];exact List.getElem_mem hkx)
   have h4:=of_decide_eq_true h2;unfold Zcu at h3;omega
  ·rw [Zd]
   refine ⟨⟨k + 1,by omega,by omega,λ n hn=>?_,hw⟩,by dsimp only;omega⟩;rw [List.take_add_one,List.getElem?_eq_getElem hkx] at hn;rcases List.mem_append.1 hn with hn|hn
   ·exact hok n hn
   ·rw [show n=L[k] by simpa using hn]
    have h4:=of_decide_eq_false h2;unfold Zcu;omega
 ·have hall:∀ n∈L,Zcu n:=by rw [List.take_of_length_le (by omega)] at hok;exact hok
  refine ⟨λ t6 w=>t6=decide (c.pnr.size<=16/\c.lab.size<=16)/\Sat R (Own t 3 (Zc L)::cmC b c sg sp::Hs) w,⟨c.pnr,oA hw,Br.d (λ h=>?_) (λ h=>?_)⟩,?_⟩
  ·refine ⟨c.lab,oA hw,?_,hw⟩
   exact decide_eq_decide.2 (by omega)
  ·exact ⟨by rw [decide_eq_false (by omega)],hw⟩
  clear hw;rintro _ _ w ⟨rfl,hw⟩;refine ⟨λ t7 w=>t7=decide (c.grps.length<=16/\c.parts.length<=16)/\Sat R (Own t 3 (Zc L)::cmC b c sg sp::Hs) w,⟨sg,oA hw,Br.d (λ h=>?_) (λ h=>?_)⟩,?_⟩
  ·refine ⟨sp,oA hw,?_,hw⟩
   exact decide_eq_decide.2 (by omega)
  ·exact ⟨by rw [decide_eq_false (by omega)],hw⟩
  clear hw;rintro _ _ w ⟨rfl,hw⟩;have no2:¬ Z5 c->(Value.bool false=.bool (decide (Z5 c))/\Sat R Hs w):=λ h=>no h hw;refine Br.d (λ h1=>?_) (λ h1=>no2 λ hr=>h1 (Zbx.1 hr).2.1);refine Br.d (λ h2=>?_) (λ h2=>no2 λ hr=>h2 (Zbx.1 hr).2.2.1);refine ⟨c.kind,oA hw,Br.d (λ h3=>?_) (λ h3=>no2 λ hr=>h3 (Zbx.1 hr).2.2.2.1)⟩;refine ⟨c.kind,oA hw,Br.d (λ h4=>?_) (λ h4=>no2 λ hr=>h4 (Zbx.1 hr).2.2.2.2.1)⟩;refine ⟨c.time,oA hw,Br.d (λ h5=>?_) (λ h5=>no2 λ hr=>h5 (Zbx.1 hr).2.2.2.2.2.1)⟩;refine ⟨c.time,oA hw,?_,hw.drop.drop⟩
  congr 1
  refine decide_eq_decide.2 ?_;rw [Zbx,<-hL];exact ⟨λ h6=>⟨hall,h1,h2,h3,h4,h5,h6⟩,λ h6=>h6.2.2.2.2.2.2⟩
end
section
open Go Go.VC Tryz
variable {R:Cx} {Hs Rest:List HP} {w:World}
theorem ZgF {p b n:Nat} {xs bs:List Int} (hn:n=xs.length) (hxs:∀ x∈xs,x<9223372036854775808) (hl:bs.length + 9 * xs.length<=1099511627776) (hw:Sat R (pts b (.cells (Zc xs).toArray 3 (0,0))::WrB p bs::Hs) w):
  Zk prog 60 #[nP p,.slice (some ⟨b,0,none⟩) n n] w λ v w'=>v=.tuple #[]/\Sat R (WrB p (bs++Zi (xs.map nn))::Hs) w':=by
 have hw:Sat R (Own ⟨some ⟨b,0,none⟩,n,n⟩ 3 (Zc xs)::WrB p bs::Hs) w:=Za0 hw (by rw [List.length_map];exact hn);obtain ⟨R',hr,_,hw,back⟩:=Own.lendI hw (by omega);refine (ZnP hxs hl hr hw).u λ w hw=>?_;exact ⟨_,rfl,rfl,(back hw).drop⟩
end
section
open Go Go.VC Tryz
open Classical
variable {R:Cx} {Hs Rest:List HP} {w:World}
theorem Zdi (a:Int) (l:List Int):Zi (a::l)=Zi [a]++Zi l:=ZdE a l
theorem nn1 {a:Int} (h:0<=a):Zi ([a].map nn)=Zi [a]:=by
 show Zi [nn a]=_;rw [ZhR h]
end
section
open Go Go.VC Tryz
variable {R:Cx} {Hs Rest:List HP} {w:World}
abbrev rpV (r:Rp) (sl sb:Sl):List Value:=[nI r.code,.string r.pnr,nI r.state,nI r.flt,nI r.cls,nI r.many,nI r.time,.slice sl.a sl.len sl.cap,.slice sb.a sb.len sb.cap]
abbrev rpC (b:Nat) (r:Rp) (sl sb:Sl):HP:=pts b (.cells (rpV r sl sb).toArray 33 (0,0))
end
end Go.Proofs.YtlplemdmegpoeaaGreatDoor



namespace Go.Proofs.YtlplemdmegpoeaaGreatDoor
section
open Go Go.VC Tryz
variable {R:Cx} {Hs Rest:List HP} {w:World}
theorem ZkJ {s:Sl} {xs:List Int} (hxs:∀ x∈xs,x<9223372036854775808) (hl:9 * xs.length<=1099511627776) (hs:RoI R s xs) (hw:Sat R Hs w):
  Zk prog 67 #[.slice s.a s.len s.cap] w λ v w'=>∃ t:Sl,v=.slice t.a t.len t.cap/\Sat R (Own t 5 (b8 (Zi (xs.map nn)))::Hs) w':=by
 have hlen:=hs.len;apply ZxP;refine ⟨λ out i w=>∃ k:Nat,i=k/\k<=xs.length/\Sat R (Own out 5 (b8 (Zi ((xs.take k).map nn)))::Hs) w,λ _ i _=>xs.length - i.toNat,⟨0,rfl,by omega,Own.nil hw⟩,?_⟩;clear hw;rintro _ out _ w ⟨k,rfl,hk,hw⟩;refine Br.d (λ h=>?_) (λ h=>?_)
 ·have hkx:k<xs.length:=by omega
  have hx:=ZsT (hxs xs[k] (List.getElem_mem _));have hxt:∀ x∈(xs.take k).map nn,0<=x/\x<18446744073709551616:=λ x hx=>by
   obtain ⟨y,hy,rfl⟩:=List.mem_map.1 hx;have:=ZsT (hxs y (List.mem_of_mem_take hy));omega
  have hnl:=ZI hxt;rw [List.length_map,List.length_take] at hnl;refine Ro.ix hs (eqS hw) k rfl hkx ?_;rw [Zxq];obtain ⟨n,hn⟩:=Int.eq_ofNat_of_zero_le hx.1;rw [hn,Zar];refine (ZbX (by omega) hw).u1 λ t w hw=>?_;refine ⟨t,rfl,?_⟩;have hnb:=Zbd (n:=n) (by omega);refine Zaz ZhK (s:=out) (n:=1099511627790) underlying47 hw.swap (by omega) (by omega) (by omega) λ s2 w hw=>?_;rw [Zd];refine ⟨⟨k + 1,by omega,by omega,?_⟩,by dsimp only;omega⟩;have e:(xs.take (k + 1)).map nn=(xs.take k).map nn++[nn xs[k]]:=by rw [List.take_add_one,List.getElem?_eq_getElem hkx,List.map_append];rfl
  rw [e,ZdF,show Zi [nn xs[k]]=ZeO (nn xs[k]).toNat by simp [Zi],hn,Int.toNat_natCast];exact hw.swap.drop
 ·rw [List.take_of_length_le (l:=xs) (by omega)] at hw
  exact ⟨out,rfl,hw⟩
end
end Go.Proofs.YtlplemdmegpoeaaGreatDoor

namespace Go.Proofs.YtlplemdmegpoeaaGreatDoor
section
open Go Go.VC Tryz
open Classical
variable {R:Cx} {Hs Rest:List HP} {w:World}
abbrev Zn:Sl:=⟨none,0,0⟩
abbrev ZxH (k:Int) (p:ByteArray) (f c m t:Int):Cm:=⟨k,p,f,c,m,t,0,ByteArray.mk #[],0,[],[]⟩
abbrev ZxG (b:Nat):HP:=cmC b (ZxH 0 (ByteArray.mk #[]) 0 0 0 0) Zn Zn
section
variable (S:World->Prop) (J:Option Addr->World->Prop) (b4 b:Nat) (r:Option Addr)
end
section
variable {J:Option Addr->World->Prop} {b4 b r:Nat} {rd:Rd} {k f c m t:Int} {p:ByteArray}
def hd2 (rd:Rd):(Int × Int × Int × Int) × Rd:=
 let f:=Za2 9999 rd
 let c:=Za2 9999 f.2
 let m:=Za2 9999 c.2
 let t:=Za2 1099511627776 m.2
 ((f.1,c.1,m.1,t.1),t.2)
end
end
end Go.Proofs.YtlplemdmegpoeaaGreatDoor

namespace Go.Proofs.YtlplemdmegpoeaaGreatDoor
section
open Go Go.VC Tryz
open Classical
variable {R:Cx} {Hs Rest:List HP} {w:World}
abbrev Zxk (k:Int) (p:ByteArray) (s f c m t:Int):Rp:=⟨k,p,s,f,c,m,t,[],[]⟩
abbrev Zp (b:Nat):HP:=rpC b (Zxk 0 (ByteArray.mk #[]) 0 0 0 0 0) Zn Zn
section
variable (S:World->Prop) (J:Option Addr->World->Prop) (b4 b:Nat) (r:Option Addr)
end
section
variable {J:Option Addr->World->Prop} {b4 b r:Nat} {rd:Rd} {k s f c m t:Int} {p:ByteArray}
end
end
end Go.Proofs.YtlplemdmegpoeaaGreatDoor

namespace Go.Proofs.YtlplemdmegpoeaaGreatDoor
section
open Go Go.VC Tryz
open Classical
variable {R:Cx} {Hs Rest:List HP} {w:World}
theorem ZeY {c:Cm} {sg sp:Sl} (hg:RoI R sg c.grps) (hgl:c.grps.length<=100000) (hp:sp.len=c.parts.length) (hw:Sat R Hs w):
  Zk prog 46 #[.agg #[nI c.kind,.string c.pnr,nI c.flt,nI c.cls,nI c.many,nI c.time,.float .f64 c.sc,.string c.lab,nI c.rows,.slice sg.a sg.len sg.cap,.slice sp.a sp.len sp.cap]] w λ v w'=>v=.bool (decide (Z5 c))/\Sat R Hs w':=by
 have hglen:=hg.len;apply Zx7;refine Za hw λ b w hw=>?_;have hw:Sat R (cmC b c sg sp::Hs) w:=hw;refine ⟨c.flt,oA hw,c.cls,oA hw,c.many,oA hw,c.rows,oA hw,?_⟩;refine Za hw λ b2 w hw=>?_;have hw:Sat R (Own ⟨some ⟨b2,0,none⟩,4,4⟩ 3 (Zc [c.flt,c.cls,c.many,c.rows])::cmC b c sg sp::Hs) w:=Za0 hw;obtain ⟨L,hL⟩:∃ L,L=[c.flt,c.cls,c.many,c.rows]:=⟨_,rfl⟩;have hLl:L.length=4:=by rw [hL];rfl
 rw [<-hL] at hw;have no:¬ Z5 c->∀ {w},Sat R (Own ⟨some ⟨b2,0,none⟩,4,4⟩ 3 (Zc L)::cmC b c sg sp::Hs) w->(Value.bool false=.bool (decide (Z5 c))/\Sat R Hs w):=λ h w hw=>⟨by rw [decide_eq_false h],hw.drop.drop⟩;have bad:∀ n∈L,¬ Zcu n->¬ Z5 c:=λ n hn h hr=>h ((Zbx.1 hr).1 n (List.mem_append.2 (.inl (by rw [<-hL];exact hn))));refine ⟨λ i w=>∃ k:Nat,i=k/\k<=4/\(∀ n∈L.take k,Zcu n)/\Sat R (Own ⟨some ⟨b2,0,none⟩,4,4⟩ 3 (Zc L)::cmC b c sg sp::Hs) w,λ i _=>4 - i.toNat,⟨0,rfl,by omega,by simp,hw⟩,?_⟩;clear hw;rintro _ _ w ⟨k,rfl,hk,hok,hw⟩;refine Br.d (λ h=>?_) (λ h=>?_)
 ·have hkx:k<L.length:=by omega
  refine Own.ix (s:=⟨some ⟨b2,0,none⟩,4,4⟩) hw (eqS hw) k rfl hkx ?_;refine Br.d (λ h2=>no (bad _ (List.getElem_mem hkx) (by unfold Zcu;omega)) hw) (λ h2=>?_);refine Own.ix (s:=⟨some ⟨b2,0,none⟩,4,4⟩) hw (eqS hw) k rfl hkx ?_;refine Br.d (λ h3=>no (bad _ (List.getElem_mem hkx) (by unfold Zcu;omega)) hw) (λ h3=>?_);rw [Zd];refine ⟨⟨k + 1,by omega,by omega,λ n hn=>?_,hw⟩,by dsimp only;omega⟩;rw [List.take_add_one,List.getElem?_eq_getElem hkx] at hn;rcases List.mem_append.1 hn with hn|hn
  ·exact hok n hn
  ·rw [show n=L[k] by simpa using hn]
   unfold Zcu;omega
 rw [List.take_of_length_le (by omega)] at hok;refine ⟨λ w=>((1<=c.kind/\c.kind<=9/\0<=c.time/\c.time<=1099511627776)/\(c.pnr.size<=16/\c.lab.size<=16)/\(c.grps.length<=16/\c.parts.length<=16))/\Sat R (Own ⟨some ⟨b2,0,none⟩,4,4⟩ 3 (Zc L)::cmC b c sg sp::Hs) w,?_,?_⟩
 ·refine ⟨c.kind,oA hw,Br.d (λ h1=>no (λ hr=>by have:=hr.kind;omega) hw) (λ h1=>?_)⟩
  refine ⟨c.kind,oA hw,Br.d (λ h2=>no (λ hr=>by have:=hr.kind;omega) hw) (λ h2=>?_)⟩;refine ⟨c.time,oA hw,Br.d (λ h3=>no (λ hr=>by have:=hr.time;omega) hw) (λ h3=>?_)⟩;refine ⟨c.time,oA hw,Br.d (λ h4=>no (λ hr=>by have:=hr.time;omega) hw) (λ h4=>?_)⟩;refine ⟨c.pnr,oA hw,Br.d (λ h5=>no (λ hr=>by have:=hr.pnr;omega) hw) (λ h5=>?_)⟩;refine ⟨c.lab,oA hw,Br.d (λ h6=>no (λ hr=>by have:=hr.lab;omega) hw) (λ h6=>?_)⟩;refine ⟨sg,oA hw,Br.d (λ h7=>no (λ hr=>by have:=hr.gl;omega) hw) (λ h7=>?_)⟩;refine ⟨sp,oA hw,Br.d (λ h8=>no (λ hr=>by have:=hr.pl;omega) hw) (λ h8=>?_)⟩;exact ⟨⟨⟨by omega,by omega,by omega,by omega⟩,⟨by omega,by omega⟩,by omega,by omega⟩,hw⟩
 clear hw h hk;rintro _ w ⟨⟨h1,h2,h3⟩,hw⟩;refine ⟨λ i w=>∃ k:Nat,i=k/\k<=c.grps.length/\(∀ n∈c.grps.take k,Zcu n)/\Sat R (Own ⟨some ⟨b2,0,none⟩,4,4⟩ 3 (Zc L)::cmC b c sg sp::Hs) w,λ i _=>c.grps.length - i.toNat,⟨0,rfl,by omega,by simp,hw⟩,?_⟩;clear hw;rintro _ _ w ⟨k,rfl,hk,hok2,hw⟩;have badg:∀ n∈c.grps,¬ Zcu n->¬ Z5 c:=λ n hn h hr=>h (hr.grps n hn);refine ⟨sg,oA hw,Br.d (λ h=>?_) (λ h=>?_)⟩
 ·have hkx:k<c.grps.length:=by omega
  refine ⟨sg,oA hw,Ro.ix hg (eqS hw) k rfl hkx ?_⟩;refine Br.d (λ h2=>no (badg _ (List.getElem_mem hkx) (by unfold Zcu;omega)) hw) (λ h2=>?_);refine ⟨sg,oA hw,Ro.ix hg (eqS hw) k rfl hkx ?_⟩;refine Br.d (λ h3=>no (badg _ (List.getElem_mem hkx) (by unfold Zcu;omega)) hw) (λ h3=>?_);rw [Zd];refine ⟨⟨k + 1,by omega,by omega,λ n hn=>?_,hw⟩,by dsimp only;omega⟩;rw [List.take_add_one,List.getElem?_eq_getElem hkx] at hn;rcases List.mem_append.1 hn with hn|hn
  ·exact hok2 n hn
  ·rw [show n=c.grps[k] by simpa using hn]
   unfold Zcu;omega
 ·rw [List.take_of_length_le (by omega)] at hok2
  refine ⟨?_,hw.drop.drop⟩;rw [decide_eq_true];refine Zbx.2 ⟨λ n hn=>?_,h2,h3,h1⟩;rcases List.mem_append.1 hn with hn|hn
  ·exact hok n (by rw [hL];exact hn)
  ·exact hok2 n hn
theorem ZyI {s t:Sl} {a b:List Int} {K:Sl->World->Prop} (hl:a.length + b.length<=1099511627776) (hw:Sat R (Own t 5 (b8 b)::Own s 5 (b8 a)::Hs) w)
  (k:∀ s2 w',Sat R (Own s2 5 (b8 (a++b))::Hs) w'->K s2 w'):
  ∃ w_1:World,∃ t2:Sl,((Builtin.append_ #[ 47,47 ] 47 #[.slice s.a s.len s.cap,.slice t.a t.len t.cap]).run prog w=.ok (.slice t2.a t2.len t2.cap) w_1)/\K t2 w_1:=
 Zaz ZhK (s:=s) (n:=1099511627776) underlying47 hw.swap (by omega) (by omega) (by omega) λ s2 w hw=>k s2 w (hw.swap.drop)
theorem ZgT {b n:Nat} {xs:List Int} (hn:n=xs.length) (hxs:∀ x∈xs,x<9223372036854775808) (hl:9 * xs.length<=1099511627776) (hw:Sat R (pts b (.cells (Zc xs).toArray 3 (0,0))::Hs) w):
  Zk prog 67 #[.slice (some ⟨b,0,none⟩) n n] w λ v w'=>∃ t:Sl,v=.slice t.a t.len t.cap/\Sat R (Own t 5 (b8 (Zi (xs.map nn)))::Hs) w':=by
 have hw:Sat R (Own ⟨some ⟨b,0,none⟩,n,n⟩ 3 (Zc xs)::Hs) w:=Za0 hw (by rw [List.length_map];exact hn);obtain ⟨R',hr,_,hw,back⟩:=Own.lendI hw (by omega);refine (ZkJ hxs hl hr hw).u1 λ t w hw=>?_;exact ⟨_,rfl,t,rfl,(back hw).swap.cons λ _ h=>h.drop⟩
end
end Go.Proofs.YtlplemdmegpoeaaGreatDoor



namespace Go.Proofs.YtlplemdmegpoeaaGreatDoor
section
open Go Go.VC Tryz
set_option maxRecDepth 10000
def B8  (K:nK) (w : nW):Prop:=
 nC 10 #[] w λ I G=>
 ∃ l,(I=.returned (.pointer l))/\
 Br l.isNone
 (K (.bool false) G)
 (nC 35 #[] G λ J M=>
 ∃ o p q r s t u v x,∃ e d:Sl,(J=.returned (.agg #[nI o,.string p,nI q,nI r,nI s,nI t,.float .f64 u,.string v,nI x,e.v,d.v]))/\
 nC 12 #[.pointer l,.agg #[nI o,.string p,nI q,nI r,nI s,nI t,.float .f64 u,.string v,nI x,e.v,d.v]] M λ L N=>
 ∃ y z A C D E F,∃ f g:Sl,(L=.returned (.agg #[nI y,.string z,nI A,nI C,nI D,nI E,nI F,f.v,g.v]))/\
 New (.cells #[nI 0,.string (ByteArray.mk #[]),nI 0,nI 0,nI 0,nI 0,nI 0,.slice none 0 0,.slice none 0 0] 33 (0,0)) (λ j O=>
 ∃ b,(St 33 ⟨j,0,none⟩ (.agg #[nI y,.string z,nI A,nI C,nI D,nI E,nI F,f.v,g.v]) O b)/\
 ∃ m,(Aw b ⟨j,0,none⟩ [nI m])/\
 Br (m==0)
 (∃ k:Sl,(Aw b ⟨j,0 + 7,none⟩ [k.v])/\
 Br ((↑k.len:Int)==1)
 (∃ i:Sl,(Aw b ⟨j,0 + 7,none⟩ [i.v])/\
 Rng 0 i.len (Zb i.a λ H=>
 ∃ n,(Aw b (Addr.add H 0) [nI n])/\
 K (.bool (n==2)) b))
 (K (.bool false) b))
 (K (.bool false) b)) N)
theorem Zz4  (K:nK) (w : nW) (h:B8  K w):Zk prog 8 #[] w K:=cq (sk:=.leaf) h func8
def B35  (K:nK) (w : nW):Prop:=
 New (.cells #[nI 0,.string (ByteArray.mk #[]),nI 0,nI 0,nI 0,nI 0,.float .f64 0,.string (ByteArray.mk #[]),nI 0,.slice none 0 0,.slice none 0 0] 40 (0,0)) (λ e s=>
 New (.cells #[nI 2] 3 (0,0)) (λ p t=>
 New (.cells #[.float .f64 4607182418800017408] 35 (0,0)) (λ q u=>
 ∃ d,(St 40 ⟨e,0,none⟩ (.agg #[nI 1,.string (ByteArray.mk #[]),nI 7,nI 0,nI 0,nI 0,.float .f64 0,.string (ByteArray.mk #[]),nI 1,.slice ((some ⟨p,0,none⟩)) 1 1,.slice ((some ⟨q,0,none⟩)) 1 1]) u d)/\
 ∃ f g i j k l m n o,∃ c b:Sl,(Aw d ⟨e,0,none⟩ [nI f,.string g,nI i,nI j,nI k,nI l,.float .f64 m,.string n,nI o,c.v,b.v])/\
 K (.agg #[nI f,.string g,nI i,nI j,nI k,nI l,.float .f64 m,.string n,nI o,c.v,b.v]) d) t) s) w
theorem Zyg  (K:nK) (w : nW) (h:B35  K w):Zk prog 35 #[] w K:=cq (sk:=.leaf) h func35
def B9 (d:Sl) (K:nK) (w : nW):Prop:=
 ∃ (j:Int->World->Prop) (r:Int->World->Nat),(j 0 w)/\∀ (s:Env) (b:Int) (f:World),j b f->
 ∃ (k:World->Prop),(Br (decide (b<(↑d.len:Int)))
 (Br (decide (b<400))
 (k  f)
 (K (.bool false) f))
 (K (.bool false) f))/\
 ∀ (t:Env)  (c:World),k  c->
 Rng b d.len (Zb d.a λ l=>
 ∃ g:Sl,(Aw c ⟨(l.add (ZaD b.toNat 11)).block,(l.add (ZaD b.toNat 11)).off + 8 + 1,none⟩ [g.v])/\
 Br (decide ((↑g.len:Int)>100))
 (K (.bool true) c)
 (Rng b d.len (Zb d.a λ m=>
 ∃ i:Sl,(Aw c (nO (m.add (ZaD b.toNat 11)) 10) [i.v])/\
 Br (decide ((↑i.len:Int)>100))
 (K (.bool true) c)
 (Rng b d.len (Zb d.a λ n=>
 ∃ p,(Aw c (nO (n.add (ZaD b.toNat 11)) 1) [.string p])/\
 Br (decide ((↑p.size:Int)>1000))
 (K (.bool true) c)
 (Rng b d.len (Zb d.a λ o=>
 ∃ q,(Aw c (nO (o.add (ZaD b.toNat 11)) 7) [.string q])/\
 Br (decide ((↑q.size:Int)>1000))
 (K (.bool true) c)
 ((j (wI (b + 1)) c)/\r (wI (b + 1)) c<r b f))))))))
def sk9:Sk:=(.seq .leaf (.seq (.seq .leaf (.block (.loop [3] [(.int .i64)] [2,3,4,5,6,7,8,9,10,11,12,13,14,15,16,17,18,19,20,21,22,23,24,25,26,27,28,29,30,31,32,33,34,35,36,37,38,39,40,41,42,43,44,45,46,47,48] (.cut [] [] [4,5,6,7,8,9,10,11] .leaf .leaf)))) .leaf))
theorem Zz3 (b:Sl) (K:nK) (w : nW) (h:B9 b K w):Zk prog 9 #[b.v] w K:=cq (sk:=sk9) h func9
def B3 (d:Sl) (K:nK) (w : nW):Prop:=
 nC 8 #[] w λ dd dt=>
 ∃ I,(dd=.returned (.bool I))/\
 nC 9 #[d.v] dt λ de T=>
 ∃ ag,(de=.returned (.bool ag))/\
 ∃ (Y:World->Prop),(Br (!I)
 (K (.bool I) T)
 (Br ag
 (K (.bool I) T)
 (Y  T)))/\
 ∀ (d4:Env)  (c6:World),Y  c6->
 nC 10 #[] c6 λ dk d0=>
 ∃ e,(dk=.returned (.pointer e))/\
 nC 11 #[] d0 λ dl d1=>
 ∃ f,(dl=.returned (.pointer f))/\
 ∃ (L:Int->World->Prop) (c7:Int->World->Nat),(L 0 d1)/\∀ (d5:Env) (c:Int) (H:World),L c H->
 ∃ (Z:World->Prop),(Br (decide (c<(↑d.len:Int)))
 (Br (decide (c<120))
 (Z  H)
 (nC 18 #[.pointer e] H λ dm d2=>
 ∃ D:Sl,(dm=.returned (D.v))/\
 Drw d2 λ ab d3=>
 ∃ cu:ByteArray,(∀ b,ab b->((convert 47 9 (D.v))).run prog b=.ok (.string cu) b)/\
 nC 19 #[.pointer f] d3 λ dn X=>
 ∃ F:Sl,(dn=.returned (F.v))/\
 (ab X)/\
 ∃ cw:ByteArray,(∀ b,(λ b=>b=X) b->((convert 47 9 (F.v))).run prog b=.ok (.string cw) b)/\
 K (.bool (cu.toList==cw.toList)) X))
 (nC 18 #[.pointer e] H λ dp du=>
 ∃ E:Sl,(dp=.returned (E.v))/\
 Drw du λ ac dv=>
 ∃ cv:ByteArray,(∀ b,ac b->((convert 47 9 (E.v))).run prog b=.ok (.string cv) b)/\
 nC 19 #[.pointer f] dv λ dq O=>
 ∃ G:Sl,(dq=.returned (G.v))/\
 (ac O)/\
 ∃ cx:ByteArray,(∀ b,(λ b=>b=O) b->((convert 47 9 (G.v))).run prog b=.ok (.string cx) b)/\
 K (.bool (cv.toList==cx.toList)) O))/\
 ∀ (d6:Env)  (Q:World),Z  Q->
 Rng c d.len (Zb d.a λ c8=>
 ∃ ah ai aj ak al am an ao ap,∃ i g:Sl,(Aw Q (Addr.add c8 (ZaD c.toNat 11)) [nI ah,.string ai,nI aj,nI ak,nI al,nI am,.float .f64 an,.string ao,nI ap,i.v,g.v])/\
 nC 12 #[.pointer e,.agg #[nI ah,.string ai,nI aj,nI ak,nI al,nI am,.float .f64 an,.string ao,nI ap,i.v,g.v]] Q λ dr dw=>
 ∃ aq ar au av aw ax ay,∃ j k:Sl,(dr=.returned (.agg #[nI aq,.string ar,nI au,nI av,nI aw,nI ax,nI ay,j.v,k.v]))/\
 New (.cells #[nI 0,.string (ByteArray.mk #[]),nI 0,nI 0,nI 0,nI 0,nI 0,.slice none 0 0,.slice none 0 0] 33 (0,0)) (λ ae dx=>
 ∃ cy,(St 33 ⟨ae,0,none⟩ (.agg #[nI aq,.string ar,nI au,nI av,nI aw,nI ax,nI ay,j.v,k.v]) dx cy)/\
 Drw cy λ M cz=>
 ∃ az a0 a1 a2 a3 a4 a5,∃ l m:Sl,(At M ⟨ae,0,none⟩ [nI az,.string a0,nI a1,nI a2,nI a3,nI a4,nI a5,l.v,m.v])/\
 Rng c d.len (Zb d.a λ c9=>
 ∃ a6 a7 a8 a9 ba bb bc bd be,∃ o n:Sl,(Aw cz (Addr.add c9 (ZaD c.toNat 11)) [nI a6,.string a7,nI a8,nI a9,nI ba,nI bb,.float .f64 bc,.string bd,nI be,o.v,n.v])/\
 nC 14 #[.pointer f,.agg #[nI a6,.string a7,nI a8,nI a9,nI ba,nI bb,.float .f64 bc,.string bd,nI be,o.v,n.v]] cz λ ds c0=>
 ∃ bf bg bh bi bj bk bl,∃ p q:Sl,(ds=.returned (.agg #[nI bf,.string bg,nI bh,nI bi,nI bj,nI bk,nI bl,p.v,q.v]))/\
 (M c0)/\
 nC 13 #[.agg #[nI az,.string a0,nI a1,nI a2,nI a3,nI a4,nI a5,l.v,m.v],.agg #[nI bf,.string bg,nI bh,nI bi,nI bj,nI bk,nI bl,p.v,q.v]] c0 λ df c1=>
 ∃ bm,(df=.returned (.bool bm))/\
 (M c1)/\
 ∃ (aa:World->Prop),(Drw c1 λ ad c2=>
 Br (!bm)
 (K (.bool false) c2)
 (Zb f λ da=>
 ∃ bo,(At ad (Addr.add da 0) [nI bo])/\
 nC 15 #[.pointer e] c2 λ dg U=>
 ∃ bn,(dg=.returned (nI bn))/\
 (ad U)/\
 Br (bn !=bo)
 (K (.bool false) U)
 (aa  U)))/\
 ∀ (d7:Env)  (V:World),aa  V->
 Rng c d.len (Zb d.a λ db=>
 ∃ bp bq br bs bt bu bv bw bx,∃ s r:Sl,(Aw V (Addr.add db (ZaD c.toNat 11)) [nI bp,.string bq,nI br,nI bs,nI bt,nI bu,.float .f64 bv,.string bw,nI bx,s.v,r.v])/\
 nC 16 #[.pointer e,.agg #[nI bp,.string bq,nI br,nI bs,nI bt,nI bu,.float .f64 bv,.string bw,nI bx,s.v,r.v]] V λ dh dy=>
 ∃ bz b0 b1 b2 b3 b4 b5,∃ t u:Sl,(dh=.returned (.agg #[nI bz,.string b0,nI b1,nI b2,nI b3,nI b4,nI b5,t.v,u.v]))/\
 New (.cells #[nI 0,.string (ByteArray.mk #[]),nI 0,nI 0,nI 0,nI 0,nI 0,.slice none 0 0,.slice none 0 0] 33 (0,0)) (λ af dz=>
 ∃ c3,(St 33 ⟨af,0,none⟩ (.agg #[nI bz,.string b0,nI b1,nI b2,nI b3,nI b4,nI b5,t.v,u.v]) dz c3)/\
 Drw c3 λ N c4=>
 ∃ b6 b7 b8 b9 ca cb cc,∃ v x:Sl,(At N ⟨af,0,none⟩ [nI b6,.string b7,nI b8,nI b9,nI ca,nI cb,nI cc,v.v,x.v])/\
 Rng c d.len (Zb d.a λ dc=>
 ∃ cd ce cf cg ch ci cj ck cl,∃ z y:Sl,(Aw c4 (Addr.add dc (ZaD c.toNat 11)) [nI cd,.string ce,nI cf,nI cg,nI ch,nI ci,.float .f64 cj,.string ck,nI cl,z.v,y.v])/\
 nC 17 #[.pointer f,.agg #[nI cd,.string ce,nI cf,nI cg,nI ch,nI ci,.float .f64 cj,.string ck,nI cl,z.v,y.v]] c4 λ di c5=>
 ∃ cm cn co cp cq cr cs,∃ A C:Sl,(di=.returned (.agg #[nI cm,.string cn,nI co,nI cp,nI cq,nI cr,nI cs,A.v,C.v]))/\
 (N c5)/\
 nC 13 #[.agg #[nI b6,.string b7,nI b8,nI b9,nI ca,nI cb,nI cc,v.v,x.v],.agg #[nI cm,.string cn,nI co,nI cp,nI cq,nI cr,nI cs,A.v,C.v]] c5 λ dj J=>
 ∃ ct,(dj=.returned (.bool ct))/\
 (N J)/\
 Br (!ct)
 (K (.bool false) J)
 ((L (wI (c + 1)) J)/\c7 (wI (c + 1)) J<c7 c H))) dy))) dw)
def sk3:Sk:=(.seq .leaf (.seq .leaf (.seq .leaf (.cut [] [] [2,15,16,17,18,19,20] .leaf (.seq .leaf (.seq .leaf (.seq (.seq .leaf (.block (.loop [7] [(.int .i64)] [2,7,8,9,10,23,24,25,26,27,28,29,30,31,32,33,34,35,36,37,38,39,40,41,42,43,44,45,46,47,48,49,50,51,52,53,54,55,56,57,58,59,60,61,62,63,64,65,66,67,68,69,70,71,72,73] (.cut [] [] [23,24,25,26,27,28,29,30] .leaf (.seq (.block (.seq .leaf (.seq (.block .leaf) (.cut [] [] [2,47,48,49,50,51,52,53,54,55,56,57] (.seq (.block .leaf) .leaf) (.seq .leaf (.seq (.block .leaf) .leaf)))))) .leaf))))) (.seq .leaf (.seq (.block .leaf) .leaf)))))))))
theorem Zz5 (b:Sl) (K:nK) (w : nW) (h:B3 b K w):Zk prog 3 #[b.v] w K:=cq (sk:=sk3) h func3
end
section
open Go Go.VC Tryz
open Classical
variable {R:Cx} {Hs Rest:List HP} {w:World}
theorem ZlI {a b:Rp} {la lb ma mb:Sl} (h1:RoI R la a.left) (h2:RoI R ma b.left) (h3:Ro R lb (ZyB a.labs)) (h4:Ro R mb (ZyB b.labs)) (hw:Sat R Hs w):
  Zk prog 13 #[.agg #[nI a.code,.string a.pnr,nI a.state,nI a.flt,nI a.cls,nI a.many,nI a.time,.slice la.a la.len la.cap,.slice lb.a lb.len lb.cap],.agg #[nI b.code,.string b.pnr,nI b.state,nI b.flt,nI b.cls,nI b.many,nI b.time,.slice ma.a ma.len ma.cap,.slice mb.a mb.len mb.cap]] w
   λ v w'=>v=.bool (decide (a=b))/\Sat R Hs w':=by
 apply Zyn;refine Za hw λ x w hw=>Za hw λ y w hw=>?_;have hw:Sat R (rpC y b ma mb::rpC x a la lb::Hs) w:=hw;refine ⟨la,oA hw,ma,oA hw,?_⟩;refine (Zn2 h1 h2 hw).u λ w hw=>?_;refine ⟨_,rfl,lb,oA hw,mb,oA hw,?_⟩;refine (Zn1 h3 h4 hw).u λ w hw=>?_;refine ⟨_,rfl,?_⟩;have no:¬ a=b->(Value.bool false=.bool (decide (a=b))/\Sat R Hs w):=λ h=>⟨by rw [decide_eq_false h],hw.drop.drop⟩;refine ⟨a.code,oA hw,b.code,oA hw,Br.e (λ e1=>?_) (λ h=>no λ e=>h (by rw [e]))⟩;refine ⟨a.pnr,oA hw,b.pnr,oA hw,Br.se (λ e2=>?_) (λ h=>no λ e=>h (by rw [e]))⟩;refine ⟨a.state,oA hw,b.state,oA hw,Br.e (λ e3=>?_) (λ h=>no λ e=>h (by rw [e]))⟩;refine ⟨a.flt,oA hw,b.flt,oA hw,Br.e (λ e4=>?_) (λ h=>no λ e=>h (by rw [e]))⟩;refine ⟨a.cls,oA hw,b.cls,oA hw,Br.e (λ e5=>?_) (λ h=>no λ e=>h (by rw [e]))⟩;refine ⟨a.many,oA hw,b.many,oA hw,Br.e (λ e6=>?_) (λ h=>no λ e=>h (by rw [e]))⟩;refine ⟨a.time,oA hw,b.time,oA hw,Br.e (λ e7=>?_) (λ h=>no λ e=>h (by rw [e]))⟩;refine Br.d (λ e8=>?_) (λ h=>no λ e=>h (by rw [e]));refine ⟨?_,hw.drop.drop⟩
 congr 1
 refine decide_eq_decide.2 ⟨λ e9=>?_,λ e=>by rw [e]⟩;cases a;cases b;simp only at e1 e2 e3 e4 e5 e6 e7 e8 e9;subst e1 e2 e3 e4 e5 e6 e7 e8 e9;rfl
abbrev CmS:=Cm × Sl × Sl
abbrev Zu4 (c:CmS):List Value:=cmV c.1 c.2.1 c.2.2
def Zpd (c:CmS):Prop:=100<c.2.1.len\/100<c.2.2.len\/1000<c.1.pnr.size\/1000<c.1.lab.size
theorem ZqE {l:Sl} {cs:List CmS} (hr:∀ S:World->Prop,(∀ w,S w->Sat R Hs w)->ZcG 11 l (cs.map Zu4) S) (hw:Sat R Hs w):
  Zk prog 9 #[.slice l.a l.len l.cap] w λ v w'=>∃ b:Bool,v=.bool b/\(b=false->∀ c∈cs.take 400,¬ Zpd c)/\Sat R Hs w':=by
 have hlen:=(hr _ (eqS hw)).1;rw [List.length_map] at hlen;apply Zz3;refine ⟨λ i w=>∃ k:Nat,i=k/\k<=400/\k<=cs.length/\(∀ c∈cs.take k,¬ Zpd c)/\Sat R Hs w,λ i _=>400 - i.toNat,⟨0,rfl,by omega,by omega,by simp,hw⟩,?_⟩;clear hw;rintro _ _ w ⟨k,rfl,hk,hkc,hm,hw⟩;have fin:(cs.take k=cs.take 400)->∃ b:Bool,Value.bool false=.bool b/\(b=false->∀ c∈cs.take 400,¬ Zpd c)/\Sat R Hs w:=λ e=>⟨false,rfl,λ _=>by rw [<-e];exact hm,hw⟩;refine ⟨λ w=>(k<400/\k<cs.length)/\Sat R Hs w,?_,?_⟩
 ·with_reducible refine Br.d (λ h=>?_) (λ h=>fin ?_)
  ·with_reducible refine Br.d (λ h2=>?_) (λ h2=>fin ?_)
   ·exact ⟨⟨by omega,by omega⟩,hw⟩
   ·rw [show k=400 by omega]
  ·rw [List.take_of_length_le (by omega),List.take_of_length_le (by omega)]
 clear hw;rintro _ w ⟨⟨h1,h2⟩,hw⟩;have hS:=hr _ (eqS hw);have yes:∀ {b:Bool},b=true->∃ b2:Bool,Value.bool b=.bool b2/\(b2=false->∀ c∈cs.take 400,¬ Zpd c)/\Sat R Hs w:=λ {b} e=>⟨b,rfl,λ h=>(by rw [e] at h;cases h),hw⟩;refine hS.rngM h2 λ a _ he=>⟨cs[k].2.1,he.f 9 (by exact ⟨rfl,trivial⟩),Br.d (λ _=>yes rfl) (λ g1=>?_)⟩;refine hS.rngM h2 λ a _ he=>⟨cs[k].2.2,he.f 10 (by exact ⟨rfl,trivial⟩),Br.d (λ _=>yes rfl) (λ g2=>?_)⟩;refine hS.rngM h2 λ a _ he=>⟨cs[k].1.pnr,he.f 1 (by exact ⟨rfl,trivial⟩),Br.d (λ _=>yes rfl) (λ g3=>?_)⟩;refine hS.rngM h2 λ a _ he=>⟨cs[k].1.lab,he.f 7 (by exact ⟨rfl,trivial⟩),Br.d (λ _=>yes rfl) (λ g4=>?_)⟩;rw [Zd];refine ⟨⟨k + 1,by omega,by omega,by omega,λ c hc=>?_,hw⟩,by dsimp only;omega⟩;rw [List.take_add_one,List.getElem?_eq_getElem h2] at hc;rcases List.mem_append.1 hc with hc|hc
 ·exact hm c hc
 ·rw [show c=cs[k] by simpa using hc]
  unfold Zpd;omega
def wtV (w:Wt):List Value:=[nI w.id,nI w.cls,nI w.many,nI w.time,.float .f64 w.sc]
abbrev ZaC (s:Sl):Obj:=.cells [.slice s.a s.len s.cap].toArray 190 (0,0)
def ZN (q:Nat) (l:List Wt):HP:=exs λ s:Sl=>ZhI [pts q (ZaC s),Zl 5 s 192 (l.map wtV)]
theorem Sat.qu {q:Nat} {l:List Wt}:Sat R (ZN q l::Hs) w↔∃ s:Sl,Sat R (pts q (ZaC s)::Zl 5 s 192 (l.map wtV)::Hs) w:=by
 unfold ZN;rw [Sat.exs];exact ⟨λ⟨s,h⟩=>⟨s,Sat.star.1 h⟩,λ⟨s,h⟩=>⟨s,Sat.star.2 h⟩⟩
abbrev FE:=Nat × Nat × Pl
abbrev BE:=Nat × Bk
def ZzP (e:FE):HP:=ZhI [Ze e.1 e.2.2.r,ZN e.2.1 e.2.2.q]
abbrev Zv (x:Bk):Obj:=.cells [nI x.id,nI x.flt,nI x.cls,nI x.many,nI x.state,nI x.till].toArray 121 (0,0)
def bkAt (e:BE):HP:=pts e.1 (Zv e.2)
def Zg (fs:List FE):HP:=ZhI (fs.map ZzP)
def Zh (xs:List BE):HP:=ZhI (xs.map bkAt)
def flV (e:FE):Int × Value:=(e.2.2.n,.agg #[.pointer (some ⟨e.1,0,none⟩),.pointer (some ⟨e.2.1,0,none⟩)])
def bkV (e:BE):Int × Value:=(e.2.id,.pointer (some ⟨e.1,0,none⟩))
abbrev Zf (b:ZE) (m1 m2:Nat):Obj:=.cells [nI b.now,nI b.next,.map (some m1),.map (some m2)].toArray 80 (0,0)
structure Za1 (b:ZE) (fs:List FE) (xs:List BE):Prop where
 fl:(fs.map λ e=>e.2.2).Perm b.fl
 bk:xs.map (λ e=>e.2)=b.L
def Zo (p:Nat) (b:ZE):HP:=exs λ m1:Nat=>exs λ m2:Nat=>exs λ fs:List FE=>exs λ xs:List BE=>
 ZhI [pur (Za1 b fs xs),pts p (Zf b m1 m2),MapAt m1 (fs.map flV),MapAt m2 (xs.map bkV),Zg fs,Zh xs]
theorem Sat.book {p:Nat} {b:ZE}:Sat R (Zo p b::Hs) w↔∃ m1 m2 fs xs,Za1 b fs xs/\Sat R (pts p (Zf b m1 m2)::MapAt m1 (fs.map flV)::MapAt m2 (xs.map bkV)::Zg fs::Zh xs::Hs) w:=by
 unfold Zo;simp only [Sat.exs];constructor
 ·rintro ⟨m1,m2,fs,xs,h⟩
  obtain ⟨h1,h2⟩:=Sat.pur.1 (Sat.star.1 h);exact ⟨m1,m2,fs,xs,h1,h2⟩
 ·rintro ⟨m1,m2,fs,xs,h1,h2⟩
  exact ⟨m1,m2,fs,xs,Sat.star.2 (Sat.pur.2 ⟨h1,h2⟩)⟩
abbrev Ztz:Zw5 prog 77 Int 3 97 (.agg #[.pointer none,.pointer none]):=⟨underlying77,underlying3,zeroValue97⟩
abbrev ZtS:Zw5 prog 78 Int 3 86 (.pointer none):=⟨underlying78,underlying3,zeroValue86⟩
theorem Zg.snoc {fs:List FE} {f q:Nat} {p:Pl} (hw:Sat R (Ze f p.r::ZN q p.q::Zg fs::Hs) w):Sat R (Zg (fs++[(f,q,p)])::Hs) w:=by
 unfold Zg at hw ⊢;rw [Sat.star,List.map_append,List.append_assoc];have hw:Sat R (ZhI (fs.map ZzP)::Ze f p.r::ZN q p.q::Hs) w:=hw.arr;rw [Sat.star] at hw;have key:∀ (L:List HP) {R:Cx},Sat R (L++Ze f p.r::ZN q p.q::Hs) w->Sat R (L++(List.map ZzP [(f,q,p)]++Hs)) w:=λ L=>by
  induction L with
  |nil=>exact λ h=>Sat.star.2 h
  |cons A L ih=>exact λ h=>h.cons λ _ h=>ih h
 exact key _ hw
theorem Zhp {β:Type} {k:Int}:∀ {l:List (Int × β)},ZH k l=none↔∀ e∈l,e.1≠k
 |[]=>⟨λ _ _ h=>(by cases h),λ _=>rfl⟩
 |e::l=>by
  rw [ZH];by_cases h:k=e.1
  ·rw [if_pos (by simpa using h)]
   exact ⟨λ h2=>(by cases h2),λ h2=>absurd h.symm (h2 e (by simp))⟩
  ·rw [if_neg (by simpa using h),Zhp]
   exact ⟨λ h2 x hx=>by
    rcases List.mem_cons.1 hx with h1|h1
    ·rw [h1];exact λ e=>h e.symm
    ·exact h2 x h1,λ h2 x hx=>h2 x (by simp [hx])⟩
theorem Zhr {b:ZE} {fs:List FE} {xs:List BE} (hl:Za1 b fs xs) {n:Int}:ZH n (fs.map flV)=none↔b.at n=none:=by
 unfold ZE.at;rw [Zhp,ZdL];constructor
 ·intro h p hp
  obtain ⟨e,he,rfl⟩:=List.mem_map.1 (hl.fl.mem_iff.2 hp);exact h (flV e) (List.mem_map.2 ⟨e,he,rfl⟩)
 ·rintro h _ he
  obtain ⟨e,h1,rfl⟩:=List.mem_map.1 he;exact h e.2.2 (hl.fl.mem_iff.1 (List.mem_map.2 ⟨e,h1,rfl⟩))
theorem Zrj {b:ZE} {fs:List FE} {xs:List BE} (hl:Za1 b fs xs):fs.length=b.fl.length:=by
 have:=hl.fl.length_eq;rwa [List.length_map] at this
abbrev ZiA (e:Int):List PanicEntry:=[⟨.iface 29 (nI e),false,false⟩]
theorem ZbL {b:Bool} {e:Int} {Q:Ending->World->Prop} (h1:b=true->Q (.returned (.tuple #[])) w) (h2:b=false->Q (.panicked (ZiA e)) w):nC 37 #[.bool b,nI e] w Q:=by
 have h:Zcg prog 37 #[.bool b,nI e] w (λ ch w'=>b=false/\ch=ZiA e/\w'=w) (λ v w'=>b=true/\v=.tuple #[]/\w'=w):=by
  apply Zyf;exact Br.nb (λ h=>⟨h,rfl,rfl⟩) (λ h=>⟨h,rfl,rfl⟩)
 refine h.use ?_ ?_
 ·rintro v w' ⟨hb,rfl,e⟩;rw [e];exact h1 hb
 ·rintro v w' ⟨hb,rfl,e⟩;rw [e];exact h2 hb
theorem ZeF {e:Int} {Q:Ending->World->Prop} (h1:e=0->Q (.returned (.tuple #[])) w) (h2:¬ e=0->Q (.panicked (ZiA e)) w):nC 99 #[nI e] w Q:=by
 have h:Zcg prog 99 #[nI e] w (λ ch w'=>¬ e=0/\ch=ZiA e/\w'=w) (λ v w'=>e=0/\v=.tuple #[]/\w'=w):=by
  apply ZxI;exact Br.ne (λ h=>⟨h,rfl,rfl⟩) (λ h=>⟨h,rfl,rfl⟩)
 refine h.use ?_ ?_
 ·rintro v w' ⟨hb,rfl,e⟩;rw [e];exact h1 hb
 ·rintro v w' ⟨hb,rfl,e⟩;rw [e];exact h2 hb
theorem ZrF {r:Nat} {x:Rp} {sl sb:Sl} {e:Int} {Kr:World->Prop} (hw:Sat R (rpC r x sl sb::Hs) w) (k:∀ w,Sat R (rpC r (Z1 e) Zn Zn::Hs) w->Kr w):
  Zad prog 36 [nP r] (.panicking (ZiA e)) Kr w:=by
 unfold Zad;refine CallsD.mono (Zu6 (some ⟨r,0,none⟩) (.iface 29 (nI e)) Kr w ?_) ?_
 ·refine ⟨true,λ w' _=>by kernel_rfl,Br.t rfl ?_⟩
  refine ⟨e,λ w' _=>by kernel_rfl,Zb.mk rfl ?_⟩;refine sRu hw λ w hw=>?_;exact k w (hw.re (rpC r (Z1 e) Zn Zn))
 ·rintro e v w' ⟨hy,rfl,hk⟩
  exact ⟨hy,rfl,hk⟩
theorem Zmw {r:Nat} {Kr:World->Prop} (k:Kr w):Zad prog 36 [nP r] .returning Kr w:=by
 unfold Zad;refine CallsD.mono (Zu5 (some ⟨r,0,none⟩) Kr w ?_) ?_
 ·exact ⟨false,λ w' _=>by kernel_rfl,Br.f rfl k⟩
 ·rintro e v w' ⟨hy,rfl,hk⟩
  exact ⟨hy,rfl,hk⟩
theorem Zqa (hw:Sat R Hs w):Zk prog 100 #[] w λ v w'=>∃ q,v=nP q/\Sat R (ZN q []::Hs) w':=by
 apply ZwV;refine Za hw λ q w hw=>⟨q,rfl,Sat.qu.2 ⟨Zn,?_⟩⟩;exact (Zl.nil hw).swap
theorem Zlo (hw:Sat R Hs w):Zk prog 10 #[] w λ v w'=>∃ p,v=nP p/\Sat R (Zo p ZdG::Hs) w':=by
 apply Zyp;refine Za hw λ m1 w hw=>?_;have hw:=MapAt.new (α:=Int) rfl hw;refine Za hw λ m2 w hw=>?_;have hw:=MapAt.new (α:=Int) rfl hw;refine Za hw λ p w hw=>⟨p,rfl,Sat.book.2 ⟨m1,m2,[],[],⟨List.Perm.refl _,rfl⟩,?_⟩⟩;have hw:Sat R (pts p (Zf ZdG m1 m2)::MapAt (α:=Int) m2 []::MapAt (α:=Int) m1 []::Hs) w:=hw;have hw:Sat R (pts p (Zf ZdG m1 m2)::MapAt (α:=Int) m1 []::MapAt (α:=Int) m2 []::Hs) w:=hw.arr;exact hw.cons λ _ h=>h.cons λ _ h=>h.cons λ _ h=>Sat.star.2 (Sat.star.2 h)
abbrev Zgi (c:Cm):Rp:=⟨0,emS,0,c.flt,0,0,0,Zj (ZdA c.flt c.rows c.grps (ZB (Zaw c.rows c.grps) c.parts).1),[]⟩
theorem ZiI {p:Nat} {b:ZE} {c:Cm} {sg sp:Sl} (hfl:b.fl.length<=1000000) (hg:RoI R sg c.grps) (hp:SlR R.m sp (Zj2 c.parts)) (hw:Sat R (Zo p b::Hs) w):
  Zcg prog 39 #[nP p,.agg #[nI c.kind,.string c.pnr,nI c.flt,nI c.cls,nI c.many,nI c.time,.float .f64 c.sc,.string c.lab,nI c.rows,.slice sg.a sg.len sg.cap,.slice sp.a sp.len sp.cap]] w
   (λ ch w'=>∃ e,ch=ZiA e/\Zbc b c=(b,Z1 e)/\Sat R (Zo p b::Hs) w')
   (λ v w'=>(Zbc b c).2=Zgi c/\∃ sl:Sl,v=.agg (rpV (Zgi c) sl Zn).toArray/\Sat R (Own sl 3 (Zc (Zgi c).left)::Zo p (Zbc b c).1::Hs) w'):=by
 apply Zyd
 suffices H:∀ (X:List PanicEntry->World->Prop) (K:nK),(∀ e w',Zbc b c=(b,Z1 e)->Sat R (Zo p b::Hs) w'->X (ZiA e) w')->
   (∀ sl w',(Zbc b c).2=Zgi c->Sat R (Own sl 3 (Zc (Zgi c).left)::Zo p (Zbc b c).1::Hs) w'->K (.agg (rpV (Zgi c) sl Zn).toArray) w')->B39 (some ⟨p,0,none⟩) c.kind c.pnr c.flt c.cls c.many c.time c.sc c.lab c.rows sg sp X K w from
  H _ _ (λ e w' h1 h2=>⟨e,rfl,h1,h2⟩) (λ sl w' h1 h2=>⟨h1,sl,rfl,h2⟩)
 intro X K hX hK;obtain ⟨m1,m2,fs,xs,hl,hw⟩:=Sat.book.1 hw;have hlen:=Zrj hl;refine Za hw λ b3 w hw=>Za hw λ b4 w hw=>?_;have hw:Sat R (MapAt m1 (fs.map flV)::pts p (Zf b m1 m2)::cmC b3 c sg sp::Zp b4::MapAt m2 (xs.map bkV)::Zg fs::Zh xs::Hs) w:=by
  have hw:Sat R (Zp b4::cmC b3 c sg sp::pts p (Zf b m1 m2)::MapAt m1 (fs.map flV)::MapAt m2 (xs.map bkV)::Zg fs::Zh xs::Hs) w:=hw;exact hw.arr
 have close:∀ {w},Sat R (MapAt m1 (fs.map flV)::pts p (Zf b m1 m2)::cmC b3 c sg sp::Zp b4::MapAt m2 (xs.map bkV)::Zg fs::Zh xs::Hs) w->Sat R (Zo p b::Hs) w:=λ {w} hw=>by
  have hw:Sat R (cmC b3 c sg sp::Zp b4::pts p (Zf b m1 m2)::MapAt m1 (fs.map flV)::MapAt m2 (xs.map bkV)::Zg fs::Zh xs::Hs) w:=hw.arr;exact Sat.book.2 ⟨m1,m2,fs,xs,hl,hw.drop.drop⟩
 refine Za7 hw λ w hw=>?_;refine Zb.mk rfl ⟨some m1,oS,c.flt,oS,?_⟩;have look:∀ w',Sat R (VC.tru::MapAt m1 (fs.map flV)::pts p (Zf b m1 m2)::cmC b3 c sg sp::Zp b4::MapAt m2 (xs.map bkV)::Zg fs::Zh xs::Hs) w'->
   (Instr.lookup 77 (.map (some m1)) (nI c.flt) true).run prog w'=.ok (.tuple #[(ZH c.flt (fs.map flV)).getD (.agg #[.pointer none,.pointer none]),.bool (ZH c.flt (fs.map flV)).isSome]) w':=λ w' h=>
  MapAt.look Ztz h.swap c.flt true
 obtain ⟨v1,v2,hv⟩:∃ v1 v2:Option Addr,(ZH c.flt (fs.map flV)).getD (.agg #[.pointer none,.pointer none])=.agg #[.pointer v1,.pointer v2]:=by
  cases hgm:ZH c.flt (fs.map flV) with
  |none=>exact ⟨none,none,rfl⟩
  |some v=>
   obtain ⟨A,C,e,_⟩:=ZaL hgm;have:(c.flt,v)∈fs.map flV:=by rw [e];simp
   obtain ⟨x,_,hx⟩:=List.mem_map.1 this;have hx2:=congrArg Prod.snd hx;exact ⟨_,_,hx2.symm⟩
 rw [hv] at look;refine ⟨v1,v2,_,look,?_⟩;refine Za hw λ b5 w hw=>⟨hw.absorb,?_⟩;refine sRu hw λ w hw=>?_;have hw:=hw.drop.drop;have hat:=Zhr hl (n:=c.flt);refine ZbL (λ hn=>.inl ⟨rfl,?_⟩) (λ hn=>.inr ⟨_,rfl,hX 7 w ?_ (close hw)⟩)
 rotate_left
 ·unfold Zbc
  rw [if_pos];cases hba:b.at c.flt with
  |none=>rw [hat.2 hba] at hn;cases hn
  |some _=>rfl
 have hno:ZH c.flt (fs.map flV)=none:=by
  cases hgm:ZH c.flt (fs.map flV) with
  |none=>rfl
  |some v=>rw [hgm] at hn;cases hn
 have hba:=hat.1 hno;have o1:¬ (b.at c.flt).isSome=true:=by rw [hba];simp
 refine Zb.mk rfl ⟨some m1,oA hw,((fs.map flV).length:Int),λ w' e=>?_,?_⟩
 ·rw [show w'=w from e]
  exact MapAt.len (by kernel_rfl) hw
 rw [List.length_map,hlen];refine ZbL (λ hn8=>.inl ⟨rfl,?_⟩) (λ hn8=>.inr ⟨_,rfl,hX 3 w ?_ (close hw)⟩)
 rotate_left
 ·have:=of_decide_eq_false hn8
  unfold Zbc;rw [if_neg o1,if_pos (by omega)]
 have h8:=of_decide_eq_true hn8;have o2:¬ 8<=b.fl.length:=by omega
 refine ⟨c.flt,oA hw,c.rows,sg,oA hw,sp,oA hw,?_⟩;refine (ZoQ hg hp hw).use ?_;clear hw;rintro _ w (⟨hn,rfl,hw⟩|⟨hn,f,rfl,hw⟩)
 ·refine .inl ⟨none,1,rfl,ZeF (λ h=>by cases h) (λ _=>.inr ⟨_,rfl,hX 1 w ?_ (close hw)⟩)⟩
  unfold Zbc;rw [if_neg o1,if_neg o2,if_pos hn]
 have hopen:Zbc b c=({ b with fl:=Zmb Pl.n ⟨ZdA c.flt c.rows c.grps (ZB (Zaw c.rows c.grps) c.parts).1,[]⟩ b.fl },Zgi c):=by
  unfold Zbc;rw [if_neg o1,if_neg o2,if_neg (λ h=>h hn)]
 obtain ⟨r,hr⟩:∃ r,r=ZdA c.flt c.rows c.grps (ZB (Zaw c.rows c.grps) c.parts).1:=⟨_,rfl⟩;have hw:Sat R (Ze f r::MapAt m1 (fs.map flV)::pts p (Zf b m1 m2)::cmC b3 c sg sp::Zp b4::MapAt m2 (xs.map bkV)::Zg fs::Zh xs::Hs) w:=by
  rw [hr];exact Sat.lone.2 ⟨_,⟨Zpu,Zgy hn⟩,hw⟩
 rw [<-hr] at hopen;refine .inl ⟨some ⟨f,0,none⟩,0,rfl,ZeF (λ _=>.inl ⟨rfl,?_⟩) (λ h=>absurd rfl h)⟩;refine Zr (Sat R [cmC b3 c sg sp,pts p (Zf b m1 m2),VC.tru]) hw (λ w hw=>?_) λ w hw=>?_
 ·exact (hw.arr (Hs':=cmC b3 c sg sp::pts p (Zf b m1 m2)::Ze f r::MapAt m1 (fs.map flV)::Zp b4::MapAt m2 (xs.map bkV)::Zg fs::Zh xs::Hs)).cons λ _ h=>h.restTru2
 refine Zb.mk rfl ⟨some m1,oS,c.flt,oS,?_⟩;refine (Zqa hw).u1 λ q w hw=>?_;refine .inl ⟨_,rfl,?_,?_⟩
 ·exact (hw.arr (Hs':=cmC b3 c sg sp::pts p (Zf b m1 m2)::ZN q []::Ze f r::MapAt m1 (fs.map flV)::Zp b4::MapAt m2 (xs.map bkV)::Zg fs::Zh xs::Hs)).cons λ _ h=>h.restTru2
 have hw:Sat R (MapAt m1 (fs.map flV)::Ze f r::ZN q []::Zg fs::pts p (Zf b m1 m2)::cmC b3 c sg sp::Zp b4::MapAt m2 (xs.map bkV)::Zh xs::Hs) w:=hw.arr;refine MapAt.put Ztz hw c.flt (.agg #[nP f,nP q]) λ w hw=>?_;have hput:ZeN c.flt (.agg #[nP f,nP q]) (fs.map flV)=(fs++[((f,q,⟨r,[]⟩):FE)]).map flV:=by
  unfold ZeN;rw [hno];have:r.num=c.flt:=by rw [hr];rfl
  simp only [Option.isSome_none,Bool.false_eq_true,if_false,List.map_append,List.map_cons,List.map_nil,flV,Pl.n,this]
 rw [hput] at hw;refine Zr (Sat R [cmC b3 c sg sp,VC.tru]) hw (λ w hw=>?_) λ w hw=>?_
 ·exact (hw.arr (Hs':=cmC b3 c sg sp::MapAt m1 ((fs++[((f,q,⟨r,[]⟩):FE)]).map flV)::Ze f r::ZN q []::Zg fs::pts p (Zf b m1 m2)::Zp b4::MapAt m2 (xs.map bkV)::Zh xs::Hs)).restTru2
 refine ⟨c.flt,oS,?_⟩;have hw:Sat R (Ze f r::MapAt m1 ((fs++[((f,q,⟨r,[]⟩):FE)]).map flV)::ZN q []::Zg fs::pts p (Zf b m1 m2)::cmC b3 c sg sp::Zp b4::MapAt m2 (xs.map bkV)::Zh xs::Hs) w:=hw.swap;refine (Zcv hw).u1 λ sl w hw=>?_;refine .inl ⟨sl,rfl,?_,?_⟩
 ·exact (hw.arr (Hs':=cmC b3 c sg sp::Own sl 3 (Zc (Zj r))::Ze f r::MapAt m1 ((fs++[((f,q,⟨r,[]⟩):FE)]).map flV)::ZN q []::Zg fs::pts p (Zf b m1 m2)::Zp b4::MapAt m2 (xs.map bkV)::Zh xs::Hs)).restTru2
 refine sRu hw λ w hw=>?_;have hw:=hw.re (rpC b4 (Zgi c) sl Zn);refine ⟨0,emS,0,c.flt,0,0,0,sl,Zn,oA hw,?_⟩;have hw:Sat R (Own sl 3 (Zc (Zj r))::pts p (Zf b m1 m2)::MapAt m1 ((fs++[((f,q,⟨r,[]⟩):FE)]).map flV)::MapAt m2 (xs.map bkV)::Ze f r::ZN q []::Zg fs::Zh xs::rpC b4 (Zgi c) sl Zn::cmC b3 c sg sp::Hs) w:=hw.arr;refine hK sl w (by rw [hopen]) ?_;rw [hopen];dsimp only;rw [<-hr];refine hw.cons λ _ hw=>Sat.book.2 ⟨m1,m2,fs++[((f,q,⟨r,[]⟩):FE)],xs,⟨?_,hl.bk⟩,?_⟩
 ·rw [List.map_append]
  refine (List.perm_append_singleton _ _).trans (List.Perm.trans (hl.fl.cons _) Zk4.symm)
 ·refine hw.cons λ _ h=>h.cons λ _ h=>h.cons λ _ h=>?_
  exact (Zg.snoc h).cons λ _ h=>h.cons λ _ h=>h.drop.drop
theorem Zlu {p:Nat} {b:ZE} {c:Cm} {sg sp:Sl} (hk:c.kind=1) (hr:Z5 c) (hfl:b.fl.length<=1000000) (hg:RoI R sg c.grps) (hp:SlR R.m sp (Zj2 c.parts)) (hw:Sat R (Zo p b::Hs) w):
  Zk prog 12 #[nP p,.agg #[nI c.kind,.string c.pnr,nI c.flt,nI c.cls,nI c.many,nI c.time,.float .f64 c.sc,.string c.lab,nI c.rows,.slice sg.a sg.len sg.cap,.slice sp.a sp.len sp.cap]] w
   λ v w'=>∃ sl:Sl,v=.agg (rpV (Zbc b c).2 sl Zn).toArray/\Sat R (Own sl 3 (Zc (Zbc b c).2.left)::Zo p (Zbc b c).1::Hs) w':=by
 have hplen:sp.len=c.parts.length:=by have:=hp.len;simpa using this
 have hgl:c.grps.length<=17592186043904:=by have:=hr.gl;omega
 apply ZtR;refine Za hw λ b3 w hw=>Za hw λ b4 w hw=>?_;have hw:Sat R (Zp b4::cmC b3 c sg sp::Zo p b::Hs) w:=hw;refine ⟨c.kind,c.pnr,c.flt,c.cls,c.many,c.time,c.sc,c.lab,c.rows,sg,sp,oA hw,?_⟩;refine (ZeM hg hgl hplen hw).u λ w hw=>?_;refine .inl ⟨_,rfl,ZbL (λ _=>.inl ⟨rfl,?_⟩) (λ h=>absurd hr (of_decide_eq_false h))⟩;refine ⟨c.kind,oA hw,Br.e (λ _=>?_) (λ h=>absurd hk h)⟩;refine ⟨c.kind,c.pnr,c.flt,c.cls,c.many,c.time,c.sc,c.lab,c.rows,sg,sp,oA hw,?_⟩;have hw:Sat R (Zo p b::Zp b4::cmC b3 c sg sp::Hs) w:=hw.arr;refine (ZiI hfl hg hp hw).use ?_ ?_
 ·clear hw
  rintro _ w ⟨he,sl,rfl,hw⟩;refine .inl ⟨0,emS,0,c.flt,0,0,0,sl,Zn,rfl,?_⟩;refine sRu hw λ w hw=>?_;have hw:=hw.re (rpC b4 (Zgi c) sl Zn);refine Zmw ⟨0,emS,0,c.flt,0,0,0,sl,Zn,oA hw,sl,?_,?_⟩
  ·rw [he]
  ·rw [he]
   have hw:Sat R (Own sl 3 (Zc (Zgi c).left)::Zo p (Zbc b c).1::rpC b4 (Zgi c) sl Zn::cmC b3 c sg sp::Hs) w:=hw.arr;exact hw.cons λ _ h=>h.cons λ _ h=>h.drop.drop
 ·clear hw
  rintro _ w ⟨e,rfl,he,hw⟩;refine .inr ⟨_,rfl,?_⟩;have hw:Sat R (Zp b4::Zo p b::cmC b3 c sg sp::Hs) w:=hw.swap;refine ZrF hw λ w hw=>⟨e,emS,0,0,0,0,0,Zn,Zn,oA hw,Zn,?_,?_⟩
  ·rw [he];rfl
  ·rw [he]
   exact Own.nil (hw.drop.cons λ _ h=>h.drop)
def Zsf:Cm:=⟨1,ByteArray.mk #[],7,0,0,0,0,ByteArray.mk #[],1,[2],[4607182418800017408]⟩
theorem Zlv:ZB (Zaw 1 [2]) [4607182418800017408]=([2],0):=by kernel_rfl
theorem ZrX:Zj (ZdA 7 1 [2] [2])=[2]:=by kernel_rfl
theorem ZwZ:ZeE 7 1 [2] [4607182418800017408]:=⟨by omega,by omega,by kernel_rfl,by rw [Zlv]⟩
theorem Zo5:Z5 Zsf:=by
 refine ⟨?_,?_,?_,?_,?_,?_,?_,?_,?_,?_,?_⟩<;>unfold Zsf<;>try (unfold Zcu)<;>try (simp only;omega)
 ·intro n hn
  simp only [List.mem_singleton] at hn;subst hn;omega
 all_goals first|(show (0:Nat)<=16;omega)|simp
theorem ZrW:(Zbc ZdG Zsf).2=⟨0,emS,0,7,0,0,0,[2],[]⟩:=by
 have h1:¬ (ZdG.at Zsf.flt).isSome=true:=by
  show ¬ (Zs0 Pl.n 7 []).isSome=true;unfold Zs0;simp
 unfold Zbc;rw [if_neg h1,if_neg (by show ¬ 8<=0;omega),if_neg (λ h=>h ZwZ)];show (⟨0,emS,0,7,0,0,0,Zj (ZdA 7 1 [2] (ZB (Zaw 1 [2]) [4607182418800017408]).1),[]⟩:Rp)=_;rw [Zlv,ZrX]
theorem Zoz (hw:Sat R Hs w):Zk prog 35 #[] w λ v w'=>∃ sg sp:Sl,v=.agg (cmV Zsf sg sp).toArray/\Sat R (Own sg 3 (Zc Zsf.grps)::Own sp 35 (Zj2 Zsf.parts)::Hs) w':=by
 apply Zyg;refine Za hw λ b w hw=>Za hw λ x w hw=>Za hw λ y w hw=>?_;have hw:Sat R (pts y (.cells (Zj2 [4607182418800017408]).toArray 35 (0,0))::pts x (.cells (Zc [2]).toArray 3 (0,0))::ZxG b::Hs) w:=hw;have hw:Sat R (ZxG b::pts y (.cells (Zj2 [4607182418800017408]).toArray 35 (0,0))::pts x (.cells (Zc [2]).toArray 3 (0,0))::Hs) w:=hw.arr;refine sRu hw λ w hw=>?_;have hw:=hw.re (cmC b Zsf ⟨some ⟨x,0,none⟩,1,1⟩ ⟨some ⟨y,0,none⟩,1,1⟩);refine ⟨_,_,_,_,_,_,_,_,_,⟨some ⟨x,0,none⟩,1,1⟩,⟨some ⟨y,0,none⟩,1,1⟩,oA hw,⟨some ⟨x,0,none⟩,1,1⟩,⟨some ⟨y,0,none⟩,1,1⟩,rfl,?_⟩;exact (Za0 (n:=1) (hw.drop.swap)).cons λ _ h=>Za0 (n:=1) h
theorem ZrV (hw:Sat R Hs w):Zk prog 8 #[] w λ v w'=>v=.bool true/\Sat R Hs w':=by
 apply Zz4;refine (Zlo hw).u1 λ p w hw=>?_;refine ⟨_,rfl,Br.f rfl ?_⟩;refine (Zoz hw).use ?_;clear hw;rintro _ w ⟨sg,sp,rfl,hw⟩;obtain ⟨R1,e1,g1,hw⟩:=Own.leak hw;obtain ⟨R2,e2,g2,hw⟩:=Own.leak hw;refine ⟨_,_,_,_,_,_,_,_,_,sg,sp,rfl,?_⟩;refine (Zlu (c:=Zsf) rfl Zo5 (by show 0<=1000000;omega) (e2.ro (g1.ro (by unfold Zsf;simp))) g2 hw).u1 λ sl w hw=>?_;rw [ZrW] at hw ⊢;refine ⟨_,_,_,_,_,_,_,sl,Zn,rfl,?_⟩;refine Za hw λ b w hw=>?_;refine sRu hw λ w hw=>?_;have hw:=hw.re (rpC b ⟨0,emS,0,7,0,0,0,[2],[]⟩ sl Zn);refine ⟨0,oA hw,Br.e (λ _=>?_) (λ h=>absurd rfl h)⟩;have hw:=hw.swap;have hsl:=Own.len hw;have hsl:sl.len=1:=hsl;refine ⟨sl,oA hw,Br.e (λ _=>?_) (λ h=>absurd (by rw [hsl];rfl) h)⟩;refine ⟨sl,oA hw,Own.ix (xs:=[2]) hw (eqS hw) 0 rfl (by simp) ⟨rfl,?_⟩⟩;exact e1.back (e2.back hw.drop.drop.drop)
end
end Go.Proofs.YtlplemdmegpoeaaGreatDoor


namespace Go.VC
section
open Go.ChangeShapes Go.WideShapes Go.ChangeAt Go.RowKit
theorem Ztq {W W':World} {Hs:List HP} (h:Sat (Cx.of W) Hs W'):Below W.heap.size W W':=by
 obtain ⟨h1,h2,h3⟩:=h.streams;have hb:∀ k,k<W.heap.size->W'.heap[k]? =W.heap[k]?:=λ k hk=>by
  have:(Cx.of W).m k=some W.heap[k]:=by simp [Cx.of,hk]
  rw [h.of_ro this];simp [hk]
 refine ⟨h1,h2,h3,?_,hb⟩;rcases Nat.lt_or_ge W'.heap.size W.heap.size with hl|hl
 ·have:=hb W'.heap.size hl
  rw [Array.getElem?_eq_none (Nat.le_refl _)] at this;simp [hl] at this
 ·exact hl
theorem ZjU {w:World} {a:Addr} {v:Value} (h:w.cell? a=some v):a.spot=none/\∃ l T fr,w.heap[a.block]? =some (.cells l T fr)/\l[a.off]? =some v:=by
 unfold World.cell? at h;split at h
 ·rename_i c T fr hb
  split at h
  ·cases h
  ·rename_i hs
   exact ⟨by simpa using hs,c,T,fr,hb,h⟩
 ·cases h
section
variable {H:Type} {enc:TypeId × Value->H} {P:Program} {W:World} {base:Nat} {spare:Nat->Bool} {held:Bool}
end
end
end Go.VC

namespace Go.VC
section
open Go.ChangeShapes Go.WideShapes Go.ChangeAt Go.RowKit
inductive Tr where
 |int (k:IntKind) (n:Int)|bool (b:Bool)|flt (n:Nat)|str (s:ByteArray)|sl (s:Sl) (xs:List Tr)|st (xs:List Tr)
mutual
def Tr.cells:Tr->List Value
 | .int k n=>[.int k n]
 | .bool b=>[.bool b]
 | .flt n=>[.float .f64 n]
 | .str s=>[.string s]
 | .sl s _=>[.slice s.a s.len s.cap]
 | .st xs=>Tr.cellsL xs
def Tr.cellsL:List Tr->List Value
 |[]=>[]
 |x::xs=>x.cells++Tr.cellsL xs
end
inductive U where
 |int (k:IntKind)|bool|flt|str|sl (u:U)|st (us:List U)
mutual
def U.size:U->Nat
 | .st us=>U.sizeL us
 |_=>1
def U.sizeL:List U->Nat
 |[]=>0
 |u::us=>u.size + U.sizeL us
end
mutual
def Tr.Ok (R:Cx):U->Tr->Prop
 | .int k,.int k' n=>k'=k/\(Lit.int k n).wf=true
 | .bool,.bool _=>True
 | .flt,.flt n=>(Lit.float .f64 n).wf=true
 | .str,.str s=>s.size<=maxLen
 | .sl u,.sl s xs=>(RoN u.size R s (xs.map Tr.cells)/\s.len<=s.cap)/\xs.length<=maxLen/\Tr.OkA R u xs
 | .st us,.st xs=>Tr.OkL R us xs
 |_,_=>False
def Tr.OkA (R:Cx) (u:U):List Tr->Prop
 |[]=>True
 |x::xs=>Tr.Ok R u x/\Tr.OkA R u xs
def Tr.OkL (R:Cx):List U->List Tr->Prop
 |[],[]=>True
 |u::us,x::xs=>Tr.Ok R u x/\Tr.OkL R us xs
 |_,_=>False
end
theorem Tr.okA {R:Cx} {u:U}:∀ {xs:List Tr},Tr.OkA R u xs->∀ x∈xs,Tr.Ok R u x
 |[],_,x,hx=>by cases hx
 |y::ys,h,x,hx=>by
  unfold Tr.OkA at h;rcases List.mem_cons.1 hx with rfl|hx
  ·exact h.1
  ·exact Tr.okA h.2 x hx
theorem Tr.okA_mk {R:Cx} {u:U}:∀ {xs:List Tr},(∀ x∈xs,Tr.Ok R u x)->Tr.OkA R u xs
 |[],_=>by unfold Tr.OkA;trivial
 |y::ys,h=>by
  unfold Tr.OkA;exact ⟨h y List.mem_cons_self,Tr.okA_mk λ x hx=>h x (List.mem_cons_of_mem _ hx)⟩
def Zhu (P:Program) (f:TypeId->Option U):Nat->List Field->Option (List U)
 |_,[]=>some []
 |off,x::xs=>match Nat.beq x.offset off with
  |false=>none
  |true=>match f x.type with
   |none=>none
   |some u=>match Nat.beq (P.cellsOf x.type) u.size with
    |false=>none
    |true=>match Zhu P f (off + u.size) xs with
     |none=>none
     |some us=>some (u::us)
def uOf (P:Program):Nat->TypeId->Option U
 |0,_=>none
 |d + 1,t=>match P.underlying t with
  |some (.int k)=>some (.int k)
  |some .bool=>some .bool
  |some (.float .f64)=>some .flt
  |some .string=>some .str
  |some (.slice e)=>match uOf P d e with
   |some u=>(match Nat.beq (P.cellsOf e) u.size && Nat.blt 0 u.size with|true=>some (.sl u)|false=>none)
   |none=>none
  |some (.struct fs)=>match Zhu P (uOf P d) 0 fs.toList with
   |some us=>(match Nat.beq (P.cellsOf t) (U.sizeL us) with|true=>some (.st us)|false=>none)
   |none=>none
  |some (.array n e)=>match uOf P d e with
   |some u=>(match Nat.beq (P.cellsOf e) u.size && Nat.beq (P.cellsOf t) (n * u.size) with|true=>some (.st (List.replicate n u))|false=>none)
   |none=>none
  |_=>none
section
variable {H:Type} {enc:TypeId × Value->H} {P:Program} {W:World} {base:Nat} {spare:Nat->Bool} {held:Bool}
def ZyJ (R:Cx) (u:U) (cs:List Value):Prop:=∃ x:Tr,x.cells=cs/\x.Ok R u
theorem ZeL {w:World} {base:Nat} {a:Addr} {n:Nat} {cs:List Value} (h:w.cells? base a n=some cs):cs.length=n/\∀ i,i<n->w.cell? (a.add i)=cs[i]?:=by
 unfold World.cells? at h;split at h
 ·refine ⟨by have:=mapM_some_length h;simpa using this,λ i hi=>mapM_some_get h i i (by simp [hi])⟩
 ·cases h
theorem Zw1 (a:Addr) (i j:Nat) (hs:a.spot=none):(a.add i).add j=⟨a.block,a.off + (i + j),none⟩:=by
 obtain ⟨b,o,s⟩:=a;simp only at hs;subst hs;rw [Zs,Zs,Nat.add_assoc]
theorem Zht {d:Nat} (ih:∀ {fuel:Nat} {t:TypeId} {cs:List Value} {y:DataW H × List MemPlace} {u:U},uOf P d t=some u->DataW.trod enc P W base spare held fuel t cs=some y->ZyJ (Cx.of W) u cs) {n:Nat} {cs:List Value} {xs:List (DataW H × List MemPlace)}:
  ∀ (fs:List Field) (off:Nat) (us:List U),Zhu P (uOf P d) off fs=some us->(∀ (i:Nat) (f:Field),fs[i]? =some f->∃ y,DataW.trod enc P W base spare held n f.type ((cs.drop f.offset).take (P.cellsOf f.type))=some y)->
   off + U.sizeL us<=cs.length->∃ ts:List Tr,Tr.cellsL ts=(cs.drop off).take (U.sizeL us)/\Tr.OkL (Cx.of W) us ts
 |[],off,us,h,_,_=>by
  simp only [Zhu,Option.some.injEq] at h;subst h;exact ⟨[],by simp [Tr.cellsL,U.sizeL],by unfold Tr.OkL;trivial⟩
 |f::fs,off,us,h,hf,hl=>by
  unfold Zhu at h;split at h
  ·cases h
  rename_i hoff;have hoff:=Nat.eq_of_beq_eq_true hoff;split at h
  ·cases h
  rename_i u hu;split at h
  ·cases h
  rename_i hc;have hc:=Nat.eq_of_beq_eq_true hc;split at h
  ·cases h
  rename_i us' hus;cases h;simp only [U.sizeL] at hl ⊢;obtain ⟨y,hy⟩:=hf 0 f rfl;obtain ⟨x,hx,hxo⟩:=ih hu hy;obtain ⟨ts,hts,htso⟩:=Zht ih (n:=n) (xs:=xs) fs (off + u.size) us' hus (λ i g hg=>hf (i + 1) g (by simpa using hg)) (by omega);refine ⟨x::ts,?_,by unfold Tr.OkL;exact ⟨hxo,htso⟩⟩;simp only [Tr.cellsL];rw [hx,hts,hoff,hc,List.take_add,List.drop_drop]
theorem ZkG {u:U} {n s:Nat}:∀ {m:Nat} {cs:List Value},cs.length=m * s->u.size=s->(∀ i,i<m->ZyJ (Cx.of W) u ((cs.drop (i * s)).take s))->∃ ts:List Tr,Tr.cellsL ts=cs/\Tr.OkL (Cx.of W) (List.replicate m u) ts
 |0,cs,hl,_,_=>by
  have:cs=[]:=List.length_eq_zero_iff.1 (by simpa using hl);subst this;exact ⟨[],rfl,by unfold Tr.OkL;trivial⟩
 |m + 1,cs,hl,hs,h=>by
  obtain ⟨x,hx,hxo⟩:=h 0 (by omega);obtain ⟨ts,hts,htso⟩:=ZkG (n:=n) (m:=m) (cs:=cs.drop s) (by rw [List.length_drop,hl,Nat.add_mul];omega) hs (λ i hi=>by
   have:=h (i + 1) (by omega);rw [Nat.add_mul,Nat.one_mul,Nat.add_comm,<-List.drop_drop] at this;exact this)
  refine ⟨x::ts,?_,by rw [List.replicate_succ];unfold Tr.OkL;exact ⟨hxo,htso⟩⟩;simp only [Tr.cellsL];rw [hx,hts];simp
theorem ZhE {α β:Type} {p:Nat->α->Prop}:∀ {n:Nat},(∀ i,i<n->∃ x:α,p i x)->∃ xs:List α,xs.length=n/\∀ i (hi:i<xs.length),p i xs[i]
 |0,_=>⟨[],rfl,λ i hi=>by simp at hi⟩
 |n + 1,h=>by
  obtain ⟨xs,hl,hp⟩:=ZhE (β:=β) (n:=n) λ i hi=>h i (by omega);obtain ⟨x,hx⟩:=h n (by omega);refine ⟨xs++[x],by simp [hl],λ i hi=>?_⟩;by_cases h2:i<xs.length
  ·rw [List.getElem_append_left h2];exact hp i h2
  ·have:i=n:=by simp at hi;omega
   subst this;rw [List.getElem_append_right (by omega)];simpa using hx
theorem Zso {fuel:Nat} {t:TypeId} {cs:List Value} {x:DataW H × List MemPlace} (ht:P.underlying t=some (.float .f64)) (h:DataW.trod enc P W base spare held fuel t cs=some x):∃ n,cs=[.float .f64 n]/\(Lit.float .f64 n).wf=true:=by
 cases fuel with
 |zero=>simp [DataW.trod] at h
 |succ n=>
  unfold DataW.trod at h;rw [ht] at h;split at h<;>simp_all
theorem ZiR:∀ {d fuel:Nat} {t:TypeId} {cs:List Value} {y:DataW H × List MemPlace} {u:U},uOf P d t=some u->DataW.trod enc P W base spare held fuel t cs=some y->ZyJ (Cx.of W) u cs
 |0,_,_,_,_,_,h,_=>by cases h
 |d + 1,fuel,t,cs,y,u,h,hy=>by
  unfold uOf at h;split at h
  ·rename_i k ht
   cases h;obtain ⟨n,rfl,_,hw⟩:=DataW.trod_int ht hy;exact ⟨.int k n,rfl,rfl,hw⟩
  ·rename_i ht
   cases h;obtain ⟨b,rfl,_⟩:=DataW.trod_bool ht hy;exact ⟨.bool b,rfl,by unfold Tr.Ok;trivial⟩
  ·rename_i ht
   cases h;obtain ⟨n,rfl,hn⟩:=Zso ht hy;exact ⟨.flt n,rfl,by unfold Tr.Ok;exact hn⟩
  ·rename_i ht
   cases h;obtain ⟨s,rfl,_,hs⟩:=DataW.trod_string ht hy;exact ⟨.str s,rfl,hs⟩
  ·rename_i e ht
   split at h
   case h_2=>cases h
   rename_i ue hue;split at h
   case h_2=>cases h
   rename_i hc;simp only [Bool.and_eq_true] at hc;have hpos:0<ue.size:=Nat.blt_eq.mp hc.2;have hc:=Nat.eq_of_beq_eq_true hc.1;cases h;rcases DataW.trod_slice ht hy with ⟨rfl,_⟩|⟨a,len,cap,elems,rest,n,_,rfl,_,_,hlc,hcm,hel,helem,_,_⟩
   ·refine ⟨.sl ⟨none,0,0⟩ [],rfl,?_⟩
    unfold Tr.Ok;exact ⟨⟨⟨Wid.nil,rfl,λ h=>absurd rfl h⟩,Nat.le_refl _⟩,Nat.zero_le _,by unfold Tr.OkA;trivial⟩
   ·obtain ⟨xs,hxl,hxs⟩:=ZhE (β:=Unit) (p:=λ i (x:Tr)=>W.cells? base (a.add (i * P.cellsOf e)) (P.cellsOf e)=some x.cells/\x.Ok (Cx.of W) ue) (n:=len) λ i hi=>by
     have h1:=helem i hi;rw [List.getElem?_eq_getElem (by omega)] at h1;obtain ⟨ce,hce,hte⟩:=Option.bind_eq_some_iff.1 h1;obtain ⟨x,rfl,hx⟩:=ZiR hue hte;exact ⟨x,hce,hx⟩
    refine ⟨.sl ⟨some a,len,cap⟩ xs,rfl,?_⟩;unfold Tr.Ok;have hwid:Wid ue.size (xs.map Tr.cells):=λ r hr=>by
     obtain ⟨x,hx,rfl⟩:=List.mem_map.1 hr;obtain ⟨i,hi,rfl⟩:=List.getElem_of_mem hx;have:=(ZeL (hxs i hi).1).1;rw [this,hc]
    refine ⟨⟨⟨hwid,by simp [hxl],λ hne=>?_⟩,hlc⟩,by omega,Tr.okA_mk λ x hx=>by obtain ⟨i,hi,rfl⟩:=List.getElem_of_mem hx;exact (hxs i hi).2⟩
    -- the block
    have h0:0<xs.length:=by
     have:0<(xs.map Tr.cells).length:=List.length_pos_iff.2 hne;simpa using this
    have hcell:∀ i (hi:i<xs.length) j,j<ue.size->W.cell? ((a.add (i * ue.size)).add j)=(xs[i].cells)[j]?:=λ i hi j hj=>by
     have:=(ZeL (hxs i hi).1).2 j (by rw [hc];exact hj);rw [hc] at this;exact this
    have hxl0:∀ i (hi:i<xs.length),(xs[i].cells).length=ue.size:=λ i hi=>by rw [(ZeL (hxs i hi).1).1,hc]
    have hc0:=hcell 0 h0 0 (by omega);rw [List.getElem?_eq_getElem (by rw [hxl0 0 h0];omega)] at hc0;have hz0:(a.add (0 * ue.size)).add 0=a:=by rw [Nat.zero_mul];simp [Addr.add]
    rw [hz0] at hc0;obtain ⟨hs,l,T,fr,hl,_⟩:=ZjU hc0;refine ⟨a.block,a.off,l,T,fr,by cases a;simp_all,hl,λ i v hv=>?_⟩
    -- which row, which place
    have hlen:=hwid.len;rw [List.length_map] at hlen;have hi:i<(xs.map Tr.cells).flatten.length:=(List.getElem?_eq_some_iff.1 hv).1;have hq:i / ue.size<xs.length:=by
     rw [hlen] at hi;exact Nat.div_lt_of_lt_mul (by rwa [Nat.mul_comm])
    have hm:i % ue.size<ue.size:=Nat.mod_lt _ (by omega);have hcc:=hcell (i / ue.size) hq (i % ue.size) hm;rw [Zw1 a _ _ hs,show i / ue.size * ue.size + i % ue.size=i by rw [Nat.mul_comm];exact Nat.div_add_mod _ _] at hcc;have e1:(xs.map Tr.cells).flatten[i]? =(xs[i / ue.size].cells)[i % ue.size]?:=by
     have h1:i=i / ue.size * ue.size + i % ue.size:=by rw [Nat.mul_comm];exact (Nat.div_add_mod _ _).symm
     conv=>lhs;rw [h1]
     rw [<-List.getElem?_drop,hwid.drop_flat,List.drop_eq_getElem_cons (by simpa using hq),List.flatten_cons,List.getElem?_append_left (by rw [List.getElem_map,hxl0 _ hq];exact hm),List.getElem_map]
    rw [<-e1,hv] at hcc;simp only [World.cell?,hl,Option.isSome_none,Bool.false_eq_true,if_false] at hcc;exact hcc
  ·rename_i fs ht
   split at h
   case h_2=>cases h
   rename_i us hus;split at h
   case h_2=>cases h
   rename_i hc;have hc:=Nat.eq_of_beq_eq_true hc;cases h;obtain ⟨xs,n,_,_,hl,hxl,hf⟩:=DataW.trod_struct ht hy;obtain ⟨ts,hts,hto⟩:=Zht (d:=d) (λ h h2=>ZiR h h2) (n:=n) (cs:=cs) (xs:=xs) fs.toList 0 us hus (λ i f hfi=>by
    have hfi2:fs[i]? =some f:=by simpa using hfi
    have hlt:i<xs.length:=by rw [hxl];exact (Array.getElem?_eq_some_iff.1 hfi2).1
    exact ⟨xs[i],by rw [hf i f hfi2];exact List.getElem?_eq_getElem hlt⟩) (by omega)
   refine ⟨.st ts,?_,by unfold Tr.Ok;exact hto⟩;unfold Tr.cells;rw [hts,List.drop_zero,List.take_of_length_le (by omega)]
  ·rename_i m e ht
   split at h
   case h_2=>cases h
   rename_i ue hue;split at h
   case h_2=>cases h
   rename_i hc;simp only [Bool.and_eq_true] at hc;have hc1:=Nat.eq_of_beq_eq_true hc.1;have hc2:=Nat.eq_of_beq_eq_true hc.2;cases h;obtain ⟨xs,n,_,_,hl,hxl,hf⟩:=DataW.trod_array ht hy;obtain ⟨ts,hts,hto⟩:=ZkG (n:=n) (u:=ue) (s:=ue.size) (m:=m) (cs:=cs) (by rw [hl,hc2]) rfl (λ i hi=>by
    have:=hf i hi;rw [hc1,List.getElem?_eq_getElem (by omega)] at this;exact ZiR hue this)
   exact ⟨.st ts,by unfold Tr.cells;exact hts,by unfold Tr.Ok;exact hto⟩
  ·cases h
theorem Zxe {d:Nat} {t:TypeId} {v:Value} {dt:DataW H} {p:List MemPlace} {u:U} (hu:uOf P d t=some u) (h:DataW.Trod enc P W base spare held t v dt p):ZyJ (Cx.of W) u v.cells.toList:=by
 obtain ⟨fuel,hf⟩:=h;exact ZiR hu hf
theorem ZlF {α:Type} {R:Cx} {u:U} {s:Sl} {xs:List Tr} (g:α->List Value) (Q:α->Prop) (ho:Tr.Ok R (.sl u) (.sl s xs)) (h:∀ x:Tr,x.Ok R u->∃ e:α,x.cells=g e/\Q e):
  ∃ es:List α,RoN u.size R s (es.map g)/\es.length<=maxLen/\∀ e∈es,Q e:=by
 unfold Tr.Ok at ho;obtain ⟨⟨h1,_⟩,h2,h3⟩:=ho;have key:∀ l:List Tr,(∀ x∈l,x.Ok R u)->∃ es:List α,l.map Tr.cells=es.map g/\es.length=l.length/\∀ e∈es,Q e:=λ l=>by
  induction l with
  |nil=>exact λ _=>⟨[],rfl,rfl,λ _ h=>by cases h⟩
  |cons x l ih=>
   intro hl;obtain ⟨es,h1,h2,h3⟩:=ih λ y hy=>hl y (List.mem_cons_of_mem _ hy);obtain ⟨e,he,hq⟩:=h x (hl x List.mem_cons_self);exact ⟨e::es,by rw [List.map_cons,List.map_cons,he,h1],by simp [h2],λ y hy=>by
    rcases List.mem_cons.1 hy with rfl|hy
    ·exact hq
    ·exact h3 y hy⟩
 obtain ⟨es,e1,e2,e3⟩:=key xs (Tr.okA h3);rw [e1] at h1;exact ⟨es,h1,by omega,e3⟩
theorem Zxh {R:Cx} {u:U} {s:Sl} {xs:List Tr} (ho:Tr.Ok R (.sl u) (.sl s xs)):s.len<=s.cap:=by
 unfold Tr.Ok at ho;exact ho.1.2
theorem RoN.one {R:Cx} {s:Sl} {vs:List Value} (h:RoN 1 R s (vs.map λ v=>[v])) (hb:vs.length<=maxLen):Ro R s vs:=by
 refine ⟨by have:=h.len;simpa using this,by unfold maxLen at hb;omega,λ hne=>?_⟩;obtain ⟨b,off,l,T,fr,h1,h2,h3⟩:=h.mem (by simpa using hne);refine ⟨b,off,l,T,fr,h1,h2,λ i v hv=>h3 i v ?_⟩;have:(vs.map λ v=>[v]).flatten=vs:=by
  clear h3 h hb hne hv
  induction vs with
  |nil=>rfl
  |cons v vs ih=>simp [ih]
 rw [this];exact hv
theorem Zq6 {R:Cx} {k:IntKind} {s:Sl} {xs:List Tr} (ho:Tr.Ok R (.sl (.int k)) (.sl s xs)):∃ zs:List Int,Ro R s (zs.map (Value.int k))/\zs.length<=maxLen/\∀ z∈zs,(Lit.int k z).wf=true:=by
 obtain ⟨zs,h1,h2,h3⟩:=ZlF (λ z:Int=>[Value.int k z]) (λ z=>(Lit.int k z).wf=true) ho λ x hx=>by
  cases x<;>simp only [Tr.Ok] at hx;rename_i k' z;obtain ⟨rfl,hw⟩:=hx;exact ⟨z,rfl,hw⟩
 refine ⟨zs,RoN.one ?_ (by simpa using h2),h2,h3⟩;rw [List.map_map];exact h1
theorem ZoR {R:Cx} {s:Sl} {xs:List Tr} (ho:Tr.Ok R (.sl .flt) (.sl s xs)):∃ zs:List Nat,Ro R s (zs.map (Value.float .f64))/\zs.length<=maxLen/\s.len<=s.cap/\∀ z∈zs,z<18446744073709551616:=by
 obtain ⟨zs,h1,h2,h3⟩:=ZlF (λ z:Nat=>[Value.float .f64 z]) (λ z=>z<18446744073709551616) ho λ x hx=>by
  cases x<;>simp only [Tr.Ok] at hx;rename_i z;exact ⟨z,rfl,of_decide_eq_true hx⟩
 refine ⟨zs,RoN.one ?_ (by simpa using h2),h2,Zxh ho,h3⟩;rw [List.map_map];exact h1
end
end
end Go.VC
namespace Go.Proofs.YtlplemdmegpoeaaGreatDoor
section
open Go Go.VC Go.ChangeShapes Go.WideShapes Go.ChangeAt Go.RowKit
variable {H:Type} {enc:TypeId × Value->H} {W:World} {r:Reach} {b0:Nat} {v:Value} {d:DataW H} {p:List MemPlace}
abbrev Zz2:U:=.st [.int .i64,.str,.int .i64,.int .i64,.int .i64,.int .i64,.flt,.str,.st [.int .i64,.sl (.int .i64)],.sl .flt]
theorem Ztl {R:Cx} {x:Tr} (ho:x.Ok R Zz2):∃ (c:Cm) (sg sp:Sl),x.cells=cmV c sg sp/\ZAd c/\RoI R sg c.grps/\SlR R.m sp (Zj2 c.parts):=by
 cases x<;>simp only [Tr.Ok] at ho;rename_i xs
 match xs,ho with
 |[x0,x1,x2,x3,x4,x5,x6,x7,x8,x9],ho=>
  simp only [Tr.OkL,and_true] at ho;obtain ⟨h0,h1,h2,h3,h4,h5,h6,h7,h8,h9⟩:=ho;cases x0<;>simp only [Tr.Ok] at h0;rename_i k0 n0;obtain ⟨rfl,_⟩:=h0;cases x1<;>simp only [Tr.Ok] at h1;rename_i n1;cases x2<;>simp only [Tr.Ok] at h2;rename_i k2 n2;obtain ⟨rfl,_⟩:=h2;cases x3<;>simp only [Tr.Ok] at h3;rename_i k3 n3;obtain ⟨rfl,_⟩:=h3;cases x4<;>simp only [Tr.Ok] at h4;rename_i k4 n4;obtain ⟨rfl,_⟩:=h4;cases x5<;>simp only [Tr.Ok] at h5;rename_i k5 n5;obtain ⟨rfl,_⟩:=h5;cases x6<;>simp only [Tr.Ok] at h6;rename_i n6;cases x7<;>simp only [Tr.Ok] at h7;rename_i n7;cases x9<;>simp only [Tr.Ok] at h9;rename_i sp px;have h9:Tr.Ok R (.sl .flt) (.sl sp px):=by unfold Tr.Ok;exact h9
  cases x8<;>simp only [Tr.Ok] at h8;rename_i ys
  match ys,h8 with
  |[y0,y1],h8=>
   simp only [Tr.OkL,and_true] at h8;obtain ⟨g0,g1⟩:=h8;cases y0<;>simp only [Tr.Ok] at g0;rename_i k8 rows;obtain ⟨rfl,_⟩:=g0;cases y1<;>simp only [Tr.Ok] at g1;rename_i sg gx;have g1:Tr.Ok R (.sl (.int .i64)) (.sl sg gx):=by unfold Tr.Ok;exact g1
   obtain ⟨grps,a1,_,_⟩:=Zq6 g1;obtain ⟨parts,b1,_,b3,b4⟩:=ZoR h9;exact ⟨⟨n0,n1,n2,n3,n4,n5,n6,n7,rows,grps,parts⟩,sg,sp,rfl,⟨of_decide_eq_true h6,b4⟩,a1,⟨b1.len,b3,b1.mem⟩⟩
end
end Go.Proofs.YtlplemdmegpoeaaGreatDoor

namespace Go.VC
section
open Go Go.RowKit
theorem Zn4 {P:Program} {n:Nat} (w:World) (dT sT ty elem:TypeId) (b o dLen dCap:Nat) (a:Addr) (sLen sCap:Nat) (cs:List Value)
  (hu:P.underlying dT=some (.slice elem)) (hs:(P.info? elem).map (·.size)=some n) (hn:cs.length=Nat.min sLen dLen * n)
  (hsrc:∀ j v,cs[j]? =some v->w.cell? (a.add j)=some v) (hc:∀ j,j<cs.length->(w.cell? ⟨b,o + j,none⟩).isSome=true) (hf:∀ j,j<cs.length->w.frozen? ⟨b,o + j,none⟩=false) (h1:∀ v∈cs,v.oneCell'=true):
  (Builtin.copy_ #[dT,sT] ty #[.slice (some ⟨b,o,none⟩) dLen dCap,.slice (some a) sLen sCap]).run P w=.ok (goInt (Nat.min sLen dLen)) (w.setCells b o cs):=by
 have hl:=run_loadCells_list (P:=P) w a cs hsrc;have hst:=run_storeCells_cells (P:=P) b o cs 0 w (by simpa using hc) (by simpa using hf) h1;cases hq:P.info? elem with
 |none=>simp [hq] at hs
 |some i=>
  have hi:i.size=n:=by simpa [hq] using hs
  simp [Builtin.copy_,run_underlying hu,Builtin.lenOf,Builtin.firstCells,sizeOf,typeInfo,hq,hi,<-hn,hl,hst]
theorem ZlJ {P:Program} {n m:Nat} (w:World) (t e ty:TypeId) (z:Value) (ht:P.underlying t=some (.slice e)) (hv:∀ w,(zeroValue e).run P w=.ok z w) (hz:z.cells.size=n) (h1:∀ v∈(Builtin.zeroCells z.cells m).toList,v.oneCell'=true) (b o c:Nat) (hm:0<m)
  (hc:∀ j,j<m * n->(w.cell? ⟨b,o + j,none⟩).isSome=true) (hf:∀ j,j<m * n->w.frozen? ⟨b,o + j,none⟩=false):
  (Builtin.clear_ #[t] ty #[.slice (some ⟨b,o,none⟩) m c]).run P w=.ok (.tuple #[]) (w.setCells b o (Builtin.zeroCells z.cells m).toList):=by
 have hl:(Builtin.zeroCells z.cells m).toList.length=m * n:=by simp [Builtin.zeroCells,hz]
 have hst:=run_storeCells_cells (P:=P) b o (Builtin.zeroCells z.cells m).toList 0 w (by rw [hl];simpa using hc) (by rw [hl];simpa using hf) h1;simp only [Nat.add_zero] at hst;obtain ⟨k,rfl⟩:∃ k,m=k + 1:=⟨m - 1,by omega⟩;simp [Builtin.clear_,run_underlying ht,hv,hst]
theorem ZpQ {n:Nat}:∀ (m:Nat) (l:List Value),l.length=m * n->∃ ys:List (List Value),ys.length=m/\Wid n ys/\ys.flatten=l
 |0,l,h=>⟨[],rfl,Wid.nil,by have:l=[]:=List.length_eq_zero_iff.1 (by omega);rw [this];rfl⟩
 |m + 1,l,h=>by
  rw [Nat.add_mul,Nat.one_mul] at h;obtain ⟨ys,h1,h2,h3⟩:=ZpQ (n:=n) m (l.drop n) (by rw [List.length_drop];omega);refine ⟨l.take n::ys,by simp [h1],λ x hx=>?_,by simp [h3]⟩;rcases List.mem_cons.1 hx with rfl|hx
  ·rw [List.length_take];omega
  ·exact h2 x hx
theorem ZeZ {A B C V:List Value} {p:Nat} (hp:A.length=p) (hB:B.length=V.length):ZcK (A++B++C) p V=A++V++C:=by
 rw [ZeB _ _ _ (by simp only [List.length_append];omega)];have e1:(A++B++C).take p=A:=by rw [List.append_assoc,List.take_left' hp]
 have e2:(A++B++C).drop (p + V.length)=C:=by rw [List.drop_left' (by rw [List.length_append];omega)]
 rw [e1,e2]
theorem putN {A Y D X rest:List Value} {p:Nat} (hA:A.length=p) (hy:Y.length=X.length + D.length):ZcK (ZcK ((A++Y)++rest) p X) (p + X.length) D=(A++X++D)++rest:=by
 have h1:ZcK ((A++Y)++rest) p X=A++X++(Y.drop X.length++rest):=by
  have:=ZeZ (A:=A) (B:=Y.take X.length) (C:=Y.drop X.length++rest) (V:=X) hA (by rw [List.length_take];omega);rw [<-this]
  congr 1
  rw [List.append_assoc,List.append_assoc,<-List.append_assoc (Y.take _),List.take_append_drop]
 have h2:=ZeZ (A:=A++X) (B:=Y.drop X.length) (C:=rest) (V:=D) (p:=p + X.length) (by simp [hA]) (by rw [List.length_drop];omega);rw [h1,<-List.append_assoc,h2]
theorem ZzN {A D X rest:List Value} {p:Nat} (hA:A.length=p) (hr:X.length<=rest.length):ZcK (ZcK ((A++D)++rest) (p + X.length) D) p X=(A++X++D)++rest.drop X.length:=by
 have e:(A++D)++rest=(A++(D++rest).take X.length)++((D++rest).drop X.length).take D.length++rest.drop X.length:=by
  have h1:rest.drop X.length=(D++rest).drop (X.length + D.length):=by
   rw [Nat.add_comm,<-List.drop_drop,List.drop_left]
  rw [h1,<-List.drop_drop,List.append_assoc,List.append_assoc,List.append_assoc,List.take_append_drop,List.take_append_drop]
 have hl:((D++rest).take X.length).length=X.length:=by rw [List.length_take,List.length_append];omega
 rw [e,ZeZ (p:=p + X.length) (by rw [List.length_append,hl,hA]) (by rw [List.length_take,List.length_drop,List.length_append];omega)];have:=ZeZ (A:=A) (B:=(D++rest).take X.length) (C:=D++rest.drop X.length) (V:=X) hA (by rw [hl]);rw [show (A++(D++rest).take X.length)++D++rest.drop X.length=A++(D++rest).take X.length++(D++rest.drop X.length) by simp,this];simp
section
variable {P:Program} {R:Cx} {Hs Rest:List HP} {w:World} {s:Sl} {T:TypeId} {n:Nat}
theorem Zei {dT sT ty elem:TypeId} {b o dLen dCap sLen sCap:Nat} {a:Addr} {cs l:List Value} {fr:Nat × Nat} {K:Int->World->Prop} (hu:P.underlying dT=some (.slice elem)) (hs:(P.info? elem).map (·.size)=some n)
  (hw:Sat R (pts b (.cells l.toArray T fr)::Hs) w) (hfr:Zl1 l.length fr) (hn:cs.length=Nat.min sLen dLen * n) (hfit:o + cs.length<=l.length) (hsrc:∀ j v,cs[j]? =some v->w.cell? (a.add j)=some v) (h1:ZR cs=true)
  (k:∀ t w',Sat R (pts b (.cells (ZcK l o cs).toArray T fr)::Hs) w'->K t w'):
  ∃ w',∃ t:Int,(Builtin.copy_ #[dT,sT] ty #[.slice (some ⟨b,o,none⟩) dLen dCap,.slice (some a) sLen sCap]).run P w=.ok (.int .i64 t) w'/\K t w':=by
 have hat:=hw.at;have hr:=Zn4 (P:=P) w dT sT ty elem b o dLen dCap a sLen sCap cs hu hs hn hsrc (λ j hj=>by rw [Zas hat];simp;omega) (λ j hj=>Zcz hat hfr (by omega)) (λ v hv=>List.all_eq_true.1 h1 v hv);exact ⟨_,_,hr,k _ _ (ZaQ cs l o w hw)⟩
theorem ZgC {t1 t2 ty:TypeId} {bytes k m:Nat} {kd kn:IntKind} {rows:List (List Value)} {K:Sl->World->Prop} (ht:P.underlying t1=some (.slice T)) (htn:P.underlying t2=some (.int kn)) (hi:ZxC P T n bytes=true) (hn1:0<n)
  (h0:0<m) (hk:k<rows.length) (hc:s.cap<k + m) (hb:2 * (k + m) * bytes<=281474976710656) (hb':k + m<=9223372036854775807) (hw:Sat R (Zl n s T rows::Hs) w)
  (h:∀ t w' ys,ys.length=m->Sat R (Zl n t T (rows.take k++ys)::Zl n s T rows::Hs) w'->K t w'):
  ∃ w',∃ t:Sl,(Builtin.append_ #[t1,t2] ty #[.slice s.a k s.cap,.int kd m]).run P w=.ok (.slice t.a t.len t.cap) w'/\K t w':=by
 obtain ⟨i,z,hi,hz,hsize,hbytes,hzc⟩:=ZjH hi;obtain ⟨hwid,⟨_,rfl,_⟩|⟨b,rest,fr,cap,rfl,hl,hfr,hp⟩⟩:=Zl.cases hw
 ·simp at hk
 have hat:=hp.at;dsimp only at hc ⊢;have hcap:Builtin.nextslicecap (k + m) cap * i.bytes<=281474976710656:=by
  have h2:Builtin.nextslicecap (k + m) cap<=2 * (k + m):=by
   unfold Builtin.nextslicecap;split
   ·omega
   ·split
    ·omega
    ·have:=nextslicecap_le_wide hc
     unfold Builtin.nextslicecap at this;rw [if_neg (by assumption),if_neg (by assumption)] at this;omega
  rw [hbytes];exact Nat.le_trans (Nat.mul_le_mul_right _ h2) hb
 have hkl:(rows.take k).flatten.length=k * n:=by rw [hwid.take.len,List.length_take,Nat.min_eq_left (by omega)]
 have hold:(Builtin.firstCells i.size k (.slice (some ⟨b,0,none⟩) k cap)).run P w.drew=.ok (rows.take k).flatten.toArray w.drew:=by
  refine run_firstCells_some w.drew i.size k ⟨b,0,none⟩ k _ (rows.take k).flatten (by rw [hsize,hkl]) ?_;intro j u hj;rw [World.cell?_drew,Zs,Zas hat,Nat.zero_add];obtain ⟨hlt,rfl⟩:=List.getElem?_eq_some_iff.1 hj;rw [hkl] at hlt;rw [<-hj,<-hwid.take_flat,List.getElem?_take,if_pos hlt];have:k * n<=rows.length * n:=Nat.mul_le_mul_right _ (by omega);rw [List.getElem?_append_left (by rw [hwid.len];omega)]
 have hwr:IntKind.i64.wrap (m:Int)=m:=by rw [IntKind.wrap_i64];omega
 have hn:¬ (k + m<=cap):=by omega
 have h63':¬ (9223372036854775807<((k:Int) + (m:Int))):=by omega
 have h48':¬ (281474976710656<Builtin.nextslicecap (k + m) cap * i.bytes):=by omega
 have h48i:¬ (281474976710656<(m:Int) * (i.bytes:Int)):=by
  rw [<-Int.natCast_mul,hbytes];have:m * bytes<=2 * (k + m) * bytes:=Nat.mul_le_mul_right _ (by omega);omega
 have hneg:¬ ((m:Int)<0):=by omega
 have hn0:m≠0:=by omega
 have hns:¬ (m * i.size=0):=by
  rw [hsize];have:=Nat.mul_pos h0 hn1;omega
 have hg:=grownCap_ge w (k + m) cap T;have hr:(Builtin.append_ #[t1,t2] ty #[.slice (some ⟨b,0,none⟩) k cap,.int kd m]).run P w=
   .ok (.slice (some ⟨w.heap.size,0,none⟩) (k + m) (grownCap w (k + m) cap T)) (w.drew.alloc (.cells ((rows.take k).flatten.toArray++Builtin.zeroCells z.cells m++Builtin.zeroCells z.cells (grownCap w (k + m) cap T - (k + m))) T)):=by
  simp [Builtin.append_,run_underlying ht,run_underlying htn,sizeOf,typeInfo,zeroValue,hi,hz,asInt,asIntOf,hwr,hn,hneg,hns,h63',h48',h48i,Question.forced,hold,newRow,grownCap]
 have hzs:∀ m,(Builtin.zeroCells z.cells m).size=m * n:=λ m=>by simp [Builtin.zeroCells,hzc]
 obtain ⟨ys,hy1,hy2,hy3⟩:=ZpQ m (Builtin.zeroCells z.cells m).toList (by rw [Array.length_toList,hzs]);refine ⟨_,⟨some ⟨w.heap.size,0,none⟩,k + m,grownCap w (k + m) cap T⟩,hr,h _ _ ys hy1 ?_⟩;have h3:=Sat.alloc (Obj.cells ((rows.take k).flatten.toArray++Builtin.zeroCells z.cells m++Builtin.zeroCells z.cells (grownCap w (k + m) cap T - (k + m))) T) (Sat.drew hp);have e:Obj.cells ((rows.take k).flatten.toArray++Builtin.zeroCells z.cells m++Builtin.zeroCells z.cells (grownCap w (k + m) cap T - (k + m))) T=.cells ((rows.take k++ys).flatten++(Builtin.zeroCells z.cells (grownCap w (k + m) cap T - (k + m))).toList).toArray T (0,0):=by
  congr 1
  apply Array.ext';rw [List.flatten_append,hy3];simp
 rw [e] at h3 ⊢;have h4:=Zl.of_pts hwid hl (Sat.swap h3) hfr;have hwid2:Wid n (rows.take k++ys):=hwid.take.app hy2;have hlk:(rows.take k++ys).length=k + m:=by rw [List.length_append,List.length_take,hy1,Nat.min_eq_left (by omega)]
 have h5:=Zl.of_pts (cap:=grownCap w (k + m) cap T) hwid2 (by rw [List.length_append,hwid2.len,hlk,Array.length_toList,hzs,<-Nat.add_mul];congr 1;omega) (Sat.swap h4);have e2:(⟨some ⟨w.drew.heap.size,0,none⟩,(rows.take k++ys).length,grownCap w (k + m) cap T⟩:Sl)=⟨some ⟨w.heap.size,0,none⟩,k + m,grownCap w (k + m) cap T⟩:=by
  rw [hlk,World.size_drew]
 rw [e2] at h5;exact h5
theorem Zrt {t1 ty ty':TypeId} {bytes i j:Nat} {z:Value} {rows:List (List Value)} {K:Sl->World->Prop} (ht:P.underlying t1=some (.slice T)) (hi:ZxC P T n bytes=true) (hv:∀ w,(zeroValue T).run P w=.ok z w) (hzc:z.cells.size=n)
  (hz1:∀ m,∀ v∈(Builtin.zeroCells z.cells m).toList,v.oneCell'=true) (ho:ZR rows.flatten=true)
  (hn1:0<n) (hij:i<j) (hj:j<=rows.length) (hw:Sat R (Zl n s T rows::Hs) w) (k:∀ t w',Sat R (Zl n t T (rows.take i++rows.drop j)::Hs) w'->K t w'):
  ∃ w',∃ t:Sl,(Builtin.append_ #[t1,t1] ty #[.slice s.a i s.cap,.slice (ZbI s.a j s.cap n) (s.len - j) (s.cap - j)]).run P w=.ok (.slice t.a t.len t.cap) w'/\
   (0:Int)<=(s.len:Int)/\(s.len:Int)<=(t.cap:Int)/\(0:Int)<=(t.len:Int)/\(t.len:Int)<=(((s.len:Int).toNat:Nat):Int)/\
   ∃ w'',(Builtin.clear_ #[t1] ty' #[.slice (ZbI t.a (t.len:Int).toNat t.cap n) ((s.len:Int).toNat - (t.len:Int).toNat) (t.cap - (t.len:Int).toNat)]).run P w'=.ok (.tuple #[]) w''/\K t w'':=by
 obtain ⟨ti,z',hi,hz',hsize,hbytes,hzc'⟩:=ZjH hi;obtain ⟨hwid,⟨_,rfl,_⟩|⟨b,rest,fr,cap,rfl,hl,hfr,hp⟩⟩:=Zl.cases hw
 ·simp at hj;omega
 have hat:=hp.at;have hl0:=hl;rw [List.length_append,hwid.len] at hl;have hcap:rows.length<=cap:=Nat.le_of_mul_le_mul_right (by omega:rows.length * n<=cap * n) hn1;have hjn:j * n<=rows.length * n:=Nat.mul_le_mul_right _ hj;have hin:i * n + (rows.length - j) * n + (j - i) * n=rows.length * n:=by
  rw [<-Nat.add_mul,<-Nat.add_mul]
  congr 1;omega
 have hdl:(rows.drop j).flatten.length=(rows.length - j) * n:=by rw [hwid.drop.len,List.length_drop]
 have hdo:∀ v∈(rows.drop j).flatten,v.oneCell'=true:=λ v hv=>List.all_eq_true.1 ho v (by
  obtain ⟨l,h1,h2⟩:=List.mem_flatten.1 hv;exact List.mem_flatten.2 ⟨l,List.mem_of_mem_drop h1,h2⟩)
 have hsrc:Src P ti.size t1 (.slice (ZbI (some ⟨b,0,none⟩) j cap n) (rows.length - j) (cap - j)) (rows.length - j) (rows.drop j).flatten w:=by
  rw [hsize];by_cases hjc:cap=j
  ·have hr:rows.length - j=0:=by omega
   have hd:rows.drop j=[]:=List.drop_eq_nil_of_le (by omega);rw [hr,hd];unfold ZbI;rw [if_pos hjc];exact Go.Src.ofSlice w ht _ 0 _ [] (by simp) (λ j u hj=>by simp at hj) (λ u hu=>by cases hu)
  ·unfold ZbI
   rw [if_neg hjc];refine Go.Src.ofSlice w ht _ _ _ _ (by rw [hdl]) (λ x u hx=>?_) hdo;show w.cell? (Addr.add (Addr.add ⟨b,0,none⟩ (j * n)) x)=some u;rw [Zs,Zs,Nat.zero_add,Zas hat];rw [<-hwid.drop_flat,List.getElem?_drop] at hx;have hlt:=(List.getElem?_eq_some_iff.1 hx).1;rw [List.getElem?_append_left (by omega)];exact hx
 have hroom:i + (rows.length - j)<=cap:=by omega
 have hr:=run_append_room_src w t1 t1 ty T ti ht hi b 0 i cap _ (rows.length - j) (rows.drop j).flatten hsrc hroom
  (λ x hx=>by
   rw [Zas hat,hsize,List.getElem?_eq_getElem (by rw [hl0];omega)];rfl) (λ x hx=>Zcz hat hfr (by rw [hsize];omega))
 have h2:=ZaQ (rows.drop j).flatten (rows.flatten++rest) (i * n) w hp;rw [hsize,Nat.zero_add] at hr;have e1:ZcK (rows.flatten++rest) (i * n) (rows.drop j).flatten=(rows.take i++rows.drop j).flatten++(rows.flatten++rest).drop (i * n + (rows.length - j) * n):=by
  rw [ZeB _ _ _ (by rw [hdl,hl0];omega),hdl,List.take_append_of_le_length (by rw [hwid.len];omega),hwid.take_flat,List.flatten_append]
 rw [e1] at h2;have hwid2:Wid n (rows.take i++rows.drop j):=hwid.take.app hwid.drop;have hll:(rows.take i++rows.drop j).length=i + (rows.length - j):=by rw [List.length_append,List.length_take,List.length_drop,Nat.min_eq_left (by omega)]
 refine ⟨_,⟨some ⟨b,0,none⟩,i + (rows.length - j),cap⟩,hr,by dsimp only;omega,by dsimp only;omega,by dsimp only;omega,by dsimp only;omega,?_⟩;dsimp only;rw [Int.toNat_natCast,Int.toNat_natCast];have hca:ZbI (some ⟨b,0,none⟩) (i + (rows.length - j)) cap n=some ⟨b,(i + (rows.length - j)) * n,none⟩:=by
  unfold ZbI;rw [if_neg (by omega)];simp [Zs]
 rw [hca];have hat2:=h2.at;have hml:(rows.length - (i + (rows.length - j))) * n=(j - i) * n:=by congr 1;omega
 have hpos:(i + (rows.length - j)) * n=i * n + (rows.length - j) * n:=Nat.add_mul _ _ _;have hlen2:((rows.take i++rows.drop j).flatten++(rows.flatten++rest).drop (i * n + (rows.length - j) * n)).length=cap * n:=by
  rw [List.length_append,hwid2.len,hll,List.length_drop,hl0,hpos];omega
 refine ⟨_,ZlJ _ t1 T ty' z ht hv hzc (hz1 _) b ((i + (rows.length - j)) * n) _ (by omega) (λ x hx=>?_) (λ x hx=>?_),k _ _ ?_⟩
 ·rw [Zas hat2,List.getElem?_eq_getElem (by rw [hlen2];omega)];rfl
 ·exact Zcz hat2 hfr (by omega)
 ·have h3:=ZaQ (Builtin.zeroCells z.cells (rows.length - (i + (rows.length - j)))).toList _ ((i + (rows.length - j)) * n) _ h2
  have hzl:(Builtin.zeroCells z.cells (rows.length - (i + (rows.length - j)))).toList.length=(j - i) * n:=by simp [Builtin.zeroCells,hzc,hml]
  rw [ZeB _ _ _ (by rw [hzl,hlen2,hpos];omega),List.take_left' (by rw [hwid2.len,hll]),List.append_assoc] at h3;have h4:=Zl.of_pts (cap:=cap) hwid2 (by
   rw [List.length_append,List.length_append,hwid2.len,hll,hzl,List.length_drop,hlen2];omega) h3 hfr
  rw [hll] at h4;exact h4
end
end
end Go.VC
namespace Go.Proofs.YtlplemdmegpoeaaGreatDoor
section
open Go Go.VC Tryz
open Classical
variable {R:Cx} {Hs Rest:List HP} {w:World}
abbrev wtA (x:Wt):Value:=.agg #[nI x.id,nI x.cls,nI x.many,nI x.time,.float .f64 x.sc]
abbrev wtC (b:Nat) (x:Wt):HP:=pts b (.cells (wtV x).toArray 192 (0,0))
abbrev wtD (b:Nat) (x:Wt):HP:=pts b (.cells (wtV x).toArray 168 (0,0))
theorem ZcJ {n lo hi:Int} (hw:Sat R Hs w):Zk prog 239 #[nI n,nI lo,nI hi] w λ v w'=>v=.bool (decide (lo<=n/\n<=hi))/\Sat R Hs w':=by
 apply ZvA;refine Br.d (λ h=>⟨?_,hw⟩) (λ h=>⟨?_,hw⟩)
 ·congr 1
  rw [decide_eq_decide];omega
 ·rw [decide_eq_false (by omega)]
theorem ZlW {x:Wt} (hw:Sat R Hs w):Zk prog 169 #[wtA x] w λ v w'=>v=.bool (decide x.Ok)/\Sat R Hs w':=by
 apply Zwf;refine Za hw λ b w hw=>?_;have hw:Sat R (wtC b x::Hs) w:=hw;have no:∀ {w},¬ x.Ok->Sat R (wtC b x::Hs) w->(Value.bool false=.bool (decide x.Ok))/\Sat R Hs w:=λ h hw=>⟨by rw [decide_eq_false h],hw.drop⟩;refine ⟨x.id,oA hw,?_⟩;refine (ZcJ hw).u λ w hw=>?_;refine ⟨_,rfl,Br.d (λ h1=>?_) (λ h1=>no (λ h=>h1 h.1) hw)⟩;refine ⟨x.cls,oA hw,?_⟩;refine (ZcJ hw).u λ w hw=>?_;refine ⟨_,rfl,Br.d (λ h2=>?_) (λ h2=>no (λ h=>h2 h.2.1) hw)⟩;refine ⟨x.many,oA hw,?_⟩;refine (ZcJ hw).u λ w hw=>?_;refine ⟨_,rfl,Br.d (λ h3=>?_) (λ h3=>no (λ h=>h3 h.2.2.1) hw)⟩;refine ⟨x.time,oA hw,?_⟩;refine (ZcJ hw).u λ w hw=>?_;refine ⟨_,rfl,?_,hw.drop⟩
 congr 1
 rw [decide_eq_decide];exact ⟨λ h=>⟨h1,h2,h3,h⟩,λ h=>h.2.2.2⟩
def orL (l:List Int):Int:=(l.find? λ x=>decide (x≠0)).getD 0
theorem Zun {s:Sl} {l:List Int} (hl:l.length<=1000000000) (hw:Sat R (Own s 3 (Zc l)::Hs) w):Zk prog 242 #[.slice s.a s.len s.cap] w λ v w'=>v=nI (orL l)/\Sat R (Own s 3 (Zc l)::Hs) w':=by
 have hlen:=Own.len hw;rw [List.length_map] at hlen;apply Zvx;refine ⟨λ i w=>∃ j:Nat,i=j/\j<=l.length/\(∀ x∈l.take j,x=0)/\Sat R (Own s 3 (Zc l)::Hs) w,λ i _=>l.length - i.toNat,⟨0,rfl,by omega,by simp,hw⟩,?_⟩;clear hw;rintro _ _ w ⟨j,rfl,hj,hz,hw⟩;refine Br.d (λ h=>?_) (λ h=>?_)
 ·have hj2:j<l.length:=by omega
  refine Own.ix hw (eqS hw) j rfl hj2 ?_;refine Br.ne (λ h2=>⟨?_,hw⟩) (λ h2=>?_)
  ·congr 1
   have e:l.find? (λ x=>decide (x≠0))=some l[j]:=by
    have h3:l=l.take j++l[j]::l.drop (j + 1):=by rw [<-List.drop_eq_getElem_cons hj2,List.take_append_drop]
    rw [List.find?_eq_some_iff_append];exact ⟨by simpa using h2,l.take j,l.drop (j + 1),h3,λ x hx=>by simpa using hz x hx⟩
   unfold orL;rw [e];rfl
  ·rw [Zd]
   refine ⟨⟨j + 1,by omega,by omega,λ x hx=>?_,hw⟩,by dsimp only;omega⟩;rw [List.take_add_one,List.getElem?_eq_getElem hj2] at hx;rcases List.mem_append.1 hx with hx|hx
   ·exact hz x hx
   ·simp at hx
    rw [hx];exact h2
 ·rw [List.take_of_length_le (by omega)] at hz
  refine ⟨?_,hw⟩
  congr 1
  unfold orL;rw [List.find?_eq_none.2 (λ x hx=>by simpa using hz x hx)];rfl
theorem Zul {a b:Wt}:orL [ZeA b.sc a.sc,Ztk a.time b.time,Ztk a.id b.id]=a.ord b:=by
 unfold orL Wt.ord Ztk;by_cases h:ZeA b.sc a.sc=0
 ·simp only [List.find?_cons,h,ne_eq,not_true_eq_false,decide_false]
  by_cases h1:a.time<b.time
  ·simp [h1]
  ·by_cases h2:b.time<a.time
   ·simp [h1,h2]
   ·by_cases h3:a.id<b.id
    ·simp [h1,h2,h3]
    ·by_cases h4:b.id<a.id
     ·simp [h1,h2,h3,h4]
     ·simp [h1,h2,h3,h4]
 ·simp [h]
theorem Zot {a b:Wt} (hw:Sat R Hs w):Zk prog 172 #[wtA a,wtA b] w λ v w'=>v=nI (a.ord b)/\Sat R Hs w':=by
 apply Zwc;refine Za hw λ p w hw=>Za hw λ q w hw=>?_;have hw:Sat R (wtC q b::wtC p a::Hs) w:=hw;refine Za7 hw λ w hw=>?_;refine ⟨b.sc,oS,a.sc,oS,a.time,oS,b.time,oS,a.id,oS,b.id,oS,?_⟩;refine (Zp7 hw).u λ w hw=>?_;refine ⟨_,rfl,hw,?_⟩;refine (Zfq hw).u λ w hw=>?_;refine ⟨_,rfl,hw,?_⟩;refine (Zfq hw).u λ w hw=>?_;refine ⟨_,rfl,hw,?_⟩;refine Za hw λ r w hw=>⟨hw.absorb,?_⟩;have hw:Sat R (pts r (.cells (Zc [ZeA b.sc a.sc,Ztk a.time b.time,Ztk a.id b.id]).toArray 3 (0,0))::VC.tru::wtC q b::wtC p a::Hs) w:=hw;refine (Zun (l:=[ZeA b.sc a.sc,Ztk a.time b.time,Ztk a.id b.id]) (by simp) (Za0 (n:=3) hw)).u λ w hw=>?_;rw [Zul];exact ⟨_,rfl,hw.absorb,rfl,hw.drop.drop.drop.drop⟩
abbrev wtT:TypeId:=192
theorem Zqb {s:Sl} {l:List Wt} {f:Value} {p:Wt->Bool} (hl:l.length<=1000000000)
  (hf:∀ x w,Sat R (Zl 5 s wtT (l.map wtV)::Hs) w->Zda prog cl f [wtA x] w λ e w'=>e=.returned (.bool (p x))/\Sat R (Zl 5 s wtT (l.map wtV)::Hs) w')
  (hw:Sat R (Zl 5 s wtT (l.map wtV)::Hs) w):
  Zk prog 240 #[.slice s.a s.len s.cap,f] w λ v w'=>(∃ i:Int,v=nI i/\((i=-1/\l.any p=false)\/∃ k:Nat,i=k/\∃ (hk:k<l.length),p l[k]=true/\(l.take k).any p=false))/\Sat R (Zl 5 s wtT (l.map wtV)::Hs) w':=by
 have hlen:=Zl.len hw;rw [List.length_map] at hlen;apply Zvz;refine ⟨λ i w=>∃ j:Nat,i=j/\j<=l.length/\(l.take j).any p=false/\Sat R (Zl 5 s wtT (l.map wtV)::Hs) w,λ i _=>l.length - i.toNat,⟨0,rfl,by omega,by simp,hw⟩,?_⟩;clear hw;rintro _ _ w ⟨j,rfl,hj,hn,hw⟩;refine Br.d (λ h=>?_) (λ h=>?_)
 ·have hj2:j<l.length:=by omega
  refine (Zl.reads hw (eqS hw)).rngM (E:=l) (g:=wtV) hj2 λ a _ he=>?_;refine ⟨_,_,_,_,_,he.z (by exact ⟨rfl,rfl,rfl,rfl,rfl,trivial⟩),?_⟩;refine (hf l[j] _ hw).mono ?_;rintro _ w ⟨rfl,hw⟩;refine ⟨_,rfl,Br.mk (λ h=>⟨⟨j,rfl,.inr ⟨j,rfl,hj2,h,hn⟩⟩,hw⟩) (λ h=>?_)⟩;rw [Zd];refine ⟨⟨j + 1,by omega,by omega,?_,hw⟩,by dsimp only;omega⟩;rw [List.take_add_one,List.getElem?_eq_getElem hj2,List.any_append,hn];simp [h]
 ·rw [List.take_of_length_le (by omega)] at hn
  exact ⟨⟨-1,rfl,.inl ⟨rfl,hn⟩⟩,hw⟩
theorem Zq3 {b:Nat} {id:Int} {x:Wt} (hw:Sat R (pts b (.cells [nI id].toArray 3 (0,0))::Hs) w):Zk prog 241 #[wtA x,nP b] w λ v w'=>v=.bool (decide (x.id=id))/\Sat R (pts b (.cells [nI id].toArray 3 (0,0))::Hs) w':=by
 apply Zvy;refine Za hw λ p w hw=>?_;have hw:Sat R (wtC p x::pts b (.cells [nI id].toArray 3 (0,0))::Hs) w:=hw;refine ⟨x.id,oA hw,Zb.mk rfl ⟨id,oA hw,?_,hw.drop⟩⟩
 congr 1
theorem ZgX {q:Nat} {l:List Wt} {id:Int} (hl:l.length<=1000000000) (hw:Sat R (ZN q l::Hs) w):
  Zk prog 170 #[nP q,nI id] w λ v w'=>(∃ i:Int,v=nI i/\((i=-1/\ZdN id l=false)\/∃ k:Nat,i=k/\∃ (hk:k<l.length),l[k].id=id/\ZdN id (l.take k)=false))/\Sat R (ZN q l::Hs) w':=by
 obtain ⟨s,hw⟩:=Sat.qu.1 hw;apply Zwe;refine Za hw λ b w hw=>?_;have hw:Sat R (pts q (ZaC s)::pts b (.cells [nI id].toArray 3 (0,0))::Zl 5 s wtT (l.map wtV)::Hs) w:=hw.swap;refine Zb.mk rfl ⟨s,oA hw,?_⟩;have hw:Sat R (Zl 5 s wtT (l.map wtV)::pts b (.cells [nI id].toArray 3 (0,0))::pts q (ZaC s)::Hs) w:=hw.arr;refine (Zqb (p:=λ x=>decide (x.id=id)) hl (λ x w hw=>Zda.mk (by kernel_rfl) ((Zq3 hw.swap).use λ v w' h=>⟨by rw [h.1],h.2.swap⟩)) hw).use ?_;clear hw;rintro _ w ⟨⟨i,rfl,hi⟩,hw⟩;refine ⟨i,rfl,⟨i,rfl,?_⟩,?_⟩
 ·rcases hi with hi|⟨k,rfl,hk,h1,h2⟩
  ·exact .inl hi
  ·exact .inr ⟨k,rfl,hk,of_decide_eq_true h1,h2⟩
 ·have hw:Sat R (pts b (.cells [nI id].toArray 3 (0,0))::pts q (ZaC s)::Zl 5 s wtT (l.map wtV)::Hs) w:=hw.arr
  exact Sat.qu.2 ⟨s,hw.drop⟩
end
end Go.Proofs.YtlplemdmegpoeaaGreatDoor
