/- The formulas of functions of this seat's translation, printed by a program of mine off the translation; each is proved equal to 'fnF' of the function's body, so it is enough for the call. No condition. -/
import Derived.Test.YtfgbbckfikiomaaGreatDoorB2
import Derived.Test.YtfgbbckfikiomaaGreatDoorB4
import Derived.Test.YtfgbbckfikiomaaGreatDoorB1
import Derived.ProofKit
import Derived.OpenShut
import Derived.ShutString
import Derived.ChangeOld
import Derived.Below
import Derived.Lib.SmallJoins
set_option linter.unusedVariables false
namespace Go.Proofs.YtfgbbckfikiomaaGreatDoor
section
open Go Go.VC Tryz
set_option maxRecDepth 10000
def B127 (d:Nat) (K:Value->World->Prop) (w:World):Prop:=
 Ext prog 149 #[.float .f64 d] w λ c b=>
 ∃ a,(c=.returned (.int .u64 a))/\
 Br (Zfo BinOp.and IntKind.u64 a 9223372036854775808 !=0)
 (K (.int .u64 (IntKind.u64.wrap (↑(BitVec.ofInt IntKind.u64.bits (if IntKind.u64.signed=true then -1 else IntKind.u64.max) ^^^ BitVec.ofInt IntKind.u64.bits a).toNat:Int))) b)
 (K (.int .u64 (Zfo BinOp.or IntKind.u64 a 9223372036854775808)) b)
theorem ZxG (a:Nat) (K:Value->World->Prop) (w:World) (h:B127 a K w):Zm prog 127 #[.float .f64 a] w K:=cq (sk:=.leaf) func127 (by kernel_rfl) (by kernel_rfl) (by kernel_rfl) h
def B150 (a:Int) (K:Value->World->Prop) (w:World):Prop:=
 Br (Zfo BinOp.and IntKind.u64 a 9223372036854775808==0)
 (Ext prog 151 #[.int .u64 (IntKind.u64.wrap (↑(BitVec.ofInt IntKind.u64.bits (if IntKind.u64.signed=true then -1 else IntKind.u64.max) ^^^ BitVec.ofInt IntKind.u64.bits a).toNat:Int))] w λ d f=>
 ∃ c,(d=.returned (.float .f64 c))/\
 K (.float .f64 c) f)
 (Ext prog 151 #[.int .u64 (Zfo BinOp.andNot IntKind.u64 a 9223372036854775808)] w λ e g=>
 ∃ b,(e=.returned (.float .f64 b))/\
 K (.float .f64 b) g)
theorem Zxy (a:Int) (K:Value->World->Prop) (w:World) (h:B150 a K w):Zm prog 150 #[.int .u64 a] w K:=cq (sk:=.leaf) func150 (by kernel_rfl) (by kernel_rfl) (by kernel_rfl) h
def B221 (b:Nat) (c:Nat) (K:Value->World->Prop) (w:World):Prop:=
 Calls prog 258 #[.float .f64 b,.float .f64 c] w λ d e=>
 ∃ a,(d=.returned (.int .i64 a))/\
 K (.int .i64 a) e
theorem ZwF (a:Nat) (b:Nat) (K:Value->World->Prop) (w:World) (h:B221 a b K w):Zm prog 221 #[.float .f64 a,.float .f64 b] w K:=cq (sk:=.leaf) func221 (by kernel_rfl) (by kernel_rfl) (by kernel_rfl) h
def B258 (c:Nat) (d:Nat) (K:Value->World->Prop) (w:World):Prop:=
 Calls prog 273 #[.float .f64 c] w λ j l=>
 ∃ i,(j=.returned (.bool i))/\
 Calls prog 273 #[.float .f64 d] l λ k b=>
 ∃ e,(k=.returned (.bool e))/\
 Br i
 (Br e
 (K (.int .i64 0) b)
 (K (.int .i64 ((-1))) b))
 (Br e
 (K (.int .i64 1) b)
 (∃ f:Bool,(∀ a,(λ a=>a=b) a->((do eqGuard BinOp.lss 33 (Operand.tmp 14) (Operand.tmp 15) (.float .f64 c) (.float .f64 d);binOp BinOp.lss 33 (.float .f64 c) (.float .f64 d):Sem Value)).run prog a=.ok (.bool f) a)/\
 Br f
 (K (.int .i64 ((-1))) b)
 (∃ g:Bool,(∀ a,(λ a=>a=b) a->((do eqGuard BinOp.gtr 33 (Operand.tmp 17) (Operand.tmp 18) (.float .f64 c) (.float .f64 d);binOp BinOp.gtr 33 (.float .f64 c) (.float .f64 d):Sem Value)).run prog a=.ok (.bool g) a)/\
 Br g
 (K (.int .i64 1) b)
 (K (.int .i64 0) b))))
theorem Zwj (a:Nat) (b:Nat) (K:Value->World->Prop) (w:World) (h:B258 a b K w):Zm prog 258 #[.float .f64 a,.float .f64 b] w K:=cq (sk:=.leaf) func258 (by kernel_rfl) (by kernel_rfl) (by kernel_rfl) h
def B273 (b:Nat) (K:Value->World->Prop) (w:World):Prop:=
 ∃ c:Bool,(∀ a,(λ a=>a=w) a->((do eqGuard BinOp.neq 33 (Operand.tmp 3) (Operand.tmp 4) (.float .f64 b) (.float .f64 b);binOp BinOp.neq 33 (.float .f64 b) (.float .f64 b):Sem Value)).run prog a=.ok (.bool c) a)/\
 K (.bool c) w
theorem Zwe (a:Nat) (K:Value->World->Prop) (w:World) (h:B273 a K w):Zm prog 273 #[.float .f64 a] w K:=cq (sk:=.leaf) func273 (by kernel_rfl) (by kernel_rfl) (by kernel_rfl) h
def B222 (c:Int) (d:Int) (K:Value->World->Prop) (w:World):Prop:=
 Calls prog 259 #[.int .i64 c] w λ f i=>
 ∃ e,(f=.returned (.bool e))/\
 Calls prog 259 #[.int .i64 d] i λ g a=>
 ∃ b,(g=.returned (.bool b))/\
 Br e
 (Br b
 (K (.int .i64 0) a)
 (K (.int .i64 ((-1))) a))
 (Br b
 (K (.int .i64 1) a)
 (Br (decide (c<d))
 (K (.int .i64 ((-1))) a)
 (Br (decide (c>d))
 (K (.int .i64 1) a)
 (K (.int .i64 0) a))))
theorem ZwE (a:Int) (b:Int) (K:Value->World->Prop) (w:World) (h:B222 a b K w):Zm prog 222 #[.int .i64 a,.int .i64 b] w K:=cq (sk:=.leaf) func222 (by kernel_rfl) (by kernel_rfl) (by kernel_rfl) h
def B220 (f:Sl) (K:Value->World->Prop) (w:World):Prop:=
 ∃ (d:Int->World->Prop) (g:Int->World->Nat),(d 0 w)/\∀ (k:Env) (b:Int) (c:World),d b c->
 Br (decide (b<(↑f.len:Int)))
 (Rng b f.len (Zc f.a λ i=>
 ∃ e,(Aw c (Addr.add i b.toNat) [.int .i64 e])/\
 Br (e !=0)
 (K (.int .i64 e) c)
 ((d (IntKind.i64.wrap (b + 1)) c)/\g (IntKind.i64.wrap (b + 1)) c<g b c)))
 (K (.int .i64 0) c)
def Zz6:Sk:=(.seq .leaf (.seq .leaf (.seq (.seq .leaf (.block (.loop [8] [(.int .i64)] [2,5,8,9,10,11,12,13,14,15,16] .leaf))) .leaf)))
theorem ZwG (b:Sl) (K:Value->World->Prop) (w:World) (h:B220 b K w):Zm prog 220 #[b.v] w K:=cq (sk:=Zz6) func220 (by kernel_rfl) (by kernel_rfl) (by kernel_rfl) h
def B111  (K:Value->World->Prop) (w:World):Prop:=
 New (.cells #[.slice none 0 0] 179 (0,0)) (λ a b=>
 K (.pointer ((some ⟨a,0,none⟩))) b) w
theorem ZxT  (K:Value->World->Prop) (w:World) (h:B111  K w):Zm prog 111 #[] w K:=cq (sk:=.leaf) func111 (by kernel_rfl) (by kernel_rfl) (by kernel_rfl) h
def B170 (z:Int) (A:Int) (C:Int) (D:Int) (E:Nat) (I:Int) (J:Int) (L:Int) (M:Int) (N:Nat) (K:Value->World->Prop) (w:World):Prop:=
 New (.cells #[.int .i64 z,.int .i64 A,.int .i64 C,.int .i64 D,.float .f64 E] 181 (0,0)) (λ b F=>
 New (.cells #[.int .i64 I,.int .i64 J,.int .i64 L,.int .i64 M,.float .f64 N] 181 (0,0)) (λ c G=>
 Drw G λ a H=>
 ∃ n,(At a ⟨c,0 + 4,none⟩ [.float .f64 n])/\
 ∃ d,(At a ⟨b,0 + 4,none⟩ [.float .f64 d])/\
 ∃ f,(At a ⟨b,0 + 3,none⟩ [.int .i64 f])/\
 ∃ g,(At a ⟨c,0 + 3,none⟩ [.int .i64 g])/\
 ∃ j,(At a ⟨b,0,none⟩ [.int .i64 j])/\
 ∃ k,(At a ⟨c,0,none⟩ [.int .i64 k])/\
 Calls prog 221 #[.float .f64 n,.float .f64 d] H λ u o=>
 ∃ e,(u=.returned (.int .i64 e))/\
 (a o)/\
 Calls prog 222 #[.int .i64 f,.int .i64 g] o λ v p=>
 ∃ i,(v=.returned (.int .i64 i))/\
 (a p)/\
 Calls prog 222 #[.int .i64 j,.int .i64 k] p λ x q=>
 ∃ l,(x=.returned (.int .i64 l))/\
 (a q)/\
 New (.cells #[.int .i64 e,.int .i64 i,.int .i64 l] 3 (0,0)) (λ t r=>
 (a r)/\
 Calls prog 220 #[.slice ((some ⟨t,0,none⟩)) 3 3] r λ y s=>
 ∃ m,(y=.returned (.int .i64 m))/\
 (a s)/\
 K (.int .i64 m) s) q) F) w
theorem Zxf (a:Int) (b:Int) (c:Int) (d:Int) (e:Nat) (f:Int) (g:Int) (i:Int) (j:Int) (k:Nat) (K:Value->World->Prop) (w:World) (h:B170 a b c d e f g i j k K w):Zm prog 170 #[.agg #[.int .i64 a,.int .i64 b,.int .i64 c,.int .i64 d,.float .f64 e],.agg #[.int .i64 f,.int .i64 g,.int .i64 i,.int .i64 j,.float .f64 k]] w K:=cq (sk:=.leaf) func170 (by kernel_rfl) (by kernel_rfl) (by kernel_rfl) h
def B179 (t:Int) (u:Int) (v:Int) (x:Int) (y:Nat) (K:Value->World->Prop) (w:World):Prop:=
 New (.cells #[.int .i64 t,.int .i64 u,.int .i64 v,.int .i64 x,.float .f64 y] 181 (0,0)) (λ b o=>
 ∃ m,(Aw o ⟨b,0,none⟩ [.int .i64 m])/\
 Calls prog 229 #[.int .i64 m,.int .i64 1,.int .i64 28629151] o λ p c=>
 ∃ n,(p=.returned (.bool n))/\
 Br n
 (∃ f,(Aw c ⟨b,0 + 1,none⟩ [.int .i64 f])/\
 Calls prog 229 #[.int .i64 f,.int .i64 0,.int .i64 7] c λ q d=>
 ∃ g,(q=.returned (.bool g))/\
 Br g
 (∃ i,(Aw d ⟨b,0 + 2,none⟩ [.int .i64 i])/\
 Calls prog 229 #[.int .i64 i,.int .i64 1,.int .i64 600] d λ r e=>
 ∃ j,(r=.returned (.bool j))/\
 Br j
 (∃ k,(Aw e ⟨b,0 + 3,none⟩ [.int .i64 k])/\
 Calls prog 229 #[.int .i64 k,.int .i64 0,.int .i64 1099511627776] e λ s z=>
 ∃ l,(s=.returned (.bool l))/\
 K (.bool l) z)
 (K (.bool false) e))
 (K (.bool false) d))
 (K (.bool false) c)) w
theorem Zw7 (a:Int) (b:Int) (c:Int) (d:Int) (e:Nat) (K:Value->World->Prop) (w:World) (h:B179 a b c d e K w):Zm prog 179 #[.agg #[.int .i64 a,.int .i64 b,.int .i64 c,.int .i64 d,.float .f64 e]] w K:=cq (sk:=.leaf) func179 (by kernel_rfl) (by kernel_rfl) (by kernel_rfl) h
def B229 (a:Int) (c:Int) (b:Int) (K:Value->World->Prop) (w:World):Prop:=
 Br (decide (a >= c))
 (K (.bool (decide (a<=b))) w)
 (K (.bool false) w)
theorem Zwy (c:Int) (b:Int) (a:Int) (K:Value->World->Prop) (w:World) (h:B229 c b a K w):Zm prog 229 #[.int .i64 c,.int .i64 b,.int .i64 a] w K:=cq (sk:=.leaf) func229 (by kernel_rfl) (by kernel_rfl) (by kernel_rfl) h
def B180 (j:Option Addr) (i:Int) (K:Value->World->Prop) (w:World):Prop:=
 New (.cells #[.int .i64 i] 3 (0,0)) (λ f d=>
 Zc j λ e=>
 ∃ b:Sl,(Aw d (Addr.add e 0) [b.v])/\
 Calls prog 230 #[b.v,.func (.func 231) #[] #[.pointer ((some ⟨f,0,none⟩))]] d λ g l=>
 ∃ c,(g=.returned (.int .i64 c))/\
 K (.int .i64 c) l) w
theorem Zw6 (b:Option Addr) (a:Int) (K:Value->World->Prop) (w:World) (h:B180 b a K w):Zm prog 180 #[.pointer b,.int .i64 a] w K:=cq (sk:=.leaf) func180 (by kernel_rfl) (by kernel_rfl) (by kernel_rfl) h
def B231 (i:Int) (j:Int) (k:Int) (l:Int) (m:Nat) (g:Option Addr) (K:Value->World->Prop) (w:World):Prop:=
 New (.cells #[.int .i64 i,.int .i64 j,.int .i64 k,.int .i64 l,.float .f64 m] 181 (0,0)) (λ f b=>
 ∃ c,(Aw b ⟨f,0,none⟩ [.int .i64 c])/\
 Zc g λ e=>
 ∃ d,(Aw b e [.int .i64 d])/\
 K (.bool (c==d)) b) w
theorem Zww (b:Int) (c:Int) (d:Int) (e:Int) (f:Nat) (a:Option Addr) (K:Value->World->Prop) (w:World) (h:B231 b c d e f a K w):Zm prog 231 #[.agg #[.int .i64 b,.int .i64 c,.int .i64 d,.int .i64 e,.float .f64 f],.pointer a] w K:=cq (sk:=.leaf) func231 (by kernel_rfl) (by kernel_rfl) (by kernel_rfl) h
def B113 (f:Option Addr) (ai:Int) (aj:Int) (ak:Int) (al:Int) (am:Nat) (K:Value->World->Prop) (w:World):Prop:=
 New (.cells #[.int .i64 ai,.int .i64 aj,.int .i64 ak,.int .i64 al,.float .f64 am] 65 (0,0)) (λ o T=>
 ∃ L M N O Q,(Aw T ⟨o,0,none⟩ [.int .i64 L,.int .i64 M,.int .i64 N,.int .i64 O,.float .f64 Q])/\
 New (.cells #[.int .i64 0,.int .i64 0,.int .i64 0,.int .i64 0,.float .f64 0] 181 (0,0)) (λ i an=>
 ∃ l:World,(St 181 ⟨i,0,none⟩ (.agg #[.int .i64 L,.int .i64 M,.int .i64 N,.int .i64 O,.float .f64 Q]) an l)/\
 ∃ p q r s t,(Aw l ⟨i,0,none⟩ [.int .i64 p,.int .i64 q,.int .i64 r,.int .i64 s,.float .f64 t])/\
 Calls prog 179 #[.agg #[.int .i64 p,.int .i64 q,.int .i64 r,.int .i64 s,.float .f64 t]] l λ ad m=>
 ∃ u,(ad=.returned (.bool u))/\
 Br (!u)
 (K (.int .i64 1) m)
 (∃ v,(Aw m ⟨o,0,none⟩ [.int .i64 v])/\
 Calls prog 180 #[.pointer f,.int .i64 v] m λ ae k=>
 ∃ x,(ae=.returned (.int .i64 x))/\
 Br (decide (x >= 0))
 (K (.int .i64 7) k)
 (Zc f λ Y=>
 ∃ j:Sl,(Aw k (Addr.add Y 0) [j.v])/\
 Br (decide ((↑j.len:Int) >= 200))
 (K (.int .i64 3) k)
 (Drw k λ n ao=>
 Zc f λ Z=>
 ∃ c:Sl,(At n (Addr.add Z 0) [c.v])/\
 ∃ y z A C D,(At n ⟨i,0,none⟩ [.int .i64 y,.int .i64 z,.int .i64 A,.int .i64 C,.float .f64 D])/\
 Calls prog 181 #[c.v,.agg #[.int .i64 y,.int .i64 z,.int .i64 A,.int .i64 C,.float .f64 D],.func (.func 170) #[] #[]] ao λ af ap=>
 ∃ E ah,(af=.returned (.tuple #[.int .i64 E,.bool ah]))/\
 Drw ap λ g aq=>
 Zc f λ aa=>
 ∃ d:Sl,(At g (Addr.add aa 0) [d.v])/\
 ∃ F G H I J,(At g ⟨i,0,none⟩ [.int .i64 F,.int .i64 G,.int .i64 H,.int .i64 I,.float .f64 J])/\
 New (.cells #[.int .i64 F,.int .i64 G,.int .i64 H,.int .i64 I,.float .f64 J] 181 (0,0)) (λ ac X=>
 (g X)/\
 Calls prog 182 #[d.v,.int .i64 E,.slice ((some ⟨ac,0,none⟩)) 1 1] X λ ag U=>
 ∃ e:Sl,(ag=.returned (e.v))/\
 (g U)/\
 Zc f λ ab=>
 ∃ V:World,(St 177 (Addr.add ab 0) (e.v) U V)/\
 K (.int .i64 0) V) aq)))) T) w
theorem ZxR (a:Option Addr) (b:Int) (c:Int) (d:Int) (e:Int) (f:Nat) (K:Value->World->Prop) (w:World) (h:B113 a b c d e f K w):Zm prog 113 #[.pointer a,.agg #[.int .i64 b,.int .i64 c,.int .i64 d,.int .i64 e,.float .f64 f]] w K:=cq (sk:=.leaf) func113 (by kernel_rfl) (by kernel_rfl) (by kernel_rfl) h
def B116 (e:Option Addr) (m:Int) (K:Value->World->Prop) (w:World):Prop:=
 Calls prog 180 #[.pointer e,.int .i64 m] w λ k f=>
 ∃ d,(k=.returned (.int .i64 d))/\
 Br (decide (d<0))
 (K (.int .i64 2) f)
 (Zc e λ i=>
 ∃ b:Sl,(Aw f (Addr.add i 0) [b.v])/\
 Calls prog 185 #[b.v,.int .i64 d,.int .i64 (IntKind.i64.wrap (d + 1))] f λ l o=>
 ∃ c:Sl,(l=.returned (c.v))/\
 Zc e λ j=>
 ∃ g:World,(St 177 (Addr.add j 0) (c.v) o g)/\
 K (.int .i64 0) g)
theorem ZxO (b:Option Addr) (a:Int) (K:Value->World->Prop) (w:World) (h:B116 b a K w):Zm prog 116 #[.pointer b,.int .i64 a] w K:=cq (sk:=.leaf) func116 (by kernel_rfl) (by kernel_rfl) (by kernel_rfl) h
def B59 (C:Option Addr) (K:Value->World->Prop) (w:World):Prop:=
 Zc C λ z=>
 ∃ d:Sl,(Aw w (Addr.add z 0) [d.v])/\
 ∃ (i:Sl->Int->World->Prop) (x:Sl->Int->World->Nat),(i ⟨none,0,0⟩ 0 w)/\∀ (F:Env) (b:Sl) (c:Int) (g:World),i b c g->
 Br (decide (c<(↑d.len:Int)))
 (Rng c d.len (Zc d.a λ y=>
 ∃ m n o p q,(Aw g (Addr.add y (Za6 c.toNat 5)) [.int .i64 m,.int .i64 n,.int .i64 o,.int .i64 p,.float .f64 q])/\
 New (.cells #[.int .i64 0,.int .i64 0,.int .i64 0,.int .i64 0,.float .f64 0] 181 (0,0)) (λ l D=>
 ∃ j:World,(St 181 ⟨l,0,none⟩ (.agg #[.int .i64 m,.int .i64 n,.int .i64 o,.int .i64 p,.float .f64 q]) D j)/\
 ∃ r s t u v,(Aw j ⟨l,0,none⟩ [.int .i64 r,.int .i64 s,.int .i64 t,.int .i64 u,.float .f64 v])/\
 New (.cells #[.int .i64 r,.int .i64 s,.int .i64 t,.int .i64 u,.float .f64 v] 65 (0,0)) (λ A E=>
 ∃ k:World,∃ e:Sl,((Builtin.append_ #[109,109] 109 #[b.v,.slice ((some ⟨A,0,none⟩)) 1 1]).run prog E=.ok (e.v) k)/\
 (i e (IntKind.i64.wrap (c + 1)) k)/\x e (IntKind.i64.wrap (c + 1)) k<x b c g) j) g))
 (K (b.v) g)
def sk59:Sk:=(.seq .leaf (.seq .leaf (.seq (.seq .leaf (.block (.loop [3,11] [.sl,(.int .i64)] [3,5,11,12,13,14,15,16,17,18,19,20] .leaf))) .leaf)))
theorem Zy9 (a:Option Addr) (K:Value->World->Prop) (w:World) (h:B59 a K w):Zm prog 59 #[.pointer a] w K:=cq (sk:=sk59) func59 (by kernel_rfl) (by kernel_rfl) (by kernel_rfl) h
def B183 (Z:Option Addr) (m:Sl) (K:Value->World->Prop) (w:World):Prop:=
 New (.cells #[.int .i64 0,.int .i64 0,.int .i64 0,.int .i64 0,.float .f64 0] 65 (0,0)) (λ k T=>
 Zc Z λ Y=>
 ∃ d:Sl,(Aw T (Addr.add Y 0) [d.v])/\
 ∃ (i:Int->World->Prop) (l:Int->World->Nat),(i 0 T)/\∀ (ab:Env) (b:Int) (e:World),i b e->
 Br (decide (b<(↑d.len:Int)))
 (Rng b d.len (Zc d.a λ V=>
 ∃ q r s t u,(Aw e (Addr.add V (Za6 b.toNat 5)) [.int .i64 q,.int .i64 r,.int .i64 s,.int .i64 t,.float .f64 u])/\
 New (.cells #[.int .i64 0,.int .i64 0,.int .i64 0,.int .i64 0,.float .f64 0] 181 (0,0)) (λ g aa=>
 ∃ U:World,(St 181 ⟨g,0,none⟩ (.agg #[.int .i64 q,.int .i64 r,.int .i64 s,.int .i64 t,.float .f64 u]) aa U)/\
 Drw U λ j f=>
 ∃ v,(At j ⟨g,0 + 1,none⟩ [.int .i64 v])/\
 Br (decide (v<(↑m.len:Int)))
 (∃ x,(At j ⟨g,0 + 2,none⟩ [.int .i64 x])/\
 ∃ n,(At j ⟨g,0 + 1,none⟩ [.int .i64 n])/\
 Rng n m.len (Zc m.a λ X=>
 ∃ y,(At j (Addr.add X n.toNat) [.int .i64 y])/\
 Br (decide (x<=y))
 (∃ z A C D E,(Aw f ⟨g,0,none⟩ [.int .i64 z,.int .i64 A,.int .i64 C,.int .i64 D,.float .f64 E])/\
 ∃ o:World,(St 65 ⟨k,0,none⟩ (.agg #[.int .i64 z,.int .i64 A,.int .i64 C,.int .i64 D,.float .f64 E]) f o)/\
 ∃ F G H I J,(Aw o ⟨k,0,none⟩ [.int .i64 F,.int .i64 G,.int .i64 H,.int .i64 I,.float .f64 J])/\
 K (.tuple #[.agg #[.int .i64 F,.int .i64 G,.int .i64 H,.int .i64 I,.float .f64 J],.bool true]) o)
 ((i (IntKind.i64.wrap (b + 1)) f)/\l (IntKind.i64.wrap (b + 1)) f<l b e)))
 ((i (IntKind.i64.wrap (b + 1)) f)/\l (IntKind.i64.wrap (b + 1)) f<l b e)) e))
 (∃ p:World,(St 65 ⟨k,0,none⟩ (.agg #[.int .i64 0,.int .i64 0,.int .i64 0,.int .i64 0,.float .f64 0]) e p)/\
 ∃ L M N O Q,(Aw p ⟨k,0,none⟩ [.int .i64 L,.int .i64 M,.int .i64 N,.int .i64 O,.float .f64 Q])/\
 K (.tuple #[.agg #[.int .i64 L,.int .i64 M,.int .i64 N,.int .i64 O,.float .f64 Q],.bool false]) p)) w
def ZAg:Sk:=(.seq .leaf (.seq (.seq .leaf (.block (.loop [13] [(.int .i64)] [5,7,13,14,15,16,17,18,19,20,21,22,23,24,25,26,27,28,29,30,31,32,33,34,35,36,37] .leaf))) .leaf))
theorem Zw3 (c:Option Addr) (b:Sl) (K:Value->World->Prop) (w:World) (h:B183 c b K w):Zm prog 183 #[.pointer c,b.v] w K:=cq (sk:=ZAg) func183 (by kernel_rfl) (by kernel_rfl) (by kernel_rfl) h
def B54 (t:Option Addr) (K:Value->World->Prop) (w:World):Prop:=
 Zc t λ U=>
 ∃ o:Sl,(Aw w (Addr.add U 0) [o.v])/\
 Calls prog 120 #[.int .u64 (IntKind.u64.wrap (↑o.len:Int))] w λ X I=>
 ∃ p:Sl,(X=.returned (p.v))/\
 Zc t λ Q=>
 ∃ j:Sl,(Aw I (Addr.add Q 0) [j.v])/\
 ∃ (q:Sl->Int->World->Prop) (N:Sl->Int->World->Nat),(q p 0 I)/\∀ (ad:Env) (g:Sl) (d:Int) (n:World),q g d n->
 Br (decide (d<(↑j.len:Int)))
 (Rng d j.len (Zc j.a λ T=>
 ∃ u v x y z,(Aw n (Addr.add T (Za6 d.toNat 5)) [.int .i64 u,.int .i64 v,.int .i64 x,.int .i64 y,.float .f64 z])/\
 New (.cells #[.int .i64 0,.int .i64 0,.int .i64 0,.int .i64 0,.float .f64 0] 181 (0,0)) (λ i aa=>
 ∃ J:World,(St 181 ⟨i,0,none⟩ (.agg #[.int .i64 u,.int .i64 v,.int .i64 x,.int .i64 y,.float .f64 z]) aa J)/\
 Drw J λ b ab=>
 ∃ A,(At b ⟨i,0,none⟩ [.int .i64 A])/\
 ∃ C,(At b ⟨i,0 + 1,none⟩ [.int .i64 C])/\
 ∃ D,(At b ⟨i,0 + 2,none⟩ [.int .i64 D])/\
 ∃ E,(At b ⟨i,0 + 3,none⟩ [.int .i64 E])/\
 ∃ F,(At b ⟨i,0 + 4,none⟩ [.float .f64 F])/\
 Calls prog 127 #[.float .f64 F] ab λ Y L=>
 ∃ G,(Y=.returned (.int .u64 G))/\
 (b L)/\
 New (.cells #[.int .u64 (IntKind.u64.wrap A),.int .u64 (IntKind.u64.wrap C),.int .u64 (IntKind.u64.wrap D),.int .u64 (IntKind.u64.wrap E),.int .u64 G] 134 (0,0)) (λ V M=>
 (b M)/\
 ∃ (r:Sl->Int->World->Prop) (O:Sl->Int->World->Nat),(r g 0 M)/\∀ (ae:Env) (c:Sl) (e:Int) (l:World),r c e l->
 Br (decide (e<(↑5:Int)))
 (Rng e 5 (∃ H,(Aw l (Addr.add ⟨V,0,none⟩ e.toNat) [.int .u64 H])/\
 Calls prog 120 #[.int .u64 H] l λ Z ac=>
 ∃ k:Sl,(Z=.returned (k.v))/\
 ∃ s:World,∃ m:Sl,((Builtin.append_ #[42,42] 42 #[c.v,k.v]).run prog ac=.ok (m.v) s)/\
 (r m (IntKind.i64.wrap (e + 1)) s)/\O m (IntKind.i64.wrap (e + 1)) s<O c e l))
 ((q c (IntKind.i64.wrap (d + 1)) l)/\N c (IntKind.i64.wrap (d + 1)) l<N g d n)) L) n))
 (K (g.v) n)
def sk54:Sk:=(.seq .leaf (.seq .leaf (.seq (.seq .leaf (.block (.loop [3,20] [.sl,(.int .i64)] [3,5,7,20,21,22,23,24,25,26,27,28,29,30,31,32,33,34,35,36,37,38,39,40,41,42,43,44,45,46,47,48,49,50,51,52,53,54,55] (.seq .leaf (.seq .leaf (.seq (.block (.seq .leaf (.seq .leaf (.block (.loop [3,46] [.sl,(.int .i64)] [3,7,46,47,48,49,50,51,52,53,54] .leaf))))) .leaf)))))) .leaf)))
theorem Zzd (a:Option Addr) (K:Value->World->Prop) (w:World) (h:B54 a K w):Zm prog 54 #[.pointer a] w K:=cq (sk:=sk54) func54 (by kernel_rfl) (by kernel_rfl) (by kernel_rfl) h
def B103 (r:Sl) (K:Value->World->Prop) (w:World):Prop:=
 Calls prog 76 #[r.v] w λ ao a3=>
 ∃ u,(ao=.returned (.pointer u))/\
 New (.cells #[.pointer none] 123 (0,0)) (λ c a8=>
 ∃ ak:World,(St 123 ⟨c,0,none⟩ (.pointer u) a8 ak)/\
 Calls prog 111 #[] ak λ ap a9=>
 ∃ e,(ap=.returned (.pointer e))/\
 Calls prog 169 #[.int .i64 200,.pointer ((some ⟨c,0,none⟩))] a9 λ av ba=>
 ∃ v,(av=.returned (.int .i64 v))/\
 ∃ (l:Int->World->Prop) (p:Int->World->Nat),(l 0 ba)/\∀ (be:Env) (d:Int) (i:World),l d i->
 Br (decide (d<v))
 (Calls prog 169 #[.int .i64 28629151,.pointer ((some ⟨c,0,none⟩))] i λ aw bb=>
 ∃ x,(aw=.returned (.int .i64 x))/\
 Calls prog 169 #[.int .i64 7,.pointer ((some ⟨c,0,none⟩))] bb λ ax bc=>
 ∃ y,(ax=.returned (.int .i64 y))/\
 Calls prog 169 #[.int .i64 600,.pointer ((some ⟨c,0,none⟩))] bc λ ay bd=>
 ∃ z,(ay=.returned (.int .i64 z))/\
 Calls prog 169 #[.int .i64 1099511627776,.pointer ((some ⟨c,0,none⟩))] bd λ az a4=>
 ∃ A,(az=.returned (.int .i64 A))/\
 New (.cells #[.int .i64 0,.int .i64 0,.int .i64 0,.int .i64 0,.float .f64 0] 65 (0,0)) (λ j a5=>
 ∃ s:World,(St 65 ⟨j,0,none⟩ (.agg #[.int .i64 x,.int .i64 y,.int .i64 z,.int .i64 A,.float .f64 0]) a5 s)/\
 ∃ C,(Aw s ⟨c,0,none⟩ [.pointer C])/\
 Calls prog 147 #[.pointer C,.int .u64 18446744073709551615] s λ a0 a6=>
 ∃ D,(a0=.returned (.int .u64 D))/\
 Calls prog 150 #[.int .u64 D] a6 λ a1 a7=>
 ∃ E,(a1=.returned (.float .f64 E))/\
 ∃ t:World,(St 33 ⟨j,0 + 4,none⟩ (.float .f64 E) a7 t)/\
 Zc e λ al=>
 ∃ f:Sl,(Aw t (Addr.add al 0) [f.v])/\
 Drw t λ q g=>
 Br (decide ((↑f.len:Int)>0))
 (Zc e λ am=>
 ∃ k:Sl,(Aw g (Addr.add am 0) [k.v])/\
 Rng (IntKind.i64.wrap ((↑f.len:Int) - 1)) k.len (Zc k.a λ an=>
 ∃ F G H I J,(Aw g (Addr.add an (Za6 (IntKind.i64.wrap ((↑f.len:Int) - 1)).toNat 5)) [.int .i64 F,.int .i64 G,.int .i64 H,.int .i64 I,.float .f64 J])/\
 ∃ L M N O Q,(Aw g ⟨j,0,none⟩ [.int .i64 L,.int .i64 M,.int .i64 N,.int .i64 O,.float .f64 Q])/\
 Calls prog 170 #[.agg #[.int .i64 F,.int .i64 G,.int .i64 H,.int .i64 I,.float .f64 J],.agg #[.int .i64 L,.int .i64 M,.int .i64 N,.int .i64 O,.float .f64 Q]] g λ a2 m=>
 ∃ T,(a2=.returned (.int .i64 T))/\
 (q m)/\
 Br (decide (T>0))
 (K (.tuple #[.pointer none,.int .i64 6]) m)
 (∃ U V X Y Z,(Aw m ⟨j,0,none⟩ [.int .i64 U,.int .i64 V,.int .i64 X,.int .i64 Y,.float .f64 Z])/\
 Calls prog 113 #[.pointer e,.agg #[.int .i64 U,.int .i64 V,.int .i64 X,.int .i64 Y,.float .f64 Z]] m λ aq n=>
 ∃ af,(aq=.returned (.int .i64 af))/\
 (q n)/\
 Br (af !=0)
 (K (.tuple #[.pointer none,.int .i64 6]) n)
 ((l (IntKind.i64.wrap (d + 1)) n)/\p (IntKind.i64.wrap (d + 1)) n<p d i))))
 (∃ aa ab ac ad ae,(Aw g ⟨j,0,none⟩ [.int .i64 aa,.int .i64 ab,.int .i64 ac,.int .i64 ad,.float .f64 ae])/\
 Calls prog 113 #[.pointer e,.agg #[.int .i64 aa,.int .i64 ab,.int .i64 ac,.int .i64 ad,.float .f64 ae]] g λ ar o=>
 ∃ ag,(ar=.returned (.int .i64 ag))/\
 (q o)/\
 Br (ag !=0)
 (K (.tuple #[.pointer none,.int .i64 6]) o)
 ((l (IntKind.i64.wrap (d + 1)) o)/\p (IntKind.i64.wrap (d + 1)) o<p d i))) a4)
 (∃ ah,(Aw i ⟨c,0,none⟩ [.pointer ah])/\
 Calls prog 83 #[.pointer ah] i λ au aj=>
 ∃ ai,(au=.returned (.bool ai))/\
 Br (!ai)
 (K (.tuple #[.pointer none,.int .i64 6]) aj)
 (K (.tuple #[.pointer e,.int .i64 0]) aj))) a3
def ZAC:Sk:=(.seq .leaf (.seq .leaf (.seq .leaf (.seq .leaf (.seq (.seq .leaf (.block (.loop [15] [(.int .i64)] [2,3,7,8,15,16,17,18,19,20,21,22,23,24,25,26,27,28,29,30,31,32,33,34,35,36,37,38,39,40,41,42,43,44,45,46,47,48,49,50,51,52,53,54,55,56,57] (.seq .leaf (.seq .leaf (.seq (.block (.seq .leaf (.seq .leaf (.seq .leaf (.seq (.block .leaf) .leaf))))) .leaf)))))) .leaf)))))
theorem Zx0 (b:Sl) (K:Value->World->Prop) (w:World) (h:B103 b K w):Zm prog 103 #[b.v] w K:=cq (sk:=ZAC) func103 (by kernel_rfl) (by kernel_rfl) (by kernel_rfl) h
def B169 (f:Int) (d:Option Addr) (K:Value->World->Prop) (w:World):Prop:=
 Zc d λ c=>
 ∃ a,(Aw w c [.pointer a])/\
 Calls prog 147 #[.pointer a,.int .u64 (IntKind.u64.wrap f)] w λ e i=>
 ∃ b,(e=.returned (.int .u64 b))/\
 K (.int .i64 (IntKind.i64.wrap b)) i
theorem Zxg (b:Int) (a:Option Addr) (K:Value->World->Prop) (w:World) (h:B169 b a K w):Zm prog 169 #[.int .i64 b,.pointer a] w K:=cq (sk:=.leaf) func169 (by kernel_rfl) (by kernel_rfl) (by kernel_rfl) h
def B230 (e:Sl) (q:Value) (K:Value->World->Prop) (w:World):Prop:=
 ∃ (d:Int->World->Prop) (n:Int->World->Nat),(d 0 w)/\∀ (s:Env) (b:Int) (c:World),d b c->
 Br (decide (b<(↑e.len:Int)))
 (Rng b e.len (Zc e.a λ o=>
 ∃ g i j k l,(Aw c (Addr.add o (Za6 b.toNat 5)) [.int .i64 g,.int .i64 i,.int .i64 j,.int .i64 k,.float .f64 l])/\
 ZaK prog cl q [.agg #[.int .i64 g,.int .i64 i,.int .i64 j,.int .i64 k,.float .f64 l]] c λ p f=>
 ∃ m,(p=.returned (.bool m))/\
 Br m
 (K (.int .i64 b) f)
 ((d (IntKind.i64.wrap (b + 1)) f)/\n (IntKind.i64.wrap (b + 1)) f<n b c)))
 (K (.int .i64 ((-1))) c)
def Zz2:Sk:=(.seq .leaf (.seq (.seq .leaf (.block (.loop [8] [(.int .i64)] [4,5,8,9,10,11,12,13,14,15,16,17,18] .leaf))) .leaf))
theorem Zwx (b:Sl) (c:Value) (K:Value->World->Prop) (w:World) (h:B230 b c K w):Zm prog 230 #[b.v,c] w K:=cq (sk:=Zz2) func230 (by kernel_rfl) (by kernel_rfl) (by kernel_rfl) h
def B181 (d:Sl) (U:Int) (V:Int) (X:Int) (Y:Int) (Z:Nat) (m:Value) (K:Value->World->Prop) (w:World):Prop:=
 New (.cells #[.int .i64 U,.int .i64 V,.int .i64 X,.int .i64 Y,.float .f64 Z] 181 (0,0)) (λ l aa=>
 ∃ (f:Int->Int->World->Prop) (i:Int->Int->World->Nat),(f 0 ((↑d.len:Int)) aa)/\∀ (ad:Env) (b:Int) (c:Int) (e:World),f b c e->
 Br (decide (b<c))
 (Drw e λ j ab=>
 Rng (IntKind.i64.wrap (Zf8 IntKind.u64 (IntKind.u64.wrap (IntKind.i64.wrap (b + c))) 1)) d.len (Zc d.a λ N=>
 ∃ n o p q r,(At j (Addr.add N (Za6 (IntKind.i64.wrap (Zf8 IntKind.u64 (IntKind.u64.wrap (IntKind.i64.wrap (b + c))) 1)).toNat 5)) [.int .i64 n,.int .i64 o,.int .i64 p,.int .i64 q,.float .f64 r])/\
 ∃ s t u v x,(At j ⟨l,0,none⟩ [.int .i64 s,.int .i64 t,.int .i64 u,.int .i64 v,.float .f64 x])/\
 ZaK prog cl m [.agg #[.int .i64 n,.int .i64 o,.int .i64 p,.int .i64 q,.float .f64 r],.agg #[.int .i64 s,.int .i64 t,.int .i64 u,.int .i64 v,.float .f64 x]] ab λ Q g=>
 ∃ y,(Q=.returned (.int .i64 y))/\
 Br (decide (y<0))
 ((f (IntKind.i64.wrap (IntKind.i64.wrap (Zf8 IntKind.u64 (IntKind.u64.wrap (IntKind.i64.wrap (b + c))) 1) + 1)) c g)/\i (IntKind.i64.wrap (IntKind.i64.wrap (Zf8 IntKind.u64 (IntKind.u64.wrap (IntKind.i64.wrap (b + c))) 1) + 1)) c g<i b c e)
 ((f b (IntKind.i64.wrap (Zf8 IntKind.u64 (IntKind.u64.wrap (IntKind.i64.wrap (b + c))) 1)) g)/\i b (IntKind.i64.wrap (Zf8 IntKind.u64 (IntKind.u64.wrap (IntKind.i64.wrap (b + c))) 1)) g<i b c e)))
 (Drw e λ k M=>
 Br (decide (b<(↑d.len:Int)))
 (Rng b d.len (Zc d.a λ O=>
 ∃ z A C D E,(At k (Addr.add O (Za6 b.toNat 5)) [.int .i64 z,.int .i64 A,.int .i64 C,.int .i64 D,.float .f64 E])/\
 ∃ F G H I J,(At k ⟨l,0,none⟩ [.int .i64 F,.int .i64 G,.int .i64 H,.int .i64 I,.float .f64 J])/\
 ZaK prog cl m [.agg #[.int .i64 z,.int .i64 A,.int .i64 C,.int .i64 D,.float .f64 E],.agg #[.int .i64 F,.int .i64 G,.int .i64 H,.int .i64 I,.float .f64 J]] M λ T ac=>
 ∃ L,(T=.returned (.int .i64 L))/\
 K (.tuple #[.int .i64 b,.bool (L==0)]) ac))
 (K (.tuple #[.int .i64 b,.bool false]) M))) w
def ZAh:Sk:=(.seq .leaf (.seq .leaf (.seq .leaf (.seq (.block (.loop [9,10] [(.int .i64),(.int .i64)] [9,10,11,15,16,17,18,19,20,21,22,23,24,25,26,27,28,29,30,31,32,33,34] .leaf)) .leaf))))
theorem Zw5 (b:Sl) (d:Int) (e:Int) (f:Int) (g:Int) (i:Nat) (c:Value) (K:Value->World->Prop) (w:World) (h:B181 b d e f g i c K w):Zm prog 181 #[b.v,.agg #[.int .i64 d,.int .i64 e,.int .i64 f,.int .i64 g,.float .f64 i],c] w K:=cq (sk:=ZAh) func181 (by kernel_rfl) (by kernel_rfl) (by kernel_rfl) h
def B182 (b:Sl) (d:Int) (c:Sl) (K:Value->World->Prop) (w:World):Prop:=
 ((0:Int)<=d)/\
 ((d:Int)<=(↑b.len:Int))/\
 Br ((↑c.len:Int)==0)
 (K (b.v) w)
 (Br (d==(↑b.len:Int))
 (∃ i:World,∃ f:Sl,((Builtin.append_ #[177,177] 177 #[b.v,c.v]).run prog w=.ok (f.v) i)/\
 K (f.v) i)
 (Br (decide (IntKind.i64.wrap ((↑b.len:Int) + (↑c.len:Int))>(↑b.cap:Int)))
 (((0:Int)<=d)/\
 ((d:Int)<=(↑b.cap:Int))/\
 ∃ k:World,∃ e:Sl,((Builtin.append_ #[177,3] 177 #[.slice b.a d.toNat b.cap,.int .i64 (IntKind.i64.wrap (IntKind.i64.wrap ((↑b.len:Int) + (↑c.len:Int)) - d))]).run prog w=.ok (e.v) k)/\
 ((0:Int)<=d)/\
 ((d:Int)<=(↑e.len:Int))/\
 ∃ l:World,∃ s:Int,((Builtin.copy_ #[177,177] 3 #[.slice (Zb1 e.a d.toNat e.cap 5) (e.len - d.toNat) (e.cap - d.toNat),c.v]).run prog k=.ok (.int .i64 s) l)/\
 Drw l λ C z=>
 ((0:Int)<=IntKind.i64.wrap (d + (↑c.len:Int)))/\
 ((IntKind.i64.wrap (d + (↑c.len:Int)):Int)<=(↑e.len:Int))/\
 ((0:Int)<=d)/\
 ((d:Int)<=(↑b.len:Int))/\
 ∃ m:World,∃ t:Int,((Builtin.copy_ #[177,177] 3 #[.slice (Zb1 e.a (IntKind.i64.wrap (d + (↑c.len:Int))).toNat e.cap 5) (e.len - (IntKind.i64.wrap (d + (↑c.len:Int))).toNat) (e.cap - (IntKind.i64.wrap (d + (↑c.len:Int))).toNat),.slice (Zb1 b.a d.toNat b.cap 5) (b.len - d.toNat) (b.cap - d.toNat)]).run prog z=.ok (.int .i64 t) m)/\
 K (e.v) m)
 (((0:Int)<=IntKind.i64.wrap ((↑b.len:Int) + (↑c.len:Int)))/\
 ((IntKind.i64.wrap ((↑b.len:Int) + (↑c.len:Int)):Int)<=(↑b.cap:Int))/\
 ((0:Int)<=IntKind.i64.wrap (d + (↑c.len:Int)))/\
 ((IntKind.i64.wrap (d + (↑c.len:Int)):Int)<=(↑(IntKind.i64.wrap ((↑b.len:Int) + (↑c.len:Int))).toNat:Int))/\
 Ext prog 232 #[c.v,.slice (Zb1 b.a (IntKind.i64.wrap (d + (↑c.len:Int))).toNat b.cap 5) ((IntKind.i64.wrap ((↑b.len:Int) + (↑c.len:Int))).toNat - (IntKind.i64.wrap (d + (↑c.len:Int))).toNat) (b.cap - (IntKind.i64.wrap (d + (↑c.len:Int))).toNat)] w λ q n=>
 ∃ g,(q=.returned (.bool g))/\
 Br (!g)
 (Drw n λ D A=>
 ((0:Int)<=IntKind.i64.wrap (d + (↑c.len:Int)))/\
 ((IntKind.i64.wrap (d + (↑c.len:Int)):Int)<=(↑(IntKind.i64.wrap ((↑b.len:Int) + (↑c.len:Int))).toNat:Int))/\
 ((0:Int)<=d)/\
 ((d:Int)<=(↑(IntKind.i64.wrap ((↑b.len:Int) + (↑c.len:Int))).toNat:Int))/\
 ∃ o:World,∃ u:Int,((Builtin.copy_ #[177,177] 3 #[.slice (Zb1 b.a (IntKind.i64.wrap (d + (↑c.len:Int))).toNat b.cap 5) ((IntKind.i64.wrap ((↑b.len:Int) + (↑c.len:Int))).toNat - (IntKind.i64.wrap (d + (↑c.len:Int))).toNat) (b.cap - (IntKind.i64.wrap (d + (↑c.len:Int))).toNat),.slice (Zb1 b.a d.toNat b.cap 5) ((IntKind.i64.wrap ((↑b.len:Int) + (↑c.len:Int))).toNat - d.toNat) (b.cap - d.toNat)]).run prog A=.ok (.int .i64 u) o)/\
 ((0:Int)<=d)/\
 ((d:Int)<=(↑(IntKind.i64.wrap ((↑b.len:Int) + (↑c.len:Int))).toNat:Int))/\
 ∃ p:World,∃ v:Int,((Builtin.copy_ #[177,177] 3 #[.slice (Zb1 b.a d.toNat b.cap 5) ((IntKind.i64.wrap ((↑b.len:Int) + (↑c.len:Int))).toNat - d.toNat) (b.cap - d.toNat),c.v]).run prog o=.ok (.int .i64 v) p)/\
 K (.slice b.a ((IntKind.i64.wrap ((↑b.len:Int) + (↑c.len:Int))).toNat) b.cap) p)
 (((0:Int)<=(↑b.len:Int))/\
 (((↑b.len:Int):Int)<=(↑(IntKind.i64.wrap ((↑b.len:Int) + (↑c.len:Int))).toNat:Int))/\
 ∃ j:World,∃ x:Int,((Builtin.copy_ #[177,177] 3 #[.slice (Zb1 b.a (↑b.len:Int).toNat b.cap 5) ((IntKind.i64.wrap ((↑b.len:Int) + (↑c.len:Int))).toNat - (↑b.len:Int).toNat) (b.cap - (↑b.len:Int).toNat),c.v]).run prog n=.ok (.int .i64 x) j)/\
 ((0:Int)<=d)/\
 ((d:Int)<=(↑(IntKind.i64.wrap ((↑b.len:Int) + (↑c.len:Int))).toNat:Int))/\
 Calls prog 233 #[.slice (Zb1 b.a d.toNat b.cap 5) ((IntKind.i64.wrap ((↑b.len:Int) + (↑c.len:Int))).toNat - d.toNat) (b.cap - d.toNat),.int .i64 ((↑c.len:Int))] j λ r y=>
 (r=.returned (.tuple #[]))/\
 K (.slice b.a ((IntKind.i64.wrap ((↑b.len:Int) + (↑c.len:Int))).toNat) b.cap) y))))
theorem Zw4 (b:Sl) (d:Int) (c:Sl) (K:Value->World->Prop) (w:World) (h:B182 b d c K w):Zm prog 182 #[b.v,.int .i64 d,c.v] w K:=cq (sk:=.leaf) func182 (by kernel_rfl) (by kernel_rfl) (by kernel_rfl) h
def B185 (b:Sl) (e:Int) (d:Int) (K:Value->World->Prop) (w:World):Prop:=
 ((0:Int)<=(↑b.len:Int))/\
 (((↑b.len:Int):Int)<=(↑b.cap:Int))/\
 ((0:Int)<=d)/\
 ((d:Int)<=(↑(↑b.len:Int).toNat:Int))/\
 ((0:Int)<=e)/\
 ((e:Int)<=(↑d.toNat:Int))/\
 Br (e==d)
 (K (b.v) w)
 (Drw w λ j i=>
 ((0:Int)<=e)/\
 ((e:Int)<=(↑b.cap:Int))/\
 ((0:Int)<=d)/\
 ((d:Int)<=(↑b.len:Int))/\
 ∃ f:World,∃ c:Sl,((Builtin.append_ #[177,177] 177 #[.slice b.a e.toNat b.cap,.slice (Zb1 b.a d.toNat b.cap 5) (b.len - d.toNat) (b.cap - d.toNat)]).run prog i=.ok (c.v) f)/\
 ((0:Int)<=(↑b.len:Int))/\
 (((↑b.len:Int):Int)<=(↑c.cap:Int))/\
 ((0:Int)<=(↑c.len:Int))/\
 (((↑c.len:Int):Int)<=(↑(↑b.len:Int).toNat:Int))/\
 ∃ g:World,((Builtin.clear_ #[177] 0 #[.slice (Zb1 c.a (↑c.len:Int).toNat c.cap 5) ((↑b.len:Int).toNat - (↑c.len:Int).toNat) (c.cap - (↑c.len:Int).toNat)]).run prog f=.ok (.tuple #[]) g)/\
 K (c.v) g)
theorem Zw1 (b:Sl) (c:Int) (d:Int) (K:Value->World->Prop) (w:World) (h:B185 b c d K w):Zm prog 185 #[b.v,.int .i64 c,.int .i64 d] w K:=cq (sk:=.leaf) func185 (by kernel_rfl) (by kernel_rfl) (by kernel_rfl) h
def B173 (b:Sl) (e:Value) (K:Value->World->Prop) (w:World):Prop:=
 Calls prog 224 #[b.v,e] w λ d f=>
 ∃ c,(d=.returned (.int .i64 c))/\
 K (.bool (decide (c >= 0))) f
theorem Zxd (b:Sl) (c:Value) (K:Value->World->Prop) (w:World) (h:B173 b c K w):Zm prog 173 #[b.v,c] w K:=cq (sk:=.leaf) func173 (by kernel_rfl) (by kernel_rfl) (by kernel_rfl) h
def B224 (e:Sl) (q:Value) (K:Value->World->Prop) (w:World):Prop:=
 ∃ (d:Int->World->Prop) (n:Int->World->Nat),(d 0 w)/\∀ (s:Env) (b:Int) (c:World),d b c->
 Br (decide (b<(↑e.len:Int)))
 (Rng b e.len (Zc e.a λ o=>
 ∃ g i j k l,(Aw c (Addr.add o (Za6 b.toNat 5)) [.int .i64 g,.int .i64 i,.int .i64 j,.int .i64 k,.float .f64 l])/\
 ZaK prog cl q [.agg #[.int .i64 g,.int .i64 i,.int .i64 j,.int .i64 k,.float .f64 l]] c λ p f=>
 ∃ m,(p=.returned (.bool m))/\
 Br m
 (K (.int .i64 b) f)
 ((d (IntKind.i64.wrap (b + 1)) f)/\n (IntKind.i64.wrap (b + 1)) f<n b c)))
 (K (.int .i64 ((-1))) c)
def Zz5:Sk:=(.seq .leaf (.seq (.seq .leaf (.block (.loop [8] [(.int .i64)] [4,5,8,9,10,11,12,13,14,15,16,17,18] .leaf))) .leaf))
theorem ZwD (b:Sl) (c:Value) (K:Value->World->Prop) (w:World) (h:B224 b c K w):Zm prog 224 #[b.v,c] w K:=cq (sk:=Zz5) func224 (by kernel_rfl) (by kernel_rfl) (by kernel_rfl) h
def B175 (b:Sl) (e:Value) (K:Value->World->Prop) (w:World):Prop:=
 Calls prog 225 #[b.v,e] w λ d f=>
 ∃ c,(d=.returned (.int .i64 c))/\
 K (.bool (decide (c >= 0))) f
theorem Zxb (b:Sl) (c:Value) (K:Value->World->Prop) (w:World) (h:B175 b c K w):Zm prog 175 #[b.v,c] w K:=cq (sk:=.leaf) func175 (by kernel_rfl) (by kernel_rfl) (by kernel_rfl) h
def B225 (f:Sl) (p:Value) (K:Value->World->Prop) (w:World):Prop:=
 ∃ (e:Int->World->Prop) (m:Int->World->Nat),(e 0 w)/\∀ (r:Env) (b:Int) (d:World),e b d->
 Br (decide (b<(↑f.len:Int)))
 (Rng b f.len (Zc f.a λ n=>
 ∃ i j k,∃ c:Sl,(Aw d (Addr.add n (Za6 b.toNat 4)) [.int .i64 i,.int .i64 j,.int .i64 k,c.v])/\
 ZaK prog cl p [.agg #[.int .i64 i,.int .i64 j,.int .i64 k,c.v]] d λ o g=>
 ∃ l,(o=.returned (.bool l))/\
 Br l
 (K (.int .i64 b) g)
 ((e (IntKind.i64.wrap (b + 1)) g)/\m (IntKind.i64.wrap (b + 1)) g<m b d)))
 (K (.int .i64 ((-1))) d)
def Zz4:Sk:=(.seq .leaf (.seq (.seq .leaf (.block (.loop [8] [(.int .i64)] [4,5,8,9,10,11,12,13,14,15,16,17,18] .leaf))) .leaf))
theorem ZwC (b:Sl) (c:Value) (K:Value->World->Prop) (w:World) (h:B225 b c K w):Zm prog 225 #[b.v,c] w K:=cq (sk:=Zz4) func225 (by kernel_rfl) (by kernel_rfl) (by kernel_rfl) h
def B191  (K:Value->World->Prop) (w:World):Prop:=
 New (.cells #[.int .i64 0] 3 (0,0)) (λ a e=>
 New (.cells #[.int .i64 0] 3 (0,0)) (λ b f=>
 ∃ c:World,(St 3 ⟨a,0,none⟩ (.int .i64 0) f c)/\
 ∃ d:World,(St 3 ⟨b,0,none⟩ (.int .i64 2) c d)/\
 K (.func (.func 241) #[] #[.pointer ((some ⟨a,0,none⟩)),.pointer ((some ⟨b,0,none⟩))]) d) e) w
theorem ZwW  (K:Value->World->Prop) (w:World) (h:B191  K w):Zm prog 191 #[] w K:=cq (sk:=.leaf) func191 (by kernel_rfl) (by kernel_rfl) (by kernel_rfl) h
def B241 (o:Int) (b:Option Addr) (c:Option Addr) (K:Value->World->Prop) (w:World):Prop:=
 Zc b λ m=>
 ∃ i,(Aw w m [.int .i64 i])/\
 Zc c λ n=>
 ∃ j,(Aw w n [.int .i64 j])/\
 ∃ d:World,((Instr.storeAt 3 (.pointer b) (.int .i64 ((IntKind.i64.wrap (i + IntKind.i64.wrap (j * o))).tmod 31))).run prog w=.ok () d)/\
 Zc c λ k=>
 ∃ f,(Aw d k [.int .i64 f])/\
 ∃ e:World,((Instr.storeAt 3 (.pointer c) (.int .i64 (IntKind.i64.wrap (f + 1)))).run prog d=.ok () e)/\
 Zc b λ l=>
 ∃ g,(Aw e l [.int .i64 g])/\
 K (.int .i64 g) e
theorem Zwp (c:Int) (a:Option Addr) (b:Option Addr) (K:Value->World->Prop) (w:World) (h:B241 c a b K w):Zm prog 241 #[.int .i64 c,.pointer a,.pointer b] w K:=cq (sk:=.leaf) func241 (by kernel_rfl) (by kernel_rfl) (by kernel_rfl) h
def B129 (m:Int) (K:Value->World->Prop) (w:World):Prop:=
 ∃ (r:World->Prop),(Br (decide (m<0))
 (K (.tuple #[.string (ByteArray.mk #[]),.int .i64 1]) w)
 (Br (decide (m >= 28629151))
 (K (.tuple #[.string (ByteArray.mk #[]),.int .i64 1]) w)
 (r  w)))/\
 ∀ (L:Env)  (z:World),r  z->
 New (.cells #[.int .u8 0,.int .u8 0,.int .u8 0,.int .u8 0,.int .u8 0,.int .u8 0] 234 (0,0)) (λ l I=>
 New (.cells #[.int .i64 0,.int .i64 0,.int .i64 0,.int .i64 0,.int .i64 0] 235 (0,0)) (λ s J=>
 ∃ (j:Int->Int->World->Prop) (E:Int->Int->World->Nat),(j m 4 J)/\∀ (M:Env) (d:Int) (b:Int) (g:World),j d b g->
 Br (decide (b >= 0))
 (Rng b 5 (∃ q:World,(St 3 (Addr.add ⟨s,0,none⟩ b.toNat) (.int .i64 (d.tmod 31)) g q)/\
 (j (IntKind.i64.wrap (d.tdiv 31)) (IntKind.i64.wrap (b - 1)) q)/\E (IntKind.i64.wrap (d.tdiv 31)) (IntKind.i64.wrap (b - 1)) q<E d b g))
 (Calls prog 191 #[] g λ G A=>
 ∃ t:Value,(G=.returned (t))/\
 ∃ n:List Value,(n.length=5)/\
 (Aw A ⟨s,0,none⟩ n)/\
 ∃ (k:Int->Int->World->Prop) (F:Int->Int->World->Nat),(k 0 0 A)/\∀ (N:Env) (e:Int) (a:Int) (i:World),k e a i->
 Br (decide (a<5))
 (Rng a 5 (∃ f:Int,(n.toArray[a.toNat]? =some (Value.int IntKind.i64 f))/\
 ∃ u:UInt8,((0:Int)<=f)/\
 ((ByteArray.mk #[65,66,67,68,69,70,71,72,74,75,76,77,78,80,81,82,84,85,86,87,88,89,90,50,51,52,53,54,55,56,57])[f.toNat]? =some u)/\
 Rng a 6 (∃ C:World,(St 5 (Addr.add ⟨l,0,none⟩ a.toNat) (.int .u8 ((↑u.toNat:Int))) i C)/\
 ZaK prog cl t [.int .i64 f] C λ H D=>
 ∃ o,(H=.returned (.int .i64 o))/\
 (k o (IntKind.i64.wrap (a + 1)) D)/\F o (IntKind.i64.wrap (a + 1)) D<F e a i)))
 (∃ v:UInt8,((0:Int)<=(IntKind.i64.wrap (31 - e)).tmod 31)/\
 ((ByteArray.mk #[65,66,67,68,69,70,71,72,74,75,76,77,78,80,81,82,84,85,86,87,88,89,90,50,51,52,53,54,55,56,57])[((IntKind.i64.wrap (31 - e)).tmod 31).toNat]? =some v)/\
 ∃ p:World,(St 5 (Addr.add ⟨l,0,none⟩ 5) (.int .u8 ((↑v.toNat:Int))) i p)/\
 ∃ x:Addr,(some (Addr.mk l 0 none)=some x)/\
 ∃ y:ByteArray,(∀ c,(λ c=>c=p) c->((convert 42 9 (.slice ((some (x))) 6 6))).run prog c=.ok (.string y) c)/\
 K (.tuple #[.string y,.int .i64 0]) p))) I) z
def ZAt:Sk:=(.seq .leaf (.cut [] [] [2,3,11,12,13,14,15,16] .leaf (.seq .leaf (.seq .leaf (.seq (.seq .leaf (.block (.loop [0,6] [(.int .i64),(.int .i64)] [0,6,17,18,19,20,21,22,23,24,25,26] .leaf))) (.seq .leaf (.seq (.seq .leaf (.block (.loop [8,29] [(.int .i64),(.int .i64)] [8,9,10,29,30,31,32,33,34,35,36,37,38,39,40] .leaf))) .leaf)))))))
theorem ZxF (a:Int) (K:Value->World->Prop) (w:World) (h:B129 a K w):Zm prog 129 #[.int .i64 a] w K:=cq (sk:=ZAt) func129 (by kernel_rfl) (by kernel_rfl) (by kernel_rfl) h
def B119 (l:ByteArray) (K:Value->World->Prop) (w:World):Prop:=
 Br ((↑l.size:Int) !=6)
 (K (.tuple #[.int .i64 0,.int .i64 6]) w)
 (Calls prog 191 #[] w λ r v=>
 ∃ m:Value,(r=.returned (m))/\
 New (.stringIter l 0) (λ q x=>
 ∃ (e:Int->Int->World->Prop) (g:Int->Int->World->Nat),(e 0 0 x)/\∀ (A:Env) (a:Int) (b:Int) (f:World),e a b f->
 Zuc ((some ⟨q,0,none⟩)) (λ u k y=>
 Calls prog 192 #[.string (ByteArray.mk #[65,66,67,68,69,70,71,72,74,75,76,77,78,80,81,82,84,85,86,87,88,89,90,50,51,52,53,54,55,56,57]),.int .u8 (IntKind.u8.wrap k)] y λ s o=>
 ∃ c,(s=.returned (.int .i64 c))/\
 ∃ (i:Bool->World->Prop),(Br (decide (c<0))
 (i true o)
 (i (decide (k>90)) o))/\
 ∀ (C:Env) (n:Bool) (d:World),i n d->
 Br n
 (K (.tuple #[.int .i64 0,.int .i64 6]) d)
 (Br (decide (u<5))
 (ZaK prog cl m [.int .i64 c] d λ t p=>
 ∃ j,(t=.returned (.int .i64 j))/\
 (e (IntKind.i64.wrap (IntKind.i64.wrap (a * 31) + c)) j p)/\g (IntKind.i64.wrap (IntKind.i64.wrap (a * 31) + c)) j p<g a b f)
 (Br ((IntKind.i64.wrap (b + c)).tmod 31 !=0)
 (K (.tuple #[.int .i64 0,.int .i64 6]) d)
 ((e a b d)/\g a b d<g a b f))))
 (λ z=>
 K (.tuple #[.int .i64 a,.int .i64 0]) z) f) v)
def ZAw:Sk:=(.seq .leaf (.seq .leaf (.seq .leaf (.seq (.seq .leaf (.block (.loop [5,6] [(.int .i64),(.int .i64)] [2,3,5,6,7,8,9,16,17,18,19,20,21,22,23,24,25,26,27,28,29,30,31,32,33,34,35,36,37,38,39,40,41,42,43,44,45] (.seq .leaf (.seq .leaf (.block (.seq .leaf (.seq .leaf (.block (.cut [23] [.bool] [23,24,25,26,27,28,29] .leaf .leaf)))))))))) .leaf))))
theorem ZxL (a:ByteArray) (K:Value->World->Prop) (w:World) (h:B119 a K w):Zm prog 119 #[.string a] w K:=cq (sk:=ZAw) func119 (by kernel_rfl) (by kernel_rfl) (by kernel_rfl) h
def B192 (d:ByteArray) (b:Int) (K:Value->World->Prop) (w:World):Prop:=
 Calls prog 242 #[.string d,.int .u8 b] w λ c e=>
 ∃ a,(c=.returned (.int .i64 a))/\
 K (.int .i64 a) e
theorem ZwV (b:ByteArray) (a:Int) (K:Value->World->Prop) (w:World) (h:B192 b a K w):Zm prog 192 #[.string b,.int .u8 a] w K:=cq (sk:=.leaf) func192 (by kernel_rfl) (by kernel_rfl) (by kernel_rfl) h
def B242 (d:ByteArray) (b:Int) (K:Value->World->Prop) (w:World):Prop:=
 Ext prog 267 #[.string d,.int .u8 b] w λ c e=>
 ∃ a,(c=.returned (.int .i64 a))/\
 K (.int .i64 a) e
theorem Zwo (b:ByteArray) (a:Int) (K:Value->World->Prop) (w:World) (h:B242 b a K w):Zm prog 242 #[.string b,.int .u8 a] w K:=cq (sk:=.leaf) func242 (by kernel_rfl) (by kernel_rfl) (by kernel_rfl) h
end
section
open Go Go.VC Tryz
set_option maxRecDepth 10000
def B40 (c:Bool) (b:Int) (a:List PanicEntry->World->Prop) (K:Value->World->Prop) (w:World):Prop:=
 Br (!c)
 (a [⟨.iface 27 (.int .i64 b),false,false⟩] w)
 (K (.tuple #[]) w)
theorem Zzm (c:Bool) (b:Int) (a:List PanicEntry->World->Prop) (K:Value->World->Prop) (w:World) (h:B40 c b a K w):ZaX prog 40 #[.bool c,.int .i64 b] w a K:=cqx (sk:=.leaf) func40 (by kernel_rfl) (by kernel_rfl) (by kernel_rfl) h
def B110 (a:Int) (b:List PanicEntry->World->Prop) (K:Value->World->Prop) (w:World):Prop:=
 Br (a !=0)
 (b [⟨.iface 27 (.int .i64 a),false,false⟩] w)
 (K (.tuple #[]) w)
theorem ZxU (b:Int) (a:List PanicEntry->World->Prop) (K:Value->World->Prop) (w:World) (h:B110 b a K w):ZaX prog 110 #[.int .i64 b] w a K:=cqx (sk:=.leaf) func110 (by kernel_rfl) (by kernel_rfl) (by kernel_rfl) h
def B39 (g:Option Addr) (b:Value) (K:World->Prop) (w:World):Prop:=
 ∃ c:Bool,(∀ a,(λ a=>a=w) a->((do eqGuard BinOp.neq 20 (Operand.tmp 4) (Operand.const Value.nilIface) b .nilIface;binOp BinOp.neq 20 b .nilIface:Sem Value)).run prog a=.ok (.bool c) a)/\
 Br c
 (∃ d:Int,(∀ a,(λ a=>a=w) a->((Instr.typeAssert b 20 27 false)).run prog a=.ok (.int .i64 d) a)/\
 Zc g λ f=>
 ∃ e:World,(St 31 (f) (.agg #[.int .i64 d,.string (ByteArray.mk #[]),.int .i64 0,.int .i64 0,.int .i64 0,.int .i64 0,.int .i64 0,.slice none 0 0,.slice none 0 0]) w e)/\
 K e)
 (K w)
theorem Zwa (b:Option Addr) (a:Value) (K:World->Prop) (w:World) (h:B39 b a K w):CallsD prog 39 #[.pointer b] (.panicking [⟨a,false,false⟩]) w λ c d e=>(∃ f,c=.returned f)/\d=.panicking [⟨a,true,false⟩]/\K e:=
 Zg2 (sk:=.leaf) Zka mixed func39 (by kernel_rfl) (Nat.le_of_ble_eq_true (by kernel_rfl)) (cast (by kernel_rfl) h)
theorem Zv8 (a:Option Addr) (K:World->Prop) (w:World) (h:B39 a .nilIface K w):CallsD prog 39 #[.pointer a] .returning w λ b c d=>(∃ e,b=.returned e)/\c=.returning/\K d:=
 ZfA (sk:=.leaf) Zka mixed func39 (by kernel_rfl) (Nat.le_of_ble_eq_true (by kernel_rfl)) (cast (by kernel_rfl) h)
def B41 (Q:Int) (T:ByteArray) (U:Int) (V:Int) (X:Int) (Y:Int) (Z:Nat) (aa:ByteArray) (ab:Int) (r:Sl) (q:Sl) (K:Value->World->Prop) (w:World):Prop:=
 New (.cells #[.int .i64 Q,.string T,.int .i64 U,.int .i64 V,.int .i64 X,.int .i64 Y,.float .f64 Z,.string aa,.int .i64 ab,r.v,q.v] 38 (0,0)) (λ c j=>
 ∃ H,(Aw j ⟨c,0 + 2,none⟩ [.int .i64 H])/\
 ∃ u,(Aw j ⟨c,0 + 3,none⟩ [.int .i64 u])/\
 ∃ v,(Aw j ⟨c,0 + 4,none⟩ [.int .i64 v])/\
 ∃ x,(Aw j ⟨c,0 + 8,none⟩ [.int .i64 x])/\
 New (.cells #[.int .i64 H,.int .i64 u,.int .i64 v,.int .i64 x] 3 (0,0)) (λ O J=>
 ∃ g:Sl,(Aw J ⟨c,0 + 8 + 1,none⟩ [g.v])/\
 ∃ L:World,∃ i:Sl,((Builtin.append_ #[28,28] 28 #[.slice ((some ⟨O,0,none⟩)) 4 4,g.v]).run prog J=.ok (i.v) L)/\
 ∃ (n:Int->World->Prop) (M:Int->World->Nat),(n 0 L)/\∀ (ad:Env) (f:Int) (e:World),n f e->
 Br (decide (f<(↑i.len:Int)))
 (Rng f i.len (Zc i.a λ N=>
 ∃ y,(Aw e (Addr.add N f.toNat) [.int .i64 y])/\
 Calls prog 108 #[.int .i64 y] e λ ac s=>
 ∃ z,(ac=.returned (.bool z))/\
 Br z
 (K (.bool false) s)
 ((n (IntKind.i64.wrap (f + 1)) s)/\M (IntKind.i64.wrap (f + 1)) s<M f e)))
 (∃ (o:Bool->World->Prop),(∃ A,(Aw e ⟨c,0 + 1,none⟩ [.string A])/\
 Br (decide ((↑A.size:Int)<=16))
 (∃ C,(Aw e ⟨c,0 + 7,none⟩ [.string C])/\
 o (decide ((↑C.size:Int)<=16)) e)
 (o false e))/\
 ∀ (ae:Env) (I:Bool) (k:World),o I k->
 ∃ (p:Bool->World->Prop),(∃ l:Sl,(Aw k ⟨c,0 + 8 + 1,none⟩ [l.v])/\
 Br (decide ((↑l.len:Int)<=16))
 (∃ m:Sl,(Aw k ⟨c,0 + 10,none⟩ [m.v])/\
 p (decide ((↑m.len:Int)<=16)) k)
 (p false k))/\
 ∀ (af:Env) (t:Bool) (d:World),p t d->
 Br I
 (Br t
 (∃ D,(Aw d ⟨c,0,none⟩ [.int .i64 D])/\
 Br (decide (D >= 1))
 (∃ E,(Aw d ⟨c,0,none⟩ [.int .i64 E])/\
 Br (decide (E<=9))
 (∃ F,(Aw d ⟨c,0 + 5,none⟩ [.int .i64 F])/\
 Br (decide (F >= 0))
 (∃ G,(Aw d ⟨c,0 + 5,none⟩ [.int .i64 G])/\
 K (.bool (decide (G<=1099511627776))) d)
 (K (.bool false) d))
 (K (.bool false) d))
 (K (.bool false) d))
 (K (.bool false) d))
 (K (.bool false) d))) j) w
def sk41:Sk:=(.seq .leaf (.seq .leaf (.seq (.seq .leaf (.block (.loop [23] [(.int .i64)] [2,5,23,24,25,26,27,28,29,30] .leaf))) (.cut [6] [.bool] [6,31,32,33,34,35,36,37,38,39,40] .leaf (.cut [7] [.bool] [7,41,42,43,44,45,46,47,48,49,50,51] .leaf .leaf)))))
theorem Zzl (d:Int) (e:ByteArray) (f:Int) (g:Int) (i:Int) (j:Int) (k:Nat) (l:ByteArray) (m:Int) (c:Sl) (b:Sl) (K:Value->World->Prop) (w:World) (h:B41 d e f g i j k l m c b K w):Zm prog 41 #[.agg #[.int .i64 d,.string e,.int .i64 f,.int .i64 g,.int .i64 i,.int .i64 j,.float .f64 k,.string l,.int .i64 m,c.v,b.v]] w K:=cq (sk:=sk41) func41 (by kernel_rfl) (by kernel_rfl) (by kernel_rfl) h
def B108 (a:Int) (K:Value->World->Prop) (w:World):Prop:=
 Br (decide (a<0))
 (K (.bool true) w)
 (K (.bool (decide (a>9999))) w)
theorem ZxW (a:Int) (K:Value->World->Prop) (w:World) (h:B108 a K w):Zm prog 108 #[.int .i64 a] w K:=cq (sk:=.leaf) func108 (by kernel_rfl) (by kernel_rfl) (by kernel_rfl) h
def B14  (K:Value->World->Prop) (w:World):Prop:=
 New (.map #[] 0) (λ a d=>
 New (.map #[] 0) (λ b e=>
 New (.cells #[.int .i64 0,.int .i64 1,.map ((some a)),.map ((some b))] 80 (0,0)) (λ c f=>
 K (.pointer ((some ⟨c,0,none⟩))) f) e) d) w
theorem Zzu  (K:Value->World->Prop) (w:World) (h:B14  K w):Zm prog 14 #[] w K:=cq (sk:=.leaf) func14 (by kernel_rfl) (by kernel_rfl) (by kernel_rfl) h
def B49 (m:Option Addr) (i:Sl) (K:Value->World->Prop) (w:World):Prop:=
 ∃ (g:Int->World->Prop) (p:Int->World->Nat),(g 0 w)/\∀ (x:Env) (b:Int) (f:World),g b f->
 Br (decide (b<(↑i.len:Int)))
 (Rng b i.len (Zc i.a λ q=>
 ∃ j,(Aw f (Addr.add q b.toNat) [.int .i64 j])/\
 Drw f λ l v=>
 Zc m λ r=>
 ∃ c:Sl,(At l (Addr.add r 0) [c.v])/\
 Calls prog 120 #[.int .u64 (IntKind.u64.wrap (if 0>j then 0 else j))] v λ t n=>
 ∃ d:Sl,(t=.returned (d.v))/\
 (l n)/\
 ∃ o:World,∃ e:Sl,((Builtin.append_ #[42,42] 42 #[c.v,d.v]).run prog n=.ok (e.v) o)/\
 Zc m λ s=>
 ∃ k:World,(St 42 (Addr.add s 0) (e.v) o k)/\
 (g (IntKind.i64.wrap (b + 1)) k)/\p (IntKind.i64.wrap (b + 1)) k<p b f))
 (K (.tuple #[]) f)
def sk49:Sk:=(.seq .leaf (.block (.loop [8] [(.int .i64)] [5,8,9,10,11,12,13,14,15,16,17,18,19,20,21,22,23,24] .leaf)))
theorem Zzg (c:Option Addr) (b:Sl) (K:Value->World->Prop) (w:World) (h:B49 c b K w):Zm prog 49 #[.pointer c,b.v] w K:=cq (sk:=sk49) func49 (by kernel_rfl) (by kernel_rfl) (by kernel_rfl) h
def B52 (g:Option Addr) (e:Sl) (K:Value->World->Prop) (w:World):Prop:=
 Drw w λ f o=>
 Zc g λ m=>
 ∃ d:Sl,(At f (Addr.add m 0) [d.v])/\
 Calls prog 124 #[e.v] o λ n i=>
 ∃ b:Sl,(n=.returned (b.v))/\
 (f i)/\
 ∃ j:World,∃ c:Sl,((Builtin.append_ #[42,42] 42 #[d.v,b.v]).run prog i=.ok (c.v) j)/\
 Zc g λ l=>
 ∃ k:World,(St 42 (Addr.add l 0) (c.v) j k)/\
 K (.tuple #[]) k
theorem Zzf (c:Option Addr) (b:Sl) (K:Value->World->Prop) (w:World) (h:B52 c b K w):Zm prog 52 #[.pointer c,b.v] w K:=cq (sk:=.leaf) func52 (by kernel_rfl) (by kernel_rfl) (by kernel_rfl) h
def B78 (g:Option Addr) (f:Int) (K:Value->World->Prop) (w:World):Prop:=
 New (.cells #[.pointer g] 126 (0,0)) (λ d c=>
 ∃ a,(Aw c ⟨d,0,none⟩ [.pointer a])/\
 Calls prog 147 #[.pointer a,.int .u64 (IntKind.u64.wrap f)] c λ e j=>
 ∃ b,(e=.returned (.int .u64 b))/\
 K (.int .i64 (IntKind.i64.wrap b)) j) w
theorem Zy5 (b:Option Addr) (a:Int) (K:Value->World->Prop) (w:World) (h:B78 b a K w):Zm prog 78 #[.agg #[.pointer b],.int .i64 a] w K:=cq (sk:=.leaf) func78 (by kernel_rfl) (by kernel_rfl) (by kernel_rfl) h
def B46 (s:Option Addr) (t:ByteArray) (c:List PanicEntry->World->Prop) (K:Value->World->Prop) (w:World):Prop:=
 Calls prog 119 #[.string t] w λ i q=>
 (∃ l m,(i=.returned (.tuple #[.int .i64 l,.int .i64 m]))/\
 Calls prog 110 #[.int .i64 m] q λ j b=>
 ((j=.returned (.tuple #[]))/\
 Zc s λ d=>
 ∃ n:Option Nat,(Aw b ⟨d.block,d.off + 3,none⟩ [.map n])/\
 ∃ o:Option Addr,∃ p:Bool,(∀ a,(λ a=>a=b) a->((Instr.lookup 78 (.map n) (.int .i64 l) true)).run prog a=.ok (.tuple #[.pointer o,.bool p]) a)/\
 Calls prog 40 #[.bool p,.int .i64 2] b λ k r=>
 ((k=.returned (.tuple #[]))/\
 K (.pointer o) r)\/
 (∃ g:List PanicEntry,(k=.panicked g)/\c g r))\/
 (∃ f:List PanicEntry,(j=.panicked f)/\c f b))\/
 (∃ e:List PanicEntry,(i=.panicked e)/\c e q)
theorem Zzh (b:Option Addr) (c:ByteArray) (a:List PanicEntry->World->Prop) (K:Value->World->Prop) (w:World) (h:B46 b c a K w):ZaX prog 46 #[.pointer b,.string c] w a K:=cqx (sk:=.leaf) func46 (by kernel_rfl) (by kernel_rfl) (by kernel_rfl) h
def B57 (u:Option Addr) (v:Int) (t:List PanicEntry->World->Prop) (K:Value->World->Prop) (w:World):Prop:=
 New (.cells #[.pointer none,.pointer none] 102 (0,0)) (λ g b=>
 Zc u λ e=>
 ∃ k:Option Nat,(Aw b ⟨e.block,e.off + 2,none⟩ [.map k])/\
 ∃ l m:Option Addr,∃ n:Bool,(∀ a,(λ a=>a=b) a->((Instr.lookup 77 (.map k) (.int .i64 v) true)).run prog a=.ok (.tuple #[.agg #[.pointer l,.pointer m],.bool n]) a)/\
 New (.cells #[.pointer none,.pointer none] 102 (0,0)) (λ f x=>
 ∃ s:World,(St 102 ⟨f,0,none⟩ (.agg #[.pointer l,.pointer m]) x s)/\
 Calls prog 40 #[.bool n,.int .i64 2] s λ j c=>
 ((j=.returned (.tuple #[]))/\
 ∃ o p,(Aw c ⟨f,0,none⟩ [.pointer o,.pointer p])/\
 ∃ d:World,(St 102 ⟨g,0,none⟩ (.agg #[.pointer o,.pointer p]) c d)/\
 ∃ q r,(Aw d ⟨g,0,none⟩ [.pointer q,.pointer r])/\
 K (.agg #[.pointer q,.pointer r]) d)\/
 (∃ i:List PanicEntry,(j=.panicked i)/\t i c)) b) w
theorem Zzb (b:Option Addr) (c:Int) (a:List PanicEntry->World->Prop) (K:Value->World->Prop) (w:World) (h:B57 b c a K w):ZaX prog 57 #[.pointer b,.int .i64 c] w a K:=cqx (sk:=.leaf) func57 (by kernel_rfl) (by kernel_rfl) (by kernel_rfl) h
def B114 (E:Option Addr) (b2:Int) (K:Value->World->Prop) (w:World):Prop:=
 Zc E λ D=>
 ∃ J:Option Nat,(Aw w ⟨D.block,D.off + 2,none⟩ [.map J])/\
 ∃ L M:Option Addr,(∀ b,(λ b=>b=w) b->((Instr.lookup 77 (.map J) (.int .i64 b2) false)).run prog b=.ok (.agg #[.pointer L,.pointer M]) b)/\
 New (.cells #[.pointer none,.pointer none] 102 (0,0)) (λ f b5=>
 ∃ bd:World,(St 102 ⟨f,0,none⟩ (.agg #[.pointer L,.pointer M]) b5 bd)/\
 ∃ (l:Option Addr->Bool->World->Prop),(Drw bd λ c bh=>
 ∃ o,(At c ⟨f,0 + 1,none⟩ [.pointer o])/\
 ∃ s,(At c ⟨f,0,none⟩ [.pointer s])/\
 (Calls prog 58 #[.pointer s] bh λ bs x=>
 ∃ d:Sl,(bs=.returned (d.v))/\
 (c x)/\
 (Calls prog 183 #[.pointer o,d.v] x λ bt bi=>
 ∃ N O ab ac ad ae,(bt=.returned (.tuple #[.agg #[.int .i64 N,.int .i64 O,.int .i64 ab,.int .i64 ac,.float .f64 ad],.bool ae]))/\
 (c bi)/\
 New (.cells #[.int .i64 0,.int .i64 0,.int .i64 0,.int .i64 0,.float .f64 0] 65 (0,0)) (λ F bj=>
 (c bj)/\
 ∃ bk:World,(St 65 ⟨F,0,none⟩ (.agg #[.int .i64 N,.int .i64 O,.int .i64 ab,.int .i64 ac,.float .f64 ad]) bj bk)/\
 l ((some ⟨F,0,none⟩)) ae bk) bi)/\
 New (.cells #[.int .i64 0,.int .i64 0,.int .i64 0,.int .i64 0,.float .f64 0] 65 (0,0)) (λ G bl=>
 (c bl)/\
 Calls prog 183 #[.pointer o,d.v] bl λ bu bm=>
 ∃ af ag ah ai Q T,(bu=.returned (.tuple #[.agg #[.int .i64 af,.int .i64 ag,.int .i64 ah,.int .i64 ai,.float .f64 Q],.bool T]))/\
 (c bm)/\
 ∃ a7:World,(St 65 ⟨G,0,none⟩ (.agg #[.int .i64 af,.int .i64 ag,.int .i64 ah,.int .i64 ai,.float .f64 Q]) bm a7)/\
 l ((some ⟨G,0,none⟩)) T a7) x)/\
 New (.cells #[.int .i64 0,.int .i64 0,.int .i64 0,.int .i64 0,.float .f64 0] 65 (0,0)) (λ H a8=>
 (c a8)/\
 Calls prog 58 #[.pointer s] a8 λ bv a9=>
 ∃ g:Sl,(bv=.returned (g.v))/\
 (c a9)/\
 Calls prog 183 #[.pointer o,g.v] a9 λ bw ba=>
 ∃ U V X Y Z aa,(bw=.returned (.tuple #[.agg #[.int .i64 U,.int .i64 V,.int .i64 X,.int .i64 Y,.float .f64 Z],.bool aa]))/\
 (c ba)/\
 ∃ bb:World,(St 65 ⟨H,0,none⟩ (.agg #[.int .i64 U,.int .i64 V,.int .i64 X,.int .i64 Y,.float .f64 Z]) ba bb)/\
 l ((some ⟨H,0,none⟩)) aa bb) bh)/\
 ∀ (ca:Env) (a6:Option Addr) (I:Bool) (bc:World),l a6 I bc->
 ∃ (p:Option Addr->Bool->World->Prop) (bn:Option Addr->Bool->World->Nat),(p a6 I bc)/\∀ (cb:Env) (e:Option Addr) (r:Bool) (j:World),p e r j->
 Br r
 (∃ aq,(Aw j ⟨f,0 + 1,none⟩ [.pointer aq])/\
 Zc e λ bo=>
 ∃ ar,(Aw j (Addr.add bo 0) [.int .i64 ar])/\
 Calls prog 116 #[.pointer aq,.int .i64 ar] j λ bx k=>
 ∃ b3,(bx=.returned (.int .i64 b3))/\
 ∃ au,(Aw k ⟨f,0,none⟩ [.pointer au])/\
 Zc e λ bp=>
 ∃ av,(Aw k (Addr.add bp 0) [.int .i64 av])/\
 Zc e λ y=>
 ∃ aw,(Aw k ⟨y.block,y.off + 1,none⟩ [.int .i64 aw])/\
 Zc e λ z=>
 ∃ ax,(Aw k ⟨z.block,z.off + 2,none⟩ [.int .i64 ax])/\
 Calls prog 112 #[.pointer au,.int .i64 av,.int .i64 aw,.int .i64 ax] k λ bz b6=>
 ∃ b4,(bz=.returned (.int .i64 b4))/\
 Drw b6 λ q b7=>
 Zc E λ A=>
 ∃ ay:Option Nat,(At q ⟨A.block,A.off + 3,none⟩ [.map ay])/\
 Zc e λ bq=>
 ∃ az,(At q (Addr.add bq 0) [.int .i64 az])/\
 ∃ a0:Option Addr,(∀ b,q b->((Instr.lookup 78 (.map ay) (.int .i64 az) false)).run prog b=.ok (.pointer a0) b)/\
 Zc a0 λ C=>
 ∃ u:World,(St 3 ⟨C.block,C.off + 4,none⟩ (.int .i64 2) b7 u)/\
 Zc e λ br=>
 ∃ a1 a2 a3 a4 a5,(Aw u br [.int .i64 a1,.int .i64 a2,.int .i64 a3,.int .i64 a4,.float .f64 a5])/\
 New (.cells #[.int .i64 0,.int .i64 0,.int .i64 0,.int .i64 0,.float .f64 0] 65 (0,0)) (λ n b8=>
 ∃ be:World,(St 65 ⟨n,0,none⟩ (.agg #[.int .i64 a1,.int .i64 a2,.int .i64 a3,.int .i64 a4,.float .f64 a5]) b8 be)/\
 Drw be λ m b9=>
 ∃ aj,(At m ⟨f,0 + 1,none⟩ [.pointer aj])/\
 ∃ ak,(At m ⟨f,0,none⟩ [.pointer ak])/\
 Calls prog 58 #[.pointer ak] b9 λ b0 bf=>
 ∃ i:Sl,(b0=.returned (i.v))/\
 (m bf)/\
 Calls prog 183 #[.pointer aj,i.v] bf λ b1 bg=>
 ∃ al am an ao ap t,(b1=.returned (.tuple #[.agg #[.int .i64 al,.int .i64 am,.int .i64 an,.int .i64 ao,.float .f64 ap],.bool t]))/\
 (m bg)/\
 ∃ v:World,(St 65 ⟨n,0,none⟩ (.agg #[.int .i64 al,.int .i64 am,.int .i64 an,.int .i64 ao,.float .f64 ap]) bg v)/\
 (p ((some ⟨n,0,none⟩)) t v)/\bn ((some ⟨n,0,none⟩)) t v<bn e r j) u)
 (K (.tuple #[]) j)) w
def ZAz:Sk:=(.seq .leaf (.cut [5,6] [.ptr,.bool] [5,6,13,14,15,16,17,18,19,20,21] .leaf (.block (.loop [5,6] [.ptr,.bool] [5,6,22,23,24,25,26,27,28,29,30,31,32,33,34,35,36,37,38,39,40,41,42,43,44,45,46,47,48,49,50,51,52,53,54,55] .leaf))))
theorem ZxQ (a:Option Addr) (b:Int) (K:Value->World->Prop) (w:World) (h:B114 a b K w):Zm prog 114 #[.pointer a,.int .i64 b] w K:=cq (sk:=ZAz) func114 (by kernel_rfl) (by kernel_rfl) (by kernel_rfl) h
def B56 (ac:Option Addr) (c:Option Addr) (K:Value->World->Prop) (w:World):Prop:=
 New (.cells #[.int .i64 0,.string (ByteArray.mk #[]),.int .i64 0,.int .i64 0,.int .i64 0,.int .i64 0,.int .i64 0,.slice none 0 0,.slice none 0 0] 31 (0,0)) (λ u ah=>
 Drw ah λ j ai=>
 Zc ac λ t=>
 ∃ v:Option Nat,(At j ⟨t.block,t.off + 2,none⟩ [.map v])/\
 Zc c λ n=>
 ∃ x,(At j ⟨n.block,n.off + 1,none⟩ [.int .i64 x])/\
 ∃ y z:Option Addr,(∀ d,j d->((Instr.lookup 77 (.map v) (.int .i64 x) false)).run prog d=.ok (.agg #[.pointer y,.pointer z]) d)/\
 New (.cells #[.pointer none,.pointer none] 102 (0,0)) (λ k X=>
 (j X)/\
 ∃ l:World,(St 102 ⟨k,0,none⟩ (.agg #[.pointer y,.pointer z]) X l)/\
 Zc c λ aa=>
 ∃ A,(Aw l (Addr.add aa 0) [.int .i64 A])/\
 Calls prog 129 #[.int .i64 A] l λ ad aj=>
 ∃ C ag,(ad=.returned (.tuple #[.string C,.int .i64 ag]))/\
 Drw aj λ b ak=>
 Zc c λ o=>
 ∃ D,(At b ⟨o.block,o.off + 4,none⟩ [.int .i64 D])/\
 Zc c λ p=>
 ∃ E,(At b ⟨p.block,p.off + 1,none⟩ [.int .i64 E])/\
 Zc c λ q=>
 ∃ F,(At b ⟨q.block,q.off + 2,none⟩ [.int .i64 F])/\
 Zc c λ r=>
 ∃ G,(At b ⟨r.block,r.off + 3,none⟩ [.int .i64 G])/\
 Zc c λ s=>
 ∃ H,(At b ⟨s.block,s.off + 5,none⟩ [.int .i64 H])/\
 ∃ I,(At b ⟨k,0,none⟩ [.pointer I])/\
 ∃ J,(At b ⟨k,0,none⟩ [.pointer J])/\
 Zc c λ ab=>
 ∃ L,(At b (Addr.add ab 0) [.int .i64 L])/\
 Calls prog 58 #[.pointer I] ak λ ae Y=>
 ∃ e:Sl,(ae=.returned (e.v))/\
 (b Y)/\
 Calls prog 130 #[.pointer J,.int .i64 L] Y λ af Z=>
 ∃ f:Sl,(af=.returned (f.v))/\
 (b Z)/\
 ∃ m:World,(St 31 ⟨u,0,none⟩ (.agg #[.int .i64 0,.string C,.int .i64 D,.int .i64 E,.int .i64 F,.int .i64 G,.int .i64 H,e.v,f.v]) Z m)/\
 ∃ M N O Q T U V,∃ g i:Sl,(Aw m ⟨u,0,none⟩ [.int .i64 M,.string N,.int .i64 O,.int .i64 Q,.int .i64 T,.int .i64 U,.int .i64 V,g.v,i.v])/\
 K (.agg #[.int .i64 M,.string N,.int .i64 O,.int .i64 Q,.int .i64 T,.int .i64 U,.int .i64 V,g.v,i.v]) m) ai) w
theorem Zzc (a:Option Addr) (b:Option Addr) (K:Value->World->Prop) (w:World) (h:B56 a b K w):Zm prog 56 #[.pointer a,.pointer b] w K:=cq (sk:=.leaf) func56 (by kernel_rfl) (by kernel_rfl) (by kernel_rfl) h
def B42 (o:Option Addr) (aw:Int) (ax:ByteArray) (ay:Int) (az:Int) (a0:Int) (a1:Int) (a2:Nat) (a3:ByteArray) (a4:Int) (q:Sl) (p:Sl) (c:List PanicEntry->World->Prop) (K:Value->World->Prop) (w:World):Prop:=
 New (.cells #[.int .i64 aw,.string ax,.int .i64 ay,.int .i64 az,.int .i64 a0,.int .i64 a1,.float .f64 a2,.string a3,.int .i64 a4,q.v,p.v] 38 (0,0)) (λ d a5=>
 New (.cells #[.int .i64 0,.string (ByteArray.mk #[]),.int .i64 0,.int .i64 0,.int .i64 0,.int .i64 0,.int .i64 0,.slice none 0 0,.slice none 0 0] 31 (0,0)) (λ A a8=>
 Drw a8 λ l a9=>
 Zc o λ x=>
 ∃ Q:Option Nat,(At l ⟨x.block,x.off + 2,none⟩ [.map Q])/\
 ∃ T,(At l ⟨d,0 + 2,none⟩ [.int .i64 T])/\
 ∃ U V:Option Addr,∃ X:Bool,(∀ b,l b->((Instr.lookup 77 (.map Q) (.int .i64 T) true)).run prog b=.ok (.tuple #[.agg #[.pointer U,.pointer V],.bool X]) b)/\
 New (.cells #[.pointer none,.pointer none] 102 (0,0)) (λ av ap=>
 (l ap)/\
 ∃ aq:World,(St 102 ⟨av,0,none⟩ (.agg #[.pointer U,.pointer V]) ap aq)/\
 Calls prog 40 #[.bool (!X),.int .i64 7] aq λ I m=>
 ((I=.returned (.tuple #[]))/\
 Zc o λ y=>
 ∃ Y:Option Nat,(Aw m ⟨y.block,y.off + 2,none⟩ [.map Y])/\
 ∃ Z:Int,(∀ b,(λ b=>b=m) b->((Builtin.len_ #[77] 3 #[.map Y])).run prog b=.ok (.int .i64 Z) b)/\
 Calls prog 40 #[.bool (decide (Z<8)),.int .i64 3] m λ J k=>
 ((J=.returned (.tuple #[]))/\
 ∃ aa,(Aw k ⟨d,0 + 2,none⟩ [.int .i64 aa])/\
 ∃ ab,∃ e:Sl,(Aw k ⟨d,0 + 8,none⟩ [.int .i64 ab,e.v])/\
 ∃ f:Sl,(Aw k ⟨d,0 + 10,none⟩ [f.v])/\
 Calls prog 109 #[.int .i64 aa,.agg #[.int .i64 ab,e.v],f.v] k λ L ar=>
 (∃ r ac,(L=.returned (.tuple #[.pointer r,.int .i64 ac]))/\
 Calls prog 110 #[.int .i64 ac] ar λ M au=>
 ((M=.returned (.tuple #[]))/\
 Drw au λ n a6=>
 Zc o λ z=>
 ∃ ad:Option Nat,(At n ⟨z.block,z.off + 2,none⟩ [.map ad])/\
 ∃ ae,(At n ⟨d,0 + 2,none⟩ [.int .i64 ae])/\
 Calls prog 111 #[] a6 λ N s=>
 (∃ af,(N=.returned (.pointer af))/\
 (n s)/\
 ∃ ao:World,((Instr.mapUpdate 77 (.map ad) (.int .i64 ae) (.agg #[.pointer r,.pointer af])).run prog s=.ok () ao)/\
 Drw ao λ v a7=>
 ∃ ag,(At v ⟨d,0 + 2,none⟩ [.int .i64 ag])/\
 Calls prog 58 #[.pointer r] a7 λ O t=>
 (∃ g:Sl,(O=.returned (g.v))/\
 (v t)/\
 ∃ u:World,(St 31 ⟨A,0,none⟩ (.agg #[.int .i64 0,.string (ByteArray.mk #[]),.int .i64 0,.int .i64 ag,.int .i64 0,.int .i64 0,.int .i64 0,g.v,.slice none 0 0]) t u)/\
 ∃ ah ai aj ak al am an,∃ i j:Sl,(Aw u ⟨A,0,none⟩ [.int .i64 ah,.string ai,.int .i64 aj,.int .i64 ak,.int .i64 al,.int .i64 am,.int .i64 an,i.v,j.v])/\
 K (.agg #[.int .i64 ah,.string ai,.int .i64 aj,.int .i64 ak,.int .i64 al,.int .i64 am,.int .i64 an,i.v,j.v]) u)\/
 (∃ H:List PanicEntry,(O=.panicked H)/\c H t))\/
 (∃ G:List PanicEntry,(N=.panicked G)/\c G s))\/
 (∃ F:List PanicEntry,(M=.panicked F)/\c F au))\/
 (∃ E:List PanicEntry,(L=.panicked E)/\c E ar))\/
 (∃ D:List PanicEntry,(J=.panicked D)/\c D k))\/
 (∃ C:List PanicEntry,(I=.panicked C)/\c C m)) a9) a5) w
theorem Zzk (e:Option Addr) (f:Int) (g:ByteArray) (i:Int) (j:Int) (k:Int) (l:Int) (m:Nat) (n:ByteArray) (o:Int) (c:Sl) (b:Sl) (d:List PanicEntry->World->Prop) (K:Value->World->Prop) (w:World) (h:B42 e f g i j k l m n o c b d K w):ZaX prog 42 #[.pointer e,.agg #[.int .i64 f,.string g,.int .i64 i,.int .i64 j,.int .i64 k,.int .i64 l,.float .f64 m,.string n,.int .i64 o,c.v,b.v]] w d K:=cqx (sk:=.leaf) func42 (by kernel_rfl) (by kernel_rfl) (by kernel_rfl) h
def B43 (d:Option Addr) (da:Int) (db:ByteArray) (dc:Int) (dd:Int) (de:Int) (df:Int) (dg:Nat) (dh:ByteArray) (di:Int) (H:Sl) (G:Sl) (c:List PanicEntry->World->Prop) (K:Value->World->Prop) (w:World):Prop:=
 New (.cells #[.int .i64 da,.string db,.int .i64 dc,.int .i64 dd,.int .i64 de,.int .i64 df,.float .f64 dg,.string dh,.int .i64 di,H.v,G.v] 38 (0,0)) (λ e dj=>
 New (.cells #[.int .i64 0,.string (ByteArray.mk #[]),.int .i64 0,.int .i64 0,.int .i64 0,.int .i64 0,.int .i64 0,.slice none 0 0,.slice none 0 0] 31 (0,0)) (λ x c0=>
 ∃ cf,(Aw c0 ⟨e,0 + 2,none⟩ [.int .i64 cf])/\
 Calls prog 57 #[.pointer d,.int .i64 cf] c0 λ aq c4=>
 (∃ a5 ba,(aq=.returned (.agg #[.pointer a5,.pointer ba]))/\
 New (.cells #[.pointer none,.pointer none] 102 (0,0)) (λ v dp=>
 ∃ c7:World,(St 102 ⟨v,0,none⟩ (.agg #[.pointer a5,.pointer ba]) dp c7)/\
 Drw c7 λ i dq=>
 Zc d λ Z=>
 ∃ bt,(At i ⟨Z.block,Z.off + 1,none⟩ [.int .i64 bt])/\
 ∃ bu,(At i ⟨e,0 + 2,none⟩ [.int .i64 bu])/\
 ∃ bv,(At i ⟨e,0 + 3,none⟩ [.int .i64 bv])/\
 ∃ bw,(At i ⟨e,0 + 4,none⟩ [.int .i64 bw])/\
 ∃ bx,(At i ⟨e,0 + 5,none⟩ [.int .i64 bx])/\
 New (.cells #[.int .i64 bt,.int .i64 bu,.int .i64 bv,.int .i64 bw,.int .i64 1,.int .i64 bx] 106 (0,0)) (λ f A=>
 (i A)/\
 ∃ (C:World->Prop),(∃ bz,(Aw A ⟨e,0,none⟩ [.int .i64 bz])/\
 Br (bz==2)
 (Drw A λ F dr=>
 ∃ b0,(At F ⟨e,0 + 5,none⟩ [.int .i64 b0])/\
 Zc d λ c8=>
 ∃ b1,(At F (Addr.add c8 0) [.int .i64 b1])/\
 Calls prog 40 #[.bool (decide (b0>b1)),.int .i64 1] dr λ ar U=>
 ((ar=.returned (.tuple #[]))/\
 (F U)/\
 C  U)\/
 (∃ ae:List PanicEntry,(ar=.panicked ae)/\c ae U))
 (Drw A λ u dk=>
 ∃ b2,(At u ⟨e,0 + 3,none⟩ [.int .i64 b2])/\
 ∃ b3,(At u ⟨v,0,none⟩ [.pointer b3])/\
 Calls prog 58 #[.pointer b3] dk λ ax I=>
 (∃ y:Sl,(ax=.returned (y.v))/\
 (u I)/\
 Calls prog 40 #[.bool (decide (b2<(↑y.len:Int))),.int .i64 1] I λ ay J=>
 ((ay=.returned (.tuple #[]))/\
 (u J)/\
 ∃ cw:World,(St 3 ⟨f,0 + 4,none⟩ (.int .i64 3) J cw)/\
 ∃ cx:World,(St 3 ⟨f,0 + 5,none⟩ (.int .i64 0) cw cx)/\
 C  cx)\/
 (∃ aj:List PanicEntry,(ay=.panicked aj)/\c aj J))\/
 (∃ ai:List PanicEntry,(ax=.panicked ai)/\c ai I)))/\
 ∀ (ds:Env)  (r:World),C  r->
 ∃ (D:World->Prop),(Zc d λ ab=>
 ∃ b4:Option Nat,(Aw r ⟨ab.block,ab.off + 3,none⟩ [.map b4])/\
 ∃ b5:Int,(∀ b,(λ b=>b=r) b->((Builtin.len_ #[78] 3 #[.map b4])).run prog b=.ok (.int .i64 b5) b)/\
 Br (decide (b5<300))
 (Zc d λ ac=>
 ∃ b6,(Aw r ⟨ac.block,ac.off + 1,none⟩ [.int .i64 b6])/\
 Calls prog 40 #[.bool (decide (b6<28629151)),.int .i64 3] r λ az cy=>
 ((az=.returned (.tuple #[]))/\
 D  cy)\/
 (∃ ak:List PanicEntry,(az=.panicked ak)/\c ak cy))
 (Calls prog 40 #[.bool false,.int .i64 3] r λ a0 cz=>
 ((a0=.returned (.tuple #[]))/\
 D  cz)\/
 (∃ al:List PanicEntry,(a0=.panicked al)/\c al cz)))/\
 ∀ (dt:Env)  (z:World),D  z->
 ∃ (E:World->Prop),(∃ b7,(Aw z ⟨e,0,none⟩ [.int .i64 b7])/\
 Br (b7==2)
 (Drw z λ s dl=>
 ∃ b8,(At s ⟨v,0,none⟩ [.pointer b8])/\
 ∃ b9,(At s ⟨f,0,none⟩ [.int .i64 b9])/\
 ∃ ca,(At s ⟨f,0 + 2,none⟩ [.int .i64 ca])/\
 ∃ cb,(At s ⟨f,0 + 3,none⟩ [.int .i64 cb])/\
 Calls prog 112 #[.pointer b8,.int .i64 b9,.int .i64 ca,.int .i64 cb] dl λ a1 c1=>
 (∃ cc,(a1=.returned (.int .i64 cc))/\
 Calls prog 110 #[.int .i64 cc] c1 λ a2 L=>
 ((a2=.returned (.tuple #[]))/\
 (s L)/\
 E  L)\/
 (∃ an:List PanicEntry,(a2=.panicked an)/\c an L))\/
 (∃ am:List PanicEntry,(a1=.panicked am)/\c am c1))
 (Drw z λ g dm=>
 ∃ cd,(At g ⟨v,0 + 1,none⟩ [.pointer cd])/\
 ∃ ce,(At g ⟨f,0,none⟩ [.int .i64 ce])/\
 ∃ cg,(At g ⟨f,0 + 2,none⟩ [.int .i64 cg])/\
 ∃ ch,(At g ⟨f,0 + 3,none⟩ [.int .i64 ch])/\
 Zc d λ c9=>
 ∃ a6,(At g (Addr.add c9 0) [.int .i64 a6])/\
 ∃ a7,(At g ⟨e,0 + 6,none⟩ [.float .f64 a7])/\
 Calls prog 113 #[.pointer cd,.agg #[.int .i64 ce,.int .i64 cg,.int .i64 ch,.int .i64 a6,.float .f64 a7]] dm λ a3 M=>
 (∃ a8,(a3=.returned (.int .i64 a8))/\
 (g M)/\
 Calls prog 110 #[.int .i64 a8] M λ a4 N=>
 ((a4=.returned (.tuple #[]))/\
 (g N)/\
 E  N)\/
 (∃ ap:List PanicEntry,(a4=.panicked ap)/\c ap N))\/
 (∃ ao:List PanicEntry,(a3=.panicked ao)/\c ao M)))/\
 ∀ (du:Env)  (c2:World),E  c2->
 Drw c2 λ V dn=>
 Zc d λ X=>
 ∃ a9:Option Nat,(At V ⟨X.block,X.off + 3,none⟩ [.map a9])/\
 ∃ bb,(At V ⟨f,0,none⟩ [.int .i64 bb])/\
 ∃ O:World,((Instr.mapUpdate 78 (.map a9) (.int .i64 bb) (.pointer ((some ⟨f,0,none⟩)))).run prog dn=.ok () O)/\
 Zc d λ Y=>
 ∃ bc,(Aw O ⟨Y.block,Y.off + 1,none⟩ [.int .i64 bc])/\
 Zc d λ aa=>
 ∃ t:World,(St 3 ⟨aa.block,aa.off + 1,none⟩ (.int .i64 (IntKind.i64.wrap (bc + 1))) O t)/\
 ∃ bd,(Aw t ⟨e,0,none⟩ [.int .i64 bd])/\
 Br (bd==7)
 (∃ be,(Aw t ⟨e,0 + 2,none⟩ [.int .i64 be])/\
 Calls prog 114 #[.pointer d,.int .i64 be] t λ au c3=>
 ((au=.returned (.tuple #[]))/\
 Calls prog 56 #[.pointer d,.pointer ((some ⟨f,0,none⟩))] c3 λ av c5=>
 (∃ bf bg bn bo bp bq br,∃ l m:Sl,(av=.returned (.agg #[.int .i64 bf,.string bg,.int .i64 bn,.int .i64 bo,.int .i64 bp,.int .i64 bq,.int .i64 br,l.v,m.v]))/\
 ∃ Q:World,(St 31 ⟨x,0,none⟩ (.agg #[.int .i64 bf,.string bg,.int .i64 bn,.int .i64 bo,.int .i64 bp,.int .i64 bq,.int .i64 br,l.v,m.v]) c5 Q)/\
 ∃ ci cj cq cr cs ct cu,∃ p q:Sl,(Aw Q ⟨x,0,none⟩ [.int .i64 ci,.string cj,.int .i64 cq,.int .i64 cr,.int .i64 cs,.int .i64 ct,.int .i64 cu,p.v,q.v])/\
 K (.agg #[.int .i64 ci,.string cj,.int .i64 cq,.int .i64 cr,.int .i64 cs,.int .i64 ct,.int .i64 cu,p.v,q.v]) Q)\/
 (∃ ag:List PanicEntry,(av=.panicked ag)/\c ag c5))\/
 (∃ af:List PanicEntry,(au=.panicked af)/\c af c3))
 (Calls prog 56 #[.pointer d,.pointer ((some ⟨f,0,none⟩))] t λ aw c6=>
 (∃ bs bh bi bj bk bl bm,∃ j k:Sl,(aw=.returned (.agg #[.int .i64 bs,.string bh,.int .i64 bi,.int .i64 bj,.int .i64 bk,.int .i64 bl,.int .i64 bm,j.v,k.v]))/\
 ∃ T:World,(St 31 ⟨x,0,none⟩ (.agg #[.int .i64 bs,.string bh,.int .i64 bi,.int .i64 bj,.int .i64 bk,.int .i64 bl,.int .i64 bm,j.v,k.v]) c6 T)/\
 ∃ cv ck cl cm cn co cp,∃ n o:Sl,(Aw T ⟨x,0,none⟩ [.int .i64 cv,.string ck,.int .i64 cl,.int .i64 cm,.int .i64 cn,.int .i64 co,.int .i64 cp,n.v,o.v])/\
 K (.agg #[.int .i64 cv,.string ck,.int .i64 cl,.int .i64 cm,.int .i64 cn,.int .i64 co,.int .i64 cp,n.v,o.v]) T)\/
 (∃ ah:List PanicEntry,(aw=.panicked ah)/\c ah c6))) dq) c4)\/
 (∃ ad:List PanicEntry,(aq=.panicked ad)/\c ad c4)) dj) w
def sk43:Sk:=(.seq .leaf (.seq .leaf (.seq .leaf (.cut [] [] [25,26,27,28,29,30,31,32,33,34,35,36,37,38,39,40,41,42,43,44,45,46,47,48,49] .leaf (.cut [] [] [50,51,52,53,54,55,56,57,58,59,60,61,62,63] .leaf (.cut [] [] [64,65,66,67,68,69,70,71,72,73,74,75,76,77,78,79,80,81,82,83,84,85,86,87,88,89,90,91,92,93,94,95,96,97,98,99,100,101,102,103,104,105] .leaf .leaf))))))
theorem ZuD (e:Option Addr) (f:Int) (g:ByteArray) (i:Int) (j:Int) (k:Int) (l:Int) (m:Nat) (n:ByteArray) (o:Int) (c:Sl) (b:Sl) (d:List PanicEntry->World->Prop) (K:Value->World->Prop) (w:World) (h:B43 e f g i j k l m n o c b d K w):ZaX prog 43 #[.pointer e,.agg #[.int .i64 f,.string g,.int .i64 i,.int .i64 j,.int .i64 k,.int .i64 l,.float .f64 m,.string n,.int .i64 o,c.v,b.v]] w d K:=cqx (sk:=sk43) func43 (by kernel_rfl) (by kernel_rfl) (by kernel_rfl) h
def B44 (c:Option Addr) (bn:Int) (bo:ByteArray) (bp:Int) (bq:Int) (br:Int) (bs:Int) (bt:Nat) (bu:ByteArray) (bv:Int) (C:Sl) (A:Sl) (f:List PanicEntry->World->Prop) (K:Value->World->Prop) (w:World):Prop:=
 New (.cells #[.int .i64 bn,.string bo,.int .i64 bp,.int .i64 bq,.int .i64 br,.int .i64 bs,.float .f64 bt,.string bu,.int .i64 bv,C.v,A.v] 38 (0,0)) (λ T bz=>
 New (.cells #[.int .i64 0,.string (ByteArray.mk #[]),.int .i64 0,.int .i64 0,.int .i64 0,.int .i64 0,.int .i64 0,.slice none 0 0,.slice none 0 0] 31 (0,0)) (λ U b1=>
 Drw b1 λ y b2=>
 ∃ ak,(At y ⟨T,0 + 5,none⟩ [.int .i64 ak])/\
 Zc c λ bh=>
 ∃ al,(At y (Addr.add bh 0) [.int .i64 al])/\
 Calls prog 40 #[.bool (decide (ak >= al)),.int .i64 7] b2 λ ad t=>
 ((ad=.returned (.tuple #[]))/\
 (y t)/\
 ∃ am,(Aw t ⟨T,0 + 5,none⟩ [.int .i64 am])/\
 Zc c λ bi=>
 ∃ G:World,(St 3 (Addr.add bi 0) (.int .i64 am) t G)/\
 Zc c λ H=>
 ∃ an:Option Nat,(Aw G ⟨H.block,H.off + 3,none⟩ [.map an])/\
 Calls prog 55 #[.map an] G λ ae bd=>
 (∃ ao:Value,(ae=.returned (ao))/\
 Calls prog 50 #[ao] bd λ af be=>
 (∃ i:Sl,(af=.returned (i.v))/\
 ∃ (n:Int->World->Prop) (u:Int->World->Nat),(n 0 be)/\∀ (b3:Env) (d:Int) (e:World),n d e->
 Br (decide (d<(↑i.len:Int)))
 (Rng d i.len (Zc i.a λ bj=>
 ∃ p,(Aw e (Addr.add bj d.toNat) [.int .i64 p])/\
 Zc c λ I=>
 ∃ ap:Option Nat,(Aw e ⟨I.block,I.off + 3,none⟩ [.map ap])/\
 ∃ q:Option Addr,(∀ b,(λ b=>b=e) b->((Instr.lookup 78 (.map ap) (.int .i64 p) false)).run prog b=.ok (.pointer q) b)/\
 ∃ (x:Bool->World->Prop),(Drw e λ z bf=>
 Zc q λ J=>
 ∃ aq,(At z ⟨J.block,J.off + 4,none⟩ [.int .i64 aq])/\
 Br (aq==1)
 (Zc q λ L=>
 ∃ ar,(At z ⟨L.block,L.off + 5,none⟩ [.int .i64 ar])/\
 Zc c λ bk=>
 ∃ au,(At z (Addr.add bk 0) [.int .i64 au])/\
 x (decide (ar<=au)) bf)
 (x false bf))/\
 ∀ (b4:Env) (av:Bool) (r:World),x av r->
 Br av
 (Drw r λ o b0=>
 Zc c λ M=>
 ∃ aw:Option Nat,(At o ⟨M.block,M.off + 2,none⟩ [.map aw])/\
 Zc q λ N=>
 ∃ ax,(At o ⟨N.block,N.off + 1,none⟩ [.int .i64 ax])/\
 ∃ ay bw:Option Addr,(∀ b,o b->((Instr.lookup 77 (.map aw) (.int .i64 ax) false)).run prog b=.ok (.agg #[.pointer ay,.pointer bw]) b)/\
 Calls prog 115 #[.pointer ay,.int .i64 p] b0 λ ag s=>
 (∃ bx,(ag=.returned (.int .i64 bx))/\
 (o s)/\
 Zc c λ O=>
 ∃ az:Option Nat,(Aw s ⟨O.block,O.off + 3,none⟩ [.map az])/\
 ∃ D:World,((Builtin.delete_ #[78,3] 0 #[.map az,.int .i64 p]).run prog s=.ok (.tuple #[]) D)/\
 (n (IntKind.i64.wrap (d + 1)) D)/\u (IntKind.i64.wrap (d + 1)) D<u d e)\/
 (∃ Z:List PanicEntry,(ag=.panicked Z)/\f Z s))
 ((n (IntKind.i64.wrap (d + 1)) r)/\u (IntKind.i64.wrap (d + 1)) r<u d e)))
 (Zc c λ Q=>
 ∃ a0:Option Nat,(Aw e ⟨Q.block,Q.off + 2,none⟩ [.map a0])/\
 Calls prog 51 #[.map a0] e λ ah bb=>
 (∃ a1:Value,(ah=.returned (a1))/\
 Calls prog 50 #[a1] bb λ ai bc=>
 (∃ j:Sl,(ai=.returned (j.v))/\
 ∃ (v:Int->World->Prop) (bg:Int->World->Nat),(v 0 bc)/\∀ (b5:Env) (g:Int) (m:World),v g m->
 Br (decide (g<(↑j.len:Int)))
 (Rng g j.len (Zc j.a λ bl=>
 ∃ a2,(Aw m (Addr.add bl g.toNat) [.int .i64 a2])/\
 Calls prog 114 #[.pointer c,.int .i64 a2] m λ aj E=>
 ((aj=.returned (.tuple #[]))/\
 (v (IntKind.i64.wrap (g + 1)) E)/\bg (IntKind.i64.wrap (g + 1)) E<bg g m)\/
 (∃ ac:List PanicEntry,(aj=.panicked ac)/\f ac E)))
 (Zc c λ bm=>
 ∃ a3,(Aw m (Addr.add bm 0) [.int .i64 a3])/\
 ∃ F:World,(St 31 ⟨U,0,none⟩ (.agg #[.int .i64 0,.string (ByteArray.mk #[]),.int .i64 0,.int .i64 0,.int .i64 0,.int .i64 0,.int .i64 a3,.slice none 0 0,.slice none 0 0]) m F)/\
 ∃ a4 a5 a6 a7 a8 a9 ba,∃ k l:Sl,(Aw F ⟨U,0,none⟩ [.int .i64 a4,.string a5,.int .i64 a6,.int .i64 a7,.int .i64 a8,.int .i64 a9,.int .i64 ba,k.v,l.v])/\
 K (.agg #[.int .i64 a4,.string a5,.int .i64 a6,.int .i64 a7,.int .i64 a8,.int .i64 a9,.int .i64 ba,k.v,l.v]) F))\/
 (∃ ab:List PanicEntry,(ai=.panicked ab)/\f ab bc))\/
 (∃ aa:List PanicEntry,(ah=.panicked aa)/\f aa bb)))\/
 (∃ Y:List PanicEntry,(af=.panicked Y)/\f Y be))\/
 (∃ X:List PanicEntry,(ae=.panicked X)/\f X bd))\/
 (∃ V:List PanicEntry,(ad=.panicked V)/\f V t)) bz) w
def sk44:Sk:=(.seq .leaf (.seq .leaf (.seq .leaf (.seq (.seq .leaf (.block (.loop [30] [(.int .i64)] [6,7,30,31,32,33,34,35,36,37,38,39,40,41,42,43,44,45,46,47,48,49,50,51,52,53,54,55,56,57,58,59,60,61,62,63,64,65,66,67,68,69,70,71,72,73] (.seq .leaf (.seq .leaf (.seq (.block (.seq .leaf (.seq .leaf (.cut [55] [.bool] [40,41,42,43,44,45,46,47,48,49,50,51,52,53,54,55] .leaf .leaf)))) .leaf)))))) (.seq (.seq .leaf (.block (.loop [81] [(.int .i64)] [9,81,82,83,84,85,86,87,88] .leaf))) .leaf)))))
theorem Zzj (e:Option Addr) (f:Int) (g:ByteArray) (i:Int) (j:Int) (k:Int) (l:Int) (m:Nat) (n:ByteArray) (o:Int) (c:Sl) (b:Sl) (d:List PanicEntry->World->Prop) (K:Value->World->Prop) (w:World) (h:B44 e f g i j k l m n o c b d K w):ZaX prog 44 #[.pointer e,.agg #[.int .i64 f,.string g,.int .i64 i,.int .i64 j,.int .i64 k,.int .i64 l,.float .f64 m,.string n,.int .i64 o,c.v,b.v]] w d K:=cqx (sk:=sk44) func44 (by kernel_rfl) (by kernel_rfl) (by kernel_rfl) h
def B45 (g:Option Addr) (c:Option Addr) (ed:Int) (ee:ByteArray) (ef:Int) (eg:Int) (eh:Int) (ei:Int) (ej:Nat) (ek:ByteArray) (el:Int) (L:Sl) (J:Sl) (d:List PanicEntry->World->Prop) (K:Value->World->Prop) (w:World):Prop:=
 New (.cells #[.int .i64 ed,.string ee,.int .i64 ef,.int .i64 eg,.int .i64 eh,.int .i64 ei,.float .f64 ej,.string ek,.int .i64 el,L.v,J.v] 38 (0,0)) (λ I eo=>
 New (.cells #[.int .i64 0,.string (ByteArray.mk #[]),.int .i64 0,.int .i64 0,.int .i64 0,.int .i64 0,.int .i64 0,.slice none 0 0,.slice none 0 0] 31 (0,0)) (λ e es=>
 Drw es λ E ev=>
 Zc g λ ad=>
 ∃ ca:Option Nat,(At E ⟨ad.block,ad.off + 2,none⟩ [.map ca])/\
 Zc c λ ae=>
 ∃ cb,(At E ⟨ae.block,ae.off + 1,none⟩ [.int .i64 cb])/\
 ∃ cc cd:Option Addr,(∀ b,E b->((Instr.lookup 77 (.map ca) (.int .i64 cb) false)).run prog b=.ok (.agg #[.pointer cc,.pointer cd]) b)/\
 New (.cells #[.pointer none,.pointer none] 102 (0,0)) (λ C d3=>
 (E d3)/\
 ∃ f:World,(St 102 ⟨C,0,none⟩ (.agg #[.pointer cc,.pointer cd]) d3 f)/\
 Zc c λ af=>
 ∃ G,(Aw f ⟨af.block,af.off + 4,none⟩ [.int .i64 G])/\
 ∃ D,(Aw f ⟨I,0,none⟩ [.int .i64 D])/\
 Br (D==3)
 (Zc c λ ag=>
 ∃ ce,(Aw f ⟨ag.block,ag.off + 4,none⟩ [.int .i64 ce])/\
 Calls prog 40 #[.bool (ce==1),.int .i64 7] f λ a1 d4=>
 ((a1=.returned (.tuple #[]))/\
 Zc c λ ah=>
 ∃ d5:World,(St 3 ⟨ah.block,ah.off + 4,none⟩ (.int .i64 2) d4 d5)/\
 Zc c λ ai=>
 ∃ d6:World,(St 3 ⟨ai.block,ai.off + 5,none⟩ (.int .i64 0) d5 d6)/\
 Calls prog 56 #[.pointer g,.pointer c] d6 λ a2 d7=>
 (∃ bh bi br b1 b6 b7 b8,∃ o p:Sl,(a2=.returned (.agg #[.int .i64 bh,.string bi,.int .i64 br,.int .i64 b1,.int .i64 b6,.int .i64 b7,.int .i64 b8,o.v,p.v]))/\
 ∃ N:World,(St 31 ⟨e,0,none⟩ (.agg #[.int .i64 bh,.string bi,.int .i64 br,.int .i64 b1,.int .i64 b6,.int .i64 b7,.int .i64 b8,o.v,p.v]) d7 N)/\
 ∃ cs ct c2 db dk dp dq,∃ z A:Sl,(Aw N ⟨e,0,none⟩ [.int .i64 cs,.string ct,.int .i64 c2,.int .i64 db,.int .i64 dk,.int .i64 dp,.int .i64 dq,z.v,A.v])/\
 K (.agg #[.int .i64 cs,.string ct,.int .i64 c2,.int .i64 db,.int .i64 dk,.int .i64 dp,.int .i64 dq,z.v,A.v]) N)\/
 (∃ am:List PanicEntry,(a2=.panicked am)/\d am d7))\/
 (∃ al:List PanicEntry,(a1=.panicked al)/\d al d4))
 (Br (D==4)
 (∃ (H:World->Prop),(Br (G==3)
 (Drw f λ Z ep=>
 ∃ cf,(At Z ⟨C,0 + 1,none⟩ [.pointer cf])/\
 Zc c λ d8=>
 ∃ cg,(At Z (Addr.add d8 0) [.int .i64 cg])/\
 Calls prog 116 #[.pointer cf,.int .i64 cg] ep λ a7 ds=>
 (∃ em,(a7=.returned (.int .i64 em))/\
 H  ds)\/
 (∃ ar:List PanicEntry,(a7=.panicked ar)/\d ar ds))
 (Drw f λ aa eq=>
 ∃ ch,(At aa ⟨C,0,none⟩ [.pointer ch])/\
 Zc c λ d9=>
 ∃ ci,(At aa (Addr.add d9 0) [.int .i64 ci])/\
 Calls prog 115 #[.pointer ch,.int .i64 ci] eq λ a8 dt=>
 (∃ en,(a8=.returned (.int .i64 en))/\
 H  dt)\/
 (∃ au:List PanicEntry,(a8=.panicked au)/\d au dt)))/\
 ∀ (ew:Env)  (du:World),H  du->
 Drw du λ ab er=>
 Zc g λ aj=>
 ∃ cj:Option Nat,(At ab ⟨aj.block,aj.off + 3,none⟩ [.map cj])/\
 Zc c λ ea=>
 ∃ ck,(At ab (Addr.add ea 0) [.int .i64 ck])/\
 ∃ O:World,((Builtin.delete_ #[78,3] 0 #[.map cj,.int .i64 ck]).run prog er=.ok (.tuple #[]) O)/\
 Zc c λ ak=>
 ∃ cl,(Aw O ⟨ak.block,ak.off + 1,none⟩ [.int .i64 cl])/\
 Calls prog 114 #[.pointer g,.int .i64 cl] O λ a9 Q=>
 ((a9=.returned (.tuple #[]))/\
 ∃ cm,(Aw Q ⟨I,0 + 1,none⟩ [.string cm])/\
 ∃ T:World,(St 31 ⟨e,0,none⟩ (.agg #[.int .i64 0,.string cm,.int .i64 0,.int .i64 0,.int .i64 0,.int .i64 0,.int .i64 0,.slice none 0 0,.slice none 0 0]) Q T)/\
 ∃ dr cu cv cw cx cy cz,∃ q r:Sl,(Aw T ⟨e,0,none⟩ [.int .i64 dr,.string cu,.int .i64 cv,.int .i64 cw,.int .i64 cx,.int .i64 cy,.int .i64 cz,q.v,r.v])/\
 K (.agg #[.int .i64 dr,.string cu,.int .i64 cv,.int .i64 cw,.int .i64 cx,.int .i64 cy,.int .i64 cz,q.v,r.v]) T)\/
 (∃ av:List PanicEntry,(a9=.panicked av)/\d av Q))
 (Br (D==5)
 (Calls prog 40 #[.bool (!G==3),.int .i64 7] f λ ba dv=>
 ((ba=.returned (.tuple #[]))/\
 Drw dv λ F et=>
 ∃ cn,(At F ⟨C,0,none⟩ [.pointer cn])/\
 Zc c λ eb=>
 ∃ co,(At F (Addr.add eb 0) [.int .i64 co])/\
 ∃ cp,(At F ⟨I,0 + 7,none⟩ [.string cp])/\
 Calls prog 117 #[.pointer cn,.int .i64 co,.string cp] et λ bb dw=>
 (∃ cq,(bb=.returned (.int .i64 cq))/\
 Calls prog 110 #[.int .i64 cq] dw λ bc U=>
 ((bc=.returned (.tuple #[]))/\
 (F U)/\
 Calls prog 56 #[.pointer g,.pointer c] U λ bd dx=>
 (∃ b9 bj bk bl bm bn bo,∃ i j:Sl,(bd=.returned (.agg #[.int .i64 b9,.string bj,.int .i64 bk,.int .i64 bl,.int .i64 bm,.int .i64 bn,.int .i64 bo,i.v,j.v]))/\
 ∃ V:World,(St 31 ⟨e,0,none⟩ (.agg #[.int .i64 b9,.string bj,.int .i64 bk,.int .i64 bl,.int .i64 bm,.int .i64 bn,.int .i64 bo,i.v,j.v]) dx V)/\
 ∃ c0 c1 c3 c4 c5 c6 c7,∃ s t:Sl,(Aw V ⟨e,0,none⟩ [.int .i64 c0,.string c1,.int .i64 c3,.int .i64 c4,.int .i64 c5,.int .i64 c6,.int .i64 c7,s.v,t.v])/\
 K (.agg #[.int .i64 c0,.string c1,.int .i64 c3,.int .i64 c4,.int .i64 c5,.int .i64 c6,.int .i64 c7,s.v,t.v]) V)\/
 (∃ az:List PanicEntry,(bd=.panicked az)/\d az dx))\/
 (∃ ay:List PanicEntry,(bc=.panicked ay)/\d ay U))\/
 (∃ ax:List PanicEntry,(bb=.panicked ax)/\d ax dw))\/
 (∃ aw:List PanicEntry,(ba=.panicked aw)/\d aw dv))
 (Br (D==6)
 (Calls prog 40 #[.bool (!G==3),.int .i64 7] f λ be dy=>
 ((be=.returned (.tuple #[]))/\
 Drw dy λ ac eu=>
 ∃ cr,(At ac ⟨C,0,none⟩ [.pointer cr])/\
 Zc c λ ec=>
 ∃ bf,(At ac (Addr.add ec 0) [.int .i64 bf])/\
 Calls prog 118 #[.pointer cr,.int .i64 bf] eu λ a3 dz=>
 (∃ M:Sl,∃ bg,(a3=.returned (.tuple #[M.v,.int .i64 bg]))/\
 Calls prog 110 #[.int .i64 bg] dz λ a4 d0=>
 ((a4=.returned (.tuple #[]))/\
 Calls prog 56 #[.pointer g,.pointer c] d0 λ a5 d1=>
 (∃ bp bq bs bt bu bv bw,∃ k l:Sl,(a5=.returned (.agg #[.int .i64 bp,.string bq,.int .i64 bs,.int .i64 bt,.int .i64 bu,.int .i64 bv,.int .i64 bw,k.v,l.v]))/\
 ∃ X:World,(St 31 ⟨e,0,none⟩ (.agg #[.int .i64 bp,.string bq,.int .i64 bs,.int .i64 bt,.int .i64 bu,.int .i64 bv,.int .i64 bw,k.v,l.v]) d1 X)/\
 ∃ c8 c9 da dc dd de df,∃ u v:Sl,(Aw X ⟨e,0,none⟩ [.int .i64 c8,.string c9,.int .i64 da,.int .i64 dc,.int .i64 dd,.int .i64 de,.int .i64 df,u.v,v.v])/\
 K (.agg #[.int .i64 c8,.string c9,.int .i64 da,.int .i64 dc,.int .i64 dd,.int .i64 de,.int .i64 df,u.v,v.v]) X)\/
 (∃ ap:List PanicEntry,(a5=.panicked ap)/\d ap d1))\/
 (∃ ao:List PanicEntry,(a4=.panicked ao)/\d ao d0))\/
 (∃ an:List PanicEntry,(a3=.panicked an)/\d an dz))\/
 (∃ a0:List PanicEntry,(be=.panicked a0)/\d a0 dy))
 (Calls prog 56 #[.pointer g,.pointer c] f λ a6 d2=>
 (∃ bx bz b0 b2 b3 b4 b5,∃ m n:Sl,(a6=.returned (.agg #[.int .i64 bx,.string bz,.int .i64 b0,.int .i64 b2,.int .i64 b3,.int .i64 b4,.int .i64 b5,m.v,n.v]))/\
 ∃ Y:World,(St 31 ⟨e,0,none⟩ (.agg #[.int .i64 bx,.string bz,.int .i64 b0,.int .i64 b2,.int .i64 b3,.int .i64 b4,.int .i64 b5,m.v,n.v]) d2 Y)/\
 ∃ dg dh di dj dl dm dn,∃ x y:Sl,(Aw Y ⟨e,0,none⟩ [.int .i64 dg,.string dh,.int .i64 di,.int .i64 dj,.int .i64 dl,.int .i64 dm,.int .i64 dn,x.v,y.v])/\
 K (.agg #[.int .i64 dg,.string dh,.int .i64 di,.int .i64 dj,.int .i64 dl,.int .i64 dm,.int .i64 dn,x.v,y.v]) Y)\/
 (∃ aq:List PanicEntry,(a6=.panicked aq)/\d aq d2)))))) ev) eo) w
def sk45:Sk:=(.seq .leaf (.seq .leaf (.seq .leaf (.seq (.seq .leaf (.block (.seq .leaf (.cond .leaf (.seq .leaf (.cond (.cut [] [] [43,44,45,46,47,48,49,50,51,52,53,54,55,56,57] .leaf .leaf) .leaf)))))) .leaf))))
theorem Zzi (e:Option Addr) (p:Option Addr) (f:Int) (g:ByteArray) (i:Int) (j:Int) (k:Int) (l:Int) (m:Nat) (n:ByteArray) (o:Int) (c:Sl) (b:Sl) (d:List PanicEntry->World->Prop) (K:Value->World->Prop) (w:World) (h:B45 e p f g i j k l m n o c b d K w):ZaX prog 45 #[.pointer e,.pointer p,.agg #[.int .i64 f,.string g,.int .i64 i,.int .i64 j,.int .i64 k,.int .i64 l,.float .f64 m,.string n,.int .i64 o,c.v,b.v]] w d K:=cqx (sk:=sk45) func45 (by kernel_rfl) (by kernel_rfl) (by kernel_rfl) h
def B15 (g:Option Addr) (g4:Int) (g5:ByteArray) (g6:Int) (g7:Int) (g8:Int) (g9:Int) (ha:Nat) (hb:ByteArray) (hc:Int) (ap:Sl) (ao:Sl) (K:Value->World->Prop) (w:World):Prop:=
 New (.cells #[.int .i64 g4,.string g5,.int .i64 g6,.int .i64 g7,.int .i64 g8,.int .i64 g9,.float .f64 ha,.string hb,.int .i64 hc,ap.v,ao.v] 38 (0,0)) (λ d hd=>
 New (.cells #[.int .i64 0,.string (ByteArray.mk #[]),.int .i64 0,.int .i64 0,.int .i64 0,.int .i64 0,.int .i64 0,.slice none 0 0,.slice none 0 0] 31 (0,0)) (λ c gq=>
 ∃ dm dn dp dq dr ds dt du dv,∃ F E:Sl,(Aw gq ⟨d,0,none⟩ [.int .i64 dm,.string dn,.int .i64 dp,.int .i64 dq,.int .i64 dr,.int .i64 ds,.float .f64 dt,.string du,.int .i64 dv,F.v,E.v])/\
 Calls prog 41 #[.agg #[.int .i64 dm,.string dn,.int .i64 dp,.int .i64 dq,.int .i64 dr,.int .i64 ds,.float .f64 dt,.string du,.int .i64 dv,F.v,E.v]] gq λ a2 gy=>
 (∃ dw,(a2=.returned (.bool dw))/\
 Calls prog 40 #[.bool dw,.int .i64 1] gy λ a3 al=>
 ((a3=.returned (.tuple #[]))/\
 ∃ f,(Aw al ⟨d,0,none⟩ [.int .i64 f])/\
 Br (f==1)
 (∃ ba bb bc bd be bf bg bh bi,∃ j i:Sl,(Aw al ⟨d,0,none⟩ [.int .i64 ba,.string bb,.int .i64 bc,.int .i64 bd,.int .i64 be,.int .i64 bf,.float .f64 bg,.string bh,.int .i64 bi,j.v,i.v])/\
 Calls prog 42 #[.pointer g,.agg #[.int .i64 ba,.string bb,.int .i64 bc,.int .i64 bd,.int .i64 be,.int .i64 bf,.float .f64 bg,.string bh,.int .i64 bi,j.v,i.v]] al λ a4 g0=>
 (∃ bj bk bl bm bn bo bp,∃ k l:Sl,(a4=.returned (.agg #[.int .i64 bj,.string bk,.int .i64 bl,.int .i64 bm,.int .i64 bn,.int .i64 bo,.int .i64 bp,k.v,l.v]))/\
 ∃ g1:World,(St 31 ⟨c,0,none⟩ (.agg #[.int .i64 bj,.string bk,.int .i64 bl,.int .i64 bm,.int .i64 bn,.int .i64 bo,.int .i64 bp,k.v,l.v]) g0 g1)/\
 Zu prog 39 [.pointer ((some ⟨c,0,none⟩))] .returning (λ g2=>∃ dx dy ek et e2 fb fk,∃ ab af:Sl,(Aw g2 ⟨c,0,none⟩ [.int .i64 dx,.string dy,.int .i64 ek,.int .i64 et,.int .i64 e2,.int .i64 fb,.int .i64 fk,ab.v,af.v])/\
 K (.agg #[.int .i64 dx,.string dy,.int .i64 ek,.int .i64 et,.int .i64 e2,.int .i64 fb,.int .i64 fk,ab.v,af.v]) g2) g1)\/
 (∃ aw:List PanicEntry,(a4=.panicked aw)/\Zu prog 39 [.pointer ((some ⟨c,0,none⟩))] (.panicking aw) (λ g3=>∃ f7 dz d8 ee ef eg eh,∃ L M:Sl,(Aw g3 ⟨c,0,none⟩ [.int .i64 f7,.string dz,.int .i64 d8,.int .i64 ee,.int .i64 ef,.int .i64 eg,.int .i64 eh,L.v,M.v])/\
 K (.agg #[.int .i64 f7,.string dz,.int .i64 d8,.int .i64 ee,.int .i64 ef,.int .i64 eg,.int .i64 eh,L.v,M.v]) g3) g0))
 (∃ (an:Bool->World->Prop),(Br (f==2)
 (an (f==2) al)
 (an (f==7) al))/\
 ∀ (hf:Env) (bq:Bool) (e:World),an bq e->
 Br bq
 (∃ br bs bt bu bv bw bx bz b0,∃ n m:Sl,(Aw e ⟨d,0,none⟩ [.int .i64 br,.string bs,.int .i64 bt,.int .i64 bu,.int .i64 bv,.int .i64 bw,.float .f64 bx,.string bz,.int .i64 b0,n.v,m.v])/\
 Calls prog 43 #[.pointer g,.agg #[.int .i64 br,.string bs,.int .i64 bt,.int .i64 bu,.int .i64 bv,.int .i64 bw,.float .f64 bx,.string bz,.int .i64 b0,n.v,m.v]] e λ a5 gg=>
 (∃ b1 b2 b3 b4 b5 b6 b7,∃ o p:Sl,(a5=.returned (.agg #[.int .i64 b1,.string b2,.int .i64 b3,.int .i64 b4,.int .i64 b5,.int .i64 b6,.int .i64 b7,o.v,p.v]))/\
 ∃ gh:World,(St 31 ⟨c,0,none⟩ (.agg #[.int .i64 b1,.string b2,.int .i64 b3,.int .i64 b4,.int .i64 b5,.int .i64 b6,.int .i64 b7,o.v,p.v]) gg gh)/\
 Zu prog 39 [.pointer ((some ⟨c,0,none⟩))] .returning (λ gi=>∃ ei ej el em en eo ep,∃ N O:Sl,(Aw gi ⟨c,0,none⟩ [.int .i64 ei,.string ej,.int .i64 el,.int .i64 em,.int .i64 en,.int .i64 eo,.int .i64 ep,N.v,O.v])/\
 K (.agg #[.int .i64 ei,.string ej,.int .i64 el,.int .i64 em,.int .i64 en,.int .i64 eo,.int .i64 ep,N.v,O.v]) gi) gh)\/
 (∃ ax:List PanicEntry,(a5=.panicked ax)/\Zu prog 39 [.pointer ((some ⟨c,0,none⟩))] (.panicking ax) (λ gj=>∃ eq er es eu ev ew ex,∃ Q T:Sl,(Aw gj ⟨c,0,none⟩ [.int .i64 eq,.string er,.int .i64 es,.int .i64 eu,.int .i64 ev,.int .i64 ew,.int .i64 ex,Q.v,T.v])/\
 K (.agg #[.int .i64 eq,.string er,.int .i64 es,.int .i64 eu,.int .i64 ev,.int .i64 ew,.int .i64 ex,Q.v,T.v]) gj) gg))
 (Br (f==8)
 (∃ b8 b9 ca cb cc cd ce cf cg,∃ r q:Sl,(Aw e ⟨d,0,none⟩ [.int .i64 b8,.string b9,.int .i64 ca,.int .i64 cb,.int .i64 cc,.int .i64 cd,.float .f64 ce,.string cf,.int .i64 cg,r.v,q.v])/\
 Calls prog 44 #[.pointer g,.agg #[.int .i64 b8,.string b9,.int .i64 ca,.int .i64 cb,.int .i64 cc,.int .i64 cd,.float .f64 ce,.string cf,.int .i64 cg,r.v,q.v]] e λ a6 gk=>
 (∃ ch ci cj ck cl cm cn,∃ s t:Sl,(a6=.returned (.agg #[.int .i64 ch,.string ci,.int .i64 cj,.int .i64 ck,.int .i64 cl,.int .i64 cm,.int .i64 cn,s.v,t.v]))/\
 ∃ gl:World,(St 31 ⟨c,0,none⟩ (.agg #[.int .i64 ch,.string ci,.int .i64 cj,.int .i64 ck,.int .i64 cl,.int .i64 cm,.int .i64 cn,s.v,t.v]) gk gl)/\
 Zu prog 39 [.pointer ((some ⟨c,0,none⟩))] .returning (λ gm=>∃ ey ez e0 e1 e3 e4 e5,∃ U V:Sl,(Aw gm ⟨c,0,none⟩ [.int .i64 ey,.string ez,.int .i64 e0,.int .i64 e1,.int .i64 e3,.int .i64 e4,.int .i64 e5,U.v,V.v])/\
 K (.agg #[.int .i64 ey,.string ez,.int .i64 e0,.int .i64 e1,.int .i64 e3,.int .i64 e4,.int .i64 e5,U.v,V.v]) gm) gl)\/
 (∃ ay:List PanicEntry,(a6=.panicked ay)/\Zu prog 39 [.pointer ((some ⟨c,0,none⟩))] (.panicking ay) (λ gn=>∃ e6 e7 e8 e9 fa fc fd,∃ X Y:Sl,(Aw gn ⟨c,0,none⟩ [.int .i64 e6,.string e7,.int .i64 e8,.int .i64 e9,.int .i64 fa,.int .i64 fc,.int .i64 fd,X.v,Y.v])/\
 K (.agg #[.int .i64 e6,.string e7,.int .i64 e8,.int .i64 e9,.int .i64 fa,.int .i64 fc,.int .i64 fd,X.v,Y.v]) gn) gk))
 (Br (f==9)
 (∃ co cp cq cr cs ct cu cv cw,∃ v u:Sl,(Aw e ⟨d,0,none⟩ [.int .i64 co,.string cp,.int .i64 cq,.int .i64 cr,.int .i64 cs,.int .i64 ct,.float .f64 cu,.string cv,.int .i64 cw,v.v,u.v])/\
 Calls prog 19 #[.pointer g,.agg #[.int .i64 co,.string cp,.int .i64 cq,.int .i64 cr,.int .i64 cs,.int .i64 ct,.float .f64 cu,.string cv,.int .i64 cw,v.v,u.v]] e λ a7 go=>
 (∃ cx cy cz c0 c1 c2 c3,∃ x y:Sl,(a7=.returned (.agg #[.int .i64 cx,.string cy,.int .i64 cz,.int .i64 c0,.int .i64 c1,.int .i64 c2,.int .i64 c3,x.v,y.v]))/\
 ∃ gp:World,(St 31 ⟨c,0,none⟩ (.agg #[.int .i64 cx,.string cy,.int .i64 cz,.int .i64 c0,.int .i64 c1,.int .i64 c2,.int .i64 c3,x.v,y.v]) go gp)/\
 Zu prog 39 [.pointer ((some ⟨c,0,none⟩))] .returning (λ gr=>∃ fe ff fg fh fi fj fl,∃ Z aa:Sl,(Aw gr ⟨c,0,none⟩ [.int .i64 fe,.string ff,.int .i64 fg,.int .i64 fh,.int .i64 fi,.int .i64 fj,.int .i64 fl,Z.v,aa.v])/\
 K (.agg #[.int .i64 fe,.string ff,.int .i64 fg,.int .i64 fh,.int .i64 fi,.int .i64 fj,.int .i64 fl,Z.v,aa.v]) gr) gp)\/
 (∃ az:List PanicEntry,(a7=.panicked az)/\Zu prog 39 [.pointer ((some ⟨c,0,none⟩))] (.panicking az) (λ gs=>∃ fm fn fo fp fq fr fs,∃ ac ad:Sl,(Aw gs ⟨c,0,none⟩ [.int .i64 fm,.string fn,.int .i64 fo,.int .i64 fp,.int .i64 fq,.int .i64 fr,.int .i64 fs,ac.v,ad.v])/\
 K (.agg #[.int .i64 fm,.string fn,.int .i64 fo,.int .i64 fp,.int .i64 fq,.int .i64 fr,.int .i64 fs,ac.v,ad.v]) gs) go))
 (Drw e λ am he=>
 ∃ c4,(At am ⟨d,0 + 1,none⟩ [.string c4])/\
 ∃ c6 c7 c8 c9 da db dc dd de,∃ A z:Sl,(At am ⟨d,0,none⟩ [.int .i64 c6,.string c7,.int .i64 c8,.int .i64 c9,.int .i64 da,.int .i64 db,.float .f64 dc,.string dd,.int .i64 de,A.v,z.v])/\
 Calls prog 46 #[.pointer g,.string c4] he λ a8 aq=>
 (∃ c5,(a8=.returned (.pointer c5))/\
 (am aq)/\
 Calls prog 45 #[.pointer g,.pointer c5,.agg #[.int .i64 c6,.string c7,.int .i64 c8,.int .i64 c9,.int .i64 da,.int .i64 db,.float .f64 dc,.string dd,.int .i64 de,A.v,z.v]] aq λ a9 ar=>
 (∃ df dg dh di dj dk dl,∃ C D:Sl,(a9=.returned (.agg #[.int .i64 df,.string dg,.int .i64 dh,.int .i64 di,.int .i64 dj,.int .i64 dk,.int .i64 dl,C.v,D.v]))/\
 (am ar)/\
 ∃ gt:World,(St 31 ⟨c,0,none⟩ (.agg #[.int .i64 df,.string dg,.int .i64 dh,.int .i64 di,.int .i64 dj,.int .i64 dk,.int .i64 dl,C.v,D.v]) ar gt)/\
 Zu prog 39 [.pointer ((some ⟨c,0,none⟩))] .returning (λ gu=>∃ ft fu fv fw fx fy fz,∃ ae ag:Sl,(Aw gu ⟨c,0,none⟩ [.int .i64 ft,.string fu,.int .i64 fv,.int .i64 fw,.int .i64 fx,.int .i64 fy,.int .i64 fz,ae.v,ag.v])/\
 K (.agg #[.int .i64 ft,.string fu,.int .i64 fv,.int .i64 fw,.int .i64 fx,.int .i64 fy,.int .i64 fz,ae.v,ag.v]) gu) gt)\/
 (∃ a1:List PanicEntry,(a9=.panicked a1)/\Zu prog 39 [.pointer ((some ⟨c,0,none⟩))] (.panicking a1) (λ gv=>∃ f0 f1 f2 f3 f4 f5 f6,∃ ah ai:Sl,(Aw gv ⟨c,0,none⟩ [.int .i64 f0,.string f1,.int .i64 f2,.int .i64 f3,.int .i64 f4,.int .i64 f5,.int .i64 f6,ah.v,ai.v])/\
 K (.agg #[.int .i64 f0,.string f1,.int .i64 f2,.int .i64 f3,.int .i64 f4,.int .i64 f5,.int .i64 f6,ah.v,ai.v]) gv) ar))\/
 (∃ a0:List PanicEntry,(a8=.panicked a0)/\Zu prog 39 [.pointer ((some ⟨c,0,none⟩))] (.panicking a0) (λ gw=>∃ f8 f9 ga gb gc gd ge,∃ aj ak:Sl,(Aw gw ⟨c,0,none⟩ [.int .i64 f8,.string f9,.int .i64 ga,.int .i64 gb,.int .i64 gc,.int .i64 gd,.int .i64 ge,aj.v,ak.v])/\
 K (.agg #[.int .i64 f8,.string f9,.int .i64 ga,.int .i64 gb,.int .i64 gc,.int .i64 gd,.int .i64 ge,aj.v,ak.v]) gw) aq))))))\/
 (∃ av:List PanicEntry,(a3=.panicked av)/\Zu prog 39 [.pointer ((some ⟨c,0,none⟩))] (.panicking av) (λ gx=>∃ gf d0 d1 d2 d3 d4 d5,∃ G H:Sl,(Aw gx ⟨c,0,none⟩ [.int .i64 gf,.string d0,.int .i64 d1,.int .i64 d2,.int .i64 d3,.int .i64 d4,.int .i64 d5,G.v,H.v])/\
 K (.agg #[.int .i64 gf,.string d0,.int .i64 d1,.int .i64 d2,.int .i64 d3,.int .i64 d4,.int .i64 d5,G.v,H.v]) gx) al))\/
 (∃ au:List PanicEntry,(a2=.panicked au)/\Zu prog 39 [.pointer ((some ⟨c,0,none⟩))] (.panicking au) (λ gz=>∃ d6 d7 d9 ea eb ec ed,∃ I J:Sl,(Aw gz ⟨c,0,none⟩ [.int .i64 d6,.string d7,.int .i64 d9,.int .i64 ea,.int .i64 eb,.int .i64 ec,.int .i64 ed,I.v,J.v])/\
 K (.agg #[.int .i64 d6,.string d7,.int .i64 d9,.int .i64 ea,.int .i64 eb,.int .i64 ec,.int .i64 ed,I.v,J.v]) gz) gy)) hd) w
def sk15:Sk:=(.seq .leaf (.seq (.seq .leaf (.block (.seq .leaf (.cond .leaf (.cut [15] [.bool] [15,16,17] .leaf .leaf))))) .leaf))
theorem ZuE (d:Option Addr) (e:Int) (f:ByteArray) (g:Int) (i:Int) (j:Int) (k:Int) (l:Nat) (m:ByteArray) (n:Int) (c:Sl) (b:Sl) (K:Value->World->Prop) (w:World) (h:B15 d e f g i j k l m n c b K w):Zm prog 15 #[.pointer d,.agg #[.int .i64 e,.string f,.int .i64 g,.int .i64 i,.int .i64 j,.int .i64 k,.float .f64 l,.string m,.int .i64 n,c.v,b.v]] w K:=cqd (sk:=sk15) func15 (by kernel_rfl) (by kernel_rfl) (by kernel_rfl) h
def B19 (M:Option Addr) (dy:Int) (dz:ByteArray) (d0:Int) (d1:Int) (d2:Int) (d3:Int) (d4:Nat) (d5:ByteArray) (d6:Int) (Q:Sl) (O:Sl) (K:Value->World->Prop) (w:World):Prop:=
 New (.cells #[.int .i64 dy,.string dz,.int .i64 d0,.int .i64 d1,.int .i64 d2,.int .i64 d3,.float .f64 d4,.string d5,.int .i64 d6,Q.v,O.v] 38 (0,0)) (λ d d7=>
 New (.cells #[.int .i64 0,.string (ByteArray.mk #[]),.int .i64 0,.int .i64 0,.int .i64 0,.int .i64 0,.int .i64 0,.slice none 0 0,.slice none 0 0] 31 (0,0)) (λ c dm=>
 ∃ (L:World->Prop),(∃ bq br bs bt bu bv bw bx bz,∃ p o:Sl,(Aw dm ⟨d,0,none⟩ [.int .i64 bq,.string br,.int .i64 bs,.int .i64 bt,.int .i64 bu,.int .i64 bv,.float .f64 bw,.string bx,.int .i64 bz,p.v,o.v])/\
 Calls prog 41 #[.agg #[.int .i64 bq,.string br,.int .i64 bs,.int .i64 bt,.int .i64 bu,.int .i64 bv,.float .f64 bw,.string bx,.int .i64 bz,p.v,o.v]] dm λ ae J=>
 (∃ b0,(ae=.returned (.bool b0))/\
 Br b0
 (∃ am,(Aw J ⟨d,0,none⟩ [.int .i64 am])/\
 Calls prog 40 #[.bool (am==9),.int .i64 1] J λ af dt=>
 ((af=.returned (.tuple #[]))/\
 L  dt)\/
 (∃ X:List PanicEntry,(af=.panicked X)/\Zu prog 39 [.pointer ((some ⟨c,0,none⟩))] (.panicking X) (λ du=>∃ an ao az a5 a6 a7 a8,∃ j k:Sl,(Aw du ⟨c,0,none⟩ [.int .i64 an,.string ao,.int .i64 az,.int .i64 a5,.int .i64 a6,.int .i64 a7,.int .i64 a8,j.v,k.v])/\
 K (.agg #[.int .i64 an,.string ao,.int .i64 az,.int .i64 a5,.int .i64 a6,.int .i64 a7,.int .i64 a8,j.v,k.v]) du) dt))
 (Calls prog 40 #[.bool false,.int .i64 1] J λ ag dv=>
 ((ag=.returned (.tuple #[]))/\
 L  dv)\/
 (∃ Y:List PanicEntry,(ag=.panicked Y)/\Zu prog 39 [.pointer ((some ⟨c,0,none⟩))] (.panicking Y) (λ dw=>∃ a9 ap aq ar au av aw,∃ e f:Sl,(Aw dw ⟨c,0,none⟩ [.int .i64 a9,.string ap,.int .i64 aq,.int .i64 ar,.int .i64 au,.int .i64 av,.int .i64 aw,e.v,f.v])/\
 K (.agg #[.int .i64 a9,.string ap,.int .i64 aq,.int .i64 ar,.int .i64 au,.int .i64 av,.int .i64 aw,e.v,f.v]) dw) dv)))\/
 (∃ V:List PanicEntry,(ae=.panicked V)/\Zu prog 39 [.pointer ((some ⟨c,0,none⟩))] (.panicking V) (λ dx=>∃ ax ay a0 a1 a2 a3 a4,∃ g i:Sl,(Aw dx ⟨c,0,none⟩ [.int .i64 ax,.string ay,.int .i64 a0,.int .i64 a1,.int .i64 a2,.int .i64 a3,.int .i64 a4,g.v,i.v])/\
 K (.agg #[.int .i64 ax,.string ay,.int .i64 a0,.int .i64 a1,.int .i64 a2,.int .i64 a3,.int .i64 a4,g.v,i.v]) dx) J))/\
 ∀ (ea:Env)  (G:World),L  G->
 ∃ ba,(Aw G ⟨d,0 + 1,none⟩ [.string ba])/\
 Br (!ba.toList==(ByteArray.mk #[]).toList)
 (∃ bb,(Aw G ⟨d,0 + 1,none⟩ [.string bb])/\
 Calls prog 46 #[.pointer M,.string bb] G λ ah de=>
 (∃ bc,(ah=.returned (.pointer bc))/\
 Calls prog 56 #[.pointer M,.pointer bc] de λ ai df=>
 (∃ bd be bf bg bh bi bj,∃ l m:Sl,(ai=.returned (.agg #[.int .i64 bd,.string be,.int .i64 bf,.int .i64 bg,.int .i64 bh,.int .i64 bi,.int .i64 bj,l.v,m.v]))/\
 ∃ dg:World,(St 31 ⟨c,0,none⟩ (.agg #[.int .i64 bd,.string be,.int .i64 bf,.int .i64 bg,.int .i64 bh,.int .i64 bi,.int .i64 bj,l.v,m.v]) df dg)/\
 Zu prog 39 [.pointer ((some ⟨c,0,none⟩))] .returning (λ dh=>∃ b1 b2 cb ck ct c2 db,∃ E F:Sl,(Aw dh ⟨c,0,none⟩ [.int .i64 b1,.string b2,.int .i64 cb,.int .i64 ck,.int .i64 ct,.int .i64 c2,.int .i64 db,E.v,F.v])/\
 K (.agg #[.int .i64 b1,.string b2,.int .i64 cb,.int .i64 ck,.int .i64 ct,.int .i64 c2,.int .i64 db,E.v,F.v]) dh) dg)\/
 (∃ aa:List PanicEntry,(ai=.panicked aa)/\Zu prog 39 [.pointer ((some ⟨c,0,none⟩))] (.panicking aa) (λ di=>∃ dd b3 b4 b5 b6 b7 b8,∃ q r:Sl,(Aw di ⟨c,0,none⟩ [.int .i64 dd,.string b3,.int .i64 b4,.int .i64 b5,.int .i64 b6,.int .i64 b7,.int .i64 b8,q.v,r.v])/\
 K (.agg #[.int .i64 dd,.string b3,.int .i64 b4,.int .i64 b5,.int .i64 b6,.int .i64 b7,.int .i64 b8,q.v,r.v]) di) df))\/
 (∃ Z:List PanicEntry,(ah=.panicked Z)/\Zu prog 39 [.pointer ((some ⟨c,0,none⟩))] (.panicking Z) (λ dj=>∃ b9 ca cc cd ce cf cg,∃ s t:Sl,(Aw dj ⟨c,0,none⟩ [.int .i64 b9,.string ca,.int .i64 cc,.int .i64 cd,.int .i64 ce,.int .i64 cf,.int .i64 cg,s.v,t.v])/\
 K (.agg #[.int .i64 b9,.string ca,.int .i64 cc,.int .i64 cd,.int .i64 ce,.int .i64 cf,.int .i64 cg,s.v,t.v]) dj) de))
 (∃ bk,(Aw G ⟨d,0 + 2,none⟩ [.int .i64 bk])/\
 Calls prog 57 #[.pointer M,.int .i64 bk] G λ aj dk=>
 (∃ bl bm,(aj=.returned (.agg #[.pointer bl,.pointer bm]))/\
 New (.cells #[.pointer none,.pointer none] 102 (0,0)) (λ N d8=>
 ∃ dl:World,(St 102 ⟨N,0,none⟩ (.agg #[.pointer bl,.pointer bm]) d8 dl)/\
 Drw dl λ H d9=>
 ∃ bn,(At H ⟨d,0 + 2,none⟩ [.int .i64 bn])/\
 ∃ bo,(At H ⟨N,0,none⟩ [.pointer bo])/\
 ∃ bp,(At H ⟨N,0 + 1,none⟩ [.pointer bp])/\
 Calls prog 58 #[.pointer bo] d9 λ ak T=>
 (∃ n:Sl,(ak=.returned (n.v))/\
 (H T)/\
 Calls prog 59 #[.pointer bp] T λ al U=>
 (∃ I:Sl,(al=.returned (I.v))/\
 (H U)/\
 ∃ dn:World,(St 31 ⟨c,0,none⟩ (.agg #[.int .i64 0,.string (ByteArray.mk #[]),.int .i64 0,.int .i64 bn,.int .i64 0,.int .i64 ((↑I.len:Int)),.int .i64 0,n.v,.slice none 0 0]) U dn)/\
 Zu prog 39 [.pointer ((some ⟨c,0,none⟩))] .returning (λ dp=>∃ ch ci cj cl cm cn co,∃ u v:Sl,(Aw dp ⟨c,0,none⟩ [.int .i64 ch,.string ci,.int .i64 cj,.int .i64 cl,.int .i64 cm,.int .i64 cn,.int .i64 co,u.v,v.v])/\
 K (.agg #[.int .i64 ch,.string ci,.int .i64 cj,.int .i64 cl,.int .i64 cm,.int .i64 cn,.int .i64 co,u.v,v.v]) dp) dn)\/
 (∃ ad:List PanicEntry,(al=.panicked ad)/\Zu prog 39 [.pointer ((some ⟨c,0,none⟩))] (.panicking ad) (λ dq=>∃ cp cq cr cs cu cv cw,∃ x y:Sl,(Aw dq ⟨c,0,none⟩ [.int .i64 cp,.string cq,.int .i64 cr,.int .i64 cs,.int .i64 cu,.int .i64 cv,.int .i64 cw,x.v,y.v])/\
 K (.agg #[.int .i64 cp,.string cq,.int .i64 cr,.int .i64 cs,.int .i64 cu,.int .i64 cv,.int .i64 cw,x.v,y.v]) dq) U))\/
 (∃ ac:List PanicEntry,(ak=.panicked ac)/\Zu prog 39 [.pointer ((some ⟨c,0,none⟩))] (.panicking ac) (λ dr=>∃ cx cy cz c0 c1 c3 c4,∃ z A:Sl,(Aw dr ⟨c,0,none⟩ [.int .i64 cx,.string cy,.int .i64 cz,.int .i64 c0,.int .i64 c1,.int .i64 c3,.int .i64 c4,z.v,A.v])/\
 K (.agg #[.int .i64 cx,.string cy,.int .i64 cz,.int .i64 c0,.int .i64 c1,.int .i64 c3,.int .i64 c4,z.v,A.v]) dr) T)) dk)\/
 (∃ ab:List PanicEntry,(aj=.panicked ab)/\Zu prog 39 [.pointer ((some ⟨c,0,none⟩))] (.panicking ab) (λ ds=>∃ c5 c6 c7 c8 c9 da dc,∃ C D:Sl,(Aw ds ⟨c,0,none⟩ [.int .i64 c5,.string c6,.int .i64 c7,.int .i64 c8,.int .i64 c9,.int .i64 da,.int .i64 dc,C.v,D.v])/\
 K (.agg #[.int .i64 c5,.string c6,.int .i64 c7,.int .i64 c8,.int .i64 c9,.int .i64 da,.int .i64 dc,C.v,D.v]) ds) dk))) d7) w
def sk19:Sk:=(.cut [] [] [6,7,8,9,10,11,12,13] .leaf .leaf)
theorem Zzs (d:Option Addr) (e:Int) (f:ByteArray) (g:Int) (i:Int) (j:Int) (k:Int) (l:Nat) (m:ByteArray) (n:Int) (c:Sl) (b:Sl) (K:Value->World->Prop) (w:World) (h:B19 d e f g i j k l m n c b K w):Zm prog 19 #[.pointer d,.agg #[.int .i64 e,.string f,.int .i64 g,.int .i64 i,.int .i64 j,.int .i64 k,.float .f64 l,.string m,.int .i64 n,c.v,b.v]] w K:=cqd (sk:=sk19) func19 (by kernel_rfl) (by kernel_rfl) (by kernel_rfl) h
def B18 (d:Option Addr) (K:Value->World->Prop) (w:World):Prop:=
 New (.cells #[.slice none 0 0] 93 (0,0)) (λ k bc=>
 Drw bc λ i bj=>
 Zc d λ av=>
 ∃ O,(At i (Addr.add av 0) [.int .i64 O])/\
 Zc d λ A=>
 ∃ Q,(At i ⟨A.block,A.off + 1,none⟩ [.int .i64 Q])/\
 Zc d λ C=>
 ∃ T:Option Nat,(At i ⟨C.block,C.off + 2,none⟩ [.map T])/\
 ∃ U:Int,(∀ b,i b->((Builtin.len_ #[77] 3 #[.map T])).run prog b=.ok (.int .i64 U) b)/\
 New (.cells #[.int .i64 O,.int .i64 Q,.int .i64 U] 3 (0,0)) (λ az aq=>
 (i aq)/\
 Calls prog 49 #[.pointer ((some ⟨k,0,none⟩)),.slice ((some ⟨az,0,none⟩)) 3 3] aq λ a1 x=>
 (a1=.returned (.tuple #[]))/\
 (i x)/\
 Zc d λ D=>
 ∃ V:Option Nat,(Aw x ⟨D.block,D.off + 2,none⟩ [.map V])/\
 Calls prog 51 #[.map V] x λ a2 bl=>
 ∃ X:Value,(a2=.returned (X))/\
 Calls prog 50 #[X] bl λ a4 bm=>
 ∃ m:Sl,(a4=.returned (m.v))/\
 ∃ (r:Int->World->Prop) (ar:Int->World->Nat),(r 0 bm)/\∀ (bo:Env) (f:Int) (c:World),r f c->
 Br (decide (f<(↑m.len:Int)))
 (Rng f m.len (Zc m.a λ aw=>
 ∃ Y,(Aw c (Addr.add aw f.toNat) [.int .i64 Y])/\
 Zc d λ E=>
 ∃ Z:Option Nat,(Aw c ⟨E.block,E.off + 2,none⟩ [.map Z])/\
 ∃ aa ab:Option Addr,(∀ b,(λ b=>b=c) b->((Instr.lookup 77 (.map Z) (.int .i64 Y) false)).run prog b=.ok (.agg #[.pointer aa,.pointer ab]) b)/\
 New (.cells #[.pointer none,.pointer none] 102 (0,0)) (λ t bn=>
 ∃ y:World,(St 102 ⟨t,0,none⟩ (.agg #[.pointer aa,.pointer ab]) bn y)/\
 ∃ ac,(Aw y ⟨t,0,none⟩ [.pointer ac])/\
 Calls prog 53 #[.pointer ac] y λ a5 bd=>
 ∃ n:Sl,(a5=.returned (n.v))/\
 Calls prog 52 #[.pointer ((some ⟨k,0,none⟩)),n.v] bd λ a6 an=>
 (a6=.returned (.tuple #[]))/\
 ∃ ad,(Aw an ⟨t,0 + 1,none⟩ [.pointer ad])/\
 Calls prog 54 #[.pointer ad] an λ a7 be=>
 ∃ o:Sl,(a7=.returned (o.v))/\
 Calls prog 52 #[.pointer ((some ⟨k,0,none⟩)),o.v] be λ a8 ao=>
 (a8=.returned (.tuple #[]))/\
 (r (IntKind.i64.wrap (f + 1)) ao)/\ar (IntKind.i64.wrap (f + 1)) ao<ar f c) c))
 (Zc d λ F=>
 ∃ ae:Option Nat,(Aw c ⟨F.block,F.off + 3,none⟩ [.map ae])/\
 ∃ af:Int,(∀ b,(λ b=>b=c) b->((Builtin.len_ #[78] 3 #[.map ae])).run prog b=.ok (.int .i64 af) b)/\
 New (.cells #[.int .i64 af] 3 (0,0)) (λ a0 bf=>
 Calls prog 49 #[.pointer ((some ⟨k,0,none⟩)),.slice ((some ⟨a0,0,none⟩)) 1 1] bf λ a9 ap=>
 (a9=.returned (.tuple #[]))/\
 Zc d λ G=>
 ∃ ag:Option Nat,(Aw ap ⟨G.block,G.off + 3,none⟩ [.map ag])/\
 Calls prog 55 #[.map ag] ap λ ba bg=>
 ∃ ah:Value,(ba=.returned (ah))/\
 Calls prog 50 #[ah] bg λ bb bh=>
 ∃ p:Sl,(bb=.returned (p.v))/\
 ∃ (s:Int->World->Prop) (au:Int->World->Nat),(s 0 bh)/\∀ (bp:Env) (g:Int) (e:World),s g e->
 Br (decide (g<(↑p.len:Int)))
 (Rng g p.len (Zc p.a λ ax=>
 ∃ u,(Aw e (Addr.add ax g.toNat) [.int .i64 u])/\
 Zc d λ H=>
 ∃ ai:Option Nat,(Aw e ⟨H.block,H.off + 3,none⟩ [.map ai])/\
 ∃ q:Option Addr,(∀ b,(λ b=>b=e) b->((Instr.lookup 78 (.map ai) (.int .i64 u) false)).run prog b=.ok (.pointer q) b)/\
 Drw e λ j bi=>
 Zc q λ I=>
 ∃ aj,(At j ⟨I.block,I.off + 1,none⟩ [.int .i64 aj])/\
 Zc q λ J=>
 ∃ ak,(At j ⟨J.block,J.off + 2,none⟩ [.int .i64 ak])/\
 Zc q λ L=>
 ∃ al,(At j ⟨L.block,L.off + 3,none⟩ [.int .i64 al])/\
 Zc q λ M=>
 ∃ am,(At j ⟨M.block,M.off + 4,none⟩ [.int .i64 am])/\
 Zc q λ z=>
 ∃ N,(At j ⟨z.block,z.off + 5,none⟩ [.int .i64 N])/\
 New (.cells #[.int .i64 u,.int .i64 aj,.int .i64 ak,.int .i64 al,.int .i64 am,.int .i64 N] 3 (0,0)) (λ ay bk=>
 Calls prog 49 #[.pointer ((some ⟨k,0,none⟩)),.slice ((some ⟨ay,0,none⟩)) 6 6] bk λ a3 v=>
 (a3=.returned (.tuple #[]))/\
 (j v)/\
 (s (IntKind.i64.wrap (g + 1)) v)/\au (IntKind.i64.wrap (g + 1)) v<au g e) bi))
 (∃ l:Sl,(Aw e ⟨k,0,none⟩ [l.v])/\
 K (l.v) e)) c)) bj) w
def sk18:Sk:=(.seq .leaf (.seq .leaf (.seq .leaf (.seq (.seq .leaf (.block (.loop [35] [(.int .i64)] [5,6,35,36,37,38,39,40,41,42,43,44,45,46,47,48,49,50,51,52,53,54,55] .leaf))) (.seq .leaf (.seq (.seq .leaf (.block (.loop [71] [(.int .i64)] [8,9,71,72,73,74,75,76,77,78,79,80,81,82,83,84,85,86,87,88,89,90,91,92,93,94,95,96,97,98,99,100,101,102,103,104,105] .leaf))) .leaf))))))
theorem Zzt (a:Option Addr) (K:Value->World->Prop) (w:World) (h:B18 a K w):Zm prog 18 #[.pointer a] w K:=cq (sk:=sk18) func18 (by kernel_rfl) (by kernel_rfl) (by kernel_rfl) h
def B107 (G:Option Addr) (H:Option Addr) (N:Option Addr) (K:Value->World->Prop) (w:World):Prop:=
 New (.cells #[.pointer G,.pointer H] 102 (0,0)) (λ g I=>
 New (.cells #[.pointer N] 86 (0,0)) (λ i d=>
 ∃ v,(Aw d ⟨g,0,none⟩ [.pointer v])/\
 Br v.isNone
 (K (.bool false) d)
 (∃ x,(Aw d ⟨i,0,none⟩ [.pointer x])/\
 Zc x λ m=>
 ∃ n,(Aw d ⟨m.block,m.off + 4,none⟩ [.int .i64 n])/\
 Br (n==3)
 (Drw d λ b J=>
 ∃ o,(At b ⟨i,0,none⟩ [.pointer o])/\
 Zc o λ l=>
 ∃ p,(At b ⟨l.block,l.off + 2,none⟩ [.int .i64 p])/\
 ∃ q,(At b ⟨g,0,none⟩ [.pointer q])/\
 Calls prog 58 #[.pointer q] J λ A k=>
 ∃ j:Sl,(A=.returned (j.v))/\
 (b k)/\
 Br (decide (p<(↑j.len:Int)))
 (∃ r,(At b ⟨g,0 + 1,none⟩ [.pointer r])/\
 Calls prog 59 #[.pointer r] k λ C y=>
 ∃ e:Sl,(C=.returned (e.v))/\
 (b y)/\
 Calls prog 173 #[e.v,.func (.func 174) #[] #[.pointer ((some ⟨i,0,none⟩))]] y λ D z=>
 ∃ s,(D=.returned (.bool s))/\
 (b z)/\
 K (.bool s) z)
 (K (.bool false) k))
 (∃ t,(Aw d ⟨g,0,none⟩ [.pointer t])/\
 Calls prog 105 #[.pointer t] d λ E L=>
 ∃ f:Sl,(E=.returned (f.v))/\
 Calls prog 175 #[f.v,.func (.func 176) #[] #[.pointer ((some ⟨i,0,none⟩))]] L λ F M=>
 ∃ u,(F=.returned (.bool u))/\
 K (.bool u) M))) I) w
theorem Zr0 (a:Option Addr) (b:Option Addr) (c:Option Addr) (K:Value->World->Prop) (w:World) (h:B107 a b c K w):Zm prog 107 #[.agg #[.pointer a,.pointer b],.pointer c] w K:=cq (sk:=.leaf) func107 (by kernel_rfl) (by kernel_rfl) (by kernel_rfl) h
def B174 (u:Int) (v:Int) (x:Int) (y:Int) (z:Nat) (c:Option Addr) (K:Value->World->Prop) (w:World):Prop:=
 New (.cells #[.int .i64 u,.int .i64 v,.int .i64 x,.int .i64 y,.float .f64 z] 65 (0,0)) (λ b A=>
 Drw A λ a d=>
 ∃ n,(At a ⟨b,0,none⟩ [.int .i64 n])/\
 Zc c λ s=>
 ∃ o,(At a s [.pointer o])/\
 Zc o λ t=>
 ∃ p,(At a (Addr.add t 0) [.int .i64 p])/\
 Br (n==p)
 (∃ g,(At a ⟨b,0 + 1,none⟩ [.int .i64 g])/\
 Zc c λ q=>
 ∃ i,(At a q [.pointer i])/\
 Zc i λ e=>
 ∃ j,(At a ⟨e.block,e.off + 2,none⟩ [.int .i64 j])/\
 Br (g==j)
 (∃ k,(At a ⟨b,0 + 2,none⟩ [.int .i64 k])/\
 Zc c λ r=>
 ∃ l,(At a r [.pointer l])/\
 Zc l λ f=>
 ∃ m,(At a ⟨f.block,f.off + 3,none⟩ [.int .i64 m])/\
 K (.bool (k==m)) d)
 (K (.bool false) d))
 (K (.bool false) d)) w
theorem Zxc (b:Int) (c:Int) (d:Int) (e:Int) (f:Nat) (a:Option Addr) (K:Value->World->Prop) (w:World) (h:B174 b c d e f a K w):Zm prog 174 #[.agg #[.int .i64 b,.int .i64 c,.int .i64 d,.int .i64 e,.float .f64 f],.pointer a] w K:=cq (sk:=.leaf) func174 (by kernel_rfl) (by kernel_rfl) (by kernel_rfl) h
def B176 (x:Int) (y:Int) (z:Int) (e:Sl) (d:Option Addr) (K:Value->World->Prop) (w:World):Prop:=
 New (.cells #[.int .i64 x,.int .i64 y,.int .i64 z,e.v] 176 (0,0)) (λ c A=>
 Drw A λ b f=>
 ∃ p,(At b ⟨c,0,none⟩ [.int .i64 p])/\
 Zc d λ u=>
 ∃ q,(At b u [.pointer q])/\
 Zc q λ v=>
 ∃ r,(At b (Addr.add v 0) [.int .i64 r])/\
 Br (p==r)
 (∃ j,(At b ⟨c,0 + 1,none⟩ [.int .i64 j])/\
 Zc d λ s=>
 ∃ k,(At b s [.pointer k])/\
 Zc k λ g=>
 ∃ l,(At b ⟨g.block,g.off + 2,none⟩ [.int .i64 l])/\
 Br (j==l)
 (∃ m,(At b ⟨c,0 + 2,none⟩ [.int .i64 m])/\
 Zc d λ t=>
 ∃ n,(At b t [.pointer n])/\
 Zc n λ i=>
 ∃ o,(At b ⟨i.block,i.off + 3,none⟩ [.int .i64 o])/\
 K (.bool (m==o)) f)
 (K (.bool false) f))
 (K (.bool false) f)) w
theorem Zxa (d:Int) (e:Int) (f:Int) (b:Sl) (c:Option Addr) (K:Value->World->Prop) (w:World) (h:B176 d e f b c K w):Zm prog 176 #[.agg #[.int .i64 d,.int .i64 e,.int .i64 f,b.v],.pointer c] w K:=cq (sk:=.leaf) func176 (by kernel_rfl) (by kernel_rfl) (by kernel_rfl) h
def B37 (I:Sl) (K:Value->World->Prop) (w:World):Prop:=
 New (.cells #[.pointer none] 25 (0,0)) (λ c id=>
 New (.cells #[.int .i64 0] 27 (0,0)) (λ d ie=>
 Calls prog 76 #[I.v] ie λ c0 hv=>
 (∃ es,(c0=.returned (.pointer es))/\
 New (.cells #[.pointer none] 126 (0,0)) (λ f ig=>
 ∃ hz:World,(St 126 ⟨f,0,none⟩ (.agg #[.pointer es]) ig hz)/\
 Calls prog 14 #[] hz λ c1 h0=>
 (∃ ez,(c1=.returned (.pointer ez))/\
 ∃ h2:World,(St 25 ⟨c,0,none⟩ (.pointer ez) h0 h2)/\
 Drw h2 λ k ik=>
 ∃ e2,(At k ⟨c,0,none⟩ [.pointer e2])/\
 ∃ e6,(At k ⟨c,0,none⟩ [.pointer e6])/\
 ∃ e7,(At k ⟨f,0,none⟩ [.pointer e7])/\
 ∃ e9,(At k ⟨f,0,none⟩ [.pointer e9])/\
 Calls prog 78 #[.agg #[.pointer e7],.int .i64 1099511627776] ik λ dc bk=>
 (∃ e8,(dc=.returned (.int .i64 e8))/\
 (k bk)/\
 Calls prog 78 #[.agg #[.pointer e9],.int .i64 28629151] bk λ dn Q=>
 (∃ fa,(dn=.returned (.int .i64 fa))/\
 (k Q)/\
 Zc e2 λ ic=>
 ∃ T:World,(St 3 (Addr.add ic 0) (.int .i64 e8) Q T)/\
 (k T)/\
 Zc e6 λ bz=>
 ∃ U:World,(St 3 ⟨bz.block,bz.off + 1,none⟩ (.int .i64 fa) T U)/\
 ∃ fb,(Aw U ⟨f,0,none⟩ [.pointer fb])/\
 Calls prog 78 #[.agg #[.pointer fb],.int .i64 8] U λ du hm=>
 (∃ fc,(du=.returned (.int .i64 fc))/\
 ∃ (F:Int->Int->Int->World->Prop) (h9:Int->Int->Int->World->Nat),(F 0 0 0 hm)/\∀ (il:Env) (J:Int) (x:Int) (r:Int) (o:World),F J x r o->
 Br (decide (r<fc))
 (∃ fr,(Aw o ⟨f,0,none⟩ [.pointer fr])/\
 Calls prog 102 #[.pointer fr,.int .i64 65536] o λ dv hn=>
 (∃ m:Sl,(dv=.returned (m.v))/\
 Calls prog 101 #[m.v] hn λ dw V=>
 (∃ s fs,(dw=.returned (.tuple #[.pointer s,.int .i64 fs]))/\
 ∃ ft,(Aw V ⟨f,0,none⟩ [.pointer ft])/\
 Calls prog 102 #[.pointer ft,.int .i64 65536] V λ dx ho=>
 (∃ n:Sl,(dx=.returned (n.v))/\
 Calls prog 103 #[n.v] ho λ dy C=>
 (∃ N fu,(dy=.returned (.tuple #[.pointer N,.int .i64 fu]))/\
 ∃ (z:World->Prop),(Br (fs==0)
 (Br (fu==0)
 (Calls prog 104 #[.pointer s] C λ dz hp=>
 (∃ fv,(dz=.returned (.int .i64 fv))/\
 Calls prog 100 #[.bool (decide (fv>J))] hp λ c2 hq=>
 ((c2=.returned (.tuple #[]))/\
 z  hq)\/
 (∃ b3:List PanicEntry,(c2=.panicked b3)/\Zu prog 99 [.pointer ((some ⟨c,0,none⟩)),.pointer ((some ⟨d,0,none⟩))] (.panicking b3) (λ X=>∃ fw,(Aw X ⟨c,0,none⟩ [.pointer fw])/\
 ∃ fx,(Aw X ⟨d,0,none⟩ [.int .i64 fx])/\
 K (.tuple #[.pointer fw,.int .i64 fx]) X) hq))\/
 (∃ cz:List PanicEntry,(dz=.panicked cz)/\Zu prog 99 [.pointer ((some ⟨c,0,none⟩)),.pointer ((some ⟨d,0,none⟩))] (.panicking cz) (λ Y=>∃ fy,(Aw Y ⟨c,0,none⟩ [.pointer fy])/\
 ∃ fz,(Aw Y ⟨d,0,none⟩ [.int .i64 fz])/\
 K (.tuple #[.pointer fy,.int .i64 fz]) Y) hp))
 (Calls prog 100 #[.bool false] C λ c3 hr=>
 ((c3=.returned (.tuple #[]))/\
 z  hr)\/
 (∃ b4:List PanicEntry,(c3=.panicked b4)/\Zu prog 99 [.pointer ((some ⟨c,0,none⟩)),.pointer ((some ⟨d,0,none⟩))] (.panicking b4) (λ Z=>∃ f0,(Aw Z ⟨c,0,none⟩ [.pointer f0])/\
 ∃ f1,(Aw Z ⟨d,0,none⟩ [.int .i64 f1])/\
 K (.tuple #[.pointer f0,.int .i64 f1]) Z) hr)))
 (Calls prog 100 #[.bool false] C λ c4 hs=>
 ((c4=.returned (.tuple #[]))/\
 z  hs)\/
 (∃ b5:List PanicEntry,(c4=.panicked b5)/\Zu prog 99 [.pointer ((some ⟨c,0,none⟩)),.pointer ((some ⟨d,0,none⟩))] (.panicking b5) (λ aa=>∃ f2,(Aw aa ⟨c,0,none⟩ [.pointer f2])/\
 ∃ f3,(Aw aa ⟨d,0,none⟩ [.int .i64 f3])/\
 K (.tuple #[.pointer f2,.int .i64 f3]) aa) hs)))/\
 ∀ (im:Env)  (ht:World),z  ht->
 Calls prog 104 #[.pointer s] ht λ c5 D=>
 (∃ A,(c5=.returned (.int .i64 A))/\
 ∃ f4,(Aw D ⟨c,0,none⟩ [.pointer f4])/\
 Zc f4 λ b0=>
 ∃ f5:Option Nat,(Aw D ⟨b0.block,b0.off + 2,none⟩ [.map f5])/\
 ∃ hu:World,((Instr.mapUpdate 77 (.map f5) (.int .i64 A) (.agg #[.pointer s,.pointer N])).run prog D=.ok () hu)/\
 Calls prog 105 #[.pointer s] hu λ c6 hw=>
 (∃ t:Sl,(c6=.returned (t.v))/\
 Calls prog 59 #[.pointer N] hw λ c7 ab=>
 (∃ u:Sl,(c7=.returned (u.v))/\
 (F A (IntKind.i64.wrap (x + IntKind.i64.wrap ((↑t.len:Int) + (↑u.len:Int)))) (IntKind.i64.wrap (r + 1)) ab)/\h9 A (IntKind.i64.wrap (x + IntKind.i64.wrap ((↑t.len:Int) + (↑u.len:Int)))) (IntKind.i64.wrap (r + 1)) ab<h9 J x r o)\/
 (∃ b8:List PanicEntry,(c7=.panicked b8)/\Zu prog 99 [.pointer ((some ⟨c,0,none⟩)),.pointer ((some ⟨d,0,none⟩))] (.panicking b8) (λ ac=>∃ fd,(Aw ac ⟨c,0,none⟩ [.pointer fd])/\
 ∃ fj,(Aw ac ⟨d,0,none⟩ [.int .i64 fj])/\
 K (.tuple #[.pointer fd,.int .i64 fj]) ac) ab))\/
 (∃ b7:List PanicEntry,(c6=.panicked b7)/\Zu prog 99 [.pointer ((some ⟨c,0,none⟩)),.pointer ((some ⟨d,0,none⟩))] (.panicking b7) (λ ad=>∃ fk,(Aw ad ⟨c,0,none⟩ [.pointer fk])/\
 ∃ fl,(Aw ad ⟨d,0,none⟩ [.int .i64 fl])/\
 K (.tuple #[.pointer fk,.int .i64 fl]) ad) hw))\/
 (∃ b6:List PanicEntry,(c5=.panicked b6)/\Zu prog 99 [.pointer ((some ⟨c,0,none⟩)),.pointer ((some ⟨d,0,none⟩))] (.panicking b6) (λ ae=>∃ fm,(Aw ae ⟨c,0,none⟩ [.pointer fm])/\
 ∃ fn,(Aw ae ⟨d,0,none⟩ [.int .i64 fn])/\
 K (.tuple #[.pointer fm,.int .i64 fn]) ae) D))\/
 (∃ cy:List PanicEntry,(dy=.panicked cy)/\Zu prog 99 [.pointer ((some ⟨c,0,none⟩)),.pointer ((some ⟨d,0,none⟩))] (.panicking cy) (λ af=>∃ fo,(Aw af ⟨c,0,none⟩ [.pointer fo])/\
 ∃ fp,(Aw af ⟨d,0,none⟩ [.int .i64 fp])/\
 K (.tuple #[.pointer fo,.int .i64 fp]) af) C))\/
 (∃ cx:List PanicEntry,(dx=.panicked cx)/\Zu prog 99 [.pointer ((some ⟨c,0,none⟩)),.pointer ((some ⟨d,0,none⟩))] (.panicking cx) (λ ag=>∃ fq,(Aw ag ⟨c,0,none⟩ [.pointer fq])/\
 ∃ fe,(Aw ag ⟨d,0,none⟩ [.int .i64 fe])/\
 K (.tuple #[.pointer fq,.int .i64 fe]) ag) ho))\/
 (∃ cw:List PanicEntry,(dw=.panicked cw)/\Zu prog 99 [.pointer ((some ⟨c,0,none⟩)),.pointer ((some ⟨d,0,none⟩))] (.panicking cw) (λ ah=>∃ ff,(Aw ah ⟨c,0,none⟩ [.pointer ff])/\
 ∃ fg,(Aw ah ⟨d,0,none⟩ [.int .i64 fg])/\
 K (.tuple #[.pointer ff,.int .i64 fg]) ah) V))\/
 (∃ cv:List PanicEntry,(dv=.panicked cv)/\Zu prog 99 [.pointer ((some ⟨c,0,none⟩)),.pointer ((some ⟨d,0,none⟩))] (.panicking cv) (λ ai=>∃ fh,(Aw ai ⟨c,0,none⟩ [.pointer fh])/\
 ∃ fi,(Aw ai ⟨d,0,none⟩ [.int .i64 fi])/\
 K (.tuple #[.pointer fh,.int .i64 fi]) ai) hn))
 (∃ f6,(Aw o ⟨f,0,none⟩ [.pointer f6])/\
 Calls prog 78 #[.agg #[.pointer f6],.int .i64 300] o λ c8 hx=>
 (∃ O,(c8=.returned (.int .i64 O))/\
 ∃ (G:Int->Int->World->Prop) (ia:Int->Int->World->Nat),(G 0 0 hx)/\∀ (io:Env) (L:Int) (v:Int) (y:World),G L v y->
 Br (decide (v<O))
 (Drw y λ i ih=>
 ∃ gn,(At i ⟨f,0,none⟩ [.pointer gn])/\
 ∃ gs,(At i ⟨f,0,none⟩ [.pointer gs])/\
 ∃ gu,(At i ⟨f,0,none⟩ [.pointer gu])/\
 Calls prog 78 #[.agg #[.pointer gn],.int .i64 28629151] ih λ c9 aj=>
 (∃ go,(c9=.returned (.int .i64 go))/\
 (i aj)/\
 Calls prog 106 #[.pointer ((some ⟨f,0,none⟩))] aj λ da ak=>
 (∃ gp,(da=.returned (.int .i64 gp))/\
 (i ak)/\
 Calls prog 106 #[.pointer ((some ⟨f,0,none⟩))] ak λ db al=>
 (∃ gq,(db=.returned (.int .i64 gq))/\
 (i al)/\
 Calls prog 106 #[.pointer ((some ⟨f,0,none⟩))] al λ dd am=>
 (∃ gr,(dd=.returned (.int .i64 gr))/\
 (i am)/\
 Calls prog 78 #[.agg #[.pointer gs],.int .i64 3] am λ de an=>
 (∃ gt,(de=.returned (.int .i64 gt))/\
 (i an)/\
 Calls prog 78 #[.agg #[.pointer gu],.int .i64 1099511627776] an λ df ao=>
 (∃ gv,(df=.returned (.int .i64 gv))/\
 (i ao)/\
 New (.cells #[.int .i64 go,.int .i64 gp,.int .i64 gq,.int .i64 gr,.int .i64 gt,.int .i64 gv] 106 (0,0)) (λ g hy=>
 (i hy)/\
 ∃ (j:World->Prop),(Drw hy λ e p=>
 ∃ d0,(At e ⟨g,0,none⟩ [.int .i64 d0])/\
 Br (decide (d0>L))
 (∃ d1,(At e ⟨g,0,none⟩ [.int .i64 d1])/\
 ∃ d2,(At e ⟨c,0,none⟩ [.pointer d2])/\
 Zc d2 λ bu=>
 ∃ d3,(At e ⟨bu.block,bu.off + 1,none⟩ [.int .i64 d3])/\
 Br (decide (d1<d3))
 (∃ d4,(At e ⟨g,0 + 4,none⟩ [.int .i64 d4])/\
 Br (decide (d4 >= 1))
 (∃ d5,(At e ⟨g,0 + 4,none⟩ [.int .i64 d5])/\
 ∃ d6,(At e ⟨g,0 + 5,none⟩ [.int .i64 d6])/\
 ∃ d7,(At e ⟨c,0,none⟩ [.pointer d7])/\
 Zc d7 λ ib=>
 ∃ d8,(At e (Addr.add ib 0) [.int .i64 d8])/\
 Br ((d5==1)==decide (d6>d8))
 (∃ d9,(At e ⟨g,0 + 4,none⟩ [.int .i64 d9])/\
 Br (d9==1)
 (Calls prog 100 #[.bool true] p λ dg ap=>
 ((dg=.returned (.tuple #[]))/\
 (e ap)/\
 j  ap)\/
 (∃ ch:List PanicEntry,(dg=.panicked ch)/\Zu prog 99 [.pointer ((some ⟨c,0,none⟩)),.pointer ((some ⟨d,0,none⟩))] (.panicking ch) (λ aq=>∃ eb,(Aw aq ⟨c,0,none⟩ [.pointer eb])/\
 ∃ ec,(Aw aq ⟨d,0,none⟩ [.int .i64 ec])/\
 K (.tuple #[.pointer eb,.int .i64 ec]) aq) ap))
 (∃ ea,(At e ⟨g,0 + 5,none⟩ [.int .i64 ea])/\
 Calls prog 100 #[.bool (ea==0)] p λ dh ar=>
 ((dh=.returned (.tuple #[]))/\
 (e ar)/\
 j  ar)\/
 (∃ ci:List PanicEntry,(dh=.panicked ci)/\Zu prog 99 [.pointer ((some ⟨c,0,none⟩)),.pointer ((some ⟨d,0,none⟩))] (.panicking ci) (λ au=>∃ ef,(Aw au ⟨c,0,none⟩ [.pointer ef])/\
 ∃ eg,(Aw au ⟨d,0,none⟩ [.int .i64 eg])/\
 K (.tuple #[.pointer ef,.int .i64 eg]) au) ar)))
 (Calls prog 100 #[.bool false] p λ di av=>
 ((di=.returned (.tuple #[]))/\
 (e av)/\
 j  av)\/
 (∃ cj:List PanicEntry,(di=.panicked cj)/\Zu prog 99 [.pointer ((some ⟨c,0,none⟩)),.pointer ((some ⟨d,0,none⟩))] (.panicking cj) (λ aw=>∃ eh,(Aw aw ⟨c,0,none⟩ [.pointer eh])/\
 ∃ ei,(Aw aw ⟨d,0,none⟩ [.int .i64 ei])/\
 K (.tuple #[.pointer eh,.int .i64 ei]) aw) av)))
 (Calls prog 100 #[.bool false] p λ dj ax=>
 ((dj=.returned (.tuple #[]))/\
 (e ax)/\
 j  ax)\/
 (∃ ck:List PanicEntry,(dj=.panicked ck)/\Zu prog 99 [.pointer ((some ⟨c,0,none⟩)),.pointer ((some ⟨d,0,none⟩))] (.panicking ck) (λ ay=>∃ ej,(Aw ay ⟨c,0,none⟩ [.pointer ej])/\
 ∃ ek,(Aw ay ⟨d,0,none⟩ [.int .i64 ek])/\
 K (.tuple #[.pointer ej,.int .i64 ek]) ay) ax)))
 (Calls prog 100 #[.bool false] p λ dk az=>
 ((dk=.returned (.tuple #[]))/\
 (e az)/\
 j  az)\/
 (∃ cl:List PanicEntry,(dk=.panicked cl)/\Zu prog 99 [.pointer ((some ⟨c,0,none⟩)),.pointer ((some ⟨d,0,none⟩))] (.panicking cl) (λ a0=>∃ el,(Aw a0 ⟨c,0,none⟩ [.pointer el])/\
 ∃ em,(Aw a0 ⟨d,0,none⟩ [.int .i64 em])/\
 K (.tuple #[.pointer el,.int .i64 em]) a0) az)))
 (Calls prog 100 #[.bool false] p λ dl a1=>
 ((dl=.returned (.tuple #[]))/\
 (e a1)/\
 j  a1)\/
 (∃ cm:List PanicEntry,(dl=.panicked cm)/\Zu prog 99 [.pointer ((some ⟨c,0,none⟩)),.pointer ((some ⟨d,0,none⟩))] (.panicking cm) (λ a2=>∃ ed,(Aw a2 ⟨c,0,none⟩ [.pointer ed])/\
 ∃ ee,(Aw a2 ⟨d,0,none⟩ [.int .i64 ee])/\
 K (.tuple #[.pointer ed,.int .i64 ee]) a2) a1)))/\
 ∀ (ip:Env)  (h1:World),j  h1->
 Drw h1 λ l ii=>
 ∃ en,(At l ⟨c,0,none⟩ [.pointer en])/\
 Zc en λ bv=>
 ∃ eo:Option Nat,(At l ⟨bv.block,bv.off + 2,none⟩ [.map eo])/\
 ∃ ep,(At l ⟨g,0 + 1,none⟩ [.int .i64 ep])/\
 ∃ eq er:Option Addr,(∀ b,l b->((Instr.lookup 77 (.map eo) (.int .i64 ep) false)).run prog b=.ok (.agg #[.pointer eq,.pointer er]) b)/\
 Calls prog 107 #[.agg #[.pointer eq,.pointer er],.pointer ((some ⟨g,0,none⟩))] ii λ dm a3=>
 (∃ et,(dm=.returned (.bool et))/\
 (l a3)/\
 Calls prog 100 #[.bool et] a3 λ dp E=>
 ((dp=.returned (.tuple #[]))/\
 (l E)/\
 ∃ M,(Aw E ⟨g,0,none⟩ [.int .i64 M])/\
 Drw E λ H ij=>
 ∃ eu,(At H ⟨c,0,none⟩ [.pointer eu])/\
 Zc eu λ bw=>
 ∃ ev:Option Nat,(At H ⟨bw.block,bw.off + 3,none⟩ [.map ev])/\
 ∃ ew,(At H ⟨g,0,none⟩ [.int .i64 ew])/\
 ∃ a4:World,((Instr.mapUpdate 78 (.map ev) (.int .i64 ew) (.pointer ((some ⟨g,0,none⟩)))).run prog ij=.ok () a4)/\
 (G M (IntKind.i64.wrap (v + 1)) a4)/\ia M (IntKind.i64.wrap (v + 1)) a4<ia L v y)\/
 (∃ cp:List PanicEntry,(dp=.panicked cp)/\Zu prog 99 [.pointer ((some ⟨c,0,none⟩)),.pointer ((some ⟨d,0,none⟩))] (.panicking cp) (λ a5=>∃ f7,(Aw a5 ⟨c,0,none⟩ [.pointer f7])/\
 ∃ gf,(Aw a5 ⟨d,0,none⟩ [.int .i64 gf])/\
 K (.tuple #[.pointer f7,.int .i64 gf]) a5) E))\/
 (∃ cn:List PanicEntry,(dm=.panicked cn)/\Zu prog 99 [.pointer ((some ⟨c,0,none⟩)),.pointer ((some ⟨d,0,none⟩))] (.panicking cn) (λ a6=>∃ gg,(Aw a6 ⟨c,0,none⟩ [.pointer gg])/\
 ∃ gh,(Aw a6 ⟨d,0,none⟩ [.int .i64 gh])/\
 K (.tuple #[.pointer gg,.int .i64 gh]) a6) a3)) ao)\/
 (∃ cg:List PanicEntry,(df=.panicked cg)/\Zu prog 99 [.pointer ((some ⟨c,0,none⟩)),.pointer ((some ⟨d,0,none⟩))] (.panicking cg) (λ a7=>∃ gi,(Aw a7 ⟨c,0,none⟩ [.pointer gi])/\
 ∃ gj,(Aw a7 ⟨d,0,none⟩ [.int .i64 gj])/\
 K (.tuple #[.pointer gi,.int .i64 gj]) a7) ao))\/
 (∃ cf:List PanicEntry,(de=.panicked cf)/\Zu prog 99 [.pointer ((some ⟨c,0,none⟩)),.pointer ((some ⟨d,0,none⟩))] (.panicking cf) (λ a8=>∃ gk,(Aw a8 ⟨c,0,none⟩ [.pointer gk])/\
 ∃ gl,(Aw a8 ⟨d,0,none⟩ [.int .i64 gl])/\
 K (.tuple #[.pointer gk,.int .i64 gl]) a8) an))\/
 (∃ ce:List PanicEntry,(dd=.panicked ce)/\Zu prog 99 [.pointer ((some ⟨c,0,none⟩)),.pointer ((some ⟨d,0,none⟩))] (.panicking ce) (λ a9=>∃ gm,(Aw a9 ⟨c,0,none⟩ [.pointer gm])/\
 ∃ f8,(Aw a9 ⟨d,0,none⟩ [.int .i64 f8])/\
 K (.tuple #[.pointer gm,.int .i64 f8]) a9) am))\/
 (∃ cc:List PanicEntry,(db=.panicked cc)/\Zu prog 99 [.pointer ((some ⟨c,0,none⟩)),.pointer ((some ⟨d,0,none⟩))] (.panicking cc) (λ ba=>∃ f9,(Aw ba ⟨c,0,none⟩ [.pointer f9])/\
 ∃ ga,(Aw ba ⟨d,0,none⟩ [.int .i64 ga])/\
 K (.tuple #[.pointer f9,.int .i64 ga]) ba) al))\/
 (∃ cb:List PanicEntry,(da=.panicked cb)/\Zu prog 99 [.pointer ((some ⟨c,0,none⟩)),.pointer ((some ⟨d,0,none⟩))] (.panicking cb) (λ bb=>∃ gb,(Aw bb ⟨c,0,none⟩ [.pointer gb])/\
 ∃ gc,(Aw bb ⟨d,0,none⟩ [.int .i64 gc])/\
 K (.tuple #[.pointer gb,.int .i64 gc]) bb) ak))\/
 (∃ ca:List PanicEntry,(c9=.panicked ca)/\Zu prog 99 [.pointer ((some ⟨c,0,none⟩)),.pointer ((some ⟨d,0,none⟩))] (.panicking ca) (λ bc=>∃ gd,(Aw bc ⟨c,0,none⟩ [.pointer gd])/\
 ∃ ge,(Aw bc ⟨d,0,none⟩ [.int .i64 ge])/\
 K (.tuple #[.pointer gd,.int .i64 ge]) bc) aj))
 (∃ ex,(Aw y ⟨f,0,none⟩ [.pointer ex])/\
 Calls prog 83 #[.pointer ex] y λ dq q=>
 (∃ ey,(dq=.returned (.bool ey))/\
 Br ey
 (∃ e0,(Aw q ⟨c,0,none⟩ [.pointer e0])/\
 Zc e0 λ bx=>
 ∃ e1,(Aw q ⟨bx.block,bx.off + 1,none⟩ [.int .i64 e1])/\
 Br (decide (e1 >= 1))
 (Calls prog 100 #[.bool (x==O)] q λ dr bd=>
 ((dr=.returned (.tuple #[]))/\
 ∃ e3,(Aw bd ⟨c,0,none⟩ [.pointer e3])/\
 ∃ h3:World,(St 25 ⟨c,0,none⟩ (.pointer e3) bd h3)/\
 ∃ h4:World,(St 27 ⟨d,0,none⟩ (.int .i64 0) h3 h4)/\
 Zu prog 99 [.pointer ((some ⟨c,0,none⟩)),.pointer ((some ⟨d,0,none⟩))] .returning (λ be=>∃ gw,(Aw be ⟨c,0,none⟩ [.pointer gw])/\
 ∃ gx,(Aw be ⟨d,0,none⟩ [.int .i64 gx])/\
 K (.tuple #[.pointer gw,.int .i64 gx]) be) h4)\/
 (∃ cr:List PanicEntry,(dr=.panicked cr)/\Zu prog 99 [.pointer ((some ⟨c,0,none⟩)),.pointer ((some ⟨d,0,none⟩))] (.panicking cr) (λ bf=>∃ g8,(Aw bf ⟨c,0,none⟩ [.pointer g8])/\
 ∃ hf,(Aw bf ⟨d,0,none⟩ [.int .i64 hf])/\
 K (.tuple #[.pointer g8,.int .i64 hf]) bf) bd))
 (Calls prog 100 #[.bool false] q λ ds bg=>
 ((ds=.returned (.tuple #[]))/\
 ∃ e4,(Aw bg ⟨c,0,none⟩ [.pointer e4])/\
 ∃ h5:World,(St 25 ⟨c,0,none⟩ (.pointer e4) bg h5)/\
 ∃ h6:World,(St 27 ⟨d,0,none⟩ (.int .i64 0) h5 h6)/\
 Zu prog 99 [.pointer ((some ⟨c,0,none⟩)),.pointer ((some ⟨d,0,none⟩))] .returning (λ bh=>∃ hg,(Aw bh ⟨c,0,none⟩ [.pointer hg])/\
 ∃ hh,(Aw bh ⟨d,0,none⟩ [.int .i64 hh])/\
 K (.tuple #[.pointer hg,.int .i64 hh]) bh) h6)\/
 (∃ cs:List PanicEntry,(ds=.panicked cs)/\Zu prog 99 [.pointer ((some ⟨c,0,none⟩)),.pointer ((some ⟨d,0,none⟩))] (.panicking cs) (λ bi=>∃ hi,(Aw bi ⟨c,0,none⟩ [.pointer hi])/\
 ∃ hj,(Aw bi ⟨d,0,none⟩ [.int .i64 hj])/\
 K (.tuple #[.pointer hi,.int .i64 hj]) bi) bg)))
 (Calls prog 100 #[.bool false] q λ dt bj=>
 ((dt=.returned (.tuple #[]))/\
 ∃ e5,(Aw bj ⟨c,0,none⟩ [.pointer e5])/\
 ∃ h7:World,(St 25 ⟨c,0,none⟩ (.pointer e5) bj h7)/\
 ∃ h8:World,(St 27 ⟨d,0,none⟩ (.int .i64 0) h7 h8)/\
 Zu prog 99 [.pointer ((some ⟨c,0,none⟩)),.pointer ((some ⟨d,0,none⟩))] .returning (λ bl=>∃ hk,(Aw bl ⟨c,0,none⟩ [.pointer hk])/\
 ∃ hl,(Aw bl ⟨d,0,none⟩ [.int .i64 hl])/\
 K (.tuple #[.pointer hk,.int .i64 hl]) bl) h8)\/
 (∃ ct:List PanicEntry,(dt=.panicked ct)/\Zu prog 99 [.pointer ((some ⟨c,0,none⟩)),.pointer ((some ⟨d,0,none⟩))] (.panicking ct) (λ bm=>∃ gy,(Aw bm ⟨c,0,none⟩ [.pointer gy])/\
 ∃ gz,(Aw bm ⟨d,0,none⟩ [.int .i64 gz])/\
 K (.tuple #[.pointer gy,.int .i64 gz]) bm) bj)))\/
 (∃ cq:List PanicEntry,(dq=.panicked cq)/\Zu prog 99 [.pointer ((some ⟨c,0,none⟩)),.pointer ((some ⟨d,0,none⟩))] (.panicking cq) (λ bn=>∃ g0,(Aw bn ⟨c,0,none⟩ [.pointer g0])/\
 ∃ g1,(Aw bn ⟨d,0,none⟩ [.int .i64 g1])/\
 K (.tuple #[.pointer g0,.int .i64 g1]) bn) q)))\/
 (∃ b9:List PanicEntry,(c8=.panicked b9)/\Zu prog 99 [.pointer ((some ⟨c,0,none⟩)),.pointer ((some ⟨d,0,none⟩))] (.panicking b9) (λ bo=>∃ g2,(Aw bo ⟨c,0,none⟩ [.pointer g2])/\
 ∃ g3,(Aw bo ⟨d,0,none⟩ [.int .i64 g3])/\
 K (.tuple #[.pointer g2,.int .i64 g3]) bo) hx)))\/
 (∃ cu:List PanicEntry,(du=.panicked cu)/\Zu prog 99 [.pointer ((some ⟨c,0,none⟩)),.pointer ((some ⟨d,0,none⟩))] (.panicking cu) (λ bp=>∃ g4,(Aw bp ⟨c,0,none⟩ [.pointer g4])/\
 ∃ g5,(Aw bp ⟨d,0,none⟩ [.int .i64 g5])/\
 K (.tuple #[.pointer g4,.int .i64 g5]) bp) hm))\/
 (∃ co:List PanicEntry,(dn=.panicked co)/\Zu prog 99 [.pointer ((some ⟨c,0,none⟩)),.pointer ((some ⟨d,0,none⟩))] (.panicking co) (λ bq=>∃ g6,(Aw bq ⟨c,0,none⟩ [.pointer g6])/\
 ∃ g7,(Aw bq ⟨d,0,none⟩ [.int .i64 g7])/\
 K (.tuple #[.pointer g6,.int .i64 g7]) bq) Q))\/
 (∃ cd:List PanicEntry,(dc=.panicked cd)/\Zu prog 99 [.pointer ((some ⟨c,0,none⟩)),.pointer ((some ⟨d,0,none⟩))] (.panicking cd) (λ br=>∃ g9,(Aw br ⟨c,0,none⟩ [.pointer g9])/\
 ∃ ha,(Aw br ⟨d,0,none⟩ [.int .i64 ha])/\
 K (.tuple #[.pointer g9,.int .i64 ha]) br) bk))\/
 (∃ b2:List PanicEntry,(c1=.panicked b2)/\Zu prog 99 [.pointer ((some ⟨c,0,none⟩)),.pointer ((some ⟨d,0,none⟩))] (.panicking b2) (λ bs=>∃ hb,(Aw bs ⟨c,0,none⟩ [.pointer hb])/\
 ∃ hc,(Aw bs ⟨d,0,none⟩ [.int .i64 hc])/\
 K (.tuple #[.pointer hb,.int .i64 hc]) bs) h0)) hv)\/
 (∃ b1:List PanicEntry,(c0=.panicked b1)/\Zu prog 99 [.pointer ((some ⟨c,0,none⟩)),.pointer ((some ⟨d,0,none⟩))] (.panicking b1) (λ bt=>∃ hd,(Aw bt ⟨c,0,none⟩ [.pointer hd])/\
 ∃ he,(Aw bt ⟨d,0,none⟩ [.int .i64 he])/\
 K (.tuple #[.pointer hd,.int .i64 he]) bt) hv)) id) w
def sk37:Sk:=(.seq .leaf (.seq .leaf (.seq .leaf (.seq .leaf (.seq .leaf (.seq (.seq .leaf (.block (.loop [6,7,32] [(.int .i64),(.int .i64),(.int .i64)] [6,7,8,9,10,11,32,33,34,35,36,37,38,39,40,41,42,43,44,45,46,47,48,49,50,51,52,53,54,55,56,57,58,59,60,61,62,63,64,65,66,67,68,69,70,71,72,73,74,75,76,77,78,79,80,81] (.seq .leaf (.seq .leaf (.seq (.block (.seq .leaf (.seq .leaf (.cut [] [] [48,49,50,51,52,53,54,55,56,57,58,59,60,61] .leaf .leaf)))) .leaf)))))) (.seq .leaf (.seq .leaf (.seq (.seq .leaf (.block (.loop [6,85] [(.int .i64),(.int .i64)] [6,13,14,85,86,87,88,89,90,91,92,93,94,95,96,97,98,99,100,101,102,103,104,105,106,107,108,109,110,111,112,113,114,115,116,117,118,119,120,121,122,123,124,125,126,127,128,129,130,131,132,133,134,135,136,137,138,139,140,141,142,143,144,145,146,147,148,149,150,151,152,153,154,155,156,157,158,159,160,161,162,163,164,165,166,167,168,169,170,171,172,173,174,175,176,177,178,179,180,181,182,183,184,185] (.seq .leaf (.seq .leaf (.seq (.block (.seq .leaf (.seq .leaf (.cut [] [] [102,103,104,105,106,107,108,109,110,111,112,113,114,115,116,117,118,119,120,121,122,123,124,125,126,127,128,129,130,131,132,133,134,135,136,137,138,139,140,141,142,143,144,145,146,147,148,149,150,151,152,153,154,155,156,157,158] .leaf .leaf)))) .leaf)))))) .leaf)))))))))
theorem Zzo (b:Sl) (K:Value->World->Prop) (w:World) (h:B37 b K w):Zm prog 37 #[b.v] w K:=cqd (sk:=sk37) func37 (by kernel_rfl) (by kernel_rfl) (by kernel_rfl) h
def B99 (i:Option Addr) (j:Option Addr) (c:Value) (K:World->Prop) (w:World):Prop:=
 ∃ e:Bool,(∀ a,(λ a=>a=w) a->((do eqGuard BinOp.neq 20 (Operand.tmp 4) (Operand.const Value.nilIface) c .nilIface;binOp BinOp.neq 20 c .nilIface:Sem Value)).run prog a=.ok (.bool e) a)/\
 Br e
 (Drw w λ d k=>
 ∃ f:Int,(∀ a,d a->((Instr.typeAssert c 20 27 false)).run prog a=.ok (.int .i64 f) a)/\
 ∃ b:World,((Instr.storeAt 25 (.pointer i) (.pointer none)).run prog k=.ok () b)/\
 (d b)/\
 ∃ g:World,((Instr.storeAt 27 (.pointer j) (.int .i64 f)).run prog b=.ok () g)/\
 K g)
 (K w)
theorem Zv9 (b:Option Addr) (c:Option Addr) (a:Value) (K:World->Prop) (w:World) (h:B99 b c a K w):CallsD prog 99 #[.pointer b,.pointer c] (.panicking [⟨a,false,false⟩]) w λ d e f=>(∃ g,d=.returned g)/\e=.panicking [⟨a,true,false⟩]/\K f:=
 Zg2 (sk:=.leaf) Zka mixed func99 (by kernel_rfl) (Nat.le_of_ble_eq_true (by kernel_rfl)) (cast (by kernel_rfl) h)
theorem Zv7 (a:Option Addr) (b:Option Addr) (K:World->Prop) (w:World) (h:B99 a b .nilIface K w):CallsD prog 99 #[.pointer a,.pointer b] .returning w λ c d e=>(∃ f,c=.returned f)/\d=.returning/\K e:=
 ZfA (sk:=.leaf) Zka mixed func99 (by kernel_rfl) (Nat.le_of_ble_eq_true (by kernel_rfl)) (cast (by kernel_rfl) h)
def B100 (e:Bool) (d:List PanicEntry->World->Prop) (K:Value->World->Prop) (w:World):Prop:=
 Calls prog 40 #[.bool e,.int .i64 6] w λ b c=>
 ((b=.returned (.tuple #[]))/\
 K (.tuple #[]) c)\/
 (∃ a:List PanicEntry,(b=.panicked a)/\d a c)
theorem Zx3 (b:Bool) (a:List PanicEntry->World->Prop) (K:Value->World->Prop) (w:World) (h:B100 b a K w):ZaX prog 100 #[.bool b] w a K:=cqx (sk:=.leaf) func100 (by kernel_rfl) (by kernel_rfl) (by kernel_rfl) h
def B106 (d:Option Addr) (K:Value->World->Prop) (w:World):Prop:=
 Zc d λ c=>
 ∃ a,(Aw w c [.pointer a])/\
 Calls prog 78 #[.agg #[.pointer a],.int .i64 9999] w λ e g=>
 ∃ b,(e=.returned (.int .i64 b))/\
 K (.int .i64 b) g
theorem ZxX (a:Option Addr) (K:Value->World->Prop) (w:World) (h:B106 a K w):Zm prog 106 #[.pointer a] w K:=cq (sk:=.leaf) func106 (by kernel_rfl) (by kernel_rfl) (by kernel_rfl) h
end
section
open Go Go.VC Tryz
set_option maxRecDepth 10000
def B89 (d:Nat) (K:Value->World->Prop) (w:World):Prop:=
 Ext prog 149 #[.float .f64 d] w λ c b=>
 ∃ a,(c=.returned (.int .u64 a))/\
 Br (decide (a<9223372036854775808))
 (K (.int .u64 (IntKind.u64.wrap (a + 9223372036854775808))) b)
 (K (.int .u64 (IntKind.u64.wrap (18446744073709551615 - a))) b)
theorem ZyZ (a:Nat) (K:Value->World->Prop) (w:World) (h:B89 a K w):Zm prog 89 #[.float .f64 a] w K:=cq (sk:=.leaf) func89 (by kernel_rfl) (by kernel_rfl) (by kernel_rfl) h
def B93 (a:Int) (K:Value->World->Prop) (w:World):Prop:=
 Br (decide (a >= 9223372036854775808))
 (Ext prog 151 #[.int .u64 (IntKind.u64.wrap (a - 9223372036854775808))] w λ d f=>
 ∃ c,(d=.returned (.float .f64 c))/\
 K (.float .f64 c) f)
 (Ext prog 151 #[.int .u64 (IntKind.u64.wrap (18446744073709551615 - a))] w λ e g=>
 ∃ b,(e=.returned (.float .f64 b))/\
 K (.float .f64 b) g)
theorem ZyY (a:Int) (K:Value->World->Prop) (w:World) (h:B93 a K w):Zm prog 93 #[.int .u64 a] w K:=cq (sk:=.leaf) func93 (by kernel_rfl) (by kernel_rfl) (by kernel_rfl) h
def B255 (b:Nat) (c:Nat) (K:Value->World->Prop) (w:World):Prop:=
 ∃ d:Bool,(∀ a,(λ a=>a=w) a->((do eqGuard BinOp.neq 33 (Operand.tmp 7) (Operand.tmp 8) (.float .f64 b) (.float .f64 b);binOp BinOp.neq 33 (.float .f64 b) (.float .f64 b):Sem Value)).run prog a=.ok (.bool d) a)/\
 ∃ e:Bool,(∀ a,(λ a=>a=w) a->((do eqGuard BinOp.neq 33 (Operand.tmp 10) (Operand.tmp 11) (.float .f64 c) (.float .f64 c);binOp BinOp.neq 33 (.float .f64 c) (.float .f64 c):Sem Value)).run prog a=.ok (.bool e) a)/\
 Br d
 (Br e
 (K (.int .i64 0) w)
 (∃ f:Bool,(∀ a,(λ a=>a=w) a->((do eqGuard BinOp.eql 33 (Operand.tmp 19) (Operand.tmp 20) (.float .f64 b) (.float .f64 c);binOp BinOp.eql 33 (.float .f64 b) (.float .f64 c):Sem Value)).run prog a=.ok (.bool f) a)/\
 Br f
 (K (.int .i64 0) w)
 (Br d
 (K (.int .i64 ((-1))) w)
 (∃ i:Bool,(∀ a,(λ a=>a=w) a->((do eqGuard BinOp.lss 33 (Operand.tmp 26) (Operand.tmp 27) (.float .f64 b) (.float .f64 c);binOp BinOp.lss 33 (.float .f64 b) (.float .f64 c):Sem Value)).run prog a=.ok (.bool i) a)/\
 Br i
 (K (.int .i64 ((-1))) w)
 (K (.int .i64 1) w)))))
 (∃ g:Bool,(∀ a,(λ a=>a=w) a->((do eqGuard BinOp.eql 33 (Operand.tmp 19) (Operand.tmp 20) (.float .f64 b) (.float .f64 c);binOp BinOp.eql 33 (.float .f64 b) (.float .f64 c):Sem Value)).run prog a=.ok (.bool g) a)/\
 Br g
 (K (.int .i64 0) w)
 (Br d
 (K (.int .i64 ((-1))) w)
 (∃ j:Bool,(∀ a,(λ a=>a=w) a->((do eqGuard BinOp.lss 33 (Operand.tmp 26) (Operand.tmp 27) (.float .f64 b) (.float .f64 c);binOp BinOp.lss 33 (.float .f64 b) (.float .f64 c):Sem Value)).run prog a=.ok (.bool j) a)/\
 Br j
 (K (.int .i64 ((-1))) w)
 (K (.int .i64 1) w))))
theorem Zwl (a:Nat) (b:Nat) (K:Value->World->Prop) (w:World) (h:B255 a b K w):Zm prog 255 #[.float .f64 a,.float .f64 b] w K:=cq (sk:=.leaf) func255 (by kernel_rfl) (by kernel_rfl) (by kernel_rfl) h
def B204 (m:Int) (n:Int) (o:Int) (p:Int) (q:Nat) (K:Value->World->Prop) (w:World):Prop:=
 New (.cells #[.int .i64 m,.int .i64 n,.int .i64 o,.int .i64 p,.float .f64 q] 65 (0,0)) (λ c a=>
 ∃ k,(Aw a ⟨c,0,none⟩ [.int .i64 k])/\
 Br (decide (k >= 1))
 (∃ l,(Aw a ⟨c,0,none⟩ [.int .i64 l])/\
 Br (decide (l<=28629151))
 (∃ d,(Aw a ⟨c,0 + 1,none⟩ [.int .i64 d])/\
 Br (decide (d >= 0))
 (∃ e,(Aw a ⟨c,0 + 1,none⟩ [.int .i64 e])/\
 Br (decide (e<=7))
 (∃ f,(Aw a ⟨c,0 + 2,none⟩ [.int .i64 f])/\
 Br (decide (f >= 1))
 (∃ g,(Aw a ⟨c,0 + 2,none⟩ [.int .i64 g])/\
 Br (decide (g<=600))
 (∃ i,(Aw a ⟨c,0 + 3,none⟩ [.int .i64 i])/\
 Br (decide (i >= 0))
 (∃ j,(Aw a ⟨c,0 + 3,none⟩ [.int .i64 j])/\
 K (.bool (decide (j<=1099511627776))) a)
 (K (.bool false) a))
 (K (.bool false) a))
 (K (.bool false) a))
 (K (.bool false) a))
 (K (.bool false) a))
 (K (.bool false) a))
 (K (.bool false) a)) w
theorem ZwQ (a:Int) (b:Int) (c:Int) (d:Int) (e:Nat) (K:Value->World->Prop) (w:World) (h:B204 a b c d e K w):Zm prog 204 #[.agg #[.int .i64 a,.int .i64 b,.int .i64 c,.int .i64 d,.float .f64 e]] w K:=cq (sk:=.leaf) func204 (by kernel_rfl) (by kernel_rfl) (by kernel_rfl) h
def B206 (p:Int) (q:Int) (r:Int) (s:Int) (t:Nat) (u:Int) (v:Int) (x:Int) (y:Int) (z:Nat) (K:Value->World->Prop) (w:World):Prop:=
 New (.cells #[.int .i64 p,.int .i64 q,.int .i64 r,.int .i64 s,.float .f64 t] 65 (0,0)) (λ c C=>
 New (.cells #[.int .i64 u,.int .i64 v,.int .i64 x,.int .i64 y,.float .f64 z] 65 (0,0)) (λ d f=>
 ∃ n,(Aw f ⟨c,0 + 4,none⟩ [.float .f64 n])/\
 ∃ o,(Aw f ⟨d,0 + 4,none⟩ [.float .f64 o])/\
 Calls prog 255 #[.float .f64 n,.float .f64 o] f λ A b=>
 ∃ e,(A=.returned (.int .i64 e))/\
 Br (e !=0)
 (K (.bool (decide (e>0))) b)
 (∃ g,(Aw b ⟨c,0 + 3,none⟩ [.int .i64 g])/\
 ∃ i,(Aw b ⟨d,0 + 3,none⟩ [.int .i64 i])/\
 Br (g !=i)
 (∃ j,(Aw b ⟨c,0 + 3,none⟩ [.int .i64 j])/\
 ∃ k,(Aw b ⟨d,0 + 3,none⟩ [.int .i64 k])/\
 K (.bool (decide (j<k))) b)
 (∃ l,(Aw b ⟨c,0,none⟩ [.int .i64 l])/\
 ∃ m,(Aw b ⟨d,0,none⟩ [.int .i64 m])/\
 K (.bool (decide (l<m))) b))) C) w
theorem ZwO (a:Int) (b:Int) (c:Int) (d:Int) (e:Nat) (f:Int) (g:Int) (i:Int) (j:Int) (k:Nat) (K:Value->World->Prop) (w:World) (h:B206 a b c d e f g i j k K w):Zm prog 206 #[.agg #[.int .i64 a,.int .i64 b,.int .i64 c,.int .i64 d,.float .f64 e],.agg #[.int .i64 f,.int .i64 g,.int .i64 i,.int .i64 j,.float .f64 k]] w K:=cq (sk:=.leaf) func206 (by kernel_rfl) (by kernel_rfl) (by kernel_rfl) h
def B205 (i:Option Addr) (o:Int) (K:Value->World->Prop) (w:World):Prop:=
 ∃ (g:Int->World->Prop) (k:Int->World->Nat),(g 0 w)/\∀ (p:Env) (c:Int) (b:World),g c b->
 Zc i λ n=>
 ∃ f:Sl,(Aw b (Addr.add n 0) [f.v])/\
 Br (decide (c<(↑f.len:Int)))
 (Zc i λ l=>
 ∃ d:Sl,(Aw b (Addr.add l 0) [d.v])/\
 Rng c d.len (Zc d.a λ m=>
 ∃ j,(Aw b (Addr.add (Addr.add m (Za6 c.toNat 5)) 0) [.int .i64 j])/\
 Br (j==o)
 (K (.int .i64 c) b)
 ((g (IntKind.i64.wrap (c + 1)) b)/\k (IntKind.i64.wrap (c + 1)) b<k c b)))
 (K (.int .i64 ((-1))) b)
def ZAa:Sk:=(.seq .leaf (.seq (.seq .leaf (.block (.loop [5] [(.int .i64)] [4,5,6,7,8,9,10,11,12,13,14,15,16,17,18,19,20,21,22,23,24,25] .leaf))) .leaf))
theorem ZwP (b:Option Addr) (a:Int) (K:Value->World->Prop) (w:World) (h:B205 b a K w):Zm prog 205 #[.pointer b,.int .i64 a] w K:=cq (sk:=ZAa) func205 (by kernel_rfl) (by kernel_rfl) (by kernel_rfl) h
def B135 (f:Option Addr) (ay:Int) (az:Int) (a0:Int) (a1:Int) (a2:Nat) (K:Value->World->Prop) (w:World):Prop:=
 New (.cells #[.int .i64 ay,.int .i64 az,.int .i64 a0,.int .i64 a1,.float .f64 a2] 65 (0,0)) (λ n ad=>
 ∃ X Y Z aa ab,(Aw ad ⟨n,0,none⟩ [.int .i64 X,.int .i64 Y,.int .i64 Z,.int .i64 aa,.float .f64 ab])/\
 Calls prog 204 #[.agg #[.int .i64 X,.int .i64 Y,.int .i64 Z,.int .i64 aa,.float .f64 ab]] ad λ av v=>
 ∃ ac,(av=.returned (.bool ac))/\
 Br (!ac)
 (K (.int .i64 1) v)
 (∃ z,(Aw v ⟨n,0,none⟩ [.int .i64 z])/\
 Calls prog 205 #[.pointer f,.int .i64 z] v λ aw q=>
 ∃ A,(aw=.returned (.int .i64 A))/\
 Br (decide (A >= 0))
 (K (.int .i64 7) q)
 (Zc f λ ak=>
 ∃ o:Sl,(Aw q (Addr.add ak 0) [o.v])/\
 Br (decide ((↑o.len:Int) >= 200))
 (K (.int .i64 3) q)
 (∃ (t:Int->World->Prop),(∃ (s:Int->World->Prop) (aj:Int->World->Nat),(s 0 q)/\∀ (a4:Env) (c:Int) (x:World),s c x->
 Drw x λ l ag=>
 Zc f λ al=>
 ∃ p:Sl,(At l (Addr.add al 0) [p.v])/\
 Br (decide (c<(↑p.len:Int)))
 (Zc f λ am=>
 ∃ m:Sl,(At l (Addr.add am 0) [m.v])/\
 Rng c m.len (Zc m.a λ an=>
 ∃ C D E F G,(At l (Addr.add an (Za6 c.toNat 5)) [.int .i64 C,.int .i64 D,.int .i64 E,.int .i64 F,.float .f64 G])/\
 ∃ H I J L M,(At l ⟨n,0,none⟩ [.int .i64 H,.int .i64 I,.int .i64 J,.int .i64 L,.float .f64 M])/\
 Calls prog 206 #[.agg #[.int .i64 C,.int .i64 D,.int .i64 E,.int .i64 F,.float .f64 G],.agg #[.int .i64 H,.int .i64 I,.int .i64 J,.int .i64 L,.float .f64 M]] ag λ ax r=>
 ∃ N,(ax=.returned (.bool N))/\
 (l r)/\
 Br N
 ((s (IntKind.i64.wrap (c + 1)) r)/\aj (IntKind.i64.wrap (c + 1)) r<aj c x)
 (t c r)))
 (t c ag))/\
 ∀ (a5:Env) (d:Int) (ah:World),t d ah->
 New (.cells #[] 65 (0,0)) (λ ar ai=>
 Zc f λ ao=>
 ∃ g:Sl,(Aw ai (Addr.add ao 0) [g.v])/\
 ((0:Int)<=d)/\
 ((d:Int)<=(↑g.cap:Int))/\
 ∃ y:World,∃ i:Sl,((Builtin.append_ #[109,109] 109 #[.slice ((some ⟨ar,0,none⟩)) 0 0,.slice g.a d.toNat g.cap]).run prog ai=.ok (i.v) y)/\
 ∃ O Q T U V,(Aw y ⟨n,0,none⟩ [.int .i64 O,.int .i64 Q,.int .i64 T,.int .i64 U,.float .f64 V])/\
 New (.cells #[.int .i64 O,.int .i64 Q,.int .i64 T,.int .i64 U,.float .f64 V] 65 (0,0)) (λ au a3=>
 ∃ u:World,∃ j:Sl,((Builtin.append_ #[109,109] 109 #[i.v,.slice ((some ⟨au,0,none⟩)) 1 1]).run prog a3=.ok (j.v) u)/\
 Zc f λ ap=>
 ∃ e:Sl,(Aw u (Addr.add ap 0) [e.v])/\
 ((0:Int)<=d)/\
 ((d:Int)<=(↑e.len:Int))/\
 ∃ ae:World,∃ k:Sl,((Builtin.append_ #[109,109] 109 #[j.v,.slice (Zb1 e.a d.toNat e.cap 5) (e.len - d.toNat) (e.cap - d.toNat)]).run prog u=.ok (k.v) ae)/\
 Zc f λ aq=>
 ∃ af:World,(St 109 (Addr.add aq 0) (k.v) ae af)/\
 K (.int .i64 0) af) y) ah)))) w
def ZAs:Sk:=(.seq .leaf (.seq .leaf (.seq .leaf (.seq .leaf (.seq .leaf (.seq .leaf (.cut [6] [(.int .i64)] [6,23,24,25,26,27,28,29,30,31,32,33,34,35,36,37,38,39,40,41,42] (.block (.loop [6] [(.int .i64)] [6,23,24,25,26,27,28,29,30,31,32,33,34,35,36,37,38,39,40,41,42] .leaf)) .leaf)))))))
theorem ZxC (a:Option Addr) (b:Int) (c:Int) (d:Int) (e:Int) (f:Nat) (K:Value->World->Prop) (w:World) (h:B135 a b c d e f K w):Zm prog 135 #[.pointer a,.agg #[.int .i64 b,.int .i64 c,.int .i64 d,.int .i64 e,.float .f64 f]] w K:=cq (sk:=ZAs) func135 (by kernel_rfl) (by kernel_rfl) (by kernel_rfl) h
def B35 (r:Option Addr) (n:Sl) (K:Value->World->Prop) (w:World):Prop:=
 New (.cells #[.int .i64 0,.int .i64 0,.int .i64 0,.int .i64 0,.float .f64 0] 65 (0,0)) (λ k ab=>
 ∃ (i:Int->World->Prop) (m:Int->World->Nat),(i 0 ab)/\∀ (ad:Env) (c:Int) (d:World),i c d->
 Zc r λ X=>
 ∃ l:Sl,(Aw d (Addr.add X 0) [l.v])/\
 Br (decide (c<(↑l.len:Int)))
 (Zc r λ Y=>
 ∃ g:Sl,(Aw d (Addr.add Y 0) [g.v])/\
 Rng c g.len (Zc g.a λ Z=>
 ∃ s t u v x,(Aw d (Addr.add Z (Za6 c.toNat 5)) [.int .i64 s,.int .i64 t,.int .i64 u,.int .i64 v,.float .f64 x])/\
 New (.cells #[.int .i64 0,.int .i64 0,.int .i64 0,.int .i64 0,.float .f64 0] 65 (0,0)) (λ f ac=>
 ∃ V:World,(St 65 ⟨f,0,none⟩ (.agg #[.int .i64 s,.int .i64 t,.int .i64 u,.int .i64 v,.float .f64 x]) ac V)/\
 Drw V λ j e=>
 ∃ y,(At j ⟨f,0 + 1,none⟩ [.int .i64 y])/\
 Br (decide (y<(↑n.len:Int)))
 (∃ z,(At j ⟨f,0 + 2,none⟩ [.int .i64 z])/\
 ∃ o,(At j ⟨f,0 + 1,none⟩ [.int .i64 o])/\
 Rng o n.len (Zc n.a λ aa=>
 ∃ A,(At j (Addr.add aa o.toNat) [.int .i64 A])/\
 Br (decide (z<=A))
 (∃ C D E F G,(Aw e ⟨f,0,none⟩ [.int .i64 C,.int .i64 D,.int .i64 E,.int .i64 F,.float .f64 G])/\
 ∃ p:World,(St 65 ⟨k,0,none⟩ (.agg #[.int .i64 C,.int .i64 D,.int .i64 E,.int .i64 F,.float .f64 G]) e p)/\
 ∃ H I J L M,(Aw p ⟨k,0,none⟩ [.int .i64 H,.int .i64 I,.int .i64 J,.int .i64 L,.float .f64 M])/\
 K (.tuple #[.agg #[.int .i64 H,.int .i64 I,.int .i64 J,.int .i64 L,.float .f64 M],.bool true]) p)
 ((i (IntKind.i64.wrap (c + 1)) e)/\m (IntKind.i64.wrap (c + 1)) e<m c d)))
 ((i (IntKind.i64.wrap (c + 1)) e)/\m (IntKind.i64.wrap (c + 1)) e<m c d)) d))
 (∃ q:World,(St 65 ⟨k,0,none⟩ (.agg #[.int .i64 0,.int .i64 0,.int .i64 0,.int .i64 0,.float .f64 0]) d q)/\
 ∃ N O Q T U,(Aw q ⟨k,0,none⟩ [.int .i64 N,.int .i64 O,.int .i64 Q,.int .i64 T,.float .f64 U])/\
 K (.tuple #[.agg #[.int .i64 N,.int .i64 O,.int .i64 Q,.int .i64 T,.float .f64 U],.bool false]) q)) w
def sk35:Sk:=(.seq .leaf (.seq (.seq .leaf (.block (.loop [6] [(.int .i64)] [5,6,7,8,9,10,11,12,13,14,15,16,17,18,19,20,21,22,23,24,25,26,27,28,29,30,31,32,33,34,35,36,37,38,39] .leaf))) .leaf))
theorem Zzq (c:Option Addr) (b:Sl) (K:Value->World->Prop) (w:World) (h:B35 c b K w):Zm prog 35 #[.pointer c,b.v] w K:=cq (sk:=sk35) func35 (by kernel_rfl) (by kernel_rfl) (by kernel_rfl) h
def B74 (t:Option Addr) (K:Value->World->Prop) (w:World):Prop:=
 Zc t λ V=>
 ∃ o:Sl,(Aw w (Addr.add V 0) [o.v])/\
 Calls prog 88 #[.int .u64 (IntKind.u64.wrap (↑o.len:Int))] w λ Y ab=>
 ∃ p:Sl,(Y=.returned (p.v))/\
 ∃ (r:Sl->Int->World->Prop) (N:Sl->Int->World->Nat),(r p 0 ab)/\∀ (af:Env) (i:Sl) (e:Int) (g:World),r i e g->
 Zc t λ Q=>
 ∃ q:Sl,(Aw g (Addr.add Q 0) [q.v])/\
 Br (decide (e<(↑q.len:Int)))
 (Zc t λ T=>
 ∃ m:Sl,(Aw g (Addr.add T 0) [m.v])/\
 Rng e m.len (Zc m.a λ U=>
 ∃ v x y z A,(Aw g (Addr.add U (Za6 e.toNat 5)) [.int .i64 v,.int .i64 x,.int .i64 y,.int .i64 z,.float .f64 A])/\
 New (.cells #[.int .i64 0,.int .i64 0,.int .i64 0,.int .i64 0,.float .f64 0] 65 (0,0)) (λ j ac=>
 ∃ J:World,(St 65 ⟨j,0,none⟩ (.agg #[.int .i64 v,.int .i64 x,.int .i64 y,.int .i64 z,.float .f64 A]) ac J)/\
 Drw J λ c ad=>
 ∃ C,(At c ⟨j,0,none⟩ [.int .i64 C])/\
 ∃ D,(At c ⟨j,0 + 1,none⟩ [.int .i64 D])/\
 ∃ E,(At c ⟨j,0 + 2,none⟩ [.int .i64 E])/\
 ∃ F,(At c ⟨j,0 + 3,none⟩ [.int .i64 F])/\
 ∃ G,(At c ⟨j,0 + 4,none⟩ [.float .f64 G])/\
 Calls prog 89 #[.float .f64 G] ad λ Z L=>
 ∃ H,(Z=.returned (.int .u64 H))/\
 (c L)/\
 New (.cells #[.int .u64 (IntKind.u64.wrap C),.int .u64 (IntKind.u64.wrap D),.int .u64 (IntKind.u64.wrap E),.int .u64 (IntKind.u64.wrap F),.int .u64 H] 134 (0,0)) (λ X M=>
 (c M)/\
 ∃ (s:Sl->Int->World->Prop) (O:Sl->Int->World->Nat),(s i 0 M)/\∀ (ag:Env) (d:Sl) (f:Int) (l:World),s d f l->
 Br (decide (f<5))
 (Rng f 5 (∃ I,(Aw l (Addr.add ⟨X,0,none⟩ f.toNat) [.int .u64 I])/\
 Calls prog 88 #[.int .u64 I] l λ aa ae=>
 ∃ k:Sl,(aa=.returned (k.v))/\
 ∃ u:World,∃ n:Sl,((Builtin.append_ #[42,42] 42 #[d.v,k.v]).run prog ae=.ok (n.v) u)/\
 (s n (IntKind.i64.wrap (f + 1)) u)/\O n (IntKind.i64.wrap (f + 1)) u<O d f l))
 ((r d (IntKind.i64.wrap (e + 1)) l)/\N d (IntKind.i64.wrap (e + 1)) l<N i e g)) L) g))
 (K (i.v) g)
def sk74:Sk:=(.seq .leaf (.seq .leaf (.seq (.seq .leaf (.block (.loop [3,4] [.sl,(.int .i64)] [3,4,5,6,7,15,16,17,18,19,20,21,22,23,24,25,26,27,28,29,30,31,32,33,34,35,36,37,38,39,40,41,42,43,44,45,46,47,48,49,50,51,52,53,54,55,56,57] (.seq .leaf (.seq (.block (.seq .leaf (.seq .leaf (.seq .leaf (.block (.loop [3,7] [.sl,(.int .i64)] [3,7,47,48,49,50,51,52,53,54,55,56,57] .leaf)))))) .leaf))))) .leaf)))
theorem Zy7 (a:Option Addr) (K:Value->World->Prop) (w:World) (h:B74 a K w):Zm prog 74 #[.pointer a] w K:=cq (sk:=sk74) func74 (by kernel_rfl) (by kernel_rfl) (by kernel_rfl) h
def B95 (d:Sl) (K:Value->World->Prop) (w:World):Prop:=
 New (.cells #[d.v,.int .i64 0,.bool false] 133 (0,0)) (λ c aa=>
 Calls prog 84 #[.pointer ((some ⟨c,0,none⟩)),.int .u64 200] aa λ M ae=>
 ∃ p,(M=.returned (.int .u64 p))/\
 New (.cells #[.slice none 0 0] 117 (0,0)) (λ l af=>
 ∃ (k:Int->World->Prop) (L:Int->World->Nat),(k 0 af)/\∀ (al:Env) (f:Int) (j:World),k f j->
 Br (decide (f<p))
 (Calls prog 84 #[.pointer ((some ⟨c,0,none⟩)),.int .u64 28629151] j λ N ag=>
 ∃ q,(N=.returned (.int .u64 q))/\
 Calls prog 84 #[.pointer ((some ⟨c,0,none⟩)),.int .u64 7] ag λ O ah=>
 ∃ r,(O=.returned (.int .u64 r))/\
 Calls prog 84 #[.pointer ((some ⟨c,0,none⟩)),.int .u64 600] ah λ Q ai=>
 ∃ s,(Q=.returned (.int .u64 s))/\
 Calls prog 84 #[.pointer ((some ⟨c,0,none⟩)),.int .u64 1099511627776] ai λ T aj=>
 ∃ t,(T=.returned (.int .u64 t))/\
 New (.cells #[.int .i64 0,.int .i64 0,.int .i64 0,.int .i64 0,.float .f64 0] 65 (0,0)) (λ m ak=>
 ∃ I:World,(St 65 ⟨m,0,none⟩ (.agg #[.int .i64 (IntKind.i64.wrap q),.int .i64 (IntKind.i64.wrap r),.int .i64 (IntKind.i64.wrap s),.int .i64 (IntKind.i64.wrap t),.float .f64 0]) ak I)/\
 Calls prog 84 #[.pointer ((some ⟨c,0,none⟩)),.int .u64 18446744073709551615] I λ U ab=>
 ∃ u,(U=.returned (.int .u64 u))/\
 Calls prog 93 #[.int .u64 u] ab λ V ac=>
 ∃ v,(V=.returned (.float .f64 v))/\
 ∃ n:World,(St 33 ⟨m,0 + 4,none⟩ (.float .f64 v) ac n)/\
 ∃ x y z A C,(Aw n ⟨m,0,none⟩ [.int .i64 x,.int .i64 y,.int .i64 z,.int .i64 A,.float .f64 C])/\
 Calls prog 135 #[.pointer ((some ⟨l,0,none⟩)),.agg #[.int .i64 x,.int .i64 y,.int .i64 z,.int .i64 A,.float .f64 C]] n λ X g=>
 ∃ D,(X=.returned (.int .i64 D))/\
 ∃ E,(Aw g ⟨c,0 + 2,none⟩ [.bool E])/\
 Br E
 (K (.tuple #[.pointer none,.int .i64 6]) g)
 (Br (D !=0)
 (K (.tuple #[.pointer none,.int .i64 6]) g)
 ((k (IntKind.u64.wrap (f + 1)) g)/\L (IntKind.u64.wrap (f + 1)) g<L f j))) aj)
 (Calls prog 86 #[.pointer ((some ⟨c,0,none⟩))] j λ Y ad=>
 ∃ F,(Y=.returned (.bool F))/\
 Drw ad λ o J=>
 Br (!F)
 (K (.tuple #[.pointer none,.int .i64 6]) J)
 (∃ H:ByteArray,(∀ b,o b->((convert 42 9 (d.v))).run prog b=.ok (.string H) b)/\
 Calls prog 74 #[.pointer ((some ⟨l,0,none⟩))] J λ Z i=>
 ∃ e:Sl,(Z=.returned (e.v))/\
 (o i)/\
 ∃ G:ByteArray,(∀ b,(λ b=>b=i) b->((convert 42 9 (e.v))).run prog b=.ok (.string G) b)/\
 Br (!G.toList==H.toList)
 (K (.tuple #[.pointer none,.int .i64 6]) i)
 (K (.tuple #[.pointer ((some ⟨l,0,none⟩)),.int .i64 0]) i)))) ae) w
def sk95:Sk:=(.seq .leaf (.seq .leaf (.seq .leaf (.seq .leaf (.seq (.seq .leaf (.block (.loop [7] [(.int .u64)] [2,3,7,8,9,18,19,20,21,22,23,24,25,26,27,28,29,30,31,32,33,34,35,36,37,38,39,40,41,42,43,44,45,46,47,48,49,50] .leaf))) (.seq .leaf (.seq (.seq (.block .leaf) .leaf) .leaf)))))))
theorem ZyW (b:Sl) (K:Value->World->Prop) (w:World) (h:B95 b K w):Zm prog 95 #[b.v] w K:=cq (sk:=sk95) func95 (by kernel_rfl) (by kernel_rfl) (by kernel_rfl) h
def B70 (k:Option Addr) (q:Int) (K:Value->World->Prop) (w:World):Prop:=
 ∃ (g:Int->World->Prop) (n:Int->World->Nat),(g 0 w)/\∀ (r:Env) (c:Int) (b:World),g c b->
 Zc k λ j=>
 ∃ f:Sl,(Aw b ⟨j.block,j.off + 2,none⟩ [f.v])/\
 Br (decide (c<(↑f.len:Int)))
 (Zc k λ i=>
 ∃ e:Sl,(Aw b ⟨i.block,i.off + 2,none⟩ [e.v])/\
 Rng c e.len (Zc e.a λ o=>
 ∃ l,(Aw b (Addr.add (Addr.add o (Za6 c.toNat 2)) 0) [.pointer l])/\
 Zc l λ p=>
 ∃ m,(Aw b (Addr.add p 0) [.int .i64 m])/\
 Br (m==q)
 (K (.int .i64 c) b)
 ((g (IntKind.i64.wrap (c + 1)) b)/\n (IntKind.i64.wrap (c + 1)) b<n c b)))
 (K (.int .i64 ((-1))) b)
def sk70:Sk:=(.seq .leaf (.seq (.seq .leaf (.block (.loop [5] [(.int .i64)] [4,5,6,7,8,9,10,11,12,13,14,15,16,17,18,19,20,21,22,23,24,25,26,27,28] .leaf))) .leaf))
theorem Zy8 (a:Option Addr) (b:Int) (K:Value->World->Prop) (w:World) (h:B70 a b K w):Zm prog 70 #[.pointer a,.int .i64 b] w K:=cq (sk:=sk70) func70 (by kernel_rfl) (by kernel_rfl) (by kernel_rfl) h
def B34 (t:Sl) (K:Value->World->Prop) (w:World):Prop:=
 New (.cells #[t.v,.int .i64 0,.bool false] 133 (0,0)) (λ b a7=>
 Calls prog 84 #[.pointer ((some ⟨b,0,none⟩)),.int .u64 1099511627776] a7 λ ap bd=>
 ∃ L,(ap=.returned (.int .u64 L))/\
 Calls prog 84 #[.pointer ((some ⟨b,0,none⟩)),.int .u64 28629151] bd λ aq bj=>
 ∃ M,(aq=.returned (.int .u64 M))/\
 New (.cells #[.int .i64 (IntKind.i64.wrap L),.int .i64 (IntKind.i64.wrap M),.slice none 0 0,.slice none 0 0] 51 (0,0)) (λ c bk=>
 Calls prog 84 #[.pointer ((some ⟨b,0,none⟩)),.int .u64 8] bk λ az bl=>
 ∃ N,(az=.returned (.int .u64 N))/\
 ∃ (r:Int->World->Prop) (al:Int->World->Nat),(r 0 bl)/\∀ (bp:Env) (l:Int) (q:World),r l q->
 Br (decide (l<N))
 (Calls prog 85 #[.pointer ((some ⟨b,0,none⟩)),.int .i64 65536] q λ a0 bm=>
 ∃ f:Sl,(a0=.returned (f.v))/\
 Calls prog 94 #[f.v] bm λ a1 bn=>
 ∃ O Q,(a1=.returned (.tuple #[.pointer O,.int .i64 Q]))/\
 Calls prog 85 #[.pointer ((some ⟨b,0,none⟩)),.int .i64 65536] bn λ a2 bo=>
 ∃ g:Sl,(a2=.returned (g.v))/\
 Calls prog 95 #[g.v] bo λ a3 m=>
 ∃ T U,(a3=.returned (.tuple #[.pointer T,.int .i64 U]))/\
 ∃ (A:World->Prop),(∃ V,(Aw m ⟨b,0 + 2,none⟩ [.bool V])/\
 Br V
 (K (.tuple #[.pointer none,.int .i64 6]) m)
 (Br (Q !=0)
 (K (.tuple #[.pointer none,.int .i64 6]) m)
 (Br (U !=0)
 (K (.tuple #[.pointer none,.int .i64 6]) m)
 (A  m))))/\
 ∀ (bq:Env)  (v:World),A  v->
 ∃ i:Sl,(Aw v ⟨c,0 + 2,none⟩ [i.v])/\
 New (.cells #[.pointer O,.pointer T] 70 (0,0)) (λ ao a8=>
 ∃ ae:World,∃ j:Sl,((Builtin.append_ #[48,48] 48 #[i.v,.slice ((some ⟨ao,0,none⟩)) 1 1]).run prog a8=.ok (j.v) ae)/\
 ∃ x:World,(St 48 ⟨c,0 + 2,none⟩ (j.v) ae x)/\
 (r (IntKind.u64.wrap (l + 1)) x)/\al (IntKind.u64.wrap (l + 1)) x<al l q) v)
 (Calls prog 84 #[.pointer ((some ⟨b,0,none⟩)),.int .u64 300] q λ a4 a9=>
 ∃ X,(a4=.returned (.int .u64 X))/\
 ∃ (s:Int->World->Prop) (am:Int->World->Nat),(s 0 a9)/\∀ (br:Env) (k:Int) (p:World),s k p->
 Br (decide (k<X))
 (Calls prog 84 #[.pointer ((some ⟨b,0,none⟩)),.int .u64 28629151] p λ a5 ba=>
 ∃ Y,(a5=.returned (.int .u64 Y))/\
 Calls prog 84 #[.pointer ((some ⟨b,0,none⟩)),.int .u64 9999] ba λ a6 bb=>
 ∃ Z,(a6=.returned (.int .u64 Z))/\
 Calls prog 84 #[.pointer ((some ⟨b,0,none⟩)),.int .u64 9999] bb λ ar bc=>
 ∃ aa,(ar=.returned (.int .u64 aa))/\
 Calls prog 84 #[.pointer ((some ⟨b,0,none⟩)),.int .u64 9999] bc λ au be=>
 ∃ ab,(au=.returned (.int .u64 ab))/\
 New (.cells #[.int .i64 0,.int .i64 0,.int .i64 0,.int .i64 0,.int .i64 0,.int .i64 0] 121 (0,0)) (λ o bf=>
 ∃ af:World,(St 121 ⟨o,0,none⟩ (.agg #[.int .i64 (IntKind.i64.wrap Y),.int .i64 (IntKind.i64.wrap Z),.int .i64 (IntKind.i64.wrap aa),.int .i64 (IntKind.i64.wrap ab),.int .i64 0,.int .i64 0]) bf af)/\
 Calls prog 84 #[.pointer ((some ⟨b,0,none⟩)),.int .u64 3] af λ av bg=>
 ∃ ac,(av=.returned (.int .u64 ac))/\
 ∃ ag:World,(St 3 ⟨o,0 + 4,none⟩ (.int .i64 (IntKind.i64.wrap ac)) bg ag)/\
 Calls prog 84 #[.pointer ((some ⟨b,0,none⟩)),.int .u64 1099511627776] ag λ aw bh=>
 ∃ ad,(aw=.returned (.int .u64 ad))/\
 ∃ ah:World,(St 3 ⟨o,0 + 5,none⟩ (.int .i64 (IntKind.i64.wrap ad)) bh ah)/\
 Drw ah λ n bi=>
 ∃ d:Sl,(At n ⟨c,0 + 3,none⟩ [d.v])/\
 ∃ C D E F G H,(At n ⟨o,0,none⟩ [.int .i64 C,.int .i64 D,.int .i64 E,.int .i64 F,.int .i64 G,.int .i64 H])/\
 New (.cells #[.int .i64 C,.int .i64 D,.int .i64 E,.int .i64 F,.int .i64 G,.int .i64 H] 121 (0,0)) (λ an ai=>
 (n ai)/\
 ∃ y:World,∃ e:Sl,((Builtin.append_ #[49,49] 49 #[d.v,.slice ((some ⟨an,0,none⟩)) 1 1]).run prog ai=.ok (e.v) y)/\
 (n y)/\
 ∃ z:World,(St 49 ⟨c,0 + 3,none⟩ (e.v) y z)/\
 (s (IntKind.u64.wrap (k + 1)) z)/\am (IntKind.u64.wrap (k + 1)) z<am k p) bi) be)
 (Calls prog 86 #[.pointer ((some ⟨b,0,none⟩))] p λ ax aj=>
 ∃ I,(ax=.returned (.bool I))/\
 Br I
 (Calls prog 96 #[.pointer ((some ⟨c,0,none⟩))] aj λ ay ak=>
 ∃ J,(ay=.returned (.bool J))/\
 Br (!J)
 (K (.tuple #[.pointer none,.int .i64 6]) ak)
 (K (.tuple #[.pointer ((some ⟨c,0,none⟩)),.int .i64 0]) ak))
 (K (.tuple #[.pointer none,.int .i64 6]) aj)))) bj) w
def sk34:Sk:=(.seq .leaf (.seq .leaf (.seq .leaf (.seq .leaf (.seq (.seq .leaf (.block (.loop [7] [(.int .u64)] [2,3,7,8,9,10,11,29,30,31,32,33,34,35,36,37,38,39,40,41,42,43,44,45,46,47,48,49,50,51,52,53,54,55,56,57,58,59,60,61,62,63,64,65,66,67,68,69] (.seq .leaf (.seq (.block (.seq .leaf (.seq .leaf (.cut [] [] [2,3,46,47,48,49,50,51,52,53,54,55,56,57] .leaf .leaf)))) .leaf))))) (.seq .leaf (.seq (.seq .leaf (.block (.loop [12] [(.int .u64)] [12,13,72,73,74,75,76,77,78,79,80,81,82,83,84,85,86,87,88,89,90,91,92,93,94,95,96,97,98,99,100,101,102,103,104,105,106,107] .leaf))) .leaf)))))))
theorem Zzr (b:Sl) (K:Value->World->Prop) (w:World) (h:B34 b K w):Zm prog 34 #[b.v] w K:=cq (sk:=sk34) func34 (by kernel_rfl) (by kernel_rfl) (by kernel_rfl) h
def B96 (c:Option Addr) (K:Value->World->Prop) (w:World):Prop:=
 Zc c λ Q=>
 ∃ ak,(Aw w ⟨Q.block,Q.off + 1,none⟩ [.int .i64 ak])/\
 Br (decide (ak<1))
 (K (.bool false) w)
 (∃ (I:Int->Int->World->Prop) (bo:Int->Int->World->Nat),(I 0 0 w)/\∀ (b6:Env) (A:Int) (b:Int) (C:World),I A b C->
 Zc c λ V=>
 ∃ F:Sl,(Aw C ⟨V.block,V.off + 2,none⟩ [F.v])/\
 Br (decide (b<(↑F.len:Int)))
 (∃ (L:World->Prop),(Drw C λ m N=>
 Br (decide (b>0))
 (Zc c λ Z=>
 ∃ r:Sl,(At m ⟨Z.block,Z.off + 2,none⟩ [r.v])/\
 Rng b r.len (Zc r.a λ bt=>
 ∃ a6,(At m (Addr.add (Addr.add bt (Za6 b.toNat 2)) 0) [.pointer a6])/\
 Zc a6 λ bu=>
 ∃ a7,(At m (Addr.add bu 0) [.int .i64 a7])/\
 Zc c λ aa=>
 ∃ s:Sl,(At m ⟨aa.block,aa.off + 2,none⟩ [s.v])/\
 Rng (IntKind.i64.wrap (b - 1)) s.len (Zc s.a λ bv=>
 ∃ a8,(At m (Addr.add (Addr.add bv (Za6 (IntKind.i64.wrap (b - 1)).toNat 2)) 0) [.pointer a8])/\
 Zc a8 λ bw=>
 ∃ a9,(At m (Addr.add bw 0) [.int .i64 a9])/\
 Br (decide (a7<=a9))
 (K (.bool false) N)
 (L  N))))
 (L  N))/\
 ∀ (b7:Env)  (bm:World),L  bm->
 Drw bm λ n bn=>
 Zc c λ ab=>
 ∃ t:Sl,(At n ⟨ab.block,ab.off + 2,none⟩ [t.v])/\
 Rng b t.len (Zc t.a λ bx=>
 ∃ ba,(At n (Addr.add (Addr.add bx (Za6 b.toNat 2)) 0) [.pointer ba])/\
 Zc ba λ ac=>
 ∃ u:Sl,(At n ⟨ac.block,ac.off + 4,none⟩ [u.v])/\
 Zc c λ ad=>
 ∃ v:Sl,(At n ⟨ad.block,ad.off + 2,none⟩ [v.v])/\
 Rng b v.len (Zc v.a λ ae=>
 ∃ bb,(At n ⟨(ae.add (Za6 b.toNat 2)).block,(ae.add (Za6 b.toNat 2)).off + 1,none⟩ [.pointer bb])/\
 Zc bb λ bz=>
 ∃ x:Sl,(At n (Addr.add bz 0) [x.v])/\
 (I (IntKind.i64.wrap (IntKind.i64.wrap (A + (↑u.len:Int)) + (↑x.len:Int))) (IntKind.i64.wrap (b + 1)) bn)/\bo (IntKind.i64.wrap (IntKind.i64.wrap (A + (↑u.len:Int)) + (↑x.len:Int))) (IntKind.i64.wrap (b + 1)) bn<bo A b C)))
 (∃ (J:Int->World->Prop) (bp:Int->World->Nat),(J 0 C)/\∀ (b8:Env) (f:Int) (j:World),J f j->
 Zc c λ af=>
 ∃ G:Sl,(Aw j ⟨af.block,af.off + 3,none⟩ [G.v])/\
 Br (decide (f<(↑G.len:Int)))
 (Zc c λ ag=>
 ∃ y:Sl,(Aw j ⟨ag.block,ag.off + 3,none⟩ [y.v])/\
 Rng f y.len (Zc y.a λ b0=>
 ∃ bc bd be bf bg bh,(Aw j (Addr.add b0 (Za6 f.toNat 6)) [.int .i64 bc,.int .i64 bd,.int .i64 be,.int .i64 bf,.int .i64 bg,.int .i64 bh])/\
 New (.cells #[.int .i64 0,.int .i64 0,.int .i64 0,.int .i64 0,.int .i64 0,.int .i64 0] 121 (0,0)) (λ d b4=>
 ∃ O:World,(St 121 ⟨d,0,none⟩ (.agg #[.int .i64 bc,.int .i64 bd,.int .i64 be,.int .i64 bf,.int .i64 bg,.int .i64 bh]) b4 O)/\
 ∃ bi,(Aw O ⟨d,0 + 1,none⟩ [.int .i64 bi])/\
 Calls prog 70 #[.pointer c,.int .i64 bi] O λ b1 b5=>
 ∃ z,(b1=.returned (.int .i64 z))/\
 ∃ (M:World->Prop),(Drw b5 λ i g=>
 ∃ bj,(At i ⟨d,0,none⟩ [.int .i64 bj])/\
 Br (decide (bj<1))
 (K (.bool false) g)
 (∃ ah,(At i ⟨d,0,none⟩ [.int .i64 ah])/\
 Zc c λ T=>
 ∃ ai,(At i ⟨T.block,T.off + 1,none⟩ [.int .i64 ai])/\
 Br (decide (ah >= ai))
 (K (.bool false) g)
 (Br (decide (f>0))
 (∃ aj,(At i ⟨d,0,none⟩ [.int .i64 aj])/\
 Zc c λ U=>
 ∃ p:Sl,(At i ⟨U.block,U.off + 3,none⟩ [p.v])/\
 Rng (IntKind.i64.wrap (f - 1)) p.len (Zc p.a λ bq=>
 ∃ al,(At i (Addr.add (Addr.add bq (Za6 (IntKind.i64.wrap (f - 1)).toNat 6)) 0) [.int .i64 al])/\
 Br (decide (aj<=al))
 (K (.bool false) g)
 (Br (decide (z<0))
 (K (.bool false) g)
 (∃ am,(At i ⟨d,0 + 4,none⟩ [.int .i64 am])/\
 Br (decide (am<1))
 (K (.bool false) g)
 (M  g)))))
 (Br (decide (z<0))
 (K (.bool false) g)
 (∃ an,(At i ⟨d,0 + 4,none⟩ [.int .i64 an])/\
 Br (decide (an<1))
 (K (.bool false) g)
 (M  g))))))/\
 ∀ (b9:Env)  (bk:World),M  bk->
 ∃ (o:World->Prop),(Drw bk λ k l=>
 ∃ ao,(At k ⟨d,0 + 4,none⟩ [.int .i64 ao])/\
 Br (ao==1)
 (∃ ap,(At k ⟨d,0 + 5,none⟩ [.int .i64 ap])/\
 Zc c λ br=>
 ∃ aq,(At k (Addr.add br 0) [.int .i64 aq])/\
 Br (decide (ap<=aq))
 (K (.bool false) l)
 (∃ ar,(At k ⟨d,0 + 4,none⟩ [.int .i64 ar])/\
 Br (ar !=1)
 (∃ av,(At k ⟨d,0 + 5,none⟩ [.int .i64 av])/\
 Br (av !=0)
 (K (.bool false) l)
 (o  l))
 (o  l)))
 (∃ au,(At k ⟨d,0 + 4,none⟩ [.int .i64 au])/\
 Br (au !=1)
 (∃ aw,(At k ⟨d,0 + 5,none⟩ [.int .i64 aw])/\
 Br (aw !=0)
 (K (.bool false) l)
 (o  l))
 (o  l)))/\
 ∀ (ca:Env)  (bl:World),o  bl->
 Drw bl λ D b3=>
 Zc c λ X=>
 ∃ q:Sl,(At D ⟨X.block,X.off + 2,none⟩ [q.v])/\
 Rng z q.len (Zc q.a λ bs=>
 ∃ ax ay,(At D (Addr.add bs (Za6 z.toNat 2)) [.pointer ax,.pointer ay])/\
 ∃ az a0 a1 a2 a3 a4,(At D ⟨d,0,none⟩ [.int .i64 az,.int .i64 a0,.int .i64 a1,.int .i64 a2,.int .i64 a3,.int .i64 a4])/\
 Calls prog 154 #[.agg #[.pointer ax,.pointer ay],.agg #[.int .i64 az,.int .i64 a0,.int .i64 a1,.int .i64 a2,.int .i64 a3,.int .i64 a4]] b3 λ b2 H=>
 ∃ a5,(b2=.returned (.bool a5))/\
 (D H)/\
 Br (!a5)
 (K (.bool false) H)
 ((J (IntKind.i64.wrap (f + 1)) H)/\bp (IntKind.i64.wrap (f + 1)) H<bp f j))) j))
 (Zc c λ Y=>
 ∃ E:Sl,(Aw j ⟨Y.block,Y.off + 3,none⟩ [E.v])/\
 K (.bool (A==(↑E.len:Int))) j)))
def sk96:Sk:=(.seq .leaf (.seq .leaf (.seq .leaf (.seq (.seq .leaf (.block (.loop [3,4] [(.int .i64),(.int .i64)] [2,3,4,14,15,16,17,18,19,20,21,22,23,24,25,26,27,28,29,30,31,32,33,34,35,36,37,38,39,40,41,42,43,44,45,46,47,48,49,50,51,52,53,54,55,56,57,58,59,60,61,62,63,64,65,66,67,68,69,70,71,72,73,74,75,76,77] (.seq .leaf (.seq (.block (.cut [] [] [2,23,24,25,26,27,28,29,30,31,32,33,34,35,36,37,38,39,40,41,42,43,44,45,46,47,48,49,50] .leaf .leaf)) .leaf))))) (.seq (.seq .leaf (.block (.loop [5] [(.int .i64)] [2,5,6,7,8,78,79,80,81,82,83,84,85,86,87,88,89,90,91,92,93,94,95,96,97,98,99,100,101,102,103,104,105,106,107,108,109,110,111,112,113,114,115,116,117,118,119,120,121,122,123,124,125,126,127,128,129,130,131,132,133,134,135,136,137,138,139,140,141,142,143,144,145,146,147,148,149,150,151,152,153,154,155,156,157,158,159,160,161,162,163,164,165,166,167,168,169] (.seq .leaf (.seq (.block (.seq .leaf (.seq .leaf (.cut [] [] [2,98,99,100,101,102,103,104,105,106,107,108,109,110,111,112,113,114,115,116,117,118,119,120,121,122,123,124,125,126,127,128,129,130,131,132,133,134,135,136] .leaf (.cut [] [] [2,137,138,139,140,141,142,143,144,145,146,147,148,149,150,151,152,153,154,155,156,157,158] .leaf .leaf))))) .leaf))))) .leaf)))))
theorem ZyV (a:Option Addr) (K:Value->World->Prop) (w:World) (h:B96 a K w):Zm prog 96 #[.pointer a] w K:=cq (sk:=sk96) func96 (by kernel_rfl) (by kernel_rfl) (by kernel_rfl) h
def B154 (ap:Option Addr) (aq:Option Addr) (aw:Int) (ax:Int) (ay:Int) (az:Int) (a0:Int) (a1:Int) (K:Value->World->Prop) (w:World):Prop:=
 New (.cells #[.pointer ap,.pointer aq] 70 (0,0)) (λ m ar=>
 New (.cells #[.int .i64 aw,.int .i64 ax,.int .i64 ay,.int .i64 az,.int .i64 a0,.int .i64 a1] 121 (0,0)) (λ f x=>
 ∃ D,(Aw x ⟨f,0 + 4,none⟩ [.int .i64 D])/\
 Br (D==3)
 (∃ (u:Int->World->Prop) (aj:Int->World->Nat),(u 0 x)/\∀ (a2:Env) (i:Int) (d:World),u i d->
 ∃ E,(Aw d ⟨m,0 + 1,none⟩ [.pointer E])/\
 Zc E λ al=>
 ∃ r:Sl,(Aw d (Addr.add al 0) [r.v])/\
 Br (decide (i<(↑r.len:Int)))
 (∃ F,(Aw d ⟨m,0 + 1,none⟩ [.pointer F])/\
 Zc F λ am=>
 ∃ n:Sl,(Aw d (Addr.add am 0) [n.v])/\
 Rng i n.len (Zc n.a λ an=>
 ∃ G H I J L,(Aw d (Addr.add an (Za6 i.toNat 5)) [.int .i64 G,.int .i64 H,.int .i64 I,.int .i64 J,.float .f64 L])/\
 New (.cells #[.int .i64 0,.int .i64 0,.int .i64 0,.int .i64 0,.float .f64 0] 65 (0,0)) (λ q au=>
 ∃ l:World,(St 65 ⟨q,0,none⟩ (.agg #[.int .i64 G,.int .i64 H,.int .i64 I,.int .i64 J,.float .f64 L]) au l)/\
 ∃ M,(Aw l ⟨q,0,none⟩ [.int .i64 M])/\
 ∃ N,(Aw l ⟨f,0,none⟩ [.int .i64 N])/\
 Br (M==N)
 (Drw l λ g y=>
 ∃ O,(At g ⟨q,0 + 1,none⟩ [.int .i64 O])/\
 ∃ Q,(At g ⟨f,0 + 2,none⟩ [.int .i64 Q])/\
 Br (O==Q)
 (∃ T,(At g ⟨q,0 + 2,none⟩ [.int .i64 T])/\
 ∃ U,(At g ⟨f,0 + 3,none⟩ [.int .i64 U])/\
 Br (T==U)
 (∃ V,(At g ⟨f,0 + 2,none⟩ [.int .i64 V])/\
 ∃ X,(At g ⟨m,0,none⟩ [.pointer X])/\
 Zc X λ z=>
 ∃ s:Sl,(At g ⟨z.block,z.off + 3,none⟩ [s.v])/\
 K (.bool (decide (V<(↑s.len:Int)))) y)
 (K (.bool false) y))
 (K (.bool false) y))
 ((u (IntKind.i64.wrap (i + 1)) l)/\aj (IntKind.i64.wrap (i + 1)) l<aj i d)) d))
 (K (.bool false) d))
 (∃ (v:Int->World->Prop) (ak:Int->World->Nat),(v 0 x)/\∀ (a3:Env) (j:Int) (e:World),v j e->
 ∃ Y,(Aw e ⟨m,0,none⟩ [.pointer Y])/\
 Zc Y λ A=>
 ∃ t:Sl,(Aw e ⟨A.block,A.off + 4,none⟩ [t.v])/\
 Br (decide (j<(↑t.len:Int)))
 (∃ Z,(Aw e ⟨m,0,none⟩ [.pointer Z])/\
 Zc Z λ C=>
 ∃ o:Sl,(Aw e ⟨C.block,C.off + 4,none⟩ [o.v])/\
 Rng j o.len (Zc o.a λ ao=>
 ∃ aa ab ac,∃ k:Sl,(Aw e (Addr.add ao (Za6 j.toNat 4)) [.int .i64 aa,.int .i64 ab,.int .i64 ac,k.v])/\
 New (.cells #[.int .i64 0,.int .i64 0,.int .i64 0,.slice none 0 0] 176 (0,0)) (λ p av=>
 ∃ c:World,(St 176 ⟨p,0,none⟩ (.agg #[.int .i64 aa,.int .i64 ab,.int .i64 ac,k.v]) av c)/\
 ∃ ad,(Aw c ⟨p,0,none⟩ [.int .i64 ad])/\
 ∃ ae,(Aw c ⟨f,0,none⟩ [.int .i64 ae])/\
 Br (ad==ae)
 (∃ af,(Aw c ⟨p,0 + 1,none⟩ [.int .i64 af])/\
 ∃ ag,(Aw c ⟨f,0 + 2,none⟩ [.int .i64 ag])/\
 Br (af==ag)
 (∃ ah,(Aw c ⟨p,0 + 2,none⟩ [.int .i64 ah])/\
 ∃ ai,(Aw c ⟨f,0 + 3,none⟩ [.int .i64 ai])/\
 K (.bool (ah==ai)) c)
 (K (.bool false) c))
 ((v (IntKind.i64.wrap (j + 1)) c)/\ak (IntKind.i64.wrap (j + 1)) c<ak j e)) e))
 (K (.bool false) e))) ar) w
def ZAo:Sk:=(.seq .leaf (.seq (.seq .leaf (.cond (.seq (.seq .leaf (.block (.loop [5] [(.int .i64)] [4,5,6,12,13,14,15,16,17,18,19,20,21,22,23,24,25,26,27,28,29,30,31,32,33,34,35,36,37,38,39,40,41,42,43,44,45,46,47,48,49,50,51,52,53,54,55,56,57] .leaf))) .leaf) .leaf)) (.seq (.seq .leaf (.block (.loop [7] [(.int .i64)] [4,7,8,58,59,60,61,62,63,64,65,66,67,68,69,70,71,72,73,74,75,76,77,78,79,80,81,82,83,84,85,86,87,88,89,90,91,92] .leaf))) .leaf)))
theorem Zxv (a:Option Addr) (b:Option Addr) (c:Int) (d:Int) (e:Int) (f:Int) (g:Int) (i:Int) (K:Value->World->Prop) (w:World) (h:B154 a b c d e f g i K w):Zm prog 154 #[.agg #[.pointer a,.pointer b],.agg #[.int .i64 c,.int .i64 d,.int .i64 e,.int .i64 f,.int .i64 g,.int .i64 i]] w K:=cq (sk:=ZAo) func154 (by kernel_rfl) (by kernel_rfl) (by kernel_rfl) h
end
end Go.Proofs.YtfgbbckfikiomaaGreatDoor
namespace Go.VC
theorem Zsu {x:Nat} (h:x<18446744073709551616):x &&& 9223372036854775808=if x<9223372036854775808 then 0 else 9223372036854775808:=by
 have e:(9223372036854775808:Nat)=2 ^ 63:=by decide
 apply Nat.eq_of_testBit_eq;intro i;rw [Nat.testBit_and];by_cases hi:63=i
 ·subst hi
  have h1:x.testBit 63=decide (¬ x<9223372036854775808):=by
   rw [Nat.testBit_eq_decide_div_mod_eq,<-e];exact decide_eq_decide.2 (by omega)
  have h2:Nat.testBit 9223372036854775808 63=true:=by rw [e,Nat.testBit_two_pow];simp
  rw [h1,h2];split
  ·rw [decide_eq_false (by omega)];simp
  ·rw [decide_eq_true (by assumption)];simp [h2]
 ·have h2:Nat.testBit 9223372036854775808 i=false:=by rw [e,Nat.testBit_two_pow];simp [hi]
  rw [h2];split<;>simp [h2]
theorem Zyt {x:Nat} (h:x<9223372036854775808):x|||9223372036854775808=x + 9223372036854775808:=by
 have:=Nat.two_pow_add_eq_or_of_lt (i:=63) (b:=x) (by simpa using h) 1;rw [Nat.or_comm];simp only [Nat.mul_one] at this;have e:(2:Nat) ^ 63=9223372036854775808:=by decide
 rw [e] at this;omega
theorem ZqO {x:Nat} (h:x<18446744073709551616):IntKind.u64.wrap ((BitVec.ofInt IntKind.u64.bits (if IntKind.u64.signed=true then -1 else IntKind.u64.max) ^^^ BitVec.ofInt IntKind.u64.bits (x:Int)).toNat:Int)=((18446744073709551615 - x:Nat):Int):=by
 have e1:BitVec.ofInt IntKind.u64.bits (if IntKind.u64.signed=true then -1 else IntKind.u64.max)=BitVec.allOnes 64:=by
  show BitVec.ofInt 64 18446744073709551615=BitVec.allOnes 64;decide
 have e2:(BitVec.ofInt 64 (x:Int)).toNat=x:=Zed 64 x (by simpa using h);rw [e1];show IntKind.u64.wrap (((BitVec.allOnes 64 ^^^ BitVec.ofInt 64 (x:Int)).toNat:Nat):Int)=_;rw [BitVec.xor_comm,BitVec.xor_allOnes,BitVec.toNat_not,e2];have e3:(2:Nat) ^ 64 - 1 - x=18446744073709551615 - x:=by
  have:(2:Nat) ^ 64=18446744073709551616:=by decide
  rw [this]
 rw [e3];exact ZK (by omega) (by omega)
theorem Zpo {k:Nat} (h:k<18446744073709551616) (h1:9223372036854775808<=k):Zfo .andNot .u64 (k:Int) 9223372036854775808=((k - 9223372036854775808:Nat):Int):=by
 have e1:(BitVec.ofInt 64 (k:Int)).toNat=k:=Zed 64 k (by simpa using h);have e2:(BitVec.ofInt 64 9223372036854775808).toNat=9223372036854775808:=by decide
 have e3:(BitVec.ofInt 64 (k:Int) &&& ~~~ BitVec.ofInt 64 9223372036854775808).toNat=k - 9223372036854775808:=by
  rw [BitVec.toNat_and,BitVec.toNat_not,e1,e2];have e4:(2:Nat) ^ 64 - 1 - 9223372036854775808=2 ^ 63 - 1:=by decide
  rw [e4,Nat.and_two_pow_sub_one_eq_mod];have e5:(2:Nat) ^ 63=9223372036854775808:=by decide
  rw [e5];omega
 show IntKind.u64.wrap (((BitVec.ofInt 64 (k:Int) &&& ~~~ BitVec.ofInt 64 9223372036854775808).toNat:Nat):Int)=_;rw [e3];exact ZK (by omega) (by omega)
end Go.VC
namespace Go.Proofs.YtfgbbckfikiomaaGreatDoor
section
open Go Go.VC Ieee Tryz
variable {R:Cx} {Hs Rest:List HP} {w:World}
theorem ZvR : (f149.name == "runtime.NumGoroutine") = false := by kernel_rfl
theorem ZvT:f149.body.isNone=true:=by kernel_rfl
theorem ZvQ:Extern.findNext f149=none:=by kernel_rfl
theorem ZvS:Extern.find f149=some Extern.MathFloatBits.float64bits:=by kernel_rfl
theorem ZvN : (f151.name == "runtime.NumGoroutine") = false := by kernel_rfl
theorem ZvP:f151.body.isNone=true:=by kernel_rfl
theorem ZvM:Extern.findNext f151=none:=by kernel_rfl
theorem ZvO:Extern.find f151=some Extern.MathFloatBits.float64frombits:=by kernel_rfl
theorem ZnZ (x:Nat) (w:World):(callFunc 149 #[.float .f64 x]).run prog w=.ok (.value (.int .u64 x)) w:=by
 rw [run_callFunc_extern func149 ZvR ZvT ZvQ ZvS];rfl
theorem ZgF (n:Nat) (w:World):(callFunc 151 #[.int .u64 n]).run prog w=.ok (.value (.float .f64 n)) w:=by
 rw [run_callFunc_extern func151 ZvN ZvP ZvM ZvO];rfl
theorem Ztz {x:Nat} (hx:x<18446744073709551616) (hw:Sat R Hs w):Zm prog 127 #[.float .f64 x] w λ v w'=>v=.int .u64 (Znw x:Nat)/\Sat R Hs w':=by
 apply ZxG;refine ⟨_,w,ZnZ x w,_,rfl,?_⟩;have e1:Zfo BinOp.and IntKind.u64 (x:Int) 9223372036854775808=((x &&& 9223372036854775808:Nat):Int):=ZuG (y:=9223372036854775808) hx (by decide);have e2:Zfo BinOp.or IntKind.u64 (x:Int) 9223372036854775808=((x|||9223372036854775808:Nat):Int):=Zyu (y:=9223372036854775808) hx (by decide);rw [e1,e2,Zsu hx];refine Br.mk (λ h=>⟨?_,hw⟩) (λ h=>⟨?_,hw⟩)
 ·rw [ZqO hx]
  unfold Znw;split at h
  ·simp at h
  ·rename_i h1;rw [if_neg h1]
 ·split at h
  ·rename_i h1
   rw [Zyt h1];unfold Znw;rw [if_pos h1]
  ·simp at h
theorem Zvm {k:Nat} (hk:k<18446744073709551616) (hw:Sat R Hs w):Zm prog 150 #[.int .u64 k] w λ v w'=>v=.float .f64 (ofF k)/\Sat R Hs w':=by
 apply Zxy;have e1:Zfo BinOp.and IntKind.u64 (k:Int) 9223372036854775808=((k &&& 9223372036854775808:Nat):Int):=ZuG (y:=9223372036854775808) hk (by decide);unfold B150;rw [e1,Zsu hk];refine Br.mk (λ h=>?_) (λ h=>?_)
 ·rw [ZqO hk]
  refine ⟨_,w,ZgF _ w,_,rfl,?_,hw⟩;unfold ofF;split at h
  ·rename_i h1;rw [if_neg (by omega)]
  ·simp at h
 ·have h1:¬ k<9223372036854775808:=by
   intro h1;rw [if_pos h1] at h;simp at h
  have e2:=Zpo hk (by omega);rw [e2];refine ⟨_,w,ZgF _ w,_,rfl,?_,hw⟩;unfold ofF;rw [if_pos (by omega)]
theorem ZmJ (t1 t2:Operand) (T:TypeId) (x y:Nat) (w:World):((do eqGuard BinOp.lss T t1 t2 (.float .f64 x) (.float .f64 y);binOp BinOp.lss T (.float .f64 x) (.float .f64 y):Sem Value)).run prog w=.ok (.bool (double.order x y==some .lt)) w:=by
 simp [eqGuard,binOp,Op.floatCmp,FloatKind.format]
theorem ZrT (t1 t2:Operand) (T:TypeId) (x y:Nat) (w:World):((do eqGuard BinOp.eql T t1 t2 (.float .f64 x) (.float .f64 y);binOp BinOp.eql T (.float .f64 x) (.float .f64 y):Sem Value)).run prog w=.ok (.bool (double.order x y==some .eq)) w:=by
 simp [eqGuard,binOp,Op.floatCmp,FloatKind.format]
theorem Znp {x:Nat} (hw:Sat R Hs w):Zm prog 273 #[.float .f64 x] w λ v w'=>v=.bool (ZlT x)/\Sat R Hs w':=by
 apply Zwe;refine ⟨_,λ w' _=>ZrS _ _ _ _ _ w',?_,hw⟩;have h:=Znl x;rw [bne,h,Bool.not_not]
theorem Zj6 {x y:Nat} (hw:Sat R Hs w):Zm prog 258 #[.float .f64 x,.float .f64 y] w λ v w'=>v=.int .i64 (Zeh x y)/\Sat R Hs w':=by
 apply Zwj;refine (Znp hw).use ?_;clear hw;rintro _ w ⟨rfl,hw⟩;refine ⟨_,rfl,?_⟩;refine (Znp hw).use ?_;clear hw;rintro _ w ⟨rfl,hw⟩;refine ⟨_,rfl,?_⟩;unfold Zeh;refine Br.mk (λ hx=>?_) (λ hx=>?_)
 ·refine Br.mk (λ hy=>⟨?_,hw⟩) (λ hy=>⟨?_,hw⟩)
  ·rw [Zgg hx,Zgg hy,if_neg (by omega),if_pos rfl]
  ·have:=Ztw hy
   rw [Zgg hx,if_pos (by omega)]
 ·refine Br.mk (λ hy=>⟨?_,hw⟩) (λ hy=>?_)
  ·have:=Ztw hx
   rw [Zgg hy,if_neg (by omega),if_neg (by omega)]
  ·obtain ⟨o1,o2,o3⟩:=ZqI hx hy
   refine ⟨_,λ w' _=>ZmJ _ _ _ _ _ w',?_⟩;rw [o1];refine Br.d (λ h=>⟨by rw [if_pos h],hw⟩) (λ h=>?_);refine ⟨_,λ w' _=>ZuB _ _ _ _ _ w',?_⟩;rw [o3];refine Br.d (λ h2=>⟨by rw [if_neg h,if_neg (by omega)],hw⟩) (λ h2=>⟨by rw [if_neg h,if_pos (by omega)],hw⟩)
theorem Zqk {x y:Nat} (hw:Sat R Hs w):Zm prog 221 #[.float .f64 x,.float .f64 y] w λ v w'=>v=.int .i64 (Zeh x y)/\Sat R Hs w':=by
 apply ZwF;refine (Zj6 hw).use ?_;rintro _ w ⟨rfl,hw⟩;exact ⟨_,rfl,rfl,hw⟩
def ZtW (x y:Int):Int:=if x<y then -1 else if y<x then 1 else 0
theorem Zfm {x y:Int} (hw:Sat R Hs w):Zm prog 222 #[.int .i64 x,.int .i64 y] w λ v w'=>v=.int .i64 (ZtW x y)/\Sat R Hs w':=by
 apply ZwE;have nan:∀ {z:Int} {w:World},Sat R Hs w->Zm prog 259 #[.int .i64 z] w λ v w'=>v=.bool false/\Sat R Hs w':=λ {z w} hw=>by
  apply ZrY;exact ⟨by simp,hw⟩
 refine (nan hw).use ?_;clear hw;rintro _ w ⟨rfl,hw⟩;refine ⟨_,rfl,?_⟩;refine (nan hw).use ?_;clear hw;rintro _ w ⟨rfl,hw⟩;refine ⟨_,rfl,Br.f rfl (Br.f rfl ?_)⟩;unfold ZtW;refine Br.d (λ h=>⟨by rw [if_pos h],hw⟩) (λ h=>Br.d (λ h2=>⟨by rw [if_neg h,if_pos (by omega)],hw⟩) (λ h2=>⟨by rw [if_neg h,if_neg (by omega)],hw⟩))
theorem Zp5 {x:Nat} (hx:x<18446744073709551616) (hw:Sat R Hs w):Zm prog 89 #[.float .f64 x] w λ v w'=>v=.int .u64 (Znw x:Nat)/\Sat R Hs w':=by
 apply ZyZ;refine ⟨_,w,ZnZ x w,_,rfl,?_⟩;unfold Znw
 with_reducible refine Br.d (λ h=>?_) (λ h=>?_)
 ·refine ⟨?_,hw⟩
  have e1:IntKind.u64.wrap ((x:Int) + 9223372036854775808)=((x + 9223372036854775808:Nat):Int):=by rw [ZK (by omega) (by omega)];omega
  have h1:x<9223372036854775808:=by omega
  rw [if_pos h1];exact congrArg (Value.int .u64) e1
 ·refine ⟨?_,hw⟩
  have e1:IntKind.u64.wrap (18446744073709551615 - (x:Int))=((18446744073709551615 - x:Nat):Int):=by rw [ZK (by omega) (by omega)];omega
  have h1:¬ x<9223372036854775808:=by omega
  rw [if_neg h1];exact congrArg (Value.int .u64) e1
theorem ZsV {k:Nat} (hk:k<18446744073709551616) (hw:Sat R Hs w):Zm prog 93 #[.int .u64 k] w λ v w'=>v=.float .f64 (ofF k)/\Sat R Hs w':=by
 apply ZyY;unfold B93 ofF
 with_reducible refine Br.d (λ h=>?_) (λ h=>?_)
 ·rw [ZK (by omega) (by omega),show (k:Int) - 9223372036854775808=((k - 9223372036854775808:Nat):Int) by omega]
  exact ⟨_,w,ZgF _ w,_,rfl,by rw [if_pos (by omega)],hw⟩
 ·rw [ZK (by omega) (by omega),show 18446744073709551615 - (k:Int)=((18446744073709551615 - k:Nat):Int) by omega]
  exact ⟨_,w,ZgF _ w,_,rfl,by rw [if_neg (by omega)],hw⟩
theorem Zoo {x y:Nat} (hw:Sat R Hs w):Zm prog 255 #[.float .f64 x,.float .f64 y] w λ v w'=>v=.int .i64 (Zeh x y)/\Sat R Hs w':=by
 apply Zwl;have ne:∀ z:Nat,(double.order z z !=some .eq)=ZlT z:=λ z=>by rw [bne,Znl z,Bool.not_not]
 refine ⟨_,λ w' _=>ZrS _ _ _ _ _ w',_,λ w' _=>ZrS _ _ _ _ _ w',?_⟩;rw [ne x,ne y];unfold Zeh;refine Br.mk (λ hx=>?_) (λ hx=>?_)
 ·refine Br.mk (λ hy=>⟨by rw [Zgg hx,Zgg hy,if_neg (by omega),if_pos rfl],hw⟩) (λ hy=>?_)
  refine ⟨_,λ w' _=>ZrT _ _ _ _ _ w',?_⟩;rw [ZgB (.inl hx)];refine Br.f rfl (Br.t hx ⟨?_,hw⟩);have:=Ztw hy;rw [Zgg hx,if_pos (by omega)]
 ·refine ⟨_,λ w' _=>ZrT _ _ _ _ _ w',?_⟩
  by_cases hy:ZlT y=true
  ·rw [ZgB (.inr hy)]
   refine Br.f rfl (Br.f hx ⟨_,λ w' _=>ZmJ _ _ _ _ _ w',?_⟩);rw [ZgB (.inr hy)];have:=Ztw hx;exact Br.f rfl ⟨by rw [Zgg hy,if_neg (by omega),if_neg (by omega)],hw⟩
  ·have hy:ZlT y=false:=by simpa using hy
   obtain ⟨o1,o2,o3⟩:=ZqI hx hy;rw [o2];refine Br.d (λ h=>⟨by rw [if_neg (by omega),if_pos h],hw⟩) (λ h=>Br.f hx ⟨_,λ w' _=>ZmJ _ _ _ _ _ w',?_⟩);rw [o1];exact Br.d (λ h2=>⟨by rw [if_pos h2],hw⟩) (λ h2=>⟨by rw [if_neg h2,if_neg h],hw⟩)
end
section
open Go Go.VC Tryz
variable {R:Cx} {Hs Rest:List HP} {w:World}
abbrev wrp (p:Nat) (s:Sl):HP:=pts p (.cells [.slice s.a s.len s.cap].toArray 93 (0,0))
def WrB (p:Nat) (bs:List Int):HP:=exs λ s:Sl=>Zgu [wrp p s,Own s 5 (b8 bs)]
theorem Sat.wrB {p:Nat} {bs:List Int}:Sat R (WrB p bs::Hs) w↔∃ s:Sl,Sat R (wrp p s::Own s 5 (b8 bs)::Hs) w:=by
 unfold WrB;rw [Sat.exs];exact ⟨λ⟨s,h⟩=>⟨s,Sat.star.1 h⟩,λ⟨s,h⟩=>⟨s,Sat.star.2 h⟩⟩
theorem Zyy {n:Int} (h:n<9223372036854775808):0<=nn n/\nn n<9223372036854775808:=by unfold nn;omega
theorem ZAN (n:Int):(if 0>n then 0 else n)=nn n:=by unfold nn;split<;>omega
theorem Zn5 {p:Nat} {s:Sl} {xs bs:List Int} (hxs:∀ x∈xs,x<9223372036854775808) (hl:bs.length + 9 * xs.length<=1099511627776) (hs:RoI R s xs) (hw:Sat R (WrB p bs::Hs) w):
  Zm prog 49 #[.pointer (some ⟨p,0,none⟩),.slice s.a s.len s.cap] w λ v w'=>v=.tuple #[]/\Sat R (WrB p (bs++Zv (xs.map nn))::Hs) w':=by
 have hlen:=hs.len;apply Zzg;refine ⟨λ i w=>∃ k:Nat,i=k/\k<=xs.length/\Sat R (WrB p (bs++Zv ((xs.take k).map nn))::Hs) w,λ i _=>xs.length - i.toNat,⟨0,rfl,by omega,by simpa [Zv] using hw⟩,?_⟩;clear hw;rintro _ _ w ⟨k,rfl,hk,hw⟩;refine Br.d (λ h=>?_) (λ h=>?_)
 ·have hkx:k<xs.length:=by omega
  have hx:=Zyy (hxs xs[k] (List.getElem_mem _));have hxt:∀ x∈(xs.take k).map nn,0<=x/\x<18446744073709551616:=λ x hx=>by
   obtain ⟨y,hy,rfl⟩:=List.mem_map.1 hx;have:=Zyy (hxs y (List.mem_of_mem_take hy));omega
  have hnl:=Zae hxt;rw [List.length_map,List.length_take] at hnl;refine Ro.ix hs (eqS hw) k rfl hkx ?_;obtain ⟨s0,hw⟩:=Sat.wrB.1 hw;refine ZaN hw λ w hw=>?_;refine Zc.mk rfl ⟨s0,oS,?_⟩;rw [ZAN];obtain ⟨n,hn⟩:=Int.eq_ofNat_of_zero_le hx.1;rw [hn,ZK (by omega) (by omega)];refine (Zcl (by omega) hw).use ?_;rintro _ w ⟨t,rfl,hw⟩;refine ⟨t,rfl,hw.absorb,?_⟩;have hw:Sat R (Own s0 5 (b8 (bs++Zv ((xs.take k).map nn)))::Own t 5 (b8 (ZeP n))::wrp p s0::VC.tru::Hs) w:=hw.arr;have hnb:=Zbw (n:=n) (by omega);refine Zdi ZrD (s:=s0) (n:=1099511627790) underlying42 hw (by rw [List.length_append];omega) (by omega) (by omega) λ s2 w hw=>?_;have hw:Sat R (wrp p s0::Own s2 5 (b8 (bs++Zv ((xs.take k).map nn)++ZeP n))::Hs) w:=by
   have h:Sat R (Own t 5 (b8 (ZeP n))::VC.tru::wrp p s0::Own s2 5 (b8 (bs++Zv ((xs.take k).map nn)++ZeP n))::Hs) w:=hw.arr;exact h.drop.drop
  refine Zc.mk rfl ?_;refine Za hw (by kernel_rfl) rfl (by simp [Value.cells]) λ w hw=>?_;have hw:=hw.re (wrp p s2);rw [Zh (by omega) (by omega)];refine ⟨⟨k + 1,by omega,by omega,Sat.wrB.2 ⟨s2,?_⟩⟩,by dsimp only;omega⟩;have e:(xs.take (k + 1)).map nn=(xs.take k).map nn++[nn xs[k]]:=by rw [List.take_add_one,List.getElem?_eq_getElem hkx,List.map_append];rfl
  rw [e,Zla,show Zv [nn xs[k]]=ZeP (nn xs[k]).toNat by simp [Zv],hn,Int.toNat_natCast,<-List.append_assoc];exact hw
 ·have:k=xs.length:=by omega
  subst this;rw [List.take_length] at hw;exact ⟨rfl,hw⟩
theorem Zn3 {p:Nat} {s:Sl} {d bs:List Int} (hl:bs.length + d.length<=1099511627776) (hd:d.length<=1099511627776) (hs:Ro R s (b8 d)) (hw:Sat R (WrB p bs::Hs) w):
  Zm prog 52 #[.pointer (some ⟨p,0,none⟩),.slice s.a s.len s.cap] w λ v w'=>v=.tuple #[]/\Sat R (WrB p (bs++ZcQ d)::Hs) w':=by
 apply Zzf;obtain ⟨s0,hw⟩:=Sat.wrB.1 hw;refine ZaN hw λ w hw=>?_;refine Zc.mk rfl ⟨s0,oS,?_⟩;refine (ZoY hs hd hw).use ?_;rintro _ w ⟨t,rfl,hw⟩;refine ⟨t,rfl,hw.absorb,?_⟩;have hw:Sat R (Own s0 5 (b8 bs)::Own t 5 (b8 (ZcQ d))::wrp p s0::VC.tru::Hs) w:=hw.arr;have hnb:=Zbw (n:=d.length) (by omega);have htl:(ZcQ d).length<=d.length + 9:=by unfold ZcQ;rw [List.length_append];omega
 refine Zdi ZrD (s:=s0) (n:=1099511627800) underlying42 hw (by omega) (by omega) (by omega) λ s2 w hw=>?_;have hw:Sat R (wrp p s0::Own s2 5 (b8 (bs++ZcQ d))::Hs) w:=by
  have h:Sat R (Own t 5 (b8 (ZcQ d))::VC.tru::wrp p s0::Own s2 5 (b8 (bs++ZcQ d))::Hs) w:=hw.arr;exact h.drop.drop
 refine Zc.mk rfl ?_;refine Za hw (by kernel_rfl) rfl (by simp [Value.cells]) λ w hw=>?_;have hw:=hw.re (wrp p s2);exact ⟨rfl,Sat.wrB.2 ⟨s2,hw⟩⟩
end
section
open Go Go.VC Tryz
open Classical
variable {R:Cx} {Hs Rest:List HP} {w:World}
abbrev cmV (c:Cm) (sg sp:Sl):List Value:=[.int .i64 c.kind,.string c.pnr,.int .i64 c.flt,.int .i64 c.cls,.int .i64 c.many,.int .i64 c.time,.float .f64 c.sc,.string c.lab,.int .i64 c.rows,.slice sg.a sg.len sg.cap,.slice sp.a sp.len sp.cap]
abbrev cmC (b:Nat) (c:Cm) (sg sp:Sl):HP:=pts b (.cells (cmV c sg sp).toArray 38 (0,0))
theorem Zcf {c:Cm}:ZaO c↔(∀ n∈[c.flt,c.cls,c.many,c.rows]++c.grps,Zhc n)/\(c.pnr.size<=16/\c.lab.size<=16)/\(c.grps.length<=16/\c.parts.length<=16)/\1<=c.kind/\c.kind<=9/\0<=c.time/\c.time<=1099511627776:=by
 constructor
 ·intro h
  refine ⟨λ n hn=>?_,⟨h.pnr,h.lab⟩,⟨h.gl,h.pl⟩,h.kind.1,h.kind.2,h.time.1,h.time.2⟩;simp only [List.cons_append,List.nil_append,List.mem_cons] at hn;rcases hn with rfl|rfl|rfl|rfl|hn
  ·exact h.flt
  ·exact h.cls
  ·exact h.many
  ·exact h.rows
  ·exact h.grps n hn
 ·rintro ⟨h1,⟨h2,h3⟩,⟨h4,h5⟩,h6,h7,h8,h9⟩
  exact ⟨h1 _ (by simp),h1 _ (by simp),h1 _ (by simp),h1 _ (by simp),λ n hn=>h1 n (by simp [hn]),h2,h3,h4,h5,⟨h6,h7⟩,h8,h9⟩
theorem Zr7 {n:Int}:Zm prog 108 #[.int .i64 n] w λ v w'=>v=.bool (decide (n<0\/n>9999))/\w'=w:=by
 apply ZxW;refine Br.d (λ h=>⟨by rw [decide_eq_true (by omega)],rfl⟩) (λ h=>⟨?_,rfl⟩)
 congr 1
 exact decide_eq_decide.2 (by omega)
set_option maxHeartbeats 400000 in
theorem ZeN {c:Cm} {sg sp:Sl} (hg:RoI R sg c.grps) (hgl:c.grps.length<=17592186043904) (hp:sp.len=c.parts.length) (hw:Sat R Hs w):
  Zm prog 41 #[.agg #[.int .i64 c.kind,.string c.pnr,.int .i64 c.flt,.int .i64 c.cls,.int .i64 c.many,.int .i64 c.time,.float .f64 c.sc,.string c.lab,.int .i64 c.rows,.slice sg.a sg.len sg.cap,.slice sp.a sp.len sp.cap]] w λ v w'=>v=.bool (decide (ZaO c))/\Sat R Hs w':=by
 have hglen:=hg.len;apply Zzl;refine Zb hw λ b w hw=>?_;have hw:Sat R (cmC b c sg sp::Hs) w:=hw
 repeat (first|refine Zc.mk rfl ?_|refine ⟨_,oS,?_⟩|refine ⟨_,oA hw,?_⟩|refine ⟨_,(by rw [Zy];exact oS),?_⟩|refine ⟨_,(by rw [Zy];exact oA hw),?_⟩)
 refine Zb hw λ b2 w hw=>?_;have hw:Sat R (Own ⟨some ⟨b2,0,none⟩,4,4⟩ 3 (Zd [c.flt,c.cls,c.many,c.rows])::cmC b c sg sp::Hs) w:=ZbI hw;refine ⟨sg,oA hw,?_⟩;refine ZgG (n:=17592186044416) (s:=⟨some ⟨b2,0,none⟩,4,4⟩) (ty:=28) Zo6 underlying28 hw hg (by simp;omega) (by omega) (by omega) λ t w hw=>?_;obtain ⟨L,hL⟩:∃ L,L=[c.flt,c.cls,c.many,c.rows]++c.grps:=⟨_,rfl⟩;have hLl:L.length=4 + c.grps.length:=by rw [hL];simp;omega
 rw [<-hL] at hw;have htl:t.len=L.length:=by have:=Own.len hw;simpa using this
 refine ⟨λ i w=>∃ k:Nat,i=k/\k<=L.length/\(∀ n∈L.take k,Zhc n)/\Sat R (Own t 3 (Zd L)::cmC b c sg sp::Hs) w,λ i _=>L.length - i.toNat,⟨0,rfl,by omega,by simp,hw⟩,?_⟩;clear hw;rintro _ _ w ⟨k,rfl,hk,hok,hw⟩;have no:¬ ZaO c->∀ {w},Sat R (Own t 3 (Zd L)::cmC b c sg sp::Hs) w->(Value.bool false=.bool (decide (ZaO c))/\Sat R Hs w):=λ h w hw=>⟨by rw [decide_eq_false h],hw.drop.drop⟩;refine Br.d (λ h=>?_) (λ h=>?_)
 ·have hkx:k<L.length:=by omega
  refine Own.ix hw (eqS hw) k rfl hkx ?_;refine Zr7.use ?_;rintro _ w2 ⟨rfl,rfl⟩;refine ⟨_,rfl,Br.mk (λ h2=>no (λ hr=>?_) hw) (λ h2=>?_)⟩
  ·have h3:=(Zcf.1 hr).1 L[k] (by rw [<-hL];exact List.getElem_mem hkx)
   have h4:=of_decide_eq_true h2;unfold Zhc at h3;omega
  ·rw [Zh (by omega) (by omega)]
   refine ⟨⟨k + 1,by omega,by omega,λ n hn=>?_,hw⟩,by dsimp only;omega⟩;rw [List.take_add_one,List.getElem?_eq_getElem hkx] at hn;rcases List.mem_append.1 hn with hn|hn
   ·exact hok n hn
   ·rw [show n=L[k] by simpa using hn]
    have h4:=of_decide_eq_false h2;unfold Zhc;omega
 ·have hall:∀ n∈L,Zhc n:=by rw [List.take_of_length_le (by omega)] at hok;exact hok
  refine ⟨λ t6 w=>t6=decide (c.pnr.size<=16/\c.lab.size<=16)/\Sat R (Own t 3 (Zd L)::cmC b c sg sp::Hs) w,⟨c.pnr,oA hw,Br.d (λ h=>?_) (λ h=>?_)⟩,?_⟩
  ·refine ⟨c.lab,oA hw,?_,hw⟩
   exact decide_eq_decide.2 (by omega)
  ·exact ⟨by rw [decide_eq_false (by omega)],hw⟩
  clear hw;rintro _ _ w ⟨rfl,hw⟩;refine ⟨λ t7 w=>t7=decide (c.grps.length<=16/\c.parts.length<=16)/\Sat R (Own t 3 (Zd L)::cmC b c sg sp::Hs) w,⟨sg,oA hw,Br.d (λ h=>?_) (λ h=>?_)⟩,?_⟩
  ·refine ⟨sp,oA hw,?_,hw⟩
   exact decide_eq_decide.2 (by omega)
  ·exact ⟨by rw [decide_eq_false (by omega)],hw⟩
  clear hw;rintro _ _ w ⟨rfl,hw⟩;have no2:¬ ZaO c->(Value.bool false=.bool (decide (ZaO c))/\Sat R Hs w):=λ h=>no h hw;refine Br.d (λ h1=>?_) (λ h1=>no2 λ hr=>h1 (Zcf.1 hr).2.1);refine Br.d (λ h2=>?_) (λ h2=>no2 λ hr=>h2 (Zcf.1 hr).2.2.1);refine ⟨c.kind,oA hw,Br.d (λ h3=>?_) (λ h3=>no2 λ hr=>h3 (Zcf.1 hr).2.2.2.1)⟩;refine ⟨c.kind,oA hw,Br.d (λ h4=>?_) (λ h4=>no2 λ hr=>h4 (Zcf.1 hr).2.2.2.2.1)⟩;refine ⟨c.time,oA hw,Br.d (λ h5=>?_) (λ h5=>no2 λ hr=>h5 (Zcf.1 hr).2.2.2.2.2.1)⟩;refine ⟨c.time,oA hw,?_,hw.drop.drop⟩
  congr 1
  refine decide_eq_decide.2 ?_;rw [Zcf,<-hL];exact ⟨λ h6=>⟨hall,h1,h2,h3,h4,h5,h6⟩,λ h6=>h6.2.2.2.2.2.2⟩
end
section
open Go Go.VC Tryz
variable {R:Cx} {Hs Rest:List HP} {w:World}
theorem ZgK {p b n:Nat} {xs bs:List Int} (hn:n=xs.length) (hxs:∀ x∈xs,x<9223372036854775808) (hl:bs.length + 9 * xs.length<=1099511627776) (hw:Sat R (pts b (.cells (Zd xs).toArray 3 (0,0))::WrB p bs::Hs) w):
  Zm prog 49 #[.pointer (some ⟨p,0,none⟩),.slice (some ⟨b,0,none⟩) n n] w λ v w'=>v=.tuple #[]/\Sat R (WrB p (bs++Zv (xs.map nn))::Hs) w':=by
 have hw:Sat R (Own ⟨some ⟨b,0,none⟩,n,n⟩ 3 (Zd xs)::WrB p bs::Hs) w:=ZbI hw (by rw [List.length_map];exact hn);obtain ⟨R',hr,_,hw,back⟩:=Own.lendI hw (by omega);refine (Zn5 hxs hl hr hw).use ?_;rintro _ w ⟨rfl,hw⟩;exact ⟨_,rfl,rfl,(back hw).drop⟩
end
section
open Go Go.VC Tryz
open Classical
variable {R:Cx} {Hs Rest:List HP} {w:World}
theorem Zdd (a:Int) (l:List Int):Zv (a::l)=Zv [a]++Zv l:=Zdy a l
theorem nn1 {a:Int} (h:0<=a):Zv ([a].map nn)=Zv [a]:=by
 show Zv [nn a]=_;rw [ZhZ h]
end
section
open Go Go.VC Tryz
variable {R:Cx} {Hs Rest:List HP} {w:World}
abbrev rpV (r:Rp) (sl sb:Sl):List Value:=[.int .i64 r.code,.string r.pnr,.int .i64 r.state,.int .i64 r.flt,.int .i64 r.cls,.int .i64 r.many,.int .i64 r.time,.slice sl.a sl.len sl.cap,.slice sb.a sb.len sb.cap]
abbrev rpC (b:Nat) (r:Rp) (sl sb:Sl):HP:=pts b (.cells (rpV r sl sb).toArray 31 (0,0))
structure RpW (r:Rp):Prop where
 ZiD:∀ x∈[r.code,r.state,r.flt,r.cls,r.many,r.time]++r.left,x<9223372036854775808
 pnr:r.pnr.size<=100000
 ll:r.left.length<=100000
 bl:r.labs.length<=100000
 labs:∀ s∈r.labs,s.size<=100000
end
section
open Go Go.VC Tryz
variable {R:Cx} {Hs Rest:List HP} {w:World}
theorem Zb2 {r:Nat} {rd:Rd} {most:Int} (hb:Z5 rd.bs) (h0:0<=most) (h1:most<9223372036854775808) (hw:Sat R (ZZ r rd::Hs) w):
  Zm prog 78 #[.agg #[.pointer (some ⟨r,0,none⟩)],.int .i64 most] w λ v w'=>v=.int .i64 (Ze most rd).1/\Sat R (ZZ r (Ze most rd).2::Hs) w':=by
 have hv:=Zw hb h0;apply Zy5;refine Zb hw λ b w hw=>?_;refine ⟨_,oA hw,?_⟩;rw [ZK (by omega) (by omega)];refine (ZeW hb hw.drop).use ?_;rintro _ w ⟨rfl,hw⟩;refine ⟨_,rfl,?_,hw⟩;rw [Zh (by omega) (by omega)]
end
end Go.Proofs.YtfgbbckfikiomaaGreatDoor



namespace Go.Proofs.YtfgbbckfikiomaaGreatDoor
section
open Go Go.VC Tryz
variable {R:Cx} {Hs Rest:List HP} {w:World}
theorem _root_.Go.VC.SlR.b8take {h:ZU} {s:Sl} {xs:List Int} (a:SlR h s (b8 xs)) {k:Nat} (hk:k<=xs.length):SlR h ⟨s.a,k,s.cap⟩ (b8 (xs.take k)):=by
 have:=a.take (k:=k) (by simpa using hk);simpa using this
theorem _root_.Go.VC.SlR.b8drop {h:ZU} {s:Sl} {xs:List Int} (a:SlR h s (b8 xs)) {k:Nat} (hk:k<=xs.length):SlR h (Zb4 s k) (b8 (xs.drop k)):=by
 have:=a.drop (k:=k) (by simpa using hk);simpa using this
theorem ZgZ {r:Nat} {s:Sl} {bs:List Int} {rd:Rd} {most:Int} (hm:most<9223372036854775808) (hl:bs.length<=1099511627776) (hb:∀ x∈bs,0<=x/\x<256) (hs:SlR R.m s (b8 bs)) (hw:Sat R (ZT r s bs rd::Hs) w):
  Zm prog 85 #[.pointer (some ⟨r,0,none⟩),.int .i64 most] w λ v w'=>∃ t:Sl,v=.slice t.a t.len t.cap/\Sat R (Own t 5 (b8 (ZP most rd).1)::ZT r s bs (ZP most rd).2::Hs) w':=by
 have hsl:s.len=bs.length:=by have:=hs.len;simpa using this
 have hscap:=hs.cap;obtain ⟨n,⟨hn,hd⟩,hw⟩:=Sat.rrd.1 hw;have hlen:rd.bs.length=bs.length - n:=by rw [<-hd,List.length_drop]
 have hb2:∀ x∈rd.bs,0<=x/\x<256:=λ x hx=>hb x (by rw [<-hd] at hx;exact List.mem_of_mem_drop hx);apply Zy2;refine (Zig hl hb hs hn hw).use ?_;rintro _ w ⟨rfl,hw⟩;refine ⟨_,_,_,rfl,?_⟩;rw [hd];have bad:ZP most rd=([],⟨rd.bs,true⟩)->∀ {w},Sat R (pts r (Z6 s n rd.bad)::Hs) w->Zc (some ⟨r,0,none⟩) λ a_t25=>
   ∃ w_2:World,((Instr.storeAt 4 (.pointer ((some ⟨a_t25.block,a_t25.off + 2,none⟩))) (.bool true)).run prog w=.ok () w_2)/\
   (∃ t:Sl,Value.slice none 0 0=.slice t.a t.len t.cap/\Sat R (Own t 5 (b8 (ZP most rd).1)::ZT r s bs (ZP most rd).2::Hs) w_2):=λ e w hw=>by
  refine Zc.mk rfl ?_;refine Za hw (by kernel_rfl) rfl (by simp [Value.cells]) λ w hw=>?_;have hw:=hw.re (pts r (Z6 s n true));rw [e];exact ⟨⟨none,0,0⟩,rfl,Own.nil (Sat.rrd.2 ⟨n,⟨hn,hd⟩,hw⟩)⟩
 refine ⟨λ w=>(∃ x k,rd.bad=false/\Za3 rd.bs=some (x,false,k)/\0<=most/\x<=most/\x<=(rd.bs.length:Int) - k)/\Sat R (pts r (Z6 s n rd.bad)::Hs) w,Zo hw λ w hw=>?_,?_⟩
 ·by_cases hbd:rd.bad=true
  ·have e:Zbc ⟨rd.bs,rd.bad⟩=(0,false,0):=by unfold Zbc;rw [if_pos hbd]
   rw [e];dsimp only;refine Br.mk (λ h=>bad ?_ hw) (λ h=>by simp at h);unfold ZP;rw [if_pos hbd];rw [show rd=⟨rd.bs,rd.bad⟩ from rfl,hbd]
  ·have hbd:rd.bad=false:=by simpa using hbd
   cases hp:Za3 rd.bs with
   |none=>
    have e:Zbc ⟨rd.bs,rd.bad⟩=(0,false,0):=by unfold Zbc;simp [hp]
    rw [e];dsimp only;refine Br.mk (λ h=>bad ?_ hw) (λ h=>by simp at h);unfold ZP;rw [if_neg (by rw [hbd];simp),hp]
   |some p=>
    obtain ⟨x,neg,k⟩:=p;have e:Zbc ⟨rd.bs,rd.bad⟩=(x,neg,(k:Int)):=by unfold Zbc;simp [hp,hbd]
    rw [e];dsimp only;obtain ⟨x0,x1,k0,k1,k2⟩:=Zd1 hb2 hp;have e2:ZP most rd=if neg=false/\0<=most/\x<=most/\x<=((rd.bs.length:Int) - k) then (((rd.bs.drop k).take x.toNat),⟨rd.bs.drop (k + x.toNat),false⟩) else ([],⟨rd.bs,true⟩):=by
     unfold ZP;rw [if_neg (by rw [hbd];simp),hp]
    refine Br.e (λ h=>by omega) (λ _=>Br.mk (λ h=>bad ?_ hw) (λ h=>Br.d (λ h2=>bad ?_ hw) (λ h2=>?_)))
    ·rw [e2,if_neg (by rintro ⟨h3,_⟩;rw [h3] at h;cases h)]
    ·rw [e2,if_neg (by rintro ⟨_,h3,_⟩;omega)]
    ·rw [ZK (x:=most) (by omega) (by omega)]
     refine Br.d (λ h3=>bad ?_ hw) (λ h3=>?_)
     ·rw [e2,if_neg (by rintro ⟨_,_,h4,_⟩;omega)]
     ·refine Zc.mk rfl ⟨s,oS,Zc.mk rfl ⟨n,oS,?_⟩⟩
      have e3:IntKind.u64.wrap (IntKind.i64.wrap (IntKind.i64.wrap ((s.len:Int) - (n:Int)) - (k:Int)))=(rd.bs.length:Int) - k:=by
       rw [Zh (x:=(s.len:Int) - (n:Int)) (by omega) (by omega),Zh (by omega) (by omega),ZK (by omega) (by omega)];omega
      rw [e3];refine Br.d (λ h4=>bad ?_ hw) (λ h4=>⟨⟨x,k,hbd,by rw [h],by omega,by omega,by omega⟩,hw⟩);rw [e2,if_neg (by rintro ⟨_,_,_,h5⟩;omega)]
 clear bad hw;rintro _ w ⟨⟨x,k,hbd,hp,hm0,hxm,hxl⟩,hw⟩;obtain ⟨x0,x1,k0,k1,k2⟩:=Zd1 hb2 hp;have e:Zbc ⟨rd.bs,rd.bad⟩=(x,false,(k:Int)):=by unfold Zbc;simp [hp,hbd]
 have e2:ZP most rd=(((rd.bs.drop k).take x.toNat),⟨rd.bs.drop (k + x.toNat),false⟩):=by
  unfold ZP;rw [if_neg (by rw [hbd];simp),hp];dsimp only;rw [if_pos ⟨rfl,hm0,hxm,hxl⟩]
 rw [e,e2];dsimp only;obtain ⟨m,rfl⟩:=Int.eq_ofNat_of_zero_le x0;refine Zc.mk rfl ⟨n,oA hw,Zc.mk rfl ?_⟩;have e3:IntKind.i64.wrap ((n:Int) + (k:Int))=((n + k:Nat):Int):=by rw [Zh (by omega) (by omega)];omega
 have e4:IntKind.i64.wrap (((n + k:Nat):Int) + IntKind.i64.wrap (m:Int))=((n + k + m:Nat):Int):=by rw [Zh (x:=(m:Int)) (by omega) (by omega),Zh (by omega) (by omega)];omega
 dsimp only;rw [e3,e4];refine Za hw (by kernel_rfl) rfl (by simp [Value.cells]) λ w hw=>?_;rw [hbd] at hw;have hw:=hw.re (pts r (Z6 s (n + k + m) false));refine ZaN hw λ w hw=>?_;refine Zc.mk rfl ⟨s,oS,Zc.mk rfl ⟨((n + k + m:Nat):Int),oS,by omega,by omega,by omega,by omega,?_⟩⟩;rw [Int.toNat_natCast,Int.toNat_natCast,Int.toNat_natCast];refine Zb hw λ b w hw=>?_;have e5:n + k + m - (n + k)=m:=by omega
 rw [e5];have hro:SlR R.m ⟨(Zb4 s (n + k)).a,m,(Zb4 s (n + k)).cap⟩ (b8 ((rd.bs.drop k).take m)):=by
  have:=(hs.b8drop (k:=n + k) (by omega)).b8take (k:=m) (by simp;omega);rw [<-List.drop_drop,hd] at this;exact this
 have hll:((rd.bs.drop k).take m).length<=1099511627776:=by simp;omega
 refine ⟨hw.absorb,?_⟩;have hw:Sat R (Own ⟨some ⟨b,0,none⟩,0,0⟩ 5 (([]:List Int).map (Value.int .u8))::VC.tru::pts r (Z6 s (n + k + m) false)::Hs) w:=ZbI hw;refine ZgG ZrD (s:=⟨some ⟨b,0,none⟩,0,0⟩) (t:=⟨(Zb4 s (n + k)).a,m,(Zb4 s (n + k)).cap⟩) (n:=1099511627776) underlying42 hw (hro.ro (by simp;omega)) (by simp;omega) (by omega) (by omega) λ t w hw=>?_;refine ⟨hw.absorb,t,rfl,?_⟩;rw [List.nil_append] at hw;refine hw.cons λ _ h=>Sat.rrd.2 ⟨n + k + m,⟨by omega,?_⟩,h.drop⟩;show bs.drop (n + k + m)=rd.bs.drop (k + m);rw [<-hd,List.drop_drop,Nat.add_assoc]
end
section
open Go Go.VC Tryz
open Classical
variable {R:Cx} {Hs Rest:List HP} {w:World}
abbrev Z2:Sl:=⟨none,0,0⟩
abbrev ZyR (k:Int) (p:ByteArray) (f c m t:Int):Cm:=⟨k,p,f,c,m,t,0,ByteArray.mk #[],0,[],[]⟩
abbrev ZyQ (b:Nat):HP:=cmC b (ZyR 0 (ByteArray.mk #[]) 0 0 0 0) Z2 Z2
section
variable (S:World->Prop) (J:Option Addr->World->Prop) (b4 b:Nat) (r:Option Addr)
end
section
variable {J:Option Addr->World->Prop} {b4 b r:Nat} {rd:Rd} {k f c m t:Int} {p:ByteArray}
def hd2 (rd:Rd):(Int × Int × Int × Int) × Rd:=
 let f:=Ze 9999 rd
 let c:=Ze 9999 f.2
 let m:=Ze 9999 c.2
 let t:=Ze 1099511627776 m.2
 ((f.1,c.1,m.1,t.1),t.2)
end
end
end Go.Proofs.YtfgbbckfikiomaaGreatDoor

namespace Go.Proofs.YtfgbbckfikiomaaGreatDoor
section
open Go Go.VC Tryz
open Classical
variable {R:Cx} {Hs Rest:List HP} {w:World}
abbrev Zyr (k:Int) (p:ByteArray) (s f c m t:Int):Rp:=⟨k,p,s,f,c,m,t,[],[]⟩
abbrev Zq (b:Nat):HP:=rpC b (Zyr 0 (ByteArray.mk #[]) 0 0 0 0 0) Z2 Z2
section
variable (S:World->Prop) (J:Option Addr->World->Prop) (b4 b:Nat) (r:Option Addr)
end
section
variable {J:Option Addr->World->Prop} {b4 b r:Nat} {rd:Rd} {k s f c m t:Int} {p:ByteArray}
end
end
end Go.Proofs.YtfgbbckfikiomaaGreatDoor





namespace Go.Proofs.YtfgbbckfikiomaaGreatDoor
section
open Go Go.VC Tryz
set_option maxRecDepth 10000
def B12  (K:Value->World->Prop) (w:World):Prop:=
 Calls prog 14 #[] w λ I G=>
 ∃ l,(I=.returned (.pointer l))/\
 Br l.isNone
 (K (.bool false) G)
 (Calls prog 38 #[] G λ J M=>
 ∃ o p q r s t u v x,∃ e d:Sl,(J=.returned (.agg #[.int .i64 o,.string p,.int .i64 q,.int .i64 r,.int .i64 s,.int .i64 t,.float .f64 u,.string v,.int .i64 x,e.v,d.v]))/\
 Calls prog 15 #[.pointer l,.agg #[.int .i64 o,.string p,.int .i64 q,.int .i64 r,.int .i64 s,.int .i64 t,.float .f64 u,.string v,.int .i64 x,e.v,d.v]] M λ L N=>
 ∃ y z A C D E F,∃ f g:Sl,(L=.returned (.agg #[.int .i64 y,.string z,.int .i64 A,.int .i64 C,.int .i64 D,.int .i64 E,.int .i64 F,f.v,g.v]))/\
 New (.cells #[.int .i64 0,.string (ByteArray.mk #[]),.int .i64 0,.int .i64 0,.int .i64 0,.int .i64 0,.int .i64 0,.slice none 0 0,.slice none 0 0] 31 (0,0)) (λ j O=>
 ∃ b:World,(St 31 ⟨j,0,none⟩ (.agg #[.int .i64 y,.string z,.int .i64 A,.int .i64 C,.int .i64 D,.int .i64 E,.int .i64 F,f.v,g.v]) O b)/\
 ∃ m,(Aw b ⟨j,0,none⟩ [.int .i64 m])/\
 Br (m==0)
 (∃ k:Sl,(Aw b ⟨j,0 + 7,none⟩ [k.v])/\
 Br ((↑k.len:Int)==1)
 (∃ i:Sl,(Aw b ⟨j,0 + 7,none⟩ [i.v])/\
 Rng 0 i.len (Zc i.a λ H=>
 ∃ n,(Aw b (Addr.add H 0) [.int .i64 n])/\
 K (.bool (n==2)) b))
 (K (.bool false) b))
 (K (.bool false) b)) N)
theorem Zzw  (K:Value->World->Prop) (w:World) (h:B12  K w):Zm prog 12 #[] w K:=cq (sk:=.leaf) func12 (by kernel_rfl) (by kernel_rfl) (by kernel_rfl) h
def B38  (K:Value->World->Prop) (w:World):Prop:=
 New (.cells #[.int .i64 0,.string (ByteArray.mk #[]),.int .i64 0,.int .i64 0,.int .i64 0,.int .i64 0,.float .f64 0,.string (ByteArray.mk #[]),.int .i64 0,.slice none 0 0,.slice none 0 0] 38 (0,0)) (λ e s=>
 New (.cells #[.int .i64 2] 3 (0,0)) (λ p t=>
 New (.cells #[.float .f64 4607182418800017408] 33 (0,0)) (λ q u=>
 ∃ d:World,(St 38 ⟨e,0,none⟩ (.agg #[.int .i64 1,.string (ByteArray.mk #[]),.int .i64 7,.int .i64 0,.int .i64 0,.int .i64 0,.float .f64 0,.string (ByteArray.mk #[]),.int .i64 1,.slice ((some ⟨p,0,none⟩)) 1 1,.slice ((some ⟨q,0,none⟩)) 1 1]) u d)/\
 ∃ f g i j k l m n o,∃ c b:Sl,(Aw d ⟨e,0,none⟩ [.int .i64 f,.string g,.int .i64 i,.int .i64 j,.int .i64 k,.int .i64 l,.float .f64 m,.string n,.int .i64 o,c.v,b.v])/\
 K (.agg #[.int .i64 f,.string g,.int .i64 i,.int .i64 j,.int .i64 k,.int .i64 l,.float .f64 m,.string n,.int .i64 o,c.v,b.v]) d) t) s) w
theorem Zzn  (K:Value->World->Prop) (w:World) (h:B38  K w):Zm prog 38 #[] w K:=cq (sk:=.leaf) func38 (by kernel_rfl) (by kernel_rfl) (by kernel_rfl) h
def B13 (d:Sl) (K:Value->World->Prop) (w:World):Prop:=
 ∃ (j:Int->World->Prop) (r:Int->World->Nat),(j 0 w)/\∀ (s:Env) (b:Int) (f:World),j b f->
 ∃ (k:World->Prop),(Br (decide (b<(↑d.len:Int)))
 (Br (decide (b<400))
 (k  f)
 (K (.bool false) f))
 (K (.bool false) f))/\
 ∀ (t:Env)  (c:World),k  c->
 Rng b d.len (Zc d.a λ l=>
 ∃ g:Sl,(Aw c ⟨(l.add (Za6 b.toNat 11)).block,(l.add (Za6 b.toNat 11)).off + 8 + 1,none⟩ [g.v])/\
 Br (decide ((↑g.len:Int)>100))
 (K (.bool true) c)
 (Rng b d.len (Zc d.a λ m=>
 ∃ i:Sl,(Aw c ⟨(m.add (Za6 b.toNat 11)).block,(m.add (Za6 b.toNat 11)).off + 10,none⟩ [i.v])/\
 Br (decide ((↑i.len:Int)>100))
 (K (.bool true) c)
 (Rng b d.len (Zc d.a λ n=>
 ∃ p,(Aw c ⟨(n.add (Za6 b.toNat 11)).block,(n.add (Za6 b.toNat 11)).off + 1,none⟩ [.string p])/\
 Br (decide ((↑p.size:Int)>1000))
 (K (.bool true) c)
 (Rng b d.len (Zc d.a λ o=>
 ∃ q,(Aw c ⟨(o.add (Za6 b.toNat 11)).block,(o.add (Za6 b.toNat 11)).off + 7,none⟩ [.string q])/\
 Br (decide ((↑q.size:Int)>1000))
 (K (.bool true) c)
 ((j (IntKind.i64.wrap (b + 1)) c)/\r (IntKind.i64.wrap (b + 1)) c<r b f))))))))
def sk13:Sk:=(.seq .leaf (.seq (.seq .leaf (.block (.loop [3] [(.int .i64)] [2,3,4,5,6,7,8,9,10,11,12,13,14,15,16,17,18,19,20,21,22,23,24,25,26,27,28,29,30,31,32,33,34,35,36,37,38,39,40,41,42,43,44,45,46,47,48] (.cut [] [] [4,5,6,7,8,9,10,11] .leaf .leaf)))) .leaf))
theorem Zzv (b:Sl) (K:Value->World->Prop) (w:World) (h:B13 b K w):Zm prog 13 #[b.v] w K:=cq (sk:=sk13) func13 (by kernel_rfl) (by kernel_rfl) (by kernel_rfl) h
def B10 (j:Sl) (K:Value->World->Prop) (w:World):Prop:=
 Calls prog 12 #[] w λ bn b8=>
 ∃ u,(bn=.returned (.bool u))/\
 Calls prog 13 #[j.v] b8 λ bo L=>
 ∃ Z,(bo=.returned (.bool Z))/\
 ∃ (O:World->Prop),(Br (!u)
 (K (.bool u) L)
 (Br Z
 (K (.bool u) L)
 (O  L)))/\
 ∀ (cd:Env)  (bf:World),O  bf->
 Calls prog 14 #[] bf λ bs ca=>
 ∃ E,(bs=.returned (.pointer E))/\
 ∃ (D:Int->World->Prop) (bh:Int->World->Nat),(D 0 ca)/\∀ (ce:Env) (g:Int) (t:World),D g t->
 ∃ (Q:World->Prop),(Br (decide (g<(↑j.len:Int)))
 (Br (decide (g<120))
 (Q  t)
 (K (.bool true) t))
 (K (.bool true) t))/\
 ∀ (cf:Env)  (N:World),Q  N->
 Rng g j.len (Zc j.a λ bi=>
 ∃ aa ab ac ad ae af ag ah ai,∃ l k:Sl,(Aw N (Addr.add bi (Za6 g.toNat 11)) [.int .i64 aa,.string ab,.int .i64 ac,.int .i64 ad,.int .i64 ae,.int .i64 af,.float .f64 ag,.string ah,.int .i64 ai,l.v,k.v])/\
 Calls prog 15 #[.pointer E,.agg #[.int .i64 aa,.string ab,.int .i64 ac,.int .i64 ad,.int .i64 ae,.int .i64 af,.float .f64 ag,.string ah,.int .i64 ai,l.v,k.v]] N λ bt cb=>
 ∃ b1 b2 b3 b4 b5 b6 b7,∃ F G:Sl,(bt=.returned (.agg #[.int .i64 b1,.string b2,.int .i64 b3,.int .i64 b4,.int .i64 b5,.int .i64 b6,.int .i64 b7,F.v,G.v]))/\
 Calls prog 18 #[.pointer E] cb λ bu cc=>
 ∃ e:Sl,(bu=.returned (e.v))/\
 Calls prog 34 #[e.v] cc λ bv bg=>
 ∃ v aj,(bv=.returned (.tuple #[.pointer v,.int .i64 aj]))/\
 Br (aj !=0)
 (K (.bool false) bg)
 (∃ (p:Int->World->Prop) (o:Int->World->Nat),(p 0 bg)/\∀ (cg:Env) (b:Int) (i:World),p b i->
 Zc v λ U=>
 ∃ x:Sl,(Aw i ⟨U.block,U.off + 2,none⟩ [x.v])/\
 Br (decide (b<(↑x.len:Int)))
 (Drw i λ d a7=>
 Zc v λ V=>
 ∃ q:Sl,(At d ⟨V.block,V.off + 2,none⟩ [q.v])/\
 Rng b q.len (Zc q.a λ X=>
 ∃ y,(At d ⟨(X.add (Za6 b.toNat 2)).block,(X.add (Za6 b.toNat 2)).off + 1,none⟩ [.pointer y])/\
 Zc v λ Y=>
 ∃ r:Sl,(At d ⟨Y.block,Y.off + 2,none⟩ [r.v])/\
 Rng b r.len (Zc r.a λ bj=>
 ∃ H,(At d (Addr.add (Addr.add bj (Za6 b.toNat 2)) 0) [.pointer H])/\
 (Calls prog 36 #[.pointer H] a7 λ bw J=>
 ∃ f:Sl,(bw=.returned (f.v))/\
 (d J)/\
 (Calls prog 35 #[.pointer y,f.v] J λ bx a8=>
 ∃ ak al aw ax ay az,(bx=.returned (.tuple #[.agg #[.int .i64 ak,.int .i64 al,.int .i64 aw,.int .i64 ax,.float .f64 ay],.bool az]))/\
 (d a8)/\
 New (.cells #[.int .i64 0,.int .i64 0,.int .i64 0,.int .i64 0,.float .f64 0] 65 (0,0)) (λ bk a9=>
 (d a9)/\
 ∃ z:World,(St 65 ⟨bk,0,none⟩ (.agg #[.int .i64 ak,.int .i64 al,.int .i64 aw,.int .i64 ax,.float .f64 ay]) a9 z)/\
 Br az
 (K (.bool false) z)
 ((p (IntKind.i64.wrap (b + 1)) z)/\o (IntKind.i64.wrap (b + 1)) z<o b i)) a8)/\
 New (.cells #[.int .i64 0,.int .i64 0,.int .i64 0,.int .i64 0,.float .f64 0] 65 (0,0)) (λ bl ba=>
 (d ba)/\
 Calls prog 35 #[.pointer y,f.v] ba λ bz bb=>
 ∃ a0 a1 a2 a3 am an,(bz=.returned (.tuple #[.agg #[.int .i64 a0,.int .i64 a1,.int .i64 a2,.int .i64 a3,.float .f64 am],.bool an]))/\
 (d bb)/\
 ∃ A:World,(St 65 ⟨bl,0,none⟩ (.agg #[.int .i64 a0,.int .i64 a1,.int .i64 a2,.int .i64 a3,.float .f64 am]) bb A)/\
 Br an
 (K (.bool false) A)
 ((p (IntKind.i64.wrap (b + 1)) A)/\o (IntKind.i64.wrap (b + 1)) A<o b i)) J)/\
 New (.cells #[.int .i64 0,.int .i64 0,.int .i64 0,.int .i64 0,.float .f64 0] 65 (0,0)) (λ bm bc=>
 (d bc)/\
 Calls prog 36 #[.pointer H] bc λ b0 bd=>
 ∃ m:Sl,(b0=.returned (m.v))/\
 (d bd)/\
 Calls prog 35 #[.pointer y,m.v] bd λ bp be=>
 ∃ ao ap aq ar au av,(bp=.returned (.tuple #[.agg #[.int .i64 ao,.int .i64 ap,.int .i64 aq,.int .i64 ar,.float .f64 au],.bool av]))/\
 (d be)/\
 ∃ C:World,(St 65 ⟨bm,0,none⟩ (.agg #[.int .i64 ao,.int .i64 ap,.int .i64 aq,.int .i64 ar,.float .f64 au]) be C)/\
 Br av
 (K (.bool false) C)
 ((p (IntKind.i64.wrap (b + 1)) C)/\o (IntKind.i64.wrap (b + 1)) C<o b i)) a7)))
 (Calls prog 37 #[e.v] i λ bq b9=>
 ∃ I a4,(bq=.returned (.tuple #[.pointer I,.int .i64 a4]))/\
 Drw b9 λ T M=>
 Br (a4 !=0)
 (K (.bool false) M)
 (Br I.isNone
 (K (.bool false) M)
 (∃ a6:ByteArray,(∀ c,T c->((convert 42 9 (e.v))).run prog c=.ok (.string a6) c)/\
 Calls prog 18 #[.pointer I] M λ br s=>
 ∃ n:Sl,(br=.returned (n.v))/\
 (T s)/\
 ∃ a5:ByteArray,(∀ c,(λ c=>c=s) c->((convert 42 9 (n.v))).run prog c=.ok (.string a5) c)/\
 Br (!a5.toList==a6.toList)
 (K (.bool false) s)
 ((D (IntKind.i64.wrap (g + 1)) s)/\bh (IntKind.i64.wrap (g + 1)) s<bh g t))))))
def sk10:Sk:=(.seq .leaf (.seq .leaf (.seq .leaf (.cut [] [] [2,18,19,20,21,22,23] .leaf (.seq .leaf (.seq (.seq .leaf (.block (.loop [6] [(.int .i64)] [2,6,7,8,9,10,11,12,13,14,25,26,27,28,29,30,31,32,33,34,35,36,37,38,39,40,41,42,43,44,45,46,47,48,49,50,51,52,53,54,55,56,57,58,59,60,61,62,63,64,65,66,67,68,69,70,71,72,73,74,75,76,77,78,79,80,81,82,83,84,85,86,87,88,89,90,91,92,93,94,95,96,97,98,99] (.cut [] [] [25,26,27,28,29,30,31,32] .leaf (.seq (.block (.seq .leaf (.seq .leaf (.seq .leaf (.seq .leaf (.seq (.seq .leaf (.block (.loop [10] [(.int .i64)] [2,10,11,12,50,51,52,53,54,55,56,57,58,59,60,61,62,63,64,65,66,67,68,69,70,71,72,73,74,75,76,77,78,79,80] (.seq .leaf (.seq (.block (.seq (.block .leaf) .leaf)) .leaf))))) (.seq .leaf (.seq (.block .leaf) .leaf)))))))) .leaf))))) .leaf))))))
theorem Zzx (b:Sl) (K:Value->World->Prop) (w:World) (h:B10 b K w):Zm prog 10 #[b.v] w K:=cq (sk:=sk10) func10 (by kernel_rfl) (by kernel_rfl) (by kernel_rfl) h
end
section
open Go Go.VC Tryz
open Classical
variable {R:Cx} {Hs Rest:List HP} {w:World}
abbrev CmS:=Cm × Sl × Sl
abbrev Zv4 (c:CmS):List Value:=cmV c.1 c.2.1 c.2.2
def Zyd (c:CmS):Prop:=100<c.2.1.len\/100<c.2.2.len\/1000<c.1.pnr.size\/1000<c.1.lab.size
theorem ZqU {l:Sl} {cs:List CmS} (hr:∀ S:World->Prop,(∀ w,S w->Sat R Hs w)->Zgl 11 l (cs.map Zv4) S) (hw:Sat R Hs w):
  Zm prog 13 #[.slice l.a l.len l.cap] w λ v w'=>∃ b:Bool,v=.bool b/\(b=false->∀ c∈cs.take 400,¬ Zyd c)/\Sat R Hs w':=by
 have hlen:=(hr _ (eqS hw)).1;rw [List.length_map] at hlen;apply Zzv;refine ⟨λ i w=>∃ k:Nat,i=k/\k<=400/\k<=cs.length/\(∀ c∈cs.take k,¬ Zyd c)/\Sat R Hs w,λ i _=>400 - i.toNat,⟨0,rfl,by omega,by omega,by simp,hw⟩,?_⟩;clear hw;rintro _ _ w ⟨k,rfl,hk,hkc,hm,hw⟩;have fin:(cs.take k=cs.take 400)->∃ b:Bool,Value.bool false=.bool b/\(b=false->∀ c∈cs.take 400,¬ Zyd c)/\Sat R Hs w:=λ e=>⟨false,rfl,λ _=>by rw [<-e];exact hm,hw⟩;refine ⟨λ w=>(k<400/\k<cs.length)/\Sat R Hs w,?_,?_⟩
 ·with_reducible refine Br.d (λ h=>?_) (λ h=>fin ?_)
  ·with_reducible refine Br.d (λ h2=>?_) (λ h2=>fin ?_)
   ·exact ⟨⟨by omega,by omega⟩,hw⟩
   ·rw [show k=400 by omega]
  ·rw [List.take_of_length_le (by omega),List.take_of_length_le (by omega)]
 clear hw;rintro _ w ⟨⟨h1,h2⟩,hw⟩;have hS:=hr _ (eqS hw);have yes:∀ {b:Bool},b=true->∃ b2:Bool,Value.bool b=.bool b2/\(b2=false->∀ c∈cs.take 400,¬ Zyd c)/\Sat R Hs w:=λ {b} e=>⟨b,rfl,λ h=>(by rw [e] at h;cases h),hw⟩;refine hS.rngM h2 λ a _ he=>⟨cs[k].2.1,he.f 9 (by exact ⟨rfl,trivial⟩),Br.d (λ _=>yes rfl) (λ g1=>?_)⟩;refine hS.rngM h2 λ a _ he=>⟨cs[k].2.2,he.f 10 (by exact ⟨rfl,trivial⟩),Br.d (λ _=>yes rfl) (λ g2=>?_)⟩;refine hS.rngM h2 λ a _ he=>⟨cs[k].1.pnr,he.f 1 (by exact ⟨rfl,trivial⟩),Br.d (λ _=>yes rfl) (λ g3=>?_)⟩;refine hS.rngM h2 λ a _ he=>⟨cs[k].1.lab,he.f 7 (by exact ⟨rfl,trivial⟩),Br.d (λ _=>yes rfl) (λ g4=>?_)⟩;rw [Zh (by omega) (by omega)];refine ⟨⟨k + 1,by omega,by omega,by omega,λ c hc=>?_,hw⟩,by dsimp only;omega⟩;rw [List.take_add_one,List.getElem?_eq_getElem h2] at hc;rcases List.mem_append.1 hc with hc|hc
 ·exact hm c hc
 ·rw [show c=cs[k] by simpa using hc]
  unfold Zyd;omega
end
section
open Go Go.VC Tryz
open Classical
variable {R:Cx} {Hs Rest:List HP} {w:World}
def wtV (w:Wt):List Value:=[.int .i64 w.id,.int .i64 w.cls,.int .i64 w.many,.int .i64 w.time,.float .f64 w.sc]
abbrev Zax (s:Sl):Obj:=.cells [.slice s.a s.len s.cap].toArray 179 (0,0)
def ZC (q:Nat) (l:List Wt):HP:=exs λ s:Sl=>Zgu [pts q (Zax s),Zt 5 s 181 (l.map wtV)]
theorem Sat.qu {q:Nat} {l:List Wt}:Sat R (ZC q l::Hs) w↔∃ s:Sl,Sat R (pts q (Zax s)::Zt 5 s 181 (l.map wtV)::Hs) w:=by
 unfold ZC;rw [Sat.exs];exact ⟨λ⟨s,h⟩=>⟨s,Sat.star.1 h⟩,λ⟨s,h⟩=>⟨s,Sat.star.2 h⟩⟩
abbrev FE:=Nat × Nat × Pl
abbrev BE:=Nat × Bk
def ZAK (e:FE):HP:=Zgu [Zf e.1 e.2.2.r,ZC e.2.1 e.2.2.q]
abbrev Zr (x:Bk):Obj:=.cells [.int .i64 x.id,.int .i64 x.flt,.int .i64 x.cls,.int .i64 x.many,.int .i64 x.state,.int .i64 x.till].toArray 106 (0,0)
def bkAt (e:BE):HP:=pts e.1 (Zr e.2)
def Zi (fs:List FE):HP:=Zgu (fs.map ZAK)
def Zj (xs:List BE):HP:=Zgu (xs.map bkAt)
def flV (e:FE):Int × Value:=(e.2.2.n,.agg #[.pointer (some ⟨e.1,0,none⟩),.pointer (some ⟨e.2.1,0,none⟩)])
def bkV (e:BE):Int × Value:=(e.2.id,.pointer (some ⟨e.1,0,none⟩))
abbrev Zg (b:ZM) (m1 m2:Nat):Obj:=.cells [.int .i64 b.now,.int .i64 b.next,.map (some m1),.map (some m2)].toArray 80 (0,0)
structure ZaP (b:ZM) (fs:List FE) (xs:List BE):Prop where
 fl:(fs.map λ e=>e.2.2).Perm b.fl
 bk:xs.map (λ e=>e.2)=b.L
def Zp (p:Nat) (b:ZM):HP:=exs λ m1:Nat=>exs λ m2:Nat=>exs λ fs:List FE=>exs λ xs:List BE=>
 Zgu [pur (ZaP b fs xs),pts p (Zg b m1 m2),MapAt m1 (fs.map flV),MapAt m2 (xs.map bkV),Zi fs,Zj xs]
theorem Sat.book {p:Nat} {b:ZM}:Sat R (Zp p b::Hs) w↔∃ m1 m2 fs xs,ZaP b fs xs/\Sat R (pts p (Zg b m1 m2)::MapAt m1 (fs.map flV)::MapAt m2 (xs.map bkV)::Zi fs::Zj xs::Hs) w:=by
 unfold Zp;simp only [Sat.exs];constructor
 ·rintro ⟨m1,m2,fs,xs,h⟩
  obtain ⟨h1,h2⟩:=Sat.pur.1 (Sat.star.1 h);exact ⟨m1,m2,fs,xs,h1,h2⟩
 ·rintro ⟨m1,m2,fs,xs,h1,h2⟩
  exact ⟨m1,m2,fs,xs,Sat.star.2 (Sat.pur.2 ⟨h1,h2⟩)⟩
abbrev ZsB:Zye prog 77 Int 3 102 (.agg #[.pointer none,.pointer none]):=⟨underlying77,underlying3,zeroValue102⟩
abbrev Zub:Zye prog 78 Int 3 86 (.pointer none):=⟨underlying78,underlying3,zeroValue86⟩
theorem Zi.snoc {fs:List FE} {f q:Nat} {p:Pl} (hw:Sat R (Zf f p.r::ZC q p.q::Zi fs::Hs) w):Sat R (Zi (fs++[(f,q,p)])::Hs) w:=by
 unfold Zi at hw ⊢;rw [Sat.star,List.map_append,List.append_assoc];have hw:Sat R (Zgu (fs.map ZAK)::Zf f p.r::ZC q p.q::Hs) w:=hw.arr;rw [Sat.star] at hw;have key:∀ (L:List HP) {R:Cx},Sat R (L++Zf f p.r::ZC q p.q::Hs) w->Sat R (L++(List.map ZAK [(f,q,p)]++Hs)) w:=λ L=>by
  induction L with
  |nil=>exact λ h=>Sat.star.2 h
  |cons A L ih=>exact λ h=>h.cons λ _ h=>ih h
 exact key _ hw
theorem ZfQ {β:Type} {k:Int}:∀ {l:List (Int × β)},ZH k l=none↔∀ e∈l,e.1≠k
 |[]=>⟨λ _ _ h=>(by cases h),λ _=>rfl⟩
 |e::l=>by
  rw [ZH];by_cases h:k=e.1
  ·rw [if_pos (by simpa using h)]
   exact ⟨λ h2=>(by cases h2),λ h2=>absurd h.symm (h2 e (by simp))⟩
  ·rw [if_neg (by simpa using h),ZfQ]
   exact ⟨λ h2 x hx=>by
    rcases List.mem_cons.1 hx with h1|h1
    ·rw [h1];exact λ e=>h e.symm
    ·exact h2 x h1,λ h2 x hx=>h2 x (by simp [hx])⟩
theorem ZfU {b:ZM} {fs:List FE} {xs:List BE} (hl:ZaP b fs xs) {n:Int}:ZH n (fs.map flV)=none↔b.at n=none:=by
 unfold ZM.at;rw [ZfQ,ZdF];constructor
 ·intro h p hp
  obtain ⟨e,he,rfl⟩:=List.mem_map.1 (hl.fl.mem_iff.2 hp);exact h (flV e) (List.mem_map.2 ⟨e,he,rfl⟩)
 ·rintro h _ he
  obtain ⟨e,h1,rfl⟩:=List.mem_map.1 he;exact h e.2.2 (hl.fl.mem_iff.1 (List.mem_map.2 ⟨e,h1,rfl⟩))
theorem ZnJ {b:ZM} {fs:List FE} {xs:List BE} (hl:ZaP b fs xs):fs.length=b.fl.length:=by
 have:=hl.fl.length_eq;rwa [List.length_map] at this
abbrev Zgj (e:Int):List PanicEntry:=[⟨.iface 27 (.int .i64 e),false,false⟩]
theorem Zbx {b:Bool} {e:Int} {Q:Ending->World->Prop} (h1:b=true->Q (.returned (.tuple #[])) w) (h2:b=false->Q (.panicked (Zgj e)) w):Calls prog 40 #[.bool b,.int .i64 e] w Q:=by
 have h:ZaX prog 40 #[.bool b,.int .i64 e] w (λ ch w'=>b=false/\ch=Zgj e/\w'=w) (λ v w'=>b=true/\v=.tuple #[]/\w'=w):=by
  apply Zzm;exact Br.nb (λ h=>⟨h,rfl,rfl⟩) (λ h=>⟨h,rfl,rfl⟩)
 refine h.use ?_ ?_
 ·rintro v w' ⟨hb,rfl,e⟩;rw [e];exact h1 hb
 ·rintro v w' ⟨hb,rfl,e⟩;rw [e];exact h2 hb
theorem ZeE {e:Int} {Q:Ending->World->Prop} (h1:e=0->Q (.returned (.tuple #[])) w) (h2:¬ e=0->Q (.panicked (Zgj e)) w):Calls prog 110 #[.int .i64 e] w Q:=by
 have h:ZaX prog 110 #[.int .i64 e] w (λ ch w'=>¬ e=0/\ch=Zgj e/\w'=w) (λ v w'=>e=0/\v=.tuple #[]/\w'=w):=by
  apply ZxU;exact Br.ne (λ h=>⟨h,rfl,rfl⟩) (λ h=>⟨h,rfl,rfl⟩)
 refine h.use ?_ ?_
 ·rintro v w' ⟨hb,rfl,e⟩;rw [e];exact h1 hb
 ·rintro v w' ⟨hb,rfl,e⟩;rw [e];exact h2 hb
theorem ZrV {r:Nat} {x:Rp} {sl sb:Sl} {e:Int} {Kr:World->Prop} (hw:Sat R (rpC r x sl sb::Hs) w) (k:∀ w,Sat R (rpC r (ZbL e) Z2 Z2::Hs) w->Kr w):
  Zu prog 39 [.pointer (some ⟨r,0,none⟩)] (.panicking (Zgj e)) Kr w:=by
 unfold Zu;refine CallsD.mono (Zwa (some ⟨r,0,none⟩) (.iface 27 (.int .i64 e)) Kr w ?_) ?_
 ·refine ⟨true,λ w' _=>by kernel_rfl,Br.t rfl ?_⟩
  refine ⟨e,λ w' _=>by kernel_rfl,Zc.mk rfl ?_⟩;refine Za hw (by kernel_rfl) rfl (by simp [Value.cells]) λ w hw=>?_;exact k w (hw.re (rpC r (ZbL e) Z2 Z2))
 ·rintro e v w' ⟨hy,rfl,hk⟩
  exact ⟨hy,rfl,hk⟩
theorem ZmK {r:Nat} {Kr:World->Prop} (k:Kr w):Zu prog 39 [.pointer (some ⟨r,0,none⟩)] .returning Kr w:=by
 unfold Zu;refine CallsD.mono (Zv8 (some ⟨r,0,none⟩) Kr w ?_) ?_
 ·exact ⟨false,λ w' _=>by kernel_rfl,Br.f rfl k⟩
 ·rintro e v w' ⟨hy,rfl,hk⟩
  exact ⟨hy,rfl,hk⟩
theorem Zk0 (hw:Sat R Hs w):Zm prog 111 #[] w λ v w'=>∃ q,v=.pointer (some ⟨q,0,none⟩)/\Sat R (ZC q []::Hs) w':=by
 apply ZxT;refine Zb hw λ q w hw=>⟨q,rfl,Sat.qu.2 ⟨Z2,?_⟩⟩;exact (Zt.nil hw).swap
theorem ZhM (hw:Sat R Hs w):Zm prog 14 #[] w λ v w'=>∃ p,v=.pointer (some ⟨p,0,none⟩)/\Sat R (Zp p Zbj::Hs) w':=by
 apply Zzu;refine Zb hw λ m1 w hw=>?_;have hw:=MapAt.new (α:=Int) rfl hw;refine Zb hw λ m2 w hw=>?_;have hw:=MapAt.new (α:=Int) rfl hw;refine Zb hw λ p w hw=>⟨p,rfl,Sat.book.2 ⟨m1,m2,[],[],⟨List.Perm.refl _,rfl⟩,?_⟩⟩;have hw:Sat R (pts p (Zg Zbj m1 m2)::MapAt (α:=Int) m2 []::MapAt (α:=Int) m1 []::Hs) w:=hw;have hw:Sat R (pts p (Zg Zbj m1 m2)::MapAt (α:=Int) m1 []::MapAt (α:=Int) m2 []::Hs) w:=hw.arr;exact hw.cons λ _ h=>h.cons λ _ h=>h.cons λ _ h=>Sat.star.2 (Sat.star.2 h)
end
section
open Go Go.VC Tryz
open Classical
variable {R:Cx} {Hs Rest:List HP} {w:World}
abbrev Zgs (c:Cm):Rp:=⟨0,emS,0,c.flt,0,0,0,Zn (Zjc c.flt c.rows c.grps (Z7 (ZaL c.rows c.grps) c.parts).1),[]⟩
set_option maxHeartbeats 1000000 in
theorem ZiY {p:Nat} {b:ZM} {c:Cm} {sg sp:Sl} (hfl:b.fl.length<=1000000) (hg:RoI R sg c.grps) (hp:SlR R.m sp (ZnH c.parts)) (hw:Sat R (Zp p b::Hs) w):
  ZaX prog 42 #[.pointer (some ⟨p,0,none⟩),.agg #[.int .i64 c.kind,.string c.pnr,.int .i64 c.flt,.int .i64 c.cls,.int .i64 c.many,.int .i64 c.time,.float .f64 c.sc,.string c.lab,.int .i64 c.rows,.slice sg.a sg.len sg.cap,.slice sp.a sp.len sp.cap]] w
   (λ ch w'=>∃ e,ch=Zgj e/\Zck b c=(b,ZbL e)/\Sat R (Zp p b::Hs) w')
   (λ v w'=>(Zck b c).2=Zgs c/\∃ sl:Sl,v=.agg (rpV (Zgs c) sl Z2).toArray/\Sat R (Own sl 3 (Zd (Zgs c).left)::Zp p (Zck b c).1::Hs) w'):=by
 apply Zzk
 suffices H:∀ (X:List PanicEntry->World->Prop) (K:Value->World->Prop),(∀ e w',Zck b c=(b,ZbL e)->Sat R (Zp p b::Hs) w'->X (Zgj e) w')->
   (∀ sl w',(Zck b c).2=Zgs c->Sat R (Own sl 3 (Zd (Zgs c).left)::Zp p (Zck b c).1::Hs) w'->K (.agg (rpV (Zgs c) sl Z2).toArray) w')->B42 (some ⟨p,0,none⟩) c.kind c.pnr c.flt c.cls c.many c.time c.sc c.lab c.rows sg sp X K w from
  H _ _ (λ e w' h1 h2=>⟨e,rfl,h1,h2⟩) (λ sl w' h1 h2=>⟨h1,sl,rfl,h2⟩)
 intro X K hX hK;obtain ⟨m1,m2,fs,xs,hl,hw⟩:=Sat.book.1 hw;have hlen:=ZnJ hl;refine Zb hw λ b3 w hw=>Zb hw λ b4 w hw=>?_;have hw:Sat R (MapAt m1 (fs.map flV)::pts p (Zg b m1 m2)::cmC b3 c sg sp::Zq b4::MapAt m2 (xs.map bkV)::Zi fs::Zj xs::Hs) w:=by
  have hw:Sat R (Zq b4::cmC b3 c sg sp::pts p (Zg b m1 m2)::MapAt m1 (fs.map flV)::MapAt m2 (xs.map bkV)::Zi fs::Zj xs::Hs) w:=hw;exact hw.arr
 have close:∀ {w},Sat R (MapAt m1 (fs.map flV)::pts p (Zg b m1 m2)::cmC b3 c sg sp::Zq b4::MapAt m2 (xs.map bkV)::Zi fs::Zj xs::Hs) w->Sat R (Zp p b::Hs) w:=λ {w} hw=>by
  have hw:Sat R (cmC b3 c sg sp::Zq b4::pts p (Zg b m1 m2)::MapAt m1 (fs.map flV)::MapAt m2 (xs.map bkV)::Zi fs::Zj xs::Hs) w:=hw.arr;exact Sat.book.2 ⟨m1,m2,fs,xs,hl,hw.drop.drop⟩
 refine ZaN hw λ w hw=>?_;refine Zc.mk rfl ⟨some m1,At.own (λ _ h=>h) (by exact ⟨rfl,trivial⟩),c.flt,At.own (λ _ h=>h) (by exact ⟨rfl,trivial⟩),?_⟩;have look:∀ w',Sat R (VC.tru::MapAt m1 (fs.map flV)::pts p (Zg b m1 m2)::cmC b3 c sg sp::Zq b4::MapAt m2 (xs.map bkV)::Zi fs::Zj xs::Hs) w'->
   (Instr.lookup 77 (.map (some m1)) (.int .i64 c.flt) true).run prog w'=.ok (.tuple #[(ZH c.flt (fs.map flV)).getD (.agg #[.pointer none,.pointer none]),.bool (ZH c.flt (fs.map flV)).isSome]) w':=λ w' h=>
  MapAt.look ZsB h.swap c.flt true
 obtain ⟨v1,v2,hv⟩:∃ v1 v2:Option Addr,(ZH c.flt (fs.map flV)).getD (.agg #[.pointer none,.pointer none])=.agg #[.pointer v1,.pointer v2]:=by
  cases hgm:ZH c.flt (fs.map flV) with
  |none=>exact ⟨none,none,rfl⟩
  |some v=>
   obtain ⟨A,C,e,_⟩:=Zan hgm;have:(c.flt,v)∈fs.map flV:=by rw [e];simp
   obtain ⟨x,_,hx⟩:=List.mem_map.1 this;have hx2:=congrArg Prod.snd hx;exact ⟨_,_,hx2.symm⟩
 rw [hv] at look;refine ⟨v1,v2,_,look,?_⟩;refine Zb hw λ b5 w hw=>⟨hw.absorb,?_⟩;refine Za hw (by kernel_rfl) rfl (by simp [Value.cells]) λ w hw=>?_;have hw:=hw.drop.drop;have hat:=ZfU hl (n:=c.flt);refine Zbx (λ hn=>.inl ⟨rfl,?_⟩) (λ hn=>.inr ⟨_,rfl,hX 7 w ?_ (close hw)⟩)
 rotate_left
 ·unfold Zck
  rw [if_pos];cases hba:b.at c.flt with
  |none=>rw [hat.2 hba] at hn;cases hn
  |some _=>rfl
 have hno:ZH c.flt (fs.map flV)=none:=by
  cases hgm:ZH c.flt (fs.map flV) with
  |none=>rfl
  |some v=>rw [hgm] at hn;cases hn
 have hba:=hat.1 hno;have o1:¬ (b.at c.flt).isSome=true:=by rw [hba];simp
 refine Zc.mk rfl ⟨some m1,oA hw,((fs.map flV).length:Int),λ w' e=>?_,?_⟩
 ·rw [show w'=w from e]
  exact MapAt.len (by kernel_rfl) hw
 rw [List.length_map,hlen];refine Zbx (λ hn8=>.inl ⟨rfl,?_⟩) (λ hn8=>.inr ⟨_,rfl,hX 3 w ?_ (close hw)⟩)
 rotate_left
 ·have:=of_decide_eq_false hn8
  unfold Zck;rw [if_neg o1,if_pos (by omega)]
 have h8:=of_decide_eq_true hn8;have o2:¬ 8<=b.fl.length:=by omega
 refine ⟨c.flt,oA hw,c.rows,sg,At.own (eqS hw) (by exact ⟨rfl,rfl,trivial⟩),sp,oA hw,?_⟩;refine (Zo0 hg hp hw).use ?_;clear hw;rintro _ w (⟨hn,rfl,hw⟩|⟨hn,f,rfl,hw⟩)
 ·refine .inl ⟨none,1,rfl,ZeE (λ h=>by cases h) (λ _=>.inr ⟨_,rfl,hX 1 w ?_ (close hw)⟩)⟩
  unfold Zck;rw [if_neg o1,if_neg o2,if_pos hn]
 have hopen:Zck b c=({ b with fl:=Zps Pl.n ⟨Zjc c.flt c.rows c.grps (Z7 (ZaL c.rows c.grps) c.parts).1,[]⟩ b.fl },Zgs c):=by
  unfold Zck;rw [if_neg o1,if_neg o2,if_neg (λ h=>h hn)]
 obtain ⟨r,hr⟩:∃ r,r=Zjc c.flt c.rows c.grps (Z7 (ZaL c.rows c.grps) c.parts).1:=⟨_,rfl⟩;have hw:Sat R (Zf f r::MapAt m1 (fs.map flV)::pts p (Zg b m1 m2)::cmC b3 c sg sp::Zq b4::MapAt m2 (xs.map bkV)::Zi fs::Zj xs::Hs) w:=by
  rw [hr];exact Sat.lone.2 ⟨_,⟨ZpF,ZnB hn⟩,hw⟩
 rw [<-hr] at hopen;refine .inl ⟨some ⟨f,0,none⟩,0,rfl,ZeE (λ _=>.inl ⟨rfl,?_⟩) (λ h=>absurd rfl h)⟩;refine ZE (Sat R [cmC b3 c sg sp,pts p (Zg b m1 m2),VC.tru]) hw (λ w hw=>?_) λ w hw=>?_
 ·exact (hw.arr (Hs':=cmC b3 c sg sp::pts p (Zg b m1 m2)::Zf f r::MapAt m1 (fs.map flV)::Zq b4::MapAt m2 (xs.map bkV)::Zi fs::Zj xs::Hs)).cons λ _ h=>h.restTru2
 refine Zc.mk rfl ⟨some m1,At.own (λ _ h=>h) (by exact ⟨rfl,trivial⟩),c.flt,At.own (λ _ h=>h) (by exact ⟨rfl,trivial⟩),?_⟩;refine (Zk0 hw).use ?_;clear hw;rintro _ w ⟨q,rfl,hw⟩;refine .inl ⟨_,rfl,?_,?_⟩
 ·exact (hw.arr (Hs':=cmC b3 c sg sp::pts p (Zg b m1 m2)::ZC q []::Zf f r::MapAt m1 (fs.map flV)::Zq b4::MapAt m2 (xs.map bkV)::Zi fs::Zj xs::Hs)).cons λ _ h=>h.restTru2
 have hw:Sat R (MapAt m1 (fs.map flV)::Zf f r::ZC q []::Zi fs::pts p (Zg b m1 m2)::cmC b3 c sg sp::Zq b4::MapAt m2 (xs.map bkV)::Zj xs::Hs) w:=hw.arr;refine MapAt.put ZsB hw c.flt (.agg #[.pointer (some ⟨f,0,none⟩),.pointer (some ⟨q,0,none⟩)]) λ w hw=>?_;have hput:ZdZ c.flt (.agg #[.pointer (some ⟨f,0,none⟩),.pointer (some ⟨q,0,none⟩)]) (fs.map flV)=(fs++[((f,q,⟨r,[]⟩):FE)]).map flV:=by
  unfold ZdZ;rw [hno];have:r.num=c.flt:=by rw [hr];rfl
  simp only [Option.isSome_none,Bool.false_eq_true,if_false,List.map_append,List.map_cons,List.map_nil,flV,Pl.n,this]
 rw [hput] at hw;refine ZE (Sat R [cmC b3 c sg sp,VC.tru]) hw (λ w hw=>?_) λ w hw=>?_
 ·exact (hw.arr (Hs':=cmC b3 c sg sp::MapAt m1 ((fs++[((f,q,⟨r,[]⟩):FE)]).map flV)::Zf f r::ZC q []::Zi fs::pts p (Zg b m1 m2)::Zq b4::MapAt m2 (xs.map bkV)::Zj xs::Hs)).restTru2
 refine ⟨c.flt,At.own (λ _ h=>h) (by exact ⟨rfl,trivial⟩),?_⟩;have hw:Sat R (Zf f r::MapAt m1 ((fs++[((f,q,⟨r,[]⟩):FE)]).map flV)::ZC q []::Zi fs::pts p (Zg b m1 m2)::cmC b3 c sg sp::Zq b4::MapAt m2 (xs.map bkV)::Zj xs::Hs) w:=hw.swap;refine (ZbW hw).use ?_;clear hw;rintro _ w ⟨sl,rfl,hw⟩;refine .inl ⟨sl,rfl,?_,?_⟩
 ·exact (hw.arr (Hs':=cmC b3 c sg sp::Own sl 3 (Zd (Zn r))::Zf f r::MapAt m1 ((fs++[((f,q,⟨r,[]⟩):FE)]).map flV)::ZC q []::Zi fs::pts p (Zg b m1 m2)::Zq b4::MapAt m2 (xs.map bkV)::Zj xs::Hs)).restTru2
 refine Za hw (by kernel_rfl) rfl (by simp [Value.cells]) λ w hw=>?_;have hw:=hw.re (rpC b4 (Zgs c) sl Z2);refine ⟨0,emS,0,c.flt,0,0,0,sl,Z2,At.own (eqS hw) (by exact ⟨rfl,rfl,rfl,rfl,rfl,rfl,rfl,rfl,rfl,trivial⟩),?_⟩;have hw:Sat R (Own sl 3 (Zd (Zn r))::pts p (Zg b m1 m2)::MapAt m1 ((fs++[((f,q,⟨r,[]⟩):FE)]).map flV)::MapAt m2 (xs.map bkV)::Zf f r::ZC q []::Zi fs::Zj xs::rpC b4 (Zgs c) sl Z2::cmC b3 c sg sp::Hs) w:=hw.arr;refine hK sl w (by rw [hopen]) ?_;rw [hopen];dsimp only;rw [<-hr];refine hw.cons λ _ hw=>Sat.book.2 ⟨m1,m2,fs++[((f,q,⟨r,[]⟩):FE)],xs,⟨?_,hl.bk⟩,?_⟩
 ·rw [List.map_append]
  refine (List.perm_append_singleton _ _).trans (List.Perm.trans (hl.fl.cons _) Zlp.symm)
 ·refine hw.cons λ _ h=>h.cons λ _ h=>h.cons λ _ h=>?_
  exact (Zi.snoc h).cons λ _ h=>h.cons λ _ h=>h.drop.drop
end
section
open Go Go.VC Tryz
open Classical
variable {R:Cx} {Hs Rest:List HP} {w:World}
set_option maxHeartbeats 1000000 in
theorem ZlN {p:Nat} {b:ZM} {c:Cm} {sg sp:Sl} (hk:c.kind=1) (hr:ZaO c) (hfl:b.fl.length<=1000000) (hg:RoI R sg c.grps) (hp:SlR R.m sp (ZnH c.parts)) (hw:Sat R (Zp p b::Hs) w):
  Zm prog 15 #[.pointer (some ⟨p,0,none⟩),.agg #[.int .i64 c.kind,.string c.pnr,.int .i64 c.flt,.int .i64 c.cls,.int .i64 c.many,.int .i64 c.time,.float .f64 c.sc,.string c.lab,.int .i64 c.rows,.slice sg.a sg.len sg.cap,.slice sp.a sp.len sp.cap]] w
   λ v w'=>∃ sl:Sl,v=.agg (rpV (Zck b c).2 sl Z2).toArray/\Sat R (Own sl 3 (Zd (Zck b c).2.left)::Zp p (Zck b c).1::Hs) w':=by
 have hplen:sp.len=c.parts.length:=by have:=hp.len;simpa using this
 have hgl:c.grps.length<=17592186043904:=by have:=hr.gl;omega
 apply ZuE;refine Zb hw λ b3 w hw=>Zb hw λ b4 w hw=>?_;have hw:Sat R (Zq b4::cmC b3 c sg sp::Zp p b::Hs) w:=hw;refine ⟨c.kind,c.pnr,c.flt,c.cls,c.many,c.time,c.sc,c.lab,c.rows,sg,sp,At.own (eqS hw) (by exact ⟨rfl,rfl,rfl,rfl,rfl,rfl,rfl,rfl,rfl,rfl,rfl,trivial⟩),?_⟩;refine (ZeN hg hgl hplen hw).use ?_;clear hw;rintro _ w ⟨rfl,hw⟩;refine .inl ⟨_,rfl,Zbx (λ _=>.inl ⟨rfl,?_⟩) (λ h=>absurd hr (of_decide_eq_false h))⟩;refine ⟨c.kind,oA hw,Br.e (λ _=>?_) (λ h=>absurd hk h)⟩;refine ⟨c.kind,c.pnr,c.flt,c.cls,c.many,c.time,c.sc,c.lab,c.rows,sg,sp,At.own (eqS hw) (by exact ⟨rfl,rfl,rfl,rfl,rfl,rfl,rfl,rfl,rfl,rfl,rfl,trivial⟩),?_⟩;have hw:Sat R (Zp p b::Zq b4::cmC b3 c sg sp::Hs) w:=hw.arr;refine (ZiY hfl hg hp hw).use ?_ ?_
 ·clear hw
  rintro _ w ⟨he,sl,rfl,hw⟩;refine .inl ⟨0,emS,0,c.flt,0,0,0,sl,Z2,rfl,?_⟩;refine Za hw (by kernel_rfl) rfl (by simp [Value.cells]) λ w hw=>?_;have hw:=hw.re (rpC b4 (Zgs c) sl Z2);refine ZmK ⟨0,emS,0,c.flt,0,0,0,sl,Z2,At.own (eqS hw) (by exact ⟨rfl,rfl,rfl,rfl,rfl,rfl,rfl,rfl,rfl,trivial⟩),sl,?_,?_⟩
  ·rw [he]
  ·rw [he]
   have hw:Sat R (Own sl 3 (Zd (Zgs c).left)::Zp p (Zck b c).1::rpC b4 (Zgs c) sl Z2::cmC b3 c sg sp::Hs) w:=hw.arr;exact hw.cons λ _ h=>h.cons λ _ h=>h.drop.drop
 ·clear hw
  rintro _ w ⟨e,rfl,he,hw⟩;refine .inr ⟨_,rfl,?_⟩;have hw:Sat R (Zq b4::Zp p b::cmC b3 c sg sp::Hs) w:=hw.swap;refine ZrV hw λ w hw=>⟨e,emS,0,0,0,0,0,Z2,Z2,At.own (eqS hw) (by exact ⟨rfl,rfl,rfl,rfl,rfl,rfl,rfl,rfl,rfl,trivial⟩),Z2,?_,?_⟩
  ·rw [he];rfl
  ·rw [he]
   exact Own.nil (hw.drop.cons λ _ h=>h.drop)
def ZsE:Cm:=⟨1,ByteArray.mk #[],7,0,0,0,0,ByteArray.mk #[],1,[2],[4607182418800017408]⟩
theorem ZlO:Z7 (ZaL 1 [2]) [4607182418800017408]=([2],0):=by kernel_rfl
theorem Zsp:Zn (Zjc 7 1 [2] [2])=[2]:=by kernel_rfl
theorem Zx7:Zjs 7 1 [2] [4607182418800017408]:=⟨by omega,by omega,by kernel_rfl,by rw [ZlO]⟩
theorem Zpi:ZaO ZsE:=by
 refine ⟨?_,?_,?_,?_,?_,?_,?_,?_,?_,?_,?_⟩<;>unfold ZsE<;>try (unfold Zhc)<;>try (simp only;omega)
 ·intro n hn
  simp only [List.mem_singleton] at hn;subst hn;omega
 all_goals first|(show (0:Nat)<=16;omega)|simp
theorem Zso:(Zck Zbj ZsE).2=⟨0,emS,0,7,0,0,0,[2],[]⟩:=by
 have h1:¬ (Zbj.at ZsE.flt).isSome=true:=by
  show ¬ (Zty Pl.n 7 []).isSome=true;unfold Zty;simp
 unfold Zck;rw [if_neg h1,if_neg (by show ¬ 8<=0;omega),if_neg (λ h=>h Zx7)];show (⟨0,emS,0,7,0,0,0,Zn (Zjc 7 1 [2] (Z7 (ZaL 1 [2]) [4607182418800017408]).1),[]⟩:Rp)=_;rw [ZlO,Zsp]
theorem ZoI (hw:Sat R Hs w):Zm prog 38 #[] w λ v w'=>∃ sg sp:Sl,v=.agg (cmV ZsE sg sp).toArray/\Sat R (Own sg 3 (Zd ZsE.grps)::Own sp 33 (ZnH ZsE.parts)::Hs) w':=by
 apply Zzn;refine Zb hw λ b w hw=>Zb hw λ x w hw=>Zb hw λ y w hw=>?_;have hw:Sat R (pts y (.cells (ZnH [4607182418800017408]).toArray 33 (0,0))::pts x (.cells (Zd [2]).toArray 3 (0,0))::ZyQ b::Hs) w:=hw;have hw:Sat R (ZyQ b::pts y (.cells (ZnH [4607182418800017408]).toArray 33 (0,0))::pts x (.cells (Zd [2]).toArray 3 (0,0))::Hs) w:=hw.arr;refine Za hw (by kernel_rfl) rfl (by simp [Value.cells]) λ w hw=>?_;have hw:=hw.re (cmC b ZsE ⟨some ⟨x,0,none⟩,1,1⟩ ⟨some ⟨y,0,none⟩,1,1⟩);refine ⟨_,_,_,_,_,_,_,_,_,⟨some ⟨x,0,none⟩,1,1⟩,⟨some ⟨y,0,none⟩,1,1⟩,At.own (eqS hw) (by exact ⟨rfl,rfl,rfl,rfl,rfl,rfl,rfl,rfl,rfl,rfl,rfl,trivial⟩),⟨some ⟨x,0,none⟩,1,1⟩,⟨some ⟨y,0,none⟩,1,1⟩,rfl,?_⟩;exact (ZbI (n:=1) (hw.drop.swap)).cons λ _ h=>ZbI (n:=1) h
theorem Zsn (hw:Sat R Hs w):Zm prog 12 #[] w λ v w'=>v=.bool true/\Sat R Hs w':=by
 apply Zzw;refine (ZhM hw).use ?_;clear hw;rintro _ w ⟨p,rfl,hw⟩;refine ⟨_,rfl,Br.f rfl ?_⟩;refine (ZoI hw).use ?_;clear hw;rintro _ w ⟨sg,sp,rfl,hw⟩;obtain ⟨R1,e1,g1,hw⟩:=Own.leak hw;obtain ⟨R2,e2,g2,hw⟩:=Own.leak hw;refine ⟨_,_,_,_,_,_,_,_,_,sg,sp,rfl,?_⟩;refine (ZlN (c:=ZsE) rfl Zpi (by show 0<=1000000;omega) (e2.ro (g1.ro (by unfold ZsE;simp))) g2 hw).use ?_;clear hw;rintro _ w ⟨sl,rfl,hw⟩;rw [Zso] at hw ⊢;refine ⟨_,_,_,_,_,_,_,sl,Z2,rfl,?_⟩;refine Zb hw λ b w hw=>?_;refine Za hw (by kernel_rfl) rfl (by simp [Value.cells]) λ w hw=>?_;have hw:=hw.re (rpC b ⟨0,emS,0,7,0,0,0,[2],[]⟩ sl Z2);refine ⟨0,oA hw,Br.e (λ _=>?_) (λ h=>absurd rfl h)⟩;have hw:=hw.swap;have hsl:=Own.len hw;have hsl:sl.len=1:=hsl;refine ⟨sl,oA hw,Br.e (λ _=>?_) (λ h=>absurd (by rw [hsl];rfl) h)⟩;refine ⟨sl,oA hw,Own.ix (xs:=[2]) hw (eqS hw) 0 rfl (by simp) ⟨rfl,?_⟩⟩;exact e1.back (e2.back hw.drop.drop.drop)
end
end Go.Proofs.YtfgbbckfikiomaaGreatDoor


namespace Go.VC
section
open Go.ChangeShapes Go.WideShapes Go.ChangeAt Go.RowKit
theorem Zua {W W':World} {Hs:List HP} (h:Sat (Cx.of W) Hs W'):Below W.heap.size W W':=by
 obtain ⟨h1,h2,h3⟩:=h.streams;have hb:∀ k,k<W.heap.size->W'.heap[k]? =W.heap[k]?:=λ k hk=>by
  have:(Cx.of W).m k=some W.heap[k]:=by simp [Cx.of,hk]
  rw [h.of_ro this];simp [hk]
 refine ⟨h1,h2,h3,?_,hb⟩;rcases Nat.lt_or_ge W'.heap.size W.heap.size with hl|hl
 ·have:=hb W'.heap.size hl
  rw [Array.getElem?_eq_none (Nat.le_refl _)] at this;simp [hl] at this
 ·exact hl
theorem Zkb {w:World} {a:Addr} {v:Value} (h:w.cell? a=some v):a.spot=none/\∃ l T fr,w.heap[a.block]? =some (.cells l T fr)/\l[a.off]? =some v:=by
 unfold World.cell? at h;split at h
 ·rename_i c T fr hb
  split at h
  ·cases h
  ·rename_i hs
   exact ⟨by simpa using hs,c,T,fr,hb,h⟩
 ·cases h
section
variable {H:Type} {enc:TypeId × Value->H} {P:Program} {W:World} {base:Nat} {spare:Nat->Bool} {held:Bool}
end
end
end Go.VC

