/- The formulas of functions of this seat's translation, printed by a program of mine off the translation; each is proved equal to 'fnF' of the function's body, so it is enough for the call. No condition. -/
import Derived.Test.YtlplemdmegpoeaaGreatDoorB2
import Derived.Test.YtlplemdmegpoeaaGreatDoorB1
import Derived.Laws.RangeAny
set_option linter.unusedVariables false
set_option linter.defProp false
set_option linter.unusedSimpArgs false
set_option maxHeartbeats 8000000
namespace Go.Proofs.YtlplemdmegpoeaaGreatDoor
section
open Go Go.VC Tryz
set_option maxRecDepth 10000
def B135 (d:Nat) (K:Value->xE) (w:nW):Prop:=Ext prog 210 #[xF d] w λ c b=>∃ a,(c=xR (.int .u64 a))/\Br (ZaH BinOp.and IntKind.u64 a 9223372036854775808 !=0) (K (.int .u64 (IntKind.u64.wrap (↑(BitVec.ofInt IntKind.u64.bits (if IntKind.u64.signed=true then -1 else IntKind.u64.max) ^^^ BitVec.ofInt IntKind.u64.bits a).toNat:Int))) b) (K (.int .u64 (ZaH BinOp.or IntKind.u64 a 9223372036854775808)) b)
def ZtZ (a K w) (h:B135 a K w):Zg prog 135 #[xF a] w K:=cq (sk:=.leaf) h func135
def B229 (a:Int) (K:Value->xE) (w:nW):Prop:=Br (ZaH BinOp.and IntKind.u64 a 9223372036854775808==0) (Ext prog 222 #[.int .u64 (IntKind.u64.wrap (↑(BitVec.ofInt IntKind.u64.bits (if IntKind.u64.signed=true then -1 else IntKind.u64.max) ^^^ BitVec.ofInt IntKind.u64.bits a).toNat:Int))] w λ d f=>∃ c,(d=xR (xF c))/\K (xF c) f) (Ext prog 222 #[.int .u64 (ZaH BinOp.andNot IntKind.u64 a 9223372036854775808)] w λ e g=>∃ b,(e=xR (xF b))/\K (xF b) g)
def ZsW (a K w) (h:B229 a K w):Zg prog 229 #[.int .u64 a] w K:=cq (sk:=.leaf) h func229
def B243 (b c:Nat) (K:Value->xE) (w:nW):Prop:=nC 277 #[xF b,xF c] w λ d e=>∃ a,eI d a/\K (nI a) e
def ZsM (a b K w) (h:B243 a b K w):Zg prog 243 #[xF a,xF b] w K:=cq (sk:=.leaf) h func243
def B277 (c d:Nat) (K:Value->xE) (w:nW):Prop:=nC 293 #[xF c] w λ j l=>∃ i,eB j i/\nC 293 #[xF d] l λ k b=>∃ e,eB k e/\Br i
 (Br e
 (K (nI 0) b) (K (nI ((-1))) b)) (Br e
 (K (nI 1) b) (∃ f:Bool,(∀ a,(λ a=>a=b) a->((do eqGuard BinOp.lss 35 (Operand.tmp 14) (Operand.tmp 15) (xF c) (xF d);binOp BinOp.lss 35 (xF c) (xF d):Sem Value)).run prog a=.ok (.bool f) a)/\Br f
 (K (nI ((-1))) b) (∃ g:Bool,(∀ a,(λ a=>a=b) a->((do eqGuard BinOp.gtr 35 (Operand.tmp 17) (Operand.tmp 18) (xF c) (xF d);binOp BinOp.gtr 35 (xF c) (xF d):Sem Value)).run prog a=.ok (.bool g) a)/\Br g
 (K (nI 1) b) (K (nI 0) b))))
def Zsu (a b K w) (h:B277 a b K w):Zg prog 277 #[xF a,xF b] w K:=cq (sk:=.leaf) h func277
def B293 (b:Nat) (K:Value->xE) (w:nW):Prop:=∃ c:Bool,(∀ a,(λ a=>a=w) a->((do eqGuard BinOp.neq 35 (Operand.tmp 3) (Operand.tmp 4) (xF b) (xF b);binOp BinOp.neq 35 (xF b) (xF b):Sem Value)).run prog a=.ok (.bool c) a)/\K (.bool c) w
def Zsq (a K w) (h:B293 a K w):Zg prog 293 #[xF a] w K:=cq (sk:=.leaf) h func293
def B244 (c d:Int) (K:Value->xE) (w:nW):Prop:=nC 278 #[nI c] w λ f i=>∃ e,eB f e/\nC 278 #[nI d] i λ g a=>∃ b,eB g b/\Br e
 (Br b
 (K (nI 0) a) (K (nI ((-1))) a)) (Br b
 (K (nI 1) a) (Br (decide (c<d)) (K (nI ((-1))) a) (Br (decide (c>d)) (K (nI 1) a) (K (nI 0) a))))
def ZsL (a b K w) (h:B244 a b K w):Zg prog 244 #[nI a,nI b] w K:=cq (sk:=.leaf) h func244
def B242 (f:Sl) (K:Value->xE) (w:nW):Prop:=∃ (d:lI) (g:lJ),(d 0 w)/\∀ (k:Env) b c,d b c->Br (decide (b<(↑f.len:Int))) ((rN b f λ i=>∃ e,zI c (i.add b.toNat) e/\Br (e !=0) (K (nI e) c) ((d (wI (b + 1)) c)/\g (wI (b + 1)) c<g b c))) (K (nI 0) c)
def ZwZ:Sk:=(nS 2 (.seq (nS 1 (.block (.loop [8] [(.int .i64)] (2::5::ng 8 9) .leaf))) .leaf))
def ZsN (b K w) (h:B242 b K w):Zg prog 242 #[b.v] w K:=cq (sk:=ZwZ) h func242
def B100  (K:Value->xE) (w:nW):Prop:=New (.cells #[nV] 190 (0,0)) (λ a b=>K (nP a) b) w
def Zuv  (K w) (h:B100  K w):Zg prog 100 #[] w K:=cq (sk:=.leaf) h func100
def B172 (z A C D:Int) (E:Nat) (I J L M:Int) (N:Nat) (K:Value->xE) (w:nW):Prop:=New (.cells #[nI z,nI A,nI C,nI D,xF E] 192 (0,0)) (λ b F=>New (.cells #[nI I,nI J,nI L,nI M,xF N] 192 (0,0)) (λ c G=>Drw G λ a H=>∃ n,(At a ⟨c,0 + 4,none⟩ [xF n])/\∃ d,(At a ⟨b,0 + 4,none⟩ [xF d])/\∃ f,hI a b 3 f/\∃ g,hI a c 3 g/\∃ j,kI a ⟨b,0,none⟩ j/\∃ k,kI a ⟨c,0,none⟩ k/\nC 243 #[xF n,xF d] H λ u o=>∃ e,eI u e/\ (a o)/\nC 244 #[nI f,nI g] o λ v p=>∃ i,eI v i/\ (a p)/\nC 244 #[nI j,nI k] p λ x q=>∃ l,eI x l/\ (a q)/\New (.cells #[nI e,nI i,nI l] 3 (0,0)) (λ t r=> (a r)/\nC 242 #[.slice (some ⟨t,0,none⟩) 3 3] r λ y s=>∃ m,eI y m/\ (a s)/\K (nI m) s) q) F) w
def ZtA (a b c d e f g i j k K w) (h:B172 a b c d e f g i j k K w):Zg prog 172 #[.agg #[nI a,nI b,nI c,nI d,xF e],.agg #[nI f,nI g,nI i,nI j,xF k]] w K:=cq (sk:=.leaf) h func172
def B169 (t u v x:Int) (y:Nat) (K:Value->xE) (w:nW):Prop:=New (.cells #[nI t,nI u,nI v,nI x,xF y] 192 (0,0)) (λ b o=>∃ m,zI o ⟨b,0,none⟩ m/\nC 239 #[nI m,nI 1,nI 28629151] o λ p c=>∃ n,eB p n/\Br n
 (∃ f,yI c b 1 f/\nC 239 #[nI f,nI 0,nI 7] c λ q d=>∃ g,eB q g/\Br g
 (∃ i,yI d b 2 i/\nC 239 #[nI i,nI 1,nI 600] d λ r e=>∃ j,eB r j/\Br j
 (∃ k,yI e b 3 k/\nC 239 #[nI k,nI 0,nI 1099511627776] e λ s z=>∃ l,eB s l/\K (.bool l) z) (K (.bool false) e)) (K (.bool false) d)) (K (.bool false) c)) w
def ZtD (a b c d e K w) (h:B169 a b c d e K w):Zg prog 169 #[.agg #[nI a,nI b,nI c,nI d,xF e]] w K:=cq (sk:=.leaf) h func169
def B239 (a c b:Int) (K:Value->xE) (w:nW):Prop:=Br (decide (a >= c)) (K (.bool (decide (a<=b))) w) (K (.bool false) w)
def ZsQ (c b a K w) (h:B239 c b a K w):Zg prog 239 #[nI c,nI b,nI a] w K:=cq (sk:=.leaf) h func239
def B170 (j:xA) (i:Int) (K:Value->xE) (w:nW):Prop:=New (.cells #[nI i] 3 (0,0)) (λ f d=>Zb j λ e=>∃ b,zS d (e.add 0) b/\nC 240 #[b.v,.func (.func 241) #[] #[nP f]] d λ g l=>∃ c,eI g c/\K (nI c) l) w
def ZtC (b a K w) (h:B170 b a K w):Zg prog 170 #[xP b,nI a] w K:=cq (sk:=.leaf) h func170
def B241 (i j k l:Int) (m:Nat) (g:xA) (K:Value->xE) (w:nW):Prop:=New (.cells #[nI i,nI j,nI k,nI l,xF m] 192 (0,0)) (λ f b=>∃ c,zI b ⟨f,0,none⟩ c/\Zb g λ e=>∃ d,(Aw b e [nI d])/\K (.bool (c==d)) b) w
def ZsO (b c d e f a K w) (h:B241 b c d e f a K w):Zg prog 241 #[.agg #[nI b,nI c,nI d,nI e,xF f],xP a] w K:=cq (sk:=.leaf) h func241
def B102 (f:xA) (ai aj ak al:Int) (am:Nat) (K:Value->xE) (w:nW):Prop:=New (.cells #[nI ai,nI aj,nI ak,nI al,xF am] 168 (0,0)) (λ o T=>∃ L M N O Q,(Aw T ⟨o,0,none⟩ [nI L,nI M,nI N,nI O,xF Q])/\New (.cells #[nI 0,nI 0,nI 0,nI 0,xF 0] 192 (0,0)) (λ i an=>∃ l,sT 192 i (.agg #[nI L,nI M,nI N,nI O,xF Q]) an l/\∃ p q r s t,(Aw l ⟨i,0,none⟩ [nI p,nI q,nI r,nI s,xF t])/\nC 169 #[.agg #[nI p,nI q,nI r,nI s,xF t]] l λ ad m=>∃ u,eB ad u/\Br (!u) (K (nI 1) m) (∃ v,zI m ⟨o,0,none⟩ v/\nC 170 #[xP f,nI v] m λ ae k=>∃ x,eI ae x/\Br (decide (x >= 0)) (K (nI 7) k) (Zb f λ Y=>∃ j,zS k (Y.add 0) j/\Br (decide ((↑j.len:Int) >= 200)) (K (nI 3) k) (Drw k λ n ao=>Zb f λ Z=>∃ c,kS n (Z.add 0) c/\∃ y z A C D,(At n ⟨i,0,none⟩ [nI y,nI z,nI A,nI C,xF D])/\nC 171 #[c.v,.agg #[nI y,nI z,nI A,nI C,xF D],.func (.func 172) #[] #[]] ao λ af ap=>∃ E ah,(af=xR (.tuple #[nI E,.bool ah]))/\Drw ap λ g aq=>Zb f λ aa=>∃ d,kS g (aa.add 0) d/\∃ F G H I J,(At g ⟨i,0,none⟩ [nI F,nI G,nI H,nI I,xF J])/\New (.cells #[nI F,nI G,nI H,nI I,xF J] 192 (0,0)) (λ ac X=> (g X)/\nC 173 #[d.v,nI E,.slice (some ⟨ac,0,none⟩) 1 1] X λ ag U=>∃ e,eS ag e/\ (g U)/\Zb f λ ab=>∃ V,(St 188 (ab.add 0) (e.v) U V)/\K (nI 0) V) aq)))) T) w
def Zut (a b c d e f K w) (h:B102 a b c d e f K w):Zg prog 102 #[xP a,.agg #[nI b,nI c,nI d,nI e,xF f]] w K:=cq (sk:=.leaf) h func102
def B105 (e:xA) (m:Int) (K:Value->xE) (w:nW):Prop:=nC 170 #[xP e,nI m] w λ k f=>∃ d,eI k d/\Br (decide (d<0)) (K (nI 2) f) (Zb e λ i=>∃ b,zS f (i.add 0) b/\nC 176 #[b.v,nI d,nI (wI (d + 1))] f λ l o=>∃ c,eS l c/\Zb e λ j=>∃ g,(St 188 (j.add 0) (c.v) o g)/\K (nI 0) g)
def Zuq (b a K w) (h:B105 b a K w):Zg prog 105 #[xP b,nI a] w K:=cq (sk:=.leaf) h func105
def B56 (C:xA) (K:Value->xE) (w:nW):Prop:=Zb C λ z=>∃ d,zS w (z.add 0) d/\∃ (i:lK) (x:lL),(i ⟨none,0,0⟩ 0 w)/\∀ (F:Env) b c g,i b c g->Br (decide (c<(↑d.len:Int))) ((rN c d λ y=>∃ m n o p q,(Aw g (y.add (YQ c.toNat 5)) [nI m,nI n,nI o,nI p,xF q])/\New (.cells #[nI 0,nI 0,nI 0,nI 0,xF 0] 192 (0,0)) (λ l D=>∃ j,sT 192 l (.agg #[nI m,nI n,nI o,nI p,xF q]) D j/\∃ r s t u v,(Aw j ⟨l,0,none⟩ [nI r,nI s,nI t,nI u,xF v])/\New (.cells #[nI r,nI s,nI t,nI u,xF v] 168 (0,0)) (λ A E=>∃ k e,aP 100 b.v (.slice (some ⟨A,0,none⟩) 1 1) E k e/\ (i e (wI (c + 1)) k)/\x e (wI (c + 1)) k<x b c g) j) g)) (K (b.v) g)
def sk56:Sk:=(nS 2 (.seq (nS 1 (.block (.loop [3,11] [.sl,(.int .i64)] (3::5::ng 11 10) .leaf))) .leaf))
def ZvQ (a K w) (h:B56 a K w):Zg prog 56 #[xP a] w K:=cq (sk:=sk56) h func56
def B174 (Z:xA) (m:Sl) (K:Value->xE) (w:nW):Prop:=New (.cells #[nI 0,nI 0,nI 0,nI 0,xF 0] 168 (0,0)) (λ k T=>Zb Z λ Y=>∃ d,zS T (Y.add 0) d/\∃ (i:lI) (l:lJ),(i 0 T)/\∀ (ab:Env) b e,i b e->Br (decide (b<(↑d.len:Int))) ((rN b d λ V=>∃ q r s t u,(Aw e (V.add (YQ b.toNat 5)) [nI q,nI r,nI s,nI t,xF u])/\New (.cells #[nI 0,nI 0,nI 0,nI 0,xF 0] 192 (0,0)) (λ g aa=>∃ U,sT 192 g (.agg #[nI q,nI r,nI s,nI t,xF u]) aa U/\Drw U λ j f=>∃ v,hI j g 1 v/\Br (decide (v<(↑m.len:Int))) (∃ x,hI j g 2 x/\∃ n,hI j g 1 n/\ (rN n m λ X=>∃ y,kI j (X.add n.toNat) y/\Br (decide (x<=y)) (∃ z A C D E,(Aw f ⟨g,0,none⟩ [nI z,nI A,nI C,nI D,xF E])/\∃ o,sT 168 k (.agg #[nI z,nI A,nI C,nI D,xF E]) f o/\∃ F G H I J,(Aw o ⟨k,0,none⟩ [nI F,nI G,nI H,nI I,xF J])/\K (.tuple #[.agg #[nI F,nI G,nI H,nI I,xF J],.bool true]) o) ((i (wI (b + 1)) f)/\l (wI (b + 1)) f<l b e))) ((i (wI (b + 1)) f)/\l (wI (b + 1)) f<l b e)) e)) (∃ p,sT 168 k (.agg #[nI 0,nI 0,nI 0,nI 0,xF 0]) e p/\∃ L M N O Q,(Aw p ⟨k,0,none⟩ [nI L,nI M,nI N,nI O,xF Q])/\K (.tuple #[.agg #[nI L,nI M,nI N,nI O,xF Q],.bool false]) p)) w
def Zxo:Sk:=(nS 1 (.seq (nS 1 (.block (.loop [13] [(.int .i64)] (5::7::ng 13 25) .leaf))) .leaf))
def Zty (c b K w) (h:B174 c b K w):Zg prog 174 #[xP c,b.v] w K:=cq (sk:=Zxo) h func174
def B65 (t:xA) (K:Value->xE) (w:nW):Prop:=Zb t λ U=>∃ o,zS w (U.add 0) o/\nC 128 #[.int .u64 (IntKind.u64.wrap (↑o.len:Int))] w λ X I=>∃ p,eS X p/\Zb t λ Q=>∃ j,zS I (Q.add 0) j/\∃ (q:lK) (N:lL),(q p 0 I)/\∀ (ad:Env) g d n,q g d n->Br (decide (d<(↑j.len:Int))) ((rN d j λ T=>∃ u v x y z,(Aw n (T.add (YQ d.toNat 5)) [nI u,nI v,nI x,nI y,xF z])/\New (.cells #[nI 0,nI 0,nI 0,nI 0,xF 0] 192 (0,0)) (λ i aa=>∃ J,sT 192 i (.agg #[nI u,nI v,nI x,nI y,xF z]) aa J/\Drw J λ b ab=>∃ A,kI b ⟨i,0,none⟩ A/\∃ C,hI b i 1 C/\∃ D,hI b i 2 D/\∃ E,hI b i 3 E/\∃ F,(At b ⟨i,0 + 4,none⟩ [xF F])/\nC 135 #[xF F] ab λ Y L=>∃ G,(Y=xR (.int .u64 G))/\ (b L)/\New (.cells #[.int .u64 (IntKind.u64.wrap A),.int .u64 (IntKind.u64.wrap C),.int .u64 (IntKind.u64.wrap D),.int .u64 (IntKind.u64.wrap E),.int .u64 G] 141 (0,0)) (λ V M=> (b M)/\∃ (r:lK) (O:lL),(r g 0 M)/\∀ (ae:Env) c e l,r c e l->Br (decide (e<(↑5:Int))) (Rng e 5 (∃ H,(Aw l (Addr.add ⟨V,0,none⟩ e.toNat) [.int .u64 H])/\nC 128 #[.int .u64 H] l λ Z ac=>∃ k,eS Z k/\∃ s m,aP 47 c.v k.v ac s m/\ (r m (wI (e + 1)) s)/\O m (wI (e + 1)) s<O c e l)) ((q c (wI (d + 1)) l)/\N c (wI (d + 1)) l<N g d n)) L) n)) (K (g.v) n)
def sk65:Sk:=(nS 2 (.seq (nS 1 (.block (.loop [3,20] [.sl,(.int .i64)] (3::5::7::ng 20 36) (nS 2 (.seq (.block (nS 2 (.block (.loop [3,46] [.sl,(.int .i64)] (3::7::ng 46 9) .leaf)))) .leaf))))) .leaf))
def ZvJ (a K w) (h:B65 a K w):Zg prog 65 #[xP a] w K:=cq (sk:=sk65) h func65
def B240 (e:Sl) (q:Value) (K:Value->xE) (w:nW):Prop:=∃ (d:lI) (n:lJ),(d 0 w)/\∀ (s:Env) b c,d b c->Br (decide (b<(↑e.len:Int))) ((rN b e λ o=>∃ g i j k l,(Aw c (o.add (YQ b.toNat 5)) [nI g,nI i,nI j,nI k,xF l])/\XP prog cl q [.agg #[nI g,nI i,nI j,nI k,xF l]] c λ p f=>∃ m,eB p m/\Br m
 (K (nI b) f) ((d (wI (b + 1)) f)/\n (wI (b + 1)) f<n b c))) (K (nI ((-1))) c)
def Zw0:Sk:=(nS 1 (.seq (nS 1 (.block (.loop [8] [(.int .i64)] (4::5::ng 8 11) .leaf))) .leaf))
def ZsP (b c K w) (h:B240 b c K w):Zg prog 240 #[b.v,c] w K:=cq (sk:=Zw0) h func240
def B171 (d:Sl) (U V X Y:Int) (Z:Nat) (m:Value) (K:Value->xE) (w:nW):Prop:=New (.cells #[nI U,nI V,nI X,nI Y,xF Z] 192 (0,0)) (λ l aa=>∃ (f:Int->Int->xE) (i:Int->Int->World->Nat),(f 0 ((↑d.len:Int)) aa)/\∀ (ad:Env) (b:Int) (c:Int) (e:World),f b c e->Br (decide (b<c)) (Drw e λ j ab=>Rng (wI (Zbl IntKind.u64 (IntKind.u64.wrap (wI (b + c))) 1)) d.len (Zb d.a λ N=>∃ n o p q r,(At j (N.add (YQ (wI (Zbl IntKind.u64 (IntKind.u64.wrap (wI (b + c))) 1)).toNat 5)) [nI n,nI o,nI p,nI q,xF r])/\∃ s t u v x,(At j ⟨l,0,none⟩ [nI s,nI t,nI u,nI v,xF x])/\XP prog cl m [.agg #[nI n,nI o,nI p,nI q,xF r],.agg #[nI s,nI t,nI u,nI v,xF x]] ab λ Q g=>∃ y,eI Q y/\Br (decide (y<0)) ((f (wI (wI (Zbl IntKind.u64 (IntKind.u64.wrap (wI (b + c))) 1) + 1)) c g)/\i (wI (wI (Zbl IntKind.u64 (IntKind.u64.wrap (wI (b + c))) 1) + 1)) c g<i b c e) ((f b (wI (Zbl IntKind.u64 (IntKind.u64.wrap (wI (b + c))) 1)) g)/\i b (wI (Zbl IntKind.u64 (IntKind.u64.wrap (wI (b + c))) 1)) g<i b c e))) (Drw e λ k M=>Br (decide (b<(↑d.len:Int))) ((rN b d λ O=>∃ z A C D E,(At k (O.add (YQ b.toNat 5)) [nI z,nI A,nI C,nI D,xF E])/\∃ F G H I J,(At k ⟨l,0,none⟩ [nI F,nI G,nI H,nI I,xF J])/\XP prog cl m [.agg #[nI z,nI A,nI C,nI D,xF E],.agg #[nI F,nI G,nI H,nI I,xF J]] M λ T ac=>∃ L,eI T L/\K (.tuple #[nI b,.bool (L==0)]) ac)) (K (.tuple #[nI b,.bool false]) M))) w
def Zxp:Sk:=(nS 3 (.seq (.block (.loop [9,10] [(.int .i64),(.int .i64)] (9::10::11::ng 15 20) .leaf)) .leaf))
def ZtB (b d e f g i c K w) (h:B171 b d e f g i c K w):Zg prog 171 #[b.v,.agg #[nI d,nI e,nI f,nI g,xF i],c] w K:=cq (sk:=Zxp) h func171
def B173 (b:Sl) (d:Int) (c:Sl) (K:Value->xE) (w:nW):Prop:=((0:Int)<=d)/\ ((d:Int)<=(↑b.len:Int))/\Br ((↑c.len:Int)==0) (K (b.v) w) (Br (d==(↑b.len:Int)) (∃ i f,aP 188 b.v c.v w i f/\K (f.v) i) (Br (decide (wI ((↑b.len:Int) + (↑c.len:Int))>(↑b.cap:Int))) (((0:Int)<=d)/\ ((d:Int)<=(↑b.cap:Int))/\∃ k:World,∃ e:Sl,((Builtin.append_ #[188,3] 188 #[.slice b.a d.toNat b.cap,nI (wI (wI ((↑b.len:Int) + (↑c.len:Int)) - d))]).run prog w=.ok (e.v) k)/\ ((0:Int)<=d)/\ ((d:Int)<=(↑e.len:Int))/\∃ l:World,∃ s:Int,((Builtin.copy_ #[188,188] 3 #[.slice (X4 e.a d.toNat e.cap 5) (e.len - d.toNat) (e.cap - d.toNat),c.v]).run prog k=.ok (nI s) l)/\Drw l λ C z=> ((0:Int)<=wI (d + (↑c.len:Int)))/\ ((wI (d + (↑c.len:Int)):Int)<=(↑e.len:Int))/\ ((0:Int)<=d)/\ ((d:Int)<=(↑b.len:Int))/\∃ m:World,∃ t:Int,((Builtin.copy_ #[188,188] 3 #[.slice (X4 e.a (wI (d + (↑c.len:Int))).toNat e.cap 5) (e.len - (wI (d + (↑c.len:Int))).toNat) (e.cap - (wI (d + (↑c.len:Int))).toNat),.slice (X4 b.a d.toNat b.cap 5) (b.len - d.toNat) (b.cap - d.toNat)]).run prog z=.ok (nI t) m)/\K (e.v) m) (((0:Int)<=wI ((↑b.len:Int) + (↑c.len:Int)))/\ ((wI ((↑b.len:Int) + (↑c.len:Int)):Int)<=(↑b.cap:Int))/\ ((0:Int)<=wI (d + (↑c.len:Int)))/\ ((wI (d + (↑c.len:Int)):Int)<=(↑(wI ((↑b.len:Int) + (↑c.len:Int))).toNat:Int))/\Ext prog 245 #[c.v,.slice (X4 b.a (wI (d + (↑c.len:Int))).toNat b.cap 5) ((wI ((↑b.len:Int) + (↑c.len:Int))).toNat - (wI (d + (↑c.len:Int))).toNat) (b.cap - (wI (d + (↑c.len:Int))).toNat)] w λ q n=>∃ g,eB q g/\Br (!g) (Drw n λ D A=> ((0:Int)<=wI (d + (↑c.len:Int)))/\ ((wI (d + (↑c.len:Int)):Int)<=(↑(wI ((↑b.len:Int) + (↑c.len:Int))).toNat:Int))/\ ((0:Int)<=d)/\ ((d:Int)<=(↑(wI ((↑b.len:Int) + (↑c.len:Int))).toNat:Int))/\∃ o:World,∃ u:Int,((Builtin.copy_ #[188,188] 3 #[.slice (X4 b.a (wI (d + (↑c.len:Int))).toNat b.cap 5) ((wI ((↑b.len:Int) + (↑c.len:Int))).toNat - (wI (d + (↑c.len:Int))).toNat) (b.cap - (wI (d + (↑c.len:Int))).toNat),.slice (X4 b.a d.toNat b.cap 5) ((wI ((↑b.len:Int) + (↑c.len:Int))).toNat - d.toNat) (b.cap - d.toNat)]).run prog A=.ok (nI u) o)/\ ((0:Int)<=d)/\ ((d:Int)<=(↑(wI ((↑b.len:Int) + (↑c.len:Int))).toNat:Int))/\∃ p:World,∃ v:Int,((Builtin.copy_ #[188,188] 3 #[.slice (X4 b.a d.toNat b.cap 5) ((wI ((↑b.len:Int) + (↑c.len:Int))).toNat - d.toNat) (b.cap - d.toNat),c.v]).run prog o=.ok (nI v) p)/\K (.slice b.a ((wI ((↑b.len:Int) + (↑c.len:Int))).toNat) b.cap) p) (((0:Int)<=(↑b.len:Int))/\ (((↑b.len:Int):Int)<=(↑(wI ((↑b.len:Int) + (↑c.len:Int))).toNat:Int))/\∃ j:World,∃ x:Int,((Builtin.copy_ #[188,188] 3 #[.slice (X4 b.a (↑b.len:Int).toNat b.cap 5) ((wI ((↑b.len:Int) + (↑c.len:Int))).toNat - (↑b.len:Int).toNat) (b.cap - (↑b.len:Int).toNat),c.v]).run prog n=.ok (nI x) j)/\ ((0:Int)<=d)/\ ((d:Int)<=(↑(wI ((↑b.len:Int) + (↑c.len:Int))).toNat:Int))/\nC 246 #[.slice (X4 b.a d.toNat b.cap 5) ((wI ((↑b.len:Int) + (↑c.len:Int))).toNat - d.toNat) (b.cap - d.toNat),nI ((↑c.len:Int))] j λ r y=>eU r/\K (.slice b.a ((wI ((↑b.len:Int) + (↑c.len:Int))).toNat) b.cap) y))))
def Ztz (b d c K w) (h:B173 b d c K w):Zg prog 173 #[b.v,nI d,c.v] w K:=cq (sk:=.leaf) h func173
def B176 (b:Sl) (e d:Int) (K:Value->xE) (w:nW):Prop:=((0:Int)<=(↑b.len:Int))/\ (((↑b.len:Int):Int)<=(↑b.cap:Int))/\ ((0:Int)<=d)/\ ((d:Int)<=(↑(↑b.len:Int).toNat:Int))/\ ((0:Int)<=e)/\ ((e:Int)<=(↑d.toNat:Int))/\Br (e==d) (K (b.v) w) (Drw w λ j i=> ((0:Int)<=e)/\ ((e:Int)<=(↑b.cap:Int))/\ ((0:Int)<=d)/\ ((d:Int)<=(↑b.len:Int))/\∃ f c,aP 188 (.slice b.a e.toNat b.cap) (.slice (X4 b.a d.toNat b.cap 5) (b.len - d.toNat) (b.cap - d.toNat)) i f c/\ ((0:Int)<=(↑b.len:Int))/\ (((↑b.len:Int):Int)<=(↑c.cap:Int))/\ ((0:Int)<=(↑c.len:Int))/\ (((↑c.len:Int):Int)<=(↑(↑b.len:Int).toNat:Int))/\∃ g:World,((Builtin.clear_ #[188] 0 #[.slice (X4 c.a (↑c.len:Int).toNat c.cap 5) ((↑b.len:Int).toNat - (↑c.len:Int).toNat) (c.cap - (↑c.len:Int).toNat)]).run prog f=.ok (.tuple #[]) g)/\K (c.v) g)
def Ztw (b c d K w) (h:B176 b c d K w):Zg prog 176 #[b.v,nI c,nI d] w K:=cq (sk:=.leaf) h func176
def B182  (K:Value->xE) (w:nW):Prop:=New (.cells #[nI 0] 3 (0,0)) (λ a e=>New (.cells #[nI 0] 3 (0,0)) (λ b f=>∃ c,sT 3 a (nI 0) f c/\∃ d,sT 3 b (nI 2) c d/\K (.func (.func 254) #[] #[nP a,nP b]) d) e) w
def Ztr  (K w) (h:B182  K w):Zg prog 182 #[] w K:=cq (sk:=.leaf) h func182
def B254 (o:Int) (b c:xA) (K:Value->xE) (w:nW):Prop:=Zb b λ m=>∃ i,(Aw w m [nI i])/\Zb c λ n=>∃ j,(Aw w n [nI j])/\∃ d:World,((Instr.storeAt 3 (xP b) (nI ((wI (i + wI (j * o))).tmod 31))).run prog w=.ok () d)/\Zb c λ k=>∃ f,(Aw d k [nI f])/\∃ e:World,((Instr.storeAt 3 (xP c) (nI (wI (f + 1)))).run prog d=.ok () e)/\Zb b λ l=>∃ g,(Aw e l [nI g])/\K (nI g) e
def ZsE (c a b K w) (h:B254 c a b K w):Zg prog 254 #[nI c,xP a,xP b] w K:=cq (sk:=.leaf) h func254
def B121 (m:Int) (K:Value->xE) (w:nW):Prop:=∃ (r:xE),(Br (decide (m<0)) (K (.tuple #[xZ nB,nI 1]) w) (Br (decide (m >= 28629151)) (K (.tuple #[xZ nB,nI 1]) w) (r  w)))/\∀ (L:Env) z,r z->New (.cells #[.int .u8 0,.int .u8 0,.int .u8 0,.int .u8 0,.int .u8 0,.int .u8 0] 255 (0,0)) (λ l I=>New (.cells #[nI 0,nI 0,nI 0,nI 0,nI 0] 256 (0,0)) (λ s J=>∃ (j:Int->Int->xE) (E:Int->Int->World->Nat),(j m 4 J)/\∀ (M:Env) (d:Int) (b:Int) (g:World),j d b g->Br (decide (b >= 0)) (Rng b 5 (∃ q,(St 3 (Addr.add ⟨s,0,none⟩ b.toNat) (nI (d.tmod 31)) g q)/\ (j (wI (d.tdiv 31)) (wI (b - 1)) q)/\E (wI (d.tdiv 31)) (wI (b - 1)) q<E d b g)) (nC 182 #[] g λ G A=>∃ t:Value,(G=xR (t))/\∃ n:List Value,(n.length=5)/\ (Aw A ⟨s,0,none⟩ n)/\∃ (k:Int->Int->xE) (F:Int->Int->World->Nat),(k 0 0 A)/\∀ (N:Env) (e:Int) (a:Int) (i:World),k e a i->Br (decide (a<5)) (Rng a 5 (∃ f:Int,(n.toArray[a.toNat]? =some (nI f))/\∃ u:UInt8,((0:Int)<=f)/\ ((ByteArray.mk #[65,66,67,68,69,70,71,72,74,75,76,77,78,80,81,82,84,85,86,87,88,89,90,50,51,52,53,54,55,56,57])[f.toNat]? =some u)/\Rng a 6 (∃ C,(St 5 (Addr.add ⟨l,0,none⟩ a.toNat) (.int .u8 ((↑u.toNat:Int))) i C)/\XP prog cl t [nI f] C λ H D=>∃ o,eI H o/\ (k o (wI (a + 1)) D)/\F o (wI (a + 1)) D<F e a i))) (∃ v:UInt8,((0:Int)<=(wI (31 - e)).tmod 31)/\ ((ByteArray.mk #[65,66,67,68,69,70,71,72,74,75,76,77,78,80,81,82,84,85,86,87,88,89,90,50,51,52,53,54,55,56,57])[((wI (31 - e)).tmod 31).toNat]? =some v)/\∃ p,(St 5 (Addr.add ⟨l,0,none⟩ 5) (.int .u8 ((↑v.toNat:Int))) i p)/\∃ x:Addr,(some (Addr.mk l 0 none)=some x)/\∃ y:ByteArray,(∀ c,(λ c=>c=p) c->((convert 47 9 (.slice ((some (x))) 6 6))).run prog c=.ok (xZ y) c)/\K (.tuple #[xZ y,nI 0]) p))) I) z
def ZxF:Sk:=(nS 1 (.cut [] [] (2::3::ng 11 6) .leaf (nS 2 (.seq (nS 1 (.block (.loop [0,6] [(.int .i64),(.int .i64)] (0::6::ng 17 10) .leaf))) (nS 1 (.seq (nS 1 (.block (.loop [8,29] [(.int .i64),(.int .i64)] (8::9::10::ng 29 12) .leaf))) .leaf))))))
def Zua (a K w) (h:B121 a K w):Zg prog 121 #[nI a] w K:=cq (sk:=ZxF) h func121
def B108 (l:ByteArray) (K:Value->xE) (w:nW):Prop:=Br ((↑l.size:Int) !=6) (K (.tuple #[nI 0,nI 6]) w) (nC 182 #[] w λ r v=>∃ m:Value,(r=xR (m))/\New (.stringIter l 0) (λ q x=>∃ (e:Int->Int->xE) (g:Int->Int->World->Nat),(e 0 0 x)/\∀ (A:Env) (a:Int) (b:Int) (f:World),e a b f->Zqg (some ⟨q,0,none⟩) (λ u k y=>nC 183 #[xZ (ByteArray.mk #[65,66,67,68,69,70,71,72,74,75,76,77,78,80,81,82,84,85,86,87,88,89,90,50,51,52,53,54,55,56,57]),.int .u8 (IntKind.u8.wrap k)] y λ s o=>∃ c,eI s c/\∃ (i:Bool->xE),(Br (decide (c<0)) (i true o) (i (decide (k>90)) o))/\∀ (C:Env) (n:Bool) (d:World),i n d->Br n
 (K (.tuple #[nI 0,nI 6]) d) (Br (decide (u<5)) (XP prog cl m [nI c] d λ t p=>∃ j,eI t j/\ (e (wI (wI (a * 31) + c)) j p)/\g (wI (wI (a * 31) + c)) j p<g a b f) (Br ((wI (b + c)).tmod 31 !=0) (K (.tuple #[nI 0,nI 6]) d) ((e a b d)/\g a b d<g a b f)))) (λ z=>K (.tuple #[nI a,nI 0]) z) f) v)
def ZxO:Sk:=(nS 3 (.seq (nS 1 (.block (.loop [5,6] [(.int .i64),(.int .i64)] (2::3::5::6::7::8::9::ng 16 30) (nS 2 (.block (nS 2 (.block (.cut [23] [.bool] (ng 23 7) .leaf .leaf)))))))) .leaf))
def Zun (a K w) (h:B108 a K w):Zg prog 108 #[xZ a] w K:=cq (sk:=ZxO) h func108
def B183 (d:ByteArray) (b:Int) (K:Value->xE) (w:nW):Prop:=nC 255 #[xZ d,.int .u8 b] w λ c e=>∃ a,eI c a/\K (nI a) e
def Ztq (b a K w) (h:B183 b a K w):Zg prog 183 #[xZ b,.int .u8 a] w K:=cq (sk:=.leaf) h func183
def B255 (d:ByteArray) (b:Int) (K:Value->xE) (w:nW):Prop:=Ext prog 285 #[xZ d,.int .u8 b] w λ c e=>∃ a,eI c a/\K (nI a) e
def ZsD (b a K w) (h:B255 b a K w):Zg prog 255 #[xZ b,.int .u8 a] w K:=cq (sk:=.leaf) h func255
set_option maxRecDepth 10000
def B37 (c:Bool) (b:Int) (a:List PanicEntry->xE) (K:Value->xE) (w:nW):Prop:=Br (!c) (a [⟨.iface 29 (nI b),false,false⟩] w) (K (.tuple #[]) w)
def Zv6 (c:Bool) (b:Int) (a:List PanicEntry->xE) (K:Value->xE) (w:nW) (h:B37 c b a K w):XG prog 37 #[.bool c,nI b] w a K:=cqx (sk:=.leaf) h func37
def B99 (a:Int) (b:List PanicEntry->xE) (K:Value->xE) (w:nW):Prop:=Br (a !=0) (b [⟨.iface 29 (nI a),false,false⟩] w) (K (.tuple #[]) w)
def Zvg (b:Int) (a:List PanicEntry->xE) (K:Value->xE) (w:nW) (h:B99 b a K w):XG prog 99 #[nI b] w a K:=cqx (sk:=.leaf) h func99
def B36 (g:xA) (b:Value) (K:xE) (w:nW):Prop:=∃ c:Bool,(∀ a,(λ a=>a=w) a->((do eqGuard BinOp.neq 20 (Operand.tmp 4) (Operand.const Value.nilIface) b .nilIface;binOp BinOp.neq 20 b .nilIface:Sem Value)).run prog a=.ok (.bool c) a)/\Br c
 (∃ d:Int,(∀ a,(λ a=>a=w) a->((Instr.typeAssert b 20 29 false)).run prog a=.ok (nI d) a)/\Zb g λ f=>∃ e,(St 33 (f) (.agg #[nI d,xZ nB,nI 0,nI 0,nI 0,nI 0,nI 0,nV,nV]) w e)/\K e) (K w)
def Zsm (b:xA) (a:Value) (K:xE) (w:nW) (h:B36 b a K w):CallsD prog 36 #[xP b] (.panicking [⟨a,false,false⟩]) w λ c d e=>(∃ f,c=xR f)/\d=.panicking [⟨a,true,false⟩]/\K e:=
 ZgJ (sk:=.leaf) ZiX mixed func36 (by kernel_rfl) (jK (by kernel_rfl)) (cast (by kernel_rfl) h)
def Zsl (a:xA) (K:xE) (w:nW) (h:B36 a .nilIface K w):CallsD prog 36 #[xP a] .returning w λ b c d=>(∃ e,b=xR e)/\c=.returning/\K d:=
 ZdY (sk:=.leaf) ZiX mixed func36 (by kernel_rfl) (jK (by kernel_rfl)) (cast (by kernel_rfl) h)
def B38 (Q:Int) (T:ByteArray) (U V X Y:Int) (Z:Nat) (aa:ByteArray) (ab:Int) (r q:Sl) (K:Value->xE) (w:nW):Prop:=New (.cells #[nI Q,xZ T,nI U,nI V,nI X,nI Y,xF Z,xZ aa,nI ab,r.v,q.v] 40 (0,0)) (λ c j=>∃ H,yI j c 2 H/\∃ u,yI j c 3 u/\∃ v,yI j c 4 v/\∃ x,yI j c 8 x/\New (.cells #[nI H,nI u,nI v,nI x] 3 (0,0)) (λ O J=>∃ g,zS J ⟨c,0 + 8 + 1,none⟩ g/\∃ L i,aP 30 (.slice (some ⟨O,0,none⟩) 4 4) g.v J L i/\∃ (n:lI) (M:lJ),(n 0 L)/\∀ (ad:Env) f e,n f e->Br (decide (f<(↑i.len:Int))) ((rN f i λ N=>∃ y,zI e (N.add f.toNat) y/\nC 97 #[nI y] e λ ac s=>∃ z,eB ac z/\Br z
 (K (.bool false) s) ((n (wI (f + 1)) s)/\M (wI (f + 1)) s<M f e))) (∃ (o:Bool->xE),(∃ A,yZ e c 1 A/\Br (decide ((↑A.size:Int)<=16)) (∃ C,yZ e c 7 C/\o (decide ((↑C.size:Int)<=16)) e) (o false e))/\∀ (ae:Env) (I:Bool) (k:World),o I k->∃ (p:Bool->xE),(∃ l,zS k ⟨c,0 + 8 + 1,none⟩ l/\Br (decide ((↑l.len:Int)<=16)) (∃ m,yS k c 10 m/\p (decide ((↑m.len:Int)<=16)) k) (p false k))/\∀ (af:Env) (t:Bool) (d:World),p t d->Br I
 (Br t
 (∃ D,zI d ⟨c,0,none⟩ D/\Br (decide (D >= 1)) (∃ E,zI d ⟨c,0,none⟩ E/\Br (decide (E<=9)) (∃ F,yI d c 5 F/\Br (decide (F >= 0)) (∃ G,yI d c 5 G/\K (.bool (decide (G<=1099511627776))) d) (K (.bool false) d)) (K (.bool false) d)) (K (.bool false) d)) (K (.bool false) d)) (K (.bool false) d))) j) w
def sk38:Sk:=(nS 2 (.seq (nS 1 (.block (.loop [23] [(.int .i64)] (2::5::ng 23 8) .leaf))) (.cut [6] [.bool] (6::ng 31 10) .leaf (.cut [7] [.bool] (7::ng 41 11) .leaf .leaf))))
def Zv5 (d e f g i j k l m c b K w) (h:B38 d e f g i j k l m c b K w):Zg prog 38 #[.agg #[nI d,xZ e,nI f,nI g,nI i,nI j,xF k,xZ l,nI m,c.v,b.v]] w K:=cq (sk:=sk38) h func38
def B97 (a:Int) (K:Value->xE) (w:nW):Prop:=Br (decide (a<0)) (K (.bool true) w) (K (.bool (decide (a>9999))) w)
def Zvi (a K w) (h:B97 a K w):Zg prog 97 #[nI a] w K:=cq (sk:=.leaf) h func97
def B10  (K:Value->xE) (w:nW):Prop:=New (.map #[] 0) (λ a d=>New (.map #[] 0) (λ b e=>New (.cells #[nI 0,nI 1,.map ((some a)),.map ((some b))] 80 (0,0)) (λ c f=>K (nP c) f) e) d) w
def Zwr  (K w) (h:B10  K w):Zg prog 10 #[] w K:=cq (sk:=.leaf) h func10
def B60 (m:xA) (i:Sl) (K:Value->xE) (w:nW):Prop:=∃ (g:lI) (p:lJ),(g 0 w)/\∀ (x:Env) b f,g b f->Br (decide (b<(↑i.len:Int))) ((rN b i λ q=>∃ j,zI f (q.add b.toNat) j/\Drw f λ l v=>Zb m λ r=>∃ c,kS l (r.add 0) c/\nC 128 #[.int .u64 (IntKind.u64.wrap (if 0>j then 0 else j))] v λ t n=>∃ d,eS t d/\ (l n)/\∃ o e,aP 47 c.v d.v n o e/\Zb m λ s=>∃ k,(St 47 (s.add 0) (e.v) o k)/\ (g (wI (b + 1)) k)/\p (wI (b + 1)) k<p b f)) (K (.tuple #[]) f)
def sk60:Sk:=(nS 1 (.block (.loop [8] [(.int .i64)] (5::ng 8 17) .leaf)))
def ZvM (c b K w) (h:B60 c b K w):Zg prog 60 #[xP c,b.v] w K:=cq (sk:=sk60) h func60
def B218 (c:xA) (b:Sl) (K:Value->xE) (w:nW):Prop:=New (.cells #[nI ((↑b.len:Int))] 3 (0,0)) (λ d g=>nC 60 #[xP c,.slice (some ⟨d,0,none⟩) 1 1] g λ e i=>eU e/\nC 60 #[xP c,b.v] i λ f j=>eU f/\K (.tuple #[]) j) w
def ZsX (c b K w) (h:B218 c b K w):Zg prog 218 #[xP c,b.v] w K:=cq (sk:=.leaf) h func218
def B63 (g:xA) (e:Sl) (K:Value->xE) (w:nW):Prop:=Drw w λ f o=>Zb g λ m=>∃ d,kS f (m.add 0) d/\nC 83 #[e.v] o λ n i=>∃ b,eS n b/\ (f i)/\∃ j c,aP 47 d.v b.v i j c/\Zb g λ l=>∃ k,(St 47 (l.add 0) (c.v) j k)/\K (.tuple #[]) k
def ZvL (c b K w) (h:B63 c b K w):Zg prog 63 #[xP c,b.v] w K:=cq (sk:=.leaf) h func63
def B157 (g:xA) (f:Int) (K:Value->xE) (w:nW):Prop:=New (.cells #[xP g] 216 (0,0)) (λ d c=>∃ a,zP c ⟨d,0,none⟩ a/\nC 93 #[xP a,.int .u64 (IntKind.u64.wrap f)] c λ e j=>∃ b,(e=xR (.int .u64 b))/\K (nI (wI b)) j) w
def ZtK (b a K w) (h:B157 b a K w):Zg prog 157 #[.agg #[xP b],nI a] w K:=cq (sk:=.leaf) h func157
def B214 (l:xA) (k:Int) (K:Value->xE) (w:nW):Prop:=New (.cells #[xP l] 216 (0,0)) (λ i f=>∃ d,zP f ⟨i,0,none⟩ d/\nC 94 #[xP d,nI k] f λ j g=>∃ c,eS j c/\∃ e:ByteArray,(∀ b,(λ b=>b=g) b->((convert 47 9 (c.v))).run prog b=.ok (xZ e) b)/\K (xZ e) g) w
def Zs1 (b a K w) (h:B214 b a K w):Zg prog 214 #[.agg #[xP b],nI a] w K:=cq (sk:=.leaf) h func214
def B215 (i:xA) (K:Value->xE) (w:nW):Prop:=New (.cells #[xP i] 216 (0,0)) (λ e d=>∃ a,zP d ⟨e,0,none⟩ a/\nC 93 #[xP a,.int .u64 18446744073709551615] d λ f k=>∃ b,(f=xR (.int .u64 b))/\nC 229 #[.int .u64 b] k λ g l=>∃ c,(g=xR (xF c))/\K (xF c) l) w
def Zs0 (a K w) (h:B215 a K w):Zg prog 215 #[.agg #[xP a]] w K:=cq (sk:=.leaf) h func215
def B216 (m:Int) (n:Value) (K:Value->xE) (w:nW):Prop:=∃ (f:lK) (j:lL),(f ⟨none,0,0⟩ 0 w)/\∀ (q:Env) b d e,f b d e->Br (decide (d<m)) (XP prog cl n [] e λ l o=>∃ i,eI l i/\New (.cells #[nI i] 3 (0,0)) (λ k p=>∃ g c,aP 30 b.v (.slice (some ⟨k,0,none⟩) 1 1) p g c/\ (f c (wI (d + 1)) g)/\j c (wI (d + 1)) g<j b d e) o) (K (b.v) e)
def Zw4:Sk:=(nS 2 (.seq (nS 1 (.block (.loop [5,7] [.sl,(.int .i64)] (5::ng 7 8) .leaf))) .leaf))
def ZsZ (a b K w) (h:B216 a b K w):Zg prog 216 #[nI a,b] w K:=cq (sk:=Zw4) h func216
def B217 (m:Int) (n:Value) (K:Value->xE) (w:nW):Prop:=∃ (f:lK) (j:lL),(f ⟨none,0,0⟩ 0 w)/\∀ (q:Env) b d e,f b d e->Br (decide (d<m)) (XP prog cl n [] e λ l o=>∃ i,(l=xR (xF i))/\New (.cells #[xF i] 35 (0,0)) (λ k p=>∃ g c,aP 38 b.v (.slice (some ⟨k,0,none⟩) 1 1) p g c/\ (f c (wI (d + 1)) g)/\j c (wI (d + 1)) g<j b d e) o) (K (b.v) e)
def Zw3:Sk:=(nS 2 (.seq (nS 1 (.block (.loop [5,7] [.sl,(.int .i64)] (5::ng 7 8) .leaf))) .leaf))
def ZsY (a b K w) (h:B217 a b K w):Zg prog 217 #[nI a,b] w K:=cq (sk:=Zw3) h func217
def B141 (D:Sl) (K:Value->xE) (w:nW):Prop:=New (.cells #[nI 0,xZ nB,nI 0,nI 0,nI 0,nI 0,xF 0,xZ nB,nI 0,nV,nV] 40 (0,0)) (λ j e7=>nC 91 #[D.v] e7 λ d6 e8=>∃ cw,(d6=xR (xP cw))/\New (.cells #[xP none] 216 (0,0)) (λ c e9=>∃ dr,sT 216 c (.agg #[xP cw]) e9 dr/\∃ (e:xA->xE),(Drw dr λ b dz=>∃ E,kP b ⟨c,0,none⟩ E/\∃ A,kP b ⟨c,0,none⟩ A/\∃ g,kP b ⟨c,0,none⟩ g/\ (nC 157 #[.agg #[xP E],nI 9] dz λ d7 L=>∃ i,eI d7 i/\ (b L)/\ (nC 214 #[.agg #[xP A],nI 16] L λ ei V=>∃ k,(ei=xR (xZ k))/\ (b V)/\ (nC 213 #[nP c] V λ et X=>∃ y,eI et y/\ (b X)/\ (nC 213 #[nP c] X λ e1 Y=>∃ C,eI e1 C/\ (b Y)/\ (nC 213 #[nP c] Y λ e2 G=>∃ F,eI e2 F/\ (b G)/\ (nC 157 #[.agg #[xP g],nI 1099511627776] G λ e3 cx=>∃ a2,eI e3 a2/\ (b cx)/\New (.cells #[nI 0,xZ nB,nI 0,nI 0,nI 0,nI 0,xF 0,xZ nB,nI 0,nV,nV] 40 (0,0)) (λ ae cy=> (b cy)/\∃ cz,sT 40 ae (.agg #[nI i,xZ k,nI y,nI C,nI F,nI a2,xF 0,xZ nB,nI 0,nV,nV]) cy cz/\e (some ⟨ae,0,none⟩) cz) cx)/\New (.cells #[nI 0,xZ nB,nI 0,nI 0,nI 0,nI 0,xF 0,xZ nB,nI 0,nV,nV] 40 (0,0)) (λ af c0=> (b c0)/\nC 157 #[.agg #[xP g],nI 1099511627776] c0 λ e4 c1=>∃ a3,eI e4 a3/\ (b c1)/\∃ c2,sT 40 af (.agg #[nI i,xZ k,nI y,nI C,nI F,nI a3,xF 0,xZ nB,nI 0,nV,nV]) c1 c2/\e (some ⟨af,0,none⟩) c2) G)/\New (.cells #[nI 0,xZ nB,nI 0,nI 0,nI 0,nI 0,xF 0,xZ nB,nI 0,nV,nV] 40 (0,0)) (λ ag c3=> (b c3)/\nC 213 #[nP c] c3 λ e5 c4=>∃ ax,eI e5 ax/\ (b c4)/\nC 157 #[.agg #[xP g],nI 1099511627776] c4 λ e6 c5=>∃ a4,eI e6 a4/\ (b c5)/\∃ c6,sT 40 ag (.agg #[nI i,xZ k,nI y,nI C,nI ax,nI a4,xF 0,xZ nB,nI 0,nV,nV]) c5 c6/\e (some ⟨ag,0,none⟩) c6) Y)/\New (.cells #[nI 0,xZ nB,nI 0,nI 0,nI 0,nI 0,xF 0,xZ nB,nI 0,nV,nV] 40 (0,0)) (λ ah c7=> (b c7)/\nC 213 #[nP c] c7 λ d8 c8=>∃ ar,eI d8 ar/\ (b c8)/\nC 213 #[nP c] c8 λ d9 c9=>∃ ay,eI d9 ay/\ (b c9)/\nC 157 #[.agg #[xP g],nI 1099511627776] c9 λ ea da=>∃ a5,eI ea a5/\ (b da)/\∃ db,sT 40 ah (.agg #[nI i,xZ k,nI y,nI ar,nI ay,nI a5,xF 0,xZ nB,nI 0,nV,nV]) da db/\e (some ⟨ah,0,none⟩) db) X)/\New (.cells #[nI 0,xZ nB,nI 0,nI 0,nI 0,nI 0,xF 0,xZ nB,nI 0,nV,nV] 40 (0,0)) (λ ai dc=> (b dc)/\nC 213 #[nP c] dc λ eb dd=>∃ ao,eI eb ao/\ (b dd)/\nC 213 #[nP c] dd λ ec de=>∃ au,eI ec au/\ (b de)/\nC 213 #[nP c] de λ ed df=>∃ az,eI ed az/\ (b df)/\nC 157 #[.agg #[xP g],nI 1099511627776] df λ ee dg=>∃ a6,eI ee a6/\ (b dg)/\∃ dh,sT 40 ai (.agg #[nI i,xZ k,nI ao,nI au,nI az,nI a6,xF 0,xZ nB,nI 0,nV,nV]) dg dh/\e (some ⟨ai,0,none⟩) dh) V)/\New (.cells #[nI 0,xZ nB,nI 0,nI 0,nI 0,nI 0,xF 0,xZ nB,nI 0,nV,nV] 40 (0,0)) (λ aj di=> (b di)/\nC 214 #[.agg #[xP A],nI 16] di λ ef dj=>∃ am,(ef=xR (xZ am))/\ (b dj)/\nC 213 #[nP c] dj λ eg dk=>∃ ap,eI eg ap/\ (b dk)/\nC 213 #[nP c] dk λ eh dl=>∃ av,eI eh av/\ (b dl)/\nC 213 #[nP c] dl λ ej dm=>∃ a0,eI ej a0/\ (b dm)/\nC 157 #[.agg #[xP g],nI 1099511627776] dm λ ek dn=>∃ a7,eI ek a7/\ (b dn)/\∃ dp,sT 40 aj (.agg #[nI i,xZ am,nI ap,nI av,nI a0,nI a7,xF 0,xZ nB,nI 0,nV,nV]) dn dp/\e (some ⟨aj,0,none⟩) dp) L)/\New (.cells #[nI 0,xZ nB,nI 0,nI 0,nI 0,nI 0,xF 0,xZ nB,nI 0,nV,nV] 40 (0,0)) (λ ak dq=> (b dq)/\nC 157 #[.agg #[xP E],nI 9] dq λ el ds=>∃ al,eI el al/\ (b ds)/\nC 214 #[.agg #[xP A],nI 16] ds λ em dt=>∃ an,(em=xR (xZ an))/\ (b dt)/\nC 213 #[nP c] dt λ en du=>∃ aq,eI en aq/\ (b du)/\nC 213 #[nP c] du λ eo dv=>∃ aw,eI eo aw/\ (b dv)/\nC 213 #[nP c] dv λ ep dw=>∃ a1,eI ep a1/\ (b dw)/\nC 157 #[.agg #[xP g],nI 1099511627776] dw λ eq dx=>∃ a8,eI eq a8/\ (b dx)/\∃ dy,sT 40 ak (.agg #[nI al,xZ an,nI aq,nI aw,nI a1,nI a8,xF 0,xZ nB,nI 0,nV,nV]) dx dy/\e (some ⟨ak,0,none⟩) dy) dz)/\∀ (fg:Env) (f:xA) (H:World),e f H->∃ a9,zP H ⟨c,0,none⟩ a9/\nC 215 #[.agg #[xP a9]] H λ er fa=>∃ ba,(er=xR (xF ba))/\Zb f λ Z=>∃ I,(St 35 (nO Z 6) (xF ba) fa I)/\∃ bb,zP I ⟨c,0,none⟩ bb/\nC 214 #[.agg #[xP bb],nI 16] I λ es fb=>∃ bc,(es=xR (xZ bc))/\Zb f λ aa=>∃ d0,(St 9 (nO aa 7) (xZ bc) fb d0)/\nC 213 #[nP c] d0 λ eu fc=>∃ be,eI eu be/\Zb f λ ab=>∃ J,(St 3 (nO ab 8) (nI be) fc J)/\∃ bf,zP J ⟨c,0,none⟩ bf/\nC 157 #[.agg #[xP bf],nI 16] J λ ev fd=>∃ bg,eI ev bg/\nC 216 #[nI bg,.func (.func 213) #[] #[nP c]] fd λ ew fe=>∃ l,eS ew l/\Zb f λ ac=>∃ d1,(St 30 ⟨ac.block,ac.off + 8 + 1,none⟩ (l.v) fe d1)/\Drw d1 λ z ff=>∃ b8,kP z ⟨c,0,none⟩ b8/\∃ ca,kP z ⟨c,0,none⟩ ca/\nC 157 #[.agg #[xP b8],nI 16] ff λ ex d2=>∃ b9,eI ex b9/\ (z d2)/\nC 217 #[nI b9,.func (.func 215) #[.agg #[xP ca]] #[]] d2 λ ey d3=>∃ s,eS ey s/\ (z d3)/\Zb f λ ad=>∃ M,(St 38 (nO ad 10) (s.v) d3 M)/\∃ cb,zP M ⟨c,0,none⟩ cb/\nC 96 #[xP cb] M λ ez N=>∃ cc,eB ez cc/\Br (!cc) (∃ O,sT 40 j (.agg #[nI 0,xZ nB,nI 0,nI 0,nI 0,nI 0,xF 0,xZ nB,nI 0,nV,nV]) N O/\∃ bd bh br b1 b3 b4 b5 b6 b7,∃ r m:Sl,(Aw O ⟨j,0,none⟩ [nI bd,xZ bh,nI br,nI b1,nI b3,nI b4,xF b5,xZ b6,nI b7,r.v,m.v])/\K (.tuple #[.agg #[nI bd,xZ bh,nI br,nI b1,nI b3,nI b4,xF b5,xZ b6,nI b7,r.v,m.v],nI 6]) O) (Zb f λ d4=>∃ cd ce cf cg ch ci cj ck cl,∃ u t:Sl,(Aw N d4 [nI cd,xZ ce,nI cf,nI cg,nI ch,nI ci,xF cj,xZ ck,nI cl,u.v,t.v])/\nC 38 #[.agg #[nI cd,xZ ce,nI cf,nI cg,nI ch,nI ci,xF cj,xZ ck,nI cl,u.v,t.v]] N λ e0 Q=>∃ cm,eB e0 cm/\Br (!cm) (∃ T,sT 40 j (.agg #[nI 0,xZ nB,nI 0,nI 0,nI 0,nI 0,xF 0,xZ nB,nI 0,nV,nV]) Q T/\∃ bi bj bk bl bm bn bo bp bq,∃ n o:Sl,(Aw T ⟨j,0,none⟩ [nI bi,xZ bj,nI bk,nI bl,nI bm,nI bn,xF bo,xZ bp,nI bq,n.v,o.v])/\K (.tuple #[.agg #[nI bi,xZ bj,nI bk,nI bl,nI bm,nI bn,xF bo,xZ bp,nI bq,n.v,o.v],nI 6]) T) (Zb f λ d5=>∃ cn co cp cq cr cs ct cu cv,∃ x v:Sl,(Aw Q d5 [nI cn,xZ co,nI cp,nI cq,nI cr,nI cs,xF ct,xZ cu,nI cv,x.v,v.v])/\∃ U,sT 40 j (.agg #[nI cn,xZ co,nI cp,nI cq,nI cr,nI cs,xF ct,xZ cu,nI cv,x.v,v.v]) Q U/\∃ bs bt bu bv bw bx bz b0 b2,∃ p q:Sl,(Aw U ⟨j,0,none⟩ [nI bs,xZ bt,nI bu,nI bv,nI bw,nI bx,xF bz,xZ b0,nI b2,p.v,q.v])/\K (.tuple #[.agg #[nI bs,xZ bt,nI bu,nI bv,nI bw,nI bx,xF bz,xZ b0,nI b2,p.v,q.v],nI 0]) U))) e8) w
def Zxu:Sk:=(nS 3 (.cut [6] [.ptr] (6::ng 11 13) .leaf .leaf))
def ZtU (b K w) (h:B141 b K w):Zg prog 141 #[b.v] w K:=cq (sk:=Zxu) h func141
def B213 (d:xA) (K:Value->xE) (w:nW):Prop:=Zb d λ c=>∃ a,(Aw w c [xP a])/\nC 157 #[.agg #[xP a],nI 9999] w λ e g=>∃ b,eI e b/\K (nI b) g
def Zs2 (a K w) (h:B213 a K w):Zg prog 213 #[xP a] w K:=cq (sk:=.leaf) h func213
def B142 (Z:Int) (aa:ByteArray) (ab ac ad ae af:Int) (p q:Sl) (K:Value->xE) (w:nW):Prop:=New (.cells #[nI Z,xZ aa,nI ab,nI ac,nI ad,nI ae,nI af,p.v,q.v] 33 (0,0)) (λ c ag=>New (.cells #[nV] 112 (0,0)) (λ d E=>∃ r,zI E ⟨c,0,none⟩ r/\New (.cells #[nI r] 3 (0,0)) (λ M ai=>nC 60 #[nP d,.slice (some ⟨M,0,none⟩) 1 1] ai λ Q F=>eU Q/\∃ s,yZ F c 1 s/\∃ G:World,∃ f:Sl,((convert 9 47 (xZ s)).run prog F=.ok (f.v) G)/\nC 63 #[nP d,f.v] G λ T m=>eU T/\∃ t,yI m c 2 t/\∃ u,yI m c 3 u/\∃ v,yI m c 4 v/\∃ x,yI m c 5 x/\∃ y,yI m c 6 y/\New (.cells #[nI t,nI u,nI v,nI x,nI y] 3 (0,0)) (λ N aj=>nC 60 #[nP d,.slice (some ⟨N,0,none⟩) 5 5] aj λ U H=>eU U/\∃ g,yS H c 7 g/\nC 218 #[nP d,g.v] H λ V I=>eU V/\∃ n,yS I c 8 n/\New (.cells #[nI ((↑n.len:Int))] 3 (0,0)) (λ O ah=>nC 60 #[nP d,.slice (some ⟨O,0,none⟩) 1 1] ah λ X A=>eU X/\∃ i,yS A c 8 i/\∃ (o:lI) (J:lJ),(o 0 A)/\∀ (ak:Env) e l,o e l->Br (decide (e<(↑i.len:Int))) ((rN e i λ L=>∃ z,zZ l (L.add e.toNat) z/\∃ C:World,∃ j:Sl,((convert 9 47 (xZ z)).run prog l=.ok (j.v) C)/\nC 63 #[nP d,j.v] C λ Y D=>eU Y/\ (o (wI (e + 1)) D)/\J (wI (e + 1)) D<J e l)) (∃ k,zS l ⟨d,0,none⟩ k/\K (k.v) l)) I) m) E) ag) w
def Zxt:Sk:=(nS 7 (.seq (nS 1 (.block (.loop [44] [(.int .i64)] (5::ng 44 9) .leaf))) .leaf))
def ZtT (d e f g i j k b c K w) (h:B142 d e f g i j k b c K w):Zg prog 142 #[.agg #[nI d,xZ e,nI f,nI g,nI i,nI j,nI k,b.v,c.v]] w K:=cq (sk:=Zxt) h func142
def B43 (s:xA) (t:ByteArray) (c:List PanicEntry->xE) (K:Value->xE) (w:nW):Prop:=nC 108 #[xZ t] w λ i q=> (∃ l m,(i=xR (.tuple #[nI l,nI m]))/\nC 99 #[nI m] q λ j b=> (eU j/\Zb s λ d=>∃ n:Option Nat,(Aw b (nO d 3) [.map n])/\∃ o:xA,∃ p:Bool,(∀ a,(λ a=>a=b) a->((Instr.lookup 78 (.map n) (nI l) true)).run prog a=.ok (.tuple #[xP o,.bool p]) a)/\nC 37 #[.bool p,nI 2] b λ k r=> (eU k/\K (xP o) r)\/(∃ g:List PanicEntry,(k=.panicked g)/\c g r))\/(∃ f:List PanicEntry,(j=.panicked f)/\c f b))\/(∃ e:List PanicEntry,(i=.panicked e)/\c e q)
def Zv1 (b:xA) (c:ByteArray) (a:List PanicEntry->xE) (K:Value->xE) (w:nW) (h:B43 b c a K w):XG prog 43 #[xP b,xZ c] w a K:=cqx (sk:=.leaf) h func43
def B54 (u:xA) (v:Int) (t:List PanicEntry->xE) (K:Value->xE) (w:nW):Prop:=New (.cells #[xP none,xP none] 97 (0,0)) (λ g b=>Zb u λ e=>∃ k:Option Nat,(Aw b (nO e 2) [.map k])/\∃ l m:xA,∃ n:Bool,(∀ a,(λ a=>a=b) a->((Instr.lookup 77 (.map k) (nI v) true)).run prog a=.ok (.tuple #[.agg #[xP l,xP m],.bool n]) a)/\New (.cells #[xP none,xP none] 97 (0,0)) (λ f x=>∃ s,sT 97 f (.agg #[xP l,xP m]) x s/\nC 37 #[.bool n,nI 2] s λ j c=> (eU j/\∃ o p,(Aw c ⟨f,0,none⟩ [xP o,xP p])/\∃ d,sT 97 g (.agg #[xP o,xP p]) c d/\∃ q r,(Aw d ⟨g,0,none⟩ [xP q,xP r])/\K (.agg #[xP q,xP r]) d)\/(∃ i:List PanicEntry,(j=.panicked i)/\t i c)) b) w
def ZvS (b:xA) (c:Int) (a:List PanicEntry->xE) (K:Value->xE) (w:nW) (h:B54 b c a K w):XG prog 54 #[xP b,nI c] w a K:=cqx (sk:=.leaf) h func54
def B103 (E:xA) (b2:Int) (K:Value->xE) (w:nW):Prop:=Zb E λ D=>∃ J:Option Nat,(Aw w (nO D 2) [.map J])/\∃ L M:xA,(∀ b,(λ b=>b=w) b->((Instr.lookup 77 (.map J) (nI b2) false)).run prog b=.ok (.agg #[xP L,xP M]) b)/\New (.cells #[xP none,xP none] 97 (0,0)) (λ f b5=>∃ bd,sT 97 f (.agg #[xP L,xP M]) b5 bd/\∃ (l:xA->Bool->xE),(Drw bd λ c bh=>∃ o,hP c f 1 o/\∃ s,kP c ⟨f,0,none⟩ s/\ (nC 55 #[xP s] bh λ bs x=>∃ d,eS bs d/\ (c x)/\ (nC 174 #[xP o,d.v] x λ bt bi=>∃ N O ab ac ad ae,(bt=xR (.tuple #[.agg #[nI N,nI O,nI ab,nI ac,xF ad],.bool ae]))/\ (c bi)/\New (.cells #[nI 0,nI 0,nI 0,nI 0,xF 0] 168 (0,0)) (λ F bj=> (c bj)/\∃ bk,sT 168 F (.agg #[nI N,nI O,nI ab,nI ac,xF ad]) bj bk/\l (some ⟨F,0,none⟩) ae bk) bi)/\New (.cells #[nI 0,nI 0,nI 0,nI 0,xF 0] 168 (0,0)) (λ G bl=> (c bl)/\nC 174 #[xP o,d.v] bl λ bu bm=>∃ af ag ah ai Q T,(bu=xR (.tuple #[.agg #[nI af,nI ag,nI ah,nI ai,xF Q],.bool T]))/\ (c bm)/\∃ a7,sT 168 G (.agg #[nI af,nI ag,nI ah,nI ai,xF Q]) bm a7/\l (some ⟨G,0,none⟩) T a7) x)/\New (.cells #[nI 0,nI 0,nI 0,nI 0,xF 0] 168 (0,0)) (λ H a8=> (c a8)/\nC 55 #[xP s] a8 λ bv a9=>∃ g,eS bv g/\ (c a9)/\nC 174 #[xP o,g.v] a9 λ bw ba=>∃ U V X Y Z aa,(bw=xR (.tuple #[.agg #[nI U,nI V,nI X,nI Y,xF Z],.bool aa]))/\ (c ba)/\∃ bb,sT 168 H (.agg #[nI U,nI V,nI X,nI Y,xF Z]) ba bb/\l (some ⟨H,0,none⟩) aa bb) bh)/\∀ (ca:Env) (a6:xA) (I:Bool) (bc:World),l a6 I bc->∃ (p:xA->Bool->xE) (bn:xA->Bool->World->Nat),(p a6 I bc)/\∀ (cb:Env) (e:xA) (r:Bool) (j:World),p e r j->Br r
 (∃ aq,yP j f 1 aq/\Zb e λ bo=>∃ ar,zI j (bo.add 0) ar/\nC 105 #[xP aq,nI ar] j λ bx k=>∃ b3,eI bx b3/\∃ au,zP k ⟨f,0,none⟩ au/\Zb e λ bp=>∃ av,zI k (bp.add 0) av/\Zb e λ y=>∃ aw,gI k y 1 aw/\Zb e λ z=>∃ ax,gI k z 2 ax/\nC 101 #[xP au,nI av,nI aw,nI ax] k λ bz b6=>∃ b4,eI bz b4/\Drw b6 λ q b7=>Zb E λ A=>∃ ay:Option Nat,(At q (nO A 3) [.map ay])/\Zb e λ bq=>∃ az,kI q (bq.add 0) az/\∃ a0:xA,(∀ b,q b->((Instr.lookup 78 (.map ay) (nI az) false)).run prog b=.ok (xP a0) b)/\Zb a0 λ C=>∃ u,(St 3 (nO C 4) (nI 2) b7 u)/\Zb e λ br=>∃ a1 a2 a3 a4 a5,(Aw u br [nI a1,nI a2,nI a3,nI a4,xF a5])/\New (.cells #[nI 0,nI 0,nI 0,nI 0,xF 0] 168 (0,0)) (λ n b8=>∃ be,sT 168 n (.agg #[nI a1,nI a2,nI a3,nI a4,xF a5]) b8 be/\Drw be λ m b9=>∃ aj,hP m f 1 aj/\∃ ak,kP m ⟨f,0,none⟩ ak/\nC 55 #[xP ak] b9 λ b0 bf=>∃ i,eS b0 i/\ (m bf)/\nC 174 #[xP aj,i.v] bf λ b1 bg=>∃ al am an ao ap t,(b1=xR (.tuple #[.agg #[nI al,nI am,nI an,nI ao,xF ap],.bool t]))/\ (m bg)/\∃ v,sT 168 n (.agg #[nI al,nI am,nI an,nI ao,xF ap]) bg v/\ (p (some ⟨n,0,none⟩) t v)/\bn (some ⟨n,0,none⟩) t v<bn e r j) u) (K (.tuple #[]) j)) w
def ZxR:Sk:=(nS 1 (.cut [5,6] [.ptr,.bool] (5::6::ng 13 9) .leaf (.block (.loop [5,6] [.ptr,.bool] (5::6::ng 22 34) .leaf))))
def Zus (a b K w) (h:B103 a b K w):Zg prog 103 #[xP a,nI b] w K:=cq (sk:=ZxR) h func103
def B53 (ac c:xA) (K:Value->xE) (w:nW):Prop:=New (.cells #[nI 0,xZ nB,nI 0,nI 0,nI 0,nI 0,nI 0,nV,nV] 33 (0,0)) (λ u ah=>Drw ah λ j ai=>Zb ac λ t=>∃ v:Option Nat,(At j (nO t 2) [.map v])/\Zb c λ n=>∃ x,fI j n 1 x/\∃ y z:xA,(∀ d,j d->((Instr.lookup 77 (.map v) (nI x) false)).run prog d=.ok (.agg #[xP y,xP z]) d)/\New (.cells #[xP none,xP none] 97 (0,0)) (λ k X=> (j X)/\∃ l,sT 97 k (.agg #[xP y,xP z]) X l/\Zb c λ aa=>∃ A,zI l (aa.add 0) A/\nC 121 #[nI A] l λ ad aj=>∃ C ag,(ad=xR (.tuple #[xZ C,nI ag]))/\Drw aj λ b ak=>Zb c λ o=>∃ D,fI b o 4 D/\Zb c λ p=>∃ E,fI b p 1 E/\Zb c λ q=>∃ F,fI b q 2 F/\Zb c λ r=>∃ G,fI b r 3 G/\Zb c λ s=>∃ H,fI b s 5 H/\∃ I,kP b ⟨k,0,none⟩ I/\∃ J,kP b ⟨k,0,none⟩ J/\Zb c λ ab=>∃ L,kI b (ab.add 0) L/\nC 55 #[xP I] ak λ ae Y=>∃ e,eS ae e/\ (b Y)/\nC 122 #[xP J,nI L] Y λ af Z=>∃ f,eS af f/\ (b Z)/\nR u (.agg #[nI 0,xZ C,nI D,nI E,nI F,nI G,nI H,e.v,f.v]) Z K) ai) w
def ZvT (a b K w) (h:B53 a b K w):Zg prog 53 #[xP a,xP b] w K:=cq (sk:=.leaf) h func53
def B39 (o:xA) (aw:Int) (ax:ByteArray) (ay az a0 a1:Int) (a2:Nat) (a3:ByteArray) (a4:Int) (q p:Sl) (c:List PanicEntry->xE) (K:Value->xE) (w:nW):Prop:=New (.cells #[nI aw,xZ ax,nI ay,nI az,nI a0,nI a1,xF a2,xZ a3,nI a4,q.v,p.v] 40 (0,0)) (λ d a5=>New (.cells #[nI 0,xZ nB,nI 0,nI 0,nI 0,nI 0,nI 0,nV,nV] 33 (0,0)) (λ A a8=>Drw a8 λ l a9=>Zb o λ x=>∃ Q:Option Nat,(At l (nO x 2) [.map Q])/\∃ T,hI l d 2 T/\∃ U V:xA,∃ X:Bool,(∀ b,l b->((Instr.lookup 77 (.map Q) (nI T) true)).run prog b=.ok (.tuple #[.agg #[xP U,xP V],.bool X]) b)/\New (.cells #[xP none,xP none] 97 (0,0)) (λ av ap=> (l ap)/\∃ aq,sT 97 av (.agg #[xP U,xP V]) ap aq/\nC 37 #[.bool (!X),nI 7] aq λ I m=> (eU I/\Zb o λ y=>∃ Y:Option Nat,(Aw m (nO y 2) [.map Y])/\∃ Z:Int,(∀ b,(λ b=>b=m) b->((Builtin.len_ #[77] 3 #[.map Y])).run prog b=.ok (nI Z) b)/\nC 37 #[.bool (decide (Z<8)),nI 3] m λ J k=> (eU J/\∃ aa,yI k d 2 aa/\∃ ab,∃ e:Sl,(Aw k ⟨d,0 + 8,none⟩ [nI ab,e.v])/\∃ f,yS k d 10 f/\nC 98 #[nI aa,.agg #[nI ab,e.v],f.v] k λ L ar=> (∃ r ac,(L=xR (.tuple #[xP r,nI ac]))/\nC 99 #[nI ac] ar λ M au=> (eU M/\Drw au λ n a6=>Zb o λ z=>∃ ad:Option Nat,(At n (nO z 2) [.map ad])/\∃ ae,hI n d 2 ae/\nC 100 #[] a6 λ N s=> (∃ af,(N=xR (xP af))/\ (n s)/\∃ ao:World,((Instr.mapUpdate 77 (.map ad) (nI ae) (.agg #[xP r,xP af])).run prog s=.ok () ao)/\Drw ao λ v a7=>∃ ag,hI v d 2 ag/\nC 55 #[xP r] a7 λ O t=> (∃ g,eS O g/\ (v t)/\nR A (.agg #[nI 0,xZ nB,nI 0,nI ag,nI 0,nI 0,nI 0,g.v,nV]) t K)\/(∃ H:List PanicEntry,(O=.panicked H)/\c H t))\/(∃ G:List PanicEntry,(N=.panicked G)/\c G s))\/(∃ F:List PanicEntry,(M=.panicked F)/\c F au))\/(∃ E:List PanicEntry,(L=.panicked E)/\c E ar))\/(∃ D:List PanicEntry,(J=.panicked D)/\c D k))\/(∃ C:List PanicEntry,(I=.panicked C)/\c C m)) a9) a5) w
def Zv4 (e:xA) (f:Int) (g:ByteArray) (i j k l:Int) (m:Nat) (n:ByteArray) (o:Int) (c b:Sl) (d:List PanicEntry->xE) (K:Value->xE) (w:nW) (h:B39 e f g i j k l m n o c b d K w):XG prog 39 #[xP e,.agg #[nI f,xZ g,nI i,nI j,nI k,nI l,xF m,xZ n,nI o,c.v,b.v]] w d K:=cqx (sk:=.leaf) h func39
def B40 (d:xA) (da:Int) (db:ByteArray) (dc dd de df:Int) (dg:Nat) (dh:ByteArray) (di:Int) (H G:Sl) (c:List PanicEntry->xE) (K:Value->xE) (w:nW):Prop:=New (.cells #[nI da,xZ db,nI dc,nI dd,nI de,nI df,xF dg,xZ dh,nI di,H.v,G.v] 40 (0,0)) (λ e dj=>New (.cells #[nI 0,xZ nB,nI 0,nI 0,nI 0,nI 0,nI 0,nV,nV] 33 (0,0)) (λ x c0=>∃ cf,yI c0 e 2 cf/\nC 54 #[xP d,nI cf] c0 λ aq c4=> (∃ a5 ba,(aq=xR (.agg #[xP a5,xP ba]))/\New (.cells #[xP none,xP none] 97 (0,0)) (λ v dp=>∃ c7,sT 97 v (.agg #[xP a5,xP ba]) dp c7/\Drw c7 λ i dq=>Zb d λ Z=>∃ bt,fI i Z 1 bt/\∃ bu,hI i e 2 bu/\∃ bv,hI i e 3 bv/\∃ bw,hI i e 4 bw/\∃ bx,hI i e 5 bx/\New (.cells #[nI bt,nI bu,nI bv,nI bw,nI 1,nI bx] 121 (0,0)) (λ f A=> (i A)/\∃ (C:xE),(∃ bz,zI A ⟨e,0,none⟩ bz/\Br (bz==2) (Drw A λ F dr=>∃ b0,hI F e 5 b0/\Zb d λ c8=>∃ b1,kI F (c8.add 0) b1/\nC 37 #[.bool (decide (b0>b1)),nI 1] dr λ ar U=> (eU ar/\ (F U)/\C  U)\/(∃ ae:List PanicEntry,(ar=.panicked ae)/\c ae U)) (Drw A λ u dk=>∃ b2,hI u e 3 b2/\∃ b3,kP u ⟨v,0,none⟩ b3/\nC 55 #[xP b3] dk λ ax I=> (∃ y,eS ax y/\ (u I)/\nC 37 #[.bool (decide (b2<(↑y.len:Int))),nI 1] I λ ay J=> (eU ay/\ (u J)/\∃ cw,(St 3 ⟨f,0 + 4,none⟩ (nI 3) J cw)/\∃ cx,(St 3 ⟨f,0 + 5,none⟩ (nI 0) cw cx)/\C  cx)\/(∃ aj:List PanicEntry,(ay=.panicked aj)/\c aj J))\/(∃ ai:List PanicEntry,(ax=.panicked ai)/\c ai I)))/\∀ (ds:Env) r,C r->∃ (D:xE),(Zb d λ ab=>∃ b4:Option Nat,(Aw r (nO ab 3) [.map b4])/\∃ b5:Int,(∀ b,(λ b=>b=r) b->((Builtin.len_ #[78] 3 #[.map b4])).run prog b=.ok (nI b5) b)/\Br (decide (b5<300)) (Zb d λ ac=>∃ b6,gI r ac 1 b6/\nC 37 #[.bool (decide (b6<28629151)),nI 3] r λ az cy=> (eU az/\D  cy)\/(∃ ak:List PanicEntry,(az=.panicked ak)/\c ak cy)) (nC 37 #[.bool false,nI 3] r λ a0 cz=> (eU a0/\D  cz)\/(∃ al:List PanicEntry,(a0=.panicked al)/\c al cz)))/\∀ (dt:Env) z,D z->∃ (E:xE),(∃ b7,zI z ⟨e,0,none⟩ b7/\Br (b7==2) (Drw z λ s dl=>∃ b8,kP s ⟨v,0,none⟩ b8/\∃ b9,kI s ⟨f,0,none⟩ b9/\∃ ca,hI s f 2 ca/\∃ cb,hI s f 3 cb/\nC 101 #[xP b8,nI b9,nI ca,nI cb] dl λ a1 c1=> (∃ cc,eI a1 cc/\nC 99 #[nI cc] c1 λ a2 L=> (eU a2/\ (s L)/\E  L)\/(∃ an:List PanicEntry,(a2=.panicked an)/\c an L))\/(∃ am:List PanicEntry,(a1=.panicked am)/\c am c1)) (Drw z λ g dm=>∃ cd,hP g v 1 cd/\∃ ce,kI g ⟨f,0,none⟩ ce/\∃ cg,hI g f 2 cg/\∃ ch,hI g f 3 ch/\Zb d λ c9=>∃ a6,kI g (c9.add 0) a6/\∃ a7,(At g ⟨e,0 + 6,none⟩ [xF a7])/\nC 102 #[xP cd,.agg #[nI ce,nI cg,nI ch,nI a6,xF a7]] dm λ a3 M=> (∃ a8,eI a3 a8/\ (g M)/\nC 99 #[nI a8] M λ a4 N=> (eU a4/\ (g N)/\E  N)\/(∃ ap:List PanicEntry,(a4=.panicked ap)/\c ap N))\/(∃ ao:List PanicEntry,(a3=.panicked ao)/\c ao M)))/\∀ (du:Env) c2,E c2->Drw c2 λ V dn=>Zb d λ X=>∃ a9:Option Nat,(At V (nO X 3) [.map a9])/\∃ bb,kI V ⟨f,0,none⟩ bb/\∃ O:World,((Instr.mapUpdate 78 (.map a9) (nI bb) (nP f)).run prog dn=.ok () O)/\Zb d λ Y=>∃ bc,gI O Y 1 bc/\Zb d λ aa=>∃ t,(St 3 (nO aa 1) (nI (wI (bc + 1))) O t)/\∃ bd,zI t ⟨e,0,none⟩ bd/\Br (bd==7) (∃ be,yI t e 2 be/\nC 103 #[xP d,nI be] t λ au c3=> (eU au/\nC 53 #[xP d,nP f] c3 λ av c5=> (nQ x av c5 K)\/(∃ ag:List PanicEntry,(av=.panicked ag)/\c ag c5))\/(∃ af:List PanicEntry,(au=.panicked af)/\c af c3)) (nC 53 #[xP d,nP f] t λ aw c6=> (nQ x aw c6 K)\/(∃ ah:List PanicEntry,(aw=.panicked ah)/\c ah c6))) dq) c4)\/(∃ ad:List PanicEntry,(aq=.panicked ad)/\c ad c4)) dj) w
def sk40:Sk:=(nS 3 (.cut [] [] (ng 25 25) .leaf (.cut [] [] (ng 50 14) .leaf (.cut [] [] (ng 64 42) .leaf .leaf))))
def ZqS (e:xA) (f:Int) (g:ByteArray) (i j k l:Int) (m:Nat) (n:ByteArray) (o:Int) (c b:Sl) (d:List PanicEntry->xE) (K:Value->xE) (w:nW) (h:B40 e f g i j k l m n o c b d K w):XG prog 40 #[xP e,.agg #[nI f,xZ g,nI i,nI j,nI k,nI l,xF m,xZ n,nI o,c.v,b.v]] w d K:=cqx (sk:=sk40) h func40
def B41 (c:xA) (bn:Int) (bo:ByteArray) (bp bq br bs:Int) (bt:Nat) (bu:ByteArray) (bv:Int) (C A:Sl) (f:List PanicEntry->xE) (K:Value->xE) (w:nW):Prop:=New (.cells #[nI bn,xZ bo,nI bp,nI bq,nI br,nI bs,xF bt,xZ bu,nI bv,C.v,A.v] 40 (0,0)) (λ T bz=>New (.cells #[nI 0,xZ nB,nI 0,nI 0,nI 0,nI 0,nI 0,nV,nV] 33 (0,0)) (λ U b1=>Drw b1 λ y b2=>∃ ak,hI y T 5 ak/\Zb c λ bh=>∃ al,kI y (bh.add 0) al/\nC 37 #[.bool (decide (ak >= al)),nI 7] b2 λ ad t=> (eU ad/\ (y t)/\∃ am,yI t T 5 am/\Zb c λ bi=>∃ G,(St 3 (bi.add 0) (nI am) t G)/\Zb c λ H=>∃ an:Option Nat,(Aw G (nO H 3) [.map an])/\nC 66 #[.map an] G λ ae bd=> (∃ ao:Value,(ae=xR (ao))/\nC 61 #[ao] bd λ af be=> (∃ i,eS af i/\∃ (n:lI) (u:lJ),(n 0 be)/\∀ (b3:Env) d e,n d e->Br (decide (d<(↑i.len:Int))) ((rN d i λ bj=>∃ p,zI e (bj.add d.toNat) p/\Zb c λ I=>∃ ap:Option Nat,(Aw e (nO I 3) [.map ap])/\∃ q:xA,(∀ b,(λ b=>b=e) b->((Instr.lookup 78 (.map ap) (nI p) false)).run prog b=.ok (xP q) b)/\∃ (x:Bool->xE),(Drw e λ z bf=>Zb q λ J=>∃ aq,fI z J 4 aq/\Br (aq==1) (Zb q λ L=>∃ ar,fI z L 5 ar/\Zb c λ bk=>∃ au,kI z (bk.add 0) au/\x (decide (ar<=au)) bf) (x false bf))/\∀ (b4:Env) (av:Bool) (r:World),x av r->Br av
 (Drw r λ o b0=>Zb c λ M=>∃ aw:Option Nat,(At o (nO M 2) [.map aw])/\Zb q λ N=>∃ ax,fI o N 1 ax/\∃ ay bw:xA,(∀ b,o b->((Instr.lookup 77 (.map aw) (nI ax) false)).run prog b=.ok (.agg #[xP ay,xP bw]) b)/\nC 104 #[xP ay,nI p] b0 λ ag s=> (∃ bx,eI ag bx/\ (o s)/\Zb c λ O=>∃ az:Option Nat,(Aw s (nO O 3) [.map az])/\∃ D:World,((Builtin.delete_ #[78,3] 0 #[.map az,nI p]).run prog s=.ok (.tuple #[]) D)/\ (n (wI (d + 1)) D)/\u (wI (d + 1)) D<u d e)\/(∃ Z:List PanicEntry,(ag=.panicked Z)/\f Z s)) ((n (wI (d + 1)) r)/\u (wI (d + 1)) r<u d e))) (Zb c λ Q=>∃ a0:Option Nat,(Aw e (nO Q 2) [.map a0])/\nC 62 #[.map a0] e λ ah bb=> (∃ a1:Value,(ah=xR (a1))/\nC 61 #[a1] bb λ ai bc=> (∃ j,eS ai j/\∃ (v:lI) (bg:lJ),(v 0 bc)/\∀ (b5:Env) g m,v g m->Br (decide (g<(↑j.len:Int))) ((rN g j λ bl=>∃ a2,zI m (bl.add g.toNat) a2/\nC 103 #[xP c,nI a2] m λ aj E=> (eU aj/\ (v (wI (g + 1)) E)/\bg (wI (g + 1)) E<bg g m)\/(∃ ac:List PanicEntry,(aj=.panicked ac)/\f ac E))) (Zb c λ bm=>∃ a3,zI m (bm.add 0) a3/\nR U (.agg #[nI 0,xZ nB,nI 0,nI 0,nI 0,nI 0,nI a3,nV,nV]) m K))\/(∃ ab:List PanicEntry,(ai=.panicked ab)/\f ab bc))\/(∃ aa:List PanicEntry,(ah=.panicked aa)/\f aa bb)))\/(∃ Y:List PanicEntry,(af=.panicked Y)/\f Y be))\/(∃ X:List PanicEntry,(ae=.panicked X)/\f X bd))\/(∃ V:List PanicEntry,(ad=.panicked V)/\f V t)) bz) w
def sk41:Sk:=(nS 3 (.seq (nS 1 (.block (.loop [30] [(.int .i64)] (6::7::ng 30 44) (nS 2 (.seq (.block (nS 2 (.cut [55] [.bool] (ng 40 16) .leaf .leaf))) .leaf))))) (.seq (nS 1 (.block (.loop [81] [(.int .i64)] (9::ng 81 8) .leaf))) .leaf)))
def Zv3 (e:xA) (f:Int) (g:ByteArray) (i j k l:Int) (m:Nat) (n:ByteArray) (o:Int) (c b:Sl) (d:List PanicEntry->xE) (K:Value->xE) (w:nW) (h:B41 e f g i j k l m n o c b d K w):XG prog 41 #[xP e,.agg #[nI f,xZ g,nI i,nI j,nI k,nI l,xF m,xZ n,nI o,c.v,b.v]] w d K:=cqx (sk:=sk41) h func41
def B42 (g c:xA) (ed:Int) (ee:ByteArray) (ef eg eh ei:Int) (ej:Nat) (ek:ByteArray) (el:Int) (L J:Sl) (d:List PanicEntry->xE) (K:Value->xE) (w:nW):Prop:=New (.cells #[nI ed,xZ ee,nI ef,nI eg,nI eh,nI ei,xF ej,xZ ek,nI el,L.v,J.v] 40 (0,0)) (λ I eo=>New (.cells #[nI 0,xZ nB,nI 0,nI 0,nI 0,nI 0,nI 0,nV,nV] 33 (0,0)) (λ e es=>Drw es λ E ev=>Zb g λ ad=>∃ ca:Option Nat,(At E (nO ad 2) [.map ca])/\Zb c λ ae=>∃ cb,fI E ae 1 cb/\∃ cc cd:xA,(∀ b,E b->((Instr.lookup 77 (.map ca) (nI cb) false)).run prog b=.ok (.agg #[xP cc,xP cd]) b)/\New (.cells #[xP none,xP none] 97 (0,0)) (λ C d3=> (E d3)/\∃ f,sT 97 C (.agg #[xP cc,xP cd]) d3 f/\Zb c λ af=>∃ G,gI f af 4 G/\∃ D,zI f ⟨I,0,none⟩ D/\Br (D==3) (Zb c λ ag=>∃ ce,gI f ag 4 ce/\nC 37 #[.bool (ce==1),nI 7] f λ a1 d4=> (eU a1/\Zb c λ ah=>∃ d5,(St 3 (nO ah 4) (nI 2) d4 d5)/\Zb c λ ai=>∃ d6,(St 3 (nO ai 5) (nI 0) d5 d6)/\nC 53 #[xP g,xP c] d6 λ a2 d7=> (nQ e a2 d7 K)\/(∃ am:List PanicEntry,(a2=.panicked am)/\d am d7))\/(∃ al:List PanicEntry,(a1=.panicked al)/\d al d4)) (Br (D==4) (∃ (H:xE),(Br (G==3) (Drw f λ Z ep=>∃ cf,hP Z C 1 cf/\Zb c λ d8=>∃ cg,kI Z (d8.add 0) cg/\nC 105 #[xP cf,nI cg] ep λ a7 ds=> (∃ em,eI a7 em/\H  ds)\/(∃ ar:List PanicEntry,(a7=.panicked ar)/\d ar ds)) (Drw f λ aa eq=>∃ ch,kP aa ⟨C,0,none⟩ ch/\Zb c λ d9=>∃ ci,kI aa (d9.add 0) ci/\nC 104 #[xP ch,nI ci] eq λ a8 dt=> (∃ en,eI a8 en/\H  dt)\/(∃ au:List PanicEntry,(a8=.panicked au)/\d au dt)))/\∀ (ew:Env) du,H du->Drw du λ ab er=>Zb g λ aj=>∃ cj:Option Nat,(At ab (nO aj 3) [.map cj])/\Zb c λ ea=>∃ ck,kI ab (ea.add 0) ck/\∃ O:World,((Builtin.delete_ #[78,3] 0 #[.map cj,nI ck]).run prog er=.ok (.tuple #[]) O)/\Zb c λ ak=>∃ cl,gI O ak 1 cl/\nC 103 #[xP g,nI cl] O λ a9 Q=> (eU a9/\∃ cm,yZ Q I 1 cm/\nR e (.agg #[nI 0,xZ cm,nI 0,nI 0,nI 0,nI 0,nI 0,nV,nV]) Q K)\/(∃ av:List PanicEntry,(a9=.panicked av)/\d av Q)) (Br (D==5) (nC 37 #[.bool (!G==3),nI 7] f λ ba dv=> (eU ba/\Drw dv λ F et=>∃ cn,kP F ⟨C,0,none⟩ cn/\Zb c λ eb=>∃ co,kI F (eb.add 0) co/\∃ cp,hZ F I 7 cp/\nC 106 #[xP cn,nI co,xZ cp] et λ bb dw=> (∃ cq,eI bb cq/\nC 99 #[nI cq] dw λ bc U=> (eU bc/\ (F U)/\nC 53 #[xP g,xP c] U λ bd dx=> (nQ e bd dx K)\/(∃ az:List PanicEntry,(bd=.panicked az)/\d az dx))\/(∃ ay:List PanicEntry,(bc=.panicked ay)/\d ay U))\/(∃ ax:List PanicEntry,(bb=.panicked ax)/\d ax dw))\/(∃ aw:List PanicEntry,(ba=.panicked aw)/\d aw dv)) (Br (D==6) (nC 37 #[.bool (!G==3),nI 7] f λ be dy=> (eU be/\Drw dy λ ac eu=>∃ cr,kP ac ⟨C,0,none⟩ cr/\Zb c λ ec=>∃ bf,kI ac (ec.add 0) bf/\nC 107 #[xP cr,nI bf] eu λ a3 dz=> (∃ M:Sl,∃ bg,(a3=xR (.tuple #[M.v,nI bg]))/\nC 99 #[nI bg] dz λ a4 d0=> (eU a4/\nC 53 #[xP g,xP c] d0 λ a5 d1=> (nQ e a5 d1 K)\/(∃ ap:List PanicEntry,(a5=.panicked ap)/\d ap d1))\/(∃ ao:List PanicEntry,(a4=.panicked ao)/\d ao d0))\/(∃ an:List PanicEntry,(a3=.panicked an)/\d an dz))\/(∃ a0:List PanicEntry,(be=.panicked a0)/\d a0 dy)) (nC 53 #[xP g,xP c] f λ a6 d2=> (nQ e a6 d2 K)\/(∃ aq:List PanicEntry,(a6=.panicked aq)/\d aq d2)))))) ev) eo) w
def sk42:Sk:=(nS 3 (.seq (nS 1 (.block (nS 1 (.cond .leaf (nS 1 (.cond (.cut [] [] (ng 43 15) .leaf .leaf) .leaf)))))) .leaf))
def Zv2 (e p:xA) (f:Int) (g:ByteArray) (i j k l:Int) (m:Nat) (n:ByteArray) (o:Int) (c b:Sl) (d:List PanicEntry->xE) (K:Value->xE) (w:nW) (h:B42 e p f g i j k l m n o c b d K w):XG prog 42 #[xP e,xP p,.agg #[nI f,xZ g,nI i,nI j,nI k,nI l,xF m,xZ n,nI o,c.v,b.v]] w d K:=cqx (sk:=sk42) h func42
def B12 (g:xA) (g4:Int) (g5:ByteArray) (g6 g7 g8 g9:Int) (ha:Nat) (hb:ByteArray) (hc:Int) (ap ao:Sl) (K:Value->xE) (w:nW):Prop:=New (.cells #[nI g4,xZ g5,nI g6,nI g7,nI g8,nI g9,xF ha,xZ hb,nI hc,ap.v,ao.v] 40 (0,0)) (λ d hd=>New (.cells #[nI 0,xZ nB,nI 0,nI 0,nI 0,nI 0,nI 0,nV,nV] 33 (0,0)) (λ c gq=>nM gq ⟨d,0,none⟩ λ v_=>nC 38 #[v_] gq λ a2 gy=> (∃ dw,eB a2 dw/\nC 37 #[.bool dw,nI 1] gy λ a3 al=> (eU a3/\∃ f,zI al ⟨d,0,none⟩ f/\Br (f==1) (nM al ⟨d,0,none⟩ λ v_=>nC 39 #[xP g,v_] al λ a4 g0=> (∃ bj bk bl bm bn bo bp,∃ k l:Sl,(a4=xR (.agg #[nI bj,xZ bk,nI bl,nI bm,nI bn,nI bo,nI bp,k.v,l.v]))/\∃ g1,sT 33 c (.agg #[nI bj,xZ bk,nI bl,nI bm,nI bn,nI bo,nI bp,k.v,l.v]) g0 g1/\Z3 prog 36 [nP c] .returning (λ g2=>∃ dx dy ek et e2 fb fk,∃ ab af:Sl,(Aw g2 ⟨c,0,none⟩ [nI dx,xZ dy,nI ek,nI et,nI e2,nI fb,nI fk,ab.v,af.v])/\K (.agg #[nI dx,xZ dy,nI ek,nI et,nI e2,nI fb,nI fk,ab.v,af.v]) g2) g1)\/(∃ aw:List PanicEntry,(a4=.panicked aw)/\Z3 prog 36 [nP c] (.panicking aw) (λ g3=>∃ f7 dz d8 ee ef eg eh,∃ L M:Sl,(Aw g3 ⟨c,0,none⟩ [nI f7,xZ dz,nI d8,nI ee,nI ef,nI eg,nI eh,L.v,M.v])/\K (.agg #[nI f7,xZ dz,nI d8,nI ee,nI ef,nI eg,nI eh,L.v,M.v]) g3) g0)) (∃ (an:Bool->xE),(Br (f==2) (an (f==2) al) (an (f==7) al))/\∀ (hf:Env) (bq:Bool) (e:World),an bq e->Br bq
 (nM e ⟨d,0,none⟩ λ v_=>nC 40 #[xP g,v_] e λ a5 gg=> (∃ b1 b2 b3 b4 b5 b6 b7,∃ o p:Sl,(a5=xR (.agg #[nI b1,xZ b2,nI b3,nI b4,nI b5,nI b6,nI b7,o.v,p.v]))/\∃ gh,sT 33 c (.agg #[nI b1,xZ b2,nI b3,nI b4,nI b5,nI b6,nI b7,o.v,p.v]) gg gh/\Z3 prog 36 [nP c] .returning (λ gi=>∃ ei ej el em en eo ep,∃ N O:Sl,(Aw gi ⟨c,0,none⟩ [nI ei,xZ ej,nI el,nI em,nI en,nI eo,nI ep,N.v,O.v])/\K (.agg #[nI ei,xZ ej,nI el,nI em,nI en,nI eo,nI ep,N.v,O.v]) gi) gh)\/(∃ ax:List PanicEntry,(a5=.panicked ax)/\Z3 prog 36 [nP c] (.panicking ax) (λ gj=>∃ eq er es eu ev ew ex,∃ Q T:Sl,(Aw gj ⟨c,0,none⟩ [nI eq,xZ er,nI es,nI eu,nI ev,nI ew,nI ex,Q.v,T.v])/\K (.agg #[nI eq,xZ er,nI es,nI eu,nI ev,nI ew,nI ex,Q.v,T.v]) gj) gg)) (Br (f==8) (nM e ⟨d,0,none⟩ λ v_=>nC 41 #[xP g,v_] e λ a6 gk=> (∃ ch ci cj ck cl cm cn,∃ s t:Sl,(a6=xR (.agg #[nI ch,xZ ci,nI cj,nI ck,nI cl,nI cm,nI cn,s.v,t.v]))/\∃ gl,sT 33 c (.agg #[nI ch,xZ ci,nI cj,nI ck,nI cl,nI cm,nI cn,s.v,t.v]) gk gl/\Z3 prog 36 [nP c] .returning (λ gm=>∃ ey ez e0 e1 e3 e4 e5,∃ U V:Sl,(Aw gm ⟨c,0,none⟩ [nI ey,xZ ez,nI e0,nI e1,nI e3,nI e4,nI e5,U.v,V.v])/\K (.agg #[nI ey,xZ ez,nI e0,nI e1,nI e3,nI e4,nI e5,U.v,V.v]) gm) gl)\/(∃ ay:List PanicEntry,(a6=.panicked ay)/\Z3 prog 36 [nP c] (.panicking ay) (λ gn=>∃ e6 e7 e8 e9 fa fc fd,∃ X Y:Sl,(Aw gn ⟨c,0,none⟩ [nI e6,xZ e7,nI e8,nI e9,nI fa,nI fc,nI fd,X.v,Y.v])/\K (.agg #[nI e6,xZ e7,nI e8,nI e9,nI fa,nI fc,nI fd,X.v,Y.v]) gn) gk)) (Br (f==9) (nM e ⟨d,0,none⟩ λ v_=>nC 16 #[xP g,v_] e λ a7 go=> (∃ cx cy cz c0 c1 c2 c3,∃ x y:Sl,(a7=xR (.agg #[nI cx,xZ cy,nI cz,nI c0,nI c1,nI c2,nI c3,x.v,y.v]))/\∃ gp,sT 33 c (.agg #[nI cx,xZ cy,nI cz,nI c0,nI c1,nI c2,nI c3,x.v,y.v]) go gp/\Z3 prog 36 [nP c] .returning (λ gr=>∃ fe ff fg fh fi fj fl,∃ Z aa:Sl,(Aw gr ⟨c,0,none⟩ [nI fe,xZ ff,nI fg,nI fh,nI fi,nI fj,nI fl,Z.v,aa.v])/\K (.agg #[nI fe,xZ ff,nI fg,nI fh,nI fi,nI fj,nI fl,Z.v,aa.v]) gr) gp)\/(∃ az:List PanicEntry,(a7=.panicked az)/\Z3 prog 36 [nP c] (.panicking az) (λ gs=>∃ fm fn fo fp fq fr fs,∃ ac ad:Sl,(Aw gs ⟨c,0,none⟩ [nI fm,xZ fn,nI fo,nI fp,nI fq,nI fr,nI fs,ac.v,ad.v])/\K (.agg #[nI fm,xZ fn,nI fo,nI fp,nI fq,nI fr,nI fs,ac.v,ad.v]) gs) go)) (Drw e λ am he=>∃ c4,hZ am d 1 c4/\∃ c6 c7 c8 c9 da db dc dd de,∃ A z:Sl,(At am ⟨d,0,none⟩ [nI c6,xZ c7,nI c8,nI c9,nI da,nI db,xF dc,xZ dd,nI de,A.v,z.v])/\nC 43 #[xP g,xZ c4] he λ a8 aq=> (∃ c5,(a8=xR (xP c5))/\ (am aq)/\nC 42 #[xP g,xP c5,.agg #[nI c6,xZ c7,nI c8,nI c9,nI da,nI db,xF dc,xZ dd,nI de,A.v,z.v]] aq λ a9 ar=> (∃ df dg dh di dj dk dl,∃ C D:Sl,(a9=xR (.agg #[nI df,xZ dg,nI dh,nI di,nI dj,nI dk,nI dl,C.v,D.v]))/\ (am ar)/\∃ gt,sT 33 c (.agg #[nI df,xZ dg,nI dh,nI di,nI dj,nI dk,nI dl,C.v,D.v]) ar gt/\Z3 prog 36 [nP c] .returning (λ gu=>∃ ft fu fv fw fx fy fz,∃ ae ag:Sl,(Aw gu ⟨c,0,none⟩ [nI ft,xZ fu,nI fv,nI fw,nI fx,nI fy,nI fz,ae.v,ag.v])/\K (.agg #[nI ft,xZ fu,nI fv,nI fw,nI fx,nI fy,nI fz,ae.v,ag.v]) gu) gt)\/(∃ a1:List PanicEntry,(a9=.panicked a1)/\Z3 prog 36 [nP c] (.panicking a1) (λ gv=>∃ f0 f1 f2 f3 f4 f5 f6,∃ ah ai:Sl,(Aw gv ⟨c,0,none⟩ [nI f0,xZ f1,nI f2,nI f3,nI f4,nI f5,nI f6,ah.v,ai.v])/\K (.agg #[nI f0,xZ f1,nI f2,nI f3,nI f4,nI f5,nI f6,ah.v,ai.v]) gv) ar))\/(∃ a0:List PanicEntry,(a8=.panicked a0)/\Z3 prog 36 [nP c] (.panicking a0) (λ gw=>∃ f8 f9 ga gb gc gd ge,∃ aj ak:Sl,(Aw gw ⟨c,0,none⟩ [nI f8,xZ f9,nI ga,nI gb,nI gc,nI gd,nI ge,aj.v,ak.v])/\K (.agg #[nI f8,xZ f9,nI ga,nI gb,nI gc,nI gd,nI ge,aj.v,ak.v]) gw) aq))))))\/(∃ av:List PanicEntry,(a3=.panicked av)/\Z3 prog 36 [nP c] (.panicking av) (λ gx=>∃ gf d0 d1 d2 d3 d4 d5,∃ G H:Sl,(Aw gx ⟨c,0,none⟩ [nI gf,xZ d0,nI d1,nI d2,nI d3,nI d4,nI d5,G.v,H.v])/\K (.agg #[nI gf,xZ d0,nI d1,nI d2,nI d3,nI d4,nI d5,G.v,H.v]) gx) al))\/(∃ au:List PanicEntry,(a2=.panicked au)/\Z3 prog 36 [nP c] (.panicking au) (λ gz=>∃ d6 d7 d9 ea eb ec ed,∃ I J:Sl,(Aw gz ⟨c,0,none⟩ [nI d6,xZ d7,nI d9,nI ea,nI eb,nI ec,nI ed,I.v,J.v])/\K (.agg #[nI d6,xZ d7,nI d9,nI ea,nI eb,nI ec,nI ed,I.v,J.v]) gz) gy)) hd) w
def sk12:Sk:=(nS 1 (.seq (nS 1 (.block (nS 1 (.cond .leaf (.cut [15] [.bool] [15,16,17] .leaf .leaf))))) .leaf))
def Zwp (d:xA) (e:Int) (f:ByteArray) (g i j k:Int) (l:Nat) (m:ByteArray) (n:Int) (c b:Sl) (K:Value->xE) (w:nW) (h:B12 d e f g i j k l m n c b K w):Zg prog 12 #[xP d,.agg #[nI e,xZ f,nI g,nI i,nI j,nI k,xF l,xZ m,nI n,c.v,b.v]] w K:=cqd (sk:=sk12) h func12
def B16 (M:xA) (dy:Int) (dz:ByteArray) (d0 d1 d2 d3:Int) (d4:Nat) (d5:ByteArray) (d6:Int) (Q O:Sl) (K:Value->xE) (w:nW):Prop:=New (.cells #[nI dy,xZ dz,nI d0,nI d1,nI d2,nI d3,xF d4,xZ d5,nI d6,Q.v,O.v] 40 (0,0)) (λ d d7=>New (.cells #[nI 0,xZ nB,nI 0,nI 0,nI 0,nI 0,nI 0,nV,nV] 33 (0,0)) (λ c dm=>∃ (L:xE),(nM dm ⟨d,0,none⟩ λ v_=>nC 38 #[v_] dm λ ae J=> (∃ b0,eB ae b0/\Br b0
 (∃ am,zI J ⟨d,0,none⟩ am/\nC 37 #[.bool (am==9),nI 1] J λ af dt=> (eU af/\L  dt)\/(∃ X:List PanicEntry,(af=.panicked X)/\Z3 prog 36 [nP c] (.panicking X) (λ du=>∃ an ao az a5 a6 a7 a8,∃ j k:Sl,(Aw du ⟨c,0,none⟩ [nI an,xZ ao,nI az,nI a5,nI a6,nI a7,nI a8,j.v,k.v])/\K (.agg #[nI an,xZ ao,nI az,nI a5,nI a6,nI a7,nI a8,j.v,k.v]) du) dt)) (nC 37 #[.bool false,nI 1] J λ ag dv=> (eU ag/\L  dv)\/(∃ Y:List PanicEntry,(ag=.panicked Y)/\Z3 prog 36 [nP c] (.panicking Y) (λ dw=>∃ a9 ap aq ar au av aw,∃ e f:Sl,(Aw dw ⟨c,0,none⟩ [nI a9,xZ ap,nI aq,nI ar,nI au,nI av,nI aw,e.v,f.v])/\K (.agg #[nI a9,xZ ap,nI aq,nI ar,nI au,nI av,nI aw,e.v,f.v]) dw) dv)))\/(∃ V:List PanicEntry,(ae=.panicked V)/\Z3 prog 36 [nP c] (.panicking V) (λ dx=>∃ ax ay a0 a1 a2 a3 a4,∃ g i:Sl,(Aw dx ⟨c,0,none⟩ [nI ax,xZ ay,nI a0,nI a1,nI a2,nI a3,nI a4,g.v,i.v])/\K (.agg #[nI ax,xZ ay,nI a0,nI a1,nI a2,nI a3,nI a4,g.v,i.v]) dx) J))/\∀ (ea:Env) G,L G->∃ ba,yZ G d 1 ba/\Br (!ba.toList==nB.toList) (∃ bb,yZ G d 1 bb/\nC 43 #[xP M,xZ bb] G λ ah de=> (∃ bc,(ah=xR (xP bc))/\nC 53 #[xP M,xP bc] de λ ai df=> (∃ bd be bf bg bh bi bj,∃ l m:Sl,(ai=xR (.agg #[nI bd,xZ be,nI bf,nI bg,nI bh,nI bi,nI bj,l.v,m.v]))/\∃ dg,sT 33 c (.agg #[nI bd,xZ be,nI bf,nI bg,nI bh,nI bi,nI bj,l.v,m.v]) df dg/\Z3 prog 36 [nP c] .returning (λ dh=>∃ b1 b2 cb ck ct c2 db,∃ E F:Sl,(Aw dh ⟨c,0,none⟩ [nI b1,xZ b2,nI cb,nI ck,nI ct,nI c2,nI db,E.v,F.v])/\K (.agg #[nI b1,xZ b2,nI cb,nI ck,nI ct,nI c2,nI db,E.v,F.v]) dh) dg)\/(∃ aa:List PanicEntry,(ai=.panicked aa)/\Z3 prog 36 [nP c] (.panicking aa) (λ di=>∃ dd b3 b4 b5 b6 b7 b8,∃ q r:Sl,(Aw di ⟨c,0,none⟩ [nI dd,xZ b3,nI b4,nI b5,nI b6,nI b7,nI b8,q.v,r.v])/\K (.agg #[nI dd,xZ b3,nI b4,nI b5,nI b6,nI b7,nI b8,q.v,r.v]) di) df))\/(∃ Z:List PanicEntry,(ah=.panicked Z)/\Z3 prog 36 [nP c] (.panicking Z) (λ dj=>∃ b9 ca cc cd ce cf cg,∃ s t:Sl,(Aw dj ⟨c,0,none⟩ [nI b9,xZ ca,nI cc,nI cd,nI ce,nI cf,nI cg,s.v,t.v])/\K (.agg #[nI b9,xZ ca,nI cc,nI cd,nI ce,nI cf,nI cg,s.v,t.v]) dj) de)) (∃ bk,yI G d 2 bk/\nC 54 #[xP M,nI bk] G λ aj dk=> (∃ bl bm,(aj=xR (.agg #[xP bl,xP bm]))/\New (.cells #[xP none,xP none] 97 (0,0)) (λ N d8=>∃ dl,sT 97 N (.agg #[xP bl,xP bm]) d8 dl/\Drw dl λ H d9=>∃ bn,hI H d 2 bn/\∃ bo,kP H ⟨N,0,none⟩ bo/\∃ bp,hP H N 1 bp/\nC 55 #[xP bo] d9 λ ak T=> (∃ n,eS ak n/\ (H T)/\nC 56 #[xP bp] T λ al U=> (∃ I,eS al I/\ (H U)/\∃ dn,sT 33 c (.agg #[nI 0,xZ nB,nI 0,nI bn,nI 0,nI ((↑I.len:Int)),nI 0,n.v,nV]) U dn/\Z3 prog 36 [nP c] .returning (λ dp=>∃ ch ci cj cl cm cn co,∃ u v:Sl,(Aw dp ⟨c,0,none⟩ [nI ch,xZ ci,nI cj,nI cl,nI cm,nI cn,nI co,u.v,v.v])/\K (.agg #[nI ch,xZ ci,nI cj,nI cl,nI cm,nI cn,nI co,u.v,v.v]) dp) dn)\/(∃ ad:List PanicEntry,(al=.panicked ad)/\Z3 prog 36 [nP c] (.panicking ad) (λ dq=>∃ cp cq cr cs cu cv cw,∃ x y:Sl,(Aw dq ⟨c,0,none⟩ [nI cp,xZ cq,nI cr,nI cs,nI cu,nI cv,nI cw,x.v,y.v])/\K (.agg #[nI cp,xZ cq,nI cr,nI cs,nI cu,nI cv,nI cw,x.v,y.v]) dq) U))\/(∃ ac:List PanicEntry,(ak=.panicked ac)/\Z3 prog 36 [nP c] (.panicking ac) (λ dr=>∃ cx cy cz c0 c1 c3 c4,∃ z A:Sl,(Aw dr ⟨c,0,none⟩ [nI cx,xZ cy,nI cz,nI c0,nI c1,nI c3,nI c4,z.v,A.v])/\K (.agg #[nI cx,xZ cy,nI cz,nI c0,nI c1,nI c3,nI c4,z.v,A.v]) dr) T)) dk)\/(∃ ab:List PanicEntry,(aj=.panicked ab)/\Z3 prog 36 [nP c] (.panicking ab) (λ ds=>∃ c5 c6 c7 c8 c9 da dc,∃ C D:Sl,(Aw ds ⟨c,0,none⟩ [nI c5,xZ c6,nI c7,nI c8,nI c9,nI da,nI dc,C.v,D.v])/\K (.agg #[nI c5,xZ c6,nI c7,nI c8,nI c9,nI da,nI dc,C.v,D.v]) ds) dk))) d7) w
def sk16:Sk:=(.cut [] [] (ng 6 8) .leaf .leaf)
def Zwn (d:xA) (e:Int) (f:ByteArray) (g i j k:Int) (l:Nat) (m:ByteArray) (n:Int) (c b:Sl) (K:Value->xE) (w:nW) (h:B16 d e f g i j k l m n c b K w):Zg prog 16 #[xP d,.agg #[nI e,xZ f,nI g,nI i,nI j,nI k,xF l,xZ m,nI n,c.v,b.v]] w K:=cqd (sk:=sk16) h func16
def B18 (d:xA) (K:Value->xE) (w:nW):Prop:=New (.cells #[nV] 112 (0,0)) (λ k bc=>Drw bc λ i bj=>Zb d λ av=>∃ O,kI i (av.add 0) O/\Zb d λ A=>∃ Q,fI i A 1 Q/\Zb d λ C=>∃ T:Option Nat,(At i (nO C 2) [.map T])/\∃ U:Int,(∀ b,i b->((Builtin.len_ #[77] 3 #[.map T])).run prog b=.ok (nI U) b)/\New (.cells #[nI O,nI Q,nI U] 3 (0,0)) (λ az aq=> (i aq)/\nC 60 #[nP k,.slice (some ⟨az,0,none⟩) 3 3] aq λ a1 x=>eU a1/\ (i x)/\Zb d λ D=>∃ V:Option Nat,(Aw x (nO D 2) [.map V])/\nC 62 #[.map V] x λ a2 bl=>∃ X:Value,(a2=xR (X))/\nC 61 #[X] bl λ a4 bm=>∃ m,eS a4 m/\∃ (r:lI) (ar:lJ),(r 0 bm)/\∀ (bo:Env) f c,r f c->Br (decide (f<(↑m.len:Int))) ((rN f m λ aw=>∃ Y,zI c (aw.add f.toNat) Y/\Zb d λ E=>∃ Z:Option Nat,(Aw c (nO E 2) [.map Z])/\∃ aa ab:xA,(∀ b,(λ b=>b=c) b->((Instr.lookup 77 (.map Z) (nI Y) false)).run prog b=.ok (.agg #[xP aa,xP ab]) b)/\New (.cells #[xP none,xP none] 97 (0,0)) (λ t bn=>∃ y,sT 97 t (.agg #[xP aa,xP ab]) bn y/\∃ ac,zP y ⟨t,0,none⟩ ac/\nC 64 #[xP ac] y λ a5 bd=>∃ n,eS a5 n/\nC 63 #[nP k,n.v] bd λ a6 an=>eU a6/\∃ ad,yP an t 1 ad/\nC 65 #[xP ad] an λ a7 be=>∃ o,eS a7 o/\nC 63 #[nP k,o.v] be λ a8 ao=>eU a8/\ (r (wI (f + 1)) ao)/\ar (wI (f + 1)) ao<ar f c) c)) (Zb d λ F=>∃ ae:Option Nat,(Aw c (nO F 3) [.map ae])/\∃ af:Int,(∀ b,(λ b=>b=c) b->((Builtin.len_ #[78] 3 #[.map ae])).run prog b=.ok (nI af) b)/\New (.cells #[nI af] 3 (0,0)) (λ a0 bf=>nC 60 #[nP k,.slice (some ⟨a0,0,none⟩) 1 1] bf λ a9 ap=>eU a9/\Zb d λ G=>∃ ag:Option Nat,(Aw ap (nO G 3) [.map ag])/\nC 66 #[.map ag] ap λ ba bg=>∃ ah:Value,(ba=xR (ah))/\nC 61 #[ah] bg λ bb bh=>∃ p,eS bb p/\∃ (s:lI) (au:lJ),(s 0 bh)/\∀ (bp:Env) g e,s g e->Br (decide (g<(↑p.len:Int))) ((rN g p λ ax=>∃ u,zI e (ax.add g.toNat) u/\Zb d λ H=>∃ ai:Option Nat,(Aw e (nO H 3) [.map ai])/\∃ q:xA,(∀ b,(λ b=>b=e) b->((Instr.lookup 78 (.map ai) (nI u) false)).run prog b=.ok (xP q) b)/\Drw e λ j bi=>Zb q λ I=>∃ aj,fI j I 1 aj/\Zb q λ J=>∃ ak,fI j J 2 ak/\Zb q λ L=>∃ al,fI j L 3 al/\Zb q λ M=>∃ am,fI j M 4 am/\Zb q λ z=>∃ N,fI j z 5 N/\New (.cells #[nI u,nI aj,nI ak,nI al,nI am,nI N] 3 (0,0)) (λ ay bk=>nC 60 #[nP k,.slice (some ⟨ay,0,none⟩) 6 6] bk λ a3 v=>eU a3/\ (j v)/\ (s (wI (g + 1)) v)/\au (wI (g + 1)) v<au g e) bi)) (∃ l,zS e ⟨k,0,none⟩ l/\K (l.v) e)) c)) bj) w
def sk18:Sk:=(nS 3 (.seq (nS 1 (.block (.loop [35] [(.int .i64)] (5::6::ng 35 21) .leaf))) (nS 1 (.seq (nS 1 (.block (.loop [71] [(.int .i64)] (8::9::ng 71 35) .leaf))) .leaf))))
def Zwl (a K w) (h:B18 a K w):Zg prog 18 #[xP a] w K:=cq (sk:=sk18) h func18
set_option maxRecDepth 10000
def B139 (d:Nat) (K:Value->xE) (w:nW):Prop:=Ext prog 210 #[xF d] w λ c b=>∃ a,(c=xR (.int .u64 a))/\Br (decide (a<9223372036854775808)) (K (.int .u64 (IntKind.u64.wrap (a + 9223372036854775808))) b) (K (.int .u64 (IntKind.u64.wrap (18446744073709551615 - a))) b)
def ZtW (a K w) (h:B139 a K w):Zg prog 139 #[xF a] w K:=cq (sk:=.leaf) h func139
def B148 (a:Int) (K:Value->xE) (w:nW):Prop:=Br (decide (a >= 9223372036854775808)) (Ext prog 222 #[.int .u64 (IntKind.u64.wrap (a - 9223372036854775808))] w λ d f=>∃ c,(d=xR (xF c))/\K (xF c) f) (Ext prog 222 #[.int .u64 (IntKind.u64.wrap (18446744073709551615 - a))] w λ e g=>∃ b,(e=xR (xF b))/\K (xF b) g)
def ZtR (a K w) (h:B148 a K w):Zg prog 148 #[.int .u64 a] w K:=cq (sk:=.leaf) h func148
def B258 (b c:Nat) (K:Value->xE) (w:nW):Prop:=∃ d:Bool,(∀ a,(λ a=>a=w) a->((do eqGuard BinOp.neq 35 (Operand.tmp 7) (Operand.tmp 8) (xF b) (xF b);binOp BinOp.neq 35 (xF b) (xF b):Sem Value)).run prog a=.ok (.bool d) a)/\∃ e:Bool,(∀ a,(λ a=>a=w) a->((do eqGuard BinOp.neq 35 (Operand.tmp 10) (Operand.tmp 11) (xF c) (xF c);binOp BinOp.neq 35 (xF c) (xF c):Sem Value)).run prog a=.ok (.bool e) a)/\Br d
 (Br e
 (K (nI 0) w) (∃ f:Bool,(∀ a,(λ a=>a=w) a->((do eqGuard BinOp.eql 35 (Operand.tmp 19) (Operand.tmp 20) (xF b) (xF c);binOp BinOp.eql 35 (xF b) (xF c):Sem Value)).run prog a=.ok (.bool f) a)/\Br f
 (K (nI 0) w) (Br d
 (K (nI ((-1))) w) (∃ i:Bool,(∀ a,(λ a=>a=w) a->((do eqGuard BinOp.lss 35 (Operand.tmp 26) (Operand.tmp 27) (xF b) (xF c);binOp BinOp.lss 35 (xF b) (xF c):Sem Value)).run prog a=.ok (.bool i) a)/\Br i
 (K (nI ((-1))) w) (K (nI 1) w))))) (∃ g:Bool,(∀ a,(λ a=>a=w) a->((do eqGuard BinOp.eql 35 (Operand.tmp 19) (Operand.tmp 20) (xF b) (xF c);binOp BinOp.eql 35 (xF b) (xF c):Sem Value)).run prog a=.ok (.bool g) a)/\Br g
 (K (nI 0) w) (Br d
 (K (nI ((-1))) w) (∃ j:Bool,(∀ a,(λ a=>a=w) a->((do eqGuard BinOp.lss 35 (Operand.tmp 26) (Operand.tmp 27) (xF b) (xF c);binOp BinOp.lss 35 (xF b) (xF c):Sem Value)).run prog a=.ok (.bool j) a)/\Br j
 (K (nI ((-1))) w) (K (nI 1) w))))
def ZsA (a b K w) (h:B258 a b K w):Zg prog 258 #[xF a,xF b] w K:=cq (sk:=.leaf) h func258
def B193 (f:Int) (K:Value->xE) (w:nW):Prop:=∃ (c:lI) (e:lJ),(c 0 w)/\∀ (g:Env) a b,c a b->Br (decide (a<31)) (∃ d:UInt8,((0:Int)<=a)/\ ((ByteArray.mk #[65,66,67,68,69,70,71,72,74,75,76,77,78,80,81,82,84,85,86,87,88,89,90,50,51,52,53,54,55,56,57])[a.toNat]? =some d)/\Br ((↑d.toNat:Int)==f) (K (nI a) b) ((c (wI (a + 1)) b)/\e (wI (a + 1)) b<e a b)) (K (nI ((-1))) b)
def Zxf:Sk:=(nS 1 (.seq (nS 1 (.block (.loop [3] [(.int .i64)] (ng 2 11) .leaf))) .leaf))
def Ztg (a K w) (h:B193 a K w):Zg prog 193 #[.int .u8 a] w K:=cq (sk:=Zxf) h func193
def B194 (k:Value) (K:Value->xE) (w:nW):Prop:=New (.cells (Value.cells k) 248 (0,0)) (λ c b=>∃ i,zI b (Addr.add ⟨c,0,none⟩ 0) i/\∃ j,zI b (Addr.add ⟨c,0,none⟩ 1) j/\∃ d,zI b (Addr.add ⟨c,0,none⟩ 2) d/\∃ e,zI b (Addr.add ⟨c,0,none⟩ 3) e/\∃ f,zI b (Addr.add ⟨c,0,none⟩ 4) f/\∃ g,zI b (Addr.add ⟨c,0,none⟩ 5) g/\K (nI (wI (wI (wI (wI (wI (wI (2 * i) + wI (3 * j)) + wI (4 * d)) + wI (5 * e)) + wI (6 * f)) + g))) b) w
def Ztf (a K w) (h:B194 a K w):Zg prog 194 #[a] w K:=cq (sk:=.leaf) h func194
def B124 (p:Int) (K:Value->xE) (w:nW):Prop:=∃ (x:xE),(Br (decide (p<0)) (K (.tuple #[xZ nB,nI 1]) w) (Br (decide (p >= 28629151)) (K (.tuple #[xZ nB,nI 1]) w) (x  w)))/\∀ (M:Env) D,x D->New (.cells #[nI 0,nI 0,nI 0,nI 0,nI 0,nI 0] 248 (0,0)) (λ g J=>∃ (m:Int->Int->xE) (E:Int->Int->World->Nat),(m p 4 J)/\∀ (N:Env) (i:Int) (d:Int) (k:World),m i d k->Br (decide (d >= 0)) (Rng d 6 (∃ t,(St 3 (Addr.add ⟨g,0,none⟩ d.toNat) (nI (i.tmod 31)) k t)/\ (m (wI (i.tdiv 31)) (wI (d - 1)) t)/\E (wI (i.tdiv 31)) (wI (d - 1)) t<E i d k)) (∃ (n:xE) (F:World->Nat),(n  k)/\∀ (O:Env) l,n l->∃ q:List Value,(q.length=6)/\ (Aw l ⟨g,0,none⟩ q)/\nC 194 #[.agg q.toArray] l λ I u=>∃ y,eI I y/\Br (y.tmod 31 !=0) (∃ z,zI u (Addr.add ⟨g,0,none⟩ 5) z/\∃ v,(St 3 (Addr.add ⟨g,0,none⟩ 5) (nI (wI (z + 1))) u v)/\ (n  v)/\F  v<F  l) (∃ (o:lK) (G:lL),(o ⟨none,0,0⟩ 0 u)/\∀ (Q:Env) c e f,o c e f->Br (decide (e<6)) (Rng e 6 (∃ r,zI f (Addr.add ⟨g,0,none⟩ e.toNat) r/\∃ A:UInt8,((0:Int)<=r)/\ ((ByteArray.mk #[65,66,67,68,69,70,71,72,74,75,76,77,78,80,81,82,84,85,86,87,88,89,90,50,51,52,53,54,55,56,57])[r.toNat]? =some A)/\New (.cells #[.int .u8 ((↑A.toNat:Int))] 5 (0,0)) (λ H L=>∃ s j,aP 47 c.v (.slice (some ⟨H,0,none⟩) 1 1) L s j/\ (o j (wI (e + 1)) s)/\G j (wI (e + 1)) s<G c e f) f)) (∃ C:ByteArray,(∀ b,(λ b=>b=f) b->((convert 47 9 (c.v))).run prog b=.ok (xZ C) b)/\K (.tuple #[xZ C,nI 0]) f)))) D
def ZxE:Sk:=(nS 1 (.cut [] [] (2::3::ng 8 6) .leaf (nS 1 (.seq (nS 1 (.block (.loop [0,5] [(.int .i64),(.int .i64)] (0::5::ng 14 10) .leaf))) (.seq (.block (.loop [] [] (ng 24 8) .leaf)) (nS 1 (.seq (nS 1 (.block (.loop [6,7] [.sl,(.int .i64)] (6::7::ng 32 11) .leaf))) .leaf)))))))
def Zt7 (a K w) (h:B124 a K w):Zg prog 124 #[nI a] w K:=cq (sk:=ZxE) h func124
def B116 (l:ByteArray) (K:Value->xE) (w:nW):Prop:=Br ((↑l.size:Int) !=6) (K (.tuple #[nI 0,nI 6]) w) (New (.cells #[nI 0,nI 0,nI 0,nI 0,nI 0,nI 0] 248 (0,0)) (λ g t=>∃ (f:Int->Int->xE) (i:Int->Int->World->Nat),(f 0 0 t)/\∀ (v:Env) (b:Int) (a:Int) (d:World),f b a d->Br (decide (a<6)) (∃ m:UInt8,((0:Int)<=a)/\ (l[a.toNat]? =some m)/\nC 193 #[.int .u8 ((↑m.toNat:Int))] d λ r u=>∃ n,eI r n/\Rng a 6 (∃ c,(St 3 (Addr.add ⟨g,0,none⟩ a.toNat) (nI n) u c)/\Rng a 6 (∃ o,zI c (Addr.add ⟨g,0,none⟩ a.toNat) o/\Br (decide (o<0)) (K (.tuple #[nI 0,nI 6]) c) (Br (decide (a<5)) (Rng a 6 (∃ j,zI c (Addr.add ⟨g,0,none⟩ a.toNat) j/\ (f (wI (wI (b * 31) + j)) (wI (a + 1)) c)/\i (wI (wI (b * 31) + j)) (wI (a + 1)) c<i b a d)) ((f b (wI (a + 1)) c)/\i b (wI (a + 1)) c<i b a d))))) (∃ k:List Value,(k.length=6)/\ (Aw d ⟨g,0,none⟩ k)/\nC 194 #[.agg k.toArray] d λ s q=>∃ p,eI s p/\Br (p.tmod 31 !=0) (K (.tuple #[nI 0,nI 6]) q) (K (.tuple #[nI b,nI 0]) q))) w)
def ZxJ:Sk:=(nS 4 (.seq (nS 1 (.block (.loop [5,6] [(.int .i64),(.int .i64)] (2::3::5::6::ng 10 22) .leaf))) .leaf))
def Zuf (a K w) (h:B116 a K w):Zg prog 116 #[xZ a] w K:=cq (sk:=ZxJ) h func116
def B189 (m n o p:Int) (q:Nat) (K:Value->xE) (w:nW):Prop:=New (.cells #[nI m,nI n,nI o,nI p,xF q] 168 (0,0)) (λ c a=>∃ k,zI a ⟨c,0,none⟩ k/\Br (decide (k >= 1)) (∃ l,zI a ⟨c,0,none⟩ l/\Br (decide (l<=28629151)) (∃ d,yI a c 1 d/\Br (decide (d >= 0)) (∃ e,yI a c 1 e/\Br (decide (e<=7)) (∃ f,yI a c 2 f/\Br (decide (f >= 1)) (∃ g,yI a c 2 g/\Br (decide (g<=600)) (∃ i,yI a c 3 i/\Br (decide (i >= 0)) (∃ j,yI a c 3 j/\K (.bool (decide (j<=1099511627776))) a) (K (.bool false) a)) (K (.bool false) a)) (K (.bool false) a)) (K (.bool false) a)) (K (.bool false) a)) (K (.bool false) a)) (K (.bool false) a)) w
def Ztk (a b c d e K w) (h:B189 a b c d e K w):Zg prog 189 #[.agg #[nI a,nI b,nI c,nI d,xF e]] w K:=cq (sk:=.leaf) h func189
def B191 (p q r s:Int) (t:Nat) (u v x y:Int) (z:Nat) (K:Value->xE) (w:nW):Prop:=New (.cells #[nI p,nI q,nI r,nI s,xF t] 168 (0,0)) (λ c C=>New (.cells #[nI u,nI v,nI x,nI y,xF z] 168 (0,0)) (λ d f=>∃ n,(Aw f ⟨c,0 + 4,none⟩ [xF n])/\∃ o,(Aw f ⟨d,0 + 4,none⟩ [xF o])/\nC 258 #[xF n,xF o] f λ A b=>∃ e,eI A e/\Br (e !=0) (K (.bool (decide (e>0))) b) (∃ g,yI b c 3 g/\∃ i,yI b d 3 i/\Br (g !=i) (∃ j,yI b c 3 j/\∃ k,yI b d 3 k/\K (.bool (decide (j<k))) b) (∃ l,zI b ⟨c,0,none⟩ l/\∃ m,zI b ⟨d,0,none⟩ m/\K (.bool (decide (l<m))) b))) C) w
def Zti (a b c d e f g i j k K w) (h:B191 a b c d e f g i j k K w):Zg prog 191 #[.agg #[nI a,nI b,nI c,nI d,xF e],.agg #[nI f,nI g,nI i,nI j,xF k]] w K:=cq (sk:=.leaf) h func191
def B190 (i:xA) (o:Int) (K:Value->xE) (w:nW):Prop:=∃ (g:lI) (k:lJ),(g 0 w)/\∀ (p:Env) c b,g c b->Zb i λ n=>∃ f,zS b (n.add 0) f/\Br (decide (c<(↑f.len:Int))) (Zb i λ l=>∃ d,zS b (l.add 0) d/\ (rN c d λ m=>∃ j,zI b ((m.add (YQ c.toNat 5)).add 0) j/\Br (j==o) (K (nI c) b) ((g (wI (c + 1)) b)/\k (wI (c + 1)) b<k c b))) (K (nI ((-1))) b)
def Zxh:Sk:=(nS 1 (.seq (nS 1 (.block (.loop [5] [(.int .i64)] (ng 4 22) .leaf))) .leaf))
def Ztj (b a K w) (h:B190 b a K w):Zg prog 190 #[xP b,nI a] w K:=cq (sk:=Zxh) h func190
def B112 (f:xA) (ay az a0 a1:Int) (a2:Nat) (K:Value->xE) (w:nW):Prop:=New (.cells #[nI ay,nI az,nI a0,nI a1,xF a2] 168 (0,0)) (λ n ad=>∃ X Y Z aa ab,(Aw ad ⟨n,0,none⟩ [nI X,nI Y,nI Z,nI aa,xF ab])/\nC 189 #[.agg #[nI X,nI Y,nI Z,nI aa,xF ab]] ad λ av v=>∃ ac,eB av ac/\Br (!ac) (K (nI 1) v) (∃ z,zI v ⟨n,0,none⟩ z/\nC 190 #[xP f,nI z] v λ aw q=>∃ A,eI aw A/\Br (decide (A >= 0)) (K (nI 7) q) (Zb f λ ak=>∃ o,zS q (ak.add 0) o/\Br (decide ((↑o.len:Int) >= 200)) (K (nI 3) q) (∃ (t:Int->xE),(∃ (s:lI) (aj:lJ),(s 0 q)/\∀ (a4:Env) c x,s c x->Drw x λ l ag=>Zb f λ al=>∃ p,kS l (al.add 0) p/\Br (decide (c<(↑p.len:Int))) (Zb f λ am=>∃ m,kS l (am.add 0) m/\ (rN c m λ an=>∃ C D E F G,(At l (an.add (YQ c.toNat 5)) [nI C,nI D,nI E,nI F,xF G])/\∃ H I J L M,(At l ⟨n,0,none⟩ [nI H,nI I,nI J,nI L,xF M])/\nC 191 #[.agg #[nI C,nI D,nI E,nI F,xF G],.agg #[nI H,nI I,nI J,nI L,xF M]] ag λ ax r=>∃ N,eB ax N/\ (l r)/\Br N
 ((s (wI (c + 1)) r)/\aj (wI (c + 1)) r<aj c x) (t c r))) (t c ag))/\∀ (a5:Env) d ah,t d ah->New (.cells #[] 168 (0,0)) (λ ar ai=>Zb f λ ao=>∃ g,zS ai (ao.add 0) g/\ ((0:Int)<=d)/\ ((d:Int)<=(↑g.cap:Int))/\∃ y i,aP 100 (.slice (some ⟨ar,0,none⟩) 0 0) (.slice g.a d.toNat g.cap) ai y i/\∃ O Q T U V,(Aw y ⟨n,0,none⟩ [nI O,nI Q,nI T,nI U,xF V])/\New (.cells #[nI O,nI Q,nI T,nI U,xF V] 168 (0,0)) (λ au a3=>∃ u j,aP 100 i.v (.slice (some ⟨au,0,none⟩) 1 1) a3 u j/\Zb f λ ap=>∃ e,zS u (ap.add 0) e/\ ((0:Int)<=d)/\ ((d:Int)<=(↑e.len:Int))/\∃ ae k,aP 100 j.v (.slice (X4 e.a d.toNat e.cap 5) (e.len - d.toNat) (e.cap - d.toNat)) u ae k/\Zb f λ aq=>∃ af,(St 100 (aq.add 0) (k.v) ae af)/\K (nI 0) af) y) ah)))) w
def ZxL:Sk:=(nS 6 (.cut [6] [(.int .i64)] (6::ng 23 20) (.block (.loop [6] [(.int .i64)] (6::ng 23 20) .leaf)) .leaf))
def Zuj (a b c d e f K w) (h:B112 a b c d e f K w):Zg prog 112 #[xP a,.agg #[nI b,nI c,nI d,nI e,xF f]] w K:=cq (sk:=ZxL) h func112
def B118 (i:xA) (t:Int) (K:Value->xE) (w:nW):Prop:=nC 190 #[xP i,nI t] w λ s l=>∃ b,eI s b/\Br (decide (b<0)) (K (nI 2) l) (Drw l λ g u=>Zb i λ o=>∃ d,kS g (o.add 0) d/\ ((0:Int)<=b)/\ ((b:Int)<=(↑d.cap:Int))/\Zb i λ p=>∃ c,kS g (p.add 0) c/\ ((0:Int)<=wI (b + 1))/\ ((wI (b + 1):Int)<=(↑c.len:Int))/\New (.cells #[] 168 (0,0)) (λ r m=> (g m)/\∃ j e,aP 100 (.slice (some ⟨r,0,none⟩) 0 0) (.slice d.a b.toNat d.cap) m j e/\ (g j)/\∃ k f,aP 100 e.v (.slice (X4 c.a (wI (b + 1)).toNat c.cap 5) (c.len - (wI (b + 1)).toNat) (c.cap - (wI (b + 1)).toNat)) j k f/\ (g k)/\Zb i λ q=>∃ n,(St 100 (q.add 0) (f.v) k n)/\K (nI 0) n) u)
def Zud (b a K w) (h:B118 b a K w):Zg prog 118 #[xP b,nI a] w K:=cq (sk:=.leaf) h func118
def B192 (r:xA) (n:Sl) (K:Value->xE) (w:nW):Prop:=New (.cells #[nI 0,nI 0,nI 0,nI 0,xF 0] 168 (0,0)) (λ k ab=>∃ (i:lI) (m:lJ),(i 0 ab)/\∀ (ad:Env) c d,i c d->Zb r λ X=>∃ l,zS d (X.add 0) l/\Br (decide (c<(↑l.len:Int))) (Zb r λ Y=>∃ g,zS d (Y.add 0) g/\ (rN c g λ Z=>∃ s t u v x,(Aw d (Z.add (YQ c.toNat 5)) [nI s,nI t,nI u,nI v,xF x])/\New (.cells #[nI 0,nI 0,nI 0,nI 0,xF 0] 168 (0,0)) (λ f ac=>∃ V,sT 168 f (.agg #[nI s,nI t,nI u,nI v,xF x]) ac V/\Drw V λ j e=>∃ y,hI j f 1 y/\Br (decide (y<(↑n.len:Int))) (∃ z,hI j f 2 z/\∃ o,hI j f 1 o/\ (rN o n λ aa=>∃ A,kI j (aa.add o.toNat) A/\Br (decide (z<=A)) (∃ C D E F G,(Aw e ⟨f,0,none⟩ [nI C,nI D,nI E,nI F,xF G])/\∃ p,sT 168 k (.agg #[nI C,nI D,nI E,nI F,xF G]) e p/\∃ H I J L M,(Aw p ⟨k,0,none⟩ [nI H,nI I,nI J,nI L,xF M])/\K (.tuple #[.agg #[nI H,nI I,nI J,nI L,xF M],.bool true]) p) ((i (wI (c + 1)) e)/\m (wI (c + 1)) e<m c d))) ((i (wI (c + 1)) e)/\m (wI (c + 1)) e<m c d)) d)) (∃ q,sT 168 k (.agg #[nI 0,nI 0,nI 0,nI 0,xF 0]) d q/\∃ N O Q T U,(Aw q ⟨k,0,none⟩ [nI N,nI O,nI Q,nI T,xF U])/\K (.tuple #[.agg #[nI N,nI O,nI Q,nI T,xF U],.bool false]) q)) w
def Zxg:Sk:=(nS 1 (.seq (nS 1 (.block (.loop [6] [(.int .i64)] (ng 5 35) .leaf))) .leaf))
def Zth (c b K w) (h:B192 c b K w):Zg prog 192 #[xP c,b.v] w K:=cq (sk:=Zxg) h func192
def B70 (t:xA) (K:Value->xE) (w:nW):Prop:=Zb t λ V=>∃ o,zS w (V.add 0) o/\nC 137 #[.int .u64 (IntKind.u64.wrap (↑o.len:Int))] w λ Y ab=>∃ p,eS Y p/\∃ (r:lK) (N:lL),(r p 0 ab)/\∀ (af:Env) i e g,r i e g->Zb t λ Q=>∃ q,zS g (Q.add 0) q/\Br (decide (e<(↑q.len:Int))) (Zb t λ T=>∃ m,zS g (T.add 0) m/\ (rN e m λ U=>∃ v x y z A,(Aw g (U.add (YQ e.toNat 5)) [nI v,nI x,nI y,nI z,xF A])/\New (.cells #[nI 0,nI 0,nI 0,nI 0,xF 0] 168 (0,0)) (λ j ac=>∃ J,sT 168 j (.agg #[nI v,nI x,nI y,nI z,xF A]) ac J/\Drw J λ c ad=>∃ C,kI c ⟨j,0,none⟩ C/\∃ D,hI c j 1 D/\∃ E,hI c j 2 E/\∃ F,hI c j 3 F/\∃ G,(At c ⟨j,0 + 4,none⟩ [xF G])/\nC 139 #[xF G] ad λ Z L=>∃ H,(Z=xR (.int .u64 H))/\ (c L)/\New (.cells #[.int .u64 (IntKind.u64.wrap C),.int .u64 (IntKind.u64.wrap D),.int .u64 (IntKind.u64.wrap E),.int .u64 (IntKind.u64.wrap F),.int .u64 H] 141 (0,0)) (λ X M=> (c M)/\∃ (s:lK) (O:lL),(s i 0 M)/\∀ (ag:Env) d f l,s d f l->Br (decide (f<5)) (Rng f 5 (∃ I,(Aw l (Addr.add ⟨X,0,none⟩ f.toNat) [.int .u64 I])/\nC 137 #[.int .u64 I] l λ aa ae=>∃ k,eS aa k/\∃ u n,aP 47 d.v k.v ae u n/\ (s n (wI (f + 1)) u)/\O n (wI (f + 1)) u<O d f l)) ((r d (wI (e + 1)) l)/\N d (wI (e + 1)) l<N i e g)) L) g)) (K (i.v) g)
def sk70:Sk:=(nS 2 (.seq (nS 1 (.block (.loop [3,4] [.sl,(.int .i64)] (3::4::5::6::7::ng 15 43) (nS 1 (.seq (.block (nS 3 (.block (.loop [3,7] [.sl,(.int .i64)] (3::7::ng 47 11) .leaf)))) .leaf))))) .leaf))
def ZvF (a K w) (h:B70 a K w):Zg prog 70 #[xP a] w K:=cq (sk:=sk70) h func70
def B11  (K:Value->xE) (w:nW):Prop:=New (.cells #[nI 0,nI 1,nV,nV] 46 (0,0)) (λ a b=>K (nP a) b) w
def Zwq  (K w) (h:B11  K w):Zg prog 11 #[] w K:=cq (sk:=.leaf) h func11
def B46 (T:Int) (U:ByteArray) (V X Y Z:Int) (aa:Nat) (ab:ByteArray) (ac:Int) (r q:Sl) (K:Value->xE) (w:nW):Prop:=New (.cells #[nI T,xZ U,nI V,nI X,nI Y,nI Z,xF aa,xZ ab,nI ac,r.v,q.v] 40 (0,0)) (λ d k=>∃ G,yI k d 2 G/\∃ H,yI k d 3 H/\∃ u,yI k d 4 u/\∃ v,yI k d 8 v/\New (.cells #[nI G,nI H,nI u,nI v] 3 (0,0)) (λ t ad=>∃ (o:lI) (M:lJ),(o 0 ad)/\∀ (ae:Env) f c,o f c->Br (decide (f<(↑4:Int))) (Rng f 4 (∃ x,zI c (Addr.add ⟨t,0,none⟩ f.toNat) x/\Br (decide (x<0)) (K (.bool false) c) (Rng f 4 (∃ y,zI c (Addr.add ⟨t,0,none⟩ f.toNat) y/\Br (decide (y>9999)) (K (.bool false) c) ((o (wI (f + 1)) c)/\M (wI (f + 1)) c<M f c))))) (∃ (s:xE),(∃ z,zI c ⟨d,0,none⟩ z/\Br (decide (z<1)) (K (.bool false) c) (∃ A,zI c ⟨d,0,none⟩ A/\Br (decide (A>9)) (K (.bool false) c) (∃ C,yI c d 5 C/\Br (decide (C<0)) (K (.bool false) c) (∃ D,yI c d 5 D/\Br (decide (D>1099511627776)) (K (.bool false) c) (∃ E,yZ c d 1 E/\Br (decide ((↑E.size:Int)>16)) (K (.bool false) c) (∃ F,yZ c d 7 F/\Br (decide ((↑F.size:Int)>16)) (K (.bool false) c) (∃ l,zS c ⟨d,0 + 8 + 1,none⟩ l/\Br (decide ((↑l.len:Int)>16)) (K (.bool false) c) (∃ m,yS c d 10 m/\Br (decide ((↑m.len:Int)>16)) (K (.bool false) c) (s  c)))))))))/\∀ (af:Env) L,s L->∃ (p:lI) (N:lJ),(p 0 L)/\∀ (ag:Env) g e,p g e->∃ n,zS e ⟨d,0 + 8 + 1,none⟩ n/\Br (decide (g<(↑n.len:Int))) (∃ i,zS e ⟨d,0 + 8 + 1,none⟩ i/\ (rN g i λ O=>∃ I,zI e (O.add g.toNat) I/\Br (decide (I<0)) (K (.bool false) e) (∃ j,zS e ⟨d,0 + 8 + 1,none⟩ j/\ (rN g j λ Q=>∃ J,zI e (Q.add g.toNat) J/\Br (decide (J>9999)) (K (.bool false) e) ((p (wI (g + 1)) e)/\N (wI (g + 1)) e<N g e))))) (K (.bool true) e))) k) w
def sk46:Sk:=(nS 2 (.seq (nS 1 (.block (.loop [4] [(.int .i64)] (2::4::ng 16 18) .leaf))) (.cut [] [] (2::ng 34 43) .leaf (.seq (nS 1 (.block (.loop [5] [(.int .i64)] (2::5::ng 77 24) .leaf))) .leaf))))
def Zv0 (d e f g i j k l m c b K w) (h:B46 d e f g i j k l m c b K w):Zg prog 46 #[.agg #[nI d,xZ e,nI f,nI g,nI i,nI j,xF k,xZ l,nI m,c.v,b.v]] w K:=cq (sk:=sk46) h func46
def B67 (i:Sl) (K:Value->xE) (w:nW):Prop:=∃ (g:lK) (l:lL),(g ⟨none,0,0⟩ 0 w)/\∀ (q:Env) b c f,g b c f->Br (decide (c<(↑i.len:Int))) ((rN c i λ m=>∃ j,zI f (m.add c.toNat) j/\nC 137 #[.int .u64 (IntKind.u64.wrap (if 0>j then 0 else j))] f λ n p=>∃ d,eS n d/\∃ k e,aP 47 b.v d.v p k e/\ (g e (wI (c + 1)) k)/\l e (wI (c + 1)) k<l b c f)) (K (b.v) f)
def sk67:Sk:=(nS 2 (.seq (nS 1 (.block (.loop [3,4] [.sl,(.int .i64)] (ng 3 17) .leaf))) .leaf))
def ZvI (b K w) (h:B67 b K w):Zg prog 67 #[b.v] w K:=cq (sk:=sk67) h func67
def B88 (H:Sl) (K:Value->xE) (w:nW):Prop:=New (.cells #[nI 0,xZ nB,nI 0,nI 0,nI 0,nI 0,xF 0,xZ nB,nI 0,nV,nV] 40 (0,0)) (λ e cy=>New (.cells #[H.v,nI 0,.bool false] 140 (0,0)) (λ d c3=>nC 77 #[nP d,.int .u64 9] c3 λ ch c8=>∃ O,(ch=xR (.int .u64 O))/\nC 78 #[nP d,nI 16] c8 λ ci ca=>∃ f,eS ci f/\∃ Q:ByteArray,(∀ b,(λ b=>b=ca) b->((convert 47 9 (f.v))).run prog b=.ok (xZ Q) b)/\New (.cells #[nI 0,xZ nB,nI 0,nI 0,nI 0,nI 0,xF 0,xZ nB,nI 0,nV,nV] 40 (0,0)) (λ c da=>∃ cb,sT 40 c (.agg #[nI (wI O),xZ Q,nI 0,nI 0,nI 0,nI 0,xF 0,xZ nB,nI 0,nV,nV]) da cb/\nC 77 #[nP d,.int .u64 9999] cb λ cq db=>∃ T,(cq=xR (.int .u64 T))/\∃ cc,(St 3 ⟨c,0 + 2,none⟩ (nI (wI T)) db cc)/\nC 77 #[nP d,.int .u64 9999] cc λ cr dc=>∃ U,(cr=xR (.int .u64 U))/\∃ bu,(St 3 ⟨c,0 + 3,none⟩ (nI (wI U)) dc bu)/\nC 77 #[nP d,.int .u64 9999] bu λ cs cz=>∃ X,(cs=xR (.int .u64 X))/\∃ bv,(St 3 ⟨c,0 + 4,none⟩ (nI (wI X)) cz bv)/\nC 77 #[nP d,.int .u64 1099511627776] bv λ ct c0=>∃ Y,(ct=xR (.int .u64 Y))/\∃ bw,(St 3 ⟨c,0 + 5,none⟩ (nI (wI Y)) c0 bw)/\nC 77 #[nP d,.int .u64 18446744073709551615] bw λ cu c1=>∃ Z,(cu=xR (.int .u64 Z))/\nC 148 #[.int .u64 Z] c1 λ cv c2=>∃ aa,(cv=xR (xF aa))/\∃ bx,(St 35 ⟨c,0 + 6,none⟩ (xF aa) c2 bx)/\nC 78 #[nP d,nI 16] bx λ cw bz=>∃ n,eS cw n/\∃ a3:ByteArray,(∀ b,(λ b=>b=bz) b->((convert 47 9 (n.v))).run prog b=.ok (xZ a3) b)/\∃ b0,(St 9 ⟨c,0 + 7,none⟩ (xZ a3) bz b0)/\nC 77 #[nP d,.int .u64 9999] b0 λ cx c4=>∃ a4,(cx=xR (.int .u64 a4))/\∃ b1,(St 3 ⟨c,0 + 8,none⟩ (nI (wI a4)) c4 b1)/\nC 77 #[nP d,.int .u64 16] b1 λ cj c5=>∃ a5,(cj=xR (.int .u64 a5))/\∃ (E:lI) (cd:lJ),(E 0 c5)/\∀ (dd:Env) x A,E x A->Br (decide (x<a5)) (Drw A λ G c6=>∃ o,kS G ⟨c,0 + 8 + 1,none⟩ o/\nC 77 #[nP d,.int .u64 9999] c6 λ ck b2=>∃ a6,(ck=xR (.int .u64 a6))/\ (G b2)/\New (.cells #[nI (wI a6)] 3 (0,0)) (λ cf b3=> (G b3)/\∃ b4 p,aP 30 o.v (.slice (some ⟨cf,0,none⟩) 1 1) b3 b4 p/\∃ I,(St 30 ⟨c,0 + 8 + 1,none⟩ (p.v) b4 I)/\ (E (IntKind.u64.wrap (x + 1)) I)/\cd (IntKind.u64.wrap (x + 1)) I<cd x A) b2) (nC 77 #[nP d,.int .u64 16] A λ cl c7=>∃ a7,(cl=xR (.int .u64 a7))/\∃ (F:lI) (ce:lJ),(F 0 c7)/\∀ (de:Env) y C,F y C->Br (decide (y<a7)) (Drw C λ z c9=>∃ q,hS z c 10 q/\nC 77 #[nP d,.int .u64 18446744073709551615] c9 λ cm b5=>∃ a8,(cm=xR (.int .u64 a8))/\ (z b5)/\nC 148 #[.int .u64 a8] b5 λ cn b6=>∃ a9,(cn=xR (xF a9))/\ (z b6)/\New (.cells #[xF a9] 35 (0,0)) (λ cg b7=> (z b7)/\∃ b8 r,aP 38 q.v (.slice (some ⟨cg,0,none⟩) 1 1) b7 b8 r/\∃ J,(St 38 ⟨c,0 + 10,none⟩ (r.v) b8 J)/\ (F (IntKind.u64.wrap (y + 1)) J)/\ce (IntKind.u64.wrap (y + 1)) J<ce y C) b6) (nC 80 #[nP d] C λ co b9=>∃ ba,eB co ba/\nM b9 ⟨c,0,none⟩ λ v_=>nC 46 #[v_] b9 λ cp D=>∃ bk,eB cp bk/\Br (!ba) (∃ L,sT 40 e (.agg #[nI 0,xZ nB,nI 0,nI 0,nI 0,nI 0,xF 0,xZ nB,nI 0,nV,nV]) D L/\∃ V ab al aw ay az a0 a1 a2,∃ m g:Sl,(Aw L ⟨e,0,none⟩ [nI V,xZ ab,nI al,nI aw,nI ay,nI az,xF a0,xZ a1,nI a2,m.v,g.v])/\K (.tuple #[.agg #[nI V,xZ ab,nI al,nI aw,nI ay,nI az,xF a0,xZ a1,nI a2,m.v,g.v],nI 6]) L) (Br (!bk) (∃ M,sT 40 e (.agg #[nI 0,xZ nB,nI 0,nI 0,nI 0,nI 0,xF 0,xZ nB,nI 0,nV,nV]) D M/\∃ ac ad ae af ag ah ai aj ak,∃ i j:Sl,(Aw M ⟨e,0,none⟩ [nI ac,xZ ad,nI ae,nI af,nI ag,nI ah,xF ai,xZ aj,nI ak,i.v,j.v])/\K (.tuple #[.agg #[nI ac,xZ ad,nI ae,nI af,nI ag,nI ah,xF ai,xZ aj,nI ak,i.v,j.v],nI 6]) M) (∃ bl bm bn bo bp bq br bs bt,∃ v u:Sl,(Aw D ⟨c,0,none⟩ [nI bl,xZ bm,nI bn,nI bo,nI bp,nI bq,xF br,xZ bs,nI bt,v.v,u.v])/\∃ N,sT 40 e (.agg #[nI bl,xZ bm,nI bn,nI bo,nI bp,nI bq,xF br,xZ bs,nI bt,v.v,u.v]) D N/\∃ am an ao ap aq ar au av ax,∃ k l:Sl,(Aw N ⟨e,0,none⟩ [nI am,xZ an,nI ao,nI ap,nI aq,nI ar,xF au,xZ av,nI ax,k.v,l.v])/\K (.tuple #[.agg #[nI am,xZ an,nI ao,nI ap,nI aq,nI ar,xF au,xZ av,nI ax,k.v,l.v],nI 0]) N))))) ca) cy) w
def sk88:Sk:=(nS 11 (.seq (nS 1 (.block (.loop [7] [(.int .u64)] (7::ng 52 15) .leaf))) (nS 1 (.seq (nS 1 (.block (.loop [8] [(.int .u64)] (8::ng 69 13) .leaf))) .leaf))))
def Zvq (b K w) (h:B88 b K w):Zg prog 88 #[b.v] w K:=cq (sk:=sk88) h func88
def B89 (al:Int) (am:ByteArray) (an ao ap aq ar:Int) (D E:Sl) (K:Value->xE) (w:nW):Prop:=New (.cells #[nI al,xZ am,nI an,nI ao,nI ap,nI aq,nI ar,D.v,E.v] 33 (0,0)) (λ c U=>∃ T,zI U ⟨c,0,none⟩ T/\New (.cells #[nI T] 3 (0,0)) (λ ae ay=>nC 67 #[.slice (some ⟨ae,0,none⟩) 1 1] ay λ af Y=>∃ t,eS af t/\∃ I,yZ Y c 1 I/\∃ Z:World,∃ i:Sl,((convert 9 47 (xZ I)).run prog Y=.ok (i.v) Z)/\nC 68 #[i.v] Z λ ag az=>∃ j,eS ag j/\∃ e k,aP 47 t.v j.v az e k/\∃ J,yI e c 2 J/\∃ L,yI e c 3 L/\∃ M,yI e c 4 M/\∃ N,yI e c 5 N/\∃ O,yI e c 6 O/\∃ x,yS e c 7 x/\New (.cells #[nI J,nI L,nI M,nI N,nI O,nI ((↑x.len:Int))] 3 (0,0)) (λ ac a0=>nC 67 #[.slice (some ⟨ac,0,none⟩) 6 6] a0 λ ah a1=>∃ l,eS ah l/\∃ H m,aP 47 k.v l.v a1 H m/\∃ n,yS H c 7 n/\nC 67 #[n.v] H λ ai au=>∃ o,eS ai o/\∃ F p,aP 47 m.v o.v au F p/\∃ y,yS F c 8 y/\New (.cells #[nI ((↑y.len:Int))] 3 (0,0)) (λ ad av=>nC 67 #[.slice (some ⟨ad,0,none⟩) 1 1] av λ aj aw=>∃ q,eS aj q/\∃ V z,aP 47 p.v q.v aw V z/\∃ (C:lK) (aa:lL),(C z 0 V)/\∀ (a2:Env) d f g,C d f g->∃ A,yS g c 8 A/\Br (decide (f<(↑A.len:Int))) (∃ u,yS g c 8 u/\ (rN f u λ ab=>∃ Q,zZ g (ab.add f.toNat) Q/\∃ X:World,∃ r:Sl,((convert 9 47 (xZ Q)).run prog g=.ok (r.v) X)/\nC 68 #[r.v] X λ ak ax=>∃ s,eS ak s/\∃ G v,aP 47 d.v s.v ax G v/\ (C v (wI (f + 1)) G)/\aa v (wI (f + 1)) G<aa d f g)) (K (d.v) g)) F) e) U) w
def sk89:Sk:=(nS 6 (.seq (nS 1 (.block (.loop [3,4] [.sl,(.int .i64)] (3::4::ng 44 16) .leaf))) .leaf))
def Zvp (d e f g i j k b c K w) (h:B89 d e f g i j k b c K w):Zg prog 89 #[.agg #[nI d,xZ e,nI f,nI g,nI i,nI j,nI k,b.v,c.v]] w K:=cq (sk:=sk89) h func89
def B58 (k:xA) (q:Int) (K:Value->xE) (w:nW):Prop:=∃ (g:lI) (n:lJ),(g 0 w)/\∀ (r:Env) c b,g c b->Zb k λ j=>∃ f,gS b j 2 f/\Br (decide (c<(↑f.len:Int))) (Zb k λ i=>∃ e,gS b i 2 e/\ (rN c e λ o=>∃ l,zP b ((o.add (YQ c.toNat 2)).add 0) l/\Zb l λ p=>∃ m,zI b (p.add 0) m/\Br (m==q) (K (nI c) b) ((g (wI (c + 1)) b)/\n (wI (c + 1)) b<n c b))) (K (nI ((-1))) b)
def sk58:Sk:=(nS 1 (.seq (nS 1 (.block (.loop [5] [(.int .i64)] (ng 4 25) .leaf))) .leaf))
def ZvO (a b K w) (h:B58 a b K w):Zg prog 58 #[xP a,nI b] w K:=cq (sk:=sk58) h func58
def B117 (k:xA) (o:Int) (K:Value->xE) (w:nW):Prop:=∃ (g:lI) (m:lJ),(g 0 w)/\∀ (p:Env) c b,g c b->Zb k λ j=>∃ f,gS b j 3 f/\Br (decide (c<(↑f.len:Int))) (Zb k λ i=>∃ d,gS b i 3 d/\ (rN c d λ n=>∃ l,zI b ((n.add (YQ c.toNat 6)).add 0) l/\Br (l==o) (K (nI c) b) ((g (wI (c + 1)) b)/\m (wI (c + 1)) b<m c b))) (K (nI ((-1))) b)
def ZxI:Sk:=(nS 1 (.seq (nS 1 (.block (.loop [5] [(.int .i64)] (ng 4 22) .leaf))) .leaf))
def Zue (a b K w) (h:B117 a b K w):Zg prog 117 #[xP a,nI b] w K:=cq (sk:=ZxI) h func117
def B51 (f:xA) (j:ByteArray) (K:Value->xE) (w:nW):Prop:=nC 116 #[xZ j] w λ g d=>∃ c a,(g=xR (.tuple #[nI c,nI a]))/\Br (a !=0) (K (.tuple #[nI 0,nI a]) d) (nC 117 #[xP f,nI c] d λ i e=>∃ b,eI i b/\Br (decide (b<0)) (K (.tuple #[nI 0,nI 2]) e) (K (.tuple #[nI b,nI 0]) e))
def ZvV (a b K w) (h:B51 a b K w):Zg prog 51 #[xP a,xZ b] w K:=cq (sk:=.leaf) h func51
def B115 (i:xA) (b:Int) (K:Value->xE) (w:nW):Prop:=Drw w λ g r=>Zb i λ n=>∃ f,fS g n 3 f/\ ((0:Int)<=b)/\ ((b:Int)<=(↑f.cap:Int))/\Zb i λ l=>∃ c,fS g l 3 c/\ ((0:Int)<=wI (b + 1))/\ ((wI (b + 1):Int)<=(↑c.len:Int))/\New (.cells #[] 125 (0,0)) (λ q o=> (g o)/\∃ j d,aP 44 (.slice (some ⟨q,0,none⟩) 0 0) (.slice f.a b.toNat f.cap) o j d/\ (g j)/\∃ k e,aP 44 d.v (.slice (X4 c.a (wI (b + 1)).toNat c.cap 6) (c.len - (wI (b + 1)).toNat) (c.cap - (wI (b + 1)).toNat)) j k e/\ (g k)/\Zb i λ m=>∃ p,(St 44 (nO m 3) (e.v) k p)/\K (.tuple #[]) p) r
def Zug (a b K w) (h:B115 a b K w):Zg prog 115 #[xP a,nI b] w K:=cq (sk:=.leaf) h func115
def B113 (r:xA) (H:Int) (K:Value->xE) (w:nW):Prop:=Zb r λ C=>∃ i,gS w C 2 i/\ (rN H i λ a4=>∃ I J,(Aw w (a4.add (YQ H.toNat 2)) [xP I,xP J])/\New (.cells #[xP none,xP none] 107 (0,0)) (λ g bi=>∃ aw,sT 107 g (.agg #[xP I,xP J]) bi aw/\∃ (p:xE) (a3:World->Nat),(p  aw)/\∀ (bl:Env) u,p u->∃ (m:xA->Bool->xE),(Drw u λ c ay=>∃ n,hP c g 1 n/\∃ s,kP c ⟨g,0,none⟩ s/\ (nC 59 #[xP s] ay λ a8 v=>∃ d,eS a8 d/\ (c v)/\ (nC 192 #[xP n,d.v] v λ a9 az=>∃ L M Z aa ab ac,(a9=xR (.tuple #[.agg #[nI L,nI M,nI Z,nI aa,xF ab],.bool ac]))/\ (c az)/\New (.cells #[nI 0,nI 0,nI 0,nI 0,xF 0] 168 (0,0)) (λ D a0=> (c a0)/\∃ a1,sT 168 D (.agg #[nI L,nI M,nI Z,nI aa,xF ab]) a0 a1/\m (some ⟨D,0,none⟩) ac a1) az)/\New (.cells #[nI 0,nI 0,nI 0,nI 0,xF 0] 168 (0,0)) (λ E a2=> (c a2)/\nC 192 #[xP n,d.v] a2 λ ba ao=>∃ ad ae af ag N O,(ba=xR (.tuple #[.agg #[nI ad,nI ae,nI af,nI ag,xF N],.bool O]))/\ (c ao)/\∃ ap,sT 168 E (.agg #[nI ad,nI ae,nI af,nI ag,xF N]) ao ap/\m (some ⟨E,0,none⟩) O ap) v)/\New (.cells #[nI 0,nI 0,nI 0,nI 0,xF 0] 168 (0,0)) (λ F aq=> (c aq)/\nC 59 #[xP s] aq λ bb ar=>∃ e,eS bb e/\ (c ar)/\nC 192 #[xP n,e.v] ar λ bc au=>∃ Q T U V X Y,(bc=xR (.tuple #[.agg #[nI Q,nI T,nI U,nI V,xF X],.bool Y]))/\ (c au)/\∃ av,sT 168 F (.agg #[nI Q,nI T,nI U,nI V,xF X]) au av/\m (some ⟨F,0,none⟩) Y av) ay)/\∀ (bm:Env) (f:xA) (G:Bool) (k:World),m f G k->Br (!G) (K (.tuple #[]) k) (∃ ah,yP k g 1 ah/\Zb f λ a5=>∃ ai,zI k (a5.add 0) ai/\nC 118 #[xP ah,nI ai] k λ bd l=>∃ bg,eI bd bg/\∃ aj,zP l ⟨g,0,none⟩ aj/\Zb f λ a6=>∃ ak,zI l (a6.add 0) ak/\Zb f λ x=>∃ al,gI l x 1 al/\Zb f λ y=>∃ am,gI l y 2 am/\nC 111 #[xP aj,nI ak,nI al,nI am] l λ be bj=>∃ bh,eI be bh/\Drw bj λ q bk=>Zb r λ z=>∃ j,fS q z 3 j/\Zb f λ a7=>∃ an,kI q (a7.add 0) an/\nC 117 #[xP r,nI an] bk λ bf ax=>∃ o,eI bf o/\ (q ax)/\ (rN o j λ A=>∃ t,(St 3 (nO (A.add (YQ o.toNat 6)) 4) (nI 2) ax t)/\ (p  t)/\a3  t<a3  u))) w)
def ZxK:Sk:=(nS 1 (.block (.loop [] [] (5::6::ng 14 35) (.block (.cut [5,6] [.ptr,.bool] (5::6::ng 14 9) .leaf .leaf)))))
def Zui (a b K w) (h:B113 a b K w):Zg prog 113 #[xP a,nI b] w K:=cq (sk:=ZxK) h func113
def B57 (u:xA) (ad:Int) (K:Value->xE) (w:nW):Prop:=New (.cells #[nI 0,xZ nB,nI 0,nI 0,nI 0,nI 0,nI 0,nV,nV] 33 (0,0)) (λ v Q=>Zb u λ Z=>∃ t,gS Q Z 3 t/\ (rN ad t λ b1=>∃ ae af ag ah ai aj,(Aw Q (b1.add (YQ ad.toNat 6)) [nI ae,nI af,nI ag,nI ah,nI ai,nI aj])/\New (.cells #[nI 0,nI 0,nI 0,nI 0,nI 0,nI 0] 125 (0,0)) (λ d ch=>∃ bt,sT 125 d (.agg #[nI ae,nI af,nI ag,nI ah,nI ai,nI aj]) ch bt/\∃ (A:xA->xE),(Drw bt λ e bu=>Zb u λ aa=>∃ f,fS e aa 2 f/\∃ E,hI e d 1 E/\ (nC 58 #[xP u,nI E] bu λ b7 bv=>∃ F,eI b7 F/\ (e bv)/\ (rN F f λ b2=>∃ ak al,(At e (b2.add (YQ F.toNat 2)) [xP ak,xP al])/\New (.cells #[xP none,xP none] 107 (0,0)) (λ ab bw=> (e bw)/\∃ bx,sT 107 ab (.agg #[xP ak,xP al]) bw bx/\A (some ⟨ab,0,none⟩) bx) bv))/\New (.cells #[xP none,xP none] 107 (0,0)) (λ ac bz=> (e bz)/\nC 58 #[xP u,nI E] bz λ b8 b0=>∃ G,eI b8 G/\ (e b0)/\ (rN G f λ b3=>∃ am an,(At e (b3.add (YQ G.toNat 2)) [xP am,xP an])/\∃ bn,sT 107 ac (.agg #[xP am,xP an]) b0 bn/\A (some ⟨ac,0,none⟩) bn)) bu)/\∀ (cj:Env) (x:xA) (T:World),A x T->∃ ao,zI T ⟨d,0,none⟩ ao/\nC 124 #[nI ao] T λ b9 cf=>∃ H ce,(b9=xR (.tuple #[xZ H,nI ce]))/\Drw cf λ c bo=>∃ I,hI c d 4 I/\∃ J,hI c d 1 J/\∃ L,hI c d 2 L/\∃ M,hI c d 3 M/\∃ N,hI c d 5 N/\Zb x λ b4=>∃ O,kP c (b4.add 0) O/\ (nC 59 #[xP O] bo λ ca bp=>∃ g,eS ca g/\ (c bp)/\New (.cells #[nI 0,xZ nB,nI 0,nI 0,nI 0,nI 0,nI 0,nV,nV] 33 (0,0)) (λ C bq=> (c bq)/\∃ y,sT 33 C (.agg #[nI 0,xZ H,nI I,nI J,nI L,nI M,nI N,g.v,nV]) bq y/\Zb x λ b5=>∃ ap,zP y (b5.add 0) ap/\∃ ar,zI y ⟨d,0,none⟩ ar/\nC 125 #[xP ap,nI ar] y λ cb cg=>∃ j,eS cb j/\∃ U,(St 31 ⟨C,0 + 8,none⟩ (j.v) cg U)/\∃ av aw a3 a4 a5 a6 a7,∃ n o:Sl,(Aw U ⟨C,0,none⟩ [nI av,xZ aw,nI a3,nI a4,nI a5,nI a6,nI a7,n.v,o.v])/\nR v (.agg #[nI av,xZ aw,nI a3,nI a4,nI a5,nI a6,nI a7,n.v,o.v]) U K) bp)/\New (.cells #[nI 0,xZ nB,nI 0,nI 0,nI 0,nI 0,nI 0,nV,nV] 33 (0,0)) (λ D br=> (c br)/\nC 59 #[xP O] br λ cc bs=>∃ i,eS cc i/\ (c bs)/\∃ z,sT 33 D (.agg #[nI 0,xZ H,nI I,nI J,nI L,nI M,nI N,i.v,nV]) bs z/\Zb x λ b6=>∃ aq,zP z (b6.add 0) aq/\∃ au,zI z ⟨d,0,none⟩ au/\nC 125 #[xP aq,nI au] z λ cd ci=>∃ k,eS cd k/\∃ X,(St 31 ⟨D,0 + 8,none⟩ (k.v) ci X)/\∃ a8 ax ay az a0 a1 a2,∃ l m:Sl,(Aw X ⟨D,0,none⟩ [nI a8,xZ ax,nI ay,nI az,nI a0,nI a1,nI a2,l.v,m.v])/\nR v (.agg #[nI a8,xZ ax,nI ay,nI az,nI a0,nI a1,nI a2,l.v,m.v]) X K) bo) Q)) w
def sk57:Sk:=(nS 2 (.cut [6] [.ptr] (6::ng 17 10) .leaf .leaf))
def ZvP (a b K w) (h:B57 a b K w):Zg prog 57 #[xP a,nI b] w K:=cq (sk:=sk57) h func57
def B17 (A:xA) (cc:Int) (cd:ByteArray) (ce cf cg ch:Int) (ci:Nat) (cj:ByteArray) (ck:Int) (H G:Sl) (K:Value->xE) (w:nW):Prop:=New (.cells #[nI cc,xZ cd,nI ce,nI cf,nI cg,nI ch,xF ci,xZ cj,nI ck,H.v,G.v] 40 (0,0)) (λ f cq=>New (.cells #[nI 0,xZ nB,nI 0,nI 0,nI 0,nI 0,nI 0,nV,nV] 33 (0,0)) (λ c b8=>nM b8 ⟨f,0,none⟩ λ v_=>nC 46 #[v_] b8 λ cl F=>∃ Y,eB cl Y/\∃ (T:xE),(Br (!Y) (nR c (.agg #[nI 1,xZ nB,nI 0,nI 0,nI 0,nI 0,nI 0,nV,nV]) F K) (∃ Z,zI F ⟨f,0,none⟩ Z/\Br (Z !=9) (nR c (.agg #[nI 1,xZ nB,nI 0,nI 0,nI 0,nI 0,nI 0,nV,nV]) F K) (T  F)))/\∀ (ct:Env) z,T z->∃ aa,yZ z f 1 aa/\Br (!aa.toList==nB.toList) (∃ ab,yZ z f 1 ab/\nC 51 #[xP A,xZ ab] z λ cm b9=>∃ ac I,(cm=xR (.tuple #[nI ac,nI I]))/\Br (I !=0) (nR c (.agg #[nI I,xZ nB,nI 0,nI 0,nI 0,nI 0,nI 0,nV,nV]) b9 K) (nC 57 #[xP A,nI ac] b9 λ cn cs=>nQ c cn cs K)) (∃ ak,yI z f 2 ak/\nC 58 #[xP A,nI ak] z λ co b6=>∃ e,eI co e/\Br (decide (e<0)) (nR c (.agg #[nI 2,xZ nB,nI 0,nI 0,nI 0,nI 0,nI 0,nV,nV]) b6 K) (Drw b6 λ d cr=>∃ al,hI d f 2 al/\Zb A λ U=>∃ C,fS d U 2 C/\ (rN e C λ ca=>∃ am,kP d ((ca.add (YQ e.toNat 2)).add 0) am/\Zb A λ V=>∃ D,fS d V 2 D/\ (rN e D λ X=>∃ an,kP d (nO (X.add (YQ e.toNat 2)) 1) an/\Zb an λ cb=>∃ E,kS d (cb.add 0) E/\nC 59 #[xP am] cr λ cp b7=>∃ j,eS cp j/\ (d b7)/\nR c (.agg #[nI 0,xZ nB,nI 0,nI al,nI 0,nI ((↑E.len:Int)),nI 0,j.v,nV]) b7 K))))) cq) w
def sk17:Sk:=(nS 2 (.cut [] [] (ng 11 8) .leaf .leaf))
def Zwm (d e f g i j k l m n c b K w) (h:B17 d e f g i j k l m n c b K w):Zg prog 17 #[xP d,.agg #[nI e,xZ f,nI g,nI i,nI j,nI k,xF l,xZ m,nI n,c.v,b.v]] w K:=cq (sk:=sk17) h func17
def B14 (f:xA) (fg:Int) (fh:ByteArray) (fi fj fk fl:Int) (fm:Nat) (fn:ByteArray) (fo:Int) (ag af:Sl) (K:Value->xE) (w:nW):Prop:=New (.cells #[nI fg,xZ fh,nI fi,nI fj,nI fk,nI fl,xF fm,xZ fn,nI fo,ag.v,af.v] 40 (0,0)) (λ e fx=>New (.cells #[nI 0,xZ nB,nI 0,nI 0,nI 0,nI 0,nI 0,nV,nV] 33 (0,0)) (λ c ff=>nM ff ⟨e,0,none⟩ λ v_=>nC 46 #[v_] ff λ fp d=>∃ du,eB fp du/\Br (!du) (nR c (.agg #[nI 1,xZ nB,nI 0,nI 0,nI 0,nI 0,nI 0,nV,nV]) d K) (∃ g,zI d ⟨e,0,none⟩ g/\Br (g==1) (nM d ⟨e,0,none⟩ λ v_=>nC 47 #[xP f,v_] d λ fq f1=>nQ c fq f1 K) (Br (g==2) (nM d ⟨e,0,none⟩ λ v_=>nC 48 #[xP f,v_] d λ fr f2=>nQ c fr f2 K) (Br (g==7) (nM d ⟨e,0,none⟩ λ v_=>nC 49 #[xP f,v_] d λ fs f3=>nQ c fs f3 K) (Br (g==8) (nM d ⟨e,0,none⟩ λ v_=>nC 50 #[xP f,v_] d λ ft fy=>nQ c ft fy K) (Br (g==9) (nM d ⟨e,0,none⟩ λ v_=>nC 17 #[xP f,v_] d λ fu fz=>nQ c fu fz K) (∃ c2,yZ d e 1 c2/\nC 51 #[xP f,xZ c2] d λ fv al=>∃ c3 ah,(fv=xR (.tuple #[nI c3,nI ah]))/\Br (ah !=0) (nR c (.agg #[nI ah,xZ nB,nI 0,nI 0,nI 0,nI 0,nI 0,nV,nV]) al K) (nM al ⟨e,0,none⟩ λ v_=>nC 52 #[xP f,nI c3,v_] al λ fw f0=>nQ c fw f0 K)))))))) fx) w
def Zwo (d e f g i j k l m n c b K w) (h:B14 d e f g i j k l m n c b K w):Zg prog 14 #[xP d,.agg #[nI e,xZ f,nI g,nI i,nI j,nI k,xF l,xZ m,nI n,c.v,b.v]] w K:=cq (sk:=.leaf) h func14
def B47 (g:xA) (bu:Int) (bv:ByteArray) (bw bx bz b0:Int) (b1:Nat) (b2:ByteArray) (b3:Int) (J I:Sl) (K:Value->xE) (w:nW):Prop:=New (.cells #[nI bu,xZ bv,nI bw,nI bx,nI bz,nI b0,xF b1,xZ b2,nI b3,J.v,I.v] 40 (0,0)) (λ j b7=>New (.cells #[nI 0,xZ nB,nI 0,nI 0,nI 0,nI 0,nI 0,nV,nV] 33 (0,0)) (λ e bm=>∃ ae,yI bm j 2 ae/\nC 58 #[xP g,nI ae] bm λ b4 i=>∃ af,eI b4 af/\Br (decide (af >= 0)) (nR e (.agg #[nI 7,xZ nB,nI 0,nI 0,nI 0,nI 0,nI 0,nV,nV]) i K) (Zb g λ Y=>∃ D,gS i Y 2 D/\Br (decide ((↑D.len:Int) >= 8)) (nR e (.agg #[nI 3,xZ nB,nI 0,nI 0,nI 0,nI 0,nI 0,nV,nV]) i K) (∃ ag,yI i j 2 ag/\∃ ah,∃ k:Sl,(Aw i ⟨j,0 + 8,none⟩ [nI ah,k.v])/\∃ l,yS i j 10 l/\nC 109 #[nI ag,.agg #[nI ah,k.v],l.v] i λ b5 bn=>∃ L M,(b5=xR (.tuple #[xP L,nI M]))/\Br (M !=0) (nR e (.agg #[nI M,xZ nB,nI 0,nI 0,nI 0,nI 0,nI 0,nV,nV]) bn K) (∃ (H:Int->xE),(∃ (G:lI) (bo:lJ),(G 0 bn)/\∀ (cb:Env) c V,G c V->Drw V λ A F=>Zb g λ Z=>∃ E,fS A Z 2 E/\Br (decide (c<(↑E.len:Int))) (Zb g λ aa=>∃ C,fS A aa 2 C/\ (rN c C λ bp=>∃ ai,kP A ((bp.add (YQ c.toNat 2)).add 0) ai/\Zb ai λ bq=>∃ aj,kI A (bq.add 0) aj/\∃ ak,hI A j 2 ak/\Br (decide (aj<ak)) ((G (wI (c + 1)) F)/\bo (wI (c + 1)) F<bo c V) (H c F))) (H c F))/\∀ (cc:Env) d bg,H d bg->New (.cells #[] 107 (0,0)) (λ br bh=>Zb g λ ab=>∃ m,gS bh ab 2 m/\ ((0:Int)<=d)/\ ((d:Int)<=(↑m.cap:Int))/\∃ bi n,aP 43 (.slice (some ⟨br,0,none⟩) 0 0) (.slice m.a d.toNat m.cap) bh bi n/\New (.cells #[nV] 109 (0,0)) (λ bs b8=>New (.cells #[xP L,nP bs] 107 (0,0)) (λ bt b9=>∃ N o,aP 43 n.v (.slice (some ⟨bt,0,none⟩) 1 1) b9 N o/\Zb g λ ac=>∃ f,gS N ac 2 f/\ ((0:Int)<=d)/\ ((d:Int)<=(↑f.len:Int))/\∃ bj p,aP 43 o.v (.slice (X4 f.a d.toNat f.cap 2) (f.len - d.toNat) (f.cap - d.toNat)) N bj p/\Zb g λ ad=>∃ bk,(St 43 (nO ad 2) (p.v) bj bk)/\Drw bk λ X ca=>∃ al,hI X j 2 al/\nC 59 #[xP L] ca λ b6 bl=>∃ q,eS b6 q/\ (X bl)/\nR e (.agg #[nI 0,xZ nB,nI 0,nI al,nI 0,nI 0,nI 0,q.v,nV]) bl K) b8) bi) bg)))) b7) w
def sk47:Sk:=(nS 6 (.cut [7] [(.int .i64)] (7::ng 36 25) (.block (.loop [7] [(.int .i64)] (7::ng 36 25) .leaf)) .leaf))
def ZvZ (d e f g i j k l m n c b K w) (h:B47 d e f g i j k l m n c b K w):Zg prog 47 #[xP d,.agg #[nI e,xZ f,nI g,nI i,nI j,nI k,xF l,xZ m,nI n,c.v,b.v]] w K:=cq (sk:=sk47) h func47
def B110 (f:xA) (K:Value->xE) (w:nW):Prop:=Zb f λ e=>∃ b,gS w e 3 b/\Br (decide ((↑b.len:Int) >= 300)) (K (.bool true) w) (Zb f λ d=>∃ g,gI w d 1 g/\K (.bool (decide (g >= 28629151))) w)
def Zul (a K w) (h:B110 a K w):Zg prog 110 #[xP a] w K:=cq (sk:=.leaf) h func110
def B48 (c:xA) (b5:Int) (b6:ByteArray) (b7 b8 b9 ca:Int) (cb:Nat) (cc:ByteArray) (cd:Int) (C A:Sl) (K:Value->xE) (w:nW):Prop:=New (.cells #[nI b5,xZ b6,nI b7,nI b8,nI b9,nI ca,xF cb,xZ cc,nI cd,C.v,A.v] 40 (0,0)) (λ f ci=>New (.cells #[nI 0,xZ nB,nI 0,nI 0,nI 0,nI 0,nI 0,nV,nV] 33 (0,0)) (λ d b0=>∃ ac,yI b0 f 2 ac/\nC 58 #[xP c,nI ac] b0 λ ce cl=>∃ y,eI ce y/\nC 110 #[xP c] cl λ cf b1=>∃ ad,eB cf ad/\Br (decide (y<0)) (nR d (.agg #[nI 2,xZ nB,nI 0,nI 0,nI 0,nI 0,nI 0,nV,nV]) b1 K) (Drw b1 λ Q M=>∃ ae,hI Q f 5 ae/\Zb c λ b2=>∃ af,kI Q (b2.add 0) af/\Br (decide (ae<=af)) (nR d (.agg #[nI 1,xZ nB,nI 0,nI 0,nI 0,nI 0,nI 0,nV,nV]) M K) (Br ad
 (nR d (.agg #[nI 3,xZ nB,nI 0,nI 0,nI 0,nI 0,nI 0,nV,nV]) M K) (Drw M λ g cm=>Zb c λ T=>∃ x,fS g T 2 x/\ (rN y x λ b3=>∃ ag,kP g ((b3.add (YQ y.toNat 2)).add 0) ag/\Zb c λ U=>∃ ah,fI g U 1 ah/\∃ ai,hI g f 3 ai/\∃ aj,hI g f 4 aj/\nC 111 #[xP ag,nI ah,nI ai,nI aj] cm λ cg E=>∃ D,eI cg D/\ (g E)/\Br (D !=0) (nR d (.agg #[nI D,xZ nB,nI 0,nI 0,nI 0,nI 0,nI 0,nV,nV]) E K) (Drw E λ e cj=>Zb c λ V=>∃ i,fS e V 3 i/\Zb c λ X=>∃ ak,fI e X 1 ak/\∃ al,hI e f 2 al/\∃ am,hI e f 3 am/\∃ an,hI e f 4 an/\∃ ao,hI e f 5 ao/\New (.cells #[nI ak,nI al,nI am,nI an,nI 1,nI ao] 125 (0,0)) (λ b4 bz=> (e bz)/\∃ G j,aP 44 i.v (.slice (some ⟨b4,0,none⟩) 1 1) bz G j/\ (e G)/\Zb c λ Y=>∃ H,(St 44 (nO Y 3) (j.v) G H)/\Zb c λ Z=>∃ ap,gI H Z 1 ap/\Zb c λ aa=>∃ I,(St 3 (nO aa 1) (nI (wI (ap + 1))) H I)/\Zb c λ ab=>∃ z,gS I ab 3 z/\nC 57 #[xP c,nI (wI ((↑z.len:Int) - 1))] I λ ch ck=>nQ d ch ck K) cj)))))) ci) w
def ZvY (d e f g i j k l m n c b K w) (h:B48 d e f g i j k l m n c b K w):Zg prog 48 #[xP d,.agg #[nI e,xZ f,nI g,nI i,nI j,nI k,xF l,xZ m,nI n,c.v,b.v]] w K:=cq (sk:=.leaf) h func48
def B49 (c:xA) (cc:Int) (cd:ByteArray) (ce cf cg ch:Int) (ci:Nat) (cj:ByteArray) (ck:Int) (F E:Sl) (K:Value->xE) (w:nW):Prop:=New (.cells #[nI cc,xZ cd,nI ce,nI cf,nI cg,nI ch,xF ci,xZ cj,nI ck,F.v,E.v] 40 (0,0)) (λ f cq=>New (.cells #[nI 0,xZ nB,nI 0,nI 0,nI 0,nI 0,nI 0,nV,nV] 33 (0,0)) (λ d b7=>∃ ag,yI b7 f 2 ag/\nC 58 #[xP c,nI ag] b7 λ cl ct=>∃ g,eI cl g/\nC 110 #[xP c] ct λ cm b8=>∃ ao,eB cm ao/\Br (decide (g<0)) (nR d (.agg #[nI 2,xZ nB,nI 0,nI 0,nI 0,nI 0,nI 0,nV,nV]) b8 K) (Drw b8 λ A O=>∃ ap,hI A f 3 ap/\Zb c λ U=>∃ y,fS A U 2 y/\ (rN g y λ b9=>∃ aq,kP A ((b9.add (YQ g.toNat 2)).add 0) aq/\Zb aq λ V=>∃ D,fS A V 3 D/\Br (decide (ap >= (↑D.len:Int))) (nR d (.agg #[nI 1,xZ nB,nI 0,nI 0,nI 0,nI 0,nI 0,nV,nV]) O K) (Br ao
 (nR d (.agg #[nI 3,xZ nB,nI 0,nI 0,nI 0,nI 0,nI 0,nV,nV]) O K) (Drw O λ e cu=>Zb c λ X=>∃ z,fS e X 2 z/\ (rN g z λ Y=>∃ ar,kP e (nO (Y.add (YQ g.toNat 2)) 1) ar/\Zb c λ Z=>∃ au,fI e Z 1 au/\∃ av,hI e f 3 av/\∃ aw,hI e f 4 aw/\Zb c λ ca=>∃ ax,kI e (ca.add 0) ax/\∃ ay,(At e ⟨f,0 + 6,none⟩ [xF ay])/\nC 112 #[xP ar,.agg #[nI au,nI av,nI aw,nI ax,xF ay]] cu λ cn H=>∃ G,eI cn G/\ (e H)/\Br (G !=0) (nR d (.agg #[nI G,xZ nB,nI 0,nI 0,nI 0,nI 0,nI 0,nV,nV]) H K) (Drw H λ i cr=>Zb c λ aa=>∃ l,fS i aa 3 l/\Zb c λ ab=>∃ az,fI i ab 1 az/\∃ a0,hI i f 2 a0/\∃ a1,hI i f 3 a1/\∃ a2,hI i f 4 a2/\New (.cells #[nI az,nI a0,nI a1,nI a2,nI 3,nI 0] 125 (0,0)) (λ cb b4=> (i b4)/\∃ J m,aP 44 l.v (.slice (some ⟨cb,0,none⟩) 1 1) b4 J m/\ (i J)/\Zb c λ ac=>∃ L,(St 44 (nO ac 3) (m.v) J L)/\Zb c λ ad=>∃ a3,gI L ad 1 a3/\Zb c λ ae=>∃ b5,(St 3 (nO ae 1) (nI (wI (a3 + 1))) L b5)/\nC 113 #[xP c,nI g] b5 λ co b6=>eU co/\Zb c λ af=>∃ C,gS b6 af 3 C/\nC 57 #[xP c,nI (wI ((↑C.len:Int) - 1))] b6 λ cp cs=>nQ d cp cs K) cr))))))) cq) w
def ZvX (d e f g i j k l m n c b K w) (h:B49 d e f g i j k l m n c b K w):Zg prog 49 #[xP d,.agg #[nI e,xZ f,nI g,nI i,nI j,nI k,xF l,xZ m,nI n,c.v,b.v]] w K:=cq (sk:=.leaf) h func49
def B50 (c:xA) (bd:Int) (be:ByteArray) (bf bg bh bi:Int) (bj:Nat) (bk:ByteArray) (bl:Int) (C A:Sl) (K:Value->xE) (w:nW):Prop:=New (.cells #[nI bd,xZ be,nI bf,nI bg,nI bh,nI bi,xF bj,xZ bk,nI bl,C.v,A.v] 40 (0,0)) (λ N br=>New (.cells #[nI 0,xZ nB,nI 0,nI 0,nI 0,nI 0,nI 0,nV,nV] 33 (0,0)) (λ r bt=>Drw bt λ H F=>∃ ai,hI H N 5 ai/\Zb c λ a7=>∃ O,kI H (a7.add 0) O/\Br (decide (ai<O)) (nR r (.agg #[nI 7,xZ nB,nI 0,nI 0,nI 0,nI 0,nI 0,nV,nV]) F K) (∃ Q,yI F N 5 Q/\Zb c λ a8=>∃ a3,(St 3 (a8.add 0) (nI Q) F a3)/\∃ (q:lI) (v:lJ),(q 0 a3)/\∀ (bv:Env) d e,q d e->Zb c λ I=>∃ s,gS e I 3 s/\Br (decide (d<(↑s.len:Int))) (Zb c λ J=>∃ o,gS e J 3 o/\ (rN d o λ a9=>∃ T U V X Y Z,(Aw e (a9.add (YQ d.toNat 6)) [nI T,nI U,nI V,nI X,nI Y,nI Z])/\New (.cells #[nI 0,nI 0,nI 0,nI 0,nI 0,nI 0] 125 (0,0)) (λ n bu=>∃ a4,sT 125 n (.agg #[nI T,nI U,nI V,nI X,nI Y,nI Z]) bu a4/\∃ (y:Bool->xE),(Drw a4 λ z a5=>∃ aa,hI z n 4 aa/\Br (aa==1) (∃ ab,hI z n 5 ab/\Zb c λ ba=>∃ ac,kI z (ba.add 0) ac/\y (decide (ab<=ac)) a5) (y false a5))/\∀ (bw:Env) (ad:Bool) (u:World),y ad u->Br ad
 (Drw u λ f bs=>Zb c λ L=>∃ p,fS f L 2 p/\∃ ae,hI f n 1 ae/\∃ ag,kI f ⟨n,0,none⟩ ag/\nC 58 #[xP c,nI ae] bs λ bm az=>∃ D,eI bm D/\ (f az)/\ (rN D p λ bb=>∃ af,kP f ((bb.add (YQ D.toNat 2)).add 0) af/\nC 114 #[xP af,nI ag] az λ bn a0=>∃ bq,eI bn bq/\ (f a0)/\nC 115 #[xP c,nI d] a0 λ bo a1=>eU bo/\ (q d a1)/\v d a1<v d e)) ((q (wI (d + 1)) u)/\v (wI (d + 1)) u<v d e)) e)) (∃ (x:lI) (a6:lJ),(x 0 e)/\∀ (bx:Env) g m,x g m->Zb c λ M=>∃ t,gS m M 2 t/\Br (decide (g<(↑t.len:Int))) (nC 113 #[xP c,nI g] m λ bp a2=>eU bp/\ (x (wI (g + 1)) a2)/\a6 (wI (g + 1)) a2<a6 g m) (Zb c λ bc=>∃ ah,zI m (bc.add 0) ah/\nR r (.agg #[nI 0,xZ nB,nI 0,nI 0,nI 0,nI 0,nI ah,nV,nV]) m K)))) br) w
def sk50:Sk:=(nS 3 (.seq (nS 1 (.block (.loop [5] [(.int .i64)] (5::6::ng 21 45) (nS 1 (.block (nS 1 (.cut [46] [.bool] (ng 35 12) .leaf .leaf))))))) (.seq (nS 1 (.block (.loop [7] [(.int .i64)] (7::ng 66 12) .leaf))) .leaf)))
def ZvW (d e f g i j k l m n c b K w) (h:B50 d e f g i j k l m n c b K w):Zg prog 50 #[xP d,.agg #[nI e,xZ f,nI g,nI i,nI j,nI k,xF l,xZ m,nI n,c.v,b.v]] w K:=cq (sk:=sk50) h func50
def B52 (f:xA) (e d4:Int) (d5:ByteArray) (d6 d7 d8 d9:Int) (ea:Nat) (eb:ByteArray) (ec:Int) (U T:Sl) (K:Value->xE) (w:nW):Prop:=New (.cells #[nI d4,xZ d5,nI d6,nI d7,nI d8,nI d9,xF ea,xZ eb,nI ec,U.v,T.v] 40 (0,0)) (λ I er=>New (.cells #[nI 0,xZ nB,nI 0,nI 0,nI 0,nI 0,nI 0,nV,nV] 33 (0,0)) (λ d ac=>Zb f λ an=>∃ L,gS ac an 3 L/\ (rN e L λ d2=>∃ bg bh bi bj bk bl,(Aw ac (d2.add (YQ e.toNat 6)) [nI bg,nI bh,nI bi,nI bj,nI bk,nI bl])/\New (.cells #[nI 0,nI 0,nI 0,nI 0,nI 0,nI 0] 125 (0,0)) (λ g ez=>∃ aj,sT 125 g (.agg #[nI bg,nI bh,nI bi,nI bj,nI bk,nI bl]) ez aj/\∃ bm,yI aj g 1 bm/\nC 58 #[xP f,nI bm] aj λ ed ak=>∃ M,eI ed M/\Zb f λ ao=>∃ N,gS ak ao 2 N/\ (rN M N λ d3=>∃ bn bo,(Aw ak (d3.add (YQ M.toNat 2)) [xP bn,xP bo])/\New (.cells #[xP none,xP none] 107 (0,0)) (λ J e0=>∃ c,sT 107 J (.agg #[xP bn,xP bo]) e0 c/\∃ V,zI c ⟨I,0,none⟩ V/\Br (V==3) (∃ bw,yI c g 4 bw/\Br (bw !=1) (nR d (.agg #[nI 7,xZ nB,nI 0,nI 0,nI 0,nI 0,nI 0,nV,nV]) c K) (Zb f λ ap=>∃ O,gS c ap 3 O/\ (rN e O λ aq=>∃ am,(St 3 (nO (aq.add (YQ e.toNat 6)) 4) (nI 2) c am)/\Zb f λ ar=>∃ Q,gS am ar 3 Q/\ (rN e Q λ au=>∃ dx,(St 3 (nO (au.add (YQ e.toNat 6)) 5) (nI 0) am dx)/\nC 57 #[xP f,nI e] dx λ ee es=>nQ d ee es K)))) (Br (V==4) (∃ bx,yI c g 4 bx/\Br (bx==3) (∃ bz,yP c J 1 bz/\∃ b0,zI c ⟨g,0,none⟩ b0/\nC 118 #[xP bz,nI b0] c λ eh et=>∃ ep,eI eh ep/\nC 115 #[xP f,nI e] et λ ei eu=>eU ei/\nC 113 #[xP f,nI M] eu λ ej dy=>eU ej/\∃ b3,yZ dy I 1 b3/\nR d (.agg #[nI 0,xZ b3,nI 0,nI 0,nI 0,nI 0,nI 0,nV,nV]) dy K) (∃ b1,zP c ⟨J,0,none⟩ b1/\∃ b2,zI c ⟨g,0,none⟩ b2/\nC 114 #[xP b1,nI b2] c λ ek ev=>∃ eq,eI ek eq/\nC 115 #[xP f,nI e] ev λ el ew=>eU el/\nC 113 #[xP f,nI M] ew λ em dz=>eU em/\∃ b4,yZ dz I 1 b4/\nR d (.agg #[nI 0,xZ b4,nI 0,nI 0,nI 0,nI 0,nI 0,nV,nV]) dz K)) (∃ bp,yI c g 4 bp/\Br (bp==3) (nR d (.agg #[nI 7,xZ nB,nI 0,nI 0,nI 0,nI 0,nI 0,nV,nV]) c K) (∃ bq,zI c ⟨I,0,none⟩ bq/\Br (bq==5) (∃ br,zP c ⟨J,0,none⟩ br/\∃ bs,zI c ⟨g,0,none⟩ bs/\∃ bt,yZ c I 7 bt/\nC 119 #[xP br,nI bs,xZ bt] c λ en d0=>∃ X,eI en X/\Br (X !=0) (nR d (.agg #[nI X,xZ nB,nI 0,nI 0,nI 0,nI 0,nI 0,nV,nV]) d0 K) (nC 57 #[xP f,nI e] d0 λ eo ex=>nQ d eo ex K)) (∃ bu,zP c ⟨J,0,none⟩ bu/\∃ bv,zI c ⟨g,0,none⟩ bv/\nC 120 #[xP bu,nI bv] c λ ef d1=>∃ Y:Sl,∃ Z,(ef=xR (.tuple #[Y.v,nI Z]))/\Br (Z !=0) (nR d (.agg #[nI Z,xZ nB,nI 0,nI 0,nI 0,nI 0,nI 0,nV,nV]) d1 K) (nC 57 #[xP f,nI e] d1 λ eg ey=>nQ d eg ey K)))))) ak)) ac)) er) w
def ZvU (d o e f g i j k l m n c b K w) (h:B52 d o e f g i j k l m n c b K w):Zg prog 52 #[xP d,nI o,.agg #[nI e,xZ f,nI g,nI i,nI j,nI k,xF l,xZ m,nI n,c.v,b.v]] w K:=cq (sk:=.leaf) h func52
def B19 (d:xA) (K:Value->xE) (w:nW):Prop:=Drw w λ t ba=>Zb d λ az=>∃ aa,kI t (az.add 0) aa/\Zb d λ N=>∃ ab,fI t N 1 ab/\Zb d λ O=>∃ A,fS t O 2 A/\New (.cells #[nI aa,nI ab,nI ((↑A.len:Int))] 3 (0,0)) (λ a0 ar=> (t ar)/\nC 67 #[.slice (some ⟨a0,0,none⟩) 3 3] ar λ a3 au=>∃ C,eS a3 C/\ (t au)/\∃ (I:lK) (av:lL),(I C 0 au)/\∀ (bk:Env) e c i,I e c i->Zb d λ Q=>∃ D,gS i Q 2 D/\Br (decide (c<(↑D.len:Int))) (Zb d λ T=>∃ u,gS i T 2 u/\ (rN c u λ ax=>∃ ac,zP i ((ax.add (YQ c.toNat 2)).add 0) ac/\nC 69 #[xP ac] i λ a4 bg=>∃ m,eS a4 m/\nC 68 #[m.v] bg λ a5 bh=>∃ n,eS a5 n/\∃ H o,aP 47 e.v n.v bh H o/\Zb d λ U=>∃ v,gS H U 2 v/\ (rN c v λ V=>∃ ad,zP H (nO (V.add (YQ c.toNat 2)) 1) ad/\nC 70 #[xP ad] H λ a6 bi=>∃ p,eS a6 p/\nC 68 #[p.v] bi λ a7 bj=>∃ q,eS a7 q/\∃ L x,aP 47 o.v q.v bj L x/\ (I x (wI (c + 1)) L)/\av x (wI (c + 1)) L<av e c i))) (Zb d λ X=>∃ E,gS i X 3 E/\New (.cells #[nI ((↑E.len:Int))] 3 (0,0)) (λ a1 bb=>nC 67 #[.slice (some ⟨a1,0,none⟩) 1 1] bb λ a8 bc=>∃ r,eS a8 r/\∃ aq F,aP 47 e.v r.v bc aq F/\∃ (J:lK) (aw:lL),(J F 0 aq)/\∀ (bl:Env) f k l,J f k l->Zb d λ Y=>∃ G,gS l Y 3 G/\Br (decide (k<(↑G.len:Int))) (Zb d λ Z=>∃ y,gS l Z 3 y/\ (rN k y λ ay=>∃ ae af ag ah ai aj,(Aw l (ay.add (YQ k.toNat 6)) [nI ae,nI af,nI ag,nI ah,nI ai,nI aj])/\New (.cells #[nI 0,nI 0,nI 0,nI 0,nI 0,nI 0] 125 (0,0)) (λ j bd=>∃ g,sT 125 j (.agg #[nI ae,nI af,nI ag,nI ah,nI ai,nI aj]) bd g/\∃ ak,zI g ⟨j,0,none⟩ ak/\∃ al,yI g j 1 al/\∃ am,yI g j 2 am/\∃ an,yI g j 3 an/\∃ ao,yI g j 4 ao/\∃ ap,yI g j 5 ap/\New (.cells #[nI ak,nI al,nI am,nI an,nI ao,nI ap] 3 (0,0)) (λ a2 be=>nC 67 #[.slice (some ⟨a2,0,none⟩) 6 6] be λ a9 bf=>∃ s,eS a9 s/\∃ M z,aP 47 f.v s.v bf M z/\ (J z (wI (k + 1)) M)/\aw z (wI (k + 1)) M<aw f k l) g) l)) (K (f.v) l)) i)) ba
def sk19:Sk:=(nS 2 (.seq (nS 1 (.block (.loop [3,4] [.sl,(.int .i64)] (3::4::ng 22 33) .leaf))) (nS 1 (.seq (nS 1 (.block (.loop [3,5] [.sl,(.int .i64)] (3::5::6::ng 64 32) .leaf))) .leaf))))
def Zwk (a K w) (h:B19 a K w):Zg prog 19 #[xP a] w K:=cq (sk:=sk19) h func19
end
end Go.Proofs.YtlplemdmegpoeaaGreatDoor

namespace Go.Proofs.YtlplemdmegpoeaaGreatDoor
section
open Go Go.VC Tryz
set_option maxRecDepth 10000
def B140 (C D E F:Int) (m:Sl) (K:Value->xE) (w:nW):Prop:=New (.cells #[nI C,nI D,nI E,nI F,m.v] 58 (0,0)) (λ d j=>∃ (o:xE),(∃ y,yI j d 1 y/\∃ A,yI j d 2 A/\∃ p,yI j d 3 p/\New (.cells #[nI y,nI A,nI p] 3 (0,0)) (λ G I=>nC 212 #[.slice (some ⟨G,0,none⟩) 3 3,.func (.func 211) #[] #[]] I λ H k=>∃ q,eB H q/\Br q
 (K (.bool false) k) (∃ g,yS k d 4 g/\Br (decide ((↑g.len:Int)>4000)) (K (.bool false) k) (o  k))) j)/\∀ (J:Env) f,o f->∃ (l:Bool->xE),(∃ r,yI f d 2 r/\Br (r==0) (∃ i,yS f d 4 i/\l ((↑i.len:Int)==0) f) (l false f))/\∀ (L:Env) (n:Bool) (c:World),l n c->∃ e,zI c ⟨d,0,none⟩ e/\Br (e==1) (∃ s,yI c d 1 s/\Br (s==0) (K (.bool n) c) (K (.bool false) c)) (Br (e==2) (∃ t,yI c d 3 t/\K (.bool (t==0)) c) (Br (e==3) (∃ u,yI c d 3 u/\Br (u==0) (K (.bool n) c) (K (.bool false) c)) (Br (e==4) (∃ v,yI c d 1 v/\Br (v==0) (∃ x,yI c d 2 x/\Br (x==0) (∃ z,yI c d 3 z/\K (.bool (z==0)) c) (K (.bool false) c)) (K (.bool false) c)) (K (.bool false) c))))) w
def Zxv:Sk:=(nS 2 (.cut [] [] (2::ng 5 15) .leaf (.cut [4] [.bool] (4::ng 20 9) .leaf .leaf)))
def ZtV (c d e f b K w) (h:B140 c d e f b K w):Zg prog 140 #[.agg #[nI c,nI d,nI e,nI f,b.v]] w K:=cq (sk:=Zxv) h func140
def B211 (a:Int) (K:Value->xE) (w:nW):Prop:=Br (decide (a<0)) (K (.bool true) w) (K (.bool (decide (a>1099511627776))) w)
def Zs4 (a K w) (h:B211 a K w):Zg prog 211 #[nI a] w K:=cq (sk:=.leaf) h func211
def B81 (i:Sl) (K:Value->xE) (w:nW):Prop:=∃ (g:lK) (l:lL),(g ⟨none,0,0⟩ 0 w)/\∀ (q:Env) b c f,g b c f->Br (decide (c<(↑i.len:Int))) ((rN c i λ m=>∃ j,zI f (m.add c.toNat) j/\nC 128 #[.int .u64 (IntKind.u64.wrap (if 0>j then 0 else j))] f λ n p=>∃ d,eS n d/\∃ k e,aP 47 b.v d.v p k e/\ (g e (wI (c + 1)) k)/\l e (wI (c + 1)) k<l b c f)) (K (b.v) f)
def sk81:Sk:=(nS 2 (.seq (nS 1 (.block (.loop [3,8] [.sl,(.int .i64)] (3::5::ng 8 11) .leaf))) .leaf))
def Zvw (b K w) (h:B81 b K w):Zg prog 81 #[b.v] w K:=cq (sk:=sk81) h func81
def B76 (A C D E:Int) (j:Sl) (K:Value->xE) (w:nW):Prop:=New (.cells #[nI A,nI C,nI D,nI E,j.v] 58 (0,0)) (λ c u=>∃ o p q r,∃ i:Sl,(Aw u ⟨c,0,none⟩ [nI o,nI p,nI q,nI r,i.v])/\nC 140 #[.agg #[nI o,nI p,nI q,nI r,i.v]] u λ G v=>∃ s,eB G s/\Br (!s) (K (.tuple #[nV,nI 1]) v) (Drw v λ b L=>∃ t,kI b ⟨c,0,none⟩ t/\∃ l,hI b c 1 l/\∃ m,hI b c 2 m/\∃ n,hI b c 3 n/\∃ e,hS b c 4 e/\New (.cells #[nI t,nI l,nI m,nI n] 3 (0,0)) (λ F x=> (b x)/\nC 81 #[.slice (some ⟨F,0,none⟩) 4 4] x λ H y=>∃ d,eS H d/\ (b y)/\nC 83 #[e.v] y λ I z=>∃ f,eS I f/\ (b z)/\∃ k g,aP 47 d.v f.v z k g/\ (b k)/\K (.tuple #[g.v,nI 0]) k) L)) w
def ZvA (c d e f b K w) (h:B76 c d e f b K w):Zg prog 76 #[.agg #[nI c,nI d,nI e,nI f,b.v]] w K:=cq (sk:=.leaf) h func76
def B92 (c:xA) (K:Value->xE) (w:nW):Prop:=nC 93 #[xP c,.int .u64 1099511627776] w λ b d=>∃ a,(b=xR (.int .u64 a))/\K (nI (wI a)) d
def Zvm (a K w) (h:B92 a K w):Zg prog 92 #[xP a] w K:=cq (sk:=.leaf) h func92
def B71 (m:Sl) (K:Value->xE) (w:nW):Prop:=New (.cells #[nI 0,nI 0,nI 0,nI 0,nV] 58 (0,0)) (λ d aj=>nC 91 #[m.v] aj λ ab ak=>∃ c,(ab=xR (xP c))/\nC 92 #[xP c] ak λ ac al=>∃ Y,eI ac Y/\nC 92 #[xP c] al λ ad am=>∃ s,eI ad s/\nC 92 #[xP c] am λ ae an=>∃ t,eI ae t/\nC 92 #[xP c] an λ af ao=>∃ u,eI af u/\New (.cells #[nI 0,nI 0,nI 0,nI 0,nV] 58 (0,0)) (λ l ap=>∃ aa,sT 58 l (.agg #[nI Y,nI s,nI t,nI u,nV]) ap aa/\nC 94 #[xP c,nI 4000] aa λ ag aq=>∃ e,eS ag e/\∃ Z,(St 47 ⟨l,0 + 4,none⟩ (e.v) aq Z)/\nC 96 #[xP c] Z λ ah n=>∃ v,eB ah v/\Br (!v) (∃ o,sT 58 d (.agg #[nI 0,nI 0,nI 0,nI 0,nV]) n o/\∃ H I O Q,∃ j:Sl,(Aw o ⟨d,0,none⟩ [nI H,nI I,nI O,nI Q,j.v])/\K (.tuple #[.agg #[nI H,nI I,nI O,nI Q,j.v],nI 6]) o) (∃ x y z A,∃ f:Sl,(Aw n ⟨l,0,none⟩ [nI x,nI y,nI z,nI A,f.v])/\nC 140 #[.agg #[nI x,nI y,nI z,nI A,f.v]] n λ ai p=>∃ C,eB ai C/\Br (!C) (∃ q,sT 58 d (.agg #[nI 0,nI 0,nI 0,nI 0,nV]) p q/\∃ T U V X,∃ k:Sl,(Aw q ⟨d,0,none⟩ [nI T,nI U,nI V,nI X,k.v])/\K (.tuple #[.agg #[nI T,nI U,nI V,nI X,k.v],nI 6]) q) (∃ D E F G,∃ g:Sl,(Aw p ⟨l,0,none⟩ [nI D,nI E,nI F,nI G,g.v])/\∃ r,sT 58 d (.agg #[nI D,nI E,nI F,nI G,g.v]) p r/\∃ J L M N,∃ i:Sl,(Aw r ⟨d,0,none⟩ [nI J,nI L,nI M,nI N,i.v])/\K (.tuple #[.agg #[nI J,nI L,nI M,nI N,i.v],nI 0]) r))) ao) w
def ZvE (b K w) (h:B71 b K w):Zg prog 71 #[b.v] w K:=cq (sk:=.leaf) h func71
def B22  (K:Value->xE) (w:nW):Prop:=nC 10 #[] w λ d e=>∃ a,(d=xR (xP a))/\New (.map #[] 0) (λ b f=>New (.cells #[xP a,nI 1,.map ((some b))] 128 (0,0)) (λ c g=>K (nP c) g) f) e
def Zwh  (K w) (h:B22  K w):Zg prog 22 #[] w K:=cq (sk:=.leaf) h func22
def B72 (i:Int) (K:Value->xE) (w:nW):Prop:=New (.cells #[nI 0,nI 0,nI 0,nV] 54 (0,0)) (λ d k=>nT d (.agg #[nI i,nI 0,nI 0,nV]) k K) w
def ZvD (a K w) (h:B72 a K w):Zg prog 72 #[nI a] w K:=cq (sk:=.leaf) h func72
def B23 (J:xA) (V:Sl) (K:Value->xE) (w:nW):Prop:=New (.cells #[nI 0,nI 0,nI 0,nV] 54 (0,0)) (λ d dx=>nC 71 #[V.v] dx λ dl d2=>∃ a7 ba bb bc,∃ j:Sl,∃ X,(dl=xR (.tuple #[.agg #[nI a7,nI ba,nI bb,nI bc,j.v],nI X]))/\New (.cells #[nI 0,nI 0,nI 0,nI 0,nV] 58 (0,0)) (λ c d6=>∃ f,sT 58 c (.agg #[nI a7,nI ba,nI bb,nI bc,j.v]) d6 f/\Br (X !=0) (nC 72 #[nI X] f λ dm d9=>nU d dm d9 K) (∃ bk,zI f ⟨c,0,none⟩ bk/\Br (bk==4) (nC 72 #[nI 1] f λ dp ea=>nU d dp ea K) (∃ bo,zI f ⟨c,0,none⟩ bo/\Br (bo==1) (∃ bp,yI f c 3 bp/\nC 73 #[xP J,nI bp] f λ dq eb=>nU d dq eb K) (Drw f λ Q dy=>Zb J λ ax=>∃ bt:Option Nat,(At Q (nO ax 2) [.map bt])/\∃ bu,hI Q c 1 bu/\∃ e:xA,∃ Y:Bool,(∀ b,Q b->((Instr.lookup 126 (.map bt) (nI bu) true)).run prog b=.ok (.tuple #[xP e,.bool Y]) b)/\∃ (L:Bool->xE),(Drw dy λ T aa=>Br (!Y) (∃ bw,hI T c 1 bw/\Br (decide (bw >= 1)) (∃ bx,hI T c 1 bx/\Zb J λ ay=>∃ bz,fI T ay 1 bz/\L (decide (bx<bz)) aa) (L false aa)) (L false aa))/\∀ (ec:Env) (bv:Bool) (H:World),L bv H->Br bv
 (nC 72 #[nI 10] H λ dr dz=>nU d dr dz K) (Br (!Y) (nC 72 #[nI 2] H λ ds d0=>nU d ds d0 K) (∃ b6,zI H ⟨c,0,none⟩ b6/\Br (b6==3) (Drw H λ an d1=>Zb J λ az=>∃ b7:Option Nat,(At an (nO az 2) [.map b7])/\∃ b8,hI an c 1 b8/\∃ ad:World,((Builtin.delete_ #[126,3] 0 #[.map b7,nI b8]).run prog d1=.ok (.tuple #[]) ad)/\∃ b9,yI ad c 1 b9/\nT d (.agg #[nI 0,nI b9,nI 0,nV]) ad K) (Drw H λ ao dd=>∃ ca,hI ao c 2 ca/\Zb e λ a0=>∃ cb,fI ao a0 1 cb/\Br (decide (ca>wI (cb + 1))) (nC 72 #[nI 7] dd λ dt d3=>nU d dt d3 K) (∃ (O:Bool->xE),(Drw dd λ U de=>∃ cg,hI U c 2 cg/\Zb e λ a1=>∃ ch,fI U a1 1 ch/\Br (decide (cg<ch)) (O true de) (∃ ci,hI U c 2 ci/\O (ci==0) de))/\∀ (ed:Env) (cf:Bool) (ag:World),O cf ag->Br cf
 (nC 72 #[nI 11] ag λ du d4=>nU d du d4 K) (Drw ag λ ap df=>∃ a5,hI ap c 2 a5/\Zb e λ aq=>∃ a6,fI ap aq 1 a6/\Br (decide (a5>a6)) (Drw df λ I d5=>∃ a8,hI I c 2 a8/\∃ i,hS I c 4 i/\Zb J λ dk=>∃ a9,kP I (dk.add 0) a9/\nC 74 #[i.v,.func (.func 12) #[xP a9] #[]] d5 λ dv dg=>∃ k,eS dv k/\ (I dg)/\Zb e λ ar=>∃ ai,(St 3 (nO ar 1) (nI a8) dg ai)/\ (I ai)/\Zb e λ au=>∃ dh,(St 47 (nO au 2) (k.v) ai dh)/\Drw dh λ M d7=>∃ bd,hI M c 1 bd/\∃ bf,hI M c 2 bf/\Zb e λ av=>∃ l,fS M av 2 l/\nC 75 #[l.v] d7 λ dw di=>∃ n,eS dw n/\ (M di)/\nT d (.agg #[nI 0,nI bd,nI bf,n.v]) di K) (Drw df λ N d8=>∃ be,hI N c 1 be/\∃ bg,hI N c 2 bg/\Zb e λ aw=>∃ m,fS N aw 2 m/\nC 75 #[m.v] d8 λ dn dj=>∃ o,eS dn o/\ (N dj)/\nT d (.agg #[nI 0,nI be,nI bg,o.v]) dj K)))))))))) d2) w
def sk23:Sk:=(nS 4 (.seq (.block (.cut [42] [.bool] (ng 42 17) .leaf (.cond .leaf (nS 1 (.cond .leaf (nS 1 (.cond .leaf (nS 1 (.cond .leaf (.cut [87] [.bool] (ng 87 13) .leaf .leaf)))))))))) .leaf))
def Zwg (c b K w) (h:B23 c b K w):Zg prog 23 #[xP c,b.v] w K:=cq (sk:=sk23) h func23
def B73 (d:xA) (T:Int) (K:Value->xE) (w:nW):Prop:=New (.cells #[nI 0,nI 0,nI 0,nV] 54 (0,0)) (λ e ae=>Zb d λ A=>∃ C:Option Nat,(Aw ae (nO A 2) [.map C])/\∃ af:World,∃ k:xA,((Instr.range 126 (.map C)).run prog ae=.ok (xP k) af)/\∃ (m:xE) (ah:World->Nat),(m  af)/\∀ (ap:Env) l,m l->∃ c:World,(((Instr.next (xP k) false 0).run prog l=.ok (.tuple #[.bool false]) c)/\Zb d λ t=>∃ G:Option Nat,(Aw c (nO t 2) [.map G])/\∃ H:Int,(∀ b,(λ b=>b=c) b->((Builtin.len_ #[126] 3 #[.map G])).run prog b=.ok (nI H) b)/\Br (decide (H >= 64)) (nC 72 #[nI 3] c λ ak an=>nU e ak an K) (Drw c λ n ao=>Zb d λ u=>∃ M:Option Nat,(At n (nO u 2) [.map M])/\Zb d λ v=>∃ N,fI n v 1 N/\New (.cells #[nI T,nI 0,nV] 134 (0,0)) (λ aj ag=> (n ag)/\∃ s:World,((Instr.mapUpdate 126 (.map M) (nI N) (nP aj)).run prog ag=.ok () s)/\Zb d λ x=>∃ O,gI s x 1 O/\Zb d λ y=>∃ o,(St 3 (nO y 1) (nI (wI (O + 1))) s o)/\Zb d λ z=>∃ Q,gI o z 1 Q/\nT e (.agg #[nI 0,nI (wI (Q - 1)),nI 0,nV]) o K) ao))\/(∃ al:Value,∃ am:Value,((Instr.next (xP k) false 0).run prog l=.ok (.tuple #[.bool true,al,am]) c)/\∃ D:Int,∃ E:xA,(∀ b,(λ b=>b=c) b->((Instr.entry (xP k))).run prog b=.ok (.tuple #[nI D,xP E]) b)/\Zb E λ ai=>∃ F,zI c (ai.add 0) F/\Br (F==T) (nT e (.agg #[nI 0,nI D,nI 0,nV]) c K) ((m  c)/\ah  c<ah  l))) w
def sk73:Sk:=(nS 1 (.seq (nS 1 (.block (.loop [] [] (5::6::ng 12 13) .leaf))) .leaf))
def ZvC (a b K w) (h:B73 a b K w):Zg prog 73 #[xP a,nI b] w K:=cq (sk:=sk73) h func73
def B74 (l:Sl) (T:Value) (K:Value->xE) (w:nW):Prop:=nC 141 #[l.v] w λ U aa=>∃ G H I J L M N O Q,∃ j i:Sl,∃ m,(U=xR (.tuple #[.agg #[nI G,xZ H,nI I,nI J,nI L,nI M,xF N,xZ O,nI Q,j.v,i.v],nI m]))/\New (.cells #[nI 0,xZ nB,nI 0,nI 0,nI 0,nI 0,xF 0,xZ nB,nI 0,nV,nV] 40 (0,0)) (λ n ab=>∃ k,sT 40 n (.agg #[nI G,xZ H,nI I,nI J,nI L,nI M,xF N,xZ O,nI Q,j.v,i.v]) ab k/\Br (m !=0) (nC 142 #[.agg #[nI m,xZ nB,nI 0,nI 0,nI 0,nI 0,nI 0,nV,nV]] k λ V ac=>∃ b,eS V b/\K (b.v) ac) (∃ o p q r s t u v x,∃ d c:Sl,(Aw k ⟨n,0,none⟩ [nI o,xZ p,nI q,nI r,nI s,nI t,xF u,xZ v,nI x,d.v,c.v])/\XP prog cl T [.agg #[nI o,xZ p,nI q,nI r,nI s,nI t,xF u,xZ v,nI x,d.v,c.v]] k λ X ad=>∃ y z A C D E F,∃ e f:Sl,(X=xR (.agg #[nI y,xZ z,nI A,nI C,nI D,nI E,nI F,e.v,f.v]))/\nC 142 #[.agg #[nI y,xZ z,nI A,nI C,nI D,nI E,nI F,e.v,f.v]] ad λ Y ae=>∃ g,eS Y g/\K (g.v) ae)) aa
def ZqR (b c K w) (h:B74 b c K w):Zg prog 74 #[b.v,c] w K:=cq (sk:=.leaf) h func74
def B28 (s t u:Int) (i:Sl) (v x y:Int) (j:Sl) (K:Value->xE) (w:nW):Prop:=New (.cells #[nI s,nI t,nI u,i.v] 54 (0,0)) (λ f z=>New (.cells #[nI v,nI x,nI y,j.v] 54 (0,0)) (λ g c=>∃ q,zI c ⟨f,0,none⟩ q/\∃ r,zI c ⟨g,0,none⟩ r/\Br (q==r) (∃ k,yI c f 1 k/\∃ l,yI c g 1 l/\Br (k==l) (∃ m,yI c f 2 m/\∃ n,yI c g 2 n/\Br (m==n) (∃ d,yS c f 3 d/\∃ o:ByteArray,(∀ b,(λ b=>b=c) b->((convert 47 9 (d.v))).run prog b=.ok (xZ o) b)/\∃ e,yS c g 3 e/\∃ p:ByteArray,(∀ b,(λ b=>b=c) b->((convert 47 9 (e.v))).run prog b=.ok (xZ p) b)/\K (.bool (o.toList==p.toList)) c) (K (.bool false) c)) (K (.bool false) c)) (K (.bool false) c)) z) w
def Zwc (d e f b g i j c K w) (h:B28 d e f b g i j c K w):Zg prog 28 #[.agg #[nI d,nI e,nI f,b.v],.agg #[nI g,nI i,nI j,c.v]] w K:=cq (sk:=.leaf) h func28
def B24 (k l m n:Int) (d:Sl) (K:Value->xE) (w:nW):Prop:=New (.cells #[nI k,nI l,nI m,nI n,d.v] 58 (0,0)) (λ o j=>∃ e f g i,∃ b:Sl,(Aw j ⟨o,0,none⟩ [nI e,nI f,nI g,nI i,b.v])/\nC 76 #[.agg #[nI e,nI f,nI g,nI i,b.v]] j λ p s=>∃ c:Sl,∃ q,(p=xR (.tuple #[c.v,nI q]))/\K (c.v) s) w
def Zwf (c d e f b K w) (h:B24 c d e f b K w):Zg prog 24 #[.agg #[nI c,nI d,nI e,nI f,b.v]] w K:=cq (sk:=.leaf) h func24
def B20  (K:Value->xE) (w:nW):Prop:=nC 22 #[] w λ o n=>∃ f,(o=xR (xP f))/\Br f.isNone
 (K (.bool false) n) (nC 24 #[.agg #[nI 1,nI 0,nI 0,nI 9,nV]] n λ p r=>∃ b,eS p b/\nC 23 #[xP f,b.v] r λ q s=>∃ k l m,∃ c:Sl,(q=xR (.agg #[nI k,nI l,nI m,c.v]))/\New (.cells #[nI 0,nI 0,nI 0,nV] 54 (0,0)) (λ e t=>∃ d,sT 54 e (.agg #[nI k,nI l,nI m,c.v]) t d/\∃ i,zI d ⟨e,0,none⟩ i/\Br (i==0) (∃ j,yI d e 1 j/\K (.bool (j==1)) d) (K (.bool false) d)) s)
def Zwj  (K w) (h:B20  K w):Zg prog 20 #[] w K:=cq (sk:=.leaf) h func20
def B21 (f:Sl) (K:Value->xE) (w:nW):Prop:=∃ (e:lI) (g:lJ),(e 0 w)/\∀ (k:Env) b c,e b c->Br (decide (b<(↑f.len:Int))) (Br (decide (b<200)) ((rN b f λ i=>∃ d,zS c (i.add b.toNat) d/\Br (decide ((↑d.len:Int)>10000)) (K (.bool true) c) ((e (wI (b + 1)) c)/\g (wI (b + 1)) c<g b c))) (K (.bool false) c)) (K (.bool false) c)
def sk21:Sk:=(nS 1 (.seq (nS 1 (.block (.loop [3] [(.int .i64)] (ng 2 18) .leaf))) .leaf))
def Zwi (b K w) (h:B21 b K w):Zg prog 21 #[b.v] w K:=cq (sk:=sk21) h func21
set_option maxRecDepth 10000
def B26 (p:xA) (K:Value->xE) (w:nW):Prop:=Drw w λ o al=>Zb p λ G=>∃ H,fI o G 1 H/\Zb p λ A=>∃ I:Option Nat,(At o (nO A 2) [.map I])/\∃ J:Int,(∀ b,o b->((Builtin.len_ #[126] 3 #[.map I])).run prog b=.ok (nI J) b)/\New (.cells #[nI H,nI J] 3 (0,0)) (λ ac V=> (o V)/\nC 81 #[.slice (some ⟨ac,0,none⟩) 2 2] V λ ae z=>∃ s,eS ae s/\ (o z)/\Zb p λ C=>∃ L:Option Nat,(Aw z (nO C 2) [.map L])/\nC 82 #[.map L] z λ af ap=>∃ M:Value,(af=xR (M))/\nC 61 #[M] ap λ ag aq=>∃ f,eS ag f/\∃ (v:lK) (Y:lL),(v s 0 aq)/\∀ (av:Env) c e d,v c e d->Br (decide (e<(↑f.len:Int))) ((rN e f λ Z=>∃ x,zI d (Z.add e.toNat) x/\Zb p λ D=>∃ N:Option Nat,(Aw d (nO D 2) [.map N])/\∃ t:xA,(∀ b,(λ b=>b=d) b->((Instr.lookup 126 (.map N) (nI x) false)).run prog b=.ok (xP t) b)/\Drw d λ r ar=>Zb t λ aa=>∃ O,kI r (aa.add 0) O/\Zb t λ E=>∃ Q,fI r E 1 Q/\New (.cells #[nI x,nI O,nI Q] 3 (0,0)) (λ ad au=>nC 81 #[.slice (some ⟨ad,0,none⟩) 3 3] au λ ah X=>∃ g,eS ah g/\ (r X)/\∃ u i,aP 47 c.v g.v X u i/\ (r u)/\Zb t λ F=>∃ j,gS u F 2 j/\nC 83 #[j.v] u λ ai am=>∃ k,eS ai k/\∃ y q,aP 47 i.v k.v am y q/\ (v q (wI (e + 1)) y)/\Y q (wI (e + 1)) y<Y c e d) ar)) (Zb p λ ab=>∃ T,zP d (ab.add 0) T/\nC 18 #[xP T] d λ aj an=>∃ l,eS aj l/\nC 83 #[l.v] an λ ak ao=>∃ m,eS ak m/\∃ U n,aP 47 c.v m.v ao U n/\K (n.v) U)) al
def sk26:Sk:=(nS 2 (.seq (nS 1 (.block (.loop [3,25] [.sl,(.int .i64)] (3::5::6::ng 25 31) .leaf))) .leaf))
def Zwe (a K w) (h:B26 a K w):Zg prog 26 #[xP a] w K:=cq (sk:=sk26) h func26
set_option maxRecDepth 10000
def B31 (ac:xA) (o:Sl) (K:Value->xE) (w:nW):Prop:=New (.cells #[nI 0,nI 0,nI 0,nV] 54 (0,0)) (λ c ad=>nC 71 #[o.v] ad λ Y ae=>∃ E F G H,∃ i:Sl,∃ q,(Y=xR (.tuple #[.agg #[nI E,nI F,nI G,nI H,i.v],nI q]))/\New (.cells #[nI 0,nI 0,nI 0,nI 0,nV] 58 (0,0)) (λ p af=>∃ m,sT 58 p (.agg #[nI E,nI F,nI G,nI H,i.v]) af m/\Br (q !=0) (nC 72 #[nI q] m λ Z ag=>nU c Z ag K) (∃ y,zI m ⟨p,0,none⟩ y/\Br (y !=4) (nC 72 #[nI 1] m λ aa ah=>nU c aa ah K) (Drw m λ n ai=>∃ f,hS n p 4 f/\Zb ac λ X=>∃ D,kP n (X.add 0) D/\nC 74 #[f.v,.func (.func 16) #[xP D] #[]] ai λ ab V=>∃ g,eS ab g/\ (n V)/\nT c (.agg #[nI 0,nI 0,nI 0,g.v]) V K))) ae) w
def Zv9 (c b K w) (h:B31 c b K w):Zg prog 31 #[xP c,b.v] w K:=cq (sk:=.leaf) h func31
set_option maxRecDepth 10000
def B84 (E F G H:Int) (m:Sl) (K:Value->xE) (w:nW):Prop:=New (.cells #[nI E,nI F,nI G,nI H,m.v] 58 (0,0)) (λ d k=>∃ v,yI k d 1 v/\∃ A,yI k d 2 A/\∃ o,yI k d 3 o/\New (.cells #[nI v,nI A,nI o] 3 (0,0)) (λ n I=>∃ (l:lI) (D:lJ),(l 0 I)/\∀ (J:Env) e c,l e c->Br (decide (e<3)) (Rng e 3 (∃ p,zI c (Addr.add ⟨n,0,none⟩ e.toNat) p/\Br (decide (p<0)) (K (.bool false) c) (Rng e 3 (∃ q,zI c (Addr.add ⟨n,0,none⟩ e.toNat) q/\Br (decide (q>1099511627776)) (K (.bool false) c) ((l (wI (e + 1)) c)/\D (wI (e + 1)) c<D e c))))) (∃ g,yS c d 4 g/\Br (decide ((↑g.len:Int)>4000)) (K (.bool false) c) (∃ f,zI c ⟨d,0,none⟩ f/\Br (f==1) (∃ r,yI c d 1 r/\Br (r==0) (∃ s,yI c d 2 s/\Br (s==0) (∃ i,yS c d 4 i/\K (.bool ((↑i.len:Int)==0)) c) (K (.bool false) c)) (K (.bool false) c)) (Br (f==2) (∃ t,yI c d 3 t/\K (.bool (t==0)) c) (Br (f==3) (∃ u,yI c d 2 u/\Br (u==0) (∃ x,yI c d 3 x/\Br (x==0) (∃ j,yS c d 4 j/\K (.bool ((↑j.len:Int)==0)) c) (K (.bool false) c)) (K (.bool false) c)) (Br (f==4) (∃ y,yI c d 1 y/\Br (y==0) (∃ z,yI c d 2 z/\Br (z==0) (∃ C,yI c d 3 C/\K (.bool (C==0)) c) (K (.bool false) c)) (K (.bool false) c)) (K (.bool false) c))))))) k) w
def sk84:Sk:=(nS 2 (.seq (nS 1 (.block (.loop [4] [(.int .i64)] (2::4::ng 12 16) .leaf))) .leaf))
def Zvu (c d e f b K w) (h:B84 c d e f b K w):Zg prog 84 #[.agg #[nI c,nI d,nI e,nI f,b.v]] w K:=cq (sk:=sk84) h func84
def B90 (i:Sl) (K:Value->xE) (w:nW):Prop:=∃ (g:lK) (l:lL),(g ⟨none,0,0⟩ 0 w)/\∀ (q:Env) b c f,g b c f->Br (decide (c<(↑i.len:Int))) ((rN c i λ m=>∃ j,zI f (m.add c.toNat) j/\nC 137 #[.int .u64 (IntKind.u64.wrap (if 0>j then 0 else j))] f λ n p=>∃ d,eS n d/\∃ k e,aP 47 b.v d.v p k e/\ (g e (wI (c + 1)) k)/\l e (wI (c + 1)) k<l b c f)) (K (b.v) f)
def sk90:Sk:=(nS 2 (.seq (nS 1 (.block (.loop [3,4] [.sl,(.int .i64)] (ng 3 17) .leaf))) .leaf))
def Zvo (b K w) (h:B90 b K w):Zg prog 90 #[b.v] w K:=cq (sk:=sk90) h func90
def B27 (n:Sl) (K:Value->xE) (w:nW):Prop:=New (.cells #[nI 0,nI 0,nI 0,nI 0,nV] 58 (0,0)) (λ d ai=>New (.cells #[n.v,nI 0,.bool false] 140 (0,0)) (λ c aj=>nC 77 #[nP c,.int .u64 4] aj λ ab ak=>∃ r,(ab=xR (.int .u64 r))/\nC 77 #[nP c,.int .u64 1099511627776] ak λ ac al=>∃ s,(ac=xR (.int .u64 s))/\nC 77 #[nP c,.int .u64 1099511627776] al λ ad am=>∃ t,(ad=xR (.int .u64 t))/\nC 77 #[nP c,.int .u64 1099511627776] am λ ae an=>∃ u,(ae=xR (.int .u64 u))/\New (.cells #[nI 0,nI 0,nI 0,nI 0,nV] 58 (0,0)) (λ l ao=>∃ aa,sT 58 l (.agg #[nI (wI r),nI (wI s),nI (wI t),nI (wI u),nV]) ao aa/\nC 78 #[nP c,nI 4000] aa λ af ap=>∃ e,eS af e/\∃ Y,(St 47 ⟨l,0 + 4,none⟩ (e.v) ap Y)/\nC 80 #[nP c] Y λ ag Z=>∃ v,eB ag v/\∃ x y z A,∃ f:Sl,(Aw Z ⟨l,0,none⟩ [nI x,nI y,nI z,nI A,f.v])/\nC 84 #[.agg #[nI x,nI y,nI z,nI A,f.v]] Z λ ah m=>∃ D,eB ah D/\Br (!v) (∃ o,sT 58 d (.agg #[nI 0,nI 0,nI 0,nI 0,nV]) m o/\∃ C I O Q,∃ j:Sl,(Aw o ⟨d,0,none⟩ [nI C,nI I,nI O,nI Q,j.v])/\K (.tuple #[.agg #[nI C,nI I,nI O,nI Q,j.v],nI 6]) o) (Br (!D) (∃ p,sT 58 d (.agg #[nI 0,nI 0,nI 0,nI 0,nV]) m p/\∃ T U V X,∃ k:Sl,(Aw p ⟨d,0,none⟩ [nI T,nI U,nI V,nI X,k.v])/\K (.tuple #[.agg #[nI T,nI U,nI V,nI X,k.v],nI 6]) p) (∃ E F G H,∃ g:Sl,(Aw m ⟨l,0,none⟩ [nI E,nI F,nI G,nI H,g.v])/\∃ q,sT 58 d (.agg #[nI E,nI F,nI G,nI H,g.v]) m q/\∃ J L M N,∃ i:Sl,(Aw q ⟨d,0,none⟩ [nI J,nI L,nI M,nI N,i.v])/\K (.tuple #[.agg #[nI J,nI L,nI M,nI N,i.v],nI 0]) q))) an) ai) w
def Zwd (b K w) (h:B27 b K w):Zg prog 27 #[b.v] w K:=cq (sk:=.leaf) h func27
def B29  (K:Value->xE) (w:nW):Prop:=nC 11 #[] w λ c d=>∃ a,(c=xR (xP a))/\New (.cells #[nI 1,nV,xP a] 64 (0,0)) (λ b e=>K (nP b) e) d
def Zwb  (K w) (h:B29  K w):Zg prog 29 #[] w K:=cq (sk:=.leaf) h func29
def B86 (k:xA) (o:Int) (K:Value->xE) (w:nW):Prop:=∃ (g:lI) (m:lJ),(g 0 w)/\∀ (p:Env) c b,g c b->Zb k λ j=>∃ f,gS b j 1 f/\Br (decide (c<(↑f.len:Int))) (Zb k λ i=>∃ d,gS b i 1 d/\ (rN c d λ n=>∃ l,zI b ((n.add (YQ c.toNat 4)).add 0) l/\Br (l==o) (K (nI c) b) ((g (wI (c + 1)) b)/\m (wI (c + 1)) b<m c b))) (K (nI ((-1))) b)
def sk86:Sk:=(nS 1 (.seq (nS 1 (.block (.loop [5] [(.int .i64)] (ng 4 22) .leaf))) .leaf))
def Zvs (b a K w) (h:B86 b a K w):Zg prog 86 #[xP b,nI a] w K:=cq (sk:=sk86) h func86
def B85 (d:xA) (ai aj ak al:Int) (u:Sl) (K:Value->xE) (w:nW):Prop:=New (.cells #[nI ai,nI aj,nI ak,nI al,u.v] 58 (0,0)) (λ L au=>New (.cells #[nI 0,nI 0,nI 0,nV] 54 (0,0)) (λ f av=>∃ (s:lI) (ah:lJ),(s 0 av)/\∀ (ax:Env) c e,s c e->Zb d λ J=>∃ q,gS e J 1 q/\Br (decide (c<(↑q.len:Int))) (Drw e λ t p=>Zb d λ D=>∃ n,fS t D 1 n/\ (rN c n λ E=>∃ M,kI t (nO (E.add (YQ c.toNat 4)) 1) M/\∃ N,hI t L 3 N/\Br (M==N) (Zb d λ F=>∃ o,gS p F 1 o/\ (rN c o λ am=>∃ O,zI p ((am.add (YQ c.toNat 4)).add 0) O/\nT f (.agg #[nI 0,nI O,nI 0,nV]) p K)) ((s (wI (c + 1)) p)/\ah (wI (c + 1)) p<ah c e))) (Zb d λ G=>∃ r,gS e G 1 r/\Br (decide ((↑r.len:Int) >= 64)) (nT f (.agg #[nI 3,nI 0,nI 0,nV]) e K) (Drw e λ m aw=>Zb d λ H=>∃ g,fS m H 1 g/\Zb d λ an=>∃ Q,kI m (an.add 0) Q/\∃ T,hI m L 3 T/\New (.cells #[nI Q,nI T,nI 0,nV] 66 (0,0)) (λ ar ag=> (m ag)/\∃ C i,aP 62 g.v (.slice (some ⟨ar,0,none⟩) 1 1) ag C i/\ (m C)/\Zb d λ I=>∃ v,(St 62 (nO I 1) (i.v) C v)/\Zb d λ ao=>∃ U,zI v (ao.add 0) U/\Zb d λ ap=>∃ x,(St 3 (ap.add 0) (nI (wI (U + 1))) v x)/\Zb d λ aq=>∃ V,zI x (aq.add 0) V/\nT f (.agg #[nI 0,nI (wI (V - 1)),nI 0,nV]) x K) aw))) au) w
def sk85:Sk:=(nS 1 (.seq (nS 1 (.block (.loop [5] [(.int .i64)] (ng 5 30) .leaf))) .leaf))
def Zvt (g c d e f b K w) (h:B85 g c d e f b K w):Zg prog 85 #[xP g,.agg #[nI c,nI d,nI e,nI f,b.v]] w K:=cq (sk:=sk85) h func85
def B87 (C:xA) (d ck cl cm cn:Int) (M:Sl) (K:Value->xE) (w:nW):Prop:=New (.cells #[nI ck,nI cl,nI cm,nI cn,M.v] 58 (0,0)) (λ e cs=>New (.cells #[nI 0,nI 0,nI 0,nV] 54 (0,0)) (λ f T=>Zb C λ ac=>∃ D,gS T ac 1 D/\ (rN d D λ co=>∃ al am an,∃ g:Sl,(Aw T (co.add (YQ d.toNat 4)) [nI al,nI am,nI an,g.v])/\New (.cells #[nI 0,nI 0,nI 0,nV] 66 (0,0)) (λ A c1=>∃ z,sT 66 A (.agg #[nI al,nI am,nI an,g.v]) c1 z/\∃ (Z:xE),(∃ (I:Bool->xE),(∃ ap,yI z e 2 ap/\∃ aq,yI z A 2 aq/\Br (ap==aq) (∃ ar,yI z e 2 ar/\I (ar !=0) z) (I false z))/\∀ (c2:Env) (ao:Bool) (c:World),I ao c->Br ao
 (∃ au,yI c e 1 au/\∃ av,yI c e 2 av/\∃ i,yS c A 3 i/\nT f (.agg #[nI 0,nI au,nI av,i.v]) c K) (∃ aw,yI c e 2 aw/\∃ ax,yI c A 2 ax/\Br (decide (aw<=ax)) (nT f (.agg #[nI 11,nI 0,nI 0,nV]) c K) (∃ ay,yI c e 2 ay/\∃ az,yI c A 2 az/\Br (decide (ay>wI (az + 1))) (nT f (.agg #[nI 7,nI 0,nI 0,nV]) c K) (Z  c))))/\∀ (c3:Env) cj,Z cj->New (.cells #[nI 0,xZ nB,nI 0,nI 0,nI 0,nI 0,nI 0,nV,nV] 33 (0,0)) (λ N ct=>∃ O,sT 33 N (.agg #[nI 6,xZ nB,nI 0,nI 0,nI 0,nI 0,nI 0,nV,nV]) ct O/\∃ j,yS O e 4 j/\nC 88 #[j.v] O λ cp cu=>∃ a0 a1 a3 a4 a5 a6 a7 a8 a9,∃ l k:Sl,∃ a2,(cp=xR (.tuple #[.agg #[nI a0,xZ a1,nI a3,nI a4,nI a5,nI a6,xF a7,xZ a8,nI a9,l.v,k.v],nI a2]))/\New (.cells #[nI 0,xZ nB,nI 0,nI 0,nI 0,nI 0,xF 0,xZ nB,nI 0,nV,nV] 40 (0,0)) (λ ak cv=>∃ Q,sT 40 ak (.agg #[nI a0,xZ a1,nI a3,nI a4,nI a5,nI a6,xF a7,xZ a8,nI a9,l.v,k.v]) cv Q/\∃ (J:xE),(Br (a2==0) (Drw Q λ aa cw=>Zb C λ ad=>∃ ba,fP aa ad 2 ba/\nM2 aa ⟨ak,0,none⟩ λ v_=>nC 14 #[xP ba,v_] cw λ cq cx=>∃ bk bl bm bn bo bp bq,∃ o p:Sl,(cq=xR (.agg #[nI bk,xZ bl,nI bm,nI bn,nI bo,nI bp,nI bq,o.v,p.v]))/\∃ ce,sT 33 N (.agg #[nI bk,xZ bl,nI bm,nI bn,nI bo,nI bp,nI bq,o.v,p.v]) cx ce/\J  ce) (J  Q))/\∀ (c4:Env) cf,J cf->Drw cf λ ab cy=>Zb C λ ae=>∃ E,fS ab ae 1 E/\∃ br,hI ab e 2 br/\ (rN d E λ af=>∃ cg,(St 3 (nO (af.add (YQ d.toNat 4)) 2) (nI br) cy cg)/\Drw cg λ L cz=>Zb C λ ag=>∃ F,fS L ag 1 F/\∃ bs bt bu bv bw bx bz,∃ q r:Sl,(At L ⟨N,0,none⟩ [nI bs,xZ bt,nI bu,nI bv,nI bw,nI bx,nI bz,q.v,r.v])/\nC 89 #[.agg #[nI bs,xZ bt,nI bu,nI bv,nI bw,nI bx,nI bz,q.v,r.v]] cz λ cr ch=>∃ s,eS cr s/\ (L ch)/\ (rN d F λ ah=>∃ ci,(St 47 (nO (ah.add (YQ d.toNat 4)) 3) (s.v) ch ci)/\Drw ci λ H c0=>∃ b0,hI H e 1 b0/\∃ b1,hI H e 2 b1/\Zb C λ ai=>∃ G,fS H ai 1 G/\ (rN d G λ aj=>∃ t,kS H (nO (aj.add (YQ d.toNat 4)) 3) t/\nT f (.agg #[nI 0,nI b0,nI b1,t.v]) c0 K)))) cu) cj) T)) cs) w
def sk87:Sk:=(nS 2 (.cut [] [] (ng 18 33) (.block (.cut [18] [.bool] (ng 18 11) .leaf .leaf)) (nS 2 (.cut [] [] (ng 58 8) .leaf .leaf))))
def Zvr (i g c d e f b K w) (h:B87 i g c d e f b K w):Zg prog 87 #[xP i,nI g,.agg #[nI c,nI d,nI e,nI f,b.v]] w K:=cq (sk:=sk87) h func87
def B30 (i:xA) (E:Sl) (K:Value->xE) (w:nW):Prop:=New (.cells #[nI 0,nI 0,nI 0,nV] 54 (0,0)) (λ c bw=>nC 27 #[E.v] bw λ bs bz=>∃ aa ab ac ad,∃ j:Sl,∃ ae,(bs=xR (.tuple #[.agg #[nI aa,nI ab,nI ac,nI ad,j.v],nI ae]))/\New (.cells #[nI 0,nI 0,nI 0,nI 0,nV] 58 (0,0)) (λ e b1=>∃ g,sT 58 e (.agg #[nI aa,nI ab,nI ac,nI ad,j.v]) b1 g/\Br (ae !=0) (nT c (.agg #[nI 6,nI 0,nI 0,nV]) g K) (∃ F,zI g ⟨e,0,none⟩ F/\Br (F==4) (nT c (.agg #[nI 1,nI 0,nI 0,nV]) g K) (Br (F==1) (∃ af ag ah ai,∃ k:Sl,(Aw g ⟨e,0,none⟩ [nI af,nI ag,nI ah,nI ai,k.v])/\nC 85 #[xP i,.agg #[nI af,nI ag,nI ah,nI ai,k.v]] g λ bt b2=>nU c bt b2 K) (∃ am,yI g e 1 am/\nC 86 #[xP i,nI am] g λ bu C=>∃ d,eI bu d/\Br (decide (d<0)) (Drw C λ D G=>∃ an,hI D e 1 an/\Br (decide (an >= 1)) (∃ ao,hI D e 1 ao/\Zb i λ bq=>∃ ap,kI D (bq.add 0) ap/\Br (decide (ao<ap)) (nT c (.agg #[nI 10,nI 0,nI 0,nV]) G K) (nT c (.agg #[nI 2,nI 0,nI 0,nV]) G K)) (nT c (.agg #[nI 2,nI 0,nI 0,nV]) G K)) (∃ aq,zI C ⟨e,0,none⟩ aq/\Br (aq==3) (Drw C λ A bx=>Zb i λ X=>∃ m,fS A X 1 m/\ ((0:Int)<=d)/\ ((d:Int)<=(↑m.cap:Int))/\Zb i λ Y=>∃ f,fS A Y 1 f/\ ((0:Int)<=wI (d + 1))/\ ((wI (d + 1):Int)<=(↑f.len:Int))/\New (.cells #[] 66 (0,0)) (λ br bp=> (A bp)/\∃ L n,aP 62 (.slice (some ⟨br,0,none⟩) 0 0) (.slice m.a d.toNat m.cap) bp L n/\ (A L)/\∃ M o,aP 62 n.v (.slice (X4 f.a (wI (d + 1)).toNat f.cap 4) (f.len - (wI (d + 1)).toNat) (f.cap - (wI (d + 1)).toNat)) L M o/\ (A M)/\Zb i λ Z=>∃ N,(St 62 (nO Z 1) (o.v) M N)/\∃ ar,yI N e 1 ar/\nT c (.agg #[nI 0,nI ar,nI 0,nV]) N K) bx) (∃ au av aw ax,∃ p:Sl,(Aw C ⟨e,0,none⟩ [nI au,nI av,nI aw,nI ax,p.v])/\nC 87 #[xP i,nI d,.agg #[nI au,nI av,nI aw,nI ax,p.v]] C λ bv b0=>nU c bv b0 K)))))) bz) w
def Zwa (c b K w) (h:B30 c b K w):Zg prog 30 #[xP c,b.v] w K:=cq (sk:=.leaf) h func30
def B32 (bv:xA) (A:Sl) (K:Value->xE) (w:nW):Prop:=New (.cells #[nI 0,nI 0,nI 0,nV] 54 (0,0)) (λ c bw=>nC 27 #[A.v] bw λ bq b3=>∃ N O Q T,∃ d:Sl,∃ U,(bq=xR (.tuple #[.agg #[nI N,nI O,nI Q,nI T,d.v],nI U]))/\New (.cells #[nI 0,nI 0,nI 0,nI 0,nV] 58 (0,0)) (λ C b4=>∃ x,sT 58 C (.agg #[nI N,nI O,nI Q,nI T,d.v]) b4 x/\Br (U !=0) (nT c (.agg #[nI 6,nI 0,nI 0,nV]) x K) (∃ V,zI x ⟨C,0,none⟩ V/\Br (V !=4) (nT c (.agg #[nI 1,nI 0,nI 0,nV]) x K) (New (.cells #[nI 0,xZ nB,nI 0,nI 0,nI 0,nI 0,nI 0,nV,nV] 33 (0,0)) (λ y b5=>∃ I,sT 33 y (.agg #[nI 6,xZ nB,nI 0,nI 0,nI 0,nI 0,nI 0,nV,nV]) b5 I/\∃ e,yS I C 4 e/\nC 88 #[e.v] I λ br b6=>∃ X Y aa ab ac ad ae af ag,∃ g f:Sl,∃ Z,(br=xR (.tuple #[.agg #[nI X,xZ Y,nI aa,nI ab,nI ac,nI ad,xF ae,xZ af,nI ag,g.v,f.v],nI Z]))/\New (.cells #[nI 0,xZ nB,nI 0,nI 0,nI 0,nI 0,xF 0,xZ nB,nI 0,nV,nV] 40 (0,0)) (λ M bx=>∃ z,sT 40 M (.agg #[nI X,xZ Y,nI aa,nI ab,nI ac,nI ad,xF ae,xZ af,nI ag,g.v,f.v]) bx z/\Br (Z==0) (Drw z λ J bz=>Zb bv λ L=>∃ ah,fP J L 2 ah/\nM2 J ⟨M,0,none⟩ λ v_=>nC 17 #[xP ah,v_] bz λ bs b0=>∃ ar au av aw ax ay az,∃ k l:Sl,(bs=xR (.agg #[nI ar,xZ au,nI av,nI aw,nI ax,nI ay,nI az,k.v,l.v]))/\∃ D,sT 33 y (.agg #[nI ar,xZ au,nI av,nI aw,nI ax,nI ay,nI az,k.v,l.v]) b0 D/\nA D ⟨y,0,none⟩ λ v_=>nC 89 #[v_] D λ bt b1=>∃ q,eS bt q/\nT c (.agg #[nI 0,nI 0,nI 0,q.v]) b1 K) (nA z ⟨y,0,none⟩ λ v_=>nC 89 #[v_] z λ bu b2=>∃ r,eS bu r/\nT c (.agg #[nI 0,nI 0,nI 0,r.v]) b2 K)) b6) x))) b3) w
def Zv8 (c b K w) (h:B32 c b K w):Zg prog 32 #[xP c,b.v] w K:=cq (sk:=.leaf) h func32
def B33 (p:xA) (K:Value->xE) (w:nW):Prop:=Drw w λ t ag=>Zb p λ Y=>∃ O,kI t (Y.add 0) O/\Zb p λ C=>∃ u,fS t C 1 u/\New (.cells #[nI O,nI ((↑u.len:Int))] 3 (0,0)) (λ Z T=> (t T)/\nC 90 #[.slice (some ⟨Z,0,none⟩) 2 2] T λ ab U=>∃ v,eS ab v/\ (t U)/\∃ (y:lK) (V:lL),(y v 0 U)/\∀ (an:Env) c e d,y c e d->Zb p λ D=>∃ x,gS d D 1 x/\Br (decide (e<(↑x.len:Int))) (Zb p λ E=>∃ q,gS d E 1 q/\ (rN e q λ X=>∃ G H I,∃ f:Sl,(Aw d (X.add (YQ e.toNat 4)) [nI G,nI H,nI I,f.v])/\New (.cells #[nI 0,nI 0,nI 0,nV] 66 (0,0)) (λ o ak=>∃ s,sT 66 o (.agg #[nI G,nI H,nI I,f.v]) ak s/\∃ J,zI s ⟨o,0,none⟩ J/\∃ L,yI s o 1 L/\∃ M,yI s o 2 M/\New (.cells #[nI J,nI L,nI M] 3 (0,0)) (λ aa al=>nC 90 #[.slice (some ⟨aa,0,none⟩) 3 3] al λ ac am=>∃ g,eS ac g/\∃ A i,aP 47 c.v g.v am A i/\∃ j,yS A o 3 j/\nC 68 #[j.v] A λ ad ah=>∃ k,eS ad k/\∃ z r,aP 47 i.v k.v ah z r/\ (y r (wI (e + 1)) z)/\V r (wI (e + 1)) z<V c e d) s) d)) (Zb p λ F=>∃ N,gP d F 2 N/\nC 19 #[xP N] d λ ae ai=>∃ l,eS ae l/\nC 68 #[l.v] ai λ af aj=>∃ m,eS af m/\∃ Q n,aP 47 c.v m.v aj Q n/\K (n.v) Q)) ag
def sk33:Sk:=(nS 2 (.seq (nS 1 (.block (.loop [3,4] [.sl,(.int .i64)] (3::4::5::ng 17 31) .leaf))) .leaf))
def Zv7 (a K w) (h:B33 a K w):Zg prog 33 #[xP a] w K:=cq (sk:=sk33) h func33
set_option maxRecDepth 10000
def B5 (d:Sl) (K:Value->xE) (w:nW):Prop:=nC 20 #[] w λ a6 bk=>∃ x,eB a6 x/\nC 21 #[d.v] bk λ a7 G=>∃ Q,eB a7 Q/\∃ (I:xE),(Br (!x) (K (.bool x) G) (Br Q
 (K (.bool x) G) (I  G)))/\∀ (bv:Env) a0,I a0->nC 22 #[] a0 λ bc br=>∃ t,(bc=xR (xP t))/\nC 29 #[] br λ bd bs=>∃ u,(bd=xR (xP u))/\∃ (A:lI) (a1:lJ),(A 0 bs)/\∀ (bw:Env) c v,A c v->∃ (J:xE),(Br (decide (c<(↑d.len:Int))) (Br (decide (c<100)) (J  v) (nC 26 #[xP t] v λ be bt=>∃ p,eS be p/\Drw bt λ L bu=>∃ ao:ByteArray,(∀ b,L b->((convert 47 9 (p.v))).run prog b=.ok (xZ ao) b)/\nC 33 #[xP u] bu λ bf H=>∃ r,eS bf r/\ (L H)/\∃ aq:ByteArray,(∀ b,(λ b=>b=H) b->((convert 47 9 (r.v))).run prog b=.ok (xZ aq) b)/\K (.bool (ao.toList==aq.toList)) H)) (nC 26 #[xP t] v λ bg bl=>∃ q,eS bg q/\Drw bl λ M bm=>∃ ap:ByteArray,(∀ b,M b->((convert 47 9 (q.v))).run prog b=.ok (xZ ap) b)/\nC 33 #[xP u] bm λ bh E=>∃ s,eS bh s/\ (M E)/\∃ ar:ByteArray,(∀ b,(λ b=>b=E) b->((convert 47 9 (s.v))).run prog b=.ok (xZ ar) b)/\K (.bool (ap.toList==ar.toList)) E))/\∀ (bx:Env) F,J F-> (rN c d λ a2=>∃ e,zS F (a2.add c.toNat) e/\nC 23 #[xP t,e.v] F λ bi bn=>∃ T U V,∃ f:Sl,(bi=xR (.agg #[nI T,nI U,nI V,f.v]))/\New (.cells #[nI 0,nI 0,nI 0,nV] 54 (0,0)) (λ N bo=>∃ au,sT 54 N (.agg #[nI T,nI U,nI V,f.v]) bo au/\Drw au λ C av=>∃ X Y Z,∃ g:Sl,(At C ⟨N,0,none⟩ [nI X,nI Y,nI Z,g.v])/\ (rN c d λ a3=>∃ i,zS av (a3.add c.toNat) i/\nC 30 #[xP u,i.v] av λ bj aw=>∃ aa ab ac,∃ j:Sl,(bj=xR (.agg #[nI aa,nI ab,nI ac,j.v]))/\ (C aw)/\nC 28 #[.agg #[nI X,nI Y,nI Z,g.v],.agg #[nI aa,nI ab,nI ac,j.v]] aw λ a8 y=>∃ ad,eB a8 ad/\ (C y)/\Br (!ad) (K (.bool false) y) ((rN c d λ a4=>∃ k,zS y (a4.add c.toNat) k/\nC 31 #[xP t,k.v] y λ a9 bp=>∃ ae af ag,∃ l:Sl,(a9=xR (.agg #[nI ae,nI af,nI ag,l.v]))/\New (.cells #[nI 0,nI 0,nI 0,nV] 54 (0,0)) (λ O bq=>∃ ax,sT 54 O (.agg #[nI ae,nI af,nI ag,l.v]) bq ax/\Drw ax λ D ay=>∃ ah ai aj,∃ m:Sl,(At D ⟨O,0,none⟩ [nI ah,nI ai,nI aj,m.v])/\ (rN c d λ a5=>∃ n,zS ay (a5.add c.toNat) n/\nC 32 #[xP u,n.v] ay λ ba az=>∃ ak al am,∃ o:Sl,(ba=xR (.agg #[nI ak,nI al,nI am,o.v]))/\ (D az)/\nC 28 #[.agg #[nI ah,nI ai,nI aj,m.v],.agg #[nI ak,nI al,nI am,o.v]] az λ bb z=>∃ an,eB bb an/\ (D z)/\Br (!an) (K (.bool false) z) ((A (wI (c + 1)) z)/\a1 (wI (c + 1)) z<a1 c v))) bp)))) bn)
def sk5:Sk:=(nS 3 (.cut [] [] (2::ng 15 6) .leaf (nS 2 (.seq (nS 1 (.block (.loop [7] [(.int .i64)] (2::7::8::9::10::ng 23 42) (.cut [] [] (ng 23 8) .leaf (.seq (.block (nS 1 (.seq (.block .leaf) (nS 2 (.seq (.block .leaf) .leaf))))) .leaf))))) (nS 1 (.seq (.block .leaf) .leaf))))))
def Zyc (b K w) (h:B5 b K w):Zg prog 5 #[b.v] w K:=cq (sk:=sk5) h func5
end
section
open Go Go.VC Tryz
variable {R:Cx} {Hs Rest:List HP} {w:World}
def _root_.Go.VC.Sat.re {A:HP} (B:HP) (h:Sat R (A::Hs) w) (e:A=B:=by rfl):Sat R (B::Hs) w:=e ▸ h
abbrev b8 (l:List Int):List Value:=l.map (Value.int .u8)
def ZbX:El prog 47 47 5 1:=⟨underlying47,⟨_,underlying47⟩,by kernel_rfl⟩
def ZjC (xs:List Int):ZN (b8 xs)=true:=by unfold ZN;simp [Value.oneCell']
def Gd {s:Sl} {xs:List Int} (hs:Ro R s (b8 xs)) (hl:xs.length<=1099511627776) (d:Sat R Hs w):
  Zg prog 75 #[.slice s.a s.len s.cap] w λ r w'=>∃ t:Sl,r=.slice t.a t.len t.cap/\Sat R (Own t 5 (b8 xs)::Hs) w':=by
 apply ZvB;refine Br.mk (λ h=>?_) (λ h=>?_)
 ·have i:xs=[]:=by
   by_cases i:b8 xs=[]
   ·simpa using i
   ·obtain ⟨b,off,_,_,_,y,_⟩:=hs.mem i
    rw [y] at h;cases h
  subst i;exact ⟨⟨none,0,0⟩,rfl,Own.nil d⟩
 ·refine Za d λ b w d=>?_
  have v:Sat R (Own ⟨some ⟨b,0,none⟩,0,0⟩ 5 []::Hs) w:=Own.of_pts (xs:=[]) (rest:=[]) d;have o:Src prog 1 47 (.slice s.a s.len s.cap) xs.length (b8 xs) w:=by
   have:=Zmg underlying47 v hs (ZjC xs);simpa using this
  have:=XV (ty:=47) (K:=λ t w'=>∃ u:Sl,Value.slice t.a t.len t.cap=.slice u.a u.len u.cap/\Sat R (Own u 5 (b8 xs)::Hs) w') ZbX v o rfl (by simp;omega) (by simp;omega) λ t w d=>⟨t,rfl,by simpa using d⟩;exact this
def _root_.Go.VC.SlR.mono {h h':Z0} {s:Sl} {xs:List Value} (hs:∀ b o,h b=some o->h' b=some o) (a:SlR h s xs):SlR h' s xs:=
 ⟨a.len,a.cap,λ d=>let ⟨b,off,l,T,fr,i,u,hl⟩:=a.mem d;⟨b,off,l,T,fr,i,hs _ _ u,hl⟩⟩
abbrev Gs:List PanicEntry:=[⟨.iface 274 (.agg #[]),false,false⟩]
def VA {b:Bool} {Q:Ending->xE} (d:b=true->Q (xR (.tuple #[])) w) (o:b=false->Q (.panicked Gs) w):nC 152 #[.bool b] w Q:=by
 have h:XG prog 152 #[.bool b] w (λ i w'=>b=false/\i=Gs/\w'=w) (λ v w'=>b=true/\v=.tuple #[]/\w'=w):=by
  apply ZtN;refine Br.nb (λ h=>?_) (λ h=>?_)
  ·exact ⟨h,rfl,rfl⟩
  ·exact ⟨h,rfl,rfl⟩
 refine h.use ?_ ?_
 ·rintro v w' ⟨a,rfl,e⟩;rw [e];exact d a
 ·rintro v w' ⟨a,rfl,e⟩;rw [e];exact o a
abbrev lp (l:Nat) (s:Sl):HP:=pts l (.cells [.slice s.a s.len s.cap].toArray 47 (0,0))
abbrev WU (s:Sl) (k:Nat):Sl:=⟨X4 s.a k s.cap 1,s.len - k,s.cap - k⟩
def Zb8 {l:Nat} {s:Sl} {xs:List Value} {k:Nat} (o:SlR R.m s xs) (d:Sat R (lp l s::Hs) w):
  XG prog 154 #[nP l,nI k] w
   (λ y w'=>xs.length<k/\y=Gs/\Sat R (lp l s::Hs) w')
   (λ v w'=>k<=xs.length/\v=.slice s.a k s.cap/\Sat R (lp l (WU s k)::Hs) w'):=by
 have i:=o.len;have u:=o.cap;apply ZtL;refine Zb.mk rfl ⟨s,oA d,VA (λ h=>.inl ⟨rfl,?_⟩) (λ h=>.inr ⟨_,rfl,?_⟩)⟩
 ·have h:=qF h
  refine Zb.mk rfl ⟨s,oA d,by omega,by omega,Zb.mk rfl ⟨s,oA d,by omega,by omega,Zb.mk rfl ?_⟩⟩;rw [qo];refine sRu d λ w d=>?_;exact ⟨by omega,rfl,d⟩
 ·have h:=qQ h
  exact ⟨by omega,rfl,d⟩
def Zww:∀ c:Fin 32,ZaH .andNot .u8 ((c.1:Nat):Int) 16=if 16<=((c.1:Nat):Int) then ((c.1:Nat):Int) - 16 else ((c.1:Nat):Int):=by decide +kernel
def andn {c:Int} (h:0<=c) (a:c<32):wI (ZaH .andNot .u8 c 16)=if 16<=c then c - 16 else c:=by
 obtain ⟨n,rfl⟩:=qs h;have:=Zww ⟨n,by omega⟩;simp only at this;rw [this];split<;>exact Zc
def Zra {n t:Int} (d:0<=n) (o:n<72057594037927936) (h:0<=t) (t1:t<256):ZaH .or .u64 (Zqj .u64 n 8) (IntKind.u64.wrap t)=n * 256 + t:=by
 have e:Zqj .u64 n 8=n * 256:=by
  show IntKind.u64.wrap (n * 2 ^ 8)=_;rw [ZM];omega
 rw [e,ZM h (by omega)];obtain ⟨a,rfl⟩:=qs d;obtain ⟨b,rfl⟩:=qs h;have:=ZuS (x:=a * 256) (y:=b) (by omega) (by omega);rw [Zrx a b (by omega)] at this;rw [show ((a * 256:Nat):Int)=(a:Int) * 256 from vD a 256] at this
 rw [this];exact (Int.natCast_add (a * 256) b).trans (by rw [vD];rfl)
abbrev ZhL (c:Int):Nat:=(if 16<=c then c - 16 else c).toNat
def Zej {h:Z0} {l:Nat} {s:Sl} {bs:List Int} (hb:∀ x∈bs,0<=x/\x<256) (E:∀ b o,h b=some o->R.m b=some o) (G:SlR h s (b8 bs)) (u:Sat R (lp l s::Hs) w):
  XG prog 151 #[nP l] w
   (λ ch w'=>Xr bs=none/\ch=Gs/\∃ Q,Sat R (lp l Q::Hs) w')
   (λ v w'=>∃ n H k Q,Xr bs=some (n,H,k)/\v=.tuple #[.int .u64 n,.bool H]/\SlR h Q (b8 (bs.drop k))/\Sat R (lp l Q::Hs) w'):=by
 have C:SlR R.m s (b8 bs):=G.mono E;apply ZtO;refine (Zb8 (k:=1) C u).use ?_ ?_
 rotate_left
 ·rintro _ w ⟨h,rfl,u⟩
  refine .inr ⟨_,rfl,?_,rfl,s,u⟩;cases bs with
  |nil=>rfl
  |cons=>simp at h
 rintro _ w ⟨y,rfl,u⟩;cases bs with
 |nil=>simp at y
 |cons c rest=>
 have hc:=hb c qq;have I:∀ x∈rest,0<=x/\x<256:=λ x f=>hb x (qj _ f);refine .inl ⟨⟨s.a,1,s.cap⟩,rfl,?_⟩;have B:SlR R.m ⟨s.a,1,s.cap⟩ (b8 [c]):=C.take (k:=1) y;have J:SlR R.m (WU s 1) (b8 rest):=C.drop (k:=1) y;have:=SlR.idxK (Hs:=lp l (WU s 1)::Hs) (S:=λ w'=>w'=w) B (eqS u) (k:=0) (by simp) (F:=λ t=>t=c) rfl;obtain ⟨U,A,this⟩:=this.out;obtain ⟨a,V,t,r,rfl⟩:=this.out;refine Rng.mk U A (Zb.mk V ⟨t,r,?_⟩);have X:∀ {p:Prop},¬ p->True:=λ _=>trivial;refine ⟨λ w=>(t<32/\ZhL t<=8/\(ZhL t=0->t=0))/\Sat R (lp l (WU s 1)::Hs) w,?_,?_⟩
 ·have bad:(t<32/\ZhL t<=8/\ZhL t<=rest.length/\(ZhL t=0->t=0)/\(ZhL t≠0->rest.head?≠some 0)->False)->Xr (t::rest)=none:=λ h=>by
   unfold Xr;simp only;rw [qc h]
  refine Br.d (λ h=>?_) (λ h=>?_)
  ·rw [andn hc.1 h]
   refine Br.d (λ h2=>?_) (λ h2=>?_)
   ·refine Br.d (λ g=>?_) (λ g=>?_)
    ·exact VA (λ _=>.inl ⟨rfl,⟨h,by unfold ZhL;omega,λ z=>by unfold ZhL at z;omega⟩,u⟩) (λ h=>by cases h)
    ·refine VA (λ z=>.inl ⟨rfl,⟨h,by unfold ZhL;omega,λ D=>?_⟩,u⟩) (λ z=>.inr ⟨_,rfl,bad ?_,rfl,_,u⟩)
     ·simp only [ge_iff_le,vq,decide_eq_false_iff_not] at z
      rw [qc z] at g;omega
     ·simp only [ge_iff_le,Bool.not_eq_false',qV] at z
      rintro ⟨_,_,_,D,_⟩;rw [qf z] at g;have:=D (by unfold ZhL;rw [qf z];omega);omega
   ·exact VA (λ h=>by cases h) (λ _=>.inr ⟨_,rfl,bad (by rintro ⟨_,g,_⟩;unfold ZhL at g;omega),rfl,_,u⟩)
  ·exact VA (λ h=>by cases h) (λ _=>.inr ⟨_,rfl,bad (by rintro ⟨g,_⟩;exact h g),rfl,_,u⟩)
 clear r V U A;rintro _ w ⟨⟨L,h8,hz⟩,u⟩;rw [andn hc.1 L];have M:(if 16<=t then t - 16 else t)=((ZhL t:Nat):Int):=by
  unfold ZhL;rw [jx];split<;>omega
 rw [M];generalize hW:ZhL t=W at *;refine (Zb8 (k:=W) J u).use ?_ ?_
 rotate_left
 ·rintro _ w ⟨h,rfl,u⟩
  refine .inr ⟨_,rfl,?_,rfl,_,u⟩;unfold Xr;simp only;rw [qc];rintro ⟨_,_,g,_⟩;have:ZhL t<=rest.length:=g;simp at h;omega
 rintro _ w ⟨hl,rfl,u⟩;have hl:W<=rest.length:=by simpa using hl
 have T:SlR R.m ⟨(WU s 1).a,W,(WU s 1).cap⟩ (b8 (rest.take W)):=by have:=J.take (k:=W) (by simpa using hl);rwa [<-jk] at this
 have he:(rest.take W).length=W:=by simp;omega
 refine .inl ⟨⟨(WU s 1).a,W,(WU s 1).cap⟩,rfl,?_⟩;refine ⟨λ n i w=>∃ k:Nat,i=k/\k<=W/\n=Zdk 0 (rest.take k)/\(k≠0->rest.head?≠some 0)/\Sat R (lp l (WU (WU s 1) W)::Hs) w,λ _ i _=>W - i.toNat,⟨0,rfl,jB _,rfl,λ h=>absurd rfl h,u⟩,?_⟩;rintro _ _ _ w ⟨k,rfl,hk,rfl,hh,u⟩;refine Br.d (λ h=>?_) (λ h=>?_)
 ·have hf:k<W:=by have:((k:Nat):Int)<(W:Int):=h;omega
  have N:k<rest.length:=by omega
  have:=SlR.idxK (Hs:=lp l (WU (WU s 1) W)::Hs) (S:=λ w'=>w'=w) T (eqS u) (k:=k) (by omega) (F:=λ t=>t=rest[k]) (by simp);obtain ⟨U,A,this⟩:=this.out;obtain ⟨a,V,x,r,rfl⟩:=this.out;refine Rng.mk U A (Zb.mk V ⟨_,r,?_⟩);have f:=I rest[k] (qh _);have O:∀ x∈rest.take k,0<=x/\x<256:=λ x f=>I x (qw f);have P:=ZeF (acc:=0) (qG _) O;have K:Zdk 0 (rest.take k)<72057594037927936:=by
   refine vI (ZeG (qG _) O) ?_;rw [qd,q7 (by omega),Int.zero_add,zQ];have h9:256 ^ k<=256 ^ 7:=jm (by omega) (by omega);have:((256 ^ k:Nat):Int)<=((256 ^ 7:Nat):Int):=zy.2 h9;rw [vl] at this;exact uu this (by decide)
  have j:∀ w,(rest.head?≠some 0)->Sat R (lp l (WU (WU s 1) W)::Hs) w->
    (∃ Y:Nat,wI ((k:Int) + 1)=Y/\Y<=W/\ZaH .or .u64 (Zqj .u64 (Zdk 0 (rest.take k)) 8) (IntKind.u64.wrap rest[k])=Zdk 0 (rest.take Y)/\(Y≠0->rest.head?≠some 0)/\Sat R (lp l (WU (WU s 1) W)::Hs) w)/\W - (wI ((k:Int) + 1)).toNat<W - (k:Int).toNat:=λ w A u=>by
   rw [Zc];refine ⟨⟨k + 1,by omega,by omega,?_,λ _=>A,u⟩,by omega⟩;rw [Zra P K f.1 f.2,j9 N,GU]
  refine Br.d (λ g=>?_) (λ g=>?_)
  ·exact VA (λ _=>.inl ⟨rfl,j _ (hh (by omega)) u⟩) (λ h=>by cases h)
  ·have h7:k=0:=by omega
   subst h7;have q:rest.head? =some rest[0]:=by rw [List.head?_eq_getElem?,List.getElem?_eq_getElem N]
   refine VA (λ z=>.inl ⟨rfl,j _ ?_ u⟩) (λ z=>.inr ⟨_,rfl,?_,rfl,_,u⟩)
   ·have z:=qF z
    rw [q];intro D;simp only [qM] at D;omega
   ·have z:=qQ z
    unfold Xr;simp only;rw [qc];rintro ⟨_,_,_,_,D⟩;have h6:ZhL t≠0:=by omega
    refine D h6 ?_;rw [q];congr 1;omega
 ·have hd:k=W:=by have:¬ ((k:Nat):Int)<(W:Int):=h;omega
  subst hd;refine ⟨Zdk 0 (rest.take k),decide (t >= 16),k + 1,WU (WU s 1) k,?_,rfl,?_,?_⟩
  ·unfold Xr;simp only
   have e:(if 16<=t then t - 16 else t).toNat=k:=hW
   rw [e,qf ⟨L,h8,hl,hz,hh⟩]
  ·have:=(G.drop (k:=1) y).drop (k:=k) (by simpa using hl)
   simpa using this
  ·exact u
def ZeN (n k:Nat) (hk:k<=64):Zbl .u64 (n:Int) (k:Int)=((n / 2 ^ k:Nat):Int):=by
 have e:min ((k:Int).toNat) IntKind.u64.bits=k:=by rw [qo];exact q7 hk
 unfold Zbl;rw [e,uA _ (by exact Int.le_of_lt (zg (by decide)))];rw [show ((2:Int) ^ k)=((2 ^ k:Nat):Int) from (vl 2 k).symm]
 exact (uQ n (2 ^ k)).symm
def ZxT (n:Nat):Zbl .u64 (n:Int) 32=((n / 4294967296:Nat):Int):=ZeN n 32 (by omega)
def ZxU (n:Nat):Zbl .u64 (n:Int) 16=((n / 65536:Nat):Int):=ZeN n 16 (by omega)
def shr8 (n:Nat):Zbl .u64 (n:Int) 8=((n / 256:Nat):Int):=ZeN n 8 (by omega)
def Zlf {n:Nat} (z:n<18446744073709551616) (a:Sat R Hs w):
  Zg prog 205 #[.int .u64 n] w λ v w'=>v=nI (Lib.bitLen n:Nat)/\Sat R Hs w':=by
 apply Zs5;refine ⟨λ x j w=>∃ m i:Nat,x=m/\j=i/\m<4294967296/\i<=32/\Lib.bitLen n=i + Lib.bitLen m/\Sat R Hs w,?_,?_⟩
 ·refine Br.d (λ h=>?_) (λ h=>?_)
  ·rw [ZxT]
   exact ⟨n / 4294967296,32,rfl,rfl,by omega,by omega,Lib.bitLen_shift32 n (by omega) z,a⟩
  ·exact ⟨n,0,rfl,rfl,by omega,by omega,by omega,a⟩
 rintro _ _ _ w ⟨m,i,rfl,rfl,hm,hi,o,a⟩;refine ⟨λ x j w=>∃ m i:Nat,x=m/\j=i/\m<65536/\i<=48/\Lib.bitLen n=i + Lib.bitLen m/\Sat R Hs w,?_,?_⟩
 ·refine Br.d (λ h=>?_) (λ h=>?_)
  ·rw [ZxU,Zc]
   exact ⟨m / 65536,i + 16,rfl,by omega,by omega,by omega,by have:=Lib.bitLen_shift16 m (by omega) (by omega);omega,a⟩
  ·exact ⟨m,i,rfl,rfl,by omega,by omega,o,a⟩
 clear hm hi o a;rintro _ _ _ w ⟨m,i,rfl,rfl,hm,hi,o,a⟩;refine Br.d (λ h=>?_) (λ h=>?_)
 ·rw [shr8,Zf3 (by omega) (by omega)]
  have y:Lib.bitLen (m / 256)<=8:=Lib.bitLen_le8 ⟨m / 256,by omega⟩;refine ⟨UInt8.ofNat (Lib.bitLen (m / 256)),by omega,?_,?_,a⟩
  ·rw [qo]
   obtain ⟨q,u⟩:∃ q:Fin 256,q.1=m / 256:=⟨⟨m / 256,by omega⟩,rfl⟩;rw [<-u];clear u y a o hi hm h
   revert q
   decide +kernel
  ·have:(UInt8.ofNat (Lib.bitLen (m / 256))).toNat=Lib.bitLen (m / 256):=by simp;omega
   have g:=Lib.bitLen_shift8 m (by omega) (by omega);rw [this,Zc (x:=((Lib.bitLen (m / 256):Nat):Int)) (by omega) (by omega),Zc (x:=(i:Int) + 8),Zc]
   congr 1;omega
 ·rw [Zf3 (by omega) (by omega)]
  have y:Lib.bitLen m<=8:=Lib.bitLen_le8 ⟨m,by omega⟩;refine ⟨UInt8.ofNat (Lib.bitLen m),by omega,?_,?_,a⟩
  ·rw [qo]
   obtain ⟨q,u⟩:∃ q:Fin 256,q.1=m:=⟨⟨m,by omega⟩,rfl⟩;rw [<-u];clear u y a o hi hm h
   revert q
   decide +kernel
  ·have:(UInt8.ofNat (Lib.bitLen m)).toNat=Lib.bitLen m:=by simp;omega
   rw [this,Zc (x:=((Lib.bitLen m:Nat):Int)) (by omega) (by omega),Zc]
   congr 1;omega
def Wo {n:Nat} (i:n<18446744073709551616) (o:Sat R Hs w):
  Zg prog 128 #[.int .u64 n] w λ v w'=>∃ t:Sl,v=.slice t.a t.len t.cap/\Sat R (Own t 5 (b8 (GS n))::Hs) w':=by
 apply Zt3;refine (Zlf i o).use ?_;rintro _ w ⟨rfl,o⟩;refine ⟨_,rfl,?_⟩;have z:=Zob n i;have m:=Zaw i;generalize l:(dig n).length=L at *;have e:wI ((wI (((Lib.bitLen n:Nat):Int) + 7)).tdiv 8)=(L:Int):=by
  rw [Zc (x:=((Lib.bitLen n:Nat):Int) + 7) (by omega) (by omega),j6 (by omega),Zc];omega
 rw [e,Zf3 (by omega) (by omega)];refine Za o λ b w o=>?_;have g:Sat R (Own ⟨some ⟨b,0,none⟩,1,1⟩ 5 (b8 [(L:Int)])::Hs) w:=Own.of_pts (xs:=b8 [(L:Int)]) (rest:=[]) o;refine ⟨λ u out w=>∃ k:Nat,u=k/\k<=L/\Sat R (Own out 5 (b8 ((L:Int)::(dig n).take (L - k)))::Hs) w,λ u _ _=>u.toNat,⟨L,rfl,jc _,by simpa using g⟩,?_⟩;clear o g;rintro _ _ out w ⟨k,rfl,hk,o⟩;refine Br.d (λ h=>?_) (λ h=>?_)
 ·have e1:wI ((k:Int) - 1)=((k - 1:Nat):Int):=by rw [Zc];omega
  have e2:wI (8 * ((k - 1:Nat):Int))=((8 * (k - 1):Nat):Int):=by rw [Zc];omega
  rw [e1,e2,ZeN n _ (by omega)];refine Ge0.mk (by omega) ?_;have hd:=Zsd (n:=n) (k:=k - 1) (by omega);have j:((L:Int)::(dig n).take (L - k)).length<=9:=by simp;omega
  refine Wz ZbX o (ZjC _) rfl (by rw [qa];omega) (by rw [qa];omega) λ t w o=>⟨⟨k - 1,rfl,by omega,?_⟩,by show ((k - 1:Nat):Int).toNat<(k:Int).toNat;omega⟩;have e3:((L:Int)::(dig n).take (L - (k - 1)))=((L:Int)::(dig n).take (L - k))++[IntKind.u8.wrap ((n / 2 ^ (8 * (k - 1)):Nat):Int)]:=by
   have e4:L - (k - 1)=(L - k) + 1:=by omega
   rw [e4,j9 (by omega),qU]
   congr 3
   rw [Zq2,show (2:Nat) ^ (8 * (k - 1))=256 ^ (k - 1) from by rw [Nat.pow_mul],show ((n / 256 ^ (k - 1):Nat):Int) % 256=((n / 256 ^ (k - 1) % 256:Nat):Int) from (zL _ _).symm,<-hd]
   congr 1;omega
  rw [e3];simpa [b8] using o
 ·have y:k=0:=by omega
  subst y;refine ⟨out,rfl,?_⟩;have:(dig n).take (L - 0)=dig n:=qg (by omega);rw [this] at o;unfold GS;rw [l];exact o
abbrev Wm (s:Sl) (bad:Bool):Obj:=.cells [.slice s.a s.len s.cap,.bool bad].toArray 207 (0,0)
def Xl (r:Nat) (rd:Rd):HP:=exs λ s:Sl=>XS [pts r (Wm s rd.bad),Zv s (b8 rd.bs)]
def Sat.rd {r:Nat} {rd:Rd}:Sat R (Xl r rd::Hs) w↔∃ s:Sl,Sat R (pts r (Wm s rd.bad)::Zv s (b8 rd.bs)::Hs) w:=by
 unfold Xl;rw [Sat.exs];exact ⟨λ⟨s,h⟩=>⟨s,Sat.star.1 h⟩,λ⟨s,h⟩=>⟨s,Sat.star.2 h⟩⟩
abbrev ZaF (r:Nat):Obj:=.cells [nP r].toArray 153 (0,0)
def Zqv {a r:Nat} {s:Sl} {bad:Bool} {d:xE} (h:Sat R (pts a (ZaF r)::pts r (Wm s bad)::Hs) w) (k:∀ w,Sat R (pts a (ZaF r)::pts r (Wm s true)::Hs) w->d w):
  Z3 prog 223 [nP a] (.panicking Gs) d w:=by
 unfold Z3;refine CallsD.mono (Zqa (some ⟨a,0,none⟩) (.iface 274 (.agg #[])) d w ?_) ?_
 ·refine ⟨true,λ w' _=>by kernel_rfl,Br.t rfl ?_⟩
  refine Zb.mk rfl ⟨some ⟨r,0,none⟩,oA h,Zb.mk rfl ?_⟩;have h:=h.swap;refine sRu h λ w h=>?_;exact k w h.swap
 ·rintro e v w' ⟨o,rfl,hk⟩
  exact ⟨o,rfl,hk⟩
def ZuZ {a:Nat} {h:xE} (k:h w):Z3 prog 223 [nP a] .returning h w:=by
 unfold Z3;refine CallsD.mono (Zp9 (some ⟨a,0,none⟩) h w ?_) ?_
 ·exact ⟨false,λ w' _=>by kernel_rfl,Br.f rfl k⟩
 ·rintro e v w' ⟨d,rfl,hk⟩
  exact ⟨d,rfl,hk⟩
def Zbq {r:Nat} {rd:Rd} {one:Value} {α:Type} {f:α->List Int} {Hs1:α->List HP} {Hs2:List HP} {G:α->Prop} {N:Prop} (a:Sat R (Xl r rd::Hs) w)
  (g:rd.bad=false->∀ (x:Z0) (l:Nat) (s:Sl) (A B:HP) (w:nW),(∀ b o,x b=some o->(R.add x).m b=some o)->SlR x s (b8 rd.bs)->Sat (R.add x) (lp l s::A::B::Hs) w->
   XP prog cl one [nP l] w λ e w'=>
    (e=xR (.tuple #[])/\∃ y i,G y/\SlR x i (b8 (f y))/\Sat (R.add x) (lp l i::A::B::Hs1 y) w')\/
    (e=.panicked Gs/\N/\∃ i,Sat (R.add x) (lp l i::A::B::Hs2) w')):
  Zg prog 149 #[nP r,one] w λ v w'=>v=.tuple #[]/\
   ((rd.bad=true/\Sat R (Xl r rd::Hs) w')\/(rd.bad=false/\∃ y,G y/\Sat R (Xl r ⟨f y,false⟩::Hs1 y) w')\/(rd.bad=false/\N/\Sat R (Xl r ⟨rd.bs,true⟩::Hs2) w')):=by
 obtain ⟨s,a⟩:=Sat.rd.1 a;apply ZtQ;refine Za a λ z w a=>?_;refine ⟨_,oA a,Zb.mk rfl ?_⟩;refine ⟨_,oA a,VA (λ h=>.inl ⟨rfl,?_⟩) (λ h=>.inr ⟨_,rfl,?_⟩)⟩
 ·have d:rd.bad=false:=by simpa using h
  refine ⟨_,oA a,Zb.mk rfl ?_⟩;refine ⟨_,oA a,?_⟩;refine Za a λ l w a=>?_;have a:Sat R (pts l (.cells [.slice none 0 0].toArray 47 (0,0))::pts z (ZaF r)::pts r (Wm s rd.bad)::Zv s (b8 rd.bs)::Hs) w:=a;refine sRu a λ w a=>?_;have a:Sat R (lp l s::pts z (ZaF r)::pts r (Wm s rd.bad)::Zv s (b8 rd.bs)::Hs) w:=a;have a:=a.m3;obtain ⟨x,hd,_,p,hs⟩:=Zv.lend a;have j:∀ b o,x b=some o->(R.add x).m b=some o:=λ b o n=>by
   have:=hd b (by rw [n];simp);simp only [Cx.add,Z0.add,this,n]
  refine XP.mono (g d x l s _ _ w j hs p) ?_;rintro e w' (⟨rfl,u,i,q,k,a⟩|⟨rfl,t,i,a⟩)
  ·refine .inl ⟨rfl,?_⟩
   have a:Sat (R.add x) (pts z (ZaF r)::pts r (Wm s rd.bad)::lp l i::Hs1 u) w':=a.arr;refine ⟨_,oA a,?_⟩;refine ⟨_,oA a,Zb.mk rfl ?_⟩;have a:Sat (R.add x) (pts r (Wm s rd.bad)::lp l i::pts z (ZaF r)::Hs1 u) w':=a.arr;refine sRu a λ w a=>?_;refine ZuZ ⟨rfl,.inr (.inl ⟨d,u,q,?_⟩)⟩;have a:Sat (R.add x) (pts r (Wm i rd.bad)::lp l i::pts z (ZaF r)::Hs1 u) w:=a;rw [d] at a;have a:Sat (R.add x) (pts r (Wm i false)::Hs1 u) w:=a.cons λ _ h=>h.drop.drop;refine Sat.rd.2 ⟨i,?_⟩;exact (Zv.back hd k a).swap
  ·refine .inr ⟨_,rfl,?_⟩
   have a:Sat (R.add x) (pts z (ZaF r)::pts r (Wm s rd.bad)::lp l i::Hs2) w':=a.arr;refine Zqv a λ w a=>⟨rfl,.inr (.inr ⟨d,t,?_⟩)⟩;have a:Sat (R.add x) (pts r (Wm s true)::Hs2) w:=a.drop.cons λ _ h=>h.drop;refine Sat.rd.2 ⟨s,?_⟩;exact (Zv.back hd hs a).swap
 ·have d:rd.bad=true:=by simpa using h
  have a:Sat R (pts z (ZaF r)::pts r (Wm s rd.bad)::Zv s (b8 rd.bs)::Hs) w:=a;refine Zqv a λ w a=>⟨rfl,.inl ⟨d,?_⟩⟩;rw [<-d] at a;exact Sat.rd.2 ⟨s,a.drop⟩
def XP.mk {g:FuncId} {a:Array Value} {args:List Value} {Q:Ending->xE} (d:cl g=true) (h:Calls prog g (args++a.toList).toArray w Q):XP prog cl (.func (.func g) #[] a) args w Q:=by
 unfold XP;simp only [d];exact h
def Zhp {s:Sl} {bs:List Int} (hs:Ro R s (b8 bs)) (hl:bs.length<=1099511627776) (h:Sat R Hs w):
  Zg prog 91 #[.slice s.a s.len s.cap] w λ v w'=>∃ r,v=nP r/\Sat R (Xl r ⟨bs,false⟩::Hs) w':=by
 apply Zvn;refine (Gd hs hl h).u1 λ t w h=>?_;refine ⟨t,rfl,?_⟩;have h:=Own.reads h;refine Za h λ r w h=>⟨r,rfl,Sat.rd.2 ⟨t,h⟩⟩
def ZdC {r:Nat} {rd:Rd} (a:Sat R (Xl r rd::Hs) w):
  Zg prog 96 #[nP r] w λ v w'=>v=.bool (Xw rd)/\Sat R (Xl r rd::Hs) w':=by
 obtain ⟨s,a⟩:=Sat.rd.1 a;have d:s.len=rd.bs.length:=by
  obtain ⟨x,_,_,_,o⟩:=Zv.lend a.swap;have:=o.len;simpa using this
 apply Zvj;refine Zb.mk rfl ⟨rd.bad,oA a,Br.nb (λ h=>?_) (λ h=>?_)⟩
 ·refine Zb.mk rfl ?_
  refine ⟨s,oA a,?_,Sat.rd.2 ⟨s,a⟩⟩;unfold Xw;rw [h,d]
  congr 1
  simp only [zj,vB];cases rd.bs with
  |nil=>rfl
  |cons=>simp;omega
 ·refine ⟨?_,Sat.rd.2 ⟨s,a⟩⟩
  unfold Xw;rw [h];rfl
def Zne {h:Z0} {l u y:Nat} {s:Sl} {bs:List Int} {most:Int} (q:∀ x∈bs,0<=x/\x<256) (z:∀ b o,h b=some o->R.m b=some o) (r:SlR h s (b8 bs))
  (a:Sat R (lp l s::pts y (.cells [.int .u64 0].toArray 141 (0,0))::pts u (.cells [.int .u64 most].toArray 141 (0,0))::Hs) w):
  XG prog 150 #[nP l,nP u,nP y] w
   (λ t w'=>t=Gs/\(∀ n k,Xr bs=some (n,false,k)->¬ n<=most)/\∃ i,Sat R (lp l i::pts y (.cells [.int .u64 0].toArray 141 (0,0))::pts u (.cells [.int .u64 most].toArray 141 (0,0))::Hs) w')
   (λ v w'=>v=.tuple #[]/\∃ n k i,Xr bs=some (n,false,k)/\n<=most/\SlR h i (b8 (bs.drop k))/\
    Sat R (lp l i::pts y (.cells [.int .u64 n].toArray 141 (0,0))::pts u (.cells [.int .u64 most].toArray 141 (0,0))::Hs) w'):=by
 apply ZtP;refine (Zej q z r a).use ?_ ?_
 rotate_left
 ·rintro _ w ⟨g,rfl,i,a⟩
  refine .inr ⟨_,rfl,rfl,?_,i,a⟩;intro n k h;rw [g] at h;cases h
 rintro _ w ⟨n,j,k,i,g,rfl,p,a⟩;refine .inl ⟨n,j,rfl,Br.nb (λ h=>?_) (λ h=>?_)⟩
 ·subst h
  have e:Sat R (pts u (.cells [.int .u64 most].toArray 141 (0,0))::lp l i::pts y (.cells [.int .u64 0].toArray 141 (0,0))::Hs) w:=a.arr;refine Zb.mk rfl ?_;refine ⟨most,oA a,VA (λ h=>.inl ⟨rfl,?_⟩) (λ h=>.inr ⟨_,rfl,rfl,?_,i,a⟩)⟩
  ·have h:=qF h
   have a:Sat R (pts y (.cells [.int .u64 0].toArray 141 (0,0))::lp l i::pts u (.cells [.int .u64 most].toArray 141 (0,0))::Hs) w:=a.swap;refine sRu a λ w a=>?_;exact ⟨rfl,n,k,i,g,h,p,a.swap⟩
  ·have h:=qQ h
   intro n' k' d;rw [g] at d;simp only [qM,jY,zi] at d;rw [<-d.1];exact h
 ·subst h
  refine VA (λ h=>by cases h) (λ _=>.inr ⟨_,rfl,rfl,?_,i,a⟩);intro n' k' d;rw [g] at d;simp at d
def Zcp {r:Nat} {rd:Rd} {most:Int} (b:∀ x∈rd.bs,0<=x/\x<256) (a:Sat R (Xl r rd::Hs) w):
  Zg prog 93 #[nP r,.int .u64 most] w λ v w'=>v=.int .u64 (Zh most rd).1/\Sat R (Xl r (Zh most rd).2::Hs) w':=by
 apply Zvl;refine Za a λ i w a=>Za a λ o w a=>?_;have a:Sat R (pts o (.cells [.int .u64 0].toArray 141 (0,0))::pts i (.cells [.int .u64 most].toArray 141 (0,0))::Xl r rd::Hs) w:=a;refine sRu a λ w a=>?_;have a:=a.re (pts o (.cells [.int .u64 0].toArray 141 (0,0)));have a:=a.m2;refine (Zbq (α:=Int × Nat) (f:=λ y=>rd.bs.drop y.2) (G:=λ y=>Xr rd.bs=some (y.1,false,y.2)/\y.1<=most) (N:=∀ n k,Xr rd.bs=some (n,false,k)->¬ n<=most)
  (Hs1:=λ y=>pts o (.cells [.int .u64 y.1].toArray 141 (0,0))::pts i (.cells [.int .u64 most].toArray 141 (0,0))::Hs)
  (Hs2:=pts o (.cells [.int .u64 0].toArray 141 (0,0))::pts i (.cells [.int .u64 most].toArray 141 (0,0))::Hs) a ?_).use ?_
 ·intro _ x l s A B w u hs a
  refine XP.mk (by kernel_rfl) ?_;have j:Sat (R.add x) (lp l s::pts o (.cells [.int .u64 0].toArray 141 (0,0))::pts i (.cells [.int .u64 most].toArray 141 (0,0))::A::B::Hs) w:=a.arr;refine (Zne (h:=x) b u hs j).use ?_ ?_
  ·rintro _ w ⟨rfl,n,k,m,z,g,q,a⟩
   exact .inl ⟨rfl,(n,k),m,⟨z,g⟩,q,a.arr⟩
  ·rintro _ w ⟨rfl,g,m,a⟩
   exact .inr ⟨rfl,g,m,a.arr⟩
 ·rintro _ w ⟨rfl,h⟩
  refine ⟨rfl,?_⟩;rcases h with ⟨d,a⟩|⟨d,⟨n,k⟩,⟨z,g⟩,a⟩|⟨d,t,a⟩
  ·have a:Sat R (pts o (.cells [.int .u64 0].toArray 141 (0,0))::Xl r rd::pts i (.cells [.int .u64 most].toArray 141 (0,0))::Hs) w:=a.swap
   refine ⟨0,oA a,?_⟩;unfold Zh;rw [qf d];exact ⟨rfl,a.drop.cons λ _ h=>h.drop⟩
  ·have a:Sat R (pts o (.cells [.int .u64 n].toArray 141 (0,0))::Xl r ⟨rd.bs.drop k,false⟩::pts i (.cells [.int .u64 most].toArray 141 (0,0))::Hs) w:=a.swap
   refine ⟨n,oA a,?_⟩;unfold Zh;rw [qc (by rw [d];simp),z];simp only;rw [qf (by simpa using g)];exact ⟨rfl,a.drop.cons λ _ h=>h.drop⟩
  ·have a:Sat R (pts o (.cells [.int .u64 0].toArray 141 (0,0))::Xl r ⟨rd.bs,true⟩::pts i (.cells [.int .u64 most].toArray 141 (0,0))::Hs) w:=a.swap
   refine ⟨0,oA a,?_⟩;have e:Zh most rd=(0,⟨rd.bs,true⟩):=by
    unfold Zh;rw [qc (by rw [d];simp)];cases z:Xr rd.bs with
    |none=>rfl
    |some p=>
     obtain ⟨n,c,k⟩:=p;simp only;rw [qc];rintro ⟨rfl,h⟩;exact t n k z h
   rw [e];exact ⟨rfl,a.drop.cons λ _ h=>h.drop⟩
def Zo {most:Int} {rd:Rd} (h:∀ x∈rd.bs,0<=x/\x<256):∀ x∈(Zh most rd).2.bs,0<=x/\x<256:=by
 unfold Zh;split
 ·exact h
 ·split
  ·split
   ·exact λ x a=>h x (jn a)
   ·exact h
  ·exact h
def ZG {most:Int} {rd:Rd} (a:∀ x∈rd.bs,0<=x/\x<256) (hm:0<=most):0<=(Zh most rd).1/\(Zh most rd).1<=most:=by
 unfold Zh;split
 ·exact ⟨qG _,hm⟩
 ·split
  ·rename_i n neg k d
   split
   ·rename_i h;exact ⟨(UZ a d).1,h.2⟩
   ·exact ⟨qG _,hm⟩
  ·exact ⟨qG _,hm⟩
def U6 {s:Sl} {bs:List Int} (hs:Ro R s (b8 bs)) (hl:bs.length<=1099511627776) (d:Sat R Hs w):
  Zg prog 83 #[.slice s.a s.len s.cap] w λ v w'=>∃ t:Sl,v=.slice t.a t.len t.cap/\Sat R (Own t 5 (b8 (XI bs))::Hs) w':=by
 have h:s.len=bs.length:=by have:=hs.len;simpa using this
 apply Zvv;unfold B83;rw [ZM,h];refine (Wo (by omega) d).u1 λ t w d=>?_;refine ⟨t,rfl,?_⟩;rw [<-h];have u:=YS (n:=bs.length) (by omega);have o:Src prog 1 47 (.slice s.a s.len s.cap) bs.length (b8 bs) w:=by
  have:=Zmg underlying47 d hs (ZjC _);simpa using this
 refine XV ZbX (s:=t) d o (ZjC _) (by rw [qa];omega) (by rw [qa];omega) λ i w d=>?_;exact ⟨i,rfl,by simpa [b8,XI] using d⟩
def Zko {h:Z0} {l q j:Nat} {s:Sl} {bs:List Int} {most:Int} (hm:most<9223372036854775808) (hl:bs.length<=1099511627776) (I:∀ x∈bs,0<=x/\x<256) (g:∀ b o,h b=some o->R.m b=some o) (L:SlR h s (b8 bs))
  (u:Sat R (lp l s::lp j ⟨none,0,0⟩::pts q (.cells [nI most].toArray 3 (0,0))::Hs) w):
  XG prog 153 #[nP l,nP q,nP j] w
   (λ F w'=>F=Gs/\(∀ n k,Xr bs=some (n,false,k)->¬ (0<=most/\n<=most/\n<=(bs.length:Int) - k))/\∃ i,Sat R (lp l i::lp j ⟨none,0,0⟩::pts q (.cells [nI most].toArray 3 (0,0))::Hs) w')
   (λ v w'=>v=.tuple #[]/\∃ n k i t,Xr bs=some (n,false,k)/\(0<=most/\n<=most/\n<=(bs.length:Int) - k)/\SlR h i (b8 (bs.drop (k + n.toNat)))/\
    Sat R (lp l i::lp j t::Own t 5 (b8 ((bs.drop k).take n.toNat))::pts q (.cells [nI most].toArray 3 (0,0))::Hs) w'):=by
 apply ZtM;refine (Zej I g L u).use ?_ ?_
 rotate_left
 ·rintro _ w ⟨f,rfl,i,u⟩
  refine .inr ⟨_,rfl,rfl,?_,i,u⟩;intro n k h;rw [f] at h;cases h
 rintro _ w ⟨n,c,k,i,f,rfl,p,u⟩;obtain ⟨M,Q,U,V,W⟩:=UZ I f;have no:(∀ y z,Xr bs=some (y,false,z)->¬ (0<=most/\y<=most/\y<=(bs.length:Int) - z))->∀ {A:Prop} {e:Ending},(e=.panicked Gs)->(e=xR (.tuple #[])/\A)\/∃ F,e=.panicked F/\F=Gs/\(∀ n k,Xr bs=some (n,false,k)->¬ (0<=most/\n<=most/\n<=(bs.length:Int) - k))/\∃ i,Sat R (lp l i::lp j ⟨none,0,0⟩::pts q (.cells [nI most].toArray 3 (0,0))::Hs) w:=λ h A e N=>
  .inr ⟨_,N,rfl,h,i,u⟩
 have same:∀ y z,Xr bs=some (y,false,z)->c=false/\y=n/\z=k:=λ y z h=>by
  rw [f] at h;simp only [qM,jY] at h;exact ⟨h.2.1,h.1.symm,h.2.2.symm⟩
 refine .inl ⟨n,c,rfl,Br.nb (λ h=>?_) (λ h=>?_)⟩
 rotate_left
 ·refine VA (λ h=>by cases h) (λ _=>no (λ y z h'=>?_) rfl)
  rw [(same y z h').1] at h;cases h
 subst h;have D:Sat R (pts q (.cells [nI most].toArray 3 (0,0))::lp l i::lp j ⟨none,0,0⟩::Hs) w:=u.arr;refine Zb.mk rfl ⟨most,At.own (eqS D) (by exact ⟨rfl,trivial⟩),Br.d (λ O=>?_) (λ O=>?_)⟩
 rotate_left
 ·refine VA (λ h=>by cases h) (λ _=>no (λ y z h' G=>by omega) rfl)
 refine Zb.mk rfl ⟨most,At.own (eqS D) (by exact ⟨rfl,trivial⟩),?_⟩;rw [ZM];refine Br.d (λ G=>?_) (λ G=>?_)
 rotate_left
 ·refine VA (λ h=>by cases h) (λ _=>no (λ y z h' r=>by have:=(same y z h').2.1;omega) rfl)
 have H:i.len=bs.length - k:=by have:=p.len;simpa using this
 refine Zb.mk rfl ⟨i,oA u,?_⟩;rw [ZM,H];refine VA (λ r=>.inl ⟨rfl,?_⟩) (λ r=>?_)
 rotate_left
 ·have r:=qQ r
  refine no (λ y z h' J=>?_) rfl;have:=same y z h';omega
 have r:=qF r;rw [Zc];obtain ⟨m,rfl⟩:=qs M;have E:SlR R.m i (b8 (bs.drop k)):=p.mono g;refine (Zb8 (k:=m) E u).use ?_ ?_
 rotate_left
 ·rintro _ w ⟨J,_⟩
  simp at J;omega
 rintro _ w ⟨_,rfl,u⟩;refine .inl ⟨⟨i.a,m,i.cap⟩,rfl,?_⟩;have ht:SlR R.m ⟨i.a,m,i.cap⟩ (b8 ((bs.drop k).take m)):=by
  have:=E.take (k:=m) (by simp;omega);rwa [<-jk] at this
 refine (Gd (s:=⟨i.a,m,i.cap⟩) (ht.ro (by simp;omega)) (by simp;omega) u).u1 λ t w u=>?_;refine .inl ⟨t,rfl,?_⟩;have u:=u.m2;refine sRu u λ w u=>?_;have u:=u.re (lp j t);refine ⟨rfl,m,k,WU i m,t,f,⟨by omega,G,by omega⟩,?_,?_⟩
 ·have:=p.drop (k:=m) (by simp;omega)
  rw [<-jo,jE] at this;exact this
 ·rw [qo];exact u.arr
def ZdN {r:Nat} {rd:Rd} {most:Int} (hm:most<9223372036854775808) (hl:rd.bs.length<=1099511627776) (D:∀ x∈rd.bs,0<=x/\x<256) (d:Sat R (Xl r rd::Hs) w):
  Zg prog 94 #[nP r,nI most] w λ v w'=>∃ t:Sl,v=.slice t.a t.len t.cap/\Sat R (Own t 5 (b8 (Yn most rd).1)::Xl r (Yn most rd).2::Hs) w':=by
 apply Zvk;refine Za d λ i w d=>Za d λ u w d=>?_;have d:Sat R (Xl r rd::lp u ⟨none,0,0⟩::pts i (.cells [nI most].toArray 3 (0,0))::Hs) w:=by
  have d:Sat R (lp u ⟨none,0,0⟩::pts i (.cells [nI most].toArray 3 (0,0))::Xl r rd::Hs) w:=d;exact d.arr
 refine (Zbq (α:=(Int × Nat) × Sl) (f:=λ y=>rd.bs.drop (y.1.2 + y.1.1.toNat)) (G:=λ y=>Xr rd.bs=some (y.1.1,false,y.1.2)/\(0<=most/\y.1.1<=most/\y.1.1<=(rd.bs.length:Int) - y.1.2)) (N:=∀ n k,Xr rd.bs=some (n,false,k)->¬ (0<=most/\n<=most/\n<=(rd.bs.length:Int) - k))
  (Hs1:=λ y=>lp u y.2::Own y.2 5 (b8 ((rd.bs.drop y.1.2).take y.1.1.toNat))::pts i (.cells [nI most].toArray 3 (0,0))::Hs)
  (Hs2:=lp u ⟨none,0,0⟩::pts i (.cells [nI most].toArray 3 (0,0))::Hs) d ?_).use ?_
 ·intro _ x l s A B w z hs d
  refine XP.mk (by kernel_rfl) ?_;have m:Sat (R.add x) (lp l s::lp u ⟨none,0,0⟩::pts i (.cells [nI most].toArray 3 (0,0))::A::B::Hs) w:=d.arr;refine (Zko (h:=x) hm hl D z hs m).use ?_ ?_
  ·rintro _ w ⟨rfl,n,k,q,t,g,j,b,d⟩
   exact .inl ⟨rfl,((n,k),t),q,⟨g,j⟩,b,d.arr⟩
  ·rintro _ w ⟨rfl,j,q,d⟩
   exact .inr ⟨rfl,j,q,d.arr⟩
 ·rintro _ w ⟨rfl,h⟩
  refine ⟨rfl,?_⟩;rcases h with ⟨o,d⟩|⟨o,⟨⟨n,k⟩,t⟩,⟨g,j⟩,d⟩|⟨o,c,d⟩
  ·have d:Sat R (lp u ⟨none,0,0⟩::Xl r rd::pts i (.cells [nI most].toArray 3 (0,0))::Hs) w:=d.swap
   refine ⟨⟨none,0,0⟩,oA d,?_⟩;unfold Yn;rw [qf o];exact ⟨_,rfl,Own.nil (d.drop.cons λ _ h=>h.drop)⟩
  ·have d:=d.b2
   refine ⟨t,oA d,?_⟩;unfold Yn;rw [qc (by rw [o];simp),g];simp only;rw [qf ⟨trivial,j⟩];exact ⟨_,rfl,d.drop.cons λ _ h=>h.cons λ _ h=>h.drop⟩
  ·have d:Sat R (lp u ⟨none,0,0⟩::Xl r ⟨rd.bs,true⟩::pts i (.cells [nI most].toArray 3 (0,0))::Hs) w:=d.swap
   refine ⟨⟨none,0,0⟩,oA d,?_⟩;have e:Yn most rd=([],⟨rd.bs,true⟩):=by
    unfold Yn;rw [qc (by rw [o];simp)];cases g:Xr rd.bs with
    |none=>rfl
    |some p=>
     obtain ⟨n,E,k⟩:=p;simp only;rw [qc];rintro ⟨rfl,h⟩;exact c n k g h
   rw [e];exact ⟨_,rfl,Own.nil (d.drop.cons λ _ h=>h.drop)⟩
def ZgK {most:Int} {rd:Rd} (h:∀ x∈rd.bs,0<=x/\x<256):(∀ x∈(Yn most rd).1,0<=x/\x<256)/\(∀ x∈(Yn most rd).2.bs,0<=x/\x<256):=by
 unfold Yn;split
 ·exact ⟨by simp,h⟩
 ·split
  ·split
   ·exact ⟨λ x a=>h x (jn (qw a)),λ x a=>h x (jn a)⟩
   ·exact ⟨by simp,h⟩
  ·exact ⟨by simp,h⟩
def UW {most:Int} {rd:Rd}:(Yn most rd).1.length<=rd.bs.length/\(Yn most rd).2.bs.length<=rd.bs.length:=by
 unfold Yn;split
 ·simp
 ·split
  ·split
   ·simp;omega
   ·simp
  ·simp
def Xh {most:Int} {rd:Rd}:(Zh most rd).2.bs.length<=rd.bs.length:=by
 unfold Zh;split
 ·simp
 ·split
  ·split
   ·simp
   ·simp
  ·simp
end
end Go.Proofs.YtlplemdmegpoeaaGreatDoor

namespace Go.Proofs.YtlplemdmegpoeaaGreatDoor
section
open Go Go.VC Tryz
variable {R:Cx} {Hs Rest:List HP} {w:World}
def Zmb:∀ a b:List Int,(a++b).sum=a.sum + b.sum
 |[],b=>by simp
 |x::a,b=>by simp only [qU,vn,Zmb a b];omega
def Zjj {g:List Int} {j:Nat} (h:j<g.length):(g.take (j + 1)).sum=(g.take j).sum + g[j]:=by
 rw [qp,List.getElem?_eq_getElem h,Zmb];simp
def ZdE {g:List Int} (h:∀ x∈g,0<=x/\x<=10):0<=g.sum/\g.sum<=10 * g.length:=by
 induction g with
 |nil=>simp
 |cons a g ih=>
  have:=ih λ x d=>h x (qj _ d);have:=h a qq;simp only [vn,qr];omega
def ZqA (g:List Int):Bool:=g.all λ x=>decide (1<=x/\x<=10)
def VK (n:Int) (g:List Int):Bool:=decide (1<=n/\n<=60/\1<=g.length/\g.length<=4) && (ZqA g && decide (g.sum<=10))
def YN (n:Int) (g:List Int):Int:=if VK n g then n * g.sum else 0
def Z7 {n:Int} {g:List Int}:VK n g=true↔(1<=n/\n<=60/\1<=g.length/\g.length<=4)/\(∀ x∈g,1<=x/\x<=10)/\g.sum<=10:=by
 simp [VK,ZqA]
def Gu {g:List Int} (h:∀ x∈g,1<=x/\x<=10) (hl:1<=g.length):1<=g.sum:=by
 match g,hl with
 |a::g,_=>
  have o:=h a qq;have i:=ZdE (g:=g) λ x d=>by have:=h x (qj _ d);omega
  simp only [vn];omega
def ZcS {n:Int} {g:List Int} (h:VK n g=true):YN n g=n * g.sum:=by unfold YN;rw [qf h]
def Zqs {a b:Int} (d:0<=a) (o:a<=60) (h:0<=b) (i:b<=10):0<=a * b/\a * b<=600:=
 ⟨uB d h,by have:=zl o i h (by omega);omega⟩
def Wq (n:Int) (g:List Int):0<=YN n g/\YN n g<=600:=by
 unfold YN;split
 ·rename_i h
  obtain ⟨o,a,i⟩:=Z7.1 h;have:=ZdE (λ x d=>by have:=a x d;omega) (g:=g);exact Zqs (by omega) (by omega) (by omega) (by omega)
 ·omega
abbrev WQ (n:Int) (s:Sl):Obj:=.cells [nI n,.slice s.a s.len s.cap].toArray 37 (0,0)
def Ws {n:Int} {s:Sl} {g:List Int} (hs:RoI R s g) (y:∀ x∈g,0<=x/\x<=10) (hl:g.length<=4) (o:Sat R Hs w):
  Zg prog 236 #[.agg #[nI n,.slice s.a s.len s.cap]] w λ v w'=>v=nI g.sum/\Sat R Hs w':=by
 have z:=hs.len;apply ZsT;refine Za o λ p w o=>?_;have o:Sat R (pts p (WQ n s)::Hs) w:=o;refine ⟨s,oA o,?_⟩;refine ⟨λ m i w=>∃ j:Nat,i=j/\j<=g.length/\m=(g.take j).sum/\Sat R (pts p (WQ n s)::Hs) w,λ _ i _=>g.length - i.toNat,⟨0,rfl,by omega,by simp,o⟩,?_⟩;clear o;rintro _ _ _ w ⟨j,rfl,hj,rfl,o⟩;refine Br.d (λ h=>?_) (λ h=>?_)
 ·have u:j<g.length:=by omega
  refine hs.idx (eqS o) u ?_;have q:=ZdE (λ x k=>y x (qw k)) (g:=g.take j);have l:(g.take j).length<=4:=by rw [qd];omega
  have k:=y g[j] (qh _);rw [Zc (x:=(j:Int) + 1),Zc];exact ⟨⟨j + 1,by omega,by omega,(Zjj u).symm,o⟩,by dsimp only;omega⟩
 ·rw [qg (by omega)]
  exact ⟨rfl,o.drop⟩
def X0 {n:Int} {s:Sl} {g:List Int} (hs:RoI R s g) (y:∀ x∈g,0<=x/\x<=10) (hl:g.length<=4) (o:Sat R Hs w):
  Zg prog 256 #[.agg #[nI n,.slice s.a s.len s.cap]] w λ v w'=>v=nI g.sum/\Sat R Hs w':=by
 have z:=hs.len;apply ZsC;refine Za o λ p w o=>?_;have o:Sat R (pts p (WQ n s)::Hs) w:=o;refine ⟨λ m i w=>∃ j:Nat,i=j/\j<=g.length/\m=(g.take j).sum/\Sat R (pts p (WQ n s)::Hs) w,λ _ i _=>g.length - i.toNat,⟨0,rfl,by omega,by simp,o⟩,?_⟩;clear o;rintro _ _ _ w ⟨j,rfl,hj,rfl,o⟩;refine ⟨s,oA o,Br.d (λ h=>?_) (λ h=>?_)⟩
 ·have u:j<g.length:=by omega
  refine ⟨s,oA o,hs.idx (eqS o) u ?_⟩;have q:=ZdE (λ x k=>y x (qw k)) (g:=g.take j);have l:(g.take j).length<=4:=by rw [qd];omega
  have k:=y g[j] (qh _);rw [Zc (x:=(j:Int) + 1),Zc];exact ⟨⟨j + 1,by omega,by omega,(Zjj u).symm,o⟩,by dsimp only;omega⟩
 ·rw [qg (by omega)]
  exact ⟨rfl,o.drop⟩
def ZnQ {s:Sl} {l:List Int} {f:Value} {p:Int->Bool} (hs:RoI R s l) (k:∀ x w,Sat R Hs w->XP prog cl f [nI x] w λ e w'=>e=xR (.bool (p x))/\Sat R Hs w') (o:Sat R Hs w):
  Zg prog 272 #[.slice s.a s.len s.cap,f] w λ v w'=>(∃ n:Int,v=nI n/\(l.any p=true↔0<=n))/\Sat R Hs w':=by
 have g:=hs.len;have m:=hs.bound;apply Zsw;refine ⟨λ i w=>∃ j:Nat,i=j/\j<=l.length/\(l.take j).any p=false/\Sat R Hs w,λ i _=>l.length - i.toNat,⟨0,rfl,by omega,by simp,o⟩,?_⟩;clear o;rintro _ _ w ⟨j,rfl,hj,y,o⟩;refine Br.d (λ h=>?_) (λ h=>?_)
 ·have u:j<l.length:=by omega
  refine hs.idx (eqS o) u ?_;refine (k l[j] _ o).mono ?_;rintro _ w ⟨rfl,o⟩;refine ⟨_,rfl,Br.mk (λ h=>⟨⟨j,rfl,⟨λ _=>by omega,λ _=>vg.2 ⟨_,qh _,h⟩⟩⟩,o⟩) (λ h=>?_)⟩;rw [Zc];refine ⟨⟨j + 1,by omega,by omega,?_,o⟩,by dsimp only;omega⟩;rw [qp,List.getElem?_eq_getElem u,vF,y];simp [h]
 ·refine ⟨⟨-1,rfl,⟨λ z=>?_,λ z=>by omega⟩⟩,o⟩
  rw [qg (by omega)] at y;rw [y] at z;cases z
def Zev {s:Sl} {l:List Int} {f:Value} {p:Int->Bool} (hs:RoI R s l) (o:∀ x w,Sat R Hs w->XP prog cl f [nI x] w λ e w'=>e=xR (.bool (p x))/\Sat R Hs w') (d:Sat R Hs w):
  Zg prog 212 #[.slice s.a s.len s.cap,f] w λ v w'=>v=.bool (l.any p)/\Sat R Hs w':=by
 apply Zs3;refine (ZnQ hs o d).use ?_;rintro _ w ⟨⟨n,rfl,h⟩,d⟩;refine ⟨n,rfl,?_,d⟩
 congr 1
 rw [vG,qR];exact h.symm
def ZpC {g:Int} (a:Sat R Hs w):Zg prog 237 #[nI g] w λ v w'=>v=.bool (!decide (1<=g/\g<=10))/\Sat R Hs w':=by
 apply ZsS;refine Br.d (λ h=>⟨?_,a⟩) (λ h=>⟨?_,a⟩)
 ·rw [qz (by omega)];rfl
 ·congr 1
  rw [<-decide_not,qJ];omega
def Ww {n:Int} {g:List Int} (h:¬ ((1<=n/\n<=60/\1<=g.length/\g.length<=4)/\(∀ x∈g,1<=x/\x<=10)/\g.sum<=10)):VK n g=false:=by
 rw [<-jH,Z7];exact h
def ZaU {n:Int} {s:Sl} {g:List Int} (hs:RoI R s g) (o:Sat R Hs w):
  Zg prog 165 #[.agg #[nI n,.slice s.a s.len s.cap]] w λ v w'=>v=.bool (VK n g)/\Sat R Hs w':=by
 have j:=hs.len;apply ZtH;refine Za o λ p w o=>?_;have o:Sat R (pts p (WQ n s)::Hs) w:=o;refine ⟨n,oA o,Br.d (λ l=>⟨by rw [Ww (λ h=>by omega)],o.drop⟩) (λ l=>?_)⟩;refine ⟨n,oA o,Br.d (λ m=>⟨by rw [Ww (λ h=>by omega)],o.drop⟩) (λ m=>?_)⟩;refine ⟨s,oA o,Br.d (λ q=>⟨by rw [Ww (λ h=>by omega)],o.drop⟩) (λ q=>?_)⟩;refine ⟨s,oA o,Br.d (λ r=>⟨by rw [Ww (λ h=>by omega)],o.drop⟩) (λ r=>?_)⟩;refine ⟨s,oA o,?_⟩;refine (Zev (p:=λ x=>!decide (1<=x/\x<=10)) hs (λ x w o=>XP.mk (by kernel_rfl) ((ZpC o).use λ v w' h=>⟨by rw [h.1],h.2⟩)) o).u λ w o=>?_;refine ⟨_,rfl,Br.mk (λ z=>⟨?_,o.drop⟩) (λ z=>?_)⟩
 ·rw [Ww (λ h=>?_)]
  obtain ⟨x,i,y⟩:=vg.1 z;have:=h.2.1 x i;rw [qE this] at y;cases y
 have k:∀ x∈g,1<=x/\x<=10:=λ x i=>by
  by_cases h:1<=x/\x<=10
  ·exact h
  ·have:(g.any λ x=>!decide (1<=x/\x<=10))=true:=vg.2 ⟨x,i,by rw [qz h];rfl⟩
   rw [z] at this;cases this
 refine ⟨n,s,oA o,?_⟩;refine (Ws hs (λ x i=>by have:=k x i;omega) (by omega) o).u λ w o=>?_;refine ⟨_,rfl,?_,o.drop⟩
 congr 1
 rw [vG,qR,Z7];exact ⟨λ h=>⟨⟨by omega,by omega,by omega,by omega⟩,k,h⟩,λ h=>h.2.2⟩
def GA {n:Int} {s:Sl} {g:List Int} (hs:RoI R s g) (o:Sat R Hs w):
  Zg prog 184 #[.agg #[nI n,.slice s.a s.len s.cap]] w λ v w'=>v=.bool (VK n g)/\Sat R Hs w':=by
 have q:=hs.len;have r:=hs.bound;apply Ztp;refine Za o λ p w o=>?_;have o:Sat R (pts p (WQ n s)::Hs) w:=o;refine ⟨λ w=>(1<=n/\n<=60/\1<=g.length/\g.length<=4)/\Sat R (pts p (WQ n s)::Hs) w,?_,?_⟩
 ·refine ⟨n,oA o,Br.d (λ m=>⟨by rw [Ww (λ h=>by omega)],o.drop⟩) (λ m=>?_)⟩
  refine ⟨n,oA o,Br.d (λ k=>⟨by rw [Ww (λ h=>by omega)],o.drop⟩) (λ k=>?_)⟩;refine ⟨s,oA o,Br.d (λ t=>⟨by rw [Ww (λ h=>by omega)],o.drop⟩) (λ t=>?_)⟩;refine ⟨s,oA o,Br.d (λ e=>⟨by rw [Ww (λ h=>by omega)],o.drop⟩) (λ e=>⟨⟨by omega,by omega,by omega,by omega⟩,o⟩)⟩
 clear o;rintro _ w ⟨f,o⟩;refine ⟨λ i w=>∃ j:Nat,i=j/\j<=g.length/\(∀ x∈g.take j,1<=x/\x<=10)/\Sat R (pts p (WQ n s)::Hs) w,λ i _=>g.length - i.toNat,⟨0,rfl,by omega,by simp,o⟩,?_⟩;clear o;rintro _ _ w ⟨j,rfl,hj,l,o⟩;refine ⟨s,oA o,Br.d (λ h=>?_) (λ h=>?_)⟩
 ·have y:j<g.length:=by omega
  have no:¬ (1<=g[j]/\g[j]<=10)->VK n g=false:=λ h=>Ww λ k=>h (k.2.1 _ (qh _));refine ⟨s,oA o,hs.idx (eqS o) y ?_⟩;refine Br.d (λ m=>⟨by rw [no (by omega)],o.drop⟩) (λ m=>?_);refine ⟨s,oA o,hs.idx (eqS o) y ?_⟩;refine Br.d (λ k=>⟨by rw [no (by omega)],o.drop⟩) (λ k=>?_);rw [Zc];refine ⟨⟨j + 1,by omega,by omega,?_,o⟩,by dsimp only;omega⟩;rw [qp,List.getElem?_eq_getElem y];intro x z;simp only [q9,qt,qK] at z;rcases z with z|rfl
  ·exact l x z
  ·omega
 ·rw [qg (by omega)] at l
  refine ⟨n,s,oA o,?_⟩;refine (X0 hs (λ x z=>by have:=l x z;omega) (by omega) o).u λ w o=>?_;refine ⟨_,rfl,?_,o.drop⟩
  congr 1
  rw [vG,qR,Z7];exact ⟨λ h=>⟨f,l,h⟩,λ h=>h.2.2⟩
def V0 {n:Int} {s:Sl} {g:List Int} (hs:RoI R s g) (d:Sat R Hs w):
  Zg prog 164 #[.agg #[nI n,.slice s.a s.len s.cap]] w λ v w'=>v=nI (YN n g)/\Sat R Hs w':=by
 apply ZtI;refine Za d λ p w d=>?_;have d:Sat R (pts p (WQ n s)::Hs) w:=d;refine ⟨n,s,oA d,?_⟩;refine (ZaU hs d).u λ w d=>?_;refine ⟨_,rfl,Br.nb (λ h=>⟨?_,d.drop⟩) (λ h=>?_)⟩
 ·unfold YN;rw [h];rfl
 obtain ⟨z,o,j⟩:=Z7.1 h;refine Zi d λ w d=>?_;refine ⟨n,oS,n,s,oS,?_⟩;refine (Ws hs (λ x i=>by have:=o x i;omega) (by omega) d).u λ w d=>?_;have y:=Wq n g;rw [ZcS h] at y ⊢;refine ⟨_,rfl,d,?_,d.drop⟩;rw [Zc]
def W9 {n:Int} {s:Sl} {g:List Int} (hs:RoI R s g) (d:Sat R Hs w):
  Zg prog 186 #[.agg #[nI n,.slice s.a s.len s.cap]] w λ v w'=>v=nI (YN n g)/\Sat R Hs w':=by
 apply Ztn;refine Za d λ p w d=>?_;have d:Sat R (pts p (WQ n s)::Hs) w:=d;refine ⟨n,s,oA d,?_⟩;refine (GA hs d).u λ w d=>?_;refine ⟨_,rfl,Br.nb (λ h=>⟨?_,d.drop⟩) (λ h=>?_)⟩
 ·unfold YN;rw [h];rfl
 obtain ⟨z,o,j⟩:=Z7.1 h;refine Zi d λ w d=>?_;refine ⟨n,oS,n,s,oS,?_⟩;refine (X0 hs (λ x i=>by have:=o x i;omega) (by omega) d).u λ w d=>?_;have y:=Wq n g;rw [ZcS h] at y ⊢;refine ⟨_,rfl,d,?_,d.drop⟩;rw [Zc]
def Zgn {n k:Int} {s:Sl} {g:List Int} (hs:RoI R s g) (o:Sat R Hs w):
  Zg prog 250 #[.agg #[nI n,.slice s.a s.len s.cap],nI k] w λ v w'=>v=.bool (decide (0<=k/\k<YN n g))/\Sat R Hs w':=by
 apply ZsH;refine Za o λ p w o=>?_;have o:Sat R (pts p (WQ n s)::Hs) w:=o;refine Br.d (λ h=>?_) (λ h=>⟨by rw [qz (by omega)],o.drop⟩);refine ⟨n,s,oA o,?_⟩;refine (V0 hs o).u λ w o=>?_;refine ⟨_,rfl,?_,o.drop⟩
 congr 1
 rw [qJ];omega
def ZjS {s:Sl} {l:List Int} {k:Int} (hs:RoI R s l) (o:Sat R Hs w):
  Zg prog 196 #[.slice s.a s.len s.cap,nI k] w λ v w'=>v=.bool (decide (k∈l))/\Sat R Hs w':=by
 have z:=hs.len;have g:=hs.bound;apply Ztd;refine ⟨λ i w=>∃ j:Nat,i=j/\j<=l.length/\k ∉ l.take j/\Sat R Hs w,λ i _=>l.length - i.toNat,⟨0,rfl,by omega,by simp,o⟩,?_⟩;clear o;rintro _ _ w ⟨j,rfl,hj,y,o⟩;refine Br.d (λ h=>?_) (λ h=>?_)
 ·have u:j<l.length:=by omega
  refine hs.idx (eqS o) u ?_;refine Br.e (λ h=>⟨?_,o⟩) (λ h=>?_)
  ·rw [qE (show k∈l by rw [<-h];exact qh _)]
  rw [Zc];refine ⟨⟨j + 1,by omega,by omega,?_,o⟩,by dsimp only;omega⟩;rw [qp,List.getElem?_eq_getElem u];simp only [q9,qt,qK,not_or];exact ⟨y,λ m=>h m.symm⟩
 ·rw [qg (by omega)] at y
  exact ⟨by rw [qz y],o⟩
end
section
open Go Go.VC Tryz
def ZcO:List Int:=[65,66,67,68,69,70,71,72,74,75]
def YY (c:Nat):Int:=ZcO.getD c 0
def Zh6 (r:Nat):List Int:=(if 10<=r then [48 + ((r / 10:Nat):Int)] else [])++[48 + ((r % 10:Nat):Int)]
def Uy (r c:Nat):List Int:=Zh6 r++[YY c]
def Zo2 (w k:Int):ByteArray:=VC.strOf (Uy (k / w + 1).toNat (k % w).toNat)
def Znu:ByteArray:=ByteArray.mk #[65,66,67,68,69,70,71,72,74,75]
def Zld:∀ c:Fin 10,Znu.extract c.1 (c.1 + 1)=VC.strOf [YY c.1]:=by decide +kernel
def Zg8:∀ c:Fin 10,∃ b:UInt8,Znu[c.1]? =some b/\(b.toNat:Int)=YY c.1:=by decide +kernel
def Znz:∀ r:Fin 61,∀ c:Fin 10,VC.strOf (Zh6 r.1)++VC.strOf [YY c.1]=VC.strOf (Uy r.1 c.1):=by decide +kernel
def ZfM (c:Int):Int:=match ZcO.findIdx? (·==c) with|some i=>i|none=>-1
def ZnM (c:Int):Bool:=decide (48<=c/\c<=57)
def prs:List Int->Bool->Int->Int->Option (Int × Int)
 |[],_,row,last=>some (row,last)
 |c::l,first,row,last=>
  if 0<=last\/(first=true/\c=48)\/row>60 then none
  else if ZnM c then prs l false (10 * row + (c - 48)) last
  else if ZfM c<0 then none
  else prs l false row (ZfM c)
def GO (n w:Int) (lab:ByteArray):Int × Int:=
 match prs (ZE lab) true 0 (-1) with
 |none=>(0,2)
 |some (row,last)=>if row<1\/row>n\/last<0\/last >= w then (0,2) else ((row - 1) * w + last,0)
def Zm0:∀ r:Fin 60,∀ c:Fin 10,prs (Uy (r.1 + 1) c.1) true 0 (-1)=some ((r.1:Int) + 1,(c.1:Int)):=by decide +kernel
def ZwN (l:List Int) (row:Int):Prop:=
 (l=[]/\row=0)\/(∃ d:Int,1<=d/\d<=9/\l=[48 + d]/\row=d)\/(∃ d e:Int,1<=d/\d<=9/\0<=e/\e<=9/\l=[48 + d,48 + e]/\row=10 * d + e)\/100<=row
def PrsI (l:List Int) (row last:Int):Prop:=(last=-1/\ZwN l row)\/(0<=last/\last<10/\∃ l',l=l'++[YY last.toNat]/\ZwN l' row)
def ZfL {c:Int} (h:¬ ZfM c<0):0<=ZfM c/\ZfM c<10/\YY (ZfM c).toNat=c:=by
 unfold ZfM at *;split at h
 ·rename_i i hi
  obtain ⟨a,o,_⟩:=List.findIdx?_eq_some_iff_getElem.1 hi;have d:i<10:=a;refine ⟨by omega,by omega,?_⟩;unfold YY;rw [qo,List.getD_eq_getElem?_getD,List.getElem?_eq_getElem a];simpa using o
 ·omega
def Zil:∀ (l a:List Int) (first:Bool) (row last i o:Int),(first=true↔a=[])->PrsI a row last->prs l first row last=some (i,o)->PrsI (a++l) i o
 |[],a,_,row,last,i,o,_,h,e=>by
  simp only [prs,qM,jY] at e;rw [jl,<-e.1,<-e.2];exact h
 |c::l,a,first,row,last,i,o,g,h,e=>by
  have u:(false=true↔a++[c]=[]):=by simp
  unfold prs at e;split at e
  ·cases e
  rename_i j;have hl:last<0:=by omega
  have hd:ZwN a row:=by
   rcases h with h|h
   ·exact h.2
   ·omega
  split at e
  ·rename_i y
   have y:=qF y;have:=Zil l (a++[c]) false _ last i o u (.inl ⟨?_,?_⟩) e
   ·rw [qn] at this;exact this
   ·rcases h with h|h
    ·exact h.1
    ·omega
   ·rcases hd with ⟨rfl,rfl⟩|⟨d,v,hd2,rfl,rfl⟩|⟨d,t,v,hd2,k,m,rfl,rfl⟩|z
    ·have:first=true:=g.2 rfl
     refine .inr (.inl ⟨c - 48,?_,by omega,?_,by omega⟩)
     ·have:c≠48:=λ n=>j (.inr (.inl ⟨this,n⟩))
      omega
     ·rw [show (48:Int) + (c - 48)=c by omega];rfl
    ·refine .inr (.inr (.inl ⟨row,c - 48,v,hd2,by omega,by omega,?_,by omega⟩))
     rw [show (48:Int) + (c - 48)=c by omega];rfl
    ·exact .inr (.inr (.inr (by omega)))
    ·omega
  ·split at e
   ·cases e
   rename_i y p;obtain ⟨q,r,s⟩:=ZfL p;have:=Zil l (a++[c]) false row (ZfM c) i o u (.inr ⟨q,r,a,by rw [s],hd⟩) e;rw [qn] at this;exact this
def Zp1 {l:List Int} {row:Int} (h:ZwN l row) (v:1<=row) (y:row<=60):l=Zh6 row.toNat:=by
 rcases h with ⟨rfl,rfl⟩|⟨d,a,hd2,rfl,rfl⟩|⟨d,e,a,hd2,i,u,rfl,rfl⟩|o
 ·omega
 ·unfold Zh6
  rw [qc (by omega)];simp only [jr,jT,vv];omega
 ·unfold Zh6
  rw [qf (by omega)];simp only [qU,jr,jT,vv];constructor<;>omega
 ·omega
def Zrm {l:List Int} {row last:Int} (h:prs l true 0 (-1)=some (row,last)) (a:1<=row) (d:row<=60) (i:0<=last):last<10/\l=Uy row.toNat last.toNat:=by
 have:=Zil l [] true 0 (-1) row last (by simp) (.inl ⟨rfl,.inl ⟨rfl,rfl⟩⟩) h;rw [jr] at this;rcases this with ⟨h,_⟩|⟨_,o,u,rfl,hd⟩
 ·omega
 ·exact ⟨o,by unfold Uy;rw [Zp1 hd a d]⟩
def Zhb:∀ r:Fin 60,∀ c:Fin 10,∀ n∈Uy (r.1 + 1) c.1,0<=n/\n<256:=by decide +kernel
def Zfx {n w k:Int} {lab:ByteArray} (l:n<=60) (p:1<=w) (o:w<=10):(GO n w lab=(k,0))↔(0<=k/\k<n * w/\Zo2 w k=lab):=by
 constructor
 ·intro h
  unfold GO at h;split at h
  ·simp at h
  rename_i row last d;split at h
  ·simp at h
  rename_i r;simp only [jY,vv] at h;obtain ⟨s,i⟩:=Zrm d (by omega) (by omega) (by omega);have hm:(row - 1) * w<=(n - 1) * w:=ua (by omega) (by omega);have u:0<=(row - 1) * w:=uB (by omega) (by omega);have v:(n - 1) * w=n * w - w:=by rw [Int.sub_mul];omega
  refine ⟨by omega,by omega,?_⟩;have e1:k / w=row - 1:=by
   rw [<-h,uT,Int.add_comm,vZ _ _ (by omega),vY (by omega) (by omega)];omega
  have e2:k % w=last:=by
   rw [<-h,uT,Int.add_comm,vx,vU (by omega) (by omega)]
  unfold Zo2;rw [e1,e2,show row - 1 + 1=row by omega,<-i,Zgc]
 ·rintro ⟨y,z,rfl⟩
  have e0:0<=k / w:=Int.ediv_nonneg y (by omega);have e1:k / w<n:=za (by omega) z;have e2:0<=k % w:=vH _ (by omega);have e3:k % w<w:=vk _ (by omega);have e4:=zb k w;generalize g:k / w=q at *;generalize hm:k % w=m at *;obtain ⟨a,rfl⟩:=qs e0;obtain ⟨b,rfl⟩:=qs e2;unfold GO Zo2;rw [g,hm,show ((a:Int) + 1).toNat=a + 1 by omega,qo];have j:=Zhb ⟨a,by omega⟩ ⟨b,by omega⟩;have d:=Zm0 ⟨a,by omega⟩ ⟨b,by omega⟩;rw [ZhB j,d];dsimp only;rw [qc (by omega)];simp only [jY,vv];rw [<-e4,show (a:Int) + 1 - 1=a by omega,uT]
def Zr1 {n w:Int} {lab:ByteArray} (h:(GO n w lab).2≠0):GO n w lab=(0,2):=by
 unfold GO at *;split at h
 ·rfl
 ·split at h
  ·rename_i a;rw [qf a]
  ·simp at h
def Zof (s:ByteArray) (i:Nat) (h:¬ (s.get! (i + 0)).toNat<128):128<=(Utf8.decode s i).1:=by
 unfold Utf8.decode;dsimp only;rw [qc h];split
 ·split
  ·assumption
  ·decide
 ·split
  ·split
   ·rename_i h;simp only [ql,qR] at h;have:=h.1;dsimp only;omega
   ·decide
  ·split
   ·split
    ·rename_i h;simp only [ql,qR] at h;have:=h.1;dsimp only;omega
    ·decide
   ·decide
set_option maxRecDepth 10000
def B296 (c:Int) (K:Value->xE) (w:nW):Prop:=nC 302 #[nI c,nI 10] w λ b d=>∃ a,(b=xR (xZ a))/\K (xZ a) d
def Zsp (a K w) (h:B296 a K w):Zg prog 296 #[nI a] w K:=cq (sk:=.leaf) h func296
def B302 (d m:Int) (K:Value->xE) (w:nW):Prop:=Br (m==10) (∃ (f:xE),(Br (decide (0<=d)) (Br (decide (d<100)) (nC 306 #[nI d] w λ y D=>∃ n,(y=xR (xZ n))/\K (xZ n) D) (f  w)) (f  w))/\∀ (G:Env) u,f u->New (.cells #[.int .u8 0,.int .u8 0,.int .u8 0,.int .u8 0,.int .u8 0,.int .u8 0,.int .u8 0,.int .u8 0,.int .u8 0,.int .u8 0,.int .u8 0,.int .u8 0,.int .u8 0,.int .u8 0,.int .u8 0,.int .u8 0,.int .u8 0,.int .u8 0,.int .u8 0,.int .u8 0,.int .u8 0,.int .u8 0,.int .u8 0,.int .u8 0] 328 (0,0)) (λ e v=>∃ (g:Int->xE),(Br (decide (d<0)) (g (IntKind.u64.wrap (0 - IntKind.u64.wrap d)) v) (g (IntKind.u64.wrap d) v))/\∀ (H:Env) j x,g j x->nC 307 #[.int .u64 j] x λ z E=>∃ b,eI z b/\∃ o:Addr,(some (Addr.mk e 0 none)=some o)/\ ((0:Int)<=wI (1 + b))/\ ((wI (1 + b):Int)<=24)/\ ((0:Int)<=1)/\ ((1:Int)<=(↑(wI (1 + b)).toNat:Int))/\nC 308 #[.slice (X4 (some o) (Int.toNat 1) 24 1) ((wI (1 + b)).toNat - Int.toNat 1) 23,.int .u64 j] E λ A k=>eU A/\Br (decide (d<0)) (∃ l,(St 5 (Addr.add ⟨e,0,none⟩ 0) (.int .u8 45) k l)/\∃ p:Addr,(some (Addr.mk e 0 none)=some p)/\ ((0:Int)<=wI (1 + b))/\ ((wI (1 + b):Int)<=24)/\∃ q:ByteArray,(∀ c,(λ c=>c=l) c->((convert 47 9 (.slice ((some (p))) ((wI (1 + b)).toNat) 24))).run prog c=.ok (xZ q) c)/\K (xZ q) l) (∃ r:Addr,(some (Addr.mk e 0 none)=some r)/\ ((0:Int)<=wI (1 + b))/\ ((wI (1 + b):Int)<=24)/\ ((0:Int)<=1)/\ ((1:Int)<=(↑(wI (1 + b)).toNat:Int))/\∃ s:ByteArray,(∀ c,(λ c=>c=k) c->((convert 47 9 (.slice (X4 (some r) (Int.toNat 1) 24 1) ((wI (1 + b)).toNat - Int.toNat 1) 23))).run prog c=.ok (xZ s) c)/\K (xZ s) k)) u) (nC 309 #[nV,.int .u64 (IntKind.u64.wrap d),nI m,.bool (decide (d<0)),.bool false] w λ C F=>∃ i:Sl,∃ t,(C=xR (.tuple #[i.v,xZ t]))/\K (xZ t) F)
def ZwP:Sk:=(nS 1 (.seq (nS 1 (.cond (.cut [] [] (4::ng 12 8) .leaf (nS 2 (.cut [6] [(.int .u64)] [6,22,23,24,25] .leaf .leaf))) .leaf)) .leaf))
def Zso (b a K w) (h:B302 b a K w):Zg prog 302 #[nI b,nI a] w K:=cq (sk:=ZwP) h func302
def B306 (a:Int) (K:Value->xE) (w:nW):Prop:=Br (decide (a<10)) (((0:Int)<=wI (a + 1))/\ ((wI (a + 1):Int)<=36)/\ ((0:Int)<=a)/\ ((a:Int)<=(↑(wI (a + 1)).toNat:Int))/\K (xZ ((ByteArray.mk #[48,49,50,51,52,53,54,55,56,57,97,98,99,100,101,102,103,104,105,106,107,108,109,110,111,112,113,114,115,116,117,118,119,120,121,122]).extract a.toNat (wI (a + 1)).toNat)) w) (((0:Int)<=wI (wI (a * 2) + 2))/\ ((wI (wI (a * 2) + 2):Int)<=200)/\ ((0:Int)<=wI (a * 2))/\ ((wI (a * 2):Int)<=(↑(wI (wI (a * 2) + 2)).toNat:Int))/\K (xZ ((ByteArray.mk (([48,48,48,49,48,50,48,51,48,52,48,53,48,54,48,55,48,56,48,57,49,48,49,49,49,50,49,51,49,52,49,53,49,54,49,55,49,56,49,57,50,48,50,49,50,50,50,51,50,52].append [50,53,50,54,50,55,50,56,50,57,51,48,51,49,51,50,51,51,51,52,51,53,51,54,51,55,51,56,51,57,52,48,52,49,52,50,52,51,52,52,52,53,52,54,52,55,52,56,52,57]).append ([53,48,53,49,53,50,53,51,53,52,53,53,53,54,53,55,53,56,53,57,54,48,54,49,54,50,54,51,54,52,54,53,54,54,54,55,54,56,54,57,55,48,55,49,55,50,55,51,55,52].append [55,53,55,54,55,55,55,56,55,57,56,48,56,49,56,50,56,51,56,52,56,53,56,54,56,55,56,56,56,57,57,48,57,49,57,50,57,51,57,52,57,53,57,54,57,55,57,56,57,57])).toArray).extract (wI (a * 2)).toNat (wI (wI (a * 2) + 2)).toNat)) w)
def Zsn (a K w) (h:B306 a K w):Zg prog 306 #[nI a] w K:=cq (sk:=.leaf) h func306
end
section
open Go Go.VC Tryz
variable {R:Cx} {Hs Rest:List HP} {w:World}
def ZuM:ByteArray:=ByteArray.mk #[48,49,50,51,52,53,54,55,56,57,97,98,99,100,101,102,103,104,105,106,107,108,109,110,111,112,113,114,115,116,117,118,119,120,121,122]
def ZuL:ByteArray:=ByteArray.mk (([48,48,48,49,48,50,48,51,48,52,48,53,48,54,48,55,48,56,48,57,49,48,49,49,49,50,49,51,49,52,49,53,49,54,49,55,49,56,49,57,50,48,50,49,50,50,50,51,50,52].append [50,53,50,54,50,55,50,56,50,57,51,48,51,49,51,50,51,51,51,52,51,53,51,54,51,55,51,56,51,57,52,48,52,49,52,50,52,51,52,52,52,53,52,54,52,55,52,56,52,57]).append ([53,48,53,49,53,50,53,51,53,52,53,53,53,54,53,55,53,56,53,57,54,48,54,49,54,50,54,51,54,52,54,53,54,54,54,55,54,56,54,57,55,48,55,49,55,50,55,51,55,52].append [55,53,55,54,55,55,55,56,55,57,56,48,56,49,56,50,56,51,56,52,56,53,56,54,56,55,56,56,56,57,57,48,57,49,57,50,57,51,57,52,57,53,57,54,57,55,57,56,57,57])).toArray
def Zkx:∀ r:Fin 10,ZuM.extract r.1 (r.1 + 1)=VC.strOf (Zh6 r.1):=by decide +kernel
def Zkw:∀ r:Fin 100,10<=r.1->ZuL.extract (r.1 * 2) (r.1 * 2 + 2)=VC.strOf (Zh6 r.1):=by decide +kernel
def ZnI {n:Nat} (h:n<100) (a:Sat R Hs w):Zg prog 284 #[nI n] w λ v w'=>v=xZ (VC.strOf (Zh6 n))/\Sat R Hs w':=by
 apply Zsr;have o:Zg prog 306 #[nI n] w λ v w'=>v=xZ (VC.strOf (Zh6 n))/\Sat R Hs w':=by
  apply Zsn;have w1:wI ((n:Int) + 1)=((n + 1:Nat):Int):=Zc;have w2:wI ((n:Int) * 2)=((n * 2:Nat):Int):=Zc;have w3:wI (((n * 2:Nat):Int) + 2)=((n * 2 + 2:Nat):Int):=Zc;rw [B306,w2,w3,w1];refine Br.d (λ h=>?_) (λ h=>?_)
  ·refine ⟨by omega,by omega,by omega,by omega,?_,a⟩
   exact qH Value.string (Zkx ⟨n,by omega⟩)
  ·refine ⟨by omega,by omega,by omega,by omega,?_,a⟩
   exact qH Value.string (Zkw ⟨n,by omega⟩ (by dsimp only;omega))
 have i:Zg prog 302 #[nI n,nI 10] w λ v w'=>v=xZ (VC.strOf (Zh6 n))/\Sat R Hs w':=by
  apply Zso;refine Br.t rfl ⟨λ _=>False,Br.t (qE (by omega)) (Br.t (qE (by omega)) ?_),λ _ _ h=>h.elim⟩;refine o.u λ w a=>?_;exact ⟨_,rfl,rfl,a⟩
 have y:Zg prog 296 #[nI n] w λ v w'=>v=xZ (VC.strOf (Zh6 n))/\Sat R Hs w':=by
  apply Zsp;refine i.u λ w a=>?_;exact ⟨_,rfl,rfl,a⟩
 refine y.u λ w a=>?_;exact ⟨_,rfl,rfl,a⟩
def Zfe (n:Int) (g:List Int) (k:Int):ByteArray × Int:=if 0<=k/\k<YN n g then (Zo2 g.sum k,0) else (⟨#[]⟩,1)
def Ziz {n:Int} {g:List Int} {k:Int} (h:0<=k/\k<YN n g):∃ a b q m:Nat,k=a/\g.sum=b/\1<=b/\b<=10/\q<60/\m<b/\Zo2 g.sum k=VC.strOf (Uy (q + 1) m)/\(∀ x∈g,1<=x/\x<=10)/\g.length<=4/\((a:Int)).tmod (b:Int)=(m:Int)/\((a:Int)).tdiv (b:Int)=(q:Int):=by
 have d:VK n g=true:=by
  by_cases d:VK n g=true
  ·exact d
  ·unfold YN at h;rw [qc d] at h;omega
 obtain ⟨y,i,u⟩:=Z7.1 d;have v:=Gu i (by omega);rw [ZcS d] at h;obtain ⟨a,rfl⟩:=qs h.1;obtain ⟨b,o⟩:=qs (show 0<=g.sum by omega);rw [o] at h v u;have hd:(a:Int) / (b:Int)<n:=za (by omega) h.2;refine ⟨a,b,a / b,a % b,rfl,o,by omega,by omega,?_,zR _ (by omega),?_,i,by omega,rfl,rfl⟩
 ·rw [<-uQ] at hd;omega
 ·unfold Zo2
  rw [o,<-uQ,<-zL];rfl
def Zlj {n k:Int} {s:Sl} {g:List Int} (hs:RoI R s g) (d:Sat R Hs w):
  Zg prog 253 #[.agg #[nI n,.slice s.a s.len s.cap],nI k] w λ v w'=>v=.tuple #[xZ (Zfe n g k).1,nI (Zfe n g k).2]/\Sat R Hs w':=by
 apply ZsF;refine Za d λ p w d=>?_;have d:Sat R (pts p (WQ n s)::Hs) w:=d;refine ⟨n,s,oA d,?_⟩;refine (Zgn hs d).u λ w d=>?_;refine ⟨_,rfl,Br.nd (λ h=>⟨?_,d.drop⟩) (λ h=>?_)⟩
 ·unfold Zfe;rw [qc h]
 have e:Zfe n g k=(Zo2 g.sum k,0):=by unfold Zfe;rw [qf h]
 rw [e];obtain ⟨a,b,q,m,rfl,i,r,b2,t,f,hl,y,o,z,j⟩:=Ziz h;rw [hl];refine ⟨n,s,oA d,?_⟩;refine (Ws hs (λ x l=>by have:=y x l;omega) o d).u λ w d=>?_;rw [i];refine ⟨_,rfl,?_⟩;refine Zi d λ w d=>?_;have w1:wI ((m:Int) + 1)=((m + 1:Nat):Int):=Zc;have w2:wI (q:Int)=(q:Int):=Zc;have w3:wI ((q:Int) + 1)=((q + 1:Nat):Int):=Zc;rw [z,j,w1,w2,w3];refine Nz.mk (by omega) (Nz.mk (by omega) (Nz.mk (by omega) ⟨by omega,by omega,by omega,by omega,?_⟩));refine (ZnI (by omega) d).u λ w d=>?_;have eL:(ByteArray.mk #[65,66,67,68,69,70,71,72,74,75]).extract ((m:Int)).toNat (((m + 1:Nat):Int)).toNat=VC.strOf [YY (m)]:=Zld ⟨m,by omega⟩;rw [eL];refine ⟨_,rfl,?_,?_,d.drop⟩
 ·have:(VC.strOf (Zh6 (q + 1))).size<=2:=by
   show ((Zh6 (q + 1)).map _).toArray.size<=2;rw [vP,qa];unfold Zh6;split<;>simp
  have c:(VC.strOf [YY (m)]).size=1:=rfl;omega
 ·rw [Znz ⟨q + 1,by omega⟩ ⟨m,by omega⟩]
def Zsg {c:Int} {j:Nat} (hj:j<10) (a:∀ i,i<j->YY i≠c) (h:YY j=c):ZfM c=j:=by
 have hl:ZcO.findIdx? (·==c)=some j:=by
  rw [List.findIdx?_eq_some_iff_getElem];refine ⟨hj,?_,λ i hi=>?_⟩
  ·unfold YY at h
   rw [List.getD_eq_getElem?_getD,List.getElem?_eq_getElem (show j<ZcO.length from hj)] at h
   exact jh.2 h
  ·have:=a i hi
   unfold YY at this;rw [List.getD_eq_getElem?_getD,List.getElem?_eq_getElem (show i<ZcO.length from by show i<10;omega)] at this
   simpa using this
 unfold ZfM;rw [hl]
def Zsf {c:Int} (a:∀ i,i<10->YY i≠c):ZfM c=-1:=by
 unfold ZfM;split
 ·rename_i i hi
  obtain ⟨h,d,_⟩:=List.findIdx?_eq_some_iff_getElem.1 hi;have:=a i h;unfold YY at this;rw [List.getD_eq_getElem?_getD,List.getElem?_eq_getElem h] at this;exact absurd (by simpa using d) this
 ·rfl
def ZiV {c:Int} (a:Sat R Hs w):Zg prog 280 #[.int .i32 c] w λ v w'=>v=nI (ZfM c)/\Sat R Hs w':=by
 apply Zst;refine ⟨λ i w=>∃ j:Nat,i=j/\j<=10/\(∀ k,k<j->YY k≠c)/\Sat R Hs w,λ i _=>10 - i.toNat,⟨0,rfl,by omega,λ k h=>by omega,a⟩,?_⟩;clear a;rintro _ _ w ⟨j,rfl,hj,o,a⟩;refine Br.d (λ h=>?_) (λ h=>?_)
 ·obtain ⟨b,g,z⟩:=Zg8 ⟨j,by omega⟩
  refine ⟨b,by omega,g,?_⟩;have l:=b.toNat_lt;rw [show IntKind.i32.wrap (b.toNat:Int)=(b.toNat:Int) by rw [IntKind.wrap_i32];omega];refine Br.e (λ u=>⟨?_,a⟩) (λ u=>?_)
  ·rw [Zsg (by omega) o (z.symm.trans u)]
  ·rw [Zc]
   refine ⟨⟨j + 1,by omega,by omega,λ k hk=>?_,a⟩,by dsimp only;omega⟩;by_cases y:k=j
   ·subst y;rw [<-z];exact u
   ·exact o k (by omega)
 ·exact ⟨by rw [Zsf (λ i hi=>o i (by omega))],a⟩
def YG (n:Int) (g:List Int) (lab:ByteArray):Int × Int:=if VK n g then GO n g.sum lab else (0,1)
def Zjx (c:Int) (l:List Int) (first:Bool) (row last:Int):prs (c::l) first row last=if 0<=last\/(first=true/\c=48)\/row>60 then none
  else if ZnM c then prs l false (10 * row + (c - 48)) last else if ZfM c<0 then none else prs l false row (ZfM c):=rfl
def Zpp {lab:ByteArray} {pos:Nat} (h:pos<lab.size):(ZE lab).drop pos=((lab[pos]'h).toNat:Int)::(ZE lab).drop (pos + 1):=by
 have hl:pos<(ZE lab).length:=by rw [Yf];exact h
 rw [qv hl]
 congr 1
 simp [ZE];rfl
def Zle:∀ i:Fin 10,YY i.1<=75:=by decide +kernel
def Zoj {c:Int} (h:128<=c):ZfM c<0:=by
 by_cases a:ZfM c<0
 ·exact a
 ·obtain ⟨d,o,i⟩:=ZfL a
  have:=Zle ⟨(ZfM c).toNat,by omega⟩;dsimp only at this;omega
def Zn3 {n:Int} {s:Sl} {g:List Int} {lab:ByteArray} (hs:RoI R s g) (N:lab.size<=9223372036854775807) (o:Sat R Hs w):
  Zg prog 247 #[.agg #[nI n,.slice s.a s.len s.cap],xZ lab] w λ v w'=>v=.tuple #[nI (YG n g lab).1,nI (YG n g lab).2]/\Sat R Hs w':=by
 apply ZsK;refine Za o λ p w o=>?_;have o:Sat R (pts p (WQ n s)::Hs) w:=o;refine ⟨n,s,oA o,?_⟩;refine (ZaU hs o).use ?_;rintro _ w ⟨rfl,o⟩;refine ⟨_,rfl,Br.nb (λ h=>⟨?_,o.drop⟩) (λ r=>?_)⟩
 ·unfold YG;rw [h];rfl
 have e:YG n g lab=GO n g.sum lab:=by unfold YG;rw [qf r]
 rw [e];obtain ⟨U,E,V⟩:=Z7.1 r;have W:=Gu E (by omega);refine Za o λ b w o=>?_;have no:prs (ZE lab) true 0 (-1)=none->GO n g.sum lab=(0,2):=λ h=>by unfold GO;rw [h]
 refine ⟨λ row last w=>∃ pos:Nat,pos<=lab.size/\prs ((ZE lab).drop pos) (decide (pos=0)) row last=prs (ZE lab) true 0 (-1)/\0<=row/\row<=700/\-1<=last/\last<10/\Sat R (pts b (.stringIter lab pos)::pts p (WQ n s)::Hs) w,
  λ _ _ w=>lab.size - w.iterPos b,⟨0,by omega,rfl,by omega,by omega,by omega,by omega,o⟩,?_⟩
 clear o;rintro _ row last w ⟨pos,L,i,X,Y,S,t1,o⟩;have f:w.iterPos b=pos:=by have:=o.at;simp [World.iterPos,this]
 refine ⟨b,lab,pos,rfl,o.at,λ u=>?_,λ u=>?_⟩
 ·rw [Zpp u] at i
  have F:=(lab[pos]'u).toNat_lt;have z:=o.setPts (.stringIter lab (pos + (Utf8.decode lab pos).2));generalize A:w.setBlock b (.stringIter lab (pos + (Utf8.decode lab pos).2))=w2 at z;have:({ w with heap:=w.heap.setIfInBounds b (.stringIter lab (pos + (Utf8.decode lab pos).2)) }:World)=w2:=A;rw [this];have M:((lab[pos]'u).toNat<128/\Utf8.decode lab pos=((lab[pos]'u).toNat,1))\/(128<=(lab[pos]'u).toNat/\128<=(Utf8.decode lab pos).1):=by
   by_cases h:(lab[pos]'u).toNat<128
   ·exact .inl ⟨h,decode_ascii lab pos u h⟩
   ·refine .inr ⟨by omega,Zof lab pos ?_⟩
    have e:lab.get! (pos + 0)=lab[pos]'u:=by
     show lab.get! pos=_;simp [ByteArray.get!,getElem!_pos,u];rfl
    rw [e];exact h
  clear this A;generalize O:Utf8.decode lab pos=dc at *;obtain ⟨c,G⟩:=dc;dsimp only at M z ⊢;generalize Q:(lab[pos]'u).toNat=l at *;have y:(c:Int)=l/\G=1\/128<=l/\128<=c:=by
   rcases M with ⟨_,h⟩|h
   ·simp only [jY] at h;exact .inl ⟨by omega,h.2⟩
   ·exact .inr h
  have D:(l:Int)=48↔(c:Int)=48:=by omega
  refine ⟨λ t w=>t=decide (0<=last\/(decide (pos=0)=true/\(l:Int)=48)\/row>60)/\Sat R (pts b (.stringIter lab (pos + G))::pts p (WQ n s)::Hs) w,?_,?_⟩
  ·refine Br.d (λ h=>⟨?_,z⟩) (λ h=>Br.e (λ q=>Br.e (λ m=>⟨?_,z⟩) (λ m=>⟨?_,z⟩)) (λ q=>⟨?_,z⟩))
   ·rw [qE (.inl h)]
   ·rw [qE (.inr (.inl ⟨qE (by omega),D.2 m⟩))]
   ·rw [qJ]
    constructor
    ·intro k;exact .inr (.inr k)
    ·rintro (k|⟨_,k⟩|k)
     ·omega
     ·exact absurd (D.1 k) m
     ·exact k
   ·rw [qJ]
    constructor
    ·intro k;exact .inr (.inr k)
    ·rintro (k|⟨k,_⟩|k)
     ·omega
     ·have:=qF k;omega
     ·exact k
  clear o z;rintro _ _ w3 ⟨rfl,o⟩;refine Br.d (λ h=>⟨?_,o.drop.drop⟩) (λ h=>?_)
  ·rw [Zjx] at i
   rw [qf h] at i;rw [no i.symm]
  rw [Zjx] at i;rw [qc h] at i;refine ⟨λ t w=>t=ZnM c/\Sat R (pts b (.stringIter lab (pos + G))::pts p (WQ n s)::Hs) w,?_,?_⟩
  ·unfold ZnM
   refine Br.d (λ h=>⟨?_,o⟩) (λ h=>⟨?_,o⟩)
   ·rw [qJ];omega
   ·rw [qz (by omega)]
  clear o;rintro _ _ w4 ⟨rfl,o⟩;refine Br.mk (λ q=>?_) (λ q=>?_)
  ·have m:=qF q
   rcases y with ⟨j,rfl⟩|y
   ·rw [<-j,qf q] at i
    rw [show IntKind.i32.wrap ((c:Int) - 48)=(c:Int) - 48 by rw [IntKind.wrap_i32];omega,Zc (x:=10 * row),Zc (x:=(c:Int) - 48),Zc];refine ⟨⟨pos + 1,by omega,?_,by omega,by omega,by omega,by omega,o⟩,?_⟩
    ·rw [qz (by omega)];exact i
    ·have:w4.iterPos b=pos + 1:=by have:=o.at;simp [World.iterPos,this]
     rw [this,f];omega
   ·omega
  ·refine (ZiV o).use ?_
   rintro _ w5 ⟨rfl,o⟩;refine ⟨_,rfl,Br.d (λ m=>⟨?_,o.drop.drop⟩) (λ m=>?_)⟩
   ·have H:ZfM (l:Int)<0:=by
     rcases y with ⟨j,rfl⟩|y
     ·rw [<-j];exact m
     ·exact Zoj (by omega)
    have I:ZnM (l:Int)=false:=by
     rcases y with ⟨j,rfl⟩|y
     ·rw [<-j];exact q
     ·exact qz (by omega)
    rw [I,qc (by simp),qf H] at i;rw [no i.symm]
   ·obtain ⟨C,B,T⟩:=ZfL m
    rcases y with ⟨j,rfl⟩|y
    ·rw [<-j,q,qc (by simp),qc m] at i
     refine ⟨⟨pos + 1,by omega,?_,by omega,by omega,by omega,by omega,o⟩,?_⟩
     ·rw [qz (by omega)];exact i
     ·have:w5.iterPos b=pos + 1:=by have:=o.at;simp [World.iterPos,this]
      rw [this,f];omega
    ·have:=Zoj (c:=(c:Int)) (by omega);omega
 ·rw [jg (by rw [Yf];omega)] at i
  have o:=o.drop;have ef:GO n g.sum lab=if row<1\/row>n\/last<0\/last >= g.sum then (0,2) else ((row - 1) * g.sum + last,0):=by
   unfold GO;rw [<-i];rfl
  rw [ef];refine Br.d (λ h=>⟨by rw [qf (.inl h)],o.drop⟩) (λ P=>?_);refine ⟨n,oA o,Br.d (λ h=>⟨by rw [qf (.inr (.inl h))],o.drop⟩) (λ q=>?_)⟩;refine Br.d (λ h=>⟨by rw [qf (.inr (.inr (.inl h)))],o.drop⟩) (λ m=>?_);refine ⟨n,s,oA o,?_⟩;refine (Ws hs (λ x J=>by have:=E x J;omega) (by omega) o).use ?_;rintro _ w ⟨rfl,o⟩;refine ⟨_,rfl,Br.d (λ h=>⟨by rw [qf (.inr (.inr (.inr h)))],o.drop⟩) (λ k=>?_)⟩;refine ⟨n,s,oA o,?_⟩;refine (Ws hs (λ x J=>by have:=E x J;omega) (by omega) o).use ?_;rintro _ w ⟨rfl,o⟩;refine ⟨_,rfl,?_,o.drop⟩;have hm:=Zqs (a:=row - 1) (b:=g.sum) (by omega) (by omega) (by omega) (by omega);rw [qc (by omega),Zc (x:=row - 1),Zc (x:=(row - 1) * g.sum),Zc]
end
end Go.Proofs.YtlplemdmegpoeaaGreatDoor
