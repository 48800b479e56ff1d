/- The formulas of functions of this seat's translation, printed by a program of mine off the translation; each is proved equal to 'fnF' of the function's body, so it is enough for the call. No condition. -/
import Derived.Test.YthpmfnffkjjlnaaGreatB4
import Derived.Test.YthpmfnffkjjlnaaGreatB3
set_option linter.unusedVariables false
set_option linter.unusedSimpArgs false
namespace Go.Proofs.YthpmfnffkjjlnaaGreat
section
open Go Go.VC Tryz
set_option maxRecDepth 10000
def B65 (i:Option Addr) (b6:Int) (b7:Int) (ca:Int) (cb:Int) (cc:Int) (cd:Int) (ce:Bool) (cf:Int) (cg:Int) (ch:Int) (F:Sl) (b8:Int) (b9:Int) (G:Sl) (H:Sl) (I:Sl) (K:Value->World->Prop) (w:World):Prop:=
 New (.cells #[.int .i64 b6,.int .i64 b7,.int .i64 ca,.int .i64 cb,.int .i64 cc,.int .i64 cd,.bool ce,.int .i64 cf,.int .i64 cg,.int .i64 ch,.slice F.a F.len F.cap,.int .i64 b8,.int .i64 b9,.slice G.a G.len G.cap,.slice H.a H.len H.cap,.slice I.a I.len I.cap] 71 (0,0)) (λ d ci=>
 ∃ (L:World->Prop),(Drw ci λ g bx=>
 ∃ ai:Int,(At g ⟨d,0 + 2,none⟩ [.int .i64 ai])/\
 Zb i λ N=>
 ∃ O:Int,(At g ⟨N.block,N.off + 1,none⟩ [.int .i64 O])/\
 Br (ai !=O)
 (K (.tuple #[]) bx)
 (∃ Q:Int,(At g ⟨d,0 + 1,none⟩ [.int .i64 Q])/\
 Calls prog 135 #[.int .i64 Q,.int .i64 1,.int .i64 15] bx λ bz E=>
 ∃ T:Bool,(bz=.returned (.bool T))/\
 (g E)/\
 Br (!T)
 (K (.tuple #[]) E)
 (∃ U:Int,(At g ⟨d,0 + 1,none⟩ [.int .i64 U])/\
 Zb i λ M=>
 ∃ V:Int,(At g ⟨M.block,M.off + 1,none⟩ [.int .i64 V])/\
 Br (U==V)
 (K (.tuple #[]) E)
 (∃ X:Int,(At g ⟨d,0 + 3,none⟩ [.int .i64 X])/\
 Calls prog 135 #[.int .i64 X,.int .i64 0,.int .i64 1099511627776] E λ b0 J=>
 ∃ Y:Bool,(b0=.returned (.bool Y))/\
 (g J)/\
 Br (!Y)
 (K (.tuple #[]) J)
 (L  J)))))/\
 ∀ (co:Env)  (A:World),L  A->
 ∃ c:Int,(At (λ b=>b=A) ⟨d,0,none⟩ [.int .i64 c])/\
 ∃ (C:Bool->World->Prop),(Br (c==1)
 (C (c==1) A)
 (Br (c==2)
 (C (c==2) A)
 (Br (c==3)
 (C (c==3) A)
 (C (c==4) A))))/\
 ∀ (cp:Env) (Z:Bool) (e:World),C Z e->
 Br Z
 (∃ aa:Int,(At (λ b=>b=e) ⟨d,0,none⟩ [.int .i64 aa])/\
 ∃ ab:Int,(At (λ b=>b=e) ⟨d,0 + 1,none⟩ [.int .i64 ab])/\
 ∃ ac:Int,(At (λ b=>b=e) ⟨d,0 + 2,none⟩ [.int .i64 ac])/\
 ∃ ad:Int,(At (λ b=>b=e) ⟨d,0 + 3,none⟩ [.int .i64 ad])/\
 ∃ ae:Int,(At (λ b=>b=e) ⟨d,0 + 4,none⟩ [.int .i64 ae])/\
 ∃ af:Int,(At (λ b=>b=e) ⟨d,0 + 5,none⟩ [.int .i64 af])/\
 ∃ ag:Bool,(At (λ b=>b=e) ⟨d,0 + 6,none⟩ [.bool ag])/\
 Calls prog 136 #[.pointer i,.agg #[.int .i64 aa,.int .i64 ab,.int .i64 ac,.int .i64 ad,.int .i64 ae,.int .i64 af,.bool ag]] e λ b1 cm=>
 (b1=.returned (.tuple #[]))/\
 K (.tuple #[]) cm)
 (∃ (D:Bool->World->Prop),(Br (c==5)
 (D (c==5) e)
 (Br (c==7)
 (D (c==7) e)
 (D (c==9) e)))/\
 ∀ (cq:Env) (ah:Bool) (f:World),D ah f->
 Br ah
 (∃ aj:Int,∃ ak:Int,∃ an:Int,∃ ao:Int,∃ ap:Int,∃ aq:Int,∃ ar:Bool,∃ au:Int,∃ av:Int,∃ aw:Int,∃ j:Sl,∃ al:Int,∃ am:Int,∃ k:Sl,∃ l:Sl,∃ m:Sl,(At (λ b=>b=f) ⟨d,0,none⟩ [.int .i64 aj,.int .i64 ak,.int .i64 an,.int .i64 ao,.int .i64 ap,.int .i64 aq,.bool ar,.int .i64 au,.int .i64 av,.int .i64 aw,.slice j.a j.len j.cap,.int .i64 al,.int .i64 am,.slice k.a k.len k.cap,.slice l.a l.len l.cap,.slice m.a m.len m.cap])/\
 Calls prog 137 #[.pointer i,.agg #[.int .i64 aj,.int .i64 ak,.int .i64 an,.int .i64 ao,.int .i64 ap,.int .i64 aq,.bool ar,.int .i64 au,.int .i64 av,.int .i64 aw,.slice j.a j.len j.cap,.int .i64 al,.int .i64 am,.slice k.a k.len k.cap,.slice l.a l.len l.cap,.slice m.a m.len m.cap]] f λ b2 cn=>
 (b2=.returned (.tuple #[]))/\
 K (.tuple #[]) cn)
 (Br (c==6)
 (Br (c==6)
 (∃ ax:Int,∃ ay:Int,∃ a5:Int,∃ be:Int,∃ bn:Int,∃ bs:Int,∃ bt:Bool,∃ bu:Int,∃ bv:Int,∃ bw:Int,∃ n:Sl,∃ az:Int,∃ a0:Int,∃ o:Sl,∃ p:Sl,∃ q:Sl,(At (λ b=>b=f) ⟨d,0,none⟩ [.int .i64 ax,.int .i64 ay,.int .i64 a5,.int .i64 be,.int .i64 bn,.int .i64 bs,.bool bt,.int .i64 bu,.int .i64 bv,.int .i64 bw,.slice n.a n.len n.cap,.int .i64 az,.int .i64 a0,.slice o.a o.len o.cap,.slice p.a p.len p.cap,.slice q.a q.len q.cap])/\
 Calls prog 138 #[.pointer i,.agg #[.int .i64 ax,.int .i64 ay,.int .i64 a5,.int .i64 be,.int .i64 bn,.int .i64 bs,.bool bt,.int .i64 bu,.int .i64 bv,.int .i64 bw,.slice n.a n.len n.cap,.int .i64 az,.int .i64 a0,.slice o.a o.len o.cap,.slice p.a p.len p.cap,.slice q.a q.len q.cap]] f λ b3 cj=>
 (b3=.returned (.tuple #[]))/\
 K (.tuple #[]) cj)
 (K (.tuple #[]) f))
 (Br (c==8)
 (Br (c==8)
 (∃ a1:Int,∃ a2:Int,∃ a3:Int,∃ a4:Int,∃ a6:Int,∃ a7:Int,∃ a8:Bool,∃ a9:Int,∃ ba:Int,∃ bb:Int,∃ r:Sl,∃ bc:Int,∃ bd:Int,∃ s:Sl,∃ t:Sl,∃ u:Sl,(At (λ b=>b=f) ⟨d,0,none⟩ [.int .i64 a1,.int .i64 a2,.int .i64 a3,.int .i64 a4,.int .i64 a6,.int .i64 a7,.bool a8,.int .i64 a9,.int .i64 ba,.int .i64 bb,.slice r.a r.len r.cap,.int .i64 bc,.int .i64 bd,.slice s.a s.len s.cap,.slice t.a t.len t.cap,.slice u.a u.len u.cap])/\
 Calls prog 138 #[.pointer i,.agg #[.int .i64 a1,.int .i64 a2,.int .i64 a3,.int .i64 a4,.int .i64 a6,.int .i64 a7,.bool a8,.int .i64 a9,.int .i64 ba,.int .i64 bb,.slice r.a r.len r.cap,.int .i64 bc,.int .i64 bd,.slice s.a s.len s.cap,.slice t.a t.len t.cap,.slice u.a u.len u.cap]] f λ b4 ck=>
 (b4=.returned (.tuple #[]))/\
 K (.tuple #[]) ck)
 (K (.tuple #[]) f))
 (Br (c==10)
 (∃ bf:Int,∃ bg:Int,∃ bh:Int,∃ bi:Int,∃ bj:Int,∃ bk:Int,∃ bl:Bool,∃ bm:Int,∃ bo:Int,∃ bp:Int,∃ v:Sl,∃ bq:Int,∃ br:Int,∃ x:Sl,∃ y:Sl,∃ z:Sl,(At (λ b=>b=f) ⟨d,0,none⟩ [.int .i64 bf,.int .i64 bg,.int .i64 bh,.int .i64 bi,.int .i64 bj,.int .i64 bk,.bool bl,.int .i64 bm,.int .i64 bo,.int .i64 bp,.slice v.a v.len v.cap,.int .i64 bq,.int .i64 br,.slice x.a x.len x.cap,.slice y.a y.len y.cap,.slice z.a z.len z.cap])/\
 Calls prog 138 #[.pointer i,.agg #[.int .i64 bf,.int .i64 bg,.int .i64 bh,.int .i64 bi,.int .i64 bj,.int .i64 bk,.bool bl,.int .i64 bm,.int .i64 bo,.int .i64 bp,.slice v.a v.len v.cap,.int .i64 bq,.int .i64 br,.slice x.a x.len x.cap,.slice y.a y.len y.cap,.slice z.a z.len z.cap]] f λ b5 cl=>
 (b5=.returned (.tuple #[]))/\
 K (.tuple #[]) cl)
 (K (.tuple #[]) f)))))) w
def sk65:Sk:=(.seq .leaf (.seq .leaf (.cut [] [] [5,6,7,8,9,10,11,12,13,14,15,16,17,18,19,20,21,22,23,24,25,26,27,28,29,30,31,32,33,34] .leaf (.seq .leaf (.block (.cut [37] [.bool] [37,38,39,40,41] .leaf (.cond .leaf (.cut [59] [.bool] [59,60,61,62] .leaf .leaf))))))))
theorem ZpL (s:Option Addr) (f:Int) (g:Int) (k:Int) (l:Int) (m:Int) (n:Int) (o:Bool) (p:Int) (q:Int) (r:Int) (b:Sl) (i:Int) (j:Int) (c:Sl) (d:Sl) (e:Sl) (K:Value->World->Prop) (w:World) (h:B65 s f g k l m n o p q r b i j c d e K w):Zj prog 65 #[.pointer s,.agg #[.int .i64 f,.int .i64 g,.int .i64 k,.int .i64 l,.int .i64 m,.int .i64 n,.bool o,.int .i64 p,.int .i64 q,.int .i64 r,.slice b.a b.len b.cap,.int .i64 i,.int .i64 j,.slice c.a c.len c.cap,.slice d.a d.len d.cap,.slice e.a e.len e.cap]] w K:=cq (sk:=sk65) func65 (by kernel_rfl) (by kernel_rfl) (by kernel_rfl) h
def B135 (a:Int) (c:Int) (b:Int) (K:Value->World->Prop) (w:World):Prop:=
 Br (decide (a >= c))
 (K (.bool (decide (a<=b))) w)
 (K (.bool false) w)
theorem Zot (c:Int) (b:Int) (a:Int) (K:Value->World->Prop) (w:World) (h:B135 c b a K w):Zj prog 135 #[.int .i64 c,.int .i64 b,.int .i64 a] w K:=cq (sk:=.leaf) func135 (by kernel_rfl) (by kernel_rfl) (by kernel_rfl) h
def B136 (c:Option Addr) (C:Int) (D:Int) (E:Int) (F:Int) (G:Int) (H:Int) (I:Bool) (K:Value->World->Prop) (w:World):Prop:=
 New (.cells #[.int .i64 C,.int .i64 D,.int .i64 E,.int .i64 F,.int .i64 G,.int .i64 H,.bool I] 161 (0,0)) (λ J u=>
 Zb c λ A=>
 ∃ s:Option Addr,(At (λ e=>e=u) (Addr.add A 0) [.pointer s])/\
 Calls prog 16 #[.pointer s] u λ L T=>
 ∃ t:Int,(L=.returned (.int .i64 t))/\
 Drw T λ d v=>
 Zb c λ z=>
 ∃ g:Option Addr,(At d (Addr.add z 0) [.pointer g])/\
 ∃ i:Int,∃ j:Int,∃ k:Int,∃ l:Int,∃ m:Int,∃ n:Int,∃ o:Bool,(At d ⟨J,0,none⟩ [.int .i64 i,.int .i64 j,.int .i64 k,.int .i64 l,.int .i64 m,.int .i64 n,.bool o])/\
 Zb c λ f=>
 ∃ p:Option Addr,(At (λ e=>e=v) ⟨f.block,f.off + 3,none⟩ [.pointer p])/\
 Calls prog 39 #[.pointer p] v λ M x=>
 ∃ q:Int,(M=.returned (.int .i64 q))/\
 (d x)/\
 Calls prog 40 #[.pointer c] x λ N y=>
 ∃ r:Int,(N=.returned (.int .i64 r))/\
 (d y)/\
 Calls prog 185 #[.pointer g,.agg #[.int .i64 i,.int .i64 j,.int .i64 k,.int .i64 l,.int .i64 m,.int .i64 n,.bool o],.int .i64 q,.int .i64 r] y λ O U=>
 ∃ b:Sl,(O=.returned (.slice b.a b.len b.cap))/\
 Calls prog 37 #[.pointer c,.bool (t==3),.slice b.a b.len b.cap] U λ Q V=>
 (Q=.returned (.tuple #[]))/\
 K (.tuple #[]) V) w
def Zq4:Sk:=(.seq .leaf (.seq .leaf (.cond .leaf .leaf)))
theorem Zos (i:Option Addr) (a:Int) (b:Int) (c:Int) (d:Int) (e:Int) (f:Int) (g:Bool) (K:Value->World->Prop) (w:World) (h:B136 i a b c d e f g K w):Zj prog 136 #[.pointer i,.agg #[.int .i64 a,.int .i64 b,.int .i64 c,.int .i64 d,.int .i64 e,.int .i64 f,.bool g]] w K:=cq (sk:=Zq4) func136 (by kernel_rfl) (by kernel_rfl) (by kernel_rfl) h
def B137 (d:Option Addr) (bg:Int) (bh:Int) (bk:Int) (bl:Int) (bm:Int) (bn:Int) (bo:Bool) (bp:Int) (bq:Int) (br:Int) (s:Sl) (bi:Int) (bj:Int) (t:Sl) (u:Sl) (v:Sl) (K:Value->World->Prop) (w:World):Prop:=
 New (.cells #[.int .i64 bg,.int .i64 bh,.int .i64 bk,.int .i64 bl,.int .i64 bm,.int .i64 bn,.bool bo,.int .i64 bp,.int .i64 bq,.int .i64 br,.slice s.a s.len s.cap,.int .i64 bi,.int .i64 bj,.slice t.a t.len t.cap,.slice u.a u.len u.cap,.slice v.a v.len v.cap] 71 (0,0)) (λ c bt=>
 Drw bt λ z a1=>
 ∃ ad:Int,(At z ⟨c,0 + 3,none⟩ [.int .i64 ad])/\
 Zb d λ a5=>
 ∃ ax:Option Addr,(At (λ b=>b=a1) (Addr.add a5 0) [.pointer ax])/\
 Calls prog 23 #[.pointer ax] a1 λ a6 o=>
 ∃ E:Int,∃ bs:Int,(a6=.returned (.agg #[.int .i64 E,.int .i64 bs]))/\
 (z o)/\
 Br (decide (ad<E))
 (∃ F:Int,(At (λ b=>b=o) ⟨c,0,none⟩ [.int .i64 F])/\
 ∃ G:Int,(At (λ b=>b=o) ⟨c,0 + 1,none⟩ [.int .i64 G])/\
 ∃ H:Int,(At (λ b=>b=o) ⟨c,0 + 4,none⟩ [.int .i64 H])/\
 Calls prog 105 #[.pointer d,.agg #[.int .i64 (IntKind.i64.wrap (F + 1)),.int .i64 0,.int .i64 G,.int .i64 0,.int .i64 H,.int .i64 0,.bool false,.int .i64 0,.int .i64 0,.int .i64 0,.slice none 0 0,.int .i64 0,.int .i64 0,.slice none 0 0,.slice none 0 0,.slice none 0 0]] o λ a7 bx=>
 (a7=.returned (.tuple #[]))/\
 K (.tuple #[]) bx)
 (Drw o λ b0 q=>
 Zb d λ a4=>
 ∃ I:Option Addr,(At (λ b=>b=q) (Addr.add a4 0) [.pointer I])/\
 ∃ J:Int,(At (λ b=>b=q) ⟨c,0 + 1,none⟩ [.int .i64 J])/\
 ∃ L:Int,(At (λ b=>b=q) ⟨c,0 + 3,none⟩ [.int .i64 L])/\
 Calls prog 186 #[.pointer I,.int .i64 J,.int .i64 L] q λ a8 a2=>
 ∃ M:Bool,(a8=.returned (.bool M))/\
 Br (!M)
 (K (.tuple #[]) a2)
 (Calls prog 37 #[.pointer d,.bool false,.slice none 0 0] a2 λ a9 e=>
 (a9=.returned (.tuple #[]))/\
 ∃ p:Int,(At (λ b=>b=e) ⟨c,0,none⟩ [.int .i64 p])/\
 Br (p==5)
 (∃ N:Int,∃ O:Int,∃ U:Int,∃ V:Int,∃ X:Int,∃ Y:Int,∃ Z:Bool,∃ aa:Int,∃ ab:Int,∃ ac:Int,∃ f:Sl,∃ Q:Int,∃ T:Int,∃ g:Sl,∃ i:Sl,∃ j:Sl,(At (λ b=>b=e) ⟨c,0,none⟩ [.int .i64 N,.int .i64 O,.int .i64 U,.int .i64 V,.int .i64 X,.int .i64 Y,.bool Z,.int .i64 aa,.int .i64 ab,.int .i64 ac,.slice f.a f.len f.cap,.int .i64 Q,.int .i64 T,.slice g.a g.len g.cap,.slice i.a i.len i.cap,.slice j.a j.len j.cap])/\
 Calls prog 187 #[.pointer d,.agg #[.int .i64 N,.int .i64 O,.int .i64 U,.int .i64 V,.int .i64 X,.int .i64 Y,.bool Z,.int .i64 aa,.int .i64 ab,.int .i64 ac,.slice f.a f.len f.cap,.int .i64 Q,.int .i64 T,.slice g.a g.len g.cap,.slice i.a i.len i.cap,.slice j.a j.len j.cap]] e λ ba bz=>
 (ba=.returned (.tuple #[]))/\
 K (.tuple #[]) bz)
 (Br (p==7)
 (Drw e λ A a3=>
 ∃ x:Int,(At A ⟨c,0 + 7,none⟩ [.int .i64 x])/\
 Zb d λ C=>
 ∃ ae:Option Addr,(At (λ b=>b=a3) ⟨C.block,C.off + 3,none⟩ [.pointer ae])/\
 Calls prog 39 #[.pointer ae] a3 λ bb ay=>
 ∃ y:Int,(bb=.returned (.int .i64 y))/\
 (A ay)/\
 Calls prog 188 #[.pointer d,.int .i64 (if y<x then y else x)] ay λ bc bu=>
 (bc=.returned (.tuple #[]))/\
 Drw bu λ r az=>
 ∃ af:Int,(At r ⟨c,0 + 1,none⟩ [.int .i64 af])/\
 ∃ ag:Int,(At r ⟨c,0 + 9,none⟩ [.int .i64 ag])/\
 Zb d λ D=>
 ∃ ah:Option Addr,(At (λ b=>b=az) ⟨D.block,D.off + 3,none⟩ [.pointer ah])/\
 Calls prog 39 #[.pointer ah] az λ bd a0=>
 ∃ ai:Int,(bd=.returned (.int .i64 ai))/\
 (r a0)/\
 Calls prog 105 #[.pointer d,.agg #[.int .i64 8,.int .i64 0,.int .i64 af,.int .i64 0,.int .i64 ai,.int .i64 0,.bool true,.int .i64 0,.int .i64 0,.int .i64 ag,.slice none 0 0,.int .i64 0,.int .i64 0,.slice none 0 0,.slice none 0 0,.slice none 0 0]] a0 λ be bv=>
 (be=.returned (.tuple #[]))/\
 K (.tuple #[]) bv)
 (Br (p==9)
 (∃ aj:Int,∃ ak:Int,∃ an:Int,∃ ao:Int,∃ ap:Int,∃ aq:Int,∃ ar:Bool,∃ au:Int,∃ av:Int,∃ aw:Int,∃ k:Sl,∃ al:Int,∃ am:Int,∃ l:Sl,∃ m:Sl,∃ n:Sl,(At (λ b=>b=e) ⟨c,0,none⟩ [.int .i64 aj,.int .i64 ak,.int .i64 an,.int .i64 ao,.int .i64 ap,.int .i64 aq,.bool ar,.int .i64 au,.int .i64 av,.int .i64 aw,.slice k.a k.len k.cap,.int .i64 al,.int .i64 am,.slice l.a l.len l.cap,.slice m.a m.len m.cap,.slice n.a n.len n.cap])/\
 Calls prog 189 #[.pointer d,.agg #[.int .i64 aj,.int .i64 ak,.int .i64 an,.int .i64 ao,.int .i64 ap,.int .i64 aq,.bool ar,.int .i64 au,.int .i64 av,.int .i64 aw,.slice k.a k.len k.cap,.int .i64 al,.int .i64 am,.slice l.a l.len l.cap,.slice m.a m.len m.cap,.slice n.a n.len n.cap]] e λ bf bw=>
 (bf=.returned (.tuple #[]))/\
 K (.tuple #[]) bw)
 (K (.tuple #[]) e)))))) w
def Zq3:Sk:=(.seq .leaf (.seq (.seq (.cond .leaf .leaf) .leaf) (.seq (.seq (.cond .leaf .leaf) .leaf) (.seq .leaf (.seq .leaf (.block (.seq .leaf (.cond .leaf (.seq .leaf (.cond (.seq (.cond .leaf .leaf) (.cond .leaf .leaf)) .leaf))))))))))
theorem Zor (s:Option Addr) (f:Int) (g:Int) (k:Int) (l:Int) (m:Int) (n:Int) (o:Bool) (p:Int) (q:Int) (r:Int) (b:Sl) (i:Int) (j:Int) (c:Sl) (d:Sl) (e:Sl) (K:Value->World->Prop) (w:World) (h:B137 s f g k l m n o p q r b i j c d e K w):Zj prog 137 #[.pointer s,.agg #[.int .i64 f,.int .i64 g,.int .i64 k,.int .i64 l,.int .i64 m,.int .i64 n,.bool o,.int .i64 p,.int .i64 q,.int .i64 r,.slice b.a b.len b.cap,.int .i64 i,.int .i64 j,.slice c.a c.len c.cap,.slice d.a d.len d.cap,.slice e.a e.len e.cap]] w K:=cq (sk:=Zq3) func137 (by kernel_rfl) (by kernel_rfl) (by kernel_rfl) h
def B138 (d:Option Addr) (a7:Int) (a8:Int) (bb:Int) (bc:Int) (bd:Int) (be:Int) (bf:Bool) (bg:Int) (bh:Int) (bi:Int) (m:Sl) (a9:Int) (ba:Int) (n:Sl) (o:Sl) (p:Sl) (K:Value->World->Prop) (w:World):Prop:=
 New (.cells #[.int .i64 a7,.int .i64 a8,.int .i64 bb,.int .i64 bc,.int .i64 bd,.int .i64 be,.bool bf,.int .i64 bg,.int .i64 bh,.int .i64 bi,.slice m.a m.len m.cap,.int .i64 a9,.int .i64 ba,.slice n.a n.len n.cap,.slice o.a o.len o.cap,.slice p.a p.len p.cap] 71 (0,0)) (λ c am=>
 Zb d λ aq=>
 ∃ C:Option Addr,(At (λ b=>b=am) (Addr.add aq 0) [.pointer C])/\
 Calls prog 23 #[.pointer C] am λ ar i=>
 ∃ q:Int,∃ bk:Int,(ar=.returned (.agg #[.int .i64 q,.int .i64 bk]))/\
 ∃ H:Int,(At (λ b=>b=i) ⟨c,0 + 3,none⟩ [.int .i64 H])/\
 Br (decide (H>q))
 (Drw i λ bt k=>
 ∃ I:Int,(At (λ b=>b=k) ⟨c,0 + 1,none⟩ [.int .i64 I])/\
 Zb d λ x=>
 ∃ J:Int,(At (λ b=>b=k) ⟨x.block,x.off + 1,none⟩ [.int .i64 J])/\
 ∃ L:Int,(At (λ b=>b=k) ⟨c,0 + 3,none⟩ [.int .i64 L])/\
 Calls prog 136 #[.pointer d,.agg #[.int .i64 4,.int .i64 I,.int .i64 J,.int .i64 L,.int .i64 0,.int .i64 0,.bool false]] k λ au bq=>
 (au=.returned (.tuple #[]))/\
 K (.tuple #[]) bq)
 (∃ M:Int,(At (λ b=>b=i) ⟨c,0 + 3,none⟩ [.int .i64 M])/\
 Br (decide (M<q))
 (K (.tuple #[]) i)
 (Drw i λ bu f=>
 Zb d λ y=>
 ∃ N:Option Nat,(At (λ b=>b=f) ⟨y.block,y.off + 11,none⟩ [.map N])/\
 ∃ O:Int,(At (λ b=>b=f) ⟨c,0 + 1,none⟩ [.int .i64 O])/\
 ∃ g:Option Addr,∃ Q:Bool,(∀ b,(λ b=>b=f) b->((Instr.lookup 55 (.map N) (.int .i64 O) true)).run prog b=.ok (.tuple #[.pointer g,.bool Q]) b)/\
 Br (!Q)
 (K (.tuple #[]) f)
 (∃ T:Int,(At (λ b=>b=f) ⟨c,0,none⟩ [.int .i64 T])/\
 Br (T==8)
 (∃ U:Int,(At (λ b=>b=f) ⟨c,0 + 1,none⟩ [.int .i64 U])/\
 ∃ V:Int,(At (λ b=>b=f) ⟨c,0 + 9,none⟩ [.int .i64 V])/\
 Calls prog 190 #[.pointer d,.int .i64 U,.int .i64 V] f λ az br=>
 (az=.returned (.tuple #[]))/\
 Drw br λ u bs=>
 Zb d λ z=>
 ∃ Y:Option Addr,(At u ⟨z.block,z.off + 3,none⟩ [.pointer Y])/\
 Calls prog 106 #[.pointer g] bs λ a0 ap=>
 ∃ X:Int,(a0=.returned (.int .i64 X))/\
 (u ap)/\
 Calls prog 39 #[.pointer Y] ap λ a1 t=>
 ∃ Z:Int,(a1=.returned (.int .i64 Z))/\
 Br (decide (X<Z))
 (∃ aa:Int,(At (λ b=>b=t) ⟨c,0 + 1,none⟩ [.int .i64 aa])/\
 Calls prog 46 #[.pointer d,.int .i64 aa] t λ a2 bl=>
 (a2=.returned (.tuple #[]))/\
 K (.tuple #[]) bl)
 (K (.tuple #[]) t))
 (∃ (l:Bool->World->Prop),(Drw f λ v j=>
 ∃ ac:Bool,(At (λ b=>b=j) ⟨c,0 + 6,none⟩ [.bool ac])/\
 Br ac
 (∃ ad:Int,(At v ⟨c,0 + 4,none⟩ [.int .i64 ad])/\
 Zb d λ A=>
 ∃ ae:Option Addr,(At (λ b=>b=j) ⟨A.block,A.off + 3,none⟩ [.pointer ae])/\
 Calls prog 39 #[.pointer ae] j λ a3 an=>
 ∃ af:Int,(a3=.returned (.int .i64 af))/\
 (v an)/\
 l (decide (ad<=af)) an)
 (l false j))/\
 ∀ (bv:Env) (ab:Bool) (e:World),l ab e->
 Br ab
 (∃ ag:Int,(At (λ b=>b=e) ⟨c,0 + 4,none⟩ [.int .i64 ag])/\
 Calls prog 191 #[.pointer g,.int .i64 ag] e λ a4 r=>
 ∃ ah:Bool,(a4=.returned (.bool ah))/\
 Br ah
 (Calls prog 93 #[.pointer d] r λ a5 ao=>
 (a5=.returned (.tuple #[]))/\
 ∃ ai:Int,(At (λ b=>b=ao) ⟨c,0 + 1,none⟩ [.int .i64 ai])/\
 Calls prog 46 #[.pointer d,.int .i64 ai] ao λ a6 bm=>
 (a6=.returned (.tuple #[]))/\
 K (.tuple #[]) bm)
 (∃ aj:Int,(At (λ b=>b=r) ⟨c,0 + 1,none⟩ [.int .i64 aj])/\
 Calls prog 46 #[.pointer d,.int .i64 aj] r λ av bn=>
 (av=.returned (.tuple #[]))/\
 K (.tuple #[]) bn))
 (∃ ak:Bool,(At (λ b=>b=e) ⟨c,0 + 6,none⟩ [.bool ak])/\
 Br ak
 (K (.tuple #[]) e)
 (∃ al:Int,(At (λ b=>b=e) ⟨c,0,none⟩ [.int .i64 al])/\
 Br (al==10)
 (Calls prog 44 #[.pointer g,.bool false] e λ aw bo=>
 ∃ bj:Bool,(aw=.returned (.bool bj))/\
 K (.tuple #[]) bo)
 (∃ D:Int,(At (λ b=>b=e) ⟨c,0 + 4,none⟩ [.int .i64 D])/\
 ∃ E:Int,(At (λ b=>b=e) ⟨c,0 + 8,none⟩ [.int .i64 E])/\
 Calls prog 192 #[.pointer g,.int .i64 D,.int .i64 E] e λ ax s=>
 ∃ F:Bool,(ax=.returned (.bool F))/\
 Br F
 (∃ G:Int,(At (λ b=>b=s) ⟨c,0 + 1,none⟩ [.int .i64 G])/\
 Calls prog 46 #[.pointer d,.int .i64 G] s λ ay bp=>
 (ay=.returned (.tuple #[]))/\
 K (.tuple #[]) bp)
 (K (.tuple #[]) s))))))))) w
def Zq2:Sk:=(.seq .leaf (.seq (.seq .leaf (.block (.seq .leaf (.cond (.seq (.cond .leaf .leaf) .leaf) .leaf)))) (.seq (.cond .leaf .leaf) (.block (.seq .leaf (.cond .leaf (.seq .leaf (.cond (.seq .leaf (.seq (.cond .leaf .leaf) .leaf)) (.cut [69] [.bool] [69,70,71,72,73,74,75,76,77,78,79,80,81] (.cond .leaf .leaf) .leaf)))))))))
theorem Zoq (s:Option Addr) (f:Int) (g:Int) (k:Int) (l:Int) (m:Int) (n:Int) (o:Bool) (p:Int) (q:Int) (r:Int) (b:Sl) (i:Int) (j:Int) (c:Sl) (d:Sl) (e:Sl) (K:Value->World->Prop) (w:World) (h:B138 s f g k l m n o p q r b i j c d e K w):Zj prog 138 #[.pointer s,.agg #[.int .i64 f,.int .i64 g,.int .i64 k,.int .i64 l,.int .i64 m,.int .i64 n,.bool o,.int .i64 p,.int .i64 q,.int .i64 r,.slice b.a b.len b.cap,.int .i64 i,.int .i64 j,.slice c.a c.len c.cap,.slice d.a d.len d.cap,.slice e.a e.len e.cap]] w K:=cq (sk:=Zq2) func138 (by kernel_rfl) (by kernel_rfl) (by kernel_rfl) h
def B187 (d:Option Addr) (V:Int) (X:Int) (aa:Int) (ab:Int) (ac:Int) (ad:Int) (ae:Bool) (af:Int) (ag:Int) (ah:Int) (o:Sl) (Y:Int) (Z:Int) (p:Sl) (q:Sl) (r:Sl) (K:Value->World->Prop) (w:World):Prop:=
 New (.cells #[.int .i64 V,.int .i64 X,.int .i64 aa,.int .i64 ab,.int .i64 ac,.int .i64 ad,.bool ae,.int .i64 af,.int .i64 ag,.int .i64 ah,.slice o.a o.len o.cap,.int .i64 Y,.int .i64 Z,.slice p.a p.len p.cap,.slice q.a q.len q.cap,.slice r.a r.len r.cap] 71 (0,0)) (λ c ai=>
 Drw ai λ am g=>
 Zb d λ x=>
 ∃ y:Option Addr,(At (λ b=>b=g) ⟨x.block,x.off + 3,none⟩ [.pointer y])/\
 ∃ z:Int,(At (λ b=>b=g) ⟨c,0 + 4,none⟩ [.int .i64 z])/\
 ∃ A:Int,(At (λ b=>b=g) ⟨c,0 + 5,none⟩ [.int .i64 A])/\
 ∃ e:Sl,(At (λ b=>b=g) ⟨c,0 + 10,none⟩ [.slice e.a e.len e.cap])/\
 Calls prog 235 #[.pointer y,.int .i64 z,.int .i64 A,.slice e.a e.len e.cap] g λ M k=>
 ∃ s:Int,∃ t:Int,(M=.returned (.tuple #[.int .i64 s,.int .i64 t]))/\
 Br (t==0)
 (∃ (m:World->Prop),(Br (decide (s>0))
 (Calls prog 159 #[.pointer d,.int .i64 s] k λ N ak=>
 (N=.returned (.tuple #[]))/\
 m  ak)
 (m  k))/\
 ∀ (an:Env)  (i:World),m  i->
 ∃ j:Int,(At (λ b=>b=i) ⟨c,0 + 4,none⟩ [.int .i64 j])/\
 ∃ f:Sl,(At (λ b=>b=i) ⟨c,0 + 10,none⟩ [.slice f.a f.len f.cap])/\
 ∃ u:Int,(At (λ b=>b=i) ⟨c,0 + 7,none⟩ [.int .i64 u])/\
 Calls prog 188 #[.pointer d,.int .i64 (if IntKind.i64.wrap (j + (↑f.len:Int))<u then IntKind.i64.wrap (j + (↑f.len:Int)) else u)] i λ O J=>
 (O=.returned (.tuple #[]))/\
 ∃ C:Int,(At (λ b=>b=J) ⟨c,0 + 1,none⟩ [.int .i64 C])/\
 Calls prog 105 #[.pointer d,.agg #[.int .i64 6,.int .i64 0,.int .i64 C,.int .i64 0,.int .i64 (IntKind.i64.wrap (j + (↑f.len:Int))),.int .i64 0,.bool true,.int .i64 0,.int .i64 0,.int .i64 0,.slice none 0 0,.int .i64 0,.int .i64 0,.slice none 0 0,.slice none 0 0,.slice none 0 0]] J λ Q al=>
 (Q=.returned (.tuple #[]))/\
 K (.tuple #[]) al)
 (Br (t==7)
 (Drw k λ n l=>
 ∃ D:Int,(At n ⟨c,0 + 1,none⟩ [.int .i64 D])/\
 ∃ E:Int,(At n ⟨c,0 + 4,none⟩ [.int .i64 E])/\
 Zb d λ v=>
 ∃ F:Option Addr,(At (λ b=>b=l) ⟨v.block,v.off + 3,none⟩ [.pointer F])/\
 ∃ G:Int,(At (λ b=>b=l) ⟨c,0 + 4,none⟩ [.int .i64 G])/\
 ∃ H:Int,(At (λ b=>b=l) ⟨c,0 + 5,none⟩ [.int .i64 H])/\
 Calls prog 236 #[.pointer F,.int .i64 G,.int .i64 H] l λ T L=>
 ∃ I:Int,(T=.returned (.int .i64 I))/\
 (n L)/\
 Calls prog 105 #[.pointer d,.agg #[.int .i64 6,.int .i64 0,.int .i64 D,.int .i64 0,.int .i64 E,.int .i64 0,.bool false,.int .i64 0,.int .i64 I,.int .i64 0,.slice none 0 0,.int .i64 0,.int .i64 0,.slice none 0 0,.slice none 0 0,.slice none 0 0]] L λ U aj=>
 (U=.returned (.tuple #[]))/\
 K (.tuple #[]) aj)
 (K (.tuple #[]) k))) w
def ZqU:Sk:=(.seq .leaf (.seq (.cond .leaf .leaf) (.seq .leaf (.block (.seq .leaf (.cond (.cut [] [] [24,25,26,27,28] .leaf .leaf) (.seq .leaf (.cond (.cond .leaf .leaf) .leaf))))))))
theorem Zob (s:Option Addr) (f:Int) (g:Int) (k:Int) (l:Int) (m:Int) (n:Int) (o:Bool) (p:Int) (q:Int) (r:Int) (b:Sl) (i:Int) (j:Int) (c:Sl) (d:Sl) (e:Sl) (K:Value->World->Prop) (w:World) (h:B187 s f g k l m n o p q r b i j c d e K w):Zj prog 187 #[.pointer s,.agg #[.int .i64 f,.int .i64 g,.int .i64 k,.int .i64 l,.int .i64 m,.int .i64 n,.bool o,.int .i64 p,.int .i64 q,.int .i64 r,.slice b.a b.len b.cap,.int .i64 i,.int .i64 j,.slice c.a c.len c.cap,.slice d.a d.len d.cap,.slice e.a e.len e.cap]] w K:=cq (sk:=ZqU) func187 (by kernel_rfl) (by kernel_rfl) (by kernel_rfl) h
def B188 (f:Option Addr) (e:Int) (K:Value->World->Prop) (w:World):Prop:=
 Zb f λ d=>
 ∃ i:Option Addr,(At (λ a=>a=w) ⟨d.block,d.off + 3,none⟩ [.pointer i])/\
 Calls prog 50 #[.pointer i] w λ k b=>
 ∃ j:Int,(k=.returned (.int .i64 j))/\
 Br (decide (e>j))
 (Zb f λ c=>
 ∃ g:Option Addr,(At (λ a=>a=b) ⟨c.block,c.off + 3,none⟩ [.pointer g])/\
 Calls prog 161 #[.pointer g,.int .i64 e] b λ l n=>
 ∃ m:Int,(l=.returned (.int .i64 m))/\
 K (.tuple #[]) n)
 (K (.tuple #[]) b)
theorem Zoa (b:Option Addr) (a:Int) (K:Value->World->Prop) (w:World) (h:B188 b a K w):Zj prog 188 #[.pointer b,.int .i64 a] w K:=cq (sk:=.leaf) func188 (by kernel_rfl) (by kernel_rfl) (by kernel_rfl) h
def B189 (d:Option Addr) (bm:Int) (bn:Int) (bq:Int) (br:Int) (bs:Int) (bt:Int) (bu:Bool) (bv:Int) (bw:Int) (bx:Int) (y:Sl) (bo:Int) (bp:Int) (z:Sl) (A:Sl) (C:Sl) (K:Value->World->Prop) (w:World):Prop:=
 New (.cells #[.int .i64 bm,.int .i64 bn,.int .i64 bq,.int .i64 br,.int .i64 bs,.int .i64 bt,.bool bu,.int .i64 bv,.int .i64 bw,.int .i64 bx,.slice y.a y.len y.cap,.int .i64 bo,.int .i64 bp,.slice z.a z.len z.cap,.slice A.a A.len A.cap,.slice C.a C.len C.cap] 71 (0,0)) (λ f a2=>
 ∃ ax:Int,∃ a1:Int,∃ q:Sl,∃ r:Sl,∃ s:Sl,(At (λ b=>b=a2) ⟨f,0 + 11,none⟩ [.int .i64 ax,.int .i64 a1,.slice q.a q.len q.cap,.slice r.a r.len r.cap,.slice s.a s.len s.cap])/\
 New (.cells #[.int .i64 0,.int .i64 0,.slice none 0 0,.slice none 0 0,.slice none 0 0] 35 (0,0)) (λ c b3=>
 ∃ E:World,((Instr.storeAt 35 (.pointer ((some ⟨c,0,none⟩))) (.agg #[.int .i64 ax,.int .i64 a1,.slice q.a q.len q.cap,.slice r.a r.len r.cap,.slice s.a s.len s.cap])).run prog b3=.ok () E)/\
 ∃ (H:World->Prop),(∃ U:Int,∃ V:Int,∃ g:Sl,∃ i:Sl,∃ j:Sl,(At (λ b=>b=E) ⟨c,0,none⟩ [.int .i64 U,.int .i64 V,.slice g.a g.len g.cap,.slice i.a i.len i.cap,.slice j.a j.len j.cap])/\
 Calls prog 31 #[.agg #[.int .i64 U,.int .i64 V,.slice g.a g.len g.cap,.slice i.a i.len i.cap,.slice j.a j.len j.cap]] E λ bb e=>
 ∃ X:Bool,(bb=.returned (.bool X))/\
 Br (!X)
 (K (.tuple #[]) e)
 (∃ Y:Int,(At (λ b=>b=e) ⟨c,0,none⟩ [.int .i64 Y])/\
 ∃ Z:Int,(At (λ b=>b=e) ⟨f,0 + 4,none⟩ [.int .i64 Z])/\
 Br (Y !=Z)
 (K (.tuple #[]) e)
 (∃ aa:Int,(At (λ b=>b=e) ⟨c,0 + 1,none⟩ [.int .i64 aa])/\
 ∃ ab:Int,(At (λ b=>b=e) ⟨f,0 + 5,none⟩ [.int .i64 ab])/\
 Br (aa !=ab)
 (K (.tuple #[]) e)
 (H  e))))/\
 ∀ (b8:Env)  (F:World),H  F->
 ∃ D:Int,(At (λ b=>b=F) ⟨c,0,none⟩ [.int .i64 D])/\
 Drw F λ b6 G=>
 Zb d λ J=>
 ∃ ac:Option Addr,(At (λ b=>b=G) ⟨J.block,J.off + 3,none⟩ [.pointer ac])/\
 ∃ ad:Int,(At (λ b=>b=G) ⟨c,0,none⟩ [.int .i64 ad])/\
 Calls prog 100 #[.pointer ac,.int .i64 ad] G λ bc b5=>
 ∃ ae:Int,∃ af:Bool,(bc=.returned (.tuple #[.int .i64 ae,.bool af]))/\
 Drw b5 λ I ba=>
 ∃ an:Int,(At I ⟨c,0,none⟩ [.int .i64 an])/\
 Zb d λ Q=>
 ∃ ao:Option Addr,(At (λ b=>b=ba) ⟨Q.block,Q.off + 3,none⟩ [.pointer ao])/\
 Calls prog 50 #[.pointer ao] ba λ be t=>
 ∃ ap:Int,(be=.returned (.int .i64 ap))/\
 (I t)/\
 Br (decide (an<=ap))
 (Zb d λ T=>
 ∃ aq:Option Addr,(At (λ b=>b=t) ⟨T.block,T.off + 3,none⟩ [.pointer aq])/\
 Calls prog 50 #[.pointer aq] t λ bf a3=>
 ∃ ar:Int,(bf=.returned (.int .i64 ar))/\
 ∃ ay:Int,(At (λ b=>b=a3) ⟨f,0 + 1,none⟩ [.int .i64 ay])/\
 Calls prog 105 #[.pointer d,.agg #[.int .i64 10,.int .i64 0,.int .i64 ay,.int .i64 0,.int .i64 ar,.int .i64 0,.bool true,.int .i64 0,.int .i64 0,.int .i64 0,.slice none 0 0,.int .i64 0,.int .i64 0,.slice none 0 0,.slice none 0 0,.slice none 0 0]] a3 λ bg b0=>
 (bg=.returned (.tuple #[]))/\
 K (.tuple #[]) b0)
 (∃ (x:Bool->World->Prop),(Br af
 (∃ av:Int,(At (λ b=>b=t) ⟨c,0 + 1,none⟩ [.int .i64 av])/\
 x (ae==av) t)
 (x false t))/\
 ∀ (b9:Env) (au:Bool) (u:World),x au u->
 Br au
 (∃ aw:Int,(At (λ b=>b=u) ⟨c,0,none⟩ [.int .i64 aw])/\
 Calls prog 188 #[.pointer d,.int .i64 aw] u λ bh a4=>
 (bh=.returned (.tuple #[]))/\
 ∃ az:Int,(At (λ b=>b=a4) ⟨f,0 + 1,none⟩ [.int .i64 az])/\
 Calls prog 105 #[.pointer d,.agg #[.int .i64 10,.int .i64 0,.int .i64 az,.int .i64 0,.int .i64 D,.int .i64 0,.bool true,.int .i64 0,.int .i64 0,.int .i64 0,.slice none 0 0,.int .i64 0,.int .i64 0,.slice none 0 0,.slice none 0 0,.slice none 0 0]] a4 λ bi b1=>
 (bi=.returned (.tuple #[]))/\
 K (.tuple #[]) b1)
 (Drw u λ b7 v=>
 Zb d λ L=>
 ∃ ag:Option Addr,(At (λ b=>b=v) ⟨L.block,L.off + 3,none⟩ [.pointer ag])/\
 ∃ ah:Int,(At (λ b=>b=v) ⟨c,0,none⟩ [.int .i64 ah])/\
 ∃ ai:Int,(At (λ b=>b=v) ⟨c,0 + 1,none⟩ [.int .i64 ai])/\
 Calls prog 237 #[.pointer ag,.int .i64 ah,.int .i64 ai] v λ bj a5=>
 ∃ bz:Int,(bj=.returned (.int .i64 bz))/\
 ∃ aj:Int,∃ ak:Int,∃ k:Sl,∃ l:Sl,∃ m:Sl,(At (λ b=>b=a5) ⟨c,0,none⟩ [.int .i64 aj,.int .i64 ak,.slice k.a k.len k.cap,.slice l.a l.len l.cap,.slice m.a m.len m.cap])/\
 Calls prog 35 #[.agg #[.int .i64 aj,.int .i64 ak,.slice k.a k.len k.cap,.slice l.a l.len l.cap,.slice m.a m.len m.cap]] a5 λ bk b2=>
 ∃ al:Int,∃ am:Int,∃ n:Sl,∃ o:Sl,∃ p:Sl,(bk=.returned (.agg #[.int .i64 al,.int .i64 am,.slice n.a n.len n.cap,.slice o.a o.len o.cap,.slice p.a p.len p.cap]))/\
 Zb d λ M=>
 ∃ a6:World,((Instr.storeAt 35 (.pointer ((some ⟨M.block,M.off + 4,none⟩))) (.agg #[.int .i64 al,.int .i64 am,.slice n.a n.len n.cap,.slice o.a o.len o.cap,.slice p.a p.len p.cap])).run prog b2=.ok () a6)/\
 Zb d λ N=>
 ∃ a7:World,((Instr.storeAt 4 (.pointer ((some ⟨N.block,N.off + 16 + 3,none⟩))) (.bool true)).run prog a6=.ok () a7)/\
 Zb d λ O=>
 ∃ a8:World,((Instr.storeAt 3 (.pointer ((some ⟨O.block,O.off + 16 + 9,none⟩))) (.int .i64 0)).run prog a7=.ok () a8)/\
 Calls prog 36 #[.pointer d] a8 λ bl a9=>
 (bl=.returned (.tuple #[]))/\
 ∃ a0:Int,(At (λ b=>b=a9) ⟨f,0 + 1,none⟩ [.int .i64 a0])/\
 Calls prog 105 #[.pointer d,.agg #[.int .i64 10,.int .i64 0,.int .i64 a0,.int .i64 0,.int .i64 D,.int .i64 0,.bool true,.int .i64 0,.int .i64 0,.int .i64 0,.slice none 0 0,.int .i64 0,.int .i64 0,.slice none 0 0,.slice none 0 0,.slice none 0 0]] a9 λ bd b4=>
 (bd=.returned (.tuple #[]))/\
 K (.tuple #[]) b4))) a2) w
def ZqT:Sk:=(.seq .leaf (.seq .leaf (.cut [] [] [10,11,12,13,14,15,16,17,18,19,20,21,22,23,24,25,26] .leaf (.seq .leaf (.seq (.cond .leaf .leaf) (.seq (.block (.seq (.cond .leaf .leaf) (.cond .leaf (.cut [77] [.bool] [77,78,79,80,81,82,83,84] .leaf (.cond .leaf (.seq (.cond .leaf .leaf) .leaf)))))) .leaf))))))
theorem Zn9 (s:Option Addr) (f:Int) (g:Int) (k:Int) (l:Int) (m:Int) (n:Int) (o:Bool) (p:Int) (q:Int) (r:Int) (b:Sl) (i:Int) (j:Int) (c:Sl) (d:Sl) (e:Sl) (K:Value->World->Prop) (w:World) (h:B189 s f g k l m n o p q r b i j c d e K w):Zj prog 189 #[.pointer s,.agg #[.int .i64 f,.int .i64 g,.int .i64 k,.int .i64 l,.int .i64 m,.int .i64 n,.bool o,.int .i64 p,.int .i64 q,.int .i64 r,.slice b.a b.len b.cap,.int .i64 i,.int .i64 j,.slice c.a c.len c.cap,.slice d.a d.len d.cap,.slice e.a e.len e.cap]] w K:=cq (sk:=ZqT) func189 (by kernel_rfl) (by kernel_rfl) (by kernel_rfl) h
def B190 (r:Option Addr) (aj:Int) (ak:Int) (K:Value->World->Prop) (w:World):Prop:=
 Zb r λ F=>
 ∃ f:Sl,(At (λ d=>d=w) ⟨F.block,F.off + 12,none⟩ [.slice f.a f.len f.cap])/\
 ∃ (u:Sl->Int->World->Prop) (x:Sl->Int->World->Nat),(u ⟨none,0,0⟩ 0 w)/\∀ (aq:Env) (b:Sl) (c:Int) (q:World),u b c q->
 Br (decide (c<(↑f.len:Int)))
 (Rng c f.len (Zb f.a λ ae=>
 ∃ L:Int,∃ M:Int,∃ N:Int,∃ g:Sl,(At (λ d=>d=q) (Addr.add ae (Zaf c.toNat 4)) [.int .i64 L,.int .i64 M,.int .i64 N,.slice g.a g.len g.cap])/\
 New (.cells #[.int .i64 0,.int .i64 0,.int .i64 0,.slice none 0 0] 112 (0,0)) (λ e an=>
 ∃ t:World,((Instr.storeAt 112 (.pointer ((some ⟨e,0,none⟩))) (.agg #[.int .i64 L,.int .i64 M,.int .i64 N,.slice g.a g.len g.cap])).run prog an=.ok () t)/\
 ∃ (y:World->Prop),(∃ O:Int,(At (λ d=>d=t) ⟨e,0 + 2,none⟩ [.int .i64 O])/\
 Br (decide (O<=ak))
 (∃ i:Sl,(At (λ d=>d=t) ⟨e,0 + 3,none⟩ [.slice i.a i.len i.cap])/\
 New (.cells #[.int .i64 aj] 3 (0,0)) (λ af ao=>
 ∃ ab:World,∃ j:Sl,((Builtin.append_ #[30,30] 30 #[.slice i.a i.len i.cap,.slice ((some ⟨af,0,none⟩)) 1 1]).run prog ao=.ok (.slice j.a j.len j.cap) ab)/\
 ∃ ac:World,((Instr.storeAt 30 (.pointer ((some ⟨e,0 + 3,none⟩))) (.slice j.a j.len j.cap)).run prog ab=.ok () ac)/\
 y  ac) t)
 (y  t))/\
 ∀ (ar:Env)  (ad:World),y  ad->
 Drw ad λ E ap=>
 Zb r λ G=>
 ∃ k:Sl,∃ l:Sl,(At E ⟨G.block,G.off + 9,none⟩ [.slice k.a k.len k.cap,.slice l.a l.len l.cap])/\
 ∃ m:Sl,(At E ⟨e,0 + 3,none⟩ [.slice m.a m.len m.cap])/\
 Calls prog 51 #[.agg #[.slice k.a k.len k.cap,.slice l.a l.len l.cap],.slice m.a m.len m.cap] ap λ ai D=>
 ∃ Q:Bool,(ai=.returned (.bool Q))/\
 Br Q
 (Drw D λ v al=>
 Zb r λ H=>
 ∃ n:Sl,(At v ⟨H.block,H.off + 16 + 11,none⟩ [.slice n.a n.len n.cap])/\
 ∃ T:Int,∃ U:Int,(At v ⟨e,0,none⟩ [.int .i64 T,.int .i64 U])/\
 New (.cells #[.int .i64 T,.int .i64 U] 50 (0,0)) (λ ag Z=>
 (v Z)/\
 ∃ z:World,∃ o:Sl,((Builtin.append_ #[42,42] 42 #[.slice n.a n.len n.cap,.slice ((some ⟨ag,0,none⟩)) 1 1]).run prog Z=.ok (.slice o.a o.len o.cap) z)/\
 (v z)/\
 Zb r λ I=>
 ∃ A:World,((Instr.storeAt 42 (.pointer ((some ⟨I.block,I.off + 16 + 11,none⟩))) (.slice o.a o.len o.cap)).run prog z=.ok () A)/\
 (u b (IntKind.i64.wrap (c + 1)) A)/\x b (IntKind.i64.wrap (c + 1)) A<x b c q) al)
 (∃ V:Int,∃ X:Int,∃ Y:Int,∃ p:Sl,(At (λ d=>d=D) ⟨e,0,none⟩ [.int .i64 V,.int .i64 X,.int .i64 Y,.slice p.a p.len p.cap])/\
 New (.cells #[.int .i64 V,.int .i64 X,.int .i64 Y,.slice p.a p.len p.cap] 112 (0,0)) (λ ah am=>
 ∃ C:World,∃ s:Sl,((Builtin.append_ #[56,56] 56 #[.slice b.a b.len b.cap,.slice ((some ⟨ah,0,none⟩)) 1 1]).run prog am=.ok (.slice s.a s.len s.cap) C)/\
 (u s (IntKind.i64.wrap (c + 1)) C)/\x s (IntKind.i64.wrap (c + 1)) C<x b c q) D)) q))
 (Zb r λ J=>
 ∃ aa:World,((Instr.storeAt 56 (.pointer ((some ⟨J.block,J.off + 12,none⟩))) (.slice b.a b.len b.cap)).run prog q=.ok () aa)/\
 K (.tuple #[]) aa)
def ZqS:Sk:=(.seq .leaf (.seq (.seq .leaf (.block (.loop [6,14] [.sl,(.int .i64)] [6,8,14,15,16,17,18,19,20,21,22,23,24,25,26,27,28,29,30,31,32,33,34,35,36,37,38,39,40,41,42,43,44,45,46,47,48,49,50,51,52] (.seq .leaf (.seq .leaf (.seq (.block (.seq .leaf (.cut [] [] [18,19,20,21,22,23,24,25,26,27] .leaf .leaf))) .leaf)))))) .leaf))
theorem Zn8 (b:Option Addr) (a:Int) (c:Int) (K:Value->World->Prop) (w:World) (h:B190 b a c K w):Zj prog 190 #[.pointer b,.int .i64 a,.int .i64 c] w K:=cq (sk:=ZqS) func190 (by kernel_rfl) (by kernel_rfl) (by kernel_rfl) h
def B70 (f:Option Addr) (e:Int) (K:Value->World->Prop) (w:World):Prop:=
 Zb f λ a=>
 ∃ c:Option Addr,(At (λ g=>g=w) ⟨a.block,a.off + 3,none⟩ [.pointer c])/\
 Calls prog 152 #[.pointer c,.int .i64 e] w λ d i=>
 ∃ b:Int,(d=.returned (.int .i64 b))/\
 K (.int .i64 b) i
theorem ZpK (b:Option Addr) (a:Int) (K:Value->World->Prop) (w:World) (h:B70 b a K w):Zj prog 70 #[.pointer b,.int .i64 a] w K:=cq (sk:=.leaf) func70 (by kernel_rfl) (by kernel_rfl) (by kernel_rfl) h
def B72 (m:Option Addr) (l:Int) (k:Sl) (K:Value->World->Prop) (w:World):Prop:=
 Br (decide ((↑k.len:Int)>60000))
 (K (.int .i64 1) w)
 (Calls prog 89 #[.pointer m,.int .i64 l] w λ D I=>
 ∃ b:Sl,∃ c:Sl,(D=.returned (.agg #[.slice b.a b.len b.cap,.slice c.a c.len c.cap]))/\
 New (.cells #[.slice none 0 0,.slice none 0 0] 32 (0,0)) (λ t J=>
 ∃ o:World,((Instr.storeAt 32 (.pointer ((some ⟨t,0,none⟩))) (.agg #[.slice b.a b.len b.cap,.slice c.a c.len c.cap])).run prog J=.ok () o)/\
 Zb m λ q=>
 ∃ u:Option Addr,(At (λ j=>j=o) ⟨q.block,q.off + 3,none⟩ [.pointer u])/\
 Calls prog 153 #[.pointer u,.int .i64 l] o λ E p=>
 ∃ n:Int,(E=.returned (.int .i64 n))/\
 Br (n !=0)
 (K (.int .i64 n) p)
 (Zb m λ r=>
 ∃ v:Option Addr,(At (λ j=>j=p) ⟨r.block,r.off + 3,none⟩ [.pointer v])/\
 Calls prog 100 #[.pointer v,.int .i64 l] p λ F A=>
 ∃ x:Int,∃ H:Bool,(F=.returned (.tuple #[.int .i64 x,.bool H]))/\
 ∃ d:Sl,∃ e:Sl,(At (λ j=>j=A) ⟨t,0,none⟩ [.slice d.a d.len d.cap,.slice e.a e.len e.cap])/\
 Calls prog 35 #[.agg #[.int .i64 l,.int .i64 x,.slice d.a d.len d.cap,.slice e.a e.len e.cap,.slice k.a k.len k.cap]] A λ G L=>
 ∃ y:Int,∃ z:Int,∃ f:Sl,∃ g:Sl,∃ i:Sl,(G=.returned (.agg #[.int .i64 y,.int .i64 z,.slice f.a f.len f.cap,.slice g.a g.len g.cap,.slice i.a i.len i.cap]))/\
 Zb m λ s=>
 ∃ C:World,((Instr.storeAt 35 (.pointer ((some ⟨s.block,s.off + 4,none⟩))) (.agg #[.int .i64 y,.int .i64 z,.slice f.a f.len f.cap,.slice g.a g.len g.cap,.slice i.a i.len i.cap])).run prog L=.ok () C)/\
 K (.int .i64 0) C)) I)
theorem ZpJ (d:Option Addr) (c:Int) (b:Sl) (K:Value->World->Prop) (w:World) (h:B72 d c b K w):Zj prog 72 #[.pointer d,.int .i64 c,.slice b.a b.len b.cap] w K:=cq (sk:=.leaf) func72 (by kernel_rfl) (by kernel_rfl) (by kernel_rfl) h
def B22 (y:Option Addr) (K:Value->World->Prop) (w:World):Prop:=
 New (.cells #[.int .i64 0,.int .i64 0,.slice none 0 0,.slice none 0 0,.slice none 0 0] 35 (0,0)) (λ o v=>
 Zb y λ n=>
 ∃ p:Int,∃ q:Int,∃ b:Sl,∃ c:Sl,∃ d:Sl,(At (λ l=>l=v) ⟨n.block,n.off + 4,none⟩ [.int .i64 p,.int .i64 q,.slice b.a b.len b.cap,.slice c.a c.len c.cap,.slice d.a d.len d.cap])/\
 Calls prog 35 #[.agg #[.int .i64 p,.int .i64 q,.slice b.a b.len b.cap,.slice c.a c.len c.cap,.slice d.a d.len d.cap]] v λ x z=>
 ∃ r:Int,∃ s:Int,∃ e:Sl,∃ f:Sl,∃ g:Sl,(x=.returned (.agg #[.int .i64 r,.int .i64 s,.slice e.a e.len e.cap,.slice f.a f.len f.cap,.slice g.a g.len g.cap]))/\
 ∃ m:World,((Instr.storeAt 35 (.pointer ((some ⟨o,0,none⟩))) (.agg #[.int .i64 r,.int .i64 s,.slice e.a e.len e.cap,.slice f.a f.len f.cap,.slice g.a g.len g.cap])).run prog z=.ok () m)/\
 ∃ t:Int,∃ u:Int,∃ i:Sl,∃ j:Sl,∃ k:Sl,(At (λ l=>l=m) ⟨o,0,none⟩ [.int .i64 t,.int .i64 u,.slice i.a i.len i.cap,.slice j.a j.len j.cap,.slice k.a k.len k.cap])/\
 K (.agg #[.int .i64 t,.int .i64 u,.slice i.a i.len i.cap,.slice j.a j.len j.cap,.slice k.a k.len k.cap]) m) w
theorem Zqi (a:Option Addr) (K:Value->World->Prop) (w:World) (h:B22 a K w):Zj prog 22 #[.pointer a] w K:=cq (sk:=.leaf) func22 (by kernel_rfl) (by kernel_rfl) (by kernel_rfl) h
end
section
open Go Go.VC Tryz
open Go.Rf (Ey Lg ZD)
variable {R R' R1 R2:Cx} {Hs Rest Rest2:List HP} {w:World} {p:Nat} {n m:Rn}
structure RnB (n:Rn):Prop where
 g:RnG n
 pe:ZbL n
 e:ZL n.e
 id:n.e.id=n.id
 sn:ZE n.sn=true
structure RnA (n:Rn):Prop where
 b:RnB n
 pk:∀ l,n.ps=some l->Zdt n.id l
 sm:n.e.role=3->n.ps.isSome=true
theorem RnB.id15 (h:RnB n):1<=n.id/\n.id<=15:=by rw [<-h.id];exact ⟨h.e.id0,h.e.id1⟩
theorem RnA.rnl (h:RnA n) (hr:n.e.role=3):RnL n:=⟨h.b.g,h.b.pe,h.pk,h.sm hr,h.b.id15.1,h.b.id15.2,h.b.sn⟩
theorem RnL.rna (h:RnL n) (he:ZL n.e) (hi:n.e.id=n.id):RnA n:=⟨⟨h.g,h.pe,he,hi,h.sn⟩,h.pk,λ _=>h.sm⟩
theorem ZbF:n.regroup.e=n.e.join (n.foldG n.log.l.length)/\n.regroup.id=n.id/\n.regroup.sn=n.sn/\n.regroup.rms=n.rms/\n.regroup.log=n.log:=⟨rfl,rfl,rfl,rfl,rfl⟩
theorem Zlf (e:Eln) (g:Gp):(e.join g).id=e.id:=by unfold Eln.join;split<;>rfl
theorem Zbf (e:Eln) (g:Gp):(e.join g).role=e.role:=by unfold Eln.join;split<;>rfl
theorem RnB.regroup (h:RnB n):RnA n.regroup:=by
 obtain ⟨a,b,c,d,f,_⟩:=Za2 h.g h.pe;exact ⟨⟨a,b,h.e.join _,(Zlf _ _).trans h.id,h.sn⟩,c,λ hr=>f (d.symm.trans hr)⟩
theorem RnB.fresh (h:RnB n) (i:Int):RnA (n.fresh i):=RnB.regroup (n:={ n with rfr:=if n.rfr==0||decide (i<n.rfr) then i else n.rfr }) ⟨⟨h.g.lg,h.g.lb,h.g.sg,h.g.w1,h.g.w64⟩,h.pe,h.e,h.id,h.sn⟩
theorem RnA.put (h:RnA n) (x:Mg):RnA (n.put x):=⟨⟨⟨h.b.g.lg,h.b.g.lb,h.b.g.sg,h.b.g.w1,h.b.g.w64⟩,h.b.pe,h.b.e,h.b.id,h.b.sn⟩,h.pk,h.sm⟩
theorem RnB.log (h:RnB n) {g:Lg} (h1:ZD g) (h2:LgB g):RnB { n with log:=g }:=⟨⟨h1,h2,h.g.sg,h.g.w1,h.g.w64⟩,h.pe,h.e,h.id,h.sn⟩
theorem RnA.log (h:RnA n) {g:Lg} (h1:ZD g) (h2:LgB g):RnA { n with log:=g }:=⟨h.b.log h1 h2,h.pk,h.sm⟩
theorem LgB.commit {g:Lg} (h:LgB g) (i:Int):LgB (g.commit i).2:=by unfold Lg.commit;split<;>exact h
theorem RnA.commit (h:RnA n) (i:Int):RnA (n.commit i):=by
 unfold Rn.commit;split
 ·exact h.log (h.b.g.lg.commit i) (h.b.g.lb.commit i)
 ·exact h
theorem ZgD (n:Rn) (kd:Int) (dt:List Int):((n.enter kd dt).2.e=n.e\/∃ g,(n.enter kd dt).2.e=n.e.join g)/\(n.enter kd dt).2.id=n.id:=by
 unfold Rn.enter;dsimp only;split
 ·exact ⟨.inl rfl,rfl⟩
 ·exact ⟨.inr ⟨_,rfl⟩,rfl⟩
theorem RnA.enter (h:RnA n) (hr:n.e.role=3) (kd:Int) {dt:List Int} (hd:Zx dt):RnA (n.enter kd dt).2/\(n.enter kd dt).2.e.role=3:=by
 obtain ⟨a,b,_,_⟩:=Zbg (h.rnl hr) hr kd hd;obtain ⟨c|⟨g,c⟩,d⟩:=ZgD n kd dt
 ·exact ⟨a.rna (by rw [c];exact h.b.e) (by rw [c,d];exact h.b.id),b⟩
 ·exact ⟨a.rna (by rw [c];exact h.b.e.join g) (by rw [c,d,Zlf];exact h.b.id),b⟩
theorem ZaT (n:Rn):n.advance.id=n.id:=by
 unfold Rn.advance;dsimp only;split
 ·rfl
 ·unfold Rn.beats;rw [ZbY]
theorem RnA.advance (h:RnA n) (hr:n.e.role=3):RnA n.advance/\n.advance.e.role=3:=by
 obtain ⟨a,b,_⟩:=Zar (h.rnl hr);exact ⟨a.rna (by rw [b];exact h.b.e) (by rw [b,ZaT];exact h.b.id),by rw [b];exact hr⟩
theorem Snd.rna {k:Nat} (s:Snd n m k) (h:RnA n):RnA m:=by
 have e:=s.eq;refine ⟨⟨s.rng h.b.g,s.pe h.b.pe,by rw [e];exact h.b.e,by rw [e];exact h.b.id,by rw [e];exact h.b.sn⟩,λ l hl=>?_,λ hr=>?_⟩
 ·cases hp:n.ps with
  |none=>have:=s.keys;rw [hp,hl] at this;cases this
  |some l0=>
   obtain ⟨l',h1,h2⟩:=s.pkeys hp (h.pk _ hp);rw [hl] at h1;rw [Option.some.inj h1];exact h2
 ·have hr':n.e.role=3:=by rw [e] at hr;exact hr
  obtain ⟨l0,hp⟩:=Option.isSome_iff_exists.1 (h.sm hr');obtain ⟨l',h1,_⟩:=s.pkeys hp (h.pk _ hp);rw [h1];rfl
theorem RnB.voted (h:RnB n) {led:Bool} (hl:led=true->RnA n) (bl:List Bl):RnA (n.voted led bl):=by
 unfold Rn.voted;dsimp only;split
 ·rename_i hr
  exact ⟨⟨⟨h.g.lg,h.g.lb,h.g.sg,h.g.w1,h.g.w64⟩,(λ l hl=>by cases hl),h.e,h.id,h.sn⟩,(λ l hl=>by cases hl),λ hr'=>absurd hr' (by simpa using hr)⟩
 ·rename_i hr
  have hr:n.e.role=3:=by simpa using hr
  split
  ·have hb:RnB { n with rms:=n.rms++bl.map ZcK,ps:=none,rs:=[],rnd:=0 }:=⟨⟨h.g.lg,h.g.lb,h.g.sg,h.g.w1,h.g.w64⟩,(λ l hl=>by cases hl),h.e,h.id,h.sn⟩
   have h1:=hb.regroup;have h2:=h1.enter ((Zbf _ _).trans hr) 0 (dt:=[]) (λ x hx=>by cases hx);have h3:=h2.1.advance h2.2;exact (Snd.all _).rna h3.1
  ·rename_i hled
   have ha:=hl (by simpa using hled);exact ⟨⟨⟨h.g.lg,h.g.lb,h.g.sg,h.g.w1,h.g.w64⟩,h.pe,h.e,h.id,h.sn⟩,ha.pk,ha.sm⟩
theorem ZkF (e:Eln) (fr:Int) (y:Bool):(e.says fr y).id=e.id:=ZiL.2.2.2
theorem ZmP (e:Eln) (a b:Int):(e.run a b).2.id=e.id:=by
 unfold Eln.run;split
 ·rfl
 ·dsimp only;split<;>rfl
theorem ZfR (e:Eln) (o a b:Int):(e.counted o a b).2.id=e.id:=by
 unfold Eln.counted;split
 ·rfl
 ·split
  ·exact ZmP e a b
  ·split<;>rfl
theorem ZhZ (e:Eln) (b:Bl) (last lt:Int):(e.take b last lt).2.id=e.id:=by
 unfold Eln.take;split
 ·dsimp only
  split
  ·split<;>rfl
  ·split
   ·rw [show ∀ x:Eln,(x.vote b (ZiU b last lt)).id=x.id from λ x=>(ZiD (e:=x)).2.1];split<;>rfl
   ·split
    ·split
     ·rfl
     ·split
      ·exact (ZfR _ _ _ _).trans (ZkF _ _ _)
      ·rfl
    ·split
     ·split
      ·rfl
      ·split
       ·exact (ZfR _ _ _ _).trans (ZkF _ _ _)
       ·rfl
     ·rfl
 ·rfl
theorem Zip (e:Eln) (o a b:Int) (h:Zo e.g.vs e.g.ls=true):(e.counted o a b).1.length<=15:=by
 unfold Eln.counted;split
 ·show (0:Nat)<=15;omega
 ·split
  ·exact Zh1 e a b h
  ·split<;>(show (0:Nat)<=15;omega)
theorem ZiE (e:Eln) (b:Bl) (last lt:Int) (h:Zo e.g.vs e.g.ls=true):(e.take b last lt).1.length<=15:=by
 have hs:∀ (fr:Int) (y:Bool) (o:Int),((e.says fr y).counted o last lt).1.length<=15:=λ fr y o=>Zip _ _ _ _ (by rw [ZiL.1];exact h);unfold Eln.take;split
 ·dsimp only
  split
  ·split<;>(show (1:Nat)<=15;omega)
  ·split
   ·show (1:Nat)<=15;omega
   ·split
    ·split
     ·show (0:Nat)<=15;omega
     ·split
      ·exact hs _ _ _
      ·show (0:Nat)<=15;omega
    ·split
     ·split
      ·show (0:Nat)<=15;omega
      ·split<;>(show (0:Nat)<=15;omega)
     ·show (0:Nat)<=15;omega
 ·show (0:Nat)<=15;omega
theorem RnA.ballot (h:RnA n) (b:Bl):RnA (n.ballot b):=by
 have hb:RnB { n with e:=(n.e.take b n.log.last (n.log.term n.log.last).1).2 }:=⟨⟨h.b.g.lg,h.b.g.lb,h.b.g.sg,h.b.g.w1,h.b.g.w64⟩,h.b.pe,h.b.e.take _ _ _,(ZhZ _ _ _ _).trans h.b.id,h.b.sn⟩;exact hb.voted (λ hl=>⟨hb,h.pk,λ _=>h.sm (by simpa using hl)⟩) _
theorem Zcc (ok:ZD n.log) (i:Int) (hw:Sat R (NAt R p n::Hs) w):Zj prog 188 #[.pointer (some ⟨p,0,none⟩),.int .i64 i] w λ v w'=>v=.tuple #[]/\Sat R (NAt R p (n.commit i)::Hs) w':=by
 obtain ⟨L,hn,hw⟩:=NAt.iff.1 hw;apply Zoa;unfold Rn.commit;refine Zb.mk rfl ⟨_,At.own (eqS hw) (by exact ⟨rfl,trivial⟩),?_⟩;refine (ZF (hw.take (Zr R L.lp n.log))).use ?_;clear hw;rintro _ w ⟨rfl,hw⟩;refine ⟨_,rfl,Br.d (λ h=>Zb.mk rfl ⟨_,At.own (eqS hw) (by exact ⟨rfl,trivial⟩),?_⟩) (λ h=>?_)⟩
 ·refine (ZdU ok i hw).use ?_
  clear hw;rintro _ w ⟨rfl,hw⟩;rw [if_pos h];exact ⟨_,rfl,rfl,NAt.iff.2 ⟨L,⟨hn.g,hn.sg,hn.sd⟩,(show Sat R (Zr R L.lp (n.log.commit i).2::pts p (Ze { n with log:=(n.log.commit i).2 } L)::Zn R L.ep n.e::Z2 L.pm n.ps::Z0 L.rs n.rs::Zq R L.ms n.rms::ZN L.rr n.rrd::Hs) w from hw).arr⟩⟩
 ·rw [if_neg h]
  exact ⟨rfl,NAt.iff.2 ⟨L,hn,hw.arr⟩⟩
theorem Zh5 {L:NLo} (ok:ZD n.log) (hw:Sat R (pts p (Ze n L)::nHs R n L Hs) w):Zj prog 40 #[.pointer (some ⟨p,0,none⟩)] w λ v w'=>v=.int .i64 (n.log.term n.log.last).1/\Sat R (pts p (Ze n L)::nHs R n L Hs) w':=by
 apply ZmY;refine Zi (Sat R [pts p (Ze n L),VC.tru]) hw (λ w hw=>hw.k1) λ w hw=>Zb.mk rfl ⟨_,At.own Zf (by exact ⟨rfl,trivial⟩),Zb.mk rfl ⟨_,At.own Zf (by exact ⟨rfl,trivial⟩),?_⟩⟩;have hw:=hw.take (Zr R L.lp n.log);refine (ZT ok hw).use ?_;clear hw;rintro _ w ⟨rfl,hw⟩;refine ⟨_,rfl,hw.k1,?_⟩;refine (ZaS ok _ hw).use ?_;clear hw;rintro _ w ⟨rfl,hw⟩;exact ⟨_,_,rfl,hw.k1,rfl,hw.arr⟩
theorem ZeZ (h:RnA n) (hlast:n.log.last<=1000000000) (hl:n.rms.length<=999900000) (b:Bl) (hw:Sat R (NAt R p n::Hs) w):
  Zj prog 136 #[.pointer (some ⟨p,0,none⟩),ZmC b] w λ v w'=>v=.tuple #[]/\∃ R',R.Ext R'/\Sat R' (NAt R' p (n.ballot b)::Hs) w':=by
 apply Zos;refine Zd hw λ q w hw=>?_;obtain ⟨L,hn,hw⟩:=NAt.iff.1 hw.swap;refine Zb.mk rfl ⟨_,At.own (eqS hw) (by exact ⟨rfl,trivial⟩),?_⟩;refine (Zai (hw.take (Zn R L.ep n.e))).use ?_;clear hw;rintro _ w ⟨rfl,hw⟩;have hw:Sat R (pts p (Ze n L)::Zn R L.ep n.e::Zr R L.lp n.log::Z2 L.pm n.ps::Z0 L.rs n.rs::Zq R L.ms n.rms::ZN L.rr n.rrd::pts q (blC b)::Hs) w:=hw.arr;refine ⟨_,rfl,Zi (Sat R [pts p (Ze n L),pts q (blC b),VC.tru]) hw (λ w hw=>hw.k2) λ w hw=>Zb.mk rfl ⟨some ⟨L.ep,0,none⟩,At.own Zf (by exact ⟨rfl,trivial⟩),_,_,_,_,_,_,_,At.own Zf (by exact ⟨rfl,rfl,rfl,rfl,rfl,rfl,rfl,trivial⟩),Zb.mk rfl ⟨some ⟨L.lp,0,none⟩,At.own (eqS hw) (by exact ⟨rfl,trivial⟩),?_⟩⟩⟩;refine (ZT h.b.g.lg (hw.take (Zr R L.lp n.log))).use ?_;clear hw;rintro _ w ⟨rfl,hw⟩;refine ⟨_,rfl,hw.k2,?_⟩;have hw:Sat R (pts p (Ze n L)::Zn R L.ep n.e::Zr R L.lp n.log::Z2 L.pm n.ps::Z0 L.rs n.rs::Zq R L.ms n.rms::ZN L.rr n.rrd::pts q (blC b)::Hs) w:=hw.arr;refine (Zh5 (L:=L) h.b.g.lg hw).use ?_;clear hw;rintro _ w ⟨rfl,hw⟩;refine ⟨_,rfl,hw.k2,?_⟩;refine (Zj2 (b:=b) h.b.e n.log.last _ (hw.take (Zn R L.ep n.e))).use ?_;clear hw;rintro _ w ⟨s,rfl,hw⟩;refine ⟨s,rfl,?_⟩;have hbl:=ZiE n.e b n.log.last (n.log.term n.log.last).1 h.b.e.g;obtain ⟨r,hr⟩:∃ r,r=n.e.take b n.log.last (n.log.term n.log.last).1:=⟨_,rfl⟩;have hb:RnB { n with e:=r.2 }:=⟨⟨h.b.g.lg,h.b.g.lb,h.b.g.sg,h.b.g.w1,h.b.g.w64⟩,h.b.pe,by rw [hr];exact h.b.e.take _ _ _,by rw [hr];exact (ZhZ _ _ _ _).trans h.b.id,h.b.sn⟩;rw [<-hr] at hw hbl;have hw:Sat R (pts p (Ze { n with e:=r.2 } L)::Zn R L.ep r.2::Zr R L.lp n.log::Z2 L.pm n.ps::Z0 L.rs n.rs::Zq R L.ms n.rms::ZN L.rr n.rrd::BlO s r.1::pts q (blC b)::Hs) w:=hw.arr;have hw:Sat R (NAt R p { n with e:=r.2 }::BlO s r.1::pts q (blC b)::Hs) w:=NAt.iff.2 ⟨L,⟨hn.g,hn.sg,hn.sd⟩,hw⟩;refine (Zdy (n:={ n with e:=r.2 }) (led:=n.e.role==3) hb.g hb.pe hb.id15 hb.sn hlast hl (by omega) (λ h2=>h.sm (by simpa using h2)) hw.swap).use ?_;clear hw;rintro _ w ⟨rfl,R2,e2,hw⟩;refine ⟨rfl,rfl,R2,e2,?_⟩;have e:n.ballot b=Rn.voted { n with e:=r.2 } (n.e.role==3) r.1:=by unfold Rn.ballot;rw [hr]
 rw [e];exact hw.cons λ _ h=>h.drop
end
section
open Go Go.VC Tryz
open Go.Rf (Ey Lg ZD)
variable {R R' R1 R2:Cx} {Hs Rest Rest2:List HP} {w:World} {p:Nat} {n m:Rn}
structure Zd3 (x:Mg):Prop where
 es:x.es.length<=1000
 eb:∀ e∈x.es,Zx e.dt
 i0: -4611686018427387904<=x.ix
 i1:x.ix<=4611686018427387904
 db:Zx x.sn.dt
abbrev mgC (t:MLo × Mg):Obj:=.cells (Zbn t).toArray 71 (0,0)
theorem LgB.mergeAt {g:Lg} (h:LgB g) {l:List Ey} (hl:∀ e∈l,Zx e.dt) (i t:Int):LgB (g.mergeAt i t l).2:=by
 unfold Lg.mergeAt;split
 ·exact h
 ·split
  ·exact h
  ·dsimp only
   split
   ·exact h
   ·intro e he
    rcases List.mem_append.1 he with he|he
    ·exact h e (List.mem_of_mem_take he)
    ·exact hl e (List.mem_of_mem_drop he)
theorem LgB.merge {g:Lg} (h:LgB g) {l:List Ey} (hl:∀ e∈l,Zx e.dt) (i t:Int):LgB (g.merge i t l).2:=by
 unfold Lg.merge;split
 ·exact h
 ·split
  ·split
   ·exact h
   ·dsimp only
    split
    ·exact h
    ·exact h.mergeAt (λ e he=>hl e (List.mem_of_mem_drop he)) _ _
  ·exact h.mergeAt hl _ _
theorem LgB.new (i t:Int):LgB (Lg.new i t):=λ e he=>by cases he
theorem LgB.reset {g:Lg} (h:LgB g) (i t:Int):LgB (g.reset i t).2:=by
 unfold Lg.reset;split
 ·exact h
 ·split
  ·exact h
  ·exact .new i t
theorem ZgH (n:Rn) (i:Int):(n.commit i).rms=n.rms/\(n.commit i).e=n.e/\(n.commit i).ps=n.ps/\(n.commit i).log.last=n.log.last:=by
 unfold Rn.commit;split
 ·refine ⟨rfl,rfl,rfl,?_⟩
  show (n.log.commit i).2.last=_;unfold Lg.commit;split<;>rfl
 ·exact ⟨rfl,rfl,rfl,rfl⟩
theorem RnA.app (h:RnA n) {x:Mg} (hx:Zd3 x):RnA (n.app x):=by
 have h1:RnA { n with log:=(n.log.merge x.ix x.lt x.es).2 }:=h.log (h.b.g.lg.merge _ _ _) (h.b.g.lb.merge hx.eb _ _);unfold Rn.app;dsimp only;split
 ·refine RnA.put (RnA.commit ?_ _) _
  split
  ·exact h1.b.fresh _
  ·exact h1
 ·split
  ·exact h1.put _
  ·exact h1
theorem RnA.install (h:RnA n) {x:Mg}:RnA (n.install x):=by
 unfold Rn.install;split
 ·exact h
 ·rename_i hr
  simp only [Bool.or_eq_true,Bool.not_eq_true',not_or,Bool.not_eq_false] at hr;split
  ·exact h.put _
  ·split
   ·exact (h.commit _).put _
   ·refine RnA.put (RnB.regroup ?_) _
    have hg:Zo x.sn.g.vs x.sn.g.ls=true:=by have:=hr.1.1;unfold ZE at this;simp only [Bool.and_eq_true] at this;exact this.1.2
    exact ⟨⟨h.b.g.lg.reset _ _,h.b.g.lb.reset _ _,hg,h.b.g.w1,h.b.g.w64⟩,h.b.pe,h.b.e,h.b.id,hr.1.1⟩
theorem Zmr (e:Eln) (fr t:Int):(e.heard fr t).id=e.id:=by
 unfold Eln.heard;split
 ·show (if t>e.hd.tm then e.down t else e).id=_
  split<;>rfl
 ·rfl
theorem ZjW (e:Eln) {fr t:Int} (h:e.heardOk fr t=true):(e.heard fr t).role=0:=by unfold Eln.heard;rw [if_pos h]
theorem Zmq (e:Eln) {fr t:Int} (h:e.heardOk fr t=false):e.heard fr t=e:=by unfold Eln.heard;rw [if_neg (by rw [h];simp)]
theorem RnA.heard (h:RnA n) (fr t:Int):RnB { n with e:=n.e.heard fr t }:=⟨⟨h.b.g.lg,h.b.g.lb,h.b.g.sg,h.b.g.w1,h.b.g.w64⟩,h.b.pe,h.b.e.heard _ _,(Zmr _ _ _).trans h.b.id,h.b.sn⟩
theorem RnA.asked (h:RnA n) {x:Mg} (hx:Zd3 x):RnA (n.asked x):=by
 have hv:=(h.heard x.fr x.tm).voted (led:=false) (λ h=>by cases h) [];unfold Rn.asked;split
 ·exact h.put _
 ·split
  ·rename_i h2
   have e:n.e.heard x.fr x.tm=n.e:=Zmq _ (by simpa using h2);rw [e];exact h
  ·dsimp only
   split
   ·exact hv.app hx
   ·split
    ·exact (hv.commit _).put _
    ·split
     ·exact hv.install
     ·exact hv
theorem ZmH (h:RnA n) {x:Mg} {L0:MLo} (hm:Zdu R x L0) (hx:Zd3 x) (hl:n.rms.length<=999900000) (hw:Sat R (NAt R p n::Hs) w):
  Zj prog 187 #[.pointer (some ⟨p,0,none⟩),Zhl (L0,x)] w λ v w'=>v=.tuple #[]/\∃ R',R.Ext R'/\Sat R' (NAt R' p (n.app x)::Hs) w':=by
 apply Zob;refine Zd hw λ b w hw=>?_;obtain ⟨L,hn,hw⟩:=NAt.iff.1 hw.swap;have hw:Sat R (pts p (Ze n L)::Zn R L.ep n.e::Zr R L.lp n.log::Z2 L.pm n.ps::Z0 L.rs n.rs::Zq R L.ms n.rms::ZN L.rr n.rrd::pts b (mgC (L0,x))::Hs) w:=hw.arr;have hel:L0.e.len=x.es.length:=by have:=hm.es.len;rw [<-hm.ee];simpa using this
 have hdl:L0.ds.length=x.es.length:=by rw [<-hm.ee,List.length_map]
 have hes:=hx.es;have hx0:=hx.i0;have hx1:=hx.i1;refine Zm hw λ w hw=>Zb.mk rfl ⟨some ⟨L.lp,0,none⟩,At.own (eqS hw) (by exact ⟨rfl,trivial⟩),x.ix,At.own (eqS hw) (by exact ⟨rfl,trivial⟩),x.lt,At.own (eqS hw) (by exact ⟨rfl,trivial⟩),L0.e,At.own (eqS hw) (by exact ⟨rfl,trivial⟩),?_⟩;refine (Zib (A:=pur True) h.b.g.lg x.ix x.lt (.ro hm.es) hm.dr (by omega) hm.ec ((hw.take (Zr R L.lp n.log)).cons λ _ h=>Sat.pur.2 ⟨trivial,h⟩)).use ?_;clear hw;rw [hm.ee];rintro _ w ⟨R2,e2,rfl,hw⟩;have hw:=hw.cons λ _ h=>(Sat.pur.1 h).2;obtain ⟨r,hr⟩:∃ r,r=n.log.merge x.ix x.lt x.es:=⟨_,rfl⟩;have h1:RnA { n with log:=r.2 }:=by rw [hr];exact h.log (h.b.g.lg.merge _ _ _) (h.b.g.lb.merge hx.eb _ _)
 obtain ⟨n1,hn1⟩:∃ n1:Rn,n1={ n with log:=r.2 }:=⟨_,rfl⟩;have ha:n.app x=if r.1.2==0 then ((if r.1.1>0 then n1.fresh r.1.1 else n1).commit (min x.com (x.ix + x.es.length))).put { kd:=6,to':=x.fr,ix:=x.ix + x.es.length,yes:=true } else if r.1.2==7 then n1.put { kd:=6,to':=x.fr,ix:=x.ix,hint:=r.2.back x.ix x.lt } else n1:=by
  rw [hn1,hr];rfl
 rw [<-hr] at hw ⊢;rw [ha];rw [<-hn1] at h1;have hrms:n1.rms=n.rms:=by rw [hn1]
 have hw:Sat R2 (NAt R2 p n1::pts b (mgC (L0,x))::Hs) w:=by
  rw [hn1];exact NAt.mkX (L:=L) (n:={ n with log:=r.2 }) ⟨hn.g,hn.sg,hn.sd⟩ e2 (show Sat R2 (pts p (Ze { n with log:=r.2 } L)::Zn R L.ep n.e::Zr R2 L.lp r.2::Z2 L.pm n.ps::Z0 L.rs n.rs::Zq R L.ms n.rms::ZN L.rr n.rrd::pts b (mgC (L0,x))::Hs) w from hw.arr)
 refine ⟨_,_,rfl,Br.e (λ h2=>?_) (λ h2=>?_)⟩
 ·rw [if_pos (by simpa using h2)]
  obtain ⟨n2,hn2⟩:∃ n2,n2=if r.1.1>0 then n1.fresh r.1.1 else n1:=⟨_,rfl⟩
  rw [<-hn2];have hrms2:n2.rms=n1.rms:=by rw [hn2];split<;>rfl
  have h3:RnA n2:=by rw [hn2];split;exact h1.b.fresh _;exact h1
  refine ⟨λ w=>∃ R3,R2.Ext R3/\Sat R3 (NAt R3 p n2::pts b (mgC (L0,x))::Hs) w,Br.d (λ h4=>?_) (λ h4=>?_),?_⟩
  ·refine (ZfH h1.b.g r.1.1 hw).use ?_
   rintro _ w ⟨rfl,R3,e3,hw⟩;exact ⟨rfl,R3,e3,by rw [hn2,if_pos h4];exact hw⟩
  ·exact ⟨R2,.refl,by rw [hn2,if_neg h4];exact hw⟩
  clear hw;rintro _ w ⟨R3,e3,hw⟩;refine ⟨x.ix,At.own (eqS hw) (by exact ⟨rfl,trivial⟩),L0.e,At.own (eqS hw) (by exact ⟨rfl,trivial⟩),x.com,At.own (eqS hw) (by exact ⟨rfl,trivial⟩),?_⟩;rw [hel,Zh (by omega) (by omega)];rw [show (if x.ix + (x.es.length:Int)<x.com then x.ix + (x.es.length:Int) else x.com)=min x.com (x.ix + x.es.length) by split<;>omega]
  refine (Zcc h3.b.g.lg _ hw).use ?_;clear hw;rintro _ w ⟨rfl,hw⟩;refine ⟨rfl,x.fr,At.own (eqS hw) (by exact ⟨rfl,trivial⟩),?_⟩;refine (ZbQ (m:={ kd:=6,to':=x.fr,ix:=x.ix + x.es.length,yes:=true }) (Zdu.nil rfl rfl) (by rw [(ZgH _ _).1,hrms2,hrms];omega) hw).use ?_;clear hw;rintro _ w ⟨rfl,hw⟩;exact ⟨rfl,rfl,R3,e2.trans e3,hw.cons λ _ h=>h.drop⟩
 rw [if_neg (by simpa using h2)];refine Br.e (λ h3=>?_) (λ h3=>by rw [if_neg (by simpa using h3)];exact ⟨rfl,R2,e2,hw.cons λ _ h=>h.drop⟩);rw [if_pos (by simpa using h3)];obtain ⟨L2,hn2,hw⟩:=NAt.iff.1 hw;have hlog:n1.log=r.2:=by rw [hn1]
 have hw:Sat R2 (pts p (Ze n1 L2)::Zn R2 L2.ep n1.e::Zr R2 L2.lp n1.log::Z2 L2.pm n1.ps::Z0 L2.rs n1.rs::Zq R2 L2.ms n1.rms::ZN L2.rr n1.rrd::pts b (mgC (L0,x))::Hs) w:=hw.arr;refine Zi (Sat R2 [pts b (mgC (L0,x)),VC.tru]) hw (λ w hw=>hw.k1) λ w hw=>⟨x.fr,At.own Zf (by exact ⟨rfl,trivial⟩),x.ix,At.own Zf (by exact ⟨rfl,trivial⟩),Zb.mk rfl ⟨some ⟨L2.lp,0,none⟩,At.own (eqS hw) (by exact ⟨rfl,trivial⟩),x.ix,At.own (eqS hw) (by exact ⟨rfl,trivial⟩),x.lt,At.own (eqS hw) (by exact ⟨rfl,trivial⟩),?_⟩⟩;refine (ZjP h1.b.g.lg x.ix x.lt (hw.take (Zr R2 L2.lp n1.log))).use ?_;clear hw;rintro _ w ⟨rfl,hw⟩;refine ⟨_,rfl,hw.k1,?_⟩;rw [hlog];have hw:Sat R2 (NAt R2 p n1::pts b (mgC (L0,x))::Hs) w:=NAt.iff.2 ⟨L2,hn2,hw.arr⟩;refine (ZbQ (m:={ kd:=6,to':=x.fr,ix:=x.ix,hint:=r.2.back x.ix x.lt }) (Zdu.nil rfl rfl) (by rw [hrms];omega) hw).use ?_;clear hw;rintro _ w ⟨rfl,hw⟩;exact ⟨rfl,rfl,R2,e2,hw.cons λ _ h=>h.drop⟩
theorem Zhs (h:RnA n) {x:Mg} {L0:MLo} (hm:Zdu R x L0) (hx:Zd3 x) (hl:n.rms.length<=999900000) (hw:Sat R (NAt R p n::Hs) w):
  Zj prog 189 #[.pointer (some ⟨p,0,none⟩),Zhl (L0,x)] w λ v w'=>v=.tuple #[]/\∃ R',R.Ext R'/\Sat R' (NAt R' p (n.install x)::Hs) w':=by
 apply Zn9;refine Zd hw λ b w hw=>?_;refine ⟨_,_,L0.v,L0.l,L0.d,At.own (eqS hw) (by exact ⟨rfl,rfl,rfl,rfl,rfl,trivial⟩),Zd hw λ b4 w hw=>?_⟩;refine Za hw (by kernel_rfl) rfl (by simp [Value.cells,Zc]) λ w hw=>?_;have hw:=hw.re (pts b4 (ZZ x.sn L0.v L0.l L0.d));have hw:Sat R (NAt R p n::pts b4 (ZZ x.sn L0.v L0.l L0.d)::pts b (mgC (L0,x))::Hs) w:=hw.arr;obtain ⟨I,hI⟩:∃ I,I=n.install x:=⟨_,rfl⟩;rw [<-hI];unfold Rn.install at hI;have done:∀ {R':Cx} {w:World} {m:Rn},R.Ext R'->I=m->Sat R' (NAt R' p m::pts b4 (ZZ x.sn L0.v L0.l L0.d)::pts b (mgC (L0,x))::Hs) w->Value.tuple #[]=.tuple #[]/\∃ R',R.Ext R'/\Sat R' (NAt R' p I::Hs) w:=λ {R' w m} e hi hw=>⟨rfl,R',e,by rw [hi];exact hw.cons λ _ h=>h.drop.drop⟩;refine ⟨λ w=>(!ZE x.sn||x.sn.ix !=x.ix||x.sn.tm !=x.lt)=false/\Sat R (NAt R p n::pts b4 (ZZ x.sn L0.v L0.l L0.d)::pts b (mgC (L0,x))::Hs) w,?_,?_⟩
 ·refine ⟨_,_,L0.v,L0.l,L0.d,At.own (eqS hw) (by exact ⟨rfl,rfl,rfl,rfl,rfl,trivial⟩),?_⟩
  refine (ZdQ hm.g hm.d hw).use ?_;clear hw;rintro _ w ⟨rfl,hw⟩;refine ⟨_,rfl,Br.nb (λ h2=>done .refl (by rw [hI,if_pos (by rw [h2];rfl)]) hw) λ h2=>⟨x.sn.ix,At.own (eqS hw) (by exact ⟨rfl,trivial⟩),x.ix,At.own (eqS hw) (by exact ⟨rfl,trivial⟩),Br.ne (λ h3=>done .refl (by rw [hI,if_pos (by rw [h2,show (x.sn.ix !=x.ix)=true by simpa using h3];rfl)]) hw) λ h3=>⟨x.sn.tm,At.own (eqS hw) (by exact ⟨rfl,trivial⟩),x.lt,At.own (eqS hw) (by exact ⟨rfl,trivial⟩),Br.ne (λ h4=>done .refl (by rw [hI,if_pos (by rw [show (x.sn.tm !=x.lt)=true by simpa using h4,Bool.or_true])]) hw) λ h4=>⟨?_,hw⟩⟩⟩⟩;rw [h2,show (x.sn.ix !=x.ix)=false by simpa using h3,show (x.sn.tm !=x.lt)=false by simpa using h4];rfl
 clear hw;rintro _ w ⟨hc,hw⟩;rw [if_neg (by rw [hc];simp)] at hI;simp only [Bool.or_eq_false_iff,Bool.not_eq_false'] at hc;have hrs:=hc.1.1;have hrs':=hrs;unfold ZE Z3 at hrs';simp only [Bool.and_eq_true,decide_eq_true_eq] at hrs';obtain ⟨L,hn,hw⟩:=NAt.iff.1 hw;have hw:Sat R (pts p (Ze n L)::Zn R L.ep n.e::Zr R L.lp n.log::Z2 L.pm n.ps::Z0 L.rs n.rs::Zq R L.ms n.rms::ZN L.rr n.rrd::pts b4 (ZZ x.sn L0.v L0.l L0.d)::pts b (mgC (L0,x))::Hs) w:=hw;refine ⟨x.sn.ix,At.own (eqS hw) (by exact ⟨rfl,trivial⟩),Zm hw λ w hw=>Zb.mk rfl ⟨some ⟨L.lp,0,none⟩,At.own (eqS hw) (by exact ⟨rfl,trivial⟩),x.sn.ix,At.own (eqS hw) (by exact ⟨rfl,trivial⟩),?_⟩⟩;refine (ZaS h.b.g.lg x.sn.ix (hw.take (Zr R L.lp n.log))).use ?_;clear hw;rintro _ w ⟨rfl,hw⟩;refine ⟨_,_,rfl,Zi (Sat R [pts b4 (ZZ x.sn L0.v L0.l L0.d),VC.tru]) hw (λ w hw=>hw.k1) λ w hw=>⟨x.sn.ix,At.own Zf (by exact ⟨rfl,trivial⟩),Zb.mk rfl ⟨some ⟨L.lp,0,none⟩,At.own (eqS hw) (by exact ⟨rfl,trivial⟩),?_⟩⟩⟩;refine (ZF (hw.take (Zr R L.lp n.log))).use ?_;clear hw;rintro _ w ⟨rfl,hw⟩;refine ⟨_,rfl,hw.k1,Br.d (λ h2=>Zb.mk rfl ⟨some ⟨L.lp,0,none⟩,At.own (eqS hw) (by exact ⟨rfl,trivial⟩),?_⟩) (λ h2=>?_)⟩
 ·rw [if_pos h2] at hI
  refine (ZF (hw.take (Zr R L.lp n.log))).use ?_;clear hw;rintro _ w ⟨rfl,hw⟩;refine ⟨_,rfl,x.fr,At.own (eqS hw) (by exact ⟨rfl,trivial⟩),?_⟩;have hw:Sat R (NAt R p n::pts b4 (ZZ x.sn L0.v L0.l L0.d)::pts b (mgC (L0,x))::Hs) w:=NAt.iff.2 ⟨L,hn,hw.arr⟩;refine (ZbQ (m:={ kd:=10,to':=x.fr,ix:=n.log.com,yes:=true }) (Zdu.nil rfl rfl) (by omega) hw).use ?_;clear hw;rintro _ w ⟨rfl,hw⟩;exact ⟨rfl,done .refl hI hw⟩
 rw [if_neg h2] at hI;have hw:Sat R (pts p (Ze n L)::Zn R L.ep n.e::Zr R L.lp n.log::Z2 L.pm n.ps::Z0 L.rs n.rs::Zq R L.ms n.rms::ZN L.rr n.rrd::pts b4 (ZZ x.sn L0.v L0.l L0.d)::pts b (mgC (L0,x))::Hs) w:=hw.arr;refine ⟨λ c w=>c=((n.log.term x.sn.ix).2 && (n.log.term x.sn.ix).1==x.sn.tm)/\Sat R (pts p (Ze n L)::Zn R L.ep n.e::Zr R L.lp n.log::Z2 L.pm n.ps::Z0 L.rs n.rs::Zq R L.ms n.rms::ZN L.rr n.rrd::pts b4 (ZZ x.sn L0.v L0.l L0.d)::pts b (mgC (L0,x))::Hs) w,Br.mk (λ h3=>⟨x.sn.tm,At.own (eqS hw) (by exact ⟨rfl,trivial⟩),by rw [h3];rfl,hw⟩) (λ h3=>⟨by rw [h3];rfl,hw⟩),?_⟩;clear hw;rintro _ _ w ⟨rfl,hw⟩;refine Br.mk (λ h3=>⟨x.sn.ix,At.own (eqS hw) (by exact ⟨rfl,trivial⟩),?_⟩) (λ h3=>?_)
 ·rw [if_pos h3] at hI
  refine (Zcc h.b.g.lg x.sn.ix (NAt.iff.2 ⟨L,hn,hw⟩)).use ?_;clear hw;rintro _ w ⟨rfl,hw⟩;refine ⟨rfl,x.fr,At.own (eqS hw) (by exact ⟨rfl,trivial⟩),?_⟩;refine (ZbQ (m:={ kd:=10,to':=x.fr,ix:=x.sn.ix,yes:=true }) (Zdu.nil rfl rfl) (by rw [(ZgH _ _).1];omega) hw).use ?_;clear hw;rintro _ w ⟨rfl,hw⟩;exact ⟨rfl,done .refl hI hw⟩
 rw [if_neg (by rw [h3];simp)] at hI;refine Zm hw λ w hw=>Zb.mk rfl ⟨some ⟨L.lp,0,none⟩,At.own (eqS hw) (by exact ⟨rfl,trivial⟩),x.sn.ix,At.own (eqS hw) (by exact ⟨rfl,trivial⟩),x.sn.tm,At.own (eqS hw) (by exact ⟨rfl,trivial⟩),?_⟩;refine (Zia x.sn.ix x.sn.tm (hw.take (Zr R L.lp n.log))).use ?_;clear hw;rintro _ w ⟨rfl,hw⟩;obtain ⟨lg,hlg⟩:∃ lg,lg=(n.log.reset x.sn.ix x.sn.tm).2:=⟨_,rfl⟩;rw [<-hlg] at hw hI;refine ⟨_,rfl,_,_,L0.v,L0.l,L0.d,At.own (eqS hw) (by exact ⟨rfl,rfl,rfl,rfl,rfl,trivial⟩),?_⟩;have hgb:=Zp hrs'.1.2;refine (Zap hm.g hm.d (by have:=Zv (Zp hrs'.1.2);omega) (by have:=Zv (ZO hrs'.1.2);omega) (by omega) hw).use ?_;clear hw;rintro _ w ⟨R2,v,l,d,e2,hg2,hd2,rfl,hw⟩;refine ⟨_,_,v,l,d,rfl,Zb.mk rfl ?_⟩;have hw:Sat R2 (pts p (Ze n L)::Zn R L.ep n.e::Zr R L.lp lg::Z2 L.pm n.ps::Z0 L.rs n.rs::Zq R L.ms n.rms::ZN L.rr n.rrd::pts b4 (ZZ x.sn L0.v L0.l L0.d)::pts b (mgC (L0,x))::Hs) w:=hw.arr;refine Za hw (by kernel_rfl) rfl (by simp [Value.cells,Zc]) λ w hw=>?_;refine Zb.mk rfl ?_;refine Za hw (by kernel_rfl) rfl (by simp [Value.cells,Zc]) λ w hw=>?_;refine Zb.mk rfl ?_;refine Za hw (by kernel_rfl) rfl (by simp [Value.cells,Zc]) λ w hw=>?_;obtain ⟨n1,hn1⟩:∃ n1:Rn,n1={ n with log:=lg,sn:=x.sn,rsn:=true,rfr:=0 }:=⟨_,rfl⟩;have hw:=hw.re (pts p (Ze { n with log:=lg,sn:=x.sn,rsn:=true,rfr:=0 } { L with sv:=v,sl:=l,sd:=d }));rw [<-hn1] at hI;have hb1:RnB n1:=by
  rw [hn1];exact ⟨⟨by rw [hlg];exact h.b.g.lg.reset _ _,by rw [hlg];exact h.b.g.lb.reset _ _,hrs'.1.2,h.b.g.w1,h.b.g.w64⟩,h.b.pe,h.b.e,h.b.id,hrs⟩
 have hw:Sat R2 (NAt R2 p n1::pts b4 (ZZ x.sn L0.v L0.l L0.d)::pts b (mgC (L0,x))::Hs) w:=by
  rw [hn1];refine NAt.mkX (L:={ L with sv:=v,sl:=l,sd:=d }) (n:={ n with log:=lg,sn:=x.sn,rsn:=true,rfr:=0 }) (R1:=R2) ⟨hn.g.ext e2,hg2,hd2⟩ .refl ?_;have hw:Sat R2 (Zr R L.lp lg::Zn R L.ep n.e::Zq R L.ms n.rms::pts p (Ze { n with log:=lg,sn:=x.sn,rsn:=true,rfr:=0 } { L with sv:=v,sl:=l,sd:=d })::Z2 L.pm n.ps::Z0 L.rs n.rs::ZN L.rr n.rrd::pts b4 (ZZ x.sn L0.v L0.l L0.d)::pts b (mgC (L0,x))::Hs) w:=hw.arr;have hw:Sat R2 (Zr R2 L.lp lg::Zn R2 L.ep n.e::Zq R2 L.ms n.rms::pts p (Ze { n with log:=lg,sn:=x.sn,rsn:=true,rfr:=0 } { L with sv:=v,sl:=l,sd:=d })::Z2 L.pm n.ps::Z0 L.rs n.rs::ZN L.rr n.rrd::pts b4 (ZZ x.sn L0.v L0.l L0.d)::pts b (mgC (L0,x))::Hs) w:=
   (Zr.ext hw e2).cons λ _ h=>(Zn.ext h e2).cons λ _ h=>Zq.ext h e2
  exact hw.arr
 refine (Zbs hb1.g.lg hb1.g.lb hb1.g.sg hb1.g.w1 hb1.g.w64 hw).use ?_;clear hw;rintro _ w ⟨rfl,R3,e3,hw⟩;refine ⟨rfl,x.fr,At.own (eqS hw) (by exact ⟨rfl,trivial⟩),?_⟩;have hr1:n1.regroup.rms=n.rms:=by rw [ZbF.2.2.2.1,hn1]
 refine (ZbQ (m:={ kd:=10,to':=x.fr,ix:=x.sn.ix,yes:=true }) (Zdu.nil rfl rfl) (by rw [hr1];omega) hw).use ?_;clear hw;rintro _ w ⟨rfl,hw⟩;exact ⟨rfl,done (e2.trans e3) hI hw⟩
end
section
open Go Go.VC Tryz
open Go.Rf (Ey Lg ZD)
variable {R R' R1 R2:Cx} {Hs Rest Rest2:List HP} {w:World} {p:Nat} {n m:Rn}
theorem Zkb (h:RnA n) {x:Mg} {L0:MLo} (hm:Zdu R x L0) (hx:Zd3 x) (hk:x.kd=5\/x.kd=7\/x.kd=9) (hlast:n.log.last<=1000000000) (hl:n.rms.length<=999900000) (hw:Sat R (NAt R p n::Hs) w):
  Zj prog 137 #[.pointer (some ⟨p,0,none⟩),Zhl (L0,x)] w λ v w'=>v=.tuple #[]/\∃ R',R.Ext R'/\Sat R' (NAt R' p (n.asked x)::Hs) w':=by
 apply Zor;refine Zd hw λ b w hw=>?_;obtain ⟨A,hA⟩:∃ A,A=n.asked x:=⟨_,rfl⟩;rw [<-hA];unfold Rn.asked at hA;have done:∀ {R':Cx} {w:World} {m:Rn},R.Ext R'->A=m->Sat R' (NAt R' p m::pts b (mgC (L0,x))::Hs) w->Value.tuple #[]=.tuple #[]/\∃ R',R.Ext R'/\Sat R' (NAt R' p A::Hs) w:=λ {R' w m} e hi hw=>⟨rfl,R',e,by rw [hi];exact hw.cons λ _ h=>h.drop⟩;obtain ⟨L,hn,hw⟩:=NAt.iff.1 hw.swap;have hw:Sat R (pts p (Ze n L)::Zn R L.ep n.e::Zr R L.lp n.log::Z2 L.pm n.ps::Z0 L.rs n.rs::Zq R L.ms n.rms::ZN L.rr n.rrd::pts b (mgC (L0,x))::Hs) w:=hw;refine Zi (Sat R [pts b (mgC (L0,x)),VC.tru]) hw (λ w hw=>hw.k1) λ w hw=>⟨x.tm,At.own Zf (by exact ⟨rfl,trivial⟩),Zb.mk rfl ⟨some ⟨L.ep,0,none⟩,At.own (eqS hw) (by exact ⟨rfl,trivial⟩),?_⟩⟩;refine (Zaq (hw.take (Zn R L.ep n.e))).use ?_;clear hw;rintro _ w ⟨rfl,hw⟩;have hw:Sat R (pts p (Ze n L)::Zn R L.ep n.e::Zr R L.lp n.log::Z2 L.pm n.ps::Z0 L.rs n.rs::Zq R L.ms n.rms::ZN L.rr n.rrd::pts b (mgC (L0,x))::Hs) w:=hw.arr;refine ⟨_,_,rfl,hw.k1,Br.d (λ h2=>⟨x.kd,At.own (eqS hw) (by exact ⟨rfl,trivial⟩),x.fr,At.own (eqS hw) (by exact ⟨rfl,trivial⟩),x.ix,At.own (eqS hw) (by exact ⟨rfl,trivial⟩),?_⟩) (λ h2=>?_)⟩
 ·rw [if_pos h2] at hA
  rw [Zh (by omega) (by omega)];refine (ZbQ (m:={ kd:=x.kd + 1,to':=x.fr,ix:=x.ix }) (Zdu.nil rfl rfl) (by omega) (NAt.iff.2 ⟨L,hn,hw⟩)).use ?_;clear hw;rintro _ w ⟨rfl,hw⟩;exact ⟨rfl,done .refl hA hw⟩
 rw [if_neg h2] at hA;refine Zm hw λ w hw=>Zb.mk rfl ⟨some ⟨L.ep,0,none⟩,At.own (eqS hw) (by exact ⟨rfl,trivial⟩),x.fr,At.own (eqS hw) (by exact ⟨rfl,trivial⟩),x.tm,At.own (eqS hw) (by exact ⟨rfl,trivial⟩),?_⟩;refine (ZjV x.fr x.tm (hw.take (Zn R L.ep n.e))).use ?_;clear hw;rintro _ w ⟨rfl,hw⟩;obtain ⟨n0,hn0⟩:∃ n0:Rn,n0={ n with e:=n.e.heard x.fr x.tm }:=⟨_,rfl⟩;have hb0:RnB n0:=by rw [hn0];exact h.heard _ _
 rw [<-hn0] at hA;have hw:Sat R (NAt R p n0::pts b (mgC (L0,x))::Hs) w:=by
  rw [hn0];exact NAt.iff.2 ⟨L,⟨hn.g,hn.sg,hn.sd⟩,(show Sat R (pts p (Ze { n with e:=n.e.heard x.fr x.tm } L)::Zn R L.ep (n.e.heard x.fr x.tm)::Zr R L.lp n.log::Z2 L.pm n.ps::Z0 L.rs n.rs::Zq R L.ms n.rms::ZN L.rr n.rrd::pts b (mgC (L0,x))::Hs) w from hw.arr)⟩
 refine ⟨_,rfl,Br.nb (λ h3=>done .refl (by rw [hA,if_pos (by rw [h3];rfl)]) hw) (λ h3=>?_)⟩;rw [if_neg (by rw [h3];simp)] at hA;dsimp only at hA;have hrole:n0.e.role=0:=by rw [hn0];exact ZjW _ h3
 have hw2:Sat R (BlO ⟨none,0,0⟩ []::NAt R p n0::pts b (mgC (L0,x))::Hs) w:=OwnN.nil hw;refine (Zdy (t:=⟨none,0,0⟩) (bl:=[]) (led:=false) hb0.g hb0.pe hb0.id15 hb0.sn (by rw [hn0];exact hlast) (by rw [hn0];exact hl) (by simp) (λ h=>by cases h) hw2).use ?_;clear hw hw2;rintro _ w ⟨rfl,R2,e2,hw⟩;obtain ⟨n1,hn1⟩:∃ n1,n1=n0.voted false []:=⟨_,rfl⟩;have hrms:n1.rms.length<=999900000:=by
  rw [hn1];unfold Rn.voted;dsimp only;rw [if_pos (by rw [hrole];decide)];show (n0.rms++[].map ZcK).length<=_;rw [hn0];simpa using hl
 have h1:RnA n1:=by rw [hn1];exact hb0.voted (λ h=>by cases h) []
 rw [<-hn1] at hw hA;have hm2:=hm.ext e2;refine ⟨rfl,x.kd,At.own (eqS hw) (by exact ⟨rfl,trivial⟩),Br.e (λ h4=>?_) (λ h4=>?_)⟩
 ·rw [if_pos (by simpa using h4)] at hA
  refine ⟨_,_,_,_,_,_,_,_,_,_,L0.e,_,_,L0.v,L0.l,L0.d,At.own (eqS hw) (by exact ⟨rfl,rfl,rfl,rfl,rfl,rfl,rfl,rfl,rfl,rfl,rfl,rfl,rfl,rfl,rfl,rfl,trivial⟩),?_⟩;refine (ZmH h1 hm2 hx hrms hw).use ?_;clear hw;rintro _ w ⟨rfl,R3,e3,hw⟩;exact ⟨rfl,done (e2.trans e3) hA hw⟩
 rw [if_neg (by simpa using h4)] at hA;refine Br.e (λ h5=>?_) (λ h5=>?_)
 ·rw [if_pos (by simpa using h5)] at hA
  obtain ⟨L2,hn2,hw⟩:=NAt.iff.1 hw;have hw:Sat R2 (pts p (Ze n1 L2)::Zn R2 L2.ep n1.e::Zr R2 L2.lp n1.log::Z2 L2.pm n1.ps::Z0 L2.rs n1.rs::Zq R2 L2.ms n1.rms::ZN L2.rr n1.rrd::pts b (mgC (L0,x))::Hs) w:=hw;refine Zi (Sat R2 [pts b (mgC (L0,x)),VC.tru]) hw (λ w hw=>hw.k1) λ w hw=>⟨x.com,At.own Zf (by exact ⟨rfl,trivial⟩),Zb.mk rfl ⟨some ⟨L2.lp,0,none⟩,At.own (eqS hw) (by exact ⟨rfl,trivial⟩),?_⟩⟩;refine (ZT h1.b.g.lg (hw.take (Zr R2 L2.lp n1.log))).use ?_;clear hw;rintro _ w ⟨rfl,hw⟩;refine ⟨_,rfl,hw.k1,?_⟩;rw [show (if n1.log.last<x.com then n1.log.last else x.com)=min x.com n1.log.last by split<;>omega]
  refine (Zcc h1.b.g.lg _ (NAt.iff.2 ⟨L2,hn2,(show Sat R2 (pts p (Ze n1 L2)::Zn R2 L2.ep n1.e::Zr R2 L2.lp n1.log::Z2 L2.pm n1.ps::Z0 L2.rs n1.rs::Zq R2 L2.ms n1.rms::ZN L2.rr n1.rrd::pts b (mgC (L0,x))::Hs) w from hw.arr)⟩)).use ?_
  clear hw;rintro _ w ⟨rfl,hw⟩;obtain ⟨n2,hn2'⟩:∃ n2,n2=n1.commit (min x.com n1.log.last):=⟨_,rfl⟩;have h2':RnA n2:=by rw [hn2'];exact h1.commit _
  have hcf:=ZgH n1 (min x.com n1.log.last);rw [<-hn2'] at hw hA hcf;obtain ⟨L3,hn3,hw⟩:=NAt.iff.1 hw;have hw:Sat R2 (pts p (Ze n2 L3)::Zn R2 L3.ep n2.e::Zr R2 L3.lp n2.log::Z2 L3.pm n2.ps::Z0 L3.rs n2.rs::Zq R2 L3.ms n2.rms::ZN L3.rr n2.rrd::pts b (mgC (L0,x))::Hs) w:=hw;refine ⟨rfl,Zi (Sat R2 [pts b (mgC (L0,x)),VC.tru]) hw (λ w hw=>hw.k1) λ w hw=>⟨x.fr,At.own Zf (by exact ⟨rfl,trivial⟩),x.rnd,At.own Zf (by exact ⟨rfl,trivial⟩),Zb.mk rfl ⟨some ⟨L3.lp,0,none⟩,At.own (eqS hw) (by exact ⟨rfl,trivial⟩),?_⟩⟩⟩;refine (ZT h2'.b.g.lg (hw.take (Zr R2 L3.lp n2.log))).use ?_;clear hw;rintro _ w ⟨rfl,hw⟩;refine ⟨_,rfl,hw.k1,?_⟩;rw [hcf.2.2.2];have hw:Sat R2 (NAt R2 p n2::pts b (mgC (L0,x))::Hs) w:=NAt.iff.2 ⟨L3,hn3,hw.arr⟩;refine (ZbQ (m:={ kd:=8,to':=x.fr,yes:=true,rnd:=x.rnd,ix:=n1.log.last }) (Zdu.nil rfl rfl) (by rw [hcf.1];omega) hw).use ?_;clear hw;rintro _ w ⟨rfl,hw⟩;exact ⟨rfl,done e2 hA hw⟩
 rw [if_neg (by simpa using h5)] at hA;refine Br.e (λ h6=>?_) (λ h6=>done e2 (by rw [hA,if_neg (by simpa using h6)]) hw);rw [if_pos (by simpa using h6)] at hA;refine ⟨_,_,_,_,_,_,_,_,_,_,L0.e,_,_,L0.v,L0.l,L0.d,At.own (eqS hw) (by exact ⟨rfl,rfl,rfl,rfl,rfl,rfl,rfl,rfl,rfl,rfl,rfl,rfl,rfl,rfl,rfl,rfl,trivial⟩),?_⟩;refine (Zhs h1 hm2 hx hrms hw).use ?_;clear hw;rintro _ w ⟨rfl,R3,e3,hw⟩;exact ⟨rfl,done (e2.trans e3) hA hw⟩
end
section
open Go Go.VC Tryz
open Go.Rf (Ey Lg ZD)
variable {R R' R1 R2:Cx} {Hs Rest Rest2:List HP} {w:World} {p:Nat} {n m:Rn}
abbrev RqL:=List (Sl × Rq)
def ZfY (ll l:RqL):HP:=Zds (ll.map Zga++l.map Zga)
theorem ZfY.open' {ll l:RqL} {t:Sl × Rq} (hw:Sat R (ZfY ll (t::l)::Hs) w):Sat R (Zga t::ZfY ll l::Hs) w:=by
 have h:=Sat.star.1 hw;have h2:Sat R (Zga t::((ll.map Zga++l.map Zga)++Hs)) w:=h.perm (by
  rw [List.map_cons,List.append_assoc,List.append_assoc];exact List.perm_middle)
 exact h2.cons λ _ h=>Sat.star.2 h
theorem ZfY.shut {ll l:RqL} {t:Sl × Rq} (hw:Sat R (Zga t::ZfY ll l::Hs) w):Sat R (ZfY (ll++[t]) l::Hs) w:=by
 refine Sat.star.2 ?_;have h2:Sat R (Zga t::((ll.map Zga++l.map Zga)++Hs)) w:=hw.cons λ _ h=>Sat.star.1 h;refine h2.perm ?_;rw [List.map_append,List.append_assoc,List.append_assoc,List.append_assoc];exact (List.perm_middle (l₁:=ll.map Zga) (a:=Zga t)).symm
theorem ZhK {pm:Option Nat} {P:HP} (fr rnd:Int) (hrs:n.rs.length<=1000) (hbh:∀ x∈n.rs,x.bh.length<=1000000) (hrr:n.rrd.length<=1000000) (hw:Sat R (Zag R p n pm P::Hs) w):
  Zj prog 190 #[.pointer (some ⟨p,0,none⟩),.int .i64 fr,.int .i64 rnd] w λ v w'=>v=.tuple #[]/\Sat R (Zag R p (n.behind fr rnd) pm P::Hs) w':=by
 obtain ⟨L,hn',hw⟩:=Zag.iff.1 hw;have hn:=hn'.1;obtain ⟨l,hll,hw1⟩:=Z0.iff.1 (hw.take (Z0 L.rs n.rs));have hlen:l.length=n.rs.length:=by rw [<-hll,List.length_map]
 apply Zn8;obtain ⟨won,hwon⟩:∃ won:Nat->List (Int × Int),won=λ k=>(((n.rs.take k).map (Rq.stand fr rnd)).filter (Rq.wins n.g)).map λ x=>(x.tok,x.ix):=⟨_,rfl⟩;obtain ⟨left,hleft⟩:∃ left:Nat->List Rq,left=λ k=>((n.rs.take k).map (Rq.stand fr rnd)).filter λ x=>!Rq.wins n.g x:=⟨_,rfl⟩;have hw:Sat R (pts p (Ze n L)::OwnN 4 L.rs 112 (l.map Z5)::ZfY [] l::ZN L.rr n.rrd::Zn R L.ep n.e::Zr R L.lp n.log::P::Zq R L.ms n.rms::Hs) w:=by
  have h:Sat R (OwnN 4 L.rs 112 (l.map Z5)::ZfY [] l::pts p (Ze n L)::Zn R L.ep n.e::Zr R L.lp n.log::P::Zq R L.ms n.rms::ZN L.rr n.rrd::Hs) w:=hw1.cons λ _ h=>Sat.star.2 h;exact h.arr
 clear hw1;have hsl:L.rs.len=l.length:=by have:=OwnN.len (hw.take (OwnN 4 L.rs 112 (l.map Z5)));simpa using this
 have step:∀ k (hk:k<n.rs.length),won (k + 1)=won k++(if Rq.wins n.g (Rq.stand fr rnd n.rs[k]) then [((Rq.stand fr rnd n.rs[k]).tok,(Rq.stand fr rnd n.rs[k]).ix)] else [])/\left (k + 1)=left k++(if Rq.wins n.g (Rq.stand fr rnd n.rs[k]) then [] else [Rq.stand fr rnd n.rs[k]]):=λ k hk=>by
  rw [hwon,hleft];dsimp only;rw [List.take_succ_eq_append_getElem hk,List.map_append,List.filter_append,List.map_append,List.filter_append];constructor
  ·congr 1
   cases hc:Rq.wins n.g (Rq.stand fr rnd n.rs[k])<;>simp [hc]
  ·congr 1
   cases hc:Rq.wins n.g (Rq.stand fr rnd n.rs[k])<;>simp [hc]
 have wlen:∀ k,(won k).length<=1000/\(left k).length<=1000:=λ k=>by
  rw [hwon,hleft];dsimp only;have h1:=List.length_filter_le (Rq.wins n.g) ((n.rs.take k).map (Rq.stand fr rnd));have h2:=List.length_filter_le (λ x=>!Rq.wins n.g x) ((n.rs.take k).map (Rq.stand fr rnd));rw [List.length_map,List.length_take] at h1 h2;rw [List.length_map];omega
 refine Zb.mk rfl ⟨L.rs,At.own (eqS hw) (by exact ⟨rfl,trivial⟩),λ lf i w=>∃ (k:Nat) (ll:RqL) (rr:Sl),i=k/\k<=n.rs.length/\ll.map (·.2)=left k/\Sat R (pts p (Ze n { L with rr:=rr })::OwnN 4 lf 112 (ll.map Z5)::OwnN 4 L.rs 112 (l.map Z5)::ZfY ll (l.drop k)::ZN rr (n.rrd++won k)::Zn R L.ep n.e::Zr R L.lp n.log::P::Zq R L.ms n.rms::Hs) w,λ _ i _=>n.rs.length - i.toNat,
  ⟨0,[],L.rr,rfl,Nat.zero_le _,by rw [hleft];rfl,?_⟩,?_⟩
 ·have e:won 0=[]:=by rw [hwon];rfl
  rw [e,List.append_nil];have hw:=OwnN.nil (n:=4) (T:=112) hw;have h:Sat R (pts p (Ze n L)::OwnN 4 ⟨none,0,0⟩ 112 []::OwnN 4 L.rs 112 (l.map Z5)::ZfY [] l::ZN L.rr n.rrd::Zn R L.ep n.e::Zr R L.lp n.log::P::Zq R L.ms n.rms::Hs) w:=hw.arr;exact h
 clear hw;rintro _ lf _ w ⟨k,ll,rr,rfl,hk,hls,hw⟩;have hlll:ll.length<=1000:=by have:=congrArg List.length hls;rw [List.length_map] at this;have:=(wlen k).2;omega
 refine Br.d (λ h=>?_) (λ h=>?_)
 ·have hkl:k<l.length:=by omega
  have hkn:k<n.rs.length:=by omega
  have hx:l[k].2=n.rs[k]:=by simp [<-hll]
  obtain ⟨x,hxe⟩:∃ x,x=n.rs[k]:=⟨_,rfl⟩;have hbx:x.bh.length<=1000000:=by rw [hxe];exact hbh _ (List.getElem_mem _)
  obtain ⟨s0,hs0⟩:∃ s0,s0=l[k].1:=⟨_,rfl⟩;have hlk:l[k]=(s0,x):=by rw [hs0,hxe,<-hx]
  obtain ⟨st1,st2⟩:=step k hkn;rw [<-hxe] at st1 st2;refine (OwnN.readsM (T:=112) (n:=4) (s:=L.rs) (rows:=l.map Z5) hw (eqS hw)).rngI (g:=Z5) k rfl hkl λ a _ el=>?_;rw [hlk] at el;refine ⟨x.tok,x.ix,x.rnd,s0,el.z (by exact ⟨rfl,rfl,rfl,rfl,trivial⟩),Zd hw λ b w hw=>?_⟩;refine Za hw (by kernel_rfl) rfl (by simp [Value.cells,Zc]) λ w hw=>?_;have hw:=hw.re (pts b (.cells (Z5 (s0,x)).toArray 112 (0,0)));rw [List.drop_eq_getElem_cons hkl,hlk] at hw;have hw:Sat R (ZfY ll ((s0,x)::l.drop (k + 1))::pts b (.cells (Z5 (s0,x)).toArray 112 (0,0))::pts p (Ze n { L with rr:=rr })::OwnN 4 lf 112 (ll.map Z5)::OwnN 4 L.rs 112 (l.map Z5)::ZN rr (n.rrd++won k)::Zn R L.ep n.e::Zr R L.lp n.log::P::Zq R L.ms n.rms::Hs) w:=hw.arr;have hw:=ZfY.open' hw;obtain ⟨y,hy⟩:∃ y,y=Rq.stand fr rnd x:=⟨_,rfl⟩;rw [<-hy] at st1 st2;have hyt:y.tok=x.tok/\y.ix=x.ix/\y.rnd=x.rnd/\y.bh.length<=1000001:=by
   rw [hy];unfold Rq.stand;split
   ·exact ⟨rfl,rfl,rfl,by show (x.bh++[fr]).length<=_;simp;omega⟩
   ·exact ⟨rfl,rfl,rfl,by omega⟩
  refine ⟨λ w=>∃ t':Sl,Sat R (Own t' 3 (ints y.bh)::ZfY ll (l.drop (k + 1))::pts b (.cells (Z5 (t',y)).toArray 112 (0,0))::pts p (Ze n { L with rr:=rr })::OwnN 4 lf 112 (ll.map Z5)::OwnN 4 L.rs 112 (l.map Z5)::ZN rr (n.rrd++won k)::Zn R L.ep n.e::Zr R L.lp n.log::P::Zq R L.ms n.rms::Hs) w,⟨x.rnd,At.own (eqS hw) (by exact ⟨rfl,trivial⟩),Br.d (λ h2=>⟨s0,At.own (eqS hw) (by exact ⟨rfl,trivial⟩),Zd hw λ c w hw=>?_⟩) (λ h2=>⟨s0,?_⟩)⟩,?_⟩
  ·have hw:=ZbR hw
   have hw:=hw.re (Own ⟨some ⟨c,0,none⟩,1,1⟩ 3 (ints [fr]));refine Zee (s:=s0) (t:=⟨some ⟨c,0,none⟩,1,1⟩) (k:=.i64) (n:=1000001) Zcj underlying30 hw.swap (by simp;omega) (by omega) (by omega) λ t' w hw=>?_;have hw:=hw.swap.drop;have ey:y={ x with bh:=x.bh++[fr] }:=by rw [hy];unfold Rq.stand;rw [if_pos h2]
   have hw:Sat R (pts b (.cells (Z5 (s0,x)).toArray 112 (0,0))::Own t' 3 (ints (x.bh++[fr]))::ZfY ll (l.drop (k + 1))::pts p (Ze n { L with rr:=rr })::OwnN 4 lf 112 (ll.map Z5)::OwnN 4 L.rs 112 (l.map Z5)::ZN rr (n.rrd++won k)::Zn R L.ep n.e::Zr R L.lp n.log::P::Zq R L.ms n.rms::Hs) w:=hw.arr;refine Za hw (by kernel_rfl) rfl (by simp [Value.cells,Zc]) λ w hw=>?_;refine ⟨t',?_⟩;rw [ey];have hw:=hw.re (pts b (.cells (Z5 (t',{ x with bh:=x.bh++[fr] })).toArray 112 (0,0)));exact hw.arr
  ·have ey:y=x:=by rw [hy];unfold Rq.stand;rw [if_neg h2]
   rw [ey];exact hw
  clear hw;rintro _ w ⟨t',hw⟩;refine Zi (Sat R [pts p (Ze n { L with rr:=rr }),pts b (.cells (Z5 (t',y)).toArray 112 (0,0)),VC.tru]) hw (λ w hw=>hw.k2) λ w hw=>Zb.mk rfl ⟨L.gv,L.gl,At.own Zf (by exact ⟨rfl,rfl,trivial⟩),t',At.own Zf (by exact ⟨rfl,trivial⟩),?_⟩;obtain ⟨R2,hb,keep,hw2,back⟩:=Own.lendI hw (by omega);refine (Zdb hw2 (keep _ _ hn.g.v) (keep _ _ hn.g.l) hb).use ?_;clear hw hw2;rintro _ w ⟨rfl,hw⟩;have hw:=back hw;refine ⟨_,rfl,Br.mk (λ h3=>?_) (λ h3=>?_)⟩
  ·have h3':Rq.wins n.g y=true:=h3
   rw [h3',if_pos rfl] at st1 st2;refine Zi (Sat R [pts p (Ze n { L with rr:=rr }),pts b (.cells (Z5 (t',y)).toArray 112 (0,0)),VC.tru]) hw (λ w hw=>hw.k2) λ w hw=>Zb.mk rfl ⟨rr,At.own Zf (by exact ⟨rfl,trivial⟩),y.tok,y.ix,At.own Zf (by exact ⟨rfl,rfl,trivial⟩),Zd hw λ c w hw=>⟨hw.k2,?_⟩⟩;have hw:=hw.re (pts c (.cells (Zbb (y.tok,y.ix)).toArray 50 (0,0)));have hw:Sat R (ZN rr (n.rrd++won k)::pts c (.cells (Zbb (y.tok,y.ix)).toArray 50 (0,0))::pts p (Ze n { L with rr:=rr })::Own t' 3 (ints y.bh)::pts b (.cells (Z5 (t',y)).toArray 112 (0,0))::OwnN 4 lf 112 (ll.map Z5)::OwnN 4 L.rs 112 (l.map Z5)::ZfY ll (l.drop (k + 1))::Zn R L.ep n.e::Zr R L.lp n.log::P::Zq R L.ms n.rms::Hs) w:=hw.arr;have hwl:=(wlen k).1;refine Zbt elRr hw rfl rfl (by rw [List.length_map,List.length_append];omega) (by rw [List.length_map,List.length_append];omega) λ s2 w hw=>⟨hw.k2,Zb.mk rfl ?_⟩;refine Za hw (by kernel_rfl) rfl (by simp [Value.cells,Zc]) λ w hw=>?_;have hw:=hw.re (pts p (Ze n { L with rr:=s2 }));rw [Zh (by omega) (by omega)];refine ⟨⟨k + 1,ll,s2,by omega,by omega,by rw [st2,List.append_nil];exact hls,?_⟩,by dsimp only;omega⟩;have e:OwnN 2 s2 50 ((n.rrd++won k).map Zbb++[Zbb (y.tok,y.ix)])=ZN s2 (n.rrd++won (k + 1)):=by
    unfold ZN;rw [st1,<-List.append_assoc,List.map_append (l₂:=[_])];rfl
   rw [e] at hw;have hw:Sat R (Own t' 3 (ints y.bh)::pts b (.cells (Z5 (t',y)).toArray 112 (0,0))::pts p (Ze n { L with rr:=s2 })::OwnN 4 lf 112 (ll.map Z5)::OwnN 4 L.rs 112 (l.map Z5)::ZfY ll (l.drop (k + 1))::ZN s2 (n.rrd++won (k + 1))::Zn R L.ep n.e::Zr R L.lp n.log::P::Zq R L.ms n.rms::Hs) w:=hw.arr;exact hw.drop.drop
  ·have h3':Rq.wins n.g y=false:=h3
   rw [h3',if_neg (by simp)] at st1 st2;refine ⟨y.tok,y.ix,y.rnd,t',At.own (eqS hw) (by exact ⟨rfl,rfl,rfl,rfl,trivial⟩),Zd hw λ c w hw=>?_⟩;have hw:=hw.re (pts c (.cells (Z5 (t',y)).toArray 112 (0,0)));have hw:Sat R (OwnN 4 lf 112 (ll.map Z5)::pts c (.cells (Z5 (t',y)).toArray 112 (0,0))::Own t' 3 (ints y.bh)::ZfY ll (l.drop (k + 1))::pts b (.cells (Z5 (t',y)).toArray 112 (0,0))::pts p (Ze n { L with rr:=rr })::OwnN 4 L.rs 112 (l.map Z5)::ZN rr (n.rrd++won k)::Zn R L.ep n.e::Zr R L.lp n.log::P::Zq R L.ms n.rms::Hs) w:=hw.arr;refine Zbt elRq hw rfl rfl (by rw [List.length_map];omega) (by rw [List.length_map];omega) λ s2 w hw=>?_;rw [Zh (by omega) (by omega)];refine ⟨⟨k + 1,ll++[(t',y)],rr,by omega,by omega,by rw [st2,List.map_append,hls];rfl,?_⟩,by dsimp only;omega⟩;rw [st1,List.append_nil,show (ll++[(t',y)]).map Z5=ll.map Z5++[Z5 (t',y)] from List.map_append]
   have hw:Sat R (Zga (t',y)::ZfY ll (l.drop (k + 1))::pts b (.cells (Z5 (t',y)).toArray 112 (0,0))::pts p (Ze n { L with rr:=rr })::OwnN 4 s2 112 (ll.map Z5++[Z5 (t',y)])::OwnN 4 L.rs 112 (l.map Z5)::ZN rr (n.rrd++won k)::Zn R L.ep n.e::Zr R L.lp n.log::P::Zq R L.ms n.rms::Hs) w:=hw.arr;have hw:=(ZfY.shut hw).swap.drop;exact hw.arr
 ·have hkn:k=n.rs.length:=by omega
  subst hkn;refine Zb.mk rfl ?_;refine Za hw (by kernel_rfl) rfl (by simp [Value.cells,Zc]) λ w hw=>?_;have hw:=hw.re (pts p (Ze (n.behind fr rnd) { L with rr:=rr,rs:=lf }));refine ⟨rfl,?_⟩;have e1:left n.rs.length=(n.behind fr rnd).rs:=by rw [hleft];dsimp only;rw [List.take_length];rfl
  have e2:n.rrd++won n.rs.length=(n.behind fr rnd).rrd:=by rw [hwon];dsimp only;rw [List.take_length];rfl
  rw [e2,List.drop_eq_nil_of_le (by omega)] at hw;rw [e1] at hls;have hw:Sat R (OwnN 4 L.rs 112 (l.map Z5)::OwnN 4 lf 112 (ll.map Z5)::ZfY ll []::pts p (Ze (n.behind fr rnd) { L with rr:=rr,rs:=lf })::ZN rr (n.behind fr rnd).rrd::Zn R L.ep n.e::Zr R L.lp n.log::P::Zq R L.ms n.rms::Hs) w:=hw.arr;have hw:=hw.drop;have hw:Sat R (Z0 lf (n.behind fr rnd).rs::pts p (Ze (n.behind fr rnd) { L with rr:=rr,rs:=lf })::ZN rr (n.behind fr rnd).rrd::Zn R L.ep n.e::Zr R L.lp n.log::P::Zq R L.ms n.rms::Hs) w:=by
   refine Z0.iff.2 ⟨ll,hls,hw.cons λ _ h=>?_⟩;have:=Sat.star.1 h;simpa using this
  exact Zag.iff.2 ⟨{ L with rr:=rr,rs:=lf },⟨⟨hn.g,hn.sg,hn.sd⟩,hn'.2⟩,(show Sat R (Z0 lf (n.behind fr rnd).rs::pts p (Ze (n.behind fr rnd) { L with rr:=rr,rs:=lf })::ZN rr (n.behind fr rnd).rrd::Zn R L.ep (n.behind fr rnd).e::Zr R L.lp (n.behind fr rnd).log::P::Zq R L.ms (n.behind fr rnd).rms::Hs) w from hw).arr⟩
end
section
open Go Go.VC Tryz
open Go.Rf (Ey Lg ZD)
variable {R R' R1 R2:Cx} {Hs Rest Rest2:List HP} {w:World} {p:Nat} {n m:Rn}
theorem Zcs (h:RnA n) {l:List (Int × Pe)} {q:Int} {y:Pe} (hp:n.ps=some l) (hy:ZbC y):RnA (n.setP q y):=(Snd.setP q (n:=n) (y:=y) λ _=>hy).rna h
theorem ZeJ {l:List (Int × Pe)} {q:Int} {x y:Pe} (hp:n.ps=some l) (hx:ZB q l=some x):(n.setP q y).ps=some (Zbq q y l)/\ZB q (Zbq q y l)=some y:=⟨by unfold Rn.setP;rw [hp];rfl,Zi4 hx⟩
theorem ZdL (h:RnA n) (fr rnd:Int):RnA (n.behind fr rnd):=⟨⟨⟨h.b.g.lg,h.b.g.lb,h.b.g.sg,h.b.g.w1,h.b.g.w64⟩,h.b.pe,h.b.e,h.b.id,h.b.sn⟩,h.pk,h.sm⟩
theorem Znm (h:RnA n) {q:Int} {x:Pe} (hx:n.peer q=some x):∃ l,n.ps=some l/\ZB q l=some x/\ZbC x:=by
 cases hp:n.ps with
 |none=>unfold Rn.peer at hx;rw [hp] at hx;cases hx
 |some l=>exact ⟨l,rfl,by unfold Rn.peer at hx;rw [hp] at hx;exact hx,ZcX h.b.pe hx⟩
theorem RnA.send (h:RnA n) (q:Int):RnA (n.send q):=(Snd.send q).rna h
structure RnD (n:Rn):Prop where
 rs:n.rs.length<=1000
 bh:∀ x∈n.rs,x.bh.length<=1000000
 rr:n.rrd.length<=1000000
 ms:n.rms.length<=999000000
 last:n.log.last<=1000000000
theorem RnA.said (h:RnA n) (hr:n.ps.isSome=true->n.e.role=3) (x:Mg):RnA (n.said x):=by
 unfold Rn.said;split
 ·exact h.ballot _
 ·split
  ·exact h
  ·split
   ·exact h
   ·rename_i y hy
    obtain ⟨l,hp,hx,ok⟩:=Znm h hy;have hrole:=hr (by rw [hp];rfl);split
    ·split
     ·exact (ZdL h _ _).send _
     ·exact ZdL h _ _
    ·split
     ·refine RnA.send ?_ _
      have h1:=Zcs h (q:=x.fr) hp (ok.acked x.ix);split
      ·exact (h1.advance hrole).1
      ·exact h1
     ·split
      ·exact h
      ·split
       ·exact Zcs h hp (ok.over _)
       ·have h1:=Zcs h (q:=x.fr) hp (ok.refused x.ix x.hint)
        split
        ·exact h1.send _
        ·exact h1
theorem ZkH (h:RnA n) (hd:RnD n) (hr:n.ps.isSome=true->n.e.role=3) {x:Mg} {L0:MLo} (hw:Sat R (NAt R p n::Hs) w):
  Zj prog 138 #[.pointer (some ⟨p,0,none⟩),Zhl (L0,x)] w λ v w'=>v=.tuple #[]/\∃ R',R.Ext R'/\Sat R' (NAt R' p (n.said x)::Hs) w':=by
 have hlast:=hd.last;have hms:=hd.ms;apply Zoq;refine Zd hw λ b3 w hw=>?_;obtain ⟨A,hA⟩:∃ A,A=n.said x:=⟨_,rfl⟩;rw [<-hA];unfold Rn.said at hA;have done:∀ {R':Cx} {w:World} {m:Rn},R.Ext R'->A=m->Sat R' (NAt R' p m::pts b3 (mgC (L0,x))::Hs) w->Value.tuple #[]=.tuple #[]/\∃ R',R.Ext R'/\Sat R' (NAt R' p A::Hs) w:=λ {R' w m} e hi hw=>⟨rfl,R',e,by rw [hi];exact hw.cons λ _ h=>h.drop⟩;obtain ⟨L,hn,hw⟩:=NAt.iff.1 hw.swap;have hw:Sat R (pts p (Ze n L)::Zn R L.ep n.e::Zr R L.lp n.log::Z2 L.pm n.ps::Z0 L.rs n.rs::Zq R L.ms n.rms::ZN L.rr n.rrd::pts b3 (mgC (L0,x))::Hs) w:=hw;refine Zb.mk rfl ⟨some ⟨L.ep,0,none⟩,At.own (eqS hw) (by exact ⟨rfl,trivial⟩),?_⟩;refine (Zaq (hw.take (Zn R L.ep n.e))).use ?_;clear hw;rintro _ w ⟨rfl,hw⟩;have hw:Sat R (pts p (Ze n L)::Zn R L.ep n.e::Zr R L.lp n.log::Z2 L.pm n.ps::Z0 L.rs n.rs::Zq R L.ms n.rms::ZN L.rr n.rrd::pts b3 (mgC (L0,x))::Hs) w:=hw.arr;refine ⟨_,_,rfl,x.tm,At.own (eqS hw) (by exact ⟨rfl,trivial⟩),Br.d (λ h2=>Zm hw λ w hw=>⟨x.fr,At.own (eqS hw) (by exact ⟨rfl,trivial⟩),Zb.mk rfl ⟨n.id,At.own (eqS hw) (by exact ⟨rfl,trivial⟩),x.tm,At.own (eqS hw) (by exact ⟨rfl,trivial⟩),?_⟩⟩) (λ h2=>⟨x.tm,At.own (eqS hw) (by exact ⟨rfl,trivial⟩),Br.d (λ h3=>done .refl (by rw [hA,if_neg h2,if_pos h3]) (NAt.iff.2 ⟨L,hn,hw⟩)) (λ h3=>?_)⟩)⟩
 ·rw [if_pos h2] at hA
  refine (ZeZ h hlast (by omega) ⟨4,x.fr,n.id,x.tm,0,0,false⟩ (NAt.iff.2 ⟨L,hn,hw⟩)).use ?_;clear hw;rintro _ w ⟨rfl,R2,e2,hw⟩;exact ⟨rfl,done e2 hA hw⟩
 rw [if_neg h2,if_neg h3] at hA;cases hpe:n.peer x.fr with
 |none=>
  rw [hpe] at hA;refine Zm hw λ w hw=>Zb.mk rfl ⟨L.pm,At.own (eqS hw) (by exact ⟨rfl,trivial⟩),x.fr,At.own (eqS hw) (by exact ⟨rfl,trivial⟩),none,false,λ w' hh=>?_,Br.t rfl (done .refl hA (NAt.iff.2 ⟨L,hn,hw⟩))⟩;subst hh;obtain ⟨l,hl,ho⟩:=Z2.old (hw.take (Z2 L.pm n.ps));have:=Zfk.look ho x.fr;have hg:ZB x.fr l=none:=by
   unfold Rn.peer at hpe;rw [hl,ZdD] at hpe;simpa using hpe
  rw [hg] at this;exact this
 |some y=>
 rw [hpe] at hA;dsimp only at hA;obtain ⟨l,hp,hx,ok⟩:=Znm h hpe;have hrole:=hr (by rw [hp];rfl);have hw0:Sat R (NAt R p n::pts b3 (mgC (L0,x))::Hs) w:=NAt.iff.2 ⟨L,hn,hw⟩;clear hw;obtain ⟨mm,b,hw⟩:=NAt.focus hp hx hw0;clear hw0;obtain ⟨L,hn,hw⟩:=Zag.iff.1 hw.swap;have op:∀ {w},Sat R (pts p (Ze n L)::Zn R L.ep n.e::Zr R L.lp n.log::ZA mm x.fr b l::Z0 L.rs n.rs::Zq R L.ms n.rms::ZN L.rr n.rrd::ZP b y::pts b3 (mgC (L0,x))::Hs) w->Sat R (ZP b y::Zag R p n (some mm) (ZA mm x.fr b l)::pts b3 (mgC (L0,x))::Hs) w:=λ hw=>by
  have h:Sat R (Zag R p n (some mm) (ZA mm x.fr b l)::ZP b y::pts b3 (mgC (L0,x))::Hs) _:=Zag.iff.2 ⟨L,hn,hw⟩;exact h.swap
 have cl:∀ {R':Cx} {w:World} {z:Pe} {m:Rn},m.ps=some l->Sat R' (ZP b z::Zag R' p m (some mm) (ZA mm x.fr b l)::pts b3 (mgC (L0,x))::Hs) w->Sat R' (NAt R' p (m.setP x.fr z)::pts b3 (mgC (L0,x))::Hs) w:=λ {R' w z m} h1 h2=>Zag.close h1 h2;have hw:Sat R (pts p (Ze n L)::Zn R L.ep n.e::Zr R L.lp n.log::ZA mm x.fr b l::Z0 L.rs n.rs::Zq R L.ms n.rms::ZN L.rr n.rrd::ZP b y::pts b3 (mgC (L0,x))::Hs) w:=hw;refine Zm hw λ w hw=>Zb.mk rfl ⟨some mm,by rw [<-hn.2];exact At.own (eqS hw) (by exact ⟨rfl,trivial⟩),x.fr,At.own (eqS hw) (by exact ⟨rfl,trivial⟩),some ⟨b,0,none⟩,true,λ w' hh=>by subst hh;exact ZA.look (hw.take (ZA mm x.fr b l)) true,Br.f rfl ⟨x.kd,At.own (eqS hw) (by exact ⟨rfl,trivial⟩),Br.e (λ h4=>⟨x.fr,At.own (eqS hw) (by exact ⟨rfl,trivial⟩),x.rnd,At.own (eqS hw) (by exact ⟨rfl,trivial⟩),?_⟩) (λ h4=>?_)⟩⟩
 ·rw [if_pos (by simpa using h4)] at hA
  refine (ZhK (pm:=some mm) (P:=ZA mm x.fr b l) x.fr x.rnd hd.rs hd.bh hd.rr ((op hw).swap)).use ?_;clear hw;rintro _ w ⟨rfl,hw⟩;obtain ⟨n1,hn1⟩:∃ n1,n1=n.behind x.fr x.rnd:=⟨_,rfl⟩;have hp1:n1.ps=some l:=by rw [hn1];exact hp
  have hl1:n1.log=n.log:=by rw [hn1];rfl
  have h1:RnA n1:=by rw [hn1];exact ZdL h _ _
  have hms1:n1.rms=n.rms:=by rw [hn1];rfl
  rw [<-hn1] at hw hA;obtain ⟨L2,hn2,hw⟩:=Zag.iff.1 hw;have hw:Sat R (pts p (Ze n1 L2)::Zn R L2.ep n1.e::Zr R L2.lp n1.log::ZA mm x.fr b l::Z0 L2.rs n1.rs::Zq R L2.ms n1.rms::ZN L2.rr n1.rrd::ZP b y::pts b3 (mgC (L0,x))::Hs) w:=hw;refine ⟨rfl,Zi (Sat R [pts p (Ze n1 L2),VC.tru]) hw (λ w hw=>hw.k1) λ w hw=>Zb.mk rfl ⟨some ⟨L2.lp,0,none⟩,At.own Zf (by exact ⟨rfl,trivial⟩),?_⟩⟩;refine (ZcW (hw.take (ZP b y))).use ?_;clear hw;rintro _ w ⟨rfl,hw⟩;refine ⟨_,rfl,hw.k1,?_⟩;refine (ZT h1.b.g.lg (hw.take (Zr R L2.lp n1.log))).use ?_;clear hw;rintro _ w ⟨rfl,hw⟩;have hw:Sat R (pts p (Ze n1 L2)::Zn R L2.ep n1.e::Zr R L2.lp n1.log::ZA mm x.fr b l::Z0 L2.rs n1.rs::Zq R L2.ms n1.rms::ZN L2.rr n1.rrd::ZP b y::pts b3 (mgC (L0,x))::Hs) w:=hw.arr;have hw2:Sat R (NAt R p n1::pts b3 (mgC (L0,x))::Hs) w:=by
   have h3:Sat R (Zag R p n1 (some mm) (ZA mm x.fr b l)::ZP b y::pts b3 (mgC (L0,x))::Hs) w:=Zag.iff.2 ⟨L2,hn2,hw⟩;have:=cl hp1 h3.swap;rwa [Za9 hp1 hx] at this
  clear hw;refine ⟨_,rfl,Br.d (λ h5=>⟨x.fr,At.own (eqS hw) (by exact ⟨rfl,trivial⟩),?_⟩) (λ h5=>done .refl (by rw [hA,if_neg (by rw [<-hl1];exact h5)]) hw2)⟩;rw [if_pos (by rw [<-hl1];exact h5)] at hA;refine (ZbE h1.b.g h1.b.sn (by rw [hl1];omega) h1.b.pe hp1 hx (by rw [hms1];omega) hw2).use ?_;clear hw2;rintro _ w ⟨rfl,R2,e2,hw⟩;exact ⟨rfl,done e2 hA hw⟩
 rw [if_neg (by simpa using h4)] at hA;refine ⟨λ c w=>c=(x.yes && decide (x.ix<=n.log.last))/\Sat R (ZP b y::Zag R p n (some mm) (ZA mm x.fr b l)::pts b3 (mgC (L0,x))::Hs) w,?_,?_⟩
 ·refine Zi (Sat R [pts b3 (mgC (L0,x)),VC.tru]) hw (λ w hw=>hw.k1) λ w hw=>⟨x.yes,At.own (eqS hw) (by exact ⟨rfl,trivial⟩),Br.mk (λ h5=>⟨x.ix,At.own Zf (by exact ⟨rfl,trivial⟩),Zb.mk rfl ⟨some ⟨L.lp,0,none⟩,At.own (eqS hw) (by exact ⟨rfl,trivial⟩),?_⟩⟩) (λ h5=>⟨by rw [h5];rfl,op hw⟩)⟩
  refine (ZT h.b.g.lg (hw.take (Zr R L.lp n.log))).use ?_;clear hw;rintro _ w ⟨rfl,hw⟩;exact ⟨_,rfl,hw.k1,by rw [h5];rfl,op hw.arr⟩
 clear hw;rintro _ _ w ⟨rfl,hw⟩;refine Br.mk (λ h5=>⟨x.ix,At.own (eqS hw) (by exact ⟨rfl,trivial⟩),?_⟩) (λ h5=>⟨x.yes,At.own (eqS hw) (by exact ⟨rfl,trivial⟩),Br.mk (λ h6=>?_) (λ h6=>⟨x.kd,At.own (eqS hw) (by exact ⟨rfl,trivial⟩),Br.e (λ h7=>?_) (λ h7=>⟨x.ix,At.own (eqS hw) (by exact ⟨rfl,trivial⟩),x.hint,At.own (eqS hw) (by exact ⟨rfl,trivial⟩),?_⟩)⟩)⟩)
 ·rw [if_pos h5] at hA
  refine (Zh2 ok x.ix hw).use ?_;clear hw;rintro _ w ⟨rfl,hw⟩;have hw:=cl hp hw;obtain ⟨n1,hn1⟩:∃ n1,n1=n.setP x.fr (y.acked x.ix).2:=⟨_,rfl⟩;have h1:RnA n1:=by rw [hn1];exact Zcs h hp (ok.acked _)
  have hp1:=ZeJ (y:=(y.acked x.ix).2) hp hx;rw [<-hn1] at hw hA hp1;have hrole1:n1.e.role=3:=by rw [hn1];exact hrole
  have hms1:n1.rms=n.rms:=by rw [hn1];rfl
  have hl1:n1.log.last=n.log.last:=by rw [hn1];rfl
  refine ⟨_,rfl,Br.mk (λ h6=>?_) (λ h6=>⟨x.fr,At.own (eqS hw) (by exact ⟨rfl,trivial⟩),?_⟩)⟩
  ·rw [if_pos h6] at hA
   have hrl:=h1.rnl hrole1;refine (Zb0 hrl (by rw [hms1];omega) hw).use ?_;clear hw;rintro _ w ⟨rfl,hw⟩;obtain ⟨f1,f2,f3,f4⟩:=Zar hrl;have hps:n1.advance.ps=n1.ps:=by
    unfold Rn.advance;dsimp only;split
    ·rfl
    ·unfold Rn.beats;rw [ZbY]
   refine ⟨rfl,x.fr,At.own (eqS hw) (by exact ⟨rfl,trivial⟩),?_⟩;refine (ZbE f1.g f1.sn (by rw [f3,hl1];omega) f1.pe (hps.trans hp1.1) hp1.2 (by rw [hms1] at f4;omega) hw).use ?_;clear hw;rintro _ w ⟨rfl,R2,e2,hw⟩;exact ⟨rfl,done e2 hA hw⟩
  ·rw [if_neg (by rw [h6];simp)] at hA
   refine (ZbE h1.b.g h1.b.sn (by rw [hl1];omega) h1.b.pe hp1.1 hp1.2 (by rw [hms1];omega) hw).use ?_;clear hw;rintro _ w ⟨rfl,R2,e2,hw⟩;exact ⟨rfl,done e2 hA hw⟩
 ·rw [if_neg (by rw [h5];simp),if_pos h6] at hA
  have:=cl hp hw;rw [Za9 hp hx] at this;exact done .refl hA this
 ·rw [if_neg (by rw [h5];simp),if_neg (by rw [h6];simp),if_pos (by simpa using h7)] at hA
  refine (Zfv ok false hw).use ?_;clear hw;rintro _ w ⟨⟨t,rfl⟩,hw⟩;exact ⟨t,rfl,done .refl hA (cl hp hw)⟩
 ·rw [if_neg (by rw [h5];simp),if_neg (by rw [h6];simp),if_neg (by simpa using h7)] at hA
  refine (Zgm ok x.ix x.hint hw).use ?_;clear hw;rintro _ w ⟨rfl,hw⟩;have hw:=cl hp hw;obtain ⟨n1,hn1⟩:∃ n1,n1=n.setP x.fr (y.refused x.ix x.hint).2:=⟨_,rfl⟩;have h1:RnA n1:=by rw [hn1];exact Zcs h hp (ok.refused _ _)
  have hp1:=ZeJ (y:=(y.refused x.ix x.hint).2) hp hx;rw [<-hn1] at hw hA hp1;have hms1:n1.rms=n.rms:=by rw [hn1];rfl
  have hl1:n1.log.last=n.log.last:=by rw [hn1];rfl
  refine ⟨_,rfl,Br.mk (λ h8=>⟨x.fr,At.own (eqS hw) (by exact ⟨rfl,trivial⟩),?_⟩) (λ h8=>done .refl (by rw [hA,if_neg (by rw [h8];simp)]) hw)⟩;rw [if_pos h8] at hA;refine (ZbE h1.b.g h1.b.sn (by rw [hl1];omega) h1.b.pe hp1.1 hp1.2 (by rw [hms1];omega) hw).use ?_;clear hw;rintro _ w ⟨rfl,R2,e2,hw⟩;exact ⟨rfl,done e2 hA hw⟩
end
section
open Go Go.VC Tryz
open Go.Rf (Ey Lg ZD)
variable {R R' R1 R2:Cx} {Hs Rest Rest2:List HP} {w:World} {p:Nat} {n m:Rn}
theorem Zej {z lo hi:Int} (hw:Sat R Hs w):Zj prog 135 #[.int .i64 z,.int .i64 lo,.int .i64 hi] w λ v w'=>v=.bool (Z3 z lo hi)/\Sat R Hs w':=by
 apply Zot;unfold Z3;refine Br.d (λ h=>⟨?_,hw⟩) (λ h=>⟨by rw [decide_eq_false (by omega)],hw⟩)
 congr 1
 rw [decide_eq_decide];omega
set_option maxRecDepth 20000 in
theorem ZkC (h:RnA n) (hd:RnD n) (hr:n.ps.isSome=true->n.e.role=3) {x:Mg} {L0:MLo} (hm:Zdu R x L0) (hx:Zd3 x) (hw:Sat R (NAt R p n::Hs) w):
  Zj prog 65 #[.pointer (some ⟨p,0,none⟩),Zhl (L0,x)] w λ v w'=>v=.tuple #[]/\∃ R',R.Ext R'/\Sat R' (NAt R' p (n.step x)::Hs) w':=by
 have hlast:=hd.last;have hms:=hd.ms;apply ZpL;refine Zd hw λ b3 w hw=>?_;obtain ⟨A,hA⟩:∃ A,A=n.step x:=⟨_,rfl⟩;rw [<-hA];unfold Rn.step at hA;have done:∀ {R':Cx} {w:World} {m:Rn},R.Ext R'->A=m->Sat R' (NAt R' p m::pts b3 (mgC (L0,x))::Hs) w->Value.tuple #[]=.tuple #[]/\∃ R',R.Ext R'/\Sat R' (NAt R' p A::Hs) w:=λ {R' w m} e hi hw=>⟨rfl,R',e,by rw [hi];exact hw.cons λ _ h=>h.drop⟩;refine ⟨λ w=>n.hears x=true/\Sat R (NAt R p n::pts b3 (mgC (L0,x))::Hs) w,?_,?_⟩
 ·obtain ⟨C,hC⟩:∃ C,C=n.hears x:=⟨_,rfl⟩
  rw [<-hC] at hA ⊢;unfold Rn.hears at hC;obtain ⟨L,hn,hw⟩:=NAt.iff.1 hw.swap;have cl:∀ {w},Sat R (pts p (Ze n L)::Zn R L.ep n.e::Zr R L.lp n.log::Z2 L.pm n.ps::Z0 L.rs n.rs::Zq R L.ms n.rms::ZN L.rr n.rrd::pts b3 (mgC (L0,x))::Hs) w->Sat R (NAt R p n::pts b3 (mgC (L0,x))::Hs) w:=λ hw=>NAt.iff.2 ⟨L,hn,hw⟩;have no:∀ {w},C=false->Sat R (pts p (Ze n L)::Zn R L.ep n.e::Zr R L.lp n.log::Z2 L.pm n.ps::Z0 L.rs n.rs::Zq R L.ms n.rms::ZN L.rr n.rrd::pts b3 (mgC (L0,x))::Hs) w->Value.tuple #[]=.tuple #[]/\∃ R',R.Ext R'/\Sat R' (NAt R' p A::Hs) w:=λ h hw=>done .refl (by rw [hA,h];rfl) (cl hw);have hw:Sat R (pts p (Ze n L)::Zn R L.ep n.e::Zr R L.lp n.log::Z2 L.pm n.ps::Z0 L.rs n.rs::Zq R L.ms n.rms::ZN L.rr n.rrd::pts b3 (mgC (L0,x))::Hs) w:=hw;refine Zm hw λ w hw=>⟨x.to',At.own Zf (by exact ⟨rfl,trivial⟩),Zb.mk rfl ⟨n.id,At.own Zf (by exact ⟨rfl,trivial⟩),Br.ne (λ h2=>no (by rw [hC,show (x.to' !=n.id)=true by simpa using h2];rfl) hw) λ h2=>⟨x.fr,At.own Zf (by exact ⟨rfl,trivial⟩),?_⟩⟩⟩;rw [show (x.to' !=n.id)=false by simpa using h2] at hC;refine (Zej hw).use ?_;clear hw;rintro _ w ⟨rfl,hw⟩;refine ⟨_,rfl,hw,Br.nb (λ h3=>no (by rw [hC,h3];rfl) hw) λ h3=>⟨x.fr,At.own Zf (by exact ⟨rfl,trivial⟩),Zb.mk rfl ⟨n.id,At.own Zf (by exact ⟨rfl,trivial⟩),Br.e (λ h4=>no (by rw [hC,h3,show (x.fr==n.id)=true by simpa using h4];rfl) hw) λ h4=>⟨x.tm,At.own Zf (by exact ⟨rfl,trivial⟩),?_⟩⟩⟩⟩;rw [h3,show (x.fr==n.id)=false by simpa using h4] at hC;refine (Zej hw).use ?_;clear hw;rintro _ w ⟨rfl,hw⟩;exact ⟨_,rfl,hw,Br.nb (λ h5=>no (by rw [hC,h5];rfl) hw) λ h5=>⟨by rw [hC,h5];rfl,cl hw⟩⟩
 clear hw;rintro _ w ⟨hh,hw⟩;rw [hh,if_neg (by simp)] at hA;refine ⟨x.kd,At.own (eqS hw) (by exact ⟨rfl,trivial⟩),λ c w=>c=(x.kd==1||x.kd==2||x.kd==3||x.kd==4)/\Sat R (NAt R p n::pts b3 (mgC (L0,x))::Hs) w,Br.mk (λ h2=>⟨by rw [h2];rfl,hw⟩) (λ h2=>Br.mk (λ h3=>⟨by rw [h2,h3];rfl,hw⟩) (λ h3=>Br.mk (λ h4=>⟨by rw [h2,h3,h4];rfl,hw⟩) (λ h4=>⟨by rw [h2,h3,h4];rfl,hw⟩))),?_⟩;clear hw;rintro _ _ w ⟨rfl,hw⟩;refine Br.mk (λ h2=>⟨x.kd,At.own (eqS hw) (by exact ⟨rfl,trivial⟩),x.fr,At.own (eqS hw) (by exact ⟨rfl,trivial⟩),x.to',At.own (eqS hw) (by exact ⟨rfl,trivial⟩),x.tm,At.own (eqS hw) (by exact ⟨rfl,trivial⟩),x.ix,At.own (eqS hw) (by exact ⟨rfl,trivial⟩),x.lt,At.own (eqS hw) (by exact ⟨rfl,trivial⟩),x.yes,At.own (eqS hw) (by exact ⟨rfl,trivial⟩),?_⟩) (λ h2=>?_)
 ·rw [if_pos h2] at hA
  refine (ZeZ h hlast (by omega) ⟨x.kd,x.fr,x.to',x.tm,x.ix,x.lt,x.yes⟩ hw).use ?_;clear hw;rintro _ w ⟨rfl,R2,e2,hw⟩;exact ⟨rfl,done e2 hA hw⟩
 rw [if_neg (by rw [h2];simp)] at hA;refine ⟨λ c w=>c=(x.kd==5||x.kd==7||x.kd==9)/\Sat R (NAt R p n::pts b3 (mgC (L0,x))::Hs) w,Br.mk (λ h2=>⟨by rw [h2];rfl,hw⟩) (λ h2=>Br.mk (λ h3=>⟨by rw [h2,h3];rfl,hw⟩) (λ h3=>⟨by rw [h2,h3];rfl,hw⟩)),?_⟩;clear hw;rintro _ _ w ⟨rfl,hw⟩;have said:∀ {w},A=n.said x->Sat R (NAt R p n::pts b3 (mgC (L0,x))::Hs) w->Calls prog 138 #[.pointer (some ⟨p,0,none⟩),Zhl (L0,x)] w λ e w'=>e=.returned (.tuple #[])/\(Value.tuple #[]=.tuple #[]/\∃ R',R.Ext R'/\Sat R' (NAt R' p A::Hs) w'):=λ hA hw=>by
  refine (ZkH h hd hr (L0:=L0) (x:=x) hw).use ?_;rintro _ w ⟨rfl,R2,e2,hw⟩;exact ⟨rfl,done e2 hA hw⟩
 refine Br.mk (λ h3=>?_) (λ h3=>?_)
 ·rw [if_pos h3] at hA
  refine ⟨_,_,_,_,_,_,_,_,_,_,L0.e,_,_,L0.v,L0.l,L0.d,At.own (eqS hw) (by exact ⟨rfl,rfl,rfl,rfl,rfl,rfl,rfl,rfl,rfl,rfl,rfl,rfl,rfl,rfl,rfl,rfl,trivial⟩),?_⟩;simp only [Bool.or_eq_true,beq_iff_eq] at h3;refine (Zkb h hm hx (by omega) hlast (by omega) hw).use ?_;clear hw;rintro _ w ⟨rfl,R2,e2,hw⟩;exact ⟨rfl,done e2 hA hw⟩
 rw [if_neg (by rw [h3];simp)] at hA;refine Br.mk (λ h4=>?_) (λ h4=>Br.mk (λ h5=>?_) (λ h5=>Br.mk (λ h6=>?_) (λ h6=>?_)))
 ·rw [if_pos (by rw [h4];rfl)] at hA
  exact Br.t h4 ⟨_,_,_,_,_,_,_,_,_,_,L0.e,_,_,L0.v,L0.l,L0.d,At.own (eqS hw) (by exact ⟨rfl,rfl,rfl,rfl,rfl,rfl,rfl,rfl,rfl,rfl,rfl,rfl,rfl,rfl,rfl,rfl,trivial⟩),said hA hw⟩
 ·rw [if_pos (by rw [h4,h5];rfl)] at hA
  exact Br.t h5 ⟨_,_,_,_,_,_,_,_,_,_,L0.e,_,_,L0.v,L0.l,L0.d,At.own (eqS hw) (by exact ⟨rfl,rfl,rfl,rfl,rfl,rfl,rfl,rfl,rfl,rfl,rfl,rfl,rfl,rfl,rfl,rfl,trivial⟩),said hA hw⟩
 ·rw [if_pos (by rw [h4,h5,h6];rfl)] at hA
  exact ⟨_,_,_,_,_,_,_,_,_,_,L0.e,_,_,L0.v,L0.l,L0.d,At.own (eqS hw) (by exact ⟨rfl,rfl,rfl,rfl,rfl,rfl,rfl,rfl,rfl,rfl,rfl,rfl,rfl,rfl,rfl,rfl,trivial⟩),said hA hw⟩
 ·rw [if_neg (by rw [h4,h5,h6];simp)] at hA
  exact done .refl hA hw
theorem ZlB (i:Int) (hw:Sat R (NAt R p n::Hs) w):Zj prog 70 #[.pointer (some ⟨p,0,none⟩),.int .i64 i] w λ v w'=>v=.int .i64 (n.done i).1/\Sat R (NAt R p (n.done i).2::Hs) w':=by
 obtain ⟨L,hn,hw⟩:=NAt.iff.1 hw;apply ZpK;refine Zb.mk rfl ⟨_,At.own (eqS hw) (by exact ⟨rfl,trivial⟩),?_⟩;refine (Zie i (hw.take (Zr R L.lp n.log))).use ?_;clear hw;rintro _ w ⟨rfl,hw⟩;exact ⟨_,rfl,rfl,NAt.iff.2 ⟨L,⟨hn.g,hn.sg,hn.sd⟩,(show Sat R (Zr R L.lp (n.done i).2.log::pts p (Ze (n.done i).2 L)::Zn R L.ep (n.done i).2.e::Z2 L.pm (n.done i).2.ps::Z0 L.rs (n.done i).2.rs::Zq R L.ms (n.done i).2.rms::ZN L.rr (n.done i).2.rrd::Hs) w from hw).arr⟩⟩
theorem Zdj (hw:Sat R (NAt R p n::Hs) w):Zj prog 78 #[.pointer (some ⟨p,0,none⟩)] w λ v w'=>v=.int .i64 n.log.app/\Sat R (NAt R p n::Hs) w':=by
 obtain ⟨L,hn,hw⟩:=NAt.iff.1 hw;apply ZpH;refine Zb.mk rfl ⟨_,At.own (eqS hw) (by exact ⟨rfl,trivial⟩),?_⟩;refine (Zgx (hw.take (Zr R L.lp n.log))).use ?_;clear hw;rintro _ w ⟨rfl,hw⟩;exact ⟨_,rfl,rfl,NAt.iff.2 ⟨L,hn,hw.arr⟩⟩
theorem ZkK {s:Sn} (h:ZE s=true):s.g.vs.length<=15/\s.g.ls.length<=15/\s.dt.length<=60000:=by
 unfold ZE at h;simp only [Bool.and_eq_true,decide_eq_true_eq] at h;exact ⟨Zv (Zp h.1.2),Zv (ZO h.1.2),h.2⟩
theorem Zcx (h:ZE n.sn=true) (hw:Sat R (NAt R p n::Hs) w):Zj prog 22 #[.pointer (some ⟨p,0,none⟩)] w (SnQ R (NAt R p n::Hs) n.sn):=by
 have hb:=ZkK h;apply Zqi;refine Zd hw λ b w hw=>?_;obtain ⟨L,hn,hw⟩:=NAt.iff.1 hw.swap;refine Zb.mk rfl ⟨n.sn.ix,n.sn.tm,L.sv,L.sl,L.sd,At.own (eqS hw) (by exact ⟨rfl,rfl,rfl,rfl,rfl,trivial⟩),?_⟩;refine (Zap hn.sg hn.sd (by omega) (by omega) (by omega) hw).use ?_;clear hw;rintro _ w ⟨R2,v,l,d,e2,hg,hd,rfl,hw⟩;refine ⟨_,_,v,l,d,rfl,?_⟩;have hw:Sat R2 (pts b (.cells [.int .i64 0,.int .i64 0,.slice none 0 0,.slice none 0 0,.slice none 0 0].toArray 35 (0,0))::pts p (Ze n L)::Zn R L.ep n.e::Zr R L.lp n.log::Z2 L.pm n.ps::Z0 L.rs n.rs::Zq R L.ms n.rms::ZN L.rr n.rrd::Hs) w:=hw.arr;refine Za hw (by kernel_rfl) rfl (by simp [Value.cells,Zc]) λ w hw=>?_;have hw:=hw.re (pts b (ZZ n.sn v l d));refine ⟨n.sn.ix,n.sn.tm,v,l,d,At.own (eqS hw) (by exact ⟨rfl,rfl,rfl,rfl,rfl,trivial⟩),R2,v,l,d,e2,hg,hd,rfl,?_⟩;have hw:=hw.drop;exact (NAt.iff.2 ⟨L,hn,hw⟩:Sat R2 (NAt R p n::Hs) w)
theorem ZhH (ok:RnG n) (hsn:ZE n.sn=true) {d:Sl} {dt:List Int} (i:Int) (hd:SlR R.m d (b8 dt)) (hw:Sat R (NAt R p n::Hs) w):
  Zj prog 72 #[.pointer (some ⟨p,0,none⟩),.int .i64 i,.slice d.a d.len d.cap] w λ v w'=>v=.int .i64 (n.compact i dt).1/\∃ R',R.Ext R'/\Sat R' (NAt R' p (n.compact i dt).2::Hs) w':=by
 apply ZpJ;have hdl:d.len=dt.length:=by have:=hd.len;simpa using this
 unfold Rn.compact;refine Br.d (λ h=>by rw [if_pos (by omega)];exact ⟨rfl,R,.refl,hw⟩) (λ h=>?_);rw [if_neg (by omega)];refine (ZdV ok.lg ok.lb i hw).use ?_;clear hw;rintro _ w ⟨R1,v,l,e1,hg,rfl,hw⟩;have hg15:=Zc1 (n:=n) ok.sg (IntKind.i64.wrap (IntKind.i64.wrap (i + 1) - (n.log.b.ix + 1)));obtain ⟨gp,hgp⟩:∃ gp,gp=n.foldG (IntKind.i64.wrap (IntKind.i64.wrap (i + 1) - (n.log.b.ix + 1))):=⟨_,rfl⟩;rw [<-hgp] at hg hg15 ⊢;refine ⟨v,l,rfl,Zd hw λ b w hw=>?_⟩;refine Za hw (by kernel_rfl) rfl (by simp [Value.cells,Zc]) λ w hw=>?_;have hw:=hw.re (pts b (ZJ v l));obtain ⟨L,hn,hw⟩:=NAt.iff.1 hw.swap;have hw:Sat R1 (pts p (Ze n L)::Zn R1 L.ep n.e::Zr R1 L.lp n.log::Z2 L.pm n.ps::Z0 L.rs n.rs::Zq R1 L.ms n.rms::ZN L.rr n.rrd::pts b (ZJ v l)::Hs) w:=hw;refine Zb.mk rfl ⟨some ⟨L.lp,0,none⟩,At.own (eqS hw) (by exact ⟨rfl,trivial⟩),?_⟩;refine (Zgw ok.lg i (hw.take (Zr R1 L.lp n.log))).use ?_;clear hw;rintro _ w ⟨rfl,R2,e2,hw⟩;obtain ⟨r,hr⟩:∃ r,r=n.log.compact i:=⟨_,rfl⟩;rw [<-hr] at hw ⊢;have hokr:ZD r.2:=by rw [hr];exact ok.lg.compact i
 have hw:Sat R2 (pts p (Ze { n with log:=r.2 } L)::Zn R1 L.ep n.e::Zr R2 L.lp r.2::Z2 L.pm n.ps::Z0 L.rs n.rs::Zq R1 L.ms n.rms::ZN L.rr n.rrd::pts b (ZJ v l)::Hs) w:=hw.arr;refine ⟨_,rfl,Br.ne (λ h2=>?_) (λ h2=>Zb.mk rfl ⟨some ⟨L.lp,0,none⟩,At.own (eqS hw) (by exact ⟨rfl,trivial⟩),?_⟩)⟩
 ·rw [if_pos (by simpa using h2)]
  refine ⟨rfl,R2,e1.trans e2,?_⟩;have hw:=NAt.mkX (L:=L) (n:={ n with log:=r.2 }) (R1:=R1) ⟨hn.g,hn.sg,hn.sd⟩ e2 hw;exact hw.cons λ _ h=>h.drop
 rw [if_neg (by simpa using h2)];refine (ZaS hokr i (hw.take (Zr R2 L.lp r.2))).use ?_;clear hw;rintro _ w ⟨rfl,hw⟩;refine ⟨_,_,rfl,v,l,At.own (eqS hw) (by exact ⟨rfl,rfl,trivial⟩),?_⟩;have hvl:=Zv (Zp hg15);have hll:=Zv (ZO hg15);obtain ⟨sn,hsn'⟩:∃ sn:Sn,sn=⟨i,(r.2.term i).1,gp,dt⟩:=⟨_,rfl⟩;have e12:=e1.trans e2;have hsg:Zd7 R2 sn.g v l:=by rw [hsn'];exact hg.ext e2
 have hsd:SlR R2.m d (b8 sn.dt):=by rw [hsn'];exact e12.slR hd
 refine (show Zj prog 35 #[ZkD ⟨i,(r.2.term i).1,gp,dt⟩ v l d] w (SnQ R2 _ sn) from by
  have:=Zap (s:=sn) hsg hsd (by rw [hsn'];show gp.vs.length<=_;omega) (by rw [hsn'];show gp.ls.length<=_;omega) (by rw [hsn'];show dt.length<=_;omega) hw;rw [hsn'] at this ⊢;exact this).use ?_
 clear hw;rintro _ w ⟨R3,v',l',d',e3,hg',hd',rfl,hw⟩;refine ⟨_,_,v',l',d',rfl,Zb.mk rfl ?_⟩;have hw:Sat R3 (pts p (Ze { n with log:=r.2 } L)::Zr R2 L.lp r.2::Zn R1 L.ep n.e::Z2 L.pm n.ps::Z0 L.rs n.rs::Zq R1 L.ms n.rms::ZN L.rr n.rrd::pts b (ZJ v l)::Hs) w:=hw.arr;refine Za hw (by kernel_rfl) rfl (by simp [Value.cells,Zc]) λ w hw=>?_;have hw:=hw.re (pts p (Ze { n with log:=r.2,sn:=sn } { L with sv:=v',sl:=l',sd:=d' }));have e13:=e2.trans e3;have hw:Sat R3 (NAt R3 p { n with log:=r.2,sn:=sn }::pts b (ZJ v l)::Hs) w:=by
  refine NAt.mkX (L:={ L with sv:=v',sl:=l',sd:=d' }) (n:={ n with log:=r.2,sn:=sn }) (R1:=R3) ⟨hn.g.ext e13,hg',hd'⟩ .refl ?_;have hw:Sat R3 (Zr R2 L.lp r.2::Zn R1 L.ep n.e::Zq R1 L.ms n.rms::pts p (Ze { n with log:=r.2,sn:=sn } { L with sv:=v',sl:=l',sd:=d' })::Z2 L.pm n.ps::Z0 L.rs n.rs::ZN L.rr n.rrd::pts b (ZJ v l)::Hs) w:=hw.arr;have hw:Sat R3 (Zr R3 L.lp r.2::Zn R3 L.ep n.e::Zq R3 L.ms n.rms::pts p (Ze { n with log:=r.2,sn:=sn } { L with sv:=v',sl:=l',sd:=d' })::Z2 L.pm n.ps::Z0 L.rs n.rs::ZN L.rr n.rrd::pts b (ZJ v l)::Hs) w:=
   (Zr.ext hw e3).cons λ _ h=>(Zn.ext h e13).cons λ _ h=>Zq.ext h e13
  exact hw.arr
 rw [<-hsn'];exact ⟨rfl,R3,e12.trans e3,hw.cons λ _ h=>h.drop⟩
end
section
open Go Go.VC Tryz
open Go.Rf (Ey Lg ZD)
variable {R R' R1 R2:Cx} {Hs Rest Rest2:List HP} {w:World} {p:Nat} {n m:Rn}
def Rn.tickP (n:Rn) (q:Int):Rn:=
 let x:=((n.peer q).getD (Pe.new 0 0)).beat
 ((n.setP q (if x.st==2 then x.over false else x)).beat q).send q
theorem Zb9 (h:n.e.role=3) (draw:Int):n.tick draw=n.mem.foldl Rn.tickP n:=by
 unfold Rn.tick;rw [if_neg (by simp [h])];rfl
theorem Zg1 {β:Type} {k:Int} {v:β}:∀ {l:List (Int × β)},ZB k l=none->Zbq k v l=l
 |[],_=>rfl
 |e::l,h=>by
  unfold ZB at h;split at h
  ·cases h
  ·rename_i h1
   unfold Zbq;rw [if_neg h1,Zg1 h]
theorem Zi8 (e:Eln) (d a b:Int):(e.tick d a b).2.id=e.id:=by
 unfold Eln.tick;split
 ·rfl
 ·dsimp only
  split
  ·rfl
  ·split
   ·exact (ZmP _ _ _).trans rfl
   ·rfl
theorem Snd.tickP (h:ZbL n) (q:Int):Snd n (n.tickP q) 67:=by
 have ho:∀ (x:Pe),n.peer q=some x->ZbC (if x.beat.st==2 then x.beat.over false else x.beat):=λ x hx=>by
  have ok:=(ZcX h hx).beat;split
  ·exact ok.over _
  ·exact ok
 cases hx:n.peer q with
 |none=>
  have e:n.tickP q=(n.beat q).send q:=by
   unfold Rn.tickP;rw [hx];have:∀ y,n.setP q y=n:=λ y=>by
    unfold Rn.setP;cases hp:n.ps with
    |none=>rw [Option.map_none,<-hp]
    |some l=>
     unfold Rn.peer at hx;rw [hp] at hx;have hx':ZB q l=none:=hx;rw [Option.map_some,Zg1 hx',<-hp]
   dsimp only;rw [this]
  rw [e];have:=(Snd.put (n:=n) { kd:=7,to':=q,com:=min ((n.peer q).getD (Pe.new 0 0)).mt n.log.com,rnd:=n.rnd }).trans (Snd.send q);exact this
 |some x=>
  obtain ⟨n1,hn1⟩:∃ n1,n1=n.setP q (if x.beat.st==2 then x.beat.over false else x.beat):=⟨_,rfl⟩
  have e:n.tickP q=(n1.beat q).send q:=by unfold Rn.tickP;rw [hx,hn1];rfl
  rw [e];have s1:Snd n n1 0:=by rw [hn1];exact Snd.setP q λ _=>ho x hx
  have:=s1.trans ((Snd.put (n:=n1) { kd:=7,to':=q,com:=min ((n1.peer q).getD (Pe.new 0 0)).mt n1.log.com,rnd:=n1.rnd }).trans (Snd.send q));exact this
theorem Snd.ticks:∀ (l:List Int) (n:Rn),ZbL n->Snd n (l.foldl Rn.tickP n) (67 * l.length)
 |[],n,_=>.refl
 |q::l,n,h=>by
  have s:=Snd.tickP h q;have:=s.trans (Snd.ticks l (n.tickP q) (s.pe h));exact ⟨this.eq,this.keys,by have:=this.len;rw [List.length_cons];show ((l.foldl Rn.tickP (n.tickP q)).rms.length<=_);omega,this.pe⟩
theorem RnA.tick (h:RnA n) (draw:Int):RnA (n.tick draw):=by
 by_cases hr:n.e.role=3
 ·rw [Zb9 hr]
  exact (Snd.ticks _ n h.b.pe).rna h
 ·have e:n.tick draw=Rn.voted { n with e:=(n.e.tick draw n.log.last (n.log.term n.log.last).1).2 } false (n.e.tick draw n.log.last (n.log.term n.log.last).1).1:=by unfold Rn.tick;rw [if_pos (by simpa using hr)]
  rw [e];have hb:RnB { n with e:=(n.e.tick draw n.log.last (n.log.term n.log.last).1).2 }:=⟨⟨h.b.g.lg,h.b.g.lb,h.b.g.sg,h.b.g.w1,h.b.g.w64⟩,h.b.pe,h.b.e.tick _ _ _,(Zi8 _ _ _ _).trans h.b.id,h.b.sn⟩;exact hb.voted (λ h=>by cases h) _
theorem Zjq (h:RnA n) (hd:RnD n) (hr:n.e.role=3) (draw:Int) (hw:Sat R (NAt R p n::Hs) w):
  Zj prog 10 #[.pointer (some ⟨p,0,none⟩),.int .i64 draw] w λ v w'=>v=.tuple #[]/\∃ R',R.Ext R'/\Sat R' (NAt R' p (n.tick draw)::Hs) w':=by
 have hms:=hd.ms;have hlast:=hd.last;obtain ⟨l,hp⟩:=Option.isSome_iff_exists.1 (h.sm hr);have hk:=h.pk l hp;obtain ⟨L,hn,hw⟩:=NAt.iff.1 hw;apply ZmZ;refine Zb.mk rfl ⟨_,At.own (eqS hw) (by exact ⟨rfl,trivial⟩),?_⟩;refine (Zai (hw.take (Zn R L.ep n.e))).use ?_;clear hw;rintro _ w ⟨rfl,hw⟩;have hw:Sat R (NAt R p n::Hs) w:=NAt.iff.2 ⟨L,hn,hw.arr⟩;refine ⟨_,rfl,Br.ne (λ h=>absurd hr h) (λ _=>?_)⟩;refine (Zce hp hk hw).use ?_;clear hw;rintro _ w ⟨s,rfl,hw⟩;have h15:=ZeB hp hk;have hsl:=Own.len hw;rw [List.length_map] at hsl;refine ⟨s,rfl,?_⟩;refine ⟨λ i w=>∃ (k:Nat) (R':Cx),i=k/\k<=n.mem.length/\R.Ext R'/\Sat R' (Own s 3 (ints n.mem)::NAt R' p ((n.mem.take k).foldl Rn.tickP n)::Hs) w,λ i _=>n.mem.length - i.toNat,⟨0,R,rfl,Nat.zero_le _,.refl,hw⟩,?_⟩;clear hw;rintro _ _ w ⟨k,R1,rfl,hk',e1,hw⟩;refine Br.d (λ h2=>?_) (λ h2=>?_)
 ·have hkl:k<n.mem.length:=by omega
  refine Own.idx hw (eqS hw) hkl ?_;obtain ⟨m,hm⟩:∃ m,m=(n.mem.take k).foldl Rn.tickP n:=⟨_,rfl⟩;have hs:Snd n m (67 * (n.mem.take k).length):=by rw [hm];exact .ticks _ n h.b.pe
  obtain ⟨l',hp',hk2⟩:=hs.pkeys hp hk;have hlen:=hs.len;rw [List.length_take] at hlen;have emem:=ZiY hs;obtain ⟨x,hx⟩:=Zgu hp' n.mem[k] (by rw [emem];exact List.getElem_mem hkl);obtain ⟨q,hq⟩:∃ q,q=n.mem[k]:=⟨_,rfl⟩;rw [<-hm] at hw;rw [<-hq] at hx ⊢;have hnext:(n.mem.take (k + 1)).foldl Rn.tickP n=m.tickP q:=by rw [ZbI Rn.tickP n hkl,<-hm,hq]
  have hpx:m.peer q=some x:=by unfold Rn.peer;rw [hp'];exact hx
  have xok:=ZcX (hs.pe h.b.pe) hpx;obtain ⟨mm,b,hw⟩:=NAt.focus hp' hx hw.swap;obtain ⟨L,hn,hw⟩:=Zag.iff.1 hw.swap;refine Zb.mk rfl ⟨some mm,by rw [<-hn.2];exact At.own (eqS hw) (by exact ⟨rfl,trivial⟩),some ⟨b,0,none⟩,λ w' h=>by subst h;exact ZA.look (hw.take (ZA mm q b l')) false,?_⟩;have hw2:Sat R1 (Zag R1 p m (some mm) (ZA mm q b l')::ZP b x::Own s 3 (ints n.mem)::Hs) w:=Zag.iff.2 ⟨L,hn,hw.arr⟩;refine (ZjG xok hw2.swap).use ?_;clear hw hw2;rintro _ w ⟨rfl,hw⟩;refine ⟨rfl,?_⟩;refine (Zet hw).use ?_;clear hw;rintro _ w ⟨rfl,hw⟩;have go:∀ {z:Pe} {w:World},z=(if x.beat.st==2 then x.beat.over false else x.beat)->Sat R1 (ZP b z::Zag R1 p m (some mm) (ZA mm q b l')::Own s 3 (ints n.mem)::Hs) w->Calls prog 45 #[.pointer (some ⟨p,0,none⟩),.int .i64 q] w λ e w'=>e=.returned (.tuple #[])/\Calls prog 46 #[.pointer (some ⟨p,0,none⟩),.int .i64 q] w' λ e w'=>e=.returned (.tuple #[])/\
    ((∃ (k2:Nat) (R':Cx),IntKind.i64.wrap ((k:Int) + 1)=k2/\k2<=n.mem.length/\R.Ext R'/\Sat R' (Own s 3 (ints n.mem)::NAt R' p ((n.mem.take k2).foldl Rn.tickP n)::Hs) w')/\n.mem.length - (IntKind.i64.wrap ((k:Int) + 1)).toNat<n.mem.length - ((k:Int)).toNat):=λ {z w} hz hw=>by
   have hw:=Zag.close hp' hw;have hzok:ZbC z:=by rw [hz];split;exact xok.beat.over _;exact xok.beat
   obtain ⟨n1,hn1⟩:∃ n1,n1=m.setP q z:=⟨_,rfl⟩;have s1:Snd m n1 0:=by rw [hn1];exact Snd.setP q λ _=>hzok
   have hp1:=ZeJ (y:=z) hp' hx;rw [<-hn1] at hw hp1;have hl1:=s1.len;refine (ZhL hp1.1 hp1.2 (by omega) hw).use ?_;clear hw;rintro _ w ⟨rfl,hw⟩;refine ⟨rfl,?_⟩;have s2:Snd n (n1.beat q) (67 * (n.mem.take k).length + 0 + 1):=(hs.trans s1).trans (Snd.put _);have hl2:=s2.len;rw [List.length_take] at hl2;refine (ZbE (s2.rng h.b.g) (by rw [s2.eq];exact h.b.sn) (by rw [s2.eq];show n.log.last<=_;omega) (s2.pe h.b.pe) hp1.1 hp1.2 (by omega) hw).use ?_;clear hw;rintro _ w ⟨rfl,R2,e2,hw⟩;rw [Zh (by omega) (by omega)];refine ⟨rfl,⟨k + 1,R2,by omega,hkl,e1.trans e2,?_⟩,by omega⟩;have e:m.tickP q=(n1.beat q).send q:=by unfold Rn.tickP;rw [hpx,hn1,hz];rfl
   rw [hnext,e];exact hw.swap
  refine ⟨_,rfl,Br.e (λ h3=>?_) (λ h3=>go (by rw [if_neg (by simpa using h3)]) hw)⟩;refine (Zfv xok.beat false hw).use ?_;clear hw;rintro _ w ⟨⟨t,rfl⟩,hw⟩;exact ⟨t,rfl,go (by rw [if_pos (by simpa using h3)]) hw⟩
 ·have:k=n.mem.length:=by omega
  subst this;rw [List.take_length] at hw;rw [Zb9 hr];exact ⟨rfl,R1,e1,hw.drop⟩
end
section
open Go Go.VC Tryz
open Go.Rf (Ey Lg ZD)
variable {R R' R1 R2:Cx} {Hs Rest Rest2:List HP} {w:World} {p:Nat} {n m:Rn}
theorem Zpl {v l:List Int} {kd nd:Int} (h:(chG v l kd nd).2.2=0):1<=kd/\kd<=3/\1<=nd/\nd<=15:=by
 by_cases ha:Zo v l=false\/kd<1\/kd>3\/nd<1\/nd>15
 ·rw [ZbX ha] at h;cases h
 ·omega
theorem u64w {z:Int} (h0:0<=z) (h1:z<18446744073709551616):IntKind.u64.wrap z=(z.toNat:Int):=by
 rw [IntKind.wrap_u64];omega
theorem Zlh {e:DE4} (hw:Sat R Hs w):Zj prog 55 #[Zio e] w λ v w'=>v=.bool (e.2.kd==2)/\Sat R Hs w':=by
 apply ZpO;refine Zd hw λ b w hw=>⟨e.2.kd,At.own (eqS hw) (by exact ⟨rfl,trivial⟩),rfl,hw.drop⟩
theorem Zhi (h:RnA n) (hd:RnD n) (kd nd:Int) (hw:Sat R (NAt R p n::Hs) w):
  Zj prog 19 #[.pointer (some ⟨p,0,none⟩),.int .i64 kd,.int .i64 nd] w λ v w'=>v=.tuple #[.int .i64 (n.change kd nd).1.1,.int .i64 (n.change kd nd).1.2]/\∃ R',R.Ext R'/\Sat R' (NAt R' p (n.change kd nd).2::Hs) w':=by
 have hms:=hd.ms;have hlast:=hd.last;have ok:=h.b.g.lg;obtain ⟨A,hA⟩:∃ A,A=n.change kd nd:=⟨_,rfl⟩;rw [<-hA];unfold Rn.change at hA;have done:∀ {R':Cx} {w:World} {a b:Int} {m:Rn},R.Ext R'->A=((a,b),m)->Sat R' (NAt R' p m::Hs) w->Value.tuple #[.int .i64 a,.int .i64 b]=.tuple #[.int .i64 A.1.1,.int .i64 A.1.2]/\∃ R',R.Ext R'/\Sat R' (NAt R' p A.2::Hs) w:=λ {R' w a b m} e hi hw=>⟨by rw [hi],R',e,by rw [hi];exact hw⟩;obtain ⟨L,hn,hw⟩:=NAt.iff.1 hw;apply Zqj;refine Zb.mk rfl ⟨_,At.own (eqS hw) (by exact ⟨rfl,trivial⟩),?_⟩;refine (Zai (hw.take (Zn R L.ep n.e))).use ?_;clear hw;rintro _ w ⟨rfl,hw⟩;have hw:Sat R (pts p (Ze n L)::Zn R L.ep n.e::Zr R L.lp n.log::Z2 L.pm n.ps::Z0 L.rs n.rs::Zq R L.ms n.rms::ZN L.rr n.rrd::Hs) w:=hw.arr;refine ⟨_,rfl,Br.ne (λ h2=>done .refl (by rw [hA,if_pos (by simpa using h2)]) (NAt.iff.2 ⟨L,hn,hw⟩)) (λ h2=>Zb.mk rfl ⟨L.gv,L.gl,At.own (eqS hw) (by exact ⟨rfl,rfl,trivial⟩),?_⟩)⟩;rw [if_neg (by simp [h2])] at hA;refine (ZeW kd nd hw hn.g.v hn.g.l).use ?_;clear hw;rintro _ w ⟨a,b,rfl,hw⟩;have hw:=hw.drop.drop;obtain ⟨e,he⟩:∃ e,e=(chG n.g.vs n.g.ls kd nd).2.2:=⟨_,rfl⟩;rw [<-he] at hA ⊢;refine ⟨a,b,e,rfl,Zd hw λ b8 w hw=>?_⟩;refine Za hw (by kernel_rfl) rfl (by simp [Value.cells,Zc]) λ w hw=>?_;have hw:=hw.re (pts b8 (ZJ a b));have hw:=hw.drop;refine Br.ne (λ h3=>done .refl (by rw [hA,if_pos (by simpa using h3)]) (NAt.iff.2 ⟨L,hn,hw⟩)) (λ h3=>?_);rw [if_neg (by simp [h3])] at hA;have hcb:=Zpl (he.symm.trans h3);refine Zi (Sat R [pts p (Ze n L),VC.tru]) hw (λ w hw=>hw.k1) λ w hw=>Zb.mk rfl ⟨some ⟨L.lp,0,none⟩,At.own Zf (by exact ⟨rfl,trivial⟩),Zb.mk rfl ⟨some ⟨L.lp,0,none⟩,At.own Zf (by exact ⟨rfl,trivial⟩),Zb.mk rfl ⟨some ⟨L.lp,0,none⟩,At.own Zf (by exact ⟨rfl,trivial⟩),Zb.mk rfl ⟨some ⟨L.lp,0,none⟩,At.own Zf (by exact ⟨rfl,trivial⟩),?_⟩⟩⟩⟩;refine (ZF (hw.take (Zr R L.lp n.log))).use ?_;clear hw;rintro _ w ⟨rfl,hw⟩;refine ⟨_,rfl,hw.k1,?_⟩;refine (ZT ok hw).use ?_;clear hw;rintro _ w ⟨rfl,hw⟩;refine ⟨_,rfl,hw.k1,?_⟩;refine (ZF hw).use ?_;clear hw;rintro _ w ⟨rfl,hw⟩;refine ⟨_,rfl,hw.k1,?_⟩;have hc0:=ok.c0;have hc1:=ok.c1;have hb0:=ok.b0;rw [Zh (by omega) (by omega),Zh (x:=n.log.last - n.log.com) (by omega) (by omega)];refine (Zdk ok (n.log.com + 1) (n.log.last - n.log.com) hw).use ?_;clear hw;rintro _ w ⟨R2,t,ds,e2,hds,hde,rfl,hw⟩;have hk:=(e2.back hw).k1 (A:=pts p (Ze n L));have hw:Sat R2 (NAt R2 p n::Zao t ds::Hs) w:=NAt.mkX (L:=L) hn e2 (show Sat R2 (pts p (Ze n L)::Zn R L.ep n.e::Zr R2 L.lp n.log::Z2 L.pm n.ps::Z0 L.rs n.rs::Zq R L.ms n.rms::ZN L.rr n.rrd::Zao t ds::Hs) w from hw.arr)
 obtain ⟨an,han⟩:∃ an,an=(n.log.get (n.log.com + 1) (n.log.last - n.log.com)).any (λ x=>x.kd==2):=⟨_,rfl⟩;rw [<-han] at hA;have hdl:ds.length<=1099511627777:=by
  have h1:=congrArg List.length hde;rw [List.length_map] at h1;rw [h1];unfold Lg.get;have:=ok.len;split
  ·simp
  ·rw [List.length_take,List.length_drop]
   unfold Lg.all;simp only [List.length_cons];omega
 refine ⟨t,rfl,hk,λ w=>((nd==n.id||!n.own||an)=false)/\Sat R2 (NAt R2 p n::Hs) w,?_,?_⟩
 ·obtain ⟨L2,hn2,hw⟩:=NAt.iff.1 hw
  have hwc:=NAt.iff.2 ⟨L2,hn2,hw⟩;refine Zb.mk rfl ⟨n.id,At.own (eqS hw) (by exact ⟨rfl,trivial⟩),Br.e (λ h4=>done e2 (by rw [hA,if_pos (by rw [show (nd==n.id)=true by simpa using h4];rfl)]) (hwc.cons λ _ h=>h.drop)) λ h4=>?_⟩;refine (ZiS ok hwc).use ?_;clear hw hwc;rintro _ w ⟨rfl,hw⟩;refine ⟨_,rfl,Br.nb (λ h5=>done e2 (by rw [hA,if_pos (by rw [h5,show (!false)=true from rfl,Bool.or_true,Bool.true_or])]) (hw.cons λ _ h=>h.drop)) λ h5=>?_⟩
  refine (ZcI (A:=Zao t ds) (λ x=>x.kd==2) (Rdg.own (n:=4) (T:=52) (rows:=ds.map ZaC)) hdl (λ e _ w hw=>?_) hw.swap).use ?_
  ·show Calls prog 55 #[Zio e] w _
   refine (Zlh hw).use ?_;rintro _ w ⟨rfl,hw⟩;exact ⟨rfl,hw⟩
  clear hw;rintro _ w ⟨rfl,hw⟩;rw [hde,<-han];exact ⟨_,rfl,Br.mk (λ h6=>done e2 (by rw [hA,if_pos (by rw [h6,Bool.or_true])]) hw.drop) λ h6=>⟨by rw [h5,h6,show (nd==n.id)=false by simpa using h4];rfl,hw.drop⟩⟩
 clear hw hk;rintro _ w ⟨hc,hw⟩;rw [if_neg (by rw [hc];simp)] at hA;rw [u64w (z:=kd) (by omega) (by omega),u64w (z:=nd) (by omega) (by omega)];refine (Zex (n:=kd.toNat) (by omega) hw).use ?_;clear hw;rintro _ w ⟨s1,rfl,hw⟩;refine ⟨s1,rfl,?_⟩;refine (Zex (n:=nd.toNat) (by omega) hw).use ?_;clear hw;rintro _ w ⟨s2,rfl,hw⟩;refine ⟨s2,rfl,?_⟩;have hn1:=ZiV (n:=kd.toNat) (by omega);have hn2:=ZiV (n:=nd.toNat) (by omega);refine Zee (s:=s1) (t:=s2) (k:=.u8) (n:=20) Zrp underlying33 hw.swap (by omega) (by omega) (by omega) λ s3 w hw=>?_;obtain ⟨R3,e3,hs3,hw⟩:=Own.leak hw;have hw:=hw.drop;have hby:Zx (Zmi kd.toNat++Zmi nd.toNat):=λ z hz=>by
  rcases List.mem_append.1 hz with hz|hz
  ·exact Zcb (by omega) z hz
  ·exact Zcb (by omega) z hz
 refine (Zho (h.rnl h2) h2 2 hlast (by omega) hs3 hby (NAt.ext hw e3)).use ?_;clear hw;rintro _ w ⟨rfl,R4,e4,hw⟩;exact ⟨_,_,rfl,done ((e2.trans e3).trans e4) hA hw⟩
end
section
open Go Go.VC Tryz
open Go.Rf (Ey Lg ZD)
variable {n m:Rn} {tm c:Int} {es:List Ey}
def g1:Gp:=⟨[1],[]⟩
def s1:Sn:=⟨0,0,g1,[]⟩
theorem ZkL:Zo [1] []=true:=by decide
theorem ZoX:ZaE [1] [] [1]=true:=by decide
structure Zfl (n:Rn) (tm:Int) (es:List Ey) (c:Int):Prop where
 id:n.id=1
 eid:n.e.id=1
 role:n.e.role=3
 etm:n.e.hd.tm=tm
 b:n.log.b=⟨0,0,0,[]⟩
 l:n.log.l=es
 com:n.log.com=c
 app:n.log.app=0
 ps:n.ps=some []
 rs:n.rs=[]
 sn:n.sn=s1
 g:n.g=g1
 win:n.win=1
 ok:Rf.OkE es 0 0
 kd:∀ e∈es,e.kd≠2
 tms:∀ e∈es,e.tm=tm
 t0:0<=tm
 t1:tm<=1099511627776
 c0:0<=c
 c1:c<=es.length
 by':∀ e∈es,Zx e.dt
 rnd:n.rnd=0
theorem Zfl.lg (h:Zfl n tm es c):ZD n.log:=by
 have e1:n.log.last=(es.length:Int):=by unfold Lg.last;rw [h.b,h.l];simp
 refine ⟨by rw [h.b];exact Int.le_refl _,by rw [h.b];show (0:Int)<=_;omega,by rw [h.b];exact Int.le_refl _,by rw [h.b];show (0:Int)<=_;omega,by rw [h.b,h.l];exact h.ok,?_,?_,?_,?_⟩
 ·rw [h.b,h.com];exact h.c0
 ·rw [h.com,e1];exact h.c1
 ·rw [h.b,h.app];exact Int.le_refl _
 ·rw [h.app,h.com];exact h.c0
theorem Zfl.last (h:Zfl n tm es c):n.log.last=(es.length:Int):=by unfold Lg.last;rw [h.b,h.l];simp
theorem Zhw {g:Gp} {i:Int}:∀ (l:List Ey),(∀ e∈l,e.kd≠2)->l.foldl (Zb3 i) g=g
 |[],_=>rfl
 |x::l,h=>by
  have hx:=h x List.mem_cons_self;have e:Zb3 i g x=g:=by
   unfold Zb3 ZV;split
   ·rw [if_pos (by simpa using hx)]
   ·rfl
  rw [List.foldl_cons,e];exact Zhw l λ e he=>h e (List.mem_cons_of_mem _ he)
theorem ZjZ {n:Rn} (h:∀ e∈n.log.l,e.kd≠2) (k:Int):n.foldG k=n.sn.g:=Zhw _ λ e he=>h e (Rf.Lg.get_in e he)
theorem Zge {n:Rn} (hg:n.sn.g=g1) (hk:∀ e∈n.log.l,e.kd≠2) (hid:n.id=1):n.regroup={ n with g:=g1,e:={ n.e with g:=g1 },ps:=if n.e.role==3 then some [] else none }:=by
 have e:n.foldG n.log.l.length=g1:=by rw [ZjZ hk,hg]
 unfold Rn.regroup;dsimp only;rw [e];have e2:n.e.join g1={ n.e with g:=g1 }:=by unfold Eln.join;rw [if_pos (show Zo g1.vs g1.ls=true from ZkL)]
 have e3:n.newPs g1=[]:=by
  unfold Rn.newPs g1;show n.addP [] 1=[];unfold Rn.addP;rw [if_pos (by rw [hid];rfl)]
 rw [e2,e3]
theorem Zph {n:Rn} (hg:n.sn.g=g1) (hk:∀ e∈n.log.l,e.kd≠2) (hid:n.id=1) (i:Int):n.fresh i={ n with rfr:=if n.rfr==0||decide (i<n.rfr) then i else n.rfr,g:=g1,e:={ n.e with g:=g1 },ps:=if n.e.role==3 then some [] else none }:=
 Zge (n:={ n with rfr:=if n.rfr==0||decide (i<n.rfr) then i else n.rfr }) hg hk hid
theorem Zfl.tail (h:Zfl n tm es c):n.log.tail.tm<=tm:=by
 rw [Rf.Lg.tail_eq,h.b,h.l];unfold Rf.lastE;cases he:es with
 |nil=>exact h.t0
 |cons x l=>
  have:(x::l).getLast (by simp)∈es:=by rw [he];exact List.getLast_mem _
  have h2:=h.tms _ this;show ((x::l).getLast _).tm<=tm;omega
theorem Zfl.enter (h:Zfl n tm es c) {kd:Int} (hk:kd=0\/kd=1) {dt:List Int} (hd:Zx dt) (hl:dt.length<=4096) (he:es.length<1000000000):
  (n.enter kd dt).1=((es.length:Int) + 1,0)/\Zfl (n.enter kd dt).2 tm (es++[⟨(es.length:Int) + 1,tm,kd,dt⟩]) c/\(n.enter kd dt).2.rrd=n.rrd/\(n.enter kd dt).2.rms=n.rms:=by
 have hlast:=h.last;obtain ⟨x,hx⟩:∃ x:Ey,x=⟨(es.length:Int) + 1,tm,kd,dt⟩:=⟨_,rfl⟩;have hodd:Rf.oddE x=false:=by
  have h0:=h.t0;have h1:=h.t1;rw [hx];unfold Rf.oddE Rf.inIx;simp only [Bool.or_eq_false_iff,decide_eq_false_iff_not,Bool.not_eq_false',decide_eq_true_eq];omega
 have hf:Rf.folE [x] n.log.last n.log.tail.tm=true:=by
  have ht:=h.tail;rw [hx,hlast];unfold Rf.folE;rw [if_neg (by simp only [ne_eq];omega)];rfl
 obtain ⟨lg,hlg⟩:∃ lg:Lg,lg=⟨n.log.b,n.log.l++[x],n.log.com,n.log.app⟩:=⟨_,rfl⟩;have hll:lg.l=es++[x]:=by rw [hlg,h.l]
 have ha:n.log.add [x]=(0,lg):=by
  unfold Lg.add;rw [if_neg (by simp [hodd]),if_pos hf,hlg]
 have eent:n.enter kd dt=((n.log.last + 1,0),Rn.fresh { n with log:=lg } (n.log.last + 1)):=by
  unfold Rn.enter;dsimp only;rw [show (⟨n.log.last + 1,n.e.hd.tm,kd,dt⟩:Ey)=x by rw [hx,hlast,h.etm],ha];rfl
 have hok:Rf.OkE (es++[x]) 0 0:=by
  have hr:=h.lg.added (l:=[x]) (Rf.OkE.of_fol (by simp [hodd]) hf);have:=hr.es;rw [h.b,h.l] at this;exact this
 have hkx:x.kd≠2:=by rw [hx];show kd≠2;omega
 have hkds:∀ e∈es++[x],e.kd≠2:=λ e he=>by
  rcases List.mem_append.1 he with he|he
  ·exact h.kd e he
  ·simp at he;rw [he];exact hkx
 rw [eent,Zph (n:={ n with log:=lg }) (by show n.sn.g=g1;rw [h.sn];rfl) (by show ∀ e∈lg.l,_;rw [hll];exact hkds) h.id,hlast];refine ⟨rfl,?_,rfl,rfl⟩;rw [<-hx];refine ⟨h.id,h.eid,h.role,h.etm,by show lg.b=_;rw [hlg];exact h.b,hll,by show lg.com=_;rw [hlg];exact h.com,by show lg.app=_;rw [hlg];exact h.app,by show (if n.e.role==3 then some [] else none)=some [];rw [h.role];rfl,h.rs,h.sn,rfl,h.win,hok,hkds,λ e he=>?_,h.t0,h.t1,h.c0,?_,λ e he=>?_,h.rnd⟩
 ·rcases List.mem_append.1 he with he|he
  ·exact h.tms e he
  ·simp at he;rw [he,hx]
 ·have:=h.c1;rw [List.length_append,List.length_singleton];omega
 ·rcases List.mem_append.1 he with he|he
  ·exact h.by' e he
  ·simp at he;rw [he,hx];exact hd
theorem mem1 (h:n.ps=some []):n.mem=[]:=by unfold Rn.mem;rw [h];simp [ZaF]
theorem Zfl.all (h:Zfl n tm es c):n.all=n:=by unfold Rn.all;rw [mem1 h.ps];rfl
theorem mid1 (A:List Int):ZeA [1] [] A=pick A 1:=by
 unfold ZeA;rw [if_pos ZkL,show ZaF (List.map (pick A) [1])=[pick A 1] by simp [ZaF,Znx]];rfl
theorem Zfl.mid (h:Zfl n tm es c):ZeA n.g.vs n.g.ls n.ats=n.log.last:=by
 rw [h.g];show ZeA [1] [] n.ats=_;rw [mid1];unfold pick;have hl:1<n.ats.length:=by rw [Ze0];omega
 rw [show (1:Int).toNat=1 from rfl,List.getD_eq_getElem?_getD,List.getElem?_eq_getElem hl,Option.getD_some,Ze1 hl]
 have:n.peer ((1:Nat):Int)=none:=by unfold Rn.peer;rw [h.ps];rfl
 rw [this];simp only [h.id];rfl
theorem Zfl.term (h:Zfl n tm es c) (hne:es≠[]):n.log.term n.log.last=(tm,true):=by
 have hh:n.log.has n.log.last=true:=Rf.Lg.has_iff.2 ⟨by unfold Lg.last;omega,Int.le_refl _⟩;unfold Lg.term;rw [if_pos hh]
 congr 1
 have h2:=Rf.Lg.at_take hh;rw [<-h2];have e:(n.log.last - n.log.b.ix).toNat=n.log.l.length:=by unfold Lg.last;omega
 rw [e,List.take_length,h.b,h.l];unfold Rf.lastE;cases he:es with
 |nil=>exact absurd he hne
 |cons x l=>
  show ((x::l).getLast _).tm=tm;exact h.tms _ (by rw [he];exact List.getLast_mem _)
theorem Zfl.advance (h:Zfl n tm es c) (hne:es≠[]) (hc:c<es.length):Zfl n.advance tm es es.length/\n.advance.rrd=n.rrd/\n.advance.rms=n.rms/\n.advance.rfr=n.rfr/\n.advance.e=n.e:=by
 have hlast:=h.last;obtain ⟨lg,hlg⟩:∃ lg:Lg,lg=⟨n.log.b,n.log.l,n.log.last,n.log.app⟩:=⟨_,rfl⟩;have e:n.advance={ n with log:=lg }:=by
  unfold Rn.advance;rw [h.mid];dsimp only;rw [h.term hne];rw [if_neg (by rw [h.etm,h.com,hlast,decide_eq_false (by omega)];simp)];have ec:(n.log.commit n.log.last).2=lg:=by
   unfold Lg.commit;rw [if_neg (by rw [h.com,hlast];omega),hlg]
  rw [ec];unfold Rn.beats;rw [mem1 (n:={ n with log:=lg }) h.ps];rfl
 rw [e];exact ⟨⟨h.id,h.eid,h.role,h.etm,by show lg.b=_;rw [hlg];exact h.b,by show lg.l=_;rw [hlg];exact h.l,by show lg.com=_;rw [hlg];exact hlast,by show lg.app=_;rw [hlg];exact h.app,h.ps,h.rs,h.sn,h.g,h.win,h.ok,h.kd,h.tms,h.t0,h.t1,by omega,Int.le_refl _,h.by',h.rnd⟩,rfl,rfl,rfl,rfl⟩
theorem Zi1 {t:Int} (h0:0<=t) (h1:t<=1099511627775):∃ n,ZbO 1 ⟨t,0⟩ s1 [] 1 1=(0,some n)/\n.e.role=0/\n.e.wait=0/\n.log.last=0/\Zfl (n.tick 0) (t + 1) [⟨1,t + 1,0,[]⟩] 1/\(n.tick 0).rrd=[]/\(n.tick 0).rms=[]:=by
 have hel:Zko 1 ⟨t,0⟩ g1 1=true:=by
  unfold Zko Z3;rw [decide_eq_true (show (0<=t/\t<=1099511627776) from ⟨h0,by omega⟩),show Zo g1.vs g1.ls=true from ZkL]
  show (decide ((1:Int)<=1/\(1:Int)<=15) && true && decide ((0:Int)<=0/\(0:Int)<=15) && decide ((1:Int)<=1/\(1:Int)<=1000) && true)=true;decide
 obtain ⟨r,hr⟩:∃ r,r=Rn.regroup (rn0 1 ⟨t,0⟩ s1 ⟨⟨0,0,0,[]⟩,[],0,0⟩ 1 1):=⟨_,rfl⟩;have er:r={ rn0 1 ⟨t,0⟩ s1 ⟨⟨0,0,0,[]⟩,[],0,0⟩ 1 1 with g:=g1,e:=⟨1,1,⟨t,0⟩,g1,0,0,0,1,[],[]⟩,ps:=none }:=by
  rw [hr,Zge rfl (λ e he=>by cases he) rfl];rfl
 refine ⟨r,?_,by rw [er],by rw [er],by rw [er];rfl,?_⟩
 ·unfold ZbO
  rw [if_neg (by decide),if_neg (by rw [show s1.g=g1 from rfl,hel];simp)]
  rw [hr];rfl
 -- the tick
 have ew:r.e.tick 0 r.log.last (r.log.term r.log.last).1=([],⟨1,1,⟨t + 1,1⟩,g1,3,1,0,1,[1],[]⟩):=by
  have hh:r.e.hope 0=⟨1,1,⟨t,0⟩,g1,1,0,0,1,[1],[]⟩:=by rw [er];rfl
  unfold Eln.tick;rw [if_neg (by rw [er];simp)];dsimp only;rw [if_neg (by rw [er];simp [g1,ZS]),hh];rw [if_pos (show Eln.wins ⟨1,1,⟨t,0⟩,g1,1,0,0,1,[1],[]⟩=true from ZoX)]
  unfold Eln.run;rw [if_neg (by show ¬ t >= 1099511627776;omega)];dsimp only;rw [if_pos (show Eln.wins (Eln.alone ⟨1,1,⟨t + 1,1⟩,g1,1,0,0,1,[1],[]⟩ 2)=true from ZoX)]
  rfl
 obtain ⟨n1,hn1⟩:∃ n1:Rn,n1={ r with e:=⟨1,1,⟨t + 1,1⟩,g1,3,1,0,1,[1],[]⟩,ps:=none,rs:=[],rnd:=0 }:=⟨_,rfl⟩;have et:r.tick 0=(Rn.enter (Rn.regroup n1) 0 []).2.advance.all:=by
  unfold Rn.tick;rw [if_pos (by rw [er];rfl)];dsimp only;rw [ew];unfold Rn.voted;dsimp only;rw [if_neg (by simp),if_pos (by rfl),hn1];simp only [List.map_nil,List.append_nil]
 have hl0:Zfl (Rn.regroup n1) (t + 1) [] 0/\(Rn.regroup n1).rrd=[]/\(Rn.regroup n1).rms=[]:=by
  have e2:Rn.regroup n1={ n1 with g:=g1,ps:=some [] }:=by
   rw [Zge (by rw [hn1,er];rfl) (by rw [hn1,er];intro e he;cases he) (by rw [hn1,er];rfl),hn1];rfl
  rw [e2,hn1,er];refine ⟨⟨rfl,rfl,rfl,rfl,rfl,rfl,rfl,rfl,rfl,rfl,rfl,rfl,rfl,trivial,(λ e he=>by cases he),(λ e he=>by cases he),by omega,by omega,Int.le_refl _,Int.le_refl _,(λ e he=>by cases he),rfl⟩,rfl,rfl⟩
 obtain ⟨_,h2,h3,h4⟩:=hl0.1.enter (kd:=0) (dt:=[]) (.inl rfl) (λ x hx=>by cases hx) (by simp) (by simp);have h5:=h2.advance (by simp) (by simp);rw [et,h5.1.all];exact ⟨h5.1,h5.2.1.trans (h3.trans hl0.2.1),h5.2.2.1.trans (h4.trans hl0.2.2)⟩
end
section
open Go Go.VC Tryz
set_option maxRecDepth 10000
def B8  (K:Value->World->Prop) (w:World):Prop:=
 New (.cells #[.int .i64 1] 3 (0,0)) (λ m s=>
 Calls prog 9 #[.int .i64 1,.agg #[.int .i64 0,.int .i64 0],.agg #[.int .i64 0,.int .i64 0,.slice ((some ⟨m,0,none⟩)) 1 1,.slice none 0 0,.slice none 0 0],.slice none 0 0,.agg #[.int .i64 1,.int .i64 1]] s λ n b=>
 ∃ a:Option Addr,∃ g:Int,(n=.returned (.tuple #[.pointer a,.int .i64 g]))/\
 ∃ (c:World->Prop),(Br (g !=0)
 (K (.bool false) b)
 (Br a.isNone
 (K (.bool false) b)
 (c  b)))/\
 ∀ (u:Env)  (i:World),c  i->
 Calls prog 10 #[.pointer a,.int .i64 0] i λ o j=>
 (o=.returned (.tuple #[]))/\
 Zb a λ l=>
 ∃ d:Option Addr,(At (λ r=>r=j) (Addr.add l 0) [.pointer d])/\
 Calls prog 16 #[.pointer d] j λ p k=>
 ∃ e:Int,(p=.returned (.int .i64 e))/\
 Br (e==3)
 (Calls prog 15 #[.pointer a] k λ q t=>
 ∃ f:Int,(q=.returned (.int .i64 f))/\
 K (.bool (f==1)) t)
 (K (.bool false) k)) w
def sk8:Sk:=(.seq .leaf (.seq .leaf (.cut [] [] [0,12,13,14,15,16,17] .leaf .leaf)))
theorem Zrv  (K:Value->World->Prop) (w:World) (h:B8  K w):Zj prog 8 #[] w K:=cq (sk:=sk8) func8 (by kernel_rfl) (by kernel_rfl) (by kernel_rfl) h
end
section
open Go Go.VC Tryz
open Go.Rf (Ey Lg ZD)
variable {R R' R1 R2:Cx} {Hs Rest Rest2:List HP} {w:World} {p:Nat} {n m:Rn}
theorem Zfz {K:Value->World->Prop} {L:NLo} (hn:NIn R n L) (hw:Sat R (pts p (Ze n L)::nHs R n L Hs) w) (k:∀ w',Sat R (NAt R p n::Hs) w'->K (.int .i64 n.e.role) w'):Zj prog 16 #[.pointer (some ⟨L.ep,0,none⟩)] w K:=by
 refine (Zai (hw.take (Zn R L.ep n.e))).mono ?_;rintro _ w ⟨rfl,hw⟩;exact k w (NAt.iff.2 ⟨L,hn,hw.arr⟩)
theorem nilE {A:HP}:Rdg R A 4 ⟨none,0,0⟩ (([]:List DE4).map ZaC):=.ro ⟨Wid.nil,rfl,λ h=>absurd rfl h⟩
theorem ZjM {b:Nat} {t:Int} (h0:0<=t) (h1:t<=1000000000000) (hw:Sat R (pts b (.cells [.int .i64 1].toArray 3 (0,0))::Hs) w):
  Zj prog 9 #[.int .i64 1,.agg #[.int .i64 t,.int .i64 0],.agg #[.int .i64 0,.int .i64 0,.slice (some ⟨b,0,none⟩) 1 1,.slice none 0 0,.slice none 0 0],.slice none 0 0,.agg #[.int .i64 1,.int .i64 1]] w λ r w'=>
   ∃ p n R',r=.tuple #[.pointer (some ⟨p,0,none⟩),.int .i64 0]/\ZbO 1 ⟨t,0⟩ s1 [] 1 1=(0,some n)/\R.Ext R'/\Sat R' (NAt R' p n::Hs) w':=by
 have hw:=ZbR hw;have hw:=hw.re (Own ⟨some ⟨b,0,none⟩,1,1⟩ 3 (ints [1]));obtain ⟨R1,e1,hb,hw⟩:=Own.leak hw;have hb:RoI R1 ⟨some ⟨b,0,none⟩,1,1⟩ [1]:=hb.ro (by simp);have hz:=Zdu.nil (R:=R1) (m:={ kd:=0 }) rfl rfl;have hw:Sat R1 (pur True::Hs) w:=Sat.pur.2 ⟨trivial,hw⟩;refine (Zg4 (h:=⟨t,0⟩) (s:=s1) (v:=⟨some ⟨b,0,none⟩,1,1⟩) (l:=⟨none,0,0⟩) (d:=⟨none,0,0⟩) (ds:=[]) 1 1 1 ⟨hb,hz.g.l⟩ hz.d nilE .nil (λ e he=>by cases he) (by simp) hw).mono ?_;rintro _ w (⟨e,he,hne,rfl,hw⟩|⟨n,p,R2,he,rfl,e2,hw⟩)
 ·obtain ⟨n,hn,_⟩:=Zi1 h0 (by omega:t<=1099511627775)
  have he:ZbO 1 ⟨t,0⟩ s1 [] 1 1=(e,none):=he;rw [hn] at he;cases he
 ·exact ⟨p,n,R2,rfl,he,e1.trans e2,hw.cons λ _ h=>h.drop⟩
theorem Zh9 {t:Int} (h0:0<=t) (h1:t<=1000000000000) (he:ZbO 1 ⟨t,0⟩ s1 [] 1 1=(0,some n)) (hw:Sat R (NAt R p n::Hs) w):
  Zj prog 10 #[.pointer (some ⟨p,0,none⟩),.int .i64 0] w λ v w'=>v=.tuple #[]/\∃ m R',Zfl m (t + 1) [⟨1,t + 1,0,[]⟩] 1/\m.rrd=[]/\m.rms=[]/\R.Ext R'/\Sat R' (NAt R' p m::Hs) w':=by
 obtain ⟨n',hn',hr,hwt,hl0,hL,h2,h3⟩:=Zi1 h0 (by omega:t<=1099511627775);rw [hn'] at he;obtain rfl:n'=n:=by injection he with _ he;exact Option.some.inj he
 obtain ⟨g,pe,ok,sn,_,id,eid,i0,i1,_,rms,_⟩:=ZcQ (λ e he=>by cases he) hn';refine (Zfy g pe (by omega) sn ok (by omega) (by omega) (by rw [rms];simp) (by rw [hr];decide) 0 hw).mono ?_;rintro _ w ⟨rfl,R2,e2,hw⟩;exact ⟨rfl,_,R2,hL,h2,h3,e2,hw⟩
theorem Zka (hw:Sat R Hs w):Zj prog 8 #[] w λ v w'=>v=.bool true/\Sat R Hs w':=by
 apply Zrv;refine Zd hw λ b w hw=>?_;refine (ZjM (t:=0) (by omega) (by omega) hw).use ?_;clear hw;rintro _ w ⟨p,n,R1,rfl,he,e1,hw⟩;refine ⟨_,_,rfl,λ w=>Sat R1 (NAt R1 p n::Hs) w,Br.f rfl (Br.f rfl hw),?_⟩;clear hw;rintro _ w hw;refine (Zh9 (t:=0) (by omega) (by omega) he hw).use ?_;clear hw;rintro _ w ⟨rfl,m,R2,hL,_,_,e2,hw⟩;obtain ⟨L,hn,hw⟩:=NAt.iff.1 hw;refine ⟨rfl,Zb.mk rfl ⟨_,At.own (eqS hw) (by exact ⟨rfl,trivial⟩),?_⟩⟩;refine (Zfz (K:=λ v w'=>v=.int .i64 3/\Sat R2 (NAt R2 p m::Hs) w') hn hw λ w hw=>⟨by rw [hL.role],hw⟩).use ?_;clear hw;rintro _ w ⟨rfl,hw⟩;refine ⟨_,rfl,Br.t rfl ?_⟩;refine (Zcd hw).use ?_;clear hw;rintro _ w ⟨rfl,hw⟩;exact ⟨_,rfl,by rw [hL.com];rfl,(e1.trans e2).back hw.drop⟩
end
section
open Go Go.VC Tryz
open Go.Rf (Ey Lg ZD)
variable {R R' R1 R2:Cx} {Hs Rest Rest2:List HP} {w:World} {p:Nat} {n m:Rn} {tm c:Int} {es:List Ey}
theorem Zjr {a b:List Int} (ha:Zx a) (hb:Zx b) (h:VC.strOf a=VC.strOf b):a=b:=by
 rw [<-Zd0 ha,<-Zd0 hb,h]
end
section
open Go Go.VC Tryz
set_option maxRecDepth 10000
def B24 (d:Sl) (e:Sl) (K:Value->World->Prop) (w:World):Prop:=
 Br ((↑d.len:Int) !=(↑e.len:Int))
 (K (.bool false) w)
 (∃ (k:Int->World->Prop) (A:Int->World->Nat),(k 0 w)/\∀ (E:Env) (b:Int) (j:World),k b j->
 Br (decide (b<(↑d.len:Int)))
 (Drw j λ c i=>
 Rng b d.len (Zb d.a λ C=>
 ∃ r:Int,(At c (Addr.add (Addr.add C (Zaf b.toNat 4)) 0) [.int .i64 r])/\
 Rng b e.len (Zb e.a λ D=>
 ∃ s:Int,(At c (Addr.add (Addr.add D (Zaf b.toNat 4)) 0) [.int .i64 s])/\
 Br (r !=s)
 (K (.bool false) i)
 (Rng b d.len (Zb d.a λ l=>
 ∃ t:Int,(At c ⟨(l.add (Zaf b.toNat 4)).block,(l.add (Zaf b.toNat 4)).off + 1,none⟩ [.int .i64 t])/\
 Rng b e.len (Zb e.a λ m=>
 ∃ u:Int,(At c ⟨(m.add (Zaf b.toNat 4)).block,(m.add (Zaf b.toNat 4)).off + 1,none⟩ [.int .i64 u])/\
 Br (t !=u)
 (K (.bool false) i)
 (Rng b d.len (Zb d.a λ n=>
 ∃ v:Int,(At c ⟨(n.add (Zaf b.toNat 4)).block,(n.add (Zaf b.toNat 4)).off + 2,none⟩ [.int .i64 v])/\
 Rng b e.len (Zb e.a λ o=>
 ∃ x:Int,(At c ⟨(o.add (Zaf b.toNat 4)).block,(o.add (Zaf b.toNat 4)).off + 2,none⟩ [.int .i64 x])/\
 Br (v !=x)
 (K (.bool false) i)
 (Rng b d.len (Zb d.a λ p=>
 ∃ f:Sl,(At c ⟨(p.add (Zaf b.toNat 4)).block,(p.add (Zaf b.toNat 4)).off + 3,none⟩ [.slice f.a f.len f.cap])/\
 ∃ y:ByteArray,(∀ w',c w'->((convert 33 9 (.slice f.a f.len f.cap))).run prog w'=.ok (.string y) w')/\
 Rng b e.len (Zb e.a λ q=>
 ∃ g:Sl,(At c ⟨(q.add (Zaf b.toNat 4)).block,(q.add (Zaf b.toNat 4)).off + 3,none⟩ [.slice g.a g.len g.cap])/\
 ∃ z:ByteArray,(∀ w',c w'->((convert 33 9 (.slice g.a g.len g.cap))).run prog w'=.ok (.string z) w')/\
 Br (!y.toList==z.toList)
 (K (.bool false) i)
 ((k (IntKind.i64.wrap (b + 1)) i)/\A (IntKind.i64.wrap (b + 1)) i<A b j)))))))))))))
 (K (.bool true) j))
def sk24:Sk:=(.seq .leaf (.seq .leaf (.seq (.seq .leaf (.block (.loop [5] [(.int .i64)] [4,5,11,12,13,14,15,16,17,18,19,20,21,22,23,24,25,26,27,28,29,30,31,32,33,34,35,36,37,38,39,40,41,42,43,44,45,46,47,48,49,50,51,52,53,54,55,56,57,58,59,60,61,62,63,64,65,66,67,68] .leaf))) .leaf)))
theorem Zqg (b:Sl) (c:Sl) (K:Value->World->Prop) (w:World) (h:B24 b c K w):Zj prog 24 #[.slice b.a b.len b.cap,.slice c.a c.len c.cap] w K:=cq (sk:=sk24) func24 (by kernel_rfl) (by kernel_rfl) (by kernel_rfl) h
def B77 (E:Option Addr) (l:Int) (K:Value->World->Prop) (w:World):Prop:=
 Zb E λ s=>
 ∃ m:Sl,(At (λ b=>b=w) ⟨s.block,s.off + 1,none⟩ [.slice m.a m.len m.cap])/\
 Rng l m.len (Zb m.a λ G=>
 ∃ t:Int,∃ u:Int,∃ v:Int,∃ x:Int,∃ c:Sl,∃ d:Sl,∃ e:Sl,∃ f:Sl,(At (λ b=>b=w) (Addr.add G (Zaf l.toNat 8)) [.int .i64 t,.int .i64 u,.int .i64 v,.int .i64 x,.slice c.a c.len c.cap,.slice d.a d.len d.cap,.slice e.a e.len e.cap,.slice f.a f.len f.cap])/\
 New (.cells #[.int .i64 0,.int .i64 0,.int .i64 0,.int .i64 0,.slice none 0 0,.slice none 0 0,.slice none 0 0,.slice none 0 0] 141 (0,0)) (λ p L=>
 ∃ o:World,((Instr.storeAt 141 (.pointer ((some ⟨p,0,none⟩))) (.agg #[.int .i64 t,.int .i64 u,.int .i64 v,.int .i64 x,.slice c.a c.len c.cap,.slice d.a d.len d.cap,.slice e.a e.len e.cap,.slice f.a f.len f.cap])).run prog L=.ok () o)/\
 ∃ y:Int,∃ z:Int,(At (λ b=>b=o) ⟨p,0,none⟩ [.int .i64 y,.int .i64 z])/\
 ∃ A:Int,∃ C:Int,∃ g:Sl,∃ i:Sl,∃ j:Sl,(At (λ b=>b=o) ⟨p,0 + 2,none⟩ [.int .i64 A,.int .i64 C,.slice g.a g.len g.cap,.slice i.a i.len i.cap,.slice j.a j.len j.cap])/\
 ∃ k:Sl,(At (λ b=>b=o) ⟨p,0 + 7,none⟩ [.slice k.a k.len k.cap])/\
 Calls prog 9 #[.int .i64 (IntKind.i64.wrap (l + 1)),.agg #[.int .i64 y,.int .i64 z],.agg #[.int .i64 A,.int .i64 C,.slice g.a g.len g.cap,.slice i.a i.len i.cap,.slice j.a j.len j.cap],.slice k.a k.len k.cap,.agg #[.int .i64 3,.int .i64 2]] o λ J q=>
 ∃ r:Option Addr,∃ D:Int,(J=.returned (.tuple #[.pointer r,.int .i64 D]))/\
 Br (D !=0)
 (K (.bool false) q)
 (Br r.isNone
 (K (.bool false) q)
 (Zb E λ H=>
 ∃ n:Sl,(At (λ b=>b=q) (Addr.add H 0) [.slice n.a n.len n.cap])/\
 Rng l n.len (Zb n.a λ I=>
 ∃ F:World,((Instr.storeAt 24 (.pointer ((some (Addr.add I l.toNat)))) (.pointer r)).run prog q=.ok () F)/\
 K (.bool true) F)))) w)
theorem ZpI (b:Option Addr) (a:Int) (K:Value->World->Prop) (w:World) (h:B77 b a K w):Zj prog 77 #[.pointer b,.int .i64 a] w K:=cq (sk:=.leaf) func77 (by kernel_rfl) (by kernel_rfl) (by kernel_rfl) h
def B79 (e:Option Addr) (i:Int) (K:Value->World->Prop) (w:World):Prop:=
 Zb e λ bc=>
 ∃ n:Sl,(At (λ b=>b=w) (Addr.add bc 0) [.slice n.a n.len n.cap])/\
 Rng i n.len (Zb n.a λ bd=>
 ∃ f:Option Addr,(At (λ b=>b=w) (Addr.add bd i.toNat) [.pointer f])/\
 Calls prog 22 #[.pointer f] w λ bk bv=>
 ∃ af:Int,∃ bt:Int,∃ t:Sl,∃ u:Sl,∃ v:Sl,(bk=.returned (.agg #[.int .i64 af,.int .i64 bt,.slice t.a t.len t.cap,.slice u.a u.len u.cap,.slice v.a v.len v.cap]))/\
 Calls prog 15 #[.pointer f] bv λ bl bz=>
 ∃ ag:Int,(bl=.returned (.int .i64 ag))/\
 Calls prog 22 #[.pointer f] bz λ bm b0=>
 ∃ ah:Int,∃ bu:Int,∃ x:Sl,∃ y:Sl,∃ z:Sl,(bm=.returned (.agg #[.int .i64 ah,.int .i64 bu,.slice x.a x.len x.cap,.slice y.a y.len y.cap,.slice z.a z.len z.cap]))/\
 Calls prog 14 #[.pointer f,.int .i64 (IntKind.i64.wrap (af + 1)),.int .i64 (IntKind.i64.wrap (ag - ah))] b0 λ bn b1=>
 ∃ d:Sl,(bn=.returned (.slice d.a d.len d.cap))/\
 ∃ (s:Int->World->Prop) (bb:Int->World->Nat),(s 0 b1)/\∀ (b5:Env) (c:Int) (r:World),s c r->
 Br (decide (c<(↑d.len:Int)))
 (Drw r λ p b2=>
 Zb e λ Q=>
 ∃ ai:Option Nat,(At p ⟨Q.block,Q.off + 3,none⟩ [.map ai])/\
 Rng c d.len (Zb d.a λ be=>
 ∃ aj:Int,(At p (Addr.add (Addr.add be (Zaf c.toNat 4)) 0) [.int .i64 aj])/\
 ∃ ak:Int,∃ al:Int,∃ am:Int,∃ j:Sl,∃ an:Bool,(∀ b,p b->((Instr.lookup 84 (.map ai) (.int .i64 aj) true)).run prog b=.ok (.tuple #[.agg #[.int .i64 ak,.int .i64 al,.int .i64 am,.slice j.a j.len j.cap],.bool an]) b)/\
 New (.cells #[.int .i64 0,.int .i64 0,.int .i64 0,.slice none 0 0] 52 (0,0)) (λ Y a8=>
 (p a8)/\
 ∃ a9:World,((Instr.storeAt 52 (.pointer ((some ⟨Y,0,none⟩))) (.agg #[.int .i64 ak,.int .i64 al,.int .i64 am,.slice j.a j.len j.cap])).run prog a8=.ok () a9)/\
 Drw a9 λ b3 ba=>
 ∃ ao:Int,∃ ap:Int,∃ aq:Int,∃ k:Sl,(At (λ b=>b=ba) ⟨Y,0,none⟩ [.int .i64 ao,.int .i64 ap,.int .i64 aq,.slice k.a k.len k.cap])/\
 ((0:Int)<=IntKind.i64.wrap (c + 1))/\
 ((IntKind.i64.wrap (c + 1):Int)<=(↑d.cap:Int))/\
 ((0:Int)<=c)/\
 ((c:Int)<=(↑(IntKind.i64.wrap (c + 1)).toNat:Int))/\
 New (.cells #[.int .i64 ao,.int .i64 ap,.int .i64 aq,.slice k.a k.len k.cap] 52 (0,0)) (λ bj bw=>
 Calls prog 24 #[.slice ((some ⟨bj,0,none⟩)) 1 1,.slice (ZbB d.a c.toNat d.cap 4) ((IntKind.i64.wrap (c + 1)).toNat - c.toNat) (d.cap - c.toNat)] bw λ bo D=>
 ∃ ar:Bool,(bo=.returned (.bool ar))/\
 ∃ (o:World->Prop),(Br an
 (Br (!ar)
 (Zb e λ T=>
 ∃ a2:World,((Instr.storeAt 4 (.pointer ((some ⟨T.block,T.off + 8,none⟩))) (.bool false)).run prog D=.ok () a2)/\
 o  a2)
 (o  D))
 (o  D))/\
 ∀ (b6:Env)  (a3:World),o  a3->
 Drw a3 λ b4 q=>
 Zb e λ U=>
 ∃ au:Option Nat,(At (λ b=>b=q) ⟨U.block,U.off + 3,none⟩ [.map au])/\
 Rng c d.len (Zb d.a λ bf=>
 ∃ av:Int,(At (λ b=>b=q) (Addr.add (Addr.add bf (Zaf c.toNat 4)) 0) [.int .i64 av])/\
 Rng c d.len (Zb d.a λ bg=>
 ∃ aw:Int,∃ ax:Int,∃ ay:Int,∃ l:Sl,(At (λ b=>b=q) (Addr.add bg (Zaf c.toNat 4)) [.int .i64 aw,.int .i64 ax,.int .i64 ay,.slice l.a l.len l.cap])/\
 ∃ E:World,((Instr.mapUpdate 84 (.map au) (.int .i64 av) (.agg #[.int .i64 aw,.int .i64 ax,.int .i64 ay,.slice l.a l.len l.cap])).run prog q=.ok () E)/\
 (s (IntKind.i64.wrap (c + 1)) E)/\bb (IntKind.i64.wrap (c + 1)) E<bb c r))) ba) b2))
 (Drw r λ I bx=>
 Zb e λ V=>
 ∃ A:Int,(At I ⟨V.block,V.off + 4,none⟩ [.int .i64 A])/\
 Calls prog 15 #[.pointer f] bx λ bp a4=>
 ∃ C:Int,(bp=.returned (.int .i64 C))/\
 (I a4)/\
 Zb e λ X=>
 ∃ F:World,((Instr.storeAt 3 (.pointer ((some ⟨X.block,X.off + 4,none⟩))) (.int .i64 (if C>A then C else A))).run prog a4=.ok () F)/\
 Zb f λ bh=>
 ∃ az:Option Addr,(At (λ b=>b=F) (Addr.add bh 0) [.pointer az])/\
 Calls prog 16 #[.pointer az] F λ bq G=>
 ∃ a0:Int,(bq=.returned (.int .i64 a0))/\
 Br (a0==3)
 (Zb f λ bi=>
 ∃ a1:Option Addr,(At (λ b=>b=G) (Addr.add bi 0) [.pointer a1])/\
 Calls prog 23 #[.pointer a1] G λ br g=>
 ∃ m:Int,∃ bs:Int,(br=.returned (.agg #[.int .i64 m,.int .i64 bs]))/\
 Zb e λ J=>
 ∃ Z:Option Nat,(At (λ b=>b=g) ⟨J.block,J.off + 5,none⟩ [.map Z])/\
 ∃ aa:Int,∃ ab:Bool,(∀ b,(λ b=>b=g) b->((Instr.lookup 85 (.map Z) (.int .i64 m) true)).run prog b=.ok (.tuple #[.int .i64 aa,.bool ab]) b)/\
 Br ab
 (Br (aa !=i)
 (Zb e λ L=>
 ∃ H:World,((Instr.storeAt 4 (.pointer ((some ⟨L.block,L.off + 8,none⟩))) (.bool false)).run prog g=.ok () H)/\
 Zb e λ M=>
 ∃ ac:Option Nat,(At (λ b=>b=H) ⟨M.block,M.off + 5,none⟩ [.map ac])/\
 ∃ a5:World,((Instr.mapUpdate 85 (.map ac) (.int .i64 m) (.int .i64 i)).run prog H=.ok () a5)/\
 K (.tuple #[]) a5)
 (Zb e λ N=>
 ∃ ad:Option Nat,(At (λ b=>b=g) ⟨N.block,N.off + 5,none⟩ [.map ad])/\
 ∃ a6:World,((Instr.mapUpdate 85 (.map ad) (.int .i64 m) (.int .i64 i)).run prog g=.ok () a6)/\
 K (.tuple #[]) a6))
 (Zb e λ O=>
 ∃ ae:Option Nat,(At (λ b=>b=g) ⟨O.block,O.off + 5,none⟩ [.map ae])/\
 ∃ a7:World,((Instr.mapUpdate 85 (.map ae) (.int .i64 m) (.int .i64 i)).run prog g=.ok () a7)/\
 K (.tuple #[]) a7))
 (K (.tuple #[]) G)))
def sk79:Sk:=(.seq .leaf (.seq .leaf (.seq (.seq .leaf (.block (.loop [6] [(.int .i64)] [6,7,8,9,32,33,34,35,36,37,38,39,40,41,42,43,44,45,46,47,48,49,50,51,52,53,54,55,56,57,58,59,60,61,62,63,64,65,66,67,68,69,70,71,72,73,74,75,76,77,78,79] (.seq .leaf (.seq (.block (.seq (.cond .leaf .leaf) (.seq (.cond .leaf .leaf) (.cut [] [] [59,60,61,62,63,64,65,66] .leaf (.cond .leaf .leaf))))) .leaf))))) (.seq (.cond .leaf .leaf) .leaf))))
theorem ZpG (b:Option Addr) (a:Int) (K:Value->World->Prop) (w:World) (h:B79 b a K w):Zj prog 79 #[.pointer b,.int .i64 a] w K:=cq (sk:=sk79) func79 (by kernel_rfl) (by kernel_rfl) (by kernel_rfl) h
def B30 (m:Option Addr) (c:Int) (K:Value->World->Prop) (w:World):Prop:=
 Zb m λ bp=>
 ∃ L:Sl,(At (λ b=>b=w) (Addr.add bp 0) [.slice L.a L.len L.cap])/\
 Rng c L.len (Zb L.a λ bs=>
 ∃ az:Option Addr,(At (λ b=>b=w) (Addr.add bs c.toNat) [.pointer az])/\
 Calls prog 13 #[.pointer az] w λ bw b0=>
 ∃ a0:Bool,∃ a1:Int,∃ a2:Int,∃ a3:Bool,∃ a4:Int,∃ a5:Int,∃ r:Sl,∃ s:Sl,∃ t:Sl,∃ a6:Int,∃ p:Sl,∃ q:Sl,(bw=.returned (.agg #[.bool a0,.int .i64 a1,.int .i64 a2,.bool a3,.int .i64 a4,.int .i64 a5,.slice r.a r.len r.cap,.slice s.a s.len s.cap,.slice t.a t.len t.cap,.int .i64 a6,.slice p.a p.len p.cap,.slice q.a q.len q.cap]))/\
 New (.cells #[.bool false,.int .i64 0,.int .i64 0,.bool false,.int .i64 0,.int .i64 0,.slice none 0 0,.slice none 0 0,.slice none 0 0,.int .i64 0,.slice none 0 0,.slice none 0 0] 44 (0,0)) (λ k b3=>
 ∃ G:World,((Instr.storeAt 44 (.pointer ((some ⟨k,0,none⟩))) (.agg #[.bool a0,.int .i64 a1,.int .i64 a2,.bool a3,.int .i64 a4,.int .i64 a5,.slice r.a r.len r.cap,.slice s.a s.len s.cap,.slice t.a t.len t.cap,.int .i64 a6,.slice p.a p.len p.cap,.slice q.a q.len q.cap])).run prog b3=.ok () G)/\
 Zb m λ aq=>
 ∃ Q:Sl,(At (λ b=>b=G) ⟨aq.block,aq.off + 1,none⟩ [.slice Q.a Q.len Q.cap])/\
 Rng c Q.len (Zb Q.a λ e=>
 ∃ (ac:World->Prop),(∃ a7:Bool,(At (λ b=>b=G) ⟨k,0,none⟩ [.bool a7])/\
 Br a7
 (∃ a8:Int,∃ a9:Int,(At (λ b=>b=G) ⟨k,0 + 1,none⟩ [.int .i64 a8,.int .i64 a9])/\
 ∃ bl:World,((Instr.storeAt 29 (.pointer ((some (Addr.add (Addr.add e (Zaf c.toNat 8)) 0)))) (.agg #[.int .i64 a8,.int .i64 a9])).run prog G=.ok () bl)/\
 ac  bl)
 (ac  G))/\
 ∀ (b8:Env)  (V:World),ac  V->
 ∃ (ad:World->Prop),(∃ ba:Bool,(At (λ b=>b=V) ⟨k,0 + 3,none⟩ [.bool ba])/\
 Br ba
 (∃ bb:Int,∃ bc:Int,∃ u:Sl,∃ v:Sl,∃ x:Sl,(At (λ b=>b=V) ⟨k,0 + 4,none⟩ [.int .i64 bb,.int .i64 bc,.slice u.a u.len u.cap,.slice v.a v.len v.cap,.slice x.a x.len x.cap])/\
 ∃ bm:World,((Instr.storeAt 35 (.pointer ((some ⟨(e.add (Zaf c.toNat 8)).block,(e.add (Zaf c.toNat 8)).off + 2,none⟩))) (.agg #[.int .i64 bb,.int .i64 bc,.slice u.a u.len u.cap,.slice v.a v.len v.cap,.slice x.a x.len x.cap])).run prog V=.ok () bm)/\
 ∃ bn:World,((Instr.storeAt 46 (.pointer ((some ⟨(e.add (Zaf c.toNat 8)).block,(e.add (Zaf c.toNat 8)).off + 7,none⟩))) (.slice none 0 0)).run prog bm=.ok () bn)/\
 ad  bn)
 (ad  V))/\
 ∀ (b9:Env)  (Z:World),ad  Z->
 ∃ (ae:World->Prop),(∃ bd:Int,(At (λ b=>b=Z) ⟨k,0 + 9,none⟩ [.int .i64 bd])/\
 Br (decide (bd>0))
 (Drw Z λ b5 aa=>
 ∃ g:Int,(At (λ b=>b=aa) ⟨k,0 + 9,none⟩ [.int .i64 g])/\
 ∃ i:Int,(At (λ b=>b=aa) ⟨(e.add (Zaf c.toNat 8)).block,(e.add (Zaf c.toNat 8)).off + 2,none⟩ [.int .i64 i])/\
 ∃ f:Sl,(At (λ b=>b=aa) ⟨(e.add (Zaf c.toNat 8)).block,(e.add (Zaf c.toNat 8)).off + 7,none⟩ [.slice f.a f.len f.cap])/\
 Drw aa λ o b1=>
 ∃ y:Sl,(At o ⟨(e.add (Zaf c.toNat 8)).block,(e.add (Zaf c.toNat 8)).off + 7,none⟩ [.slice y.a y.len y.cap])/\
 ((0:Int)<=if (if (↑f.len:Int)<IntKind.i64.wrap (IntKind.i64.wrap (g - 1) - i) then (↑f.len:Int) else IntKind.i64.wrap (IntKind.i64.wrap (g - 1) - i))>0 then if (↑f.len:Int)<IntKind.i64.wrap (IntKind.i64.wrap (g - 1) - i) then (↑f.len:Int) else IntKind.i64.wrap (IntKind.i64.wrap (g - 1) - i) else 0)/\
 ((if (if (↑f.len:Int)<IntKind.i64.wrap (IntKind.i64.wrap (g - 1) - i) then (↑f.len:Int) else IntKind.i64.wrap (IntKind.i64.wrap (g - 1) - i))>0 then if (↑f.len:Int)<IntKind.i64.wrap (IntKind.i64.wrap (g - 1) - i) then (↑f.len:Int) else IntKind.i64.wrap (IntKind.i64.wrap (g - 1) - i) else 0:Int)<=(↑y.cap:Int))/\
 Zb m λ bt=>
 ∃ T:Sl,(At o (Addr.add bt 0) [.slice T.a T.len T.cap])/\
 Rng c T.len (Zb T.a λ bu=>
 ∃ be:Option Addr,(At o (Addr.add bu c.toNat) [.pointer be])/\
 ∃ af:Int,(At o ⟨k,0 + 9,none⟩ [.int .i64 af])/\
 ∃ ag:Int,(At o ⟨(e.add (Zaf c.toNat 8)).block,(e.add (Zaf c.toNat 8)).off + 2,none⟩ [.int .i64 ag])/\
 New (.cells #[] 52 (0,0)) (λ bv bf=>
 (o bf)/\
 ∃ ah:World,∃ z:Sl,((Builtin.append_ #[46,46] 46 #[.slice ((some ⟨bv,0,none⟩)) 0 0,.slice y.a ((if (if (↑f.len:Int)<IntKind.i64.wrap (IntKind.i64.wrap (g - 1) - i) then (↑f.len:Int) else IntKind.i64.wrap (IntKind.i64.wrap (g - 1) - i))>0 then if (↑f.len:Int)<IntKind.i64.wrap (IntKind.i64.wrap (g - 1) - i) then (↑f.len:Int) else IntKind.i64.wrap (IntKind.i64.wrap (g - 1) - i) else 0).toNat) y.cap]).run prog bf=.ok (.slice z.a z.len z.cap) ah)/\
 (o ah)/\
 Calls prog 14 #[.pointer be,.int .i64 (if IntKind.i64.wrap (ag + 1)>af then IntKind.i64.wrap (ag + 1) else af),.int .i64 100000] ah λ bx b2=>
 ∃ A:Sl,(bx=.returned (.slice A.a A.len A.cap))/\
 ∃ bg:World,∃ C:Sl,((Builtin.append_ #[46,46] 46 #[.slice z.a z.len z.cap,.slice A.a A.len A.cap]).run prog b2=.ok (.slice C.a C.len C.cap) bg)/\
 ∃ bh:World,((Instr.storeAt 46 (.pointer ((some ⟨(e.add (Zaf c.toNat 8)).block,(e.add (Zaf c.toNat 8)).off + 7,none⟩))) (.slice C.a C.len C.cap)).run prog bg=.ok () bh)/\
 ae  bh) b1))
 (ae  Z))/\
 ∀ (ca:Env)  (bi:World),ae  bi->
 Drw bi λ b6 ai=>
 Zb m λ ar=>
 ∃ D:Sl,(At (λ b=>b=ai) ⟨ar.block,ar.off + 2,none⟩ [.slice D.a D.len D.cap])/\
 ∃ E:Sl,(At (λ b=>b=ai) ⟨k,0 + 10,none⟩ [.slice E.a E.len E.cap])/\
 ∃ bj:World,∃ F:Sl,((Builtin.append_ #[41,41] 41 #[.slice D.a D.len D.cap,.slice E.a E.len E.cap]).run prog ai=.ok (.slice F.a F.len F.cap) bj)/\
 Zb m λ au=>
 ∃ bk:World,((Instr.storeAt 41 (.pointer ((some ⟨au.block,au.off + 2,none⟩))) (.slice F.a F.len F.cap)).run prog bj=.ok () bk)/\
 ∃ (ab:Int->World->Prop) (bo:Int->World->Nat),(ab 0 bk)/\∀ (cb:Env) (l:Int) (U:World),ab l U->
 ∃ X:Sl,(At (λ b=>b=U) ⟨k,0 + 11,none⟩ [.slice X.a X.len X.cap])/\
 Br (decide (l<(↑X.len:Int)))
 (∃ (I:Int->World->Prop) (H:Int->World->Nat),(I 0 U)/\∀ (cc:Env) (d:Int) (n:World),I d n->
 Zb m λ ak=>
 ∃ Y:Sl,(At (λ b=>b=n) ⟨ak.block,ak.off + 6,none⟩ [.slice Y.a Y.len Y.cap])/\
 Br (decide (d<(↑Y.len:Int)))
 (Drw n λ b7 j=>
 Zb m λ al=>
 ∃ J:Sl,(At (λ b=>b=j) ⟨al.block,al.off + 6,none⟩ [.slice J.a J.len J.cap])/\
 Rng d J.len (Zb J.a λ bq=>
 ∃ av:Int,(At (λ b=>b=j) (Addr.add (Addr.add bq (Zaf d.toNat 2)) 0) [.int .i64 av])/\
 ∃ M:Sl,(At (λ b=>b=j) ⟨k,0 + 11,none⟩ [.slice M.a M.len M.cap])/\
 Rng l M.len (Zb M.a λ br=>
 ∃ aw:Int,(At (λ b=>b=j) (Addr.add (Addr.add br (Zaf l.toNat 2)) 0) [.int .i64 aw])/\
 Br (av==aw)
 (∃ N:Sl,(At (λ b=>b=j) ⟨k,0 + 11,none⟩ [.slice N.a N.len N.cap])/\
 Rng l N.len (Zb N.a λ am=>
 ∃ ax:Int,(At (λ b=>b=j) ⟨(am.add (Zaf l.toNat 2)).block,(am.add (Zaf l.toNat 2)).off + 1,none⟩ [.int .i64 ax])/\
 Zb m λ an=>
 ∃ O:Sl,(At (λ b=>b=j) ⟨an.block,an.off + 6,none⟩ [.slice O.a O.len O.cap])/\
 Rng d O.len (Zb O.a λ ao=>
 ∃ ay:Int,(At (λ b=>b=j) ⟨(ao.add (Zaf d.toNat 2)).block,(ao.add (Zaf d.toNat 2)).off + 1,none⟩ [.int .i64 ay])/\
 Br (decide (ax<ay))
 (Zb m λ ap=>
 ∃ aj:World,((Instr.storeAt 4 (.pointer ((some ⟨ap.block,ap.off + 8,none⟩))) (.bool false)).run prog j=.ok () aj)/\
 (I (IntKind.i64.wrap (d + 1)) aj)/\H (IntKind.i64.wrap (d + 1)) aj<H d n)
 ((I (IntKind.i64.wrap (d + 1)) j)/\H (IntKind.i64.wrap (d + 1)) j<H d n))))
 ((I (IntKind.i64.wrap (d + 1)) j)/\H (IntKind.i64.wrap (d + 1)) j<H d n))))
 ((ab (IntKind.i64.wrap (l + 1)) n)/\bo (IntKind.i64.wrap (l + 1)) n<bo l U))
 (Calls prog 79 #[.pointer m,.int .i64 c] U λ bz b4=>
 (bz=.returned (.tuple #[]))/\
 K (.tuple #[]) b4))) b0)
def sk30:Sk:=(.seq .leaf (.seq .leaf (.cut [] [] [23,24,25,26,27,28,29] .leaf (.cut [] [] [30,31,32,33,34,35,36,37,38,39] .leaf (.cut [] [] [6,40,41,42,43,44,45,46,47,48,49,50,51,52,53,54,55,56,57,58,59,60,61,62,63,64,65,66,67,68,69,70,71,72,73,74,75,76,77,78,79,80,81,82,83,84,85,86,87] (.seq .leaf (.cond (.seq (.cond .leaf .leaf) (.cond .leaf .leaf)) .leaf)) (.seq (.cond .leaf .leaf) (.seq (.seq .leaf (.block (.loop [7] [(.int .i64)] [7,8,98,99,100,101,102,103,104,105,106,107,108,109,110,111,112,113,114,115,116,117,118,119,120,121,122,123,124,125,126,127,128,129,130,131,132,133,134,135,136,137,138,139,140,141,142,143,144,145,146,147,148] (.seq .leaf (.seq (.block (.seq .leaf (.block (.loop [8] [(.int .i64)] [8,105,106,107,108,109,110,111,112,113,114,115,116,117,118,119,120,121,122,123,124,125,126,127,128,129,130,131,132,133,134,135,136,137,138,139,140,141,142,143,144,145,146,147,148] (.seq .leaf (.seq (.block (.seq (.cond .leaf .leaf) .leaf)) .leaf)))))) .leaf))))) .leaf)))))))
theorem Zqc (b:Option Addr) (a:Int) (K:Value->World->Prop) (w:World) (h:B30 b a K w):Zj prog 30 #[.pointer b,.int .i64 a] w K:=cq (sk:=sk30) func30 (by kernel_rfl) (by kernel_rfl) (by kernel_rfl) h
def B28 (c:Option Addr) (eq:Int) (er:Int) (es:Int) (et:Int) (K:Value->World->Prop) (w:World):Prop:=
 New (.cells #[.int .i64 eq,.int .i64 er,.int .i64 es,.int .i64 et] 91 (0,0)) (λ g d0=>
 Drw d0 λ eu I=>
 ∃ L:Int,(At (λ b=>b=I) ⟨g,0 + 1,none⟩ [.int .i64 L])/\
 Zb c λ cs=>
 ∃ j:Sl,(At (λ b=>b=I) (Addr.add cs 0) [.slice j.a j.len j.cap])/\
 Nz ((↑j.len:Int)) (∃ (V:Int->World->Prop),(Br (decide (L.tmod (↑j.len:Int)<0))
 (Zb c λ ct=>
 ∃ M:Sl,(At (λ b=>b=I) (Addr.add ct 0) [.slice M.a M.len M.cap])/\
 V (IntKind.i64.wrap (L.tmod (↑j.len:Int) + (↑M.len:Int))) I)
 (V (L.tmod (↑j.len:Int)) I))/\
 ∀ (ey:Env) (d:Int) (e:World),V d e->
 Zb c λ cu=>
 ∃ F:Sl,(At (λ b=>b=e) (Addr.add cu 0) [.slice F.a F.len F.cap])/\
 Rng d F.len (Zb F.a λ cv=>
 ∃ f:Option Addr,(At (λ b=>b=e) (Addr.add cv d.toNat) [.pointer f])/\
 ∃ i:Int,(At (λ b=>b=e) ⟨g,0,none⟩ [.int .i64 i])/\
 Br (i==0)
 (∃ bg:Int,(At (λ b=>b=e) ⟨g,0 + 2,none⟩ [.int .i64 bg])/\
 Calls prog 10 #[.pointer f,.int .i64 bg] e λ c3 eh=>
 (c3=.returned (.tuple #[]))/\
 Calls prog 30 #[.pointer c,.int .i64 d] eh λ c4 en=>
 (c4=.returned (.tuple #[]))/\
 K (.tuple #[]) en)
 (Br (i==1)
 (∃ (ae:World->Prop),(Drw e λ ev A=>
 ∃ bh:Int,(At (λ b=>b=A) ⟨g,0 + 2,none⟩ [.int .i64 bh])/\
 Br (decide (bh<0))
 (K (.tuple #[]) A)
 (∃ bi:Int,(At (λ b=>b=A) ⟨g,0 + 2,none⟩ [.int .i64 bi])/\
 Zb c λ ax=>
 ∃ N:Sl,(At (λ b=>b=A) ⟨ax.block,ax.off + 2,none⟩ [.slice N.a N.len N.cap])/\
 Br (decide (bi >= (↑N.len:Int)))
 (K (.tuple #[]) A)
 (ae  A)))/\
 ∀ (ez:Env)  (cq:World),ae  cq->
 Drw cq λ J ep=>
 Zb c λ ay=>
 ∃ G:Sl,(At J ⟨ay.block,ay.off + 2,none⟩ [.slice G.a G.len G.cap])/\
 ∃ ab:Int,(At J ⟨g,0 + 2,none⟩ [.int .i64 ab])/\
 Rng ab G.len (Zb G.a λ cw=>
 ∃ bj:Int,∃ bk:Int,∃ bn:Int,∃ bo:Int,∃ bp:Int,∃ bq:Int,∃ br:Bool,∃ bs:Int,∃ bt:Int,∃ bu:Int,∃ q:Sl,∃ bl:Int,∃ bm:Int,∃ r:Sl,∃ s:Sl,∃ t:Sl,(At J (Addr.add cw (Zaf ab.toNat 16)) [.int .i64 bj,.int .i64 bk,.int .i64 bn,.int .i64 bo,.int .i64 bp,.int .i64 bq,.bool br,.int .i64 bs,.int .i64 bt,.int .i64 bu,.slice q.a q.len q.cap,.int .i64 bl,.int .i64 bm,.slice r.a r.len r.cap,.slice s.a s.len s.cap,.slice t.a t.len t.cap])/\
 New (.cells #[.int .i64 0,.int .i64 0,.int .i64 0,.int .i64 0,.int .i64 0,.int .i64 0,.bool false,.int .i64 0,.int .i64 0,.int .i64 0,.slice none 0 0,.int .i64 0,.int .i64 0,.slice none 0 0,.slice none 0 0,.slice none 0 0] 71 (0,0)) (λ C cr=>
 (J cr)/\
 ∃ cc:World,((Instr.storeAt 71 (.pointer ((some ⟨C,0,none⟩))) (.agg #[.int .i64 bj,.int .i64 bk,.int .i64 bn,.int .i64 bo,.int .i64 bp,.int .i64 bq,.bool br,.int .i64 bs,.int .i64 bt,.int .i64 bu,.slice q.a q.len q.cap,.int .i64 bl,.int .i64 bm,.slice r.a r.len r.cap,.slice s.a s.len s.cap,.slice t.a t.len t.cap])).run prog cr=.ok () cc)/\
 ∃ (af:World->Prop),(Drw cc λ ew z=>
 ∃ bv:Int,(At (λ b=>b=z) ⟨C,0 + 2,none⟩ [.int .i64 bv])/\
 Br (decide (bv<1))
 (K (.tuple #[]) z)
 (∃ bw:Int,(At (λ b=>b=z) ⟨C,0 + 2,none⟩ [.int .i64 bw])/\
 Zb c λ cx=>
 ∃ O:Sl,(At (λ b=>b=z) (Addr.add cx 0) [.slice O.a O.len O.cap])/\
 Br (decide (bw>(↑O.len:Int)))
 (K (.tuple #[]) z)
 (af  z)))/\
 ∀ (e0:Env)  (ac:World),af  ac->
 ∃ Q:Int,(At (λ b=>b=ac) ⟨C,0 + 2,none⟩ [.int .i64 Q])/\
 Drw ac λ ex T=>
 Zb c λ cy=>
 ∃ H:Sl,(At (λ b=>b=T) (Addr.add cy 0) [.slice H.a H.len H.cap])/\
 Rng (IntKind.i64.wrap (Q - 1)) H.len (Zb H.a λ cz=>
 ∃ bx:Option Addr,(At (λ b=>b=T) (Addr.add cz ((IntKind.i64.wrap (Q - 1)).toNat)) [.pointer bx])/\
 ∃ bz:Int,∃ b0:Int,∃ b3:Int,∃ b4:Int,∃ b5:Int,∃ b6:Int,∃ b7:Bool,∃ b8:Int,∃ b9:Int,∃ ca:Int,∃ u:Sl,∃ b1:Int,∃ b2:Int,∃ v:Sl,∃ x:Sl,∃ y:Sl,(At (λ b=>b=T) ⟨C,0,none⟩ [.int .i64 bz,.int .i64 b0,.int .i64 b3,.int .i64 b4,.int .i64 b5,.int .i64 b6,.bool b7,.int .i64 b8,.int .i64 b9,.int .i64 ca,.slice u.a u.len u.cap,.int .i64 b1,.int .i64 b2,.slice v.a v.len v.cap,.slice x.a x.len x.cap,.slice y.a y.len y.cap])/\
 Calls prog 65 #[.pointer bx,.agg #[.int .i64 bz,.int .i64 b0,.int .i64 b3,.int .i64 b4,.int .i64 b5,.int .i64 b6,.bool b7,.int .i64 b8,.int .i64 b9,.int .i64 ca,.slice u.a u.len u.cap,.int .i64 b1,.int .i64 b2,.slice v.a v.len v.cap,.slice x.a x.len x.cap,.slice y.a y.len y.cap]] T λ df d1=>
 (df=.returned (.tuple #[]))/\
 Calls prog 30 #[.pointer c,.int .i64 (IntKind.i64.wrap (Q - 1))] d1 λ dm d2=>
 (dm=.returned (.tuple #[]))/\
 K (.tuple #[]) d2)) ep))
 (Br (i==2)
 (Calls prog 77 #[.pointer c,.int .i64 d] e λ dn ad=>
 ∃ cb:Bool,(dn=.returned (.bool cb))/\
 Zb c λ az=>
 ∃ a0:Bool,(At (λ b=>b=ad) ⟨az.block,az.off + 8,none⟩ [.bool a0])/\
 Br a0
 (Zb c λ ai=>
 ∃ cd:World,((Instr.storeAt 4 (.pointer ((some ⟨ai.block,ai.off + 8,none⟩))) (.bool cb)).run prog ad=.ok () cd)/\
 Calls prog 30 #[.pointer c,.int .i64 d] cd λ dp d3=>
 (dp=.returned (.tuple #[]))/\
 K (.tuple #[]) d3)
 (Zb c λ aj=>
 ∃ ce:World,((Instr.storeAt 4 (.pointer ((some ⟨aj.block,aj.off + 8,none⟩))) (.bool false)).run prog ad=.ok () ce)/\
 Calls prog 30 #[.pointer c,.int .i64 d] ce λ dq d4=>
 (dq=.returned (.tuple #[]))/\
 K (.tuple #[]) d4))
 (Br (i==3)
 (∃ a1:Int,(At (λ b=>b=e) ⟨g,0 + 2,none⟩ [.int .i64 a1])/\
 New (.cells #[.int .u8 (IntKind.u8.wrap a1)] 5 (0,0)) (λ c0 d5=>
 Calls prog 11 #[.pointer f,.slice ((some ⟨c0,0,none⟩)) 1 1] d5 λ dr d6=>
 ∃ du:Int,∃ dv:Int,(dr=.returned (.tuple #[.int .i64 du,.int .i64 dv]))/\
 Calls prog 30 #[.pointer c,.int .i64 d] d6 λ ds d7=>
 (ds=.returned (.tuple #[]))/\
 K (.tuple #[]) d7) e)
 (Br (i==4)
 (∃ a2:Int,(At (λ b=>b=e) ⟨g,0 + 3,none⟩ [.int .i64 a2])/\
 ∃ a3:Int,(At (λ b=>b=e) ⟨g,0 + 2,none⟩ [.int .i64 a3])/\
 Calls prog 19 #[.pointer f,.int .i64 a2,.int .i64 a3] e λ dt d8=>
 ∃ dw:Int,∃ dx:Int,(dt=.returned (.tuple #[.int .i64 dw,.int .i64 dx]))/\
 Calls prog 30 #[.pointer c,.int .i64 d] d8 λ c5 d9=>
 (c5=.returned (.tuple #[]))/\
 K (.tuple #[]) d9)
 (Br (i==5)
 (Zb c λ ak=>
 ∃ a4:Int,(At (λ b=>b=e) ⟨ak.block,ak.off + 7,none⟩ [.int .i64 a4])/\
 Zb c λ al=>
 ∃ U:World,((Instr.storeAt 3 (.pointer ((some ⟨al.block,al.off + 7,none⟩))) (.int .i64 (IntKind.i64.wrap (a4 + 1)))).run prog e=.ok () U)/\
 Zb c λ am=>
 ∃ a5:Int,(At (λ b=>b=U) ⟨am.block,am.off + 4,none⟩ [.int .i64 a5])/\
 Zb c λ an=>
 ∃ a6:Int,(At (λ b=>b=U) ⟨an.block,an.off + 7,none⟩ [.int .i64 a6])/\
 Calls prog 12 #[.pointer f,.int .i64 a6] U λ c6 cf=>
 ∃ a7:Int,(c6=.returned (.int .i64 a7))/\
 Br (a7==0)
 (Drw cf λ ag cg=>
 Zb c λ ao=>
 ∃ k:Sl,(At ag ⟨ao.block,ao.off + 6,none⟩ [.slice k.a k.len k.cap])/\
 Zb c λ ap=>
 ∃ a8:Int,(At (λ b=>b=cg) ⟨ap.block,ap.off + 7,none⟩ [.int .i64 a8])/\
 New (.cells #[.int .i64 a8,.int .i64 a5] 144 (0,0)) (λ c1 ch=>
 (ag ch)/\
 ∃ ci:World,∃ l:Sl,((Builtin.append_ #[86,86] 86 #[.slice k.a k.len k.cap,.slice ((some ⟨c1,0,none⟩)) 1 1]).run prog ch=.ok (.slice l.a l.len l.cap) ci)/\
 Zb c λ aq=>
 ∃ cj:World,((Instr.storeAt 86 (.pointer ((some ⟨aq.block,aq.off + 6,none⟩))) (.slice l.a l.len l.cap)).run prog ci=.ok () cj)/\
 Calls prog 30 #[.pointer c,.int .i64 d] cj λ c7 ea=>
 (c7=.returned (.tuple #[]))/\
 K (.tuple #[]) ea) cg)
 (Calls prog 30 #[.pointer c,.int .i64 d] cf λ c8 eb=>
 (c8=.returned (.tuple #[]))/\
 K (.tuple #[]) eb))
 (Br (i==6)
 (Calls prog 15 #[.pointer f] e λ c9 ec=>
 ∃ a9:Int,(c9=.returned (.int .i64 a9))/\
 Calls prog 70 #[.pointer f,.int .i64 a9] ec λ da ed=>
 ∃ dy:Int,(da=.returned (.int .i64 dy))/\
 Calls prog 78 #[.pointer f] ed λ db ee=>
 ∃ ba:Int,(db=.returned (.int .i64 ba))/\
 Calls prog 78 #[.pointer f] ee λ dc ef=>
 ∃ bb:Int,(dc=.returned (.int .i64 bb))/\
 New (.cells #[.int .u8 (IntKind.u8.wrap bb)] 5 (0,0)) (λ c2 eg=>
 Calls prog 72 #[.pointer f,.int .i64 ba,.slice ((some ⟨c2,0,none⟩)) 1 1] eg λ dd ck=>
 ∃ bc:Int,(dd=.returned (.int .i64 bc))/\
 Br (bc==0)
 (Calls prog 30 #[.pointer c,.int .i64 d] ck λ de ei=>
 (de=.returned (.tuple #[]))/\
 Drw ei λ ah ej=>
 Zb c λ ar=>
 ∃ D:Sl,(At ah ⟨ar.block,ar.off + 1,none⟩ [.slice D.a D.len D.cap])/\
 Calls prog 22 #[.pointer f] ej λ dg cl=>
 ∃ bd:Int,∃ be:Int,∃ m:Sl,∃ n:Sl,∃ o:Sl,(dg=.returned (.agg #[.int .i64 bd,.int .i64 be,.slice m.a m.len m.cap,.slice n.a n.len n.cap,.slice o.a o.len o.cap]))/\
 (ah cl)/\
 Rng d D.len (Zb D.a λ au=>
 ∃ cm:World,((Instr.storeAt 35 (.pointer ((some ⟨(au.add (Zaf d.toNat 8)).block,(au.add (Zaf d.toNat 8)).off + 2,none⟩))) (.agg #[.int .i64 bd,.int .i64 be,.slice m.a m.len m.cap,.slice n.a n.len n.cap,.slice o.a o.len o.cap])).run prog cl=.ok () cm)/\
 Drw cm λ X ek=>
 Zb c λ av=>
 ∃ E:Sl,(At X ⟨av.block,av.off + 1,none⟩ [.slice E.a E.len E.cap])/\
 Calls prog 22 #[.pointer f] ek λ dh cn=>
 ∃ bf:Int,∃ dz:Int,∃ Y:Sl,∃ Z:Sl,∃ aa:Sl,(dh=.returned (.agg #[.int .i64 bf,.int .i64 dz,.slice Y.a Y.len Y.cap,.slice Z.a Z.len Z.cap,.slice aa.a aa.len aa.cap]))/\
 (X cn)/\
 Calls prog 14 #[.pointer f,.int .i64 (IntKind.i64.wrap (bf + 1)),.int .i64 100000] cn λ di co=>
 ∃ p:Sl,(di=.returned (.slice p.a p.len p.cap))/\
 (X co)/\
 Rng d E.len (Zb E.a λ aw=>
 ∃ cp:World,((Instr.storeAt 46 (.pointer ((some ⟨(aw.add (Zaf d.toNat 8)).block,(aw.add (Zaf d.toNat 8)).off + 7,none⟩))) (.slice p.a p.len p.cap)).run prog co=.ok () cp)/\
 Calls prog 30 #[.pointer c,.int .i64 d] cp λ dj el=>
 (dj=.returned (.tuple #[]))/\
 K (.tuple #[]) el)))
 (Calls prog 30 #[.pointer c,.int .i64 d] ck λ dk em=>
 (dk=.returned (.tuple #[]))/\
 K (.tuple #[]) em)) ef)
 (Calls prog 30 #[.pointer c,.int .i64 d] e λ dl eo=>
 (dl=.returned (.tuple #[]))/\
 K (.tuple #[]) eo)))))))))) w
def sk28:Sk:=(.seq .leaf (.seq (.cond .leaf .leaf) (.cut [4] [(.int .i64)] [4,19,20,21,22,23,24,25,26,27] .leaf (.seq .leaf (.seq (.seq .leaf (.block (.seq .leaf (.cond .leaf (.seq .leaf (.cond (.cut [] [] [45,46,47,48,49,50,51,52,53,54,55,56,57] (.seq (.cond .leaf .leaf) .leaf) (.seq (.cond .leaf .leaf) (.cut [] [] [66,67,68,69,70,71,72,73,74,75,76,77,78] (.seq (.cond .leaf .leaf) .leaf) (.seq .leaf (.cond .leaf .leaf))))) (.seq .leaf (.cond .leaf (.seq .leaf (.cond .leaf (.seq .leaf (.cond .leaf (.seq .leaf (.cond (.seq .leaf (.seq .leaf (.seq .leaf (.seq .leaf (.cond (.cond .leaf .leaf) .leaf))))) (.seq .leaf (.cond (.seq .leaf (.seq .leaf (.seq .leaf (.cond (.seq .leaf (.seq (.cond .leaf .leaf) (.cond .leaf .leaf))) .leaf)))) .leaf)))))))))))))))) .leaf)))))
theorem Zqe (a:Option Addr) (b:Int) (c:Int) (d:Int) (e:Int) (K:Value->World->Prop) (w:World) (h:B28 a b c d e K w):Zj prog 28 #[.pointer a,.agg #[.int .i64 b,.int .i64 c,.int .i64 d,.int .i64 e]] w K:=cq (sk:=sk28) func28 (by kernel_rfl) (by kernel_rfl) (by kernel_rfl) h
def B27 (T:Int) (U:Int) (K:Value->World->Prop) (w:World):Prop:=
 New (.map #[] 0) (λ J V=>
 New (.map #[] 0) (λ L Y=>
 New (.cells #[.slice none 0 0,.slice none 0 0,.slice none 0 0,.map ((some J)),.int .i64 0,.map ((some L)),.slice none 0 0,.int .i64 0,.bool true] 88 (0,0)) (λ b Z=>
 New (.cells #[.slice none 0 0,.slice none 0 0] 32 (0,0)) (λ p aa=>
 ∃ F:World,((Instr.storeAt 32 (.pointer ((some ⟨p,0,none⟩))) (.agg #[.slice none 0 0,.slice none 0 0])).run prog aa=.ok () F)/\
 ∃ (r:Int->World->Prop) (H:Int->World->Nat),(r 1 F)/\∀ (ac:Env) (c:Int) (o:World),r c o->
 Br (decide (c<=U))
 (∃ e:Sl,(At (λ n=>n=o) ⟨p,0,none⟩ [.slice e.a e.len e.cap])/\
 New (.cells #[.int .i64 c] 3 (0,0)) (λ M ab=>
 ∃ G:World,∃ f:Sl,((Builtin.append_ #[30,30] 30 #[.slice e.a e.len e.cap,.slice ((some ⟨M,0,none⟩)) 1 1]).run prog ab=.ok (.slice f.a f.len f.cap) G)/\
 ∃ v:World,((Instr.storeAt 30 (.pointer ((some ⟨p,0,none⟩))) (.slice f.a f.len f.cap)).run prog G=.ok () v)/\
 (r (IntKind.i64.wrap (c + 1)) v)/\H (IntKind.i64.wrap (c + 1)) v<H c o) o)
 (∃ (s:Int->World->Prop) (I:Int->World->Nat),(s 1 o)/\∀ (ad:Env) (d:Int) (q:World),s d q->
 Br (decide (d<=T))
 (Drw q λ x z=>
 ∃ g:Sl,(At x ⟨b,0 + 1,none⟩ [.slice g.a g.len g.cap])/\
 ∃ i:Sl,∃ j:Sl,(At (λ n=>n=z) ⟨p,0,none⟩ [.slice i.a i.len i.cap,.slice j.a j.len j.cap])/\
 New (.cells #[.int .i64 0,.int .i64 0,.int .i64 0,.int .i64 0,.slice i.a i.len i.cap,.slice j.a j.len j.cap,.slice none 0 0,.slice none 0 0] 141 (0,0)) (λ N A=>
 (x A)/\
 ∃ C:World,∃ k:Sl,((Builtin.append_ #[83,83] 83 #[.slice g.a g.len g.cap,.slice ((some ⟨N,0,none⟩)) 1 1]).run prog A=.ok (.slice k.a k.len k.cap) C)/\
 ∃ t:World,((Instr.storeAt 83 (.pointer ((some ⟨b,0 + 1,none⟩))) (.slice k.a k.len k.cap)).run prog C=.ok () t)/\
 ∃ l:Sl,(At (λ n=>n=t) ⟨b,0,none⟩ [.slice l.a l.len l.cap])/\
 New (.cells #[.pointer none] 24 (0,0)) (λ O X=>
 ∃ D:World,∃ m:Sl,((Builtin.append_ #[82,82] 82 #[.slice l.a l.len l.cap,.slice ((some ⟨O,0,none⟩)) 1 1]).run prog X=.ok (.slice m.a m.len m.cap) D)/\
 ∃ E:World,((Instr.storeAt 82 (.pointer ((some ⟨b,0,none⟩))) (.slice m.a m.len m.cap)).run prog D=.ok () E)/\
 Calls prog 77 #[.pointer ((some ⟨b,0,none⟩)),.int .i64 (IntKind.i64.wrap (d - 1))] E λ Q u=>
 ∃ y:Bool,(Q=.returned (.bool y))/\
 Br (!y)
 (K (.pointer none) u)
 ((s (IntKind.i64.wrap (d + 1)) u)/\I (IntKind.i64.wrap (d + 1)) u<I d q)) t) z)
 (K (.pointer ((some ⟨b,0,none⟩))) q))) Z) Y) V) w
def sk27:Sk:=(.seq .leaf (.seq .leaf (.seq .leaf (.seq (.seq .leaf (.block (.loop [7] [(.int .i64)] [7,15,16,17,18,19,20,21,22,23,24,25] .leaf))) (.seq (.seq .leaf (.block (.loop [8] [(.int .i64)] [4,8,9,26,27,28,29,30,31,32,33,34,35,36,37,38,39,40,41,42,43,44,45,46,47,48,49,50,51,52,53,54,55,56,57] (.seq .leaf (.seq (.block (.seq (.cond .leaf .leaf) .leaf)) .leaf))))) .leaf)))))
theorem Zqf (a:Int) (b:Int) (K:Value->World->Prop) (w:World) (h:B27 a b K w):Zj prog 27 #[.int .i64 a,.int .i64 b] w K:=cq (sk:=sk27) func27 (by kernel_rfl) (by kernel_rfl) (by kernel_rfl) h
end
section
open Go Go.VC Tryz
open Go.Rf (Ey Lg ZD)
variable {R R' R1 R2:Cx} {Hs Rest Rest2:List HP} {w:World} {p:Nat} {n m:Rn}
theorem Zjv {a b:Sl} {xs ys:List DE4} (ha:RoN 4 R a (xs.map ZaC)) (hb:RoN 4 R b (ys.map ZaC)) (hx:DsR R xs) (hy:DsR R ys) (hbx:∀ e∈erE xs,Zx e.dt) (hby:∀ e∈erE ys,Zx e.dt) (hl:xs.length<=1000000)
  (hm:∀ e∈xs,e.2.dt.length<=9223372036854775807) (hm2:∀ e∈ys,e.2.dt.length<=9223372036854775807) (hw:Sat R Hs w):
  Zj prog 24 #[.slice a.a a.len a.cap,.slice b.a b.len b.cap] w λ v w'=>∃ t:Bool,v=.bool t/\(t=true↔erE xs=erE ys)/\Sat R Hs w':=by
 have h1:a.len=xs.length:=by have:=ha.len;simpa using this
 have h2:b.len=ys.length:=by have:=hb.len;simpa using this
 have hxl:(erE xs).length=xs.length:=by simp
 have hyl:(erE ys).length=ys.length:=by simp
 apply Zqg;have no:∀ {w:World},¬ erE xs=erE ys->Sat R Hs w->∃ t:Bool,Value.bool false=.bool t/\(t=true↔erE xs=erE ys)/\Sat R Hs w:=λ h hw=>⟨false,rfl,⟨λ h=>(by cases h),λ h2=>absurd h2 h⟩,hw⟩;refine Br.ne (λ h=>no (λ he=>h (by have:=congrArg List.length he;rw [hxl,hyl] at this;omega)) hw) (λ h=>?_);have h3:xs.length=ys.length:=by omega
 refine ⟨λ i w=>∃ k:Nat,i=k/\k<=xs.length/\(erE xs).take k=(erE ys).take k/\Sat R Hs w,λ i _=>xs.length - i.toNat,⟨0,rfl,Nat.zero_le _,by simp,hw⟩,?_⟩;clear hw;rintro _ _ w ⟨k,rfl,hk,htk,hw⟩;have hend:¬ (k:Int)<(a.len:Int)->erE xs=erE ys:=λ h=>by
  have:k=xs.length:=by omega
  rw [List.take_of_length_le (by omega),List.take_of_length_le (by omega)] at htk;exact htk
 refine Br.d (λ h=>?_) (λ h=>⟨true,rfl,⟨λ _=>hend h,λ _=>rfl⟩,hw⟩);have hkx:k<xs.length:=by omega
 have hky:k<ys.length:=by omega
 have gx:(erE xs)[k]'(by omega)=xs[k].2:=by simp
 have gy:(erE ys)[k]'(by omega)=ys[k].2:=by simp
 have diff:¬ xs[k].2=ys[k].2->¬ erE xs=erE ys:=λ hne he=>hne (by
  have h5:(erE xs)[k]? =(erE ys)[k]?:=by rw [he]
  rw [List.getElem?_eq_getElem (by omega),List.getElem?_eq_getElem (by omega),gx,gy] at h5;exact Option.some.inj h5)
 refine Zm hw λ w hw=>?_;have r1:ReadsN 4 a (xs.map ZaC) (Sat R Hs):=ha.reads λ w h=>h;have r2:ReadsN 4 b (ys.map ZaC) (Sat R Hs):=hb.reads λ w h=>h;refine r1.rngM hkx λ _ _ el=>⟨xs[k].2.ix,el.zz (by exact ⟨rfl,trivial⟩),?_⟩;refine r2.rngM hky λ _ _ fl=>⟨ys[k].2.ix,fl.zz (by exact ⟨rfl,trivial⟩),?_⟩;refine Br.ne (λ h=>no (diff λ e=>h (by rw [e])) hw) (λ c1=>?_);refine r1.rngM hkx λ _ _ el=>⟨xs[k].2.tm,el.f 1 (by exact ⟨rfl,trivial⟩),?_⟩;refine r2.rngM hky λ _ _ fl=>⟨ys[k].2.tm,fl.f 1 (by exact ⟨rfl,trivial⟩),?_⟩;refine Br.ne (λ h=>no (diff λ e=>h (by rw [e])) hw) (λ c2=>?_);refine r1.rngM hkx λ _ _ el=>⟨xs[k].2.kd,el.f 2 (by exact ⟨rfl,trivial⟩),?_⟩;refine r2.rngM hky λ _ _ fl=>⟨ys[k].2.kd,fl.f 2 (by exact ⟨rfl,trivial⟩),?_⟩;refine Br.ne (λ h=>no (diff λ e=>h (by rw [e])) hw) (λ c3=>?_);have hd1:=hm _ (List.getElem_mem hkx);have hd2:=hm2 _ (List.getElem_mem hky);refine r1.rngM hkx λ _ _ el=>⟨xs[k].1,el.f 3 (by exact ⟨rfl,trivial⟩),VC.strOf xs[k].2.dt,λ w' h'=>Zec underlying33 underlying5 underlying9 h' ((hx _ (List.getElem_mem hkx)).ro (by simpa using hd1)),?_⟩;refine r2.rngM hky λ _ _ fl=>⟨ys[k].1,fl.f 3 (by exact ⟨rfl,trivial⟩),VC.strOf ys[k].2.dt,λ w' h'=>Zec underlying33 underlying5 underlying9 h' ((hy _ (List.getElem_mem hky)).ro (by simpa using hd2)),?_⟩;refine Br.sne (λ h=>no (diff λ e=>h (by rw [e])) hw) (λ c4=>?_);have c5:xs[k].2.dt=ys[k].2.dt:=Zjr (hbx _ (List.mem_map_of_mem (List.getElem_mem hkx))) (hby _ (List.mem_map_of_mem (List.getElem_mem hky))) c4;have c6:xs[k].2=ys[k].2:=by
  rcases hxk:xs[k].2 with ⟨a1,a2,a3,a4⟩;rcases hyk:ys[k].2 with ⟨b1,b2,b3,b4⟩;rw [hxk,hyk] at c1 c2 c3 c5;simp only at c1 c2 c3 c5;rw [c1,c2,c3,c5]
 rw [Zh (by omega) (by omega)];refine ⟨⟨k + 1,by omega,by omega,?_,hw⟩,by dsimp only;omega⟩;have e1:(erE xs).take (k + 1)=(erE xs).take k++[(erE xs)[k]'(by omega)]:=(List.take_append_getElem (by omega)).symm;have e2:(erE ys).take (k + 1)=(erE ys).take k++[(erE ys)[k]'(by omega)]:=(List.take_append_getElem (by omega)).symm;rw [e1,e2,htk,gx,gy,c6]
end
section
open Go Go.VC Tryz
open Go.Rf (Ey Lg ZD)
structure Dk where
 hd:Hd
 sn:Sn
 log:List Ey
structure Wd where
 ns:List Rn
 dk:List Dk
 sent:List Mg
 ent:List (Int × Ey)
 most:Int
 lds:List (Int × Int)
 ask:List (Int × Int)
 tok:Int
 good:Bool
def eqE (a b:Ey):Bool:=a.ix==b.ix && a.tm==b.tm && a.kd==b.kd && decide (a.dt=b.dt)
def Zd5 (s:List (Int × Ey) × Bool) (x:Ey):List (Int × Ey) × Bool:=
 (ZcG x.ix x s.1,s.2 && (match ZB x.ix s.1 with|some y=>eqE y x|none=>true))
def Zfc (n:Rn):List Ey:=n.log.get (n.sn.ix + 1) (n.log.com - n.sn.ix)
def Wd.look (W:Wd) (k:Nat) (n:Rn):Wd:=
 let r:=(Zfc n).foldl Zd5 (W.ent,W.good)
 let W1:={ W with ent:=r.1,good:=r.2,most:=max W.most n.log.com }
 if n.e.role==3 then { W1 with good:=r.2 && (match ZB n.e.hd.tm W.lds with|some x=>x==k|none=>true),lds:=ZcG n.e.hd.tm (k:Int) W.lds } else W1
def Dk.keep (d:Dk) (fr:Int):Nat:=(max 0 (min (fr - 1 - d.sn.ix) d.log.length)).toNat
def Dk.hard (d:Dk) (r:Rdy):Dk:=if r.hn then { d with hd:=r.hd } else d
def Dk.snap (d:Dk) (r:Rdy):Dk:=if r.sn' then { d with sn:=r.sn,log:=[] } else d
def Dk.ents (d:Dk) (r:Rdy) (n:Rn):Dk:=if r.fr>0 then { d with log:=d.log.take (d.keep r.fr)++n.log.get (max r.fr (d.sn.ix + 1)) 100000 } else d
def Dk.write (d:Dk) (r:Rdy) (n:Rn):Dk:=((d.hard r).snap r).ents r n
def Zb5 (ask rd:List (Int × Int)):Bool:=rd.any λ x=>ask.any λ a=>a.1==x.1 && decide (x.2<a.2)
def Wd.write (W:Wd) (k:Nat):Wd:=
 match W.ns[k]?,W.dk[k]? with
 |some n,some d=>
  let r:=n.out.1
  let n1:=n.out.2
  Wd.look { W with ns:=W.ns.set k n1,dk:=W.dk.set k (d.write r n1),sent:=W.sent++r.ms,good:=W.good && !Zb5 W.ask r.rd } k n1
 |_,_=>W
def Wd.put (W:Wd) (k:Nat) (n:Rn):Wd:={ W with ns:=W.ns.set k n }
def Wd.startN (d:Dk) (k:Nat):Option Rn:=(ZbO (k + 1) d.hd d.sn d.log 3 2).2
def Wd.who (W:Wd) (z:Int):Nat:=(z % (W.ns.length:Int)).toNat
structure Ev where
 do':Int
 who:Int
 n:Int
 kd:Int
def Wd.sync (W:Wd) (k:Nat):Wd:=
 match W.ns[k]?,W.dk[k]? with
 |some n,some d=>{ W with dk:=W.dk.set k { d with sn:=n.sn,log:=n.log.get (n.sn.ix + 1) 100000 } }
 |_,_=>W
def Rn.comp (n:Rn):Int × Rn:=Rn.compact (n.done n.log.com).2 (n.done n.log.com).2.log.app [(n.done n.log.com).2.log.app % 256]
def Wd.asks (W:Wd) (k:Nat) (n:Rn):Wd:=
 { W with tok:=W.tok + 1,ask:=if (n.read (W.tok + 1)).1==0 then W.ask++[(W.tok + 1,W.most)] else W.ask,ns:=W.ns.set k (n.read (W.tok + 1)).2 }
def Wd.act (W:Wd) (x:Ev):Option (Wd × Nat):=
 match W.ns[W.who x.who]? with
 |none=>none
 |some n=>
  if x.do'==0 then some (W.put (W.who x.who) (n.tick x.n),W.who x.who)
  else if x.do'==1 then
   (if x.n<0 then none else match W.sent[x.n.toNat]? with
   |none=>none
   |some m=>if m.to'<1 then none else match W.ns[(m.to' - 1).toNat]? with
    |none=>none
    |some n'=>some (W.put (m.to' - 1).toNat (n'.step m),(m.to' - 1).toNat))
  else if x.do'==2 then
   (match W.dk[W.who x.who]? with
   |none=>none
   |some d=>match Wd.startN d (W.who x.who) with
    |some n'=>some (W.put (W.who x.who) n',W.who x.who)
    |none=>some ({ W with good:=false },W.who x.who))
  else if x.do'==3 then some (W.put (W.who x.who) (n.propose [x.n % 256]).2,W.who x.who)
  else if x.do'==4 then some (W.put (W.who x.who) (n.change x.kd x.n).2,W.who x.who)
  else if x.do'==5 then some (W.asks (W.who x.who) n,W.who x.who)
  else if x.do'==6 then
   (if n.comp.1==0 then some (((W.put (W.who x.who) n.comp.2).write (W.who x.who)).sync (W.who x.who),W.who x.who)
   else some (W.put (W.who x.who) n.comp.2,W.who x.who))
  else some (W,W.who x.who)
def Wd.play (W:Wd) (x:Ev):Wd:=
 match W.act x with
 |none=>W
 |some (W',k)=>W'.write k
end
section
open Go Go.VC Tryz
open Go.Rf (Ey Lg ZD)
variable {R R' R1 R2:Cx} {Hs Rest Rest2:List HP} {w:World} {p q:Nat} {pp:List Nat} {n m:Rn}
structure DLo where
 v:Sl
 l:Sl
 d:Sl
 s:Sl
 ds:List DE4
structure Zl0 (R:Cx) (t:Dk) (L:DLo):Prop where
 g:Zd7 R t.sn.g L.v L.l
 d:SlR R.m L.d (b8 t.sn.dt)
 es:RoN 4 R L.s (L.ds.map ZaC)
 dr:DsR R L.ds
 ee:erE L.ds=t.log
 ec:L.s.len<=L.s.cap
theorem Zl0.ext {t:Dk} {L:DLo} (h:Zl0 R t L) (e:R.Ext R'):Zl0 R' t L:=⟨h.g.ext e,e.slR h.d,e.roN h.es,h.dr.ext e,h.ee,h.ec⟩
abbrev Z8 (t:DLo × Dk):List Value:=[.int .i64 t.2.hd.tm,.int .i64 t.2.hd.vt,.int .i64 t.2.sn.ix,.int .i64 t.2.sn.tm,.slice t.1.v.a t.1.v.len t.1.v.cap,.slice t.1.l.a t.1.l.len t.1.l.cap,.slice t.1.d.a t.1.d.len t.1.d.cap,.slice t.1.s.a t.1.s.len t.1.s.cap]
def Zy (R:Cx) (s:Sl) (l:List Dk):HP:=exs λ xs:List (DLo × Dk)=>Zds [pur (xs.map (·.2)=l/\∀ t∈xs,Zl0 R t.2 t.1),OwnN 8 s 141 (xs.map Z8)]
theorem Zy.iff {s:Sl} {l:List Dk}:Sat R (Zy R1 s l::Hs) w↔∃ xs:List (DLo × Dk),(xs.map (·.2)=l/\∀ t∈xs,Zl0 R1 t.2 t.1)/\Sat R (OwnN 8 s 141 (xs.map Z8)::Hs) w:=by
 constructor
 ·intro h
  obtain ⟨xs,h⟩:=Sat.exs.1 h;obtain ⟨h1,h⟩:=Sat.pur.1 (Sat.star.1 h);exact ⟨xs,h1,h⟩
 ·rintro ⟨xs,h1,h⟩
  exact Sat.exs.2 ⟨xs,Sat.star.2 (Sat.pur.2 ⟨h1,h⟩)⟩
theorem Zy.ext {s:Sl} {l:List Dk} (hw:Sat R (Zy R1 s l::Hs) w) (e:R1.Ext R2):Sat R (Zy R2 s l::Hs) w:=by
 obtain ⟨xs,h,hw⟩:=Zy.iff.1 hw;exact Zy.iff.2 ⟨xs,⟨h.1,λ t ht=>(h.2 t ht).ext e⟩,hw⟩
abbrev ZmW (t:Int × DE4):Int × Value:=(t.1,Zio t.2)
def Zaj (R:Cx) (m:Nat) (es:List (Int × Ey)):HP:=exs λ xs:List (Int × DE4)=>Zds [pur (xs.map (λ t=>(t.1,t.2.2))=es/\∀ t∈xs,SlR R.m t.2.1 (b8 t.2.2.dt)),Zg m (xs.map ZmW)]
theorem Zaj.iff {m:Nat} {es:List (Int × Ey)}:Sat R (Zaj R1 m es::Hs) w↔∃ xs:List (Int × DE4),(xs.map (λ t=>(t.1,t.2.2))=es/\∀ t∈xs,SlR R1.m t.2.1 (b8 t.2.2.dt))/\Sat R (Zg m (xs.map ZmW)::Hs) w:=by
 constructor
 ·intro h
  obtain ⟨xs,h⟩:=Sat.exs.1 h;obtain ⟨h1,h⟩:=Sat.pur.1 (Sat.star.1 h);exact ⟨xs,h1,h⟩
 ·rintro ⟨xs,h1,h⟩
  exact Sat.exs.2 ⟨xs,Sat.star.2 (Sat.pur.2 ⟨h1,h⟩)⟩
theorem Zaj.ext {m:Nat} {es:List (Int × Ey)} (hw:Sat R (Zaj R1 m es::Hs) w) (e:R1.Ext R2):Sat R (Zaj R2 m es::Hs) w:=by
 obtain ⟨xs,h,hw⟩:=Zaj.iff.1 hw;exact Zaj.iff.2 ⟨xs,⟨h.1,λ t ht=>e.slR (h.2 t ht)⟩,hw⟩
abbrev ZaB (t:Int × Int):Int × Value:=(t.1,.int .i64 t.2)
theorem mapE:ZoP prog 84 Int 3 52 (.agg #[.int .i64 0,.int .i64 0,.int .i64 0,.slice none 0 0]):=⟨underlying84,underlying3,λ _=>zeroValue52 _⟩
theorem mapL:ZoP prog 85 Int 3 3 (.int .i64 0):=⟨underlying85,underlying3,λ _=>zeroValue3 _⟩
abbrev Zau (s:Sl) (l:List (Int × Int)):HP:=OwnN 2 s 144 (l.map Zbb)
abbrev ZW (t:Nat × Rn):Value:=.pointer (some ⟨t.1,0,none⟩)
def ZH (R:Cx) (ps:List (Nat × Rn)):HP:=Zds (ps.map λ t=>NAt R t.1 t.2)
theorem ZH.ext {ps:List (Nat × Rn)} (e:R1.Ext R2):∀ {R:Cx} {Hs:List HP},Sat R (ZH R1 ps::Hs) w->Sat R (ZH R2 ps::Hs) w:=by
 induction ps with
 |nil=>exact λ h=>h
 |cons t ps ih=>
  intro R Hs h;have h1:Sat R (NAt R1 t.1 t.2::ZH R1 ps::Hs) w:=(Sat.star.1 h).cons λ _ h=>Sat.star.2 h;have h2:Sat R (NAt R2 t.1 t.2::ZH R2 ps::Hs) w:=(NAt.ext h1 e).cons λ _ h=>ih h;exact Sat.star.2 (h2.cons λ _ h=>Sat.star.1 h)
def Zu (R:Cx) (ps:List (Nat × Rn)) (k:Nat):HP:=Zds ((ps.take k).map (λ t=>NAt R t.1 t.2)++(ps.drop (k + 1)).map λ t=>NAt R t.1 t.2)
theorem ZH.focus {ps:List (Nat × Rn)} {k:Nat} (hk:k<ps.length) (hw:Sat R (ZH R1 ps::Hs) w):Sat R (NAt R1 ps[k].1 ps[k].2::Zu R1 ps k::Hs) w:=by
 have h:=Sat.star.1 hw;have e:ps.map (λ t=>NAt R1 t.1 t.2)=(ps.take k).map (λ t=>NAt R1 t.1 t.2)++(NAt R1 ps[k].1 ps[k].2::(ps.drop (k + 1)).map λ t=>NAt R1 t.1 t.2):=by
  rw [<-List.map_cons (f:=λ t:Nat × Rn=>NAt R1 t.1 t.2),<-List.drop_eq_getElem_cons hk,<-List.map_append,List.take_append_drop]
 rw [e,List.append_assoc] at h;have h2:Sat R (NAt R1 ps[k].1 ps[k].2::(((ps.take k).map (λ t=>NAt R1 t.1 t.2)++(ps.drop (k + 1)).map λ t=>NAt R1 t.1 t.2)++Hs)) w:=h.perm (by
  rw [List.append_assoc];exact List.perm_middle)
 exact h2.cons λ _ h=>Sat.star.2 h
theorem Zu.close {ps:List (Nat × Rn)} {k:Nat} {t:Nat × Rn} (hk:k<ps.length) (hw:Sat R (NAt R1 t.1 t.2::Zu R1 ps k::Hs) w):Sat R (ZH R1 (ps.set k t)::Hs) w:=by
 have e:(ps.set k t).map (λ t=>NAt R1 t.1 t.2)=(ps.take k).map (λ t=>NAt R1 t.1 t.2)++(NAt R1 t.1 t.2::(ps.drop (k + 1)).map λ t=>NAt R1 t.1 t.2):=by
  rw [List.set_eq_take_append_cons_drop,if_pos hk,List.map_append,List.map_cons]
 refine Sat.star.2 ?_;rw [e,List.append_assoc];have h2:Sat R (NAt R1 t.1 t.2::(((ps.take k).map (λ t=>NAt R1 t.1 t.2)++(ps.drop (k + 1)).map λ t=>NAt R1 t.1 t.2)++Hs)) w:=hw.cons λ _ h=>Sat.star.1 h;refine h2.perm ?_;rw [List.append_assoc];exact (List.perm_middle (l₁:=(ps.take k).map (λ t=>NAt R1 t.1 t.2)) (a:=NAt R1 t.1 t.2)).symm
theorem Zu.ext {ps:List (Nat × Rn)} {k:Nat} (hw:Sat R (Zu R1 ps k::Hs) w) (e:R1.Ext R2):Sat R (Zu R2 ps k::Hs) w:=by
 have h:Zu R1 ps k=ZH R1 (ps.take k++ps.drop (k + 1)):=by unfold Zu ZH;rw [List.map_append]
 have h2:Zu R2 ps k=ZH R2 (ps.take k++ps.drop (k + 1)):=by unfold Zu ZH;rw [List.map_append]
 rw [h] at hw;rw [h2];exact ZH.ext e hw
structure WLo where
 ns:Sl
 dk:Sl
 sn:Sl
 me:Nat
 ml:Nat
 ak:Sl
abbrev wdC (W:Wd) (L:WLo):Obj:=.cells [.slice L.ns.a L.ns.len L.ns.cap,.slice L.dk.a L.dk.len L.dk.cap,.slice L.sn.a L.sn.len L.sn.cap,.map (some L.me),.int .i64 W.most,.map (some L.ml),.slice L.ak.a L.ak.len L.ak.cap,.int .i64 W.tok,.bool W.good].toArray 88 (0,0)
abbrev Ze9 (R:Cx) (W:Wd) (L:WLo) (Hs:List HP):List HP:=Zy R L.dk W.dk::Zq R L.sn W.sent::Zaj R L.me W.ent::Zg L.ml (W.lds.map ZaB)::Zau L.ak W.ask::Hs
def ZaH (R:Cx) (q:Nat) (pp:List Nat) (W:Wd):HP:=exs λ L:WLo=>exs λ ps:List (Nat × Rn)=>Zds (pur (ps.map (·.2)=W.ns/\ps.map (·.1)=pp)::pts q (wdC W L)::Own L.ns 24 (ps.map ZW)::ZH R ps::Ze9 R W L [])
theorem ZaH.iff {W:Wd}:Sat R (ZaH R1 q pp W::Hs) w↔∃ L ps,(ps.map (·.2)=W.ns/\ps.map (·.1)=pp)/\Sat R (pts q (wdC W L)::Own L.ns 24 (ps.map ZW)::ZH R1 ps::Ze9 R1 W L Hs) w:=by
 constructor
 ·intro h
  obtain ⟨L,h⟩:=Sat.exs.1 h;obtain ⟨ps,h⟩:=Sat.exs.1 h;obtain ⟨h1,h⟩:=Sat.pur.1 (Sat.star.1 h);exact ⟨L,ps,h1,h⟩
 ·rintro ⟨L,ps,h1,h⟩
  exact Sat.exs.2 ⟨L,Sat.exs.2 ⟨ps,Sat.star.2 (Sat.pur.2 ⟨h1,h⟩)⟩⟩
end
section
open Go Go.VC Tryz
open Go.Rf (Ey Lg ZD)
variable {R R' R1 R2:Cx} {Hs Rest Rest2:List HP} {w:World} {p q:Nat} {n m:Rn}
theorem _root_.Go.VC.Own.idxP {s:Sl} {T:TypeId} {ps:List (Nat × Rn)} (hw:Sat R Hs w) [t:Zfj (Own s T (ps.map ZW)) Hs Rest] {S:World->Prop} (hS:∀ w,S w->Sat R Hs w) {i:Int} (k:Nat) (hi:i=k) (hk:k<ps.length) {F:Option Addr->Prop} (h:F (some ⟨ps[k].1,0,none⟩)):
  Rng i s.len (Zb s.a λ a=>∃ t:Option Addr,(At S (a.add i.toNat) [.pointer t])/\F t):=by
 subst hi;have hw:=hw.perm t.perm;obtain ⟨b,ha,hat⟩:=Own.addr hw (k:=k) (by simpa using hk);have hl:=Own.len hw;rw [List.length_map] at hl;refine Rng.mk (by omega) (by omega) (Zb.mk ha ⟨_,?_,h⟩);have:=hat λ w h=>(hS w h).perm t.perm;simpa using this
theorem ZiJ {α β γ:Type} [BEq α] (f:β->γ) (k:α) (v:β):∀ l:List (α × β),Zbq k (f v) (l.map λ e=>(e.1,f e.2))=(Zbq k v l).map λ e=>(e.1,f e.2)
 |[]=>rfl
 |e::l=>by
  simp only [List.map_cons,Zbq];split
  ·rfl
  ·rw [ZiJ f k v l];rfl
theorem Zgj {α β γ:Type} [BEq α] (f:β->γ) (k:α) (v:β) (l:List (α × β)):ZcG k (f v) (l.map λ e=>(e.1,f e.2))=(ZcG k v l).map λ e=>(e.1,f e.2):=by
 unfold ZcG;rw [Zbv,Option.isSome_map];split
 ·exact ZiJ f k v l
 ·simp
theorem ZiR {β:Type} {k:Int} {v:β} {t:Int × β} {l:List (Int × β)} (h:t∈ZcG k v l):t.2=v\/t∈l:=by
 unfold ZcG at h;split at h
 ·exact Zd9 h
 ·rcases List.mem_append.1 h with h|h
  ·exact .inr h
  ·simp at h;rw [h];exact .inl rfl
theorem ZnB {a b:Ey}:eqE a b=true↔a=b:=by
 unfold eqE;constructor
 ·intro h
  simp only [Bool.and_eq_true,beq_iff_eq,decide_eq_true_eq] at h;obtain ⟨⟨⟨h1,h2⟩,h3⟩,h4⟩:=h;cases a;cases b;simp only at h1 h2 h3 h4;rw [h1,h2,h3,h4]
 ·rintro rfl;simp
def Zkh (es:List (Int × Ey)):Prop:=∀ t∈es,Zx t.2.dt/\t.2.dt.length<=4096
end
section
open Go Go.VC Tryz
open Go.Rf (Ey Lg ZD)
variable {R R' R1 R2:Cx} {Hs Rest Rest2:List HP} {w:World} {p q:Nat} {pp:List Nat} {n m:Rn}
theorem Zmo (h:RnA n):(∀ e∈Zfc n,Zx e.dt/\e.dt.length<=4096)/\(Zfc n).length<=1099511627777:=by
 refine ⟨λ e he=>?_,?_⟩
 ·have hin:=Rf.Lg.get_in e he
  exact ⟨h.b.g.lb e hin,(Rf.oddE_no (h.b.g.lg.es.no e hin)).2.2.2.2.2.2⟩
 ·unfold Zfc Lg.get
  have:=h.b.g.lg.len;split
  ·simp
  ·rw [List.length_take,List.length_drop]
   unfold Lg.all;simp only [List.length_cons];omega
theorem Zmp {s:List (Int × Ey) × Bool} {l:List Ey} (h:Zkh s.1) (hl:∀ e∈l,Zx e.dt/\e.dt.length<=4096):Zkh (l.foldl Zd5 s).1:=by
 induction l generalizing s with
 |nil=>exact h
 |cons x l ih=>
  rw [List.foldl_cons];refine ih ?_ λ e he=>hl e (List.mem_cons_of_mem _ he);intro t ht;rcases ZiR ht with h1|h1
  ·rw [h1];exact hl x List.mem_cons_self
  ·exact h t h1
set_option maxRecDepth 20000 in
theorem Zk8 {W:Wd} {k:Nat} (hk:W.ns[k]? =some n) (ha:RnA n) (hent:Zkh W.ent) (hw:Sat R (ZaH R q pp W::Hs) w):
  Zj prog 79 #[.pointer (some ⟨q,0,none⟩),.int .i64 k] w λ v w'=>v=.tuple #[]/\∃ R',R.Ext R'/\Sat R' (ZaH R' q pp (W.look k n)::Hs) w':=by
 obtain ⟨L,ps,⟨hps,hpp⟩,hw⟩:=ZaH.iff.1 hw;have hkp:k<ps.length:=by
  have:=(List.getElem?_eq_some_iff.1 hk).1;rw [<-hps,List.length_map] at this;exact this
 have hpn:ps[k].2=n:=by
  have h1:=(List.getElem?_eq_some_iff.1 hk).2;simpa [<-hps] using h1
 obtain ⟨p,hp⟩:∃ p,p=ps[k].1:=⟨_,rfl⟩;have ok:=ha.b.g.lg;have hsn:=ha.b.sn;have hsb:0<=n.sn.ix/\n.sn.ix<=1099511627776:=by
  have:=hsn;unfold ZE Z3 at this;simp only [Bool.and_eq_true,decide_eq_true_eq] at this;exact this.1.1.1
 have hcb:0<=n.log.com/\n.log.com<=1099511627776:=by
  have h1:=ok.c0;have h2:=ok.c1;have h3:=ok.last_le;have h4:=ok.b0;omega
 apply ZpG;have hw:Sat R (pts q (wdC W L)::Own L.ns 24 (ps.map ZW)::ZH R ps::Zy R L.dk W.dk::Zq R L.sn W.sent::Zaj R L.me W.ent::Zg L.ml (W.lds.map ZaB)::Zau L.ak W.ask::Hs) w:=hw;refine Zb.mk rfl ⟨L.ns,At.own (eqS hw) (by exact ⟨rfl,trivial⟩),Own.idxP (T:=24) hw (eqS hw) k rfl hkp ?_⟩;rw [<-hp];have hw:=ZH.focus hkp (hw.take (ZH R ps));rw [<-hp,hpn] at hw;refine (Zcx hsn hw).use ?_;clear hw;rintro _ w ⟨Ra,a1,b1,c1,ea,_,_,rfl,hw⟩;refine ⟨_,_,a1,b1,c1,rfl,?_⟩;have hw:=NAt.ext hw ea;refine (Zcd hw).use ?_;clear hw;rintro _ w ⟨rfl,hw⟩;refine ⟨_,rfl,?_⟩;refine (Zcx hsn hw).use ?_;clear hw;rintro _ w ⟨Rb,a2,b2,c2,eb,_,_,rfl,hw⟩;refine ⟨_,_,a2,b2,c2,rfl,?_⟩;have hw:=NAt.ext hw eb;rw [Zh (by omega) (by omega),Zh (x:=n.log.com - n.sn.ix) (by omega) (by omega)];refine (Zdi ok (n.sn.ix + 1) (n.log.com - n.sn.ix) hw).use ?_;clear hw;rintro _ w ⟨Rc,t,ds,ec,hds,hde,rfl,hw⟩;have hde:erE ds=Zfc n:=hde;have htc:=OwnN.cap (by omega) hw;obtain ⟨Rd,ed,hro,hw⟩:=OwnN.leak hw;have htl:t.len=ds.length:=by have:=hro.len;simpa using this
 have hds:=hds.ext ed;have eall:=((ea.trans eb).trans ec).trans ed;have hlo:=Zmo ha;have hdl:ds.length<=1099511627777:=by rw [<-hde,List.length_map] at hlo;exact hlo.2
 have hdo:∀ e∈ds,Zx e.2.dt/\e.2.dt.length<=4096:=λ e he=>hlo.1 e.2 (by rw [<-hde];exact List.mem_map_of_mem he)
 -- all at one memory
 have hw:Sat Rd (NAt Rd p n::Zu Rd ps k::Zy Rd L.dk W.dk::Zq Rd L.sn W.sent::Zaj Rd L.me W.ent::pts q (wdC W L)::Own L.ns 24 (ps.map ZW)::Zg L.ml (W.lds.map ZaB)::Zau L.ak W.ask::Hs) w:=by
  have h:=NAt.ext hw ed;have h2:Sat Rd (NAt Rd p n::Zu R ps k::Zy R L.dk W.dk::Zq R L.sn W.sent::Zaj R L.me W.ent::pts q (wdC W L)::Own L.ns 24 (ps.map ZW)::Zg L.ml (W.lds.map ZaB)::Zau L.ak W.ask::Hs) w:=h.arr;exact h2.cons λ _ h=>(Zu.ext h eall).cons λ _ h=>(Zy.ext h eall).cons λ _ h=>(Zq.ext h eall).cons λ _ h=>Zaj.ext h eall
 obtain ⟨rj,hrj⟩:∃ rj:Nat->List (Int × Ey) × Bool,rj=λ j=>((erE ds).take j).foldl Zd5 (W.ent,W.good):=⟨_,rfl⟩;have hstep:∀ j (hj:j<ds.length),rj (j + 1)=Zd5 (rj j) ds[j].2:=λ j hj=>by
  rw [hrj];dsimp only;rw [ZbI Zd5 _ (by rw [List.length_map];exact hj)];simp
 have hrok:∀ j,Zkh (rj j).1:=λ j=>by
  rw [hrj];exact Zmp hent λ e he=>hlo.1 e (by rw [<-hde];exact List.mem_of_mem_take he)
 refine ⟨t,rfl,λ i w=>∃ j:Nat,i=j/\j<=ds.length/\Sat Rd (Zaj Rd L.me (rj j).1::pts q (wdC { W with good:=(rj j).2 } L)::NAt Rd p n::Zu Rd ps k::Zy Rd L.dk W.dk::Zq Rd L.sn W.sent::Own L.ns 24 (ps.map ZW)::Zg L.ml (W.lds.map ZaB)::Zau L.ak W.ask::Hs) w,λ i _=>ds.length - i.toNat,
  ⟨0,rfl,Nat.zero_le _,?_⟩,?_⟩
 ·have h0:rj 0=(W.ent,W.good):=by rw [hrj];rfl
  rw [h0];have h:Sat Rd (Zaj Rd L.me W.ent::pts q (wdC W L)::NAt Rd p n::Zu Rd ps k::Zy Rd L.dk W.dk::Zq Rd L.sn W.sent::Own L.ns 24 (ps.map ZW)::Zg L.ml (W.lds.map ZaB)::Zau L.ak W.ask::Hs) w:=hw.arr;exact h
 clear hw;rintro _ _ w ⟨j,rfl,hj,hw⟩;refine Br.d (λ h=>?_) (λ h=>?_)
 ·have hjd:j<ds.length:=by omega
  obtain ⟨x,hx⟩:∃ x,x=ds[j]:=⟨_,rfl⟩;have hxm:x∈ds:=by rw [hx];exact List.getElem_mem _
  have hs1:=hstep j hjd;rw [<-hx] at hs1;obtain ⟨xs,⟨hxs,hxd⟩,hw⟩:=Zaj.iff.1 hw;obtain ⟨y,hy⟩:∃ y:DE4,y=(ZB x.2.ix xs).getD (⟨none,0,0⟩,⟨0,0,0,[]⟩):=⟨_,rfl⟩;obtain ⟨kn,hkn⟩:∃ kn,kn=(ZB x.2.ix xs).isSome:=⟨_,rfl⟩;have hyr:SlR Rd.m y.1 (b8 y.2.dt)/\Zx y.2.dt/\y.2.dt.length<=4096:=by
   cases hg:ZB x.2.ix xs with
   |none=>rw [hy,hg];exact ⟨⟨rfl,Nat.le_refl _,λ h=>absurd rfl h⟩,(λ z hz=>by cases hz),by simp⟩
   |some d=>
    have hm:=ZbT hg;rw [hy,hg];have h2:=hrok j (x.2.ix,d.2) (by rw [<-hxs];exact List.mem_map_of_mem (f:=λ t:Int × DE4=>(t.1,t.2.2)) hm);exact ⟨hxd _ hm,h2.1,h2.2⟩
  have hgm:ZB x.2.ix (rj j).1=(ZB x.2.ix xs).map (·.2):=by rw [<-hxs];exact Zbv (λ d:DE4=>d.2) x.2.ix xs
  have hlk:∀ w':World,Sat Rd [Zg L.me (xs.map ZmW),pts q (wdC { W with good:=(rj j).2 } L),VC.tru] w'->(Instr.lookup 84 (.map (some L.me)) (.int .i64 x.2.ix) true).run prog w'=.ok (.tuple #[Zio y,.bool kn]) w':=λ w' h=>by
   have h2:=Zg.look mapE h x.2.ix true;rw [if_pos rfl,Zbv (λ d=>Zio d) x.2.ix xs] at h2;refine h2.trans ?_;rw [hy,hkn];cases ZB x.2.ix xs<;>rfl
  refine Zi (Sat Rd [Zg L.me (xs.map ZmW),pts q (wdC { W with good:=(rj j).2 } L),VC.tru]) hw (λ w hw=>hw.k2) λ w hw=>Zb.mk rfl ⟨some L.me,At.own Zf (by exact ⟨rfl,trivial⟩),?_⟩;have r1:ReadsN 4 t (ds.map ZaC) (Sat Rd [Zg L.me (xs.map ZmW),pts q (wdC { W with good:=(rj j).2 } L),VC.tru]):=hro.reads λ w h=>h;refine r1.rngI (g:=ZaC) j rfl hjd λ a _ el=>⟨x.2.ix,by rw [hx];exact el.zz (by exact ⟨rfl,trivial⟩),y.2.ix,y.2.tm,y.2.kd,y.1,kn,hlk,Zd hw λ b7 w hw=>⟨hw.k2,?_⟩⟩;refine Za hw (by kernel_rfl) rfl (by simp [Value.cells,Zc]) λ w hw=>?_;have hw:=hw.re (pts b7 (.cells (ZaC y).toArray 52 (0,0)));refine Zm hw λ w hw=>⟨y.2.ix,y.2.tm,y.2.kd,y.1,At.own (eqS hw) (by exact ⟨rfl,rfl,rfl,rfl,trivial⟩),?_⟩;rw [Zh (by omega) (by omega)];refine ⟨by omega,by omega,by omega,by omega,Zd hw λ b52 w hw=>?_⟩;have hw:=OwnN.of_pts (n:=4) (cap:=1) (rest:=[]) (rows:=[ZaC y]) (Wid.one rfl) rfl hw;obtain ⟨Re,hre,⟨hh,rfl⟩,hw,back⟩:=OwnN.lend hw;have hsub:=(hro.sub (l:=j) (h:=j + 1) (m:=t.cap) (by omega) (by rw [List.length_map];omega) (by omega)).add (h:=hh);have esub:((ds.map ZaC).take (j + 1)).drop j=[x].map ZaC:=by
   rw [<-List.map_take,<-List.map_drop,List.take_succ_eq_append_getElem hjd,List.drop_append_of_le_length (by rw [List.length_take];omega),List.drop_of_length_le (by rw [List.length_take];omega),List.nil_append,hx]
  rw [esub] at hsub;have hnat:((j:Int) + 1).toNat=j + 1:=by omega
  rw [hnat,Int.toNat_natCast];refine (Zjv (xs:=[y]) (ys:=[x]) hre hsub (.one (Cx.Ext.add.slR hyr.1)) (.one (Cx.Ext.add.slR (hds x hxm))) (λ e he=>by simp at he;rw [he];exact hyr.2.1) (λ e he=>by simp at he;rw [he];exact (hdo x hxm).1) (by simp) (λ e he=>by simp at he;rw [he];omega) (λ e he=>by simp at he;rw [he];have:=(hdo x hxm).2;omega) hw).use ?_;clear hw;rintro _ w ⟨tt,rfl,htt,hw⟩;have hw:=back hw;have hw:=hw.drop.drop;have htt:tt=eqE y.2 x.2:=by
   rw [Bool.eq_iff_iff,htt,ZnB];simp
  have hg1:(rj (j + 1)).2=((rj j).2 && (!kn||tt)):=by
   rw [hs1];unfold Zd5;dsimp only;rw [hgm,htt,hkn,hy];cases ZB x.2.ix xs<;>simp
  have he1:(rj (j + 1)).1=ZcG x.2.ix x.2 (rj j).1:=by rw [hs1];rfl
  refine ⟨tt,rfl,λ w=>Sat Rd (Zg L.me (xs.map ZmW)::pts q (wdC { W with good:=(rj (j + 1)).2 } L)::NAt Rd p n::Zu Rd ps k::Zy Rd L.dk W.dk::Zq Rd L.sn W.sent::Own L.ns 24 (ps.map ZW)::Zg L.ml (W.lds.map ZaB)::Zau L.ak W.ask::Hs) w,?_,?_⟩
  ·refine Br.mk (λ h1=>Br.mk (λ h2=>Zb.mk rfl ?_) (λ h2=>?_)) (λ h1=>?_)
   ·have hw:=hw.swap
    refine Za hw (by kernel_rfl) rfl (by simp [Value.cells,Zc]) λ w hw=>?_;have e:(rj (j + 1)).2=false:=by rw [hg1,h1,show tt=false by simpa using h2];simp
    rw [e];have hw:=hw.re (pts q (wdC { W with good:=false } L));exact hw.swap
   ·have e:(rj (j + 1)).2=(rj j).2:=by rw [hg1,show tt=true by simpa using h2];simp
    rw [e];exact hw
   ·have e:(rj (j + 1)).2=(rj j).2:=by rw [hg1,h1];simp
    rw [e];exact hw
  clear hw;rintro _ w hw;refine Zm hw λ w hw=>Zb.mk rfl ⟨some L.me,At.own (eqS hw) (by exact ⟨rfl,trivial⟩),?_⟩;have r2:ReadsN 4 t (ds.map ZaC) (λ w'=>w'=w):=hro.reads (eqS hw);refine r2.rngI (g:=ZaC) j rfl hjd λ a _ el=>⟨x.2.ix,by rw [hx];exact el.zz (by exact ⟨rfl,trivial⟩),?_⟩;refine r2.rngI (g:=ZaC) j rfl hjd λ a _ el=>⟨x.2.ix,x.2.tm,x.2.kd,x.1,by rw [hx];exact el.z (by exact ⟨rfl,rfl,rfl,rfl,trivial⟩),?_⟩;refine Zg.put mapE hw x.2.ix (Zio x) λ w hw=>⟨⟨j + 1,by omega,hjd,?_⟩,by dsimp only;omega⟩;have e2:ZcG x.2.ix (Zio x) (xs.map ZmW)=(ZcG x.2.ix x xs).map ZmW:=Zgj (λ d=>Zio d) x.2.ix x xs;rw [e2] at hw;refine Zaj.iff.2 ⟨ZcG x.2.ix x xs,⟨?_,λ t ht=>?_⟩,hw⟩
  ·rw [he1,<-hxs]
   exact (Zgj (λ d:DE4=>d.2) x.2.ix x xs).symm
  ·rcases ZiR ht with h1|h1
   ·rw [h1];exact hds x hxm
   ·exact hxd t h1
 ·have hjl:j=ds.length:=by omega
  obtain ⟨W1,hW1⟩:∃ W1:Wd,W1={ W with ent:=(rj j).1,good:=(rj j).2,most:=max W.most n.log.com }:=⟨_,rfl⟩;have hr1:rj j=(Zfc n).foldl Zd5 (W.ent,W.good):=by rw [hrj,hjl];dsimp only;rw [<-hde,List.take_of_length_le (by rw [List.length_map];omega)]
  have hlook:W.look k n=if n.e.role==3 then { W1 with good:=(rj j).2 && (match ZB n.e.hd.tm W.lds with|some x=>x==k|none=>true),lds:=ZcG n.e.hd.tm (k:Int) W.lds } else W1:=by
   rw [hW1,hr1];rfl
  rw [hlook];have fin:∀ {w:World} {W':Wd},W'.ns=W.ns->W'.dk=W.dk->W'.sent=W.sent->W'.ask=W.ask->Sat Rd (Zg L.ml (W'.lds.map ZaB)::pts q (wdC W' L)::Zaj Rd L.me W'.ent::NAt Rd p n::Zu Rd ps k::Zy Rd L.dk W.dk::Zq Rd L.sn W.sent::Own L.ns 24 (ps.map ZW)::Zau L.ak W.ask::Hs) w->Sat Rd (ZaH Rd q pp W'::Hs) w:=λ {w W'} h1 h2 h3 h4 hw=>by
   have hpk:ps.set k (p,n)=ps:=by
    have e:(p,n)=ps[k]:=by rw [hp,<-hpn]
    rw [e];exact List.set_getElem_self hkp
   refine ZaH.iff.2 ⟨L,ps,⟨by rw [hps,h1],hpp⟩,?_⟩;rw [<-h2,<-h3,<-h4] at hw;have hw:Sat Rd (NAt Rd (p,n).1 (p,n).2::Zu Rd ps k::Zg L.ml (W'.lds.map ZaB)::pts q (wdC W' L)::Zaj Rd L.me W'.ent::Zy Rd L.dk W'.dk::Zq Rd L.sn W'.sent::Own L.ns 24 (ps.map ZW)::Zau L.ak W'.ask::Hs) w:=hw.arr;have hw:=Zu.close hkp hw;rw [hpk] at hw;exact hw.arr
  refine Zi (Sat Rd [pts q (wdC { W with good:=(rj j).2 } L),VC.tru]) hw (λ w hw=>hw.k1) λ w hw=>Zb.mk rfl ⟨W.most,At.own Zf (by exact ⟨rfl,trivial⟩),?_⟩;refine (Zcd (hw.take (NAt Rd p n))).use ?_;clear hw;rintro _ w ⟨rfl,hw⟩;refine ⟨_,rfl,hw.k1,Zb.mk rfl ?_⟩;rw [show (if n.log.com>W.most then n.log.com else W.most)=max W.most n.log.com by split<;>omega]
  have hw:Sat Rd (pts q (wdC { W with good:=(rj j).2 } L)::NAt Rd p n::Zaj Rd L.me (rj j).1::Zg L.ml (W.lds.map ZaB)::Zu Rd ps k::Zy Rd L.dk W.dk::Zq Rd L.sn W.sent::Own L.ns 24 (ps.map ZW)::Zau L.ak W.ask::Hs) w:=hw.arr;refine Za hw (by kernel_rfl) rfl (by simp [Value.cells,Zc]) λ w hw=>?_;have hw:=hw.re (pts q (wdC { W with ent:=(rj j).1,good:=(rj j).2,most:=max W.most n.log.com } L));rw [<-hW1] at hw;have hf1:W1.ns=W.ns/\W1.dk=W.dk/\W1.sent=W.sent/\W1.ask=W.ask/\W1.ent=(rj j).1/\W1.lds=W.lds:=by rw [hW1];exact ⟨rfl,rfl,rfl,rfl,rfl,rfl⟩
  obtain ⟨L2,hn2,hw⟩:=NAt.iff.1 hw.swap;refine Zb.mk rfl ⟨some ⟨L2.ep,0,none⟩,At.own (eqS hw) (by exact ⟨rfl,trivial⟩),?_⟩;refine (Zai (hw.take (Zn Rd L2.ep n.e))).use ?_;clear hw;rintro _ w ⟨rfl,hw⟩;have hw:Sat Rd (pts p (Ze n L2)::nHs Rd n L2 (pts q (wdC W1 L)::Zaj Rd L.me (rj j).1::Zg L.ml (W.lds.map ZaB)::Zu Rd ps k::Zy Rd L.dk W.dk::Zq Rd L.sn W.sent::Own L.ns 24 (ps.map ZW)::Zau L.ak W.ask::Hs)) w:=hw.arr;refine ⟨_,rfl,Br.e (λ h1=>Zb.mk rfl ⟨some ⟨L2.ep,0,none⟩,At.own (eqS hw) (by exact ⟨rfl,trivial⟩),?_⟩) (λ h1=>?_)⟩
  ·rw [if_pos (by simpa using h1)]
   refine (Zaq (hw.take (Zn Rd L2.ep n.e))).use ?_;clear hw;rintro _ w ⟨rfl,hw⟩;have hw:Sat Rd (pts p (Ze n L2)::nHs Rd n L2 (pts q (wdC W1 L)::Zaj Rd L.me (rj j).1::Zg L.ml (W.lds.map ZaB)::Zu Rd ps k::Zy Rd L.dk W.dk::Zq Rd L.sn W.sent::Own L.ns 24 (ps.map ZW)::Zau L.ak W.ask::Hs)) w:=hw.arr;have hw:Sat Rd (NAt Rd p n::pts q (wdC W1 L)::Zaj Rd L.me (rj j).1::Zg L.ml (W.lds.map ZaB)::Zu Rd ps k::Zy Rd L.dk W.dk::Zq Rd L.sn W.sent::Own L.ns 24 (ps.map ZW)::Zau L.ak W.ask::Hs) w:=NAt.iff.2 ⟨L2,hn2,hw⟩;have hw:Sat Rd (Zg L.ml (W.lds.map ZaB)::pts q (wdC W1 L)::Zaj Rd L.me (rj j).1::NAt Rd p n::Zu Rd ps k::Zy Rd L.dk W.dk::Zq Rd L.sn W.sent::Own L.ns 24 (ps.map ZW)::Zau L.ak W.ask::Hs) w:=hw.arr;obtain ⟨tm,htm⟩:∃ tm,tm=n.e.hd.tm:=⟨_,rfl⟩;rw [<-htm];have hlk:∀ w',w'=w->(Instr.lookup 85 (.map (some L.ml)) (.int .i64 tm) true).run prog w'=.ok (.tuple #[.int .i64 ((ZB tm W.lds).getD 0),.bool (ZB tm W.lds).isSome]) w':=λ w' h=>by
    subst h;have h2:=Zg.look mapL hw tm true;rw [if_pos rfl,Zbv (λ d=>Value.int .i64 d) tm W.lds] at h2;refine h2.trans ?_;cases ZB tm W.lds<;>rfl
   have upd:∀ {w:World} {g:Bool},g=((rj j).2 && (match ZB tm W.lds with|some x=>x==k|none=>true))->Sat Rd (Zg L.ml (W.lds.map ZaB)::pts q (wdC { W1 with good:=g } L)::Zaj Rd L.me (rj j).1::NAt Rd p n::Zu Rd ps k::Zy Rd L.dk W.dk::Zq Rd L.sn W.sent::Own L.ns 24 (ps.map ZW)::Zau L.ak W.ask::Hs) w->
     Zb (some ⟨q,0,none⟩) λ a=>∃ t:Option Nat,(At (λ w'=>w'=w) ⟨a.block,a.off + 5,none⟩ [.map t])/\∃ w',((Instr.mapUpdate 85 (.map t) (.int .i64 tm) (.int .i64 k)).run prog w=.ok () w')/\(Value.tuple #[]=.tuple #[]/\∃ R',R.Ext R'/\Sat R' (ZaH R' q pp { W1 with good:=(rj j).2 && (match ZB tm W.lds with|some x=>x==k|none=>true),lds:=ZcG tm (k:Int) W.lds }::Hs) w'):=λ {w g} hg hw=>by
    refine Zb.mk rfl ⟨some L.ml,At.own (eqS hw) (by exact ⟨rfl,trivial⟩),?_⟩;refine Zg.put mapL hw tm (.int .i64 k) λ w hw=>⟨rfl,Rd,eall,?_⟩;have e2:ZcG tm (Value.int .i64 k) (W.lds.map ZaB)=(ZcG tm (k:Int) W.lds).map ZaB:=Zgj (λ d=>Value.int .i64 d) tm (k:Int) W.lds;rw [e2] at hw;refine fin (W':={ W1 with good:=(rj j).2 && (match ZB tm W.lds with|some x=>x==k|none=>true),lds:=ZcG tm (k:Int) W.lds }) hf1.1 hf1.2.1 hf1.2.2.1 hf1.2.2.2.1 ?_
    rw [hg] at hw;have he:W1.ent=(rj j).1:=hf1.2.2.2.2.1;rw [<-he] at hw;exact hw
   have hgood:W1.good=(rj j).2:=by rw [hW1]
   have hsame:wdC { W1 with good:=(rj j).2 } L=wdC W1 L:=by rw [<-hgood]
   refine ⟨_,_,rfl,Zb.mk rfl ⟨some L.ml,At.own (eqS hw) (by exact ⟨rfl,trivial⟩),_,_,hlk,?_⟩⟩;refine Br.mk (λ hs=>?_) (λ hs=>?_)
   ·obtain ⟨x,hgm⟩:=Option.isSome_iff_exists.1 hs
    have hx0:(ZB tm W.lds).getD 0=x:=by rw [hgm];rfl
    refine Br.ne (λ h2=>Zb.mk rfl ?_) (λ h2=>?_)
    ·have hw:=hw.swap
     refine Za hw (by kernel_rfl) rfl (by simp [Value.cells,Zc]) λ w hw=>?_;have hw:=hw.re (pts q (wdC { W1 with good:=false } L));rw [hx0] at h2;have h3:(x==(k:Int))=false:=by simpa using h2
     exact upd (g:=false) (by rw [hgm];simp only [h3,Bool.and_false]) hw.swap
    ·rw [hx0] at h2
     have h3:(x==(k:Int))=true:=by simpa using h2
     exact upd (g:=(rj j).2) (by rw [hgm];simp only [h3,Bool.and_true]) (by rw [hsame];exact hw)
   ·have hgm:ZB tm W.lds=none:=by cases h:ZB tm W.lds with|none=>rfl|some x=>rw [h] at hs;cases hs
    exact upd (g:=(rj j).2) (by rw [hgm];simp) (by rw [hsame];exact hw)
  ·rw [if_neg (by simpa using h1)]
   have hw:Sat Rd (NAt Rd p n::pts q (wdC W1 L)::Zaj Rd L.me (rj j).1::Zg L.ml (W.lds.map ZaB)::Zu Rd ps k::Zy Rd L.dk W.dk::Zq Rd L.sn W.sent::Own L.ns 24 (ps.map ZW)::Zau L.ak W.ask::Hs) w:=NAt.iff.2 ⟨L2,hn2,hw⟩;refine ⟨rfl,Rd,eall,fin (W':=W1) hf1.1 hf1.2.1 hf1.2.2.1 hf1.2.2.2.1 ?_⟩;rw [hf1.2.2.2.2.1,hf1.2.2.2.2.2];exact hw.arr
end
section
open Go Go.VC Tryz
open Go.Rf (Ey Lg ZD)
variable {R R' R1 R2:Cx} {Hs Rest Rest2:List HP} {w:World} {p q:Nat} {n m:Rn}
theorem _root_.Go.VC.OwnN.storeZ {P:Program} {s:Sl} {T:TypeId} {n:Nat} {α:Type} {E:List α} {g:α->List Value} {t:TypeId} {v:Value} {k:Nat} {a:Addr} {K:World->Prop} (e':α) (hw:Sat R Hs w) [tk:Zfj (OwnN n s T (E.map g)) Hs Rest] (ha:s.a=some a) (hk:k<E.length)
  (hsz:(P.info? t).map (·.size)=some v.cells.toList.length) (h1:Zah v.cells.toList=true) (hj:v.cells.toList.length<=n) (he:ZdS (g E[k]) 0 v.cells.toList=g e')
  (h:∀ w',Sat R (OwnN n s T ((E.set k e').map g)::Rest) w'->K w'):
  ∃ w',(Instr.storeAt t (.pointer (some (Addr.add (Addr.add a (Zaf (k:Int).toNat n)) 0))) v).run P w=.ok () w'/\K w':=by
 have hw:=hw.perm tk.perm;have hg:(E.map g)[k]'(by simpa using hk)=g E[k]:=by simp
 have hb:∃ b off,a=⟨b,off,none⟩:=by
  obtain ⟨_,⟨rfl,_,_⟩|⟨b',rest,fr,cap,rfl,hl,hf,hp⟩⟩:=OwnN.cases hw
  ·cases ha
  ·simp only [Option.some.injEq] at ha;exact ⟨b',0,ha.symm⟩
 obtain ⟨b,off,rfl⟩:=hb;rw [Int.toNat_natCast,ZfN];refine OwnN.store hw ha hsz h1 (by simpa using hk) (by omega) λ w' h2=>h w' ?_;rw [hg,he] at h2;rw [List.map_set];exact h2
theorem ZmG {s t:Sl} {ms ns:List Mg} {K:Sl->World->Prop} (hw:Sat R (Zq R1 s ms::Zq R1 t ns::Hs) w) (hl:ms.length + ns.length<=100000000)
  (k:∀ s' w',Sat R (Zq R1 s' (ms++ns)::Hs) w'->K s' w'):
  ∃ w',∃ u:Sl,(Builtin.append_ #[ 41,41 ] 41 #[.slice s.a s.len s.cap,.slice t.a t.len t.cap]).run prog w=.ok (.slice u.a u.len u.cap) w'/\K u w':=by
 obtain ⟨l,⟨h1,h2⟩,hw⟩:=Zq.iff.1 hw;obtain ⟨l',⟨h3,h4⟩,hw⟩:=Zq.iff.1 hw.swap;have e1:l.length=ms.length:=by rw [<-h1,List.length_map]
 have e2:l'.length=ns.length:=by rw [<-h3,List.length_map]
 have hwid:=OwnN.wid hw;obtain ⟨R',ht,_,hw2,back⟩:=OwnN.lend hw;have hone:Zah (l'.map Zbn).flatten=true:=by
  unfold Zah;rw [List.all_eq_true];intro x hx;rw [List.mem_flatten] at hx;obtain ⟨r,hr,hx⟩:=hx;obtain ⟨e,_,rfl⟩:=List.mem_map.1 hr;simp only [Zbn,List.mem_cons,List.not_mem_nil,or_false] at hx;rcases hx with rfl|rfl|rfl|rfl|rfl|rfl|rfl|rfl|rfl|rfl|rfl|rfl|rfl|rfl|rfl|rfl<;>rfl
 refine ZaZ Zrn hw2 (ZiH Zrn.hk hw2 ht hone) hwid (by rw [List.length_map,List.length_map];omega) (by rw [List.length_map,List.length_map];omega) λ s' w' h=>k s' w' ?_;have h:=(back h).drop;rw [<-List.map_append] at h;exact Zq.iff.2 ⟨l++l',⟨by rw [List.map_append,h1,h3],λ t ht=>(List.mem_append.1 ht).elim (h2 t) (h4 t)⟩,h⟩
theorem RnA.out (h:RnA n):RnA n.out.2:=⟨⟨⟨h.b.g.lg,h.b.g.lb,h.b.g.sg,h.b.g.w1,h.b.g.w64⟩,h.b.pe,h.b.e,h.b.id,h.b.sn⟩,h.pk,h.sm⟩
structure ZmL (d:Dk):Prop where
 log:d.log.length<=1000000
 i0:0<=d.sn.ix
 i1:d.sn.ix<=1099511627776
 by':∀ e∈d.log,Zx e.dt
end
section
open Go Go.VC Tryz
open Go.Rf (Ey Lg ZD)
variable {R R' R1 R2:Cx} {Hs Rest Rest2:List HP} {w:World} {p q:Nat} {pp:List Nat} {n m:Rn}
theorem Zk9 {g:Lg} {i m:Int} (h:g.l.length<=2000000000):(g.get i m).length<=2000000001:=by
 unfold Lg.get;split
 ·simp
 ·rw [List.length_take,List.length_drop]
  unfold Lg.all;simp only [List.length_cons];omega
set_option maxRecDepth 20000 in
theorem Zjm {W:Wd} {k:Nat} {d:Dk} (hk:W.ns[k]? =some n) (hkd:W.dk[k]? =some d) (ha:RnA n) (hd:ZmL d) (hent:Zkh W.ent) (hsl:W.sent.length<=10000000) (hml:n.rms.length<=10000000) (hal:W.ask.length<=1000000) (hrl:n.rrd.length<=1000000) (hf0: -1099511627776<=n.rfr) (hf1:n.rfr<=1099511627776) (hll:n.log.l.length<=1000000000)
  (hw:Sat R (ZaH R q pp W::Hs) w):
  Zj prog 30 #[.pointer (some ⟨q,0,none⟩),.int .i64 k] w λ v w'=>v=.tuple #[]/\∃ R',R.Ext R'/\Sat R' (ZaH R' q pp (W.write k)::Hs) w':=by
 obtain ⟨L,ps,⟨hps,hpp⟩,hw⟩:=ZaH.iff.1 hw;have hkp:k<ps.length:=by
  have:=(List.getElem?_eq_some_iff.1 hk).1;rw [<-hps,List.length_map] at this;exact this
 have hpn:ps[k].2=n:=by
  have h1:=(List.getElem?_eq_some_iff.1 hk).2;simpa [<-hps] using h1
 obtain ⟨p,hp⟩:∃ p,p=ps[k].1:=⟨_,rfl⟩;apply Zqc;have hw:Sat R (pts q (wdC W L)::Own L.ns 24 (ps.map ZW)::ZH R ps::Zy R L.dk W.dk::Zq R L.sn W.sent::Zaj R L.me W.ent::Zg L.ml (W.lds.map ZaB)::Zau L.ak W.ask::Hs) w:=hw;refine Zb.mk rfl ⟨L.ns,At.own (eqS hw) (by exact ⟨rfl,trivial⟩),Own.idxP (T:=24) hw (eqS hw) k rfl hkp ?_⟩;rw [<-hp];have hw:=ZH.focus hkp (hw.take (ZH R ps));rw [<-hp,hpn] at hw;refine (Zmf ha.b.sn hw).use ?_;clear hw;rintro _ w ⟨R1,Lr,e1,hri,rfl,hw⟩;obtain ⟨r,hr⟩:∃ r,r=n.out.1:=⟨_,rfl⟩;obtain ⟨n1,hn1⟩:∃ n1,n1=n.out.2:=⟨_,rfl⟩;have ha1:RnA n1:=by rw [hn1];exact ha.out
 have hrf:r.fr=n.rfr:=by rw [hr];rfl
 have hrm:r.ms=n.rms:=by rw [hr];rfl
 have hrd:r.rd=n.rrd:=by rw [hr];rfl
 have hlog:n1.log=n.log:=by rw [hn1];rfl
 rw [<-hr] at hri hw ⊢;rw [<-hn1] at hw;refine ⟨r.hn,r.hd.tm,r.hd.vt,r.sn',r.sn.ix,r.sn.tm,Lr.v,Lr.l,Lr.d,r.fr,Lr.ms,Lr.rr,rfl,Zd hw λ b4 w hw=>?_⟩;refine Za hw (by kernel_rfl) rfl (by simp [Value.cells,Zc]) λ w hw=>?_;have hw:=hw.re (pts b4 (Zs r Lr));have hw:Sat R1 (Zy R L.dk W.dk::pts b4 (Zs r Lr)::Zq R1 Lr.ms r.ms::ZN Lr.rr r.rd::NAt R1 p n1::pts q (wdC W L)::Own L.ns 24 (ps.map ZW)::Zu R ps k::Zq R L.sn W.sent::Zaj R L.me W.ent::Zg L.ml (W.lds.map ZaB)::Zau L.ak W.ask::Hs) w:=hw.arr;obtain ⟨xs,⟨hxs,hxd⟩,hw⟩:=Zy.iff.1 hw;have hkx:k<xs.length:=by
  have:=(List.getElem?_eq_some_iff.1 hkd).1;rw [<-hxs,List.length_map] at this;exact this
 have hxk:xs[k].2=d:=by
  have h1:=(List.getElem?_eq_some_iff.1 hkd).2;simpa [<-hxs] using h1
 have hset:∀ y:DLo × Dk,k<(xs.set k y).length:=λ y=>by rw [List.length_set];exact hkx
 have hsetk:∀ y:DLo × Dk,(xs.set k y)[k]'(hset y)=y:=λ y=>by simp
 refine Zb.mk rfl ⟨L.dk,At.own (eqS hw) (by exact ⟨rfl,trivial⟩),?_⟩;refine (OwnN.readsM (T:=141) (n:=8) (s:=L.dk) (rows:=xs.map Z8) hw (eqS hw)).rngI (g:=Z8) k rfl hkx λ a hka _=>?_
 -- the hard state
 refine ⟨λ w=>∃ y:DLo × Dk,y.2=d.hard r/\Zl0 R1 y.2 y.1/\Sat R1 (OwnN 8 L.dk 141 ((xs.set k y).map Z8)::pts b4 (Zs r Lr)::Zq R1 Lr.ms r.ms::ZN Lr.rr r.rd::NAt R1 p n1::pts q (wdC W L)::Own L.ns 24 (ps.map ZW)::Zu R ps k::Zq R L.sn W.sent::Zaj R L.me W.ent::Zg L.ml (W.lds.map ZaB)::Zau L.ak W.ask::Hs) w,?_,?_⟩
 ·have hdk:=(hxd xs[k] (List.getElem_mem hkx)).ext e1
  refine ⟨r.hn,At.own (eqS hw) (by exact ⟨rfl,trivial⟩),Br.mk (λ h=>⟨r.hd.tm,r.hd.vt,At.own (eqS hw) (by exact ⟨rfl,rfl,trivial⟩),?_⟩) (λ h=>⟨xs[k],by rw [hxk];unfold Dk.hard;rw [if_neg (by rw [h];simp)],hdk,by rw [List.set_getElem_self];exact hw⟩)⟩;refine OwnN.storeZ (n:=8) (s:=L.dk) (T:=141) (E:=xs) (g:=Z8) (xs[k].1,{ d with hd:=r.hd }) hw hka hkx (by kernel_rfl) rfl (by simp [Value.cells]) (by rw [<-hxk];rfl) λ w hw=>?_;exact ⟨_,by unfold Dk.hard;rw [if_pos h],by rw [hxk] at hdk;exact ⟨hdk.g,hdk.d,hdk.es,hdk.dr,hdk.ee,hdk.ec⟩,hw⟩
 clear hw;rintro _ w ⟨y,hy,hyd,hw⟩
 -- the snapshot
 refine ⟨λ w=>∃ y:DLo × Dk,y.2=(d.hard r).snap r/\Zl0 R1 y.2 y.1/\Sat R1 (OwnN 8 L.dk 141 ((xs.set k y).map Z8)::pts b4 (Zs r Lr)::Zq R1 Lr.ms r.ms::ZN Lr.rr r.rd::NAt R1 p n1::pts q (wdC W L)::Own L.ns 24 (ps.map ZW)::Zu R ps k::Zq R L.sn W.sent::Zaj R L.me W.ent::Zg L.ml (W.lds.map ZaB)::Zau L.ak W.ask::Hs) w,?_,?_⟩
 ·refine ⟨r.sn',At.own (eqS hw) (by exact ⟨rfl,trivial⟩),Br.mk (λ h=>⟨r.sn.ix,r.sn.tm,Lr.v,Lr.l,Lr.d,At.own (eqS hw) (by exact ⟨rfl,rfl,rfl,rfl,rfl,trivial⟩),?_⟩) (λ h=>⟨y,by rw [hy];unfold Dk.snap;rw [if_neg (by rw [h];simp)],hyd,hw⟩)⟩
  refine OwnN.storeM (n:=8) (s:=L.dk) (T:=141) (E:=xs.set k y) (g:=Z8) 2 (⟨Lr.v,Lr.l,Lr.d,y.1.s,y.1.ds⟩,{ y.2 with sn:=r.sn }) hw hka (hset y) (by kernel_rfl) rfl (by simp [Value.cells]) (by rw [hsetk];rfl) λ w hw=>?_;rw [List.set_set] at hw;refine OwnN.storeM (n:=8) (s:=L.dk) (T:=141) (E:=xs.set k (⟨Lr.v,Lr.l,Lr.d,y.1.s,y.1.ds⟩,{ y.2 with sn:=r.sn })) (g:=Z8) 7 (⟨Lr.v,Lr.l,Lr.d,⟨none,0,0⟩,[]⟩,{ y.2 with sn:=r.sn,log:=[] }) hw hka (hset _) (by kernel_rfl) rfl (by simp [Value.cells]) (by rw [hsetk];rfl) λ w hw=>?_;rw [List.set_set] at hw;exact ⟨_,by unfold Dk.snap;rw [if_pos h,<-hy],⟨hri.g,hri.d,⟨Wid.nil,rfl,λ h=>absurd rfl h⟩,.nil,rfl,Nat.le_refl _⟩,hw⟩
 clear hw hyd hy y;rintro _ w ⟨y,hy,hyd,hw⟩;have hyix:0<=y.2.sn.ix/\y.2.sn.ix<=1099511627776:=by
  rw [hy];unfold Dk.snap;split
  ·rename_i h
   have h1:r.sn=n.sn:=by
    have h2:n.rsn=true:=by rw [hr] at h;exact h
    rw [hr];show (if n.rsn then n.sn else sn0)=_;rw [if_pos h2]
   have:=ha.b.sn;unfold ZE Z3 at this;simp only [Bool.and_eq_true,decide_eq_true_eq] at this;show 0<=r.sn.ix/\r.sn.ix<=_;rw [h1];exact this.1.1.1
  ·show 0<=(d.hard r).sn.ix/\_
   have:(d.hard r).sn=d.sn:=by unfold Dk.hard;split<;>rfl
   rw [this];exact ⟨hd.i0,hd.i1⟩
 have hyll:y.2.log.length<=1000000:=by
  rw [hy];unfold Dk.snap;split
  ·show ([]:List Ey).length<=_;simp
  ·have:(d.hard r).log=d.log:=by unfold Dk.hard;split<;>rfl
   rw [this];exact hd.log
 have hysl:y.1.s.len=y.2.log.length:=by have:=hyd.es.len;rw [<-hyd.ee];simpa using this
 have hydl:y.1.ds.length=y.2.log.length:=by rw [<-hyd.ee,List.length_map]
 -- the entries
 refine ⟨λ w=>∃ (R2:Cx) (y:DLo × Dk),R1.Ext R2/\y.2=d.write r n1/\Zl0 R2 y.2 y.1/\Sat R2 (OwnN 8 L.dk 141 ((xs.set k y).map Z8)::pts b4 (Zs r Lr)::Zq R1 Lr.ms r.ms::ZN Lr.rr r.rd::NAt R2 p n1::pts q (wdC W L)::Own L.ns 24 (ps.map ZW)::Zu R ps k::Zq R L.sn W.sent::Zaj R L.me W.ent::Zg L.ml (W.lds.map ZaB)::Zau L.ak W.ask::Hs) w,?_,?_⟩
 ·refine ⟨r.fr,At.own (eqS hw) (by exact ⟨rfl,trivial⟩),Br.d (λ h=>?_) (λ h=>⟨R1,y,.refl,by rw [hy];unfold Dk.write Dk.ents;rw [if_neg h],hyd,hw⟩)⟩
  have hel:∀ {S:World->Prop},(∀ w,S w->Sat R1 (OwnN 8 L.dk 141 ((xs.set k y).map Z8)::[VC.tru]) w)->Elt 8 S a k (Z8 y):=λ hS=>by
   have h2:=(OwnN.readsM (T:=141) (n:=8) (s:=L.dk) (rows:=(xs.set k y).map Z8) (hw.k1 (A:=OwnN 8 L.dk 141 ((xs.set k y).map Z8))) hS).eltM (g:=Z8) (hset y) hka;rwa [hsetk] at h2
  have eqk:∀ w',w'=w->Sat R1 (OwnN 8 L.dk 141 ((xs.set k y).map Z8)::[VC.tru]) w':=λ w' e=>by rw [e];exact hw.k1
  obtain ⟨κ,hκ⟩:∃ κ,κ=y.2.keep r.fr:=⟨_,rfl⟩;have hκl:κ<=y.2.log.length:=by rw [hκ];unfold Dk.keep;omega
  have hfr:0<r.fr/\r.fr<=1099511627776:=by rw [hrf] at h ⊢;omega
  have hκe:(if (if (y.1.s.len:Int)<IntKind.i64.wrap (IntKind.i64.wrap (r.fr - 1) - y.2.sn.ix) then (y.1.s.len:Int) else IntKind.i64.wrap (IntKind.i64.wrap (r.fr - 1) - y.2.sn.ix))>0 then if (y.1.s.len:Int)<IntKind.i64.wrap (IntKind.i64.wrap (r.fr - 1) - y.2.sn.ix) then (y.1.s.len:Int) else IntKind.i64.wrap (IntKind.i64.wrap (r.fr - 1) - y.2.sn.ix) else 0)=(κ:Int):=by
   rw [Zh (x:=r.fr - 1) (by omega) (by omega),Zh (by omega) (by omega),hκ,hysl];unfold Dk.keep;split<;>split<;>omega
  obtain ⟨S1,hS1⟩:∃ S1:World->Prop,S1=Sat R1 [OwnN 8 L.dk 141 ((xs.set k y).map Z8),pts q (wdC W L),Own L.ns 24 (ps.map ZW),pts b4 (Zs r Lr),VC.tru]:=⟨_,rfl⟩;have toS:∀ {w Hs'},Sat R1 (OwnN 8 L.dk 141 ((xs.set k y).map Z8)::pts q (wdC W L)::Own L.ns 24 (ps.map ZW)::pts b4 (Zs r Lr)::Hs') w->S1 w:=λ h=>by
   rw [hS1];exact Sat.toTru (As:=[OwnN 8 L.dk 141 ((xs.set k y).map Z8),pts q (wdC W L),Own L.ns 24 (ps.map ZW),pts b4 (Zs r Lr)]) h
  have ofS:∀ w,S1 w->Sat R1 [OwnN 8 L.dk 141 ((xs.set k y).map Z8),pts q (wdC W L),Own L.ns 24 (ps.map ZW),pts b4 (Zs r Lr),VC.tru] w:=λ w h=>by rw [hS1] at h;exact h
  have hw:Sat R1 (OwnN 8 L.dk 141 ((xs.set k y).map Z8)::pts q (wdC W L)::Own L.ns 24 (ps.map ZW)::pts b4 (Zs r Lr)::NAt R1 p n1::Zq R1 Lr.ms r.ms::ZN Lr.rr r.rd::Zu R ps k::Zq R L.sn W.sent::Zaj R L.me W.ent::Zg L.ml (W.lds.map ZaB)::Zau L.ak W.ask::Hs) w:=hw.arr;refine Zi (λ w'=>w'=w') hw (λ _ _=>rfl) λ w hw=>?_;have eqk:∀ w',w'=w->Sat R1 (OwnN 8 L.dk 141 ((xs.set k y).map Z8)::[VC.tru]) w':=λ w' e=>by rw [e];exact hw.k1
  refine ⟨r.fr,At.own (eqS hw) (by exact ⟨rfl,trivial⟩),y.2.sn.ix,(hel eqk).f 2 (by exact ⟨rfl,trivial⟩),y.1.s,(hel eqk).f 7 (by exact ⟨rfl,trivial⟩),?_⟩;refine Zi S1 hw (λ w hw=>toS hw) λ w hw=>⟨y.1.s,(hel (λ w h=>(ofS w h).k1)).f 7 (by exact ⟨rfl,trivial⟩),?_⟩;rw [hκe];have hyc:=hyd.ec;refine ⟨by omega,by omega,Zb.mk rfl ⟨L.ns,At.own ofS (by exact ⟨rfl,trivial⟩),Own.idxP (T:=24) (hw.k1 (A:=Own L.ns 24 (ps.map ZW))) (λ w h=>(ofS w h).k1) k rfl hkp ?_⟩⟩;rw [<-hp,Int.toNat_natCast];refine ⟨r.fr,At.own ofS (by exact ⟨rfl,trivial⟩),y.2.sn.ix,(hel (λ w h=>(ofS w h).k1)).f 2 (by exact ⟨rfl,trivial⟩),Zd hw λ b60 w hw=>?_⟩;refine ⟨toS (hw.drop),?_⟩;have hrk:=hyd.es.take (h:=κ) (by rw [List.length_map];omega) y.1.s.cap;rw [<-List.map_take] at hrk;have hsrc:=ZiH (P:=prog) ⟨_,underlying46⟩ hw hrk (Zew _);have hkl:=List.length_take_le κ y.1.ds;refine Zdq (b:=b60) elE hw hsrc (Zeg _) (by rw [List.length_map];omega) (by rw [List.length_map];omega) λ t67 w hw=>⟨toS hw.drop,?_⟩;rw [Zh (by omega) (by omega),show (if y.2.sn.ix + 1>r.fr then y.2.sn.ix + 1 else r.fr)=max r.fr (y.2.sn.ix + 1) by split<;>omega]
  refine (Zdi ha1.b.g.lg (max r.fr (y.2.sn.ix + 1)) 100000 (hw.take (NAt R1 p n1))).use ?_;clear hw;rintro _ w ⟨R2,t84,ds2,e2,hd2,he2,rfl,hw⟩;have hw:Sat R2 (Zao t67 (y.1.ds.take κ)::Zao t84 ds2::NAt R2 p n1::OwnN 8 L.dk 141 ((xs.set k y).map Z8)::pts q (wdC W L)::Own L.ns 24 (ps.map ZW)::pts b4 (Zs r Lr)::Zq R1 Lr.ms r.ms::ZN Lr.rr r.rd::Zu R ps k::Zq R L.sn W.sent::Zaj R L.me W.ent::Zg L.ml (W.lds.map ZaB)::Zau L.ak W.ask::Hs) w:=hw.arr;have hd2l:ds2.length<=2000000001:=by
   have h1:=congrArg List.length he2;rw [List.length_map] at h1;rw [h1];exact Zk9 (by rw [hlog];omega)
  refine ⟨t84,rfl,?_⟩;refine ZgN hw (by omega) λ t85 w hw=>?_;have hcap:=OwnN.cap (by omega) hw;obtain ⟨R3,e3,hro3,hw⟩:=OwnN.leak hw;have e13:=e2.trans e3;have hw:Sat R3 (Zao t84 ds2::OwnN 8 L.dk 141 ((xs.set k y).map Z8)::pts b4 (Zs r Lr)::Zq R1 Lr.ms r.ms::ZN Lr.rr r.rd::NAt R2 p n1::pts q (wdC W L)::Own L.ns 24 (ps.map ZW)::Zu R ps k::Zq R L.sn W.sent::Zaj R L.me W.ent::Zg L.ml (W.lds.map ZaB)::Zau L.ak W.ask::Hs) w:=hw.arr;have hw:=hw.drop;obtain ⟨z,hz⟩:∃ z:DLo × Dk,z=(⟨y.1.v,y.1.l,y.1.d,t85,y.1.ds.take κ++ds2⟩,{ y.2 with log:=y.2.log.take κ++n1.log.get (max r.fr (y.2.sn.ix + 1)) 100000 }):=⟨_,rfl⟩;refine OwnN.storeM (n:=8) (s:=L.dk) (T:=141) (E:=xs.set k y) (g:=Z8) 7 z hw hka (hset y) (by kernel_rfl) rfl (by simp [Value.cells]) (by rw [hsetk,hz];rfl) λ w hw=>?_;rw [List.set_set] at hw;have hw:=NAt.ext (hw.take (NAt R2 p n1)) e3;refine ⟨R3,z,e13,?_,?_,hw.arr⟩
  ·rw [show d.write r n1=((d.hard r).snap r).ents r n1 from rfl,<-hy,hz]
   unfold Dk.ents;rw [if_pos h,<-hκ]
  ·rw [hz]
   refine ⟨hyd.g.ext e13,e13.slR hyd.d,hro3,((hyd.dr.ext e13).take κ).app (hd2.ext e3),?_,hcap⟩;simp only [erE,List.map_append,List.map_take] at he2 ⊢;rw [he2,show y.1.ds.map (·.2)=y.2.log from hyd.ee]
 clear hw hyd hy hyix hyll hysl hydl y;rintro _ w ⟨R2,y,e2,hy,hyd,hw⟩;have e12:=e1.trans e2
 -- what is sent
 have hw:Sat R2 (Zq R2 L.sn W.sent::Zq R2 Lr.ms r.ms::pts q (wdC W L)::pts b4 (Zs r Lr)::ZN Lr.rr r.rd::Zau L.ak W.ask::OwnN 8 L.dk 141 ((xs.set k y).map Z8)::NAt R2 p n1::Own L.ns 24 (ps.map ZW)::Zu R2 ps k::Zaj R2 L.me W.ent::Zg L.ml (W.lds.map ZaB)::Hs) w:=by
  have h:Sat R2 (Zq R L.sn W.sent::Zq R1 Lr.ms r.ms::Zu R ps k::Zaj R L.me W.ent::pts q (wdC W L)::pts b4 (Zs r Lr)::ZN Lr.rr r.rd::Zau L.ak W.ask::OwnN 8 L.dk 141 ((xs.set k y).map Z8)::NAt R2 p n1::Own L.ns 24 (ps.map ZW)::Zg L.ml (W.lds.map ZaB)::Hs) w:=hw.arr;have h:Sat R2 (Zq R2 L.sn W.sent::Zq R2 Lr.ms r.ms::Zu R2 ps k::Zaj R2 L.me W.ent::pts q (wdC W L)::pts b4 (Zs r Lr)::ZN Lr.rr r.rd::Zau L.ak W.ask::OwnN 8 L.dk 141 ((xs.set k y).map Z8)::NAt R2 p n1::Own L.ns 24 (ps.map ZW)::Zg L.ml (W.lds.map ZaB)::Hs) w:=
   (Zq.ext h e12).cons λ _ h=>(Zq.ext h e2).cons λ _ h=>(Zu.ext h e12).cons λ _ h=>Zaj.ext h e12
  exact h.arr
 refine Zm hw λ w hw=>Zb.mk rfl ⟨L.sn,At.own (eqS hw) (by exact ⟨rfl,trivial⟩),Lr.ms,At.own (eqS hw) (by exact ⟨rfl,trivial⟩),?_⟩;refine ZmG hw (by rw [hrm];omega) λ s2 w hw=>Zb.mk rfl ?_;refine Za hw (by kernel_rfl) rfl (by simp [Value.cells,Zc]) λ w hw=>?_;obtain ⟨L2,hL2⟩:∃ L2:WLo,L2={ L with sn:=s2 }:=⟨_,rfl⟩;obtain ⟨gd,hgd⟩:∃ gd:Nat->Bool,gd=λ i=>W.good && !Zb5 W.ask (r.rd.take i):=⟨_,rfl⟩;have hw:=hw.re (pts q (wdC { W with good:=gd 0 } L2)) (by rw [hL2,hgd];simp [Zb5];rfl);have hrl':Lr.rr.len=r.rd.length:=by have:=OwnN.len (hw.take (ZN Lr.rr r.rd));simpa using this
 have hakl:L.ak.len=W.ask.length:=by have:=OwnN.len (hw.take (Zau L.ak W.ask));simpa using this
 obtain ⟨RS,hRS⟩:∃ RS:List HP,RS=Zq R2 s2 (W.sent++r.ms)::OwnN 8 L.dk 141 ((xs.set k y).map Z8)::NAt R2 p n1::Own L.ns 24 (ps.map ZW)::Zu R2 ps k::Zaj R2 L.me W.ent::Zg L.ml (W.lds.map ZaB)::Hs:=⟨_,rfl⟩;have hw:Sat R2 (pts q (wdC { W with good:=gd 0 } L2)::pts b4 (Zs r Lr)::ZN Lr.rr r.rd::Zau L2.ak W.ask::RS) w:=by
  rw [hRS,hL2];rw [hL2] at hw;exact hw.arr
 have hrl2:r.rd.length<=1000000:=by rw [hrd];exact hrl
 have hakl:L2.ak.len=W.ask.length:=by rw [hL2];exact hakl
 refine ⟨λ i w=>∃ j:Nat,i=j/\j<=r.rd.length/\Sat R2 (pts q (wdC { W with good:=gd j } L2)::pts b4 (Zs r Lr)::ZN Lr.rr r.rd::Zau L2.ak W.ask::RS) w,λ i _=>r.rd.length - i.toNat,⟨0,rfl,Nat.zero_le _,hw⟩,?_⟩;clear hw;rintro _ _ w ⟨i,rfl,hi,hw⟩;refine ⟨Lr.rr,At.own (eqS hw) (by exact ⟨rfl,trivial⟩),Br.d (λ h=>?_) (λ h=>?_)⟩
 ·have hil:i<r.rd.length:=by omega
  obtain ⟨x,hx⟩:∃ x,x=r.rd[i]:=⟨_,rfl⟩;obtain ⟨ge,hge⟩:∃ ge:Nat->Bool,ge=λ m=>gd i && !((W.ask.take m).any λ a=>a.1==x.1 && decide (x.2<a.2)):=⟨_,rfl⟩;have hge0:ge 0=gd i:=by rw [hge];simp
  have hgeL:ge W.ask.length=gd (i + 1):=by
   rw [hge,hgd];dsimp only;rw [List.take_length,List.take_succ_eq_append_getElem hil,<-hx];unfold Zb5;rw [List.any_append];simp [Bool.and_assoc]
  refine ⟨λ jj w=>∃ m:Nat,jj=m/\m<=W.ask.length/\Sat R2 (pts q (wdC { W with good:=ge m } L2)::pts b4 (Zs r Lr)::ZN Lr.rr r.rd::Zau L2.ak W.ask::RS) w,λ jj _=>W.ask.length - jj.toNat,⟨0,rfl,Nat.zero_le _,by rw [hge0];exact hw⟩,?_⟩;clear hw;rintro _ _ w ⟨m,rfl,hm,hw⟩;refine Zb.mk rfl ⟨L2.ak,At.own (eqS hw) (by exact ⟨rfl,trivial⟩),Br.d (λ h2=>?_) (λ h2=>?_)⟩
  ·have hml2:m<W.ask.length:=by omega
   obtain ⟨y2,hy2⟩:∃ y2,y2=W.ask[m]:=⟨_,rfl⟩;have hgs:ge (m + 1)=(ge m && !(y2.1==x.1 && decide (x.2<y2.2))):=by
    rw [hge];dsimp only;rw [List.take_succ_eq_append_getElem hml2,<-hy2,List.any_append];simp [Bool.and_assoc]
   have nx:∀ {w:World},Sat R2 (pts q (wdC { W with good:=ge (m + 1) } L2)::pts b4 (Zs r Lr)::ZN Lr.rr r.rd::Zau L2.ak W.ask::RS) w->(∃ m':Nat,IntKind.i64.wrap ((m:Int) + 1)=m'/\m'<=W.ask.length/\Sat R2 (pts q (wdC { W with good:=ge m' } L2)::pts b4 (Zs r Lr)::ZN Lr.rr r.rd::Zau L2.ak W.ask::RS) w)/\W.ask.length - (IntKind.i64.wrap ((m:Int) + 1)).toNat<W.ask.length - ((m:Int)).toNat:=λ hw=>by
    rw [Zh (by omega) (by omega)];exact ⟨⟨m + 1,by omega,hml2,hw⟩,by omega⟩
   refine Zm hw λ w hw=>Zb.mk rfl ⟨L2.ak,At.own (eqS hw) (by exact ⟨rfl,trivial⟩),?_⟩;have rk:ReadsN 2 L2.ak (W.ask.map Zbb) (λ w'=>w'=w):=OwnN.readsM (T:=144) hw (eqS hw);have rr:ReadsN 2 Lr.rr (r.rd.map Zbb) (λ w'=>w'=w):=OwnN.readsM (T:=50) hw (eqS hw);refine rk.rngI (g:=Zbb) m rfl hml2 λ _ _ el=>⟨y2.1,by rw [hy2];exact el.zz (by exact ⟨rfl,trivial⟩),Lr.rr,At.own (eqS hw) (by exact ⟨rfl,trivial⟩),?_⟩;refine rr.rngI (g:=Zbb) i rfl hil λ _ _ fl=>⟨x.1,by rw [hx];exact fl.zz (by exact ⟨rfl,trivial⟩),Br.e (λ h3=>⟨Lr.rr,At.own (eqS hw) (by exact ⟨rfl,trivial⟩),?_⟩) (λ h3=>nx (by rw [hgs,show (y2.1==x.1)=false by simpa using h3];simpa using hw))⟩;refine rr.rngI (g:=Zbb) i rfl hil λ _ _ fl=>⟨x.2,by rw [hx];exact fl.f 1 (by exact ⟨rfl,trivial⟩),Zb.mk rfl ⟨L2.ak,At.own (eqS hw) (by exact ⟨rfl,trivial⟩),?_⟩⟩;refine rk.rngI (g:=Zbb) m rfl hml2 λ _ _ el=>⟨y2.2,by rw [hy2];exact el.f 1 (by exact ⟨rfl,trivial⟩),Br.d (λ h4=>Zb.mk rfl ?_) (λ h4=>nx (by rw [hgs,decide_eq_false h4,Bool.and_false];simpa using hw))⟩;refine Za hw (by kernel_rfl) rfl (by simp [Value.cells,Zc]) λ w hw=>?_;have e:ge (m + 1)=false:=by rw [hgs,show (y2.1==x.1)=true by simpa using h3,decide_eq_true h4];simp
   exact nx (by rw [e];exact hw.re (pts q (wdC { W with good:=false } L2)))
  ·have hme:m=W.ask.length:=by omega
   subst hme;rw [hgeL] at hw;rw [Zh (by omega) (by omega)];exact ⟨⟨i + 1,by omega,hil,hw⟩,by dsimp only;omega⟩
 ·have hie:i=r.rd.length:=by omega
  subst hie;have hgl:gd r.rd.length=(W.good && !Zb5 W.ask r.rd):=by rw [hgd];dsimp only;rw [List.take_length]
  rw [hgl] at hw;obtain ⟨W2,hW2⟩:∃ W2:Wd,W2={ W with ns:=W.ns.set k n1,dk:=W.dk.set k (d.write r n1),sent:=W.sent++r.ms,good:=W.good && !Zb5 W.ask r.rd }:=⟨_,rfl⟩;have hwr:W.write k=W2.look k n1:=by
   unfold Wd.write;rw [hk,hkd,hW2,hr,hn1]
  rw [hwr];have hns2:W2.ns=W.ns.set k n1:=by rw [hW2]
  have hw:Sat R2 (ZaH R2 q pp W2::Hs) w:=by
   refine ZaH.iff.2 ⟨L2,ps.set k (p,n1),⟨by rw [List.map_set,hps,hns2],?_⟩,?_⟩
   ·rw [List.map_set,<-hpp]
    have e:p=(ps.map (·.1))[k]'(by simpa using hkp):=by simp [hp]
    show (ps.map (·.1)).set k p=_;rw [e,List.set_getElem_self]
   rw [hRS] at hw;have hw:Sat R2 (OwnN 8 L.dk 141 ((xs.set k y).map Z8)::NAt R2 (p,n1).1 (p,n1).2::Zu R2 ps k::pts q (wdC { W with good:=W.good && !Zb5 W.ask r.rd } L2)::Zq R2 s2 (W.sent++r.ms)::Own L.ns 24 (ps.map ZW)::Zaj R2 L.me W.ent::Zg L.ml (W.lds.map ZaB)::Zau L2.ak W.ask::pts b4 (Zs r Lr)::ZN Lr.rr r.rd::Hs) w:=hw.arr;have hw:Sat R2 (Zy R2 L.dk (W.dk.set k (d.write r n1))::NAt R2 (p,n1).1 (p,n1).2::Zu R2 ps k::pts q (wdC { W with good:=W.good && !Zb5 W.ask r.rd } L2)::Zq R2 s2 (W.sent++r.ms)::Own L.ns 24 (ps.map ZW)::Zaj R2 L.me W.ent::Zg L.ml (W.lds.map ZaB)::Zau L2.ak W.ask::pts b4 (Zs r Lr)::ZN Lr.rr r.rd::Hs) w:=by
    refine Zy.iff.2 ⟨xs.set k y,⟨by rw [List.map_set,hxs,hy],λ t ht=>?_⟩,hw⟩;rcases List.mem_or_eq_of_mem_set ht with h1|h1
    ·exact (hxd t h1).ext e12
    ·rw [h1];exact hyd
   have hw:=(hw.swap).cons λ _ h=>h;have hw:Sat R2 (NAt R2 (p,n1).1 (p,n1).2::Zu R2 ps k::Zy R2 L.dk (W.dk.set k (d.write r n1))::pts q (wdC { W with good:=W.good && !Zb5 W.ask r.rd } L2)::Zq R2 s2 (W.sent++r.ms)::Own L.ns 24 (ps.map ZW)::Zaj R2 L.me W.ent::Zg L.ml (W.lds.map ZaB)::Zau L2.ak W.ask::pts b4 (Zs r Lr)::ZN Lr.rr r.rd::Hs) w:=hw.arr;have hw:=Zu.close hkp hw;have eptr:(ps.set k (p,n1)).map ZW=ps.map ZW:=by
    rw [List.map_set];have e:ZW (p,n1)=(ps.map ZW)[k]'(by simpa using hkp):=by simp [hp]
    rw [e,List.set_getElem_self]
   rw [eptr,hW2,hL2];rw [hL2] at hw;have hw:Sat R2 (pts b4 (Zs r Lr)::ZN Lr.rr r.rd::pts q (wdC { W with ns:=W.ns.set k n1,dk:=W.dk.set k (d.write r n1),sent:=W.sent++r.ms,good:=W.good && !Zb5 W.ask r.rd } { L with sn:=s2 })::Own L.ns 24 (ps.map ZW)::ZH R2 (ps.set k (p,n1))::Zy R2 L.dk (W.dk.set k (d.write r n1))::Zq R2 s2 (W.sent++r.ms)::Zaj R2 L.me W.ent::Zg L.ml (W.lds.map ZaB)::Zau L.ak W.ask::Hs) w:=by
    have h:Sat R2 (pts b4 (Zs r Lr)::ZN Lr.rr r.rd::pts q (wdC { W with good:=W.good && !Zb5 W.ask r.rd } { L with sn:=s2 })::Own L.ns 24 (ps.map ZW)::ZH R2 (ps.set k (p,n1))::Zy R2 L.dk (W.dk.set k (d.write r n1))::Zq R2 s2 (W.sent++r.ms)::Zaj R2 L.me W.ent::Zg L.ml (W.lds.map ZaB)::Zau L.ak W.ask::Hs) w:=hw.arr;exact h
   exact hw.drop.drop
  refine (Zk8 (W:=W2) (k:=k) (n:=n1) (by rw [hns2];have:=(List.getElem?_eq_some_iff.1 hk).1;simp [this]) ha1 (by rw [hW2];exact hent) hw).use ?_;clear hw;rintro _ w ⟨rfl,R3,e3,hw⟩;exact ⟨rfl,rfl,R3,e12.trans e3,hw⟩
end
section
open Go Go.VC Tryz
open Go.Rf (Ey Lg ZD)
variable {R R' R1 R2:Cx} {Hs Rest Rest2:List HP} {w:World} {p q:Nat} {n m:Rn}
theorem Zfo {W:Wd} {L:WLo} {vs:List Value} {k:Nat} {d:Dk} (hkv:k<vs.length) (hkd:W.dk[k]? =some d) (hd:ZmL d) (hk20:k<=20) (hw:Sat R (pts q (wdC W L)::Own L.ns 24 vs::Zy R L.dk W.dk::Hs) w):
  Zj prog 77 #[.pointer (some ⟨q,0,none⟩),.int .i64 k] w λ v w'=>
   (Wd.startN d k=none/\v=.bool false/\Sat R (pts q (wdC W L)::Own L.ns 24 vs::Zy R L.dk W.dk::Hs) w')\/
   ∃ p n R',Wd.startN d k=some n/\v=.bool true/\R.Ext R'/\Sat R' (NAt R' p n::pts q (wdC W L)::Own L.ns 24 (vs.set k (.pointer (some ⟨p,0,none⟩)))::Zy R L.dk W.dk::Hs) w':=by
 apply ZpI;have hw:Sat R (Zy R L.dk W.dk::pts q (wdC W L)::Own L.ns 24 vs::Hs) w:=hw.arr;obtain ⟨xs,⟨hxs,hxd⟩,hw⟩:=Zy.iff.1 hw;have hkx:k<xs.length:=by
  have:=(List.getElem?_eq_some_iff.1 hkd).1;rw [<-hxs,List.length_map] at this;exact this
 have hxk:xs[k].2=d:=by
  have h1:=(List.getElem?_eq_some_iff.1 hkd).2;simpa [<-hxs] using h1
 obtain ⟨lo,hlo⟩:∃ lo,lo=xs[k].1:=⟨_,rfl⟩;have hx:xs[k]=(lo,d):=by rw [hlo,<-hxk]
 have hdk:Zl0 R d lo:=by have:=hxd xs[k] (List.getElem_mem hkx);rwa [hx] at this
 refine Zb.mk rfl ⟨L.dk,At.own (eqS hw) (by exact ⟨rfl,trivial⟩),?_⟩;refine (OwnN.readsM (T:=141) (n:=8) (s:=L.dk) (rows:=xs.map Z8) hw (eqS hw)).rngI (g:=Z8) k rfl hkx λ a hka el=>?_;rw [hx] at el;refine ⟨d.hd.tm,d.hd.vt,d.sn.ix,d.sn.tm,lo.v,lo.l,lo.d,lo.s,el.z (by exact ⟨rfl,rfl,rfl,rfl,rfl,rfl,rfl,rfl,trivial⟩),Zd hw λ b5 w hw=>?_⟩;refine Za hw (by kernel_rfl) rfl (by simp [Value.cells,Zc]) λ w hw=>?_;have hw:=hw.re (pts b5 (.cells (Z8 (lo,d)).toArray 141 (0,0)));refine ⟨d.hd.tm,d.hd.vt,At.own (eqS hw) (by exact ⟨rfl,rfl,trivial⟩),d.sn.ix,d.sn.tm,lo.v,lo.l,lo.d,At.own (eqS hw) (by exact ⟨rfl,rfl,rfl,rfl,rfl,trivial⟩),lo.s,At.own (eqS hw) (by exact ⟨rfl,trivial⟩),?_⟩;rw [Zh (by omega) (by omega)];have hds:lo.ds.length=d.log.length:=by rw [<-hdk.ee,List.length_map]
 refine (Zg4 (A:=pur True) (h:=d.hd) (s:=d.sn) (v:=lo.v) (l:=lo.l) (d:=lo.d) (ls:=lo.s) (ds:=lo.ds) ((k:Int) + 1) 3 2 hdk.g hdk.d (.ro hdk.es) hdk.dr (λ e he=>hd.by' e.2 (by rw [<-hdk.ee];exact List.mem_map_of_mem he)) (by have:=hd.log;omega) (Sat.pur.2 ⟨trivial,hw⟩)).use ?_;clear hw;rw [hdk.ee];rintro _ w (⟨e,he,hne,rfl,hw⟩|⟨n,p,R2,he,rfl,e2,hw⟩)
 ·have hw:=(Sat.pur.1 hw).2.drop
  refine ⟨none,e,rfl,Br.t (by simp [hne]) (.inl ⟨by unfold Wd.startN;rw [he],rfl,?_⟩)⟩;have hw:Sat R (Zy R L.dk W.dk::pts q (wdC W L)::Own L.ns 24 vs::Hs) w:=Zy.iff.2 ⟨xs,⟨hxs,hxd⟩,hw⟩;exact hw.arr
 ·have hw:=hw.cons λ _ h=>(Sat.pur.1 h).2.drop
  refine ⟨some ⟨p,0,none⟩,0,rfl,Br.f rfl (Br.f rfl (Zb.mk rfl ⟨L.ns,At.own (eqS hw) (by exact ⟨rfl,trivial⟩),?_⟩))⟩;have hw:Sat R2 (Own L.ns 24 vs::NAt R2 p n::OwnN 8 L.dk 141 (xs.map Z8)::pts q (wdC W L)::Hs) w:=hw.arr;refine Own.storeV (v:=.pointer (some ⟨p,0,none⟩)) (by kernel_rfl) rfl rfl hw k rfl hkv λ w hw=>.inr ⟨p,n,R2,by unfold Wd.startN;rw [he],rfl,e2,?_⟩;have hw:Sat R2 (OwnN 8 L.dk 141 (xs.map Z8)::NAt R2 p n::pts q (wdC W L)::Own L.ns 24 (vs.set k (.pointer (some ⟨p,0,none⟩)))::Hs) w:=hw.arr;have hw:Sat R2 (Zy R L.dk W.dk::NAt R2 p n::pts q (wdC W L)::Own L.ns 24 (vs.set k (.pointer (some ⟨p,0,none⟩)))::Hs) w:=Zy.iff.2 ⟨xs,⟨hxs,hxd⟩,hw⟩;exact hw.arr
end
end Go.Proofs.YthpmfnffkjjlnaaGreat
