/- The formulas of functions of this seat's translation, printed by a program of mine off the translation; each is proved equal to 'fnF' of the function's body, so it is enough for the call. No condition. -/
import Derived.Test.YtkfedbncmfnpnaaGreatDoorB5
import Derived.Test.YtkfedbncmfnpnaaGreatDoorB2
import Derived.Test.YtkfedbncmfnpnaaGreatDoorB4
import Derived.Lib.SlBytesConst
set_option linter.unusedVariables false
set_option linter.unusedSimpArgs false
namespace Go.Proofs.YtkfedbncmfnpnaaGreatDoor
section
open Go Go.VC Tryz
set_option maxRecDepth 10000
def B95 (o:Int) (K:Value->World->Prop) (w:World):Prop:=
 New (.cells #[.int .u8 119,.int .u8 97,.int .u8 108,.int .u8 45,.int .u8 48,.int .u8 48,.int .u8 48,.int .u8 48,.int .u8 48,.int .u8 48,.int .u8 48,.int .u8 48] 5 (0,0)) (λ n p=>
 ∃ k:World,∃ b:Sl,((convert 53 53 (.slice ((some ⟨n,0,none⟩)) 12 12)).run prog p=.ok (.slice b.a b.len b.cap) k)/\
 ∃ (g:Int->Int->World->Prop) (l:Int->Int->World->Nat),(g o 11 k)/\∀ (q:Env) (d:Int) (c:Int) (f:World),g d c f->
 Br (decide (c >= 4))
 (Rng c b.len (Zb b.a λ m=>
 ∃ i:World,((Instr.storeAt 5 (.pointer ((some (Addr.add m c.toNat)))) (.int .u8 (IntKind.u8.wrap (IntKind.i64.wrap (48 + d.tmod 10))))).run prog f=.ok () i)/\
 (g (IntKind.i64.wrap (d.tdiv 10)) (IntKind.i64.wrap (c - 1)) i)/\l (IntKind.i64.wrap (d.tdiv 10)) (IntKind.i64.wrap (c - 1)) i<l d c f))
 (∃ j:ByteArray,(∀ e,(λ e=>e=f) e->((convert 53 9 (.slice b.a b.len b.cap))).run prog e=.ok (.string j) e)/\
 K (.string j) f)) w
def sk95:Sk:=(.seq .leaf (.seq .leaf (.seq (.seq .leaf (.block (.loop [0,4] [(.int .i64),(.int .i64)] [0,4,7,8,9,10,11,12,13,14,15,16,17,18,19] .leaf))) .leaf)))
theorem ZuT (a:Int) (K:Value->World->Prop) (w:World) (h:B95 a K w):Zq prog 95 #[.int .i64 a] w K:=cq (sk:=sk95) func95 (by kernel_rfl) (by kernel_rfl) (by kernel_rfl) h
def B135 (c:ByteArray) (K:Value->World->Prop) (w:World):Prop:=
 ∃ (g:World->Prop),(Br ((↑c.size:Int) !=12)
 (K (.int .i64 0) w)
 (((0:Int)<=4)/\
 ((4:Int)<=(↑c.size:Int))/\
 Br (!(c.extract 0 (Int.toNat 4)).toList==(ByteArray.mk #[119,97,108,45]).toList)
 (K (.int .i64 0) w)
 (g  w)))/\
 ∀ (m:Env)  (k:World),g  k->
 ∃ (e:Int->Int->World->Prop) (l:Int->Int->World->Nat),(e 0 4 k)/\∀ (n:Env) (d:Int) (a:Int) (b:World),e d a b->
 Br (decide (a<12))
 (∃ i:UInt8,((0:Int)<=a)/\
 (c[a.toNat]? =some i)/\
 Br (decide ((↑i.toNat:Int)<48))
 (K (.int .i64 0) b)
 (∃ j:UInt8,((0:Int)<=a)/\
 (c[a.toNat]? =some j)/\
 Br (decide ((↑j.toNat:Int)>57))
 (K (.int .i64 0) b)
 (∃ f:UInt8,((0:Int)<=a)/\
 (c[a.toNat]? =some f)/\
 (e (IntKind.i64.wrap (IntKind.i64.wrap (d * 10) + IntKind.i64.wrap (IntKind.u8.wrap ((↑f.toNat:Int) - 48)))) (IntKind.i64.wrap (a + 1)) b)/\l (IntKind.i64.wrap (IntKind.i64.wrap (d * 10) + IntKind.i64.wrap (IntKind.u8.wrap ((↑f.toNat:Int) - 48)))) (IntKind.i64.wrap (a + 1)) b<l d a b)))
 (K (.int .i64 d) b)
def ZwW:Sk:=(.seq .leaf (.cut [] [] [2,5,6,7,8,9,10,11,12] .leaf (.seq .leaf (.seq (.seq .leaf (.block (.loop [3,4] [(.int .i64),(.int .i64)] [2,3,4,13,14,15,16,17,18,19,20,21,22,23,24,25,26,27,28,29,30,31,32,33,34] .leaf))) .leaf))))
theorem ZtF (a:ByteArray) (K:Value->World->Prop) (w:World) (h:B135 a K w):Zq prog 135 #[.string a] w K:=cq (sk:=ZwW) func135 (by kernel_rfl) (by kernel_rfl) (by kernel_rfl) h
def B118 (n:Sl) (m:Sl) (y:Bool) (K:Value->World->Prop) (w:World):Prop:=
 ∃ (l:Sl->Int->World->Prop) (r:Sl->Int->World->Nat),(l ⟨none,0,0⟩ 0 w)/\∀ (H:Env) (b:Sl) (c:Int) (j:World),l b c j->
 Br (decide (c<(↑n.len:Int)))
 (Rng c n.len (Zb n.a λ s=>
 ∃ p:Int,(At (λ C=>C=j) (Addr.add s c.toNat) [.int .i64 p])/\
 Calls prog 166 #[.int .u64 (IntKind.u64.wrap p)] j λ t D=>
 ∃ d:Sl,(t=.returned (.slice d.a d.len d.cap))/\
 ∃ o:World,∃ k:Sl,((Builtin.append_ #[53,53] 53 #[.slice b.a b.len b.cap,.slice d.a d.len d.cap]).run prog D=.ok (.slice k.a k.len k.cap) o)/\
 (l k (IntKind.i64.wrap (c + 1)) o)/\r k (IntKind.i64.wrap (c + 1)) o<r b c j))
 (Br y
 (Calls prog 167 #[.slice m.a m.len m.cap] j λ u E=>
 ∃ e:Sl,(u=.returned (.slice e.a e.len e.cap))/\
 ∃ q:World,∃ f:Sl,((Builtin.append_ #[53,53] 53 #[.slice b.a b.len b.cap,.slice e.a e.len e.cap]).run prog E=.ok (.slice f.a f.len f.cap) q)/\
 Calls prog 138 #[.slice f.a f.len f.cap] q λ v F=>
 ∃ g:Sl,∃ z:Int,(v=.returned (.tuple #[.slice g.a g.len g.cap,.int .i64 z]))/\
 K (.slice g.a g.len g.cap) F)
 (Calls prog 138 #[.slice b.a b.len b.cap] j λ x G=>
 ∃ i:Sl,∃ A:Int,(x=.returned (.tuple #[.slice i.a i.len i.cap,.int .i64 A]))/\
 K (.slice i.a i.len i.cap) G))
def ZwY:Sk:=(.seq .leaf (.seq .leaf (.seq (.seq .leaf (.block (.loop [7,8] [.sl,(.int .i64)] [7,8,11,12,13,14,15,16,17,18,19,20,21,22,23,24] .leaf))) .leaf)))
theorem ZtT (c:Sl) (b:Sl) (d:Bool) (K:Value->World->Prop) (w:World) (h:B118 c b d K w):Zq prog 118 #[.slice c.a c.len c.cap,.slice b.a b.len b.cap,.bool d] w K:=cq (sk:=ZwY) func118 (by kernel_rfl) (by kernel_rfl) (by kernel_rfl) h
def B139 (b:Option Addr) (x:Sl) (K:Value->World->Prop) (w:World):Prop:=
 New (.cells #[.slice x.a x.len x.cap,.int .i64 0,.bool false] 193 (0,0)) (λ d a9=>
 Calls prog 173 #[.pointer ((some ⟨d,0,none⟩)),.int .u64 3] a9 λ az bb=>
 ∃ o:Int,(az=.returned (.int .u64 o))/\
 Calls prog 173 #[.pointer ((some ⟨d,0,none⟩)),.int .u64 1099511627777] bb λ a0 q=>
 ∃ c:Int,(a0=.returned (.int .u64 c))/\
 ∃ (C:World->Prop),(∃ L:Bool,(At (λ e=>e=q) ⟨d,0 + 2,none⟩ [.bool L])/\
 Br L
 (K (.bool false) q)
 (Br (decide (IntKind.i64.wrap c<1))
 (K (.bool false) q)
 (Br (o==0)
 (K (.bool false) q)
 (C  q))))/\
 ∀ (bh:Env)  (r:World),C  r->
 Br (o==1)
 (Calls prog 173 #[.pointer ((some ⟨d,0,none⟩)),.int .u64 1099511627776] r λ a1 bd=>
 ∃ M:Int,(a1=.returned (.int .u64 M))/\
 Calls prog 173 #[.pointer ((some ⟨d,0,none⟩)),.int .u64 7] bd λ a2 be=>
 ∃ N:Int,(a2=.returned (.int .u64 N))/\
 New (.cells #[.int .i64 0,.int .i64 0,.int .i64 0,.slice none 0 0] 55 (0,0)) (λ y bf=>
 ∃ ao:World,((Instr.storeAt 55 (.pointer ((some ⟨y,0,none⟩))) (.agg #[.int .i64 (IntKind.i64.wrap c),.int .i64 (IntKind.i64.wrap M),.int .i64 (IntKind.i64.wrap N),.slice none 0 0])).run prog bf=.ok () ao)/\
 Calls prog 177 #[.pointer ((some ⟨d,0,none⟩)),.int .i64 4096] ao λ a3 bg=>
 ∃ i:Sl,(a3=.returned (.slice i.a i.len i.cap))/\
 ∃ ac:World,((Instr.storeAt 53 (.pointer ((some ⟨y,0 + 3,none⟩))) (.slice i.a i.len i.cap)).run prog bg=.ok () ac)/\
 Calls prog 174 #[.pointer ((some ⟨d,0,none⟩))] ac λ a4 v=>
 ∃ O:Bool,(a4=.returned (.bool O))/\
 Br (!O)
 (K (.bool false) v)
 (Br (decide (IntKind.i64.wrap c>1099511627776))
 (K (.bool false) v)
 (Zb b λ ar=>
 ∃ Q:Int,∃ j:Sl,(At (λ e=>e=v) ar [.int .i64 Q,.slice j.a j.len j.cap])/\
 Calls prog 30 #[.agg #[.int .i64 Q,.slice j.a j.len j.cap]] v λ a5 ad=>
 ∃ T:Int,(a5=.returned (.int .i64 T))/\
 Br (IntKind.i64.wrap c !=IntKind.i64.wrap (T + 1))
 (K (.bool false) ad)
 (Drw ad λ s ba=>
 Zb b λ G=>
 ∃ k:Sl,(At s ⟨G.block,G.off + 1,none⟩ [.slice k.a k.len k.cap])/\
 ∃ U:Int,∃ V:Int,∃ X:Int,∃ l:Sl,(At s ⟨y,0,none⟩ [.int .i64 U,.int .i64 V,.int .i64 X,.slice l.a l.len l.cap])/\
 New (.cells #[.int .i64 U,.int .i64 V,.int .i64 X,.slice l.a l.len l.cap] 55 (0,0)) (λ ay ae=>
 (s ae)/\
 ∃ z:World,∃ m:Sl,((Builtin.append_ #[40,40] 40 #[.slice k.a k.len k.cap,.slice ((some ⟨ay,0,none⟩)) 1 1]).run prog ae=.ok (.slice m.a m.len m.cap) z)/\
 (s z)/\
 Zb b λ H=>
 ∃ af:World,((Instr.storeAt 40 (.pointer ((some ⟨H.block,H.off + 1,none⟩))) (.slice m.a m.len m.cap)).run prog z=.ok () af)/\
 K (.bool true) af) ba)))) be)
 (Br (o==2)
 (Calls prog 174 #[.pointer ((some ⟨d,0,none⟩))] r λ a6 p=>
 ∃ Y:Bool,(a6=.returned (.bool Y))/\
 Br (!Y)
 (K (.bool false) p)
 (Zb b λ au=>
 ∃ Z:Int,(At (λ e=>e=p) (Addr.add au 0) [.int .i64 Z])/\
 Br (decide (IntKind.i64.wrap c<=Z))
 (Zb b λ av=>
 ∃ ag:World,((Instr.storeAt 3 (.pointer ((some (Addr.add av 0)))) (.int .i64 (IntKind.i64.wrap (IntKind.i64.wrap c - 1)))).run prog p=.ok () ag)/\
 Zb b λ I=>
 ∃ ah:World,((Instr.storeAt 40 (.pointer ((some ⟨I.block,I.off + 1,none⟩))) (.slice none 0 0)).run prog ag=.ok () ah)/\
 K (.bool true) ah)
 (Zb b λ aw=>
 ∃ aa:Int,∃ n:Sl,(At (λ e=>e=p) aw [.int .i64 aa,.slice n.a n.len n.cap])/\
 Calls prog 30 #[.agg #[.int .i64 aa,.slice n.a n.len n.cap]] p λ a7 ai=>
 ∃ ab:Int,(a7=.returned (.int .i64 ab))/\
 Br (decide (IntKind.i64.wrap c<=ab))
 (Drw ai λ t bc=>
 Zb b λ D=>
 ∃ f:Sl,(At t ⟨D.block,D.off + 1,none⟩ [.slice f.a f.len f.cap])/\
 Zb b λ ap=>
 ∃ u:Int,(At t (Addr.add ap 0) [.int .i64 u])/\
 ((0:Int)<=IntKind.i64.wrap (IntKind.i64.wrap (IntKind.i64.wrap c - 1) - u))/\
 ((IntKind.i64.wrap (IntKind.i64.wrap (IntKind.i64.wrap c - 1) - u):Int)<=(↑f.cap:Int))/\
 New (.cells #[] 55 (0,0)) (λ ax aj=>
 (t aj)/\
 ∃ A:World,∃ g:Sl,((Builtin.append_ #[40,40] 40 #[.slice ((some ⟨ax,0,none⟩)) 0 0,.slice f.a ((IntKind.i64.wrap (IntKind.i64.wrap (IntKind.i64.wrap c - 1) - u)).toNat) f.cap]).run prog aj=.ok (.slice g.a g.len g.cap) A)/\
 (t A)/\
 Zb b λ E=>
 ∃ ak:World,((Instr.storeAt 40 (.pointer ((some ⟨E.block,E.off + 1,none⟩))) (.slice g.a g.len g.cap)).run prog A=.ok () ak)/\
 K (.bool true) ak) bc)
 (K (.bool true) ai))))
 (Br (o==3)
 (Calls prog 174 #[.pointer ((some ⟨d,0,none⟩))] r λ a8 al=>
 ∃ J:Bool,(a8=.returned (.bool J))/\
 Br (!J)
 (K (.bool false) al)
 (Zb b λ aq=>
 ∃ am:World,((Instr.storeAt 3 (.pointer ((some (Addr.add aq 0)))) (.int .i64 (IntKind.i64.wrap (IntKind.i64.wrap c - 1)))).run prog al=.ok () am)/\
 Zb b λ F=>
 ∃ an:World,((Instr.storeAt 40 (.pointer ((some ⟨F.block,F.off + 1,none⟩))) (.slice none 0 0)).run prog am=.ok () an)/\
 K (.bool true) an))
 (K (.bool true) r)))) w
def ZwU:Sk:=(.seq .leaf (.seq .leaf (.seq .leaf (.seq .leaf (.cut [] [] [4,20,21,22,23,24,25,26,27,28,29,30,31] .leaf .leaf)))))
theorem ZtB (c:Option Addr) (b:Sl) (K:Value->World->Prop) (w:World) (h:B139 c b K w):Zq prog 139 #[.pointer c,.slice b.a b.len b.cap] w K:=cq (sk:=ZwU) func139 (by kernel_rfl) (by kernel_rfl) (by kernel_rfl) h
def B137 (d:Sl) (n:Int) (K:Value->World->Prop) (w:World):Prop:=
 New (.cells #[.slice d.a d.len d.cap,.int .i64 0,.bool false] 193 (0,0)) (λ b o=>
 Calls prog 173 #[.pointer ((some ⟨b,0,none⟩)),.int .u64 0] o λ j p=>
 ∃ e:Int,(j=.returned (.int .u64 e))/\
 Calls prog 173 #[.pointer ((some ⟨b,0,none⟩)),.int .u64 99999999] p λ k q=>
 ∃ f:Int,(k=.returned (.int .u64 f))/\
 Calls prog 173 #[.pointer ((some ⟨b,0,none⟩)),.int .u64 1099511627777] q λ l r=>
 ∃ g:Int,(l=.returned (.int .u64 g))/\
 Calls prog 174 #[.pointer ((some ⟨b,0,none⟩))] r λ m c=>
 ∃ i:Bool,(m=.returned (.bool i))/\
 Br (!i)
 (K (.int .i64 0) c)
 (Br (e !=0)
 (K (.int .i64 0) c)
 (Br (IntKind.i64.wrap f !=n)
 (K (.int .i64 0) c)
 (K (.int .i64 (IntKind.i64.wrap g)) c)))) w
theorem ZtD (b:Sl) (c:Int) (K:Value->World->Prop) (w:World) (h:B137 b c K w):Zq prog 137 #[.slice b.a b.len b.cap,.int .i64 c] w K:=cq (sk:=.leaf) func137 (by kernel_rfl) (by kernel_rfl) (by kernel_rfl) h
def B93 (e:Option Addr) (K:Value->World->Prop) (w:World):Prop:=
 Zb e λ b4=>
 ∃ a4:Option Addr,(At (λ f=>f=w) (Addr.add b4 0) [.pointer a4])/\
 Calls prog 43 #[.pointer a4] w λ cf cu=>
 ∃ v:Sl,(cf=.returned (.slice v.a v.len v.cap))/\
 ∃ (F:Sl->Int->World->Prop) (M:Sl->Int->World->Nat),(F ⟨none,0,0⟩ 0 cu)/\∀ (da:Env) (b:Sl) (g:Int) (x:World),F b g x->
 Br (decide (g<(↑v.len:Int)))
 (Rng g v.len (Zb v.a λ b5=>
 ∃ a5:ByteArray,(At (λ f=>f=x) (Addr.add b5 g.toNat) [.string a5])/\
 Calls prog 135 #[.string a5] x λ cg Z=>
 ∃ U:Int,(cg=.returned (.int .i64 U))/\
 Br (decide (U>0))
 (New (.cells #[.int .i64 U] 3 (0,0)) (λ ce c9=>
 ∃ ac:World,∃ D:Sl,((Builtin.append_ #[41,41] 41 #[.slice b.a b.len b.cap,.slice ((some ⟨ce,0,none⟩)) 1 1]).run prog c9=.ok (.slice D.a D.len D.cap) ac)/\
 (F D (IntKind.i64.wrap (g + 1)) ac)/\M D (IntKind.i64.wrap (g + 1)) ac<M b g x) Z)
 ((F b (IntKind.i64.wrap (g + 1)) Z)/\M b (IntKind.i64.wrap (g + 1)) Z<M b g x)))
 (Zb e λ an=>
 ∃ bj:World,((Instr.storeAt 59 (.pointer ((some ⟨an.block,an.off + 2,none⟩))) (.agg #[.int .i64 0,.slice none 0 0])).run prog x=.ok () bj)/\
 Zb e λ ao=>
 ∃ bk:World,((Instr.storeAt 41 (.pointer ((some ⟨ao.block,ao.off + 4,none⟩))) (.slice none 0 0)).run prog bj=.ok () bk)/\
 Zb e λ ap=>
 ∃ bl:World,((Instr.storeAt 41 (.pointer ((some ⟨ap.block,ap.off + 5,none⟩))) (.slice none 0 0)).run prog bk=.ok () bl)/\
 ∃ (N:Int->World->Prop) (bm:Int->World->Nat),(N 0 bl)/\∀ (db:Env) (c:Int) (L:World),N c L->
 Br (decide (c<(↑b.len:Int)))
 (Drw L λ G cv=>
 Zb e λ b6=>
 ∃ a6:Option Addr,(At G (Addr.add b6 0) [.pointer a6])/\
 Rng c b.len (Zb b.a λ b7=>
 ∃ a7:Int,(At G (Addr.add b7 c.toNat) [.int .i64 a7])/\
 Calls prog 95 #[.int .i64 a7] cv λ ci bb=>
 ∃ a8:ByteArray,(ci=.returned (.string a8))/\
 (G bb)/\
 Calls prog 45 #[.pointer a6,.string a8] bb λ cj bc=>
 ∃ k:Sl,∃ cs:Int,(cj=.returned (.tuple #[.slice k.a k.len k.cap,.int .i64 cs]))/\
 (G bc)/\
 Calls prog 136 #[.slice k.a k.len k.cap] bc λ ck cw=>
 ∃ d:Sl,∃ ct:Int,(ck=.returned (.tuple #[.slice d.a d.len d.cap,.int .i64 ct]))/\
 ∃ (z:Int->World->Prop),(Drw cw λ ad J=>
 Br (decide ((↑d.len:Int)>0))
 (Br (c==0)
 (Drw J λ ae cx=>
 Rng 0 d.len (Zb d.a λ ca=>
 ∃ l:Sl,(At ae (Addr.add ca 0) [.slice l.a l.len l.cap])/\
 Rng c b.len (Zb b.a λ bt=>
 ∃ aq:Int,(At ae (Addr.add bt c.toNat) [.int .i64 aq])/\
 Calls prog 137 #[.slice l.a l.len l.cap,.int .i64 aq] cx λ cl cy=>
 ∃ au:Int,(cl=.returned (.int .i64 au))/\
 z au cy)))
 (Rng c b.len (Zb b.a λ b8=>
 ∃ a9:Int,(At ad (Addr.add b8 c.toNat) [.int .i64 a9])/\
 Rng (IntKind.i64.wrap (c - 1)) b.len (Zb b.a λ b9=>
 ∃ ba:Int,(At ad (Addr.add b9 ((IntKind.i64.wrap (c - 1)).toNat)) [.int .i64 ba])/\
 Br (a9==IntKind.i64.wrap (ba + 1))
 (Drw J λ af cz=>
 Rng 0 d.len (Zb d.a λ cb=>
 ∃ m:Sl,(At af (Addr.add cb 0) [.slice m.a m.len m.cap])/\
 Rng c b.len (Zb b.a λ bu=>
 ∃ ar:Int,(At af (Addr.add bu c.toNat) [.int .i64 ar])/\
 Calls prog 137 #[.slice m.a m.len m.cap,.int .i64 ar] cz λ cm c0=>
 ∃ av:Int,(cm=.returned (.int .i64 av))/\
 z av c0)))
 (z 0 J)))))
 (z 0 J))/\
 ∀ (dc:Env) (A:Int) (E:World),z A E->
 ∃ (Q:World->Prop),(Br (A==0)
 (Drw E λ bo c1=>
 Rng c b.len (Zb b.a λ bv=>
 ∃ ay:Int,(At bo (Addr.add bv c.toNat) [.int .i64 ay])/\
 ((0:Int)<=IntKind.i64.wrap (c + 1))/\
 ((IntKind.i64.wrap (c + 1):Int)<=(↑b.len:Int))/\
 K (.tuple #[.int .i64 ay,.int .i64 0,.slice (ZcW b.a (IntKind.i64.wrap (c + 1)).toNat b.cap 1) (b.len - (IntKind.i64.wrap (c + 1)).toNat) (b.cap - (IntKind.i64.wrap (c + 1)).toNat)]) c1))
 (Br (decide (c>0))
 (Zb e λ ag=>
 ∃ aw:Int,∃ n:Sl,(At (λ f=>f=E) ⟨ag.block,ag.off + 2,none⟩ [.int .i64 aw,.slice n.a n.len n.cap])/\
 Calls prog 30 #[.agg #[.int .i64 aw,.slice n.a n.len n.cap]] E λ cn bd=>
 ∃ ax:Int,(cn=.returned (.int .i64 ax))/\
 Br (A !=IntKind.i64.wrap (ax + 1))
 (Drw bd λ bp c2=>
 Rng c b.len (Zb b.a λ bw=>
 ∃ az:Int,(At bp (Addr.add bw c.toNat) [.int .i64 az])/\
 ((0:Int)<=IntKind.i64.wrap (c + 1))/\
 ((IntKind.i64.wrap (c + 1):Int)<=(↑b.len:Int))/\
 K (.tuple #[.int .i64 az,.int .i64 0,.slice (ZcW b.a (IntKind.i64.wrap (c + 1)).toNat b.cap 1) (b.len - (IntKind.i64.wrap (c + 1)).toNat) (b.cap - (IntKind.i64.wrap (c + 1)).toNat)]) c2))
 (Q  bd))
 (Q  E)))/\
 ∀ (dd:Env)  (V:World),Q  V->
 ∃ (T:World->Prop),(Br (c==0)
 (Zb e λ ah=>
 ∃ be:World,((Instr.storeAt 3 (.pointer ((some ⟨ah.block,ah.off + 2,none⟩))) (.int .i64 (IntKind.i64.wrap (A - 1)))).run prog V=.ok () be)/\
 T  be)
 (T  V))/\
 ∀ (de:Env)  (bf:World),T  bf->
 Drw bf λ H c3=>
 Zb e λ ai=>
 ∃ o:Sl,(At H ⟨ai.block,ai.off + 4,none⟩ [.slice o.a o.len o.cap])/\
 Rng c b.len (Zb b.a λ bx=>
 ∃ a0:Int,(At H (Addr.add bx c.toNat) [.int .i64 a0])/\
 New (.cells #[.int .i64 a0] 3 (0,0)) (λ cc bg=>
 (H bg)/\
 ∃ X:World,∃ p:Sl,((Builtin.append_ #[41,41] 41 #[.slice o.a o.len o.cap,.slice ((some ⟨cc,0,none⟩)) 1 1]).run prog bg=.ok (.slice p.a p.len p.cap) X)/\
 (H X)/\
 Zb e λ aj=>
 ∃ Y:World,((Instr.storeAt 41 (.pointer ((some ⟨aj.block,aj.off + 4,none⟩))) (.slice p.a p.len p.cap)).run prog X=.ok () Y)/\
 Zb e λ ak=>
 ∃ q:Sl,(At (λ f=>f=Y) ⟨ak.block,ak.off + 5,none⟩ [.slice q.a q.len q.cap])/\
 New (.cells #[.int .i64 A] 3 (0,0)) (λ cd c4=>
 ∃ bh:World,∃ r:Sl,((Builtin.append_ #[41,41] 41 #[.slice q.a q.len q.cap,.slice ((some ⟨cd,0,none⟩)) 1 1]).run prog c4=.ok (.slice r.a r.len r.cap) bh)/\
 Zb e λ al=>
 ∃ aa:World,((Instr.storeAt 41 (.pointer ((some ⟨al.block,al.off + 5,none⟩))) (.slice r.a r.len r.cap)).run prog bh=.ok () aa)/\
 Rng 0 d.len (Zb d.a λ bz=>
 ∃ s:Sl,(At (λ f=>f=aa) (Addr.add bz 0) [.slice s.a s.len s.cap])/\
 Calls prog 138 #[.slice s.a s.len s.cap] aa λ co c5=>
 ∃ I:Sl,∃ cq:Int,(co=.returned (.tuple #[.slice I.a I.len I.cap,.int .i64 cq]))/\
 ∃ (O:Int->Int->World->Prop) (bn:Int->Int->World->Nat),(O ((↑I.len:Int)) 1 c5)/\∀ (df:Env) (j:Int) (i:Int) (y:World),O j i y->
 Br (decide (i<(↑d.len:Int)))
 (Drw y λ bq c6=>
 Zb e λ am=>
 Rng i d.len (Zb d.a λ b0=>
 ∃ t:Sl,(At bq (Addr.add b0 i.toNat) [.slice t.a t.len t.cap])/\
 Calls prog 139 #[.pointer ((some ⟨am.block,am.off + 2,none⟩)),.slice t.a t.len t.cap] c6 λ cp ab=>
 ∃ a1:Bool,(cp=.returned (.bool a1))/\
 Br (!a1)
 (Drw ab λ br c7=>
 Rng c b.len (Zb b.a λ b1=>
 ∃ a2:Int,(At br (Addr.add b1 c.toNat) [.int .i64 a2])/\
 ((0:Int)<=IntKind.i64.wrap (c + 1))/\
 ((IntKind.i64.wrap (c + 1):Int)<=(↑b.len:Int))/\
 K (.tuple #[.int .i64 a2,.int .i64 j,.slice (ZcW b.a (IntKind.i64.wrap (c + 1)).toNat b.cap 1) (b.len - (IntKind.i64.wrap (c + 1)).toNat) (b.cap - (IntKind.i64.wrap (c + 1)).toNat)]) c7))
 (Rng i d.len (Zb d.a λ b2=>
 ∃ u:Sl,(At (λ f=>f=ab) (Addr.add b2 i.toNat) [.slice u.a u.len u.cap])/\
 Calls prog 138 #[.slice u.a u.len u.cap] ab λ ch bi=>
 ∃ C:Sl,∃ cr:Int,(ch=.returned (.tuple #[.slice C.a C.len C.cap,.int .i64 cr]))/\
 (O (IntKind.i64.wrap (j + (↑C.len:Int))) (IntKind.i64.wrap (i + 1)) bi)/\bn (IntKind.i64.wrap (j + (↑C.len:Int))) (IntKind.i64.wrap (i + 1)) bi<bn j i y))))
 (Br (decide (j<(↑k.len:Int)))
 (Drw y λ bs c8=>
 Rng c b.len (Zb b.a λ b3=>
 ∃ a3:Int,(At bs (Addr.add b3 c.toNat) [.int .i64 a3])/\
 ((0:Int)<=IntKind.i64.wrap (c + 1))/\
 ((IntKind.i64.wrap (c + 1):Int)<=(↑b.len:Int))/\
 K (.tuple #[.int .i64 a3,.int .i64 j,.slice (ZcW b.a (IntKind.i64.wrap (c + 1)).toNat b.cap 1) (b.len - (IntKind.i64.wrap (c + 1)).toNat) (b.cap - (IntKind.i64.wrap (c + 1)).toNat)]) c8))
 ((N (IntKind.i64.wrap (c + 1)) y)/\bm (IntKind.i64.wrap (c + 1)) y<bm c L)))) Y) c3)))
 (K (.tuple #[.int .i64 0,.int .i64 0,.slice none 0 0]) L))
def sk93:Sk:=(.seq .leaf (.seq .leaf (.seq .leaf (.seq (.seq .leaf (.block (.loop [5,7] [.sl,(.int .i64)] [5,7,8,27,28,29,30,31,32,33,34,35,36,37,38,39,40,41,42,43] .leaf))) (.seq .leaf (.seq .leaf (.seq .leaf (.seq (.seq .leaf (.block (.loop [9] [(.int .i64)] [2,3,4,9,10,11,12,13,14,15,16,17,18,19,20,21,54,55,56,57,58,59,60,61,62,63,64,65,66,67,68,69,70,71,72,73,74,75,76,77,78,79,80,81,82,83,84,85,86,87,88,89,90,91,92,93,94,95,96,97,98,99,100,101,102,103,104,105,106,107,108,109,110,111,112,113,114,115,116,117,118,119,120,121,122,123,124,125,126,127,128,129,130,131,132,133,134,135,136,137,138,139,140,141,142,143,144,145,146,147,148,149,150,151,152,153,154,155,156,157,158,159,160,161,162,163,164,165,166,167,168,169,170,171,172,173,174,175,176,177,178,179,180,181,182,183,184,185,186,187,188,189,190,191,192,193,194,195,196,197,198,199,200,201,202,203,204,205,206,207,208,209,210,211,212,213,214,215,216,217,218,219] (.seq .leaf (.seq (.block (.seq .leaf (.seq .leaf (.seq .leaf (.cut [14] [(.int .i64)] [14,78,79,80,81,82,83,84,85,86,87,88,89,90,91,92,93,94,95,96,97,98,99,100,101,102,103,104,105] .leaf (.cut [] [] [2,3,4,106,107,108,109,110,111,112,113,114,115,116,117,118,119,120,121,122,123,124,125,126,127,128,129] .leaf (.cut [] [] [130,131,132,133,134,135,136,137] .leaf (.seq .leaf (.seq .leaf (.seq .leaf (.seq .leaf (.seq (.seq .leaf (.block (.loop [17,18] [(.int .i64),(.int .i64)] [2,3,4,17,18,19,20,21,170,171,172,173,174,175,176,177,178,179,180,181,182,183,184,185,186,187,188,189,190,191,192,193,194,195,196,197,198,199,200,201,202,203,204,205,206] .leaf))) .leaf)))))))))))) .leaf))))) .leaf))))))))
theorem ZuV (a:Option Addr) (K:Value->World->Prop) (w:World) (h:B93 a K w):Zq prog 93 #[.pointer a] w K:=cq (sk:=sk93) func93 (by kernel_rfl) (by kernel_rfl) (by kernel_rfl) h
def B14 (e:Option Addr) (a:Int) (K:Value->World->Prop) (w:World):Prop:=
 ∃ (c:World->Prop),(Br e.isNone
 (K (.tuple #[.pointer none,.int .i64 1]) w)
 (Br (decide (a<32))
 (K (.tuple #[.pointer none,.int .i64 1]) w)
 (Br (decide (a>65536))
 (K (.tuple #[.pointer none,.int .i64 1]) w)
 (c  w))))/\
 ∀ (k:Env)  (f:World),c  f->
 New (.cells #[.pointer e,.int .i64 a,.int .i64 0,.slice none 0 0,.slice none 0 0,.slice none 0 0,.bool false] 88 (0,0)) (λ d j=>
 Calls prog 42 #[.pointer ((some ⟨d,0,none⟩))] j λ i g=>
 ∃ b:Int,(i=.returned (.int .i64 b))/\
 Br (b !=0)
 (K (.tuple #[.pointer none,.int .i64 b]) g)
 (K (.tuple #[.pointer ((some ⟨d,0,none⟩)),.int .i64 0]) g)) f
def sk14:Sk:=(.seq .leaf (.cut [] [] [4,5,8,9,10,11,12,13,14,15,16,17] .leaf .leaf))
theorem Zv8 (a:Option Addr) (b:Int) (K:Value->World->Prop) (w:World) (h:B14 a b K w):Zq prog 14 #[.pointer a,.int .i64 b] w K:=cq (sk:=sk14) func14 (by kernel_rfl) (by kernel_rfl) (by kernel_rfl) h
def B91 (o:Option Addr) (n:ByteArray) (K:Value->World->Prop) (w:World):Prop:=
 Zb o λ l=>
 ∃ g:Option Addr,(At (λ f=>f=w) (Addr.add l 0) [.pointer g])/\
 Calls prog 43 #[.pointer g] w λ m p=>
 ∃ d:Sl,(m=.returned (.slice d.a d.len d.cap))/\
 ∃ (e:Int->World->Prop) (j:Int->World->Nat),(e 0 p)/\∀ (q:Env) (b:Int) (c:World),e b c->
 Br (decide (b<(↑d.len:Int)))
 (Rng b d.len (Zb d.a λ k=>
 ∃ i:ByteArray,(At (λ f=>f=c) (Addr.add k b.toNat) [.string i])/\
 Br (i.toList==n.toList)
 (K (.bool true) c)
 ((e (IntKind.i64.wrap (b + 1)) c)/\j (IntKind.i64.wrap (b + 1)) c<j b c)))
 (K (.bool false) c)
def sk91:Sk:=(.seq .leaf (.seq .leaf (.seq (.seq .leaf (.block (.loop [6] [(.int .i64)] [4,6,12,13,14,15,16,17,18,19,20,21,22,23] .leaf))) .leaf)))
theorem ZuX (b:Option Addr) (a:ByteArray) (K:Value->World->Prop) (w:World) (h:B91 b a K w):Zq prog 91 #[.pointer b,.string a] w K:=cq (sk:=sk91) func91 (by kernel_rfl) (by kernel_rfl) (by kernel_rfl) h
def B42 (b:Option Addr) (K:Value->World->Prop) (w:World):Prop:=
 Zb b λ O=>
 ∃ v:Option Addr,(At (λ d=>d=w) (Addr.add O 0) [.pointer v])/\
 Zb v λ t=>
 ∃ x:Bool,(At (λ d=>d=w) ⟨t.block,t.off + 4,none⟩ [.bool x])/\
 Br x
 (K (.int .i64 5) w)
 (Calls prog 91 #[.pointer b,.string (ByteArray.mk #[119,97,108,46,110,101,119])] w λ V s=>
 ∃ y:Bool,(V=.returned (.bool y))/\
 ∃ (l:World->Prop),(Br y
 (Zb b λ Q=>
 ∃ z:Option Addr,(At (λ d=>d=s) (Addr.add Q 0) [.pointer z])/\
 Calls prog 92 #[.pointer z,.string (ByteArray.mk #[119,97,108,46,110,101,119])] s λ X G=>
 ∃ n:Int,(X=.returned (.int .i64 n))/\
 Br (n !=0)
 (K (.int .i64 n) G)
 (l  G))
 (l  s))/\
 ∀ (ae:Env)  (H:World),l  H->
 Calls prog 93 #[.pointer b] H λ Y I=>
 ∃ o:Int,∃ A:Int,∃ e:Sl,(Y=.returned (.tuple #[.int .i64 o,.int .i64 A,.slice e.a e.len e.cap]))/\
 ∃ (m:World->Prop),(Br (decide (o>0))
 (Calls prog 94 #[.pointer b,.int .i64 o,.int .i64 A] I λ Z J=>
 ∃ p:Int,(Z=.returned (.int .i64 p))/\
 Br (p !=0)
 (K (.int .i64 p) J)
 (m  J))
 (m  I))/\
 ∀ (af:Env)  (L:World),m  L->
 ∃ (k:Int->World->Prop) (N:Int->World->Nat),(k 0 L)/\∀ (ag:Env) (c:Int) (f:World),k c f->
 Br (decide (c<(↑e.len:Int)))
 (Drw f λ g ad=>
 Zb b λ T=>
 ∃ C:Option Addr,(At g (Addr.add T 0) [.pointer C])/\
 Rng c e.len (Zb e.a λ U=>
 ∃ D:Int,(At g (Addr.add U c.toNat) [.int .i64 D])/\
 Calls prog 95 #[.int .i64 D] ad λ aa M=>
 ∃ E:ByteArray,(aa=.returned (.string E))/\
 (g M)/\
 Calls prog 92 #[.pointer C,.string E] M λ ab j=>
 ∃ q:Int,(ab=.returned (.int .i64 q))/\
 (g j)/\
 Br (q !=0)
 (K (.int .i64 q) j)
 ((k (IntKind.i64.wrap (c + 1)) j)/\N (IntKind.i64.wrap (c + 1)) j<N c f)))
 (Zb b λ u=>
 ∃ i:Sl,(At (λ d=>d=f) ⟨u.block,u.off + 4,none⟩ [.slice i.a i.len i.cap])/\
 Br ((↑i.len:Int)==0)
 (Calls prog 96 #[.pointer b,.int .i64 1,.int .i64 1] f λ ac F=>
 ∃ r:Int,(ac=.returned (.int .i64 r))/\
 Br (r !=0)
 (K (.int .i64 r) F)
 (K (.int .i64 0) F))
 (K (.int .i64 0) f)))
def sk42:Sk:=(.seq .leaf (.seq .leaf (.seq .leaf (.cut [] [] [2,4,21,22,23,24,25,26,27,28,29] .leaf (.seq .leaf (.cut [] [] [2,8,36,37,38,39,40,41,42,43,44] .leaf (.seq (.seq .leaf (.block (.loop [9] [(.int .i64)] [2,9,10,45,46,47,48,49,50,51,52,53,54,55,56,57,58,59,60,61,62,63] .leaf))) .leaf)))))))
theorem ZvH (a:Option Addr) (K:Value->World->Prop) (w:World) (h:B42 a K w):Zq prog 42 #[.pointer a] w K:=cq (sk:=sk42) func42 (by kernel_rfl) (by kernel_rfl) (by kernel_rfl) h
def B94 (c:Option Addr) (e:Int) (d:Int) (K:Value->World->Prop) (w:World):Prop:=
 Br (d==0)
 (Drw w λ k Y=>
 Zb c λ F=>
 ∃ n:Option Addr,(At k (Addr.add F 0) [.pointer n])/\
 Calls prog 95 #[.int .i64 e] Y λ L z=>
 ∃ o:ByteArray,(L=.returned (.string o))/\
 (k z)/\
 Calls prog 92 #[.pointer n,.string o] z λ M ab=>
 ∃ p:Int,(M=.returned (.int .i64 p))/\
 K (.int .i64 p) ab)
 (Drw w λ l ac=>
 Zb c λ G=>
 ∃ q:Option Addr,(At l (Addr.add G 0) [.pointer q])/\
 Calls prog 95 #[.int .i64 e] ac λ N A=>
 ∃ r:ByteArray,(N=.returned (.string r))/\
 (l A)/\
 Calls prog 45 #[.pointer q,.string r] A λ O C=>
 ∃ b:Sl,∃ f:Int,(O=.returned (.tuple #[.slice b.a b.len b.cap,.int .i64 f]))/\
 Br (f !=0)
 (K (.int .i64 f) C)
 (Drw C λ E ad=>
 Zb c λ H=>
 ∃ s:Option Addr,(At E (Addr.add H 0) [.pointer s])/\
 ((0:Int)<=d)/\
 ((d:Int)<=(↑b.cap:Int))/\
 Calls prog 36 #[.pointer s,.string (ByteArray.mk #[119,97,108,46,110,101,119]),.slice b.a d.toNat b.cap] ad λ Q j=>
 ∃ g:Int,(Q=.returned (.int .i64 g))/\
 Br (g !=0)
 (K (.int .i64 g) j)
 (Zb c λ I=>
 ∃ t:Option Addr,(At (λ X=>X=j) (Addr.add I 0) [.pointer t])/\
 Calls prog 38 #[.pointer t,.string (ByteArray.mk #[119,97,108,46,110,101,119])] j λ T D=>
 ∃ i:Int,(T=.returned (.int .i64 i))/\
 Br (i !=0)
 (K (.int .i64 i) D)
 (Drw D λ m Z=>
 Zb c λ J=>
 ∃ u:Option Addr,(At m (Addr.add J 0) [.pointer u])/\
 Calls prog 95 #[.int .i64 e] Z λ U y=>
 ∃ v:ByteArray,(U=.returned (.string v))/\
 (m y)/\
 Calls prog 140 #[.pointer u,.string (ByteArray.mk #[119,97,108,46,110,101,119]),.string v] y λ V aa=>
 ∃ x:Int,(V=.returned (.int .i64 x))/\
 K (.int .i64 x) aa))))
theorem ZuU (c:Option Addr) (a:Int) (b:Int) (K:Value->World->Prop) (w:World) (h:B94 c a b K w):Zq prog 94 #[.pointer c,.int .i64 a,.int .i64 b] w K:=cq (sk:=.leaf) func94 (by kernel_rfl) (by kernel_rfl) (by kernel_rfl) h
def B96 (b:Option Addr) (c:Int) (q:Int) (K:Value->World->Prop) (w:World):Prop:=
 Drw w λ d X=>
 Zb b λ aq=>
 ∃ r:Option Addr,(At d (Addr.add aq 0) [.pointer r])/\
 (Calls prog 95 #[.int .i64 c] X λ az af=>
 ∃ N:ByteArray,(az=.returned (.string N))/\
 (d af)/\
 New (.cells #[.int .i64 0,.int .i64 c,.int .i64 q] 3 (0,0)) (λ ar ak=>
 (d ak)/\
 Calls prog 118 #[.slice ((some ⟨ar,0,none⟩)) 3 3,.slice none 0 0,.bool false] ak λ a0 al=>
 ∃ f:Sl,(a0=.returned (.slice f.a f.len f.cap))/\
 (d al)/\
 Calls prog 36 #[.pointer r,.string N,.slice f.a f.len f.cap] al λ a1 am=>
 ∃ s:Int,(a1=.returned (.int .i64 s))/\
 Br (s !=0)
 (K (.int .i64 s) am)
 (Drw am λ C bd=>
 Zb b λ ao=>
 ∃ Q:Option Addr,(At C (Addr.add ao 0) [.pointer Q])/\
 Calls prog 95 #[.int .i64 c] bd λ a2 an=>
 ∃ U:ByteArray,(a2=.returned (.string U))/\
 (C an)/\
 Calls prog 38 #[.pointer Q,.string U] an λ a3 A=>
 ∃ u:Int,(a3=.returned (.int .i64 u))/\
 Br (u !=0)
 (K (.int .i64 u) A)
 (Zb b λ E=>
 ∃ i:Sl,(At (λ e=>e=A) ⟨E.block,E.off + 4,none⟩ [.slice i.a i.len i.cap])/\
 New (.cells #[.int .i64 c] 3 (0,0)) (λ av be=>
 ∃ Y:World,∃ k:Sl,((Builtin.append_ #[41,41] 41 #[.slice i.a i.len i.cap,.slice ((some ⟨av,0,none⟩)) 1 1]).run prog be=.ok (.slice k.a k.len k.cap) Y)/\
 Zb b λ G=>
 ∃ x:World,((Instr.storeAt 41 (.pointer ((some ⟨G.block,G.off + 4,none⟩))) (.slice k.a k.len k.cap)).run prog Y=.ok () x)/\
 Zb b λ I=>
 ∃ m:Sl,(At (λ e=>e=x) ⟨I.block,I.off + 5,none⟩ [.slice m.a m.len m.cap])/\
 New (.cells #[.int .i64 q] 3 (0,0)) (λ ax a9=>
 ∃ Z:World,∃ o:Sl,((Builtin.append_ #[41,41] 41 #[.slice m.a m.len m.cap,.slice ((some ⟨ax,0,none⟩)) 1 1]).run prog a9=.ok (.slice o.a o.len o.cap) Z)/\
 Zb b λ L=>
 ∃ aa:World,((Instr.storeAt 41 (.pointer ((some ⟨L.block,L.off + 5,none⟩))) (.slice o.a o.len o.cap)).run prog Z=.ok () aa)/\
 K (.int .i64 0) aa) x) A))) af)/\
 New (.cells #[.int .i64 0,.int .i64 c,.int .i64 q] 3 (0,0)) (λ au ab=>
 (d ab)/\
 Calls prog 95 #[.int .i64 c] ab λ a4 ac=>
 ∃ O:ByteArray,(a4=.returned (.string O))/\
 (d ac)/\
 Calls prog 118 #[.slice ((some ⟨au,0,none⟩)) 3 3,.slice none 0 0,.bool false] ac λ a5 ad=>
 ∃ g:Sl,(a5=.returned (.slice g.a g.len g.cap))/\
 (d ad)/\
 Calls prog 36 #[.pointer r,.string O,.slice g.a g.len g.cap] ad λ a6 ae=>
 ∃ t:Int,(a6=.returned (.int .i64 t))/\
 Br (t !=0)
 (K (.int .i64 t) ae)
 (Drw ae λ D ba=>
 Zb b λ ap=>
 ∃ T:Option Addr,(At D (Addr.add ap 0) [.pointer T])/\
 Calls prog 95 #[.int .i64 c] ba λ a7 ag=>
 ∃ V:ByteArray,(a7=.returned (.string V))/\
 (D ag)/\
 Calls prog 38 #[.pointer T,.string V] ag λ a8 y=>
 ∃ v:Int,(a8=.returned (.int .i64 v))/\
 Br (v !=0)
 (K (.int .i64 v) y)
 (Zb b λ F=>
 ∃ j:Sl,(At (λ e=>e=y) ⟨F.block,F.off + 4,none⟩ [.slice j.a j.len j.cap])/\
 New (.cells #[.int .i64 c] 3 (0,0)) (λ aw bb=>
 ∃ ah:World,∃ l:Sl,((Builtin.append_ #[41,41] 41 #[.slice j.a j.len j.cap,.slice ((some ⟨aw,0,none⟩)) 1 1]).run prog bb=.ok (.slice l.a l.len l.cap) ah)/\
 Zb b λ H=>
 ∃ z:World,((Instr.storeAt 41 (.pointer ((some ⟨H.block,H.off + 4,none⟩))) (.slice l.a l.len l.cap)).run prog ah=.ok () z)/\
 Zb b λ J=>
 ∃ n:Sl,(At (λ e=>e=z) ⟨J.block,J.off + 5,none⟩ [.slice n.a n.len n.cap])/\
 New (.cells #[.int .i64 q] 3 (0,0)) (λ ay bc=>
 ∃ ai:World,∃ p:Sl,((Builtin.append_ #[41,41] 41 #[.slice n.a n.len n.cap,.slice ((some ⟨ay,0,none⟩)) 1 1]).run prog bc=.ok (.slice p.a p.len p.cap) ai)/\
 Zb b λ M=>
 ∃ aj:World,((Instr.storeAt 41 (.pointer ((some ⟨M.block,M.off + 5,none⟩))) (.slice p.a p.len p.cap)).run prog ai=.ok () aj)/\
 K (.int .i64 0) aj) z) y))) X
theorem ZuS (c:Option Addr) (b:Int) (a:Int) (K:Value->World->Prop) (w:World) (h:B96 c b a K w):Zq prog 96 #[.pointer c,.int .i64 b,.int .i64 a] w K:=cq (sk:=.leaf) func96 (by kernel_rfl) (by kernel_rfl) (by kernel_rfl) h
def B46 (f:Option Addr) (K:Value->World->Prop) (w:World):Prop:=
 Zb f λ b=>
 ∃ e:Bool,(At (λ a=>a=w) ⟨b.block,b.off + 6,none⟩ [.bool e])/\
 Br e
 (K (.int .i64 0) w)
 (Zb f λ c=>
 ∃ d:Int,(At (λ a=>a=w) ⟨c.block,c.off + 2,none⟩ [.int .i64 d])/\
 K (.int .i64 (IntKind.i64.wrap (d + 1))) w)
theorem ZvD (a:Option Addr) (K:Value->World->Prop) (w:World) (h:B46 a K w):Zq prog 46 #[.pointer a] w K:=cq (sk:=.leaf) func46 (by kernel_rfl) (by kernel_rfl) (by kernel_rfl) h
def B47 (j:Option Addr) (K:Value->World->Prop) (w:World):Prop:=
 Zb j λ d=>
 ∃ i:Bool,(At (λ c=>c=w) ⟨d.block,d.off + 6,none⟩ [.bool i])/\
 Br i
 (K (.int .i64 0) w)
 (Zb j λ e=>
 ∃ f:Int,∃ b:Sl,(At (λ c=>c=w) ⟨e.block,e.off + 2,none⟩ [.int .i64 f,.slice b.a b.len b.cap])/\
 Calls prog 30 #[.agg #[.int .i64 f,.slice b.a b.len b.cap]] w λ k l=>
 ∃ g:Int,(k=.returned (.int .i64 g))/\
 K (.int .i64 g) l)
theorem ZvC (a:Option Addr) (K:Value->World->Prop) (w:World) (h:B47 a K w):Zq prog 47 #[.pointer a] w K:=cq (sk:=.leaf) func47 (by kernel_rfl) (by kernel_rfl) (by kernel_rfl) h
def B48 (i:Option Addr) (p:Int) (Z:Int) (K:Value->World->Prop) (w:World):Prop:=
 ∃ (s:World->Prop),(Zb i λ u=>
 ∃ C:Bool,(At (λ d=>d=w) ⟨u.block,u.off + 6,none⟩ [.bool C])/\
 Br C
 (K (.slice none 0 0) w)
 (Zb i λ v=>
 ∃ D:Int,(At (λ d=>d=w) ⟨v.block,v.off + 2,none⟩ [.int .i64 D])/\
 Br (decide (p<=D))
 (K (.slice none 0 0) w)
 (Zb i λ x=>
 ∃ E:Int,∃ e:Sl,(At (λ d=>d=w) ⟨x.block,x.off + 2,none⟩ [.int .i64 E,.slice e.a e.len e.cap])/\
 Calls prog 30 #[.agg #[.int .i64 E,.slice e.a e.len e.cap]] w λ X M=>
 ∃ F:Int,(X=.returned (.int .i64 F))/\
 Br (decide (p>F))
 (K (.slice none 0 0) M)
 (s  M))))/\
 ∀ (ab:Env)  (N:World),s  N->
 ∃ (o:Sl->Int->World->Prop) (T:Sl->Int->World->Nat),(o ⟨none,0,0⟩ p N)/\∀ (ac:Env) (b:Sl) (c:Int) (m:World),o b c m->
 ∃ (t:World->Prop),(Zb i λ y=>
 ∃ G:Int,∃ f:Sl,(At (λ d=>d=m) ⟨y.block,y.off + 2,none⟩ [.int .i64 G,.slice f.a f.len f.cap])/\
 Calls prog 30 #[.agg #[.int .i64 G,.slice f.a f.len f.cap]] m λ Y r=>
 ∃ H:Int,(Y=.returned (.int .i64 H))/\
 Br (decide (c<=H))
 (Br (decide ((↑b.len:Int)<Z))
 (t  r)
 (K (.slice b.a b.len b.cap) r))
 (K (.slice b.a b.len b.cap) r))/\
 ∀ (ad:Env)  (O:World),t  O->
 Drw O λ j aa=>
 Zb i λ z=>
 ∃ k:Sl,(At j ⟨z.block,z.off + 2 + 1,none⟩ [.slice k.a k.len k.cap])/\
 Zb i λ A=>
 ∃ q:Int,(At j ⟨A.block,A.off + 2,none⟩ [.int .i64 q])/\
 Rng (IntKind.i64.wrap (IntKind.i64.wrap (c - 1) - q)) k.len (Zb k.a λ U=>
 ∃ I:Int,∃ J:Int,∃ L:Int,∃ g:Sl,(At j (Addr.add U (Zah (IntKind.i64.wrap (IntKind.i64.wrap (c - 1) - q)).toNat 4)) [.int .i64 I,.int .i64 J,.int .i64 L,.slice g.a g.len g.cap])/\
 New (.cells #[.int .i64 I,.int .i64 J,.int .i64 L,.slice g.a g.len g.cap] 55 (0,0)) (λ V Q=>
 (j Q)/\
 ∃ n:World,∃ l:Sl,((Builtin.append_ #[40,40] 40 #[.slice b.a b.len b.cap,.slice ((some ⟨V,0,none⟩)) 1 1]).run prog Q=.ok (.slice l.a l.len l.cap) n)/\
 (j n)/\
 (o l (IntKind.i64.wrap (c + 1)) n)/\T l (IntKind.i64.wrap (c + 1)) n<T b c m) aa)
def sk48:Sk:=(.seq .leaf (.seq .leaf (.cut [] [] [6,9,10,11,12,13,14,15,16,17,18,19,20,21,22,23,24,25,26,27,28,29,30] .leaf (.seq (.seq .leaf (.block (.loop [7,8] [.sl,(.int .i64)] [7,8,32,33,34,35,36,37,38,39,40,41,42,43,44,45,46,47,48,49,50,51,52,53,54,55,56,57,58,59,60,61,62,63,64] (.cut [] [] [32,33,34,35,36,37,38,39,40,41,42,43,44] .leaf .leaf)))) .leaf))))
theorem ZvB (c:Option Addr) (a:Int) (b:Int) (K:Value->World->Prop) (w:World) (h:B48 c a b K w):Zq prog 48 #[.pointer c,.int .i64 a,.int .i64 b] w K:=cq (sk:=sk48) func48 (by kernel_rfl) (by kernel_rfl) (by kernel_rfl) h
def B116 (d:Option Addr) (a:Int) (K:Value->World->Prop) (w:World):Prop:=
 Br (a !=0)
 (Zb d λ b=>
 ∃ c:World,((Instr.storeAt 4 (.pointer ((some ⟨b.block,b.off + 6,none⟩))) (.bool true)).run prog w=.ok () c)/\
 K (.int .i64 a) c)
 (K (.int .i64 a) w)
theorem ZtV (b:Option Addr) (a:Int) (K:Value->World->Prop) (w:World) (h:B116 b a K w):Zq prog 116 #[.pointer b,.int .i64 a] w K:=cq (sk:=.leaf) func116 (by kernel_rfl) (by kernel_rfl) (by kernel_rfl) h
def B117 (j:Option Addr) (K:Value->World->Prop) (w:World):Prop:=
 Drw w λ d n=>
 Zb j λ e=>
 ∃ c:Sl,(At d ⟨e.block,e.off + 4,none⟩ [.slice c.a c.len c.cap])/\
 Zb j λ f=>
 ∃ b:Sl,(At d ⟨f.block,f.off + 4,none⟩ [.slice b.a b.len b.cap])/\
 Rng (IntKind.i64.wrap ((↑b.len:Int) - 1)) c.len (Zb c.a λ l=>
 ∃ g:Int,(At d (Addr.add l ((IntKind.i64.wrap ((↑b.len:Int) - 1)).toNat)) [.int .i64 g])/\
 Calls prog 95 #[.int .i64 g] n λ m k=>
 ∃ i:ByteArray,(m=.returned (.string i))/\
 (d k)/\
 K (.string i) k)
theorem ZtU (a:Option Addr) (K:Value->World->Prop) (w:World) (h:B117 a K w):Zq prog 117 #[.pointer a] w K:=cq (sk:=.leaf) func117 (by kernel_rfl) (by kernel_rfl) (by kernel_rfl) h
def B69 (m:Option Addr) (b:Sl) (K:Value->World->Prop) (w:World):Prop:=
 Zb m λ x=>
 ∃ z:Bool,(At (λ j=>j=w) ⟨x.block,x.off + 6,none⟩ [.bool z])/\
 Br z
 (K (.int .i64 8) w)
 (∃ (p:Int->World->Prop) (N:Int->World->Nat),(p 0 w)/\∀ (ad:Env) (d:Int) (k:World),p d k->
 Br (decide (d<(↑b.len:Int)))
 (Rng d b.len (Zb b.a λ T=>
 ∃ A:Int,∃ C:Int,∃ D:Int,∃ f:Sl,(At (λ j=>j=k) (Addr.add T (Zah d.toNat 4)) [.int .i64 A,.int .i64 C,.int .i64 D,.slice f.a f.len f.cap])/\
 Calls prog 67 #[.agg #[.int .i64 A,.int .i64 C,.int .i64 D,.slice f.a f.len f.cap]] k λ X u=>
 ∃ E:Bool,(X=.returned (.bool E))/\
 Br (!E)
 (K (.int .i64 1) u)
 ((p (IntKind.i64.wrap (d + 1)) u)/\N (IntKind.i64.wrap (d + 1)) u<N d k)))
 (∃ (q:Int->World->Prop) (O:Int->World->Nat),(q 0 k)/\∀ (ae:Env) (c:Int) (n:World),q c n->
 Br (decide (c<(↑b.len:Int)))
 (Drw n λ s ab=>
 Rng c b.len (Zb b.a λ U=>
 ∃ F:Int,(At s (Addr.add (Addr.add U (Zah c.toNat 4)) 0) [.int .i64 F])/\
 Zb m λ y=>
 ∃ G:Int,∃ g:Sl,(At s ⟨y.block,y.off + 2,none⟩ [.int .i64 G,.slice g.a g.len g.cap])/\
 Calls prog 30 #[.agg #[.int .i64 G,.slice g.a g.len g.cap]] ab λ Y o=>
 ∃ H:Int,(Y=.returned (.int .i64 H))/\
 (s o)/\
 Br (F !=IntKind.i64.wrap (IntKind.i64.wrap (H + 1) + c))
 (K (.int .i64 7) o)
 ((q (IntKind.i64.wrap (c + 1)) o)/\O (IntKind.i64.wrap (c + 1)) o<O c n)))
 (∃ (r:Int->World->Prop) (Q:Int->World->Nat),(r 0 n)/\∀ (af:Env) (e:Int) (l:World),r e l->
 Br (decide (e<(↑b.len:Int)))
 (Rng e b.len (Zb b.a λ V=>
 ∃ I:Int,∃ J:Int,∃ L:Int,∃ i:Sl,(At (λ j=>j=l) (Addr.add V (Zah e.toNat 4)) [.int .i64 I,.int .i64 J,.int .i64 L,.slice i.a i.len i.cap])/\
 Calls prog 115 #[.pointer m,.agg #[.int .i64 I,.int .i64 J,.int .i64 L,.slice i.a i.len i.cap]] l λ Z v=>
 ∃ t:Int,(Z=.returned (.int .i64 t))/\
 Br (t !=0)
 (Calls prog 116 #[.pointer m,.int .i64 t] v λ aa ac=>
 ∃ M:Int,(aa=.returned (.int .i64 M))/\
 K (.int .i64 M) ac)
 ((r (IntKind.i64.wrap (e + 1)) v)/\Q (IntKind.i64.wrap (e + 1)) v<Q e l)))
 (K (.int .i64 0) l))))
def sk69:Sk:=(.seq .leaf (.seq .leaf (.seq (.seq .leaf (.block (.loop [5] [(.int .i64)] [4,5,6,14,15,16,17,18,19,20,21,22,23,24,25,26] .leaf))) (.seq (.seq .leaf (.block (.loop [7] [(.int .i64)] [4,7,27,28,29,30,31,32,33,34,35,36,37,38,39,40,41,42,43,44,45,46] .leaf))) (.seq (.seq .leaf (.block (.loop [8] [(.int .i64)] [4,8,9,47,48,49,50,51,52,53,54,55,56,57,58,59,60,61,62,63] .leaf))) .leaf)))))
theorem Zvh (c:Option Addr) (b:Sl) (K:Value->World->Prop) (w:World) (h:B69 c b K w):Zq prog 69 #[.pointer c,.slice b.a b.len b.cap] w K:=cq (sk:=sk69) func69 (by kernel_rfl) (by kernel_rfl) (by kernel_rfl) h
def B115 (b:Option Addr) (cf:Int) (cg:Int) (ch:Int) (M:Sl) (K:Value->World->Prop) (w:World):Prop:=
 New (.cells #[.int .i64 cf,.int .i64 cg,.int .i64 ch,.slice M.a M.len M.cap] 55 (0,0)) (λ e cc=>
 Drw cc λ N cd=>
 Zb b λ bs=>
 ∃ ad:Option Addr,(At N (Addr.add bs 0) [.pointer ad])/\
 Calls prog 117 #[.pointer b] cd λ b0 bf=>
 ∃ ae:ByteArray,(b0=.returned (.string ae))/\
 (N bf)/\
 Calls prog 45 #[.pointer ad,.string ae] bf λ b1 z=>
 ∃ y:Sl,∃ C:Int,(b1=.returned (.tuple #[.slice y.a y.len y.cap,.int .i64 C]))/\
 Br (C !=0)
 (K (.int .i64 C) z)
 (∃ (A:World->Prop),(Zb b λ U=>
 ∃ af:Int,(At (λ d=>d=z) ⟨U.block,U.off + 1,none⟩ [.int .i64 af])/\
 Br (decide ((↑y.len:Int) >= af))
 (Drw z λ O ce=>
 Zb b λ bp=>
 ∃ ag:Option Addr,(At O (Addr.add bp 0) [.pointer ag])/\
 Calls prog 117 #[.pointer b] ce λ b4 bl=>
 ∃ ah:ByteArray,(b4=.returned (.string ah))/\
 (O bl)/\
 Calls prog 38 #[.pointer ag,.string ah] bl λ b5 bm=>
 ∃ D:Int,(b5=.returned (.int .i64 D))/\
 Br (D !=0)
 (K (.int .i64 D) bm)
 (Drw bm λ x bn=>
 Zb b λ V=>
 ∃ u:Sl,(At x ⟨V.block,V.off + 4,none⟩ [.slice u.a u.len u.cap])/\
 Zb b λ X=>
 ∃ v:Sl,(At x ⟨X.block,X.off + 4,none⟩ [.slice v.a v.len v.cap])/\
 Rng (IntKind.i64.wrap ((↑v.len:Int) - 1)) u.len (Zb u.a λ bq=>
 ∃ ai:Int,(At x (Addr.add bq ((IntKind.i64.wrap ((↑v.len:Int) - 1)).toNat)) [.int .i64 ai])/\
 Zb b λ Y=>
 ∃ aj:Int,∃ g:Sl,(At (λ d=>d=bn) ⟨Y.block,Y.off + 2,none⟩ [.int .i64 aj,.slice g.a g.len g.cap])/\
 Calls prog 30 #[.agg #[.int .i64 aj,.slice g.a g.len g.cap]] bn λ b6 bo=>
 ∃ ak:Int,(b6=.returned (.int .i64 ak))/\
 (x bo)/\
 Calls prog 96 #[.pointer b,.int .i64 (IntKind.i64.wrap (ai + 1)),.int .i64 (IntKind.i64.wrap (ak + 1))] bo λ b7 av=>
 ∃ E:Int,(b7=.returned (.int .i64 E))/\
 Br (E !=0)
 (K (.int .i64 E) av)
 (A  av))))
 (A  z))/\
 ∀ (ci:Env)  (aw:World),A  aw->
 Drw aw λ c ax=>
 Zb b λ br=>
 ∃ F:Option Addr,(At c (Addr.add br 0) [.pointer F])/\
 ∃ G:Int,(At c ⟨e,0,none⟩ [.int .i64 G])/\
 ∃ H:Int,(At c ⟨e,0 + 1,none⟩ [.int .i64 H])/\
 ∃ I:Int,(At c ⟨e,0 + 2,none⟩ [.int .i64 I])/\
 ∃ f:Sl,(At c ⟨e,0 + 3,none⟩ [.slice f.a f.len f.cap])/\
 (Calls prog 117 #[.pointer b] ax λ b8 ay=>
 ∃ al:ByteArray,(b8=.returned (.string al))/\
 (c ay)/\
 New (.cells #[.int .i64 1,.int .i64 G,.int .i64 H,.int .i64 I] 3 (0,0)) (λ bt az=>
 (c az)/\
 Calls prog 118 #[.slice ((some ⟨bt,0,none⟩)) 4 4,.slice f.a f.len f.cap,.bool true] az λ b9 a0=>
 ∃ i:Sl,(b9=.returned (.slice i.a i.len i.cap))/\
 (c a0)/\
 Calls prog 36 #[.pointer F,.string al,.slice i.a i.len i.cap] a0 λ ca a1=>
 ∃ J:Int,(ca=.returned (.int .i64 J))/\
 Br (J !=0)
 (K (.int .i64 J) a1)
 (New (.cells #[] 5 (0,0)) (λ bv a2=>
 ∃ k:Sl,(At (λ d=>d=a2) ⟨e,0 + 3,none⟩ [.slice k.a k.len k.cap])/\
 ∃ a3:World,∃ m:Sl,((Builtin.append_ #[53,53] 53 #[.slice ((some ⟨bv,0,none⟩)) 0 0,.slice k.a k.len k.cap]).run prog a2=.ok (.slice m.a m.len m.cap) a3)/\
 ∃ a4:World,((Instr.storeAt 53 (.pointer ((some ⟨e,0 + 3,none⟩))) (.slice m.a m.len m.cap)).run prog a3=.ok () a4)/\
 Drw a4 λ Q a5=>
 Zb b λ Z=>
 ∃ o:Sl,(At Q ⟨Z.block,Z.off + 2 + 1,none⟩ [.slice o.a o.len o.cap])/\
 ∃ an:Int,∃ ao:Int,∃ ap:Int,∃ q:Sl,(At (λ d=>d=a5) ⟨e,0,none⟩ [.int .i64 an,.int .i64 ao,.int .i64 ap,.slice q.a q.len q.cap])/\
 New (.cells #[.int .i64 an,.int .i64 ao,.int .i64 ap,.slice q.a q.len q.cap] 55 (0,0)) (λ bx a6=>
 (Q a6)/\
 ∃ a7:World,∃ s:Sl,((Builtin.append_ #[40,40] 40 #[.slice o.a o.len o.cap,.slice ((some ⟨bx,0,none⟩)) 1 1]).run prog a6=.ok (.slice s.a s.len s.cap) a7)/\
 Zb b λ ab=>
 ∃ a8:World,((Instr.storeAt 40 (.pointer ((some ⟨ab.block,ab.off + 2 + 1,none⟩))) (.slice s.a s.len s.cap)).run prog a7=.ok () a8)/\
 K (.int .i64 0) a8) a5) a1)) ay)/\
 New (.cells #[.int .i64 1,.int .i64 G,.int .i64 H,.int .i64 I] 3 (0,0)) (λ bu a9=>
 (c a9)/\
 Calls prog 117 #[.pointer b] a9 λ cb ba=>
 ∃ am:ByteArray,(cb=.returned (.string am))/\
 (c ba)/\
 Calls prog 118 #[.slice ((some ⟨bu,0,none⟩)) 4 4,.slice f.a f.len f.cap,.bool true] ba λ b2 bb=>
 ∃ j:Sl,(b2=.returned (.slice j.a j.len j.cap))/\
 (c bb)/\
 Calls prog 36 #[.pointer F,.string am,.slice j.a j.len j.cap] bb λ b3 bc=>
 ∃ L:Int,(b3=.returned (.int .i64 L))/\
 Br (L !=0)
 (K (.int .i64 L) bc)
 (New (.cells #[] 5 (0,0)) (λ bw bd=>
 ∃ l:Sl,(At (λ d=>d=bd) ⟨e,0 + 3,none⟩ [.slice l.a l.len l.cap])/\
 ∃ be:World,∃ n:Sl,((Builtin.append_ #[53,53] 53 #[.slice ((some ⟨bw,0,none⟩)) 0 0,.slice l.a l.len l.cap]).run prog bd=.ok (.slice n.a n.len n.cap) be)/\
 ∃ bg:World,((Instr.storeAt 53 (.pointer ((some ⟨e,0 + 3,none⟩))) (.slice n.a n.len n.cap)).run prog be=.ok () bg)/\
 Drw bg λ T bh=>
 Zb b λ aa=>
 ∃ p:Sl,(At T ⟨aa.block,aa.off + 2 + 1,none⟩ [.slice p.a p.len p.cap])/\
 ∃ aq:Int,∃ ar:Int,∃ au:Int,∃ r:Sl,(At (λ d=>d=bh) ⟨e,0,none⟩ [.int .i64 aq,.int .i64 ar,.int .i64 au,.slice r.a r.len r.cap])/\
 New (.cells #[.int .i64 aq,.int .i64 ar,.int .i64 au,.slice r.a r.len r.cap] 55 (0,0)) (λ bz bi=>
 (T bi)/\
 ∃ bj:World,∃ t:Sl,((Builtin.append_ #[40,40] 40 #[.slice p.a p.len p.cap,.slice ((some ⟨bz,0,none⟩)) 1 1]).run prog bi=.ok (.slice t.a t.len t.cap) bj)/\
 Zb b λ ac=>
 ∃ bk:World,((Instr.storeAt 40 (.pointer ((some ⟨ac.block,ac.off + 2 + 1,none⟩))) (.slice t.a t.len t.cap)).run prog bj=.ok () bk)/\
 K (.int .i64 0) bk) bh) bc)) ax)) w
def ZwZ:Sk:=(.seq .leaf (.seq (.cond .leaf .leaf) (.seq .leaf (.cut [] [] [4,6,20,21,22,23,24,25,26,27,28,29,30,31,32,33,34,35,36,37,38,39,40,41,42,43,44,45,46,47,48,49,50,51,52,53,54,55,56,57,58,59,60] (.seq .leaf (.cond (.seq (.cond .leaf .leaf) (.seq .leaf (.seq (.cond .leaf .leaf) .leaf))) .leaf)) (.seq (.cond .leaf .leaf) (.seq .leaf (.seq .leaf (.seq (.cond .leaf .leaf) .leaf))))))))
theorem ZtW (c:Option Addr) (d:Int) (e:Int) (f:Int) (b:Sl) (K:Value->World->Prop) (w:World) (h:B115 c d e f b K w):Zq prog 115 #[.pointer c,.agg #[.int .i64 d,.int .i64 e,.int .i64 f,.slice b.a b.len b.cap]] w K:=cq (sk:=ZwZ) func115 (by kernel_rfl) (by kernel_rfl) (by kernel_rfl) h
def B70 (b:Option Addr) (c:Int) (K:Value->World->Prop) (w:World):Prop:=
 Zb b λ L=>
 ∃ Z:Bool,(At (λ e=>e=w) ⟨L.block,L.off + 6,none⟩ [.bool Z])/\
 Br Z
 (K (.int .i64 8) w)
 (∃ (z:World->Prop),(Zb b λ A=>
 ∃ M:Int,(At (λ e=>e=w) ⟨A.block,A.off + 2,none⟩ [.int .i64 M])/\
 Br (decide (c<=M))
 (K (.int .i64 7) w)
 (Zb b λ C=>
 ∃ N:Int,∃ f:Sl,(At (λ e=>e=w) ⟨C.block,C.off + 2,none⟩ [.int .i64 N,.slice f.a f.len f.cap])/\
 Calls prog 30 #[.agg #[.int .i64 N,.slice f.a f.len f.cap]] w λ aw aa=>
 ∃ O:Int,(aw=.returned (.int .i64 O))/\
 Br (decide (c>IntKind.i64.wrap (O + 1)))
 (K (.int .i64 7) aa)
 (z  aa)))/\
 ∀ (ba:Env)  (x:World),z  x->
 Zb b λ D=>
 ∃ Q:Int,∃ g:Sl,(At (λ e=>e=x) ⟨D.block,D.off + 2,none⟩ [.int .i64 Q,.slice g.a g.len g.cap])/\
 Calls prog 30 #[.agg #[.int .i64 Q,.slice g.a g.len g.cap]] x λ ax aj=>
 ∃ T:Int,(ax=.returned (.int .i64 T))/\
 Br (c==IntKind.i64.wrap (T + 1))
 (K (.int .i64 0) aj)
 (Drw aj λ d ak=>
 Zb b λ ap=>
 ∃ s:Option Addr,(At d (Addr.add ap 0) [.pointer s])/\
 (Calls prog 117 #[.pointer b] ak λ ay al=>
 ∃ U:ByteArray,(ay=.returned (.string U))/\
 (d al)/\
 New (.cells #[.int .i64 2,.int .i64 c] 3 (0,0)) (λ aq am=>
 (d am)/\
 Calls prog 118 #[.slice ((some ⟨aq,0,none⟩)) 2 2,.slice none 0 0,.bool false] am λ az an=>
 ∃ i:Sl,(az=.returned (.slice i.a i.len i.cap))/\
 (d an)/\
 Calls prog 36 #[.pointer s,.string U,.slice i.a i.len i.cap] an λ a0 ao=>
 ∃ t:Int,(a0=.returned (.int .i64 t))/\
 Br (t !=0)
 (Calls prog 116 #[.pointer b,.int .i64 t] ao λ a1 a9=>
 ∃ X:Int,(a1=.returned (.int .i64 X))/\
 K (.int .i64 X) a9)
 (Drw ao λ o a6=>
 Zb b λ E=>
 ∃ k:Sl,(At o ⟨E.block,E.off + 2 + 1,none⟩ [.slice k.a k.len k.cap])/\
 Zb b λ G=>
 ∃ q:Int,(At o ⟨G.block,G.off + 2,none⟩ [.int .i64 q])/\
 ((0:Int)<=IntKind.i64.wrap (IntKind.i64.wrap (c - 1) - q))/\
 ((IntKind.i64.wrap (IntKind.i64.wrap (c - 1) - q):Int)<=(↑k.cap:Int))/\
 New (.cells #[] 55 (0,0)) (λ au ab=>
 (o ab)/\
 ∃ v:World,∃ m:Sl,((Builtin.append_ #[40,40] 40 #[.slice ((some ⟨au,0,none⟩)) 0 0,.slice k.a ((IntKind.i64.wrap (IntKind.i64.wrap (c - 1) - q)).toNat) k.cap]).run prog ab=.ok (.slice m.a m.len m.cap) v)/\
 (o v)/\
 Zb b λ I=>
 ∃ ac:World,((Instr.storeAt 40 (.pointer ((some ⟨I.block,I.off + 2 + 1,none⟩))) (.slice m.a m.len m.cap)).run prog v=.ok () ac)/\
 K (.int .i64 0) ac) a6)) al)/\
 New (.cells #[.int .i64 2,.int .i64 c] 3 (0,0)) (λ ar ad=>
 (d ad)/\
 Calls prog 117 #[.pointer b] ad λ a2 ae=>
 ∃ V:ByteArray,(a2=.returned (.string V))/\
 (d ae)/\
 Calls prog 118 #[.slice ((some ⟨ar,0,none⟩)) 2 2,.slice none 0 0,.bool false] ae λ a3 af=>
 ∃ j:Sl,(a3=.returned (.slice j.a j.len j.cap))/\
 (d af)/\
 Calls prog 36 #[.pointer s,.string V,.slice j.a j.len j.cap] af λ a4 ag=>
 ∃ u:Int,(a4=.returned (.int .i64 u))/\
 Br (u !=0)
 (Calls prog 116 #[.pointer b,.int .i64 u] ag λ a5 a7=>
 ∃ Y:Int,(a5=.returned (.int .i64 Y))/\
 K (.int .i64 Y) a7)
 (Drw ag λ p a8=>
 Zb b λ F=>
 ∃ l:Sl,(At p ⟨F.block,F.off + 2 + 1,none⟩ [.slice l.a l.len l.cap])/\
 Zb b λ H=>
 ∃ r:Int,(At p ⟨H.block,H.off + 2,none⟩ [.int .i64 r])/\
 ((0:Int)<=IntKind.i64.wrap (IntKind.i64.wrap (c - 1) - r))/\
 ((IntKind.i64.wrap (IntKind.i64.wrap (c - 1) - r):Int)<=(↑l.cap:Int))/\
 New (.cells #[] 55 (0,0)) (λ av ah=>
 (p ah)/\
 ∃ y:World,∃ n:Sl,((Builtin.append_ #[40,40] 40 #[.slice ((some ⟨av,0,none⟩)) 0 0,.slice l.a ((IntKind.i64.wrap (IntKind.i64.wrap (c - 1) - r)).toNat) l.cap]).run prog ah=.ok (.slice n.a n.len n.cap) y)/\
 (p y)/\
 Zb b λ J=>
 ∃ ai:World,((Instr.storeAt 40 (.pointer ((some ⟨J.block,J.off + 2 + 1,none⟩))) (.slice n.a n.len n.cap)).run prog y=.ok () ai)/\
 K (.int .i64 0) ai) a8)) ak))
def sk70:Sk:=(.seq .leaf (.seq .leaf (.cut [] [] [4,10,11,12,13,14,15,16,17,18,19,20,21,22,23,24,25,26] .leaf .leaf)))
theorem Zvg (b:Option Addr) (a:Int) (K:Value->World->Prop) (w:World) (h:B70 b a K w):Zq prog 70 #[.pointer b,.int .i64 a] w K:=cq (sk:=sk70) func70 (by kernel_rfl) (by kernel_rfl) (by kernel_rfl) h
def B71 (b:Option Addr) (d:Int) (K:Value->World->Prop) (w:World):Prop:=
 Zb b λ n=>
 ∃ s:Bool,(At (λ X=>X=w) ⟨n.block,n.off + 6,none⟩ [.bool s])/\
 Br s
 (K (.int .i64 8) w)
 (∃ (k:World->Prop),(Br (decide (d<1))
 (K (.int .i64 1) w)
 (Br (decide (d>1099511627776))
 (K (.int .i64 1) w)
 (k  w)))/\
 ∀ (aa:Env)  (t:World),k  t->
 Drw t λ c z=>
 Zb b λ H=>
 ∃ g:Option Addr,(At c (Addr.add H 0) [.pointer g])/\
 (Calls prog 117 #[.pointer b] z λ L A=>
 ∃ o:ByteArray,(L=.returned (.string o))/\
 (c A)/\
 New (.cells #[.int .i64 3,.int .i64 d] 3 (0,0)) (λ I C=>
 (c C)/\
 Calls prog 118 #[.slice ((some ⟨I,0,none⟩)) 2 2,.slice none 0 0,.bool false] C λ M D=>
 ∃ e:Sl,(M=.returned (.slice e.a e.len e.cap))/\
 (c D)/\
 Calls prog 36 #[.pointer g,.string o,.slice e.a e.len e.cap] D λ N E=>
 ∃ i:Int,(N=.returned (.int .i64 i))/\
 Br (i !=0)
 (Calls prog 116 #[.pointer b,.int .i64 i] E λ O Z=>
 ∃ q:Int,(O=.returned (.int .i64 q))/\
 K (.int .i64 q) Z)
 (Zb b λ l=>
 ∃ F:World,((Instr.storeAt 59 (.pointer ((some ⟨l.block,l.off + 2,none⟩))) (.agg #[.int .i64 (IntKind.i64.wrap (d - 1)),.slice none 0 0])).run prog E=.ok () F)/\
 K (.int .i64 0) F)) A)/\
 New (.cells #[.int .i64 3,.int .i64 d] 3 (0,0)) (λ J G=>
 (c G)/\
 Calls prog 117 #[.pointer b] G λ Q u=>
 ∃ p:ByteArray,(Q=.returned (.string p))/\
 (c u)/\
 Calls prog 118 #[.slice ((some ⟨J,0,none⟩)) 2 2,.slice none 0 0,.bool false] u λ T v=>
 ∃ f:Sl,(T=.returned (.slice f.a f.len f.cap))/\
 (c v)/\
 Calls prog 36 #[.pointer g,.string p,.slice f.a f.len f.cap] v λ U x=>
 ∃ j:Int,(U=.returned (.int .i64 j))/\
 Br (j !=0)
 (Calls prog 116 #[.pointer b,.int .i64 j] x λ V Y=>
 ∃ r:Int,(V=.returned (.int .i64 r))/\
 K (.int .i64 r) Y)
 (Zb b λ m=>
 ∃ y:World,((Instr.storeAt 59 (.pointer ((some ⟨m.block,m.off + 2,none⟩))) (.agg #[.int .i64 (IntKind.i64.wrap (d - 1)),.slice none 0 0])).run prog x=.ok () y)/\
 K (.int .i64 0) y)) z)
def sk71:Sk:=(.seq .leaf (.seq .leaf (.cut [] [] [4,10,11,12,13,14,15] .leaf .leaf)))
theorem Zvf (b:Option Addr) (a:Int) (K:Value->World->Prop) (w:World) (h:B71 b a K w):Zq prog 71 #[.pointer b,.int .i64 a] w K:=cq (sk:=sk71) func71 (by kernel_rfl) (by kernel_rfl) (by kernel_rfl) h
def B72 (a:Option Addr) (K:Value->World->Prop) (w:World):Prop:=
 Zb a λ c=>
 ∃ i:Bool,(At (λ p=>p=w) ⟨c.block,c.off + 6,none⟩ [.bool i])/\
 Br i
 (K (.int .i64 8) w)
 (Drw w λ b q=>
 Zb a λ l=>
 ∃ d:Option Addr,(At b (Addr.add l 0) [.pointer d])/\
 Calls prog 117 #[.pointer a] q λ m j=>
 ∃ e:ByteArray,(m=.returned (.string e))/\
 (b j)/\
 Calls prog 38 #[.pointer d,.string e] j λ n r=>
 ∃ f:Int,(n=.returned (.int .i64 f))/\
 Calls prog 116 #[.pointer a,.int .i64 f] r λ o k=>
 ∃ g:Int,(o=.returned (.int .i64 g))/\
 (b k)/\
 K (.int .i64 g) k)
theorem Zve (a:Option Addr) (K:Value->World->Prop) (w:World) (h:B72 a K w):Zq prog 72 #[.pointer a] w K:=cq (sk:=.leaf) func72 (by kernel_rfl) (by kernel_rfl) (by kernel_rfl) h
def B73 (c:Option Addr) (D:Int) (K:Value->World->Prop) (w:World):Prop:=
 Zb c λ C=>
 ∃ M:Bool,(At (λ b=>b=w) ⟨C.block,C.off + 6,none⟩ [.bool M])/\
 Br M
 (K (.int .i64 8) w)
 (Zb c λ s=>
 ∃ E:Int,∃ g:Sl,(At (λ b=>b=w) ⟨s.block,s.off + 2,none⟩ [.int .i64 E,.slice g.a g.len g.cap])/\
 Calls prog 30 #[.agg #[.int .i64 E,.slice g.a g.len g.cap]] w λ aa N=>
 ∃ F:Int,(aa=.returned (.int .i64 F))/\
 Br (decide (D>IntKind.i64.wrap (F + 1)))
 (K (.int .i64 7) N)
 (∃ (n:World->Prop) (V:World->Nat),(n  N)/\∀ (aj:Env)  (f:World),n  f->
 ∃ (r:World->Prop),(Zb c λ t=>
 ∃ l:Sl,(At (λ b=>b=f) ⟨t.block,t.off + 4,none⟩ [.slice l.a l.len l.cap])/\
 Br (decide ((↑l.len:Int)>1))
 (Zb c λ u=>
 ∃ j:Sl,(At (λ b=>b=f) ⟨u.block,u.off + 5,none⟩ [.slice j.a j.len j.cap])/\
 Rng 1 j.len (Zb j.a λ X=>
 ∃ G:Int,(At (λ b=>b=f) (Addr.add X 1) [.int .i64 G])/\
 Br (decide (G<=D))
 (r  f)
 (K (.int .i64 0) f)))
 (K (.int .i64 0) f))/\
 ∀ (ak:Env)  (Q:World),r  Q->
 Drw Q λ i ah=>
 Zb c λ Y=>
 ∃ H:Option Addr,(At i (Addr.add Y 0) [.pointer H])/\
 Zb c λ v=>
 ∃ k:Sl,(At i ⟨v.block,v.off + 4,none⟩ [.slice k.a k.len k.cap])/\
 Rng 0 k.len (Zb k.a λ Z=>
 ∃ I:Int,(At i (Addr.add Z 0) [.int .i64 I])/\
 Calls prog 95 #[.int .i64 I] ah λ ab T=>
 ∃ J:ByteArray,(ab=.returned (.string J))/\
 (i T)/\
 Calls prog 92 #[.pointer H,.string J] T λ ac m=>
 ∃ o:Int,(ac=.returned (.int .i64 o))/\
 (i m)/\
 Br (o !=0)
 (Calls prog 116 #[.pointer c,.int .i64 o] m λ ad ai=>
 ∃ L:Int,(ad=.returned (.int .i64 L))/\
 K (.int .i64 L) ai)
 (Zb c λ x=>
 ∃ d:Sl,(At (λ b=>b=m) ⟨x.block,x.off + 4,none⟩ [.slice d.a d.len d.cap])/\
 ((0:Int)<=1)/\
 ((1:Int)<=(↑d.len:Int))/\
 Zb c λ y=>
 ∃ q:World,((Instr.storeAt 41 (.pointer ((some ⟨y.block,y.off + 4,none⟩))) (.slice (ZcW d.a (Int.toNat 1) d.cap 1) (d.len - Int.toNat 1) (d.cap - Int.toNat 1))).run prog m=.ok () q)/\
 Zb c λ z=>
 ∃ e:Sl,(At (λ b=>b=q) ⟨z.block,z.off + 5,none⟩ [.slice e.a e.len e.cap])/\
 ((0:Int)<=1)/\
 ((1:Int)<=(↑e.len:Int))/\
 Zb c λ A=>
 ∃ U:World,((Instr.storeAt 41 (.pointer ((some ⟨A.block,A.off + 5,none⟩))) (.slice (ZcW e.a (Int.toNat 1) e.cap 1) (e.len - Int.toNat 1) (e.cap - Int.toNat 1))).run prog q=.ok () U)/\
 Calls prog 93 #[.pointer c] U λ ae O=>
 ∃ af:Int,∃ ag:Int,∃ p:Sl,(ae=.returned (.tuple #[.int .i64 af,.int .i64 ag,.slice p.a p.len p.cap]))/\
 (n  O)/\V  O<V  f))))
def sk73:Sk:=(.seq .leaf (.seq .leaf (.seq .leaf (.seq (.block (.loop [] [] [4,5,18,19,20,21,22,23,24,25,26,27,28,29,30,31,32,33,34,35,36,37,38,39,40,41,42,43,44,45,46,47,48,49,50,51,52,53,54,55,56,57,58,59,60,61,62,63,64,65,66,67,68] (.cut [] [] [18,19,20,21,22,23,24,25,26,27,28,29,30,31,32,33] .leaf .leaf))) .leaf))))
theorem Zvd (b:Option Addr) (a:Int) (K:Value->World->Prop) (w:World) (h:B73 b a K w):Zq prog 73 #[.pointer b,.int .i64 a] w K:=cq (sk:=sk73) func73 (by kernel_rfl) (by kernel_rfl) (by kernel_rfl) h
end
section
open Go Go.VC Tryz
set_option maxRecDepth 10000
def B10 (t:Int) (c:Sl) (K:Value->World->Prop) (w:World):Prop:=
 Calls prog 17 #[.int .i64 t] w λ O aa=>
 ∃ d:Option Addr,∃ u:Int,(O=.returned (.tuple #[.pointer d,.int .i64 u]))/\
 Calls prog 34 #[.int .i64 t] aa λ Q j=>
 ∃ g:Option Addr,∃ v:Int,(Q=.returned (.tuple #[.pointer g,.int .i64 v]))/\
 ∃ (n:World->Prop),(Br (u !=0)
 (K (.tuple #[.pointer none,.pointer none,.bool false]) j)
 (Br (v !=0)
 (K (.tuple #[.pointer none,.pointer none,.bool false]) j)
 (Br d.isNone
 (K (.tuple #[.pointer none,.pointer none,.bool false]) j)
 (n  j))))/\
 ∀ (ae:Env)  (G:World),n  G->
 ∃ (k:Int->World->Prop) (I:Int->World->Nat),(k 0 G)/\∀ (af:Env) (b:Int) (i:World),k b i->
 ∃ (o:World->Prop),(Br (decide (b<(↑c.len:Int)))
 (Br (decide (b<20))
 (o  i)
 (K (.tuple #[.pointer d,.pointer g,.bool true]) i))
 (K (.tuple #[.pointer d,.pointer g,.bool true]) i))/\
 ∀ (ag:Env)  (H:World),o  H->
 Drw H λ p ab=>
 Rng b c.len (Zb c.a λ J=>
 ∃ x:ByteArray,(At p (Addr.add (Addr.add J (Zah b.toNat 2)) 0) [.string x])/\
 Rng b c.len (Zb c.a λ r=>
 ∃ e:Sl,(At p ⟨(r.add (Zah b.toNat 2)).block,(r.add (Zah b.toNat 2)).off + 1,none⟩ [.slice e.a e.len e.cap])/\
 Calls prog 35 #[.pointer d,.string x,.slice e.a e.len e.cap] ab λ T ac=>
 ∃ y:Int,(T=.returned (.int .i64 y))/\
 Drw ac λ q ad=>
 Rng b c.len (Zb c.a λ L=>
 ∃ z:ByteArray,(At q (Addr.add (Addr.add L (Zah b.toNat 2)) 0) [.string z])/\
 Rng b c.len (Zb c.a λ s=>
 ∃ f:Sl,(At q ⟨(s.add (Zah b.toNat 2)).block,(s.add (Zah b.toNat 2)).off + 1,none⟩ [.slice f.a f.len f.cap])/\
 Calls prog 36 #[.pointer g,.string z,.slice f.a f.len f.cap] ad λ U m=>
 ∃ A:Int,(U=.returned (.int .i64 A))/\
 Br (y !=A)
 (K (.tuple #[.pointer none,.pointer none,.bool false]) m)
 (Rng b c.len (Zb c.a λ M=>
 ∃ C:ByteArray,(At (λ l=>l=m) (Addr.add (Addr.add M (Zah b.toNat 2)) 0) [.string C])/\
 Calls prog 37 #[.pointer d,.string C] m λ V E=>
 ∃ Y:Int,(V=.returned (.int .i64 Y))/\
 Rng b c.len (Zb c.a λ N=>
 ∃ D:ByteArray,(At (λ l=>l=E) (Addr.add (Addr.add N (Zah b.toNat 2)) 0) [.string D])/\
 Calls prog 38 #[.pointer g,.string D] E λ X F=>
 ∃ Z:Int,(X=.returned (.int .i64 Z))/\
 (k (IntKind.i64.wrap (b + 1)) F)/\I (IntKind.i64.wrap (b + 1)) F<I b i)))))))
def sk10:Sk:=(.seq .leaf (.seq .leaf (.seq .leaf (.cut [] [] [4,5,6,24,25,26,27,28,29,30,31,32,33] .leaf (.seq (.seq .leaf (.block (.loop [11] [(.int .i64)] [4,5,6,11,12,13,34,35,36,37,38,39,40,41,42,43,44,45,46,47,48,49,50,51,52,53,54,55,56,57,58,59,60,61,62,63,64,65,66,67,68,69,70,71,72,73,74,75,76,77,78,79,80,81,82,83,84] (.cut [] [] [34,35,36,37,38,39,40,41] .leaf .leaf)))) .leaf)))))
theorem Zwc (c:Int) (b:Sl) (K:Value->World->Prop) (w:World) (h:B10 c b K w):Zq prog 10 #[.int .i64 c,.slice b.a b.len b.cap] w K:=cq (sk:=sk10) func10 (by kernel_rfl) (by kernel_rfl) (by kernel_rfl) h
def B15 (m:Option Addr) (n:Option Addr) (K:Value->World->Prop) (w:World):Prop:=
 Calls prog 33 #[.pointer m] w λ N V=>
 ∃ e:Sl,(N=.returned (.slice e.a e.len e.cap))/\
 Calls prog 43 #[.pointer n] V λ O X=>
 ∃ d:Sl,(O=.returned (.slice d.a d.len d.cap))/\
 ∃ (p:World->Prop),(Drw X λ q E=>
 Br ((↑e.len:Int) !=(↑d.len:Int))
 (K (.bool false) E)
 (Zb n λ r=>
 ∃ t:Bool,(At q ⟨r.block,r.off + 4,none⟩ [.bool t])/\
 Calls prog 40 #[.pointer m] E λ Q o=>
 ∃ s:Bool,(Q=.returned (.bool s))/\
 (q o)/\
 Br (!s==t)
 (K (.bool false) o)
 (p  o)))/\
 ∀ (Z:Env)  (F:World),p  F->
 ∃ (l:Int->World->Prop) (H:Int->World->Nat),(l 0 F)/\∀ (aa:Env) (b:Int) (i:World),l b i->
 Br (decide (b<(↑e.len:Int)))
 (Rng b d.len (Zb d.a λ I=>
 ∃ u:ByteArray,(At (λ c=>c=i) (Addr.add I b.toNat) [.string u])/\
 Calls prog 44 #[.pointer m,.string u] i λ T G=>
 ∃ f:Sl,∃ v:Int,(T=.returned (.tuple #[.slice f.a f.len f.cap,.int .i64 v]))/\
 Rng b d.len (Zb d.a λ J=>
 ∃ x:ByteArray,(At (λ c=>c=G) (Addr.add J b.toNat) [.string x])/\
 Calls prog 45 #[.pointer n,.string x] G λ U Y=>
 ∃ g:Sl,∃ y:Int,(U=.returned (.tuple #[.slice g.a g.len g.cap,.int .i64 y]))/\
 Drw Y λ k j=>
 Rng b e.len (Zb e.a λ L=>
 ∃ z:ByteArray,(At k (Addr.add L b.toNat) [.string z])/\
 Rng b d.len (Zb d.a λ M=>
 ∃ A:ByteArray,(At k (Addr.add M b.toNat) [.string A])/\
 Br (!z.toList==A.toList)
 (K (.bool false) j)
 (∃ C:ByteArray,(∀ c,k c->((convert 53 9 (.slice f.a f.len f.cap))).run prog c=.ok (.string C) c)/\
 ∃ D:ByteArray,(∀ c,k c->((convert 53 9 (.slice g.a g.len g.cap))).run prog c=.ok (.string D) c)/\
 Br (!C.toList==D.toList)
 (K (.bool false) j)
 (Br (v !=y)
 (K (.bool false) j)
 ((l (IntKind.i64.wrap (b + 1)) j)/\H (IntKind.i64.wrap (b + 1)) j<H b i))))))))
 (K (.bool true) i)
def sk15:Sk:=(.seq .leaf (.seq .leaf (.seq .leaf (.cut [] [] [4,16,17,18,19,20,21,22,23,24,25,26,27,28,29] .leaf (.seq (.seq .leaf (.block (.loop [7] [(.int .i64)] [4,7,8,9,10,11,30,31,32,33,34,35,36,37,38,39,40,41,42,43,44,45,46,47,48,49,50,51,52,53,54,55,56,57,58,59,60,61,62,63,64,65,66,67,68,69,70,71,72,73,74] .leaf))) .leaf)))))
theorem Zv7 (a:Option Addr) (b:Option Addr) (K:Value->World->Prop) (w:World) (h:B15 a b K w):Zq prog 15 #[.pointer a,.pointer b] w K:=cq (sk:=sk15) func15 (by kernel_rfl) (by kernel_rfl) (by kernel_rfl) h
def B16 (f:Option Addr) (e:Option Addr) (K:Value->World->Prop) (w:World):Prop:=
 Calls prog 22 #[.pointer f] w λ n u=>
 ∃ d:Int,(n=.returned (.int .i64 d))/\
 Calls prog 24 #[.pointer f] u λ o v=>
 ∃ g:Int,(o=.returned (.int .i64 g))/\
 Calls prog 46 #[.pointer e] v λ p l=>
 ∃ i:Int,(p=.returned (.int .i64 i))/\
 Br (d !=i)
 (K (.bool false) l)
 (Calls prog 47 #[.pointer e] l λ q m=>
 ∃ j:Int,(q=.returned (.int .i64 j))/\
 Br (g !=j)
 (K (.bool false) m)
 (Calls prog 21 #[.pointer f,.int .i64 d,.int .i64 100000] m λ r x=>
 ∃ b:Sl,(r=.returned (.slice b.a b.len b.cap))/\
 Calls prog 48 #[.pointer e,.int .i64 d,.int .i64 100000] x λ s y=>
 ∃ c:Sl,(s=.returned (.slice c.a c.len c.cap))/\
 Calls prog 20 #[.slice b.a b.len b.cap,.slice c.a c.len c.cap] y λ t z=>
 ∃ k:Bool,(t=.returned (.bool k))/\
 K (.bool k) z))
theorem Zv6 (b:Option Addr) (a:Option Addr) (K:Value->World->Prop) (w:World) (h:B16 b a K w):Zq prog 16 #[.pointer b,.pointer a] w K:=cq (sk:=.leaf) func16 (by kernel_rfl) (by kernel_rfl) (by kernel_rfl) h
def B32 (p:Option Addr) (q:Option Addr) (k:Option Addr) (l:Option Addr) (aw:Int) (ax:Int) (ay:Int) (m:Sl) (n:Sl) (K:Value->World->Prop) (w:World):Prop:=
 New (.cells #[.int .i64 aw,.int .i64 ax,.int .i64 ay,.slice m.a m.len m.cap,.slice n.a n.len n.cap] 43 (0,0)) (λ d c=>
 ∃ e:Int,(At (λ b=>b=c) ⟨d,0,none⟩ [.int .i64 e])/\
 Br (e==0)
 (∃ f:Sl,(At (λ b=>b=c) ⟨d,0 + 3,none⟩ [.slice f.a f.len f.cap])/\
 Calls prog 18 #[.pointer k,.slice f.a f.len f.cap] c λ ad aa=>
 ∃ x:Int,(ad=.returned (.int .i64 x))/\
 ∃ g:Sl,(At (λ b=>b=aa) ⟨d,0 + 3,none⟩ [.slice g.a g.len g.cap])/\
 Calls prog 69 #[.pointer l,.slice g.a g.len g.cap] aa λ ae a8=>
 ∃ y:Int,(ae=.returned (.int .i64 y))/\
 K (.bool (x==y)) a8)
 (Br (e==1)
 (∃ z:Int,(At (λ b=>b=c) ⟨d,0 + 1,none⟩ [.int .i64 z])/\
 Calls prog 26 #[.pointer k,.int .i64 z] c λ am ab=>
 ∃ A:Int,(am=.returned (.int .i64 A))/\
 ∃ C:Int,(At (λ b=>b=ab) ⟨d,0 + 1,none⟩ [.int .i64 C])/\
 Calls prog 70 #[.pointer l,.int .i64 C] ab λ an a9=>
 ∃ D:Int,(an=.returned (.int .i64 D))/\
 K (.bool (A==D)) a9)
 (Br (e==2)
 (∃ E:Int,(At (λ b=>b=c) ⟨d,0 + 1,none⟩ [.int .i64 E])/\
 Calls prog 27 #[.pointer k,.int .i64 E] c λ ao ac=>
 ∃ F:Int,(ao=.returned (.int .i64 F))/\
 ∃ G:Int,(At (λ b=>b=ac) ⟨d,0 + 1,none⟩ [.int .i64 G])/\
 Calls prog 71 #[.pointer l,.int .i64 G] ac λ ap ba=>
 ∃ H:Int,(ap=.returned (.int .i64 H))/\
 K (.bool (F==H)) ba)
 (Br (e==3)
 (Calls prog 23 #[.pointer k] c λ aq bb=>
 ∃ I:Int,(aq=.returned (.int .i64 I))/\
 Calls prog 72 #[.pointer l] bb λ ar bc=>
 ∃ J:Int,(ar=.returned (.int .i64 J))/\
 K (.bool (I==J)) bc)
 (Br (e==4)
 (∃ L:Int,(At (λ b=>b=c) ⟨d,0 + 1,none⟩ [.int .i64 L])/\
 Calls prog 19 #[.pointer k,.int .i64 L] c λ au X=>
 ∃ M:Int,(au=.returned (.int .i64 M))/\
 ∃ N:Int,(At (λ b=>b=X) ⟨d,0 + 1,none⟩ [.int .i64 N])/\
 Calls prog 73 #[.pointer l,.int .i64 N] X λ av a3=>
 ∃ O:Int,(av=.returned (.int .i64 O))/\
 K (.bool (M==O)) a3)
 (Br (e==5)
 (∃ Q:Int,(At (λ b=>b=c) ⟨d,0 + 1,none⟩ [.int .i64 Q])/\
 ∃ T:Int,(At (λ b=>b=c) ⟨d,0 + 2,none⟩ [.int .i64 T])/\
 Calls prog 21 #[.pointer k,.int .i64 Q,.int .i64 T] c λ af o=>
 ∃ i:Sl,(af=.returned (.slice i.a i.len i.cap))/\
 ∃ U:Int,(At (λ b=>b=o) ⟨d,0 + 1,none⟩ [.int .i64 U])/\
 ∃ V:Int,(At (λ b=>b=o) ⟨d,0 + 2,none⟩ [.int .i64 V])/\
 Calls prog 48 #[.pointer l,.int .i64 U,.int .i64 V] o λ ag a4=>
 ∃ j:Sl,(ag=.returned (.slice j.a j.len j.cap))/\
 Calls prog 20 #[.slice i.a i.len i.cap,.slice j.a j.len j.cap] a4 λ ah a5=>
 ∃ r:Bool,(ah=.returned (.bool r))/\
 K (.bool r) a5)
 (Br (e==6)
 (∃ s:Int,(At (λ b=>b=c) ⟨d,0 + 1,none⟩ [.int .i64 s])/\
 Calls prog 11 #[.pointer p,.int .i64 s] c λ ai Y=>
 ∃ az:Int,(ai=.returned (.int .i64 az))/\
 ∃ t:Int,(At (λ b=>b=Y) ⟨d,0 + 1,none⟩ [.int .i64 t])/\
 Calls prog 12 #[.pointer q,.int .i64 t] Y λ aj a6=>
 ∃ a0:Int,(aj=.returned (.int .i64 a0))/\
 K (.bool true) a6)
 (Br (e==7)
 (∃ u:Int,(At (λ b=>b=c) ⟨d,0 + 1,none⟩ [.int .i64 u])/\
 Calls prog 28 #[.pointer p,.int .i64 u] c λ ak Z=>
 ∃ a1:Int,(ak=.returned (.int .i64 a1))/\
 ∃ v:Int,(At (λ b=>b=Z) ⟨d,0 + 1,none⟩ [.int .i64 v])/\
 Calls prog 74 #[.pointer q,.int .i64 v] Z λ al a7=>
 ∃ a2:Int,(al=.returned (.int .i64 a2))/\
 K (.bool true) a7)
 (K (.bool true) c))))))))) w
theorem ZvR (d:Option Addr) (e:Option Addr) (j:Option Addr) (k:Option Addr) (f:Int) (g:Int) (i:Int) (b:Sl) (c:Sl) (K:Value->World->Prop) (w:World) (h:B32 d e j k f g i b c K w):Zq prog 32 #[.pointer d,.pointer e,.pointer j,.pointer k,.agg #[.int .i64 f,.int .i64 g,.int .i64 i,.slice b.a b.len b.cap,.slice c.a c.len c.cap]] w K:=cq (sk:=.leaf) func32 (by kernel_rfl) (by kernel_rfl) (by kernel_rfl) h
def B7 (a9:Int) (ba:Int) (l:Sl) (K:Value->World->Prop) (w:World):Prop:=
 New (.cells #[.int .i64 a9,.int .i64 ba] 63 (0,0)) (λ k bb=>
 Calls prog 8 #[] bb λ ax bf=>
 ∃ A:Bool,(ax=.returned (.bool A))/\
 Calls prog 9 #[.slice none 0 0,.slice l.a l.len l.cap] bf λ ay I=>
 ∃ Z:Bool,(ay=.returned (.bool Z))/\
 ∃ (L:World->Prop),(Br (!A)
 (K (.bool A) I)
 (Br Z
 (K (.bool A) I)
 (L  I)))/\
 ∀ (bh:Env)  (J:World),L  J->
 ∃ aa:Int,(At (λ b=>b=J) (Addr.add ⟨k,0,none⟩ 0) [.int .i64 aa])/\
 Calls prog 10 #[.int .i64 aa,.slice none 0 0] J λ a1 u=>
 ∃ o:Option Addr,∃ p:Option Addr,∃ ab:Bool,(a1=.returned (.tuple #[.pointer o,.pointer p,.bool ab]))/\
 Br (!ab)
 (∃ ac:Int,(At (λ b=>b=u) (Addr.add ⟨k,0,none⟩ 0) [.int .i64 ac])/\
 Br (decide (ac<1))
 (K (.bool true) u)
 (∃ ad:Int,(At (λ b=>b=u) (Addr.add ⟨k,0,none⟩ 0) [.int .i64 ad])/\
 K (.bool (decide (ad>16777216))) u))
 (∃ ae:Int,(At (λ b=>b=u) (Addr.add ⟨k,0,none⟩ 1) [.int .i64 ae])/\
 Calls prog 13 #[.pointer o,.int .i64 ae] u λ a2 av=>
 ∃ af:Option Addr,∃ ag:Int,(a2=.returned (.tuple #[.pointer af,.int .i64 ag]))/\
 ∃ ah:Int,(At (λ b=>b=av) (Addr.add ⟨k,0,none⟩ 1) [.int .i64 ah])/\
 Calls prog 14 #[.pointer p,.int .i64 ah] av λ a3 bg=>
 ∃ ai:Option Addr,∃ aj:Int,(a3=.returned (.tuple #[.pointer ai,.int .i64 aj]))/\
 ∃ (x:Option Addr->Int->Option Addr->Int->Int->World->Prop) (v:Option Addr->Int->Option Addr->Int->Int->World->Nat),(x af ag ai aj 0 bg)/\∀ (bi:Env) (d:Option Addr) (f:Int) (e:Option Addr) (g:Int) (c:Int) (i:World),x d f e g c i->
 ∃ (M:World->Prop),(Br (decide (c<(↑l.len:Int)))
 (Br (decide (c<100))
 (M  i)
 (Br (f==g)
 (K (.bool (d.isNone==e.isNone)) i)
 (K (.bool false) i)))
 (Br (f==g)
 (K (.bool (d.isNone==e.isNone)) i)
 (K (.bool false) i)))/\
 ∀ (bj:Env)  (C:World),M  C->
 ∃ (N:World->Prop),(Br (f !=g)
 (K (.bool false) C)
 (Br (!d.isNone==e.isNone)
 (K (.bool false) C)
 (N  C)))/\
 ∀ (bk:Env)  (H:World),N  H->
 Rng c l.len (Zb l.a λ aw=>
 ∃ ak:Int,∃ al:Int,∃ am:Int,∃ q:Sl,∃ r:Sl,(At (λ b=>b=H) (Addr.add aw (Zah c.toNat 5)) [.int .i64 ak,.int .i64 al,.int .i64 am,.slice q.a q.len q.cap,.slice r.a r.len r.cap])/\
 New (.cells #[.int .i64 0,.int .i64 0,.int .i64 0,.slice none 0 0,.slice none 0 0] 43 (0,0)) (λ y bc=>
 ∃ j:World,((Instr.storeAt 43 (.pointer ((some ⟨y,0,none⟩))) (.agg #[.int .i64 ak,.int .i64 al,.int .i64 am,.slice q.a q.len q.cap,.slice r.a r.len r.cap])).run prog bc=.ok () j)/\
 ∃ an:Int,(At (λ b=>b=j) ⟨y,0,none⟩ [.int .i64 an])/\
 Br (an==8)
 (∃ s:Sl,(At (λ b=>b=j) ⟨y,0 + 4,none⟩ [.slice s.a s.len s.cap])/\
 Calls prog 25 #[.pointer o,.slice s.a s.len s.cap] j λ a4 ap=>
 (a4=.returned (.tuple #[]))/\
 ∃ t:Sl,(At (λ b=>b=ap) ⟨y,0 + 4,none⟩ [.slice t.a t.len t.cap])/\
 Calls prog 31 #[.pointer p,.slice t.a t.len t.cap] ap λ a5 aq=>
 (a5=.returned (.tuple #[]))/\
 ∃ ao:Int,(At (λ b=>b=aq) (Addr.add ⟨k,0,none⟩ 1) [.int .i64 ao])/\
 Calls prog 13 #[.pointer o,.int .i64 ao] aq λ a6 ar=>
 ∃ F:Option Addr,∃ G:Int,(a6=.returned (.tuple #[.pointer F,.int .i64 G]))/\
 ∃ O:Int,(At (λ b=>b=ar) (Addr.add ⟨k,0,none⟩ 1) [.int .i64 O])/\
 Calls prog 14 #[.pointer p,.int .i64 O] ar λ a7 au=>
 ∃ D:Option Addr,∃ E:Int,(a7=.returned (.tuple #[.pointer D,.int .i64 E]))/\
 (x F G D E (IntKind.i64.wrap (c + 1)) au)/\v F G D E (IntKind.i64.wrap (c + 1)) au<v d f e g c i)
 (Br d.isNone
 ((x d f e g (IntKind.i64.wrap (c + 1)) j)/\v d f e g (IntKind.i64.wrap (c + 1)) j<v d f e g c i)
 (∃ Q:Int,∃ T:Int,∃ U:Int,∃ m:Sl,∃ n:Sl,(At (λ b=>b=j) ⟨y,0,none⟩ [.int .i64 Q,.int .i64 T,.int .i64 U,.slice m.a m.len m.cap,.slice n.a n.len n.cap])/\
 Calls prog 32 #[.pointer o,.pointer p,.pointer d,.pointer e,.agg #[.int .i64 Q,.int .i64 T,.int .i64 U,.slice m.a m.len m.cap,.slice n.a n.len n.cap]] j λ a8 bd=>
 ∃ V:Bool,(a8=.returned (.bool V))/\
 Calls prog 15 #[.pointer o,.pointer p] bd λ az be=>
 ∃ X:Bool,(az=.returned (.bool X))/\
 Calls prog 16 #[.pointer d,.pointer e] be λ a0 z=>
 ∃ Y:Bool,(a0=.returned (.bool Y))/\
 Br (!V)
 (K (.bool false) z)
 (Br (!X)
 (K (.bool false) z)
 (Br (!Y)
 (K (.bool false) z)
 ((x d f e g (IntKind.i64.wrap (c + 1)) z)/\v d f e g (IntKind.i64.wrap (c + 1)) z<v d f e g c i)))))) H))) w
def sk7:Sk:=(.seq .leaf (.seq .leaf (.seq .leaf (.cut [] [] [4,22,23,24,25,26,27] .leaf (.seq .leaf (.seq .leaf (.seq .leaf (.seq .leaf (.seq (.seq .leaf (.block (.loop [10,11,12,13,14] [.ptr,(.int .i64),.ptr,(.int .i64),(.int .i64)] [4,10,11,12,13,14,15,16,17,18,59,60,61,62,63,64,65,66,67,68,69,70,71,72,73,74,75,76,77,78,79,80,81,82,83,84,85,86,87,88,89,90,91,92,93,94,95,96,97,98,99,100,101,102,103,104,105,106,107,108,109,110,111,112,113,114,115,116,117,118,119,120,121,122,123,124,125,126,127,128,129,130,131] (.cut [] [] [59,60,61,62,63,64,65,66] .leaf (.seq (.block (.cut [] [] [4,69,70,71,72,73,74,75,76,77,78] .leaf .leaf)) .leaf))))) .leaf)))))))))
theorem Zxr (c:Int) (d:Int) (b:Sl) (K:Value->World->Prop) (w:World) (h:B7 c d b K w):Zq prog 7 #[.agg #[.int .i64 c,.int .i64 d],.slice b.a b.len b.cap] w K:=cq (sk:=sk7) func7 (by kernel_rfl) (by kernel_rfl) (by kernel_rfl) h
end
section
open Go Go.VC Tryz
set_option maxRecDepth 10000
def B166 (n:Int) (K:Value->World->Prop) (w:World):Prop:=
 ∃ (g:Int->Sl->World->Prop) (k:Int->Sl->World->Nat),(g n ⟨none,0,0⟩ w)/\∀ (q:Env) (c:Int) (b:Sl) (f:World),g c b f->
 Br (decide (c>0))
 (New (.cells #[.int .u8 (IntKind.u8.wrap (c.tmod 256))] 5 (0,0)) (λ m o=>
 ∃ i:World,∃ e:Sl,((Builtin.append_ #[53,53] 53 #[.slice ((some ⟨m,0,none⟩)) 1 1,.slice b.a b.len b.cap]).run prog o=.ok (.slice e.a e.len e.cap) i)/\
 (g (IntKind.u64.wrap (c.tdiv 256)) e i)/\k (IntKind.u64.wrap (c.tdiv 256)) e i<k c b f) f)
 (New (.cells #[.int .u8 (IntKind.u8.wrap (↑b.len:Int))] 5 (0,0)) (λ l p=>
 ∃ j:World,∃ d:Sl,((Builtin.append_ #[53,53] 53 #[.slice ((some ⟨l,0,none⟩)) 1 1,.slice b.a b.len b.cap]).run prog p=.ok (.slice d.a d.len d.cap) j)/\
 K (.slice d.a d.len d.cap) j) f)
def ZwO:Sk:=(.seq .leaf (.seq .leaf (.seq (.block (.loop [0,3] [(.int .u64),.sl] [0,3,4,5,6,7,8,9,10,11,12,13] .leaf)) .leaf)))
theorem Ztk (a:Int) (K:Value->World->Prop) (w:World) (h:B166 a K w):Zq prog 166 #[.int .u64 a] w K:=cq (sk:=ZwO) func166 (by kernel_rfl) (by kernel_rfl) (by kernel_rfl) h
def B167 (d:Sl) (K:Value->World->Prop) (w:World):Prop:=
 Calls prog 166 #[.int .u64 (IntKind.u64.wrap (↑d.len:Int))] w λ f g=>
 ∃ b:Sl,(f=.returned (.slice b.a b.len b.cap))/\
 ∃ e:World,∃ c:Sl,((Builtin.append_ #[53,53] 53 #[.slice b.a b.len b.cap,.slice d.a d.len d.cap]).run prog g=.ok (.slice c.a c.len c.cap) e)/\
 K (.slice c.a c.len c.cap) e
theorem Ztj (b:Sl) (K:Value->World->Prop) (w:World) (h:B167 b K w):Zq prog 167 #[.slice b.a b.len b.cap] w K:=cq (sk:=.leaf) func167 (by kernel_rfl) (by kernel_rfl) (by kernel_rfl) h
def B207 (b:Option Addr) (K:Value->World->Prop) (w:World):Prop:=
 ∃ (E:World->Prop),(Drw w λ t D=>
 Zb b λ F=>
 ∃ N:Bool,(At t ⟨F.block,F.off + 2,none⟩ [.bool N])/\
 Br N
 (K (.tuple #[.int .u64 0,.bool false,.int .i64 0]) D)
 (Zb b λ G=>
 ∃ O:Int,(At t ⟨G.block,G.off + 1,none⟩ [.int .i64 O])/\
 Zb b λ ad=>
 ∃ o:Sl,(At t (Addr.add ad 0) [.slice o.a o.len o.cap])/\
 Br (decide (O >= (↑o.len:Int)))
 (K (.tuple #[.int .u64 0,.bool false,.int .i64 0]) D)
 (E  D)))/\
 ∀ (am:Env)  (V:World),E  V->
 Drw V λ u X=>
 Zb b λ ae=>
 ∃ k:Sl,(At u (Addr.add ae 0) [.slice k.a k.len k.cap])/\
 Zb b λ H=>
 ∃ y:Int,(At u ⟨H.block,H.off + 1,none⟩ [.int .i64 y])/\
 Rng y k.len (Zb k.a λ af=>
 ∃ g:Int,(At u (Addr.add af y.toNat) [.int .u8 g])/\
 ∃ (s:Int->World->Prop),(Br (decide (IntKind.i64.wrap g >= 16))
 (s (IntKind.i64.wrap (IntKind.i64.wrap g - 16)) X)
 (s (IntKind.i64.wrap g) X))/\
 ∀ (an:Env) (e:Int) (Y:World),s e Y->
 ∃ (i:World->Prop),(Drw Y λ d c=>
 Br (decide (e>8))
 (K (.tuple #[.int .u64 0,.bool false,.int .i64 0]) c)
 (Zb b λ I=>
 ∃ Q:Int,(At d ⟨I.block,I.off + 1,none⟩ [.int .i64 Q])/\
 Zb b λ ag=>
 ∃ p:Sl,(At d (Addr.add ag 0) [.slice p.a p.len p.cap])/\
 Br (decide (IntKind.i64.wrap (IntKind.i64.wrap (Q + 1) + e)>(↑p.len:Int)))
 (K (.tuple #[.int .u64 0,.bool false,.int .i64 0]) c)
 (Br (decide (IntKind.i64.wrap g >= 16))
 (Br (e==0)
 (K (.tuple #[.int .u64 0,.bool false,.int .i64 0]) c)
 (Br (decide (e>0))
 (Zb b λ ah=>
 ∃ l:Sl,(At d (Addr.add ah 0) [.slice l.a l.len l.cap])/\
 Zb b λ J=>
 ∃ z:Int,(At d ⟨J.block,J.off + 1,none⟩ [.int .i64 z])/\
 Rng (IntKind.i64.wrap (z + 1)) l.len (Zb l.a λ aj=>
 ∃ T:Int,(At d (Addr.add aj ((IntKind.i64.wrap (z + 1)).toNat)) [.int .u8 T])/\
 Br (T==0)
 (K (.tuple #[.int .u64 0,.bool false,.int .i64 0]) c)
 (i  c)))
 (i  c)))
 (Br (decide (e>0))
 (Zb b λ ai=>
 ∃ m:Sl,(At d (Addr.add ai 0) [.slice m.a m.len m.cap])/\
 Zb b λ L=>
 ∃ A:Int,(At d ⟨L.block,L.off + 1,none⟩ [.int .i64 A])/\
 Rng (IntKind.i64.wrap (A + 1)) m.len (Zb m.a λ ak=>
 ∃ U:Int,(At d (Addr.add ak ((IntKind.i64.wrap (A + 1)).toNat)) [.int .u8 U])/\
 Br (U==0)
 (K (.tuple #[.int .u64 0,.bool false,.int .i64 0]) c)
 (i  c)))
 (i  c)))))/\
 ∀ (ao:Env)  (Z:World),i  Z->
 ∃ (r:Int->Int->World->Prop) (ab:Int->Int->World->Nat),(r 0 0 Z)/\∀ (ap:Env) (j:Int) (f:Int) (q:World),r j f q->
 Br (decide (f<e))
 (Drw q λ v aa=>
 Zb b λ al=>
 ∃ n:Sl,(At v (Addr.add al 0) [.slice n.a n.len n.cap])/\
 Zb b λ M=>
 ∃ C:Int,(At v ⟨M.block,M.off + 1,none⟩ [.int .i64 C])/\
 Rng (IntKind.i64.wrap (IntKind.i64.wrap (C + 1) + f)) n.len (Zb n.a λ ac=>
 ∃ x:Int,(At v (Addr.add ac ((IntKind.i64.wrap (IntKind.i64.wrap (C + 1) + f)).toNat)) [.int .u8 x])/\
 (r (IntKind.u64.wrap (IntKind.u64.wrap (j * 256) + IntKind.u64.wrap x)) (IntKind.i64.wrap (f + 1)) aa)/\ab (IntKind.u64.wrap (IntKind.u64.wrap (j * 256) + IntKind.u64.wrap x)) (IntKind.i64.wrap (f + 1)) aa<ab j f q))
 (K (.tuple #[.int .u64 j,.bool (decide (IntKind.i64.wrap g >= 16)),.int .i64 (IntKind.i64.wrap (e + 1))]) q))
def ZwG:Sk:=(.seq .leaf (.cut [] [] [2,3,4,9,10,11,12,13,14,15,16,17,18,19,20,21,22,23,24] .leaf (.seq .leaf (.seq .leaf (.cut [5] [(.int .i64)] [5,38,39,40] .leaf (.cut [] [] [2,3,4,41,42,43,44,45,46,47,48,49,50,51,52,53,54,55,56,57,58,59,60,61,62,63,64,65,66,67,68,69,70,71,72,73,74,75,76,77,78,79,80,81,82] .leaf (.seq .leaf (.seq (.seq .leaf (.block (.loop [7,8] [(.int .u64),(.int .i64)] [7,8,83,84,85,86,87,88,89,90,91,92,93,94,95,96,97,98,99,100,101,102,103,104] .leaf))) .leaf))))))))
theorem Zs2 (a:Option Addr) (K:Value->World->Prop) (w:World) (h:B207 a K w):Zq prog 207 #[.pointer a] w K:=cq (sk:=ZwG) func207 (by kernel_rfl) (by kernel_rfl) (by kernel_rfl) h
def B173 (a:Option Addr) (t:Int) (K:Value->World->Prop) (w:World):Prop:=
 Calls prog 207 #[.pointer a] w λ s b=>
 ∃ c:Int,∃ m:Bool,∃ d:Int,(s=.returned (.tuple #[.int .u64 c,.bool m,.int .i64 d]))/\
 ∃ (f:World->Prop),(Br (d==0)
 (Zb a λ g=>
 ∃ o:World,((Instr.storeAt 4 (.pointer ((some ⟨g.block,g.off + 2,none⟩))) (.bool true)).run prog b=.ok () o)/\
 K (.int .u64 0) o)
 (Br m
 (Zb a λ i=>
 ∃ p:World,((Instr.storeAt 4 (.pointer ((some ⟨i.block,i.off + 2,none⟩))) (.bool true)).run prog b=.ok () p)/\
 K (.int .u64 0) p)
 (Br (decide (c>t))
 (Zb a λ j=>
 ∃ q:World,((Instr.storeAt 4 (.pointer ((some ⟨j.block,j.off + 2,none⟩))) (.bool true)).run prog b=.ok () q)/\
 K (.int .u64 0) q)
 (f  b))))/\
 ∀ (v:Env)  (e:World),f  e->
 Zb a λ k=>
 ∃ n:Int,(At (λ u=>u=e) ⟨k.block,k.off + 1,none⟩ [.int .i64 n])/\
 Zb a λ l=>
 ∃ r:World,((Instr.storeAt 3 (.pointer ((some ⟨l.block,l.off + 1,none⟩))) (.int .i64 (IntKind.i64.wrap (n + d)))).run prog e=.ok () r)/\
 K (.int .u64 c) r
def ZwM:Sk:=(.seq .leaf (.seq .leaf (.cut [] [] [4,14,15,16,17,18,19,20,21,22,23,24,25,26] .leaf .leaf)))
theorem Ztg (b:Option Addr) (a:Int) (K:Value->World->Prop) (w:World) (h:B173 b a K w):Zq prog 173 #[.pointer b,.int .u64 a] w K:=cq (sk:=ZwM) func173 (by kernel_rfl) (by kernel_rfl) (by kernel_rfl) h
def B177 (b:Option Addr) (A:Int) (K:Value->World->Prop) (w:World):Prop:=
 Calls prog 207 #[.pointer b] w λ Q U=>
 ∃ k:Int,∃ C:Bool,∃ c:Int,(Q=.returned (.tuple #[.int .u64 k,.bool C,.int .i64 c]))/\
 ∃ (o:World->Prop),(Drw U λ p g=>
 Br (c==0)
 (Zb b λ r=>
 ∃ F:World,((Instr.storeAt 4 (.pointer ((some ⟨r.block,r.off + 2,none⟩))) (.bool true)).run prog g=.ok () F)/\
 K (.slice none 0 0) F)
 (Br C
 (Zb b λ s=>
 ∃ G:World,((Instr.storeAt 4 (.pointer ((some ⟨s.block,s.off + 2,none⟩))) (.bool true)).run prog g=.ok () G)/\
 K (.slice none 0 0) G)
 (Br (decide (A<0))
 (Zb b λ t=>
 ∃ H:World,((Instr.storeAt 4 (.pointer ((some ⟨t.block,t.off + 2,none⟩))) (.bool true)).run prog g=.ok () H)/\
 K (.slice none 0 0) H)
 (Br (decide (k>IntKind.u64.wrap A))
 (Zb b λ u=>
 ∃ I:World,((Instr.storeAt 4 (.pointer ((some ⟨u.block,u.off + 2,none⟩))) (.bool true)).run prog g=.ok () I)/\
 K (.slice none 0 0) I)
 (Zb b λ M=>
 ∃ l:Sl,(At p (Addr.add M 0) [.slice l.a l.len l.cap])/\
 Zb b λ q=>
 ∃ D:Int,(At p ⟨q.block,q.off + 1,none⟩ [.int .i64 D])/\
 Br (decide (k>IntKind.u64.wrap (IntKind.i64.wrap (IntKind.i64.wrap ((↑l.len:Int) - D) - c))))
 (Zb b λ v=>
 ∃ J:World,((Instr.storeAt 4 (.pointer ((some ⟨v.block,v.off + 2,none⟩))) (.bool true)).run prog g=.ok () J)/\
 K (.slice none 0 0) J)
 (o  g))))))/\
 ∀ (X:Env)  (n:World),o  n->
 Zb b λ x=>
 ∃ d:Int,(At (λ T=>T=n) ⟨x.block,x.off + 1,none⟩ [.int .i64 d])/\
 Zb b λ y=>
 ∃ L:World,((Instr.storeAt 3 (.pointer ((some ⟨y.block,y.off + 1,none⟩))) (.int .i64 (IntKind.i64.wrap (IntKind.i64.wrap (d + c) + IntKind.i64.wrap k)))).run prog n=.ok () L)/\
 Drw L λ j V=>
 Zb b λ N=>
 ∃ e:Sl,(At j (Addr.add N 0) [.slice e.a e.len e.cap])/\
 Zb b λ z=>
 ∃ i:Int,(At j ⟨z.block,z.off + 1,none⟩ [.int .i64 i])/\
 ((0:Int)<=i)/\
 ((i:Int)<=(↑e.cap:Int))/\
 ((0:Int)<=IntKind.i64.wrap (d + c))/\
 ((IntKind.i64.wrap (d + c):Int)<=(↑i.toNat:Int))/\
 New (.cells #[] 5 (0,0)) (λ O E=>
 (j E)/\
 ∃ m:World,∃ f:Sl,((Builtin.append_ #[53,53] 53 #[.slice ((some ⟨O,0,none⟩)) 0 0,.slice (ZcW e.a (IntKind.i64.wrap (d + c)).toNat e.cap 1) (i.toNat - (IntKind.i64.wrap (d + c)).toNat) (e.cap - (IntKind.i64.wrap (d + c)).toNat)]).run prog E=.ok (.slice f.a f.len f.cap) m)/\
 (j m)/\
 K (.slice f.a f.len f.cap) m) V
def ZwL:Sk:=(.seq .leaf (.seq .leaf (.cut [] [] [4,15,16,17,18,19,20,21,22,23,24,25,26,27,28,29,30,31,32,33,34,35,36,37,38,39,40,41,42,43,44,45,46,47,48,49] .leaf .leaf)))
theorem Ztc (b:Option Addr) (a:Int) (K:Value->World->Prop) (w:World) (h:B177 b a K w):Zq prog 177 #[.pointer b,.int .i64 a] w K:=cq (sk:=ZwL) func177 (by kernel_rfl) (by kernel_rfl) (by kernel_rfl) h
def B174 (d:Option Addr) (K:Value->World->Prop) (w:World):Prop:=
 Drw w λ c j=>
 Zb d λ f=>
 ∃ i:Bool,(At c ⟨f.block,f.off + 2,none⟩ [.bool i])/\
 Br (!i)
 (Zb d λ e=>
 ∃ g:Int,(At c ⟨e.block,e.off + 1,none⟩ [.int .i64 g])/\
 Zb d λ k=>
 ∃ b:Sl,(At c (Addr.add k 0) [.slice b.a b.len b.cap])/\
 K (.bool (g==(↑b.len:Int))) j)
 (K (.bool false) j)
theorem Ztf (a:Option Addr) (K:Value->World->Prop) (w:World) (h:B174 a K w):Zq prog 174 #[.pointer a] w K:=cq (sk:=.leaf) func174 (by kernel_rfl) (by kernel_rfl) (by kernel_rfl) h
def B175 (a:Int) (K:Value->World->Prop) (w:World):Prop:=
 New (.cells #[.int .u8 (IntKind.u8.wrap (IntKind.u32.wrap (a.tdiv 16777216))),.int .u8 (IntKind.u8.wrap ((IntKind.u32.wrap (a.tdiv 65536)).tmod 256)),.int .u8 (IntKind.u8.wrap ((IntKind.u32.wrap (a.tdiv 256)).tmod 256)),.int .u8 (IntKind.u8.wrap (a.tmod 256))] 5 (0,0)) (λ b c=>
 K (.slice ((some ⟨b,0,none⟩)) 4 4) c) w
theorem Zte (a:Int) (K:Value->World->Prop) (w:World) (h:B175 a K w):Zq prog 175 #[.int .u32 a] w K:=cq (sk:=.leaf) func175 (by kernel_rfl) (by kernel_rfl) (by kernel_rfl) h
def B138 (c:Sl) (K:Value->World->Prop) (w:World):Prop:=
 Br (decide ((↑c.len:Int)>65536))
 (K (.tuple #[.slice none 0 0,.int .i64 3]) w)
 (Calls prog 175 #[.int .u32 (IntKind.u32.wrap (↑c.len:Int))] w λ s v=>
 ∃ b:Sl,(s=.returned (.slice b.a b.len b.cap))/\
 New (.cells #[] 5 (0,0)) (λ q x=>
 ∃ m:World,∃ d:Sl,((Builtin.append_ #[53,53] 53 #[.slice ((some ⟨q,0,none⟩)) 0 0,.slice b.a b.len b.cap]).run prog x=.ok (.slice d.a d.len d.cap) m)/\
 ∃ n:World,∃ e:Sl,((Builtin.append_ #[53,53] 53 #[.slice d.a d.len d.cap,.slice c.a c.len c.cap]).run prog m=.ok (.slice e.a e.len e.cap) n)/\
 Calls prog 176 #[.slice e.a e.len e.cap] n λ t y=>
 ∃ k:Int,(t=.returned (.int .u32 k))/\
 New (.cells #[] 5 (0,0)) (λ r z=>
 ∃ o:World,∃ f:Sl,((Builtin.append_ #[53,53] 53 #[.slice ((some ⟨r,0,none⟩)) 0 0,.slice b.a b.len b.cap]).run prog z=.ok (.slice f.a f.len f.cap) o)/\
 Calls prog 175 #[.int .u32 k] o λ u A=>
 ∃ g:Sl,(u=.returned (.slice g.a g.len g.cap))/\
 ∃ p:World,∃ i:Sl,((Builtin.append_ #[53,53] 53 #[.slice f.a f.len f.cap,.slice g.a g.len g.cap]).run prog A=.ok (.slice i.a i.len i.cap) p)/\
 ∃ l:World,∃ j:Sl,((Builtin.append_ #[53,53] 53 #[.slice i.a i.len i.cap,.slice c.a c.len c.cap]).run prog p=.ok (.slice j.a j.len j.cap) l)/\
 K (.tuple #[.slice j.a j.len j.cap,.int .i64 0]) l) y) v)
theorem ZtC (b:Sl) (K:Value->World->Prop) (w:World) (h:B138 b K w):Zq prog 138 #[.slice b.a b.len b.cap] w K:=cq (sk:=.leaf) func138 (by kernel_rfl) (by kernel_rfl) (by kernel_rfl) h
def B136 (e:Sl) (K:Value->World->Prop) (w:World):Prop:=
 ∃ (n:Sl->Int->World->Prop) (z:Sl->Int->World->Nat),(n ⟨none,0,0⟩ 0 w)/\∀ (L:Env) (d:Sl) (b:Int) (m:World),n d b m->
 Br (decide (IntKind.i64.wrap (b + 8)<=(↑e.len:Int)))
 (∃ (o:Int->Int->World->Prop) (A:Int->Int->World->Nat),(o 0 0 m)/\∀ (M:Env) (c:Int) (i:Int) (g:World),o c i g->
 Br (decide (i<4))
 (Rng (IntKind.i64.wrap (b + i)) e.len (Zb e.a λ C=>
 ∃ p:Int,(At (λ f=>f=g) (Addr.add C ((IntKind.i64.wrap (b + i)).toNat)) [.int .u8 p])/\
 (o (IntKind.i64.wrap (IntKind.i64.wrap (c * 256) + IntKind.i64.wrap p)) (IntKind.i64.wrap (i + 1)) g)/\A (IntKind.i64.wrap (IntKind.i64.wrap (c * 256) + IntKind.i64.wrap p)) (IntKind.i64.wrap (i + 1)) g<A c i g))
 (∃ (r:World->Prop),(Br (decide (c>65536))
 (K (.tuple #[.slice d.a d.len d.cap,.int .i64 b]) g)
 (Br (decide (IntKind.i64.wrap (IntKind.i64.wrap (b + 8) + c)>(↑e.len:Int)))
 (K (.tuple #[.slice d.a d.len d.cap,.int .i64 b]) g)
 (r  g)))/\
 ∀ (N:Env)  (v:World),r  v->
 ((0:Int)<=IntKind.i64.wrap (IntKind.i64.wrap (b + 8) + c))/\
 ((IntKind.i64.wrap (IntKind.i64.wrap (b + 8) + c):Int)<=(↑e.cap:Int))/\
 ((0:Int)<=IntKind.i64.wrap (b + 8))/\
 ((IntKind.i64.wrap (b + 8):Int)<=(↑(IntKind.i64.wrap (IntKind.i64.wrap (b + 8) + c)).toNat:Int))/\
 Calls prog 138 #[.slice (ZcW e.a (IntKind.i64.wrap (b + 8)).toNat e.cap 1) ((IntKind.i64.wrap (IntKind.i64.wrap (b + 8) + c)).toNat - (IntKind.i64.wrap (b + 8)).toNat) (e.cap - (IntKind.i64.wrap (b + 8)).toNat)] v λ F H=>
 ∃ j:Sl,∃ G:Int,(F=.returned (.tuple #[.slice j.a j.len j.cap,.int .i64 G]))/\
 Drw H λ s x=>
 ∃ t:ByteArray,(∀ f,s f->((convert 53 9 (.slice j.a j.len j.cap))).run prog f=.ok (.string t) f)/\
 ((0:Int)<=IntKind.i64.wrap (IntKind.i64.wrap (b + 8) + c))/\
 ((IntKind.i64.wrap (IntKind.i64.wrap (b + 8) + c):Int)<=(↑e.cap:Int))/\
 ((0:Int)<=b)/\
 ((b:Int)<=(↑(IntKind.i64.wrap (IntKind.i64.wrap (b + 8) + c)).toNat:Int))/\
 ∃ u:ByteArray,(∀ f,s f->((convert 53 9 (.slice (ZcW e.a b.toNat e.cap 1) ((IntKind.i64.wrap (IntKind.i64.wrap (b + 8) + c)).toNat - b.toNat) (e.cap - b.toNat)))).run prog f=.ok (.string u) f)/\
 Br (!t.toList==u.toList)
 (K (.tuple #[.slice d.a d.len d.cap,.int .i64 b]) x)
 (New (.cells #[] 5 (0,0)) (λ D I=>
 ∃ y:World,∃ k:Sl,((Builtin.append_ #[53,53] 53 #[.slice ((some ⟨D,0,none⟩)) 0 0,.slice (ZcW e.a (IntKind.i64.wrap (b + 8)).toNat e.cap 1) ((IntKind.i64.wrap (IntKind.i64.wrap (b + 8) + c)).toNat - (IntKind.i64.wrap (b + 8)).toNat) (e.cap - (IntKind.i64.wrap (b + 8)).toNat)]).run prog I=.ok (.slice k.a k.len k.cap) y)/\
 New (.cells #[.slice k.a k.len k.cap] 53 (0,0)) (λ E J=>
 ∃ q:World,∃ l:Sl,((Builtin.append_ #[139,139] 139 #[.slice d.a d.len d.cap,.slice ((some ⟨E,0,none⟩)) 1 1]).run prog J=.ok (.slice l.a l.len l.cap) q)/\
 (n l (IntKind.i64.wrap (IntKind.i64.wrap (b + 8) + c)) q)/\z l (IntKind.i64.wrap (IntKind.i64.wrap (b + 8) + c)) q<z d b m) y) x)))
 (K (.tuple #[.slice d.a d.len d.cap,.int .i64 b]) m)
def ZwV:Sk:=(.seq .leaf (.seq .leaf (.seq .leaf (.seq (.block (.loop [4,5] [.sl,(.int .i64)] [4,5,6,7,8,9,10,11,12,13,14,15,16,17,18,19,20,21,22,23,24,25,26,27,28,29,30,31,32,33,34,35,36,37,38,39,40,41,42,43,44,45,46,47,48,49,50,51,52,53,54,55,56,57,58,59,60,61,62,63,64,65,66,67,68,69,70,71,72,73,74] (.seq .leaf (.block (.seq .leaf (.seq (.seq .leaf (.block (.loop [6,7] [(.int .i64),(.int .i64)] [6,7,16,17,18,19,20,21,22,23,24,25,26,27,28,29] .leaf))) (.cut [] [] [30,31,32,33,34,35,36,37,38,39,40] .leaf .leaf))))))) .leaf))))
theorem ZtE (b:Sl) (K:Value->World->Prop) (w:World) (h:B136 b K w):Zq prog 136 #[.slice b.a b.len b.cap] w K:=cq (sk:=ZwV) func136 (by kernel_rfl) (by kernel_rfl) (by kernel_rfl) h
def B233 (a:Int) (K:Value->World->Prop) (w:World):Prop:=
 Br (a.tmod 2==1)
 (K (.int .u32 (ZcT BinOp.xor IntKind.u32 (IntKind.u32.wrap (a.tdiv 2)) 2197175160)) w)
 (K (.int .u32 (IntKind.u32.wrap (a.tdiv 2))) w)
theorem ZsU (a:Int) (K:Value->World->Prop) (w:World) (h:B233 a K w):Zq prog 233 #[.int .u32 a] w K:=cq (sk:=.leaf) func233 (by kernel_rfl) (by kernel_rfl) (by kernel_rfl) h
def B208 (s:Int) (k:Sl) (K:Value->World->Prop) (w:World):Prop:=
 ∃ (i:Int->Int->World->Prop) (o:Int->Int->World->Nat),(i (ZcT BinOp.xor IntKind.u32 s 4294967295) 0 w)/\∀ (u:Env) (g:Int) (b:Int) (e:World),i g b e->
 Br (decide (b<(↑k.len:Int)))
 (Rng b k.len (Zb k.a λ q=>
 ∃ m:Int,(At (λ t=>t=e) (Addr.add q b.toNat) [.int .u8 m])/\
 ∃ (j:Int->Int->World->Prop) (p:Int->Int->World->Nat),(j (ZcT BinOp.xor IntKind.u32 g (IntKind.u32.wrap m)) 0 e)/\∀ (v:Env) (d:Int) (c:Int) (f:World),j d c f->
 Br (decide (c<8))
 (Calls prog 233 #[.int .u32 d] f λ r n=>
 ∃ l:Int,(r=.returned (.int .u32 l))/\
 (j l (IntKind.i64.wrap (c + 1)) n)/\p l (IntKind.i64.wrap (c + 1)) n<p d c f)
 ((i d (IntKind.i64.wrap (b + 1)) f)/\o d (IntKind.i64.wrap (b + 1)) f<o g b e)))
 (K (.int .u32 (ZcT BinOp.xor IntKind.u32 g 4294967295)) e)
def ZwF:Sk:=(.seq .leaf (.seq .leaf (.seq (.seq .leaf (.block (.loop [5,6] [(.int .u32),(.int .i64)] [5,6,7,10,11,12,13,14,15,16,17,18,19,20,21,22,23,24,25,26,27,28] (.seq .leaf (.seq (.block (.seq .leaf (.seq .leaf (.block (.loop [5,7] [(.int .u32),(.int .i64)] [5,7,23,24,25,26,27,28] .leaf))))) .leaf))))) .leaf)))
theorem Zs1 (c:Int) (b:Sl) (K:Value->World->Prop) (w:World) (h:B208 c b K w):Zq prog 208 #[.int .u32 c,.slice b.a b.len b.cap] w K:=cq (sk:=ZwF) func208 (by kernel_rfl) (by kernel_rfl) (by kernel_rfl) h
def B176 (b:Sl) (K:Value->World->Prop) (w:World):Prop:=
 Calls prog 208 #[.int .u32 0,.slice b.a b.len b.cap] w λ d e=>
 ∃ c:Int,(d=.returned (.int .u32 c))/\
 K (.int .u32 c) e
theorem Ztd (b:Sl) (K:Value->World->Prop) (w:World) (h:B176 b K w):Zq prog 176 #[.slice b.a b.len b.cap] w K:=cq (sk:=.leaf) func176 (by kernel_rfl) (by kernel_rfl) (by kernel_rfl) h
end
section
open Go Go.VC Tryz
variable {R:Cx} {Hs Rest:List HP} {w:World}
theorem Zny {r:Nat} (hr:r<4294967296) (hw:Sat R Hs w):
    Zq prog 233 #[.int .u32 r] w λ v w'=>v=.int .u32 (ZhK r:Nat)/\Sat R Hs w':=by
  apply ZsU;have e1:(r:Int).tmod 2=((r % 2:Nat):Int):=by rw [Int.ofNat_tmod];rfl
  have e2:IntKind.u32.wrap ((r:Int).tdiv 2)=((r / 2:Nat):Int):=by
    rw [show (r:Int).tdiv 2=((r / 2:Nat):Int) from (Int.ofNat_tdiv r 2).symm,ZbF (by omega) (by omega)]
  unfold B233 ZhK;rw [e1,e2];refine Br.mk (λ h=>?_) (λ h=>?_)
  · have h:r % 2=1:=by have:=of_decide_eq_true h;omega
    rw [if_pos h];refine ⟨?_,hw⟩;rw [show (2197175160:Int)=((2197175160:Nat):Int) from rfl,ZgQ (by omega) (by omega)]
  · have h:¬ r % 2=1:=by have:=of_decide_eq_false h;omega
    rw [if_neg h];exact ⟨rfl,hw⟩
set_option maxRecDepth 20000 in
theorem Zph {sum:Nat} {s:Sl} {xs:List Int} (hsum:sum<4294967296) (hxs:∀ x∈xs,0<=x/\x<256) (hs:Ro R s (b8 xs)) (hw:Sat R Hs w):
    Zq prog 208 #[.int .u32 sum,.slice s.a s.len s.cap] w λ v w'=>v=.int .u32 (Zay sum xs:Nat)/\Sat R Hs w':=by
  have hlen:s.len=xs.length:=by have:=hs.len;simpa using this
  have hbd:xs.length<=9223372036854775807:=by have:=hs.bound;simpa using this
  apply Zs1;have hst:sum ^^^ Zcp<4294967296:=Znj hsum (by unfold Zcp;omega);have e0:ZcT BinOp.xor IntKind.u32 (sum:Int) 4294967295=((sum ^^^ Zcp:Nat):Int):=by
    rw [show (4294967295:Int)=((Zcp:Nat):Int) from rfl,ZgQ hsum (by unfold Zcp;omega)]
  refine ⟨λ r t w=>∃ k n:Nat,t=k/\k<=xs.length/\r=n/\n<4294967296/\ZdA n (xs.drop k)=ZdA (sum ^^^ Zcp) xs/\Sat R Hs w,λ _ t _=>xs.length - t.toNat,⟨0,_,rfl,by omega,e0,hst,rfl,hw⟩,?_⟩;rintro _ _ _ w ⟨k,n,rfl,hk,rfl,hn,he,hw⟩;refine Br.d (λ h=>?_) (λ h=>?_)
  · have hkx:k<xs.length:=by omega
    refine hs.ix (eqS hw) k rfl hkx ?_;have hc:=hxs xs[k] (List.getElem_mem _);obtain ⟨c,hce⟩:=Int.eq_ofNat_of_zero_le hc.1;have hc2:c<256:=by omega
    have e1:ZcT BinOp.xor IntKind.u32 (n:Int) (IntKind.u32.wrap xs[k])=((n ^^^ c:Nat):Int):=by
      rw [hce,ZbF (by omega) (by omega),ZgQ hn (by omega)]
    have hnc:n ^^^ c<4294967296:=Znj hn (by omega);refine ⟨λ r t w=>∃ j m:Nat,t=j/\j<=8/\r=m/\m<4294967296/\Za2 (8 - j) m=Za2 8 (n ^^^ c)/\Sat R Hs w,λ _ t _=>8 - t.toNat,⟨0,_,rfl,by omega,e1,hnc,rfl,hw⟩,?_⟩;clear hw;rintro _ _ _ w ⟨j,m,rfl,hj,rfl,hm,hs8,hw⟩;refine Br.d (λ h=>?_) (λ h=>?_)
    · refine (Zny hm hw).use ?_
      rintro _ w ⟨rfl,hw⟩;refine ⟨_,rfl,?_⟩;rw [Zg (by omega) (by omega)];refine ⟨⟨j + 1,_,by omega,by omega,rfl,Zm7 hm,?_,hw⟩,by dsimp only;omega⟩;rw [<-hs8,show 8 - j=(8 - (j + 1)) + 1 by omega];rfl
    · have:j=8:=by omega
      subst this;rw [Zg (by omega) (by omega)];refine ⟨⟨k + 1,m,by omega,by omega,rfl,hm,?_,hw⟩,by dsimp only;omega⟩;rw [<-he,List.drop_eq_getElem_cons hkx];show _=ZdA (Za2 8 (n ^^^ xs[k].toNat)) (xs.drop (k + 1));rw [hce,Int.toNat_natCast,<-hs8];rfl
  · have hkx:k=xs.length:=by omega
    subst hkx;rw [List.drop_length] at he;have he:n=ZdA (sum ^^^ Zcp) xs:=he;refine ⟨?_,hw⟩;unfold Zay;rw [show (4294967295:Int)=((Zcp:Nat):Int) from rfl,ZgQ hn (by unfold Zcp;omega),he]
theorem Zo5 {s:Sl} {xs:List Int} (hxs:∀ x∈xs,0<=x/\x<256) (hs:Ro R s (b8 xs)) (hw:Sat R Hs w):
    Zq prog 176 #[.slice s.a s.len s.cap] w λ v w'=>v=.int .u32 (Zay 0 xs:Nat)/\Sat R Hs w':=by
  apply Ztd;refine (Zph (sum:=0) (by omega) hxs hs hw).use ?_;rintro _ w ⟨rfl,hw⟩;exact ⟨_,rfl,rfl,hw⟩
theorem Zgp {n:Nat} (hn:n<18446744073709551616) (hw:Sat R Hs w):
    Zq prog 166 #[.int .u64 n] w λ v w'=>∃ t:Sl,v=.slice t.a t.len t.cap/\Sat R (Own t 5 (b8 (Ze9 n))::Hs) w':=by
  apply Ztk;have h8:=ZfM hn;refine ⟨λ x out w=>∃ (m:Nat) (ds:List Int),x=m/\m<=n/\dig m++ds=dig n/\Sat R (Own out 5 (b8 ds)::Hs) w,λ x _ _=>x.toNat,⟨n,[],rfl,by omega,by simp,Own.nil hw⟩,?_⟩;clear hw;rintro _ _ out w ⟨m,ds,rfl,hm,he,hw⟩;have hdl:ds.length<=8:=by rw [<-he,List.length_append] at h8;omega
  refine Br.d (λ h=>?_) (λ h=>?_)
  · have e1:IntKind.u8.wrap ((m:Int).tmod 256)=((m % 256:Nat):Int):=by
      rw [show (m:Int).tmod 256=((m % 256:Nat):Int) from (Int.ofNat_tmod m 256).symm,Zd3 (by omega) (by omega)]
    have e2:IntKind.u64.wrap ((m:Int).tdiv 256)=((m / 256:Nat):Int):=by
      rw [show (m:Int).tdiv 256=((m / 256:Nat):Int) from (Int.ofNat_tdiv m 256).symm,Zbt (by omega) (by omega)]
    rw [e1,e2];refine Zd hw λ b w hw=>?_;have hw:Sat R (Own ⟨some ⟨b,0,none⟩,1,1⟩ 5 (b8 [((m % 256:Nat):Int)])::Own out 5 (b8 ds)::Hs) w:=Zeo hw;refine Zcx Zh1 (s:=⟨some ⟨b,0,none⟩,1,1⟩) (n:=9) underlying53 hw (by simp;omega) (by omega) (by omega) λ s' w hw=>?_;refine ⟨⟨m / 256,[((m % 256:Nat):Int)]++ds,rfl,by omega,?_,hw.cons λ _ h=>h.drop⟩,by dsimp only;omega⟩;rw [<-List.append_assoc,<-Zde (by omega)];exact he
  · have hm0:m=0:=by omega
    subst hm0;rw [Zbs,List.nil_append] at he;have hol:out.len=ds.length:=by have:=Own.len hw;simpa using this
    have e1:IntKind.u8.wrap (out.len:Int)=((dig n).length:Int):=by rw [Zd3 (by omega) (by omega),hol,he]
    rw [e1];refine Zd hw λ b w hw=>?_;have hw:Sat R (Own ⟨some ⟨b,0,none⟩,1,1⟩ 5 (b8 [((dig n).length:Int)])::Own out 5 (b8 ds)::Hs) w:=Zeo hw;refine Zcx Zh1 (s:=⟨some ⟨b,0,none⟩,1,1⟩) (n:=9) underlying53 hw (by simp;omega) (by omega) (by omega) λ s' w hw=>?_;have e2:Ze9 n=[((dig n).length:Int)]++ds:=by rw [he];rfl
    rw [e2];exact ⟨s',rfl,hw.cons λ _ h=>h.drop⟩
theorem Zln {s:Sl} {bs:List Int} (hs:Ro R s (b8 bs)) (hl:bs.length<=1099511627776) (hw:Sat R Hs w):
    Zq prog 167 #[.slice s.a s.len s.cap] w λ v w'=>∃ t:Sl,v=.slice t.a t.len t.cap/\Sat R (Own t 5 (b8 (Zfo bs))::Hs) w':=by
  have hlen:s.len=bs.length:=by have:=hs.len;simpa using this
  apply Ztj;unfold B167;rw [Zbt (by omega) (by omega),hlen];refine (Zgp (by omega) hw).use ?_;rintro _ w ⟨t,rfl,hw⟩;refine ⟨t,rfl,?_⟩;rw [<-hlen];have hn:=ZdQ (n:=bs.length) (by omega);refine ZeQ Zh1 (n:=1099511627790) underlying53 hw hs (by omega) (by omega) (by omega) λ s2 w hw=>?_;exact ⟨s2,rfl,hw⟩
abbrev Zai (s:Sl) (n:Nat) (bad:Bool):Obj:=.cells [.slice s.a s.len s.cap,.int .i64 n,.bool bad].toArray 193 (0,0)
def ZdI (r:Nat) (s:Sl) (bs:List Int) (rd:Rd):HP:=exs λ n:Nat=>Zig [pur (n<=bs.length/\bs.drop n=rd.bs),pts r (Zai s n rd.bad)]
theorem Sat.rrd {r:Nat} {s:Sl} {bs:List Int} {rd:Rd}:Sat R (ZdI r s bs rd::Hs) w↔∃ n:Nat,(n<=bs.length/\bs.drop n=rd.bs)/\Sat R (pts r (Zai s n rd.bad)::Hs) w:=by
  unfold ZdI;rw [Sat.exs];constructor
  · rintro ⟨n,h⟩
    have h:=Sat.star.1 h;have h:Sat R (pur _::pts r _::Hs) w:=h;rw [Sat.pur] at h;exact ⟨n,h⟩
  · rintro ⟨n,h⟩
    exact ⟨n,Sat.star.2 (by show Sat R (pur _::pts r _::Hs) w;rw [Sat.pur];exact h)⟩
theorem Zwp {a b:Nat} (h:a<=b):(256:Int) ^ a<=256 ^ b:=by
  rw [show (256:Int)=((256:Nat):Int) from rfl,<-Int.natCast_pow,<-Int.natCast_pow]
  exact Int.ofNat_le.2 (Nat.pow_le_pow_right (by omega) h)
def Zbo (rd:Rd):Int × Bool × Int:=if rd.bad then (0,false,0) else match Za5 rd.bs with|some (n,neg,k)=>(n,neg,(k:Int))|none=>(0,false,0)
theorem Zim {r:Nat} {s:Sl} {bs:List Int} {n:Nat} {bad:Bool} (hl:bs.length<=1099511627776) (hb:∀ x∈bs,0<=x/\x<256) (hs:SlR R.m s (b8 bs)) (hn:n<=bs.length) (hw:Sat R (pts r (Zai s n bad)::Hs) w):
    Zq prog 207 #[.pointer (some ⟨r,0,none⟩)] w λ v w'=>v=.tuple #[.int .u64 (Zbo ⟨bs.drop n,bad⟩).1,.bool (Zbo ⟨bs.drop n,bad⟩).2.1,.int .i64 (Zbo ⟨bs.drop n,bad⟩).2.2]/\Sat R (pts r (Zai s n bad)::Hs) w':=by
  have hlen:s.len=bs.length:=by have:=hs.len;simpa using this
  apply Zs2;have no:Zbo ⟨bs.drop n,bad⟩=(0,false,0)->∀ {w},Sat R (pts r (Zai s n bad)::Hs) w->(Value.tuple #[.int .u64 0,.bool false,.int .i64 0]=.tuple #[.int .u64 (Zbo ⟨bs.drop n,bad⟩).1,.bool (Zbo ⟨bs.drop n,bad⟩).2.1,.int .i64 (Zbo ⟨bs.drop n,bad⟩).2.2]/\Sat R (pts r (Zai s n bad)::Hs) w):=λ e {w} hw=>by
    rw [e];exact ⟨rfl,hw⟩
  refine ⟨λ w=>(bad=false/\n<bs.length)/\Sat R (pts r (Zai s n bad)::Hs) w,Zv hw λ w hw=>?_,?_⟩
  · refine Zb.mk rfl ⟨bad,At.own Ze (by exact ⟨rfl,trivial⟩),Br.mk (λ h=>no (by unfold Zbo;rw [if_pos h]) hw) (λ h=>?_)⟩
    refine Zb.mk rfl ⟨n,At.own Ze (by exact ⟨rfl,trivial⟩),Zb.mk rfl ⟨s,At.own Ze (by exact ⟨rfl,trivial⟩),?_⟩⟩;rw [hlen];refine Br.d (λ h2=>no ?_ hw) (λ h2=>⟨⟨h,by omega⟩,hw⟩);unfold Zbo;simp only;rw [List.drop_eq_nil_of_le (by omega)];split<;>rfl
  clear hw;rintro _ w ⟨⟨hbad,hlt⟩,hw⟩;have hc:=hb bs[n] (List.getElem_mem _);have hd:bs.drop n=bs[n]::bs.drop (n + 1):=List.drop_eq_getElem_cons hlt;have e0:IntKind.i64.wrap bs[n]=bs[n]:=Zg (by omega) (by omega);have nx:Zbo ⟨bs.drop n,bad⟩=match Za5 (bs[n]::bs.drop (n + 1)) with|some (n,neg,k)=>(n,neg,(k:Int))|none=>(0,false,0):=by
    unfold Zbo;rw [hbad,hd];rfl
  refine Zv hw λ w hw=>?_;refine Zb.mk rfl ⟨s,At.own Ze (by exact ⟨rfl,trivial⟩),Zb.mk rfl ⟨n,At.own Ze (by exact ⟨rfl,trivial⟩),hs.ix Ze n rfl hlt ?_⟩⟩;rw [e0];have hkn:0<=(if 16<=bs[n] then bs[n] - 16 else bs[n]):=by split<;>omega
  obtain ⟨k,hk⟩:=Int.eq_ofNat_of_zero_le hkn;have hk2:(if 16<=bs[n] then bs[n] - 16 else bs[n]).toNat=k:=by rw [hk];rfl
  refine ⟨λ x w=>x=(k:Int)/\Sat R (pts r (Zai s n bad)::Hs) w,Br.d (λ h=>⟨?_,hw⟩) (λ h=>⟨?_,hw⟩),?_⟩
  · rw [Zg (by omega) (by omega),<-hk,if_pos (by omega)]
  · rw [<-hk,if_neg (by omega)]
  clear hw;rintro _ _ w ⟨rfl,hw⟩;have dl:(bs.drop (n + 1)).length=bs.length - (n + 1):=List.length_drop;have pno:¬ (bs[n]<32/\k<=8/\k<=(bs.drop (n + 1)).length/\(k=0->bs[n]=0)/\(k≠0->(bs.drop (n + 1)).head?≠some 0))->Zbo ⟨bs.drop n,bad⟩=(0,false,0):=λ h=>by
    rw [nx];unfold Za5;simp only [hk2];rw [if_neg h]
  have pyes:(bs[n]<32/\k<=8/\k<=(bs.drop (n + 1)).length/\(k=0->bs[n]=0)/\(k≠0->(bs.drop (n + 1)).head?≠some 0))->Zbo ⟨bs.drop n,bad⟩=(ZbR 0 ((bs.drop (n + 1)).take k),decide (16<=bs[n]),((k + 1:Nat):Int)):=λ h=>by
    rw [nx];unfold Za5;simp only [hk2];rw [if_pos h]
  refine ⟨λ w=>(bs[n]<32/\k<=8/\k<=(bs.drop (n + 1)).length/\(k=0->bs[n]=0)/\(k≠0->(bs.drop (n + 1)).head?≠some 0))/\Sat R (pts r (Zai s n bad)::Hs) w,Zv hw λ w hw=>?_,?_⟩
  · refine Br.d (λ h=>no (pno λ h2=>by omega) hw) (λ h8=>?_)
    refine Zb.mk rfl ⟨n,At.own Ze (by exact ⟨rfl,trivial⟩),Zb.mk rfl ⟨s,At.own Ze (by exact ⟨rfl,trivial⟩),?_⟩⟩;rw [Zg (x:=(n:Int) + 1) (by omega) (by omega),Zg (by omega) (by omega),hlen];refine Br.d (λ h=>no (pno λ h2=>by omega) hw) (λ hln=>?_);have h32:bs[n]<32:=by split at hk<;>omega
    have last:(k≠0\/bs[n]=0)->Br (decide ((k:Int)>0))
             (Zb (some ⟨r,0,none⟩) λ a_t70=>
              ∃ t72:Sl,(At (Sat R (pts r (Zai s n bad)::Hs)) (Addr.add a_t70 0) [.slice t72.a t72.len t72.cap])/\
              Zb (some ⟨r,0,none⟩) λ a_t74=>
              ∃ t76:Int,(At (Sat R (pts r (Zai s n bad)::Hs)) ⟨a_t74.block,a_t74.off + 1,none⟩ [.int .i64 t76])/\
              Rng (IntKind.i64.wrap (t76 + 1)) t72.len (Zb t72.a λ a_t78=>
              ∃ t79:Int,(At (Sat R (pts r (Zai s n bad)::Hs)) (Addr.add a_t78 ((IntKind.i64.wrap (t76 + 1)).toNat)) [.int .u8 t79])/\
              Br (t79==0)
               (Value.tuple #[.int .u64 0,.bool false,.int .i64 0]=.tuple #[.int .u64 (Zbo ⟨bs.drop n,bad⟩).1,.bool (Zbo ⟨bs.drop n,bad⟩).2.1,.int .i64 (Zbo ⟨bs.drop n,bad⟩).2.2]/\Sat R (pts r (Zai s n bad)::Hs) w)
               ((bs[n]<32/\k<=8/\k<=(bs.drop (n + 1)).length/\(k=0->bs[n]=0)/\(k≠0->(bs.drop (n + 1)).head?≠some 0))/\Sat R (pts r (Zai s n bad)::Hs) w)))
             ((bs[n]<32/\k<=8/\k<=(bs.drop (n + 1)).length/\(k=0->bs[n]=0)/\(k≠0->(bs.drop (n + 1)).head?≠some 0))/\Sat R (pts r (Zai s n bad)::Hs) w):=λ hz=>by
      refine Br.d (λ h=>?_) (λ h=>⟨⟨h32,by omega,by omega,by omega,λ h2=>by omega⟩,hw⟩);refine Zb.mk rfl ⟨s,At.own Ze (by exact ⟨rfl,trivial⟩),Zb.mk rfl ⟨n,At.own Ze (by exact ⟨rfl,trivial⟩),?_⟩⟩;rw [Zg (by omega) (by omega)];have hn1:n + 1<bs.length:=by omega
      have hh:(bs.drop (n + 1)).head? =some bs[n + 1]:=by rw [List.drop_eq_getElem_cons hn1];rfl
      refine hs.ix Ze (n + 1) (by omega) hn1 ?_;refine Br.e (λ h0=>no (pno λ h2=>?_) hw) (λ h0=>⟨⟨h32,by omega,by omega,by omega,λ h2=>?_⟩,hw⟩)
      · exact h2.2.2.2.2 (by omega) (by rw [hh,h0])
      · rw [hh];intro h3;exact h0 (Option.some.inj h3)
    refine Br.d (λ h16=>?_) (λ h16=>?_)
    · refine Br.e (λ h0=>no (pno λ h2=>?_) hw) (λ h0=>last (.inl (by omega)))
      have:=h2.2.2.2.1 (by omega);omega
    · refine last ?_
      rw [if_neg (by omega)] at hk;by_cases hk0:k=0
      · exact .inr (by omega)
      · exact .inl hk0
  clear hw;rintro _ w ⟨hp,hw⟩;have e:=pyes hp;rw [e];obtain ⟨h32,hk8,hkl,_,_⟩:=hp;have hbd:∀ j,∀ x∈(bs.drop (n + 1)).take j,0<=x/\x<256:=λ j x hx=>hb x (List.mem_of_mem_drop (List.mem_of_mem_take hx));have vb:∀ j,j<=8->0<=ZbR 0 ((bs.drop (n + 1)).take j)/\ZbR 0 ((bs.drop (n + 1)).take j)<256 ^ j:=λ j hj=>by
    refine ⟨ZcD (by omega) (hbd j),?_⟩;have h1:=ZeX (acc:=0) (by omega) (hbd j);have h2:((bs.drop (n + 1)).take j).length<=j:=by rw [List.length_take];omega
    have h3:(256:Int) ^ ((bs.drop (n + 1)).take j).length<=256 ^ j:=Zwp h2;rw [show (0:Int) + 1=1 from rfl,Int.one_mul] at h1
    omega
  refine ⟨λ x i w=>∃ j:Nat,i=j/\j<=k/\x=ZbR 0 ((bs.drop (n + 1)).take j)/\Sat R (pts r (Zai s n bad)::Hs) w,λ _ i _=>k - i.toNat,⟨0,rfl,by omega,rfl,hw⟩,?_⟩;clear hw;rintro _ _ _ w ⟨j,rfl,hj,rfl,hw⟩;refine Br.d (λ h=>Zv hw λ w hw=>?_) (λ h=>?_)
  · refine Zb.mk rfl ⟨s,At.own Ze (by exact ⟨rfl,trivial⟩),Zb.mk rfl ⟨n,At.own Ze (by exact ⟨rfl,trivial⟩),?_⟩⟩
    rw [Zg (x:=(n:Int) + 1) (by omega) (by omega),Zg (x:=(n:Int) + 1 + j) (by omega) (by omega)];have hnj:n + 1 + j<bs.length:=by omega
    refine hs.ix Ze (n + 1 + j) (by omega) hnj ?_;have hx:=hb bs[n + 1 + j] (List.getElem_mem _);have et:(bs.drop (n + 1)).take (j + 1)=(bs.drop (n + 1)).take j++[bs[n + 1 + j]]:=by
      rw [List.take_add_one,List.getElem?_drop,List.getElem?_eq_getElem hnj];rfl
    have hv:=vb j (by omega);have hv2:=vb (j + 1) (by omega);rw [et,ZcC] at hv2;have h7:(256:Int) ^ j<=256 ^ 7:=Zwp (by omega);have hv3:=hv.2;have e7:(256:Int) ^ 7=72057594037927936:=by decide
    rw [Zbt (x:=bs[n + 1 + j]) (by omega) (by omega),Zbt (x:=ZbR 0 ((bs.drop (n + 1)).take j) * 256) (by omega) (by omega),Zbt (by omega) (by omega),Zg (by omega) (by omega)];exact ⟨⟨j + 1,by omega,by omega,by rw [et,ZcC],hw⟩,by dsimp only;omega⟩
  · have:j=k:=by omega
    subst this;rw [Zg (by omega) (by omega)];refine ⟨?_,hw⟩;simp
end
section
open Go Go.VC Tryz
variable {R:Cx} {Hs Rest:List HP} {w:World}
theorem Zb0 {r:Nat} {s:Sl} {bs:List Int} {rd:Rd} {most:Int} (hl:bs.length<=1099511627776) (hb:∀ x∈bs,0<=x/\x<256) (hs:SlR R.m s (b8 bs)) (hw:Sat R (ZdI r s bs rd::Hs) w):
  Zq prog 173 #[.pointer (some ⟨r,0,none⟩),.int .u64 most] w λ v w'=>v=.int .u64 (ZE most rd).1/\Sat R (ZdI r s bs (ZE most rd).2::Hs) w':=by
 obtain ⟨n,⟨hn,hd⟩,hw⟩:=Sat.rrd.1 hw;apply Ztg;refine (Zim hl hb hs hn hw).use ?_;rintro _ w ⟨rfl,hw⟩;refine ⟨_,_,_,rfl,?_⟩;rw [hd];have bad:ZE most rd=(0,⟨rd.bs,true⟩)->Zb (some ⟨r,0,none⟩) λ a_t25=>
   ∃ w_2:World,((Instr.storeAt 4 (.pointer ((some ⟨a_t25.block,a_t25.off + 2,none⟩))) (.bool true)).run prog w=.ok () w_2)/\
   (Value.int .u64 0=.int .u64 (ZE most rd).1/\Sat R (ZdI r s bs (ZE most rd).2::Hs) w_2):=λ e=>by
  refine Zb.mk rfl ?_;refine Zc hw (by kernel_rfl) rfl (by simp [Value.cells]) λ w hw=>?_;have hw:=hw.re (pts r (Zai s n true));rw [e];exact ⟨rfl,Sat.rrd.2 ⟨n,⟨hn,hd⟩,hw⟩⟩
 refine ⟨λ w=>(∃ x k,rd.bad=false/\Za5 rd.bs=some (x,false,k)/\x<=most)/\Sat R (pts r (Zai s n rd.bad)::Hs) w,?_,?_⟩
 ·by_cases hbd:rd.bad=true
  ·have e:Zbo ⟨rd.bs,rd.bad⟩=(0,false,0):=by unfold Zbo;rw [if_pos hbd]
   rw [e];dsimp only;refine Br.mk (λ h=>bad ?_) (λ h=>by simp at h);unfold ZE;rw [if_pos hbd];rw [show rd=⟨rd.bs,rd.bad⟩ from rfl,hbd]
  ·have hbd:rd.bad=false:=by simpa using hbd
   cases hp:Za5 rd.bs with
   |none=>
    have e:Zbo ⟨rd.bs,rd.bad⟩=(0,false,0):=by unfold Zbo;simp [hp]
    rw [e];dsimp only;refine Br.mk (λ h=>bad ?_) (λ h=>by simp at h);unfold ZE;rw [if_neg (by rw [hbd];simp),hp]
   |some p=>
    obtain ⟨x,neg,k⟩:=p;have e:Zbo ⟨rd.bs,rd.bad⟩=(x,neg,(k:Int)):=by unfold Zbo;simp [hp,hbd]
    rw [e];dsimp only;have hb2:∀ x∈rd.bs,0<=x/\x<256:=λ x hx=>hb x (by rw [<-hd] at hx;exact List.mem_of_mem_drop hx);obtain ⟨_,_,k0,_,_⟩:=Zc3 hb2 hp;have e2:ZE most rd=if neg=false/\x<=most then (x,⟨rd.bs.drop k,false⟩) else (0,⟨rd.bs,true⟩):=by
     unfold ZE;rw [if_neg (by rw [hbd];simp),hp]
    refine Br.e (λ h=>by omega) (λ _=>Br.mk (λ h=>bad ?_) (λ h=>Br.d (λ h2=>bad ?_) (λ h2=>?_)))
    ·rw [e2,if_neg (by rintro ⟨h3,_⟩;rw [h3] at h;cases h)]
    ·rw [e2,if_neg (by rintro ⟨_,h3⟩;omega)]
    ·exact ⟨⟨x,k,hbd,by rw [h],by omega⟩,hw⟩
 clear bad hw;rintro _ w ⟨⟨x,k,hbd,hp,hx⟩,hw⟩;have hb2:∀ x∈rd.bs,0<=x/\x<256:=λ x hx=>hb x (by rw [<-hd] at hx;exact List.mem_of_mem_drop hx);obtain ⟨_,_,k0,_,k2⟩:=Zc3 hb2 hp;have e:Zbo ⟨rd.bs,rd.bad⟩=(x,false,(k:Int)):=by unfold Zbo;simp [hp,hbd]
 have e2:ZE most rd=(x,⟨rd.bs.drop k,false⟩):=by
  unfold ZE;rw [if_neg (by rw [hbd];simp),hp];dsimp only;rw [if_pos ⟨rfl,hx⟩]
 rw [e,e2];dsimp only;have hlen:rd.bs.length=bs.length - n:=by rw [<-hd,List.length_drop]
 refine Zb.mk rfl ⟨n,At.own (eqS hw) (by exact ⟨rfl,trivial⟩),Zb.mk rfl ?_⟩;dsimp only;rw [Zg (by omega) (by omega)];refine Zc hw (by kernel_rfl) rfl (by simp [Value.cells]) λ w hw=>?_;rw [hbd] at hw;have hw:=hw.re (pts r (Zai s (n + k) false));exact ⟨rfl,Sat.rrd.2 ⟨n + k,⟨by omega,by rw [<-List.drop_drop,hd]⟩,hw⟩⟩
theorem Zlo {r:Nat} {s:Sl} {bs:List Int} {rd:Rd} {most:Int} (hm:most<9223372036854775808) (hl:bs.length<=1099511627776) (hb:∀ x∈bs,0<=x/\x<256) (hs:SlR R.m s (b8 bs)) (hw:Sat R (ZdI r s bs rd::Hs) w):
  Zq prog 177 #[.pointer (some ⟨r,0,none⟩),.int .i64 most] w λ v w'=>∃ t:Sl,v=.slice t.a t.len t.cap/\Sat R (Own t 5 (b8 (ZaJ most rd).1)::ZdI r s bs (ZaJ most rd).2::Hs) w':=by
 have hsl:s.len=bs.length:=by have:=hs.len;simpa using this
 have hscap:=hs.cap;obtain ⟨n,⟨hn,hd⟩,hw⟩:=Sat.rrd.1 hw;have hlen:rd.bs.length=bs.length - n:=by rw [<-hd,List.length_drop]
 have hb2:∀ x∈rd.bs,0<=x/\x<256:=λ x hx=>hb x (by rw [<-hd] at hx;exact List.mem_of_mem_drop hx);apply Ztc;refine (Zim hl hb hs hn hw).use ?_;rintro _ w ⟨rfl,hw⟩;refine ⟨_,_,_,rfl,?_⟩;rw [hd];have bad:ZaJ most rd=([],⟨rd.bs,true⟩)->∀ {w},Sat R (pts r (Zai s n rd.bad)::Hs) w->Zb (some ⟨r,0,none⟩) λ a_t25=>
   ∃ w_2:World,((Instr.storeAt 4 (.pointer ((some ⟨a_t25.block,a_t25.off + 2,none⟩))) (.bool true)).run prog w=.ok () w_2)/\
   (∃ t:Sl,Value.slice none 0 0=.slice t.a t.len t.cap/\Sat R (Own t 5 (b8 (ZaJ most rd).1)::ZdI r s bs (ZaJ most rd).2::Hs) w_2):=λ e w hw=>by
  refine Zb.mk rfl ?_;refine Zc hw (by kernel_rfl) rfl (by simp [Value.cells]) λ w hw=>?_;have hw:=hw.re (pts r (Zai s n true));rw [e];exact ⟨⟨none,0,0⟩,rfl,Own.nil (Sat.rrd.2 ⟨n,⟨hn,hd⟩,hw⟩)⟩
 refine ⟨λ w=>(∃ x k,rd.bad=false/\Za5 rd.bs=some (x,false,k)/\0<=most/\x<=most/\x<=(rd.bs.length:Int) - k)/\Sat R (pts r (Zai s n rd.bad)::Hs) w,Zv hw λ w hw=>?_,?_⟩
 ·by_cases hbd:rd.bad=true
  ·have e:Zbo ⟨rd.bs,rd.bad⟩=(0,false,0):=by unfold Zbo;rw [if_pos hbd]
   rw [e];dsimp only;refine Br.mk (λ h=>bad ?_ hw) (λ h=>by simp at h);unfold ZaJ;rw [if_pos hbd];rw [show rd=⟨rd.bs,rd.bad⟩ from rfl,hbd]
  ·have hbd:rd.bad=false:=by simpa using hbd
   cases hp:Za5 rd.bs with
   |none=>
    have e:Zbo ⟨rd.bs,rd.bad⟩=(0,false,0):=by unfold Zbo;simp [hp]
    rw [e];dsimp only;refine Br.mk (λ h=>bad ?_ hw) (λ h=>by simp at h);unfold ZaJ;rw [if_neg (by rw [hbd];simp),hp]
   |some p=>
    obtain ⟨x,neg,k⟩:=p;have e:Zbo ⟨rd.bs,rd.bad⟩=(x,neg,(k:Int)):=by unfold Zbo;simp [hp,hbd]
    rw [e];dsimp only;obtain ⟨x0,x1,k0,k1,k2⟩:=Zc3 hb2 hp;have e2:ZaJ most rd=if neg=false/\0<=most/\x<=most/\x<=((rd.bs.length:Int) - k) then (((rd.bs.drop k).take x.toNat),⟨rd.bs.drop (k + x.toNat),false⟩) else ([],⟨rd.bs,true⟩):=by
     unfold ZaJ;rw [if_neg (by rw [hbd];simp),hp]
    refine Br.e (λ h=>by omega) (λ _=>Br.mk (λ h=>bad ?_ hw) (λ h=>Br.d (λ h2=>bad ?_ hw) (λ h2=>?_)))
    ·rw [e2,if_neg (by rintro ⟨h3,_⟩;rw [h3] at h;cases h)]
    ·rw [e2,if_neg (by rintro ⟨_,h3,_⟩;omega)]
    ·rw [Zbt (x:=most) (by omega) (by omega)]
     refine Br.d (λ h3=>bad ?_ hw) (λ h3=>?_)
     ·rw [e2,if_neg (by rintro ⟨_,_,h4,_⟩;omega)]
     ·refine Zb.mk rfl ⟨s,At.own Ze (by exact ⟨rfl,trivial⟩),Zb.mk rfl ⟨n,At.own Ze (by exact ⟨rfl,trivial⟩),?_⟩⟩
      have e3:IntKind.u64.wrap (IntKind.i64.wrap (IntKind.i64.wrap ((s.len:Int) - (n:Int)) - (k:Int)))=(rd.bs.length:Int) - k:=by
       rw [Zg (x:=(s.len:Int) - (n:Int)) (by omega) (by omega),Zg (by omega) (by omega),Zbt (by omega) (by omega)];omega
      rw [e3];refine Br.d (λ h4=>bad ?_ hw) (λ h4=>⟨⟨x,k,hbd,by rw [h],by omega,by omega,by omega⟩,hw⟩);rw [e2,if_neg (by rintro ⟨_,_,_,h5⟩;omega)]
 clear bad hw;rintro _ w ⟨⟨x,k,hbd,hp,hm0,hxm,hxl⟩,hw⟩;obtain ⟨x0,x1,k0,k1,k2⟩:=Zc3 hb2 hp;have e:Zbo ⟨rd.bs,rd.bad⟩=(x,false,(k:Int)):=by unfold Zbo;simp [hp,hbd]
 have e2:ZaJ most rd=(((rd.bs.drop k).take x.toNat),⟨rd.bs.drop (k + x.toNat),false⟩):=by
  unfold ZaJ;rw [if_neg (by rw [hbd];simp),hp];dsimp only;rw [if_pos ⟨rfl,hm0,hxm,hxl⟩]
 rw [e,e2];dsimp only;obtain ⟨m,rfl⟩:=Int.eq_ofNat_of_zero_le x0;refine Zb.mk rfl ⟨n,At.own (eqS hw) (by exact ⟨rfl,trivial⟩),Zb.mk rfl ?_⟩;have e3:IntKind.i64.wrap ((n:Int) + (k:Int))=((n + k:Nat):Int):=by rw [Zg (by omega) (by omega)];omega
 have e4:IntKind.i64.wrap (((n + k:Nat):Int) + IntKind.i64.wrap (m:Int))=((n + k + m:Nat):Int):=by rw [Zg (x:=(m:Int)) (by omega) (by omega),Zg (by omega) (by omega)];omega
 dsimp only;rw [e3,e4];refine Zc hw (by kernel_rfl) rfl (by simp [Value.cells]) λ w hw=>?_;rw [hbd] at hw;have hw:=hw.re (pts r (Zai s (n + k + m) false));refine ZkQ hw λ w hw=>?_;refine Zb.mk rfl ⟨s,At.own Ze (by exact ⟨rfl,trivial⟩),Zb.mk rfl ⟨((n + k + m:Nat):Int),At.own Ze (by exact ⟨rfl,trivial⟩),by omega,by omega,by omega,by omega,?_⟩⟩;rw [Int.toNat_natCast,Int.toNat_natCast,Int.toNat_natCast];refine Zd hw λ b w hw=>?_;have e5:n + k + m - (n + k)=m:=by omega
 rw [e5];have hro:SlR R.m ⟨(Z0 s (n + k)).a,m,(Z0 s (n + k)).cap⟩ (b8 ((rd.bs.drop k).take m)):=by
  have:=(hs.b8drop (k:=n + k) (by omega)).b8take (k:=m) (by simp;omega);rw [<-List.drop_drop,hd] at this;exact this
 have hll:((rd.bs.drop k).take m).length<=1099511627776:=by simp;omega
 refine ⟨hw.absorb,?_⟩;have hw:Sat R (Own ⟨some ⟨b,0,none⟩,0,0⟩ 5 (([]:List Int).map (Value.int .u8))::VC.tru::pts r (Zai s (n + k + m) false)::Hs) w:=Zeo hw;refine ZeQ Zh1 (s:=⟨some ⟨b,0,none⟩,0,0⟩) (t:=⟨(Z0 s (n + k)).a,m,(Z0 s (n + k)).cap⟩) (n:=1099511627776) underlying53 hw (hro.ro (by simp;omega)) (by simp;omega) (by omega) (by omega) λ t w hw=>?_;refine ⟨hw.absorb,t,rfl,?_⟩;rw [List.nil_append] at hw;refine hw.cons λ _ h=>Sat.rrd.2 ⟨n + k + m,⟨by omega,?_⟩,h.drop⟩;show bs.drop (n + k + m)=rd.bs.drop (k + m);rw [<-hd,List.drop_drop,Nat.add_assoc]
theorem Zc1 {r:Nat} {s:Sl} {bs:List Int} {rd:Rd} (hs:SlR R.m s (b8 bs)) (hw:Sat R (ZdI r s bs rd::Hs) w):
  Zq prog 174 #[.pointer (some ⟨r,0,none⟩)] w λ v w'=>v=.bool (Zab rd)/\Sat R (ZdI r s bs rd::Hs) w':=by
 have hsl:s.len=bs.length:=by have:=hs.len;simpa using this
 obtain ⟨n,⟨hn,hd⟩,hw⟩:=Sat.rrd.1 hw;have hlen:rd.bs.length=bs.length - n:=by rw [<-hd,List.length_drop]
 apply Ztf;refine Zv hw λ w hw=>?_;refine Zb.mk rfl ⟨rd.bad,At.own Ze (by exact ⟨rfl,trivial⟩),Br.nb (λ h=>?_) (λ h=>?_)⟩
 ·refine Zb.mk rfl ⟨n,At.own Ze (by exact ⟨rfl,trivial⟩),Zb.mk rfl ⟨s,At.own Ze (by exact ⟨rfl,trivial⟩),?_,Sat.rrd.2 ⟨n,⟨hn,hd⟩,hw⟩⟩⟩
  unfold Zab;rw [h,hsl]
  congr 1
  rw [Bool.not_false,Bool.true_and,hlen];show decide ((n:Int)=(bs.length:Int))=_;rw [decide_eq_decide];omega
 ·refine ⟨?_,Sat.rrd.2 ⟨n,⟨hn,hd⟩,hw⟩⟩
  unfold Zab;rw [h];rfl
theorem Zio {n:Nat} (hn:n<4294967296) (hw:Sat R Hs w):
  Zq prog 175 #[.int .u32 n] w λ v w'=>∃ t:Sl,v=.slice t.a t.len t.cap/\Sat R (Own t 5 (b8 (ZaL n))::Hs) w':=by
 apply Zte;unfold B175;have td:∀ k:Nat,(n:Int).tdiv (k:Int)=((n / k:Nat):Int):=λ k=>(Int.ofNat_tdiv n k).symm;have e1:IntKind.u8.wrap (IntKind.u32.wrap ((n:Int).tdiv 16777216))=((n / 16777216 % 256:Nat):Int):=by
  rw [show (n:Int).tdiv 16777216=((n / 16777216:Nat):Int) from td 16777216,ZbF (by omega) (by omega),Zd3 (by omega) (by omega)];omega
 have e2:IntKind.u8.wrap ((IntKind.u32.wrap ((n:Int).tdiv 65536)).tmod 256)=((n / 65536 % 256:Nat):Int):=by
  rw [show (n:Int).tdiv 65536=((n / 65536:Nat):Int) from td 65536,ZbF (by omega) (by omega),show ((n / 65536:Nat):Int).tmod 256=((n / 65536 % 256:Nat):Int) from (Int.ofNat_tmod _ 256).symm,Zd3 (by omega) (by omega)]
 have e3:IntKind.u8.wrap ((IntKind.u32.wrap ((n:Int).tdiv 256)).tmod 256)=((n / 256 % 256:Nat):Int):=by
  rw [show (n:Int).tdiv 256=((n / 256:Nat):Int) from td 256,ZbF (by omega) (by omega),show ((n / 256:Nat):Int).tmod 256=((n / 256 % 256:Nat):Int) from (Int.ofNat_tmod _ 256).symm,Zd3 (by omega) (by omega)]
 have e4:IntKind.u8.wrap ((n:Int).tmod 256)=((n % 256:Nat):Int):=by
  rw [show (n:Int).tmod 256=((n % 256:Nat):Int) from (Int.ofNat_tmod _ 256).symm,Zd3 (by omega) (by omega)]
 rw [e1,e2,e3,e4];refine Zd hw λ b w hw=>?_;exact ⟨⟨some ⟨b,0,none⟩,4,4⟩,rfl,Zeo hw⟩
theorem Zhb {s:Sl} {bs:List Int} (hbs:∀ x∈bs,0<=x/\x<256) (hs:Ro R s (b8 bs)) (hw:Sat R Hs w):
  Zq prog 138 #[.slice s.a s.len s.cap] w λ v w'=>
   (bs.length>65536/\v=.tuple #[.slice none 0 0,.int .i64 3]/\Sat R Hs w')\/
   (bs.length<=65536/\∃ t:Sl,v=.tuple #[.slice t.a t.len t.cap,.int .i64 0]/\Sat R (Own t 5 (b8 (ZP bs))::Hs) w'):=by
 have hlen:s.len=bs.length:=by have:=hs.len;simpa using this
 apply ZtC;refine Br.mk (λ h=>?_) (λ h=>?_)
 ·have:=of_decide_eq_true h
  exact .inl ⟨by omega,rfl,hw⟩
 have h:=of_decide_eq_false h;have hl:bs.length<=65536:=by omega
 have w4:∀ n,(ZaL n).length=4:=Zbk;rw [show IntKind.u32.wrap (s.len:Int)=((bs.length:Nat):Int) by rw [ZbF (by omega) (by omega),hlen]];refine (Zio (by omega) hw).use ?_;rintro _ w ⟨t1,rfl,hw⟩;refine ⟨t1,rfl,Zd hw λ b w hw=>?_⟩;have hw:Sat R (Own ⟨some ⟨b,0,none⟩,0,0⟩ 5 (([]:List Int).map (Value.int .u8))::Own t1 5 (b8 (ZaL bs.length))::Hs) w:=Zeo hw;refine Zcx Zh1 (s:=⟨some ⟨b,0,none⟩,0,0⟩) (n:=70000) underlying53 hw (by rw [w4];simp) (by omega) (by omega) λ t2 w hw=>?_;refine ZeQ Zh1 (n:=70000) underlying53 hw hs (by rw [List.nil_append,w4];omega) (by omega) (by omega) λ t3 w hw=>?_;rw [List.nil_append] at hw;obtain ⟨R1,hr1,keep1,hw,back1⟩:=Own.lend hw (by simp [w4];omega);have hbd:∀ x∈ZaL bs.length++bs,0<=x/\x<256:=λ x hx=>by
  rcases List.mem_append.1 hx with h|h
  ·exact ZdL _ x h
  ·exact hbs x h
 refine (Zo5 hbd hr1 hw).use ?_;rintro _ w ⟨rfl,hw⟩;have hw:=(back1 hw).drop;refine ⟨_,rfl,Zd hw λ b2 w hw=>?_⟩;have hw:Sat R (Own ⟨some ⟨b2,0,none⟩,0,0⟩ 5 (([]:List Int).map (Value.int .u8))::Own t1 5 (b8 (ZaL bs.length))::Hs) w:=Zeo hw;refine Zcx Zh1 (s:=⟨some ⟨b2,0,none⟩,0,0⟩) (n:=70000) underlying53 hw (by rw [w4];simp) (by omega) (by omega) λ t4 w hw=>?_;have hw:=hw.cons λ _ h=>h.drop;rw [List.nil_append] at hw;refine (Zio (ZdB (by omega) hbd) hw).use ?_;rintro _ w ⟨t5,rfl,hw⟩;refine ⟨t5,rfl,?_⟩;refine Zcx Zh1 (s:=t4) (n:=70000) underlying53 hw.swap (by rw [w4,w4];omega) (by omega) (by omega) λ t6 w hw=>?_;refine ZeQ Zh1 (n:=70000) underlying53 hw hs (by rw [List.length_append,w4,w4];omega) (by omega) (by omega) λ t7 w hw=>?_;exact .inr ⟨hl,t7,rfl,hw.cons λ _ h=>h.drop⟩
end
section
open Go Go.VC Tryz
variable {R:Cx} {Hs Rest:List HP} {w:World}
theorem ZmV {l:List Int} (hb:∀ x∈l,0<=x/\x<256) (h8:8<=l.length) {n:Nat} (hn:ZbR 0 (l.take 4)=n):
  first l=if n<=65536/\8 + n<=l.length/\ZP ((l.drop 8).take n)=l.take (8 + n) then some ((l.drop 8).take n) else none:=by
 unfold first
 rw [if_pos h8];simp only;rw [hn,Int.toNat_natCast];by_cases h1:n<=65536
 case neg=>rw [if_neg (λ h=>h1 h.1),if_neg (λ h=>h1 h.1)]
 by_cases h2:8 + n<=l.length
 case neg=>rw [if_neg (λ h=>h2 (by omega)),if_neg (λ h=>h2 h.2.1)]
 have hx:((l.drop 8).take n).length=n:=by simp;omega
 have hb4:∀ x∈l.take 4,0<=x/\x<256:=λ x hx=>hb x (List.mem_of_mem_take hx);have hbm:∀ x∈(l.drop 4).take 4,0<=x/\x<256:=λ x hx=>hb x (List.mem_of_mem_drop (List.mem_of_mem_take hx));have hbx:∀ x∈(l.drop 8).take n,0<=x/\x<256:=λ x hx=>hb x (List.mem_of_mem_drop (List.mem_of_mem_take hx));have ew:ZaL n=l.take 4:=by
  have:=ZjX (l:=l.take 4) (by simp;omega) hb4;rw [hn,Int.toNat_natCast] at this;exact this
 have el:l.take (8 + n)=l.take 4++(l.drop 4).take 4++(l.drop 8).take n:=by
  rw [show 8 + n=4 + (4 + n) by omega,List.take_add,List.take_add,List.drop_drop,List.append_assoc]
 have er:ZP ((l.drop 8).take n)=l.take 4++ZaL (Zay 0 (l.take 4++(l.drop 8).take n))++(l.drop 8).take n:=by
  unfold ZP;rw [hx,ew]
 have hc:Zay 0 (l.take 4++(l.drop 8).take n)<4294967296:=ZdB (by omega) λ x hx=>(List.mem_append.1 hx).elim (hb4 x) (hbx x);have hv:=ZcD (acc:=0) (by omega) hbm;have key:(Zay 0 (l.take 4++(l.drop 8).take n)=(ZbR 0 ((l.drop 4).take 4)).toNat)↔ZP ((l.drop 8).take n)=l.take (8 + n):=by
  rw [er,el];constructor
  ·intro h
   rw [h,ZjX (by simp;omega) hbm]
  ·intro h
   have h:=List.append_cancel_right h;have h:=List.append_cancel_left h;rw [<-h,Zfi hc];rfl
 by_cases h3:ZP ((l.drop 8).take n)=l.take (8 + n)
 ·rw [if_pos ⟨h1,by omega,key.2 h3⟩,if_pos ⟨h1,h2,h3⟩]
 ·rw [if_neg (λ h=>h3 (key.1 h.2.2)),if_neg (λ h=>h3 h.2.2)]
theorem ZaW.push {b:Nat} {l t:Sl} {pre:List (List Int)} {x:List Int} {ty:TypeId} {K:Sl->World->Prop} (hl:pre.length<=1099511627776)
  (hw:Sat R (pts b (.cells [Value.slice t.a t.len t.cap].toArray 53 (0,0))::ZaW l pre::Own t 5 (b8 x)::Hs) w)
  (k:∀ l2 w,Sat R (ZaW l2 (pre++[x])::Hs) w->K l2 w):
  ∃ w',∃ t':Sl,(Builtin.append_ #[ 139,139 ] ty #[.slice l.a l.len l.cap,.slice (some ⟨b,0,none⟩) 1 1]).run prog w=.ok (.slice t'.a t'.len t'.cap) w'/\K t' w':=by
 have hw3:Sat R (ZaW l pre::pts b (.cells [Value.slice t.a t.len t.cap].toArray 53 (0,0))::Own t 5 (b8 x)::Hs) w:=hw.swap;obtain ⟨ps,hps,hw4⟩:=Sat.bytesL.1 hw3;have hpsl:ps.length=pre.length:=by rw [<-hps];simp
 have hsrc:Src prog 1 139 (.slice (some ⟨b,0,none⟩) 1 1) 1 [Value.slice t.a t.len t.cap] w:=ZjN Zwu.hk 1 hw rfl;refine Zas Zwu (s:=l) hw4 hsrc (Zr5 ps) (by rw [List.length_map];omega) (by rw [List.length_map];omega) λ l2 w hw=>?_;refine k l2 w (Sat.bytesL.2 ⟨ps++[(t,x)],by simp [hps],?_⟩);have e2:((ps++[(t,x)]).map λ p=>Sl.v p.1)=(ps.map λ p=>Sl.v p.1)++[Value.slice t.a t.len t.cap]:=by simp [Sl.v]
 rw [e2];refine hw.cons λ R' hw=>Sat.star.2 ?_;rw [List.map_append,List.append_assoc];have h3:Sat R' (pts b (.cells [Value.slice t.a t.len t.cap].toArray 53 (0,0))::Zig (ps.map λ p=>Own p.1 5 (b8 p.2))::Own t 5 (b8 x)::Hs) w:=hw.arr;exact Sat.star.1 h3.drop
theorem ZaW.nil (hw:Sat R Hs w):Sat R (ZaW ⟨none,0,0⟩ []::Hs) w:=
 Sat.bytesL.2 ⟨[],rfl,Own.nil (Sat.star.2 hw)⟩
theorem ZoW {a b:List Int} (ha:∀ x∈a,0<=x/\x<256) (hb:∀ x∈b,0<=x/\x<256) (h:VC.strOf a=VC.strOf b):a=b:=by
 rw [<-Zgz ha,<-Zgz hb,h]
theorem Zwm {s:Sl} {bs:List Int} {S:World->Prop} (hS:∀ w,S w->Sat R Hs w) (hs:Ro R s (b8 bs)):∀ w',S w'->(convert 53 9 (.slice s.a s.len s.cap)).run prog w'=.ok (.string (VC.strOf bs)) w':=
 λ w' e=>ZgN underlying53 underlying5 underlying9 (hS w' e) hs
set_option maxRecDepth 20000 in
theorem Znz {s:Sl} {bs:List Int} (hb:∀ x∈bs,0<=x/\x<256) (hlen:bs.length<=1099511627776) (hs:SlR R.m s (b8 bs)) (hw:Sat R Hs w):
  Zq prog 136 #[.slice s.a s.len s.cap] w λ v w'=>∃ l:Sl,v=.tuple #[.slice l.a l.len l.cap,.int .i64 (Zo (scan bs):Nat)]/\Sat R (ZaW l (scan bs)::Hs) w':=by
 have hsl:s.len=bs.length:=by have:=hs.len;simpa using this
 have hcap:=hs.cap;apply ZtE;refine ⟨λ out i w=>∃ (pre:List (List Int)) (k:Nat),i=k/\k<=bs.length/\scan bs=pre++scan (bs.drop k)/\Zo pre=k/\Sat R (ZaW out pre::Hs) w,λ _ i _=>bs.length - i.toNat,⟨[],0,rfl,by omega,by simp,rfl,ZaW.nil hw⟩,?_⟩;clear hw;rintro _ out _ w ⟨pre,k,rfl,hk,hsc,hpl,hw⟩;have hb':∀ x∈bs.drop k,0<=x/\x<256:=λ x hx=>hb x (List.mem_of_mem_drop hx);have hdl:(bs.drop k).length=bs.length - k:=List.length_drop;have stop:first (bs.drop k)=none->∀ {w},Sat R (ZaW out pre::Hs) w->∃ l:Sl,Value.tuple #[.slice out.a out.len out.cap,.int .i64 (k:Nat)]=.tuple #[.slice l.a l.len l.cap,.int .i64 (Zo (scan bs):Nat)]/\Sat R (ZaW l (scan bs)::Hs) w:=λ h {w} hw=>by
  rw [hsc,Zbm h,List.append_nil,hpl];exact ⟨out,rfl,hw⟩
 have w8:IntKind.i64.wrap ((k:Int) + 8)=((k + 8:Nat):Int):=by rw [Zg (by omega) (by omega)];omega
 rw [w8];refine Br.d (λ h=>?_) (λ h=>?_)
 rotate_left
 ·refine stop ?_ hw
  unfold first
  rw [if_neg (by omega)]
 have vb:∀ j,j<=4->0<=ZbR 0 ((bs.drop k).take j)/\ZbR 0 ((bs.drop k).take j)<256 ^ j:=λ j hj=>by
  have hbd:∀ x∈(bs.drop k).take j,0<=x/\x<256:=λ x hx=>hb' x (List.mem_of_mem_take hx);refine ⟨ZcD (by omega) hbd,?_⟩;have h1:=ZeX (acc:=0) (by omega) hbd;have h2:((bs.drop k).take j).length<=j:=by rw [List.length_take];omega
  have h3:=Zwp h2;rw [show (0:Int) + 1=1 from rfl,Int.one_mul] at h1
  omega
 refine ⟨λ x i w=>∃ j:Nat,i=j/\j<=4/\x=ZbR 0 ((bs.drop k).take j)/\Sat R (ZaW out pre::Hs) w,λ _ i _=>4 - i.toNat,⟨0,rfl,by omega,rfl,hw⟩,?_⟩;clear hw;rintro _ _ _ w ⟨j,rfl,hj,rfl,hw⟩;refine Br.d (λ h4=>?_) (λ h4=>?_)
 ·have hkj:k + j<bs.length:=by omega
  refine hs.ix (eqS hw) (k + j) (by rw [Zg (by omega) (by omega)];omega) hkj ?_;have hx:=hb bs[k + j] (List.getElem_mem _);have et:(bs.drop k).take (j + 1)=(bs.drop k).take j++[bs[k + j]]:=by
   rw [List.take_add_one,List.getElem?_drop,List.getElem?_eq_getElem hkj];rfl
  have hv:=vb j (by omega);have h3:=Zwp (a:=j) (b:=3) (by omega);have e3:(256:Int) ^ 3=16777216:=by decide
  rw [Zg (x:=bs[k + j]) (by omega) (by omega),Zg (x:=ZbR 0 ((bs.drop k).take j) * 256) (by omega) (by omega),Zg (by omega) (by omega),Zg (by omega) (by omega)];exact ⟨⟨j + 1,by omega,by omega,by rw [et,ZcC],hw⟩,by dsimp only;omega⟩
 have:j=4:=by omega
 subst this;have hv:=vb 4 (by omega);have e4:(256:Int) ^ 4=4294967296:=by decide
 obtain ⟨n,hn⟩:=Int.eq_ofNat_of_zero_le hv.1;rw [hn] at hv ⊢;have hf:=ZmV hb' (by omega) hn;have wn:IntKind.i64.wrap (((k + 8:Nat):Int) + (n:Int))=((k + 8 + n:Nat):Int):=by rw [Zg (by omega) (by omega)];omega
 rw [wn];refine ⟨λ w=>(n<=65536/\k + 8 + n<=bs.length)/\Sat R (ZaW out pre::Hs) w,?_,?_⟩
 ·refine Br.d (λ h=>stop (by rw [hf,if_neg (by omega)]) hw) (λ h2=>?_)
  refine Br.d (λ h=>stop (by rw [hf,if_neg (by omega)]) hw) (λ h3=>⟨⟨by omega,by omega⟩,hw⟩)
 clear hw;rintro _ w ⟨⟨hn1,hn2⟩,hw⟩;refine ⟨by omega,by omega,by omega,by omega,?_⟩;rw [Int.toNat_natCast,Int.toNat_natCast,Int.toNat_natCast];have e5:k + 8 + n - (k + 8)=n:=by omega
 have e6:k + 8 + n - k=8 + n:=by omega
 rw [e5,e6];have hx:SlR R.m ⟨(Z0 s (k + 8)).a,n,(Z0 s (k + 8)).cap⟩ (b8 (((bs.drop k).drop 8).take n)):=by
  have:=(hs.b8drop (k:=k + 8) (by omega)).b8take (k:=n) (by simp;omega);rw [<-List.drop_drop] at this;exact this
 have hy:SlR R.m ⟨(Z0 s k).a,8 + n,(Z0 s k).cap⟩ (b8 ((bs.drop k).take (8 + n))):=(hs.b8drop (k:=k) (by omega)).b8take (k:=8 + n) (by simp;omega);have hxb:∀ x∈((bs.drop k).drop 8).take n,0<=x/\x<256:=λ x hx=>hb' x (List.mem_of_mem_drop (List.mem_of_mem_take hx));have hxl:(((bs.drop k).drop 8).take n).length=n:=by simp;omega
 have hro:=hx.ro (by simp;omega);refine (Zhb (s:=⟨(Z0 s (k + 8)).a,n,(Z0 s (k + 8)).cap⟩) hxb hro hw).use ?_;rintro _ w (⟨h,_⟩|⟨_,t1,rfl,hw⟩)
 ·omega
 refine ⟨t1,0,rfl,?_⟩;have hrl:=ZK (((bs.drop k).drop 8).take n);obtain ⟨R1,hr1,keep1,hw,back1⟩:=Own.lend hw (by rw [List.length_map];omega);have hy1:=keep1 _ _ (hy.ro (by simp;omega));refine Zv hw λ w hw=>?_;refine ⟨_,Zwm Ze hr1,by omega,by omega,by omega,by omega,_,Zwm (s:=⟨(Z0 s k).a,8 + n,(Z0 s k).cap⟩) Ze hy1,?_⟩;have hw:=(back1 hw).drop;refine Br.sne (λ h=>stop ?_ hw) (λ h=>?_)
 ·rw [hf,if_neg]
  rintro ⟨_,_,h2⟩;rw [h2] at h;exact h rfl
 have h:=ZoW (Zlw hxb) (λ x hx=>hb' x (List.mem_of_mem_take hx)) h;rw [if_pos ⟨hn1,by omega,h⟩] at hf;refine Zd hw λ b w hw=>?_;have hw:Sat R (Own ⟨some ⟨b,0,none⟩,0,0⟩ 5 (([]:List Int).map (Value.int .u8))::ZaW out pre::Hs) w:=Zeo hw;refine ZeQ Zh1 (s:=⟨some ⟨b,0,none⟩,0,0⟩) (t:=⟨(Z0 s (k + 8)).a,n,(Z0 s (k + 8)).cap⟩) (n:=70000) underlying53 hw hro (by rw [hxl];simp;omega) (by omega) (by omega) λ t2 w hw=>?_;rw [List.nil_append] at hw;refine Zd hw λ b2 w hw=>?_;have hpn:=Zb3 pre;refine ZaW.push (l:=out) (b:=b2) (by omega) (hw.cons λ _ h=>h.swap) λ l2 w hw=>?_;refine ⟨⟨pre++[((bs.drop k).drop 8).take n],k + 8 + n,rfl,hn2,?_,?_,hw⟩,by dsimp only;omega⟩
 ·have e7:(bs.drop k).drop (8 + n)=bs.drop (k + 8 + n):=by rw [List.drop_drop,Nat.add_assoc]
  rw [hsc,Zdn hf,hxl,e7,List.append_assoc];rfl
 ·rw [ZcF,ZJ,hpl,hxl]
  show k + (8 + n + 0)=_;omega
end
section
open Go Go.VC Tryz
variable {R R':Cx} {Hs Rest:List HP} {w:World}
def Zr2:Nat->Nat->List Int
 |0,_=>[]
 |k + 1,n=>Zr2 k (n / 10)++[48 + ((n % 10:Nat):Int)]
theorem Zw8 (n:Nat):Zr2 8 n=(ZjR n).map λ d:Nat=>48 + (d:Int):=by
 simp only [Zr2,ZjR,List.map_cons,List.map_nil,List.nil_append,List.cons_append,Nat.div_div_eq_div_mul]
theorem ZrE {P:Program} {t T:TypeId} {C:List Value} {n:Nat} {K:Sl->World->Prop} (ht:P.underlying t=some (.slice T)) (he:P.underlying T=some (.int .u8)) (hw:Sat R Hs w)
  (k:∀ b w',Sat R (pts b (.cells C.toArray T (C.length,C.length + 1))::Hs) w'->K ⟨some ⟨b,0,none⟩,n,n⟩ w'):
  New (.cells C.toArray T (0,0)) (λ b w=>∃ w':World,∃ s:Sl,((convert t t (.slice (some ⟨b,0,none⟩) n n)).run P w=.ok (.slice s.a s.len s.cap) w')/\K s w') w:=
 ⟨_,⟨some ⟨w.heap.size,0,none⟩,n,n⟩,Lib.run_convert_bytes_const w t T C.toArray n n ht he,k _ _ (Sat.alloc _ hw)⟩
set_option maxRecDepth 10000 in
theorem ZaX {n:Nat} (hn:n<100000000) (hw:Sat R Hs w):Zq prog 95 #[.int .i64 n] w λ v w'=>v=.string (Za n)/\Sat R Hs w':=by
 apply ZuT;refine ZrE (C:=[.int .u8 119,.int .u8 97,.int .u8 108,.int .u8 45,.int .u8 48,.int .u8 48,.int .u8 48,.int .u8 48,.int .u8 48,.int .u8 48,.int .u8 48,.int .u8 48]) (n:=12) underlying53 underlying5 hw λ b w hw=>?_;obtain ⟨s,hs⟩:∃ s:Sl,s=⟨some ⟨b,0,none⟩,12,12⟩:=⟨_,rfl⟩;have hw:Sat R (Own s 5 (b8 ([119,97,108,45]++List.replicate 8 48))::Hs) w:=by
  rw [hs];exact Zeo (l:=b8 ([119,97,108,45]++List.replicate 8 48)) hw rfl (.inr (Nat.le_refl _))
 rw [<-hs];refine ⟨λ m i w=>∃ (j q:Nat) (t:List Int),i=3 + (j:Int)/\j<=8/\m=q/\q<100000000/\t.length=8 - j/\Zr2 j q++t=Zr2 8 n/\Sat R (Own s 5 (b8 ([119,97,108,45]++List.replicate j 48++t))::Hs) w,λ _ i _=>(i - 3).toNat,
  ⟨8,n,[],rfl,by omega,rfl,hn,rfl,by simp,by simpa using hw⟩,?_⟩
 clear hw;rintro _ _ _ w ⟨j,q,t,rfl,hj,rfl,hq,htl,hp,hw⟩;refine Br.d (λ h=>?_) (λ h=>?_)
 ·obtain ⟨j,rfl⟩:∃ k,j=k + 1:=⟨j - 1,by omega⟩
  have hi:(3 + ((j + 1:Nat):Int))=((4 + j:Nat):Int):=by omega
  rw [hi];have hd:(48 + ((q:Int).tmod 10))=48 + ((q % 10:Nat):Int):=by rw [Int.tmod_eq_emod_of_nonneg (by omega)];omega
  rw [hd,Zg (by omega) (by omega),Zd3 (by omega) (by omega)];refine Own.store (by kernel_rfl) hw (k:=4 + j) (by simp;omega) λ w hw=>?_;have e1:([119,97,108,45]++List.replicate (j + 1) 48++t:List Int).set (4 + j) (48 + ((q % 10:Nat):Int))=[119,97,108,45]++List.replicate j 48++((48 + ((q % 10:Nat):Int))::t):=by
   have e2:([119,97,108,45]++List.replicate (j + 1) 48++t:List Int)=([119,97,108,45]++List.replicate j 48)++48::t:=by
    rw [List.replicate_succ'];simp
   rw [e2];have hl:([119,97,108,45]++List.replicate j 48:List Int).length=4 + j:=by simp;omega
   rw [<-hl,List.set_append_right _ _ (Nat.le_refl _),Nat.sub_self,List.set_cons_zero]
  rw [e1] at hw;rw [Int.tdiv_eq_ediv_of_nonneg (by omega),Zg (by omega) (by omega),Zg (by omega) (by omega)];refine ⟨⟨j,q / 10,(48 + ((q % 10:Nat):Int))::t,by omega,by omega,by omega,by omega,by simp;omega,?_,hw⟩,by dsimp only;omega⟩;rw [<-hp];simp [Zr2]
 ·have hj0:j=0:=by omega
  subst hj0;have ht:t=Zr2 8 n:=by simpa [Zr2] using hp
  obtain ⟨R1,hr,_,hw,back⟩:=Own.lend hw (by rw [List.length_map];simp;omega);refine ⟨VC.strOf ([119,97,108,45]++List.replicate 0 48++t),λ w' he=>?_,?_⟩
  ·rw [he]
   exact ZgN underlying53 underlying5 underlying9 hw hr
  ·refine ⟨?_,(back hw).drop⟩
   congr 1
   have e:([119,97,108,45]++List.replicate 0 48++t:List Int)=bytesL (Za n):=by rw [ZdR,ht,Zw8];rfl
   rw [e,Zek]
theorem ZhS (k:ByteArray) (n:Nat):bytesL (k.extract 0 n)=(bytesL k).take n:=by
 unfold bytesL;rw [ByteArray.data_extract,Array.toList_extract,<-List.map_take];simp
theorem ZiX {a b:ByteArray} (h:bytesL a=bytesL b):a=b:=by rw [<-Zek a,h,Zek]
theorem Zrw {k:ByteArray} {i:Nat} (h:i<k.size):∃ t:UInt8,k[i]? =some t/\(t.toNat:Int)=(bytesL k)[i]'(by rw [Zbe];exact h):=by
 refine ⟨k[i],getElem?_pos k i h,?_⟩;unfold bytesL;simp only [List.getElem_map,Array.getElem_toList];rfl
theorem Znl (l:List Int) (c:Int):Zfk (l++[c])=Zfk l * 10 + (c - 48):=by unfold Zfk;rw [List.foldl_append];rfl
theorem Zlp (k:ByteArray) (hb:k.size<=1000000) (hw:Sat R Hs w):Zq prog 135 #[.string k] w λ v w'=>v=.int .i64 (Zeb (bytesL k))/\Sat R Hs w':=by
 have hlen:=Zbe k;apply ZtF;have no:∀ {w:World},¬ ((bytesL k).take 4=[119,97,108,45]/\(bytesL k).length=12/\((bytesL k).drop 4).all (λ c=>decide (48<=c) && decide (c<=57))=true)->Sat R Hs w->(Value.int .i64 0=.int .i64 (Zeb (bytesL k))/\Sat R Hs w):=λ h hw=>⟨by unfold Zeb;rw [if_neg h];rfl,hw⟩;refine ⟨λ w=>(k.size=12/\(bytesL k).take 4=[119,97,108,45])/\Sat R Hs w,?_,?_⟩
 ·refine Br.ne (λ h=>no (λ h2=>h (by rw [<-hlen,h2.2.1];rfl)) hw) (λ h=>⟨by omega,by omega,?_⟩)
  have e4:bytesL (ByteArray.mk #[119,97,108,45])=[119,97,108,45]:=rfl;refine Br.sne (λ h2=>no (λ h3=>h2 (ZiX (by rw [e4,<-h3.1];exact ZhS k 4))) hw) (λ h2=>⟨⟨by omega,?_⟩,hw⟩);rw [<-e4,<-h2];exact (ZhS k 4).symm
 clear hw;rintro _ w ⟨⟨hsz,hpre⟩,hw⟩;have h12:(bytesL k).length=12:=by omega
 have hdl:((bytesL k).drop 4).length=8:=by rw [List.length_drop,h12]
 refine ⟨λ n i w=>∃ j:Nat,i=((4 + j:Nat):Int)/\j<=8/\n=Zfk (((bytesL k).drop 4).take j)/\0<=n/\n<10 ^ j/\(((bytesL k).drop 4).take j).all (λ c=>decide (48<=c) && decide (c<=57))=true/\Sat R Hs w,λ _ i _=>(12 - i).toNat,
  ⟨0,rfl,by omega,by simp [Zfk],by omega,by simp,by simp,hw⟩,?_⟩
 clear hw;rintro _ n _ w ⟨j,rfl,hj,hn,h0,h1,hall,hw⟩;refine Br.d (λ h=>?_) (λ h=>?_)
 ·have hj8:j<8:=by omega
  obtain ⟨t,ht,htv⟩:=Zrw (k:=k) (i:=4 + j) (by omega);have hdj:((bytesL k).drop 4)[j]'(by omega)=(t.toNat:Int):=by rw [htv,List.getElem_drop]
  have hjm:(t.toNat:Int)∈(bytesL k).drop 4:=by rw [<-hdj];exact List.getElem_mem _
  have odd:¬ ((decide (48<=(t.toNat:Int)) && decide ((t.toNat:Int)<=57))=true)->¬ ((bytesL k).take 4=[119,97,108,45]/\(bytesL k).length=12/\((bytesL k).drop 4).all (λ c=>decide (48<=c) && decide (c<=57))=true):=λ h1 h2=>h1 (by
   have:=List.all_eq_true.1 h2.2.2 _ hjm;exact this)
  have hi:(((4 + j:Nat):Int)).toNat=4 + j:=rfl;refine ⟨t,by omega,by rw [hi];exact ht,Br.d (λ h2=>no (odd (by simp;omega)) hw) (λ h2=>⟨t,by omega,by rw [hi];exact ht,Br.d (λ h3=>no (odd (by simp;omega)) hw) (λ h3=>⟨t,by omega,by rw [hi];exact ht,?_⟩)⟩)⟩;have hp:(10:Int) ^ j<=100000000:=by
   have:(10:Nat) ^ j<=10 ^ 8:=Nat.pow_le_pow_right (by omega) hj;have h':((10 ^ j:Nat):Int)<=((10 ^ 8:Nat):Int):=by exact_mod_cast this
   simpa using h'
  have hps:(10:Int) ^ (j + 1)=10 ^ j * 10:=Int.pow_succ ..;rw [Zd3 (x:=(t.toNat:Int) - 48) (by omega) (by omega),Zg (x:=(t.toNat:Int) - 48) (by omega) (by omega),Zg (x:=n * 10) (by omega) (by omega),Zg (x:=n * 10 + ((t.toNat:Int) - 48)) (by omega) (by omega),Zg (x:=((4 + j:Nat):Int) + 1) (by omega) (by omega)];have htk:((bytesL k).drop 4).take (j + 1)=((bytesL k).drop 4).take j++[(t.toNat:Int)]:=by rw [<-hdj,List.take_append_getElem]
  refine ⟨⟨j + 1,by omega,by omega,by rw [htk,Znl,<-hn],by omega,by rw [hps];omega,?_,hw⟩,by dsimp only;omega⟩;rw [htk,List.all_append,hall];simp;omega
 ·have hj8:j=8:=by omega
  subst hj8;rw [List.take_of_length_le (by omega)] at hn hall;refine ⟨?_,hw⟩;unfold Zeb;rw [if_pos ⟨hpre,h12,hall⟩]
  congr 1
  omega
end
section
open Go Go.VC Tryz
variable {R R':Cx} {Hs Rest:List HP} {w:World}
theorem Zby {sd sl:Sl} {xs:List Int} {t:Option (List Int)} (hx:∀ x∈xs,0<=x/\x<9223372036854775808) (hxl:xs.length<=10) (hd:∀ d,t=some d->Ro R sd (b8 d)/\d.length<=4096/\∀ x∈d,0<=x/\x<256) (hl:Ro R sl (xs.map (Value.int .i64))) (hw:Sat R Hs w):
  Zq prog 118 #[.slice sl.a sl.len sl.cap,.slice sd.a sd.len sd.cap,.bool t.isSome] w λ v w'=>∃ s:Sl,v=.slice s.a s.len s.cap/\Sat R (Own s 5 (b8 (ZoH xs t))::Hs) w':=by
 have hsl:sl.len=xs.length:=by have:=hl.len;simpa using this
 apply ZtT;refine ⟨λ b i w=>∃ k:Nat,i=k/\k<=xs.length/\Sat R (Own b 5 (b8 (Zer (xs.take k)))::Hs) w,λ _ i _=>xs.length - i.toNat,⟨0,rfl,by omega,Own.nil hw⟩,?_⟩;clear hw;rintro _ b _ w ⟨k,rfl,hk,hw⟩;refine Br.d (λ h=>?_) (λ h=>?_)
 ·have hk':k<xs.length:=by omega
  refine hl.ix (eqS hw) k rfl hk' ?_;have hxk:=hx xs[k] (List.getElem_mem _);rw [Zbt hxk.1 (by omega),show xs[k]=((xs[k].toNat:Nat):Int) by omega];refine (Zgp (by omega) hw).use ?_;rintro _ w ⟨s,rfl,hw⟩;refine ⟨s,rfl,?_⟩;have hn:=ZdQ (n:=xs[k].toNat) (by omega);have hn2:=Zeq (l:=xs.take k) λ y hy=>hx y (List.mem_of_mem_take hy);have hn3:(xs.take k).length=k:=by simp;omega
  refine Zcx Zh1 (s:=b) (t:=s) (n:=200) underlying53 hw.swap (by omega) (by omega) (by omega) λ s2 w hw=>?_;rw [<-Zix hk'] at hw;exact ⟨⟨k + 1,by rw [Zg (by omega) (by omega)];omega,by omega,hw.swap.drop⟩,by dsimp only;rw [Zg (by omega) (by omega)];omega⟩
 ·have:k=xs.length:=by omega
  subst this;rw [List.take_length] at hw;have hn2:=Zeq hx;have hnb:=ZmM hx;cases t with
  |none=>
   refine Br.f rfl ?_;obtain ⟨R1,hr1,_,hw,back⟩:=Own.lend hw (by rw [List.length_map];omega);refine (Zhb hnb hr1 hw).use ?_;rintro _ w (⟨h,_⟩|⟨_,t,rfl,hw⟩)
   ·omega
   refine ⟨t,0,rfl,t,rfl,?_⟩;unfold ZoH;rw [List.append_nil];exact (back hw).drop
  |some d=>
   obtain ⟨hd1,hd2,hd3⟩:=hd d rfl;refine Br.t rfl ?_;refine (Zln hd1 (by omega) hw).use ?_;rintro _ w ⟨s,rfl,hw⟩;have hn4:=Zj0 hd2;refine ⟨s,rfl,?_⟩;refine Zcx Zh1 (s:=b) (t:=s) (n:=5000) underlying53 hw.swap (by omega) (by omega) (by omega) λ s2 w hw=>?_;have hw:=hw.swap.drop;have hbb:∀ x∈Zer xs++Zfo d,0<=x/\x<256:=Zbr hnb (Zmn hd2 hd3);obtain ⟨R1,hr1,_,hw,back⟩:=Own.lend hw (by rw [List.length_map,List.length_append];omega);refine (Zhb hbb hr1 hw).use ?_;rintro _ w (⟨h,_⟩|⟨_,t,rfl,hw⟩)
   ·rw [List.length_append] at h;omega
   exact ⟨t,0,rfl,t,rfl,(back hw).drop⟩
theorem ZnE {s:Sl} {b:List Int} {n:Int} (hb:∀ x∈b,0<=x/\x<256) (hl:b.length<=1099511627776) (hs:SlR R.m s (b8 b)) (hw:Sat R Hs w):
  Zq prog 137 #[.slice s.a s.len s.cap,.int .i64 n] w λ v w'=>v=.int .i64 (ZeT b n)/\Sat R Hs w':=by
 apply ZtD;refine Zd hw λ r w hw=>?_;have hw:Sat R (ZdI r s b ⟨b,false⟩::Hs) w:=Sat.rrd.2 ⟨0,⟨Nat.zero_le _,rfl⟩,hw⟩;refine (Zb0 hl hb hs hw).use ?_;clear hw;rintro _ w ⟨rfl,hw⟩;have hb1:=ZaF (most:=0) (rd:=⟨b,false⟩) hb;have hv1:=Zap (most:=0) (rd:=⟨b,false⟩) hb (by omega);refine ⟨_,rfl,(Zb0 hl hb hs hw).use ?_⟩;clear hw;rintro _ w ⟨rfl,hw⟩;have hv2:=Zap (most:=99999999) hb1 (by omega);have hb2:=ZaF (most:=99999999) hb1;refine ⟨_,rfl,(Zb0 hl hb hs hw).use ?_⟩;clear hw;rintro _ w ⟨rfl,hw⟩;have hv3:=Zap (most:=1099511627777) hb2 (by omega);refine ⟨_,rfl,(Zc1 hs hw).use ?_⟩;clear hw;rintro _ w ⟨rfl,hw⟩;have hw:=hw.drop;rw [Zg (x:=(ZE 99999999 _).1) (by omega) (by omega),Zg (x:=(ZE 1099511627777 _).1) (by omega) (by omega)];unfold ZeT;simp only;refine ⟨_,rfl,Br.nb (λ h=>?_) (λ h=>Br.ne (λ h2=>by omega) (λ _=>Br.ne (λ h2=>?_) (λ h2=>?_)))⟩
 ·rw [if_neg (λ h2=>by rw [h] at h2;cases h2.1)];exact ⟨rfl,hw⟩
 ·rw [if_neg (λ h3=>h2 h3.2)];exact ⟨rfl,hw⟩
 ·rw [if_pos ⟨h,h2⟩];exact ⟨rfl,hw⟩
abbrev Zp (d:Nat) (lim base:Int) (s sg sh:Sl) (brk:Bool):Obj:=
 .cells [.pointer (some ⟨d,0,none⟩),.int .i64 lim,.int .i64 base,.slice s.a s.len s.cap,.slice sg.a sg.len sg.cap,.slice sh.a sh.len sh.cap,.bool brk].toArray 88 (0,0)
theorem Zam {base:Int} {s:Sl} (h0:0<=base) (h1:base<=1099511627776) (hl:s.len<=200000000000) (hw:Sat R Hs w):Zq prog 30 #[.agg #[.int .i64 base,.slice s.a s.len s.cap]] w λ v w'=>v=.int .i64 (base + s.len)/\Sat R Hs w':=by
 apply ZvT;refine Zd hw λ b w hw=>?_;refine ⟨_,At.own (eqS hw) (by exact ⟨rfl,trivial⟩),_,At.own (eqS hw) (by exact ⟨rfl,trivial⟩),?_,hw.drop⟩;rw [Zg (by omega) (by omega)]
def ZjM (R:Cx) (Hs:List HP) (p d:Nat) (lim base:Int) (sg sh:Sl) (brk:Bool) (es:List Ey) (o:Option Lg) (v:Value) (w:World):Prop:=
 ∃ R' base' s' ds',R.Ext R'/\DsR R' ds'/\v=.bool o.isSome/\(o.getD ⟨base,es⟩)=⟨base',erE ds'⟩/\Sat R' (pts p (Zp d lim base' s' sg sh brk)::ZL s' ds'::Hs) w
theorem ZjM.no {p d:Nat} {lim base:Int} {s sg sh:Sl} {brk:Bool} {ds:List DE4} {o:Option Lg} (hd:DsR R ds) (ho:o=none) (hw:Sat R (pts p (Zp d lim base s sg sh brk)::ZL s ds::Hs) w):ZjM R Hs p d lim base sg sh brk (erE ds) o (.bool false) w:=
 ⟨R,base,s,ds,.refl,hd,by rw [ho];rfl,by rw [ho];rfl,hw⟩
theorem ZjM.yes {p d:Nat} {lim base base':Int} {s sg sh:Sl} {brk:Bool} {ds':List DE4} {es:List Ey} {o:Option Lg} (e:R.Ext R') (hd:DsR R' ds') (ho:o=some ⟨base',erE ds'⟩) (hw:Sat R' (pts p (Zp d lim base' s sg sh brk)::ZL s ds'::Hs) w):ZjM R Hs p d lim base sg sh brk es o (.bool true) w:=
 ⟨R',base',s,ds',e,hd,by rw [ho];rfl,by rw [ho];rfl,hw⟩
theorem ZjM.ext {p d:Nat} {lim base:Int} {sg sh:Sl} {brk:Bool} {es:List Ey} {o:Option Lg} {v:Value} (e:R.Ext R') (h:ZjM R' Hs p d lim base sg sh brk es o v w):ZjM R Hs p d lim base sg sh brk es o v w:=
 let ⟨R2,b,s,ds,e2,h2⟩:=h;⟨R2,b,s,ds,e.trans e2,h2⟩
theorem ZgS {r:Rd} (h:r.bad=true):Zab r=false:=by unfold Zab;rw [h];rfl
theorem ZrN {g:Lg} {r:Rd} (h0:0<=g.base) (h:(ZE 1099511627777 r).2.bad=true\/(ZE 1099511627777 r).1<1):addR g r=none:=by
 unfold addR;simp only;rw [if_neg];rintro ⟨h1,_,h3⟩;rcases h with h|h
 ·have e1:ZE 1099511627776 (ZE 1099511627777 r).2=(0,(ZE 1099511627777 r).2):=Zis h
  rw [e1] at h1;simp only at h1;have e2:ZE 7 (ZE 1099511627777 r).2=(0,(ZE 1099511627777 r).2):=Zis h;rw [e2] at h1;simp only at h1;rw [Zlx h] at h1;simp only at h1;rw [ZgS h] at h1;cases h1
 ·unfold Lg.last at h3;omega
theorem ZrD {g:Lg} {r:Rd} (h:(ZE 1099511627777 r).2.bad=true\/(ZE 1099511627777 r).1<1):ZoI g r=none:=by
 unfold ZoI;simp only;rw [if_neg];rintro ⟨h1,h3⟩;rcases h with h|h
 ·rw [ZgS h] at h1;cases h1
 ·omega
theorem ZnF {g:Lg} {r:Rd} (h:(ZE 1099511627777 r).2.bad=true\/(ZE 1099511627777 r).1<1):Zd4 g r=none:=by
 unfold Zd4;simp only;rw [if_neg];rintro ⟨h1,h3⟩;rcases h with h|h
 ·rw [ZgS h] at h1;cases h1
 ·omega
theorem Zl4 {g:Lg} {r:Rd} (h0:0<=g.base) (h:(ZE 1099511627777 (ZE 3 r).2).2.bad=true\/(ZE 1099511627777 (ZE 3 r).2).1<1\/(ZE 3 r).1=0):Zau g r=none:=by
 have key:(ZE 1099511627777 (ZE 3 r).2).2.bad=true\/(ZE 1099511627777 (ZE 3 r).2).1<1->Zau g r=none:=λ h=>by
  unfold Zau;simp only;split
  ·exact ZrN h0 h
  split
  ·exact ZrD h
  split
  ·exact ZnF h
  ·rfl
 rcases h with h|h|h
 ·exact key (.inl h)
 ·exact key (.inr h)
 ·unfold Zau
  simp only;rw [h];rfl
end
section
open Go Go.VC Tryz
variable {R R':Cx} {Hs Rest:List HP} {w:World}
set_option maxHeartbeats 1000000 in
theorem Zki {p d:Nat} {lim base:Int} {s sg sh sb:Sl} {brk:Bool} {ds:List DE4} {b:List Int} (h0:0<=base) (h1:base<=1099511627776) (hl:ds.length<=100000000000) (hd:DsR R ds) (hb:∀ x∈b,0<=x/\x<256) (hbl:b.length<=1099511627776) (hs:SlR R.m sb (b8 b))
  (hw:Sat R (pts p (Zp d lim base s sg sh brk)::ZL s ds::Hs) w):
  Zq prog 139 #[.pointer (some ⟨p,2,none⟩),.slice sb.a sb.len sb.cap] w (ZjM R Hs p d lim base sg sh brk (erE ds) (ZV ⟨base,erE ds⟩ b)):=by
 apply ZtB
 suffices H:∀ K:Value->World->Prop,(∀ v w',ZjM R Hs p d lim base sg sh brk (erE ds) (ZV ⟨base,erE ds⟩ b) v w'->K v w')->B139 (some ⟨p,2,none⟩) sb K w from H _ λ v w' h=>h
 intro K hK;refine Zd hw λ r w hw=>?_;have hw:Sat R (ZdI r sb b ⟨b,false⟩::pts p (Zp d lim base s sg sh brk)::ZL s ds::Hs) w:=Sat.rrd.2 ⟨0,⟨Nat.zero_le _,rfl⟩,hw⟩;refine (Zb0 hbl hb hs hw).use ?_;clear hw;rintro _ w ⟨rfl,hw⟩;have hv0:=Zap (most:=3) (rd:=⟨b,false⟩) hb (by omega);have hb0:=ZaF (most:=3) (rd:=⟨b,false⟩) hb;have hchg:ZV ⟨base,erE ds⟩ b=Zau ⟨base,erE ds⟩ ⟨b,false⟩:=rfl;have hbad:=Zl4 (g:=⟨base,erE ds⟩) (r:=⟨b,false⟩) h0;have eA:Zau ⟨base,erE ds⟩ ⟨b,false⟩=if (ZE 3 ⟨b,false⟩).1=1 then addR ⟨base,erE ds⟩ (ZE 3 ⟨b,false⟩).2 else if (ZE 3 ⟨b,false⟩).1=2 then ZoI ⟨base,erE ds⟩ (ZE 3 ⟨b,false⟩).2 else if (ZE 3 ⟨b,false⟩).1=3 then Zd4 ⟨base,erE ds⟩ (ZE 3 ⟨b,false⟩).2 else none:=rfl
 obtain ⟨q,hq⟩:∃ q,q=ZE 3 ⟨b,false⟩:=⟨_,rfl⟩;rw [<-hq] at hw hv0 hb0 hbad eA ⊢;refine ⟨_,rfl,(Zb0 hbl hb hs hw).use ?_⟩;clear hw;rintro _ w ⟨rfl,hw⟩;have hv1:=Zap (most:=1099511627777) hb0 (by omega);have hb1:=ZaF (most:=1099511627777) hb0;obtain ⟨i,hi⟩:∃ i,i=ZE 1099511627777 q.2:=⟨_,rfl⟩;rw [<-hi] at hw hv1 hb1 hbad ⊢;rw [hchg] at hK;obtain ⟨O,hO⟩:∃ O,O=Zau ⟨base,erE ds⟩ ⟨b,false⟩:=⟨_,rfl⟩;rw [<-hO] at hK hbad eA;refine ⟨_,rfl,λ w=>(i.2.bad=false/\1<=i.1/\¬ q.1=0)/\Sat R (ZdI r sb b i.2::pts p (Zp d lim base s sg sh brk)::ZL s ds::Hs) w,?_,?_⟩
 ·obtain ⟨n,hn,hw⟩:=Sat.rrd.1 hw
  refine ⟨i.2.bad,At.own (eqS hw) (by exact ⟨rfl,trivial⟩),Br.mk (λ h=>hK _ _ (.no hd (hbad (.inl h)) hw.drop)) (λ h=>?_)⟩;rw [Zg (by omega) (by omega)];refine Br.d (λ h2=>hK _ _ (.no hd (hbad (.inr (.inl h2))) hw.drop)) (λ h2=>Br.e (λ h3=>hK _ _ (.no hd (hbad (.inr (.inr h3))) hw.drop)) (λ h3=>⟨⟨h,by omega,h3⟩,Sat.rrd.2 ⟨n,hn,hw⟩⟩))
 clear hw;rintro _ w ⟨⟨hbf,hi1,hq0⟩,hw⟩;have hsl:s.len=ds.length:=by
  have h2:Sat R (ZL s ds::ZdI r sb b i.2::pts p (Zp d lim base s sg sh brk)::Hs) w:=hw.arr;have:=ZM.len h2;simpa using this
 have hcap:s.len<=s.cap:=by
  have h2:Sat R (ZL s ds::ZdI r sb b i.2::pts p (Zp d lim base s sg sh brk)::Hs) w:=hw.arr;exact ZM.cap (by omega) h2
 rw [Zg (x:=i.1) (by omega) (by omega)];refine Br.e (λ hk1=>?_) (λ hk1=>?_)
 ·rw [if_pos hk1] at eA
  refine (Zb0 hbl hb hs hw).use ?_;clear hw;rintro _ w ⟨rfl,hw⟩;have hv2:=Zap (most:=1099511627776) hb1 (by omega);have hb2:=ZaF (most:=1099511627776) hb1;obtain ⟨t,ht⟩:∃ t,t=ZE 1099511627776 i.2:=⟨_,rfl⟩;rw [<-ht] at hw hv2 hb2 ⊢;refine ⟨_,rfl,(Zb0 hbl hb hs hw).use ?_⟩;clear hw;rintro _ w ⟨rfl,hw⟩;have hv3:=Zap (most:=7) hb2 (by omega);obtain ⟨k,hk⟩:∃ k,k=ZE 7 t.2:=⟨_,rfl⟩;rw [<-hk] at hw hv3 ⊢;refine ⟨_,rfl,Zd hw λ bx w hw=>?_⟩;rw [Zg (x:=t.1) (by omega) (by omega),Zg (x:=k.1) (by omega) (by omega)];refine Zc hw (by kernel_rfl) rfl (by simp [Value.cells,Zn]) λ w hw=>?_;have hw:Sat R (ZdI r sb b k.2::pts bx (.cells [.int .i64 i.1,.int .i64 t.1,.int .i64 k.1,.slice none 0 0].toArray 55 (0,0))::pts p (Zp d lim base s sg sh brk)::ZL s ds::Hs) w:=Sat.swap hw;refine (Zlo (most:=4096) (by omega) hbl hb hs hw).use ?_;clear hw;rintro _ w ⟨sd,rfl,hw⟩;obtain ⟨x,hx⟩:∃ x,x=ZaJ 4096 k.2:=⟨_,rfl⟩;rw [<-hx] at hw;obtain ⟨R1,e1,hsd,hw⟩:=Own.leak hw;have hd:=hd.ext e1;refine ⟨sd,rfl,?_⟩;refine Zc hw (by kernel_rfl) rfl (by simp [Value.cells,Zn]) λ w hw=>?_;have hw:Sat R1 (pts bx (.cells [.int .i64 i.1,.int .i64 t.1,.int .i64 k.1,.slice sd.a sd.len sd.cap].toArray 55 (0,0))::ZdI r sb b x.2::pts p (Zp d lim base s sg sh brk)::ZL s ds::Hs) w:=hw;have eB:O=if Zab x.2=true/\i.1<=1099511627776/\i.1=base + (ds.length:Int) + 1 then some ⟨base,erE ds++[⟨i.1,t.1,k.1,x.1⟩]⟩ else none:=by
   rw [eA];subst hx hk ht hi;unfold addR Lg.last;simp only [List.length_map]
  rw [eB] at hK;have out:∀ {w},¬ (Zab x.2=true/\i.1<=1099511627776/\i.1=base + (ds.length:Int) + 1)->Sat R1 (pts bx (.cells [.int .i64 i.1,.int .i64 t.1,.int .i64 k.1,.slice sd.a sd.len sd.cap].toArray 55 (0,0))::ZdI r sb b x.2::pts p (Zp d lim base s sg sh brk)::ZL s ds::Hs) w->K (.bool false) w:=λ h hw=>
   hK _ _ (.ext e1 (.no hd (if_neg h) hw.drop.drop))
  refine (Zc1 (e1.slR hs) hw.swap).use ?_;clear hw;rintro _ w ⟨rfl,hw⟩;have hw:=hw.swap;refine ⟨_,rfl,Br.nb (λ h=>out (λ h2=>by rw [h] at h2;cases h2.1) hw) (λ h=>Br.d (λ h2=>out (λ h3=>by omega) hw) (λ h2=>?_))⟩;refine Zb.mk rfl ⟨base,s,At.own (eqS hw) (by exact ⟨rfl,rfl,trivial⟩),?_⟩;refine (Zam h0 h1 (by omega) hw).use ?_;clear hw;rintro _ w ⟨rfl,hw⟩;refine ⟨_,rfl,?_⟩;rw [Zg (by omega) (by omega),hsl];refine Br.ne (λ h3=>out (λ h4=>h3 h4.2.2) hw) (λ h3=>?_);have hc:Zab x.2=true/\i.1<=1099511627776/\i.1=base + (ds.length:Int) + 1:=⟨h,by omega,h3⟩;refine Zs (Sat R1 [pts bx (.cells [.int .i64 i.1,.int .i64 t.1,.int .i64 k.1,.slice sd.a sd.len sd.cap].toArray 55 (0,0)),pts p (Zp d lim base s sg sh brk),VC.tru]) hw (λ w hw=>hw.k2) λ w hw=>?_;refine Zb.mk rfl ⟨s,At.own Ze (by exact ⟨rfl,trivial⟩),i.1,t.1,k.1,sd,At.own Ze (by exact ⟨rfl,rfl,rfl,rfl,trivial⟩),Zd hw λ b2 w hw=>⟨hw.k2,?_⟩⟩;have hw:Sat R1 (ZL s ds::pts b2 (.cells (ZaU (sd,⟨i.1,t.1,k.1,x.1⟩)).toArray 55 (0,0))::pts bx (.cells [.int .i64 i.1,.int .i64 t.1,.int .i64 k.1,.slice sd.a sd.len sd.cap].toArray 55 (0,0))::ZdI r sb b x.2::pts p (Zp d lim base s sg sh brk)::Hs) w:=hw.arr;refine Zc2 elE hw rfl rfl (by rw [List.length_map];omega) (by rw [List.length_map];omega) λ s2 w hw=>?_;have hw:Sat R1 (pts p (Zp d lim base s sg sh brk)::pts bx (.cells [.int .i64 i.1,.int .i64 t.1,.int .i64 k.1,.slice sd.a sd.len sd.cap].toArray 55 (0,0))::ZdI r sb b x.2::ZM 4 s2 55 (ds.map ZaU++[ZaU (sd,⟨i.1,t.1,k.1,x.1⟩)])::Hs) w:=hw.arr;refine ⟨hw.k2,Zb.mk rfl ?_⟩;refine Zc hw (by kernel_rfl) rfl (by simp [Value.cells,Zn]) λ w hw=>?_;have hw:=hw.re (pts p (Zp d lim base s2 sg sh brk));refine hK _ _ (.yes (base':=base) (ds':=ds++[(sd,⟨i.1,t.1,k.1,x.1⟩)]) (s:=s2) e1 (hd.app (.one hsd)) ?_ ?_)
  ·rw [if_pos hc];simp [erE]
  ·unfold ZL;rw [List.map_append];exact hw.cons λ _ h=>h.drop.drop
 rw [if_neg hk1] at eA;refine Br.e (λ hk2=>?_) (λ hk2=>?_)
 ·rw [if_pos hk2] at eA
  have eB:O=if Zab i.2=true/\1<=i.1 then some (Zfe ⟨base,erE ds⟩ i.1) else none:=by
   rw [eA];subst hi;rfl
  refine (Zc1 hs hw).use ?_;clear hw;rintro _ w ⟨rfl,hw⟩;have hw:=hw.drop;refine ⟨_,rfl,Br.nb (λ h=>hK _ _ (.no hd (by rw [eB,if_neg (λ h2=>by rw [h] at h2;cases h2.1)]) hw)) (λ h=>?_)⟩;rw [if_pos ⟨h,hi1⟩] at eB;refine Zb.mk rfl ⟨base,At.own (eqS hw) (by exact ⟨rfl,trivial⟩),Br.d (λ hc=>?_) (λ hc=>?_)⟩
  ·refine Zb.mk rfl ?_
   rw [Zg (by omega) (by omega)];refine Zc hw (by kernel_rfl) rfl (by simp [Value.cells,Zn]) λ w hw=>?_;have hw:=hw.re (pts p (Zp d lim (i.1 - 1) s sg sh brk));refine Zb.mk rfl ?_;refine Zc hw (by kernel_rfl) rfl (by simp [Value.cells,Zn]) λ w hw=>?_;have hw:=hw.re (pts p (Zp d lim (i.1 - 1) ⟨none,0,0⟩ sg sh brk));refine hK _ _ (.yes (base':=i.1 - 1) (s:=⟨none,0,0⟩) (ds':=[]) .refl .nil ?_ (hw.cons λ _ h=>ZM.nil h.drop));rw [eB];unfold Zfe;rw [if_pos hc];rfl
  ·refine Zb.mk rfl ⟨base,s,At.own (eqS hw) (by exact ⟨rfl,rfl,trivial⟩),?_⟩
   refine (Zam h0 h1 (by omega) hw).use ?_;clear hw;rintro _ w ⟨rfl,hw⟩;refine ⟨_,rfl,Br.d (λ hc2=>?_) (λ hc2=>?_)⟩
   ·have w1:IntKind.i64.wrap (IntKind.i64.wrap (i.1 - 1) - base)=i.1 - 1 - base:=by rw [Zg (x:=i.1 - 1) (by omega) (by omega),Zg (by omega) (by omega)]
    have hn:(i.1 - 1 - base).toNat<=ds.length:=by omega
    refine Zs (Sat R [pts p (Zp d lim base s sg sh brk),VC.tru]) hw (λ w hw=>hw.k1) λ w hw=>?_;refine Zb.mk rfl ⟨s,At.own Ze (by exact ⟨rfl,trivial⟩),Zb.mk rfl ⟨base,At.own Ze (by exact ⟨rfl,trivial⟩),?_⟩⟩;rw [w1];refine ⟨by omega,by omega,Zd hw λ b2 w hw=>⟨hw.k1,?_⟩⟩;have hw:Sat R (ZL s ds::pts b2 (.cells ([]:List Value).toArray 55 (0,0))::pts p (Zp d lim base s sg sh brk)::Hs) w:=hw.arr;obtain ⟨R1,hr,⟨x,hx⟩,hw,back⟩:=ZM.lend hw;have hr2:=hr.take (h:=(i.1 - 1 - base).toNat) (by rw [List.length_map];exact hn) s.cap;rw [<-List.map_take] at hr2;have hs2:=Zg0 elE.hk hw hr2 (Zhl _);refine ZbP elE hw hs2 hr2.wid (by rw [List.length_map,List.length_take];omega) (by rw [List.length_map,List.length_take];omega) λ t w hw=>?_;have hw:Sat R (ZL s ds::ZL t (ds.take (i.1 - 1 - base).toNat)::pts p (Zp d lim base s sg sh brk)::Hs) w:=back hw;have hw:Sat R (pts p (Zp d lim base s sg sh brk)::ZL t (ds.take (i.1 - 1 - base).toNat)::ZL s ds::Hs) w:=hw.arr;refine ⟨hw.k1,Zb.mk rfl ?_⟩;refine Zc hw (by kernel_rfl) rfl (by simp [Value.cells,Zn]) λ w hw=>?_;have hw:=hw.re (pts p (Zp d lim base t sg sh brk));refine hK _ _ (.yes (base':=base) (s:=t) (ds':=ds.take (i.1 - 1 - base).toNat) .refl (hd.take _) ?_ (hw.cons λ _ h=>h.cons λ _ h=>h.drop));rw [eB];unfold Zfe;rw [if_neg hc,if_pos (by unfold Lg.last;simp only [List.length_map];omega)];simp [erE]
   ·refine hK _ _ (.yes (base':=base) (s:=s) (ds':=ds) .refl hd ?_ hw)
    rw [eB];unfold Zfe;rw [if_neg hc,if_neg (by unfold Lg.last;simp only [List.length_map];omega)]
 rw [if_neg hk2] at eA;have hk3:q.1=3:=by omega
 rw [if_pos hk3] at eA;refine Br.e (λ _=>?_) (λ h=>absurd hk3 h);have eB:O=if Zab i.2=true/\1<=i.1 then some ⟨i.1 - 1,[]⟩ else none:=by
  rw [eA];subst hi;rfl
 refine (Zc1 hs hw).use ?_;clear hw;rintro _ w ⟨rfl,hw⟩;have hw:=hw.drop;refine ⟨_,rfl,Br.nb (λ h=>hK _ _ (.no hd (by rw [eB,if_neg (λ h2=>by rw [h] at h2;cases h2.1)]) hw)) (λ h=>?_)⟩;rw [if_pos ⟨h,hi1⟩] at eB;refine Zb.mk rfl ?_;rw [Zg (by omega) (by omega)];refine Zc hw (by kernel_rfl) rfl (by simp [Value.cells,Zn]) λ w hw=>?_;have hw:=hw.re (pts p (Zp d lim (i.1 - 1) s sg sh brk));refine Zb.mk rfl ?_;refine Zc hw (by kernel_rfl) rfl (by simp [Value.cells,Zn]) λ w hw=>?_;have hw:=hw.re (pts p (Zp d lim (i.1 - 1) ⟨none,0,0⟩ sg sh brk));exact hK _ _ (.yes (base':=i.1 - 1) (s:=⟨none,0,0⟩) (ds':=[]) .refl .nil (by rw [eB];rfl) (hw.cons λ _ h=>ZM.nil h.drop))
end
section
open Go Go.VC Tryz
variable {R R':Cx} {Hs Rest:List HP} {w:World}
abbrev Zb8 (s:Sl) (segs:List Sg):HP:=Own s 3 (Zk5 (segs.map (·.num)))
abbrev Zaf (s:Sl) (segs:List Sg):HP:=Own s 3 ((segs.map (·.next)).map (Value.int .i64))
abbrev US (p d:Nat) (lim base:Int) (s sg sh:Sl) (brk:Bool) (ds:List DE4) (segs:List Sg) (st:DS) (Hs:List HP):List HP:=pts p (Zp d lim base s sg sh brk)::ZL s ds::Zb8 sg segs::Zaf sh segs::Zy d st::Hs
theorem Zfa {d:Nat} {st:DS} (hl:st.fs.length<=1000000) (hw:Sat R (Zy d st::Hs) w):
  Zq prog 43 #[.pointer (some ⟨d,0,none⟩)] w λ v w'=>∃ t:Sl,v=.slice t.a t.len t.cap/\Sat R (Own t 9 ((st.fs.map (·.1)).map Value.string)::Zy d st::Hs) w':=by
 obtain ⟨s,E,hE,hw⟩:=Sat.ref.1 hw;have hEl:E.length=st.fs.length:=by rw [<-hE,Zar]
 refine (ZlG hE (by omega) hw).mono ?_;rintro _ w ⟨t,rfl,hw⟩;exact ⟨t,rfl,hw.cons λ _ h=>RO.shut hE h⟩
theorem Zhi {b:Nat} {s:Sl} {xs:List Int} {x:Int} {ty:TypeId} {K:Sl->World->Prop} (hw:Sat R (Own s 3 (xs.map (Value.int .i64))::pts b (.cells [Value.int .i64 x].toArray 3 (0,0))::Hs) w) (hl:xs.length<=1000000)
  (k:∀ s' w',Sat R (Own s' 3 ((xs++[x]).map (Value.int .i64))::Hs) w'->K s' w'):
  ∃ w':World,∃ t:Sl,((Builtin.append_ #[ 41,41 ] ty #[.slice s.a s.len s.cap,.slice ((some ⟨b,0,none⟩)) 1 1]).run prog w=.ok (.slice t.a t.len t.cap) w')/\K t w':=
 Zfx elI8 hw (Zjr _ _) rfl (by rw [List.length_map];omega) (by rw [List.length_map];omega) λ s' w' h=>k s' w' (by rw [List.map_append];exact h)
def amN (ld:Ld):Int:=match ld.amiss with|some s=>s.num|none=>0
def amZ (ld:Ld):Int:=match ld.amiss with|some s=>s.size|none=>0
def Znf (R:Cx) (Hs:List HP) (p d:Nat) (lim:Int) (brk:Bool) (st:DS) (v:Value) (w:World):Prop:=
 ∃ R' base s ds sg sh bh,R.Ext R'/\DsR R' ds/\v=.tuple #[.int .i64 (amN (Zj st)),.int .i64 (amZ (Zj st)),.slice bh.a bh.len bh.cap]/\(⟨base,erE ds⟩:Lg)=(Zj st).g/\SlR R'.m bh (Zk5 (Zj st).behind)/\0<=base/\base<=1099511627776/\ds.length<=100000000000/\
  (Zj st).segs.length<=40000/\Sat R' (US p d lim base s sg sh brk ds (Zj st).segs st Hs) w
set_option maxHeartbeats 4000000 in
theorem Zhc {p d:Nat} {lim base:Int} {s0 sg0 sh0:Sl} {brk:Bool} {st:DS} (i:Inv st) (hby:Zb9 st.fs) (hc:st.fs.length<=40000) (hN:Zr st.fs=st.fs.map (·.1)) (hw:Sat R (pts p (Zp d lim base s0 sg0 sh0 brk)::Zy d st::Hs) w):
  Zq prog 93 #[.pointer (some ⟨p,0,none⟩)] w (Znf R Hs p d lim brk st):=by
 apply ZuV
 suffices H:∀ K:Value->World->Prop,(∀ v w',Znf R Hs p d lim brk st v w'->K v w')->B93 (some ⟨p,0,none⟩) K w from H _ λ _ _ h=>h
 intro K hK;refine Zb.mk rfl ⟨_,At.own (eqS hw) (by exact ⟨rfl,trivial⟩),?_⟩;refine (Zfa (by omega) hw.swap).use ?_;clear hw;rintro _ w ⟨sn,rfl,hw⟩;refine ⟨sn,rfl,?_⟩;rw [<-hN] at hw;obtain ⟨R1,e1,hn1,hw⟩:=Own.leak hw;have hnl:=Za7 st.fs;have hsnl:sn.len=(Zr st.fs).length:=by have:=hn1.len;simpa using this
 have hro1:=hn1.ro (by rw [List.length_map];omega);refine ⟨λ t i w=>∃ j:Nat,i=j/\j<=(Zr st.fs).length/\Sat R1 (Own t 3 (Zk5 (ZN ((Zr st.fs).take j)))::Zy d st::pts p (Zp d lim base s0 sg0 sh0 brk)::Hs) w,λ _ i _=>((Zr st.fs).length - i).toNat,⟨0,rfl,Nat.zero_le _,Own.nil hw⟩,?_⟩;clear hw;rintro _ sa _ w ⟨j,rfl,hj,hw⟩;refine Br.d (λ h=>?_) (λ h=>?_)
 ·have hjl:j<(Zr st.fs).length:=by omega
  have w1:IntKind.i64.wrap ((j:Int) + 1)=((j + 1:Nat):Int):=by rw [Zg (by omega) (by omega)];omega
  have hks:=ZdS (i.names _ (Zet.1 (List.getElem_mem hjl)));have htk:=Zhn hjl;have hlt:=ZdP (l:=bytesL (Zr st.fs)[j]);have hnle:=Zdq ((Zr st.fs).take j);rw [List.length_take] at hnle;refine hro1.idxStr (eqS hw) hjl ?_;refine (Zlp _ (by omega) hw).use ?_;clear hw;rintro _ w ⟨rfl,hw⟩;rw [w1];refine ⟨_,rfl,Br.d (λ h2=>?_) (λ h2=>⟨⟨j + 1,rfl,hjl,by rw [htk,if_neg (by omega)];exact hw⟩,by dsimp only;omega⟩)⟩;refine Zd hw λ b w hw=>Zhi hw.swap (by rw [List.length_map];omega) λ t w hw=>⟨⟨j + 1,rfl,hjl,?_⟩,by dsimp only;omega⟩;rw [htk,if_pos (by omega)];unfold Zk5;rw [List.map_append];exact hw
 have hjl:j=(Zr st.fs).length:=by omega
 rw [hjl,List.take_length] at hw;clear h hj hjl;obtain ⟨R2,e2,hall,hw⟩:=Own.leak hw;obtain ⟨nums,hnums⟩:∃ n,n=ZN (Zr st.fs):=⟨_,rfl⟩;obtain ⟨rd,hrd⟩:∃ rd:Nat->List Int,rd=λ n=>(ZC st (Za n)).1:=⟨_,rfl⟩;have hload:Zj st=Zaq rd none ⟨0,[]⟩ [] nums:=by subst hrd hnums;rfl
 have hnb:∀ n∈nums,1<=n/\n<100000000:=λ n hn=>by
  rw [hnums] at hn;unfold ZN at hn;rw [List.mem_filter] at hn;obtain ⟨h1,h2⟩:=hn;obtain ⟨k,_,rfl⟩:=List.mem_map.1 h1;exact ⟨by have:=of_decide_eq_true h2;omega,ZdP⟩
 have hnlen:nums.length<=40000:=by rw [hnums];have:=Zdq (Zr st.fs);omega
 rw [<-hnums] at hall;have hal:sa.len=nums.length:=by have:=hall.len;simpa using this
 have hrb:∀ n,(∀ x∈rd n,0<=x/\x<256)/\(rd n).length<=16777216:=λ n=>by
  rw [hrd];exact ⟨ZhT hby _,ZgF i _⟩
 have hsb:∀ n,∀ b∈scan (rd n),b.length<=65536/\∀ x∈b,0<=x/\x<256:=λ n b hb=>by
  obtain ⟨h1,h2⟩:=ZgE _ (rd n) (Nat.le_refl _) b hb;exact ⟨h1,λ x hx=>(hrb n).1 x (h2 x hx)⟩
 have e12:=e1.trans e2;have hw:=hw.swap;refine Zb.mk rfl ?_;refine Zc hw (by kernel_rfl) rfl (by simp [Value.cells,Zn]) λ w hw=>?_;have hw:=hw.re (pts p (Zp d lim 0 ⟨none,0,0⟩ sg0 sh0 brk));refine Zb.mk rfl ?_;refine Zc hw (by kernel_rfl) rfl (by simp [Value.cells,Zn]) λ w hw=>?_;have hw:=hw.re (pts p (Zp d lim 0 ⟨none,0,0⟩ ⟨none,0,0⟩ sh0 brk));refine Zb.mk rfl ?_;refine Zc hw (by kernel_rfl) rfl (by simp [Value.cells,Zn]) λ w hw=>?_;have hw:=hw.re (pts p (Zp d lim 0 ⟨none,0,0⟩ ⟨none,0,0⟩ ⟨none,0,0⟩ brk));refine ⟨λ i w=>∃ (k:Nat) (g:Lg) (sgs:List Sg) (R3:Cx) (s:Sl) (ds:List DE4) (sg sh:Sl),i=k/\k<=nums.length/\R2.Ext R3/\DsR R3 ds/\g=⟨g.base,erE ds⟩/\(0<=g.base/\g.base<=1099511627776)/\ds.length<=k * 2097153/\(k=0->g=⟨0,[]⟩)/\sgs.length=k/\
   Zj st=Zaq rd (if k=0 then none else nums[k - 1]?) g sgs (nums.drop k)/\Sat R3 (US p d lim g.base s sg sh brk ds sgs st Hs) w,λ i _=>nums.length - i.toNat,⟨0,⟨0,[]⟩,[],R2,⟨none,0,0⟩,[],⟨none,0,0⟩,⟨none,0,0⟩,rfl,by omega,.refl,.nil,rfl,⟨by simp,by simp⟩,by simp,λ _=>rfl,rfl,hload,?_⟩,?_⟩
 ·exact hw.cons λ _ h=>ZM.nil (Own.nil (Own.nil h))
 clear hw;rintro _ _ w ⟨k,g,sgs,R3,s,ds,sg,sh,rfl,hk,e3,hd,hg,hgb,hdl,hg0,hsl,hL,hw⟩;have hall3:=e3.slR hall;refine Br.d (λ h=>?_) (λ h=>?_)
 rotate_left
 ·have hkn:k=nums.length:=by omega
  rw [hkn,List.drop_length] at hL;have hL2:Zj st=⟨g,sgs,none,[]⟩:=by rw [hL];unfold Zaq;rfl
  refine hK _ _ ⟨R3,g.base,s,ds,sg,sh,⟨none,0,0⟩,e12.trans e3,hd,by rw [hL2];rfl,?_,?_,hgb.1,hgb.2,by omega,?_,?_⟩
  ·rw [hL2];exact hg.symm
  ·rw [hL2];exact ⟨rfl,by simp,λ h=>absurd rfl h⟩
  ·rw [hL2];show sgs.length<=_;omega
  ·rw [hL2];exact hw
 have hk':k<nums.length:=by omega
 have hnk:=hnb nums[k] (List.getElem_mem _);obtain ⟨n,hn⟩:∃ n,n=nums[k]:=⟨_,rfl⟩;rw [<-hn] at hnk;have hdrop:nums.drop k=n::nums.drop (k + 1):=by rw [hn];exact ZaQ hk'
 rw [hdrop] at hL;obtain ⟨prev,hprev⟩:∃ q,q=(if k=0 then none else nums[k - 1]?):=⟨_,rfl⟩
 rw [<-hprev] at hL;have w1:IntKind.i64.wrap ((k:Int) + 1)=((k + 1:Nat):Int):=by rw [Zg (by omega) (by omega)];omega
 rw [w1];have hbh:SlR R3.m (Z0 sa (k + 1)) (Zk5 (nums.drop (k + 1))):=by
  have:=hall3.drop (k:=k + 1) (by simp;omega);simpa [Zk5,List.map_drop] using this
 have en:(nums.map λ n:Nat=>(n:Int))[k]'(by simpa using hk')=((n:Nat):Int):=by simp [hn]
 refine Zs (Sat R3 [pts p (Zp d lim g.base s sg sh brk),VC.tru]) hw (λ w hw=>hw.k1) λ w hw=>?_;refine Zb.mk rfl ⟨_,At.own Ze (by exact ⟨rfl,trivial⟩),?_⟩;refine hall3.ix Ze k rfl (by simpa using hk') ?_;rw [en];refine (ZaX hnk.2 hw).use ?_;clear hw;rintro _ w ⟨rfl,hw⟩;refine ⟨_,rfl,hw.k1,?_⟩;have hw:Sat R3 (Zy d st::pts p (Zp d lim g.base s sg sh brk)::ZL s ds::Zb8 sg sgs::Zaf sh sgs::Hs) w:=hw.arr;refine (ZeJ i (by omega) (by rw [Zc0];omega) hw).use ?_;clear hw;rintro _ w ⟨t,rfl,hw⟩;refine ⟨t,_,rfl,hw.k1,?_⟩;obtain ⟨R4,e4,ht,hw⟩:=Own.leak hw;have ern:(ZC st (Za n)).1=rd n:=by rw [hrd]
 rw [ern] at ht;have hbl:=(hrb n).2;have htl:t.len=(rd n).length:=by have:=ht.len;simpa using this
 refine (Znz (hrb n).1 (by omega) ht hw).use ?_;clear hw;rintro _ w ⟨l,rfl,hw⟩;obtain ⟨R5,ps,e5,hps,hl,hpp,hw⟩:=ZiW hw;refine ⟨l,_,rfl,?_⟩;have hpl:ps.length=(scan (rd n)).length:=by rw [<-hps];simp
 have hll:l.len=ps.length:=by have:=hl.len;simpa using this
 have hn8:=Zb3 (scan (rd n));have hsle:=ZeH _ (rd n) (Nat.le_refl _);have e35:=e4.trans e5;have hd:=hd.ext e35;have hall5:=e35.slR hall3;have hbh:=e35.slR hbh;have hpj:∀ j (hj:j<ps.length),ps[j].2=(scan (rd n))[j]'(by omega)/\SlR R5.m ps[j].1 (b8 ((scan (rd n))[j]'(by omega))):=λ j hj=>by
  have e:ps[j].2=(scan (rd n))[j]'(by omega):=by
   have:(ps.map (·.2))[j]'(by simpa using hj)=(scan (rd n))[j]'(by omega):=by simp only [hps]
   simpa using this
  exact ⟨e,by rw [<-e];exact hpp _ (List.getElem_mem _)⟩
 have hnx:=Zpz (prev:=prev) (hrb n).1 λ b hb=>(hsb n b hb).2;have hprev0:prev=none↔k=0:=by
  rw [hprev];split
  ·simp [*]
  ·rename_i h0
   rw [List.getElem?_eq_getElem (by omega)];simp [h0]
 have fin:∀ {R6:Cx} {base z:Int} {s:Sl} {ds:List DE4} {sg sh:Sl} {sgs':List Sg} {am:Sg} {w:World},R5.Ext R6->DsR R6 ds->Zj st=⟨⟨base,erE ds⟩,sgs',some am,nums.drop (k + 1)⟩->am.num=n->am.size=z->0<=base->base<=1099511627776->ds.length<=100000000000->sgs'.length<=40000->
   Sat R6 (US p d lim base s sg sh brk ds sgs' st Hs) w->Drw w λ S_4 w_20=>
     Rng (k:Int) sa.len (Zb sa.a λ a_t124=>
     ∃ t125:Int,(At S_4 (Addr.add a_t124 (k:Int).toNat) [.int .i64 t125])/\
     ((0:Int)<=((k + 1:Nat):Int))/\
     ((((k + 1:Nat):Int):Int)<=(sa.len:Int))/\
     K (.tuple #[.int .i64 t125,.int .i64 z,.slice (ZcW sa.a ((k + 1:Nat):Int).toNat sa.cap 1) (sa.len - ((k + 1:Nat):Int).toNat) (sa.cap - ((k + 1:Nat):Int).toNat)]) w_20):=
  λ {R6 base z s ds sg sh sgs' am w} e6 hd hld ha1 ha2 hb0 hb1 hdl hsl hw=>by
   refine Zv hw λ w hw=>?_;refine (e6.slR hall5).ix Ze k rfl (by simpa using hk') ?_;rw [en];refine ⟨by omega,by omega,hK _ _ ⟨R6,base,s,ds,sg,sh,Z0 sa (k + 1),((e12.trans e3).trans e35).trans e6,hd,?_,?_,?_,hb0,hb1,hdl,?_,?_⟩⟩
   ·rw [hld,Int.toNat_natCast];unfold amN amZ;simp only [ha1,ha2]
   ·rw [hld]
   ·rw [hld];exact e6.slR hbh
   ·rw [hld];exact hsl
   ·rw [hld];exact hw
 have hw:Sat R5 (US p d lim g.base s sg sh brk ds sgs st Hs) w:=hw.arr;have noscan:ps.length=0->nxt rd prev n=0:=λ h0=>by
  unfold nxt ZR;cases hs:scan (rd n) with
  |nil=>rfl
  |cons a l=>rw [hs] at hpl;simp at hpl;omega
 refine ⟨λ x w=>x=nxt rd prev n/\Sat R5 (US p d lim g.base s sg sh brk ds sgs st Hs) w,?_,?_⟩
 ·have some1:∀ {w:World},Sat R5 (US p d lim g.base s sg sh brk ds sgs st Hs) w->∀ (hpos:0<ps.length),(prev=none\/prev.map (· + 1)=some n)->Drw w λ S_2 w_15=>
      Rng 0 l.len (Zb l.a λ a_t99=>
      ∃ t100:Sl,(At S_2 (Addr.add a_t99 0) [.slice t100.a t100.len t100.cap])/\
      Rng (k:Int) sa.len (Zb sa.a λ a_t103=>
      ∃ t104:Int,(At S_2 (Addr.add a_t103 (k:Int).toNat) [.int .i64 t104])/\
      Calls prog 137 #[.slice t100.a t100.len t100.cap,.int .i64 t104] w_15 λ e_5 w_16=>
      ∃ t105:Int,(e_5=.returned (.int .i64 t105))/\
      t105=nxt rd prev n/\Sat R5 (US p d lim g.base s sg sh brk ds sgs st Hs) w_16)):=λ hw hpos hor=>by
   refine Zv hw λ w hw=>?_;refine hl.ixS Ze 0 rfl (by simpa using hpos) ?_;obtain ⟨_,h2⟩:=hpj 0 hpos;have hb0:=hsb n _ (List.getElem_mem (h:=(by omega:0<(scan (rd n)).length)));have en0:(ps.map λ p:Sl × List Int=>p.1)[0]'(by simpa using hpos)=ps[0].1:=by simp
   rw [en0];refine hall5.ix Ze k rfl (by simpa using hk') ?_;rw [en];refine (ZnE hb0.2 (by omega) h2 hw).use ?_;clear hw;rintro _ w ⟨rfl,hw⟩;exact ⟨_,rfl,(Zdr (by omega) hor).symm,hw⟩
  refine Zv hw λ w hw=>Br.d (λ h1=>?_) (λ h1=>⟨(noscan (by omega)).symm,hw⟩);refine Br.e (λ h2=>some1 hw (by omega) (.inl (hprev0.2 (by omega)))) (λ h2=>?_);have h20:k≠0:=λ h=>h2 (by rw [h];rfl);have wk:IntKind.i64.wrap ((k:Int) - 1)=((k - 1:Nat):Int):=by rw [Zg (by omega) (by omega)];omega
  rw [wk];refine hall5.ix Ze k rfl (by simpa using hk') ?_;rw [en];refine hall5.ix Ze (k - 1) rfl (by simp;omega) ?_;have en1:(nums.map λ n:Nat=>(n:Int))[k - 1]'(by simp;omega)=((nums[k - 1]'(by omega):Nat):Int):=by simp
  rw [en1];have hpv:prev=some (nums[k - 1]'(by omega)):=by rw [hprev,if_neg h20,List.getElem?_eq_getElem (by omega)]
  have hpb:=hnb _ (List.getElem_mem (h:=(by omega:k - 1<nums.length)));rw [Zg (by omega) (by omega)];refine Br.e (λ h3=>some1 hw (by omega) (.inr (by rw [hpv];simp;omega))) (λ h3=>⟨?_,hw⟩)
  symm
  unfold nxt ZR;split
  ·rfl
  ·rw [if_neg]
   rw [hpv];simp;omega
 clear hw;rintro _ _ w ⟨rfl,hw⟩;have hdsl:s.len=ds.length:=by
  have h2:Sat R5 (ZL s ds::pts p (Zp d lim g.base s sg sh brk)::Zb8 sg sgs::Zaf sh sgs::Zy d st::Hs) w:=hw.arr;have:=ZM.len h2;simpa using this
 have hlast:g.last=g.base + ds.length:=by rw [hg];unfold Lg.last;simp
 refine ⟨λ w=>¬ (nxt rd prev n=0\/(prev≠none/\nxt rd prev n≠g.last + 1))/\Sat R5 (US p d lim g.base s sg sh brk ds sgs st Hs) w,?_,?_⟩
 ·have am1:(nxt rd prev n=0\/(prev≠none/\nxt rd prev n≠g.last + 1))->∀ {w:World},Sat R5 (US p d lim g.base s sg sh brk ds sgs st Hs) w->Drw w λ S_4 w_20=>
     Rng (k:Int) sa.len (Zb sa.a λ a_t124=>
     ∃ t125:Int,(At S_4 (Addr.add a_t124 (k:Int).toNat) [.int .i64 t125])/\
     ((0:Int)<=((k + 1:Nat):Int))/\
     ((((k + 1:Nat):Int):Int)<=(sa.len:Int))/\
     K (.tuple #[.int .i64 t125,.int .i64 0,.slice (ZcW sa.a ((k + 1:Nat):Int).toNat sa.cap 1) (sa.len - ((k + 1:Nat):Int).toNat) (sa.cap - ((k + 1:Nat):Int).toNat)]) w_20):=λ h1 {w} hw=>
   fin .refl hd (by rw [hL,ZaO h1,<-hg]) rfl rfl hgb.1 hgb.2 (by omega) (by omega) hw
  refine Br.e (λ h1=>am1 (.inl h1) hw) (λ h1=>Br.d (λ h2=>?_) (λ h2=>⟨λ h=>h.elim h1 (λ h=>h.1 (hprev0.2 (by omega))),hw⟩));have hpn:prev≠none:=λ h=>by have:=hprev0.1 h;omega
  refine Zb.mk rfl ⟨g.base,s,At.own (eqS hw) (by exact ⟨rfl,rfl,trivial⟩),?_⟩;refine (Zam hgb.1 hgb.2 (by omega) hw).use ?_;clear hw;rintro _ w ⟨rfl,hw⟩;refine ⟨_,rfl,?_⟩;rw [Zg (by omega) (by omega),hdsl];exact Br.ne (λ h3=>am1 (.inr ⟨hpn,by rw [hlast];exact h3⟩) hw) (λ h3=>⟨λ h=>h.elim h1 (λ h=>h.2 (by rw [hlast];exact h3)),hw⟩)
 clear hw;rintro _ w ⟨h1,hw⟩;have hx0:nxt rd prev n≠0:=λ h=>h1 (.inl h);obtain ⟨g1,hg1⟩:∃ g1:Lg,g1=(if prev=none then ⟨nxt rd prev n - 1,g.l⟩ else g):=⟨_,rfl⟩
 have eg1:g1=⟨if k=0 then nxt rd prev n - 1 else g.base,erE ds⟩:=by
  rw [hg1];by_cases hk0:k=0
  ·rw [if_pos (hprev0.2 hk0),if_pos hk0]
   have:g.l=erE ds:=by rw [hg]
   rw [this]
  ·rw [if_neg (λ h=>hk0 (hprev0.1 h)),if_neg hk0];exact hg
 have hb1:0<=(if k=0 then nxt rd prev n - 1 else g.base)/\(if k=0 then nxt rd prev n - 1 else g.base)<=1099511627776:=by split<;>omega
 obtain ⟨base1,hbase1⟩:∃ b,b=(if k=0 then nxt rd prev n - 1 else g.base):=⟨_,rfl⟩
 rw [<-hbase1] at eg1 hb1;refine ⟨Sat R5 (US p d lim base1 s sg sh brk ds sgs st Hs),?_,?_⟩
 ·refine Br.e (λ h2=>?_) (λ h2=>?_)
  ·have hk0:k=0:=by omega
   refine Zb.mk rfl ?_;rw [Zg (by omega) (by omega)];refine Zc hw (by kernel_rfl) rfl (by simp [Value.cells,Zn]) λ w hw=>?_;rw [hbase1,if_pos hk0];exact hw.re (pts p (Zp d lim (nxt rd prev n - 1) s sg sh brk))
  ·rw [hbase1,if_neg (λ h=>h2 (by rw [h];rfl))];exact hw
 clear hw;rintro _ w hw;refine Zs (Sat R5 [pts p (Zp d lim base1 s sg sh brk),VC.tru]) hw (λ w hw=>hw.k1) λ w hw=>?_;refine Zb.mk rfl ⟨sg,At.own Ze (by exact ⟨rfl,trivial⟩),?_⟩;refine hall5.ix Ze k rfl (by simpa using hk') ?_;rw [en];refine Zd hw λ b2 w hw=>⟨hw.k1,?_⟩;have hw:Sat R5 (Zb8 sg sgs::pts b2 (.cells [Value.int .i64 ((n:Nat):Int)].toArray 3 (0,0))::pts p (Zp d lim base1 s sg sh brk)::ZL s ds::Zaf sh sgs::Zy d st::Hs) w:=hw.arr;obtain ⟨sgs2,hsgs2⟩:∃ x,x=sgs++[⟨n,nxt rd prev n,((rd n).length:Int)⟩]:=⟨_,rfl⟩;refine Zhi hw (by simp;omega) λ sg2 w hw=>?_;have hw:Sat R5 (pts p (Zp d lim base1 s sg sh brk)::Zb8 sg2 sgs2::ZL s ds::Zaf sh sgs::Zy d st::Hs) w:=by
  rw [hsgs2];unfold Zb8 Zk5;rw [List.map_append,List.map_append];simp only [List.map_cons,List.map_nil];exact hw.arr
 refine ⟨hw.k1,Zb.mk rfl ?_⟩;refine Zc hw (by kernel_rfl) rfl (by simp [Value.cells,Zn]) λ w hw=>?_;have hw:=hw.re (pts p (Zp d lim base1 s sg2 sh brk));refine Zb.mk rfl ⟨sh,At.own (eqS hw) (by exact ⟨rfl,trivial⟩),Zd hw λ b3 w hw=>?_⟩;have hw:Sat R5 (Zaf sh sgs::pts b3 (.cells [Value.int .i64 (nxt rd prev n)].toArray 3 (0,0))::pts p (Zp d lim base1 s sg2 sh brk)::Zb8 sg2 sgs2::ZL s ds::Zy d st::Hs) w:=hw.arr;refine Zhi hw (by simp;omega) λ sh2 w hw=>?_;have hw:Sat R5 (pts p (Zp d lim base1 s sg2 sh brk)::ZL s ds::Zb8 sg2 sgs2::Zaf sh2 sgs2::Zy d st::Hs) w:=by
  rw [hsgs2] at hw ⊢;unfold Zaf;rw [List.map_append];simp only [List.map_cons,List.map_nil];exact hw.arr
 refine Zb.mk rfl ?_;refine Zc hw (by kernel_rfl) rfl (by simp [Value.cells,Zn]) λ w hw=>?_;have hw:=hw.re (pts p (Zp d lim base1 s sg2 sh2 brk));have hscn:0<ps.length:=by
  rcases Nat.eq_zero_or_pos ps.length with h0|h0
  ·exact absurd (noscan h0) hx0
  ·exact h0
 have hb0:=hsb n _ (List.getElem_mem (h:=(by omega:0<(scan (rd n)).length)));obtain ⟨_,hsl0⟩:=hpj 0 hscn;refine hl.ixS (eqS hw) 0 rfl (by simpa using hscn) ?_;have en0:(ps.map λ p:Sl × List Int=>p.1)[0]'(by simpa using hscn)=ps[0].1:=by simp
 rw [en0];refine (Zhb hb0.2 (hsl0.ro (by rw [List.length_map];omega)) hw).use ?_;clear hw;rintro _ w (⟨h,_⟩|⟨_,te,rfl,hw⟩)
 ·omega
 have hte0:te.len=8 + ((scan (rd n))[0]'(by omega)).length:=by have:=Own.len hw;rw [List.length_map,ZK] at this;exact this
 have hw:=hw.drop;have hor:prev=none\/prev.map (· + 1)=some n:=by
  apply Classical.byContradiction;intro hno;refine hx0 ?_;unfold nxt ZR;split
  ·rfl
  ·rw [if_neg hno]
 have hhead:(scan (rd n))[0]'(by omega)=hdB n (nxt rd prev n):=by
  have e:=Zdr (prev:=prev) (n:=n) (l:=scan (rd n)) (by omega) hor;have e2:nxt rd prev n=ZeT ((scan (rd n))[0]'(by omega)) n:=e;rw [e2];exact Zjz hb0.2 (by rw [<-e2];exact hx0)
 have hte:te.len=(ZH n (nxt rd prev n)).length:=by rw [hte0,hhead];unfold ZH;rw [ZK]
 have htail:(scan (rd n)).tail=(scan (rd n)).drop 1:=by rw [List.drop_one]
 refine ⟨te,0,rfl,?_⟩;rw [hte];obtain ⟨bodies,hbod⟩:∃ x,x=(scan (rd n)).drop 1:=⟨_,rfl⟩;have hbl2:bodies.length=ps.length - 1:=by rw [hbod,List.length_drop];omega
 have hl0:=ZK (hdB n (nxt rd prev n));have hl0':=ZdV (n:=n) (next:=nxt rd prev n) (by omega) hnx.2;have hsum:((ZH n (nxt rd prev n)).length:Int) + Zo bodies=Zo (scan (rd n)):=by
  have:=Zft (l:=scan (rd n)) (by omega);rw [htail,<-hbod] at this;omega
 refine ⟨λ dn i w=>∃ (j:Nat) (gj:Lg) (R6:Cx) (s:Sl) (ds':List DE4),i=((j + 1:Nat):Int)/\j<=bodies.length/\R5.Ext R6/\DsR R6 ds'/\gj=⟨gj.base,erE ds'⟩/\(0<=gj.base/\gj.base<=1099511627776)/\ds'.length<=ds.length + j/\(0<=dn/\dn<=1000 + 70000 * j)/\dn + Zo (bodies.drop j)=Zo (scan (rd n))/\
   Zfu g1 (ZH n (nxt rd prev n)).length bodies=Zfu gj dn (bodies.drop j)/\Sat R6 (US p d lim gj.base s sg2 sh2 brk ds' sgs2 st Hs) w,λ _ i _=>bodies.length + 1 - i.toNat,⟨0,g1,R5,s,ds,rfl,by omega,.refl,hd,by rw [eg1],by rw [eg1];exact hb1,by omega,⟨by omega,by unfold ZH;omega⟩,by simpa using hsum,rfl,by rw [eg1];exact hw⟩,?_⟩
 clear hw;rintro _ dn _ w ⟨j,gj,R6,s,ds',rfl,hj,e6,hd6,hgj,hgjb,hdl6,hdn,hdsum,hrun,hw⟩;have h8:8 * bodies.length<=16777216:=by omega
 have hd40:ds'.length<=100000000000:=by omega
 refine Br.d (λ h2=>?_) (λ h2=>?_)
 ·have hj':j<bodies.length:=by omega
  have hdj:bodies.drop j=bodies[j]::bodies.drop (j + 1):=ZaQ hj';have hbj:bodies[j]=(scan (rd n))[j + 1]'(by omega):=by simp only [hbod,List.getElem_drop];congr 1;omega
  have hl6:=e6.slR hl;have en2:(ps.map λ p:Sl × List Int=>p.1)[j + 1]'(by simp;omega)=(ps[j + 1]'(by omega)).1:=by simp
  obtain ⟨_,hbo⟩:=hpj (j + 1) (by omega);rw [<-hbj] at hbo;have hbo6:=e6.slR hbo;have hbb:=hsb n bodies[j] (by rw [hbj];exact List.getElem_mem _);have hro:=hbo6.ro (by rw [List.length_map];omega);refine Zv hw λ w hw=>Zb.mk rfl ?_;refine hl6.ixS Ze (j + 1) rfl (by simp;omega) ?_;rw [en2];have hw:Sat R6 (pts p (Zp d lim gj.base s sg2 sh2 brk)::ZL s ds'::Zb8 sg2 sgs2::Zaf sh2 sgs2::Zy d st::Hs) w:=hw;refine (Zki hgjb.1 hgjb.2 hd40 hd6 hbb.2 (by omega) hbo6 hw).use ?_;clear hw;rintro _ w ⟨R7,base7,s7,ds7,e7,hd7,rfl,hg7,hw⟩;rw [<-hgj] at hg7 ⊢;refine ⟨_,rfl,?_⟩;have hrj:Zfu gj dn (bodies.drop j)=match ZV gj bodies[j] with|none=>(gj,some dn)|some g'=>Zfu g' (dn + (8 + bodies[j].length)) (bodies.drop (j + 1)):=by rw [hdj];rfl
  cases hch:ZV gj bodies[j] with
  |none=>
   rw [hch] at hg7 hrj;simp only [Option.getD_none] at hg7;refine Br.t rfl ?_;have hbase7:base7=gj.base:=by rw [hgj] at hg7;exact (Lg.mk.inj hg7).1.symm
   have hlen7:ds7.length=ds'.length:=by
    have:erE ds'=erE ds7:=by rw [hgj] at hg7;exact (Lg.mk.inj hg7).2
    have:=congrArg List.length this;simpa using this.symm
   refine fin (am:=⟨n,nxt rd prev n,dn⟩) (e6.trans e7) hd7 ?_ rfl rfl (by omega) (by omega) (by omega) (by rw [hsgs2];simp;omega) hw;rw [hL,ZbB h1 hg1.symm (g2:=⟨base7,erE ds7⟩) (d:=dn) (by rw [htail,<-hbod,hrun,hrj,hg7]),hsgs2]
  |some g'=>
   rw [hch] at hg7 hrj;simp only [Option.getD_some] at hg7;refine Br.f rfl ?_;have hl7:=e7.slR hl6;refine hl7.ixS (eqS hw) (j + 1) rfl (by simp;omega) ?_;rw [en2];refine (Zhb hbb.2 (e7.ro hro) hw).use ?_;rintro _ w (⟨h,_⟩|⟨_,t2,rfl,hw⟩)
   ·omega
   have ht2:t2.len=8 + bodies[j].length:=by have:=Own.len hw;rw [List.length_map,ZK] at this;exact this
   have hw:=hw.drop;have wj:IntKind.i64.wrap (((j + 1:Nat):Int) + 1)=((j + 1 + 1:Nat):Int):=by rw [Zg (by omega) (by omega)];omega
   have wd:IntKind.i64.wrap (dn + (t2.len:Int))=dn + (8 + bodies[j].length):=by rw [Zg (by omega) (by omega),ht2];omega
   have hlen7:ds7.length<=ds'.length + 1/\0<=base7/\base7<=1099511627776:=by
    have hb:=ZfP hch (by rw [hgj];exact ⟨hgjb.1,hgjb.2⟩) hbb.2;rw [hg7] at hb;rw [hgj] at hb;simp only [List.length_map] at hb;exact ⟨hb.2.2,hb.1,hb.2.1⟩
   rw [wj];have hsc:Zo (bodies.drop j)=8 + bodies[j].length + Zo (bodies.drop (j + 1)):=by rw [hdj,ZJ]
   refine ⟨t2,_,rfl,?_⟩;rw [wd];refine ⟨⟨j + 1,g',R7,s7,ds7,rfl,by omega,e6.trans e7,hd7,?_,?_,by omega,by omega,by omega,?_,?_⟩,by dsimp only;omega⟩
   ·rw [hg7]
   ·rw [hg7];exact hlen7.2
   ·rw [hrun,hrj]
   ·rw [hg7];exact hw
 ·have hjl:j=bodies.length:=by omega
  rw [hjl,List.drop_length] at hrun hdsum;have hdn2:dn=Zo (scan (rd n)):=by simpa [Zo] using hdsum
  have hrun2:Zfu g1 (ZH n (nxt rd prev n)).length (scan (rd n)).tail=(gj,none):=by rw [htail,<-hbod,hrun];rfl
  refine Br.d (λ h3=>?_) (λ h3=>?_)
  ·refine fin (am:=⟨n,nxt rd prev n,Zo (scan (rd n))⟩) e6 hd6 ?_ rfl hdn2.symm hgjb.1 hgjb.2 hd40 (by rw [hsgs2];simp;omega) hw
   rw [hL,Zci h1 hg1.symm hrun2 (by omega),hsgs2,<-hgj]
  ·have h3':Zo (scan (rd n))=(rd n).length:=by omega
   refine ⟨⟨k + 1,gj,sgs2,R6,s,ds',sg2,sh2,rfl,by omega,(e3.trans e35).trans e6,hd6,hgj,hgjb,by omega,λ h=>by omega,by rw [hsgs2];simp;omega,?_,hw⟩,by dsimp only;omega⟩;rw [hL,ZbA h1 hg1.symm hrun2 h3',<-hsgs2,if_neg (by omega),Nat.add_sub_cancel,List.getElem?_eq_getElem hk',<-hn]
end
section
open Go Go.VC Tryz
variable {R R':Cx} {Hs Rest:List HP} {w:World}
theorem Rel.len {a b:DS} (h:Rel a b):a.fs.length=b.fs.length:=h.perm.length_eq
theorem Rel.by_ {a b:DS} (h:Rel a b) (hb:Zb9 a.fs):Zb9 b.fs:=λ e he=>hb e (h.perm.mem_iff.2 he)
theorem Rel.namesR {a b:DS} (h:Rel a b):Zr b.fs=b.fs.map (·.1):=Zhq (List.Perm.refl _) h.srt
theorem Rel.load {a b:DS} (h:Rel a b):Zj b=Zj a:=by
 unfold Zj;rw [h.names,h.namesR]
 congr 1
 funext n
 rw [h.read]
theorem ZsR {l:List Int} (hl:l.length=8) (hd:l.all (λ c=>decide (48<=c) && decide (c<=57))=true):l=(ZjR (Zfk l).toNat).map λ d:Nat=>48 + (d:Int):=by
 match l,hl with
 |[a,b,c,d,e,f,g,h],_=>
  simp only [List.all_cons,List.all_nil,Bool.and_true,Bool.and_eq_true,decide_eq_true_eq] at hd;obtain ⟨ha,hb,hc,hd',he,hf,hg,hh⟩:=hd;have hv:Zfk [a,b,c,d,e,f,g,h]=(a - 48) * 10000000 + (b - 48) * 1000000 + (c - 48) * 100000 + (d - 48) * 10000 + (e - 48) * 1000 + (f - 48) * 100 + (g - 48) * 10 + (h - 48):=by
   unfold Zfk;simp only [List.foldl_cons,List.foldl_nil];omega
  generalize Zfk [a,b,c,d,e,f,g,h]=v at hv;unfold ZjR;simp only [List.map_cons,List.map_nil,List.cons.injEq,and_true];refine ⟨?_,?_,?_,?_,?_,?_,?_,?_⟩<;>omega
theorem ZfY {k:ByteArray} (h:0<Zeb (bytesL k)):k=Za (Zeb (bytesL k)):=by
 refine ZiX ?_;rw [ZdR];unfold Zeb at h ⊢;split at h
 ·rename_i hc
  rw [if_pos hc];obtain ⟨h1,h2,h3⟩:=hc;have:=ZsR (l:=(bytesL k).drop 4) (by rw [List.length_drop];omega) h3;rw [<-this,<-h1,List.take_append_drop]
 ·omega
theorem Zkv:∀ {l:List ByteArray},l.Pairwise (λ x y=>x.data.toList<y.data.toList)->(ZN l).Pairwise (·<·)
 |[],_=>.nil
 |k::l,h=>by
  rw [List.pairwise_cons] at h;have ih:=Zkv h.2;have e:ZN (k::l)=if 0<Zeb (bytesL k) then Zeb (bytesL k)::ZN l else ZN l:=by
   unfold ZN;rw [List.map_cons,List.filter_cons];simp only [decide_eq_true_eq]
  rw [e];split
  ·rename_i h0
   refine List.pairwise_cons.2 ⟨λ m hm=>?_,ih⟩;unfold ZN at hm;rw [List.mem_filter] at hm;obtain ⟨h1,h2⟩:=hm;obtain ⟨k2,hk2,rfl⟩:=List.mem_map.1 h1;have h2:=of_decide_eq_true h2;have hlt:=h.1 k2 hk2;rw [ZfY h0,ZfY h2] at hlt;rcases Nat.lt_trichotomy (Zeb (bytesL k)) (Zeb (bytesL k2)) with h3|h3|h3
   ·exact h3
   ·rw [h3] at hlt;exact absurd hlt (List.lt_irrefl _)
   ·exact absurd (ZkE hlt (ZrW (by have:=ZdP (l:=bytesL k);omega) h3)) (List.lt_irrefl _)
  ·exact ih
theorem Zgb {rd:Nat->List Int}:∀ {nums:List Nat} {prev:Option Nat} {g:Lg} {segs:List Sg},nums.Pairwise (·<·)->(∀ s∈segs,∀ n∈nums,s.num<n)->∀ s,(Zaq rd prev g segs nums).amiss=some s->
  ((Zaq rd prev g segs nums).segs.any (λ x=>decide (x.num=s.num))=false↔s.size=0)/\(s.next=0->s.size=0):=λ {nums}=>by
 induction nums with
 |nil=>intro prev g segs _ _ s h;unfold Zaq at h;cases h
 |cons n rest ih=>
  intro prev g segs hp hs s h;rw [List.pairwise_cons] at hp;by_cases h1:nxt rd prev n=0\/(prev≠none/\nxt rd prev n≠g.last + 1)
  ·rw [ZaO h1] at h ⊢
   cases h;refine ⟨⟨λ _=>rfl,λ _=>?_⟩,λ _=>rfl⟩;rw [List.any_eq_false];intro x hx;have:=hs x hx n (List.mem_cons_self ..);simp;omega
  ·have hx0:nxt rd prev n≠0:=λ h=>h1 (.inl h)
   have hpos:0<(ZH n (nxt rd prev n)).length:=by unfold ZH;rw [ZK];omega
   rcases hr:Zfu (if prev=none then (⟨nxt rd prev n - 1,g.l⟩:Lg) else g) (ZH n (nxt rd prev n)).length (scan (rd n)).tail with ⟨g2,o⟩
   cases o with
   |some d=>
    rw [ZbB h1 rfl hr] at h ⊢;cases h;obtain ⟨a,x,c,_,_,hd⟩:=Zji hr;refine ⟨⟨λ h=>?_,λ h=>by simp only at h;omega⟩,λ h=>absurd h hx0⟩;simp at h
   |none=>
    by_cases he:Zo (scan (rd n))=(rd n).length
    ·rw [ZbA h1 rfl hr he] at h ⊢
     refine ih hp.2 (λ x hx m hm=>?_) s h;rcases List.mem_append.1 hx with hx|hx
     ·exact hs x hx m (List.mem_cons_of_mem _ hm)
     ·rw [List.mem_singleton.1 hx];exact hp.1 m hm
    ·rw [Zci h1 rfl hr he] at h ⊢
     cases h;have hsc:0<Zo (scan (rd n)):=by
      cases hs:scan (rd n) with
      |nil=>
       exfalso;refine hx0 ?_;unfold nxt ZR;rw [hs]
      |cons a l=>rw [ZJ];omega
     refine ⟨⟨λ h=>?_,λ h=>by simp only at h;omega⟩,λ h=>absurd h hx0⟩;simp at h
theorem Rel.rise {a b:DS} (h:Rel a b):(ZN (Zr a.fs)).Pairwise (·<·):=by
 rw [h.names];exact Zkv (List.pairwise_map.2 h.srt)
def Zes (st:DS) (n:Nat) (z:Int):DS × Int:=
 if z=0 then Zi st (Za n) else if (ZC st (Za n)).2≠0 then (st,(ZC st (Za n)).2)
 else Z3 (Z3 (Zk st Zh ((ZC st (Za n)).1.take z.toNat)) λ st=>ZA st Zh) λ st=>ZY st Zh (Za n)
theorem ZgL {st b st':DS} {s:Sg} (r:Rel st b) (h:(Zj st).amiss=some s):ZaS st' (Zj st).segs s=Zes st' s.num s.size:=by
 obtain ⟨h1,h2⟩:=Zgb (rd:=λ n=>(ZC st (Za n)).1) (prev:=none) (g:=⟨0,[]⟩) (segs:=[]) r.rise (λ _ h=>by cases h) s h;unfold ZaS Zes;have e:(s.next=0\/ZcN (Zj st).segs s.num=false)↔s.size=0:=⟨λ h=>h.elim h2 h1.1,λ h=>.inr (h1.2 h)⟩;by_cases hz:s.size=0
 ·rw [if_pos (e.2 hz),if_pos hz]
 ·rw [if_neg (λ h=>hz (e.1 h)),if_neg hz]
end
section
open Go Go.VC Tryz
variable {R R':Cx} {Hs Rest:List HP} {w:World} {p d:Nat} {lim base:Int} {s sg sh:Sl} {brk:Bool} {ds:List DE4} {segs:List Sg} {a b:DS}
theorem ZaI (n:Nat):(Za n).size<=9223372036854775807:=by rw [Zc0];omega
theorem Zfs:Zh.size<=9223372036854775807:=by decide
set_option maxHeartbeats 1000000 in
theorem Zin {n:Nat} {next:Int} (r:Rel a b) (hf:a.fs.length<=90000) (hn:n<=99999999) (h0:0<=next) (h1:next<=1099511627777) (hl:segs.length<=500000) (hw:Sat R (US p d lim base s sg sh brk ds segs b Hs) w):
  Zq prog 96 #[.pointer (some ⟨p,0,none⟩),.int .i64 n,.int .i64 next] w λ v w'=>∃ (e:Int) (b':DS) (sg' sh':Sl),v=.int .i64 e/\e=(Zae a n next).2/\Rel (Zae a n next).1 b'/\
   Sat R (US p d lim base s sg' sh' brk ds (ZcU segs n next e) b' Hs) w':=by
 apply ZuS
 suffices H:∀ K:Value->World->Prop,(∀ (e:Int) (b':DS) (sg' sh':Sl) w',e=(Zae a n next).2->Rel (Zae a n next).1 b'->Sat R (US p d lim base s sg' sh' brk ds (ZcU segs n next e) b' Hs) w'->K (.int .i64 e) w')->B96 (some ⟨p,0,none⟩) n next K w from H _ λ e b' sg' sh' w' h1 h2 h3=>⟨e,b',sg',sh',rfl,h1,h2,h3⟩
 intro K hK;have hbl:(ZH n next).length<=21:=by unfold ZH;rw [ZK];have:=ZdV hn h1;omega
 have hlb:=r.len;obtain ⟨ra,ea⟩:=r.append (Za n) (ZH n next);have hla:=Zb7 a (Za n) (ZH n next);have hlab:=ra.len;obtain ⟨rs,es⟩:=ra.sync (Za n);have bad:∀ {e:Int},¬ e=0->ZcU segs n next e=segs:=λ h=>if_neg h;refine Zs (Sat R [pts p (Zp d lim base s sg sh brk),VC.tru]) hw (λ w hw=>hw.k1) λ w hw=>Zb.mk rfl ⟨_,At.own Ze (by exact ⟨rfl,trivial⟩),?_⟩;refine ⟨?_,?_⟩
 focus
  refine (ZaX (by omega) hw).use ?_;clear hw;rintro _ w ⟨rfl,hw⟩;refine ⟨_,rfl,hw.k1,Zd hw λ b3 w hw=>⟨hw.k1,?_⟩⟩;obtain ⟨hc3,hw⟩:=Sat.lend.1 hw;refine (Zby (t:=none) (sd:=⟨none,0,0⟩) (xs:=[0,n,next]) (sl:=⟨some ⟨b3,0,none⟩,3,3⟩) (λ x hx=>by simp at hx;omega) (by simp) (λ d h=>by cases h) (Zdo (by simp) rfl hc3) hw).use ?_;clear hw;rintro _ w ⟨te,rfl,hw⟩;have hw:=(Sat.lend.2 ⟨hc3,hw⟩).drop;refine ⟨te,rfl,hw.k1,?_⟩
 rotate_left 1
 focus
  refine Zd hw λ b3 w hw=>⟨hw.k1,?_⟩;refine (ZaX (by omega) hw).use ?_;clear hw;rintro _ w ⟨rfl,hw⟩;refine ⟨_,rfl,hw.k1,?_⟩;obtain ⟨hc3,hw⟩:=Sat.lend.1 hw;refine (Zby (t:=none) (sd:=⟨none,0,0⟩) (xs:=[0,n,next]) (sl:=⟨some ⟨b3,0,none⟩,3,3⟩) (λ x hx=>by simp at hx;omega) (by simp) (λ d h=>by cases h) (Zdo (by simp) rfl hc3) hw).use ?_;clear hw;rintro _ w ⟨te,rfl,hw⟩;have hw:=(Sat.lend.2 ⟨hc3,hw⟩).drop;refine ⟨te,rfl,hw.k1,?_⟩
 all_goals
  rw [ZlX] at hw;obtain ⟨R1,hr1,_,hw,back⟩:=Own.lend hw (by rw [List.length_map];omega);have hw:Sat R1 (Zy d b::pts p (Zp d lim base s sg sh brk)::ZL s ds::Zb8 sg segs::Zaf sh segs::Hs) w:=hw.arr;refine (ZbD r.invR (by omega) (ZaI n) hr1 (by omega) hw).use ?_;clear hw;rintro _ w ⟨rfl,hw⟩;have hw:=(back hw).drop;rw [<-ea];refine ⟨_,rfl,Br.ne (λ h=>hK _ (ZW b (Za n) (ZH n next)).1 sg sh _ ?_ ?_ ?_) (λ h=>?_)⟩
  ·unfold Zae;rw [Zx h]
  ·unfold Zae;rw [Zx h];exact ra
  ·rw [bad h];exact hw.arr
  have hw:Sat R (pts p (Zp d lim base s sg sh brk)::ZL s ds::Zb8 sg segs::Zaf sh segs::Zy d (ZW b (Za n) (ZH n next)).1::Hs) w:=hw.arr;refine Zs (Sat R [pts p (Zp d lim base s sg sh brk),VC.tru]) hw (λ w hw=>hw.k1) λ w hw=>Zb.mk rfl ⟨_,At.own Ze (by exact ⟨rfl,trivial⟩),?_⟩;refine (ZaX (by omega) hw).use ?_;clear hw;rintro _ w ⟨rfl,hw⟩;refine ⟨_,rfl,hw.k1,?_⟩;have hw:Sat R (Zy d (ZW b (Za n) (ZH n next)).1::pts p (Zp d lim base s sg sh brk)::ZL s ds::Zb8 sg segs::Zaf sh segs::Hs) w:=hw.arr;refine (Zdm ra.invR (by omega) (ZaI n) hw).use ?_;clear hw;rintro _ w ⟨rfl,hw⟩;rw [<-es];refine ⟨_,rfl,Br.ne (λ h2=>hK _ (ZA (ZW b (Za n) (ZH n next)).1 (Za n)).1 sg sh _ ?_ ?_ ?_) (λ h2=>?_)⟩
  ·unfold Zae;rw [ZB h]
  ·unfold Zae;rw [ZB h];exact rs
  ·rw [bad h2];exact hw.arr
  have hw:Sat R (pts p (Zp d lim base s sg sh brk)::ZL s ds::Zb8 sg segs::Zaf sh segs::Zy d (ZA (ZW b (Za n) (ZH n next)).1 (Za n)).1::Hs) w:=hw.arr;refine Zb.mk rfl ⟨sg,At.own (eqS hw) (by exact ⟨rfl,trivial⟩),Zd hw λ b3 w hw=>?_⟩;have hw:Sat R (Zb8 sg segs::pts b3 (.cells [Value.int .i64 ((n:Nat):Int)].toArray 3 (0,0))::pts p (Zp d lim base s sg sh brk)::ZL s ds::Zaf sh segs::Zy d (ZA (ZW b (Za n) (ZH n next)).1 (Za n)).1::Hs) w:=hw.arr;refine Zhi hw (by simp;omega) λ sg2 w hw=>?_;have hw:Sat R (pts p (Zp d lim base s sg sh brk)::Zb8 sg2 (segs++[⟨n,next,(ZH n next).length⟩])::ZL s ds::Zaf sh segs::Zy d (ZA (ZW b (Za n) (ZH n next)).1 (Za n)).1::Hs) w:=by
   unfold Zb8 Zk5;rw [List.map_append,List.map_append];simp only [List.map_cons,List.map_nil];exact hw.arr
  refine Zb.mk rfl ?_;refine Zc hw (by kernel_rfl) rfl (by simp [Value.cells,Zn]) λ w hw=>?_;have hw:=hw.re (pts p (Zp d lim base s sg2 sh brk));refine Zb.mk rfl ⟨sh,At.own (eqS hw) (by exact ⟨rfl,trivial⟩),Zd hw λ b4 w hw=>?_⟩;have hw:Sat R (Zaf sh segs::pts b4 (.cells [Value.int .i64 next].toArray 3 (0,0))::pts p (Zp d lim base s sg2 sh brk)::Zb8 sg2 (segs++[⟨n,next,(ZH n next).length⟩])::ZL s ds::Zy d (ZA (ZW b (Za n) (ZH n next)).1 (Za n)).1::Hs) w:=hw.arr;refine Zhi hw (by simp;omega) λ sh2 w hw=>?_;have hw:Sat R (pts p (Zp d lim base s sg2 sh brk)::ZL s ds::Zb8 sg2 (segs++[⟨n,next,(ZH n next).length⟩])::Zaf sh2 (segs++[⟨n,next,(ZH n next).length⟩])::Zy d (ZA (ZW b (Za n) (ZH n next)).1 (Za n)).1::Hs) w:=by
   unfold Zaf;rw [List.map_append];simp only [List.map_cons,List.map_nil];exact hw.arr
  refine Zb.mk rfl ?_;refine Zc hw (by kernel_rfl) rfl (by simp [Value.cells,Zn]) λ w hw=>?_;have hw:=hw.re (pts p (Zp d lim base s sg2 sh2 brk));exact hK 0 _ sg2 sh2 _ (by unfold Zae;rw [ZB h];exact h2.symm) (by unfold Zae;rw [ZB h];exact rs) hw
theorem ZnD {n:Nat} {z:Int} (r:Rel a b) (hf:a.fs.length<=90000) (hn:n<=99999999) (h0:0<=z) (hz:(ZC a (Za n)).2=0->z<=(ZC a (Za n)).1.length) (hw:Sat R (pts p (Zp d lim base s sg sh brk)::Zy d b::Hs) w):
  Zq prog 94 #[.pointer (some ⟨p,0,none⟩),.int .i64 n,.int .i64 z] w λ v w'=>∃ b':DS,v=.int .i64 (Zes a n z).2/\Rel (Zes a n z).1 b'/\Sat R (pts p (Zp d lim base s sg sh brk)::Zy d b'::Hs) w':=by
 apply ZuU;have hlb:=r.len;refine Br.e (λ hz0=>?_) (λ hz0=>?_)
 ·refine Zs (Sat R [pts p (Zp d lim base s sg sh brk),VC.tru]) hw (λ w hw=>hw.k1) λ w hw=>Zb.mk rfl ⟨_,At.own Ze (by exact ⟨rfl,trivial⟩),?_⟩
  refine (ZaX (by omega) hw).use ?_;clear hw;rintro _ w ⟨rfl,hw⟩;refine ⟨_,rfl,hw.k1,?_⟩;obtain ⟨ru,eu⟩:=r.unlink (Za n);refine (ZcY r.invR (by omega) (ZaI n) hw.swap).use ?_;clear hw;rintro _ w ⟨rfl,hw⟩;have e:Zes a n z=Zi a (Za n):=if_pos hz0;rw [e,<-eu];exact ⟨_,rfl,_,rfl,ru,hw.swap⟩
 have hrd:=r.read (Za n);refine Zs (Sat R [pts p (Zp d lim base s sg sh brk),VC.tru]) hw (λ w hw=>hw.k1) λ w hw=>Zb.mk rfl ⟨_,At.own Ze (by exact ⟨rfl,trivial⟩),?_⟩;refine (ZaX (by omega) hw).use ?_;clear hw;rintro _ w ⟨rfl,hw⟩;refine ⟨_,rfl,hw.k1,?_⟩;refine (ZeJ r.invR (by omega) (ZaI n) hw.swap).use ?_;clear hw;rintro _ w ⟨t,rfl,hw⟩;rw [<-hrd] at hw ⊢;refine ⟨t,_,rfl,Br.ne (λ h=>?_) (λ h=>?_)⟩
 ·have e:Zes a n z=(a,(ZC a (Za n)).2):=by unfold Zes;rw [if_neg hz0,if_pos h]
  rw [e];exact ⟨b,rfl,r,hw.drop.swap⟩
 have hzl:=hz h;have hrl:=ZgF r.inv (Za n);obtain ⟨bb,hbb⟩:∃ bb,bb=(ZC a (Za n)).1.take z.toNat:=⟨_,rfl⟩;have e:Zes a n z=Z3 (Z3 (Zk a Zh bb) λ st=>ZA st Zh) λ st=>ZY st Zh (Za n):=by unfold Zes;rw [if_neg hz0,if_neg (by rw [h];simp),<-hbb]
 rw [e];have hbbl:bb.length<=16777216:=by rw [hbb,List.length_take];omega
 obtain ⟨ra,ea⟩:=r.append Zh bb;have hla:=Zb7 a Zh bb;have hlab:=ra.len;obtain ⟨rs,es⟩:=ra.sync Zh;have hls:=Zcu (Zk a Zh bb).1 Zh;have hlsb:=rs.len;obtain ⟨rr,er⟩:=rs.rename Zh (Za n);have htl:t.len=(ZC a (Za n)).1.length/\t.len<=t.cap:=by
  refine ⟨by have:=Own.len hw;simpa using this,?_⟩;rcases Own.cases hw with ⟨rfl,_,_⟩|⟨_,rest,_,rfl,_,_⟩
  ·exact Nat.le_refl _
  ·simp
 obtain ⟨R1,e1,ht,hw⟩:=Own.leak hw;have ht2:SlR R1.m ⟨t.a,z.toNat,t.cap⟩ (b8 bb):=by
  have:=ht.take (k:=z.toNat) (by simp;omega);rw [hbb];simpa only [b8,List.map_take] using this
 have hw:=hw.swap;refine Zs (Sat R1 [pts p (Zp d lim base s sg sh brk),VC.tru]) hw (λ w hw=>hw.k1) λ w hw=>Zb.mk rfl ⟨_,At.own Ze (by exact ⟨rfl,trivial⟩),by omega,by omega,?_⟩;refine (ZbD r.invR (by omega) Zfs (ht2.ro (by rw [List.length_map];omega)) (by omega) hw.swap).use ?_;clear hw;rintro _ w ⟨rfl,hw⟩;rw [<-ea];have hw:=(e1.back hw).swap;refine ⟨_,rfl,Br.ne (λ h2=>⟨_,by rw [Zx (x:=Zk a Zh bb) h2,Zx (x:=Zk a Zh bb) h2],by rw [Zx (x:=Zk a Zh bb) h2,Zx (x:=Zk a Zh bb) h2];exact ra,hw⟩) (λ h2=>?_)⟩;rw [ZB (x:=Zk a Zh bb) h2];refine Zb.mk rfl ⟨_,At.own (eqS hw) (by exact ⟨rfl,trivial⟩),?_⟩;refine (Zdm ra.invR (by omega) Zfs hw.swap).use ?_;clear hw;rintro _ w ⟨rfl,hw⟩;rw [<-es];have hw:=hw.swap;refine ⟨_,rfl,Br.ne (λ h3=>⟨_,by rw [Zx h3],by rw [Zx h3];exact rs,hw⟩) (λ h3=>?_)⟩;rw [ZB h3];refine Zs (Sat R [pts p (Zp d lim base s sg sh brk),VC.tru]) hw (λ w hw=>hw.k1) λ w hw=>Zb.mk rfl ⟨_,At.own Ze (by exact ⟨rfl,trivial⟩),?_⟩;refine (ZaX (by omega) hw).use ?_;clear hw;rintro _ w ⟨rfl,hw⟩;refine ⟨_,rfl,hw.k1,?_⟩;refine (Zkd rs.invR (by omega) Zfs (ZaI n) hw.swap).use ?_;clear hw;rintro _ w ⟨rfl,hw⟩;rw [<-er];exact ⟨_,rfl,_,rfl,rr,hw.swap⟩
theorem Zo8 {k:ByteArray} (r:Rel a b) (hf:a.fs.length<=90000) (hw:Sat R (pts p (Zp d lim base s sg sh brk)::Zy d b::Hs) w):
  Zq prog 91 #[.pointer (some ⟨p,0,none⟩),.string k] w λ v w'=>v=.bool (decide (k∈Zr a.fs))/\Sat R (pts p (Zp d lim base s sg sh brk)::Zy d b::Hs) w':=by
 apply ZuX;have hlb:=r.len;refine Zb.mk rfl ⟨_,At.own (eqS hw) (by exact ⟨rfl,trivial⟩),?_⟩;refine (Zfa (by omega) hw.swap).use ?_;clear hw;rintro _ w ⟨t,rfl,hw⟩;rw [<-r.names] at hw;refine ⟨t,rfl,?_⟩;obtain ⟨R1,e1,ht,hw⟩:=Own.leak hw;have hnl:=Za7 a.fs;have htl:t.len=(Zr a.fs).length:=by have:=ht.len;simpa using this
 have hro:=ht.ro (by rw [List.length_map];omega);refine ⟨λ i w=>∃ j:Nat,i=j/\j<=(Zr a.fs).length/\k ∉ (Zr a.fs).take j/\Sat R1 (Zy d b::pts p (Zp d lim base s sg sh brk)::Hs) w,λ i _=>((Zr a.fs).length - i).toNat,⟨0,rfl,Nat.zero_le _,by simp,hw⟩,?_⟩;clear hw;rintro _ _ w ⟨j,rfl,hj,hno,hw⟩;refine Br.d (λ h=>?_) (λ h=>?_)
 ·have hjl:j<(Zr a.fs).length:=by omega
  refine hro.idxStr (eqS hw) hjl ?_;refine Br.se (λ h2=>⟨by rw [decide_eq_true (by rw [<-h2];exact List.getElem_mem _)],(e1.back hw).swap⟩) (λ h2=>?_);rw [Zg (by omega) (by omega)];refine ⟨⟨j + 1,by omega,hjl,?_,hw⟩,by dsimp only;omega⟩;rw [<-List.take_append_getElem hjl,List.mem_append];rintro (h3|h3)
  ·exact hno h3
  ·exact h2 (List.mem_singleton.1 h3).symm
 ·have hjl:j=(Zr a.fs).length:=by omega
  rw [hjl,List.take_length] at hno;exact ⟨by rw [decide_eq_false hno],(e1.back hw).swap⟩
end
section
open Go Go.VC Tryz
variable {R R':Cx} {Hs Rest:List HP} {w:World} {p d:Nat} {lim base:Int} {s sg sh:Sl} {brk:Bool} {ds:List DE4} {segs:List Sg} {a b:DS}
theorem Zhm (k:ByteArray) (l:List ByteArray):ZN (k::l)=if 0<Zeb (bytesL k) then Zeb (bytesL k)::ZN l else ZN l:=by
 unfold ZN;rw [List.map_cons,List.filter_cons];simp only [decide_eq_true_eq]
theorem ZmL {k:ByteArray} (hk:Zeb (bytesL k)=0):∀ l:Fs,ZN ((Zaa k l).map (·.1))=ZN (l.map (·.1))
 |[]=>rfl
 |e::l=>by
  unfold Zaa;split
  ·rename_i h
   have he:k=e.1:=(MapKept.bytes_beq _ _).1 h;rw [List.map_cons,Zhm,<-he,hk,if_neg (by omega)]
  ·rw [List.map_cons,List.map_cons,Zhm,Zhm,ZmL hk l]
theorem Zfm {st:DS} {k:ByteArray} (h:(Zi st k).2=0):(Zi st k).1.fs=Zaa k st.fs:=by
 obtain ⟨h1,h2⟩:=Zc7 (st:=st) h;have e:Zi st k=ZX k (chg st (Zm k)).1:=h2;have hc:=(Zbp st (Zm k)).1;rw [e] at h ⊢;unfold ZX at h ⊢;split
 ·simp only;rw [hc]
 ·rename_i hs;rw [if_neg hs] at h;simp at h
theorem Rel.load_x0 (r:Rel a b) (h:(x0D a).2=0):Zj (x0D a).1=Zj a:=by
 unfold x0D at h ⊢;split
 ·rename_i hs
  rw [if_pos hs] at h;obtain ⟨ru,eu⟩:=r.unlink Zh;have hn:ZN (Zr (Zi a Zh).1.fs)=ZN (Zr a.fs):=by
   rw [ru.names,r.names,Zfm (by rw [<-eu];exact h),ZmL ZlD]
  unfold Zj;rw [hn]
  congr 1
  funext n
  rw [(ZgW (ZO n) h).2]
 ·rfl
theorem Zsj (hb:Zb9 a.fs):Zb9 (x0D a).1.fs:=by
 unfold x0D;split
 ·exact ZdE hb _
 ·exact hb
theorem ZrQ (a:DS):(x0D a).1.fs.length<=a.fs.length:=by
 unfold x0D;split
 ·exact ZbW _ _
 ·exact Nat.le_refl _
theorem Zhv (st:DS):(∀ s,(Zj st).amiss=some s->1<=s.num/\s.num<100000000)/\∀ n∈(Zj st).behind,n<100000000:=by
 have hb:∀ n∈ZN (Zr st.fs),1<=n/\n<100000000:=λ n hn=>by
  unfold ZN at hn;rw [List.mem_filter] at hn;obtain ⟨h1,h2⟩:=hn;obtain ⟨k,_,rfl⟩:=List.mem_map.1 h1;exact ⟨by have:=of_decide_eq_true h2;omega,ZdP⟩
 obtain ⟨h1,h2⟩:=Zht (rd:=λ n=>(ZC st (Za n)).1) (nums:=ZN (Zr st.fs)) (prev:=none) (g:=⟨0,[]⟩) (segs:=[]);exact ⟨λ s hs=>hb _ (h1 s hs),λ n hn=>(hb n (h2 n hn)).2⟩
theorem ZpL (a:DS) (n:Nat) (z:Int):(Zes a n z).1.fs.length<=a.fs.length + 2:=by
 unfold Zes;split
 ·have:=ZbW a (Za n);omega
 split
 ·simp
 ·generalize (ZC a (Za n)).1.take z.toNat=bb
  have h1:=Zb7 a Zh bb;have h2:=Zcu (Zk a Zh bb).1 Zh;have h3:=Zir (ZA (Zk a Zh bb).1 Zh).1 Zh (Za n);by_cases hA:(Zk a Zh bb).2=0
  ·rw [ZB hA]
   by_cases hB:(ZA (Zk a Zh bb).1 Zh).2=0
   ·rw [ZB hB];omega
   ·rw [Zx hB];omega
  ·rw [Zx hA,Zx hA];omega
def oE (a:DS):Int:=if a.off then 5 else (recoverD a).2
def oD (a:DS):DS:=if a.off then a else (recoverD a).1
def Zsd (R:Cx) (Hs:List HP) (p d:Nat) (lim:Int) (a:DS) (v:Value) (w:World):Prop:=
 (∃ b',oE a≠0/\v=.int .i64 (oE a)/\Rel (oD a) b'/\Sat R (Zy d b'::Hs) w)\/
 (oE a=0/\v=.int .i64 0/\∃ R' s ds sg sh b',R.Ext R'/\DsR R' ds/\erE ds=(Zz a).g.l/\Rel (oD a) b'/\0<=(Zz a).g.base/\(Zz a).g.base<=1099511627776/\ds.length<=100000000000/\
  Sat R' (US p d lim (Zz a).g.base s sg sh false ds (Zz a).segs b' Hs) w)
theorem Zgn (segs:List Sg) (z:Int):(ZaZ segs z).map (·.num)=segs.map (·.num)/\(ZaZ segs z).map (·.next)=segs.map (·.next):=by
 unfold ZaZ;split
 ·rename_i s hs
  obtain ⟨hlt,rfl⟩:=List.getElem?_eq_some_iff.1 hs;constructor
  all_goals
   refine List.ext_getElem (by simp) λ i h1 h2=>?_;simp only [List.getElem_map,List.getElem_set];split
   ·rename_i h;subst h;rfl
   ·rfl
 ·exact ⟨rfl,rfl⟩
theorem ZlB (a:DS) (h:(Zj a).segs≠[]):(Zz a).segs.map (·.num)=(Zj a).segs.map (·.num)/\(Zz a).segs.map (·.next)=(Zj a).segs.map (·.next):=by
 unfold Zz;simp only;rw [if_neg h];split
 ·unfold Zc5
  split
  ·exact ⟨rfl,rfl⟩
  ·exact Zgn _ _
 ·exact ⟨rfl,rfl⟩
set_option maxHeartbeats 1000000 in
theorem ZnC (r:Rel a b) (hby:Zb9 a.fs) (hf:a.fs.length<=40000) (hw:Sat R (pts p (Zp d lim base s sg sh false)::Zy d b::Hs) w):
  Zq prog 42 #[.pointer (some ⟨p,0,none⟩)] w (Zsd R Hs p d lim a):=by
 apply ZvH
 suffices H:∀ K:Value->World->Prop,(∀ v w',Zsd R Hs p d lim a v w'->K v w')->B42 (some ⟨p,0,none⟩) K w from H _ λ _ _ h=>h
 intro K hK;obtain ⟨sx,E,hE,hw1⟩:=Sat.ref.1 hw.swap;have hoff:=r.off;have hw1:Sat R (pts d (ZcI b sx)::ZM 3 sx 112 (E.map Zcc)::Za4 E::pts p (Zp d lim base s sg sh false)::Hs) w:=hw1;refine Zb.mk rfl ⟨some ⟨d,0,none⟩,At.own (eqS hw) (by exact ⟨rfl,trivial⟩),Zb.mk rfl ⟨b.off,At.own (eqS hw1) (by exact ⟨rfl,trivial⟩),Br.mk (λ h=>?_) (λ h=>?_)⟩⟩
 ·have ho:a.off=true:=by rw [hoff];exact h
  have e5:oE a=5:=by unfold oE;rw [if_pos ho]
  have eD:oD a=a:=by unfold oD;rw [if_pos ho]
  rw [<-e5];exact hK _ _ (.inl ⟨b,by rw [e5];decide,rfl,by rw [eD];exact r,hw.drop⟩)
 clear hw1 hE;have ho:¬ a.off=true:=by rw [hoff,h];simp
 have eE:oE a=(recoverD a).2:=if_neg ho;have eD:oD a=(recoverD a).1:=if_neg ho;have no:∀ {a' b':DS} {e:Int} {w:World},¬ e=0->recoverD a=(a',e)->Rel a' b'->Sat R (Zy d b'::Hs) w->K (.int .i64 e) w:=λ {a' b' e w} he hr r' hw=>by
  have e1:oE a=e:=by rw [eE,hr]
  have e2:oD a=a':=by rw [eD,hr]
  rw [<-e1];exact hK _ _ (.inl ⟨b',by rw [e1];exact he,rfl,by rw [e2];exact r',hw⟩)
 refine (Zo8 r (by omega) hw).use ?_;clear hw;rintro _ w ⟨rfl,hw⟩;refine ⟨_,rfl,λ w=>∃ b1,(x0D a).2=0/\Rel (x0D a).1 b1/\Sat R (pts p (Zp d lim base s sg sh false)::Zy d b1::Hs) w,?_,?_⟩
 ·refine Br.d (λ hs=>?_) (λ hs=>?_)
  ·have ex:x0D a=Zi a Zh:=if_pos hs
   obtain ⟨ru,eu⟩:=r.unlink Zh;refine Zb.mk rfl ⟨_,At.own (eqS hw) (by exact ⟨rfl,trivial⟩),?_⟩;refine (ZcY r.invR (by have:=r.len;omega) Zfs hw.swap).use ?_;clear hw;rintro _ w ⟨rfl,hw⟩;rw [<-eu];refine ⟨_,rfl,Br.ne (λ he=>no (a':=(Zi a Zh).1) he ?_ ru (hw.cons λ _ h=>h.drop)) (λ he=>⟨_,by rw [ex];exact he,by rw [ex];exact ru,hw.swap⟩)⟩;rw [ZcG,ex,Zx (x:=Zi a Zh) he,Zx (x:=Zi a Zh) he,Zx (x:=Zi a Zh) he]
  ·have ex:x0D a=(a,0):=if_neg hs
   exact ⟨b,by rw [ex],by rw [ex];exact r,hw⟩
 clear hw;rintro _ w ⟨b1,hx0,r1,hw⟩;have hrec1:recoverD a=Z3 (Z3 (f1D (Zj a) (x0D a).1) λ st'=>ZF st' (Zj a).behind) (f3D (Zj a)):=by rw [ZcG,ZB hx0]
 have hl1:=ZrQ a;have hlb:=r1.len;have hld:Zj b1=Zj a:=by rw [r1.load,r.load_x0 hx0]
 have hlda:Zj (x0D a).1=Zj a:=r.load_x0 hx0;refine (Zhc r1.invR (r1.by_ (Zsj hby)) (by omega) r1.namesR hw).use ?_;clear hw;rw [show Znf R Hs p d lim false b1=Znf R Hs p d lim false b1 from rfl]
 rintro _ w ⟨R1,base1,s1,ds1,sg1,sh1,bh,e1,hd1,rfl,hg1,hbh,hb0,hb1,hdl,hsl,hw⟩;rw [hld] at hg1 hbh hsl hw ⊢;obtain ⟨a1,ha1⟩:∃ a1,a1=(x0D a).1:=⟨_,rfl⟩;rw [<-ha1] at hrec1 r1 hl1 hlb hlda;obtain ⟨hn1,hn2⟩:=Zhv a;refine ⟨_,_,bh,rfl,λ w=>∃ b2,(f1D (Zj a) a1).2=0/\Rel (f1D (Zj a) a1).1 b2/\(f1D (Zj a) a1).1.fs.length<=40010/\Sat R1 (US p d lim base1 s1 sg1 sh1 false ds1 (Zj a).segs b2 Hs) w,?_,?_⟩
 ·cases ham:(Zj a).amiss with
  |none=>
   have e0:amN (Zj a)=0:=by unfold amN;rw [ham]
   have ef:f1D (Zj a) a1=(a1,0):=by unfold f1D;rw [ham]
   rw [e0];exact Br.d (λ h=>by omega) (λ _=>⟨b1,by rw [ef],by rw [ef];exact r1,by rw [ef];show a1.fs.length<=_;omega,hw⟩)
  |some q=>
   have e0:amN (Zj a)=q.num:=by unfold amN;rw [ham]
   have e2:amZ (Zj a)=q.size:=by unfold amZ;rw [ham]
   have hq:=hn1 q ham;have ef:f1D (Zj a) a1=Zes a1 q.num q.size:=by
    have h1:f1D (Zj a) a1=ZaS a1 (Zj a).segs q:=by unfold f1D;rw [ham]
    rw [h1,<-hlda];exact ZgL r1 (by rw [hlda];exact ham)
   obtain ⟨hz0,hz1⟩:=(ZmQ (st:=a1) (by rw [ha1];exact Zsj hby)).1 q (by rw [hlda];exact ham)|>.2;rw [e0,e2];refine Br.d (λ _=>?_) (λ h=>absurd (show (q.num:Int)>0 by omega) h);have hw:Sat R1 (pts p (Zp d lim base1 s1 sg1 sh1 false)::Zy d b1::ZL s1 ds1::Zb8 sg1 (Zj a).segs::Zaf sh1 (Zj a).segs::Hs) w:=hw.arr;refine (ZnD r1 (by omega) (by omega) hz0 (λ _=>hz1) hw).use ?_;clear hw;rintro _ w ⟨b2,rfl,r2,hw⟩;rw [<-ef] at r2 ⊢;have hlen:(f1D (Zj a) a1).1.fs.length<=40010:=by rw [ef];have:=ZpL a1 q.num q.size;omega
   refine ⟨_,rfl,Br.ne (λ he=>no (a':=(f1D (Zj a) a1).1) he ?_ r2 (e1.back (hw.drop.cons λ _ h=>h.drop.drop.drop))) (λ he=>⟨b2,he,r2,hlen,hw.arr⟩)⟩;rw [hrec1,Zx (x:=f1D (Zj a) a1) he,Zx (x:=f1D (Zj a) a1) he]
 clear hw;rintro _ w ⟨b2,hf1,r2,hl2,hw⟩;obtain ⟨a2,ha2⟩:∃ a2,a2=(f1D (Zj a) a1).1:=⟨_,rfl⟩;rw [ZB hf1] at hrec1;rw [<-ha2] at hrec1 r2 hl2;have hbl:bh.len=(Zj a).behind.length:=by have:=hbh.len;simpa using this
 have hbn:(Zj a).behind.length<=40000:=by
  have:=ZiC (rd:=λ n=>(ZC a (Za n)).1) (nums:=ZN (Zr a.fs)) (prev:=none) (g:=⟨0,[]⟩) (segs:=[]);have h2:=Zdq (Zr a.fs);have h3:=Za7 a.fs;show (Zaq _ none ⟨0,[]⟩ [] _).behind.length<=_;omega
 refine ⟨λ i w=>∃ (j:Nat) (a3 b3:DS),i=j/\j<=(Zj a).behind.length/\ZF a2 (Zj a).behind=ZF a3 ((Zj a).behind.drop j)/\Rel a3 b3/\a3.fs.length<=40010/\Sat R1 (US p d lim base1 s1 sg1 sh1 false ds1 (Zj a).segs b3 Hs) w,λ i _=>((Zj a).behind.length - i).toNat,
  ⟨0,a2,b2,rfl,Nat.zero_le _,rfl,r2,hl2,hw⟩,?_⟩
 clear hw;rintro _ _ w ⟨j,a3,b3,rfl,hj,hun,r3,hl3,hw⟩;refine Br.d (λ h=>?_) (λ h=>?_)
 ·have hjl:j<(Zj a).behind.length:=by omega
  have hdj:=ZaQ hjl;refine Zs (Sat R1 [pts p (Zp d lim base1 s1 sg1 sh1 false),VC.tru]) hw (λ w hw=>hw.k1) λ w hw=>Zb.mk rfl ⟨_,At.own Ze (by exact ⟨rfl,trivial⟩),?_⟩;refine hbh.ix Ze j rfl (by simpa using hjl) ?_;have en:((Zj a).behind.map λ n:Nat=>(n:Int))[j]'(by simpa using hjl)=(((Zj a).behind[j]:Nat):Int):=by simp
  rw [en];have hnj:=hn2 _ (List.getElem_mem hjl);refine (ZaX hnj hw).use ?_;clear hw;rintro _ w ⟨rfl,hw⟩;refine ⟨_,rfl,hw.k1,?_⟩;have hw:Sat R1 (Zy d b3::pts p (Zp d lim base1 s1 sg1 sh1 false)::ZL s1 ds1::Zb8 sg1 (Zj a).segs::Zaf sh1 (Zj a).segs::Hs) w:=hw.arr;obtain ⟨ru,eu⟩:=r3.unlink (Za (Zj a).behind[j]);refine (ZcY r3.invR (by have:=r3.len;omega) (ZaI _) hw).use ?_;clear hw;rintro _ w ⟨rfl,hw⟩;rw [<-eu];have hus:ZF a3 ((Zj a).behind.drop j)=Z3 (Zi a3 (Za (Zj a).behind[j])) λ st=>ZF st ((Zj a).behind.drop (j + 1)):=by rw [hdj];rfl
  have hul:=ZbW a3 (Za (Zj a).behind[j]);rw [Zg (by omega) (by omega)];refine ⟨_,rfl,hw.k1,Br.ne (λ he=>no (a':=(Zi a3 (Za (Zj a).behind[j])).1) he ?_ ru (e1.back (hw.cons λ _ h=>h.drop.drop.drop.drop))) (λ he=>⟨⟨j + 1,_,_,by omega,hjl,?_,ru,by omega,hw.arr⟩,by dsimp only;omega⟩)⟩
  ·rw [hrec1,hun,hus,Zx (x:=Zi a3 _) he,Zx (x:=Zi a3 _) he]
  ·rw [hun,hus,ZB (x:=Zi a3 _) he]
 have hjl:j=(Zj a).behind.length:=by omega
 rw [hjl,List.drop_length] at hun;have hun2:ZF a2 (Zj a).behind=(a3,0):=by rw [hun];rfl
 rw [hun2,ZB (x:=(a3,(0:Int))) rfl] at hrec1;have hgl:(Zz a).g=⟨base1,erE ds1⟩:=hg1.symm;have hsgl:sg1.len=(Zj a).segs.length:=by
  have h2:Sat R1 (Zb8 sg1 (Zj a).segs::pts p (Zp d lim base1 s1 sg1 sh1 false)::ZL s1 ds1::Zaf sh1 (Zj a).segs::Zy d b3::Hs) w:=hw.arr;have:=Own.len h2;simpa using this
 refine Zb.mk rfl ⟨sg1,At.own (eqS hw) (by exact ⟨rfl,trivial⟩),Br.e (λ h0=>?_) (λ h0=>?_)⟩
 ·have hs0:(Zj a).segs=[]:=List.length_eq_zero_iff.1 (by omega)
  have ef3:f3D (Zj a) a3=Zae a3 1 1:=if_pos hs0;rw [ef3] at hrec1;refine (Zin (n:=1) (next:=1) r3 (by omega) (by omega) (by omega) (by omega) (by omega) hw).use ?_;clear hw;rintro _ w ⟨e,b4,sg4,sh4,rfl,he,r4,hw⟩;refine ⟨_,rfl,Br.ne (λ he0=>no (a':=(Zae a3 1 1).1) he0 (by rw [hrec1,he]) r4 ?_) (λ he0=>?_)⟩
  ·have hw:Sat R1 (Zy d b4::pts p (Zp d lim base1 s1 sg4 sh4 false)::ZL s1 ds1::Zb8 sg4 (ZcU (Zj a).segs 1 1 e)::Zaf sh4 (ZcU (Zj a).segs 1 1 e)::Hs) w:=hw.arr
   exact e1.back (hw.cons λ _ h=>h.drop.drop.drop.drop)
  ·have hos:(Zz a).segs=[⟨1,1,(ZH 1 1).length⟩]:=by unfold Zz;simp only;rw [if_pos hs0]
   have hms:ZcU (Zj a).segs 1 1 e=(Zz a).segs:=by rw [hos,hs0];unfold ZcU;rw [if_pos he0];rfl
   rw [hms] at hw;refine hK _ _ (.inr ⟨by rw [eE,hrec1,<-he];exact he0,rfl,R1,s1,ds1,sg4,sh4,b4,e1,hd1,by rw [hgl],by rw [eD,hrec1];exact r4,by rw [hgl];exact hb0,by rw [hgl];exact hb1,hdl,by rw [hgl];exact hw⟩)
 ·have hs0:(Zj a).segs≠[]:=λ h=>h0 (by rw [hsgl,h];rfl)
  have ef3:f3D (Zj a) a3=(a3,0):=if_neg hs0;rw [ef3] at hrec1;obtain ⟨q1,q2⟩:=ZlB a hs0;refine hK _ _ (.inr ⟨by rw [eE,hrec1],rfl,R1,s1,ds1,sg1,sh1,b3,e1,hd1,by rw [hgl],by rw [eD,hrec1];exact r3,by rw [hgl];exact hb0,by rw [hgl];exact hb1,hdl,?_⟩);unfold US Zb8 Zaf;rw [q1,q2,hgl];exact hw
def Zsf (R:Cx) (Hs:List HP) (d:Nat) (lim:Int) (a:DS) (e:Int) (v:Value) (w:World):Prop:=
 (∃ b',e≠0/\v=.tuple #[.pointer none,.int .i64 e]/\Rel (Zd9 a lim) b'/\Sat R (Zy d b'::Hs) w)\/
 (e=0/\∃ R' p s ds sg sh b',R.Ext R'/\DsR R' ds/\v=.tuple #[.pointer (some ⟨p,0,none⟩),.int .i64 0]/\erE ds=(Zz a).g.l/\Rel (Zd9 a lim) b'/\0<=(Zz a).g.base/\(Zz a).g.base<=1099511627776/\ds.length<=100000000000/\
  Sat R' (US p d lim (Zz a).g.base s sg sh false ds (Zz a).segs b' Hs) w)
theorem Zit (lim:Int) (r:Rel a b) (hby:Zb9 a.fs) (hf:a.fs.length<=40000) (hw:Sat R (Zy d b::Hs) w):
  Zq prog 14 #[.pointer (some ⟨d,0,none⟩),.int .i64 lim] w (Zsf R Hs d lim a (Zaz a lim)):=by
 apply Zv8;refine ⟨λ w=>¬ (lim<32\/lim>65536)/\Sat R (Zy d b::Hs) w,?_,?_⟩
 ·have bad:(lim<32\/lim>65536)->∀ {w:World},Sat R (Zy d b::Hs) w->Zsf R Hs d lim a (Zaz a lim) (.tuple #[.pointer none,.int .i64 1]) w:=λ h {w} hw=>by
   have e1:Zaz a lim=1:=if_pos h;have e2:Zd9 a lim=a:=if_pos h;rw [e1];exact .inl ⟨b,by decide,rfl,by rw [e2];exact r,hw⟩
  exact Br.f rfl (Br.d (λ h=>bad (.inl h) hw) (λ h=>Br.d (λ h2=>bad (.inr h2) hw) (λ h2=>⟨λ h3=>h3.elim h h2,hw⟩)))
 clear hw;rintro _ w ⟨hlim,hw⟩;have e1:Zaz a lim=oE a:=by unfold Zaz oE;rw [if_neg hlim]
 have e2:Zd9 a lim=oD a:=by unfold Zd9 oD;rw [if_neg hlim]
 rw [e1];refine Zd hw λ p w hw=>?_;refine (ZnC (s:=⟨none,0,0⟩) (sg:=⟨none,0,0⟩) (sh:=⟨none,0,0⟩) r hby hf hw).use ?_;clear hw;rintro _ w (⟨b',h1,rfl,h2,hw⟩|⟨h1,rfl,R',s,ds,sg,sh,b',g1,g2,g3,g4,g5,g6,g7,hw⟩)
 ·exact ⟨_,rfl,Br.ne (λ _=>.inl ⟨b',h1,rfl,by rw [e2];exact h2,hw⟩) (λ h=>absurd h h1)⟩
 ·exact ⟨_,rfl,Br.ne (λ h=>absurd rfl h) (λ _=>.inr ⟨h1,R',p,s,ds,sg,sh,b',g1,g2,rfl,g3,by rw [e2];exact g4,g5,g6,g7,hw⟩)⟩
end
section
open Go Go.VC Tryz
variable {R R':Cx} {Hs Rest:List HP} {w:World} {p d q u:Nat} {x:WSt} {s sg sh:Sl} {ds:List DE4} {a b:DS}
abbrev UX (p d:Nat) (x:WSt) (s sg sh:Sl) (ds:List DE4) (st:DS) (Hs:List HP):List HP:=US p d x.lim x.g.base s sg sh x.brk ds x.segs st Hs
theorem ZlA (h:WB0 x) (hw:Sat R (UX p d x s sg sh ds b Hs) w):Zq prog 46 #[.pointer (some ⟨p,0,none⟩)] w λ v w'=>v=.int .i64 (Zdx x)/\Sat R (UX p d x s sg sh ds b Hs) w':=by
 have h0:=h.b0;have h1:=h.b1;apply ZvD;refine Zb.mk rfl ⟨x.brk,At.own (eqS hw) (by exact ⟨rfl,trivial⟩),Br.mk (λ h=>?_) (λ h=>?_)⟩
 ·refine ⟨?_,hw⟩;unfold Zdx;rw [if_pos h]
 ·refine Zb.mk rfl ⟨x.g.base,At.own (eqS hw) (by exact ⟨rfl,trivial⟩),?_,hw⟩
  rw [Zg (by omega) (by omega)];unfold Zdx;rw [if_neg (by simp [h])]
theorem UX.slen (hw:Sat R (UX p d x s sg sh ds b Hs) w):s.len=ds.length/\sg.len=x.segs.length:=by
 constructor
 ·have h2:Sat R (ZL s ds::pts p (Zp d x.lim x.g.base s sg sh x.brk)::Zb8 sg x.segs::Zaf sh x.segs::Zy d b::Hs) w:=hw.arr
  have:=ZM.len h2;simpa using this
 ·have h2:Sat R (Zb8 sg x.segs::pts p (Zp d x.lim x.g.base s sg sh x.brk)::ZL s ds::Zaf sh x.segs::Zy d b::Hs) w:=hw.arr
  have:=Own.len h2;simpa using this
theorem ZnJ (h:WB0 x) (hd:erE ds=x.g.l) (hw:Sat R (UX p d x s sg sh ds b Hs) w):Zq prog 47 #[.pointer (some ⟨p,0,none⟩)] w λ v w'=>v=.int .i64 (Zoa x)/\Sat R (UX p d x s sg sh ds b Hs) w':=by
 have h0:=h.b0;have h1:=h.b1;have h2:=h.l1;have hsl:=(UX.slen hw).1;have hdl:ds.length=x.g.l.length:=by rw [<-hd,List.length_map]
 apply ZvC;refine Zb.mk rfl ⟨x.brk,At.own (eqS hw) (by exact ⟨rfl,trivial⟩),Br.mk (λ h=>?_) (λ h=>?_)⟩
 ·refine ⟨?_,hw⟩;unfold Zoa;rw [if_pos h]
 ·refine Zb.mk rfl ⟨x.g.base,s,At.own (eqS hw) (by exact ⟨rfl,rfl,trivial⟩),?_⟩
  refine (Zam h0 h1 (by omega) hw).use ?_;clear hw;rintro _ w ⟨rfl,hw⟩;refine ⟨_,rfl,?_,hw⟩;rw [hsl];unfold Zoa;rw [if_neg (by simp [h]),ZlL hd]
theorem Zkk (h:WB0 x) (from' most:Int) (hf: -9223372036854775808<=from'/\from'<9223372036854775808) (hd:DsR R ds) (he:erE ds=x.g.l) (hw:Sat R (UX p d x s sg sh ds b Hs) w):
  Zq prog 48 #[.pointer (some ⟨p,0,none⟩),.int .i64 from',.int .i64 most] w λ v w'=>∃ (t:Sl) (ds':List DE4),v=.slice t.a t.len t.cap/\DsR R ds'/\erE ds'=ZlR x from' most/\Sat R (ZL t ds'::UX p d x s sg sh ds b Hs) w':=by
 have h0:=h.b0;have h1:=h.b1;have h2:=h.l1;have hsl:=(UX.slen hw).1;have hdl:ds.length=x.g.l.length:=by rw [<-he,List.length_map]
 have hlast:=ZlL he;apply ZvB
 suffices H:∀ K:Value->World->Prop,(∀ (t:Sl) (ds':List DE4) w',DsR R ds'->erE ds'=ZlR x from' most->Sat R (ZL t ds'::UX p d x s sg sh ds b Hs) w'->K (.slice t.a t.len t.cap) w')->B48 (some ⟨p,0,none⟩) from' most K w from H _ λ t ds' w' h1 h2 h3=>⟨t,ds',rfl,h1,h2,h3⟩
 intro K hK;have none':(x.brk=true\/from'<=x.g.base\/from'>x.g.last)->∀ {w:World},Sat R (UX p d x s sg sh ds b Hs) w->K (.slice none 0 0) w:=λ hc {w} hw=>hK ⟨none,0,0⟩ [] w .nil (by
  unfold ZlR;rw [if_pos];· rfl
  ·rcases hc with h|h|h
   ·exact .inl h
   ·exact .inr (.inl h)
   ·exact .inr (.inr (.inl h))) (ZM.nil hw)
 refine ⟨λ w=>(x.brk=false/\x.g.base<from'/\from'<=x.g.last)/\Sat R (UX p d x s sg sh ds b Hs) w,?_,?_⟩
 ·refine Zb.mk rfl ⟨x.brk,At.own (eqS hw) (by exact ⟨rfl,trivial⟩),Br.mk (λ h=>none' (.inl h) hw) (λ h=>?_)⟩
  refine Zb.mk rfl ⟨x.g.base,At.own (eqS hw) (by exact ⟨rfl,trivial⟩),Br.d (λ h3=>none' (.inr (.inl h3)) hw) (λ h3=>?_)⟩;refine Zb.mk rfl ⟨x.g.base,s,At.own (eqS hw) (by exact ⟨rfl,rfl,trivial⟩),?_⟩;refine (Zam h0 h1 (by omega) hw).use ?_;clear hw;rintro _ w ⟨rfl,hw⟩;refine ⟨_,rfl,Br.d (λ h4=>none' (.inr (.inr (by omega))) hw) (λ h4=>⟨⟨h,by omega,by omega⟩,hw⟩)⟩
 clear hw;rintro _ w ⟨⟨hb,hf1,hf2⟩,hw⟩;obtain ⟨o,ho⟩:∃ o:Nat,o=(from' - 1 - x.g.base).toNat:=⟨_,rfl⟩
 refine ⟨λ out i w=>∃ (j:Nat),i=from' + j/\o + j<=ds.length/\(j:Int)<=max most 0/\Sat R (ZL out ((ds.drop o).take j)::UX p d x s sg sh ds b Hs) w,λ _ i _=>(x.g.last + 1 - i).toNat,⟨0,by omega,by omega,by omega,ZM.nil hw⟩,?_⟩
 clear hw;rintro _ out _ w ⟨j,rfl,hj,hjm,hw⟩;have hol:out.len=j:=by have:=ZM.len hw;rw [this,List.length_map,List.length_take,List.length_drop];omega
 have stop:(most<=j\/o + j=ds.length)->∀ {w:World},Sat R (ZL out ((ds.drop o).take j)::UX p d x s sg sh ds b Hs) w->K (.slice out.a out.len out.cap) w:=λ hc {w} hw=>by
  refine hK out _ w ((hd.drop o).take j) ?_ hw;unfold ZlR;by_cases hm:most<1
  ·have hj0:j=0:=by omega
   rw [hj0,if_pos (.inr (.inr (.inr hm)))];rfl
  ·rw [if_neg (by rw [hb];simp;omega),<-ho,<-he]
   unfold erE;rw [List.map_take,List.map_drop];rcases hc with hc|hc
   ·rw [show most.toNat=j by omega]
   ·rw [List.take_of_length_le (by simp;omega),List.take_of_length_le (by simp;omega)]
 have hw':Sat R (pts p (Zp d x.lim x.g.base s sg sh x.brk)::ZL out ((ds.drop o).take j)::ZL s ds::Zb8 sg x.segs::Zaf sh x.segs::Zy d b::Hs) w:=hw.arr;refine ⟨λ w=>(o + j<ds.length/\(j:Int)<most)/\Sat R (ZL out ((ds.drop o).take j)::UX p d x s sg sh ds b Hs) w,?_,?_⟩
 ·refine Zb.mk rfl ⟨x.g.base,s,At.own (eqS hw') (by exact ⟨rfl,rfl,trivial⟩),?_⟩
  refine (Zam h0 h1 (by omega) hw).use ?_;clear hw hw';rintro _ w ⟨rfl,hw⟩;rw [hol];refine ⟨_,rfl,Br.d (λ h3=>Br.d (λ h4=>⟨⟨by omega,h4⟩,hw⟩) (λ h4=>?_)) (λ h3=>?_)⟩
  ·rw [<-hol];exact stop (.inl (by omega)) hw
  ·rw [<-hol];exact stop (.inr (by omega)) hw
 clear hw hw';rintro _ w ⟨⟨hk,hjm2⟩,hw⟩;have hw:Sat R (pts p (Zp d x.lim x.g.base s sg sh x.brk)::ZL s ds::ZL out ((ds.drop o).take j)::Zb8 sg x.segs::Zaf sh x.segs::Zy d b::Hs) w:=hw.arr;have ix:IntKind.i64.wrap (IntKind.i64.wrap (from' + (j:Int) - 1) - x.g.base)=((o + j:Nat):Int):=by
  rw [Zg (x:=from' + (j:Int) - 1) (by omega) (by omega),Zg (by omega) (by omega)];omega
 have toS:∀ {A:List HP} {w:World},Sat R (pts p (Zp d x.lim x.g.base s sg sh x.brk)::ZL s ds::A) w->Sat R [pts p (Zp d x.lim x.g.base s sg sh x.brk),ZL s ds,VC.tru] w:=λ h=>h.cons λ _ h=>h.cons λ _ h=>Zuc h;refine Zs (Sat R [pts p (Zp d x.lim x.g.base s sg sh x.brk),ZL s ds,VC.tru]) hw (λ w hw=>toS hw) λ w hw=>?_;refine Zb.mk rfl ⟨s,At.own Ze (by exact ⟨rfl,trivial⟩),Zb.mk rfl ⟨x.g.base,At.own Ze (by exact ⟨rfl,trivial⟩),?_⟩⟩;rw [ix];have hrd:ReadsN 4 s (ds.map ZaU) (Sat R [pts p (Zp d x.lim x.g.base s sg sh x.brk),ZL s ds,VC.tru]):=ZM.readsM (n:=4) (s:=s) (T:=55) (rows:=ds.map ZaU) (toS hw) (λ w h=>h);refine hrd.rngM (E:=ds) (g:=ZaU) hk λ _ _ el=>⟨ds[o + j].2.ix,ds[o + j].2.tm,ds[o + j].2.kd,ds[o + j].1,el.z (by exact ⟨rfl,rfl,rfl,rfl,trivial⟩),?_⟩;refine Zd hw λ b2 w hw=>⟨toS (A:=pts b2 (.cells (ZaU ds[o + j]).toArray 55 (0,0))::ZL out ((ds.drop o).take j)::Zb8 sg x.segs::Zaf sh x.segs::Zy d b::Hs) hw.arr,?_⟩;have hw:Sat R (ZL out ((ds.drop o).take j)::pts b2 (.cells (ZaU ds[o + j]).toArray 55 (0,0))::pts p (Zp d x.lim x.g.base s sg sh x.brk)::ZL s ds::Zb8 sg x.segs::Zaf sh x.segs::Zy d b::Hs) w:=hw.arr;have hlt:((ds.drop o).take j).length=j:=by rw [List.length_take,List.length_drop];omega
 refine Zc2 elE hw rfl rfl (by rw [List.length_map];omega) (by rw [List.length_map];omega) λ s2 w hw=>?_;have htk:(ds.drop o).take (j + 1)=(ds.drop o).take j++[ds[o + j]]:=by
  rw [List.take_add_one,List.getElem?_drop,List.getElem?_eq_getElem hk];rfl
 have hw:Sat R (ZL s2 ((ds.drop o).take (j + 1))::UX p d x s sg sh ds b Hs) w:=by
  unfold ZL;rw [htk,List.map_append];simp only [List.map_cons,List.map_nil];exact hw
 refine ⟨toS (A:=ZL s2 ((ds.drop o).take (j + 1))::Zb8 sg x.segs::Zaf sh x.segs::Zy d b::Hs) hw.arr,?_⟩;rw [Zg (by omega) (by omega)];exact ⟨⟨j + 1,by omega,by omega,by omega,hw⟩,by dsimp only;omega⟩
theorem Znw (r:Rel a b) (hf:a.fs.length<=90000) (hw:Sat R (Zl d a::Zy q b::Hs) w):Zq prog 15 #[.pointer (some ⟨d,0,none⟩),.pointer (some ⟨q,0,none⟩)] w λ v w'=>v=.bool true/\Sat R (Zl d a::Zy q b::Hs) w':=by
 apply Zv7;have hlb:=r.len;have hnl:=Za7 a.fs;refine (Zds r.inv (by omega) hw).use ?_;clear hw;rintro _ w ⟨t,rfl,hw⟩;obtain ⟨R1,e1,ht,hw⟩:=Own.leak hw;refine ⟨t,rfl,(Zfa (by omega) hw.swap).use ?_⟩;clear hw;rintro _ w ⟨t2,rfl,hw⟩;rw [<-r.names] at hw;obtain ⟨R2,e2,ht2,hw⟩:=Own.leak hw;have hw:=hw.swap;have ht:=e2.slR ht;have htl:t.len=(Zr a.fs).length:=by have:=ht.len;simpa using this
 have htl2:t2.len=(Zr a.fs).length:=by have:=ht2.len;simpa using this
 have hro:=ht.ro (by rw [List.length_map];omega);have hro2:=ht2.ro (by rw [List.length_map];omega);refine ⟨t2,rfl,Sat R2 (Zl d a::Zy q b::Hs),?_,?_⟩
 ·refine Zv hw λ w hw=>Br.ne (λ h=>absurd (by omega) h) (λ _=>?_)
  have hS:∀ w,Sat R2 (Zl d a::Zy q b::Hs) w->∃ sx E,Sat R2 (pts q (ZcI b sx)::ZM 3 sx 112 (E.map Zcc)::Za4 E::Zl d a::Hs) w:=λ w h=>by
   obtain ⟨sx,E,_,h⟩:=Sat.ref.1 h.swap;exact ⟨sx,E,h⟩
  refine Zb.mk rfl ⟨b.off,λ w h i v hv=>?_,?_⟩
  ·obtain ⟨sx,E,h⟩:=hS w h
   exact (At.own (S:=λ w'=>w'=w) (eqS h) (by exact ⟨rfl,trivial⟩)) w rfl i v hv
  ·refine (ZmJ hw).use ?_
   clear hw;rintro _ w ⟨rfl,hw⟩;refine ⟨_,rfl,hw,Br.f (by rw [r.off];simp) hw⟩
 clear hw;rintro _ w hw;refine ⟨λ i w=>∃ j:Nat,i=j/\j<=(Zr a.fs).length/\Sat R2 (Zl d a::Zy q b::Hs) w,λ i _=>((Zr a.fs).length - i).toNat,⟨0,rfl,Nat.zero_le _,hw⟩,?_⟩;clear hw;rintro _ _ w ⟨j,rfl,hj,hw⟩;refine Br.d (λ h=>?_) (λ _=>⟨rfl,(e1.trans e2).back hw⟩);have hjl:j<(Zr a.fs).length:=by omega
 have hks:=ZdS (r.inv.names _ (Zet.1 (List.getElem_mem hjl)));refine hro2.idxStr (eqS hw) hjl ?_;refine (Zen r.inv hw).use ?_;clear hw;rintro _ w ⟨t3,rfl,hw⟩;obtain ⟨R3,e3,ht3,hw⟩:=Own.leak hw;refine ⟨t3,_,rfl,?_⟩;have hro3:Ro R3 t2 ((Zr a.fs).map Value.string):=e3.ro hro2;refine hro3.idxStr (eqS hw) hjl ?_;refine (ZeJ r.invR (by omega) (by omega) hw.swap).use ?_;clear hw;rintro _ w ⟨t4,rfl,hw⟩;obtain ⟨R4,e4,ht4,hw⟩:=Own.leak hw;have hw:=hw.swap;rw [<-r.read] at ht4 ⊢;refine ⟨t4,_,rfl,?_⟩;have hrl:=ZgF r.inv (Zr a.fs)[j];refine Zv hw λ w hw=>?_;refine (e4.ro (e3.ro hro)).idxStr Ze hjl ?_;refine (e4.ro hro3).idxStr Ze hjl ?_;refine Br.sne (λ h=>absurd rfl h) (λ _=>?_);refine ⟨_,Zwm Ze ((e4.slR ht3).ro (by rw [List.length_map];omega)),_,Zwm Ze (ht4.ro (by rw [List.length_map];omega)),Br.sne (λ h=>absurd rfl h) (λ _=>Br.ne (λ h=>absurd rfl h) (λ _=>?_))⟩;rw [Zg (by omega) (by omega)];exact ⟨⟨j + 1,by omega,hjl,(e3.trans e4).back hw⟩,by dsimp only;omega⟩
theorem Zmd {s' sg':Sl} {ds':List DE4} (h:WB0 x) (hdt:∀ e∈x.g.l,e.dt.length<=4096) (hd:DsR R ds) (hd':DsR R ds') (he:erE ds=x.g.l) (he':erE ds'=x.g.l)
  (hw:Sat R (WX p d x s' sg' ds' a (UX q u x s sg sh ds b Hs)) w):Zq prog 16 #[.pointer (some ⟨p,0,none⟩),.pointer (some ⟨q,0,none⟩)] w λ v w'=>v=.bool true/\Sat R (WX p d x s' sg' ds' a (UX q u x s sg sh ds b Hs)) w':=by
 apply Zv6;have h0:=h.b0;have h1:=h.b1;have h2:=h.l1;have hfb: -9223372036854775808<=Zdx x/\Zdx x<9223372036854775808:=by unfold Zdx;split<;>omega
 refine (ZhB h hw).use ?_;clear hw;rintro _ w ⟨rfl,hw⟩;refine ⟨_,rfl,(ZlK h he' hw).use ?_⟩;clear hw;rintro _ w ⟨rfl,hw⟩;have hw:Sat R (UX q u x s sg sh ds b (WX p d x s' sg' ds' a Hs)) w:=hw.arr;refine ⟨_,rfl,(ZlA h hw).use ?_⟩;clear hw;rintro _ w ⟨rfl,hw⟩;refine ⟨_,rfl,Br.ne (λ h=>absurd rfl h) (λ _=>(ZnJ h he hw).use ?_)⟩;clear hw;rintro _ w ⟨rfl,hw⟩;have hw:Sat R (WX p d x s' sg' ds' a (UX q u x s sg sh ds b Hs)) w:=hw.arr;refine ⟨_,rfl,Br.ne (λ h=>absurd rfl h) (λ _=>(ZiH h (Zdx x) 100000 hfb (λ e he=>by have:=hdt e he;omega) hd' he' hw).use ?_)⟩;clear hw;rintro _ w ⟨R1,t1,dt1,e1,rfl,hd1,g1,hw⟩;obtain ⟨R2,e2,hr1,hw⟩:=ZM.leak hw;have hw:Sat R2 (UX q u x s sg sh ds b (WX p d x s' sg' ds' a Hs)) w:=hw.arr;have e12:=e1.trans e2;refine ⟨t1,rfl,(Zkk h (Zdx x) 100000 hfb (hd.ext e12) he hw).use ?_⟩;clear hw;rintro _ w ⟨t2,dt2,rfl,hd2,g2,hw⟩;obtain ⟨R3,e3,hr2,hw⟩:=ZM.leak hw;have hdt2:∀ e∈dt1,e.2.dt.length<=9223372036854775807:=λ e he=>by
  have hm:e.2∈ZlR x (Zdx x) 100000:=by rw [<-g1];exact List.mem_map_of_mem he
  have hx:e.2∈x.g.l:=by
   unfold ZlR at hm;split at hm
   ·cases hm
   ·exact List.mem_of_mem_drop (List.mem_of_mem_take hm)
  have:=hdt _ hx;omega
 have hl1:dt1.length<=100000:=by
  have:=congrArg List.length g1;rw [List.length_map] at this;rw [this];unfold ZlR;split
  ·simp
  ·rw [List.length_take];omega
 refine ⟨t2,rfl,(Zg7 (e3.roN hr1) hr2 ((hd1.ext e2).ext e3) (hd2.ext e3) (by rw [g1,g2]) (by omega) hdt2 hw).use ?_⟩;clear hw;rintro _ w ⟨rfl,hw⟩;exact ⟨_,rfl,rfl,(e12.trans e3).back hw.arr⟩
end
section
open Go Go.VC Tryz
variable {R R':Cx} {Hs Rest:List HP} {w:World}
def EyB (e:Ey):Prop:=e.dt.length<=4096/\∀ y∈e.dt,0<=y/\y<256
theorem ZnH {most:Int} {r:Rd} (hb:∀ x∈r.bs,0<=x/\x<256) (hm:most=4096):(ZaJ most r).1.length<=4096/\∀ x∈(ZaJ most r).1,0<=x/\x<256:=by
 unfold ZaJ;split
 ·simp
 ·split
  ·split
   ·rename_i n neg k _ hc
    refine ⟨by simp only [List.length_take];omega,λ x hx=>hb x (List.mem_of_mem_drop (List.mem_of_mem_take hx))⟩
   ·simp
  ·simp
theorem ZhR {g g':Lg} {b:List Int} (h:ZV g b=some g') (hg:∀ e∈g.l,EyB e) (hb:∀ x∈b,0<=x/\x<256):∀ e∈g'.l,EyB e:=by
 unfold ZV Zau at h;simp only at h;have hb0:=ZaF (most:=3) (rd:=⟨b,false⟩) hb;split at h
 ·unfold addR at h
  simp only at h;split at h
  ·have hb1:=ZaF (most:=1099511627777) hb0
   have hb2:=ZaF (most:=1099511627776) hb1;have hb3:=ZaF (most:=7) hb2;obtain rfl:=Option.some.inj h;intro e he;rcases List.mem_append.1 he with he|he
   ·exact hg e he
   ·rw [List.mem_singleton.1 he];exact ZnH hb3 rfl
  ·cases h
 split at h
 ·unfold ZoI at h
  simp only at h;split at h
  ·obtain rfl:=Option.some.inj h
   unfold Zfe;intro e he;split at he
   ·cases he
   split at he
   ·exact hg e (List.mem_of_mem_take he)
   ·exact hg e he
  ·cases h
 split at h
 ·unfold Zd4 at h
  simp only at h;split at h
  ·obtain rfl:=Option.some.inj h
   intro e he;cases he
  ·cases h
 ·cases h
abbrev FE:=ByteArray × Sl × List Int
abbrev feV (e:FE):List Value:=[.string e.1,.slice e.2.1.a e.2.1.len e.2.1.cap]
structure FeQ (R:Cx) (e:FE):Prop where
 name:e.1.size<=maxLen
 len:e.2.2.length<=maxLen
 bytes:SlR R.m e.2.1 (b8 e.2.2)
 bd:Byt e.2.2
structure FsR (R:Cx) (s:Sl) (es:List FE):Prop where
 rows:RoN 2 R s (es.map feV)
 each:∀ e∈es,FeQ R e
theorem FsR.nil:FsR R ⟨none,0,0⟩ []:=⟨⟨by simp [Wid],rfl,λ h=>absurd rfl h⟩,λ _ h=>by cases h⟩
theorem Zol {room:Int} {l:Sl} {es:List FE} (hr:FsR R l es) (hsm:∀ e∈es.take 20,e.2.2.length<=30000/\e.1.size<=1000) (hw:Sat R Hs w):
  Zq prog 10 #[.int .i64 room,.slice l.a l.len l.cap] w λ v w'=>(¬ (1<=room/\room<=16777216)/\v=.tuple #[.pointer none,.pointer none,.bool false]/\Sat R Hs w')\/
   ((1<=room/\room<=16777216)/\∃ (d q:Nat) (a b:DS),v=.tuple #[.pointer (some ⟨d,0,none⟩),.pointer (some ⟨q,0,none⟩),.bool true]/\Rel a b/\Zb9 a.fs/\a.fs.length<=20/\(es=[]->a=⟨room,[],-1,-1,false⟩)/\Sat R (Zl d a::Zy q b::Hs) w'):=by
 have hlen:l.len=es.length:=by have:=hr.rows.len;simpa using this
 apply Zwc
 suffices H:∀ K:Value->World->Prop,(∀ w',¬ (1<=room/\room<=16777216)->Sat R Hs w'->K (.tuple #[.pointer none,.pointer none,.bool false]) w')->(∀ (d q:Nat) (a b:DS) w',(1<=room/\room<=16777216)->Rel a b->Zb9 a.fs->a.fs.length<=20->(es=[]->a=⟨room,[],-1,-1,false⟩)->Sat R (Zl d a::Zy q b::Hs) w'->K (.tuple #[.pointer (some ⟨d,0,none⟩),.pointer (some ⟨q,0,none⟩),.bool true]) w')->B10 room l K w from
  H _ (λ w' h1 h2=>.inl ⟨h1,rfl,h2⟩) λ d q a b w' h1 h2 h3 h4 h5 h6=>.inr ⟨h1,d,q,a,b,rfl,h2,h3,h4,h5,h6⟩
 intro K hK1 hK2;refine (ZmN room hw).use ?_;clear hw;rintro _ w (⟨hn,rfl,hw⟩|⟨hn,h0,h1,d,rfl,hw⟩)
 ·refine ⟨_,_,rfl,(Zky room hw).use ?_⟩
  clear hw;rintro _ w (⟨_,rfl,hw⟩|⟨hn2,_⟩)
  ·refine ⟨_,_,rfl,λ _=>False,Br.ne (λ _=>hK1 _ ?_ hw) (λ h=>absurd h (by decide)),λ _ _ h=>h.elim⟩
   intro hc;unfold Ziz at hn;rw [if_neg (by omega)] at hn;cases hn
  ·rw [hn] at hn2;cases hn2
 refine ⟨_,_,rfl,(Zky room hw).use ?_⟩;clear hw;rintro _ w (⟨hn2,_⟩|⟨_,_,_,q,rfl,hw⟩)
 ·rw [hn] at hn2;cases hn2
 refine ⟨_,_,rfl,Sat R (Zy q ⟨room,[],-1,-1,false⟩::Zl d ⟨room,[],-1,-1,false⟩::Hs),Br.ne (λ h=>absurd rfl h) (λ _=>Br.ne (λ h=>absurd rfl h) (λ _=>Br.f rfl hw)),?_⟩;clear hw;rintro _ w hw;have hw:=hw.swap;refine ⟨λ i w=>∃ (k:Nat) (a b:DS),i=k/\k<=20/\k<=es.length/\Rel a b/\Zb9 a.fs/\a.fs.length<=k/\(es=[]->a=⟨room,[],-1,-1,false⟩)/\Sat R (Zl d a::Zy q b::Hs) w,λ i _=>20 - i.toNat,⟨0,_,_,rfl,by omega,by omega,Rel.new h0 h1,λ e h=>(by cases h),by simp,λ _=>rfl,hw⟩,?_⟩;clear hw;rintro _ _ w ⟨k,a,b,rfl,hk,hke,r,hby,hf,he0,hw⟩;have fin:∀ {w:World},Sat R (Zl d a::Zy q b::Hs) w->K (.tuple #[.pointer (some ⟨d,0,none⟩),.pointer (some ⟨q,0,none⟩),.bool true]) w:=λ hw=>hK2 d q a b _ ⟨h0,h1⟩ r hby (by omega) he0 hw;refine ⟨λ w=>(k<es.length/\k<20)/\Sat R (Zl d a::Zy q b::Hs) w,Br.d (λ h=>Br.d (λ h2=>⟨⟨by omega,by omega⟩,hw⟩) (λ _=>fin hw)) (λ _=>fin hw),?_⟩;clear hw fin;rintro _ w ⟨⟨hk1,hk2⟩,hw⟩;have hE:=hr.each _ (List.getElem_mem hk1);have hS:∀ {Hs':List HP} {S:World->Prop},(∀ w,S w->Sat R Hs' w)->ReadsN 2 l (es.map feV) S:=λ h=>hr.rows.reads h;obtain ⟨hb1,hb2⟩:=hsm es[k] (by rw [List.mem_take_iff_getElem];exact ⟨k,by omega,rfl⟩);have hro:=hE.bytes.ro (by rw [List.length_map];omega);have hlb:=r.len;refine Zv hw λ w hw=>?_;refine (hS Ze).rngM hk1 λ _ _ el=>⟨es[k].1,el.zz (by exact ⟨rfl,trivial⟩),?_⟩;refine (hS Ze).rngM hk1 λ _ _ el=>⟨es[k].2.1,el.f 1 (by exact ⟨rfl,trivial⟩),?_⟩;refine (Zd0 r.inv hro (by omega) hw).use ?_;clear hw;rintro _ w ⟨rfl,hw⟩;refine ⟨_,rfl,Zv hw λ w hw=>?_⟩;refine (hS Ze).rngM hk1 λ _ _ el=>⟨es[k].1,el.zz (by exact ⟨rfl,trivial⟩),?_⟩;refine (hS Ze).rngM hk1 λ _ _ el=>⟨es[k].2.1,el.f 1 (by exact ⟨rfl,trivial⟩),?_⟩;obtain ⟨ra,ea⟩:=r.append es[k].1 es[k].2.2;refine (ZbD r.invR (by omega) (by omega) hro (by omega) hw.swap).use ?_;clear hw;rintro _ w ⟨rfl,hw⟩;have hw:=hw.swap;rw [<-ea];have hla:=Zb7 a es[k].1 es[k].2.2;have hlab:=ra.len;refine ⟨_,rfl,Br.ne (λ h=>absurd rfl h) (λ _=>?_)⟩;refine (hS (eqS hw)).rngM hk1 λ _ _ el=>⟨es[k].1,el.zz (by exact ⟨rfl,trivial⟩),?_⟩;refine (Zei ra.inv hw).use ?_;clear hw;rintro _ w ⟨rfl,hw⟩;refine ⟨_,rfl,(hS (eqS hw)).rngM hk1 λ _ _ el=>⟨es[k].1,el.zz (by exact ⟨rfl,trivial⟩),?_⟩⟩;refine (Zdm ra.invR (by omega) (by omega) hw.swap).use ?_;clear hw;rintro _ w ⟨rfl,hw⟩;have hw:=hw.swap;obtain ⟨rs,es'⟩:=ra.sync es[k].1;have hls:=Zcu (Zk a es[k].1 es[k].2.2).1 es[k].1;rw [Zg (by omega) (by omega)];exact ⟨_,rfl,⟨k + 1,_,_,by omega,by omega,hk1,rs,Zgj (Zey hby _ hE.bd) _,by omega,λ h=>by rw [h] at hk1;simp at hk1,hw⟩,by dsimp only;omega⟩
end
end Go.Proofs.YtkfedbncmfnpnaaGreatDoor
