/- The formulas of functions of this seat's translation, printed by a program of mine off the translation; each is proved equal to 'fnF' of the function's body, so it is enough for the call. No condition. -/
import Derived.Test.YtkfedbncmfnpnaaGreatDoorB5
import Derived.Test.YtkfedbncmfnpnaaGreatDoorB2
import Derived.Test.YtkfedbncmfnpnaaGreatDoorB4
import Derived.Lib.SlBytesConst
namespace Go.Proofs.YtkfedbncmfnpnaaGreatDoor
open Go Go.VC
set_option linter.unusedVariables false
set_option maxRecDepth 10000
def B95 (o:Int) (K:Value→World→Prop) (w:World):Prop:=
 New (.cells #[.int .u8 119,.int .u8 97,.int .u8 108,.int .u8 45,.int .u8 48,.int .u8 48,.int .u8 48,.int .u8 48,.int .u8 48,.int .u8 48,.int .u8 48,.int .u8 48] 5 (0,0)) (fun n p=>
 ∃ k:World,∃ b:Sl,((convert 53 53 (.slice ((some ⟨n,0,none⟩)) 12 12)).run Tryz.prog p=.ok (.slice b.a b.len b.cap) k)∧
 ∃ (g:Int→Int→World→Prop) (l:Int→Int→World→Nat),(g o 11 k)∧∀ (q:Env) (d:Int) (c:Int) (f:World),g d c f→
 Br (decide (c ≥ 4))
 (Rng c b.len (NilP b.a fun m=>
 ∃ i:World,((Instr.storeAt 5 (.pointer ((some (Addr.add m c.toNat)))) (.int .u8 (IntKind.u8.wrap (IntKind.i64.wrap (48 + d.tmod 10))))).run Tryz.prog f=.ok () i)∧
 (g (IntKind.i64.wrap (d.tdiv 10)) (IntKind.i64.wrap (c - 1)) i)∧l (IntKind.i64.wrap (d.tdiv 10)) (IntKind.i64.wrap (c - 1)) i<l d c f))
 (∃ j:ByteArray,(∀ e,(fun e=>e=f) e→((convert 53 9 (.slice b.a b.len b.cap))).run Tryz.prog e=.ok (.string j) e)∧
 K (.string j) f)) w
def sk95:Sk:=(.seq .leaf (.seq .leaf (.seq (.seq .leaf (.block (.loop [0,4] [(.int .i64),(.int .i64)] [0,4,7,8,9,10,11,12,13,14,15,16,17,18,19] .leaf))) .leaf)))
theorem call95 (a:Int) (K:Value→World→Prop) (w:World) (h:B95 a K w):Gets Tryz.prog 95 #[.int .i64 a] w K:=cq (sk:=sk95) Tryz.func95 (by kernel_rfl) (by kernel_rfl) (by kernel_rfl) h
def B135 (c:ByteArray) (K:Value→World→Prop) (w:World):Prop:=
 ∃ (g:World→Prop),(Br ((↑c.size:Int) !=12)
 (K (.int .i64 0) w)
 (((0:Int)≤4)∧
 ((4:Int)≤(↑c.size:Int))∧
 Br (!(c.extract 0 (Int.toNat 4)).toList==(ByteArray.mk #[119,97,108,45]).toList)
 (K (.int .i64 0) w)
 (g  w)))∧
 ∀ (m:Env)  (k:World),g  k→
 ∃ (e:Int→Int→World→Prop) (l:Int→Int→World→Nat),(e 0 4 k)∧∀ (n:Env) (d:Int) (a:Int) (b:World),e d a b→
 Br (decide (a<12))
 (∃ i:UInt8,((0:Int)≤a)∧
 (c[a.toNat]? =some i)∧
 Br (decide ((↑i.toNat:Int)<48))
 (K (.int .i64 0) b)
 (∃ j:UInt8,((0:Int)≤a)∧
 (c[a.toNat]? =some j)∧
 Br (decide ((↑j.toNat:Int)>57))
 (K (.int .i64 0) b)
 (∃ f:UInt8,((0:Int)≤a)∧
 (c[a.toNat]? =some f)∧
 (e (IntKind.i64.wrap (IntKind.i64.wrap (d * 10) + IntKind.i64.wrap (IntKind.u8.wrap ((↑f.toNat:Int) - 48)))) (IntKind.i64.wrap (a + 1)) b)∧l (IntKind.i64.wrap (IntKind.i64.wrap (d * 10) + IntKind.i64.wrap (IntKind.u8.wrap ((↑f.toNat:Int) - 48)))) (IntKind.i64.wrap (a + 1)) b<l d a b)))
 (K (.int .i64 d) b)
def sk135:Sk:=(.seq .leaf (.cut [] [] [2,5,6,7,8,9,10,11,12] .leaf (.seq .leaf (.seq (.seq .leaf (.block (.loop [3,4] [(.int .i64),(.int .i64)] [2,3,4,13,14,15,16,17,18,19,20,21,22,23,24,25,26,27,28,29,30,31,32,33,34] .leaf))) .leaf))))
theorem call135 (a:ByteArray) (K:Value→World→Prop) (w:World) (h:B135 a K w):Gets Tryz.prog 135 #[.string a] w K:=cq (sk:=sk135) Tryz.func135 (by kernel_rfl) (by kernel_rfl) (by kernel_rfl) h
def B118 (n:Sl) (m:Sl) (y:Bool) (K:Value→World→Prop) (w:World):Prop:=
 ∃ (l:Sl→Int→World→Prop) (r:Sl→Int→World→Nat),(l ⟨none,0,0⟩ 0 w)∧∀ (H:Env) (b:Sl) (c:Int) (j:World),l b c j→
 Br (decide (c<(↑n.len:Int)))
 (Rng c n.len (NilP n.a fun s=>
 ∃ p:Int,(At (fun C=>C=j) (Addr.add s c.toNat) [.int .i64 p])∧
 Calls Tryz.prog 166 #[.int .u64 (IntKind.u64.wrap p)] j fun t D=>
 ∃ d:Sl,(t=.returned (.slice d.a d.len d.cap))∧
 ∃ o:World,∃ k:Sl,((Builtin.append_ #[53,53] 53 #[.slice b.a b.len b.cap,.slice d.a d.len d.cap]).run Tryz.prog D=.ok (.slice k.a k.len k.cap) o)∧
 (l k (IntKind.i64.wrap (c + 1)) o)∧r k (IntKind.i64.wrap (c + 1)) o<r b c j))
 (Br y
 (Calls Tryz.prog 167 #[.slice m.a m.len m.cap] j fun u E=>
 ∃ e:Sl,(u=.returned (.slice e.a e.len e.cap))∧
 ∃ q:World,∃ f:Sl,((Builtin.append_ #[53,53] 53 #[.slice b.a b.len b.cap,.slice e.a e.len e.cap]).run Tryz.prog E=.ok (.slice f.a f.len f.cap) q)∧
 Calls Tryz.prog 138 #[.slice f.a f.len f.cap] q fun v F=>
 ∃ g:Sl,∃ z:Int,(v=.returned (.tuple #[.slice g.a g.len g.cap,.int .i64 z]))∧
 K (.slice g.a g.len g.cap) F)
 (Calls Tryz.prog 138 #[.slice b.a b.len b.cap] j fun x G=>
 ∃ i:Sl,∃ A:Int,(x=.returned (.tuple #[.slice i.a i.len i.cap,.int .i64 A]))∧
 K (.slice i.a i.len i.cap) G))
def sk118:Sk:=(.seq .leaf (.seq .leaf (.seq (.seq .leaf (.block (.loop [7,8] [.sl,(.int .i64)] [7,8,11,12,13,14,15,16,17,18,19,20,21,22,23,24] .leaf))) .leaf)))
theorem call118 (c:Sl) (b:Sl) (d:Bool) (K:Value→World→Prop) (w:World) (h:B118 c b d K w):Gets Tryz.prog 118 #[.slice c.a c.len c.cap,.slice b.a b.len b.cap,.bool d] w K:=cq (sk:=sk118) Tryz.func118 (by kernel_rfl) (by kernel_rfl) (by kernel_rfl) h
def B139 (b:Option Addr) (x:Sl) (K:Value→World→Prop) (w:World):Prop:=
 New (.cells #[.slice x.a x.len x.cap,.int .i64 0,.bool false] 193 (0,0)) (fun d a9=>
 Calls Tryz.prog 173 #[.pointer ((some ⟨d,0,none⟩)),.int .u64 3] a9 fun az bb=>
 ∃ o:Int,(az=.returned (.int .u64 o))∧
 Calls Tryz.prog 173 #[.pointer ((some ⟨d,0,none⟩)),.int .u64 1099511627777] bb fun a0 q=>
 ∃ c:Int,(a0=.returned (.int .u64 c))∧
 ∃ (C:World→Prop),(∃ L:Bool,(At (fun e=>e=q) ⟨d,0 + 2,none⟩ [.bool L])∧
 Br L
 (K (.bool false) q)
 (Br (decide (IntKind.i64.wrap c<1))
 (K (.bool false) q)
 (Br (o==0)
 (K (.bool false) q)
 (C  q))))∧
 ∀ (bh:Env)  (r:World),C  r→
 Br (o==1)
 (Calls Tryz.prog 173 #[.pointer ((some ⟨d,0,none⟩)),.int .u64 1099511627776] r fun a1 bd=>
 ∃ M:Int,(a1=.returned (.int .u64 M))∧
 Calls Tryz.prog 173 #[.pointer ((some ⟨d,0,none⟩)),.int .u64 7] bd fun a2 be=>
 ∃ N:Int,(a2=.returned (.int .u64 N))∧
 New (.cells #[.int .i64 0,.int .i64 0,.int .i64 0,.slice none 0 0] 55 (0,0)) (fun y bf=>
 ∃ ao:World,((Instr.storeAt 55 (.pointer ((some ⟨y,0,none⟩))) (.agg #[.int .i64 (IntKind.i64.wrap c),.int .i64 (IntKind.i64.wrap M),.int .i64 (IntKind.i64.wrap N),.slice none 0 0])).run Tryz.prog bf=.ok () ao)∧
 Calls Tryz.prog 177 #[.pointer ((some ⟨d,0,none⟩)),.int .i64 4096] ao fun a3 bg=>
 ∃ i:Sl,(a3=.returned (.slice i.a i.len i.cap))∧
 ∃ ac:World,((Instr.storeAt 53 (.pointer ((some ⟨y,0 + 3,none⟩))) (.slice i.a i.len i.cap)).run Tryz.prog bg=.ok () ac)∧
 Calls Tryz.prog 174 #[.pointer ((some ⟨d,0,none⟩))] ac fun a4 v=>
 ∃ O:Bool,(a4=.returned (.bool O))∧
 Br (!O)
 (K (.bool false) v)
 (Br (decide (IntKind.i64.wrap c>1099511627776))
 (K (.bool false) v)
 (NilP b fun ar=>
 ∃ Q:Int,∃ j:Sl,(At (fun e=>e=v) ar [.int .i64 Q,.slice j.a j.len j.cap])∧
 Calls Tryz.prog 30 #[.agg #[.int .i64 Q,.slice j.a j.len j.cap]] v fun a5 ad=>
 ∃ T:Int,(a5=.returned (.int .i64 T))∧
 Br (IntKind.i64.wrap c !=IntKind.i64.wrap (T + 1))
 (K (.bool false) ad)
 (Drw ad fun s ba=>
 NilP b fun G=>
 ∃ k:Sl,(At s ⟨G.block,G.off + 1,none⟩ [.slice k.a k.len k.cap])∧
 ∃ U:Int,∃ V:Int,∃ X:Int,∃ l:Sl,(At s ⟨y,0,none⟩ [.int .i64 U,.int .i64 V,.int .i64 X,.slice l.a l.len l.cap])∧
 New (.cells #[.int .i64 U,.int .i64 V,.int .i64 X,.slice l.a l.len l.cap] 55 (0,0)) (fun ay ae=>
 (s ae)∧
 ∃ z:World,∃ m:Sl,((Builtin.append_ #[40,40] 40 #[.slice k.a k.len k.cap,.slice ((some ⟨ay,0,none⟩)) 1 1]).run Tryz.prog ae=.ok (.slice m.a m.len m.cap) z)∧
 (s z)∧
 NilP b fun H=>
 ∃ af:World,((Instr.storeAt 40 (.pointer ((some ⟨H.block,H.off + 1,none⟩))) (.slice m.a m.len m.cap)).run Tryz.prog z=.ok () af)∧
 K (.bool true) af) ba)))) be)
 (Br (o==2)
 (Calls Tryz.prog 174 #[.pointer ((some ⟨d,0,none⟩))] r fun a6 p=>
 ∃ Y:Bool,(a6=.returned (.bool Y))∧
 Br (!Y)
 (K (.bool false) p)
 (NilP b fun au=>
 ∃ Z:Int,(At (fun e=>e=p) (Addr.add au 0) [.int .i64 Z])∧
 Br (decide (IntKind.i64.wrap c≤Z))
 (NilP b fun av=>
 ∃ ag:World,((Instr.storeAt 3 (.pointer ((some (Addr.add av 0)))) (.int .i64 (IntKind.i64.wrap (IntKind.i64.wrap c - 1)))).run Tryz.prog p=.ok () ag)∧
 NilP b fun I=>
 ∃ ah:World,((Instr.storeAt 40 (.pointer ((some ⟨I.block,I.off + 1,none⟩))) (.slice none 0 0)).run Tryz.prog ag=.ok () ah)∧
 K (.bool true) ah)
 (NilP b fun aw=>
 ∃ aa:Int,∃ n:Sl,(At (fun e=>e=p) aw [.int .i64 aa,.slice n.a n.len n.cap])∧
 Calls Tryz.prog 30 #[.agg #[.int .i64 aa,.slice n.a n.len n.cap]] p fun a7 ai=>
 ∃ ab:Int,(a7=.returned (.int .i64 ab))∧
 Br (decide (IntKind.i64.wrap c≤ab))
 (Drw ai fun t bc=>
 NilP b fun D=>
 ∃ f:Sl,(At t ⟨D.block,D.off + 1,none⟩ [.slice f.a f.len f.cap])∧
 NilP b fun ap=>
 ∃ u:Int,(At t (Addr.add ap 0) [.int .i64 u])∧
 ((0:Int)≤IntKind.i64.wrap (IntKind.i64.wrap (IntKind.i64.wrap c - 1) - u))∧
 ((IntKind.i64.wrap (IntKind.i64.wrap (IntKind.i64.wrap c - 1) - u):Int)≤(↑f.cap:Int))∧
 New (.cells #[] 55 (0,0)) (fun ax aj=>
 (t aj)∧
 ∃ A:World,∃ g:Sl,((Builtin.append_ #[40,40] 40 #[.slice ((some ⟨ax,0,none⟩)) 0 0,.slice f.a ((IntKind.i64.wrap (IntKind.i64.wrap (IntKind.i64.wrap c - 1) - u)).toNat) f.cap]).run Tryz.prog aj=.ok (.slice g.a g.len g.cap) A)∧
 (t A)∧
 NilP b fun E=>
 ∃ ak:World,((Instr.storeAt 40 (.pointer ((some ⟨E.block,E.off + 1,none⟩))) (.slice g.a g.len g.cap)).run Tryz.prog A=.ok () ak)∧
 K (.bool true) ak) bc)
 (K (.bool true) ai))))
 (Br (o==3)
 (Calls Tryz.prog 174 #[.pointer ((some ⟨d,0,none⟩))] r fun a8 al=>
 ∃ J:Bool,(a8=.returned (.bool J))∧
 Br (!J)
 (K (.bool false) al)
 (NilP b fun aq=>
 ∃ am:World,((Instr.storeAt 3 (.pointer ((some (Addr.add aq 0)))) (.int .i64 (IntKind.i64.wrap (IntKind.i64.wrap c - 1)))).run Tryz.prog al=.ok () am)∧
 NilP b fun F=>
 ∃ an:World,((Instr.storeAt 40 (.pointer ((some ⟨F.block,F.off + 1,none⟩))) (.slice none 0 0)).run Tryz.prog am=.ok () an)∧
 K (.bool true) an))
 (K (.bool true) r)))) w
def sk139:Sk:=(.seq .leaf (.seq .leaf (.seq .leaf (.seq .leaf (.cut [] [] [4,20,21,22,23,24,25,26,27,28,29,30,31] .leaf .leaf)))))
theorem call139 (c:Option Addr) (b:Sl) (K:Value→World→Prop) (w:World) (h:B139 c b K w):Gets Tryz.prog 139 #[.pointer c,.slice b.a b.len b.cap] w K:=cq (sk:=sk139) Tryz.func139 (by kernel_rfl) (by kernel_rfl) (by kernel_rfl) h
def B137 (d:Sl) (n:Int) (K:Value→World→Prop) (w:World):Prop:=
 New (.cells #[.slice d.a d.len d.cap,.int .i64 0,.bool false] 193 (0,0)) (fun b o=>
 Calls Tryz.prog 173 #[.pointer ((some ⟨b,0,none⟩)),.int .u64 0] o fun j p=>
 ∃ e:Int,(j=.returned (.int .u64 e))∧
 Calls Tryz.prog 173 #[.pointer ((some ⟨b,0,none⟩)),.int .u64 99999999] p fun k q=>
 ∃ f:Int,(k=.returned (.int .u64 f))∧
 Calls Tryz.prog 173 #[.pointer ((some ⟨b,0,none⟩)),.int .u64 1099511627777] q fun l r=>
 ∃ g:Int,(l=.returned (.int .u64 g))∧
 Calls Tryz.prog 174 #[.pointer ((some ⟨b,0,none⟩))] r fun m c=>
 ∃ i:Bool,(m=.returned (.bool i))∧
 Br (!i)
 (K (.int .i64 0) c)
 (Br (e !=0)
 (K (.int .i64 0) c)
 (Br (IntKind.i64.wrap f !=n)
 (K (.int .i64 0) c)
 (K (.int .i64 (IntKind.i64.wrap g)) c)))) w
theorem call137 (b:Sl) (c:Int) (K:Value→World→Prop) (w:World) (h:B137 b c K w):Gets Tryz.prog 137 #[.slice b.a b.len b.cap,.int .i64 c] w K:=cq (sk:=.leaf) Tryz.func137 (by kernel_rfl) (by kernel_rfl) (by kernel_rfl) h
def B93 (e:Option Addr) (K:Value→World→Prop) (w:World):Prop:=
 NilP e fun b4=>
 ∃ a4:Option Addr,(At (fun f=>f=w) (Addr.add b4 0) [.pointer a4])∧
 Calls Tryz.prog 43 #[.pointer a4] w fun cf cu=>
 ∃ v:Sl,(cf=.returned (.slice v.a v.len v.cap))∧
 ∃ (F:Sl→Int→World→Prop) (M:Sl→Int→World→Nat),(F ⟨none,0,0⟩ 0 cu)∧∀ (da:Env) (b:Sl) (g:Int) (x:World),F b g x→
 Br (decide (g<(↑v.len:Int)))
 (Rng g v.len (NilP v.a fun b5=>
 ∃ a5:ByteArray,(At (fun f=>f=x) (Addr.add b5 g.toNat) [.string a5])∧
 Calls Tryz.prog 135 #[.string a5] x fun cg Z=>
 ∃ U:Int,(cg=.returned (.int .i64 U))∧
 Br (decide (U>0))
 (New (.cells #[.int .i64 U] 3 (0,0)) (fun ce c9=>
 ∃ ac:World,∃ D:Sl,((Builtin.append_ #[41,41] 41 #[.slice b.a b.len b.cap,.slice ((some ⟨ce,0,none⟩)) 1 1]).run Tryz.prog c9=.ok (.slice D.a D.len D.cap) ac)∧
 (F D (IntKind.i64.wrap (g + 1)) ac)∧M D (IntKind.i64.wrap (g + 1)) ac<M b g x) Z)
 ((F b (IntKind.i64.wrap (g + 1)) Z)∧M b (IntKind.i64.wrap (g + 1)) Z<M b g x)))
 (NilP e fun an=>
 ∃ bj:World,((Instr.storeAt 59 (.pointer ((some ⟨an.block,an.off + 2,none⟩))) (.agg #[.int .i64 0,.slice none 0 0])).run Tryz.prog x=.ok () bj)∧
 NilP e fun ao=>
 ∃ bk:World,((Instr.storeAt 41 (.pointer ((some ⟨ao.block,ao.off + 4,none⟩))) (.slice none 0 0)).run Tryz.prog bj=.ok () bk)∧
 NilP e fun ap=>
 ∃ bl:World,((Instr.storeAt 41 (.pointer ((some ⟨ap.block,ap.off + 5,none⟩))) (.slice none 0 0)).run Tryz.prog bk=.ok () bl)∧
 ∃ (N:Int→World→Prop) (bm:Int→World→Nat),(N 0 bl)∧∀ (db:Env) (c:Int) (L:World),N c L→
 Br (decide (c<(↑b.len:Int)))
 (Drw L fun G cv=>
 NilP e fun b6=>
 ∃ a6:Option Addr,(At G (Addr.add b6 0) [.pointer a6])∧
 Rng c b.len (NilP b.a fun b7=>
 ∃ a7:Int,(At G (Addr.add b7 c.toNat) [.int .i64 a7])∧
 Calls Tryz.prog 95 #[.int .i64 a7] cv fun ci bb=>
 ∃ a8:ByteArray,(ci=.returned (.string a8))∧
 (G bb)∧
 Calls Tryz.prog 45 #[.pointer a6,.string a8] bb fun cj bc=>
 ∃ k:Sl,∃ cs:Int,(cj=.returned (.tuple #[.slice k.a k.len k.cap,.int .i64 cs]))∧
 (G bc)∧
 Calls Tryz.prog 136 #[.slice k.a k.len k.cap] bc fun ck cw=>
 ∃ d:Sl,∃ ct:Int,(ck=.returned (.tuple #[.slice d.a d.len d.cap,.int .i64 ct]))∧
 ∃ (z:Int→World→Prop),(Drw cw fun ad J=>
 Br (decide ((↑d.len:Int)>0))
 (Br (c==0)
 (Drw J fun ae cx=>
 Rng 0 d.len (NilP d.a fun ca=>
 ∃ l:Sl,(At ae (Addr.add ca 0) [.slice l.a l.len l.cap])∧
 Rng c b.len (NilP b.a fun bt=>
 ∃ aq:Int,(At ae (Addr.add bt c.toNat) [.int .i64 aq])∧
 Calls Tryz.prog 137 #[.slice l.a l.len l.cap,.int .i64 aq] cx fun cl cy=>
 ∃ au:Int,(cl=.returned (.int .i64 au))∧
 z au cy)))
 (Rng c b.len (NilP b.a fun b8=>
 ∃ a9:Int,(At ad (Addr.add b8 c.toNat) [.int .i64 a9])∧
 Rng (IntKind.i64.wrap (c - 1)) b.len (NilP b.a fun b9=>
 ∃ ba:Int,(At ad (Addr.add b9 ((IntKind.i64.wrap (c - 1)).toNat)) [.int .i64 ba])∧
 Br (a9==IntKind.i64.wrap (ba + 1))
 (Drw J fun af cz=>
 Rng 0 d.len (NilP d.a fun cb=>
 ∃ m:Sl,(At af (Addr.add cb 0) [.slice m.a m.len m.cap])∧
 Rng c b.len (NilP b.a fun bu=>
 ∃ ar:Int,(At af (Addr.add bu c.toNat) [.int .i64 ar])∧
 Calls Tryz.prog 137 #[.slice m.a m.len m.cap,.int .i64 ar] cz fun cm c0=>
 ∃ av:Int,(cm=.returned (.int .i64 av))∧
 z av c0)))
 (z 0 J)))))
 (z 0 J))∧
 ∀ (dc:Env) (A:Int) (E:World),z A E→
 ∃ (Q:World→Prop),(Br (A==0)
 (Drw E fun bo c1=>
 Rng c b.len (NilP b.a fun bv=>
 ∃ ay:Int,(At bo (Addr.add bv c.toNat) [.int .i64 ay])∧
 ((0:Int)≤IntKind.i64.wrap (c + 1))∧
 ((IntKind.i64.wrap (c + 1):Int)≤(↑b.len:Int))∧
 K (.tuple #[.int .i64 ay,.int .i64 0,.slice (cutA b.a (IntKind.i64.wrap (c + 1)).toNat b.cap 1) (b.len - (IntKind.i64.wrap (c + 1)).toNat) (b.cap - (IntKind.i64.wrap (c + 1)).toNat)]) c1))
 (Br (decide (c>0))
 (NilP e fun ag=>
 ∃ aw:Int,∃ n:Sl,(At (fun f=>f=E) ⟨ag.block,ag.off + 2,none⟩ [.int .i64 aw,.slice n.a n.len n.cap])∧
 Calls Tryz.prog 30 #[.agg #[.int .i64 aw,.slice n.a n.len n.cap]] E fun cn bd=>
 ∃ ax:Int,(cn=.returned (.int .i64 ax))∧
 Br (A !=IntKind.i64.wrap (ax + 1))
 (Drw bd fun bp c2=>
 Rng c b.len (NilP b.a fun bw=>
 ∃ az:Int,(At bp (Addr.add bw c.toNat) [.int .i64 az])∧
 ((0:Int)≤IntKind.i64.wrap (c + 1))∧
 ((IntKind.i64.wrap (c + 1):Int)≤(↑b.len:Int))∧
 K (.tuple #[.int .i64 az,.int .i64 0,.slice (cutA b.a (IntKind.i64.wrap (c + 1)).toNat b.cap 1) (b.len - (IntKind.i64.wrap (c + 1)).toNat) (b.cap - (IntKind.i64.wrap (c + 1)).toNat)]) c2))
 (Q  bd))
 (Q  E)))∧
 ∀ (dd:Env)  (V:World),Q  V→
 ∃ (T:World→Prop),(Br (c==0)
 (NilP e fun ah=>
 ∃ be:World,((Instr.storeAt 3 (.pointer ((some ⟨ah.block,ah.off + 2,none⟩))) (.int .i64 (IntKind.i64.wrap (A - 1)))).run Tryz.prog V=.ok () be)∧
 T  be)
 (T  V))∧
 ∀ (de:Env)  (bf:World),T  bf→
 Drw bf fun H c3=>
 NilP e fun ai=>
 ∃ o:Sl,(At H ⟨ai.block,ai.off + 4,none⟩ [.slice o.a o.len o.cap])∧
 Rng c b.len (NilP b.a fun bx=>
 ∃ a0:Int,(At H (Addr.add bx c.toNat) [.int .i64 a0])∧
 New (.cells #[.int .i64 a0] 3 (0,0)) (fun cc bg=>
 (H bg)∧
 ∃ X:World,∃ p:Sl,((Builtin.append_ #[41,41] 41 #[.slice o.a o.len o.cap,.slice ((some ⟨cc,0,none⟩)) 1 1]).run Tryz.prog bg=.ok (.slice p.a p.len p.cap) X)∧
 (H X)∧
 NilP e fun aj=>
 ∃ Y:World,((Instr.storeAt 41 (.pointer ((some ⟨aj.block,aj.off + 4,none⟩))) (.slice p.a p.len p.cap)).run Tryz.prog X=.ok () Y)∧
 NilP e fun ak=>
 ∃ q:Sl,(At (fun f=>f=Y) ⟨ak.block,ak.off + 5,none⟩ [.slice q.a q.len q.cap])∧
 New (.cells #[.int .i64 A] 3 (0,0)) (fun cd c4=>
 ∃ bh:World,∃ r:Sl,((Builtin.append_ #[41,41] 41 #[.slice q.a q.len q.cap,.slice ((some ⟨cd,0,none⟩)) 1 1]).run Tryz.prog c4=.ok (.slice r.a r.len r.cap) bh)∧
 NilP e fun al=>
 ∃ aa:World,((Instr.storeAt 41 (.pointer ((some ⟨al.block,al.off + 5,none⟩))) (.slice r.a r.len r.cap)).run Tryz.prog bh=.ok () aa)∧
 Rng 0 d.len (NilP d.a fun bz=>
 ∃ s:Sl,(At (fun f=>f=aa) (Addr.add bz 0) [.slice s.a s.len s.cap])∧
 Calls Tryz.prog 138 #[.slice s.a s.len s.cap] aa fun co c5=>
 ∃ I:Sl,∃ cq:Int,(co=.returned (.tuple #[.slice I.a I.len I.cap,.int .i64 cq]))∧
 ∃ (O:Int→Int→World→Prop) (bn:Int→Int→World→Nat),(O ((↑I.len:Int)) 1 c5)∧∀ (df:Env) (j:Int) (i:Int) (y:World),O j i y→
 Br (decide (i<(↑d.len:Int)))
 (Drw y fun bq c6=>
 NilP e fun am=>
 Rng i d.len (NilP d.a fun b0=>
 ∃ t:Sl,(At bq (Addr.add b0 i.toNat) [.slice t.a t.len t.cap])∧
 Calls Tryz.prog 139 #[.pointer ((some ⟨am.block,am.off + 2,none⟩)),.slice t.a t.len t.cap] c6 fun cp ab=>
 ∃ a1:Bool,(cp=.returned (.bool a1))∧
 Br (!a1)
 (Drw ab fun br c7=>
 Rng c b.len (NilP b.a fun b1=>
 ∃ a2:Int,(At br (Addr.add b1 c.toNat) [.int .i64 a2])∧
 ((0:Int)≤IntKind.i64.wrap (c + 1))∧
 ((IntKind.i64.wrap (c + 1):Int)≤(↑b.len:Int))∧
 K (.tuple #[.int .i64 a2,.int .i64 j,.slice (cutA b.a (IntKind.i64.wrap (c + 1)).toNat b.cap 1) (b.len - (IntKind.i64.wrap (c + 1)).toNat) (b.cap - (IntKind.i64.wrap (c + 1)).toNat)]) c7))
 (Rng i d.len (NilP d.a fun b2=>
 ∃ u:Sl,(At (fun f=>f=ab) (Addr.add b2 i.toNat) [.slice u.a u.len u.cap])∧
 Calls Tryz.prog 138 #[.slice u.a u.len u.cap] ab fun ch bi=>
 ∃ C:Sl,∃ cr:Int,(ch=.returned (.tuple #[.slice C.a C.len C.cap,.int .i64 cr]))∧
 (O (IntKind.i64.wrap (j + (↑C.len:Int))) (IntKind.i64.wrap (i + 1)) bi)∧bn (IntKind.i64.wrap (j + (↑C.len:Int))) (IntKind.i64.wrap (i + 1)) bi<bn j i y))))
 (Br (decide (j<(↑k.len:Int)))
 (Drw y fun bs c8=>
 Rng c b.len (NilP b.a fun b3=>
 ∃ a3:Int,(At bs (Addr.add b3 c.toNat) [.int .i64 a3])∧
 ((0:Int)≤IntKind.i64.wrap (c + 1))∧
 ((IntKind.i64.wrap (c + 1):Int)≤(↑b.len:Int))∧
 K (.tuple #[.int .i64 a3,.int .i64 j,.slice (cutA b.a (IntKind.i64.wrap (c + 1)).toNat b.cap 1) (b.len - (IntKind.i64.wrap (c + 1)).toNat) (b.cap - (IntKind.i64.wrap (c + 1)).toNat)]) c8))
 ((N (IntKind.i64.wrap (c + 1)) y)∧bm (IntKind.i64.wrap (c + 1)) y<bm c L)))) Y) c3)))
 (K (.tuple #[.int .i64 0,.int .i64 0,.slice none 0 0]) L))
def sk93:Sk:=(.seq .leaf (.seq .leaf (.seq .leaf (.seq (.seq .leaf (.block (.loop [5,7] [.sl,(.int .i64)] [5,7,8,27,28,29,30,31,32,33,34,35,36,37,38,39,40,41,42,43] .leaf))) (.seq .leaf (.seq .leaf (.seq .leaf (.seq (.seq .leaf (.block (.loop [9] [(.int .i64)] [2,3,4,9,10,11,12,13,14,15,16,17,18,19,20,21,54,55,56,57,58,59,60,61,62,63,64,65,66,67,68,69,70,71,72,73,74,75,76,77,78,79,80,81,82,83,84,85,86,87,88,89,90,91,92,93,94,95,96,97,98,99,100,101,102,103,104,105,106,107,108,109,110,111,112,113,114,115,116,117,118,119,120,121,122,123,124,125,126,127,128,129,130,131,132,133,134,135,136,137,138,139,140,141,142,143,144,145,146,147,148,149,150,151,152,153,154,155,156,157,158,159,160,161,162,163,164,165,166,167,168,169,170,171,172,173,174,175,176,177,178,179,180,181,182,183,184,185,186,187,188,189,190,191,192,193,194,195,196,197,198,199,200,201,202,203,204,205,206,207,208,209,210,211,212,213,214,215,216,217,218,219] (.seq .leaf (.seq (.block (.seq .leaf (.seq .leaf (.seq .leaf (.cut [14] [(.int .i64)] [14,78,79,80,81,82,83,84,85,86,87,88,89,90,91,92,93,94,95,96,97,98,99,100,101,102,103,104,105] .leaf (.cut [] [] [2,3,4,106,107,108,109,110,111,112,113,114,115,116,117,118,119,120,121,122,123,124,125,126,127,128,129] .leaf (.cut [] [] [130,131,132,133,134,135,136,137] .leaf (.seq .leaf (.seq .leaf (.seq .leaf (.seq .leaf (.seq (.seq .leaf (.block (.loop [17,18] [(.int .i64),(.int .i64)] [2,3,4,17,18,19,20,21,170,171,172,173,174,175,176,177,178,179,180,181,182,183,184,185,186,187,188,189,190,191,192,193,194,195,196,197,198,199,200,201,202,203,204,205,206] .leaf))) .leaf)))))))))))) .leaf))))) .leaf))))))))
theorem call93 (a:Option Addr) (K:Value→World→Prop) (w:World) (h:B93 a K w):Gets Tryz.prog 93 #[.pointer a] w K:=cq (sk:=sk93) Tryz.func93 (by kernel_rfl) (by kernel_rfl) (by kernel_rfl) h
def B14 (e:Option Addr) (a:Int) (K:Value→World→Prop) (w:World):Prop:=
 ∃ (c:World→Prop),(Br e.isNone
 (K (.tuple #[.pointer none,.int .i64 1]) w)
 (Br (decide (a<32))
 (K (.tuple #[.pointer none,.int .i64 1]) w)
 (Br (decide (a>65536))
 (K (.tuple #[.pointer none,.int .i64 1]) w)
 (c  w))))∧
 ∀ (k:Env)  (f:World),c  f→
 New (.cells #[.pointer e,.int .i64 a,.int .i64 0,.slice none 0 0,.slice none 0 0,.slice none 0 0,.bool false] 88 (0,0)) (fun d j=>
 Calls Tryz.prog 42 #[.pointer ((some ⟨d,0,none⟩))] j fun i g=>
 ∃ b:Int,(i=.returned (.int .i64 b))∧
 Br (b !=0)
 (K (.tuple #[.pointer none,.int .i64 b]) g)
 (K (.tuple #[.pointer ((some ⟨d,0,none⟩)),.int .i64 0]) g)) f
def sk14:Sk:=(.seq .leaf (.cut [] [] [4,5,8,9,10,11,12,13,14,15,16,17] .leaf .leaf))
theorem call14 (a:Option Addr) (b:Int) (K:Value→World→Prop) (w:World) (h:B14 a b K w):Gets Tryz.prog 14 #[.pointer a,.int .i64 b] w K:=cq (sk:=sk14) Tryz.func14 (by kernel_rfl) (by kernel_rfl) (by kernel_rfl) h
def B91 (o:Option Addr) (n:ByteArray) (K:Value→World→Prop) (w:World):Prop:=
 NilP o fun l=>
 ∃ g:Option Addr,(At (fun f=>f=w) (Addr.add l 0) [.pointer g])∧
 Calls Tryz.prog 43 #[.pointer g] w fun m p=>
 ∃ d:Sl,(m=.returned (.slice d.a d.len d.cap))∧
 ∃ (e:Int→World→Prop) (j:Int→World→Nat),(e 0 p)∧∀ (q:Env) (b:Int) (c:World),e b c→
 Br (decide (b<(↑d.len:Int)))
 (Rng b d.len (NilP d.a fun k=>
 ∃ i:ByteArray,(At (fun f=>f=c) (Addr.add k b.toNat) [.string i])∧
 Br (i.toList==n.toList)
 (K (.bool true) c)
 ((e (IntKind.i64.wrap (b + 1)) c)∧j (IntKind.i64.wrap (b + 1)) c<j b c)))
 (K (.bool false) c)
def sk91:Sk:=(.seq .leaf (.seq .leaf (.seq (.seq .leaf (.block (.loop [6] [(.int .i64)] [4,6,12,13,14,15,16,17,18,19,20,21,22,23] .leaf))) .leaf)))
theorem call91 (b:Option Addr) (a:ByteArray) (K:Value→World→Prop) (w:World) (h:B91 b a K w):Gets Tryz.prog 91 #[.pointer b,.string a] w K:=cq (sk:=sk91) Tryz.func91 (by kernel_rfl) (by kernel_rfl) (by kernel_rfl) h
def B42 (b:Option Addr) (K:Value→World→Prop) (w:World):Prop:=
 NilP b fun O=>
 ∃ v:Option Addr,(At (fun d=>d=w) (Addr.add O 0) [.pointer v])∧
 NilP v fun t=>
 ∃ x:Bool,(At (fun d=>d=w) ⟨t.block,t.off + 4,none⟩ [.bool x])∧
 Br x
 (K (.int .i64 5) w)
 (Calls Tryz.prog 91 #[.pointer b,.string (ByteArray.mk #[119,97,108,46,110,101,119])] w fun V s=>
 ∃ y:Bool,(V=.returned (.bool y))∧
 ∃ (l:World→Prop),(Br y
 (NilP b fun Q=>
 ∃ z:Option Addr,(At (fun d=>d=s) (Addr.add Q 0) [.pointer z])∧
 Calls Tryz.prog 92 #[.pointer z,.string (ByteArray.mk #[119,97,108,46,110,101,119])] s fun X G=>
 ∃ n:Int,(X=.returned (.int .i64 n))∧
 Br (n !=0)
 (K (.int .i64 n) G)
 (l  G))
 (l  s))∧
 ∀ (ae:Env)  (H:World),l  H→
 Calls Tryz.prog 93 #[.pointer b] H fun Y I=>
 ∃ o:Int,∃ A:Int,∃ e:Sl,(Y=.returned (.tuple #[.int .i64 o,.int .i64 A,.slice e.a e.len e.cap]))∧
 ∃ (m:World→Prop),(Br (decide (o>0))
 (Calls Tryz.prog 94 #[.pointer b,.int .i64 o,.int .i64 A] I fun Z J=>
 ∃ p:Int,(Z=.returned (.int .i64 p))∧
 Br (p !=0)
 (K (.int .i64 p) J)
 (m  J))
 (m  I))∧
 ∀ (af:Env)  (L:World),m  L→
 ∃ (k:Int→World→Prop) (N:Int→World→Nat),(k 0 L)∧∀ (ag:Env) (c:Int) (f:World),k c f→
 Br (decide (c<(↑e.len:Int)))
 (Drw f fun g ad=>
 NilP b fun T=>
 ∃ C:Option Addr,(At g (Addr.add T 0) [.pointer C])∧
 Rng c e.len (NilP e.a fun U=>
 ∃ D:Int,(At g (Addr.add U c.toNat) [.int .i64 D])∧
 Calls Tryz.prog 95 #[.int .i64 D] ad fun aa M=>
 ∃ E:ByteArray,(aa=.returned (.string E))∧
 (g M)∧
 Calls Tryz.prog 92 #[.pointer C,.string E] M fun ab j=>
 ∃ q:Int,(ab=.returned (.int .i64 q))∧
 (g j)∧
 Br (q !=0)
 (K (.int .i64 q) j)
 ((k (IntKind.i64.wrap (c + 1)) j)∧N (IntKind.i64.wrap (c + 1)) j<N c f)))
 (NilP b fun u=>
 ∃ i:Sl,(At (fun d=>d=f) ⟨u.block,u.off + 4,none⟩ [.slice i.a i.len i.cap])∧
 Br ((↑i.len:Int)==0)
 (Calls Tryz.prog 96 #[.pointer b,.int .i64 1,.int .i64 1] f fun ac F=>
 ∃ r:Int,(ac=.returned (.int .i64 r))∧
 Br (r !=0)
 (K (.int .i64 r) F)
 (K (.int .i64 0) F))
 (K (.int .i64 0) f)))
def sk42:Sk:=(.seq .leaf (.seq .leaf (.seq .leaf (.cut [] [] [2,4,21,22,23,24,25,26,27,28,29] .leaf (.seq .leaf (.cut [] [] [2,8,36,37,38,39,40,41,42,43,44] .leaf (.seq (.seq .leaf (.block (.loop [9] [(.int .i64)] [2,9,10,45,46,47,48,49,50,51,52,53,54,55,56,57,58,59,60,61,62,63] .leaf))) .leaf)))))))
theorem call42 (a:Option Addr) (K:Value→World→Prop) (w:World) (h:B42 a K w):Gets Tryz.prog 42 #[.pointer a] w K:=cq (sk:=sk42) Tryz.func42 (by kernel_rfl) (by kernel_rfl) (by kernel_rfl) h
def B94 (c:Option Addr) (e:Int) (d:Int) (K:Value→World→Prop) (w:World):Prop:=
 Br (d==0)
 (Drw w fun k Y=>
 NilP c fun F=>
 ∃ n:Option Addr,(At k (Addr.add F 0) [.pointer n])∧
 Calls Tryz.prog 95 #[.int .i64 e] Y fun L z=>
 ∃ o:ByteArray,(L=.returned (.string o))∧
 (k z)∧
 Calls Tryz.prog 92 #[.pointer n,.string o] z fun M ab=>
 ∃ p:Int,(M=.returned (.int .i64 p))∧
 K (.int .i64 p) ab)
 (Drw w fun l ac=>
 NilP c fun G=>
 ∃ q:Option Addr,(At l (Addr.add G 0) [.pointer q])∧
 Calls Tryz.prog 95 #[.int .i64 e] ac fun N A=>
 ∃ r:ByteArray,(N=.returned (.string r))∧
 (l A)∧
 Calls Tryz.prog 45 #[.pointer q,.string r] A fun O C=>
 ∃ b:Sl,∃ f:Int,(O=.returned (.tuple #[.slice b.a b.len b.cap,.int .i64 f]))∧
 Br (f !=0)
 (K (.int .i64 f) C)
 (Drw C fun E ad=>
 NilP c fun H=>
 ∃ s:Option Addr,(At E (Addr.add H 0) [.pointer s])∧
 ((0:Int)≤d)∧
 ((d:Int)≤(↑b.cap:Int))∧
 Calls Tryz.prog 36 #[.pointer s,.string (ByteArray.mk #[119,97,108,46,110,101,119]),.slice b.a d.toNat b.cap] ad fun Q j=>
 ∃ g:Int,(Q=.returned (.int .i64 g))∧
 Br (g !=0)
 (K (.int .i64 g) j)
 (NilP c fun I=>
 ∃ t:Option Addr,(At (fun X=>X=j) (Addr.add I 0) [.pointer t])∧
 Calls Tryz.prog 38 #[.pointer t,.string (ByteArray.mk #[119,97,108,46,110,101,119])] j fun T D=>
 ∃ i:Int,(T=.returned (.int .i64 i))∧
 Br (i !=0)
 (K (.int .i64 i) D)
 (Drw D fun m Z=>
 NilP c fun J=>
 ∃ u:Option Addr,(At m (Addr.add J 0) [.pointer u])∧
 Calls Tryz.prog 95 #[.int .i64 e] Z fun U y=>
 ∃ v:ByteArray,(U=.returned (.string v))∧
 (m y)∧
 Calls Tryz.prog 140 #[.pointer u,.string (ByteArray.mk #[119,97,108,46,110,101,119]),.string v] y fun V aa=>
 ∃ x:Int,(V=.returned (.int .i64 x))∧
 K (.int .i64 x) aa))))
theorem call94 (c:Option Addr) (a:Int) (b:Int) (K:Value→World→Prop) (w:World) (h:B94 c a b K w):Gets Tryz.prog 94 #[.pointer c,.int .i64 a,.int .i64 b] w K:=cq (sk:=.leaf) Tryz.func94 (by kernel_rfl) (by kernel_rfl) (by kernel_rfl) h
def B96 (b:Option Addr) (c:Int) (q:Int) (K:Value→World→Prop) (w:World):Prop:=
 Drw w fun d X=>
 NilP b fun aq=>
 ∃ r:Option Addr,(At d (Addr.add aq 0) [.pointer r])∧
 (Calls Tryz.prog 95 #[.int .i64 c] X fun az af=>
 ∃ N:ByteArray,(az=.returned (.string N))∧
 (d af)∧
 New (.cells #[.int .i64 0,.int .i64 c,.int .i64 q] 3 (0,0)) (fun ar ak=>
 (d ak)∧
 Calls Tryz.prog 118 #[.slice ((some ⟨ar,0,none⟩)) 3 3,.slice none 0 0,.bool false] ak fun a0 al=>
 ∃ f:Sl,(a0=.returned (.slice f.a f.len f.cap))∧
 (d al)∧
 Calls Tryz.prog 36 #[.pointer r,.string N,.slice f.a f.len f.cap] al fun a1 am=>
 ∃ s:Int,(a1=.returned (.int .i64 s))∧
 Br (s !=0)
 (K (.int .i64 s) am)
 (Drw am fun C bd=>
 NilP b fun ao=>
 ∃ Q:Option Addr,(At C (Addr.add ao 0) [.pointer Q])∧
 Calls Tryz.prog 95 #[.int .i64 c] bd fun a2 an=>
 ∃ U:ByteArray,(a2=.returned (.string U))∧
 (C an)∧
 Calls Tryz.prog 38 #[.pointer Q,.string U] an fun a3 A=>
 ∃ u:Int,(a3=.returned (.int .i64 u))∧
 Br (u !=0)
 (K (.int .i64 u) A)
 (NilP b fun E=>
 ∃ i:Sl,(At (fun e=>e=A) ⟨E.block,E.off + 4,none⟩ [.slice i.a i.len i.cap])∧
 New (.cells #[.int .i64 c] 3 (0,0)) (fun av be=>
 ∃ Y:World,∃ k:Sl,((Builtin.append_ #[41,41] 41 #[.slice i.a i.len i.cap,.slice ((some ⟨av,0,none⟩)) 1 1]).run Tryz.prog be=.ok (.slice k.a k.len k.cap) Y)∧
 NilP b fun G=>
 ∃ x:World,((Instr.storeAt 41 (.pointer ((some ⟨G.block,G.off + 4,none⟩))) (.slice k.a k.len k.cap)).run Tryz.prog Y=.ok () x)∧
 NilP b fun I=>
 ∃ m:Sl,(At (fun e=>e=x) ⟨I.block,I.off + 5,none⟩ [.slice m.a m.len m.cap])∧
 New (.cells #[.int .i64 q] 3 (0,0)) (fun ax a9=>
 ∃ Z:World,∃ o:Sl,((Builtin.append_ #[41,41] 41 #[.slice m.a m.len m.cap,.slice ((some ⟨ax,0,none⟩)) 1 1]).run Tryz.prog a9=.ok (.slice o.a o.len o.cap) Z)∧
 NilP b fun L=>
 ∃ aa:World,((Instr.storeAt 41 (.pointer ((some ⟨L.block,L.off + 5,none⟩))) (.slice o.a o.len o.cap)).run Tryz.prog Z=.ok () aa)∧
 K (.int .i64 0) aa) x) A))) af)∧
 New (.cells #[.int .i64 0,.int .i64 c,.int .i64 q] 3 (0,0)) (fun au ab=>
 (d ab)∧
 Calls Tryz.prog 95 #[.int .i64 c] ab fun a4 ac=>
 ∃ O:ByteArray,(a4=.returned (.string O))∧
 (d ac)∧
 Calls Tryz.prog 118 #[.slice ((some ⟨au,0,none⟩)) 3 3,.slice none 0 0,.bool false] ac fun a5 ad=>
 ∃ g:Sl,(a5=.returned (.slice g.a g.len g.cap))∧
 (d ad)∧
 Calls Tryz.prog 36 #[.pointer r,.string O,.slice g.a g.len g.cap] ad fun a6 ae=>
 ∃ t:Int,(a6=.returned (.int .i64 t))∧
 Br (t !=0)
 (K (.int .i64 t) ae)
 (Drw ae fun D ba=>
 NilP b fun ap=>
 ∃ T:Option Addr,(At D (Addr.add ap 0) [.pointer T])∧
 Calls Tryz.prog 95 #[.int .i64 c] ba fun a7 ag=>
 ∃ V:ByteArray,(a7=.returned (.string V))∧
 (D ag)∧
 Calls Tryz.prog 38 #[.pointer T,.string V] ag fun a8 y=>
 ∃ v:Int,(a8=.returned (.int .i64 v))∧
 Br (v !=0)
 (K (.int .i64 v) y)
 (NilP b fun F=>
 ∃ j:Sl,(At (fun e=>e=y) ⟨F.block,F.off + 4,none⟩ [.slice j.a j.len j.cap])∧
 New (.cells #[.int .i64 c] 3 (0,0)) (fun aw bb=>
 ∃ ah:World,∃ l:Sl,((Builtin.append_ #[41,41] 41 #[.slice j.a j.len j.cap,.slice ((some ⟨aw,0,none⟩)) 1 1]).run Tryz.prog bb=.ok (.slice l.a l.len l.cap) ah)∧
 NilP b fun H=>
 ∃ z:World,((Instr.storeAt 41 (.pointer ((some ⟨H.block,H.off + 4,none⟩))) (.slice l.a l.len l.cap)).run Tryz.prog ah=.ok () z)∧
 NilP b fun J=>
 ∃ n:Sl,(At (fun e=>e=z) ⟨J.block,J.off + 5,none⟩ [.slice n.a n.len n.cap])∧
 New (.cells #[.int .i64 q] 3 (0,0)) (fun ay bc=>
 ∃ ai:World,∃ p:Sl,((Builtin.append_ #[41,41] 41 #[.slice n.a n.len n.cap,.slice ((some ⟨ay,0,none⟩)) 1 1]).run Tryz.prog bc=.ok (.slice p.a p.len p.cap) ai)∧
 NilP b fun M=>
 ∃ aj:World,((Instr.storeAt 41 (.pointer ((some ⟨M.block,M.off + 5,none⟩))) (.slice p.a p.len p.cap)).run Tryz.prog ai=.ok () aj)∧
 K (.int .i64 0) aj) z) y))) X
theorem call96 (c:Option Addr) (b:Int) (a:Int) (K:Value→World→Prop) (w:World) (h:B96 c b a K w):Gets Tryz.prog 96 #[.pointer c,.int .i64 b,.int .i64 a] w K:=cq (sk:=.leaf) Tryz.func96 (by kernel_rfl) (by kernel_rfl) (by kernel_rfl) h
def B46 (f:Option Addr) (K:Value→World→Prop) (w:World):Prop:=
 NilP f fun b=>
 ∃ e:Bool,(At (fun a=>a=w) ⟨b.block,b.off + 6,none⟩ [.bool e])∧
 Br e
 (K (.int .i64 0) w)
 (NilP f fun c=>
 ∃ d:Int,(At (fun a=>a=w) ⟨c.block,c.off + 2,none⟩ [.int .i64 d])∧
 K (.int .i64 (IntKind.i64.wrap (d + 1))) w)
theorem call46 (a:Option Addr) (K:Value→World→Prop) (w:World) (h:B46 a K w):Gets Tryz.prog 46 #[.pointer a] w K:=cq (sk:=.leaf) Tryz.func46 (by kernel_rfl) (by kernel_rfl) (by kernel_rfl) h
def B47 (j:Option Addr) (K:Value→World→Prop) (w:World):Prop:=
 NilP j fun d=>
 ∃ i:Bool,(At (fun c=>c=w) ⟨d.block,d.off + 6,none⟩ [.bool i])∧
 Br i
 (K (.int .i64 0) w)
 (NilP j fun e=>
 ∃ f:Int,∃ b:Sl,(At (fun c=>c=w) ⟨e.block,e.off + 2,none⟩ [.int .i64 f,.slice b.a b.len b.cap])∧
 Calls Tryz.prog 30 #[.agg #[.int .i64 f,.slice b.a b.len b.cap]] w fun k l=>
 ∃ g:Int,(k=.returned (.int .i64 g))∧
 K (.int .i64 g) l)
theorem call47 (a:Option Addr) (K:Value→World→Prop) (w:World) (h:B47 a K w):Gets Tryz.prog 47 #[.pointer a] w K:=cq (sk:=.leaf) Tryz.func47 (by kernel_rfl) (by kernel_rfl) (by kernel_rfl) h
def B48 (i:Option Addr) (p:Int) (Z:Int) (K:Value→World→Prop) (w:World):Prop:=
 ∃ (s:World→Prop),(NilP i fun u=>
 ∃ C:Bool,(At (fun d=>d=w) ⟨u.block,u.off + 6,none⟩ [.bool C])∧
 Br C
 (K (.slice none 0 0) w)
 (NilP i fun v=>
 ∃ D:Int,(At (fun d=>d=w) ⟨v.block,v.off + 2,none⟩ [.int .i64 D])∧
 Br (decide (p≤D))
 (K (.slice none 0 0) w)
 (NilP i fun x=>
 ∃ E:Int,∃ e:Sl,(At (fun d=>d=w) ⟨x.block,x.off + 2,none⟩ [.int .i64 E,.slice e.a e.len e.cap])∧
 Calls Tryz.prog 30 #[.agg #[.int .i64 E,.slice e.a e.len e.cap]] w fun X M=>
 ∃ F:Int,(X=.returned (.int .i64 F))∧
 Br (decide (p>F))
 (K (.slice none 0 0) M)
 (s  M))))∧
 ∀ (ab:Env)  (N:World),s  N→
 ∃ (o:Sl→Int→World→Prop) (T:Sl→Int→World→Nat),(o ⟨none,0,0⟩ p N)∧∀ (ac:Env) (b:Sl) (c:Int) (m:World),o b c m→
 ∃ (t:World→Prop),(NilP i fun y=>
 ∃ G:Int,∃ f:Sl,(At (fun d=>d=m) ⟨y.block,y.off + 2,none⟩ [.int .i64 G,.slice f.a f.len f.cap])∧
 Calls Tryz.prog 30 #[.agg #[.int .i64 G,.slice f.a f.len f.cap]] m fun Y r=>
 ∃ H:Int,(Y=.returned (.int .i64 H))∧
 Br (decide (c≤H))
 (Br (decide ((↑b.len:Int)<Z))
 (t  r)
 (K (.slice b.a b.len b.cap) r))
 (K (.slice b.a b.len b.cap) r))∧
 ∀ (ad:Env)  (O:World),t  O→
 Drw O fun j aa=>
 NilP i fun z=>
 ∃ k:Sl,(At j ⟨z.block,z.off + 2 + 1,none⟩ [.slice k.a k.len k.cap])∧
 NilP i fun A=>
 ∃ q:Int,(At j ⟨A.block,A.off + 2,none⟩ [.int .i64 q])∧
 Rng (IntKind.i64.wrap (IntKind.i64.wrap (c - 1) - q)) k.len (NilP k.a fun U=>
 ∃ I:Int,∃ J:Int,∃ L:Int,∃ g:Sl,(At j (Addr.add U (mulS (IntKind.i64.wrap (IntKind.i64.wrap (c - 1) - q)).toNat 4)) [.int .i64 I,.int .i64 J,.int .i64 L,.slice g.a g.len g.cap])∧
 New (.cells #[.int .i64 I,.int .i64 J,.int .i64 L,.slice g.a g.len g.cap] 55 (0,0)) (fun V Q=>
 (j Q)∧
 ∃ n:World,∃ l:Sl,((Builtin.append_ #[40,40] 40 #[.slice b.a b.len b.cap,.slice ((some ⟨V,0,none⟩)) 1 1]).run Tryz.prog Q=.ok (.slice l.a l.len l.cap) n)∧
 (j n)∧
 (o l (IntKind.i64.wrap (c + 1)) n)∧T l (IntKind.i64.wrap (c + 1)) n<T b c m) aa)
def sk48:Sk:=(.seq .leaf (.seq .leaf (.cut [] [] [6,9,10,11,12,13,14,15,16,17,18,19,20,21,22,23,24,25,26,27,28,29,30] .leaf (.seq (.seq .leaf (.block (.loop [7,8] [.sl,(.int .i64)] [7,8,32,33,34,35,36,37,38,39,40,41,42,43,44,45,46,47,48,49,50,51,52,53,54,55,56,57,58,59,60,61,62,63,64] (.cut [] [] [32,33,34,35,36,37,38,39,40,41,42,43,44] .leaf .leaf)))) .leaf))))
theorem call48 (c:Option Addr) (a:Int) (b:Int) (K:Value→World→Prop) (w:World) (h:B48 c a b K w):Gets Tryz.prog 48 #[.pointer c,.int .i64 a,.int .i64 b] w K:=cq (sk:=sk48) Tryz.func48 (by kernel_rfl) (by kernel_rfl) (by kernel_rfl) h
end Go.Proofs.YtkfedbncmfnpnaaGreatDoor
/- The formulas of functions of this seat's translation, printed by a program of mine off the translation; each is proved equal to 'fnF' of the function's body, so it is enough for the call. No condition. -/
namespace Go.Proofs.YtkfedbncmfnpnaaGreatDoor
open Go Go.VC
set_option linter.unusedVariables false
set_option maxRecDepth 10000
def B10 (t:Int) (c:Sl) (K:Value→World→Prop) (w:World):Prop:=
 Calls Tryz.prog 17 #[.int .i64 t] w fun O aa=>
 ∃ d:Option Addr,∃ u:Int,(O=.returned (.tuple #[.pointer d,.int .i64 u]))∧
 Calls Tryz.prog 34 #[.int .i64 t] aa fun Q j=>
 ∃ g:Option Addr,∃ v:Int,(Q=.returned (.tuple #[.pointer g,.int .i64 v]))∧
 ∃ (n:World→Prop),(Br (u !=0)
 (K (.tuple #[.pointer none,.pointer none,.bool false]) j)
 (Br (v !=0)
 (K (.tuple #[.pointer none,.pointer none,.bool false]) j)
 (Br d.isNone
 (K (.tuple #[.pointer none,.pointer none,.bool false]) j)
 (n  j))))∧
 ∀ (ae:Env)  (G:World),n  G→
 ∃ (k:Int→World→Prop) (I:Int→World→Nat),(k 0 G)∧∀ (af:Env) (b:Int) (i:World),k b i→
 ∃ (o:World→Prop),(Br (decide (b<(↑c.len:Int)))
 (Br (decide (b<20))
 (o  i)
 (K (.tuple #[.pointer d,.pointer g,.bool true]) i))
 (K (.tuple #[.pointer d,.pointer g,.bool true]) i))∧
 ∀ (ag:Env)  (H:World),o  H→
 Drw H fun p ab=>
 Rng b c.len (NilP c.a fun J=>
 ∃ x:ByteArray,(At p (Addr.add (Addr.add J (mulS b.toNat 2)) 0) [.string x])∧
 Rng b c.len (NilP c.a fun r=>
 ∃ e:Sl,(At p ⟨(r.add (mulS b.toNat 2)).block,(r.add (mulS b.toNat 2)).off + 1,none⟩ [.slice e.a e.len e.cap])∧
 Calls Tryz.prog 35 #[.pointer d,.string x,.slice e.a e.len e.cap] ab fun T ac=>
 ∃ y:Int,(T=.returned (.int .i64 y))∧
 Drw ac fun q ad=>
 Rng b c.len (NilP c.a fun L=>
 ∃ z:ByteArray,(At q (Addr.add (Addr.add L (mulS b.toNat 2)) 0) [.string z])∧
 Rng b c.len (NilP c.a fun s=>
 ∃ f:Sl,(At q ⟨(s.add (mulS b.toNat 2)).block,(s.add (mulS b.toNat 2)).off + 1,none⟩ [.slice f.a f.len f.cap])∧
 Calls Tryz.prog 36 #[.pointer g,.string z,.slice f.a f.len f.cap] ad fun U m=>
 ∃ A:Int,(U=.returned (.int .i64 A))∧
 Br (y !=A)
 (K (.tuple #[.pointer none,.pointer none,.bool false]) m)
 (Rng b c.len (NilP c.a fun M=>
 ∃ C:ByteArray,(At (fun l=>l=m) (Addr.add (Addr.add M (mulS b.toNat 2)) 0) [.string C])∧
 Calls Tryz.prog 37 #[.pointer d,.string C] m fun V E=>
 ∃ Y:Int,(V=.returned (.int .i64 Y))∧
 Rng b c.len (NilP c.a fun N=>
 ∃ D:ByteArray,(At (fun l=>l=E) (Addr.add (Addr.add N (mulS b.toNat 2)) 0) [.string D])∧
 Calls Tryz.prog 38 #[.pointer g,.string D] E fun X F=>
 ∃ Z:Int,(X=.returned (.int .i64 Z))∧
 (k (IntKind.i64.wrap (b + 1)) F)∧I (IntKind.i64.wrap (b + 1)) F<I b i)))))))
def sk10:Sk:=(.seq .leaf (.seq .leaf (.seq .leaf (.cut [] [] [4,5,6,24,25,26,27,28,29,30,31,32,33] .leaf (.seq (.seq .leaf (.block (.loop [11] [(.int .i64)] [4,5,6,11,12,13,34,35,36,37,38,39,40,41,42,43,44,45,46,47,48,49,50,51,52,53,54,55,56,57,58,59,60,61,62,63,64,65,66,67,68,69,70,71,72,73,74,75,76,77,78,79,80,81,82,83,84] (.cut [] [] [34,35,36,37,38,39,40,41] .leaf .leaf)))) .leaf)))))
theorem call10 (c:Int) (b:Sl) (K:Value→World→Prop) (w:World) (h:B10 c b K w):Gets Tryz.prog 10 #[.int .i64 c,.slice b.a b.len b.cap] w K:=cq (sk:=sk10) Tryz.func10 (by kernel_rfl) (by kernel_rfl) (by kernel_rfl) h
def B15 (m:Option Addr) (n:Option Addr) (K:Value→World→Prop) (w:World):Prop:=
 Calls Tryz.prog 33 #[.pointer m] w fun N V=>
 ∃ e:Sl,(N=.returned (.slice e.a e.len e.cap))∧
 Calls Tryz.prog 43 #[.pointer n] V fun O X=>
 ∃ d:Sl,(O=.returned (.slice d.a d.len d.cap))∧
 ∃ (p:World→Prop),(Drw X fun q E=>
 Br ((↑e.len:Int) !=(↑d.len:Int))
 (K (.bool false) E)
 (NilP n fun r=>
 ∃ t:Bool,(At q ⟨r.block,r.off + 4,none⟩ [.bool t])∧
 Calls Tryz.prog 40 #[.pointer m] E fun Q o=>
 ∃ s:Bool,(Q=.returned (.bool s))∧
 (q o)∧
 Br (!s==t)
 (K (.bool false) o)
 (p  o)))∧
 ∀ (Z:Env)  (F:World),p  F→
 ∃ (l:Int→World→Prop) (H:Int→World→Nat),(l 0 F)∧∀ (aa:Env) (b:Int) (i:World),l b i→
 Br (decide (b<(↑e.len:Int)))
 (Rng b d.len (NilP d.a fun I=>
 ∃ u:ByteArray,(At (fun c=>c=i) (Addr.add I b.toNat) [.string u])∧
 Calls Tryz.prog 44 #[.pointer m,.string u] i fun T G=>
 ∃ f:Sl,∃ v:Int,(T=.returned (.tuple #[.slice f.a f.len f.cap,.int .i64 v]))∧
 Rng b d.len (NilP d.a fun J=>
 ∃ x:ByteArray,(At (fun c=>c=G) (Addr.add J b.toNat) [.string x])∧
 Calls Tryz.prog 45 #[.pointer n,.string x] G fun U Y=>
 ∃ g:Sl,∃ y:Int,(U=.returned (.tuple #[.slice g.a g.len g.cap,.int .i64 y]))∧
 Drw Y fun k j=>
 Rng b e.len (NilP e.a fun L=>
 ∃ z:ByteArray,(At k (Addr.add L b.toNat) [.string z])∧
 Rng b d.len (NilP d.a fun M=>
 ∃ A:ByteArray,(At k (Addr.add M b.toNat) [.string A])∧
 Br (!z.toList==A.toList)
 (K (.bool false) j)
 (∃ C:ByteArray,(∀ c,k c→((convert 53 9 (.slice f.a f.len f.cap))).run Tryz.prog c=.ok (.string C) c)∧
 ∃ D:ByteArray,(∀ c,k c→((convert 53 9 (.slice g.a g.len g.cap))).run Tryz.prog c=.ok (.string D) c)∧
 Br (!C.toList==D.toList)
 (K (.bool false) j)
 (Br (v !=y)
 (K (.bool false) j)
 ((l (IntKind.i64.wrap (b + 1)) j)∧H (IntKind.i64.wrap (b + 1)) j<H b i))))))))
 (K (.bool true) i)
def sk15:Sk:=(.seq .leaf (.seq .leaf (.seq .leaf (.cut [] [] [4,16,17,18,19,20,21,22,23,24,25,26,27,28,29] .leaf (.seq (.seq .leaf (.block (.loop [7] [(.int .i64)] [4,7,8,9,10,11,30,31,32,33,34,35,36,37,38,39,40,41,42,43,44,45,46,47,48,49,50,51,52,53,54,55,56,57,58,59,60,61,62,63,64,65,66,67,68,69,70,71,72,73,74] .leaf))) .leaf)))))
theorem call15 (a:Option Addr) (b:Option Addr) (K:Value→World→Prop) (w:World) (h:B15 a b K w):Gets Tryz.prog 15 #[.pointer a,.pointer b] w K:=cq (sk:=sk15) Tryz.func15 (by kernel_rfl) (by kernel_rfl) (by kernel_rfl) h
def B16 (f:Option Addr) (e:Option Addr) (K:Value→World→Prop) (w:World):Prop:=
 Calls Tryz.prog 22 #[.pointer f] w fun n u=>
 ∃ d:Int,(n=.returned (.int .i64 d))∧
 Calls Tryz.prog 24 #[.pointer f] u fun o v=>
 ∃ g:Int,(o=.returned (.int .i64 g))∧
 Calls Tryz.prog 46 #[.pointer e] v fun p l=>
 ∃ i:Int,(p=.returned (.int .i64 i))∧
 Br (d !=i)
 (K (.bool false) l)
 (Calls Tryz.prog 47 #[.pointer e] l fun q m=>
 ∃ j:Int,(q=.returned (.int .i64 j))∧
 Br (g !=j)
 (K (.bool false) m)
 (Calls Tryz.prog 21 #[.pointer f,.int .i64 d,.int .i64 100000] m fun r x=>
 ∃ b:Sl,(r=.returned (.slice b.a b.len b.cap))∧
 Calls Tryz.prog 48 #[.pointer e,.int .i64 d,.int .i64 100000] x fun s y=>
 ∃ c:Sl,(s=.returned (.slice c.a c.len c.cap))∧
 Calls Tryz.prog 20 #[.slice b.a b.len b.cap,.slice c.a c.len c.cap] y fun t z=>
 ∃ k:Bool,(t=.returned (.bool k))∧
 K (.bool k) z))
theorem call16 (b:Option Addr) (a:Option Addr) (K:Value→World→Prop) (w:World) (h:B16 b a K w):Gets Tryz.prog 16 #[.pointer b,.pointer a] w K:=cq (sk:=.leaf) Tryz.func16 (by kernel_rfl) (by kernel_rfl) (by kernel_rfl) h
def B3 (b:Sl) (o:Int) (j:Int) (K:Value→World→Prop) (w:World):Prop:=
 Calls Tryz.prog 8 #[] w fun y L=>
 ∃ d:Bool,(y=.returned (.bool d))∧
 Calls Tryz.prog 9 #[.slice b.a b.len b.cap,.slice none 0 0] L fun z l=>
 ∃ p:Bool,(z=.returned (.bool p))∧
 ∃ (n:World→Prop),(Br (!d)
 (K (.bool d) l)
 (Br p
 (K (.bool d) l)
 (n  l)))∧
 ∀ (U:Env)  (v:World),n  v→
 Calls Tryz.prog 10 #[.int .i64 100000,.slice b.a b.len b.cap] v fun A m=>
 ∃ e:Option Addr,∃ f:Option Addr,∃ q:Bool,(A=.returned (.tuple #[.pointer e,.pointer f,.bool q]))∧
 Br (!q)
 (K (.bool false) m)
 (∃ (i:World→Prop),(Br (decide (j ≥ 0))
 (Calls Tryz.prog 11 #[.pointer e,.int .i64 j] m fun C N=>
 ∃ I:Int,(C=.returned (.int .i64 I))∧
 Calls Tryz.prog 12 #[.pointer f,.int .i64 j] N fun D O=>
 ∃ J:Int,(D=.returned (.int .i64 J))∧
 i  O)
 (i  m))∧
 ∀ (V:Env)  (x:World),i  x→
 Calls Tryz.prog 13 #[.pointer e,.int .i64 o] x fun E Q=>
 ∃ g:Option Addr,∃ r:Int,(E=.returned (.tuple #[.pointer g,.int .i64 r]))∧
 Calls Tryz.prog 14 #[.pointer f,.int .i64 o] Q fun F T=>
 ∃ k:Option Addr,∃ s:Int,(F=.returned (.tuple #[.pointer k,.int .i64 s]))∧
 Calls Tryz.prog 15 #[.pointer e,.pointer f] T fun G c=>
 ∃ t:Bool,(G=.returned (.bool t))∧
 Br (r !=s)
 (K (.bool false) c)
 (Br (!g.isNone==k.isNone)
 (K (.bool false) c)
 (Br (!t)
 (K (.bool false) c)
 (Br g.isNone
 (K (.bool true) c)
 (Calls Tryz.prog 16 #[.pointer g,.pointer k] c fun H M=>
 ∃ u:Bool,(H=.returned (.bool u))∧
 K (.bool u) M)))))
def sk3:Sk:=(.seq .leaf (.seq .leaf (.seq .leaf (.cut [] [] [6,20,21,22,23,24,25] .leaf (.seq .leaf (.seq .leaf (.cut [] [] [34,35,36,37,38,39,40,41] .leaf .leaf)))))))
theorem call3 (b:Sl) (d:Int) (c:Int) (K:Value→World→Prop) (w:World) (h:B3 b d c K w):Gets Tryz.prog 3 #[.slice b.a b.len b.cap,.int .i64 d,.int .i64 c] w K:=cq (sk:=sk3) Tryz.func3 (by kernel_rfl) (by kernel_rfl) (by kernel_rfl) h
end Go.Proofs.YtkfedbncmfnpnaaGreatDoor
/- The formulas of functions of this seat's translation, printed by a program of mine off the translation; each is proved equal to 'fnF' of the function's body, so it is enough for the call. No condition. -/
namespace Go.Proofs.YtkfedbncmfnpnaaGreatDoor
open Go Go.VC
set_option linter.unusedVariables false
set_option maxRecDepth 10000
def B166 (n:Int) (K:Value→World→Prop) (w:World):Prop:=
 ∃ (g:Int→Sl→World→Prop) (k:Int→Sl→World→Nat),(g n ⟨none,0,0⟩ w)∧∀ (q:Env) (c:Int) (b:Sl) (f:World),g c b f→
 Br (decide (c>0))
 (New (.cells #[.int .u8 (IntKind.u8.wrap (c.tmod 256))] 5 (0,0)) (fun m o=>
 ∃ i:World,∃ e:Sl,((Builtin.append_ #[53,53] 53 #[.slice ((some ⟨m,0,none⟩)) 1 1,.slice b.a b.len b.cap]).run Tryz.prog o=.ok (.slice e.a e.len e.cap) i)∧
 (g (IntKind.u64.wrap (c.tdiv 256)) e i)∧k (IntKind.u64.wrap (c.tdiv 256)) e i<k c b f) f)
 (New (.cells #[.int .u8 (IntKind.u8.wrap (↑b.len:Int))] 5 (0,0)) (fun l p=>
 ∃ j:World,∃ d:Sl,((Builtin.append_ #[53,53] 53 #[.slice ((some ⟨l,0,none⟩)) 1 1,.slice b.a b.len b.cap]).run Tryz.prog p=.ok (.slice d.a d.len d.cap) j)∧
 K (.slice d.a d.len d.cap) j) f)
def sk166:Sk:=(.seq .leaf (.seq .leaf (.seq (.block (.loop [0,3] [(.int .u64),.sl] [0,3,4,5,6,7,8,9,10,11,12,13] .leaf)) .leaf)))
theorem call166 (a:Int) (K:Value→World→Prop) (w:World) (h:B166 a K w):Gets Tryz.prog 166 #[.int .u64 a] w K:=cq (sk:=sk166) Tryz.func166 (by kernel_rfl) (by kernel_rfl) (by kernel_rfl) h
def B167 (d:Sl) (K:Value→World→Prop) (w:World):Prop:=
 Calls Tryz.prog 166 #[.int .u64 (IntKind.u64.wrap (↑d.len:Int))] w fun f g=>
 ∃ b:Sl,(f=.returned (.slice b.a b.len b.cap))∧
 ∃ e:World,∃ c:Sl,((Builtin.append_ #[53,53] 53 #[.slice b.a b.len b.cap,.slice d.a d.len d.cap]).run Tryz.prog g=.ok (.slice c.a c.len c.cap) e)∧
 K (.slice c.a c.len c.cap) e
theorem call167 (b:Sl) (K:Value→World→Prop) (w:World) (h:B167 b K w):Gets Tryz.prog 167 #[.slice b.a b.len b.cap] w K:=cq (sk:=.leaf) Tryz.func167 (by kernel_rfl) (by kernel_rfl) (by kernel_rfl) h
def B207 (b:Option Addr) (K:Value→World→Prop) (w:World):Prop:=
 ∃ (E:World→Prop),(Drw w fun t D=>
 NilP b fun F=>
 ∃ N:Bool,(At t ⟨F.block,F.off + 2,none⟩ [.bool N])∧
 Br N
 (K (.tuple #[.int .u64 0,.bool false,.int .i64 0]) D)
 (NilP b fun G=>
 ∃ O:Int,(At t ⟨G.block,G.off + 1,none⟩ [.int .i64 O])∧
 NilP b fun ad=>
 ∃ o:Sl,(At t (Addr.add ad 0) [.slice o.a o.len o.cap])∧
 Br (decide (O ≥ (↑o.len:Int)))
 (K (.tuple #[.int .u64 0,.bool false,.int .i64 0]) D)
 (E  D)))∧
 ∀ (am:Env)  (V:World),E  V→
 Drw V fun u X=>
 NilP b fun ae=>
 ∃ k:Sl,(At u (Addr.add ae 0) [.slice k.a k.len k.cap])∧
 NilP b fun H=>
 ∃ y:Int,(At u ⟨H.block,H.off + 1,none⟩ [.int .i64 y])∧
 Rng y k.len (NilP k.a fun af=>
 ∃ g:Int,(At u (Addr.add af y.toNat) [.int .u8 g])∧
 ∃ (s:Int→World→Prop),(Br (decide (IntKind.i64.wrap g ≥ 16))
 (s (IntKind.i64.wrap (IntKind.i64.wrap g - 16)) X)
 (s (IntKind.i64.wrap g) X))∧
 ∀ (an:Env) (e:Int) (Y:World),s e Y→
 ∃ (i:World→Prop),(Drw Y fun d c=>
 Br (decide (e>8))
 (K (.tuple #[.int .u64 0,.bool false,.int .i64 0]) c)
 (NilP b fun I=>
 ∃ Q:Int,(At d ⟨I.block,I.off + 1,none⟩ [.int .i64 Q])∧
 NilP b fun ag=>
 ∃ p:Sl,(At d (Addr.add ag 0) [.slice p.a p.len p.cap])∧
 Br (decide (IntKind.i64.wrap (IntKind.i64.wrap (Q + 1) + e)>(↑p.len:Int)))
 (K (.tuple #[.int .u64 0,.bool false,.int .i64 0]) c)
 (Br (decide (IntKind.i64.wrap g ≥ 16))
 (Br (e==0)
 (K (.tuple #[.int .u64 0,.bool false,.int .i64 0]) c)
 (Br (decide (e>0))
 (NilP b fun ah=>
 ∃ l:Sl,(At d (Addr.add ah 0) [.slice l.a l.len l.cap])∧
 NilP b fun J=>
 ∃ z:Int,(At d ⟨J.block,J.off + 1,none⟩ [.int .i64 z])∧
 Rng (IntKind.i64.wrap (z + 1)) l.len (NilP l.a fun aj=>
 ∃ T:Int,(At d (Addr.add aj ((IntKind.i64.wrap (z + 1)).toNat)) [.int .u8 T])∧
 Br (T==0)
 (K (.tuple #[.int .u64 0,.bool false,.int .i64 0]) c)
 (i  c)))
 (i  c)))
 (Br (decide (e>0))
 (NilP b fun ai=>
 ∃ m:Sl,(At d (Addr.add ai 0) [.slice m.a m.len m.cap])∧
 NilP b fun L=>
 ∃ A:Int,(At d ⟨L.block,L.off + 1,none⟩ [.int .i64 A])∧
 Rng (IntKind.i64.wrap (A + 1)) m.len (NilP m.a fun ak=>
 ∃ U:Int,(At d (Addr.add ak ((IntKind.i64.wrap (A + 1)).toNat)) [.int .u8 U])∧
 Br (U==0)
 (K (.tuple #[.int .u64 0,.bool false,.int .i64 0]) c)
 (i  c)))
 (i  c)))))∧
 ∀ (ao:Env)  (Z:World),i  Z→
 ∃ (r:Int→Int→World→Prop) (ab:Int→Int→World→Nat),(r 0 0 Z)∧∀ (ap:Env) (j:Int) (f:Int) (q:World),r j f q→
 Br (decide (f<e))
 (Drw q fun v aa=>
 NilP b fun al=>
 ∃ n:Sl,(At v (Addr.add al 0) [.slice n.a n.len n.cap])∧
 NilP b fun M=>
 ∃ C:Int,(At v ⟨M.block,M.off + 1,none⟩ [.int .i64 C])∧
 Rng (IntKind.i64.wrap (IntKind.i64.wrap (C + 1) + f)) n.len (NilP n.a fun ac=>
 ∃ x:Int,(At v (Addr.add ac ((IntKind.i64.wrap (IntKind.i64.wrap (C + 1) + f)).toNat)) [.int .u8 x])∧
 (r (IntKind.u64.wrap (IntKind.u64.wrap (j * 256) + IntKind.u64.wrap x)) (IntKind.i64.wrap (f + 1)) aa)∧ab (IntKind.u64.wrap (IntKind.u64.wrap (j * 256) + IntKind.u64.wrap x)) (IntKind.i64.wrap (f + 1)) aa<ab j f q))
 (K (.tuple #[.int .u64 j,.bool (decide (IntKind.i64.wrap g ≥ 16)),.int .i64 (IntKind.i64.wrap (e + 1))]) q))
def sk207:Sk:=(.seq .leaf (.cut [] [] [2,3,4,9,10,11,12,13,14,15,16,17,18,19,20,21,22,23,24] .leaf (.seq .leaf (.seq .leaf (.cut [5] [(.int .i64)] [5,38,39,40] .leaf (.cut [] [] [2,3,4,41,42,43,44,45,46,47,48,49,50,51,52,53,54,55,56,57,58,59,60,61,62,63,64,65,66,67,68,69,70,71,72,73,74,75,76,77,78,79,80,81,82] .leaf (.seq .leaf (.seq (.seq .leaf (.block (.loop [7,8] [(.int .u64),(.int .i64)] [7,8,83,84,85,86,87,88,89,90,91,92,93,94,95,96,97,98,99,100,101,102,103,104] .leaf))) .leaf))))))))
theorem call207 (a:Option Addr) (K:Value→World→Prop) (w:World) (h:B207 a K w):Gets Tryz.prog 207 #[.pointer a] w K:=cq (sk:=sk207) Tryz.func207 (by kernel_rfl) (by kernel_rfl) (by kernel_rfl) h
def B173 (a:Option Addr) (t:Int) (K:Value→World→Prop) (w:World):Prop:=
 Calls Tryz.prog 207 #[.pointer a] w fun s b=>
 ∃ c:Int,∃ m:Bool,∃ d:Int,(s=.returned (.tuple #[.int .u64 c,.bool m,.int .i64 d]))∧
 ∃ (f:World→Prop),(Br (d==0)
 (NilP a fun g=>
 ∃ o:World,((Instr.storeAt 4 (.pointer ((some ⟨g.block,g.off + 2,none⟩))) (.bool true)).run Tryz.prog b=.ok () o)∧
 K (.int .u64 0) o)
 (Br m
 (NilP a fun i=>
 ∃ p:World,((Instr.storeAt 4 (.pointer ((some ⟨i.block,i.off + 2,none⟩))) (.bool true)).run Tryz.prog b=.ok () p)∧
 K (.int .u64 0) p)
 (Br (decide (c>t))
 (NilP a fun j=>
 ∃ q:World,((Instr.storeAt 4 (.pointer ((some ⟨j.block,j.off + 2,none⟩))) (.bool true)).run Tryz.prog b=.ok () q)∧
 K (.int .u64 0) q)
 (f  b))))∧
 ∀ (v:Env)  (e:World),f  e→
 NilP a fun k=>
 ∃ n:Int,(At (fun u=>u=e) ⟨k.block,k.off + 1,none⟩ [.int .i64 n])∧
 NilP a fun l=>
 ∃ r:World,((Instr.storeAt 3 (.pointer ((some ⟨l.block,l.off + 1,none⟩))) (.int .i64 (IntKind.i64.wrap (n + d)))).run Tryz.prog e=.ok () r)∧
 K (.int .u64 c) r
def sk173:Sk:=(.seq .leaf (.seq .leaf (.cut [] [] [4,14,15,16,17,18,19,20,21,22,23,24,25,26] .leaf .leaf)))
theorem call173 (b:Option Addr) (a:Int) (K:Value→World→Prop) (w:World) (h:B173 b a K w):Gets Tryz.prog 173 #[.pointer b,.int .u64 a] w K:=cq (sk:=sk173) Tryz.func173 (by kernel_rfl) (by kernel_rfl) (by kernel_rfl) h
def B177 (b:Option Addr) (A:Int) (K:Value→World→Prop) (w:World):Prop:=
 Calls Tryz.prog 207 #[.pointer b] w fun Q U=>
 ∃ k:Int,∃ C:Bool,∃ c:Int,(Q=.returned (.tuple #[.int .u64 k,.bool C,.int .i64 c]))∧
 ∃ (o:World→Prop),(Drw U fun p g=>
 Br (c==0)
 (NilP b fun r=>
 ∃ F:World,((Instr.storeAt 4 (.pointer ((some ⟨r.block,r.off + 2,none⟩))) (.bool true)).run Tryz.prog g=.ok () F)∧
 K (.slice none 0 0) F)
 (Br C
 (NilP b fun s=>
 ∃ G:World,((Instr.storeAt 4 (.pointer ((some ⟨s.block,s.off + 2,none⟩))) (.bool true)).run Tryz.prog g=.ok () G)∧
 K (.slice none 0 0) G)
 (Br (decide (A<0))
 (NilP b fun t=>
 ∃ H:World,((Instr.storeAt 4 (.pointer ((some ⟨t.block,t.off + 2,none⟩))) (.bool true)).run Tryz.prog g=.ok () H)∧
 K (.slice none 0 0) H)
 (Br (decide (k>IntKind.u64.wrap A))
 (NilP b fun u=>
 ∃ I:World,((Instr.storeAt 4 (.pointer ((some ⟨u.block,u.off + 2,none⟩))) (.bool true)).run Tryz.prog g=.ok () I)∧
 K (.slice none 0 0) I)
 (NilP b fun M=>
 ∃ l:Sl,(At p (Addr.add M 0) [.slice l.a l.len l.cap])∧
 NilP b fun q=>
 ∃ D:Int,(At p ⟨q.block,q.off + 1,none⟩ [.int .i64 D])∧
 Br (decide (k>IntKind.u64.wrap (IntKind.i64.wrap (IntKind.i64.wrap ((↑l.len:Int) - D) - c))))
 (NilP b fun v=>
 ∃ J:World,((Instr.storeAt 4 (.pointer ((some ⟨v.block,v.off + 2,none⟩))) (.bool true)).run Tryz.prog g=.ok () J)∧
 K (.slice none 0 0) J)
 (o  g))))))∧
 ∀ (X:Env)  (n:World),o  n→
 NilP b fun x=>
 ∃ d:Int,(At (fun T=>T=n) ⟨x.block,x.off + 1,none⟩ [.int .i64 d])∧
 NilP b fun y=>
 ∃ L:World,((Instr.storeAt 3 (.pointer ((some ⟨y.block,y.off + 1,none⟩))) (.int .i64 (IntKind.i64.wrap (IntKind.i64.wrap (d + c) + IntKind.i64.wrap k)))).run Tryz.prog n=.ok () L)∧
 Drw L fun j V=>
 NilP b fun N=>
 ∃ e:Sl,(At j (Addr.add N 0) [.slice e.a e.len e.cap])∧
 NilP b fun z=>
 ∃ i:Int,(At j ⟨z.block,z.off + 1,none⟩ [.int .i64 i])∧
 ((0:Int)≤i)∧
 ((i:Int)≤(↑e.cap:Int))∧
 ((0:Int)≤IntKind.i64.wrap (d + c))∧
 ((IntKind.i64.wrap (d + c):Int)≤(↑i.toNat:Int))∧
 New (.cells #[] 5 (0,0)) (fun O E=>
 (j E)∧
 ∃ m:World,∃ f:Sl,((Builtin.append_ #[53,53] 53 #[.slice ((some ⟨O,0,none⟩)) 0 0,.slice (cutA e.a (IntKind.i64.wrap (d + c)).toNat e.cap 1) (i.toNat - (IntKind.i64.wrap (d + c)).toNat) (e.cap - (IntKind.i64.wrap (d + c)).toNat)]).run Tryz.prog E=.ok (.slice f.a f.len f.cap) m)∧
 (j m)∧
 K (.slice f.a f.len f.cap) m) V
def sk177:Sk:=(.seq .leaf (.seq .leaf (.cut [] [] [4,15,16,17,18,19,20,21,22,23,24,25,26,27,28,29,30,31,32,33,34,35,36,37,38,39,40,41,42,43,44,45,46,47,48,49] .leaf .leaf)))
theorem call177 (b:Option Addr) (a:Int) (K:Value→World→Prop) (w:World) (h:B177 b a K w):Gets Tryz.prog 177 #[.pointer b,.int .i64 a] w K:=cq (sk:=sk177) Tryz.func177 (by kernel_rfl) (by kernel_rfl) (by kernel_rfl) h
def B174 (d:Option Addr) (K:Value→World→Prop) (w:World):Prop:=
 Drw w fun c j=>
 NilP d fun f=>
 ∃ i:Bool,(At c ⟨f.block,f.off + 2,none⟩ [.bool i])∧
 Br (!i)
 (NilP d fun e=>
 ∃ g:Int,(At c ⟨e.block,e.off + 1,none⟩ [.int .i64 g])∧
 NilP d fun k=>
 ∃ b:Sl,(At c (Addr.add k 0) [.slice b.a b.len b.cap])∧
 K (.bool (g==(↑b.len:Int))) j)
 (K (.bool false) j)
theorem call174 (a:Option Addr) (K:Value→World→Prop) (w:World) (h:B174 a K w):Gets Tryz.prog 174 #[.pointer a] w K:=cq (sk:=.leaf) Tryz.func174 (by kernel_rfl) (by kernel_rfl) (by kernel_rfl) h
def B175 (a:Int) (K:Value→World→Prop) (w:World):Prop:=
 New (.cells #[.int .u8 (IntKind.u8.wrap (IntKind.u32.wrap (a.tdiv 16777216))),.int .u8 (IntKind.u8.wrap ((IntKind.u32.wrap (a.tdiv 65536)).tmod 256)),.int .u8 (IntKind.u8.wrap ((IntKind.u32.wrap (a.tdiv 256)).tmod 256)),.int .u8 (IntKind.u8.wrap (a.tmod 256))] 5 (0,0)) (fun b c=>
 K (.slice ((some ⟨b,0,none⟩)) 4 4) c) w
theorem call175 (a:Int) (K:Value→World→Prop) (w:World) (h:B175 a K w):Gets Tryz.prog 175 #[.int .u32 a] w K:=cq (sk:=.leaf) Tryz.func175 (by kernel_rfl) (by kernel_rfl) (by kernel_rfl) h
def B138 (c:Sl) (K:Value→World→Prop) (w:World):Prop:=
 Br (decide ((↑c.len:Int)>65536))
 (K (.tuple #[.slice none 0 0,.int .i64 3]) w)
 (Calls Tryz.prog 175 #[.int .u32 (IntKind.u32.wrap (↑c.len:Int))] w fun s v=>
 ∃ b:Sl,(s=.returned (.slice b.a b.len b.cap))∧
 New (.cells #[] 5 (0,0)) (fun q x=>
 ∃ m:World,∃ d:Sl,((Builtin.append_ #[53,53] 53 #[.slice ((some ⟨q,0,none⟩)) 0 0,.slice b.a b.len b.cap]).run Tryz.prog x=.ok (.slice d.a d.len d.cap) m)∧
 ∃ n:World,∃ e:Sl,((Builtin.append_ #[53,53] 53 #[.slice d.a d.len d.cap,.slice c.a c.len c.cap]).run Tryz.prog m=.ok (.slice e.a e.len e.cap) n)∧
 Calls Tryz.prog 176 #[.slice e.a e.len e.cap] n fun t y=>
 ∃ k:Int,(t=.returned (.int .u32 k))∧
 New (.cells #[] 5 (0,0)) (fun r z=>
 ∃ o:World,∃ f:Sl,((Builtin.append_ #[53,53] 53 #[.slice ((some ⟨r,0,none⟩)) 0 0,.slice b.a b.len b.cap]).run Tryz.prog z=.ok (.slice f.a f.len f.cap) o)∧
 Calls Tryz.prog 175 #[.int .u32 k] o fun u A=>
 ∃ g:Sl,(u=.returned (.slice g.a g.len g.cap))∧
 ∃ p:World,∃ i:Sl,((Builtin.append_ #[53,53] 53 #[.slice f.a f.len f.cap,.slice g.a g.len g.cap]).run Tryz.prog A=.ok (.slice i.a i.len i.cap) p)∧
 ∃ l:World,∃ j:Sl,((Builtin.append_ #[53,53] 53 #[.slice i.a i.len i.cap,.slice c.a c.len c.cap]).run Tryz.prog p=.ok (.slice j.a j.len j.cap) l)∧
 K (.tuple #[.slice j.a j.len j.cap,.int .i64 0]) l) y) v)
theorem call138 (b:Sl) (K:Value→World→Prop) (w:World) (h:B138 b K w):Gets Tryz.prog 138 #[.slice b.a b.len b.cap] w K:=cq (sk:=.leaf) Tryz.func138 (by kernel_rfl) (by kernel_rfl) (by kernel_rfl) h
def B136 (e:Sl) (K:Value→World→Prop) (w:World):Prop:=
 ∃ (n:Sl→Int→World→Prop) (z:Sl→Int→World→Nat),(n ⟨none,0,0⟩ 0 w)∧∀ (L:Env) (d:Sl) (b:Int) (m:World),n d b m→
 Br (decide (IntKind.i64.wrap (b + 8)≤(↑e.len:Int)))
 (∃ (o:Int→Int→World→Prop) (A:Int→Int→World→Nat),(o 0 0 m)∧∀ (M:Env) (c:Int) (i:Int) (g:World),o c i g→
 Br (decide (i<4))
 (Rng (IntKind.i64.wrap (b + i)) e.len (NilP e.a fun C=>
 ∃ p:Int,(At (fun f=>f=g) (Addr.add C ((IntKind.i64.wrap (b + i)).toNat)) [.int .u8 p])∧
 (o (IntKind.i64.wrap (IntKind.i64.wrap (c * 256) + IntKind.i64.wrap p)) (IntKind.i64.wrap (i + 1)) g)∧A (IntKind.i64.wrap (IntKind.i64.wrap (c * 256) + IntKind.i64.wrap p)) (IntKind.i64.wrap (i + 1)) g<A c i g))
 (∃ (r:World→Prop),(Br (decide (c>65536))
 (K (.tuple #[.slice d.a d.len d.cap,.int .i64 b]) g)
 (Br (decide (IntKind.i64.wrap (IntKind.i64.wrap (b + 8) + c)>(↑e.len:Int)))
 (K (.tuple #[.slice d.a d.len d.cap,.int .i64 b]) g)
 (r  g)))∧
 ∀ (N:Env)  (v:World),r  v→
 ((0:Int)≤IntKind.i64.wrap (IntKind.i64.wrap (b + 8) + c))∧
 ((IntKind.i64.wrap (IntKind.i64.wrap (b + 8) + c):Int)≤(↑e.cap:Int))∧
 ((0:Int)≤IntKind.i64.wrap (b + 8))∧
 ((IntKind.i64.wrap (b + 8):Int)≤(↑(IntKind.i64.wrap (IntKind.i64.wrap (b + 8) + c)).toNat:Int))∧
 Calls Tryz.prog 138 #[.slice (cutA e.a (IntKind.i64.wrap (b + 8)).toNat e.cap 1) ((IntKind.i64.wrap (IntKind.i64.wrap (b + 8) + c)).toNat - (IntKind.i64.wrap (b + 8)).toNat) (e.cap - (IntKind.i64.wrap (b + 8)).toNat)] v fun F H=>
 ∃ j:Sl,∃ G:Int,(F=.returned (.tuple #[.slice j.a j.len j.cap,.int .i64 G]))∧
 Drw H fun s x=>
 ∃ t:ByteArray,(∀ f,s f→((convert 53 9 (.slice j.a j.len j.cap))).run Tryz.prog f=.ok (.string t) f)∧
 ((0:Int)≤IntKind.i64.wrap (IntKind.i64.wrap (b + 8) + c))∧
 ((IntKind.i64.wrap (IntKind.i64.wrap (b + 8) + c):Int)≤(↑e.cap:Int))∧
 ((0:Int)≤b)∧
 ((b:Int)≤(↑(IntKind.i64.wrap (IntKind.i64.wrap (b + 8) + c)).toNat:Int))∧
 ∃ u:ByteArray,(∀ f,s f→((convert 53 9 (.slice (cutA e.a b.toNat e.cap 1) ((IntKind.i64.wrap (IntKind.i64.wrap (b + 8) + c)).toNat - b.toNat) (e.cap - b.toNat)))).run Tryz.prog f=.ok (.string u) f)∧
 Br (!t.toList==u.toList)
 (K (.tuple #[.slice d.a d.len d.cap,.int .i64 b]) x)
 (New (.cells #[] 5 (0,0)) (fun D I=>
 ∃ y:World,∃ k:Sl,((Builtin.append_ #[53,53] 53 #[.slice ((some ⟨D,0,none⟩)) 0 0,.slice (cutA e.a (IntKind.i64.wrap (b + 8)).toNat e.cap 1) ((IntKind.i64.wrap (IntKind.i64.wrap (b + 8) + c)).toNat - (IntKind.i64.wrap (b + 8)).toNat) (e.cap - (IntKind.i64.wrap (b + 8)).toNat)]).run Tryz.prog I=.ok (.slice k.a k.len k.cap) y)∧
 New (.cells #[.slice k.a k.len k.cap] 53 (0,0)) (fun E J=>
 ∃ q:World,∃ l:Sl,((Builtin.append_ #[139,139] 139 #[.slice d.a d.len d.cap,.slice ((some ⟨E,0,none⟩)) 1 1]).run Tryz.prog J=.ok (.slice l.a l.len l.cap) q)∧
 (n l (IntKind.i64.wrap (IntKind.i64.wrap (b + 8) + c)) q)∧z l (IntKind.i64.wrap (IntKind.i64.wrap (b + 8) + c)) q<z d b m) y) x)))
 (K (.tuple #[.slice d.a d.len d.cap,.int .i64 b]) m)
def sk136:Sk:=(.seq .leaf (.seq .leaf (.seq .leaf (.seq (.block (.loop [4,5] [.sl,(.int .i64)] [4,5,6,7,8,9,10,11,12,13,14,15,16,17,18,19,20,21,22,23,24,25,26,27,28,29,30,31,32,33,34,35,36,37,38,39,40,41,42,43,44,45,46,47,48,49,50,51,52,53,54,55,56,57,58,59,60,61,62,63,64,65,66,67,68,69,70,71,72,73,74] (.seq .leaf (.block (.seq .leaf (.seq (.seq .leaf (.block (.loop [6,7] [(.int .i64),(.int .i64)] [6,7,16,17,18,19,20,21,22,23,24,25,26,27,28,29] .leaf))) (.cut [] [] [30,31,32,33,34,35,36,37,38,39,40] .leaf .leaf))))))) .leaf))))
theorem call136 (b:Sl) (K:Value→World→Prop) (w:World) (h:B136 b K w):Gets Tryz.prog 136 #[.slice b.a b.len b.cap] w K:=cq (sk:=sk136) Tryz.func136 (by kernel_rfl) (by kernel_rfl) (by kernel_rfl) h
def B233 (a:Int) (K:Value→World→Prop) (w:World):Prop:=
 Br (a.tmod 2==1)
 (K (.int .u32 (bitI BinOp.xor IntKind.u32 (IntKind.u32.wrap (a.tdiv 2)) 2197175160)) w)
 (K (.int .u32 (IntKind.u32.wrap (a.tdiv 2))) w)
theorem call233 (a:Int) (K:Value→World→Prop) (w:World) (h:B233 a K w):Gets Tryz.prog 233 #[.int .u32 a] w K:=cq (sk:=.leaf) Tryz.func233 (by kernel_rfl) (by kernel_rfl) (by kernel_rfl) h
def B208 (s:Int) (k:Sl) (K:Value→World→Prop) (w:World):Prop:=
 ∃ (i:Int→Int→World→Prop) (o:Int→Int→World→Nat),(i (bitI BinOp.xor IntKind.u32 s 4294967295) 0 w)∧∀ (u:Env) (g:Int) (b:Int) (e:World),i g b e→
 Br (decide (b<(↑k.len:Int)))
 (Rng b k.len (NilP k.a fun q=>
 ∃ m:Int,(At (fun t=>t=e) (Addr.add q b.toNat) [.int .u8 m])∧
 ∃ (j:Int→Int→World→Prop) (p:Int→Int→World→Nat),(j (bitI BinOp.xor IntKind.u32 g (IntKind.u32.wrap m)) 0 e)∧∀ (v:Env) (d:Int) (c:Int) (f:World),j d c f→
 Br (decide (c<8))
 (Calls Tryz.prog 233 #[.int .u32 d] f fun r n=>
 ∃ l:Int,(r=.returned (.int .u32 l))∧
 (j l (IntKind.i64.wrap (c + 1)) n)∧p l (IntKind.i64.wrap (c + 1)) n<p d c f)
 ((i d (IntKind.i64.wrap (b + 1)) f)∧o d (IntKind.i64.wrap (b + 1)) f<o g b e)))
 (K (.int .u32 (bitI BinOp.xor IntKind.u32 g 4294967295)) e)
def sk208:Sk:=(.seq .leaf (.seq .leaf (.seq (.seq .leaf (.block (.loop [5,6] [(.int .u32),(.int .i64)] [5,6,7,10,11,12,13,14,15,16,17,18,19,20,21,22,23,24,25,26,27,28] (.seq .leaf (.seq (.block (.seq .leaf (.seq .leaf (.block (.loop [5,7] [(.int .u32),(.int .i64)] [5,7,23,24,25,26,27,28] .leaf))))) .leaf))))) .leaf)))
theorem call208 (c:Int) (b:Sl) (K:Value→World→Prop) (w:World) (h:B208 c b K w):Gets Tryz.prog 208 #[.int .u32 c,.slice b.a b.len b.cap] w K:=cq (sk:=sk208) Tryz.func208 (by kernel_rfl) (by kernel_rfl) (by kernel_rfl) h
def B176 (b:Sl) (K:Value→World→Prop) (w:World):Prop:=
 Calls Tryz.prog 208 #[.int .u32 0,.slice b.a b.len b.cap] w fun d e=>
 ∃ c:Int,(d=.returned (.int .u32 c))∧
 K (.int .u32 c) e
theorem call176 (b:Sl) (K:Value→World→Prop) (w:World) (h:B176 b K w):Gets Tryz.prog 176 #[.slice b.a b.len b.cap] w K:=cq (sk:=.leaf) Tryz.func176 (by kernel_rfl) (by kernel_rfl) (by kernel_rfl) h
end Go.Proofs.YtkfedbncmfnpnaaGreatDoor
/- References 01, 02: check sums; numbers and bytes as bytes, a reader. Condition: bounds on lengths. -/
namespace Go.Proofs.YtkfedbncmfnpnaaGreatDoor
set_option linter.unusedVariables false
set_option linter.unusedSimpArgs false
open Go Go.VC
variable {R:Cx} {Hs Rest:List HP} {w:World}
theorem rstep_spec {r:Nat} (hr:r<4294967296) (hw:Sat R Hs w):
    Gets Tryz.prog 233 #[.int .u32 r] w fun v w'=>v=.int .u32 (cstep r:Nat)∧Sat R Hs w':=by
  apply call233
  have e1:(r:Int).tmod 2=((r % 2:Nat):Int):=by rw [Int.ofNat_tmod];rfl
  have e2:IntKind.u32.wrap ((r:Int).tdiv 2)=((r / 2:Nat):Int):=by
    rw [show (r:Int).tdiv 2=((r / 2:Nat):Int) from (Int.ofNat_tdiv r 2).symm,wrapU32 (by omega) (by omega)]
  unfold B233 cstep
  rw [e1,e2]
  refine Br.mk (fun h=>?_) (fun h=>?_)
  · have h:r % 2=1:=by have:=of_decide_eq_true h;omega
    rw [if_pos h]
    refine ⟨?_,hw⟩
    rw [show (2197175160:Int)=((2197175160:Nat):Int) from rfl,xorU32 (by omega) (by omega)]
  · have h:¬ r % 2=1:=by have:=of_decide_eq_false h;omega
    rw [if_neg h]
    exact ⟨rfl,hw⟩
set_option maxRecDepth 20000 in
theorem radd_spec {sum:Nat} {s:Sl} {xs:List Int} (hsum:sum<4294967296) (hxs:∀ x∈xs,0≤x∧x<256) (hs:Ro R s (b8 xs)) (hw:Sat R Hs w):
    Gets Tryz.prog 208 #[.int .u32 sum,.slice s.a s.len s.cap] w fun v w'=>v=.int .u32 (crcAdd sum xs:Nat)∧Sat R Hs w':=by
  have hlen:s.len=xs.length:=by have:=hs.len;simpa using this
  have hbd:xs.length≤9223372036854775807:=by have:=hs.bound;simpa using this
  apply call208
  have hst:sum ^^^ ones32<4294967296:=xor32 hsum (by unfold ones32;omega)
  have e0:bitI BinOp.xor IntKind.u32 (sum:Int) 4294967295=((sum ^^^ ones32:Nat):Int):=by
    rw [show (4294967295:Int)=((ones32:Nat):Int) from rfl,xorU32 hsum (by unfold ones32;omega)]
  refine ⟨fun r t w=>∃ k n:Nat,t=k∧k≤xs.length∧r=n∧n<4294967296∧crcRun n (xs.drop k)=crcRun (sum ^^^ ones32) xs∧Sat R Hs w,fun _ t _=>xs.length - t.toNat,⟨0,_,rfl,by omega,e0,hst,rfl,hw⟩,?_⟩
  rintro _ _ _ w ⟨k,n,rfl,hk,rfl,hn,he,hw⟩
  refine Br.d (fun h=>?_) (fun h=>?_)
  · have hkx:k<xs.length:=by omega
    refine hs.ix (eqS hw) k rfl hkx ?_
    have hc:=hxs xs[k] (List.getElem_mem _)
    obtain ⟨c,hce⟩:=Int.eq_ofNat_of_zero_le hc.1
    have hc2:c<256:=by omega
    have e1:bitI BinOp.xor IntKind.u32 (n:Int) (IntKind.u32.wrap xs[k])=((n ^^^ c:Nat):Int):=by
      rw [hce,wrapU32 (by omega) (by omega),xorU32 hn (by omega)]
    have hnc:n ^^^ c<4294967296:=xor32 hn (by omega)
    refine ⟨fun r t w=>∃ j m:Nat,t=j∧j≤8∧r=m∧m<4294967296∧cstepN (8 - j) m=cstepN 8 (n ^^^ c)∧Sat R Hs w,fun _ t _=>8 - t.toNat,⟨0,_,rfl,by omega,e1,hnc,rfl,hw⟩,?_⟩
    clear hw
    rintro _ _ _ w ⟨j,m,rfl,hj,rfl,hm,hs8,hw⟩
    refine Br.d (fun h=>?_) (fun h=>?_)
    · refine (rstep_spec hm hw).use ?_
      rintro _ w ⟨rfl,hw⟩
      refine ⟨_,rfl,?_⟩
      rw [wrap64 (by omega) (by omega)]
      refine ⟨⟨j + 1,_,by omega,by omega,rfl,cstep_lt hm,?_,hw⟩,by dsimp only;omega⟩
      rw [←hs8,show 8 - j=(8 - (j + 1)) + 1 by omega]
      rfl
    · have:j=8:=by omega
      subst this
      rw [wrap64 (by omega) (by omega)]
      refine ⟨⟨k + 1,m,by omega,by omega,rfl,hm,?_,hw⟩,by dsimp only;omega⟩
      rw [←he,List.drop_eq_getElem_cons hkx]
      show _=crcRun (cstepN 8 (n ^^^ xs[k].toNat)) (xs.drop (k + 1))
      rw [hce,Int.toNat_natCast,←hs8]
      rfl
  · have hkx:k=xs.length:=by omega
    subst hkx
    rw [List.drop_length] at he
    have he:n=crcRun (sum ^^^ ones32) xs:=he
    refine ⟨?_,hw⟩
    unfold crcAdd
    rw [show (4294967295:Int)=((ones32:Nat):Int) from rfl,xorU32 hn (by unfold ones32;omega),he]
theorem rsum_spec {s:Sl} {xs:List Int} (hxs:∀ x∈xs,0≤x∧x<256) (hs:Ro R s (b8 xs)) (hw:Sat R Hs w):
    Gets Tryz.prog 176 #[.slice s.a s.len s.cap] w fun v w'=>v=.int .u32 (crcAdd 0 xs:Nat)∧Sat R Hs w':=by
  apply call176
  refine (radd_spec (sum:=0) (by omega) hxs hs hw).use ?_
  rintro _ w ⟨rfl,hw⟩
  exact ⟨_,rfl,rfl,hw⟩
theorem rnumber_spec {n:Nat} (hn:n<18446744073709551616) (hw:Sat R Hs w):
    Gets Tryz.prog 166 #[.int .u64 n] w fun v w'=>∃ t:Sl,v=.slice t.a t.len t.cap∧Sat R (Own t 5 (b8 (numB n))::Hs) w':=by
  apply call166
  have h8:=dig_len8 hn
  refine ⟨fun x out w=>∃ (m:Nat) (ds:List Int),x=m∧m≤n∧dig m++ds=dig n∧Sat R (Own out 5 (b8 ds)::Hs) w,fun x _ _=>x.toNat,⟨n,[],rfl,by omega,by simp,Own.nil hw⟩,?_⟩
  clear hw
  rintro _ _ out w ⟨m,ds,rfl,hm,he,hw⟩
  have hdl:ds.length≤8:=by rw [←he,List.length_append] at h8;omega
  refine Br.d (fun h=>?_) (fun h=>?_)
  · have e1:IntKind.u8.wrap ((m:Int).tmod 256)=((m % 256:Nat):Int):=by
      rw [show (m:Int).tmod 256=((m % 256:Nat):Int) from (Int.ofNat_tmod m 256).symm,wrapU8 (by omega) (by omega)]
    have e2:IntKind.u64.wrap ((m:Int).tdiv 256)=((m / 256:Nat):Int):=by
      rw [show (m:Int).tdiv 256=((m / 256:Nat):Int) from (Int.ofNat_tdiv m 256).symm,wrapU64 (by omega) (by omega)]
    rw [e1,e2]
    refine new_rule hw fun b w hw=>?_
    have hw:Sat R (Own ⟨some ⟨b,0,none⟩,1,1⟩ 5 (b8 [((m % 256:Nat):Int)])::Own out 5 (b8 ds)::Hs) w:=own_lit hw
    refine appendOO elB8 (s:=⟨some ⟨b,0,none⟩,1,1⟩) (n:=9) Tryz.underlying53 hw (by simp;omega) (by omega) (by omega) fun s' w hw=>?_
    refine ⟨⟨m / 256,[((m % 256:Nat):Int)]++ds,rfl,by omega,?_,hw.cons fun _ h=>h.drop⟩,by dsimp only;omega⟩
    rw [←List.append_assoc,←dig_pos (by omega)]
    exact he
  · have hm0:m=0:=by omega
    subst hm0
    rw [dig_zero,List.nil_append] at he
    have hol:out.len=ds.length:=by have:=Own.len hw;simpa using this
    have e1:IntKind.u8.wrap (out.len:Int)=((dig n).length:Int):=by rw [wrapU8 (by omega) (by omega),hol,he]
    rw [e1]
    refine new_rule hw fun b w hw=>?_
    have hw:Sat R (Own ⟨some ⟨b,0,none⟩,1,1⟩ 5 (b8 [((dig n).length:Int)])::Own out 5 (b8 ds)::Hs) w:=own_lit hw
    refine appendOO elB8 (s:=⟨some ⟨b,0,none⟩,1,1⟩) (n:=9) Tryz.underlying53 hw (by simp;omega) (by omega) (by omega) fun s' w hw=>?_
    have e2:numB n=[((dig n).length:Int)]++ds:=by rw [he];rfl
    rw [e2]
    exact ⟨s',rfl,hw.cons fun _ h=>h.drop⟩
theorem rtextB_spec {s:Sl} {bs:List Int} (hs:Ro R s (b8 bs)) (hl:bs.length≤1099511627776) (hw:Sat R Hs w):
    Gets Tryz.prog 167 #[.slice s.a s.len s.cap] w fun v w'=>∃ t:Sl,v=.slice t.a t.len t.cap∧Sat R (Own t 5 (b8 (textB bs))::Hs) w':=by
  have hlen:s.len=bs.length:=by have:=hs.len;simpa using this
  apply call167
  unfold B167
  rw [wrapU64 (by omega) (by omega),hlen]
  refine (rnumber_spec (by omega) hw).use ?_
  rintro _ w ⟨t,rfl,hw⟩
  refine ⟨t,rfl,?_⟩
  rw [←hlen]
  have hn:=numB_len (n:=bs.length) (by omega)
  refine appendRI elB8 (n:=1099511627790) Tryz.underlying53 hw hs (by omega) (by omega) (by omega) fun s2 w hw=>?_
  exact ⟨s2,rfl,hw⟩
abbrev rrCells (s:Sl) (n:Nat) (bad:Bool):Obj:=.cells [.slice s.a s.len s.cap,.int .i64 n,.bool bad].toArray 193 (0,0)
def RRdAt (r:Nat) (s:Sl) (bs:List Int) (rd:Rd):HP:=exs fun n:Nat=>Star [pur (n≤bs.length∧bs.drop n=rd.bs),pts r (rrCells s n rd.bad)]
theorem Sat.rrd {r:Nat} {s:Sl} {bs:List Int} {rd:Rd}:Sat R (RRdAt r s bs rd::Hs) w↔∃ n:Nat,(n≤bs.length∧bs.drop n=rd.bs)∧Sat R (pts r (rrCells s n rd.bad)::Hs) w:=by
  unfold RRdAt
  rw [Sat.exs]
  constructor
  · rintro ⟨n,h⟩
    have h:=Sat.star.1 h
    have h:Sat R (pur _::pts r _::Hs) w:=h
    rw [Sat.pur] at h
    exact ⟨n,h⟩
  · rintro ⟨n,h⟩
    exact ⟨n,Sat.star.2 (by show Sat R (pur _::pts r _::Hs) w;rw [Sat.pur];exact h)⟩
theorem p256 {a b:Nat} (h:a≤b):(256:Int) ^ a≤256 ^ b:=by
  rw [show (256:Int)=((256:Nat):Int) from rfl,←Int.natCast_pow,←Int.natCast_pow]
  exact Int.ofNat_le.2 (Nat.pow_le_pow_right (by omega) h)
def nextR (rd:Rd):Int × Bool × Int:=if rd.bad then (0,false,0) else match parse rd.bs with|some (n,neg,k)=>(n,neg,(k:Int))|none=>(0,false,0)
theorem rnext_spec {r:Nat} {s:Sl} {bs:List Int} {n:Nat} {bad:Bool} (hl:bs.length≤1099511627776) (hb:∀ x∈bs,0≤x∧x<256) (hs:SlR R.m s (b8 bs)) (hn:n≤bs.length) (hw:Sat R (pts r (rrCells s n bad)::Hs) w):
    Gets Tryz.prog 207 #[.pointer (some ⟨r,0,none⟩)] w fun v w'=>v=.tuple #[.int .u64 (nextR ⟨bs.drop n,bad⟩).1,.bool (nextR ⟨bs.drop n,bad⟩).2.1,.int .i64 (nextR ⟨bs.drop n,bad⟩).2.2]∧Sat R (pts r (rrCells s n bad)::Hs) w':=by
  have hlen:s.len=bs.length:=by have:=hs.len;simpa using this
  apply call207
  have no:nextR ⟨bs.drop n,bad⟩=(0,false,0)→∀ {w},Sat R (pts r (rrCells s n bad)::Hs) w→(Value.tuple #[.int .u64 0,.bool false,.int .i64 0]=.tuple #[.int .u64 (nextR ⟨bs.drop n,bad⟩).1,.bool (nextR ⟨bs.drop n,bad⟩).2.1,.int .i64 (nextR ⟨bs.drop n,bad⟩).2.2]∧Sat R (pts r (rrCells s n bad)::Hs) w):=fun e {w} hw=>by
    rw [e];exact ⟨rfl,hw⟩
  refine ⟨fun w=>(bad=false∧n<bs.length)∧Sat R (pts r (rrCells s n bad)::Hs) w,drw_rule hw fun w hw=>?_,?_⟩
  · refine NilP.mk rfl ⟨bad,At.own selfS (by exact ⟨rfl,trivial⟩),Br.mk (fun h=>no (by unfold nextR;rw [if_pos h]) hw) (fun h=>?_)⟩
    refine NilP.mk rfl ⟨n,At.own selfS (by exact ⟨rfl,trivial⟩),NilP.mk rfl ⟨s,At.own selfS (by exact ⟨rfl,trivial⟩),?_⟩⟩
    rw [hlen]
    refine Br.d (fun h2=>no ?_ hw) (fun h2=>⟨⟨h,by omega⟩,hw⟩)
    unfold nextR
    simp only
    rw [List.drop_eq_nil_of_le (by omega)]
    split<;>rfl
  clear hw
  rintro _ w ⟨⟨hbad,hlt⟩,hw⟩
  have hc:=hb bs[n] (List.getElem_mem _)
  have hd:bs.drop n=bs[n]::bs.drop (n + 1):=List.drop_eq_getElem_cons hlt
  have e0:IntKind.i64.wrap bs[n]=bs[n]:=wrap64 (by omega) (by omega)
  have nx:nextR ⟨bs.drop n,bad⟩=match parse (bs[n]::bs.drop (n + 1)) with|some (n,neg,k)=>(n,neg,(k:Int))|none=>(0,false,0):=by
    unfold nextR;rw [hbad,hd];rfl
  refine drw_rule hw fun w hw=>?_
  refine NilP.mk rfl ⟨s,At.own selfS (by exact ⟨rfl,trivial⟩),NilP.mk rfl ⟨n,At.own selfS (by exact ⟨rfl,trivial⟩),hs.ix selfS n rfl hlt ?_⟩⟩
  rw [e0]
  have hkn:0≤(if 16≤bs[n] then bs[n] - 16 else bs[n]):=by split<;>omega
  obtain ⟨k,hk⟩:=Int.eq_ofNat_of_zero_le hkn
  have hk2:(if 16≤bs[n] then bs[n] - 16 else bs[n]).toNat=k:=by rw [hk];rfl
  refine ⟨fun x w=>x=(k:Int)∧Sat R (pts r (rrCells s n bad)::Hs) w,Br.d (fun h=>⟨?_,hw⟩) (fun h=>⟨?_,hw⟩),?_⟩
  · rw [wrap64 (by omega) (by omega),←hk,if_pos (by omega)]
  · rw [←hk,if_neg (by omega)]
  clear hw
  rintro _ _ w ⟨rfl,hw⟩
  have dl:(bs.drop (n + 1)).length=bs.length - (n + 1):=List.length_drop
  have pno:¬ (bs[n]<32∧k≤8∧k≤(bs.drop (n + 1)).length∧(k=0→bs[n]=0)∧(k≠0→(bs.drop (n + 1)).head?≠some 0))→nextR ⟨bs.drop n,bad⟩=(0,false,0):=fun h=>by
    rw [nx];unfold parse;simp only [hk2];rw [if_neg h]
  have pyes:(bs[n]<32∧k≤8∧k≤(bs.drop (n + 1)).length∧(k=0→bs[n]=0)∧(k≠0→(bs.drop (n + 1)).head?≠some 0))→nextR ⟨bs.drop n,bad⟩=(valI 0 ((bs.drop (n + 1)).take k),decide (16≤bs[n]),((k + 1:Nat):Int)):=fun h=>by
    rw [nx];unfold parse;simp only [hk2];rw [if_pos h]
  refine ⟨fun w=>(bs[n]<32∧k≤8∧k≤(bs.drop (n + 1)).length∧(k=0→bs[n]=0)∧(k≠0→(bs.drop (n + 1)).head?≠some 0))∧Sat R (pts r (rrCells s n bad)::Hs) w,drw_rule hw fun w hw=>?_,?_⟩
  · refine Br.d (fun h=>no (pno fun h2=>by omega) hw) (fun h8=>?_)
    refine NilP.mk rfl ⟨n,At.own selfS (by exact ⟨rfl,trivial⟩),NilP.mk rfl ⟨s,At.own selfS (by exact ⟨rfl,trivial⟩),?_⟩⟩
    rw [wrap64 (x:=(n:Int) + 1) (by omega) (by omega),wrap64 (by omega) (by omega),hlen]
    refine Br.d (fun h=>no (pno fun h2=>by omega) hw) (fun hln=>?_)
    have h32:bs[n]<32:=by split at hk<;>omega
    have last:(k≠0∨bs[n]=0)→Br (decide ((k:Int)>0))
             (NilP (some ⟨r,0,none⟩) fun a_t70=>
              ∃ t72:Sl,(At (Sat R (pts r (rrCells s n bad)::Hs)) (Addr.add a_t70 0) [.slice t72.a t72.len t72.cap])∧
              NilP (some ⟨r,0,none⟩) fun a_t74=>
              ∃ t76:Int,(At (Sat R (pts r (rrCells s n bad)::Hs)) ⟨a_t74.block,a_t74.off + 1,none⟩ [.int .i64 t76])∧
              Rng (IntKind.i64.wrap (t76 + 1)) t72.len (NilP t72.a fun a_t78=>
              ∃ t79:Int,(At (Sat R (pts r (rrCells s n bad)::Hs)) (Addr.add a_t78 ((IntKind.i64.wrap (t76 + 1)).toNat)) [.int .u8 t79])∧
              Br (t79==0)
               (Value.tuple #[.int .u64 0,.bool false,.int .i64 0]=.tuple #[.int .u64 (nextR ⟨bs.drop n,bad⟩).1,.bool (nextR ⟨bs.drop n,bad⟩).2.1,.int .i64 (nextR ⟨bs.drop n,bad⟩).2.2]∧Sat R (pts r (rrCells s n bad)::Hs) w)
               ((bs[n]<32∧k≤8∧k≤(bs.drop (n + 1)).length∧(k=0→bs[n]=0)∧(k≠0→(bs.drop (n + 1)).head?≠some 0))∧Sat R (pts r (rrCells s n bad)::Hs) w)))
             ((bs[n]<32∧k≤8∧k≤(bs.drop (n + 1)).length∧(k=0→bs[n]=0)∧(k≠0→(bs.drop (n + 1)).head?≠some 0))∧Sat R (pts r (rrCells s n bad)::Hs) w):=fun hz=>by
      refine Br.d (fun h=>?_) (fun h=>⟨⟨h32,by omega,by omega,by omega,fun h2=>by omega⟩,hw⟩)
      refine NilP.mk rfl ⟨s,At.own selfS (by exact ⟨rfl,trivial⟩),NilP.mk rfl ⟨n,At.own selfS (by exact ⟨rfl,trivial⟩),?_⟩⟩
      rw [wrap64 (by omega) (by omega)]
      have hn1:n + 1<bs.length:=by omega
      have hh:(bs.drop (n + 1)).head? =some bs[n + 1]:=by rw [List.drop_eq_getElem_cons hn1];rfl
      refine hs.ix selfS (n + 1) (by omega) hn1 ?_
      refine Br.e (fun h0=>no (pno fun h2=>?_) hw) (fun h0=>⟨⟨h32,by omega,by omega,by omega,fun h2=>?_⟩,hw⟩)
      · exact h2.2.2.2.2 (by omega) (by rw [hh,h0])
      · rw [hh];intro h3;exact h0 (Option.some.inj h3)
    refine Br.d (fun h16=>?_) (fun h16=>?_)
    · refine Br.e (fun h0=>no (pno fun h2=>?_) hw) (fun h0=>last (.inl (by omega)))
      have:=h2.2.2.2.1 (by omega)
      omega
    · refine last ?_
      rw [if_neg (by omega)] at hk
      by_cases hk0:k=0
      · exact .inr (by omega)
      · exact .inl hk0
  clear hw
  rintro _ w ⟨hp,hw⟩
  have e:=pyes hp
  rw [e]
  obtain ⟨h32,hk8,hkl,_,_⟩:=hp
  have hbd:∀ j,∀ x∈(bs.drop (n + 1)).take j,0≤x∧x<256:=fun j x hx=>hb x (List.mem_of_mem_drop (List.mem_of_mem_take hx))
  have vb:∀ j,j≤8→0≤valI 0 ((bs.drop (n + 1)).take j)∧valI 0 ((bs.drop (n + 1)).take j)<256 ^ j:=fun j hj=>by
    refine ⟨valI_nn (by omega) (hbd j),?_⟩
    have h1:=valI_lt (acc:=0) (by omega) (hbd j)
    have h2:((bs.drop (n + 1)).take j).length≤j:=by rw [List.length_take];omega
    have h3:(256:Int) ^ ((bs.drop (n + 1)).take j).length≤256 ^ j:=p256 h2
    rw [show (0:Int) + 1=1 from rfl,Int.one_mul] at h1
    omega
  refine ⟨fun x i w=>∃ j:Nat,i=j∧j≤k∧x=valI 0 ((bs.drop (n + 1)).take j)∧Sat R (pts r (rrCells s n bad)::Hs) w,fun _ i _=>k - i.toNat,⟨0,rfl,by omega,rfl,hw⟩,?_⟩
  clear hw
  rintro _ _ _ w ⟨j,rfl,hj,rfl,hw⟩
  refine Br.d (fun h=>drw_rule hw fun w hw=>?_) (fun h=>?_)
  · refine NilP.mk rfl ⟨s,At.own selfS (by exact ⟨rfl,trivial⟩),NilP.mk rfl ⟨n,At.own selfS (by exact ⟨rfl,trivial⟩),?_⟩⟩
    rw [wrap64 (x:=(n:Int) + 1) (by omega) (by omega),wrap64 (x:=(n:Int) + 1 + j) (by omega) (by omega)]
    have hnj:n + 1 + j<bs.length:=by omega
    refine hs.ix selfS (n + 1 + j) (by omega) hnj ?_
    have hx:=hb bs[n + 1 + j] (List.getElem_mem _)
    have et:(bs.drop (n + 1)).take (j + 1)=(bs.drop (n + 1)).take j++[bs[n + 1 + j]]:=by
      rw [List.take_add_one,List.getElem?_drop,List.getElem?_eq_getElem hnj];rfl
    have hv:=vb j (by omega)
    have hv2:=vb (j + 1) (by omega)
    rw [et,valI_snoc] at hv2
    have h7:(256:Int) ^ j≤256 ^ 7:=p256 (by omega)
    have hv3:=hv.2
    have e7:(256:Int) ^ 7=72057594037927936:=by decide
    rw [wrapU64 (x:=bs[n + 1 + j]) (by omega) (by omega),wrapU64 (x:=valI 0 ((bs.drop (n + 1)).take j) * 256) (by omega) (by omega),wrapU64 (by omega) (by omega),wrap64 (by omega) (by omega)]
    exact ⟨⟨j + 1,by omega,by omega,by rw [et,valI_snoc],hw⟩,by dsimp only;omega⟩
  · have:j=k:=by omega
    subst this
    rw [wrap64 (by omega) (by omega)]
    refine ⟨?_,hw⟩
    simp
end Go.Proofs.YtkfedbncmfnpnaaGreatDoor
/- References 02, 05: a reader's Number, Text, Whole; records. Condition: bounds on lengths. -/
namespace Go.Proofs.YtkfedbncmfnpnaaGreatDoor
set_option linter.unusedVariables false
set_option linter.unusedSimpArgs false
open Go Go.VC
variable {R:Cx} {Hs Rest:List HP} {w:World}
theorem rrnum_spec {r:Nat} {s:Sl} {bs:List Int} {rd:Rd} {most:Int} (hl:bs.length≤1099511627776) (hb:∀ x∈bs,0≤x∧x<256) (hs:SlR R.m s (b8 bs)) (hw:Sat R (RRdAt r s bs rd::Hs) w):
  Gets Tryz.prog 173 #[.pointer (some ⟨r,0,none⟩),.int .u64 most] w fun v w'=>v=.int .u64 (rdNum most rd).1∧Sat R (RRdAt r s bs (rdNum most rd).2::Hs) w':=by
 obtain ⟨n,⟨hn,hd⟩,hw⟩:=Sat.rrd.1 hw
 apply call173
 refine (rnext_spec hl hb hs hn hw).use ?_
 rintro _ w ⟨rfl,hw⟩
 refine ⟨_,_,_,rfl,?_⟩
 rw [hd]
 have bad:rdNum most rd=(0,⟨rd.bs,true⟩)→NilP (some ⟨r,0,none⟩) fun a_t25=>
   ∃ w_2:World,((Instr.storeAt 4 (.pointer ((some ⟨a_t25.block,a_t25.off + 2,none⟩))) (.bool true)).run Tryz.prog w=.ok () w_2)∧
   (Value.int .u64 0=.int .u64 (rdNum most rd).1∧Sat R (RRdAt r s bs (rdNum most rd).2::Hs) w_2):=fun e=>by
  refine NilP.mk rfl ?_
  refine store_rule hw (by kernel_rfl) rfl (by simp [Value.cells]) fun w hw=>?_
  have hw:=hw.re (pts r (rrCells s n true))
  rw [e]
  exact ⟨rfl,Sat.rrd.2 ⟨n,⟨hn,hd⟩,hw⟩⟩
 refine ⟨fun w=>(∃ x k,rd.bad=false∧parse rd.bs=some (x,false,k)∧x≤most)∧Sat R (pts r (rrCells s n rd.bad)::Hs) w,?_,?_⟩
 ·by_cases hbd:rd.bad=true
  ·have e:nextR ⟨rd.bs,rd.bad⟩=(0,false,0):=by unfold nextR;rw [if_pos hbd]
   rw [e];dsimp only
   refine Br.mk (fun h=>bad ?_) (fun h=>by simp at h)
   unfold rdNum;rw [if_pos hbd];rw [show rd=⟨rd.bs,rd.bad⟩ from rfl,hbd]
  ·have hbd:rd.bad=false:=by simpa using hbd
   cases hp:parse rd.bs with
   |none=>
    have e:nextR ⟨rd.bs,rd.bad⟩=(0,false,0):=by unfold nextR;simp [hp]
    rw [e];dsimp only
    refine Br.mk (fun h=>bad ?_) (fun h=>by simp at h)
    unfold rdNum;rw [if_neg (by rw [hbd];simp),hp]
   |some p=>
    obtain ⟨x,neg,k⟩:=p
    have e:nextR ⟨rd.bs,rd.bad⟩=(x,neg,(k:Int)):=by unfold nextR;simp [hp,hbd]
    rw [e];dsimp only
    have hb2:∀ x∈rd.bs,0≤x∧x<256:=fun x hx=>hb x (by rw [←hd] at hx;exact List.mem_of_mem_drop hx)
    obtain ⟨_,_,k0,_,_⟩:=parse_bd hb2 hp
    have e2:rdNum most rd=if neg=false∧x≤most then (x,⟨rd.bs.drop k,false⟩) else (0,⟨rd.bs,true⟩):=by
     unfold rdNum;rw [if_neg (by rw [hbd];simp),hp]
    refine Br.e (fun h=>by omega) (fun _=>Br.mk (fun h=>bad ?_) (fun h=>Br.d (fun h2=>bad ?_) (fun h2=>?_)))
    ·rw [e2,if_neg (by rintro ⟨h3,_⟩;rw [h3] at h;cases h)]
    ·rw [e2,if_neg (by rintro ⟨_,h3⟩;omega)]
    ·exact ⟨⟨x,k,hbd,by rw [h],by omega⟩,hw⟩
 clear bad hw
 rintro _ w ⟨⟨x,k,hbd,hp,hx⟩,hw⟩
 have hb2:∀ x∈rd.bs,0≤x∧x<256:=fun x hx=>hb x (by rw [←hd] at hx;exact List.mem_of_mem_drop hx)
 obtain ⟨_,_,k0,_,k2⟩:=parse_bd hb2 hp
 have e:nextR ⟨rd.bs,rd.bad⟩=(x,false,(k:Int)):=by unfold nextR;simp [hp,hbd]
 have e2:rdNum most rd=(x,⟨rd.bs.drop k,false⟩):=by
  unfold rdNum;rw [if_neg (by rw [hbd];simp),hp];dsimp only;rw [if_pos ⟨rfl,hx⟩]
 rw [e,e2]
 dsimp only
 have hlen:rd.bs.length=bs.length - n:=by rw [←hd,List.length_drop]
 refine NilP.mk rfl ⟨n,At.own (eqS hw) (by exact ⟨rfl,trivial⟩),NilP.mk rfl ?_⟩
 dsimp only
 rw [wrap64 (by omega) (by omega)]
 refine store_rule hw (by kernel_rfl) rfl (by simp [Value.cells]) fun w hw=>?_
 rw [hbd] at hw
 have hw:=hw.re (pts r (rrCells s (n + k) false))
 exact ⟨rfl,Sat.rrd.2 ⟨n + k,⟨by omega,by rw [←List.drop_drop,hd]⟩,hw⟩⟩
theorem rrtext_spec {r:Nat} {s:Sl} {bs:List Int} {rd:Rd} {most:Int} (hm:most<9223372036854775808) (hl:bs.length≤1099511627776) (hb:∀ x∈bs,0≤x∧x<256) (hs:SlR R.m s (b8 bs)) (hw:Sat R (RRdAt r s bs rd::Hs) w):
  Gets Tryz.prog 177 #[.pointer (some ⟨r,0,none⟩),.int .i64 most] w fun v w'=>∃ t:Sl,v=.slice t.a t.len t.cap∧Sat R (Own t 5 (b8 (rdText most rd).1)::RRdAt r s bs (rdText most rd).2::Hs) w':=by
 have hsl:s.len=bs.length:=by have:=hs.len;simpa using this
 have hscap:=hs.cap
 obtain ⟨n,⟨hn,hd⟩,hw⟩:=Sat.rrd.1 hw
 have hlen:rd.bs.length=bs.length - n:=by rw [←hd,List.length_drop]
 have hb2:∀ x∈rd.bs,0≤x∧x<256:=fun x hx=>hb x (by rw [←hd] at hx;exact List.mem_of_mem_drop hx)
 apply call177
 refine (rnext_spec hl hb hs hn hw).use ?_
 rintro _ w ⟨rfl,hw⟩
 refine ⟨_,_,_,rfl,?_⟩
 rw [hd]
 have bad:rdText most rd=([],⟨rd.bs,true⟩)→∀ {w},Sat R (pts r (rrCells s n rd.bad)::Hs) w→NilP (some ⟨r,0,none⟩) fun a_t25=>
   ∃ w_2:World,((Instr.storeAt 4 (.pointer ((some ⟨a_t25.block,a_t25.off + 2,none⟩))) (.bool true)).run Tryz.prog w=.ok () w_2)∧
   (∃ t:Sl,Value.slice none 0 0=.slice t.a t.len t.cap∧Sat R (Own t 5 (b8 (rdText most rd).1)::RRdAt r s bs (rdText most rd).2::Hs) w_2):=fun e w hw=>by
  refine NilP.mk rfl ?_
  refine store_rule hw (by kernel_rfl) rfl (by simp [Value.cells]) fun w hw=>?_
  have hw:=hw.re (pts r (rrCells s n true))
  rw [e]
  exact ⟨⟨none,0,0⟩,rfl,Own.nil (Sat.rrd.2 ⟨n,⟨hn,hd⟩,hw⟩)⟩
 refine ⟨fun w=>(∃ x k,rd.bad=false∧parse rd.bs=some (x,false,k)∧0≤most∧x≤most∧x≤(rd.bs.length:Int) - k)∧Sat R (pts r (rrCells s n rd.bad)::Hs) w,drw_rule hw fun w hw=>?_,?_⟩
 ·by_cases hbd:rd.bad=true
  ·have e:nextR ⟨rd.bs,rd.bad⟩=(0,false,0):=by unfold nextR;rw [if_pos hbd]
   rw [e];dsimp only
   refine Br.mk (fun h=>bad ?_ hw) (fun h=>by simp at h)
   unfold rdText;rw [if_pos hbd];rw [show rd=⟨rd.bs,rd.bad⟩ from rfl,hbd]
  ·have hbd:rd.bad=false:=by simpa using hbd
   cases hp:parse rd.bs with
   |none=>
    have e:nextR ⟨rd.bs,rd.bad⟩=(0,false,0):=by unfold nextR;simp [hp]
    rw [e];dsimp only
    refine Br.mk (fun h=>bad ?_ hw) (fun h=>by simp at h)
    unfold rdText;rw [if_neg (by rw [hbd];simp),hp]
   |some p=>
    obtain ⟨x,neg,k⟩:=p
    have e:nextR ⟨rd.bs,rd.bad⟩=(x,neg,(k:Int)):=by unfold nextR;simp [hp,hbd]
    rw [e];dsimp only
    obtain ⟨x0,x1,k0,k1,k2⟩:=parse_bd hb2 hp
    have e2:rdText most rd=if neg=false∧0≤most∧x≤most∧x≤((rd.bs.length:Int) - k) then (((rd.bs.drop k).take x.toNat),⟨rd.bs.drop (k + x.toNat),false⟩) else ([],⟨rd.bs,true⟩):=by
     unfold rdText;rw [if_neg (by rw [hbd];simp),hp]
    refine Br.e (fun h=>by omega) (fun _=>Br.mk (fun h=>bad ?_ hw) (fun h=>Br.d (fun h2=>bad ?_ hw) (fun h2=>?_)))
    ·rw [e2,if_neg (by rintro ⟨h3,_⟩;rw [h3] at h;cases h)]
    ·rw [e2,if_neg (by rintro ⟨_,h3,_⟩;omega)]
    ·rw [wrapU64 (x:=most) (by omega) (by omega)]
     refine Br.d (fun h3=>bad ?_ hw) (fun h3=>?_)
     ·rw [e2,if_neg (by rintro ⟨_,_,h4,_⟩;omega)]
     ·refine NilP.mk rfl ⟨s,At.own selfS (by exact ⟨rfl,trivial⟩),NilP.mk rfl ⟨n,At.own selfS (by exact ⟨rfl,trivial⟩),?_⟩⟩
      have e3:IntKind.u64.wrap (IntKind.i64.wrap (IntKind.i64.wrap ((s.len:Int) - (n:Int)) - (k:Int)))=(rd.bs.length:Int) - k:=by
       rw [wrap64 (x:=(s.len:Int) - (n:Int)) (by omega) (by omega),wrap64 (by omega) (by omega),wrapU64 (by omega) (by omega)];omega
      rw [e3]
      refine Br.d (fun h4=>bad ?_ hw) (fun h4=>⟨⟨x,k,hbd,by rw [h],by omega,by omega,by omega⟩,hw⟩)
      rw [e2,if_neg (by rintro ⟨_,_,_,h5⟩;omega)]
 clear bad hw
 rintro _ w ⟨⟨x,k,hbd,hp,hm0,hxm,hxl⟩,hw⟩
 obtain ⟨x0,x1,k0,k1,k2⟩:=parse_bd hb2 hp
 have e:nextR ⟨rd.bs,rd.bad⟩=(x,false,(k:Int)):=by unfold nextR;simp [hp,hbd]
 have e2:rdText most rd=(((rd.bs.drop k).take x.toNat),⟨rd.bs.drop (k + x.toNat),false⟩):=by
  unfold rdText;rw [if_neg (by rw [hbd];simp),hp];dsimp only;rw [if_pos ⟨rfl,hm0,hxm,hxl⟩]
 rw [e,e2]
 dsimp only
 obtain ⟨m,rfl⟩:=Int.eq_ofNat_of_zero_le x0
 refine NilP.mk rfl ⟨n,At.own (eqS hw) (by exact ⟨rfl,trivial⟩),NilP.mk rfl ?_⟩
 have e3:IntKind.i64.wrap ((n:Int) + (k:Int))=((n + k:Nat):Int):=by rw [wrap64 (by omega) (by omega)];omega
 have e4:IntKind.i64.wrap (((n + k:Nat):Int) + IntKind.i64.wrap (m:Int))=((n + k + m:Nat):Int):=by rw [wrap64 (x:=(m:Int)) (by omega) (by omega),wrap64 (by omega) (by omega)];omega
 dsimp only
 rw [e3,e4]
 refine store_rule hw (by kernel_rfl) rfl (by simp [Value.cells]) fun w hw=>?_
 rw [hbd] at hw
 have hw:=hw.re (pts r (rrCells s (n + k + m) false))
 refine drw_ruleT hw fun w hw=>?_
 refine NilP.mk rfl ⟨s,At.own selfS (by exact ⟨rfl,trivial⟩),NilP.mk rfl ⟨((n + k + m:Nat):Int),At.own selfS (by exact ⟨rfl,trivial⟩),by omega,by omega,by omega,by omega,?_⟩⟩
 rw [Int.toNat_natCast,Int.toNat_natCast,Int.toNat_natCast]
 refine new_rule hw fun b w hw=>?_
 have e5:n + k + m - (n + k)=m:=by omega
 rw [e5]
 have hro:SlR R.m ⟨(sdrop s (n + k)).a,m,(sdrop s (n + k)).cap⟩ (b8 ((rd.bs.drop k).take m)):=by
  have:=(hs.b8drop (k:=n + k) (by omega)).b8take (k:=m) (by simp;omega)
  rw [←List.drop_drop,hd] at this
  exact this
 have hll:((rd.bs.drop k).take m).length≤1099511627776:=by simp;omega
 refine ⟨hw.absorb,?_⟩
 have hw:Sat R (Own ⟨some ⟨b,0,none⟩,0,0⟩ 5 (([]:List Int).map (Value.int .u8))::VC.tru::pts r (rrCells s (n + k + m) false)::Hs) w:=own_lit hw
 refine appendRI elB8 (s:=⟨some ⟨b,0,none⟩,0,0⟩) (t:=⟨(sdrop s (n + k)).a,m,(sdrop s (n + k)).cap⟩) (n:=1099511627776) Tryz.underlying53 hw (hro.ro (by simp;omega)) (by simp;omega) (by omega) (by omega) fun t w hw=>?_
 refine ⟨hw.absorb,t,rfl,?_⟩
 rw [List.nil_append] at hw
 refine hw.cons fun _ h=>Sat.rrd.2 ⟨n + k + m,⟨by omega,?_⟩,h.drop⟩
 show bs.drop (n + k + m)=rd.bs.drop (k + m)
 rw [←hd,List.drop_drop,Nat.add_assoc]
theorem rrwhole_spec {r:Nat} {s:Sl} {bs:List Int} {rd:Rd} (hs:SlR R.m s (b8 bs)) (hw:Sat R (RRdAt r s bs rd::Hs) w):
  Gets Tryz.prog 174 #[.pointer (some ⟨r,0,none⟩)] w fun v w'=>v=.bool (rdWhole rd)∧Sat R (RRdAt r s bs rd::Hs) w':=by
 have hsl:s.len=bs.length:=by have:=hs.len;simpa using this
 obtain ⟨n,⟨hn,hd⟩,hw⟩:=Sat.rrd.1 hw
 have hlen:rd.bs.length=bs.length - n:=by rw [←hd,List.length_drop]
 apply call174
 refine drw_rule hw fun w hw=>?_
 refine NilP.mk rfl ⟨rd.bad,At.own selfS (by exact ⟨rfl,trivial⟩),Br.nb (fun h=>?_) (fun h=>?_)⟩
 ·refine NilP.mk rfl ⟨n,At.own selfS (by exact ⟨rfl,trivial⟩),NilP.mk rfl ⟨s,At.own selfS (by exact ⟨rfl,trivial⟩),?_,Sat.rrd.2 ⟨n,⟨hn,hd⟩,hw⟩⟩⟩
  unfold rdWhole
  rw [h,hsl]
  congr 1
  rw [Bool.not_false,Bool.true_and,hlen]
  show decide ((n:Int)=(bs.length:Int))=_
  rw [decide_eq_decide];omega
 ·refine ⟨?_,Sat.rrd.2 ⟨n,⟨hn,hd⟩,hw⟩⟩
  unfold rdWhole
  rw [h];rfl
theorem rfour_spec {n:Nat} (hn:n<4294967296) (hw:Sat R Hs w):
  Gets Tryz.prog 175 #[.int .u32 n] w fun v w'=>∃ t:Sl,v=.slice t.a t.len t.cap∧Sat R (Own t 5 (b8 (word4 n))::Hs) w':=by
 apply call175
 unfold B175
 have td:∀ k:Nat,(n:Int).tdiv (k:Int)=((n / k:Nat):Int):=fun k=>(Int.ofNat_tdiv n k).symm
 have e1:IntKind.u8.wrap (IntKind.u32.wrap ((n:Int).tdiv 16777216))=((n / 16777216 % 256:Nat):Int):=by
  rw [show (n:Int).tdiv 16777216=((n / 16777216:Nat):Int) from td 16777216,wrapU32 (by omega) (by omega),wrapU8 (by omega) (by omega)];omega
 have e2:IntKind.u8.wrap ((IntKind.u32.wrap ((n:Int).tdiv 65536)).tmod 256)=((n / 65536 % 256:Nat):Int):=by
  rw [show (n:Int).tdiv 65536=((n / 65536:Nat):Int) from td 65536,wrapU32 (by omega) (by omega),show ((n / 65536:Nat):Int).tmod 256=((n / 65536 % 256:Nat):Int) from (Int.ofNat_tmod _ 256).symm,wrapU8 (by omega) (by omega)]
 have e3:IntKind.u8.wrap ((IntKind.u32.wrap ((n:Int).tdiv 256)).tmod 256)=((n / 256 % 256:Nat):Int):=by
  rw [show (n:Int).tdiv 256=((n / 256:Nat):Int) from td 256,wrapU32 (by omega) (by omega),show ((n / 256:Nat):Int).tmod 256=((n / 256 % 256:Nat):Int) from (Int.ofNat_tmod _ 256).symm,wrapU8 (by omega) (by omega)]
 have e4:IntKind.u8.wrap ((n:Int).tmod 256)=((n % 256:Nat):Int):=by
  rw [show (n:Int).tmod 256=((n % 256:Nat):Int) from (Int.ofNat_tmod _ 256).symm,wrapU8 (by omega) (by omega)]
 rw [e1,e2,e3,e4]
 refine new_rule hw fun b w hw=>?_
 exact ⟨⟨some ⟨b,0,none⟩,4,4⟩,rfl,own_lit hw⟩
theorem rp_spec {s:Sl} {bs:List Int} (hbs:∀ x∈bs,0≤x∧x<256) (hs:Ro R s (b8 bs)) (hw:Sat R Hs w):
  Gets Tryz.prog 138 #[.slice s.a s.len s.cap] w fun v w'=>
   (bs.length>65536∧v=.tuple #[.slice none 0 0,.int .i64 3]∧Sat R Hs w')∨
   (bs.length≤65536∧∃ t:Sl,v=.tuple #[.slice t.a t.len t.cap,.int .i64 0]∧Sat R (Own t 5 (b8 (recB bs))::Hs) w'):=by
 have hlen:s.len=bs.length:=by have:=hs.len;simpa using this
 apply call138
 refine Br.mk (fun h=>?_) (fun h=>?_)
 ·have:=of_decide_eq_true h
  exact .inl ⟨by omega,rfl,hw⟩
 have h:=of_decide_eq_false h
 have hl:bs.length≤65536:=by omega
 have w4:∀ n,(word4 n).length=4:=word4_len
 rw [show IntKind.u32.wrap (s.len:Int)=((bs.length:Nat):Int) by rw [wrapU32 (by omega) (by omega),hlen]]
 refine (rfour_spec (by omega) hw).use ?_
 rintro _ w ⟨t1,rfl,hw⟩
 refine ⟨t1,rfl,new_rule hw fun b w hw=>?_⟩
 have hw:Sat R (Own ⟨some ⟨b,0,none⟩,0,0⟩ 5 (([]:List Int).map (Value.int .u8))::Own t1 5 (b8 (word4 bs.length))::Hs) w:=own_lit hw
 refine appendOO elB8 (s:=⟨some ⟨b,0,none⟩,0,0⟩) (n:=70000) Tryz.underlying53 hw (by rw [w4];simp) (by omega) (by omega) fun t2 w hw=>?_
 refine appendRI elB8 (n:=70000) Tryz.underlying53 hw hs (by rw [List.nil_append,w4];omega) (by omega) (by omega) fun t3 w hw=>?_
 rw [List.nil_append] at hw
 obtain ⟨R1,hr1,keep1,hw,back1⟩:=Own.lend hw (by simp [w4];omega)
 have hbd:∀ x∈word4 bs.length++bs,0≤x∧x<256:=fun x hx=>by
  rcases List.mem_append.1 hx with h|h
  ·exact word4_bd _ x h
  ·exact hbs x h
 refine (rsum_spec hbd hr1 hw).use ?_
 rintro _ w ⟨rfl,hw⟩
 have hw:=(back1 hw).drop
 refine ⟨_,rfl,new_rule hw fun b2 w hw=>?_⟩
 have hw:Sat R (Own ⟨some ⟨b2,0,none⟩,0,0⟩ 5 (([]:List Int).map (Value.int .u8))::Own t1 5 (b8 (word4 bs.length))::Hs) w:=own_lit hw
 refine appendOO elB8 (s:=⟨some ⟨b2,0,none⟩,0,0⟩) (n:=70000) Tryz.underlying53 hw (by rw [w4];simp) (by omega) (by omega) fun t4 w hw=>?_
 have hw:=hw.cons fun _ h=>h.drop
 rw [List.nil_append] at hw
 refine (rfour_spec (crcAdd_lt (by omega) hbd) hw).use ?_
 rintro _ w ⟨t5,rfl,hw⟩
 refine ⟨t5,rfl,?_⟩
 refine appendOO elB8 (s:=t4) (n:=70000) Tryz.underlying53 hw.swap (by rw [w4,w4];omega) (by omega) (by omega) fun t6 w hw=>?_
 refine appendRI elB8 (n:=70000) Tryz.underlying53 hw hs (by rw [List.length_append,w4,w4];omega) (by omega) (by omega) fun t7 w hw=>?_
 exact .inr ⟨hl,t7,rfl,hw.cons fun _ h=>h.drop⟩
end Go.Proofs.YtkfedbncmfnpnaaGreatDoor
/- Reference 05: Scan. Condition: bounds on lengths. -/
namespace Go.Proofs.YtkfedbncmfnpnaaGreatDoor
set_option linter.unusedVariables false
set_option linter.unusedSimpArgs false
open Go Go.VC
variable {R:Cx} {Hs Rest:List HP} {w:World}
theorem first_eq {l:List Int} (hb:∀ x∈l,0≤x∧x<256) (h8:8≤l.length) {n:Nat} (hn:valI 0 (l.take 4)=n):
  first l=if n≤65536∧8 + n≤l.length∧recB ((l.drop 8).take n)=l.take (8 + n) then some ((l.drop 8).take n) else none:=by
 unfold first
 rw [if_pos h8]
 simp only
 rw [hn,Int.toNat_natCast]
 by_cases h1:n≤65536
 case neg=>rw [if_neg (fun h=>h1 h.1),if_neg (fun h=>h1 h.1)]
 by_cases h2:8 + n≤l.length
 case neg=>rw [if_neg (fun h=>h2 (by omega)),if_neg (fun h=>h2 h.2.1)]
 have hx:((l.drop 8).take n).length=n:=by simp;omega
 have hb4:∀ x∈l.take 4,0≤x∧x<256:=fun x hx=>hb x (List.mem_of_mem_take hx)
 have hbm:∀ x∈(l.drop 4).take 4,0≤x∧x<256:=fun x hx=>hb x (List.mem_of_mem_drop (List.mem_of_mem_take hx))
 have hbx:∀ x∈(l.drop 8).take n,0≤x∧x<256:=fun x hx=>hb x (List.mem_of_mem_drop (List.mem_of_mem_take hx))
 have ew:word4 n=l.take 4:=by
  have:=val_word4 (l:=l.take 4) (by simp;omega) hb4
  rw [hn,Int.toNat_natCast] at this
  exact this
 have el:l.take (8 + n)=l.take 4++(l.drop 4).take 4++(l.drop 8).take n:=by
  rw [show 8 + n=4 + (4 + n) by omega,List.take_add,List.take_add,List.drop_drop,List.append_assoc]
 have er:recB ((l.drop 8).take n)=l.take 4++word4 (crcAdd 0 (l.take 4++(l.drop 8).take n))++(l.drop 8).take n:=by
  unfold recB;rw [hx,ew]
 have hc:crcAdd 0 (l.take 4++(l.drop 8).take n)<4294967296:=crcAdd_lt (by omega) fun x hx=>(List.mem_append.1 hx).elim (hb4 x) (hbx x)
 have hv:=valI_nn (acc:=0) (by omega) hbm
 have key:(crcAdd 0 (l.take 4++(l.drop 8).take n)=(valI 0 ((l.drop 4).take 4)).toNat)↔recB ((l.drop 8).take n)=l.take (8 + n):=by
  rw [er,el]
  constructor
  ·intro h
   rw [h,val_word4 (by simp;omega) hbm]
  ·intro h
   have h:=List.append_cancel_right h
   have h:=List.append_cancel_left h
   rw [←h,word4_val hc];rfl
 by_cases h3:recB ((l.drop 8).take n)=l.take (8 + n)
 ·rw [if_pos ⟨h1,by omega,key.2 h3⟩,if_pos ⟨h1,h2,h3⟩]
 ·rw [if_neg (fun h=>h3 (key.1 h.2.2)),if_neg (fun h=>h3 h.2.2)]
theorem BytesL.push {b:Nat} {l t:Sl} {pre:List (List Int)} {x:List Int} {ty:TypeId} {K:Sl→World→Prop} (hl:pre.length≤1099511627776)
  (hw:Sat R (pts b (.cells [Value.slice t.a t.len t.cap].toArray 53 (0,0))::BytesL l pre::Own t 5 (b8 x)::Hs) w)
  (k:∀ l2 w,Sat R (BytesL l2 (pre++[x])::Hs) w→K l2 w):
  ∃ w',∃ t':Sl,(Builtin.append_ #[ 139,139 ] ty #[.slice l.a l.len l.cap,.slice (some ⟨b,0,none⟩) 1 1]).run Tryz.prog w=.ok (.slice t'.a t'.len t'.cap) w'∧K t' w':=by
 have hw3:Sat R (BytesL l pre::pts b (.cells [Value.slice t.a t.len t.cap].toArray 53 (0,0))::Own t 5 (b8 x)::Hs) w:=hw.swap
 obtain ⟨ps,hps,hw4⟩:=Sat.bytesL.1 hw3
 have hpsl:ps.length=pre.length:=by rw [←hps];simp
 have hsrc:Src Tryz.prog 1 139 (.slice (some ⟨b,0,none⟩) 1 1) 1 [Value.slice t.a t.len t.cap] w:=Src_one elBB.hk 1 hw rfl
 refine append_rule elBB (s:=l) hw4 hsrc (one_sl ps) (by rw [List.length_map];omega) (by rw [List.length_map];omega) fun l2 w hw=>?_
 refine k l2 w (Sat.bytesL.2 ⟨ps++[(t,x)],by simp [hps],?_⟩)
 have e2:((ps++[(t,x)]).map fun p=>Sl.v p.1)=(ps.map fun p=>Sl.v p.1)++[Value.slice t.a t.len t.cap]:=by simp [Sl.v]
 rw [e2]
 refine hw.cons fun R' hw=>Sat.star.2 ?_
 rw [List.map_append,List.append_assoc]
 have h3:Sat R' (pts b (.cells [Value.slice t.a t.len t.cap].toArray 53 (0,0))::Star (ps.map fun p=>Own p.1 5 (b8 p.2))::Own t 5 (b8 x)::Hs) w:=hw.arr
 exact Sat.star.1 h3.drop
theorem BytesL.nil (hw:Sat R Hs w):Sat R (BytesL ⟨none,0,0⟩ []::Hs) w:=
 Sat.bytesL.2 ⟨[],rfl,Own.nil (Sat.star.2 hw)⟩
theorem strOf_inj {a b:List Int} (ha:∀ x∈a,0≤x∧x<256) (hb:∀ x∈b,0≤x∧x<256) (h:VC.strOf a=VC.strOf b):a=b:=by
 rw [←bytesL_strOf ha,←bytesL_strOf hb,h]
theorem strR {s:Sl} {bs:List Int} {S:World→Prop} (hS:∀ w,S w→Sat R Hs w) (hs:Ro R s (b8 bs)):∀ w',S w'→(convert 53 9 (.slice s.a s.len s.cap)).run Tryz.prog w'=.ok (.string (VC.strOf bs)) w':=
 fun w' e=>convS_ro Tryz.underlying53 Tryz.underlying5 Tryz.underlying9 (hS w' e) hs
set_option maxRecDepth 20000 in
theorem rscan_spec {s:Sl} {bs:List Int} (hb:∀ x∈bs,0≤x∧x<256) (hlen:bs.length≤1099511627776) (hs:SlR R.m s (b8 bs)) (hw:Sat R Hs w):
  Gets Tryz.prog 136 #[.slice s.a s.len s.cap] w fun v w'=>∃ l:Sl,v=.tuple #[.slice l.a l.len l.cap,.int .i64 (scanLen (scan bs):Nat)]∧Sat R (BytesL l (scan bs)::Hs) w':=by
 have hsl:s.len=bs.length:=by have:=hs.len;simpa using this
 have hcap:=hs.cap
 apply call136
 refine ⟨fun out i w=>∃ (pre:List (List Int)) (k:Nat),i=k∧k≤bs.length∧scan bs=pre++scan (bs.drop k)∧scanLen pre=k∧Sat R (BytesL out pre::Hs) w,fun _ i _=>bs.length - i.toNat,⟨[],0,rfl,by omega,by simp,rfl,BytesL.nil hw⟩,?_⟩
 clear hw
 rintro _ out _ w ⟨pre,k,rfl,hk,hsc,hpl,hw⟩
 have hb':∀ x∈bs.drop k,0≤x∧x<256:=fun x hx=>hb x (List.mem_of_mem_drop hx)
 have hdl:(bs.drop k).length=bs.length - k:=List.length_drop
 have stop:first (bs.drop k)=none→∀ {w},Sat R (BytesL out pre::Hs) w→∃ l:Sl,Value.tuple #[.slice out.a out.len out.cap,.int .i64 (k:Nat)]=.tuple #[.slice l.a l.len l.cap,.int .i64 (scanLen (scan bs):Nat)]∧Sat R (BytesL l (scan bs)::Hs) w:=fun h {w} hw=>by
  rw [hsc,scan_none h,List.append_nil,hpl]
  exact ⟨out,rfl,hw⟩
 have w8:IntKind.i64.wrap ((k:Int) + 8)=((k + 8:Nat):Int):=by rw [wrap64 (by omega) (by omega)];omega
 rw [w8]
 refine Br.d (fun h=>?_) (fun h=>?_)
 rotate_left
 ·refine stop ?_ hw
  unfold first
  rw [if_neg (by omega)]
 have vb:∀ j,j≤4→0≤valI 0 ((bs.drop k).take j)∧valI 0 ((bs.drop k).take j)<256 ^ j:=fun j hj=>by
  have hbd:∀ x∈(bs.drop k).take j,0≤x∧x<256:=fun x hx=>hb' x (List.mem_of_mem_take hx)
  refine ⟨valI_nn (by omega) hbd,?_⟩
  have h1:=valI_lt (acc:=0) (by omega) hbd
  have h2:((bs.drop k).take j).length≤j:=by rw [List.length_take];omega
  have h3:=p256 h2
  rw [show (0:Int) + 1=1 from rfl,Int.one_mul] at h1
  omega
 refine ⟨fun x i w=>∃ j:Nat,i=j∧j≤4∧x=valI 0 ((bs.drop k).take j)∧Sat R (BytesL out pre::Hs) w,fun _ i _=>4 - i.toNat,⟨0,rfl,by omega,rfl,hw⟩,?_⟩
 clear hw
 rintro _ _ _ w ⟨j,rfl,hj,rfl,hw⟩
 refine Br.d (fun h4=>?_) (fun h4=>?_)
 ·have hkj:k + j<bs.length:=by omega
  refine hs.ix (eqS hw) (k + j) (by rw [wrap64 (by omega) (by omega)];omega) hkj ?_
  have hx:=hb bs[k + j] (List.getElem_mem _)
  have et:(bs.drop k).take (j + 1)=(bs.drop k).take j++[bs[k + j]]:=by
   rw [List.take_add_one,List.getElem?_drop,List.getElem?_eq_getElem hkj];rfl
  have hv:=vb j (by omega)
  have h3:=p256 (a:=j) (b:=3) (by omega)
  have e3:(256:Int) ^ 3=16777216:=by decide
  rw [wrap64 (x:=bs[k + j]) (by omega) (by omega),wrap64 (x:=valI 0 ((bs.drop k).take j) * 256) (by omega) (by omega),wrap64 (by omega) (by omega),wrap64 (by omega) (by omega)]
  exact ⟨⟨j + 1,by omega,by omega,by rw [et,valI_snoc],hw⟩,by dsimp only;omega⟩
 have:j=4:=by omega
 subst this
 have hv:=vb 4 (by omega)
 have e4:(256:Int) ^ 4=4294967296:=by decide
 obtain ⟨n,hn⟩:=Int.eq_ofNat_of_zero_le hv.1
 rw [hn] at hv ⊢
 have hf:=first_eq hb' (by omega) hn
 have wn:IntKind.i64.wrap (((k + 8:Nat):Int) + (n:Int))=((k + 8 + n:Nat):Int):=by rw [wrap64 (by omega) (by omega)];omega
 rw [wn]
 refine ⟨fun w=>(n≤65536∧k + 8 + n≤bs.length)∧Sat R (BytesL out pre::Hs) w,?_,?_⟩
 ·refine Br.d (fun h=>stop (by rw [hf,if_neg (by omega)]) hw) (fun h2=>?_)
  refine Br.d (fun h=>stop (by rw [hf,if_neg (by omega)]) hw) (fun h3=>⟨⟨by omega,by omega⟩,hw⟩)
 clear hw
 rintro _ w ⟨⟨hn1,hn2⟩,hw⟩
 refine ⟨by omega,by omega,by omega,by omega,?_⟩
 rw [Int.toNat_natCast,Int.toNat_natCast,Int.toNat_natCast]
 have e5:k + 8 + n - (k + 8)=n:=by omega
 have e6:k + 8 + n - k=8 + n:=by omega
 rw [e5,e6]
 have hx:SlR R.m ⟨(sdrop s (k + 8)).a,n,(sdrop s (k + 8)).cap⟩ (b8 (((bs.drop k).drop 8).take n)):=by
  have:=(hs.b8drop (k:=k + 8) (by omega)).b8take (k:=n) (by simp;omega)
  rw [←List.drop_drop] at this
  exact this
 have hy:SlR R.m ⟨(sdrop s k).a,8 + n,(sdrop s k).cap⟩ (b8 ((bs.drop k).take (8 + n))):=(hs.b8drop (k:=k) (by omega)).b8take (k:=8 + n) (by simp;omega)
 have hxb:∀ x∈((bs.drop k).drop 8).take n,0≤x∧x<256:=fun x hx=>hb' x (List.mem_of_mem_drop (List.mem_of_mem_take hx))
 have hxl:(((bs.drop k).drop 8).take n).length=n:=by simp;omega
 have hro:=hx.ro (by simp;omega)
 refine (rp_spec (s:=⟨(sdrop s (k + 8)).a,n,(sdrop s (k + 8)).cap⟩) hxb hro hw).use ?_
 rintro _ w (⟨h,_⟩|⟨_,t1,rfl,hw⟩)
 ·omega
 refine ⟨t1,0,rfl,?_⟩
 have hrl:=recB_len (((bs.drop k).drop 8).take n)
 obtain ⟨R1,hr1,keep1,hw,back1⟩:=Own.lend hw (by rw [List.length_map];omega)
 have hy1:=keep1 _ _ (hy.ro (by simp;omega))
 refine drw_rule hw fun w hw=>?_
 refine ⟨_,strR selfS hr1,by omega,by omega,by omega,by omega,_,strR (s:=⟨(sdrop s k).a,8 + n,(sdrop s k).cap⟩) selfS hy1,?_⟩
 have hw:=(back1 hw).drop
 refine Br.sne (fun h=>stop ?_ hw) (fun h=>?_)
 ·rw [hf,if_neg]
  rintro ⟨_,_,h2⟩
  rw [h2] at h
  exact h rfl
 have h:=strOf_inj (recB_bd hxb) (fun x hx=>hb' x (List.mem_of_mem_take hx)) h
 rw [if_pos ⟨hn1,by omega,h⟩] at hf
 refine new_rule hw fun b w hw=>?_
 have hw:Sat R (Own ⟨some ⟨b,0,none⟩,0,0⟩ 5 (([]:List Int).map (Value.int .u8))::BytesL out pre::Hs) w:=own_lit hw
 refine appendRI elB8 (s:=⟨some ⟨b,0,none⟩,0,0⟩) (t:=⟨(sdrop s (k + 8)).a,n,(sdrop s (k + 8)).cap⟩) (n:=70000) Tryz.underlying53 hw hro (by rw [hxl];simp;omega) (by omega) (by omega) fun t2 w hw=>?_
 rw [List.nil_append] at hw
 refine new_rule hw fun b2 w hw=>?_
 have hpn:=len_scanLen pre
 refine BytesL.push (l:=out) (b:=b2) (by omega) (hw.cons fun _ h=>h.swap) fun l2 w hw=>?_
 refine ⟨⟨pre++[((bs.drop k).drop 8).take n],k + 8 + n,rfl,hn2,?_,?_,hw⟩,by dsimp only;omega⟩
 ·have e7:(bs.drop k).drop (8 + n)=bs.drop (k + 8 + n):=by rw [List.drop_drop,Nat.add_assoc]
  rw [hsc,scan_some hf,hxl,e7,List.append_assoc]
  rfl
 ·rw [scanLen_app,scanLen_cons,hpl,hxl]
  show k + (8 + n + 0)=_
  omega
end Go.Proofs.YtkfedbncmfnpnaaGreatDoor
/- Reference 06: names of segments, records, heads. Condition: bounds on lengths. -/
namespace Go.Proofs.YtkfedbncmfnpnaaGreatDoor
set_option linter.unusedVariables false
set_option linter.unusedSimpArgs false
open Go Go.VC
variable {R R':Cx} {Hs Rest:List HP} {w:World}
def padI:Nat→Nat→List Int
 |0,_=>[]
 |k + 1,n=>padI k (n / 10)++[48 + ((n % 10:Nat):Int)]
theorem padI8 (n:Nat):padI 8 n=(dig8 n).map fun d:Nat=>48 + (d:Int):=by
 simp only [padI,dig8,List.map_cons,List.map_nil,List.nil_append,List.cons_append,Nat.div_div_eq_div_mul]
theorem conv_lit {P:Program} {t T:TypeId} {C:List Value} {n:Nat} {K:Sl→World→Prop} (ht:P.underlying t=some (.slice T)) (he:P.underlying T=some (.int .u8)) (hw:Sat R Hs w)
  (k:∀ b w',Sat R (pts b (.cells C.toArray T (C.length,C.length + 1))::Hs) w'→K ⟨some ⟨b,0,none⟩,n,n⟩ w'):
  New (.cells C.toArray T (0,0)) (fun b w=>∃ w':World,∃ s:Sl,((convert t t (.slice (some ⟨b,0,none⟩) n n)).run P w=.ok (.slice s.a s.len s.cap) w')∧K s w') w:=
 ⟨_,⟨some ⟨w.heap.size,0,none⟩,n,n⟩,Lib.run_convert_bytes_const w t T C.toArray n n ht he,k _ _ (Sat.alloc _ hw)⟩
set_option maxRecDepth 10000 in
theorem rName_spec {n:Nat} (hn:n<100000000) (hw:Sat R Hs w):Gets Tryz.prog 95 #[.int .i64 n] w fun v w'=>v=.string (segName n)∧Sat R Hs w':=by
 apply call95
 refine conv_lit (C:=[.int .u8 119,.int .u8 97,.int .u8 108,.int .u8 45,.int .u8 48,.int .u8 48,.int .u8 48,.int .u8 48,.int .u8 48,.int .u8 48,.int .u8 48,.int .u8 48]) (n:=12) Tryz.underlying53 Tryz.underlying5 hw fun b w hw=>?_
 obtain ⟨s,hs⟩:∃ s:Sl,s=⟨some ⟨b,0,none⟩,12,12⟩:=⟨_,rfl⟩
 have hw:Sat R (Own s 5 (b8 ([119,97,108,45]++List.replicate 8 48))::Hs) w:=by
  rw [hs]
  exact own_lit (l:=b8 ([119,97,108,45]++List.replicate 8 48)) hw rfl (.inr (Nat.le_refl _))
 rw [←hs]
 refine ⟨fun m i w=>∃ (j q:Nat) (t:List Int),i=3 + (j:Int)∧j≤8∧m=q∧q<100000000∧t.length=8 - j∧padI j q++t=padI 8 n∧Sat R (Own s 5 (b8 ([119,97,108,45]++List.replicate j 48++t))::Hs) w,fun _ i _=>(i - 3).toNat,
  ⟨8,n,[],rfl,by omega,rfl,hn,rfl,by simp,by simpa using hw⟩,?_⟩
 clear hw
 rintro _ _ _ w ⟨j,q,t,rfl,hj,rfl,hq,htl,hp,hw⟩
 refine Br.d (fun h=>?_) (fun h=>?_)
 ·obtain ⟨j,rfl⟩:∃ k,j=k + 1:=⟨j - 1,by omega⟩
  have hi:(3 + ((j + 1:Nat):Int))=((4 + j:Nat):Int):=by omega
  rw [hi]
  have hd:(48 + ((q:Int).tmod 10))=48 + ((q % 10:Nat):Int):=by rw [Int.tmod_eq_emod_of_nonneg (by omega)];omega
  rw [hd,wrap64 (by omega) (by omega),wrapU8 (by omega) (by omega)]
  refine Own.store (by kernel_rfl) hw (k:=4 + j) (by simp;omega) fun w hw=>?_
  have e1:([119,97,108,45]++List.replicate (j + 1) 48++t:List Int).set (4 + j) (48 + ((q % 10:Nat):Int))=[119,97,108,45]++List.replicate j 48++((48 + ((q % 10:Nat):Int))::t):=by
   have e2:([119,97,108,45]++List.replicate (j + 1) 48++t:List Int)=([119,97,108,45]++List.replicate j 48)++48::t:=by
    rw [List.replicate_succ'];simp
   rw [e2]
   have hl:([119,97,108,45]++List.replicate j 48:List Int).length=4 + j:=by simp;omega
   rw [←hl,List.set_append_right _ _ (Nat.le_refl _),Nat.sub_self,List.set_cons_zero]
  rw [e1] at hw
  rw [Int.tdiv_eq_ediv_of_nonneg (by omega),wrap64 (by omega) (by omega),wrap64 (by omega) (by omega)]
  refine ⟨⟨j,q / 10,(48 + ((q % 10:Nat):Int))::t,by omega,by omega,by omega,by omega,by simp;omega,?_,hw⟩,by dsimp only;omega⟩
  rw [←hp]
  simp [padI]
 ·have hj0:j=0:=by omega
  subst hj0
  have ht:t=padI 8 n:=by simpa [padI] using hp
  obtain ⟨R1,hr,_,hw,back⟩:=Own.lend hw (by rw [List.length_map];simp;omega)
  refine ⟨VC.strOf ([119,97,108,45]++List.replicate 0 48++t),fun w' he=>?_,?_⟩
  ·rw [he]
   exact convS_ro Tryz.underlying53 Tryz.underlying5 Tryz.underlying9 hw hr
  ·refine ⟨?_,(back hw).drop⟩
   congr 1
   have e:([119,97,108,45]++List.replicate 0 48++t:List Int)=bytesL (segName n):=by rw [nameU_bytes,ht,padI8];rfl
   rw [e,strOf_bytesL]
theorem bytesL_take (k:ByteArray) (n:Nat):bytesL (k.extract 0 n)=(bytesL k).take n:=by
 unfold bytesL
 rw [ByteArray.data_extract,Array.toList_extract,←List.map_take]
 simp
theorem bytesL_inj {a b:ByteArray} (h:bytesL a=bytesL b):a=b:=by rw [←strOf_bytesL a,h,strOf_bytesL]
theorem get_byte {k:ByteArray} {i:Nat} (h:i<k.size):∃ t:UInt8,k[i]? =some t∧(t.toNat:Int)=(bytesL k)[i]'(by rw [bytesL_len];exact h):=by
 refine ⟨k[i],getElem?_pos k i h,?_⟩
 unfold bytesL
 simp only [List.getElem_map,Array.getElem_toList]
 rfl
theorem val10_snoc (l:List Int) (c:Int):val10 (l++[c])=val10 l * 10 + (c - 48):=by unfold val10;rw [List.foldl_append];rfl
theorem rnum06_spec (k:ByteArray) (hb:k.size≤1000000) (hw:Sat R Hs w):Gets Tryz.prog 135 #[.string k] w fun v w'=>v=.int .i64 (numL (bytesL k))∧Sat R Hs w':=by
 have hlen:=bytesL_len k
 apply call135
 have no:∀ {w:World},¬ ((bytesL k).take 4=[119,97,108,45]∧(bytesL k).length=12∧((bytesL k).drop 4).all (fun c=>decide (48≤c) && decide (c≤57))=true)→Sat R Hs w→(Value.int .i64 0=.int .i64 (numL (bytesL k))∧Sat R Hs w):=fun h hw=>⟨by unfold numL;rw [if_neg h];rfl,hw⟩
 refine ⟨fun w=>(k.size=12∧(bytesL k).take 4=[119,97,108,45])∧Sat R Hs w,?_,?_⟩
 ·refine Br.ne (fun h=>no (fun h2=>h (by rw [←hlen,h2.2.1];rfl)) hw) (fun h=>⟨by omega,by omega,?_⟩)
  have e4:bytesL (ByteArray.mk #[119,97,108,45])=[119,97,108,45]:=rfl
  refine Br.sne (fun h2=>no (fun h3=>h2 (bytesL_inj (by rw [e4,←h3.1];exact bytesL_take k 4))) hw) (fun h2=>⟨⟨by omega,?_⟩,hw⟩)
  rw [←e4,←h2]
  exact (bytesL_take k 4).symm
 clear hw
 rintro _ w ⟨⟨hsz,hpre⟩,hw⟩
 have h12:(bytesL k).length=12:=by omega
 have hdl:((bytesL k).drop 4).length=8:=by rw [List.length_drop,h12]
 refine ⟨fun n i w=>∃ j:Nat,i=((4 + j:Nat):Int)∧j≤8∧n=val10 (((bytesL k).drop 4).take j)∧0≤n∧n<10 ^ j∧(((bytesL k).drop 4).take j).all (fun c=>decide (48≤c) && decide (c≤57))=true∧Sat R Hs w,fun _ i _=>(12 - i).toNat,
  ⟨0,rfl,by omega,by simp [val10],by omega,by simp,by simp,hw⟩,?_⟩
 clear hw
 rintro _ n _ w ⟨j,rfl,hj,hn,h0,h1,hall,hw⟩
 refine Br.d (fun h=>?_) (fun h=>?_)
 ·have hj8:j<8:=by omega
  obtain ⟨t,ht,htv⟩:=get_byte (k:=k) (i:=4 + j) (by omega)
  have hdj:((bytesL k).drop 4)[j]'(by omega)=(t.toNat:Int):=by rw [htv,List.getElem_drop]
  have hjm:(t.toNat:Int)∈(bytesL k).drop 4:=by rw [←hdj];exact List.getElem_mem _
  have odd:¬ ((decide (48≤(t.toNat:Int)) && decide ((t.toNat:Int)≤57))=true)→¬ ((bytesL k).take 4=[119,97,108,45]∧(bytesL k).length=12∧((bytesL k).drop 4).all (fun c=>decide (48≤c) && decide (c≤57))=true):=fun h1 h2=>h1 (by
   have:=List.all_eq_true.1 h2.2.2 _ hjm
   exact this)
  have hi:(((4 + j:Nat):Int)).toNat=4 + j:=rfl
  refine ⟨t,by omega,by rw [hi];exact ht,Br.d (fun h2=>no (odd (by simp;omega)) hw) (fun h2=>⟨t,by omega,by rw [hi];exact ht,Br.d (fun h3=>no (odd (by simp;omega)) hw) (fun h3=>⟨t,by omega,by rw [hi];exact ht,?_⟩)⟩)⟩
  have hp:(10:Int) ^ j≤100000000:=by
   have:(10:Nat) ^ j≤10 ^ 8:=Nat.pow_le_pow_right (by omega) hj
   have h':((10 ^ j:Nat):Int)≤((10 ^ 8:Nat):Int):=by exact_mod_cast this
   simpa using h'
  have hps:(10:Int) ^ (j + 1)=10 ^ j * 10:=Int.pow_succ ..
  rw [wrapU8 (x:=(t.toNat:Int) - 48) (by omega) (by omega),wrap64 (x:=(t.toNat:Int) - 48) (by omega) (by omega),wrap64 (x:=n * 10) (by omega) (by omega),wrap64 (x:=n * 10 + ((t.toNat:Int) - 48)) (by omega) (by omega),wrap64 (x:=((4 + j:Nat):Int) + 1) (by omega) (by omega)]
  have htk:((bytesL k).drop 4).take (j + 1)=((bytesL k).drop 4).take j++[(t.toNat:Int)]:=by rw [←hdj,List.take_append_getElem]
  refine ⟨⟨j + 1,by omega,by omega,by rw [htk,val10_snoc,←hn],by omega,by rw [hps];omega,?_,hw⟩,by dsimp only;omega⟩
  rw [htk,List.all_append,hall]
  simp;omega
 ·have hj8:j=8:=by omega
  subst hj8
  rw [List.take_of_length_le (by omega)] at hn hall
  refine ⟨?_,hw⟩
  unfold numL
  rw [if_pos ⟨hpre,h12,hall⟩]
  congr 1
  omega
end Go.Proofs.YtkfedbncmfnpnaaGreatDoor
/- Reference 06: records as bytes, heads; what a record does to a log. Condition: bounds on lengths. -/
namespace Go.Proofs.YtkfedbncmfnpnaaGreatDoor
set_option linter.unusedVariables false
set_option linter.unusedSimpArgs false
open Go Go.VC
variable {R R':Cx} {Hs Rest:List HP} {w:World}
theorem rnums_spec {sd sl:Sl} {xs:List Int} {t:Option (List Int)} (hx:∀ x∈xs,0≤x∧x<9223372036854775808) (hxl:xs.length≤10) (hd:∀ d,t=some d→Ro R sd (b8 d)∧d.length≤4096∧∀ x∈d,0≤x∧x<256) (hl:Ro R sl (xs.map (Value.int .i64))) (hw:Sat R Hs w):
  Gets Tryz.prog 118 #[.slice sl.a sl.len sl.cap,.slice sd.a sd.len sd.cap,.bool t.isSome] w fun v w'=>∃ s:Sl,v=.slice s.a s.len s.cap∧Sat R (Own s 5 (b8 (encB xs t))::Hs) w':=by
 have hsl:sl.len=xs.length:=by have:=hl.len;simpa using this
 apply call118
 refine ⟨fun b i w=>∃ k:Nat,i=k∧k≤xs.length∧Sat R (Own b 5 (b8 (nums8 (xs.take k)))::Hs) w,fun _ i _=>xs.length - i.toNat,⟨0,rfl,by omega,Own.nil hw⟩,?_⟩
 clear hw
 rintro _ b _ w ⟨k,rfl,hk,hw⟩
 refine Br.d (fun h=>?_) (fun h=>?_)
 ·have hk':k<xs.length:=by omega
  refine hl.ix (eqS hw) k rfl hk' ?_
  have hxk:=hx xs[k] (List.getElem_mem _)
  rw [wrapU64 hxk.1 (by omega),show xs[k]=((xs[k].toNat:Nat):Int) by omega]
  refine (rnumber_spec (by omega) hw).use ?_
  rintro _ w ⟨s,rfl,hw⟩
  refine ⟨s,rfl,?_⟩
  have hn:=numB_len (n:=xs[k].toNat) (by omega)
  have hn2:=nums8_len (l:=xs.take k) fun y hy=>hx y (List.mem_of_mem_take hy)
  have hn3:(xs.take k).length=k:=by simp;omega
  refine appendOO elB8 (s:=b) (t:=s) (n:=200) Tryz.underlying53 hw.swap (by omega) (by omega) (by omega) fun s2 w hw=>?_
  rw [←nums8_take hk'] at hw
  exact ⟨⟨k + 1,by rw [wrap64 (by omega) (by omega)];omega,by omega,hw.swap.drop⟩,by dsimp only;rw [wrap64 (by omega) (by omega)];omega⟩
 ·have:k=xs.length:=by omega
  subst this
  rw [List.take_length] at hw
  have hn2:=nums8_len hx
  have hnb:=nums8_bd hx
  cases t with
  |none=>
   refine Br.f rfl ?_
   obtain ⟨R1,hr1,_,hw,back⟩:=Own.lend hw (by rw [List.length_map];omega)
   refine (rp_spec hnb hr1 hw).use ?_
   rintro _ w (⟨h,_⟩|⟨_,t,rfl,hw⟩)
   ·omega
   refine ⟨t,0,rfl,t,rfl,?_⟩
   unfold encB
   rw [List.append_nil]
   exact (back hw).drop
  |some d=>
   obtain ⟨hd1,hd2,hd3⟩:=hd d rfl
   refine Br.t rfl ?_
   refine (rtextB_spec hd1 (by omega) hw).use ?_
   rintro _ w ⟨s,rfl,hw⟩
   have hn4:=textB_len hd2
   refine ⟨s,rfl,?_⟩
   refine appendOO elB8 (s:=b) (t:=s) (n:=5000) Tryz.underlying53 hw.swap (by omega) (by omega) (by omega) fun s2 w hw=>?_
   have hw:=hw.swap.drop
   have hbb:∀ x∈nums8 xs++textB d,0≤x∧x<256:=mem_app4 hnb (textB_bd hd2 hd3)
   obtain ⟨R1,hr1,_,hw,back⟩:=Own.lend hw (by rw [List.length_map,List.length_append];omega)
   refine (rp_spec hbb hr1 hw).use ?_
   rintro _ w (⟨h,_⟩|⟨_,t,rfl,hw⟩)
   ·rw [List.length_append] at h;omega
   exact ⟨t,0,rfl,t,rfl,(back hw).drop⟩
theorem rhead_spec {s:Sl} {b:List Int} {n:Int} (hb:∀ x∈b,0≤x∧x<256) (hl:b.length≤1099511627776) (hs:SlR R.m s (b8 b)) (hw:Sat R Hs w):
  Gets Tryz.prog 137 #[.slice s.a s.len s.cap,.int .i64 n] w fun v w'=>v=.int .i64 (headL b n)∧Sat R Hs w':=by
 apply call137
 refine new_rule hw fun r w hw=>?_
 have hw:Sat R (RRdAt r s b ⟨b,false⟩::Hs) w:=Sat.rrd.2 ⟨0,⟨Nat.zero_le _,rfl⟩,hw⟩
 refine (rrnum_spec hl hb hs hw).use ?_
 clear hw
 rintro _ w ⟨rfl,hw⟩
 have hb1:=rdNum_bd (most:=0) (rd:=⟨b,false⟩) hb
 have hv1:=rdNum_val (most:=0) (rd:=⟨b,false⟩) hb (by omega)
 refine ⟨_,rfl,(rrnum_spec hl hb hs hw).use ?_⟩
 clear hw
 rintro _ w ⟨rfl,hw⟩
 have hv2:=rdNum_val (most:=99999999) hb1 (by omega)
 have hb2:=rdNum_bd (most:=99999999) hb1
 refine ⟨_,rfl,(rrnum_spec hl hb hs hw).use ?_⟩
 clear hw
 rintro _ w ⟨rfl,hw⟩
 have hv3:=rdNum_val (most:=1099511627777) hb2 (by omega)
 refine ⟨_,rfl,(rrwhole_spec hs hw).use ?_⟩
 clear hw
 rintro _ w ⟨rfl,hw⟩
 have hw:=hw.drop
 rw [wrap64 (x:=(rdNum 99999999 _).1) (by omega) (by omega),wrap64 (x:=(rdNum 1099511627777 _).1) (by omega) (by omega)]
 unfold headL
 simp only
 refine ⟨_,rfl,Br.nb (fun h=>?_) (fun h=>Br.ne (fun h2=>by omega) (fun _=>Br.ne (fun h2=>?_) (fun h2=>?_)))⟩
 ·rw [if_neg (fun h2=>by rw [h] at h2;cases h2.1)];exact ⟨rfl,hw⟩
 ·rw [if_neg (fun h3=>h2 h3.2)];exact ⟨rfl,hw⟩
 ·rw [if_pos ⟨h,h2⟩];exact ⟨rfl,hw⟩
abbrev uCells (d:Nat) (lim base:Int) (s sg sh:Sl) (brk:Bool):Obj:=
 .cells [.pointer (some ⟨d,0,none⟩),.int .i64 lim,.int .i64 base,.slice s.a s.len s.cap,.slice sg.a sg.len sg.cap,.slice sh.a sh.len sh.cap,.bool brk].toArray 88 (0,0)
theorem rlast2_spec {base:Int} {s:Sl} (h0:0≤base) (h1:base≤1099511627776) (hl:s.len≤200000000000) (hw:Sat R Hs w):Gets Tryz.prog 30 #[.agg #[.int .i64 base,.slice s.a s.len s.cap]] w fun v w'=>v=.int .i64 (base + s.len)∧Sat R Hs w':=by
 apply call30
 refine new_rule hw fun b w hw=>?_
 refine ⟨_,At.own (eqS hw) (by exact ⟨rfl,trivial⟩),_,At.own (eqS hw) (by exact ⟨rfl,trivial⟩),?_,hw.drop⟩
 rw [wrap64 (by omega) (by omega)]
def UChgQ (R:Cx) (Hs:List HP) (p d:Nat) (lim base:Int) (sg sh:Sl) (brk:Bool) (es:List Ey) (o:Option Lg) (v:Value) (w:World):Prop:=
 ∃ R' base' s' ds',R.Ext R'∧DsR R' ds'∧v=.bool o.isSome∧(o.getD ⟨base,es⟩)=⟨base',erE ds'⟩∧Sat R' (pts p (uCells d lim base' s' sg sh brk)::EntO s' ds'::Hs) w
theorem UChgQ.no {p d:Nat} {lim base:Int} {s sg sh:Sl} {brk:Bool} {ds:List DE4} {o:Option Lg} (hd:DsR R ds) (ho:o=none) (hw:Sat R (pts p (uCells d lim base s sg sh brk)::EntO s ds::Hs) w):UChgQ R Hs p d lim base sg sh brk (erE ds) o (.bool false) w:=
 ⟨R,base,s,ds,.refl,hd,by rw [ho];rfl,by rw [ho];rfl,hw⟩
theorem UChgQ.yes {p d:Nat} {lim base base':Int} {s sg sh:Sl} {brk:Bool} {ds':List DE4} {es:List Ey} {o:Option Lg} (e:R.Ext R') (hd:DsR R' ds') (ho:o=some ⟨base',erE ds'⟩) (hw:Sat R' (pts p (uCells d lim base' s sg sh brk)::EntO s ds'::Hs) w):UChgQ R Hs p d lim base sg sh brk es o (.bool true) w:=
 ⟨R',base',s,ds',e,hd,by rw [ho];rfl,by rw [ho];rfl,hw⟩
theorem UChgQ.ext {p d:Nat} {lim base:Int} {sg sh:Sl} {brk:Bool} {es:List Ey} {o:Option Lg} {v:Value} (e:R.Ext R') (h:UChgQ R' Hs p d lim base sg sh brk es o v w):UChgQ R Hs p d lim base sg sh brk es o v w:=
 let ⟨R2,b,s,ds,e2,h2⟩:=h;⟨R2,b,s,ds,e.trans e2,h2⟩
theorem whole_bad {r:Rd} (h:r.bad=true):rdWhole r=false:=by unfold rdWhole;rw [h];rfl
theorem add_badR {g:Lg} {r:Rd} (h0:0≤g.base) (h:(rdNum 1099511627777 r).2.bad=true∨(rdNum 1099511627777 r).1<1):addR g r=none:=by
 unfold addR
 simp only
 rw [if_neg]
 rintro ⟨h1,_,h3⟩
 rcases h with h|h
 ·have e1:rdNum 1099511627776 (rdNum 1099511627777 r).2=(0,(rdNum 1099511627777 r).2):=rdNum_bad' h
  rw [e1] at h1
  simp only at h1
  have e2:rdNum 7 (rdNum 1099511627777 r).2=(0,(rdNum 1099511627777 r).2):=rdNum_bad' h
  rw [e2] at h1
  simp only at h1
  rw [rdText_bad' h] at h1
  simp only at h1
  rw [whole_bad h] at h1
  cases h1
 ·unfold Lg.last at h3;omega
theorem cut_badR {g:Lg} {r:Rd} (h:(rdNum 1099511627777 r).2.bad=true∨(rdNum 1099511627777 r).1<1):cutR g r=none:=by
 unfold cutR
 simp only
 rw [if_neg]
 rintro ⟨h1,h3⟩
 rcases h with h|h
 ·rw [whole_bad h] at h1;cases h1
 ·omega
theorem reset_badR {g:Lg} {r:Rd} (h:(rdNum 1099511627777 r).2.bad=true∨(rdNum 1099511627777 r).1<1):resetR g r=none:=by
 unfold resetR
 simp only
 rw [if_neg]
 rintro ⟨h1,h3⟩
 rcases h with h|h
 ·rw [whole_bad h] at h1;cases h1
 ·omega
theorem change_badR {g:Lg} {r:Rd} (h0:0≤g.base) (h:(rdNum 1099511627777 (rdNum 3 r).2).2.bad=true∨(rdNum 1099511627777 (rdNum 3 r).2).1<1∨(rdNum 3 r).1=0):changeR1 g r=none:=by
 have key:(rdNum 1099511627777 (rdNum 3 r).2).2.bad=true∨(rdNum 1099511627777 (rdNum 3 r).2).1<1→changeR1 g r=none:=fun h=>by
  unfold changeR1
  simp only
  split
  ·exact add_badR h0 h
  split
  ·exact cut_badR h
  split
  ·exact reset_badR h
  ·rfl
 rcases h with h|h|h
 ·exact key (.inl h)
 ·exact key (.inr h)
 ·unfold changeR1
  simp only
  rw [h]
  rfl
end Go.Proofs.YtkfedbncmfnpnaaGreatDoor
/- Reference 06: what a record does to a log in memory. Condition: bounds on lengths. -/
namespace Go.Proofs.YtkfedbncmfnpnaaGreatDoor
set_option linter.unusedVariables false
set_option linter.unusedSimpArgs false
open Go Go.VC
variable {R R':Cx} {Hs Rest:List HP} {w:World}
set_option maxHeartbeats 1000000 in
theorem rchange_spec {p d:Nat} {lim base:Int} {s sg sh sb:Sl} {brk:Bool} {ds:List DE4} {b:List Int} (h0:0≤base) (h1:base≤1099511627776) (hl:ds.length≤100000000000) (hd:DsR R ds) (hb:∀ x∈b,0≤x∧x<256) (hbl:b.length≤1099511627776) (hs:SlR R.m sb (b8 b))
  (hw:Sat R (pts p (uCells d lim base s sg sh brk)::EntO s ds::Hs) w):
  Gets Tryz.prog 139 #[.pointer (some ⟨p,2,none⟩),.slice sb.a sb.len sb.cap] w (UChgQ R Hs p d lim base sg sh brk (erE ds) (changeL ⟨base,erE ds⟩ b)):=by
 apply call139
 suffices H:∀ K:Value→World→Prop,(∀ v w',UChgQ R Hs p d lim base sg sh brk (erE ds) (changeL ⟨base,erE ds⟩ b) v w'→K v w')→B139 (some ⟨p,2,none⟩) sb K w from H _ fun v w' h=>h
 intro K hK
 refine new_rule hw fun r w hw=>?_
 have hw:Sat R (RRdAt r sb b ⟨b,false⟩::pts p (uCells d lim base s sg sh brk)::EntO s ds::Hs) w:=Sat.rrd.2 ⟨0,⟨Nat.zero_le _,rfl⟩,hw⟩
 refine (rrnum_spec hbl hb hs hw).use ?_
 clear hw
 rintro _ w ⟨rfl,hw⟩
 have hv0:=rdNum_val (most:=3) (rd:=⟨b,false⟩) hb (by omega)
 have hb0:=rdNum_bd (most:=3) (rd:=⟨b,false⟩) hb
 have hchg:changeL ⟨base,erE ds⟩ b=changeR1 ⟨base,erE ds⟩ ⟨b,false⟩:=rfl
 have hbad:=change_badR (g:=⟨base,erE ds⟩) (r:=⟨b,false⟩) h0
 have eA:changeR1 ⟨base,erE ds⟩ ⟨b,false⟩=if (rdNum 3 ⟨b,false⟩).1=1 then addR ⟨base,erE ds⟩ (rdNum 3 ⟨b,false⟩).2 else if (rdNum 3 ⟨b,false⟩).1=2 then cutR ⟨base,erE ds⟩ (rdNum 3 ⟨b,false⟩).2 else if (rdNum 3 ⟨b,false⟩).1=3 then resetR ⟨base,erE ds⟩ (rdNum 3 ⟨b,false⟩).2 else none:=rfl
 obtain ⟨q,hq⟩:∃ q,q=rdNum 3 ⟨b,false⟩:=⟨_,rfl⟩
 rw [←hq] at hw hv0 hb0 hbad eA ⊢
 refine ⟨_,rfl,(rrnum_spec hbl hb hs hw).use ?_⟩
 clear hw
 rintro _ w ⟨rfl,hw⟩
 have hv1:=rdNum_val (most:=1099511627777) hb0 (by omega)
 have hb1:=rdNum_bd (most:=1099511627777) hb0
 obtain ⟨i,hi⟩:∃ i,i=rdNum 1099511627777 q.2:=⟨_,rfl⟩
 rw [←hi] at hw hv1 hb1 hbad ⊢
 rw [hchg] at hK
 obtain ⟨O,hO⟩:∃ O,O=changeR1 ⟨base,erE ds⟩ ⟨b,false⟩:=⟨_,rfl⟩
 rw [←hO] at hK hbad eA
 refine ⟨_,rfl,fun w=>(i.2.bad=false∧1≤i.1∧¬ q.1=0)∧Sat R (RRdAt r sb b i.2::pts p (uCells d lim base s sg sh brk)::EntO s ds::Hs) w,?_,?_⟩
 ·obtain ⟨n,hn,hw⟩:=Sat.rrd.1 hw
  refine ⟨i.2.bad,At.own (eqS hw) (by exact ⟨rfl,trivial⟩),Br.mk (fun h=>hK _ _ (.no hd (hbad (.inl h)) hw.drop)) (fun h=>?_)⟩
  rw [wrap64 (by omega) (by omega)]
  refine Br.d (fun h2=>hK _ _ (.no hd (hbad (.inr (.inl h2))) hw.drop)) (fun h2=>Br.e (fun h3=>hK _ _ (.no hd (hbad (.inr (.inr h3))) hw.drop)) (fun h3=>⟨⟨h,by omega,h3⟩,Sat.rrd.2 ⟨n,hn,hw⟩⟩))
 clear hw
 rintro _ w ⟨⟨hbf,hi1,hq0⟩,hw⟩
 have hsl:s.len=ds.length:=by
  have h2:Sat R (EntO s ds::RRdAt r sb b i.2::pts p (uCells d lim base s sg sh brk)::Hs) w:=hw.arr
  have:=OwnN.len h2;simpa using this
 have hcap:s.len≤s.cap:=by
  have h2:Sat R (EntO s ds::RRdAt r sb b i.2::pts p (uCells d lim base s sg sh brk)::Hs) w:=hw.arr
  exact OwnN.cap (by omega) h2
 rw [wrap64 (x:=i.1) (by omega) (by omega)]
 refine Br.e (fun hk1=>?_) (fun hk1=>?_)
 ·rw [if_pos hk1] at eA
  refine (rrnum_spec hbl hb hs hw).use ?_
  clear hw
  rintro _ w ⟨rfl,hw⟩
  have hv2:=rdNum_val (most:=1099511627776) hb1 (by omega)
  have hb2:=rdNum_bd (most:=1099511627776) hb1
  obtain ⟨t,ht⟩:∃ t,t=rdNum 1099511627776 i.2:=⟨_,rfl⟩
  rw [←ht] at hw hv2 hb2 ⊢
  refine ⟨_,rfl,(rrnum_spec hbl hb hs hw).use ?_⟩
  clear hw
  rintro _ w ⟨rfl,hw⟩
  have hv3:=rdNum_val (most:=7) hb2 (by omega)
  obtain ⟨k,hk⟩:∃ k,k=rdNum 7 t.2:=⟨_,rfl⟩
  rw [←hk] at hw hv3 ⊢
  refine ⟨_,rfl,new_rule hw fun bx w hw=>?_⟩
  rw [wrap64 (x:=t.1) (by omega) (by omega),wrap64 (x:=k.1) (by omega) (by omega)]
  refine store_rule hw (by kernel_rfl) rfl (by simp [Value.cells,putL_len]) fun w hw=>?_
  have hw:Sat R (RRdAt r sb b k.2::pts bx (.cells [.int .i64 i.1,.int .i64 t.1,.int .i64 k.1,.slice none 0 0].toArray 55 (0,0))::pts p (uCells d lim base s sg sh brk)::EntO s ds::Hs) w:=Sat.swap hw
  refine (rrtext_spec (most:=4096) (by omega) hbl hb hs hw).use ?_
  clear hw
  rintro _ w ⟨sd,rfl,hw⟩
  obtain ⟨x,hx⟩:∃ x,x=rdText 4096 k.2:=⟨_,rfl⟩
  rw [←hx] at hw
  obtain ⟨R1,e1,hsd,hw⟩:=Own.leak hw
  have hd:=hd.ext e1
  refine ⟨sd,rfl,?_⟩
  refine store_rule hw (by kernel_rfl) rfl (by simp [Value.cells,putL_len]) fun w hw=>?_
  have hw:Sat R1 (pts bx (.cells [.int .i64 i.1,.int .i64 t.1,.int .i64 k.1,.slice sd.a sd.len sd.cap].toArray 55 (0,0))::RRdAt r sb b x.2::pts p (uCells d lim base s sg sh brk)::EntO s ds::Hs) w:=hw
  have eB:O=if rdWhole x.2=true∧i.1≤1099511627776∧i.1=base + (ds.length:Int) + 1 then some ⟨base,erE ds++[⟨i.1,t.1,k.1,x.1⟩]⟩ else none:=by
   rw [eA]
   subst hx hk ht hi
   unfold addR Lg.last
   simp only [List.length_map]
  rw [eB] at hK
  have out:∀ {w},¬ (rdWhole x.2=true∧i.1≤1099511627776∧i.1=base + (ds.length:Int) + 1)→Sat R1 (pts bx (.cells [.int .i64 i.1,.int .i64 t.1,.int .i64 k.1,.slice sd.a sd.len sd.cap].toArray 55 (0,0))::RRdAt r sb b x.2::pts p (uCells d lim base s sg sh brk)::EntO s ds::Hs) w→K (.bool false) w:=fun h hw=>
   hK _ _ (.ext e1 (.no hd (if_neg h) hw.drop.drop))
  refine (rrwhole_spec (e1.slR hs) hw.swap).use ?_
  clear hw
  rintro _ w ⟨rfl,hw⟩
  have hw:=hw.swap
  refine ⟨_,rfl,Br.nb (fun h=>out (fun h2=>by rw [h] at h2;cases h2.1) hw) (fun h=>Br.d (fun h2=>out (fun h3=>by omega) hw) (fun h2=>?_))⟩
  refine NilP.mk rfl ⟨base,s,At.own (eqS hw) (by exact ⟨rfl,rfl,trivial⟩),?_⟩
  refine (rlast2_spec h0 h1 (by omega) hw).use ?_
  clear hw
  rintro _ w ⟨rfl,hw⟩
  refine ⟨_,rfl,?_⟩
  rw [wrap64 (by omega) (by omega),hsl]
  refine Br.ne (fun h3=>out (fun h4=>h3 h4.2.2) hw) (fun h3=>?_)
  have hc:rdWhole x.2=true∧i.1≤1099511627776∧i.1=base + (ds.length:Int) + 1:=⟨h,by omega,h3⟩
  refine drw_rule' (Sat R1 [pts bx (.cells [.int .i64 i.1,.int .i64 t.1,.int .i64 k.1,.slice sd.a sd.len sd.cap].toArray 55 (0,0)),pts p (uCells d lim base s sg sh brk),VC.tru]) hw (fun w hw=>hw.k2) fun w hw=>?_
  refine NilP.mk rfl ⟨s,At.own selfS (by exact ⟨rfl,trivial⟩),i.1,t.1,k.1,sd,At.own selfS (by exact ⟨rfl,rfl,rfl,rfl,trivial⟩),new_rule hw fun b2 w hw=>⟨hw.k2,?_⟩⟩
  have hw:Sat R1 (EntO s ds::pts b2 (.cells (eRow (sd,⟨i.1,t.1,k.1,x.1⟩)).toArray 55 (0,0))::pts bx (.cells [.int .i64 i.1,.int .i64 t.1,.int .i64 k.1,.slice sd.a sd.len sd.cap].toArray 55 (0,0))::RRdAt r sb b x.2::pts p (uCells d lim base s sg sh brk)::Hs) w:=hw.arr
  refine pushN_in elE hw rfl rfl (by rw [List.length_map];omega) (by rw [List.length_map];omega) fun s2 w hw=>?_
  have hw:Sat R1 (pts p (uCells d lim base s sg sh brk)::pts bx (.cells [.int .i64 i.1,.int .i64 t.1,.int .i64 k.1,.slice sd.a sd.len sd.cap].toArray 55 (0,0))::RRdAt r sb b x.2::OwnN 4 s2 55 (ds.map eRow++[eRow (sd,⟨i.1,t.1,k.1,x.1⟩)])::Hs) w:=hw.arr
  refine ⟨hw.k2,NilP.mk rfl ?_⟩
  refine store_rule hw (by kernel_rfl) rfl (by simp [Value.cells,putL_len]) fun w hw=>?_
  have hw:=hw.re (pts p (uCells d lim base s2 sg sh brk))
  refine hK _ _ (.yes (base':=base) (ds':=ds++[(sd,⟨i.1,t.1,k.1,x.1⟩)]) (s:=s2) e1 (hd.app (.one hsd)) ?_ ?_)
  ·rw [if_pos hc];simp [erE]
  ·unfold EntO;rw [List.map_append];exact hw.cons fun _ h=>h.drop.drop
 rw [if_neg hk1] at eA
 refine Br.e (fun hk2=>?_) (fun hk2=>?_)
 ·rw [if_pos hk2] at eA
  have eB:O=if rdWhole i.2=true∧1≤i.1 then some (cutTo ⟨base,erE ds⟩ i.1) else none:=by
   rw [eA];subst hi;rfl
  refine (rrwhole_spec hs hw).use ?_
  clear hw
  rintro _ w ⟨rfl,hw⟩
  have hw:=hw.drop
  refine ⟨_,rfl,Br.nb (fun h=>hK _ _ (.no hd (by rw [eB,if_neg (fun h2=>by rw [h] at h2;cases h2.1)]) hw)) (fun h=>?_)⟩
  rw [if_pos ⟨h,hi1⟩] at eB
  refine NilP.mk rfl ⟨base,At.own (eqS hw) (by exact ⟨rfl,trivial⟩),Br.d (fun hc=>?_) (fun hc=>?_)⟩
  ·refine NilP.mk rfl ?_
   rw [wrap64 (by omega) (by omega)]
   refine store_rule hw (by kernel_rfl) rfl (by simp [Value.cells,putL_len]) fun w hw=>?_
   have hw:=hw.re (pts p (uCells d lim (i.1 - 1) s sg sh brk))
   refine NilP.mk rfl ?_
   refine store_rule hw (by kernel_rfl) rfl (by simp [Value.cells,putL_len]) fun w hw=>?_
   have hw:=hw.re (pts p (uCells d lim (i.1 - 1) ⟨none,0,0⟩ sg sh brk))
   refine hK _ _ (.yes (base':=i.1 - 1) (s:=⟨none,0,0⟩) (ds':=[]) .refl .nil ?_ (hw.cons fun _ h=>OwnN.nil h.drop))
   rw [eB];unfold cutTo;rw [if_pos hc];rfl
  ·refine NilP.mk rfl ⟨base,s,At.own (eqS hw) (by exact ⟨rfl,rfl,trivial⟩),?_⟩
   refine (rlast2_spec h0 h1 (by omega) hw).use ?_
   clear hw
   rintro _ w ⟨rfl,hw⟩
   refine ⟨_,rfl,Br.d (fun hc2=>?_) (fun hc2=>?_)⟩
   ·have w1:IntKind.i64.wrap (IntKind.i64.wrap (i.1 - 1) - base)=i.1 - 1 - base:=by rw [wrap64 (x:=i.1 - 1) (by omega) (by omega),wrap64 (by omega) (by omega)]
    have hn:(i.1 - 1 - base).toNat≤ds.length:=by omega
    refine drw_rule' (Sat R [pts p (uCells d lim base s sg sh brk),VC.tru]) hw (fun w hw=>hw.k1) fun w hw=>?_
    refine NilP.mk rfl ⟨s,At.own selfS (by exact ⟨rfl,trivial⟩),NilP.mk rfl ⟨base,At.own selfS (by exact ⟨rfl,trivial⟩),?_⟩⟩
    rw [w1]
    refine ⟨by omega,by omega,new_rule hw fun b2 w hw=>⟨hw.k1,?_⟩⟩
    have hw:Sat R (EntO s ds::pts b2 (.cells ([]:List Value).toArray 55 (0,0))::pts p (uCells d lim base s sg sh brk)::Hs) w:=hw.arr
    obtain ⟨R1,hr,⟨x,hx⟩,hw,back⟩:=OwnN.lend hw
    have hr2:=hr.take (h:=(i.1 - 1 - base).toNat) (by rw [List.length_map];exact hn) s.cap
    rw [←List.map_take] at hr2
    have hs2:=srcRoN elE.hk hw hr2 (one_eRows _)
    refine appendN0_rule elE hw hs2 hr2.wid (by rw [List.length_map,List.length_take];omega) (by rw [List.length_map,List.length_take];omega) fun t w hw=>?_
    have hw:Sat R (EntO s ds::EntO t (ds.take (i.1 - 1 - base).toNat)::pts p (uCells d lim base s sg sh brk)::Hs) w:=back hw
    have hw:Sat R (pts p (uCells d lim base s sg sh brk)::EntO t (ds.take (i.1 - 1 - base).toNat)::EntO s ds::Hs) w:=hw.arr
    refine ⟨hw.k1,NilP.mk rfl ?_⟩
    refine store_rule hw (by kernel_rfl) rfl (by simp [Value.cells,putL_len]) fun w hw=>?_
    have hw:=hw.re (pts p (uCells d lim base t sg sh brk))
    refine hK _ _ (.yes (base':=base) (s:=t) (ds':=ds.take (i.1 - 1 - base).toNat) .refl (hd.take _) ?_ (hw.cons fun _ h=>h.cons fun _ h=>h.drop))
    rw [eB]
    unfold cutTo
    rw [if_neg hc,if_pos (by unfold Lg.last;simp only [List.length_map];omega)]
    simp [erE]
   ·refine hK _ _ (.yes (base':=base) (s:=s) (ds':=ds) .refl hd ?_ hw)
    rw [eB]
    unfold cutTo
    rw [if_neg hc,if_neg (by unfold Lg.last;simp only [List.length_map];omega)]
 rw [if_neg hk2] at eA
 have hk3:q.1=3:=by omega
 rw [if_pos hk3] at eA
 refine Br.e (fun _=>?_) (fun h=>absurd hk3 h)
 have eB:O=if rdWhole i.2=true∧1≤i.1 then some ⟨i.1 - 1,[]⟩ else none:=by
  rw [eA];subst hi;rfl
 refine (rrwhole_spec hs hw).use ?_
 clear hw
 rintro _ w ⟨rfl,hw⟩
 have hw:=hw.drop
 refine ⟨_,rfl,Br.nb (fun h=>hK _ _ (.no hd (by rw [eB,if_neg (fun h2=>by rw [h] at h2;cases h2.1)]) hw)) (fun h=>?_)⟩
 rw [if_pos ⟨h,hi1⟩] at eB
 refine NilP.mk rfl ?_
 rw [wrap64 (by omega) (by omega)]
 refine store_rule hw (by kernel_rfl) rfl (by simp [Value.cells,putL_len]) fun w hw=>?_
 have hw:=hw.re (pts p (uCells d lim (i.1 - 1) s sg sh brk))
 refine NilP.mk rfl ?_
 refine store_rule hw (by kernel_rfl) rfl (by simp [Value.cells,putL_len]) fun w hw=>?_
 have hw:=hw.re (pts p (uCells d lim (i.1 - 1) ⟨none,0,0⟩ sg sh brk))
 exact hK _ _ (.yes (base':=i.1 - 1) (s:=⟨none,0,0⟩) (ds':=[]) .refl .nil (by rw [eB];rfl) (hw.cons fun _ h=>OwnN.nil h.drop))
end Go.Proofs.YtkfedbncmfnpnaaGreatDoor
/- Reference 06: what there is on a disk, found. Condition: bounds on lengths. -/
namespace Go.Proofs.YtkfedbncmfnpnaaGreatDoor
set_option linter.unusedVariables false
set_option linter.unusedSimpArgs false
open Go Go.VC
variable {R R':Cx} {Hs Rest:List HP} {w:World}
abbrev NumO (s:Sl) (segs:List Sg):HP:=Own s 3 (encN (segs.map (·.num)))
abbrev HeadO (s:Sl) (segs:List Sg):HP:=Own s 3 ((segs.map (·.next)).map (Value.int .i64))
abbrev US (p d:Nat) (lim base:Int) (s sg sh:Sl) (brk:Bool) (ds:List DE4) (segs:List Sg) (st:DS) (Hs:List HP):List HP:=pts p (uCells d lim base s sg sh brk)::EntO s ds::NumO sg segs::HeadO sh segs::RefAt d st::Hs
theorem namesU_spec {d:Nat} {st:DS} (hl:st.fs.length≤1000000) (hw:Sat R (RefAt d st::Hs) w):
  Gets Tryz.prog 43 #[.pointer (some ⟨d,0,none⟩)] w fun v w'=>∃ t:Sl,v=.slice t.a t.len t.cap∧Sat R (Own t 9 ((st.fs.map (·.1)).map Value.string)::RefAt d st::Hs) w':=by
 obtain ⟨s,E,hE,hw⟩:=Sat.ref.1 hw
 have hEl:E.length=st.fs.length:=by rw [←hE,erR_len]
 refine (namesR_spec hE (by omega) hw).mono ?_
 rintro _ w ⟨t,rfl,hw⟩
 exact ⟨t,rfl,hw.cons fun _ h=>RO.shut hE h⟩
theorem pushInt {b:Nat} {s:Sl} {xs:List Int} {x:Int} {ty:TypeId} {K:Sl→World→Prop} (hw:Sat R (Own s 3 (xs.map (Value.int .i64))::pts b (.cells [Value.int .i64 x].toArray 3 (0,0))::Hs) w) (hl:xs.length≤1000000)
  (k:∀ s' w',Sat R (Own s' 3 ((xs++[x]).map (Value.int .i64))::Hs) w'→K s' w'):
  ∃ w':World,∃ t:Sl,((Builtin.append_ #[ 41,41 ] ty #[.slice s.a s.len s.cap,.slice ((some ⟨b,0,none⟩)) 1 1]).run Tryz.prog w=.ok (.slice t.a t.len t.cap) w')∧K t w':=
 push1_in elI8 hw (oneAll_k _ _) rfl (by rw [List.length_map];omega) (by rw [List.length_map];omega) fun s' w' h=>k s' w' (by rw [List.map_append];exact h)
def amN (ld:Ld):Int:=match ld.amiss with|some s=>s.num|none=>0
def amZ (ld:Ld):Int:=match ld.amiss with|some s=>s.size|none=>0
def FoundQ (R:Cx) (Hs:List HP) (p d:Nat) (lim:Int) (brk:Bool) (st:DS) (v:Value) (w:World):Prop:=
 ∃ R' base s ds sg sh bh,R.Ext R'∧DsR R' ds∧v=.tuple #[.int .i64 (amN (loadD st)),.int .i64 (amZ (loadD st)),.slice bh.a bh.len bh.cap]∧(⟨base,erE ds⟩:Lg)=(loadD st).g∧SlR R'.m bh (encN (loadD st).behind)∧0≤base∧base≤1099511627776∧ds.length≤100000000000∧
  (loadD st).segs.length≤40000∧Sat R' (US p d lim base s sg sh brk ds (loadD st).segs st Hs) w
set_option maxHeartbeats 4000000 in
theorem rfound_spec {p d:Nat} {lim base:Int} {s0 sg0 sh0:Sl} {brk:Bool} {st:DS} (i:Inv st) (hby:ByOk st.fs) (hc:st.fs.length≤40000) (hN:namesOf st.fs=st.fs.map (·.1)) (hw:Sat R (pts p (uCells d lim base s0 sg0 sh0 brk)::RefAt d st::Hs) w):
  Gets Tryz.prog 93 #[.pointer (some ⟨p,0,none⟩)] w (FoundQ R Hs p d lim brk st):=by
 apply call93
 suffices H:∀ K:Value→World→Prop,(∀ v w',FoundQ R Hs p d lim brk st v w'→K v w')→B93 (some ⟨p,0,none⟩) K w from H _ fun _ _ h=>h
 intro K hK
 refine NilP.mk rfl ⟨_,At.own (eqS hw) (by exact ⟨rfl,trivial⟩),?_⟩
 refine (namesU_spec (by omega) hw.swap).use ?_
 clear hw
 rintro _ w ⟨sn,rfl,hw⟩
 refine ⟨sn,rfl,?_⟩
 rw [←hN] at hw
 obtain ⟨R1,e1,hn1,hw⟩:=Own.leak hw
 have hnl:=namesOf_len st.fs
 have hsnl:sn.len=(namesOf st.fs).length:=by have:=hn1.len;simpa using this
 have hro1:=hn1.ro (by rw [List.length_map];omega)
 refine ⟨fun t i w=>∃ j:Nat,i=j∧j≤(namesOf st.fs).length∧Sat R1 (Own t 3 (encN (numsOf ((namesOf st.fs).take j)))::RefAt d st::pts p (uCells d lim base s0 sg0 sh0 brk)::Hs) w,fun _ i _=>((namesOf st.fs).length - i).toNat,⟨0,rfl,Nat.zero_le _,Own.nil hw⟩,?_⟩
 clear hw
 rintro _ sa _ w ⟨j,rfl,hj,hw⟩
 refine Br.d (fun h=>?_) (fun h=>?_)
 ·have hjl:j<(namesOf st.fs).length:=by omega
  have w1:IntKind.i64.wrap ((j:Int) + 1)=((j + 1:Nat):Int):=by rw [wrap64 (by omega) (by omega)];omega
  have hks:=nameOk_size (i.names _ (mem_names.1 (List.getElem_mem hjl)))
  have htk:=numsOf_take hjl
  have hlt:=numL_lt (l:=bytesL (namesOf st.fs)[j])
  have hnle:=numsOf_le ((namesOf st.fs).take j)
  rw [List.length_take] at hnle
  refine hro1.idxStr (eqS hw) hjl ?_
  refine (rnum06_spec _ (by omega) hw).use ?_
  clear hw
  rintro _ w ⟨rfl,hw⟩
  rw [w1]
  refine ⟨_,rfl,Br.d (fun h2=>?_) (fun h2=>⟨⟨j + 1,rfl,hjl,by rw [htk,if_neg (by omega)];exact hw⟩,by dsimp only;omega⟩)⟩
  refine new_rule hw fun b w hw=>pushInt hw.swap (by rw [List.length_map];omega) fun t w hw=>⟨⟨j + 1,rfl,hjl,?_⟩,by dsimp only;omega⟩
  rw [htk,if_pos (by omega)]
  unfold encN
  rw [List.map_append]
  exact hw
 have hjl:j=(namesOf st.fs).length:=by omega
 rw [hjl,List.take_length] at hw
 clear h hj hjl
 obtain ⟨R2,e2,hall,hw⟩:=Own.leak hw
 obtain ⟨nums,hnums⟩:∃ n,n=numsOf (namesOf st.fs):=⟨_,rfl⟩
 obtain ⟨rd,hrd⟩:∃ rd:Nat→List Int,rd=fun n=>(readD st (segName n)).1:=⟨_,rfl⟩
 have hload:loadD st=loadL rd none ⟨0,[]⟩ [] nums:=by subst hrd hnums;rfl
 have hnb:∀ n∈nums,1≤n∧n<100000000:=fun n hn=>by
  rw [hnums] at hn
  unfold numsOf at hn
  rw [List.mem_filter] at hn
  obtain ⟨h1,h2⟩:=hn
  obtain ⟨k,_,rfl⟩:=List.mem_map.1 h1
  exact ⟨by have:=of_decide_eq_true h2;omega,numL_lt⟩
 have hnlen:nums.length≤40000:=by rw [hnums];have:=numsOf_le (namesOf st.fs);omega
 rw [←hnums] at hall
 have hal:sa.len=nums.length:=by have:=hall.len;simpa using this
 have hrb:∀ n,(∀ x∈rd n,0≤x∧x<256)∧(rd n).length≤16777216:=fun n=>by
  rw [hrd]
  exact ⟨by_read hby _,readD_le i _⟩
 have hsb:∀ n,∀ b∈scan (rd n),b.length≤65536∧∀ x∈b,0≤x∧x<256:=fun n b hb=>by
  obtain ⟨h1,h2⟩:=scan_mem _ (rd n) (Nat.le_refl _) b hb
  exact ⟨h1,fun x hx=>(hrb n).1 x (h2 x hx)⟩
 have e12:=e1.trans e2
 have hw:=hw.swap
 refine NilP.mk rfl ?_
 refine store_rule hw (by kernel_rfl) rfl (by simp [Value.cells,putL_len]) fun w hw=>?_
 have hw:=hw.re (pts p (uCells d lim 0 ⟨none,0,0⟩ sg0 sh0 brk))
 refine NilP.mk rfl ?_
 refine store_rule hw (by kernel_rfl) rfl (by simp [Value.cells,putL_len]) fun w hw=>?_
 have hw:=hw.re (pts p (uCells d lim 0 ⟨none,0,0⟩ ⟨none,0,0⟩ sh0 brk))
 refine NilP.mk rfl ?_
 refine store_rule hw (by kernel_rfl) rfl (by simp [Value.cells,putL_len]) fun w hw=>?_
 have hw:=hw.re (pts p (uCells d lim 0 ⟨none,0,0⟩ ⟨none,0,0⟩ ⟨none,0,0⟩ brk))
 refine ⟨fun i w=>∃ (k:Nat) (g:Lg) (sgs:List Sg) (R3:Cx) (s:Sl) (ds:List DE4) (sg sh:Sl),i=k∧k≤nums.length∧R2.Ext R3∧DsR R3 ds∧g=⟨g.base,erE ds⟩∧(0≤g.base∧g.base≤1099511627776)∧ds.length≤k * 2097153∧(k=0→g=⟨0,[]⟩)∧sgs.length=k∧
   loadD st=loadL rd (if k=0 then none else nums[k - 1]?) g sgs (nums.drop k)∧Sat R3 (US p d lim g.base s sg sh brk ds sgs st Hs) w,fun i _=>nums.length - i.toNat,⟨0,⟨0,[]⟩,[],R2,⟨none,0,0⟩,[],⟨none,0,0⟩,⟨none,0,0⟩,rfl,by omega,.refl,.nil,rfl,⟨by simp,by simp⟩,by simp,fun _=>rfl,rfl,hload,?_⟩,?_⟩
 ·exact hw.cons fun _ h=>OwnN.nil (Own.nil (Own.nil h))
 clear hw
 rintro _ _ w ⟨k,g,sgs,R3,s,ds,sg,sh,rfl,hk,e3,hd,hg,hgb,hdl,hg0,hsl,hL,hw⟩
 have hall3:=e3.slR hall
 refine Br.d (fun h=>?_) (fun h=>?_)
 rotate_left
 ·have hkn:k=nums.length:=by omega
  rw [hkn,List.drop_length] at hL
  have hL2:loadD st=⟨g,sgs,none,[]⟩:=by rw [hL];unfold loadL;rfl
  refine hK _ _ ⟨R3,g.base,s,ds,sg,sh,⟨none,0,0⟩,e12.trans e3,hd,by rw [hL2];rfl,?_,?_,hgb.1,hgb.2,by omega,?_,?_⟩
  ·rw [hL2];exact hg.symm
  ·rw [hL2];exact ⟨rfl,by simp,fun h=>absurd rfl h⟩
  ·rw [hL2];show sgs.length≤_;omega
  ·rw [hL2];exact hw
 have hk':k<nums.length:=by omega
 have hnk:=hnb nums[k] (List.getElem_mem _)
 obtain ⟨n,hn⟩:∃ n,n=nums[k]:=⟨_,rfl⟩
 rw [←hn] at hnk
 have hdrop:nums.drop k=n::nums.drop (k + 1):=by rw [hn];exact drop_get hk'
 rw [hdrop] at hL
 obtain ⟨prev,hprev⟩:∃ q,q=(if k=0 then none else nums[k - 1]?):=⟨_,rfl⟩
 rw [←hprev] at hL
 have w1:IntKind.i64.wrap ((k:Int) + 1)=((k + 1:Nat):Int):=by rw [wrap64 (by omega) (by omega)];omega
 rw [w1]
 have hbh:SlR R3.m (sdrop sa (k + 1)) (encN (nums.drop (k + 1))):=by
  have:=hall3.drop (k:=k + 1) (by simp;omega)
  simpa [encN,List.map_drop] using this
 have en:(nums.map fun n:Nat=>(n:Int))[k]'(by simpa using hk')=((n:Nat):Int):=by simp [hn]
 refine drw_rule' (Sat R3 [pts p (uCells d lim g.base s sg sh brk),VC.tru]) hw (fun w hw=>hw.k1) fun w hw=>?_
 refine NilP.mk rfl ⟨_,At.own selfS (by exact ⟨rfl,trivial⟩),?_⟩
 refine hall3.ix selfS k rfl (by simpa using hk') ?_
 rw [en]
 refine (rName_spec hnk.2 hw).use ?_
 clear hw
 rintro _ w ⟨rfl,hw⟩
 refine ⟨_,rfl,hw.k1,?_⟩
 have hw:Sat R3 (RefAt d st::pts p (uCells d lim g.base s sg sh brk)::EntO s ds::NumO sg sgs::HeadO sh sgs::Hs) w:=hw.arr
 refine (readR_spec i (by omega) (by rw [segName_size];omega) hw).use ?_
 clear hw
 rintro _ w ⟨t,rfl,hw⟩
 refine ⟨t,_,rfl,hw.k1,?_⟩
 obtain ⟨R4,e4,ht,hw⟩:=Own.leak hw
 have ern:(readD st (segName n)).1=rd n:=by rw [hrd]
 rw [ern] at ht
 have hbl:=(hrb n).2
 have htl:t.len=(rd n).length:=by have:=ht.len;simpa using this
 refine (rscan_spec (hrb n).1 (by omega) ht hw).use ?_
 clear hw
 rintro _ w ⟨l,rfl,hw⟩
 obtain ⟨R5,ps,e5,hps,hl,hpp,hw⟩:=bytes_leak hw
 refine ⟨l,_,rfl,?_⟩
 have hpl:ps.length=(scan (rd n)).length:=by rw [←hps];simp
 have hll:l.len=ps.length:=by have:=hl.len;simpa using this
 have hn8:=len_scanLen (scan (rd n))
 have hsle:=scanLen_le _ (rd n) (Nat.le_refl _)
 have e35:=e4.trans e5
 have hd:=hd.ext e35
 have hall5:=e35.slR hall3
 have hbh:=e35.slR hbh
 have hpj:∀ j (hj:j<ps.length),ps[j].2=(scan (rd n))[j]'(by omega)∧SlR R5.m ps[j].1 (b8 ((scan (rd n))[j]'(by omega))):=fun j hj=>by
  have e:ps[j].2=(scan (rd n))[j]'(by omega):=by
   have:(ps.map (·.2))[j]'(by simpa using hj)=(scan (rd n))[j]'(by omega):=by simp only [hps]
   simpa using this
  exact ⟨e,by rw [←e];exact hpp _ (List.getElem_mem _)⟩
 have hnx:=nxt_nn (prev:=prev) (hrb n).1 fun b hb=>(hsb n b hb).2
 have hprev0:prev=none↔k=0:=by
  rw [hprev]
  split
  ·simp [*]
  ·rename_i h0
   rw [List.getElem?_eq_getElem (by omega)]
   simp [h0]
 have fin:∀ {R6:Cx} {base z:Int} {s:Sl} {ds:List DE4} {sg sh:Sl} {sgs':List Sg} {am:Sg} {w:World},R5.Ext R6→DsR R6 ds→loadD st=⟨⟨base,erE ds⟩,sgs',some am,nums.drop (k + 1)⟩→am.num=n→am.size=z→0≤base→base≤1099511627776→ds.length≤100000000000→sgs'.length≤40000→
   Sat R6 (US p d lim base s sg sh brk ds sgs' st Hs) w→Drw w fun S_4 w_20=>
     Rng (k:Int) sa.len (NilP sa.a fun a_t124=>
     ∃ t125:Int,(At S_4 (Addr.add a_t124 (k:Int).toNat) [.int .i64 t125])∧
     ((0:Int)≤((k + 1:Nat):Int))∧
     ((((k + 1:Nat):Int):Int)≤(sa.len:Int))∧
     K (.tuple #[.int .i64 t125,.int .i64 z,.slice (cutA sa.a ((k + 1:Nat):Int).toNat sa.cap 1) (sa.len - ((k + 1:Nat):Int).toNat) (sa.cap - ((k + 1:Nat):Int).toNat)]) w_20):=
  fun {R6 base z s ds sg sh sgs' am w} e6 hd hld ha1 ha2 hb0 hb1 hdl hsl hw=>by
   refine drw_rule hw fun w hw=>?_
   refine (e6.slR hall5).ix selfS k rfl (by simpa using hk') ?_
   rw [en]
   refine ⟨by omega,by omega,hK _ _ ⟨R6,base,s,ds,sg,sh,sdrop sa (k + 1),((e12.trans e3).trans e35).trans e6,hd,?_,?_,?_,hb0,hb1,hdl,?_,?_⟩⟩
   ·rw [hld,Int.toNat_natCast];unfold amN amZ;simp only [ha1,ha2]
   ·rw [hld]
   ·rw [hld];exact e6.slR hbh
   ·rw [hld];exact hsl
   ·rw [hld];exact hw
 have hw:Sat R5 (US p d lim g.base s sg sh brk ds sgs st Hs) w:=hw.arr
 have noscan:ps.length=0→nxt rd prev n=0:=fun h0=>by
  unfold nxt nextOfSeg
  cases hs:scan (rd n) with
  |nil=>rfl
  |cons a l=>rw [hs] at hpl;simp at hpl;omega
 refine ⟨fun x w=>x=nxt rd prev n∧Sat R5 (US p d lim g.base s sg sh brk ds sgs st Hs) w,?_,?_⟩
 ·have some1:∀ {w:World},Sat R5 (US p d lim g.base s sg sh brk ds sgs st Hs) w→∀ (hpos:0<ps.length),(prev=none∨prev.map (· + 1)=some n)→Drw w fun S_2 w_15=>
      Rng 0 l.len (NilP l.a fun a_t99=>
      ∃ t100:Sl,(At S_2 (Addr.add a_t99 0) [.slice t100.a t100.len t100.cap])∧
      Rng (k:Int) sa.len (NilP sa.a fun a_t103=>
      ∃ t104:Int,(At S_2 (Addr.add a_t103 (k:Int).toNat) [.int .i64 t104])∧
      Calls Tryz.prog 137 #[.slice t100.a t100.len t100.cap,.int .i64 t104] w_15 fun e_5 w_16=>
      ∃ t105:Int,(e_5=.returned (.int .i64 t105))∧
      t105=nxt rd prev n∧Sat R5 (US p d lim g.base s sg sh brk ds sgs st Hs) w_16)):=fun hw hpos hor=>by
   refine drw_rule hw fun w hw=>?_
   refine hl.ixS selfS 0 rfl (by simpa using hpos) ?_
   obtain ⟨_,h2⟩:=hpj 0 hpos
   have hb0:=hsb n _ (List.getElem_mem (h:=(by omega:0<(scan (rd n)).length)))
   have en0:(ps.map fun p:Sl × List Int=>p.1)[0]'(by simpa using hpos)=ps[0].1:=by simp
   rw [en0]
   refine hall5.ix selfS k rfl (by simpa using hk') ?_
   rw [en]
   refine (rhead_spec hb0.2 (by omega) h2 hw).use ?_
   clear hw
   rintro _ w ⟨rfl,hw⟩
   exact ⟨_,rfl,(nextOf_get (by omega) hor).symm,hw⟩
  refine drw_rule hw fun w hw=>Br.d (fun h1=>?_) (fun h1=>⟨(noscan (by omega)).symm,hw⟩)
  refine Br.e (fun h2=>some1 hw (by omega) (.inl (hprev0.2 (by omega)))) (fun h2=>?_)
  have h20:k≠0:=fun h=>h2 (by rw [h];rfl)
  have wk:IntKind.i64.wrap ((k:Int) - 1)=((k - 1:Nat):Int):=by rw [wrap64 (by omega) (by omega)];omega
  rw [wk]
  refine hall5.ix selfS k rfl (by simpa using hk') ?_
  rw [en]
  refine hall5.ix selfS (k - 1) rfl (by simp;omega) ?_
  have en1:(nums.map fun n:Nat=>(n:Int))[k - 1]'(by simp;omega)=((nums[k - 1]'(by omega):Nat):Int):=by simp
  rw [en1]
  have hpv:prev=some (nums[k - 1]'(by omega)):=by rw [hprev,if_neg h20,List.getElem?_eq_getElem (by omega)]
  have hpb:=hnb _ (List.getElem_mem (h:=(by omega:k - 1<nums.length)))
  rw [wrap64 (by omega) (by omega)]
  refine Br.e (fun h3=>some1 hw (by omega) (.inr (by rw [hpv];simp;omega))) (fun h3=>⟨?_,hw⟩)
  symm
  unfold nxt nextOfSeg
  split
  ·rfl
  ·rw [if_neg]
   rw [hpv]
   simp
   omega
 clear hw
 rintro _ _ w ⟨rfl,hw⟩
 have hdsl:s.len=ds.length:=by
  have h2:Sat R5 (EntO s ds::pts p (uCells d lim g.base s sg sh brk)::NumO sg sgs::HeadO sh sgs::RefAt d st::Hs) w:=hw.arr
  have:=OwnN.len h2;simpa using this
 have hlast:g.last=g.base + ds.length:=by rw [hg];unfold Lg.last;simp
 refine ⟨fun w=>¬ (nxt rd prev n=0∨(prev≠none∧nxt rd prev n≠g.last + 1))∧Sat R5 (US p d lim g.base s sg sh brk ds sgs st Hs) w,?_,?_⟩
 ·have am1:(nxt rd prev n=0∨(prev≠none∧nxt rd prev n≠g.last + 1))→∀ {w:World},Sat R5 (US p d lim g.base s sg sh brk ds sgs st Hs) w→Drw w fun S_4 w_20=>
     Rng (k:Int) sa.len (NilP sa.a fun a_t124=>
     ∃ t125:Int,(At S_4 (Addr.add a_t124 (k:Int).toNat) [.int .i64 t125])∧
     ((0:Int)≤((k + 1:Nat):Int))∧
     ((((k + 1:Nat):Int):Int)≤(sa.len:Int))∧
     K (.tuple #[.int .i64 t125,.int .i64 0,.slice (cutA sa.a ((k + 1:Nat):Int).toNat sa.cap 1) (sa.len - ((k + 1:Nat):Int).toNat) (sa.cap - ((k + 1:Nat):Int).toNat)]) w_20):=fun h1 {w} hw=>
   fin .refl hd (by rw [hL,loadL_amiss h1,←hg]) rfl rfl hgb.1 hgb.2 (by omega) (by omega) hw
  refine Br.e (fun h1=>am1 (.inl h1) hw) (fun h1=>Br.d (fun h2=>?_) (fun h2=>⟨fun h=>h.elim h1 (fun h=>h.1 (hprev0.2 (by omega))),hw⟩))
  have hpn:prev≠none:=fun h=>by have:=hprev0.1 h;omega
  refine NilP.mk rfl ⟨g.base,s,At.own (eqS hw) (by exact ⟨rfl,rfl,trivial⟩),?_⟩
  refine (rlast2_spec hgb.1 hgb.2 (by omega) hw).use ?_
  clear hw
  rintro _ w ⟨rfl,hw⟩
  refine ⟨_,rfl,?_⟩
  rw [wrap64 (by omega) (by omega),hdsl]
  exact Br.ne (fun h3=>am1 (.inr ⟨hpn,by rw [hlast];exact h3⟩) hw) (fun h3=>⟨fun h=>h.elim h1 (fun h=>h.2 (by rw [hlast];exact h3)),hw⟩)
 clear hw
 rintro _ w ⟨h1,hw⟩
 have hx0:nxt rd prev n≠0:=fun h=>h1 (.inl h)
 obtain ⟨g1,hg1⟩:∃ g1:Lg,g1=(if prev=none then ⟨nxt rd prev n - 1,g.l⟩ else g):=⟨_,rfl⟩
 have eg1:g1=⟨if k=0 then nxt rd prev n - 1 else g.base,erE ds⟩:=by
  rw [hg1]
  by_cases hk0:k=0
  ·rw [if_pos (hprev0.2 hk0),if_pos hk0]
   have:g.l=erE ds:=by rw [hg]
   rw [this]
  ·rw [if_neg (fun h=>hk0 (hprev0.1 h)),if_neg hk0];exact hg
 have hb1:0≤(if k=0 then nxt rd prev n - 1 else g.base)∧(if k=0 then nxt rd prev n - 1 else g.base)≤1099511627776:=by split<;>omega
 obtain ⟨base1,hbase1⟩:∃ b,b=(if k=0 then nxt rd prev n - 1 else g.base):=⟨_,rfl⟩
 rw [←hbase1] at eg1 hb1
 refine ⟨Sat R5 (US p d lim base1 s sg sh brk ds sgs st Hs),?_,?_⟩
 ·refine Br.e (fun h2=>?_) (fun h2=>?_)
  ·have hk0:k=0:=by omega
   refine NilP.mk rfl ?_
   rw [wrap64 (by omega) (by omega)]
   refine store_rule hw (by kernel_rfl) rfl (by simp [Value.cells,putL_len]) fun w hw=>?_
   rw [hbase1,if_pos hk0]
   exact hw.re (pts p (uCells d lim (nxt rd prev n - 1) s sg sh brk))
  ·rw [hbase1,if_neg (fun h=>h2 (by rw [h];rfl))];exact hw
 clear hw
 rintro _ w hw
 refine drw_rule' (Sat R5 [pts p (uCells d lim base1 s sg sh brk),VC.tru]) hw (fun w hw=>hw.k1) fun w hw=>?_
 refine NilP.mk rfl ⟨sg,At.own selfS (by exact ⟨rfl,trivial⟩),?_⟩
 refine hall5.ix selfS k rfl (by simpa using hk') ?_
 rw [en]
 refine new_rule hw fun b2 w hw=>⟨hw.k1,?_⟩
 have hw:Sat R5 (NumO sg sgs::pts b2 (.cells [Value.int .i64 ((n:Nat):Int)].toArray 3 (0,0))::pts p (uCells d lim base1 s sg sh brk)::EntO s ds::HeadO sh sgs::RefAt d st::Hs) w:=hw.arr
 obtain ⟨sgs2,hsgs2⟩:∃ x,x=sgs++[⟨n,nxt rd prev n,((rd n).length:Int)⟩]:=⟨_,rfl⟩
 refine pushInt hw (by simp;omega) fun sg2 w hw=>?_
 have hw:Sat R5 (pts p (uCells d lim base1 s sg sh brk)::NumO sg2 sgs2::EntO s ds::HeadO sh sgs::RefAt d st::Hs) w:=by
  rw [hsgs2];unfold NumO encN;rw [List.map_append,List.map_append];simp only [List.map_cons,List.map_nil];exact hw.arr
 refine ⟨hw.k1,NilP.mk rfl ?_⟩
 refine store_rule hw (by kernel_rfl) rfl (by simp [Value.cells,putL_len]) fun w hw=>?_
 have hw:=hw.re (pts p (uCells d lim base1 s sg2 sh brk))
 refine NilP.mk rfl ⟨sh,At.own (eqS hw) (by exact ⟨rfl,trivial⟩),new_rule hw fun b3 w hw=>?_⟩
 have hw:Sat R5 (HeadO sh sgs::pts b3 (.cells [Value.int .i64 (nxt rd prev n)].toArray 3 (0,0))::pts p (uCells d lim base1 s sg2 sh brk)::NumO sg2 sgs2::EntO s ds::RefAt d st::Hs) w:=hw.arr
 refine pushInt hw (by simp;omega) fun sh2 w hw=>?_
 have hw:Sat R5 (pts p (uCells d lim base1 s sg2 sh brk)::EntO s ds::NumO sg2 sgs2::HeadO sh2 sgs2::RefAt d st::Hs) w:=by
  rw [hsgs2] at hw ⊢;unfold HeadO;rw [List.map_append];simp only [List.map_cons,List.map_nil];exact hw.arr
 refine NilP.mk rfl ?_
 refine store_rule hw (by kernel_rfl) rfl (by simp [Value.cells,putL_len]) fun w hw=>?_
 have hw:=hw.re (pts p (uCells d lim base1 s sg2 sh2 brk))
 have hscn:0<ps.length:=by
  rcases Nat.eq_zero_or_pos ps.length with h0|h0
  ·exact absurd (noscan h0) hx0
  ·exact h0
 have hb0:=hsb n _ (List.getElem_mem (h:=(by omega:0<(scan (rd n)).length)))
 obtain ⟨_,hsl0⟩:=hpj 0 hscn
 refine hl.ixS (eqS hw) 0 rfl (by simpa using hscn) ?_
 have en0:(ps.map fun p:Sl × List Int=>p.1)[0]'(by simpa using hscn)=ps[0].1:=by simp
 rw [en0]
 refine (rp_spec hb0.2 (hsl0.ro (by rw [List.length_map];omega)) hw).use ?_
 clear hw
 rintro _ w (⟨h,_⟩|⟨_,te,rfl,hw⟩)
 ·omega
 have hte0:te.len=8 + ((scan (rd n))[0]'(by omega)).length:=by have:=Own.len hw;rw [List.length_map,recB_len] at this;exact this
 have hw:=hw.drop
 have hor:prev=none∨prev.map (· + 1)=some n:=by
  apply Classical.byContradiction
  intro hno
  refine hx0 ?_
  unfold nxt nextOfSeg
  split
  ·rfl
  ·rw [if_neg hno]
 have hhead:(scan (rd n))[0]'(by omega)=hdB n (nxt rd prev n):=by
  have e:=nextOf_get (prev:=prev) (n:=n) (l:=scan (rd n)) (by omega) hor
  have e2:nxt rd prev n=headL ((scan (rd n))[0]'(by omega)) n:=e
  rw [e2]
  exact head_out hb0.2 (by rw [←e2];exact hx0)
 have hte:te.len=(headB n (nxt rd prev n)).length:=by rw [hte0,hhead];unfold headB;rw [recB_len]
 have htail:(scan (rd n)).tail=(scan (rd n)).drop 1:=by rw [List.drop_one]
 refine ⟨te,0,rfl,?_⟩
 rw [hte]
 obtain ⟨bodies,hbod⟩:∃ x,x=(scan (rd n)).drop 1:=⟨_,rfl⟩
 have hbl2:bodies.length=ps.length - 1:=by rw [hbod,List.length_drop];omega
 have hl0:=recB_len (hdB n (nxt rd prev n))
 have hl0':=hdB_len (n:=n) (next:=nxt rd prev n) (by omega) hnx.2
 have hsum:((headB n (nxt rd prev n)).length:Int) + scanLen bodies=scanLen (scan (rd n)):=by
  have:=scanLen_drop1 (l:=scan (rd n)) (by omega)
  rw [htail,←hbod] at this
  omega
 refine ⟨fun dn i w=>∃ (j:Nat) (gj:Lg) (R6:Cx) (s:Sl) (ds':List DE4),i=((j + 1:Nat):Int)∧j≤bodies.length∧R5.Ext R6∧DsR R6 ds'∧gj=⟨gj.base,erE ds'⟩∧(0≤gj.base∧gj.base≤1099511627776)∧ds'.length≤ds.length + j∧(0≤dn∧dn≤1000 + 70000 * j)∧dn + scanLen (bodies.drop j)=scanLen (scan (rd n))∧
   runL g1 (headB n (nxt rd prev n)).length bodies=runL gj dn (bodies.drop j)∧Sat R6 (US p d lim gj.base s sg2 sh2 brk ds' sgs2 st Hs) w,fun _ i _=>bodies.length + 1 - i.toNat,⟨0,g1,R5,s,ds,rfl,by omega,.refl,hd,by rw [eg1],by rw [eg1];exact hb1,by omega,⟨by omega,by unfold headB;omega⟩,by simpa using hsum,rfl,by rw [eg1];exact hw⟩,?_⟩
 clear hw
 rintro _ dn _ w ⟨j,gj,R6,s,ds',rfl,hj,e6,hd6,hgj,hgjb,hdl6,hdn,hdsum,hrun,hw⟩
 have h8:8 * bodies.length≤16777216:=by omega
 have hd40:ds'.length≤100000000000:=by omega
 refine Br.d (fun h2=>?_) (fun h2=>?_)
 ·have hj':j<bodies.length:=by omega
  have hdj:bodies.drop j=bodies[j]::bodies.drop (j + 1):=drop_get hj'
  have hbj:bodies[j]=(scan (rd n))[j + 1]'(by omega):=by simp only [hbod,List.getElem_drop];congr 1;omega
  have hl6:=e6.slR hl
  have en2:(ps.map fun p:Sl × List Int=>p.1)[j + 1]'(by simp;omega)=(ps[j + 1]'(by omega)).1:=by simp
  obtain ⟨_,hbo⟩:=hpj (j + 1) (by omega)
  rw [←hbj] at hbo
  have hbo6:=e6.slR hbo
  have hbb:=hsb n bodies[j] (by rw [hbj];exact List.getElem_mem _)
  have hro:=hbo6.ro (by rw [List.length_map];omega)
  refine drw_rule hw fun w hw=>NilP.mk rfl ?_
  refine hl6.ixS selfS (j + 1) rfl (by simp;omega) ?_
  rw [en2]
  have hw:Sat R6 (pts p (uCells d lim gj.base s sg2 sh2 brk)::EntO s ds'::NumO sg2 sgs2::HeadO sh2 sgs2::RefAt d st::Hs) w:=hw
  refine (rchange_spec hgjb.1 hgjb.2 hd40 hd6 hbb.2 (by omega) hbo6 hw).use ?_
  clear hw
  rintro _ w ⟨R7,base7,s7,ds7,e7,hd7,rfl,hg7,hw⟩
  rw [←hgj] at hg7 ⊢
  refine ⟨_,rfl,?_⟩
  have hrj:runL gj dn (bodies.drop j)=match changeL gj bodies[j] with|none=>(gj,some dn)|some g'=>runL g' (dn + (8 + bodies[j].length)) (bodies.drop (j + 1)):=by rw [hdj];rfl
  cases hch:changeL gj bodies[j] with
  |none=>
   rw [hch] at hg7 hrj
   simp only [Option.getD_none] at hg7
   refine Br.t rfl ?_
   have hbase7:base7=gj.base:=by rw [hgj] at hg7;exact (Lg.mk.inj hg7).1.symm
   have hlen7:ds7.length=ds'.length:=by
    have:erE ds'=erE ds7:=by rw [hgj] at hg7;exact (Lg.mk.inj hg7).2
    have:=congrArg List.length this;simpa using this.symm
   refine fin (am:=⟨n,nxt rd prev n,dn⟩) (e6.trans e7) hd7 ?_ rfl rfl (by omega) (by omega) (by omega) (by rw [hsgs2];simp;omega) hw
   rw [hL,loadL_fail h1 hg1.symm (g2:=⟨base7,erE ds7⟩) (d:=dn) (by rw [htail,←hbod,hrun,hrj,hg7]),hsgs2]
  |some g'=>
   rw [hch] at hg7 hrj
   simp only [Option.getD_some] at hg7
   refine Br.f rfl ?_
   have hl7:=e7.slR hl6
   refine hl7.ixS (eqS hw) (j + 1) rfl (by simp;omega) ?_
   rw [en2]
   refine (rp_spec hbb.2 (e7.ro hro) hw).use ?_
   rintro _ w (⟨h,_⟩|⟨_,t2,rfl,hw⟩)
   ·omega
   have ht2:t2.len=8 + bodies[j].length:=by have:=Own.len hw;rw [List.length_map,recB_len] at this;exact this
   have hw:=hw.drop
   have wj:IntKind.i64.wrap (((j + 1:Nat):Int) + 1)=((j + 1 + 1:Nat):Int):=by rw [wrap64 (by omega) (by omega)];omega
   have wd:IntKind.i64.wrap (dn + (t2.len:Int))=dn + (8 + bodies[j].length):=by rw [wrap64 (by omega) (by omega),ht2];omega
   have hlen7:ds7.length≤ds'.length + 1∧0≤base7∧base7≤1099511627776:=by
    have hb:=change_bd hch (by rw [hgj];exact ⟨hgjb.1,hgjb.2⟩) hbb.2
    rw [hg7] at hb
    rw [hgj] at hb
    simp only [List.length_map] at hb
    exact ⟨hb.2.2,hb.1,hb.2.1⟩
   rw [wj]
   have hsc:scanLen (bodies.drop j)=8 + bodies[j].length + scanLen (bodies.drop (j + 1)):=by rw [hdj,scanLen_cons]
   refine ⟨t2,_,rfl,?_⟩
   rw [wd]
   refine ⟨⟨j + 1,g',R7,s7,ds7,rfl,by omega,e6.trans e7,hd7,?_,?_,by omega,by omega,by omega,?_,?_⟩,by dsimp only;omega⟩
   ·rw [hg7]
   ·rw [hg7];exact hlen7.2
   ·rw [hrun,hrj]
   ·rw [hg7];exact hw
 ·have hjl:j=bodies.length:=by omega
  rw [hjl,List.drop_length] at hrun hdsum
  have hdn2:dn=scanLen (scan (rd n)):=by simpa [scanLen] using hdsum
  have hrun2:runL g1 (headB n (nxt rd prev n)).length (scan (rd n)).tail=(gj,none):=by rw [htail,←hbod,hrun];rfl
  refine Br.d (fun h3=>?_) (fun h3=>?_)
  ·refine fin (am:=⟨n,nxt rd prev n,scanLen (scan (rd n))⟩) e6 hd6 ?_ rfl hdn2.symm hgjb.1 hgjb.2 hd40 (by rw [hsgs2];simp;omega) hw
   rw [hL,loadL_end h1 hg1.symm hrun2 (by omega),hsgs2,←hgj]
  ·have h3':scanLen (scan (rd n))=(rd n).length:=by omega
   refine ⟨⟨k + 1,gj,sgs2,R6,s,ds',sg2,sh2,rfl,by omega,(e3.trans e35).trans e6,hd6,hgj,hgjb,by omega,fun h=>by omega,by rw [hsgs2];simp;omega,?_,hw⟩,by dsimp only;omega⟩
   rw [hL,loadL_more h1 hg1.symm hrun2 h3',←hsgs2,if_neg (by omega),Nat.add_sub_cancel,List.getElem?_eq_getElem hk',←hn]
end Go.Proofs.YtkfedbncmfnpnaaGreatDoor
/- Reference 06: a segment made, mended; plain facts on what is found. Condition: bounds on lengths. -/
namespace Go.Proofs.YtkfedbncmfnpnaaGreatDoor
set_option linter.unusedVariables false
set_option linter.unusedSimpArgs false
open Go Go.VC
variable {R R':Cx} {Hs Rest:List HP} {w:World}
theorem Rel.len {a b:DS} (h:Rel a b):a.fs.length=b.fs.length:=h.perm.length_eq
theorem Rel.by_ {a b:DS} (h:Rel a b) (hb:ByOk a.fs):ByOk b.fs:=fun e he=>hb e (h.perm.mem_iff.2 he)
theorem Rel.namesR {a b:DS} (h:Rel a b):namesOf b.fs=b.fs.map (·.1):=names_srt (List.Perm.refl _) h.srt
theorem Rel.load {a b:DS} (h:Rel a b):loadD b=loadD a:=by
 unfold loadD
 rw [h.names,h.namesR]
 congr 1
 funext n
 rw [h.read]
theorem Rel.then {x y:DS × Int} {f g:DS→DS × Int} (h:Rel x.1 y.1∧x.2=y.2) (hf:∀ a b,Rel a b→Rel (f a).1 (g b).1∧(f a).2=(g b).2):Rel (thenD x f).1 (thenD y g).1∧(thenD x f).2=(thenD y g).2:=by
 unfold thenD
 rw [←h.2]
 split
 ·exact hf _ _ h.1
 ·exact h
theorem dig8_of {l:List Int} (hl:l.length=8) (hd:l.all (fun c=>decide (48≤c) && decide (c≤57))=true):l=(dig8 (val10 l).toNat).map fun d:Nat=>48 + (d:Int):=by
 match l,hl with
 |[a,b,c,d,e,f,g,h],_=>
  simp only [List.all_cons,List.all_nil,Bool.and_true,Bool.and_eq_true,decide_eq_true_eq] at hd
  obtain ⟨ha,hb,hc,hd',he,hf,hg,hh⟩:=hd
  have hv:val10 [a,b,c,d,e,f,g,h]=(a - 48) * 10000000 + (b - 48) * 1000000 + (c - 48) * 100000 + (d - 48) * 10000 + (e - 48) * 1000 + (f - 48) * 100 + (g - 48) * 10 + (h - 48):=by
   unfold val10;simp only [List.foldl_cons,List.foldl_nil];omega
  generalize val10 [a,b,c,d,e,f,g,h]=v at hv
  unfold dig8
  simp only [List.map_cons,List.map_nil,List.cons.injEq,and_true]
  refine ⟨?_,?_,?_,?_,?_,?_,?_,?_⟩<;>omega
theorem seg_of_num {k:ByteArray} (h:0<numL (bytesL k)):k=segName (numL (bytesL k)):=by
 refine bytesL_inj ?_
 rw [nameU_bytes]
 unfold numL at h ⊢
 split at h
 ·rename_i hc
  rw [if_pos hc]
  obtain ⟨h1,h2,h3⟩:=hc
  have:=dig8_of (l:=(bytesL k).drop 4) (by rw [List.length_drop];omega) h3
  rw [←this,←h1,List.take_append_drop]
 ·omega
theorem nums_rise:∀ {l:List ByteArray},l.Pairwise (fun x y=>x.data.toList<y.data.toList)→(numsOf l).Pairwise (·<·)
 |[],_=>.nil
 |k::l,h=>by
  rw [List.pairwise_cons] at h
  have ih:=nums_rise h.2
  have e:numsOf (k::l)=if 0<numL (bytesL k) then numL (bytesL k)::numsOf l else numsOf l:=by
   unfold numsOf
   rw [List.map_cons,List.filter_cons]
   simp only [decide_eq_true_eq]
  rw [e]
  split
  ·rename_i h0
   refine List.pairwise_cons.2 ⟨fun m hm=>?_,ih⟩
   unfold numsOf at hm
   rw [List.mem_filter] at hm
   obtain ⟨h1,h2⟩:=hm
   obtain ⟨k2,hk2,rfl⟩:=List.mem_map.1 h1
   have h2:=of_decide_eq_true h2
   have hlt:=h.1 k2 hk2
   rw [seg_of_num h0,seg_of_num h2] at hlt
   rcases Nat.lt_trichotomy (numL (bytesL k)) (numL (bytesL k2)) with h3|h3|h3
   ·exact h3
   ·rw [h3] at hlt;exact absurd hlt (List.lt_irrefl _)
   ·exact absurd (ltL_trans hlt (seg_lt (by have:=numL_lt (l:=bytesL k);omega) h3)) (List.lt_irrefl _)
  ·exact ih
theorem loadL_zero {rd:Nat→List Int}:∀ {nums:List Nat} {prev:Option Nat} {g:Lg} {segs:List Sg},nums.Pairwise (·<·)→(∀ s∈segs,∀ n∈nums,s.num<n)→∀ s,(loadL rd prev g segs nums).amiss=some s→
  ((loadL rd prev g segs nums).segs.any (fun x=>decide (x.num=s.num))=false↔s.size=0)∧(s.next=0→s.size=0):=fun {nums}=>by
 induction nums with
 |nil=>intro prev g segs _ _ s h;unfold loadL at h;cases h
 |cons n rest ih=>
  intro prev g segs hp hs s h
  rw [List.pairwise_cons] at hp
  by_cases h1:nxt rd prev n=0∨(prev≠none∧nxt rd prev n≠g.last + 1)
  ·rw [loadL_amiss h1] at h ⊢
   cases h
   refine ⟨⟨fun _=>rfl,fun _=>?_⟩,fun _=>rfl⟩
   rw [List.any_eq_false]
   intro x hx
   have:=hs x hx n (List.mem_cons_self ..)
   simp;omega
  ·have hx0:nxt rd prev n≠0:=fun h=>h1 (.inl h)
   have hpos:0<(headB n (nxt rd prev n)).length:=by unfold headB;rw [recB_len];omega
   rcases hr:runL (if prev=none then (⟨nxt rd prev n - 1,g.l⟩:Lg) else g) (headB n (nxt rd prev n)).length (scan (rd n)).tail with ⟨g2,o⟩
   cases o with
   |some d=>
    rw [loadL_fail h1 rfl hr] at h ⊢
    cases h
    obtain ⟨a,x,c,_,_,hd⟩:=runL_cut hr
    refine ⟨⟨fun h=>?_,fun h=>by simp only at h;omega⟩,fun h=>absurd h hx0⟩
    simp at h
   |none=>
    by_cases he:scanLen (scan (rd n))=(rd n).length
    ·rw [loadL_more h1 rfl hr he] at h ⊢
     refine ih hp.2 (fun x hx m hm=>?_) s h
     rcases List.mem_append.1 hx with hx|hx
     ·exact hs x hx m (List.mem_cons_of_mem _ hm)
     ·rw [List.mem_singleton.1 hx];exact hp.1 m hm
    ·rw [loadL_end h1 rfl hr he] at h ⊢
     cases h
     have hsc:0<scanLen (scan (rd n)):=by
      cases hs:scan (rd n) with
      |nil=>
       exfalso
       refine hx0 ?_
       unfold nxt nextOfSeg
       rw [hs]
      |cons a l=>rw [scanLen_cons];omega
     refine ⟨⟨fun h=>?_,fun h=>by simp only at h;omega⟩,fun h=>absurd h hx0⟩
     simp at h
theorem Rel.rise {a b:DS} (h:Rel a b):(numsOf (namesOf a.fs)).Pairwise (·<·):=by
 rw [h.names]
 exact nums_rise (List.pairwise_map.2 h.srt)
def mendU (st:DS) (n:Nat) (z:Int):DS × Int:=
 if z=0 then unlinkD st (segName n) else if (readD st (segName n)).2≠0 then (st,(readD st (segName n)).2)
 else thenD (thenD (appendD st scratchN ((readD st (segName n)).1.take z.toNat)) fun st=>syncD st scratchN) fun st=>renameD st scratchN (segName n)
theorem mendU_eq {st b st':DS} {s:Sg} (r:Rel st b) (h:(loadD st).amiss=some s):mendD st' (loadD st).segs s=mendU st' s.num s.size:=by
 obtain ⟨h1,h2⟩:=loadL_zero (rd:=fun n=>(readD st (segName n)).1) (prev:=none) (g:=⟨0,[]⟩) (segs:=[]) r.rise (fun _ h=>by cases h) s h
 unfold mendD mendU
 have e:(s.next=0∨inSegs (loadD st).segs s.num=false)↔s.size=0:=⟨fun h=>h.elim h2 h1.1,fun h=>.inr (h1.2 h)⟩
 by_cases hz:s.size=0
 ·rw [if_pos (e.2 hz),if_pos hz]
 ·rw [if_neg (fun h=>hz (e.1 h)),if_neg hz]
end Go.Proofs.YtkfedbncmfnpnaaGreatDoor
/- Reference 06: a segment made, mended; opening. Condition: bounds on lengths. -/
namespace Go.Proofs.YtkfedbncmfnpnaaGreatDoor
set_option linter.unusedVariables false
set_option linter.unusedSimpArgs false
open Go Go.VC
variable {R R':Cx} {Hs Rest:List HP} {w:World} {p d:Nat} {lim base:Int} {s sg sh:Sl} {brk:Bool} {ds:List DE4} {segs:List Sg} {a b:DS}
theorem segName_k (n:Nat):(segName n).size≤9223372036854775807:=by rw [segName_size];omega
theorem scratch_k:scratchN.size≤9223372036854775807:=by decide
set_option maxHeartbeats 1000000 in
theorem rmake_spec {n:Nat} {next:Int} (r:Rel a b) (hf:a.fs.length≤90000) (hn:n≤99999999) (h0:0≤next) (h1:next≤1099511627777) (hl:segs.length≤500000) (hw:Sat R (US p d lim base s sg sh brk ds segs b Hs) w):
  Gets Tryz.prog 96 #[.pointer (some ⟨p,0,none⟩),.int .i64 n,.int .i64 next] w fun v w'=>∃ (e:Int) (b':DS) (sg' sh':Sl),v=.int .i64 e∧e=(makeD a n next).2∧Rel (makeD a n next).1 b'∧
   Sat R (US p d lim base s sg' sh' brk ds (madeS segs n next e) b' Hs) w':=by
 apply call96
 suffices H:∀ K:Value→World→Prop,(∀ (e:Int) (b':DS) (sg' sh':Sl) w',e=(makeD a n next).2→Rel (makeD a n next).1 b'→Sat R (US p d lim base s sg' sh' brk ds (madeS segs n next e) b' Hs) w'→K (.int .i64 e) w')→B96 (some ⟨p,0,none⟩) n next K w from H _ fun e b' sg' sh' w' h1 h2 h3=>⟨e,b',sg',sh',rfl,h1,h2,h3⟩
 intro K hK
 have hbl:(headB n next).length≤21:=by unfold headB;rw [recB_len];have:=hdB_len hn h1;omega
 have hlb:=r.len
 obtain ⟨ra,ea⟩:=r.append (segName n) (headB n next)
 have hla:=append_len a (segName n) (headB n next)
 have hlab:=ra.len
 obtain ⟨rs,es⟩:=ra.sync (segName n)
 have bad:∀ {e:Int},¬ e=0→madeS segs n next e=segs:=fun h=>if_neg h
 refine drw_rule' (Sat R [pts p (uCells d lim base s sg sh brk),VC.tru]) hw (fun w hw=>hw.k1) fun w hw=>NilP.mk rfl ⟨_,At.own selfS (by exact ⟨rfl,trivial⟩),?_⟩
 refine ⟨?_,?_⟩
 focus
  refine (rName_spec (by omega) hw).use ?_
  clear hw
  rintro _ w ⟨rfl,hw⟩
  refine ⟨_,rfl,hw.k1,new_rule hw fun b3 w hw=>⟨hw.k1,?_⟩⟩
  obtain ⟨hc3,hw⟩:=Sat.lend.1 hw
  refine (rnums_spec (t:=none) (sd:=⟨none,0,0⟩) (xs:=[0,n,next]) (sl:=⟨some ⟨b3,0,none⟩,3,3⟩) (fun x hx=>by simp at hx;omega) (by simp) (fun d h=>by cases h) (ro_new (by simp) rfl hc3) hw).use ?_
  clear hw
  rintro _ w ⟨te,rfl,hw⟩
  have hw:=(Sat.lend.2 ⟨hc3,hw⟩).drop
  refine ⟨te,rfl,hw.k1,?_⟩
 rotate_left 1
 focus
  refine new_rule hw fun b3 w hw=>⟨hw.k1,?_⟩
  refine (rName_spec (by omega) hw).use ?_
  clear hw
  rintro _ w ⟨rfl,hw⟩
  refine ⟨_,rfl,hw.k1,?_⟩
  obtain ⟨hc3,hw⟩:=Sat.lend.1 hw
  refine (rnums_spec (t:=none) (sd:=⟨none,0,0⟩) (xs:=[0,n,next]) (sl:=⟨some ⟨b3,0,none⟩,3,3⟩) (fun x hx=>by simp at hx;omega) (by simp) (fun d h=>by cases h) (ro_new (by simp) rfl hc3) hw).use ?_
  clear hw
  rintro _ w ⟨te,rfl,hw⟩
  have hw:=(Sat.lend.2 ⟨hc3,hw⟩).drop
  refine ⟨te,rfl,hw.k1,?_⟩
 all_goals
  rw [encB_hd] at hw
  obtain ⟨R1,hr1,_,hw,back⟩:=Own.lend hw (by rw [List.length_map];omega)
  have hw:Sat R1 (RefAt d b::pts p (uCells d lim base s sg sh brk)::EntO s ds::NumO sg segs::HeadO sh segs::Hs) w:=hw.arr
  refine (appendR_spec r.invR (by omega) (segName_k n) hr1 (by omega) hw).use ?_
  clear hw
  rintro _ w ⟨rfl,hw⟩
  have hw:=(back hw).drop
  rw [←ea]
  refine ⟨_,rfl,Br.ne (fun h=>hK _ (appendR b (segName n) (headB n next)).1 sg sh _ ?_ ?_ ?_) (fun h=>?_)⟩
  ·unfold makeD;rw [thenD_err h]
  ·unfold makeD;rw [thenD_err h];exact ra
  ·rw [bad h];exact hw.arr
  have hw:Sat R (pts p (uCells d lim base s sg sh brk)::EntO s ds::NumO sg segs::HeadO sh segs::RefAt d (appendR b (segName n) (headB n next)).1::Hs) w:=hw.arr
  refine drw_rule' (Sat R [pts p (uCells d lim base s sg sh brk),VC.tru]) hw (fun w hw=>hw.k1) fun w hw=>NilP.mk rfl ⟨_,At.own selfS (by exact ⟨rfl,trivial⟩),?_⟩
  refine (rName_spec (by omega) hw).use ?_
  clear hw
  rintro _ w ⟨rfl,hw⟩
  refine ⟨_,rfl,hw.k1,?_⟩
  have hw:Sat R (RefAt d (appendR b (segName n) (headB n next)).1::pts p (uCells d lim base s sg sh brk)::EntO s ds::NumO sg segs::HeadO sh segs::Hs) w:=hw.arr
  refine (syncR_spec ra.invR (by omega) (segName_k n) hw).use ?_
  clear hw
  rintro _ w ⟨rfl,hw⟩
  rw [←es]
  refine ⟨_,rfl,Br.ne (fun h2=>hK _ (syncD (appendR b (segName n) (headB n next)).1 (segName n)).1 sg sh _ ?_ ?_ ?_) (fun h2=>?_)⟩
  ·unfold makeD;rw [thenD_ok h]
  ·unfold makeD;rw [thenD_ok h];exact rs
  ·rw [bad h2];exact hw.arr
  have hw:Sat R (pts p (uCells d lim base s sg sh brk)::EntO s ds::NumO sg segs::HeadO sh segs::RefAt d (syncD (appendR b (segName n) (headB n next)).1 (segName n)).1::Hs) w:=hw.arr
  refine NilP.mk rfl ⟨sg,At.own (eqS hw) (by exact ⟨rfl,trivial⟩),new_rule hw fun b3 w hw=>?_⟩
  have hw:Sat R (NumO sg segs::pts b3 (.cells [Value.int .i64 ((n:Nat):Int)].toArray 3 (0,0))::pts p (uCells d lim base s sg sh brk)::EntO s ds::HeadO sh segs::RefAt d (syncD (appendR b (segName n) (headB n next)).1 (segName n)).1::Hs) w:=hw.arr
  refine pushInt hw (by simp;omega) fun sg2 w hw=>?_
  have hw:Sat R (pts p (uCells d lim base s sg sh brk)::NumO sg2 (segs++[⟨n,next,(headB n next).length⟩])::EntO s ds::HeadO sh segs::RefAt d (syncD (appendR b (segName n) (headB n next)).1 (segName n)).1::Hs) w:=by
   unfold NumO encN;rw [List.map_append,List.map_append];simp only [List.map_cons,List.map_nil];exact hw.arr
  refine NilP.mk rfl ?_
  refine store_rule hw (by kernel_rfl) rfl (by simp [Value.cells,putL_len]) fun w hw=>?_
  have hw:=hw.re (pts p (uCells d lim base s sg2 sh brk))
  refine NilP.mk rfl ⟨sh,At.own (eqS hw) (by exact ⟨rfl,trivial⟩),new_rule hw fun b4 w hw=>?_⟩
  have hw:Sat R (HeadO sh segs::pts b4 (.cells [Value.int .i64 next].toArray 3 (0,0))::pts p (uCells d lim base s sg2 sh brk)::NumO sg2 (segs++[⟨n,next,(headB n next).length⟩])::EntO s ds::RefAt d (syncD (appendR b (segName n) (headB n next)).1 (segName n)).1::Hs) w:=hw.arr
  refine pushInt hw (by simp;omega) fun sh2 w hw=>?_
  have hw:Sat R (pts p (uCells d lim base s sg2 sh brk)::EntO s ds::NumO sg2 (segs++[⟨n,next,(headB n next).length⟩])::HeadO sh2 (segs++[⟨n,next,(headB n next).length⟩])::RefAt d (syncD (appendR b (segName n) (headB n next)).1 (segName n)).1::Hs) w:=by
   unfold HeadO;rw [List.map_append];simp only [List.map_cons,List.map_nil];exact hw.arr
  refine NilP.mk rfl ?_
  refine store_rule hw (by kernel_rfl) rfl (by simp [Value.cells,putL_len]) fun w hw=>?_
  have hw:=hw.re (pts p (uCells d lim base s sg2 sh2 brk))
  exact hK 0 _ sg2 sh2 _ (by unfold makeD;rw [thenD_ok h];exact h2.symm) (by unfold makeD;rw [thenD_ok h];exact rs) hw
theorem rmend_spec {n:Nat} {z:Int} (r:Rel a b) (hf:a.fs.length≤90000) (hn:n≤99999999) (h0:0≤z) (hz:(readD a (segName n)).2=0→z≤(readD a (segName n)).1.length) (hw:Sat R (pts p (uCells d lim base s sg sh brk)::RefAt d b::Hs) w):
  Gets Tryz.prog 94 #[.pointer (some ⟨p,0,none⟩),.int .i64 n,.int .i64 z] w fun v w'=>∃ b':DS,v=.int .i64 (mendU a n z).2∧Rel (mendU a n z).1 b'∧Sat R (pts p (uCells d lim base s sg sh brk)::RefAt d b'::Hs) w':=by
 apply call94
 have hlb:=r.len
 refine Br.e (fun hz0=>?_) (fun hz0=>?_)
 ·refine drw_rule' (Sat R [pts p (uCells d lim base s sg sh brk),VC.tru]) hw (fun w hw=>hw.k1) fun w hw=>NilP.mk rfl ⟨_,At.own selfS (by exact ⟨rfl,trivial⟩),?_⟩
  refine (rName_spec (by omega) hw).use ?_
  clear hw
  rintro _ w ⟨rfl,hw⟩
  refine ⟨_,rfl,hw.k1,?_⟩
  obtain ⟨ru,eu⟩:=r.unlink (segName n)
  refine (unlinkR_spec r.invR (by omega) (segName_k n) hw.swap).use ?_
  clear hw
  rintro _ w ⟨rfl,hw⟩
  have e:mendU a n z=unlinkD a (segName n):=if_pos hz0
  rw [e,←eu]
  exact ⟨_,rfl,_,rfl,ru,hw.swap⟩
 have hrd:=r.read (segName n)
 refine drw_rule' (Sat R [pts p (uCells d lim base s sg sh brk),VC.tru]) hw (fun w hw=>hw.k1) fun w hw=>NilP.mk rfl ⟨_,At.own selfS (by exact ⟨rfl,trivial⟩),?_⟩
 refine (rName_spec (by omega) hw).use ?_
 clear hw
 rintro _ w ⟨rfl,hw⟩
 refine ⟨_,rfl,hw.k1,?_⟩
 refine (readR_spec r.invR (by omega) (segName_k n) hw.swap).use ?_
 clear hw
 rintro _ w ⟨t,rfl,hw⟩
 rw [←hrd] at hw ⊢
 refine ⟨t,_,rfl,Br.ne (fun h=>?_) (fun h=>?_)⟩
 ·have e:mendU a n z=(a,(readD a (segName n)).2):=by unfold mendU;rw [if_neg hz0,if_pos h]
  rw [e]
  exact ⟨b,rfl,r,hw.drop.swap⟩
 have hzl:=hz h
 have hrl:=readD_le r.inv (segName n)
 obtain ⟨bb,hbb⟩:∃ bb,bb=(readD a (segName n)).1.take z.toNat:=⟨_,rfl⟩
 have e:mendU a n z=thenD (thenD (appendD a scratchN bb) fun st=>syncD st scratchN) fun st=>renameD st scratchN (segName n):=by unfold mendU;rw [if_neg hz0,if_neg (by rw [h];simp),←hbb]
 rw [e]
 have hbbl:bb.length≤16777216:=by rw [hbb,List.length_take];omega
 obtain ⟨ra,ea⟩:=r.append scratchN bb
 have hla:=append_len a scratchN bb
 have hlab:=ra.len
 obtain ⟨rs,es⟩:=ra.sync scratchN
 have hls:=sync_len (appendD a scratchN bb).1 scratchN
 have hlsb:=rs.len
 obtain ⟨rr,er⟩:=rs.rename scratchN (segName n)
 have htl:t.len=(readD a (segName n)).1.length∧t.len≤t.cap:=by
  refine ⟨by have:=Own.len hw;simpa using this,?_⟩
  rcases Own.cases hw with ⟨rfl,_,_⟩|⟨_,rest,_,rfl,_,_⟩
  ·exact Nat.le_refl _
  ·simp
 obtain ⟨R1,e1,ht,hw⟩:=Own.leak hw
 have ht2:SlR R1.m ⟨t.a,z.toNat,t.cap⟩ (b8 bb):=by
  have:=ht.take (k:=z.toNat) (by simp;omega)
  rw [hbb]
  simpa only [b8,List.map_take] using this
 have hw:=hw.swap
 refine drw_rule' (Sat R1 [pts p (uCells d lim base s sg sh brk),VC.tru]) hw (fun w hw=>hw.k1) fun w hw=>NilP.mk rfl ⟨_,At.own selfS (by exact ⟨rfl,trivial⟩),by omega,by omega,?_⟩
 refine (appendR_spec r.invR (by omega) scratch_k (ht2.ro (by rw [List.length_map];omega)) (by omega) hw.swap).use ?_
 clear hw
 rintro _ w ⟨rfl,hw⟩
 rw [←ea]
 have hw:=(e1.back hw).swap
 refine ⟨_,rfl,Br.ne (fun h2=>⟨_,by rw [thenD_err (x:=appendD a scratchN bb) h2,thenD_err (x:=appendD a scratchN bb) h2],by rw [thenD_err (x:=appendD a scratchN bb) h2,thenD_err (x:=appendD a scratchN bb) h2];exact ra,hw⟩) (fun h2=>?_)⟩
 rw [thenD_ok (x:=appendD a scratchN bb) h2]
 refine NilP.mk rfl ⟨_,At.own (eqS hw) (by exact ⟨rfl,trivial⟩),?_⟩
 refine (syncR_spec ra.invR (by omega) scratch_k hw.swap).use ?_
 clear hw
 rintro _ w ⟨rfl,hw⟩
 rw [←es]
 have hw:=hw.swap
 refine ⟨_,rfl,Br.ne (fun h3=>⟨_,by rw [thenD_err h3],by rw [thenD_err h3];exact rs,hw⟩) (fun h3=>?_)⟩
 rw [thenD_ok h3]
 refine drw_rule' (Sat R [pts p (uCells d lim base s sg sh brk),VC.tru]) hw (fun w hw=>hw.k1) fun w hw=>NilP.mk rfl ⟨_,At.own selfS (by exact ⟨rfl,trivial⟩),?_⟩
 refine (rName_spec (by omega) hw).use ?_
 clear hw
 rintro _ w ⟨rfl,hw⟩
 refine ⟨_,rfl,hw.k1,?_⟩
 refine (renameR_spec rs.invR (by omega) scratch_k (segName_k n) hw.swap).use ?_
 clear hw
 rintro _ w ⟨rfl,hw⟩
 rw [←er]
 exact ⟨_,rfl,_,rfl,rr,hw.swap⟩
theorem rhas_spec {k:ByteArray} (r:Rel a b) (hf:a.fs.length≤90000) (hw:Sat R (pts p (uCells d lim base s sg sh brk)::RefAt d b::Hs) w):
  Gets Tryz.prog 91 #[.pointer (some ⟨p,0,none⟩),.string k] w fun v w'=>v=.bool (decide (k∈namesOf a.fs))∧Sat R (pts p (uCells d lim base s sg sh brk)::RefAt d b::Hs) w':=by
 apply call91
 have hlb:=r.len
 refine NilP.mk rfl ⟨_,At.own (eqS hw) (by exact ⟨rfl,trivial⟩),?_⟩
 refine (namesU_spec (by omega) hw.swap).use ?_
 clear hw
 rintro _ w ⟨t,rfl,hw⟩
 rw [←r.names] at hw
 refine ⟨t,rfl,?_⟩
 obtain ⟨R1,e1,ht,hw⟩:=Own.leak hw
 have hnl:=namesOf_len a.fs
 have htl:t.len=(namesOf a.fs).length:=by have:=ht.len;simpa using this
 have hro:=ht.ro (by rw [List.length_map];omega)
 refine ⟨fun i w=>∃ j:Nat,i=j∧j≤(namesOf a.fs).length∧k ∉ (namesOf a.fs).take j∧Sat R1 (RefAt d b::pts p (uCells d lim base s sg sh brk)::Hs) w,fun i _=>((namesOf a.fs).length - i).toNat,⟨0,rfl,Nat.zero_le _,by simp,hw⟩,?_⟩
 clear hw
 rintro _ _ w ⟨j,rfl,hj,hno,hw⟩
 refine Br.d (fun h=>?_) (fun h=>?_)
 ·have hjl:j<(namesOf a.fs).length:=by omega
  refine hro.idxStr (eqS hw) hjl ?_
  refine Br.se (fun h2=>⟨by rw [decide_eq_true (by rw [←h2];exact List.getElem_mem _)],(e1.back hw).swap⟩) (fun h2=>?_)
  rw [wrap64 (by omega) (by omega)]
  refine ⟨⟨j + 1,by omega,hjl,?_,hw⟩,by dsimp only;omega⟩
  rw [←List.take_append_getElem hjl,List.mem_append]
  rintro (h3|h3)
  ·exact hno h3
  ·exact h2 (List.mem_singleton.1 h3).symm
 ·have hjl:j=(namesOf a.fs).length:=by omega
  rw [hjl,List.take_length] at hno
  exact ⟨by rw [decide_eq_false hno],(e1.back hw).swap⟩
end Go.Proofs.YtkfedbncmfnpnaaGreatDoor
/- Reference 06: opening, whole. Condition: bounds on lengths. -/
namespace Go.Proofs.YtkfedbncmfnpnaaGreatDoor
set_option linter.unusedVariables false
set_option linter.unusedSimpArgs false
open Go Go.VC
variable {R R':Cx} {Hs Rest:List HP} {w:World} {p d:Nat} {lim base:Int} {s sg sh:Sl} {brk:Bool} {ds:List DE4} {segs:List Sg} {a b:DS}
theorem nums_cons (k:ByteArray) (l:List ByteArray):numsOf (k::l)=if 0<numL (bytesL k) then numL (bytesL k)::numsOf l else numsOf l:=by
 unfold numsOf
 rw [List.map_cons,List.filter_cons]
 simp only [decide_eq_true_eq]
theorem nums_del {k:ByteArray} (hk:numL (bytesL k)=0):∀ l:Fs,numsOf ((delM k l).map (·.1))=numsOf (l.map (·.1))
 |[]=>rfl
 |e::l=>by
  unfold delM
  split
  ·rename_i h
   have he:k=e.1:=(MapKept.bytes_beq _ _).1 h
   rw [List.map_cons,nums_cons,←he,hk,if_neg (by omega)]
  ·rw [List.map_cons,List.map_cons,nums_cons,nums_cons,nums_del hk l]
theorem unlink_fs {st:DS} {k:ByteArray} (h:(unlinkD st k).2=0):(unlinkD st k).1.fs=delM k st.fs:=by
 obtain ⟨h1,h2⟩:=doing_ok (st:=st) h
 have e:unlinkD st k=unlinkG k (chg st (nameOk k)).1:=h2
 have hc:=(chg_fs st (nameOk k)).1
 rw [e] at h ⊢
 unfold unlinkG at h ⊢
 split
 ·simp only;rw [hc]
 ·rename_i hs;rw [if_neg hs] at h;simp at h
theorem Rel.load_x0 (r:Rel a b) (h:(x0D a).2=0):loadD (x0D a).1=loadD a:=by
 unfold x0D at h ⊢
 split
 ·rename_i hs
  rw [if_pos hs] at h
  obtain ⟨ru,eu⟩:=r.unlink scratchN
  have hn:numsOf (namesOf (unlinkD a scratchN).1.fs)=numsOf (namesOf a.fs):=by
   rw [ru.names,r.names,unlink_fs (by rw [←eu];exact h),nums_del num_scratch]
  unfold loadD
  rw [hn]
  congr 1
  funext n
  rw [(unlink_read (seg_ne_scratch n) h).2]
 ·rfl
theorem x0_by (hb:ByOk a.fs):ByOk (x0D a).1.fs:=by
 unfold x0D;split
 ·exact by_unlink hb _
 ·exact hb
theorem x0_len (a:DS):(x0D a).1.fs.length≤a.fs.length:=by
 unfold x0D;split
 ·exact unlink_len _ _
 ·exact Nat.le_refl _
theorem loadD_nums1 (st:DS):(∀ s,(loadD st).amiss=some s→1≤s.num∧s.num<100000000)∧∀ n∈(loadD st).behind,n<100000000:=by
 have hb:∀ n∈numsOf (namesOf st.fs),1≤n∧n<100000000:=fun n hn=>by
  unfold numsOf at hn
  rw [List.mem_filter] at hn
  obtain ⟨h1,h2⟩:=hn
  obtain ⟨k,_,rfl⟩:=List.mem_map.1 h1
  exact ⟨by have:=of_decide_eq_true h2;omega,numL_lt⟩
 obtain ⟨h1,h2⟩:=loadL_mem (rd:=fun n=>(readD st (segName n)).1) (nums:=numsOf (namesOf st.fs)) (prev:=none) (g:=⟨0,[]⟩) (segs:=[])
 exact ⟨fun s hs=>hb _ (h1 s hs),fun n hn=>(hb n (h2 n hn)).2⟩
theorem mendU_len (a:DS) (n:Nat) (z:Int):(mendU a n z).1.fs.length≤a.fs.length + 2:=by
 unfold mendU
 split
 ·have:=unlink_len a (segName n);omega
 split
 ·simp
 ·generalize (readD a (segName n)).1.take z.toNat=bb
  have h1:=append_len a scratchN bb
  have h2:=sync_len (appendD a scratchN bb).1 scratchN
  have h3:=rename_len (syncD (appendD a scratchN bb).1 scratchN).1 scratchN (segName n)
  by_cases hA:(appendD a scratchN bb).2=0
  ·rw [thenD_ok hA]
   by_cases hB:(syncD (appendD a scratchN bb).1 scratchN).2=0
   ·rw [thenD_ok hB];omega
   ·rw [thenD_err hB];omega
  ·rw [thenD_err hA,thenD_err hA];omega
def oE (a:DS):Int:=if a.off then 5 else (recoverD a).2
def oD (a:DS):DS:=if a.off then a else (recoverD a).1
def UOpenQ (R:Cx) (Hs:List HP) (p d:Nat) (lim:Int) (a:DS) (v:Value) (w:World):Prop:=
 (∃ b',oE a≠0∧v=.int .i64 (oE a)∧Rel (oD a) b'∧Sat R (RefAt d b'::Hs) w)∨
 (oE a=0∧v=.int .i64 0∧∃ R' s ds sg sh b',R.Ext R'∧DsR R' ds∧erE ds=(openedW a).g.l∧Rel (oD a) b'∧0≤(openedW a).g.base∧(openedW a).g.base≤1099511627776∧ds.length≤100000000000∧
  Sat R' (US p d lim (openedW a).g.base s sg sh false ds (openedW a).segs b' Hs) w)
theorem setSize_nums (segs:List Sg) (z:Int):(setSize segs z).map (·.num)=segs.map (·.num)∧(setSize segs z).map (·.next)=segs.map (·.next):=by
 unfold setSize
 split
 ·rename_i s hs
  obtain ⟨hlt,rfl⟩:=List.getElem?_eq_some_iff.1 hs
  constructor
  all_goals
   refine List.ext_getElem (by simp) fun i h1 h2=>?_
   simp only [List.getElem_map,List.getElem_set]
   split
   ·rename_i h;subst h;rfl
   ·rfl
 ·exact ⟨rfl,rfl⟩
theorem opened_nums (a:DS) (h:(loadD a).segs≠[]):(openedW a).segs.map (·.num)=(loadD a).segs.map (·.num)∧(openedW a).segs.map (·.next)=(loadD a).segs.map (·.next):=by
 unfold openedW
 simp only
 rw [if_neg h]
 split
 ·unfold mendSegs
  split
  ·exact ⟨rfl,rfl⟩
  ·exact setSize_nums _ _
 ·exact ⟨rfl,rfl⟩
set_option maxHeartbeats 1000000 in
theorem ropen_spec (r:Rel a b) (hby:ByOk a.fs) (hf:a.fs.length≤40000) (hw:Sat R (pts p (uCells d lim base s sg sh false)::RefAt d b::Hs) w):
  Gets Tryz.prog 42 #[.pointer (some ⟨p,0,none⟩)] w (UOpenQ R Hs p d lim a):=by
 apply call42
 suffices H:∀ K:Value→World→Prop,(∀ v w',UOpenQ R Hs p d lim a v w'→K v w')→B42 (some ⟨p,0,none⟩) K w from H _ fun _ _ h=>h
 intro K hK
 obtain ⟨sx,E,hE,hw1⟩:=Sat.ref.1 hw.swap
 have hoff:=r.off
 have hw1:Sat R (pts d (rCells b sx)::OwnN 3 sx 112 (E.map rowR)::BufsAt E::pts p (uCells d lim base s sg sh false)::Hs) w:=hw1
 refine NilP.mk rfl ⟨some ⟨d,0,none⟩,At.own (eqS hw) (by exact ⟨rfl,trivial⟩),NilP.mk rfl ⟨b.off,At.own (eqS hw1) (by exact ⟨rfl,trivial⟩),Br.mk (fun h=>?_) (fun h=>?_)⟩⟩
 ·have ho:a.off=true:=by rw [hoff];exact h
  have e5:oE a=5:=by unfold oE;rw [if_pos ho]
  have eD:oD a=a:=by unfold oD;rw [if_pos ho]
  rw [←e5]
  exact hK _ _ (.inl ⟨b,by rw [e5];decide,rfl,by rw [eD];exact r,hw.drop⟩)
 clear hw1 hE
 have ho:¬ a.off=true:=by rw [hoff,h];simp
 have eE:oE a=(recoverD a).2:=if_neg ho
 have eD:oD a=(recoverD a).1:=if_neg ho
 have no:∀ {a' b':DS} {e:Int} {w:World},¬ e=0→recoverD a=(a',e)→Rel a' b'→Sat R (RefAt d b'::Hs) w→K (.int .i64 e) w:=fun {a' b' e w} he hr r' hw=>by
  have e1:oE a=e:=by rw [eE,hr]
  have e2:oD a=a':=by rw [eD,hr]
  rw [←e1]
  exact hK _ _ (.inl ⟨b',by rw [e1];exact he,rfl,by rw [e2];exact r',hw⟩)
 refine (rhas_spec r (by omega) hw).use ?_
 clear hw
 rintro _ w ⟨rfl,hw⟩
 refine ⟨_,rfl,fun w=>∃ b1,(x0D a).2=0∧Rel (x0D a).1 b1∧Sat R (pts p (uCells d lim base s sg sh false)::RefAt d b1::Hs) w,?_,?_⟩
 ·refine Br.d (fun hs=>?_) (fun hs=>?_)
  ·have ex:x0D a=unlinkD a scratchN:=if_pos hs
   obtain ⟨ru,eu⟩:=r.unlink scratchN
   refine NilP.mk rfl ⟨_,At.own (eqS hw) (by exact ⟨rfl,trivial⟩),?_⟩
   refine (unlinkR_spec r.invR (by have:=r.len;omega) scratch_k hw.swap).use ?_
   clear hw
   rintro _ w ⟨rfl,hw⟩
   rw [←eu]
   refine ⟨_,rfl,Br.ne (fun he=>no (a':=(unlinkD a scratchN).1) he ?_ ru (hw.cons fun _ h=>h.drop)) (fun he=>⟨_,by rw [ex];exact he,by rw [ex];exact ru,hw.swap⟩)⟩
   rw [recoverD_eq,ex,thenD_err (x:=unlinkD a scratchN) he,thenD_err (x:=unlinkD a scratchN) he,thenD_err (x:=unlinkD a scratchN) he]
  ·have ex:x0D a=(a,0):=if_neg hs
   exact ⟨b,by rw [ex],by rw [ex];exact r,hw⟩
 clear hw
 rintro _ w ⟨b1,hx0,r1,hw⟩
 have hrec1:recoverD a=thenD (thenD (f1D (loadD a) (x0D a).1) fun st'=>unlinksD st' (loadD a).behind) (f3D (loadD a)):=by rw [recoverD_eq,thenD_ok hx0]
 have hl1:=x0_len a
 have hlb:=r1.len
 have hld:loadD b1=loadD a:=by rw [r1.load,r.load_x0 hx0]
 have hlda:loadD (x0D a).1=loadD a:=r.load_x0 hx0
 refine (rfound_spec r1.invR (r1.by_ (x0_by hby)) (by omega) r1.namesR hw).use ?_
 clear hw
 rw [show FoundQ R Hs p d lim false b1=FoundQ R Hs p d lim false b1 from rfl]
 rintro _ w ⟨R1,base1,s1,ds1,sg1,sh1,bh,e1,hd1,rfl,hg1,hbh,hb0,hb1,hdl,hsl,hw⟩
 rw [hld] at hg1 hbh hsl hw ⊢
 obtain ⟨a1,ha1⟩:∃ a1,a1=(x0D a).1:=⟨_,rfl⟩
 rw [←ha1] at hrec1 r1 hl1 hlb hlda
 obtain ⟨hn1,hn2⟩:=loadD_nums1 a
 refine ⟨_,_,bh,rfl,fun w=>∃ b2,(f1D (loadD a) a1).2=0∧Rel (f1D (loadD a) a1).1 b2∧(f1D (loadD a) a1).1.fs.length≤40010∧Sat R1 (US p d lim base1 s1 sg1 sh1 false ds1 (loadD a).segs b2 Hs) w,?_,?_⟩
 ·cases ham:(loadD a).amiss with
  |none=>
   have e0:amN (loadD a)=0:=by unfold amN;rw [ham]
   have ef:f1D (loadD a) a1=(a1,0):=by unfold f1D;rw [ham]
   rw [e0]
   exact Br.d (fun h=>by omega) (fun _=>⟨b1,by rw [ef],by rw [ef];exact r1,by rw [ef];show a1.fs.length≤_;omega,hw⟩)
  |some q=>
   have e0:amN (loadD a)=q.num:=by unfold amN;rw [ham]
   have e2:amZ (loadD a)=q.size:=by unfold amZ;rw [ham]
   have hq:=hn1 q ham
   have ef:f1D (loadD a) a1=mendU a1 q.num q.size:=by
    have h1:f1D (loadD a) a1=mendD a1 (loadD a).segs q:=by unfold f1D;rw [ham]
    rw [h1,←hlda]
    exact mendU_eq r1 (by rw [hlda];exact ham)
   obtain ⟨hz0,hz1⟩:=(loadD_bd (st:=a1) (by rw [ha1];exact x0_by hby)).1 q (by rw [hlda];exact ham)|>.2
   rw [e0,e2]
   refine Br.d (fun _=>?_) (fun h=>absurd (show (q.num:Int)>0 by omega) h)
   have hw:Sat R1 (pts p (uCells d lim base1 s1 sg1 sh1 false)::RefAt d b1::EntO s1 ds1::NumO sg1 (loadD a).segs::HeadO sh1 (loadD a).segs::Hs) w:=hw.arr
   refine (rmend_spec r1 (by omega) (by omega) hz0 (fun _=>hz1) hw).use ?_
   clear hw
   rintro _ w ⟨b2,rfl,r2,hw⟩
   rw [←ef] at r2 ⊢
   have hlen:(f1D (loadD a) a1).1.fs.length≤40010:=by rw [ef];have:=mendU_len a1 q.num q.size;omega
   refine ⟨_,rfl,Br.ne (fun he=>no (a':=(f1D (loadD a) a1).1) he ?_ r2 (e1.back (hw.drop.cons fun _ h=>h.drop.drop.drop))) (fun he=>⟨b2,he,r2,hlen,hw.arr⟩)⟩
   rw [hrec1,thenD_err (x:=f1D (loadD a) a1) he,thenD_err (x:=f1D (loadD a) a1) he]
 clear hw
 rintro _ w ⟨b2,hf1,r2,hl2,hw⟩
 obtain ⟨a2,ha2⟩:∃ a2,a2=(f1D (loadD a) a1).1:=⟨_,rfl⟩
 rw [thenD_ok hf1] at hrec1
 rw [←ha2] at hrec1 r2 hl2
 have hbl:bh.len=(loadD a).behind.length:=by have:=hbh.len;simpa using this
 have hbn:(loadD a).behind.length≤40000:=by
  have:=loadL_blen (rd:=fun n=>(readD a (segName n)).1) (nums:=numsOf (namesOf a.fs)) (prev:=none) (g:=⟨0,[]⟩) (segs:=[])
  have h2:=numsOf_le (namesOf a.fs)
  have h3:=namesOf_len a.fs
  show (loadL _ none ⟨0,[]⟩ [] _).behind.length≤_
  omega
 refine ⟨fun i w=>∃ (j:Nat) (a3 b3:DS),i=j∧j≤(loadD a).behind.length∧unlinksD a2 (loadD a).behind=unlinksD a3 ((loadD a).behind.drop j)∧Rel a3 b3∧a3.fs.length≤40010∧Sat R1 (US p d lim base1 s1 sg1 sh1 false ds1 (loadD a).segs b3 Hs) w,fun i _=>((loadD a).behind.length - i).toNat,
  ⟨0,a2,b2,rfl,Nat.zero_le _,rfl,r2,hl2,hw⟩,?_⟩
 clear hw
 rintro _ _ w ⟨j,a3,b3,rfl,hj,hun,r3,hl3,hw⟩
 refine Br.d (fun h=>?_) (fun h=>?_)
 ·have hjl:j<(loadD a).behind.length:=by omega
  have hdj:=drop_get hjl
  refine drw_rule' (Sat R1 [pts p (uCells d lim base1 s1 sg1 sh1 false),VC.tru]) hw (fun w hw=>hw.k1) fun w hw=>NilP.mk rfl ⟨_,At.own selfS (by exact ⟨rfl,trivial⟩),?_⟩
  refine hbh.ix selfS j rfl (by simpa using hjl) ?_
  have en:((loadD a).behind.map fun n:Nat=>(n:Int))[j]'(by simpa using hjl)=(((loadD a).behind[j]:Nat):Int):=by simp
  rw [en]
  have hnj:=hn2 _ (List.getElem_mem hjl)
  refine (rName_spec hnj hw).use ?_
  clear hw
  rintro _ w ⟨rfl,hw⟩
  refine ⟨_,rfl,hw.k1,?_⟩
  have hw:Sat R1 (RefAt d b3::pts p (uCells d lim base1 s1 sg1 sh1 false)::EntO s1 ds1::NumO sg1 (loadD a).segs::HeadO sh1 (loadD a).segs::Hs) w:=hw.arr
  obtain ⟨ru,eu⟩:=r3.unlink (segName (loadD a).behind[j])
  refine (unlinkR_spec r3.invR (by have:=r3.len;omega) (segName_k _) hw).use ?_
  clear hw
  rintro _ w ⟨rfl,hw⟩
  rw [←eu]
  have hus:unlinksD a3 ((loadD a).behind.drop j)=thenD (unlinkD a3 (segName (loadD a).behind[j])) fun st=>unlinksD st ((loadD a).behind.drop (j + 1)):=by rw [hdj];rfl
  have hul:=unlink_len a3 (segName (loadD a).behind[j])
  rw [wrap64 (by omega) (by omega)]
  refine ⟨_,rfl,hw.k1,Br.ne (fun he=>no (a':=(unlinkD a3 (segName (loadD a).behind[j])).1) he ?_ ru (e1.back (hw.cons fun _ h=>h.drop.drop.drop.drop))) (fun he=>⟨⟨j + 1,_,_,by omega,hjl,?_,ru,by omega,hw.arr⟩,by dsimp only;omega⟩)⟩
  ·rw [hrec1,hun,hus,thenD_err (x:=unlinkD a3 _) he,thenD_err (x:=unlinkD a3 _) he]
  ·rw [hun,hus,thenD_ok (x:=unlinkD a3 _) he]
 have hjl:j=(loadD a).behind.length:=by omega
 rw [hjl,List.drop_length] at hun
 have hun2:unlinksD a2 (loadD a).behind=(a3,0):=by rw [hun];rfl
 rw [hun2,thenD_ok (x:=(a3,(0:Int))) rfl] at hrec1
 have hgl:(openedW a).g=⟨base1,erE ds1⟩:=hg1.symm
 have hsgl:sg1.len=(loadD a).segs.length:=by
  have h2:Sat R1 (NumO sg1 (loadD a).segs::pts p (uCells d lim base1 s1 sg1 sh1 false)::EntO s1 ds1::HeadO sh1 (loadD a).segs::RefAt d b3::Hs) w:=hw.arr
  have:=Own.len h2;simpa using this
 refine NilP.mk rfl ⟨sg1,At.own (eqS hw) (by exact ⟨rfl,trivial⟩),Br.e (fun h0=>?_) (fun h0=>?_)⟩
 ·have hs0:(loadD a).segs=[]:=List.length_eq_zero_iff.1 (by omega)
  have ef3:f3D (loadD a) a3=makeD a3 1 1:=if_pos hs0
  rw [ef3] at hrec1
  refine (rmake_spec (n:=1) (next:=1) r3 (by omega) (by omega) (by omega) (by omega) (by omega) hw).use ?_
  clear hw
  rintro _ w ⟨e,b4,sg4,sh4,rfl,he,r4,hw⟩
  refine ⟨_,rfl,Br.ne (fun he0=>no (a':=(makeD a3 1 1).1) he0 (by rw [hrec1,he]) r4 ?_) (fun he0=>?_)⟩
  ·have hw:Sat R1 (RefAt d b4::pts p (uCells d lim base1 s1 sg4 sh4 false)::EntO s1 ds1::NumO sg4 (madeS (loadD a).segs 1 1 e)::HeadO sh4 (madeS (loadD a).segs 1 1 e)::Hs) w:=hw.arr
   exact e1.back (hw.cons fun _ h=>h.drop.drop.drop.drop)
  ·have hos:(openedW a).segs=[⟨1,1,(headB 1 1).length⟩]:=by unfold openedW;simp only;rw [if_pos hs0]
   have hms:madeS (loadD a).segs 1 1 e=(openedW a).segs:=by rw [hos,hs0];unfold madeS;rw [if_pos he0];rfl
   rw [hms] at hw
   refine hK _ _ (.inr ⟨by rw [eE,hrec1,←he];exact he0,rfl,R1,s1,ds1,sg4,sh4,b4,e1,hd1,by rw [hgl],by rw [eD,hrec1];exact r4,by rw [hgl];exact hb0,by rw [hgl];exact hb1,hdl,by rw [hgl];exact hw⟩)
 ·have hs0:(loadD a).segs≠[]:=fun h=>h0 (by rw [hsgl,h];rfl)
  have ef3:f3D (loadD a) a3=(a3,0):=if_neg hs0
  rw [ef3] at hrec1
  obtain ⟨q1,q2⟩:=opened_nums a hs0
  refine hK _ _ (.inr ⟨by rw [eE,hrec1],rfl,R1,s1,ds1,sg1,sh1,b3,e1,hd1,by rw [hgl],by rw [eD,hrec1];exact r3,by rw [hgl];exact hb0,by rw [hgl];exact hb1,hdl,?_⟩)
  unfold US NumO HeadO
  rw [q1,q2,hgl]
  exact hw
def ROpenQ (R:Cx) (Hs:List HP) (d:Nat) (lim:Int) (a:DS) (e:Int) (v:Value) (w:World):Prop:=
 (∃ b',e≠0∧v=.tuple #[.pointer none,.int .i64 e]∧Rel (openD a lim) b'∧Sat R (RefAt d b'::Hs) w)∨
 (e=0∧∃ R' p s ds sg sh b',R.Ext R'∧DsR R' ds∧v=.tuple #[.pointer (some ⟨p,0,none⟩),.int .i64 0]∧erE ds=(openedW a).g.l∧Rel (openD a lim) b'∧0≤(openedW a).g.base∧(openedW a).g.base≤1099511627776∧ds.length≤100000000000∧
  Sat R' (US p d lim (openedW a).g.base s sg sh false ds (openedW a).segs b' Hs) w)
theorem rOpen_spec (lim:Int) (r:Rel a b) (hby:ByOk a.fs) (hf:a.fs.length≤40000) (hw:Sat R (RefAt d b::Hs) w):
  Gets Tryz.prog 14 #[.pointer (some ⟨d,0,none⟩),.int .i64 lim] w (ROpenQ R Hs d lim a (openErr a lim)):=by
 apply call14
 refine ⟨fun w=>¬ (lim<32∨lim>65536)∧Sat R (RefAt d b::Hs) w,?_,?_⟩
 ·have bad:(lim<32∨lim>65536)→∀ {w:World},Sat R (RefAt d b::Hs) w→ROpenQ R Hs d lim a (openErr a lim) (.tuple #[.pointer none,.int .i64 1]) w:=fun h {w} hw=>by
   have e1:openErr a lim=1:=if_pos h
   have e2:openD a lim=a:=if_pos h
   rw [e1]
   exact .inl ⟨b,by decide,rfl,by rw [e2];exact r,hw⟩
  exact Br.f rfl (Br.d (fun h=>bad (.inl h) hw) (fun h=>Br.d (fun h2=>bad (.inr h2) hw) (fun h2=>⟨fun h3=>h3.elim h h2,hw⟩)))
 clear hw
 rintro _ w ⟨hlim,hw⟩
 have e1:openErr a lim=oE a:=by unfold openErr oE;rw [if_neg hlim]
 have e2:openD a lim=oD a:=by unfold openD oD;rw [if_neg hlim]
 rw [e1]
 refine new_rule hw fun p w hw=>?_
 refine (ropen_spec (s:=⟨none,0,0⟩) (sg:=⟨none,0,0⟩) (sh:=⟨none,0,0⟩) r hby hf hw).use ?_
 clear hw
 rintro _ w (⟨b',h1,rfl,h2,hw⟩|⟨h1,rfl,R',s,ds,sg,sh,b',g1,g2,g3,g4,g5,g6,g7,hw⟩)
 ·exact ⟨_,rfl,Br.ne (fun _=>.inl ⟨b',h1,rfl,by rw [e2];exact h2,hw⟩) (fun h=>absurd h h1)⟩
 ·exact ⟨_,rfl,Br.ne (fun h=>absurd rfl h) (fun _=>.inr ⟨h1,R',p,s,ds,sg,sh,b',g1,g2,rfl,g3,by rw [e2];exact g4,g5,g6,g7,hw⟩)⟩
end Go.Proofs.YtkfedbncmfnpnaaGreatDoor
/- Reference 06: what is told of a log; both disks, both logs compared. Condition: bounds on lengths. -/
namespace Go.Proofs.YtkfedbncmfnpnaaGreatDoor
set_option linter.unusedVariables false
set_option linter.unusedSimpArgs false
open Go Go.VC
variable {R R':Cx} {Hs Rest:List HP} {w:World} {p d q u:Nat} {x:WSt} {s sg sh:Sl} {ds:List DE4} {a b:DS}
abbrev UX (p d:Nat) (x:WSt) (s sg sh:Sl) (ds:List DE4) (st:DS) (Hs:List HP):List HP:=US p d x.lim x.g.base s sg sh x.brk ds x.segs st Hs
theorem rFirst_spec (h:WB0 x) (hw:Sat R (UX p d x s sg sh ds b Hs) w):Gets Tryz.prog 46 #[.pointer (some ⟨p,0,none⟩)] w fun v w'=>v=.int .i64 (firstW x)∧Sat R (UX p d x s sg sh ds b Hs) w':=by
 have h0:=h.b0;have h1:=h.b1
 apply call46
 refine NilP.mk rfl ⟨x.brk,At.own (eqS hw) (by exact ⟨rfl,trivial⟩),Br.mk (fun h=>?_) (fun h=>?_)⟩
 ·refine ⟨?_,hw⟩;unfold firstW;rw [if_pos h]
 ·refine NilP.mk rfl ⟨x.g.base,At.own (eqS hw) (by exact ⟨rfl,trivial⟩),?_,hw⟩
  rw [wrap64 (by omega) (by omega)]
  unfold firstW;rw [if_neg (by simp [h])]
theorem UX.slen (hw:Sat R (UX p d x s sg sh ds b Hs) w):s.len=ds.length∧sg.len=x.segs.length:=by
 constructor
 ·have h2:Sat R (EntO s ds::pts p (uCells d x.lim x.g.base s sg sh x.brk)::NumO sg x.segs::HeadO sh x.segs::RefAt d b::Hs) w:=hw.arr
  have:=OwnN.len h2;simpa using this
 ·have h2:Sat R (NumO sg x.segs::pts p (uCells d x.lim x.g.base s sg sh x.brk)::EntO s ds::HeadO sh x.segs::RefAt d b::Hs) w:=hw.arr
  have:=Own.len h2;simpa using this
theorem rLast_spec (h:WB0 x) (hd:erE ds=x.g.l) (hw:Sat R (UX p d x s sg sh ds b Hs) w):Gets Tryz.prog 47 #[.pointer (some ⟨p,0,none⟩)] w fun v w'=>v=.int .i64 (lastW x)∧Sat R (UX p d x s sg sh ds b Hs) w':=by
 have h0:=h.b0;have h1:=h.b1;have h2:=h.l1
 have hsl:=(UX.slen hw).1
 have hdl:ds.length=x.g.l.length:=by rw [←hd,List.length_map]
 apply call47
 refine NilP.mk rfl ⟨x.brk,At.own (eqS hw) (by exact ⟨rfl,trivial⟩),Br.mk (fun h=>?_) (fun h=>?_)⟩
 ·refine ⟨?_,hw⟩;unfold lastW;rw [if_pos h]
 ·refine NilP.mk rfl ⟨x.g.base,s,At.own (eqS hw) (by exact ⟨rfl,rfl,trivial⟩),?_⟩
  refine (rlast2_spec h0 h1 (by omega) hw).use ?_
  clear hw
  rintro _ w ⟨rfl,hw⟩
  refine ⟨_,rfl,?_,hw⟩
  rw [hsl]
  unfold lastW;rw [if_neg (by simp [h]),lastG hd]
theorem rGet_spec (h:WB0 x) (from' most:Int) (hf: -9223372036854775808≤from'∧from'<9223372036854775808) (hd:DsR R ds) (he:erE ds=x.g.l) (hw:Sat R (UX p d x s sg sh ds b Hs) w):
  Gets Tryz.prog 48 #[.pointer (some ⟨p,0,none⟩),.int .i64 from',.int .i64 most] w fun v w'=>∃ (t:Sl) (ds':List DE4),v=.slice t.a t.len t.cap∧DsR R ds'∧erE ds'=getW x from' most∧Sat R (EntO t ds'::UX p d x s sg sh ds b Hs) w':=by
 have h0:=h.b0;have h1:=h.b1;have h2:=h.l1
 have hsl:=(UX.slen hw).1
 have hdl:ds.length=x.g.l.length:=by rw [←he,List.length_map]
 have hlast:=lastG he
 apply call48
 suffices H:∀ K:Value→World→Prop,(∀ (t:Sl) (ds':List DE4) w',DsR R ds'→erE ds'=getW x from' most→Sat R (EntO t ds'::UX p d x s sg sh ds b Hs) w'→K (.slice t.a t.len t.cap) w')→B48 (some ⟨p,0,none⟩) from' most K w from H _ fun t ds' w' h1 h2 h3=>⟨t,ds',rfl,h1,h2,h3⟩
 intro K hK
 have none':(x.brk=true∨from'≤x.g.base∨from'>x.g.last)→∀ {w:World},Sat R (UX p d x s sg sh ds b Hs) w→K (.slice none 0 0) w:=fun hc {w} hw=>hK ⟨none,0,0⟩ [] w .nil (by
  unfold getW;rw [if_pos];· rfl
  ·rcases hc with h|h|h
   ·exact .inl h
   ·exact .inr (.inl h)
   ·exact .inr (.inr (.inl h))) (OwnN.nil hw)
 refine ⟨fun w=>(x.brk=false∧x.g.base<from'∧from'≤x.g.last)∧Sat R (UX p d x s sg sh ds b Hs) w,?_,?_⟩
 ·refine NilP.mk rfl ⟨x.brk,At.own (eqS hw) (by exact ⟨rfl,trivial⟩),Br.mk (fun h=>none' (.inl h) hw) (fun h=>?_)⟩
  refine NilP.mk rfl ⟨x.g.base,At.own (eqS hw) (by exact ⟨rfl,trivial⟩),Br.d (fun h3=>none' (.inr (.inl h3)) hw) (fun h3=>?_)⟩
  refine NilP.mk rfl ⟨x.g.base,s,At.own (eqS hw) (by exact ⟨rfl,rfl,trivial⟩),?_⟩
  refine (rlast2_spec h0 h1 (by omega) hw).use ?_
  clear hw
  rintro _ w ⟨rfl,hw⟩
  refine ⟨_,rfl,Br.d (fun h4=>none' (.inr (.inr (by omega))) hw) (fun h4=>⟨⟨h,by omega,by omega⟩,hw⟩)⟩
 clear hw
 rintro _ w ⟨⟨hb,hf1,hf2⟩,hw⟩
 obtain ⟨o,ho⟩:∃ o:Nat,o=(from' - 1 - x.g.base).toNat:=⟨_,rfl⟩
 refine ⟨fun out i w=>∃ (j:Nat),i=from' + j∧o + j≤ds.length∧(j:Int)≤max most 0∧Sat R (EntO out ((ds.drop o).take j)::UX p d x s sg sh ds b Hs) w,fun _ i _=>(x.g.last + 1 - i).toNat,⟨0,by omega,by omega,by omega,OwnN.nil hw⟩,?_⟩
 clear hw
 rintro _ out _ w ⟨j,rfl,hj,hjm,hw⟩
 have hol:out.len=j:=by have:=OwnN.len hw;rw [this,List.length_map,List.length_take,List.length_drop];omega
 have stop:(most≤j∨o + j=ds.length)→∀ {w:World},Sat R (EntO out ((ds.drop o).take j)::UX p d x s sg sh ds b Hs) w→K (.slice out.a out.len out.cap) w:=fun hc {w} hw=>by
  refine hK out _ w ((hd.drop o).take j) ?_ hw
  unfold getW
  by_cases hm:most<1
  ·have hj0:j=0:=by omega
   rw [hj0,if_pos (.inr (.inr (.inr hm)))]
   rfl
  ·rw [if_neg (by rw [hb];simp;omega),←ho,←he]
   unfold erE
   rw [List.map_take,List.map_drop]
   rcases hc with hc|hc
   ·rw [show most.toNat=j by omega]
   ·rw [List.take_of_length_le (by simp;omega),List.take_of_length_le (by simp;omega)]
 have hw':Sat R (pts p (uCells d x.lim x.g.base s sg sh x.brk)::EntO out ((ds.drop o).take j)::EntO s ds::NumO sg x.segs::HeadO sh x.segs::RefAt d b::Hs) w:=hw.arr
 refine ⟨fun w=>(o + j<ds.length∧(j:Int)<most)∧Sat R (EntO out ((ds.drop o).take j)::UX p d x s sg sh ds b Hs) w,?_,?_⟩
 ·refine NilP.mk rfl ⟨x.g.base,s,At.own (eqS hw') (by exact ⟨rfl,rfl,trivial⟩),?_⟩
  refine (rlast2_spec h0 h1 (by omega) hw).use ?_
  clear hw hw'
  rintro _ w ⟨rfl,hw⟩
  rw [hol]
  refine ⟨_,rfl,Br.d (fun h3=>Br.d (fun h4=>⟨⟨by omega,h4⟩,hw⟩) (fun h4=>?_)) (fun h3=>?_)⟩
  ·rw [←hol];exact stop (.inl (by omega)) hw
  ·rw [←hol];exact stop (.inr (by omega)) hw
 clear hw hw'
 rintro _ w ⟨⟨hk,hjm2⟩,hw⟩
 have hw:Sat R (pts p (uCells d x.lim x.g.base s sg sh x.brk)::EntO s ds::EntO out ((ds.drop o).take j)::NumO sg x.segs::HeadO sh x.segs::RefAt d b::Hs) w:=hw.arr
 have ix:IntKind.i64.wrap (IntKind.i64.wrap (from' + (j:Int) - 1) - x.g.base)=((o + j:Nat):Int):=by
  rw [wrap64 (x:=from' + (j:Int) - 1) (by omega) (by omega),wrap64 (by omega) (by omega)];omega
 have toS:∀ {A:List HP} {w:World},Sat R (pts p (uCells d x.lim x.g.base s sg sh x.brk)::EntO s ds::A) w→Sat R [pts p (uCells d x.lim x.g.base s sg sh x.brk),EntO s ds,VC.tru] w:=fun h=>h.cons fun _ h=>h.cons fun _ h=>allTruA h
 refine drw_rule' (Sat R [pts p (uCells d x.lim x.g.base s sg sh x.brk),EntO s ds,VC.tru]) hw (fun w hw=>toS hw) fun w hw=>?_
 refine NilP.mk rfl ⟨s,At.own selfS (by exact ⟨rfl,trivial⟩),NilP.mk rfl ⟨x.g.base,At.own selfS (by exact ⟨rfl,trivial⟩),?_⟩⟩
 rw [ix]
 have hrd:ReadsN 4 s (ds.map eRow) (Sat R [pts p (uCells d x.lim x.g.base s sg sh x.brk),EntO s ds,VC.tru]):=OwnN.readsM (n:=4) (s:=s) (T:=55) (rows:=ds.map eRow) (toS hw) (fun w h=>h)
 refine hrd.rngM (E:=ds) (g:=eRow) hk fun _ _ el=>⟨ds[o + j].2.ix,ds[o + j].2.tm,ds[o + j].2.kd,ds[o + j].1,el.z (by exact ⟨rfl,rfl,rfl,rfl,trivial⟩),?_⟩
 refine new_rule hw fun b2 w hw=>⟨toS (A:=pts b2 (.cells (eRow ds[o + j]).toArray 55 (0,0))::EntO out ((ds.drop o).take j)::NumO sg x.segs::HeadO sh x.segs::RefAt d b::Hs) hw.arr,?_⟩
 have hw:Sat R (EntO out ((ds.drop o).take j)::pts b2 (.cells (eRow ds[o + j]).toArray 55 (0,0))::pts p (uCells d x.lim x.g.base s sg sh x.brk)::EntO s ds::NumO sg x.segs::HeadO sh x.segs::RefAt d b::Hs) w:=hw.arr
 have hlt:((ds.drop o).take j).length=j:=by rw [List.length_take,List.length_drop];omega
 refine pushN_in elE hw rfl rfl (by rw [List.length_map];omega) (by rw [List.length_map];omega) fun s2 w hw=>?_
 have htk:(ds.drop o).take (j + 1)=(ds.drop o).take j++[ds[o + j]]:=by
  rw [List.take_add_one,List.getElem?_drop,List.getElem?_eq_getElem hk];rfl
 have hw:Sat R (EntO s2 ((ds.drop o).take (j + 1))::UX p d x s sg sh ds b Hs) w:=by
  unfold EntO;rw [htk,List.map_append];simp only [List.map_cons,List.map_nil];exact hw
 refine ⟨toS (A:=EntO s2 ((ds.drop o).take (j + 1))::NumO sg x.segs::HeadO sh x.segs::RefAt d b::Hs) hw.arr,?_⟩
 rw [wrap64 (by omega) (by omega)]
 exact ⟨⟨j + 1,by omega,by omega,by omega,hw⟩,by dsimp only;omega⟩
theorem sameU_spec (r:Rel a b) (hf:a.fs.length≤90000) (hw:Sat R (DiskAt d a::RefAt q b::Hs) w):Gets Tryz.prog 15 #[.pointer (some ⟨d,0,none⟩),.pointer (some ⟨q,0,none⟩)] w fun v w'=>v=.bool true∧Sat R (DiskAt d a::RefAt q b::Hs) w':=by
 apply call15
 have hlb:=r.len
 have hnl:=namesOf_len a.fs
 refine (names_spec r.inv (by omega) hw).use ?_
 clear hw
 rintro _ w ⟨t,rfl,hw⟩
 obtain ⟨R1,e1,ht,hw⟩:=Own.leak hw
 refine ⟨t,rfl,(namesU_spec (by omega) hw.swap).use ?_⟩
 clear hw
 rintro _ w ⟨t2,rfl,hw⟩
 rw [←r.names] at hw
 obtain ⟨R2,e2,ht2,hw⟩:=Own.leak hw
 have hw:=hw.swap
 have ht:=e2.slR ht
 have htl:t.len=(namesOf a.fs).length:=by have:=ht.len;simpa using this
 have htl2:t2.len=(namesOf a.fs).length:=by have:=ht2.len;simpa using this
 have hro:=ht.ro (by rw [List.length_map];omega)
 have hro2:=ht2.ro (by rw [List.length_map];omega)
 refine ⟨t2,rfl,Sat R2 (DiskAt d a::RefAt q b::Hs),?_,?_⟩
 ·refine drw_rule hw fun w hw=>Br.ne (fun h=>absurd (by omega) h) (fun _=>?_)
  have hS:∀ w,Sat R2 (DiskAt d a::RefAt q b::Hs) w→∃ sx E,Sat R2 (pts q (rCells b sx)::OwnN 3 sx 112 (E.map rowR)::BufsAt E::DiskAt d a::Hs) w:=fun w h=>by
   obtain ⟨sx,E,_,h⟩:=Sat.ref.1 h.swap
   exact ⟨sx,E,h⟩
  refine NilP.mk rfl ⟨b.off,fun w h i v hv=>?_,?_⟩
  ·obtain ⟨sx,E,h⟩:=hS w h
   exact (At.own (S:=fun w'=>w'=w) (eqS h) (by exact ⟨rfl,trivial⟩)) w rfl i v hv
  ·refine (off_spec hw).use ?_
   clear hw
   rintro _ w ⟨rfl,hw⟩
   refine ⟨_,rfl,hw,Br.f (by rw [r.off];simp) hw⟩
 clear hw
 rintro _ w hw
 refine ⟨fun i w=>∃ j:Nat,i=j∧j≤(namesOf a.fs).length∧Sat R2 (DiskAt d a::RefAt q b::Hs) w,fun i _=>((namesOf a.fs).length - i).toNat,⟨0,rfl,Nat.zero_le _,hw⟩,?_⟩
 clear hw
 rintro _ _ w ⟨j,rfl,hj,hw⟩
 refine Br.d (fun h=>?_) (fun _=>⟨rfl,(e1.trans e2).back hw⟩)
 have hjl:j<(namesOf a.fs).length:=by omega
 have hks:=nameOk_size (r.inv.names _ (mem_names.1 (List.getElem_mem hjl)))
 refine hro2.idxStr (eqS hw) hjl ?_
 refine (read_spec r.inv hw).use ?_
 clear hw
 rintro _ w ⟨t3,rfl,hw⟩
 obtain ⟨R3,e3,ht3,hw⟩:=Own.leak hw
 refine ⟨t3,_,rfl,?_⟩
 have hro3:Ro R3 t2 ((namesOf a.fs).map Value.string):=e3.ro hro2
 refine hro3.idxStr (eqS hw) hjl ?_
 refine (readR_spec r.invR (by omega) (by omega) hw.swap).use ?_
 clear hw
 rintro _ w ⟨t4,rfl,hw⟩
 obtain ⟨R4,e4,ht4,hw⟩:=Own.leak hw
 have hw:=hw.swap
 rw [←r.read] at ht4 ⊢
 refine ⟨t4,_,rfl,?_⟩
 have hrl:=readD_le r.inv (namesOf a.fs)[j]
 refine drw_rule hw fun w hw=>?_
 refine (e4.ro (e3.ro hro)).idxStr selfS hjl ?_
 refine (e4.ro hro3).idxStr selfS hjl ?_
 refine Br.sne (fun h=>absurd rfl h) (fun _=>?_)
 refine ⟨_,strR selfS ((e4.slR ht3).ro (by rw [List.length_map];omega)),_,strR selfS (ht4.ro (by rw [List.length_map];omega)),Br.sne (fun h=>absurd rfl h) (fun _=>Br.ne (fun h=>absurd rfl h) (fun _=>?_))⟩
 rw [wrap64 (by omega) (by omega)]
 exact ⟨⟨j + 1,by omega,hjl,(e3.trans e4).back hw⟩,by dsimp only;omega⟩
theorem alikeU_spec {s' sg':Sl} {ds':List DE4} (h:WB0 x) (hdt:∀ e∈x.g.l,e.dt.length≤4096) (hd:DsR R ds) (hd':DsR R ds') (he:erE ds=x.g.l) (he':erE ds'=x.g.l)
  (hw:Sat R (WX p d x s' sg' ds' a (UX q u x s sg sh ds b Hs)) w):Gets Tryz.prog 16 #[.pointer (some ⟨p,0,none⟩),.pointer (some ⟨q,0,none⟩)] w fun v w'=>v=.bool true∧Sat R (WX p d x s' sg' ds' a (UX q u x s sg sh ds b Hs)) w':=by
 apply call16
 have h0:=h.b0;have h1:=h.b1;have h2:=h.l1
 have hfb: -9223372036854775808≤firstW x∧firstW x<9223372036854775808:=by unfold firstW;split<;>omega
 refine (first_spec0 h hw).use ?_
 clear hw
 rintro _ w ⟨rfl,hw⟩
 refine ⟨_,rfl,(lastW_spec0 h he' hw).use ?_⟩
 clear hw
 rintro _ w ⟨rfl,hw⟩
 have hw:Sat R (UX q u x s sg sh ds b (WX p d x s' sg' ds' a Hs)) w:=hw.arr
 refine ⟨_,rfl,(rFirst_spec h hw).use ?_⟩
 clear hw
 rintro _ w ⟨rfl,hw⟩
 refine ⟨_,rfl,Br.ne (fun h=>absurd rfl h) (fun _=>(rLast_spec h he hw).use ?_)⟩
 clear hw
 rintro _ w ⟨rfl,hw⟩
 have hw:Sat R (WX p d x s' sg' ds' a (UX q u x s sg sh ds b Hs)) w:=hw.arr
 refine ⟨_,rfl,Br.ne (fun h=>absurd rfl h) (fun _=>(getW_spec0 h (firstW x) 100000 hfb (fun e he=>by have:=hdt e he;omega) hd' he' hw).use ?_)⟩
 clear hw
 rintro _ w ⟨R1,t1,dt1,e1,rfl,hd1,g1,hw⟩
 obtain ⟨R2,e2,hr1,hw⟩:=OwnN.leak hw
 have hw:Sat R2 (UX q u x s sg sh ds b (WX p d x s' sg' ds' a Hs)) w:=hw.arr
 have e12:=e1.trans e2
 refine ⟨t1,rfl,(rGet_spec h (firstW x) 100000 hfb (hd.ext e12) he hw).use ?_⟩
 clear hw
 rintro _ w ⟨t2,dt2,rfl,hd2,g2,hw⟩
 obtain ⟨R3,e3,hr2,hw⟩:=OwnN.leak hw
 have hdt2:∀ e∈dt1,e.2.dt.length≤9223372036854775807:=fun e he=>by
  have hm:e.2∈getW x (firstW x) 100000:=by rw [←g1];exact List.mem_map_of_mem he
  have hx:e.2∈x.g.l:=by
   unfold getW at hm
   split at hm
   ·cases hm
   ·exact List.mem_of_mem_drop (List.mem_of_mem_take hm)
  have:=hdt _ hx
  omega
 have hl1:dt1.length≤100000:=by
  have:=congrArg List.length g1
  rw [List.length_map] at this
  rw [this]
  unfold getW
  split
  ·simp
  ·rw [List.length_take];omega
 refine ⟨t2,rfl,(same06_spec (e3.roN hr1) hr2 ((hd1.ext e2).ext e3) (hd2.ext e3) (by rw [g1,g2]) (by omega) hdt2 hw).use ?_⟩
 clear hw
 rintro _ w ⟨rfl,hw⟩
 exact ⟨_,rfl,rfl,(e12.trans e3).back hw.arr⟩
end Go.Proofs.YtkfedbncmfnpnaaGreatDoor
/- WalOpens: the law. Condition: the library's table of powers is laid. -/
namespace Go.Proofs.YtkfedbncmfnpnaaGreatDoor
set_option linter.unusedVariables false
set_option linter.unusedSimpArgs false
open Go Go.VC
variable {R R':Cx} {Hs Rest:List HP} {w:World}
def EyB (e:Ey):Prop:=e.dt.length≤4096∧∀ y∈e.dt,0≤y∧y<256
theorem rdText_bd4 {most:Int} {r:Rd} (hb:∀ x∈r.bs,0≤x∧x<256) (hm:most=4096):(rdText most r).1.length≤4096∧∀ x∈(rdText most r).1,0≤x∧x<256:=by
 unfold rdText
 split
 ·simp
 ·split
  ·split
   ·rename_i n neg k _ hc
    refine ⟨by simp only [List.length_take];omega,fun x hx=>hb x (List.mem_of_mem_drop (List.mem_of_mem_take hx))⟩
   ·simp
  ·simp
theorem change_ents {g g':Lg} {b:List Int} (h:changeL g b=some g') (hg:∀ e∈g.l,EyB e) (hb:∀ x∈b,0≤x∧x<256):∀ e∈g'.l,EyB e:=by
 unfold changeL changeR1 at h
 simp only at h
 have hb0:=rdNum_bd (most:=3) (rd:=⟨b,false⟩) hb
 split at h
 ·unfold addR at h
  simp only at h
  split at h
  ·have hb1:=rdNum_bd (most:=1099511627777) hb0
   have hb2:=rdNum_bd (most:=1099511627776) hb1
   have hb3:=rdNum_bd (most:=7) hb2
   obtain rfl:=Option.some.inj h
   intro e he
   rcases List.mem_append.1 he with he|he
   ·exact hg e he
   ·rw [List.mem_singleton.1 he];exact rdText_bd4 hb3 rfl
  ·cases h
 split at h
 ·unfold cutR at h
  simp only at h
  split at h
  ·obtain rfl:=Option.some.inj h
   unfold cutTo
   intro e he
   split at he
   ·cases he
   split at he
   ·exact hg e (List.mem_of_mem_take he)
   ·exact hg e he
  ·cases h
 split at h
 ·unfold resetR at h
  simp only at h
  split at h
  ·obtain rfl:=Option.some.inj h
   intro e he
   cases he
  ·cases h
 ·cases h
theorem runL_ents:∀ {l:List (List Int)} {g:Lg} {d:Int},(∀ e∈g.l,EyB e)→(∀ b∈l,∀ x∈b,0≤x∧x<256)→∀ e∈(runL g d l).1.l,EyB e
 |[],g,d,hg,_=>by unfold runL;exact hg
 |x::xs,g,d,hg,hb=>by
  unfold runL
  cases hc:changeL g x with
  |none=>exact hg
  |some g'=>exact runL_ents (change_ents hc hg (hb x (List.mem_cons_self ..))) fun b hb'=>hb b (List.mem_cons_of_mem _ hb')
theorem loadL_ents {rd:Nat→List Int} (hb:∀ n,∀ b∈scan (rd n),∀ x∈b,0≤x∧x<256):∀ {nums:List Nat} {prev:Option Nat} {g:Lg} {segs:List Sg},(∀ e∈g.l,EyB e)→∀ e∈(loadL rd prev g segs nums).g.l,EyB e:=fun {nums}=>by
 induction nums with
 |nil=>intro prev g segs hg;unfold loadL;exact hg
 |cons n rest ih=>
  intro prev g segs hg
  by_cases h1:nxt rd prev n=0∨(prev≠none∧nxt rd prev n≠g.last + 1)
  ·rw [loadL_amiss h1];exact hg
  ·have hg1:∀ e∈(if prev=none then (⟨nxt rd prev n - 1,g.l⟩:Lg) else g).l,EyB e:=by split<;>exact hg
   have hr:=runL_ents (d:=(headB n (nxt rd prev n)).length) hg1 (l:=(scan (rd n)).tail) fun b hb'=>hb n b (List.mem_of_mem_tail hb')
   rcases hrr:runL (if prev=none then (⟨nxt rd prev n - 1,g.l⟩:Lg) else g) (headB n (nxt rd prev n)).length (scan (rd n)).tail with ⟨g2,o⟩
   rw [hrr] at hr
   cases o with
   |some d=>rw [loadL_fail h1 rfl hrr];exact hr
   |none=>
    by_cases he:scanLen (scan (rd n))=(rd n).length
    ·rw [loadL_more h1 rfl hrr he];exact ih hr
    ·rw [loadL_end h1 rfl hrr he];exact hr
theorem loadD_ents {st:DS} (hby:ByOk st.fs):∀ e∈(loadD st).g.l,EyB e:=
 loadL_ents (rd:=fun n=>(readD st (segName n)).1) (fun n b hb x hx=>by
  obtain ⟨_,h2⟩:=scan_mem _ (readD st (segName n)).1 (Nat.le_refl _) b hb
  exact by_read hby _ x (h2 x hx)) (fun e h=>by cases h)
abbrev FE:=ByteArray × Sl × List Int
abbrev feV (e:FE):List Value:=[.string e.1,.slice e.2.1.a e.2.1.len e.2.1.cap]
structure FeQ (R:Cx) (e:FE):Prop where
 name:e.1.size≤maxLen
 len:e.2.2.length≤maxLen
 bytes:SlR R.m e.2.1 (b8 e.2.2)
 bd:Byt e.2.2
theorem FeQ.ext {e:FE} (h:FeQ R e) (x:R.Ext R'):FeQ R' e:=⟨h.name,h.len,x.slR h.bytes,h.bd⟩
structure FsR (R:Cx) (s:Sl) (es:List FE):Prop where
 rows:RoN 2 R s (es.map feV)
 each:∀ e∈es,FeQ R e
theorem FsR.ext {s:Sl} {es:List FE} (h:FsR R s es) (x:R.Ext R'):FsR R' s es:=⟨x.roN h.rows,fun e he=>(h.each e he).ext x⟩
theorem FsR.nil:FsR R ⟨none,0,0⟩ []:=⟨⟨by simp [Wid],rfl,fun h=>absurd rfl h⟩,fun _ h=>by cases h⟩
set_option maxRecDepth 4000 in
theorem muchF_spec {l:Sl} {es:List FE} (hr:FsR R l es) (hw:Sat R Hs w):
  Gets Tryz.prog 9 #[.slice l.a l.len l.cap,.slice none 0 0] w fun v w'=>∃ b:Bool,v=.bool b∧(b=false→∀ e∈es.take 20,e.2.2.length≤30000∧e.1.size≤1000)∧Sat R Hs w':=by
 have hlen:l.len=es.length:=by have:=hr.rows.len;simpa using this
 refine call9 l ⟨none,0,0⟩ _ w ?_
 unfold B9
 refine ⟨fun n w=>(∀ e∈es.take 20,e.2.2.length≤30000∧e.1.size≤1000)∧Sat R Hs w,⟨fun n i w=>∃ k:Nat,i=k∧k≤20∧k≤es.length∧(0≤n∧n≤30000 * k)∧(∀ e∈es.take k,e.2.2.length≤30000∧e.1.size≤1000)∧Sat R Hs w,fun _ i _=>20 - i.toNat,⟨0,rfl,by omega,by omega,by simp,by simp,hw⟩,?_⟩,?_⟩
 ·clear hw
  rintro _ n _ w ⟨k,rfl,hk,hke,hn,hall,hw⟩
  refine ⟨fun w=>(k<es.length∧k<20)∧Sat R Hs w,Br.d (fun h=>Br.d (fun h2=>⟨⟨by omega,by omega⟩,hw⟩) (fun h2=>⟨by rw [show k=20 by omega] at hall;exact hall,hw⟩)) (fun h=>⟨by rw [List.take_of_length_le (by omega)] at hall ⊢;exact hall,hw⟩),?_⟩
  clear hw
  rintro _ w ⟨⟨h1,h2⟩,hw⟩
  have hS:ReadsN 2 l (es.map feV) (fun w'=>w'=w):=hr.rows.reads (eqS hw)
  have hE:=hr.each _ (List.getElem_mem h1)
  have hsl:es[k].2.1.len=es[k].2.2.length:=by have:=hE.bytes.len;simpa using this
  refine hS.rngM h1 fun a _ el=>⟨es[k].2.1,el.f 1 (by exact ⟨rfl,trivial⟩),Br.d (fun _=>⟨true,rfl,(fun h=>by cases h),hw⟩) (fun g1=>?_)⟩
  refine hS.rngM h1 fun a _ el=>⟨es[k].1,el.zz (by exact ⟨rfl,trivial⟩),Br.d (fun _=>⟨true,rfl,(fun h=>by cases h),hw⟩) (fun g2=>?_)⟩
  refine hS.rngM h1 fun a _ el=>⟨es[k].2.1,el.f 1 (by exact ⟨rfl,trivial⟩),?_⟩
  rw [wrap64 (x:=n + _) (by omega) (by omega),wrap64 (by omega) (by omega)]
  refine ⟨⟨k + 1,by omega,by omega,by omega,by omega,fun q hq=>?_,hw⟩,by dsimp only;omega⟩
  rw [←List.take_append_getElem h1] at hq
  rcases List.mem_append.1 hq with hq|hq
  ·exact hall q hq
  ·rw [List.mem_singleton.1 hq];omega
 clear hw
 rintro _ n w ⟨hall,hw⟩
 refine ⟨fun m i w=>i=0∧Sat R Hs w,fun _ _ _=>0,⟨rfl,hw⟩,?_⟩
 clear hw
 rintro _ m _ w ⟨rfl,hw⟩
 exact ⟨fun _=>False,Br.d (fun h=>by simp at h) (fun _=>⟨_,rfl,fun _=>hall,hw⟩),fun _ _ h=>h.elim⟩
theorem disks_spec {room:Int} {l:Sl} {es:List FE} (hr:FsR R l es) (hsm:∀ e∈es.take 20,e.2.2.length≤30000∧e.1.size≤1000) (hw:Sat R Hs w):
  Gets Tryz.prog 10 #[.int .i64 room,.slice l.a l.len l.cap] w fun v w'=>(¬ (1≤room∧room≤16777216)∧v=.tuple #[.pointer none,.pointer none,.bool false]∧Sat R Hs w')∨
   ((1≤room∧room≤16777216)∧∃ (d q:Nat) (a b:DS),v=.tuple #[.pointer (some ⟨d,0,none⟩),.pointer (some ⟨q,0,none⟩),.bool true]∧Rel a b∧ByOk a.fs∧a.fs.length≤20∧(es=[]→a=⟨room,[],-1,-1,false⟩)∧Sat R (DiskAt d a::RefAt q b::Hs) w'):=by
 have hlen:l.len=es.length:=by have:=hr.rows.len;simpa using this
 apply call10
 suffices H:∀ K:Value→World→Prop,(∀ w',¬ (1≤room∧room≤16777216)→Sat R Hs w'→K (.tuple #[.pointer none,.pointer none,.bool false]) w')→(∀ (d q:Nat) (a b:DS) w',(1≤room∧room≤16777216)→Rel a b→ByOk a.fs→a.fs.length≤20→(es=[]→a=⟨room,[],-1,-1,false⟩)→Sat R (DiskAt d a::RefAt q b::Hs) w'→K (.tuple #[.pointer (some ⟨d,0,none⟩),.pointer (some ⟨q,0,none⟩),.bool true]) w')→B10 room l K w from
  H _ (fun w' h1 h2=>.inl ⟨h1,rfl,h2⟩) fun d q a b w' h1 h2 h3 h4 h5 h6=>.inr ⟨h1,d,q,a,b,rfl,h2,h3,h4,h5,h6⟩
 intro K hK1 hK2
 refine (new_spec room hw).use ?_
 clear hw
 rintro _ w (⟨hn,rfl,hw⟩|⟨hn,h0,h1,d,rfl,hw⟩)
 ·refine ⟨_,_,rfl,(newR_spec room hw).use ?_⟩
  clear hw
  rintro _ w (⟨_,rfl,hw⟩|⟨hn2,_⟩)
  ·refine ⟨_,_,rfl,fun _=>False,Br.ne (fun _=>hK1 _ ?_ hw) (fun h=>absurd h (by decide)),fun _ _ h=>h.elim⟩
   intro hc
   unfold newErr at hn
   rw [if_neg (by omega)] at hn
   cases hn
  ·rw [hn] at hn2;cases hn2
 refine ⟨_,_,rfl,(newR_spec room hw).use ?_⟩
 clear hw
 rintro _ w (⟨hn2,_⟩|⟨_,_,_,q,rfl,hw⟩)
 ·rw [hn] at hn2;cases hn2
 refine ⟨_,_,rfl,Sat R (RefAt q ⟨room,[],-1,-1,false⟩::DiskAt d ⟨room,[],-1,-1,false⟩::Hs),Br.ne (fun h=>absurd rfl h) (fun _=>Br.ne (fun h=>absurd rfl h) (fun _=>Br.f rfl hw)),?_⟩
 clear hw
 rintro _ w hw
 have hw:=hw.swap
 refine ⟨fun i w=>∃ (k:Nat) (a b:DS),i=k∧k≤20∧k≤es.length∧Rel a b∧ByOk a.fs∧a.fs.length≤k∧(es=[]→a=⟨room,[],-1,-1,false⟩)∧Sat R (DiskAt d a::RefAt q b::Hs) w,fun i _=>20 - i.toNat,⟨0,_,_,rfl,by omega,by omega,Rel.new h0 h1,fun e h=>(by cases h),by simp,fun _=>rfl,hw⟩,?_⟩
 clear hw
 rintro _ _ w ⟨k,a,b,rfl,hk,hke,r,hby,hf,he0,hw⟩
 have fin:∀ {w:World},Sat R (DiskAt d a::RefAt q b::Hs) w→K (.tuple #[.pointer (some ⟨d,0,none⟩),.pointer (some ⟨q,0,none⟩),.bool true]) w:=fun hw=>hK2 d q a b _ ⟨h0,h1⟩ r hby (by omega) he0 hw
 refine ⟨fun w=>(k<es.length∧k<20)∧Sat R (DiskAt d a::RefAt q b::Hs) w,Br.d (fun h=>Br.d (fun h2=>⟨⟨by omega,by omega⟩,hw⟩) (fun _=>fin hw)) (fun _=>fin hw),?_⟩
 clear hw fin
 rintro _ w ⟨⟨hk1,hk2⟩,hw⟩
 have hE:=hr.each _ (List.getElem_mem hk1)
 have hS:∀ {Hs':List HP} {S:World→Prop},(∀ w,S w→Sat R Hs' w)→ReadsN 2 l (es.map feV) S:=fun h=>hr.rows.reads h
 obtain ⟨hb1,hb2⟩:=hsm es[k] (by rw [List.mem_take_iff_getElem];exact ⟨k,by omega,rfl⟩)
 have hro:=hE.bytes.ro (by rw [List.length_map];omega)
 have hlb:=r.len
 refine drw_rule hw fun w hw=>?_
 refine (hS selfS).rngM hk1 fun _ _ el=>⟨es[k].1,el.zz (by exact ⟨rfl,trivial⟩),?_⟩
 refine (hS selfS).rngM hk1 fun _ _ el=>⟨es[k].2.1,el.f 1 (by exact ⟨rfl,trivial⟩),?_⟩
 refine (append_spec r.inv hro (by omega) hw).use ?_
 clear hw
 rintro _ w ⟨rfl,hw⟩
 refine ⟨_,rfl,drw_rule hw fun w hw=>?_⟩
 refine (hS selfS).rngM hk1 fun _ _ el=>⟨es[k].1,el.zz (by exact ⟨rfl,trivial⟩),?_⟩
 refine (hS selfS).rngM hk1 fun _ _ el=>⟨es[k].2.1,el.f 1 (by exact ⟨rfl,trivial⟩),?_⟩
 obtain ⟨ra,ea⟩:=r.append es[k].1 es[k].2.2
 refine (appendR_spec r.invR (by omega) (by omega) hro (by omega) hw.swap).use ?_
 clear hw
 rintro _ w ⟨rfl,hw⟩
 have hw:=hw.swap
 rw [←ea]
 have hla:=append_len a es[k].1 es[k].2.2
 have hlab:=ra.len
 refine ⟨_,rfl,Br.ne (fun h=>absurd rfl h) (fun _=>?_)⟩
 refine (hS (eqS hw)).rngM hk1 fun _ _ el=>⟨es[k].1,el.zz (by exact ⟨rfl,trivial⟩),?_⟩
 refine (sync_spec ra.inv hw).use ?_
 clear hw
 rintro _ w ⟨rfl,hw⟩
 refine ⟨_,rfl,(hS (eqS hw)).rngM hk1 fun _ _ el=>⟨es[k].1,el.zz (by exact ⟨rfl,trivial⟩),?_⟩⟩
 refine (syncR_spec ra.invR (by omega) (by omega) hw.swap).use ?_
 clear hw
 rintro _ w ⟨rfl,hw⟩
 have hw:=hw.swap
 obtain ⟨rs,es'⟩:=ra.sync es[k].1
 have hls:=sync_len (appendD a es[k].1 es[k].2.2).1 es[k].1
 rw [wrap64 (by omega) (by omega)]
 exact ⟨_,rfl,⟨k + 1,_,_,by omega,by omega,hk1,rs,by_sync (by_append hby _ hE.bd) _,by omega,fun h=>by rw [h] at hk1;simp at hk1,hw⟩,by dsimp only;omega⟩
theorem opens_lspec {l:Sl} {es:List FE} {limit failing:Int} (hr:FsR R l es) (hfb:failing<9223372036854775808) (hp:PowR R) (hw:Sat R Hs w):
  Gets Tryz.prog 3 #[.slice l.a l.len l.cap,.int .i64 limit,.int .i64 failing] w fun v w'=>v=.bool true∧Sat R Hs w':=by
 apply call3
 suffices H:∀ K:Value→World→Prop,(∀ w',Sat R Hs w'→K (.bool true) w')→B3 l limit failing K w from H _ fun w' h=>⟨rfl,h⟩
 intro K hK
 have fin:∀ {R3:Cx} {w:World},R.Ext R3→Sat R3 Hs w→K (.bool true) w:=fun e h=>hK _ (e.back h)
 refine (awake_spec hp hw).use ?_
 clear hw
 rintro _ w ⟨R1,e1,rfl,hw⟩
 refine ⟨_,rfl,(muchF_spec (hr.ext e1) hw).use ?_⟩
 clear hw
 rintro _ w ⟨bm,rfl,hmuch,hw⟩
 refine ⟨_,rfl,fun w=>bm=false∧Sat R1 Hs w,Br.f rfl (Br.mk (fun _=>fin e1 hw) (fun h=>⟨h,hw⟩)),?_⟩
 clear hw
 rintro _ w ⟨rfl,hw⟩
 refine (disks_spec (room:=100000) (hr.ext e1) (hmuch rfl) hw).use ?_
 clear hw
 rintro _ w (⟨h,_⟩|⟨_,d,q,a,b,rfl,r,hby,hf,_,hw⟩)
 ·omega
 refine ⟨_,_,_,rfl,Br.f rfl ?_⟩
 refine ⟨fun w=>∃ a b,Rel a b∧ByOk a.fs∧a.fs.length≤20∧Sat R1 (DiskAt d a::RefAt q b::Hs) w,?_,?_⟩
 ·refine Br.d (fun h=>?_) (fun _=>⟨a,b,r,hby,hf,hw⟩)
  refine (fail_spec failing hw).use ?_
  clear hw
  rintro _ w ⟨rfl,hw⟩
  refine ⟨_,rfl,(failR_spec failing hw.swap).use ?_⟩
  clear hw
  rintro _ w ⟨rfl,hw⟩
  exact ⟨_,rfl,_,_,r.setFail failing hfb,hby,hf,hw.swap⟩
 clear hw r hby hf
 rintro _ w ⟨a,b,r,hby,hf,hw⟩
 refine (open_spec limit r.inv hby (by omega) (hp.ext e1) hw).use ?_
 clear hw
 rintro _ w h
 have hlen:(openD a limit).fs.length≤90000:=by
  have h1:(x0D a).1.fs.length≤20:=by have:=x0_len a;omega
  have hm:∀ (st:DS) (n:Nat) (x:Int),(makeD st n x).1.fs.length≤st.fs.length + 1:=make_len
  have hu:∀ (ns:List Nat) (st:DS),(unlinksD st ns).1.fs.length≤st.fs.length:=fun ns=>by
   induction ns with
   |nil=>intro st;exact Nat.le_refl _
   |cons n ns ih=>
    intro st
    unfold unlinksD
    have h2:=unlink_len st (segName n)
    by_cases hz:(unlinkD st (segName n)).2=0
    ·rw [thenD_ok hz];have:=ih (unlinkD st (segName n)).1;omega
    ·rw [thenD_err hz];exact h2
  have hmd:∀ (st:DS) (sg:List Sg) (s:Sg),(mendD st sg s).1.fs.length≤st.fs.length + 2:=fun st sg s=>by
   unfold mendD
   split
   ·have:=unlink_len st (segName s.num);omega
   split
   ·simp
   ·generalize (readD st (segName s.num)).1.take s.size.toNat=bb
    have h1:=append_len st scratchN bb
    have h2:=sync_len (appendD st scratchN bb).1 scratchN
    have h3:=rename_len (syncD (appendD st scratchN bb).1 scratchN).1 scratchN (segName s.num)
    by_cases hA:(appendD st scratchN bb).2=0
    ·rw [thenD_ok hA]
     by_cases hB:(syncD (appendD st scratchN bb).1 scratchN).2=0
     ·rw [thenD_ok hB];omega
     ·rw [thenD_err hB];omega
    ·rw [thenD_err hA,thenD_err hA];omega
  have hthen:∀ (x:DS × Int) (f:DS→DS × Int) (n m:Nat),x.1.fs.length≤n→(∀ st,(f st).1.fs.length≤st.fs.length + m)→(thenD x f).1.fs.length≤n + m:=fun x f n m h1 h2=>by
   unfold thenD;split
   ·have:=h2 x.1;omega
   ·omega
  unfold openD
  split
  ·omega
  split
  ·omega
  ·rw [recoverD_eq]
   refine Nat.le_trans (hthen _ _ 22 1 (hthen _ _ 22 0 (hthen _ _ 20 2 h1 fun st=>?_) fun st=>hu _ st) fun st=>?_) (by omega)
   ·unfold f1D;split
    ·exact hmd _ _ _
    ·simp
   ·unfold f3D;split
    ·exact hm _ _ _
    ·simp
 rcases h with ⟨he,rfl,hw⟩|⟨he,R2,p,s,ds,sg,e2,hd,rfl,hel,g1,g2,g3,g4,hw⟩
 ·refine ⟨_,_,rfl,(rOpen_spec limit r hby (by omega) hw.swap).use ?_⟩
  clear hw
  rintro _ w (⟨b',_,rfl,r',hw⟩|⟨he2,_⟩)
  ·refine ⟨_,_,rfl,(sameU_spec r' hlen hw.swap).use ?_⟩
   clear hw
   rintro _ w ⟨rfl,hw⟩
   refine ⟨_,rfl,Br.ne (fun h=>absurd rfl h) (fun _=>Br.f rfl (Br.f rfl (Br.t rfl (fin e1 hw.drop.drop))))⟩
  ·exact absurd he2 he
 ·have hw:Sat R2 (RefAt q b::WS p d limit (openedW a).g.base s sg false ds (openedW a).segs (openD a limit) Hs) w:=hw.arr
  refine ⟨_,_,rfl,(rOpen_spec limit r hby (by omega) hw).use ?_⟩
  clear hw
  rintro _ w (⟨b',he2,_⟩|⟨_,R3,u,s2,ds2,sg2,sh2,b',e3,hd2,rfl,hel2,r',g5,g6,g7,hw⟩)
  ·exact absurd he he2
  ·obtain ⟨x,hx⟩:∃ x:WSt,x=⟨limit,(openedW a).g,(openedW a).segs,false⟩:=⟨_,rfl⟩
   have hxg:x.g=(openedW a).g:=by rw [hx]
   have hw:Sat R3 (DiskAt d (openD a limit)::RefAt q b'::pts u (uCells q limit (openedW a).g.base s2 sg2 sh2 false)::EntO s2 ds2::NumO sg2 (openedW a).segs::HeadO sh2 (openedW a).segs::pts p (wCells d limit (openedW a).g.base s sg false)::EntO s ds::SegO sg (openedW a).segs::Hs) w:=hw.arr
   refine ⟨_,_,rfl,(sameU_spec r' hlen hw).use ?_⟩
   clear hw
   rintro _ w ⟨rfl,hw⟩
   refine ⟨_,rfl,Br.ne (fun h=>absurd rfl h) (fun _=>Br.f rfl (Br.f rfl (Br.f rfl ?_)))⟩
   have hw:Sat R3 (WX p d x s sg ds (openD a limit) (UX u q x s2 sg2 sh2 ds2 b' Hs)) w:=by
    rw [hx];exact hw.arr
   have hents:=loadD_ents hby
   have hgl:x.g.l=(loadD a).g.l:=by rw [hxg];rfl
   refine (alikeU_spec ⟨by rw [hxg];exact g1,by rw [hxg];exact g2,by rw [hxg,←hel,List.length_map];omega⟩ (fun e he=>(hents e (by rw [←hgl];exact he)).1) hd2 (hd.ext e3) (by rw [hxg];exact hel2) (by rw [hxg];exact hel) hw).use ?_
   clear hw
   rintro _ w ⟨rfl,hw⟩
   exact ⟨_,rfl,fin ((e1.trans e2).trans e3) hw.drop.drop.drop.drop.drop.drop.drop.drop.drop⟩
end Go.Proofs.YtkfedbncmfnpnaaGreatDoor
/- The arguments that are lists of files. No condition. -/
namespace Go.Proofs.YtkfedbncmfnpnaaGreatDoor
set_option linter.unusedVariables false
set_option linter.unusedSimpArgs false
open Go Go.VC Go.ChangeShapes Go.WideShapes Go.ChangeAt Go.RowKit
variable {H:Type} {enc:TypeId × Value→H} {P:Program} {W:World} {r:Reach} {b0:Nat} {v:Value} {d:DataW H} {p:List MemPlace} {spare:Nat→Bool} {held:Bool}
abbrev feU:U:=.st [.str,.sl (.int .u8)]
theorem fe_form {R:Cx} {x:Tr} (ho:x.Ok R feU):∃ e:FE,x.cells=feV e∧FeQ R e:=by
 cases x<;>simp only [Tr.Ok] at ho
 rename_i xs
 match xs,ho with
 |[x0,x1],ho=>
  simp only [Tr.OkL,and_true] at ho
  obtain ⟨h0,h1⟩:=ho
  cases x0<;>simp only [Tr.Ok] at h0
  rename_i nm
  cases x1<;>simp only [Tr.Ok] at h1
  rename_i sd dx
  have h1:Tr.Ok R (.sl (.int .u8)) (.sl sd dx):=by unfold Tr.Ok;exact h1
  obtain ⟨bs,a1,a2,a3⟩:=ints_form h1
  refine ⟨(nm,sd,bs),rfl,h0,a2,⟨a1.len,sl_cap h1,a1.mem⟩,fun z hz=>?_⟩
  have:=a3 z hz
  simp [Lit.wf,IntKind.min,IntKind.max,IntKind.bits,IntKind.signed] at this
  omega
set_option maxRecDepth 100000 in
theorem files_in (hv:Value.okWide Tryz.prog W r b0 22 v) (h:DataW.Trod enc Tryz.prog W 0 (fun _=>true) true 22 v d p):
  ∃ (s:Sl) (es:List FE),v=.slice s.a s.len s.cap∧FsR (Cx.of W) s es:=by
 obtain ⟨a,n,c,rfl⟩:=okWide_slice Tryz.underlying22 hv
 obtain ⟨x,hx,ho⟩:=tr_arg (d:=8) (u:=.sl feU) (by kernel_rfl) h
 cases x<;>simp only [Tr.Ok] at ho
 rename_i s xs
 have ho:Tr.Ok (Cx.of W) (.sl feU) (.sl s xs):=by unfold Tr.Ok;exact ho
 obtain ⟨es,h1,_,h3⟩:=sl_form (fun z:FE=>feV z) (fun e=>FeQ (Cx.of W) e) ho fun x hx=>fe_form hx
 have e:[Value.slice s.a s.len s.cap]=[Value.slice a n c]:=by simpa [Tr.cells,Value.cells] using hx
 have e:=(List.cons.inj e).1
 simp only [Value.slice.injEq] at e
 obtain ⟨rfl,rfl,rfl⟩:=e
 exact ⟨s,es,rfl,h1,h3⟩
end Go.Proofs.YtkfedbncmfnpnaaGreatDoor
