/- The formulas of functions of this seat's translation, printed by a program of mine off the translation; each is proved equal to 'fnF' of the function's body, so it is enough for the call. No condition. -/
import Derived.Test.YthpmfnffkjjlnaaGreatB3
import Derived.Shelf.SlIterI.Nil
import Derived.Shelf.SlIterI.Collect
import Derived.Shelf.SlIterI.Sorted
import Derived.Shelf.SortM.Plain
import Derived.Shelf.SortM.SortNone
import Derived.Ground.GgzProg
import Derived.Ground.SlgmProg
import Derived.Test.YthpmfnffkjjlnaaGreatProg
import Derived.Test.YthpmfnffkjjlnaaGreatB2
import Derived.Laws.StructEq
import Derived.ChangeKeysEq
set_option linter.unusedVariables false
set_option linter.unusedSimpArgs false
namespace Go.Proofs.YthpmfnffkjjlnaaGreat
section
open Go Go.VC Tryz
set_option maxRecDepth 10000
def B31 (x:Int) (y:Int) (g:Sl) (i:Sl) (j:Sl) (K:Value->World->Prop) (w:World):Prop:=
 New (.cells #[.int .i64 x,.int .i64 y,.slice g.a g.len g.cap,.slice i.a i.len i.cap,.slice j.a j.len j.cap] 35 (0,0)) (λ e s=>
 ∃ q:Int,(At (λ b=>b=s) ⟨e,0,none⟩ [.int .i64 q])/\
 Calls prog 80 #[.int .i64 q,.int .i64 1099511627776] s λ t k=>
 ∃ r:Bool,(t=.returned (.bool r))/\
 Br r
 (∃ n:Int,(At (λ b=>b=k) ⟨e,0 + 1,none⟩ [.int .i64 n])/\
 Calls prog 80 #[.int .i64 n,.int .i64 1099511627776] k λ u l=>
 ∃ o:Bool,(u=.returned (.bool o))/\
 Br o
 (∃ c:Sl,∃ d:Sl,(At (λ b=>b=l) ⟨e,0 + 2,none⟩ [.slice c.a c.len c.cap,.slice d.a d.len d.cap])/\
 Calls prog 81 #[.agg #[.slice c.a c.len c.cap,.slice d.a d.len d.cap]] l λ v m=>
 ∃ p:Bool,(v=.returned (.bool p))/\
 Br p
 (∃ f:Sl,(At (λ b=>b=m) ⟨e,0 + 4,none⟩ [.slice f.a f.len f.cap])/\
 K (.bool (decide ((↑f.len:Int)<=60000))) m)
 (K (.bool false) m))
 (K (.bool false) l))
 (K (.bool false) k)) w
theorem Zqb (e:Int) (f:Int) (b:Sl) (c:Sl) (d:Sl) (K:Value->World->Prop) (w:World) (h:B31 e f b c d K w):Zj prog 31 #[.agg #[.int .i64 e,.int .i64 f,.slice b.a b.len b.cap,.slice c.a c.len c.cap,.slice d.a d.len d.cap]] w K:=cq (sk:=.leaf) func31 (by kernel_rfl) (by kernel_rfl) (by kernel_rfl) h
def B80 (a:Int) (b:Int) (K:Value->World->Prop) (w:World):Prop:=
 Br (decide (a >= 0))
 (K (.bool (decide (a<=b))) w)
 (K (.bool false) w)
theorem ZpF (b:Int) (a:Int) (K:Value->World->Prop) (w:World) (h:B80 b a K w):Zj prog 80 #[.int .i64 b,.int .i64 a] w K:=cq (sk:=.leaf) func80 (by kernel_rfl) (by kernel_rfl) (by kernel_rfl) h
def B35 (J:Int) (L:Int) (r:Sl) (s:Sl) (t:Sl) (K:Value->World->Prop) (w:World):Prop:=
 New (.cells #[.int .i64 J,.int .i64 L,.slice r.a r.len r.cap,.slice s.a s.len s.cap,.slice t.a t.len t.cap] 35 (0,0)) (λ b M=>
 New (.cells #[.int .i64 0,.int .i64 0,.slice none 0 0,.slice none 0 0,.slice none 0 0] 35 (0,0)) (λ y N=>
 Drw N λ q O=>
 ∃ j:Sl,(At q ⟨b,0 + 2,none⟩ [.slice j.a j.len j.cap])/\
 ∃ l:Sl,(At q ⟨b,0 + 2 + 1,none⟩ [.slice l.a l.len l.cap])/\
 Calls prog 88 #[.slice j.a j.len j.cap] O λ G E=>
 ∃ k:Sl,(G=.returned (.slice k.a k.len k.cap))/\
 (q E)/\
 Calls prog 88 #[.slice l.a l.len l.cap] E λ H F=>
 ∃ c:Sl,(H=.returned (.slice c.a c.len c.cap))/\
 (q F)/\
 ∃ u:World,((Instr.storeAt 32 (.pointer ((some ⟨b,0 + 2,none⟩))) (.agg #[.slice k.a k.len k.cap,.slice c.a c.len c.cap])).run prog F=.ok () u)/\
 ∃ d:Sl,(At (λ p=>p=u) ⟨b,0 + 4,none⟩ [.slice d.a d.len d.cap])/\
 Calls prog 48 #[.slice d.a d.len d.cap] u λ I Q=>
 ∃ e:Sl,(I=.returned (.slice e.a e.len e.cap))/\
 ∃ v:World,((Instr.storeAt 33 (.pointer ((some ⟨b,0 + 4,none⟩))) (.slice e.a e.len e.cap)).run prog Q=.ok () v)/\
 ∃ z:Int,∃ A:Int,∃ f:Sl,∃ g:Sl,∃ i:Sl,(At (λ p=>p=v) ⟨b,0,none⟩ [.int .i64 z,.int .i64 A,.slice f.a f.len f.cap,.slice g.a g.len g.cap,.slice i.a i.len i.cap])/\
 ∃ x:World,((Instr.storeAt 35 (.pointer ((some ⟨y,0,none⟩))) (.agg #[.int .i64 z,.int .i64 A,.slice f.a f.len f.cap,.slice g.a g.len g.cap,.slice i.a i.len i.cap])).run prog v=.ok () x)/\
 ∃ C:Int,∃ D:Int,∃ m:Sl,∃ n:Sl,∃ o:Sl,(At (λ p=>p=x) ⟨y,0,none⟩ [.int .i64 C,.int .i64 D,.slice m.a m.len m.cap,.slice n.a n.len n.cap,.slice o.a o.len o.cap])/\
 K (.agg #[.int .i64 C,.int .i64 D,.slice m.a m.len m.cap,.slice n.a n.len n.cap,.slice o.a o.len o.cap]) x) M) w
theorem Zp7 (e:Int) (f:Int) (b:Sl) (c:Sl) (d:Sl) (K:Value->World->Prop) (w:World) (h:B35 e f b c d K w):Zj prog 35 #[.agg #[.int .i64 e,.int .i64 f,.slice b.a b.len b.cap,.slice c.a c.len c.cap,.slice d.a d.len d.cap]] w K:=cq (sk:=.leaf) func35 (by kernel_rfl) (by kernel_rfl) (by kernel_rfl) h
def B158 (G:Sl) (H:Sl) (al:Int) (am:Int) (an:Int) (N:Sl) (K:Value->World->Prop) (w:World):Prop:=
 New (.cells #[.slice G.a G.len G.cap,.slice H.a H.len H.cap] 32 (0,0)) (λ D ae=>
 New (.cells #[.int .i64 al,.int .i64 am,.int .i64 an,.slice N.a N.len N.cap] 52 (0,0)) (λ Q ah=>
 New (.cells #[.slice none 0 0,.slice none 0 0] 32 (0,0)) (λ c C=>
 ∃ T:Int,(At (λ b=>b=C) ⟨Q,0 + 2,none⟩ [.int .i64 T])/\
 Br (T !=2)
 (∃ d:Sl,∃ e:Sl,(At (λ b=>b=C) ⟨D,0,none⟩ [.slice d.a d.len d.cap,.slice e.a e.len e.cap])/\
 ∃ L:World,((Instr.storeAt 32 (.pointer ((some ⟨c,0,none⟩))) (.agg #[.slice d.a d.len d.cap,.slice e.a e.len e.cap])).run prog C=.ok () L)/\
 ∃ r:Sl,∃ s:Sl,(At (λ b=>b=L) ⟨c,0,none⟩ [.slice r.a r.len r.cap,.slice s.a s.len s.cap])/\
 K (.agg #[.slice r.a r.len r.cap,.slice s.a s.len s.cap]) L)
 (∃ f:Sl,(At (λ b=>b=C) ⟨Q,0 + 3,none⟩ [.slice f.a f.len f.cap])/\
 Calls prog 211 #[.slice f.a f.len f.cap] C λ Z ai=>
 ∃ E:Option Addr,(Z=.returned (.pointer E))/\
 Calls prog 212 #[.pointer E,.int .u64 1099511627776] ai λ aa aj=>
 ∃ U:Int,(aa=.returned (.int .u64 U))/\
 Calls prog 212 #[.pointer E,.int .u64 1099511627776] aj λ ab ak=>
 ∃ V:Int,(ab=.returned (.int .u64 V))/\
 Calls prog 213 #[.pointer E] ak λ ac F=>
 ∃ X:Bool,(ac=.returned (.bool X))/\
 Br (!X)
 (∃ g:Sl,∃ i:Sl,(At (λ b=>b=F) ⟨D,0,none⟩ [.slice g.a g.len g.cap,.slice i.a i.len i.cap])/\
 ∃ M:World,((Instr.storeAt 32 (.pointer ((some ⟨c,0,none⟩))) (.agg #[.slice g.a g.len g.cap,.slice i.a i.len i.cap])).run prog F=.ok () M)/\
 ∃ t:Sl,∃ u:Sl,(At (λ b=>b=M) ⟨c,0,none⟩ [.slice t.a t.len t.cap,.slice u.a u.len u.cap])/\
 K (.agg #[.slice t.a t.len t.cap,.slice u.a u.len u.cap]) M)
 (∃ j:Sl,∃ k:Sl,(At (λ b=>b=F) ⟨D,0,none⟩ [.slice j.a j.len j.cap,.slice k.a k.len k.cap])/\
 Calls prog 54 #[.agg #[.slice j.a j.len j.cap,.slice k.a k.len k.cap],.int .i64 (IntKind.i64.wrap U),.int .i64 (IntKind.i64.wrap V)] F λ ad af=>
 ∃ l:Sl,∃ m:Sl,∃ Y:Int,(ad=.returned (.tuple #[.agg #[.slice l.a l.len l.cap,.slice m.a m.len m.cap],.int .i64 Y]))/\
 New (.cells #[.slice none 0 0,.slice none 0 0] 32 (0,0)) (λ O ag=>
 ∃ A:World,((Instr.storeAt 32 (.pointer ((some ⟨O,0,none⟩))) (.agg #[.slice l.a l.len l.cap,.slice m.a m.len m.cap])).run prog ag=.ok () A)/\
 Br (Y==0)
 (∃ n:Sl,∃ o:Sl,(At (λ b=>b=A) ⟨O,0,none⟩ [.slice n.a n.len n.cap,.slice o.a o.len o.cap])/\
 ∃ I:World,((Instr.storeAt 32 (.pointer ((some ⟨c,0,none⟩))) (.agg #[.slice n.a n.len n.cap,.slice o.a o.len o.cap])).run prog A=.ok () I)/\
 ∃ v:Sl,∃ x:Sl,(At (λ b=>b=I) ⟨c,0,none⟩ [.slice v.a v.len v.cap,.slice x.a x.len x.cap])/\
 K (.agg #[.slice v.a v.len v.cap,.slice x.a x.len x.cap]) I)
 (∃ p:Sl,∃ q:Sl,(At (λ b=>b=A) ⟨D,0,none⟩ [.slice p.a p.len p.cap,.slice q.a q.len q.cap])/\
 ∃ J:World,((Instr.storeAt 32 (.pointer ((some ⟨c,0,none⟩))) (.agg #[.slice p.a p.len p.cap,.slice q.a q.len q.cap])).run prog A=.ok () J)/\
 ∃ y:Sl,∃ z:Sl,(At (λ b=>b=J) ⟨c,0,none⟩ [.slice y.a y.len y.cap,.slice z.a z.len z.cap])/\
 K (.agg #[.slice y.a y.len y.cap,.slice z.a z.len z.cap]) J)) af))) ah) ae) w
theorem Zok (b:Sl) (c:Sl) (e:Int) (f:Int) (g:Int) (d:Sl) (K:Value->World->Prop) (w:World) (h:B158 b c e f g d K w):Zj prog 158 #[.agg #[.slice b.a b.len b.cap,.slice c.a c.len c.cap],.agg #[.int .i64 e,.int .i64 f,.int .i64 g,.slice d.a d.len d.cap]] w K:=cq (sk:=.leaf) func158 (by kernel_rfl) (by kernel_rfl) (by kernel_rfl) h
def B89 (t:Option Addr) (an:Int) (K:Value->World->Prop) (w:World):Prop:=
 New (.cells #[.slice none 0 0,.slice none 0 0] 32 (0,0)) (λ J ac=>
 Zb t λ I=>
 ∃ f:Sl,∃ g:Sl,(At (λ b=>b=ac) ⟨I.block,I.off + 4 + 2,none⟩ [.slice f.a f.len f.cap,.slice g.a g.len g.cap])/\
 New (.cells #[.slice none 0 0,.slice none 0 0] 32 (0,0)) (λ x ap=>
 ∃ ae:World,((Instr.storeAt 32 (.pointer ((some ⟨x,0,none⟩))) (.agg #[.slice f.a f.len f.cap,.slice g.a g.len g.cap])).run prog ap=.ok () ae)/\
 Drw ae λ e aq=>
 Zb t λ E=>
 ∃ L:Option Addr,(At e ⟨E.block,E.off + 3,none⟩ [.pointer L])/\
 Zb t λ F=>
 ∃ M:Option Addr,(At e ⟨F.block,F.off + 3,none⟩ [.pointer M])/\
 Zb t λ G=>
 ∃ O:Option Addr,(At e ⟨G.block,G.off + 3,none⟩ [.pointer O])/\
 Calls prog 157 #[.pointer M] aq λ aj af=>
 ∃ N:Int,(aj=.returned (.int .i64 N))/\
 (e af)/\
 Calls prog 157 #[.pointer O] af λ ak ag=>
 ∃ Q:Int,(ak=.returned (.int .i64 Q))/\
 (e ag)/\
 Calls prog 53 #[.pointer L,.int .i64 N,.int .i64 (IntKind.i64.wrap (IntKind.i64.wrap (an + 1) - Q))] ag λ al ah=>
 ∃ i:Sl,(al=.returned (.slice i.a i.len i.cap))/\
 (e ah)/\
 ∃ (v:Int->World->Prop) (y:Int->World->Nat),(v 0 ah)/\∀ (au:Env) (c:Int) (d:World),v c d->
 Br (decide (c<(↑i.len:Int)))
 (Rng c i.len (Zb i.a λ ai=>
 ∃ T:Int,∃ U:Int,∃ V:Int,∃ j:Sl,(At (λ b=>b=d) (Addr.add ai (Zaf c.toNat 4)) [.int .i64 T,.int .i64 U,.int .i64 V,.slice j.a j.len j.cap])/\
 New (.cells #[.int .i64 0,.int .i64 0,.int .i64 0,.slice none 0 0] 52 (0,0)) (λ z ar=>
 ∃ ad:World,((Instr.storeAt 52 (.pointer ((some ⟨z,0,none⟩))) (.agg #[.int .i64 T,.int .i64 U,.int .i64 V,.slice j.a j.len j.cap])).run prog ar=.ok () ad)/\
 Drw ad λ D u=>
 ∃ X:Int,(At D ⟨z,0,none⟩ [.int .i64 X])/\
 Zb t λ H=>
 ∃ Y:Int,(At D ⟨H.block,H.off + 4,none⟩ [.int .i64 Y])/\
 Br (decide (X>Y))
 (∃ k:Sl,∃ l:Sl,(At (λ b=>b=u) ⟨x,0,none⟩ [.slice k.a k.len k.cap,.slice l.a l.len l.cap])/\
 ∃ Z:Int,∃ aa:Int,∃ ab:Int,∃ m:Sl,(At (λ b=>b=u) ⟨z,0,none⟩ [.int .i64 Z,.int .i64 aa,.int .i64 ab,.slice m.a m.len m.cap])/\
 Calls prog 158 #[.agg #[.slice k.a k.len k.cap,.slice l.a l.len l.cap],.agg #[.int .i64 Z,.int .i64 aa,.int .i64 ab,.slice m.a m.len m.cap]] u λ am ao=>
 ∃ n:Sl,∃ o:Sl,(am=.returned (.agg #[.slice n.a n.len n.cap,.slice o.a o.len o.cap]))/\
 ∃ A:World,((Instr.storeAt 32 (.pointer ((some ⟨x,0,none⟩))) (.agg #[.slice n.a n.len n.cap,.slice o.a o.len o.cap])).run prog ao=.ok () A)/\
 (v (IntKind.i64.wrap (c + 1)) A)/\y (IntKind.i64.wrap (c + 1)) A<y c d)
 ((v (IntKind.i64.wrap (c + 1)) u)/\y (IntKind.i64.wrap (c + 1)) u<y c d)) d))
 (∃ p:Sl,∃ q:Sl,(At (λ b=>b=d) ⟨x,0,none⟩ [.slice p.a p.len p.cap,.slice q.a q.len q.cap])/\
 ∃ C:World,((Instr.storeAt 32 (.pointer ((some ⟨J,0,none⟩))) (.agg #[.slice p.a p.len p.cap,.slice q.a q.len q.cap])).run prog d=.ok () C)/\
 ∃ r:Sl,∃ s:Sl,(At (λ b=>b=C) ⟨J,0,none⟩ [.slice r.a r.len r.cap,.slice s.a s.len s.cap])/\
 K (.agg #[.slice r.a r.len r.cap,.slice s.a s.len s.cap]) C)) ac) w
def sk89:Sk:=(.seq .leaf (.seq .leaf (.seq (.seq .leaf (.block (.loop [32] [(.int .i64)] [7,32,33,34,35,36,37,38,39,40,41,42,43,44,45,46,47] .leaf))) .leaf)))
theorem Zpw (b:Option Addr) (a:Int) (K:Value->World->Prop) (w:World) (h:B89 b a K w):Zj prog 89 #[.pointer b,.int .i64 a] w K:=cq (sk:=sk89) func89 (by kernel_rfl) (by kernel_rfl) (by kernel_rfl) h
def B36 (c:Option Addr) (K:Value->World->Prop) (w:World):Prop:=
 Zb c λ D=>
 ∃ O:Option Addr,(At (λ b=>b=w) ⟨D.block,D.off + 3,none⟩ [.pointer O])/\
 Calls prog 39 #[.pointer O] w λ aq a0=>
 ∃ Q:Int,(aq=.returned (.int .i64 Q))/\
 Calls prog 89 #[.pointer c,.int .i64 Q] a0 λ ar a3=>
 ∃ g:Sl,∃ i:Sl,(ar=.returned (.agg #[.slice g.a g.len g.cap,.slice i.a i.len i.cap]))/\
 Zb c λ E=>
 ∃ ah:World,((Instr.storeAt 32 (.pointer ((some ⟨E.block,E.off + 9,none⟩))) (.agg #[.slice g.a g.len g.cap,.slice i.a i.len i.cap])).run prog a3=.ok () ah)/\
 Drw ah λ z a4=>
 Zb c λ am=>
 ∃ T:Option Addr,(At z (Addr.add am 0) [.pointer T])/\
 Zb c λ F=>
 ∃ j:Sl,∃ k:Sl,(At z ⟨F.block,F.off + 9,none⟩ [.slice j.a j.len j.cap,.slice k.a k.len k.cap])/\
 Calls prog 90 #[.pointer T,.agg #[.slice j.a j.len j.cap,.slice k.a k.len k.cap]] a4 λ au ai=>
 ∃ ay:Int,(au=.returned (.int .i64 ay))/\
 Zb c λ an=>
 ∃ U:Option Addr,(At (λ b=>b=ai) (Addr.add an 0) [.pointer U])/\
 Calls prog 16 #[.pointer U] ai λ av aj=>
 ∃ V:Int,(av=.returned (.int .i64 V))/\
 Br (V !=3)
 (Zb c λ G=>
 ∃ ak:World,((Instr.storeAt 55 (.pointer ((some ⟨G.block,G.off + 11,none⟩))) (.map none)).run prog aj=.ok () ak)/\
 K (.tuple #[]) ak)
 (New (.map #[] 0) (λ u a5=>
 Drw a5 λ A a6=>
 Zb c λ H=>
 ∃ l:Sl,(At A ⟨H.block,H.off + 9,none⟩ [.slice l.a l.len l.cap])/\
 Zb c λ I=>
 ∃ m:Sl,(At A ⟨I.block,I.off + 9 + 1,none⟩ [.slice m.a m.len m.cap])/\
 New (.cells #[.slice l.a l.len l.cap,.slice m.a m.len m.cap] 30 (0,0)) (λ ap a1=>
 ∃ (t:Int->World->Prop) (al:Int->World->Nat),(t 0 a1)/\∀ (a7:Env) (f:Int) (r:World),t f r->
 Br (decide (f<(↑2:Int)))
 (Rng f 2 (∃ n:Sl,(At (λ b=>b=r) (Addr.add ⟨ap,0,none⟩ f.toNat) [.slice n.a n.len n.cap])/\
 ∃ (p:Int->World->Prop) (o:Int->World->Nat),(p 0 r)/\∀ (a8:Env) (e:Int) (d:World),p e d->
 Br (decide (e<(↑n.len:Int)))
 (Rng e n.len (Zb n.a λ ao=>
 ∃ q:Int,(At (λ b=>b=d) (Addr.add ao e.toNat) [.int .i64 q])/\
 Zb c λ J=>
 ∃ X:Option Nat,(At (λ b=>b=d) ⟨J.block,J.off + 11,none⟩ [.map X])/\
 ∃ Y:Option Addr,∃ Z:Bool,(∀ b,(λ b=>b=d) b->((Instr.lookup 55 (.map X) (.int .i64 q) true)).run prog b=.ok (.tuple #[.pointer Y,.bool Z]) b)/\
 Zb c λ L=>
 ∃ aa:Int,(At (λ b=>b=d) ⟨L.block,L.off + 1,none⟩ [.int .i64 aa])/\
 Br (q==aa)
 ((p (IntKind.i64.wrap (e + 1)) d)/\o (IntKind.i64.wrap (e + 1)) d<o e d)
 (Br (!Z)
 (Drw d λ s a2=>
 Zb c λ M=>
 ∃ ab:Option Addr,(At s ⟨M.block,M.off + 3,none⟩ [.pointer ab])/\
 Zb c λ N=>
 ∃ ac:Int,(At s ⟨N.block,N.off + 2,none⟩ [.int .i64 ac])/\
 Calls prog 39 #[.pointer ab] a2 λ aw ae=>
 ∃ v:Int,(aw=.returned (.int .i64 v))/\
 (s ae)/\
 Calls prog 91 #[.int .i64 (if 1099511627776<IntKind.i64.wrap (v + 1) then 1099511627776 else IntKind.i64.wrap (v + 1)),.int .i64 ac] ae λ ax af=>
 ∃ ad:Option Addr,∃ az:Int,(ax=.returned (.tuple #[.pointer ad,.int .i64 az]))/\
 (s af)/\
 ∃ x:World,((Instr.mapUpdate 55 (.map ((some u))) (.int .i64 q) (.pointer ad)).run prog af=.ok () x)/\
 (p (IntKind.i64.wrap (e + 1)) x)/\o (IntKind.i64.wrap (e + 1)) x<o e d)
 (∃ y:World,((Instr.mapUpdate 55 (.map ((some u))) (.int .i64 q) (.pointer Y)).run prog d=.ok () y)/\
 (p (IntKind.i64.wrap (e + 1)) y)/\o (IntKind.i64.wrap (e + 1)) y<o e d))))
 ((t (IntKind.i64.wrap (f + 1)) d)/\al (IntKind.i64.wrap (f + 1)) d<al f r)))
 (Zb c λ C=>
 ∃ ag:World,((Instr.storeAt 55 (.pointer ((some ⟨C.block,C.off + 11,none⟩))) (.map ((some u)))).run prog r=.ok () ag)/\
 K (.tuple #[]) ag)) a6) aj)
def sk36:Sk:=(.seq .leaf (.seq .leaf (.seq .leaf (.seq .leaf (.seq (.seq .leaf (.block (.loop [50] [(.int .i64)] [4,6,7,8,50,51,52,53,54,55,56,57,58,59,60,61,62,63,64,65,66,67,68,69,70,71,72,73,74,75,76,77,78,79,80,81,82,83,84,85,86,87,88,89,90,91,92,93,94,95,96,97,98] (.seq .leaf (.seq .leaf (.seq (.block (.seq .leaf (.seq .leaf (.block (.loop [56] [(.int .i64)] [6,7,8,56,57,58,59,60,61,62,63,64,65,66,67,68,69,70,71,72,73,74,75,76,77,78,79,80,81,82,83,84,85,86,87,88,89,90,91,92,93,94,95,96,97] .leaf))))) .leaf)))))) .leaf)))))
theorem Zp6 (a:Option Addr) (K:Value->World->Prop) (w:World) (h:B36 a K w):Zj prog 36 #[.pointer a] w K:=cq (sk:=sk36) func36 (by kernel_rfl) (by kernel_rfl) (by kernel_rfl) h
def B40 (d:Option Addr) (K:Value->World->Prop) (w:World):Prop:=
 Drw w λ a o=>
 Zb d λ c=>
 ∃ i:Option Addr,(At a ⟨c.block,c.off + 3,none⟩ [.pointer i])/\
 Zb d λ b=>
 ∃ e:Option Addr,(At a ⟨b.block,b.off + 3,none⟩ [.pointer e])/\
 Calls prog 39 #[.pointer e] o λ l j=>
 ∃ f:Int,(l=.returned (.int .i64 f))/\
 (a j)/\
 Calls prog 100 #[.pointer i,.int .i64 f] j λ m k=>
 ∃ g:Int,∃ n:Bool,(m=.returned (.tuple #[.int .i64 g,.bool n]))/\
 (a k)/\
 K (.int .i64 g) k
theorem ZmY (a:Option Addr) (K:Value->World->Prop) (w:World) (h:B40 a K w):Zj prog 40 #[.pointer a] w K:=cq (sk:=.leaf) func40 (by kernel_rfl) (by kernel_rfl) (by kernel_rfl) h
def B37 (b:Option Addr) (aj:Bool) (k:Sl) (K:Value->World->Prop) (w:World):Prop:=
 ∃ (j:Int->World->Prop) (aa:Int->World->Nat),(j 0 w)/\∀ (au:Env) (e:Int) (i:World),j e i->
 Br (decide (e<(↑k.len:Int)))
 (Rng e k.len (Zb k.a λ ab=>
 ∃ x:Int,∃ y:Int,∃ z:Int,∃ A:Int,∃ C:Int,∃ D:Int,∃ E:Bool,(At (λ l=>l=i) (Addr.add ab (Zaf e.toNat 7)) [.int .i64 x,.int .i64 y,.int .i64 z,.int .i64 A,.int .i64 C,.int .i64 D,.bool E])/\
 New (.cells #[.int .i64 0,.int .i64 0,.int .i64 0,.int .i64 0,.int .i64 0,.int .i64 0,.bool false] 161 (0,0)) (λ d aq=>
 ∃ X:World,((Instr.storeAt 161 (.pointer ((some ⟨d,0,none⟩))) (.agg #[.int .i64 x,.int .i64 y,.int .i64 z,.int .i64 A,.int .i64 C,.int .i64 D,.bool E])).run prog aq=.ok () X)/\
 Drw X λ c ar=>
 Zb b λ p=>
 ∃ f:Sl,(At c ⟨p.block,p.off + 16 + 10,none⟩ [.slice f.a f.len f.cap])/\
 ∃ F:Int,(At c ⟨d,0,none⟩ [.int .i64 F])/\
 ∃ G:Int,(At c ⟨d,0 + 1,none⟩ [.int .i64 G])/\
 ∃ H:Int,(At c ⟨d,0 + 2,none⟩ [.int .i64 H])/\
 ∃ I:Int,(At c ⟨d,0 + 3,none⟩ [.int .i64 I])/\
 ∃ J:Int,(At c ⟨d,0 + 4,none⟩ [.int .i64 J])/\
 ∃ L:Int,(At c ⟨d,0 + 5,none⟩ [.int .i64 L])/\
 ∃ M:Bool,(At c ⟨d,0 + 6,none⟩ [.bool M])/\
 New (.cells #[.int .i64 F,.int .i64 G,.int .i64 H,.int .i64 I,.int .i64 J,.int .i64 L,.bool M,.int .i64 0,.int .i64 0,.int .i64 0,.slice none 0 0,.int .i64 0,.int .i64 0,.slice none 0 0,.slice none 0 0,.slice none 0 0] 71 (0,0)) (λ ad Y=>
 (c Y)/\
 ∃ m:World,∃ g:Sl,((Builtin.append_ #[41,41] 41 #[.slice f.a f.len f.cap,.slice ((some ⟨ad,0,none⟩)) 1 1]).run prog Y=.ok (.slice g.a g.len g.cap) m)/\
 (c m)/\
 Zb b λ q=>
 ∃ n:World,((Instr.storeAt 41 (.pointer ((some ⟨q.block,q.off + 16 + 10,none⟩))) (.slice g.a g.len g.cap)).run prog m=.ok () n)/\
 (j (IntKind.i64.wrap (e + 1)) n)/\aa (IntKind.i64.wrap (e + 1)) n<aa e i) ar) i))
 (Zb b λ ac=>
 ∃ N:Option Addr,(At (λ l=>l=i) (Addr.add ac 0) [.pointer N])/\
 Calls prog 16 #[.pointer N] i λ ae o=>
 ∃ O:Int,(ae=.returned (.int .i64 O))/\
 Br (!O==3)
 (Zb b λ r=>
 ∃ Z:World,((Instr.storeAt 55 (.pointer ((some ⟨r.block,r.off + 11,none⟩))) (.map none)).run prog o=.ok () Z)/\
 Zb b λ s=>
 ∃ Q:World,((Instr.storeAt 56 (.pointer ((some ⟨s.block,s.off + 12,none⟩))) (.slice none 0 0)).run prog Z=.ok () Q)/\
 K (.tuple #[]) Q)
 (Br (!aj)
 (Zb b λ t=>
 ∃ T:World,((Instr.storeAt 55 (.pointer ((some ⟨t.block,t.off + 11,none⟩))) (.map none)).run prog o=.ok () T)/\
 Zb b λ u=>
 ∃ U:World,((Instr.storeAt 56 (.pointer ((some ⟨u.block,u.off + 12,none⟩))) (.slice none 0 0)).run prog T=.ok () U)/\
 Zb b λ v=>
 ∃ V:World,((Instr.storeAt 3 (.pointer ((some ⟨v.block,v.off + 13,none⟩))) (.int .i64 0)).run prog U=.ok () V)/\
 Calls prog 36 #[.pointer b] V λ af am=>
 (af=.returned (.tuple #[]))/\
 Calls prog 92 #[.pointer b,.int .i64 0,.slice none 0 0] am λ ag an=>
 ∃ ak:Int,∃ al:Int,(ag=.returned (.tuple #[.int .i64 ak,.int .i64 al]))/\
 Calls prog 93 #[.pointer b] an λ ah ao=>
 (ah=.returned (.tuple #[]))/\
 Calls prog 94 #[.pointer b] ao λ ai ap=>
 (ai=.returned (.tuple #[]))/\
 K (.tuple #[]) ap)
 (K (.tuple #[]) o)))
def sk37:Sk:=(.seq (.seq .leaf (.block (.loop [11] [(.int .i64)] [7,11,12,13,14,15,16,17,18,19,20,21,22,23,24,25,26,27,28,29,30,31,32,33,34,35,36,37,38,39,40,41] .leaf))) .leaf)
theorem Zp5 (d:Option Addr) (c:Bool) (b:Sl) (K:Value->World->Prop) (w:World) (h:B37 d c b K w):Zj prog 37 #[.pointer d,.bool c,.slice b.a b.len b.cap] w K:=cq (sk:=sk37) func37 (by kernel_rfl) (by kernel_rfl) (by kernel_rfl) h
def B92 (c:Option Addr) (x:Int) (e:Sl) (K:Value->World->Prop) (w:World):Prop:=
 Zb c λ i=>
 ∃ k:Option Addr,(At (λ z=>z=w) ⟨i.block,i.off + 3,none⟩ [.pointer k])/\
 Calls prog 39 #[.pointer k] w λ s A=>
 ∃ d:Int,(s=.returned (.int .i64 d))/\
 Drw A λ b C=>
 Zb c λ j=>
 ∃ l:Option Addr,(At b ⟨j.block,j.off + 3,none⟩ [.pointer l])/\
 Zb c λ q=>
 ∃ m:Option Addr,(At b (Addr.add q 0) [.pointer m])/\
 Calls prog 23 #[.pointer m] C λ t o=>
 ∃ n:Int,∃ y:Int,(t=.returned (.agg #[.int .i64 n,.int .i64 y]))/\
 (b o)/\
 New (.cells #[.int .i64 (IntKind.i64.wrap (d + 1)),.int .i64 n,.int .i64 x,.slice e.a e.len e.cap] 52 (0,0)) (λ r p=>
 (b p)/\
 Calls prog 34 #[.pointer l,.slice ((some ⟨r,0,none⟩)) 1 1] p λ u g=>
 ∃ f:Int,(u=.returned (.int .i64 f))/\
 (b g)/\
 Br (f !=0)
 (K (.tuple #[.int .i64 0,.int .i64 f]) g)
 (Calls prog 159 #[.pointer c,.int .i64 (IntKind.i64.wrap (d + 1))] g λ v D=>
 (v=.returned (.tuple #[]))/\
 K (.tuple #[.int .i64 (IntKind.i64.wrap (d + 1)),.int .i64 0]) D)) o
theorem Zpt (d:Option Addr) (c:Int) (b:Sl) (K:Value->World->Prop) (w:World) (h:B92 d c b K w):Zj prog 92 #[.pointer d,.int .i64 c,.slice b.a b.len b.cap] w K:=cq (sk:=.leaf) func92 (by kernel_rfl) (by kernel_rfl) (by kernel_rfl) h
def B159 (a:Option Addr) (b:Int) (K:Value->World->Prop) (w:World):Prop:=
 Zb a λ g=>
 ∃ j:Int,(At (λ c=>c=w) ⟨g.block,g.off + 16 + 9,none⟩ [.int .i64 j])/\
 Br (j==0)
 (Zb a λ e=>
 ∃ k:World,((Instr.storeAt 3 (.pointer ((some ⟨e.block,e.off + 16 + 9,none⟩))) (.int .i64 b)).run prog w=.ok () k)/\
 Calls prog 36 #[.pointer a] k λ m p=>
 (m=.returned (.tuple #[]))/\
 K (.tuple #[]) p)
 (Zb a λ d=>
 ∃ i:Int,(At (λ c=>c=w) ⟨d.block,d.off + 16 + 9,none⟩ [.int .i64 i])/\
 Br (decide (b<i))
 (Zb a λ f=>
 ∃ l:World,((Instr.storeAt 3 (.pointer ((some ⟨f.block,f.off + 16 + 9,none⟩))) (.int .i64 b)).run prog w=.ok () l)/\
 Calls prog 36 #[.pointer a] l λ n q=>
 (n=.returned (.tuple #[]))/\
 K (.tuple #[]) q)
 (Calls prog 36 #[.pointer a] w λ o r=>
 (o=.returned (.tuple #[]))/\
 K (.tuple #[]) r))
theorem Zoj (b:Option Addr) (a:Int) (K:Value->World->Prop) (w:World) (h:B159 b a K w):Zj prog 159 #[.pointer b,.int .i64 a] w K:=cq (sk:=.leaf) func159 (by kernel_rfl) (by kernel_rfl) (by kernel_rfl) h
def B93 (c:Option Addr) (K:Value->World->Prop) (w:World):Prop:=
 New (.cells #[.int .i64 0,.int .i64 0,.int .i64 0,.int .i64 0,.int .i64 0,.int .i64 0,.int .i64 0,.int .i64 0,.int .i64 0,.int .i64 0,.int .i64 0,.int .i64 0,.int .i64 0,.int .i64 0,.int .i64 0,.int .i64 0] 194 (0,0)) (λ m ao=>
 Drw ao λ l au=>
 Zb c λ E=>
 ∃ n:Int,(At l ⟨E.block,E.off + 1,none⟩ [.int .i64 n])/\
 Zb c λ x=>
 ∃ F:Option Addr,(At l ⟨x.block,x.off + 3,none⟩ [.pointer F])/\
 Calls prog 39 #[.pointer F] au λ ac X=>
 ∃ G:Int,(ac=.returned (.int .i64 G))/\
 (l X)/\
 Rng n 16 (∃ u:World,((Instr.storeAt 3 (.pointer ((some (Addr.add ⟨m,0,none⟩ n.toNat)))) (.int .i64 G)).run prog X=.ok () u)/\
 Zb c λ y=>
 ∃ H:Option Nat,(At (λ b=>b=u) ⟨y.block,y.off + 11,none⟩ [.map H])/\
 ∃ Y:World,∃ g:Option Addr,((Instr.range 55 (.map H)).run prog u=.ok (.pointer g) Y)/\
 ∃ (k:World->Prop) (aa:World->Nat),(k  Y)/\∀ (aw:Env)  (j:World),k  j->
 ∃ f:World,(((Instr.next (.pointer g) false 0).run prog j=.ok (.tuple #[.bool false]) f)/\
 Drw f λ v av=>
 Zb c λ z=>
 ∃ d:Sl,∃ e:Sl,(At v ⟨z.block,z.off + 9,none⟩ [.slice d.a d.len d.cap,.slice e.a e.len e.cap])/\
 ∃ p:List Value,(p.length=16)/\
 (At v ⟨m,0,none⟩ p)/\
 Calls prog 160 #[.agg #[.slice d.a d.len d.cap,.slice e.a e.len e.cap],.agg p.toArray] av λ ad Z=>
 ∃ i:Int,(ad=.returned (.int .i64 i))/\
 Zb c λ A=>
 ∃ L:Option Addr,(At (λ b=>b=Z) ⟨A.block,A.off + 3,none⟩ [.pointer L])/\
 Calls prog 100 #[.pointer L,.int .i64 i] Z λ ae q=>
 ∃ M:Int,∃ N:Bool,(ae=.returned (.tuple #[.int .i64 M,.bool N]))/\
 Br (!N)
 (K (.tuple #[]) q)
 (Zb c λ ab=>
 ∃ O:Option Addr,(At (λ b=>b=q) (Addr.add ab 0) [.pointer O])/\
 Calls prog 23 #[.pointer O] q λ af r=>
 ∃ Q:Int,∃ ak:Int,(af=.returned (.agg #[.int .i64 Q,.int .i64 ak]))/\
 Br (M !=Q)
 (K (.tuple #[]) r)
 (Zb c λ C=>
 ∃ T:Option Addr,(At (λ b=>b=r) ⟨C.block,C.off + 3,none⟩ [.pointer T])/\
 Calls prog 50 #[.pointer T] r λ ag s=>
 ∃ U:Int,(ag=.returned (.int .i64 U))/\
 Br (decide (i<=U))
 (K (.tuple #[]) s)
 (Zb c λ D=>
 ∃ V:Option Addr,(At (λ b=>b=s) ⟨D.block,D.off + 3,none⟩ [.pointer V])/\
 Calls prog 161 #[.pointer V,.int .i64 i] s λ ah ap=>
 ∃ al:Int,(ah=.returned (.int .i64 al))/\
 Calls prog 52 #[.pointer c] ap λ ai aq=>
 (ai=.returned (.tuple #[]))/\
 K (.tuple #[]) aq))))\/
 (∃ am:Value,∃ an:Value,((Instr.next (.pointer g) false 0).run prog j=.ok (.tuple #[.bool true,am,an]) f)/\
 ∃ o:Int,∃ I:Option Addr,(∀ b,(λ b=>b=f) b->((Instr.entry (.pointer g))).run prog b=.ok (.tuple #[.int .i64 o,.pointer I]) b)/\
 Calls prog 106 #[.pointer I] f λ aj ar=>
 ∃ J:Int,(aj=.returned (.int .i64 J))/\
 Rng o 16 (∃ t:World,((Instr.storeAt 3 (.pointer ((some (Addr.add ⟨m,0,none⟩ o.toNat)))) (.int .i64 J)).run prog ar=.ok () t)/\
 (k  t)/\aa  t<aa  j)))) w
def sk93:Sk:=(.seq .leaf (.seq .leaf (.seq (.seq .leaf (.block (.loop [] [] [3,4,23,24,25,26,27,28,29,30,31] .leaf))) .leaf)))
theorem Zps (a:Option Addr) (K:Value->World->Prop) (w:World) (h:B93 a K w):Zj prog 93 #[.pointer a] w K:=cq (sk:=sk93) func93 (by kernel_rfl) (by kernel_rfl) (by kernel_rfl) h
def B52 (f:Option Addr) (K:Value->World->Prop) (w:World):Prop:=
 Calls prog 41 #[.pointer f] w λ l o=>
 ∃ c:Sl,(l=.returned (.slice c.a c.len c.cap))/\
 ∃ (e:Int->World->Prop) (j:Int->World->Nat),(e 0 o)/\∀ (p:Env) (b:Int) (d:World),e b d->
 Br (decide (b<(↑c.len:Int)))
 (Rng b c.len (Zb c.a λ k=>
 ∃ g:Int,(At (λ n=>n=d) (Addr.add k b.toNat) [.int .i64 g])/\
 Calls prog 45 #[.pointer f,.int .i64 g] d λ m i=>
 (m=.returned (.tuple #[]))/\
 (e (IntKind.i64.wrap (b + 1)) i)/\j (IntKind.i64.wrap (b + 1)) i<j b d))
 (K (.tuple #[]) d)
def sk52:Sk:=(.seq .leaf (.block (.loop [7] [(.int .i64)] [3,7,8,9,10,11,12,13,14] .leaf)))
theorem ZpR (a:Option Addr) (K:Value->World->Prop) (w:World) (h:B52 a K w):Zj prog 52 #[.pointer a] w K:=cq (sk:=sk52) func52 (by kernel_rfl) (by kernel_rfl) (by kernel_rfl) h
def B45 (c:Option Addr) (k:Int) (K:Value->World->Prop) (w:World):Prop:=
 Drw w λ b f=>
 Zb c λ j=>
 ∃ o:Option Nat,(At (λ a=>a=f) ⟨j.block,j.off + 11,none⟩ [.map o])/\
 ∃ l:Option Addr,(∀ a,(λ a=>a=f) a->((Instr.lookup 55 (.map o) (.int .i64 k) false)).run prog a=.ok (.pointer l) a)/\
 Zb c λ g=>
 ∃ m:Option Addr,(At b ⟨g.block,g.off + 3,none⟩ [.pointer m])/\
 Zb c λ i=>
 ∃ n:Int,(At b ⟨i.block,i.off + 13,none⟩ [.int .i64 n])/\
 Calls prog 106 #[.pointer l] f λ r p=>
 ∃ d:Int,(r=.returned (.int .i64 d))/\
 (b p)/\
 Calls prog 50 #[.pointer m] p λ s q=>
 ∃ e:Int,(s=.returned (.int .i64 e))/\
 (b q)/\
 Calls prog 105 #[.pointer c,.agg #[.int .i64 7,.int .i64 0,.int .i64 k,.int .i64 0,.int .i64 0,.int .i64 0,.bool false,.int .i64 (if e<d then e else d),.int .i64 0,.int .i64 n,.slice none 0 0,.int .i64 0,.int .i64 0,.slice none 0 0,.slice none 0 0,.slice none 0 0]] q λ t u=>
 (t=.returned (.tuple #[]))/\
 K (.tuple #[]) u
def sk45:Sk:=(.cond .leaf .leaf)
theorem ZpY (a:Option Addr) (b:Int) (K:Value->World->Prop) (w:World) (h:B45 a b K w):Zj prog 45 #[.pointer a,.int .i64 b] w K:=cq (sk:=sk45) func45 (by kernel_rfl) (by kernel_rfl) (by kernel_rfl) h
def B105 (k:Option Addr) (Y:Int) (Z:Int) (ac:Int) (ad:Int) (ae:Int) (af:Int) (ag:Bool) (ah:Int) (ai:Int) (aj:Int) (m:Sl) (aa:Int) (ab:Int) (n:Sl) (o:Sl) (p:Sl) (K:Value->World->Prop) (w:World):Prop:=
 New (.cells #[.int .i64 Y,.int .i64 Z,.int .i64 ac,.int .i64 ad,.int .i64 ae,.int .i64 af,.bool ag,.int .i64 ah,.int .i64 ai,.int .i64 aj,.slice m.a m.len m.cap,.int .i64 aa,.int .i64 ab,.slice n.a n.len n.cap,.slice o.a o.len o.cap,.slice p.a p.len p.cap] 71 (0,0)) (λ l al=>
 Drw al λ i am=>
 Zb k λ u=>
 ∃ M:Int,(At i ⟨u.block,u.off + 1,none⟩ [.int .i64 M])/\
 Zb k λ U=>
 ∃ v:Option Addr,(At i (Addr.add U 0) [.pointer v])/\
 Calls prog 23 #[.pointer v] am λ X N=>
 ∃ x:Int,∃ ak:Int,(X=.returned (.agg #[.int .i64 x,.int .i64 ak]))/\
 (i N)/\
 ∃ q:World,((Instr.storeAt 3 (.pointer ((some ⟨l,0 + 1,none⟩))) (.int .i64 M)).run prog N=.ok () q)/\
 (i q)/\
 ∃ O:World,((Instr.storeAt 3 (.pointer ((some ⟨l,0 + 3,none⟩))) (.int .i64 x)).run prog q=.ok () O)/\
 Drw O λ j an=>
 Zb k λ s=>
 ∃ b:Sl,(At j ⟨s.block,s.off + 16 + 10,none⟩ [.slice b.a b.len b.cap])/\
 ∃ y:Int,∃ z:Int,∃ D:Int,∃ E:Int,∃ F:Int,∃ G:Int,∃ H:Bool,∃ I:Int,∃ J:Int,∃ L:Int,∃ c:Sl,∃ A:Int,∃ C:Int,∃ d:Sl,∃ e:Sl,∃ f:Sl,(At j ⟨l,0,none⟩ [.int .i64 y,.int .i64 z,.int .i64 D,.int .i64 E,.int .i64 F,.int .i64 G,.bool H,.int .i64 I,.int .i64 J,.int .i64 L,.slice c.a c.len c.cap,.int .i64 A,.int .i64 C,.slice d.a d.len d.cap,.slice e.a e.len e.cap,.slice f.a f.len f.cap])/\
 New (.cells #[.int .i64 y,.int .i64 z,.int .i64 D,.int .i64 E,.int .i64 F,.int .i64 G,.bool H,.int .i64 I,.int .i64 J,.int .i64 L,.slice c.a c.len c.cap,.int .i64 A,.int .i64 C,.slice d.a d.len d.cap,.slice e.a e.len e.cap,.slice f.a f.len f.cap] 71 (0,0)) (λ V Q=>
 (j Q)/\
 ∃ r:World,∃ g:Sl,((Builtin.append_ #[41,41] 41 #[.slice b.a b.len b.cap,.slice ((some ⟨V,0,none⟩)) 1 1]).run prog Q=.ok (.slice g.a g.len g.cap) r)/\
 (j r)/\
 Zb k λ t=>
 ∃ T:World,((Instr.storeAt 41 (.pointer ((some ⟨t.block,t.off + 16 + 10,none⟩))) (.slice g.a g.len g.cap)).run prog r=.ok () T)/\
 K (.tuple #[]) T) an) w
theorem ZlM (s:Option Addr) (f:Int) (g:Int) (k:Int) (l:Int) (m:Int) (n:Int) (o:Bool) (p:Int) (q:Int) (r:Int) (b:Sl) (i:Int) (j:Int) (c:Sl) (d:Sl) (e:Sl) (K:Value->World->Prop) (w:World) (h:B105 s f g k l m n o p q r b i j c d e K w):Zj prog 105 #[.pointer s,.agg #[.int .i64 f,.int .i64 g,.int .i64 k,.int .i64 l,.int .i64 m,.int .i64 n,.bool o,.int .i64 p,.int .i64 q,.int .i64 r,.slice b.a b.len b.cap,.int .i64 i,.int .i64 j,.slice c.a c.len c.cap,.slice d.a d.len d.cap,.slice e.a e.len e.cap]] w K:=cq (sk:=.leaf) func105 (by kernel_rfl) (by kernel_rfl) (by kernel_rfl) h
def B46 (c:Option Addr) (t:Int) (K:Value->World->Prop) (w:World):Prop:=
 Zb c λ C=>
 ∃ M:Option Nat,(At (λ b=>b=w) ⟨C.block,C.off + 11,none⟩ [.map M])/\
 ∃ e:Option Addr,(∀ b,(λ b=>b=w) b->((Instr.lookup 55 (.map M) (.int .i64 t) false)).run prog b=.ok (.pointer e) b)/\
 ∃ (o:Bool->World->Prop) (ar:Bool->World->Nat),(o true w)/\∀ (bd:Env) (s:Bool) (u:World),o s u->
 ∃ (A:World->Prop),(Drw u λ q al=>
 Br s
 (Calls prog 107 #[.pointer e] al λ au y=>
 ∃ N:Bool,(au=.returned (.bool N))/\
 (q y)/\
 Br N
 (Zb c λ D=>
 ∃ Q:Option Addr,(At q ⟨D.block,D.off + 3,none⟩ [.pointer Q])/\
 Calls prog 108 #[.pointer e] y λ av am=>
 ∃ O:Int,(av=.returned (.int .i64 O))/\
 (q am)/\
 Calls prog 39 #[.pointer Q] am λ az an=>
 ∃ T:Int,(az=.returned (.int .i64 T))/\
 Br (decide (O<=IntKind.i64.wrap (T + 1)))
 (A  an)
 (K (.tuple #[]) an))
 (K (.tuple #[]) y))
 (K (.tuple #[]) al))/\
 ∀ (be:Env)  (ao:World),A  ao->
 Calls prog 108 #[.pointer e] ao λ a0 ap=>
 ∃ m:Int,(a0=.returned (.int .i64 m))/\
 Zb c λ E=>
 ∃ U:Option Addr,(At (λ b=>b=ap) ⟨E.block,E.off + 3,none⟩ [.pointer U])/\
 Calls prog 100 #[.pointer U,.int .i64 (IntKind.i64.wrap (m - 1))] ap λ a1 z=>
 ∃ V:Int,∃ X:Bool,(a1=.returned (.tuple #[.int .i64 V,.bool X]))/\
 Br (!X)
 (Drw z λ r aq=>
 Zb c λ F=>
 ∃ Y:Int,(At r ⟨F.block,F.off + 4,none⟩ [.int .i64 Y])/\
 Zb c λ G=>
 ∃ Z:Int,(At r ⟨G.block,G.off + 4 + 1,none⟩ [.int .i64 Z])/\
 Zb c λ H=>
 ∃ aa:Int,∃ ab:Int,∃ f:Sl,∃ g:Sl,∃ i:Sl,(At (λ b=>b=aq) ⟨H.block,H.off + 4,none⟩ [.int .i64 aa,.int .i64 ab,.slice f.a f.len f.cap,.slice g.a g.len g.cap,.slice i.a i.len i.cap])/\
 Calls prog 35 #[.agg #[.int .i64 aa,.int .i64 ab,.slice f.a f.len f.cap,.slice g.a g.len g.cap,.slice i.a i.len i.cap]] aq λ a2 ai=>
 ∃ ac:Int,∃ ad:Int,∃ j:Sl,∃ k:Sl,∃ l:Sl,(a2=.returned (.agg #[.int .i64 ac,.int .i64 ad,.slice j.a j.len j.cap,.slice k.a k.len k.cap,.slice l.a l.len l.cap]))/\
 (r ai)/\
 Calls prog 105 #[.pointer c,.agg #[.int .i64 9,.int .i64 0,.int .i64 t,.int .i64 0,.int .i64 Y,.int .i64 Z,.bool false,.int .i64 0,.int .i64 0,.int .i64 0,.slice none 0 0,.int .i64 ac,.int .i64 ad,.slice j.a j.len j.cap,.slice k.a k.len k.cap,.slice l.a l.len l.cap]] ai λ a3 aj=>
 (a3=.returned (.tuple #[]))/\
 Zb c λ I=>
 ∃ ae:Int,(At (λ b=>b=aj) ⟨I.block,I.off + 4,none⟩ [.int .i64 ae])/\
 Calls prog 109 #[.pointer e,.int .i64 ae] aj λ a4 a9=>
 ∃ a8:Int,(a4=.returned (.int .i64 a8))/\
 K (.tuple #[]) a9)
 (Zb c λ J=>
 ∃ af:Option Addr,(At (λ b=>b=z) ⟨J.block,J.off + 3,none⟩ [.pointer af])/\
 Calls prog 53 #[.pointer af,.int .i64 (IntKind.i64.wrap (IntKind.i64.wrap (m - 1) + 1)),.int .i64 8] z λ a5 ba=>
 ∃ d:Sl,(a5=.returned (.slice d.a d.len d.cap))/\
 Calls prog 43 #[.pointer e] ba λ a6 v=>
 ∃ n:Int,(a6=.returned (.int .i64 n))/\
 ∃ (p:World->Prop),(Br (n==1)
 (Br ((↑d.len:Int)==0)
 (K (.tuple #[]) v)
 (p  v))
 (p  v))/\
 ∀ (bf:Env)  (x:World),p  x->
 Zb c λ L=>
 ∃ ag:Option Addr,(At (λ b=>b=x) ⟨L.block,L.off + 3,none⟩ [.pointer ag])/\
 Calls prog 50 #[.pointer ag] x λ aw bb=>
 ∃ ah:Int,(aw=.returned (.int .i64 ah))/\
 Calls prog 105 #[.pointer c,.agg #[.int .i64 5,.int .i64 0,.int .i64 t,.int .i64 0,.int .i64 (IntKind.i64.wrap (m - 1)),.int .i64 V,.bool false,.int .i64 ah,.int .i64 0,.int .i64 0,.slice d.a d.len d.cap,.int .i64 0,.int .i64 0,.slice none 0 0,.slice none 0 0,.slice none 0 0]] bb λ ax bc=>
 (ax=.returned (.tuple #[]))/\
 Calls prog 110 #[.pointer e,.int .i64 (IntKind.i64.wrap (IntKind.i64.wrap (m - 1) + (↑d.len:Int)))] bc λ ay ak=>
 ∃ a7:Int,(ay=.returned (.int .i64 a7))/\
 (o (n==1) ak)/\ar (n==1) ak<ar s u)
def sk46:Sk:=(.seq .leaf (.seq .leaf (.block (.loop [5] [.bool] [5,6,7,8,9,16,17,18,19,20,21,22,23,24,25,26,27,28,29,30,31,32,33,34,35,36,37,38,39,40,41,42,43,44,45,46,47,48,49,50,51,52,53,54,55,56,57,58,59,60,61,62,63,64,65,66,67,68,69,70,71,72,73,74,75,76,77,78,79,80,81,82,83,84,85,86,87,88,89,90,91,92,93,94,95,96,97,98,99,100,101,102,103,104,105] (.cut [] [] [16,17,18,19,20,21,22,23,24,25,26,27,28,29,30,31] (.seq (.cond .leaf .leaf) .leaf) (.block (.seq .leaf (.seq .leaf (.seq (.seq .leaf (.cond (.seq (.cond .leaf .leaf) .leaf) .leaf)) (.seq .leaf (.seq .leaf (.cut [] [] [82,83,84,85,86,87] .leaf .leaf))))))))))))
theorem ZpX (a:Option Addr) (b:Int) (K:Value->World->Prop) (w:World) (h:B46 a b K w):Zj prog 46 #[.pointer a,.int .i64 b] w K:=cq (sk:=sk46) func46 (by kernel_rfl) (by kernel_rfl) (by kernel_rfl) h
def B41 (i:Option Addr) (K:Value->World->Prop) (w:World):Prop:=
 Zb i λ c=>
 ∃ d:Option Nat,(At (λ j=>j=w) ⟨c.block,c.off + 11,none⟩ [.map d])/\
 Calls prog 102 #[.map d] w λ f k=>
 ∃ e:Value,(f=.returned (e))/\
 Calls prog 101 #[e] k λ g l=>
 ∃ b:Sl,(g=.returned (.slice b.a b.len b.cap))/\
 K (.slice b.a b.len b.cap) l
theorem Zp2 (a:Option Addr) (K:Value->World->Prop) (w:World) (h:B41 a K w):Zj prog 41 #[.pointer a] w K:=cq (sk:=.leaf) func41 (by kernel_rfl) (by kernel_rfl) (by kernel_rfl) h
def B94 (f:Option Addr) (K:Value->World->Prop) (w:World):Prop:=
 Calls prog 41 #[.pointer f] w λ l o=>
 ∃ c:Sl,(l=.returned (.slice c.a c.len c.cap))/\
 ∃ (e:Int->World->Prop) (j:Int->World->Nat),(e 0 o)/\∀ (p:Env) (b:Int) (d:World),e b d->
 Br (decide (b<(↑c.len:Int)))
 (Rng b c.len (Zb c.a λ k=>
 ∃ g:Int,(At (λ n=>n=d) (Addr.add k b.toNat) [.int .i64 g])/\
 Calls prog 46 #[.pointer f,.int .i64 g] d λ m i=>
 (m=.returned (.tuple #[]))/\
 (e (IntKind.i64.wrap (b + 1)) i)/\j (IntKind.i64.wrap (b + 1)) i<j b d))
 (K (.tuple #[]) d)
def sk94:Sk:=(.seq .leaf (.block (.loop [7] [(.int .i64)] [3,7,8,9,10,11,12,13,14] .leaf)))
theorem Zpr (a:Option Addr) (K:Value->World->Prop) (w:World) (h:B94 a K w):Zj prog 94 #[.pointer a] w K:=cq (sk:=sk94) func94 (by kernel_rfl) (by kernel_rfl) (by kernel_rfl) h
def B49 (b:Option Addr) (K:Value->World->Prop) (w:World):Prop:=
 Drw w λ a A=>
 Zb b λ g=>
 ∃ q:Option Addr,(At a ⟨g.block,g.off + 3,none⟩ [.pointer q])/\
 Zb b λ f=>
 ∃ i:Option Addr,(At a ⟨f.block,f.off + 3,none⟩ [.pointer i])/\
 Calls prog 50 #[.pointer i] A λ u r=>
 ∃ j:Int,(u=.returned (.int .i64 j))/\
 (a r)/\
 Calls prog 100 #[.pointer q,.int .i64 j] r λ v c=>
 ∃ k:Int,∃ l:Bool,(v=.returned (.tuple #[.int .i64 k,.bool l]))/\
 (a c)/\
 Br l
 (Zb b λ s=>
 ∃ m:Option Addr,(At (λ d=>d=c) (Addr.add s 0) [.pointer m])/\
 Calls prog 23 #[.pointer m] c λ x e=>
 ∃ n:Int,∃ z:Int,(x=.returned (.agg #[.int .i64 n,.int .i64 z]))/\
 Br (k==n)
 (Zb b λ t=>
 ∃ o:Option Addr,(At (λ d=>d=e) (Addr.add t 0) [.pointer o])/\
 Calls prog 16 #[.pointer o] e λ y C=>
 ∃ p:Int,(y=.returned (.int .i64 p))/\
 K (.bool (p==3)) C)
 (K (.bool false) e))
 (K (.bool false) c)
theorem ZpU (a:Option Addr) (K:Value->World->Prop) (w:World) (h:B49 a K w):Zj prog 49 #[.pointer a] w K:=cq (sk:=.leaf) func49 (by kernel_rfl) (by kernel_rfl) (by kernel_rfl) h
def B47 (c:Option Addr) (k:Int) (b:Sl) (K:Value->World->Prop) (w:World):Prop:=
 Calls prog 92 #[.pointer c,.int .i64 k,.slice b.a b.len b.cap] w λ g f=>
 ∃ e:Int,∃ d:Int,(g=.returned (.tuple #[.int .i64 e,.int .i64 d]))/\
 Br (d !=0)
 (K (.tuple #[.int .i64 0,.int .i64 d]) f)
 (Calls prog 93 #[.pointer c] f λ i l=>
 (i=.returned (.tuple #[]))/\
 Calls prog 94 #[.pointer c] l λ j m=>
 (j=.returned (.tuple #[]))/\
 K (.tuple #[.int .i64 e,.int .i64 0]) m)
theorem ZpW (d:Option Addr) (c:Int) (b:Sl) (K:Value->World->Prop) (w:World) (h:B47 d c b K w):Zj prog 47 #[.pointer d,.int .i64 c,.slice b.a b.len b.cap] w K:=cq (sk:=.leaf) func47 (by kernel_rfl) (by kernel_rfl) (by kernel_rfl) h
def B11 (e:Option Addr) (c:Sl) (K:Value->World->Prop) (w:World):Prop:=
 Zb e λ k=>
 ∃ f:Option Addr,(At (λ o=>o=w) (Addr.add k 0) [.pointer f])/\
 Calls prog 16 #[.pointer f] w λ l d=>
 ∃ g:Int,(l=.returned (.int .i64 g))/\
 Br (g !=3)
 (K (.tuple #[.int .i64 0,.int .i64 7]) d)
 (Br (decide ((↑c.len:Int)>4096))
 (K (.tuple #[.int .i64 0,.int .i64 1]) d)
 (Calls prog 48 #[.slice c.a c.len c.cap] d λ m p=>
 ∃ b:Sl,(m=.returned (.slice b.a b.len b.cap))/\
 Calls prog 47 #[.pointer e,.int .i64 1,.slice b.a b.len b.cap] p λ n q=>
 ∃ i:Int,∃ j:Int,(n=.returned (.tuple #[.int .i64 i,.int .i64 j]))/\
 K (.tuple #[.int .i64 i,.int .i64 j]) q))
theorem Zqq (c:Option Addr) (b:Sl) (K:Value->World->Prop) (w:World) (h:B11 c b K w):Zj prog 11 #[.pointer c,.slice b.a b.len b.cap] w K:=cq (sk:=.leaf) func11 (by kernel_rfl) (by kernel_rfl) (by kernel_rfl) h
def B19 (b:Option Addr) (A:Int) (o:Int) (K:Value->World->Prop) (w:World):Prop:=
 Zb b λ ac=>
 ∃ C:Option Addr,(At (λ m=>m=w) (Addr.add ac 0) [.pointer C])/\
 Calls prog 16 #[.pointer C] w λ ae q=>
 ∃ D:Int,(ae=.returned (.int .i64 D))/\
 Br (D !=3)
 (K (.tuple #[.int .i64 0,.int .i64 7]) q)
 (Zb b λ t=>
 ∃ d:Sl,∃ e:Sl,(At (λ m=>m=q) ⟨t.block,t.off + 9,none⟩ [.slice d.a d.len d.cap,.slice e.a e.len e.cap])/\
 Calls prog 54 #[.agg #[.slice d.a d.len d.cap,.slice e.a e.len e.cap],.int .i64 A,.int .i64 o] q λ af au=>
 ∃ f:Sl,∃ g:Sl,∃ p:Int,(af=.returned (.tuple #[.agg #[.slice f.a f.len f.cap,.slice g.a g.len g.cap],.int .i64 p]))/\
 New (.cells #[.slice none 0 0,.slice none 0 0] 32 (0,0)) (λ ad av=>
 ∃ r:World,((Instr.storeAt 32 (.pointer ((some ⟨ad,0,none⟩))) (.agg #[.slice f.a f.len f.cap,.slice g.a g.len g.cap])).run prog av=.ok () r)/\
 Br (p !=0)
 (K (.tuple #[.int .i64 0,.int .i64 p]) r)
 (Drw r λ c aw=>
 Zb b λ u=>
 ∃ E:Option Addr,(At c ⟨u.block,u.off + 3,none⟩ [.pointer E])/\
 Zb b λ v=>
 ∃ F:Option Addr,(At c ⟨v.block,v.off + 3,none⟩ [.pointer F])/\
 Zb b λ x=>
 ∃ H:Option Addr,(At c ⟨x.block,x.off + 3,none⟩ [.pointer H])/\
 Zb b λ y=>
 ∃ J:Option Addr,(At c ⟨y.block,y.off + 3,none⟩ [.pointer J])/\
 Calls prog 50 #[.pointer F] aw λ ah Z=>
 ∃ G:Int,(ah=.returned (.int .i64 G))/\
 (c Z)/\
 Calls prog 39 #[.pointer H] Z λ ai aa=>
 ∃ I:Int,(ai=.returned (.int .i64 I))/\
 (c aa)/\
 Calls prog 50 #[.pointer J] aa λ aj ab=>
 ∃ L:Int,(aj=.returned (.int .i64 L))/\
 (c ab)/\
 Calls prog 53 #[.pointer E,.int .i64 (IntKind.i64.wrap (G + 1)),.int .i64 (IntKind.i64.wrap (I - L))] ab λ ak n=>
 ∃ i:Sl,(ak=.returned (.slice i.a i.len i.cap))/\
 (c n)/\
 ∃ (s:World->Prop),(Zb b λ z=>
 ∃ M:Int,(At (λ m=>m=n) ⟨z.block,z.off + 1,none⟩ [.int .i64 M])/\
 Br (o==M)
 (K (.tuple #[.int .i64 0,.int .i64 7]) n)
 (Calls prog 49 #[.pointer b] n λ al U=>
 ∃ N:Bool,(al=.returned (.bool N))/\
 Br (!N)
 (K (.tuple #[.int .i64 0,.int .i64 7]) U)
 (Calls prog 56 #[.slice i.a i.len i.cap,.func (.func 55) #[] #[]] U λ am V=>
 ∃ O:Bool,(am=.returned (.bool O))/\
 Br O
 (K (.tuple #[.int .i64 0,.int .i64 7]) V)
 (s  V))))/\
 ∀ (ax:Env)  (X:World),s  X->
 Calls prog 57 #[.int .u64 (IntKind.u64.wrap A)] X λ an ap=>
 ∃ j:Sl,(an=.returned (.slice j.a j.len j.cap))/\
 Calls prog 57 #[.int .u64 (IntKind.u64.wrap o)] ap λ ao aq=>
 ∃ k:Sl,(ao=.returned (.slice k.a k.len k.cap))/\
 ∃ Y:World,∃ l:Sl,((Builtin.append_ #[33,33] 33 #[.slice j.a j.len j.cap,.slice k.a k.len k.cap]).run prog aq=.ok (.slice l.a l.len l.cap) Y)/\
 Calls prog 47 #[.pointer b,.int .i64 2,.slice l.a l.len l.cap] Y λ ag ar=>
 ∃ Q:Int,∃ T:Int,(ag=.returned (.tuple #[.int .i64 Q,.int .i64 T]))/\
 K (.tuple #[.int .i64 Q,.int .i64 T]) ar)) au)
def sk19:Sk:=(.seq .leaf (.seq .leaf (.seq .leaf (.seq .leaf (.seq .leaf (.cut [] [] [6,7,53,54,55,56,57,58,59,60,61,62,63,64,65,66,67,68] .leaf .leaf))))))
theorem Zqj (b:Option Addr) (a:Int) (c:Int) (K:Value->World->Prop) (w:World) (h:B19 b a c K w):Zj prog 19 #[.pointer b,.int .i64 a,.int .i64 c] w K:=cq (sk:=sk19) func19 (by kernel_rfl) (by kernel_rfl) (by kernel_rfl) h
def B55 (g:Int) (i:Int) (j:Int) (b:Sl) (K:Value->World->Prop) (w:World):Prop:=
 New (.cells #[.int .i64 g,.int .i64 i,.int .i64 j,.slice b.a b.len b.cap] 52 (0,0)) (λ e d=>
 ∃ c:Int,(At (λ f=>f=d) ⟨e,0 + 2,none⟩ [.int .i64 c])/\
 K (.bool (c==2)) d) w
theorem ZpO (c:Int) (d:Int) (e:Int) (b:Sl) (K:Value->World->Prop) (w:World) (h:B55 c d e b K w):Zj prog 55 #[.agg #[.int .i64 c,.int .i64 d,.int .i64 e,.slice b.a b.len b.cap]] w K:=cq (sk:=.leaf) func55 (by kernel_rfl) (by kernel_rfl) (by kernel_rfl) h
def B12 (b:Option Addr) (al:Int) (K:Value->World->Prop) (w:World):Prop:=
 ∃ (u:World->Prop),(Calls prog 49 #[.pointer b] w λ ah n=>
 ∃ Y:Bool,(ah=.returned (.bool Y))/\
 Br (!Y)
 (K (.int .i64 7) n)
 (Zb b λ v=>
 ∃ m:Sl,(At (λ c=>c=n) ⟨v.block,v.off + 12,none⟩ [.slice m.a m.len m.cap])/\
 Br (decide ((↑m.len:Int) >= 64))
 (K (.int .i64 7) n)
 (u  n)))/\
 ∀ (ar:Env)  (r:World),u  r->
 Zb b λ x=>
 ∃ J:Option Addr,(At (λ c=>c=r) ⟨x.block,x.off + 3,none⟩ [.pointer J])/\
 Calls prog 50 #[.pointer J] r λ ai ao=>
 ∃ L:Int,(ai=.returned (.int .i64 L))/\
 New (.cells #[.int .i64 0,.int .i64 0] 50 (0,0)) (λ o ap=>
 ∃ s:World,((Instr.storeAt 50 (.pointer ((some ⟨o,0,none⟩))) (.agg #[.int .i64 al,.int .i64 L])).run prog ap=.ok () s)/\
 Zb b λ y=>
 ∃ M:Int,(At (λ c=>c=s) ⟨y.block,y.off + 1,none⟩ [.int .i64 M])/\
 New (.cells #[.int .i64 M] 3 (0,0)) (λ I ad=>
 Zb b λ z=>
 ∃ d:Sl,∃ e:Sl,(At (λ c=>c=ad) ⟨z.block,z.off + 9,none⟩ [.slice d.a d.len d.cap,.slice e.a e.len e.cap])/\
 Calls prog 51 #[.agg #[.slice d.a d.len d.cap,.slice e.a e.len e.cap],.slice ((some ⟨I,0,none⟩)) 1 1] ad λ aj t=>
 ∃ N:Bool,(aj=.returned (.bool N))/\
 Br N
 (Drw t λ l aq=>
 Zb b λ A=>
 ∃ f:Sl,(At l ⟨A.block,A.off + 16 + 11,none⟩ [.slice f.a f.len f.cap])/\
 ∃ O:Int,∃ Q:Int,(At l ⟨o,0,none⟩ [.int .i64 O,.int .i64 Q])/\
 New (.cells #[.int .i64 O,.int .i64 Q] 50 (0,0)) (λ af ae=>
 (l ae)/\
 ∃ p:World,∃ g:Sl,((Builtin.append_ #[42,42] 42 #[.slice f.a f.len f.cap,.slice ((some ⟨af,0,none⟩)) 1 1]).run prog ae=.ok (.slice g.a g.len g.cap) p)/\
 (l p)/\
 Zb b λ C=>
 ∃ Z:World,((Instr.storeAt 42 (.pointer ((some ⟨C.block,C.off + 16 + 11,none⟩))) (.slice g.a g.len g.cap)).run prog p=.ok () Z)/\
 K (.int .i64 0) Z) aq)
 (Zb b λ D=>
 ∃ T:Int,(At (λ c=>c=t) ⟨D.block,D.off + 13,none⟩ [.int .i64 T])/\
 Zb b λ E=>
 ∃ aa:World,((Instr.storeAt 3 (.pointer ((some ⟨E.block,E.off + 13,none⟩))) (.int .i64 (IntKind.i64.wrap (T + 1)))).run prog t=.ok () aa)/\
 Drw aa λ k am=>
 Zb b λ F=>
 ∃ i:Sl,(At k ⟨F.block,F.off + 12,none⟩ [.slice i.a i.len i.cap])/\
 ∃ U:Int,∃ V:Int,(At k ⟨o,0,none⟩ [.int .i64 U,.int .i64 V])/\
 Zb b λ G=>
 ∃ X:Int,(At k ⟨G.block,G.off + 13,none⟩ [.int .i64 X])/\
 New (.cells #[.int .i64 U,.int .i64 V,.int .i64 X,.slice ((some ⟨I,0,none⟩)) 1 1] 112 (0,0)) (λ ag ab=>
 (k ab)/\
 ∃ q:World,∃ j:Sl,((Builtin.append_ #[56,56] 56 #[.slice i.a i.len i.cap,.slice ((some ⟨ag,0,none⟩)) 1 1]).run prog ab=.ok (.slice j.a j.len j.cap) q)/\
 (k q)/\
 Zb b λ H=>
 ∃ ac:World,((Instr.storeAt 56 (.pointer ((some ⟨H.block,H.off + 12,none⟩))) (.slice j.a j.len j.cap)).run prog q=.ok () ac)/\
 Calls prog 52 #[.pointer b] ac λ ak an=>
 (ak=.returned (.tuple #[]))/\
 K (.int .i64 0) an) am)) s) ao
def sk12:Sk:=(.seq .leaf (.cut [] [] [4,7,8,9,10,11,12,13,14,15,16,17] .leaf .leaf))
theorem Zqp (a:Option Addr) (b:Int) (K:Value->World->Prop) (w:World) (h:B12 a b K w):Zj prog 12 #[.pointer a,.int .i64 b] w K:=cq (sk:=sk12) func12 (by kernel_rfl) (by kernel_rfl) (by kernel_rfl) h
def B13 (e:Option Addr) (K:Value->World->Prop) (w:World):Prop:=
 New (.cells #[.bool false,.int .i64 0,.int .i64 0,.bool false,.int .i64 0,.int .i64 0,.slice none 0 0,.slice none 0 0,.slice none 0 0,.int .i64 0,.slice none 0 0,.slice none 0 0] 44 (0,0)) (λ d dt=>
 Zb e λ bh=>
 ∃ ct:Bool,∃ cu:Int,∃ cv:Int,∃ cw:Bool,∃ cx:Int,∃ cy:Int,∃ U:Sl,∃ V:Sl,∃ X:Sl,∃ cz:Int,∃ Q:Sl,∃ T:Sl,(At (λ b=>b=dt) ⟨bh.block,bh.off + 16,none⟩ [.bool ct,.int .i64 cu,.int .i64 cv,.bool cw,.int .i64 cx,.int .i64 cy,.slice U.a U.len U.cap,.slice V.a V.len V.cap,.slice X.a X.len X.cap,.int .i64 cz,.slice Q.a Q.len Q.cap,.slice T.a T.len T.cap])/\
 New (.cells #[.bool false,.int .i64 0,.int .i64 0,.bool false,.int .i64 0,.int .i64 0,.slice none 0 0,.slice none 0 0,.slice none 0 0,.int .i64 0,.slice none 0 0,.slice none 0 0] 44 (0,0)) (λ c d2=>
 ∃ du:World,((Instr.storeAt 44 (.pointer ((some ⟨c,0,none⟩))) (.agg #[.bool ct,.int .i64 cu,.int .i64 cv,.bool cw,.int .i64 cx,.int .i64 cy,.slice U.a U.len U.cap,.slice V.a V.len V.cap,.slice X.a X.len X.cap,.int .i64 cz,.slice Q.a Q.len Q.cap,.slice T.a T.len T.cap])).run prog d2=.ok () du)/\
 Zb e λ bc=>
 ∃ bb:World,((Instr.storeAt 44 (.pointer ((some ⟨bc.block,bc.off + 16,none⟩))) (.agg #[.bool false,.int .i64 0,.int .i64 0,.bool false,.int .i64 0,.int .i64 0,.slice none 0 0,.slice none 0 0,.slice none 0 0,.int .i64 0,.slice none 0 0,.slice none 0 0])).run prog du=.ok () bb)/\
 Zb e λ dw=>
 ∃ bi:Option Addr,(At (λ b=>b=bb) (Addr.add dw 0) [.pointer bi])/\
 Calls prog 23 #[.pointer bi] bb λ dx d3=>
 ∃ bj:Int,∃ bk:Int,(dx=.returned (.agg #[.int .i64 bj,.int .i64 bk]))/\
 New (.cells #[.int .i64 0,.int .i64 0] 29 (0,0)) (λ ax d4=>
 ∃ dv:World,((Instr.storeAt 29 (.pointer ((some ⟨ax,0,none⟩))) (.agg #[.int .i64 bj,.int .i64 bk])).run prog d4=.ok () dv)/\
 Drw dv λ ay av=>
 ∃ az:Int,∃ a0:Int,(At ay ⟨ax,0,none⟩ [.int .i64 az,.int .i64 a0])/\
 Zb e λ bd=>
 ∃ a1:Int,∃ a2:Int,(At ay ⟨bd.block,bd.off + 14,none⟩ [.int .i64 a1,.int .i64 a2])/\
 ∃ bl:Bool,(∀ b,ay b->((do eqGuard BinOp.neq 29 (Operand.tmp 18) (Operand.tmp 22) (.agg #[.int .i64 az,.int .i64 a0]) (.agg #[.int .i64 a1,.int .i64 a2]);binOp BinOp.neq 29 (.agg #[.int .i64 az,.int .i64 a0]) (.agg #[.int .i64 a1,.int .i64 a2]):Sem Value)).run prog b=.ok (.bool bl) b)/\
 Br bl
 (Drw av λ aw d5=>
 ∃ bm:Int,∃ bn:Int,(At aw ⟨ax,0,none⟩ [.int .i64 bm,.int .i64 bn])/\
 ∃ bo:Int,∃ bp:Int,(At aw ⟨ax,0,none⟩ [.int .i64 bo,.int .i64 bp])/\
 ∃ a3:World,((Instr.storeAt 4 (.pointer ((some ⟨c,0,none⟩))) (.bool true)).run prog d5=.ok () a3)/\
 (aw a3)/\
 ∃ a4:World,((Instr.storeAt 29 (.pointer ((some ⟨c,0 + 1,none⟩))) (.agg #[.int .i64 bm,.int .i64 bn])).run prog a3=.ok () a4)/\
 (aw a4)/\
 Zb e λ be=>
 ∃ au:World,((Instr.storeAt 29 (.pointer ((some ⟨be.block,be.off + 14,none⟩))) (.agg #[.int .i64 bo,.int .i64 bp])).run prog a4=.ok () au)/\
 ∃ bq:Bool,(At (λ b=>b=au) ⟨c,0 + 3,none⟩ [.bool bq])/\
 Br bq
 (Zb e λ bf=>
 ∃ bs:Int,∃ bt:Int,∃ f:Sl,∃ g:Sl,∃ i:Sl,(At (λ b=>b=au) ⟨bf.block,bf.off + 4,none⟩ [.int .i64 bs,.int .i64 bt,.slice f.a f.len f.cap,.slice g.a g.len g.cap,.slice i.a i.len i.cap])/\
 Calls prog 35 #[.agg #[.int .i64 bs,.int .i64 bt,.slice f.a f.len f.cap,.slice g.a g.len g.cap,.slice i.a i.len i.cap]] au λ dy d0=>
 ∃ bw:Int,∃ bx:Int,∃ m:Sl,∃ n:Sl,∃ o:Sl,(dy=.returned (.agg #[.int .i64 bw,.int .i64 bx,.slice m.a m.len m.cap,.slice n.a n.len n.cap,.slice o.a o.len o.cap]))/\
 ∃ a5:World,((Instr.storeAt 35 (.pointer ((some ⟨c,0 + 4,none⟩))) (.agg #[.int .i64 bw,.int .i64 bx,.slice m.a m.len m.cap,.slice n.a n.len n.cap,.slice o.a o.len o.cap])).run prog d0=.ok () a5)/\
 ∃ b1:Bool,∃ b2:Int,∃ b9:Int,∃ ch:Bool,∃ cn:Int,∃ cr:Int,∃ M:Sl,∃ N:Sl,∃ O:Sl,∃ cs:Int,∃ s:Sl,∃ t:Sl,(At (λ b=>b=a5) ⟨c,0,none⟩ [.bool b1,.int .i64 b2,.int .i64 b9,.bool ch,.int .i64 cn,.int .i64 cr,.slice M.a M.len M.cap,.slice N.a N.len N.cap,.slice O.a O.len O.cap,.int .i64 cs,.slice s.a s.len s.cap,.slice t.a t.len t.cap])/\
 ∃ a6:World,((Instr.storeAt 44 (.pointer ((some ⟨d,0,none⟩))) (.agg #[.bool b1,.int .i64 b2,.int .i64 b9,.bool ch,.int .i64 cn,.int .i64 cr,.slice M.a M.len M.cap,.slice N.a N.len N.cap,.slice O.a O.len O.cap,.int .i64 cs,.slice s.a s.len s.cap,.slice t.a t.len t.cap])).run prog a5=.ok () a6)/\
 ∃ c0:Bool,∃ c1:Int,∃ c8:Int,∃ dg:Bool,∃ dm:Int,∃ dr:Int,∃ ap:Sl,∃ aq:Sl,∃ ar:Sl,∃ ds:Int,∃ Y:Sl,∃ Z:Sl,(At (λ b=>b=a6) ⟨d,0,none⟩ [.bool c0,.int .i64 c1,.int .i64 c8,.bool dg,.int .i64 dm,.int .i64 dr,.slice ap.a ap.len ap.cap,.slice aq.a aq.len aq.cap,.slice ar.a ar.len ar.cap,.int .i64 ds,.slice Y.a Y.len Y.cap,.slice Z.a Z.len Z.cap])/\
 K (.agg #[.bool c0,.int .i64 c1,.int .i64 c8,.bool dg,.int .i64 dm,.int .i64 dr,.slice ap.a ap.len ap.cap,.slice aq.a aq.len aq.cap,.slice ar.a ar.len ar.cap,.int .i64 ds,.slice Y.a Y.len Y.cap,.slice Z.a Z.len Z.cap]) a6)
 (∃ b3:Bool,∃ b4:Int,∃ b5:Int,∃ b6:Bool,∃ b7:Int,∃ b8:Int,∃ u:Sl,∃ v:Sl,∃ x:Sl,∃ ca:Int,∃ y:Sl,∃ z:Sl,(At (λ b=>b=au) ⟨c,0,none⟩ [.bool b3,.int .i64 b4,.int .i64 b5,.bool b6,.int .i64 b7,.int .i64 b8,.slice u.a u.len u.cap,.slice v.a v.len v.cap,.slice x.a x.len x.cap,.int .i64 ca,.slice y.a y.len y.cap,.slice z.a z.len z.cap])/\
 ∃ a7:World,((Instr.storeAt 44 (.pointer ((some ⟨d,0,none⟩))) (.agg #[.bool b3,.int .i64 b4,.int .i64 b5,.bool b6,.int .i64 b7,.int .i64 b8,.slice u.a u.len u.cap,.slice v.a v.len v.cap,.slice x.a x.len x.cap,.int .i64 ca,.slice y.a y.len y.cap,.slice z.a z.len z.cap])).run prog au=.ok () a7)/\
 ∃ c2:Bool,∃ c3:Int,∃ c4:Int,∃ c5:Bool,∃ c6:Int,∃ c7:Int,∃ aa:Sl,∃ ab:Sl,∃ ac:Sl,∃ c9:Int,∃ ad:Sl,∃ ae:Sl,(At (λ b=>b=a7) ⟨d,0,none⟩ [.bool c2,.int .i64 c3,.int .i64 c4,.bool c5,.int .i64 c6,.int .i64 c7,.slice aa.a aa.len aa.cap,.slice ab.a ab.len ab.cap,.slice ac.a ac.len ac.cap,.int .i64 c9,.slice ad.a ad.len ad.cap,.slice ae.a ae.len ae.cap])/\
 K (.agg #[.bool c2,.int .i64 c3,.int .i64 c4,.bool c5,.int .i64 c6,.int .i64 c7,.slice aa.a aa.len aa.cap,.slice ab.a ab.len ab.cap,.slice ac.a ac.len ac.cap,.int .i64 c9,.slice ad.a ad.len ad.cap,.slice ae.a ae.len ae.cap]) a7))
 (∃ br:Bool,(At (λ b=>b=av) ⟨c,0 + 3,none⟩ [.bool br])/\
 Br br
 (Zb e λ bg=>
 ∃ bu:Int,∃ bv:Int,∃ j:Sl,∃ k:Sl,∃ l:Sl,(At (λ b=>b=av) ⟨bg.block,bg.off + 4,none⟩ [.int .i64 bu,.int .i64 bv,.slice j.a j.len j.cap,.slice k.a k.len k.cap,.slice l.a l.len l.cap])/\
 Calls prog 35 #[.agg #[.int .i64 bu,.int .i64 bv,.slice j.a j.len j.cap,.slice k.a k.len k.cap,.slice l.a l.len l.cap]] av λ dz d1=>
 ∃ bz:Int,∃ b0:Int,∃ p:Sl,∃ q:Sl,∃ r:Sl,(dz=.returned (.agg #[.int .i64 bz,.int .i64 b0,.slice p.a p.len p.cap,.slice q.a q.len q.cap,.slice r.a r.len r.cap]))/\
 ∃ a8:World,((Instr.storeAt 35 (.pointer ((some ⟨c,0 + 4,none⟩))) (.agg #[.int .i64 bz,.int .i64 b0,.slice p.a p.len p.cap,.slice q.a q.len q.cap,.slice r.a r.len r.cap])).run prog d1=.ok () a8)/\
 ∃ cb:Bool,∃ cc:Int,∃ cd:Int,∃ ce:Bool,∃ cf:Int,∃ cg:Int,∃ A:Sl,∃ C:Sl,∃ D:Sl,∃ ci:Int,∃ E:Sl,∃ F:Sl,(At (λ b=>b=a8) ⟨c,0,none⟩ [.bool cb,.int .i64 cc,.int .i64 cd,.bool ce,.int .i64 cf,.int .i64 cg,.slice A.a A.len A.cap,.slice C.a C.len C.cap,.slice D.a D.len D.cap,.int .i64 ci,.slice E.a E.len E.cap,.slice F.a F.len F.cap])/\
 ∃ a9:World,((Instr.storeAt 44 (.pointer ((some ⟨d,0,none⟩))) (.agg #[.bool cb,.int .i64 cc,.int .i64 cd,.bool ce,.int .i64 cf,.int .i64 cg,.slice A.a A.len A.cap,.slice C.a C.len C.cap,.slice D.a D.len D.cap,.int .i64 ci,.slice E.a E.len E.cap,.slice F.a F.len F.cap])).run prog a8=.ok () a9)/\
 ∃ da:Bool,∃ db:Int,∃ dc:Int,∃ dd:Bool,∃ de:Int,∃ df:Int,∃ af:Sl,∃ ag:Sl,∃ ah:Sl,∃ dh:Int,∃ ai:Sl,∃ aj:Sl,(At (λ b=>b=a9) ⟨d,0,none⟩ [.bool da,.int .i64 db,.int .i64 dc,.bool dd,.int .i64 de,.int .i64 df,.slice af.a af.len af.cap,.slice ag.a ag.len ag.cap,.slice ah.a ah.len ah.cap,.int .i64 dh,.slice ai.a ai.len ai.cap,.slice aj.a aj.len aj.cap])/\
 K (.agg #[.bool da,.int .i64 db,.int .i64 dc,.bool dd,.int .i64 de,.int .i64 df,.slice af.a af.len af.cap,.slice ag.a ag.len ag.cap,.slice ah.a ah.len ah.cap,.int .i64 dh,.slice ai.a ai.len ai.cap,.slice aj.a aj.len aj.cap]) a9)
 (∃ cj:Bool,∃ ck:Int,∃ cl:Int,∃ cm:Bool,∃ co:Int,∃ cp:Int,∃ G:Sl,∃ H:Sl,∃ I:Sl,∃ cq:Int,∃ J:Sl,∃ L:Sl,(At (λ b=>b=av) ⟨c,0,none⟩ [.bool cj,.int .i64 ck,.int .i64 cl,.bool cm,.int .i64 co,.int .i64 cp,.slice G.a G.len G.cap,.slice H.a H.len H.cap,.slice I.a I.len I.cap,.int .i64 cq,.slice J.a J.len J.cap,.slice L.a L.len L.cap])/\
 ∃ ba:World,((Instr.storeAt 44 (.pointer ((some ⟨d,0,none⟩))) (.agg #[.bool cj,.int .i64 ck,.int .i64 cl,.bool cm,.int .i64 co,.int .i64 cp,.slice G.a G.len G.cap,.slice H.a H.len H.cap,.slice I.a I.len I.cap,.int .i64 cq,.slice J.a J.len J.cap,.slice L.a L.len L.cap])).run prog av=.ok () ba)/\
 ∃ di:Bool,∃ dj:Int,∃ dk:Int,∃ dl:Bool,∃ dn:Int,∃ dp:Int,∃ ak:Sl,∃ al:Sl,∃ am:Sl,∃ dq:Int,∃ an:Sl,∃ ao:Sl,(At (λ b=>b=ba) ⟨d,0,none⟩ [.bool di,.int .i64 dj,.int .i64 dk,.bool dl,.int .i64 dn,.int .i64 dp,.slice ak.a ak.len ak.cap,.slice al.a al.len al.cap,.slice am.a am.len am.cap,.int .i64 dq,.slice an.a an.len an.cap,.slice ao.a ao.len ao.cap])/\
 K (.agg #[.bool di,.int .i64 dj,.int .i64 dk,.bool dl,.int .i64 dn,.int .i64 dp,.slice ak.a ak.len ak.cap,.slice al.a al.len al.cap,.slice am.a am.len am.cap,.int .i64 dq,.slice an.a an.len an.cap,.slice ao.a ao.len ao.cap]) ba))) d3) dt) w
theorem Zqo (a:Option Addr) (K:Value->World->Prop) (w:World) (h:B13 a K w):Zj prog 13 #[.pointer a] w K:=cq (sk:=.leaf) func13 (by kernel_rfl) (by kernel_rfl) (by kernel_rfl) h
def B14 (i:Option Addr) (f:Int) (g:Int) (K:Value->World->Prop) (w:World):Prop:=
 Zb i λ c=>
 ∃ d:Option Addr,(At (λ j=>j=w) ⟨c.block,c.off + 3,none⟩ [.pointer d])/\
 Calls prog 53 #[.pointer d,.int .i64 f,.int .i64 g] w λ e k=>
 ∃ b:Sl,(e=.returned (.slice b.a b.len b.cap))/\
 K (.slice b.a b.len b.cap) k
theorem Zqn (c:Option Addr) (a:Int) (b:Int) (K:Value->World->Prop) (w:World) (h:B14 c a b K w):Zj prog 14 #[.pointer c,.int .i64 a,.int .i64 b] w K:=cq (sk:=.leaf) func14 (by kernel_rfl) (by kernel_rfl) (by kernel_rfl) h
def B18 (e:Option Addr) (K:Value->World->Prop) (w:World):Prop:=
 Zb e λ a=>
 ∃ b:Option Addr,(At (λ f=>f=w) ⟨a.block,a.off + 3,none⟩ [.pointer b])/\
 Calls prog 39 #[.pointer b] w λ d g=>
 ∃ c:Int,(d=.returned (.int .i64 c))/\
 K (.int .i64 c) g
theorem Zqk (a:Option Addr) (K:Value->World->Prop) (w:World) (h:B18 a K w):Zj prog 18 #[.pointer a] w K:=cq (sk:=.leaf) func18 (by kernel_rfl) (by kernel_rfl) (by kernel_rfl) h
def B15 (e:Option Addr) (K:Value->World->Prop) (w:World):Prop:=
 Zb e λ a=>
 ∃ b:Option Addr,(At (λ f=>f=w) ⟨a.block,a.off + 3,none⟩ [.pointer b])/\
 Calls prog 50 #[.pointer b] w λ d g=>
 ∃ c:Int,(d=.returned (.int .i64 c))/\
 K (.int .i64 c) g
theorem Zqm (a:Option Addr) (K:Value->World->Prop) (w:World) (h:B15 a K w):Zj prog 15 #[.pointer a] w K:=cq (sk:=.leaf) func15 (by kernel_rfl) (by kernel_rfl) (by kernel_rfl) h
def B78 (e:Option Addr) (K:Value->World->Prop) (w:World):Prop:=
 Zb e λ a=>
 ∃ b:Option Addr,(At (λ f=>f=w) ⟨a.block,a.off + 3,none⟩ [.pointer b])/\
 Calls prog 155 #[.pointer b] w λ d g=>
 ∃ c:Int,(d=.returned (.int .i64 c))/\
 K (.int .i64 c) g
theorem ZpH (a:Option Addr) (K:Value->World->Prop) (w:World) (h:B78 a K w):Zj prog 78 #[.pointer a] w K:=cq (sk:=.leaf) func78 (by kernel_rfl) (by kernel_rfl) (by kernel_rfl) h
def B9 (J:Int) (au:Int) (av:Int) (aw:Int) (ax:Int) (y:Sl) (z:Sl) (A:Sl) (x:Sl) (ay:Int) (az:Int) (K:Value->World->Prop) (w:World):Prop:=
 New (.cells #[.int .i64 au,.int .i64 av] 29 (0,0)) (λ H a0=>
 New (.cells #[.int .i64 aw,.int .i64 ax,.slice y.a y.len y.cap,.slice z.a z.len z.cap,.slice A.a A.len A.cap] 35 (0,0)) (λ q a3=>
 New (.cells #[.int .i64 ay,.int .i64 az] 36 (0,0)) (λ s ak=>
 ∃ (G:World->Prop),(∃ L:Int,∃ M:Int,∃ c:Sl,∃ d:Sl,∃ e:Sl,(At (λ b=>b=ak) ⟨q,0,none⟩ [.int .i64 L,.int .i64 M,.slice c.a c.len c.cap,.slice d.a d.len d.cap,.slice e.a e.len e.cap])/\
 Calls prog 31 #[.agg #[.int .i64 L,.int .i64 M,.slice c.a c.len c.cap,.slice d.a d.len d.cap,.slice e.a e.len e.cap]] ak λ am o=>
 ∃ N:Bool,(am=.returned (.bool N))/\
 Br (!N)
 (K (.tuple #[.pointer none,.int .i64 1]) o)
 (∃ O:Int,(At (λ b=>b=o) (Addr.add ⟨s,0,none⟩ 1) [.int .i64 O])/\
 Br (decide (O<1))
 (K (.tuple #[.pointer none,.int .i64 1]) o)
 (∃ Q:Int,(At (λ b=>b=o) (Addr.add ⟨s,0,none⟩ 1) [.int .i64 Q])/\
 Br (decide (Q>64))
 (K (.tuple #[.pointer none,.int .i64 1]) o)
 (G  o))))/\
 ∀ (a5:Env)  (r:World),G  r->
 ∃ T:Int,∃ U:Int,(At (λ b=>b=r) ⟨H,0,none⟩ [.int .i64 T,.int .i64 U])/\
 ∃ f:Sl,∃ g:Sl,(At (λ b=>b=r) ⟨q,0 + 2,none⟩ [.slice f.a f.len f.cap,.slice g.a g.len g.cap])/\
 ∃ V:Int,(At (λ b=>b=r) (Addr.add ⟨s,0,none⟩ 0) [.int .i64 V])/\
 Calls prog 32 #[.int .i64 J,.agg #[.int .i64 T,.int .i64 U],.agg #[.slice f.a f.len f.cap,.slice g.a g.len g.cap],.int .i64 V] r λ an t=>
 ∃ X:Option Addr,∃ C:Int,(an=.returned (.tuple #[.pointer X,.int .i64 C]))/\
 Br (C !=0)
 (K (.tuple #[.pointer none,.int .i64 C]) t)
 (∃ Y:Int,(At (λ b=>b=t) ⟨q,0,none⟩ [.int .i64 Y])/\
 ∃ Z:Int,(At (λ b=>b=t) ⟨q,0 + 1,none⟩ [.int .i64 Z])/\
 Calls prog 33 #[.int .i64 Y,.int .i64 Z] t λ ao al=>
 ∃ D:Option Addr,∃ E:Int,(ao=.returned (.tuple #[.pointer D,.int .i64 E]))/\
 ∃ (u:Int->World->Prop),(Br (E==0)
 (Calls prog 34 #[.pointer D,.slice x.a x.len x.cap] al λ ap a4=>
 ∃ aa:Int,(ap=.returned (.int .i64 aa))/\
 u aa a4)
 (u E al))/\
 ∀ (a6:Env) (v:Int) (F:World),u v F->
 Br (v !=0)
 (K (.tuple #[.pointer none,.int .i64 v]) F)
 (Drw F λ p a1=>
 ∃ ab:Int,(At p (Addr.add ⟨s,0,none⟩ 1) [.int .i64 ab])/\
 ∃ ac:Int,∃ ad:Int,∃ i:Sl,∃ j:Sl,∃ k:Sl,(At p ⟨q,0,none⟩ [.int .i64 ac,.int .i64 ad,.slice i.a i.len i.cap,.slice j.a j.len j.cap,.slice k.a k.len k.cap])/\
 ∃ ag:Int,∃ ah:Int,(At p ⟨H,0,none⟩ [.int .i64 ag,.int .i64 ah])/\
 Calls prog 35 #[.agg #[.int .i64 ac,.int .i64 ad,.slice i.a i.len i.cap,.slice j.a j.len j.cap,.slice k.a k.len k.cap]] a1 λ aq ai=>
 ∃ ae:Int,∃ af:Int,∃ l:Sl,∃ m:Sl,∃ n:Sl,(aq=.returned (.agg #[.int .i64 ae,.int .i64 af,.slice l.a l.len l.cap,.slice m.a m.len m.cap,.slice n.a n.len n.cap]))/\
 (p ai)/\
 New (.cells #[.pointer X,.int .i64 J,.int .i64 ab,.pointer D,.int .i64 ae,.int .i64 af,.slice l.a l.len l.cap,.slice m.a m.len m.cap,.slice n.a n.len n.cap,.slice none 0 0,.slice none 0 0,.map none,.slice none 0 0,.int .i64 0,.int .i64 ag,.int .i64 ah,.bool false,.int .i64 0,.int .i64 0,.bool false,.int .i64 0,.int .i64 0,.slice none 0 0,.slice none 0 0,.slice none 0 0,.int .i64 0,.slice none 0 0,.slice none 0 0] 58 (0,0)) (λ I aj=>
 (p aj)/\
 Calls prog 36 #[.pointer ((some ⟨I,0,none⟩))] aj λ ar a2=>
 (ar=.returned (.tuple #[]))/\
 K (.tuple #[.pointer ((some ⟨I,0,none⟩)),.int .i64 0]) a2) ai))) a3) a0) w
def sk9:Sk:=(.seq .leaf (.cut [] [] [10,11,16,17,18,19,20,21,22,23,24,25,26,27,28] .leaf (.seq .leaf (.seq .leaf (.seq .leaf (.cut [13] [(.int .i64)] [13,50,51,52,53,54] .leaf .leaf))))))
theorem Zru (i:Int) (f:Int) (g:Int) (j:Int) (k:Int) (c:Sl) (d:Sl) (e:Sl) (b:Sl) (l:Int) (m:Int) (K:Value->World->Prop) (w:World) (h:B9 i f g j k c d e b l m K w):Zj prog 9 #[.int .i64 i,.agg #[.int .i64 f,.int .i64 g],.agg #[.int .i64 j,.int .i64 k,.slice c.a c.len c.cap,.slice d.a d.len d.cap,.slice e.a e.len e.cap],.slice b.a b.len b.cap,.agg #[.int .i64 l,.int .i64 m]] w K:=cq (sk:=sk9) func9 (by kernel_rfl) (by kernel_rfl) (by kernel_rfl) h
def B10 (c:Option Addr) (J:Int) (K:Value->World->Prop) (w:World):Prop:=
 Zb c λ I=>
 ∃ p:Option Addr,(At (λ b=>b=w) (Addr.add I 0) [.pointer p])/\
 Calls prog 16 #[.pointer p] w λ L y=>
 ∃ q:Int,(L=.returned (.int .i64 q))/\
 Br (q !=3)
 (Drw y λ m D=>
 Zb c λ G=>
 ∃ r:Option Addr,(At m (Addr.add G 0) [.pointer r])/\
 Zb c λ n=>
 ∃ s:Option Addr,(At (λ b=>b=D) ⟨n.block,n.off + 3,none⟩ [.pointer s])/\
 Calls prog 39 #[.pointer s] D λ M E=>
 ∃ t:Int,(M=.returned (.int .i64 t))/\
 (m E)/\
 Calls prog 40 #[.pointer c] E λ T F=>
 ∃ u:Int,(T=.returned (.int .i64 u))/\
 (m F)/\
 Calls prog 38 #[.pointer r,.int .i64 J,.int .i64 t,.int .i64 u] F λ U ag=>
 ∃ f:Sl,(U=.returned (.slice f.a f.len f.cap))/\
 Calls prog 37 #[.pointer c,.bool false,.slice f.a f.len f.cap] ag λ V ah=>
 (V=.returned (.tuple #[]))/\
 K (.tuple #[]) ah)
 (Calls prog 41 #[.pointer c] y λ X ai=>
 ∃ g:Sl,(X=.returned (.slice g.a g.len g.cap))/\
 ∃ (j:Int->World->Prop) (l:Int->World->Nat),(j 0 ai)/\∀ (ak:Env) (d:Int) (e:World),j d e->
 Br (decide (d<(↑g.len:Int)))
 (Rng d g.len (Zb g.a λ H=>
 ∃ i:Int,(At (λ b=>b=e) (Addr.add H d.toNat) [.int .i64 i])/\
 Zb c λ o=>
 ∃ v:Option Nat,(At (λ b=>b=e) ⟨o.block,o.off + 11,none⟩ [.map v])/\
 ∃ k:Option Addr,(∀ b,(λ b=>b=e) b->((Instr.lookup 55 (.map v) (.int .i64 i) false)).run prog b=.ok (.pointer k) b)/\
 Calls prog 42 #[.pointer k] e λ Y aj=>
 (Y=.returned (.tuple #[]))/\
 Calls prog 43 #[.pointer k] aj λ Z z=>
 ∃ x:Int,(Z=.returned (.int .i64 x))/\
 Br (x==2)
 (Calls prog 44 #[.pointer k,.bool false] z λ aa ad=>
 ∃ ac:Bool,(aa=.returned (.bool ac))/\
 Calls prog 45 #[.pointer c,.int .i64 i] ad λ ab ae=>
 (ab=.returned (.tuple #[]))/\
 Calls prog 46 #[.pointer c,.int .i64 i] ae λ N A=>
 (N=.returned (.tuple #[]))/\
 (j (IntKind.i64.wrap (d + 1)) A)/\l (IntKind.i64.wrap (d + 1)) A<l d e)
 (Calls prog 45 #[.pointer c,.int .i64 i] z λ O af=>
 (O=.returned (.tuple #[]))/\
 Calls prog 46 #[.pointer c,.int .i64 i] af λ Q C=>
 (Q=.returned (.tuple #[]))/\
 (j (IntKind.i64.wrap (d + 1)) C)/\l (IntKind.i64.wrap (d + 1)) C<l d e)))
 (K (.tuple #[]) e))
def sk10:Sk:=(.seq (.seq .leaf (.cond (.seq (.cond .leaf .leaf) .leaf) .leaf)) (.seq .leaf (.block (.loop [31] [(.int .i64)] [5,6,31,32,33,34,35,36,37,38,39,40,41,42,43,44,45,46,47,48,49,50,51,52,53,54] .leaf))))
theorem ZmZ (b:Option Addr) (a:Int) (K:Value->World->Prop) (w:World) (h:B10 b a K w):Zj prog 10 #[.pointer b,.int .i64 a] w K:=cq (sk:=sk10) func10 (by kernel_rfl) (by kernel_rfl) (by kernel_rfl) h
end
section
open Go Go.VC Tryz
open Go.Rf (Ey Lg ZD)
variable {R R' R1 R2:Cx} {Hs Rest Rest2:List HP} {w:World}
abbrev ZqA (v l:Sl):Value:=.agg #[.slice v.a v.len v.cap,.slice l.a l.len l.cap]
abbrev ZkD (s:Sn) (v l d:Sl):Value:=.agg #[.int .i64 s.ix,.int .i64 s.tm,.slice v.a v.len v.cap,.slice l.a l.len l.cap,.slice d.a d.len d.cap]
abbrev ZZ (s:Sn) (v l d:Sl):Obj:=.cells [.int .i64 s.ix,.int .i64 s.tm,.slice v.a v.len v.cap,.slice l.a l.len l.cap,.slice d.a d.len d.cap].toArray 35 (0,0)
abbrev ZJ (v l:Sl):Obj:=.cells [.slice v.a v.len v.cap,.slice l.a l.len l.cap].toArray 32 (0,0)
theorem ZgY {n most:Int} (hw:Sat R Hs w):Zj prog 80 #[.int .i64 n,.int .i64 most] w λ v w'=>v=.bool (Z3 n 0 most)/\Sat R Hs w':=by
 apply ZpF;unfold Z3;refine Br.d (λ h=>⟨?_,hw⟩) (λ h=>⟨by rw [decide_eq_false (by omega)],hw⟩)
 congr 1
 rw [decide_eq_decide];omega
theorem ZdQ {s:Sn} {v l d:Sl} (hg:Zd7 R s.g v l) (hd:SlR R.m d (b8 s.dt)) (hw:Sat R Hs w):Zj prog 31 #[ZkD s v l d] w λ r w'=>r=.bool (ZE s)/\Sat R Hs w':=by
 apply Zqb;unfold ZE;have hl:d.len=s.dt.length:=by have:=hd.len;simpa using this
 refine Zd hw λ b w hw=>⟨_,At.own (eqS hw) (by exact ⟨rfl,trivial⟩),?_⟩;refine (ZgY hw).use ?_;clear hw;rintro _ w ⟨rfl,hw⟩;refine ⟨_,rfl,Br.mk (λ h1=>⟨_,At.own (eqS hw) (by exact ⟨rfl,trivial⟩),?_⟩) (λ h1=>⟨by rw [h1];rfl,hw.drop⟩)⟩;refine (ZgY hw).use ?_;clear hw;rintro _ w ⟨rfl,hw⟩;refine ⟨_,rfl,Br.mk (λ h2=>⟨v,l,At.own (eqS hw) (by exact ⟨rfl,rfl,trivial⟩),?_⟩) (λ h2=>⟨by rw [h1,h2];rfl,hw.drop⟩)⟩;refine (ZaA hw hg.v hg.l).use ?_;clear hw;rintro _ w ⟨rfl,hw⟩;refine ⟨_,rfl,Br.mk (λ h3=>⟨d,At.own (eqS hw) (by exact ⟨rfl,trivial⟩),?_,hw.drop⟩) (λ h3=>⟨by rw [h1,h2,h3];rfl,hw.drop⟩)⟩;rw [h1,h2,h3,hl]
 congr 1
 rw [Bool.true_and,Bool.true_and,Bool.true_and,decide_eq_decide];omega
def SnQ (R:Cx) (Hs:List HP) (s:Sn) (v:Value) (w:World):Prop:=∃ R' a l d,R.Ext R'/\Zd7 R' s.g a l/\SlR R'.m d (b8 s.dt)/\v=ZkD s a l d/\Sat R' Hs w
theorem Zap {s:Sn} {v l d:Sl} (hg:Zd7 R s.g v l) (hd:SlR R.m d (b8 s.dt)) (h1:s.g.vs.length<=1000) (h2:s.g.ls.length<=1000) (h3:s.dt.length<=1099511627776) (hw:Sat R Hs w):
  Zj prog 35 #[ZkD s v l d] w (SnQ R Hs s):=by
 apply Zp7;refine Zd hw λ b w hw=>Zd hw λ b2 w hw=>?_;have hw:Sat R (pts b (ZZ s v l d)::pts b2 (ZZ sn0 ⟨none,0,0⟩ ⟨none,0,0⟩ ⟨none,0,0⟩)::Hs) w:=hw.swap;refine Zi (Sat R [pts b (ZZ s v l d),VC.tru]) hw (λ w hw=>hw.k1) λ w hw=>⟨v,At.own Zf (by exact ⟨rfl,trivial⟩),l,At.own Zf (by exact ⟨rfl,trivial⟩),?_⟩;refine (Zan hw hg.v h1).use ?_;clear hw;rintro _ w ⟨v',rfl,hw⟩;obtain ⟨R2,e2,hv',hw⟩:=Own.leak hw;have hv':RoI R2 v' s.g.vs:=hv'.ro (by rw [List.length_map];omega);refine ⟨v',rfl,(e2.back hw).k1,?_⟩;refine (Zan hw (e2.roI hg.l) h2).use ?_;clear hw;rintro _ w ⟨l',rfl,hw⟩;obtain ⟨R3,e3,hl',hw⟩:=Own.leak hw;have hl':RoI R3 l' s.g.ls:=hl'.ro (by rw [List.length_map];omega);refine ⟨l',rfl,((e2.trans e3).back hw).k1,?_⟩;refine Za hw (by kernel_rfl) rfl (by simp [Value.cells,Zc]) λ w hw=>?_;refine ⟨d,At.own (eqS hw) (by exact ⟨rfl,trivial⟩),?_⟩;refine (ZcD (((e2.trans e3).slR hd).ro (by rw [List.length_map];omega)) h3 hw).use ?_;clear hw;rintro _ w ⟨d',rfl,hw⟩;obtain ⟨R4,e4,hd',hw⟩:=Own.leak hw;refine ⟨d',rfl,?_⟩;refine Za hw (by kernel_rfl) rfl (by simp [Value.cells,Zc]) λ w hw=>?_;refine ⟨_,_,v',l',d',At.own (eqS hw) (by exact ⟨rfl,rfl,rfl,rfl,rfl,trivial⟩),?_⟩;have hw:=hw.swap;refine Za hw (by kernel_rfl) rfl (by simp [Value.cells,Zc]) λ w hw=>?_;exact ⟨_,_,v',l',d',At.own (eqS hw) (by exact ⟨rfl,rfl,rfl,rfl,rfl,trivial⟩),R4,v',l',d',(e2.trans e3).trans e4,⟨(e3.trans e4).roI hv',e4.roI hl'⟩,hd',rfl,hw.drop.drop⟩
def GpQ (R:Cx) (Hs:List HP) (g:Gp) (v:Value) (w:World):Prop:=∃ R' a l,R.Ext R'/\Zd7 R' g a l/\v=ZqA a l/\Sat R' Hs w
def Zx (b:List Int):Prop:=∀ x∈b,0<=x/\x<256
theorem ZhI {g:Gp} {v l s:Sl} {x:Ey} (hg:Zd7 R g v l) (hx:SlR R.m s (b8 x.dt)) (hb:Zx x.dt) (hl:x.dt.length<=1099511627776) (hw:Sat R Hs w):
  Zj prog 158 #[ZqA v l,Zio (s,x)] w (GpQ R Hs (ZV g x)):=by
 apply Zok;unfold ZV;refine Zd hw λ b1 w hw=>Zd hw λ b2 w hw=>Zd hw λ b3 w hw=>⟨_,At.own (eqS hw) (by exact ⟨rfl,trivial⟩),?_⟩;have hw:Sat R (pts b3 (ZJ ⟨none,0,0⟩ ⟨none,0,0⟩)::pts b1 (ZJ v l)::pts b2 (.cells (ZaC (s,x)).toArray 52 (0,0))::Hs) w:=hw.arr;have out:∀ {R':Cx} {w:World} {u u':Sl} {g':Gp} {X:HP},R.Ext R'->Zd7 R' g' u u'->Sat R' (pts b3 (ZJ u u')::pts b1 (ZJ v l)::X::Hs) w->∃ a a',At (λ w'=>w'=w) ⟨b3,0,none⟩ [.slice a.a a.len a.cap,.slice a'.a a'.len a'.cap]/\GpQ R Hs g' (ZqA a a') w:=
  λ {R' w u u' g' X} e hg' hw=>⟨u,u',At.own (eqS hw) (by exact ⟨rfl,rfl,trivial⟩),R',u,u',e,hg',rfl,hw.drop.drop.drop⟩
 refine Br.ne (λ h=>⟨v,l,At.own (eqS hw) (by exact ⟨rfl,rfl,trivial⟩),?_⟩) (λ h=>⟨s,At.own (eqS hw) (by exact ⟨rfl,trivial⟩),?_⟩)
 ·rw [if_pos (by simpa using h)]
  refine Za hw (by kernel_rfl) rfl (by simp [Value.cells,Zc]) λ w hw=>?_;exact out .refl hg hw
 rw [if_neg (by simpa using h)];refine (Zlt (hx.ro (by rw [List.length_map];omega)) hl hw).use ?_;clear hw;rintro _ w ⟨r,rfl,hw⟩;refine ⟨_,rfl,?_⟩;refine (Zg3 (rd:=⟨x.dt,false⟩) hb hw).use ?_;clear hw;rintro _ w ⟨rfl,hw⟩;have hv1:=Zha (most:=1099511627776) (rd:=⟨x.dt,false⟩) hb (by omega);have hb1:=Zmd (most:=1099511627776) (rd:=⟨x.dt,false⟩) hb;refine ⟨_,rfl,?_⟩;refine (Zg3 hb1 hw).use ?_;clear hw;rintro _ w ⟨rfl,hw⟩;have hv2:=Zha (most:=1099511627776) hb1 (by omega);refine ⟨_,rfl,?_⟩;refine (Zjn hw).use ?_;clear hw;rintro _ w ⟨rfl,hw⟩;have hw:=hw.drop;refine ⟨_,rfl,Br.nb (λ h2=>⟨v,l,At.own (eqS hw) (by exact ⟨rfl,rfl,trivial⟩),?_⟩) (λ h2=>⟨v,l,At.own (eqS hw) (by exact ⟨rfl,rfl,trivial⟩),?_⟩)⟩
 ·rw [if_pos (by unfold rd2;rw [h2];rfl)]
  refine Za hw (by kernel_rfl) rfl (by simp [Value.cells,Zc]) λ w hw=>?_;exact out .refl hg hw
 rw [if_neg (by unfold rd2;rw [h2];simp),Zh (by omega) (by omega),Zh (by omega) (by omega)];refine (ZeW (rd2 x.dt).1 (rd2 x.dt).2.1 hw hg.v hg.l).use ?_;clear hw;rintro _ w ⟨a,b,rfl,hw⟩;refine ⟨a,b,_,rfl,Zd hw λ b4 w hw=>?_⟩;refine Za hw (by kernel_rfl) rfl (by simp [Value.cells,Zc]) λ w hw=>?_;refine Br.e (λ h3=>⟨a,b,At.own (eqS hw) (by exact ⟨rfl,rfl,trivial⟩),?_⟩) (λ h3=>⟨v,l,At.own (eqS hw) (by exact ⟨rfl,rfl,trivial⟩),?_⟩)
 ·rw [if_pos (by simpa using h3)]
  have hlen:=ZnG g.vs g.ls (rd2 x.dt).1 (rd2 x.dt).2.1;have hw:Sat R (Own a 3 (ints (chG g.vs g.ls (rd2 x.dt).1 (rd2 x.dt).2.1).1)::Own b 3 (ints (chG g.vs g.ls (rd2 x.dt).1 (rd2 x.dt).2.1).2.1)::pts b3 (ZJ ⟨none,0,0⟩ ⟨none,0,0⟩)::pts b1 (ZJ v l)::pts b2 (.cells (ZaC (s,x)).toArray 52 (0,0))::Hs) w:=hw.drop;obtain ⟨R2,e2,ha,hw⟩:=Own.leak hw;obtain ⟨R3,e3,hb',hw⟩:=Own.leak hw;refine Za hw (by kernel_rfl) rfl (by simp [Value.cells,Zc]) λ w hw=>?_;exact out (e2.trans e3) ⟨e3.roI (ha.ro (by rw [List.length_map];omega)),hb'.ro (by rw [List.length_map];omega)⟩ hw
 ·rw [if_neg (by simpa using h3)]
  have hw:Sat R (pts b3 (ZJ ⟨none,0,0⟩ ⟨none,0,0⟩)::pts b1 (ZJ v l)::pts b2 (.cells (ZaC (s,x)).toArray 52 (0,0))::Hs) w:=hw.drop.drop.drop;refine Za hw (by kernel_rfl) rfl (by simp [Value.cells,Zc]) λ w hw=>?_;exact out .refl hg hw
end
section
open Go Go.VC Tryz
open Go.Rf (Ey Lg ZD)
variable {R R' R1 R2:Cx} {Hs Rest Rest2:List HP} {w:World}
def LgB (g:Lg):Prop:=∀ e∈g.l,Zx e.dt
theorem ZbI {α β:Type} (f:β->α->β) (b:β) {l:List α} {k:Nat} (h:k<l.length):(l.take (k + 1)).foldl f b=f ((l.take k).foldl f b) l[k]:=by
 rw [List.take_succ_eq_append_getElem h,List.foldl_append];rfl
theorem ZdV {p:Nat} {n:Rn} (ok:ZD n.log) (hb:LgB n.log) (i:Int) (hw:Sat R (NAt R p n::Hs) w):
  Zj prog 89 #[.pointer (some ⟨p,0,none⟩),.int .i64 i] w λ v w'=>∃ R' a l,R.Ext R'/\Zd7 R' (n.foldG (IntKind.i64.wrap (IntKind.i64.wrap (i + 1) - (n.log.b.ix + 1)))) a l/\v=ZqA a l/\Sat R' (NAt R' p n::Hs) w':=by
 obtain ⟨L,hn,hw⟩:=NAt.iff.1 hw;apply Zpw;refine Zd hw λ b1 w hw=>Zb.mk rfl ⟨L.sv,L.sl,At.own (eqS hw) (by exact ⟨rfl,rfl,trivial⟩),Zd hw λ b2 w hw=>?_⟩;refine Za hw (by kernel_rfl) rfl (by simp [Value.cells,Zc]) λ w hw=>?_;have hw:=hw.re (pts b2 (ZJ L.sv L.sl));refine Zi (Sat R [pts p (Ze n L),VC.tru]) hw (λ w hw=>hw.k1) λ w hw=>Zb.mk rfl ⟨_,At.own Zf (by exact ⟨rfl,trivial⟩),Zb.mk rfl ⟨_,At.own Zf (by exact ⟨rfl,trivial⟩),Zb.mk rfl ⟨_,At.own Zf (by exact ⟨rfl,trivial⟩),?_⟩⟩⟩;have hw:=hw.take (Zr R L.lp n.log);refine (ZeD ok hw).use ?_;clear hw;rintro _ w ⟨rfl,hw⟩;refine ⟨_,rfl,hw.k1,?_⟩;refine (ZeD ok hw).use ?_;clear hw;rintro _ w ⟨rfl,hw⟩;refine ⟨_,rfl,hw.k1,?_⟩;obtain ⟨m,hm⟩:∃ m,m=IntKind.i64.wrap (IntKind.i64.wrap (i + 1) - (n.log.b.ix + 1)):=⟨_,rfl⟩;rw [<-hm];refine (Zdk ok _ m hw).use ?_;clear hw;rintro _ w ⟨R2,t,ds,e2,hd,he,rfl,hw⟩;refine ⟨t,rfl,(e2.back hw).k1,?_⟩;have hin:∀ x∈ds,x.2∈n.log.l:=λ x hx=>Rf.Lg.get_in (i:=n.log.b.ix + 1) (m:=m) x.2 (by rw [<-he];exact List.mem_map_of_mem hx);have hdl:ds.length<=1099511627776:=by
  have h1:ds.length=(n.log.get (n.log.b.ix + 1) m).length:=by rw [<-he,List.length_map]
  have h2:(n.log.get (n.log.b.ix + 1) m).length<=n.log.l.length + 1:=by
   unfold Lg.get;split
   ·simp
   ·rw [List.length_take,List.length_drop];have:=Rf.all_len n.log;omega
  have h3:=ok.len;by_cases h4:n.log.l.length=n.log.l.length + 1
  ·omega
  ·have h5:(n.log.get (n.log.b.ix + 1) m).length<=n.log.l.length:=by
    unfold Lg.get;split
    ·simp
    ·rw [List.length_take,List.length_drop];have:=Rf.all_len n.log;omega
   omega
 have hsl:t.len=ds.length:=by have:=OwnN.len hw;simpa using this
 have hw:Sat R2 (pts b2 (ZJ L.sv L.sl)::Zao t ds::pts p (Ze n L)::pts b1 (ZJ ⟨none,0,0⟩ ⟨none,0,0⟩)::Zr R2 L.lp n.log::Zn R L.ep n.e::Z2 L.pm n.ps::Z0 L.rs n.rs::Zq R L.ms n.rms::ZN L.rr n.rrd::Hs) w:=hw.arr;refine ⟨λ j w=>∃ (k:Nat) (R3:Cx) (a l:Sl),j=k/\k<=ds.length/\R2.Ext R3/\Zd7 R3 ((erE (ds.take k)).foldl (Zb3 n.sn.ix) n.sn.g) a l/\
   Sat R3 (pts b2 (ZJ a l)::Zao t ds::pts p (Ze n L)::pts b1 (ZJ ⟨none,0,0⟩ ⟨none,0,0⟩)::Zr R2 L.lp n.log::Zn R L.ep n.e::Z2 L.pm n.ps::Z0 L.rs n.rs::Zq R L.ms n.rms::ZN L.rr n.rrd::Hs) w,
  λ j _=>ds.length - j.toNat,⟨0,R2,L.sv,L.sl,rfl,Nat.zero_le _,.refl,hn.sg.ext e2,hw⟩,?_⟩
 clear hw;rintro _ _ w ⟨k,R3,a,l,rfl,hk,e3,hg,hw⟩;refine Br.d (λ h=>?_) (λ h=>?_)
 ·have hk':k<ds.length:=by omega
  refine ZgE hw (eqS hw) (ds:=ds) k rfl hk' λ q _ el=>?_;refine ⟨_,_,_,_,el.z (by exact ⟨rfl,rfl,rfl,rfl,trivial⟩),Zd hw λ b3 w hw=>?_⟩;refine Za hw (by kernel_rfl) rfl (by simp [Value.cells,Zc]) λ w hw=>?_;refine Zm hw λ w hw=>⟨ds[k].2.ix,At.own Zf (by exact ⟨rfl,trivial⟩),Zb.mk rfl ⟨n.sn.ix,At.own Zf (by exact ⟨rfl,trivial⟩),?_⟩⟩;have ef:(erE (ds.take (k + 1))).foldl (Zb3 n.sn.ix) n.sn.g=Zb3 n.sn.ix ((erE (ds.take k)).foldl (Zb3 n.sn.ix) n.sn.g) ds[k].2:=by
   have:=ZbI (Zb3 n.sn.ix) n.sn.g (l:=erE ds) (k:=k) (by rw [List.length_map];exact hk');simpa [erE,<-List.map_take] using this
  rw [Zh (by omega) (by omega)];refine Br.d (λ h2=>⟨a,l,At.own (eqS hw) (by exact ⟨rfl,rfl,trivial⟩),ds[k].2.ix,ds[k].2.tm,ds[k].2.kd,ds[k].1,At.own (eqS hw) (by exact ⟨rfl,rfl,rfl,rfl,trivial⟩),?_⟩) (λ h2=>⟨⟨k + 1,R3,a,l,by omega,hk',e3,?_,hw.drop⟩,by dsimp only;omega⟩)
  ·have hx:=hin _ (List.getElem_mem hk')
   have hno:=Rf.oddE_no (ok.es.no _ hx);refine (ZhI hg (e3.slR (hd _ (List.getElem_mem hk'))) (hb _ hx) (by omega) hw).use ?_;clear hw;rintro _ w ⟨R4,a',l',e4,hg',rfl,hw⟩;refine ⟨a',l',rfl,?_⟩;have hw:=hw.drop;refine Za hw (by kernel_rfl) rfl (by simp [Value.cells,Zc]) λ w hw=>?_;refine ⟨⟨k + 1,R4,a',l',by omega,hk',e3.trans e4,?_,hw⟩,by dsimp only;omega⟩;rw [ef];unfold Zb3;rw [if_pos h2];exact hg'
  ·rw [ef];unfold Zb3;rw [if_neg h2];exact hg
 ·have:k=ds.length:=by omega
  subst this;rw [List.take_length,he] at hg;refine ⟨a,l,At.own (eqS hw) (by exact ⟨rfl,rfl,trivial⟩),?_⟩;have hw:Sat R3 (pts b1 (ZJ ⟨none,0,0⟩ ⟨none,0,0⟩)::pts b2 (ZJ a l)::Zao t ds::pts p (Ze n L)::Zr R2 L.lp n.log::Zn R L.ep n.e::Z2 L.pm n.ps::Z0 L.rs n.rs::Zq R L.ms n.rms::ZN L.rr n.rrd::Hs) w:=hw.arr;refine Za hw (by kernel_rfl) rfl (by simp [Value.cells,Zc]) λ w hw=>?_;refine ⟨a,l,At.own (eqS hw) (by exact ⟨rfl,rfl,trivial⟩),R3,a,l,e2.trans e3,?_,rfl,?_⟩
  ·unfold Rn.foldG;exact hg
  ·have hw:=hw.drop.drop.drop
   have e5:=e2.trans e3;exact NAt.iff.2 ⟨L,hn.ext e5,(show Sat R3 (pts p (Ze n L)::Zr R2 L.lp n.log::Zn R L.ep n.e::Z2 L.pm n.ps::Z0 L.rs n.rs::Zq R L.ms n.rms::ZN L.rr n.rrd::Hs) w from hw).cons λ _ h=>
    Sat.swap (Sat.cons (λ _ h=>Sat.cons (λ _ h=>h.cons λ _ h=>h.cons λ _ h=>Zq.ext h e5) (Zn.ext h e5)) (Zr.ext h e3))⟩
end
section
open Go Go.VC Tryz
open Go.Rf (Ey Lg ZD)
variable {R R' R1 R2:Cx} {Hs Rest Rest2:List HP} {w:World}
theorem ZlI {v l:List Int} {k n:Int} (h:(chG v l k n).2.2=0):Zo (chG v l k n).1 (chG v l k n).2.1=true:=
 (Zc6 (show chG v l k n=((chG v l k n).1,(chG v l k n).2.1,0) by rw [<-h])).right
theorem Zfh {g:Gp} (h:Zo g.vs g.ls=true) (x:Ey):Zo (ZV g x).vs (ZV g x).ls=true:=by
 unfold ZV;split
 ·exact h
 ·split
  ·exact h
  ·split
   ·rename_i h3;exact ZlI (by simpa using h3)
   ·exact h
theorem Zc1 {n:Rn} (h:Zo n.sn.g.vs n.sn.g.ls=true) (m:Int):Zo (n.foldG m).vs (n.foldG m).ls=true:=by
 unfold Rn.foldG;generalize n.log.get (n.log.b.ix + 1) m=l;generalize n.sn.g=g at h
 induction l generalizing g with
 |nil=>exact h
 |cons x l ih=>
  refine ih (Zb3 n.sn.ix g x) ?_;unfold Zb3;split
  ·exact Zfh h x
  ·exact h
theorem ZcR {v l:List Int} (h:Zo v l=true):(v++l).Nodup:=by
 obtain ⟨h1,h2,_,h4⟩:=ZaL.1 h;rw [List.nodup_append];refine ⟨Zay h1,Zay h2,λ a ha b hb e=>?_⟩;subst e;have:=h4 a ha;rw [ZU.2 hb] at this;cases this
theorem Zls {β:Type} {k:Int} {l:List (Int × β)} (h:k ∉ l.map (·.1)):ZB k l=none:=by
 induction l with
 |nil=>rfl
 |cons e l ih=>
  simp only [List.map_cons,List.mem_cons,not_or] at h;unfold ZB;rw [if_neg (by simpa using h.1)];exact ih h.2
theorem Zgi {β:Type} {k:Int} {v:β} {l:List (Int × β)} (h:k ∉ l.map (·.1)):ZcG k v l=l++[(k,v)]:=by
 unfold ZcG;rw [Zls h];rfl
theorem ZbT {β:Type} {k:Int} {v:β} {l:List (Int × β)} (h:ZB k l=some v):(k,v)∈l:=by
 obtain ⟨a,b,rfl,_⟩:=Zcz h;simp
theorem Sat.sub {α:Type} (f:α->HP) {l l':List α} (s:l'.Sublist l) (hw:Sat R (l.map f++Hs) w):Sat R (l'.map f++Hs) w:=by
 induction s generalizing R with
 |slnil=>exact hw
 |cons a s ih=>exact ih hw.drop
 |cons_cons a s ih=>exact hw.cons λ _ h=>ih h
abbrev PL:=List (Int × Nat × Pe)
def Zfk (pm:Option Nat) (l:PL):HP:=match pm with|none=>pur (l=[])|some m=>Zg m (l.map pEn)
theorem ZoV:ZoP prog 55 Int 3 106 (.pointer none):=⟨underlying55,underlying3,λ _=>zeroValue106 _⟩
theorem ZjL {P:Program} {T K E:TypeId} {α:Type} [BEq α] [ZaU α] {z:Value} (M:ZoP P T α K E z) (k:α) (w:World):(Instr.lookup T (.map none) (ZaU.enc k) true).run P w=.ok (.tuple #[z,.bool false]) w:=by
 have hck:=ZaU.check P (#[]:Array MapEntry).isEmpty K k w M.hK;have hfk:(Instr.findKey K (ZaU.enc k) []).run P w=.ok none w:=ZcP M.hK k [] w;unfold Instr.lookup;simp only [Sem.run_bind,run_underlying M.hT,Result.andThen,Sem.run_pure,hck,hfk,M.hz];rfl
theorem Zfk.look {pm:Option Nat} {l:PL} (hw:Sat R (Zfk pm l::Hs) w) (k:Int):
  (Instr.lookup 55 (.map pm) (.int .i64 k) true).run prog w=.ok (.tuple #[.pointer ((ZB k l).map λ t=>⟨t.1,0,none⟩),.bool (ZB k l).isSome]) w:=by
 cases pm with
 |none=>
  obtain ⟨rfl,_⟩:=Sat.pur.1 (show Sat R (pur (l=[])::Hs) w from hw)
  exact ZjL ZoV k w
 |some m=>
  have h:=Zg.look ZoV (show Sat R (Zg m (l.map pEn)::Hs) w from hw) k true
  rw [if_pos rfl] at h;have e:ZB k (l.map pEn)=(ZB k l).map λ t=>Value.pointer (some ⟨t.1,0,none⟩):=Zbv (λ t:Nat × Pe=>Value.pointer (some ⟨t.1,0,none⟩)) k l;rw [e] at h;refine h.trans ?_;cases ZB k l<;>rfl
theorem Z2.old {pm:Option Nat} {ps:Option (List (Int × Pe))} (hw:Sat R (Z2 pm ps::Hs) w):∃ l:PL,ps.getD []=l.map pOf/\Sat R (Zfk pm l::(l.map pHP++Hs)) w:=by
 cases pm with
 |none=>
  obtain ⟨h1,h2⟩:=Z2.none'.1 hw;subst h1;exact ⟨[],rfl,Sat.pur.2 ⟨rfl,h2⟩⟩
 |some m=>
  obtain ⟨l,h1,h2⟩:=Z2.some'.1 hw;subst h1;exact ⟨l,rfl,h2⟩
theorem ZdD (k:Int) (l:PL):ZB k (l.map pOf)=(ZB k l).map (·.2):=Zbv (λ t:Nat × Pe=>t.2) k l
theorem ZkW {nx wn:Int} (h0:1<=nx) (h1:nx<=1099511627776) (h2:1<=wn) (h3:wn<=64) (hw:Sat R Hs w):
  Zj prog 91 #[.int .i64 nx,.int .i64 wn] w λ v w'=>∃ b,v=.tuple #[.pointer (some ⟨b,0,none⟩),.int .i64 0]/\Sat R (ZP b (Pe.new nx wn)::Hs) w':=by
 apply Zpu;refine Br.d (λ h=>absurd h (by omega)) (λ _=>Br.d (λ h=>absurd h (by omega)) (λ _=>Br.d (λ h=>absurd h (by omega)) (λ _=>Br.d (λ h=>absurd h (by omega)) (λ _=>?_))));refine Zd hw λ b w hw=>⟨b,rfl,ZP.iff.2 ⟨⟨none,0,0⟩,?_⟩⟩;exact hw.cons λ _ h=>Zb8.own (Own.nil h)
structure Zm3 (n:Rn) (l:PL) (D:List Int) (acc:PL):Prop where
 e:acc.map pOf=D.foldl n.addP []
 k:∀ x∈acc.map (·.1),x∈D
abbrev ZbS (l:PL) (D:List Int):PL:=l.filter λ t=>!decide (t.1∈D)
theorem Zcy (l:PL) (D:List Int) (p:Int):(ZbS l (D++[p])).Sublist (ZbS l D):=by
 have:ZbS l (D++[p])=(ZbS l D).filter λ t=>!decide (t.1=p):=by
  unfold ZbS;rw [List.filter_filter]
  congr 1
  funext t
  by_cases h1:t.1=p
  ·simp [h1]
  ·simp [h1]
 rw [this];exact List.filter_sublist
theorem ZjO {l:PL} {D:List Int} {p:Int} {t:Nat × Pe} (h:ZB p l=some t) (hp:p ∉ D):∃ a c:PL,ZbS l D=a++(p,t)::c/\(ZbS l (D++[p])).Sublist (a++c):=by
 obtain ⟨a,c,rfl,_⟩:=Zcz h;refine ⟨ZbS a D,ZbS c D,?_,?_⟩
 ·unfold ZbS
  rw [List.filter_append,List.filter_cons_of_pos (by simpa using hp)]
 ·unfold ZbS
  rw [List.filter_append,List.filter_cons_of_neg (by simp)];exact (Zcy a D p).append (Zcy c D p)
abbrev PsT (acc rest:PL):HP:=Zds (acc.map pHP++rest.map pHP)
theorem PsT.sub {acc l l':PL} (s:l'.Sublist l) (hw:Sat R (PsT acc l::Hs) w):Sat R (PsT acc l'::Hs) w:=by
 have h:=Sat.star.1 hw;rw [<-List.map_append] at h;refine Sat.star.2 ?_;rw [<-List.map_append];exact Sat.sub pHP ((List.Sublist.refl acc).append s) h
theorem PsT.take {acc a c l':PL} {x:Int × Nat × Pe} (s:l'.Sublist (a++c)) (hw:Sat R (PsT acc (a++x::c)::Hs) w):Sat R (PsT (acc++[x]) l'::Hs) w:=by
 refine PsT.sub s ?_;have h:=Sat.star.1 hw;rw [<-List.map_append] at h;refine Sat.star.2 ?_;rw [<-List.map_append];refine h.perm (List.Perm.append_right Hs (List.Perm.map pHP ?_));rw [List.append_assoc];refine List.Perm.append_left acc ?_;exact List.perm_middle
theorem PsT.new {acc l:PL} {x:Int × Nat × Pe} (hw:Sat R (pHP x::PsT acc l::Hs) w):Sat R (PsT (acc++[x]) l::Hs) w:=by
 have h:Sat R (pHP x::((acc.map pHP++l.map pHP)++Hs)) w:=hw.cons λ _ h=>Sat.star.1 h;refine Sat.star.2 (h.perm ?_);rw [List.map_append,List.append_assoc,List.append_assoc,List.append_assoc];exact (List.perm_middle (l₁:=acc.map pHP) (a:=pHP x) (l₂:=l.map pHP++Hs)).symm
theorem PsT.done {acc l:PL} (hw:Sat R (PsT acc l::Hs) w):Sat R (acc.map pHP++Hs) w:=by
 have h:=Sat.star.1 (PsT.sub (List.nil_sublist l) hw);simpa using h
theorem Zmj {pre xs:List Int} (h:(pre++xs).Nodup) {k:Nat} (hk:k<xs.length):xs[k] ∉ pre++xs.take k:=by
 have e:pre++xs=(pre++xs.take k)++xs[k]::xs.drop (k + 1):=by rw [List.append_assoc,<-Zbw hk,List.take_append_drop]
 rw [e,List.nodup_append] at h;exact λ hx=>h.2.2 _ hx _ List.mem_cons_self rfl
theorem Zm3.skip {n:Rn} {l acc:PL} {D:List Int} (h:Zm3 n l D acc) {q:Int} (hq:q=n.id):Zm3 n l (D++[q]) acc:=by
 refine ⟨?_,λ x hx=>List.mem_append.2 (.inl (h.k x hx))⟩;rw [List.foldl_append,h.e];show _=n.addP _ q;unfold Rn.addP;rw [if_pos (by simp [hq])]
theorem Zm3.put {n:Rn} {l acc:PL} {D:List Int} (h:Zm3 n l D acc) {q:Int} (hq:q≠n.id) (hn:q ∉ D) {t:Nat × Pe} (ht:t.2=n.peerN q):
  Zm3 n l (D++[q]) (acc++[(q,t)])/\ZcG q (Value.pointer (some ⟨t.1,0,none⟩)) (acc.map pEn)=(acc++[(q,t)]).map pEn:=by
 have hk:q ∉ acc.map (·.1):=λ hx=>hn (h.k q hx);refine ⟨⟨?_,λ x hx=>?_⟩,?_⟩
 ·rw [List.foldl_append,<-h.e]
  show _=n.addP _ q;unfold Rn.addP;rw [if_neg (by simpa using hq),Zgi (by rw [List.map_map];exact hk),List.map_append,<-ht];rfl
 ·rw [List.map_append] at hx
  rcases List.mem_append.1 hx with hx|hx
  ·exact List.mem_append.2 (.inl (h.k x hx))
  ·exact List.mem_append.2 (.inr (by simpa using hx))
 ·rw [Zgi (by rw [List.map_map];exact hk),List.map_append];rfl
theorem Zbs {p:Nat} {n:Rn} (ok:ZD n.log) (hb:LgB n.log) (hr:Zo n.sn.g.vs n.sn.g.ls=true) (h1:1<=n.win) (h64:n.win<=64) (hw:Sat R (NAt R p n::Hs) w):
  Zj prog 36 #[.pointer (some ⟨p,0,none⟩)] w λ v w'=>v=.tuple #[]/\∃ R',R.Ext R'/\Sat R' (NAt R' p n.regroup::Hs) w':=by
 obtain ⟨L,hn,hw⟩:=NAt.iff.1 hw;apply Zp6;refine Zb.mk rfl ⟨_,At.own (eqS hw) (by exact ⟨rfl,trivial⟩),?_⟩;have hw:=hw.take (Zr R L.lp n.log);refine (ZT ok hw).use ?_;clear hw;rintro _ w ⟨rfl,hw⟩;refine ⟨_,rfl,?_⟩;have hw:Sat R (NAt R p n::Hs) w:=NAt.iff.2 ⟨L,hn,hw.arr⟩;refine (ZdV ok hb n.log.last hw).use ?_;clear hw;have hl:=ok.last_le;have h0:=ok.b0;have hll:=ok.len;have em:IntKind.i64.wrap (IntKind.i64.wrap (n.log.last + 1) - (n.log.b.ix + 1))=n.log.l.length:=by
  unfold Lg.last at *;rw [Zh (x:=n.log.b.ix + (n.log.l.length:Int) + 1) (by omega) (by omega),Zh (by omega) (by omega)];omega
 rw [em];rintro _ w ⟨R2,gv,gl,e2,hg,rfl,hw⟩;obtain ⟨g,eg⟩:∃ g,g=n.foldG n.log.l.length:=⟨_,rfl⟩;rw [<-eg] at hg;have hgr:Zo g.vs g.ls=true:=by rw [eg];exact Zc1 hr _
 obtain ⟨L,hn,hw⟩:=NAt.iff.1 hw;refine ⟨gv,gl,rfl,Zb.mk rfl ?_⟩;refine Za hw (by kernel_rfl) rfl (by simp [Value.cells,Zc]) λ w hw=>?_;have hw:=hw.re (pts p (Ze { n with g:=g } { L with gv:=gv,gl:=gl }));obtain ⟨L',eL⟩:∃ L',L'={ L with gv:=gv,gl:=gl }:=⟨_,rfl⟩;obtain ⟨n',en⟩:∃ n',n'={ n with g:=g }:=⟨_,rfl⟩;have hn':NIn R2 n' L':=by rw [en,eL];exact ⟨hg,hn.sg,hn.sd⟩
 have hw:Sat R2 (pts p (Ze n' L')::nHs R2 n' L' Hs) w:=by rw [en,eL];exact hw
 have elv:L'.gv=gv/\L'.gl=gl:=by rw [eL];exact ⟨rfl,rfl⟩
 have eng:n'.g=g/\n'.id=n.id/\n'.win=n.win/\n'.log=n.log/\n'.ps=n.ps/\n'.e=n.e:=by rw [en];exact ⟨rfl,rfl,rfl,rfl,rfl,rfl⟩
 have ern:n.regroup={ n' with e:=n'.e.join g,ps:=if n'.e.role==3 then some (n'.newPs g) else none }:=by
  rw [en];unfold Rn.regroup;rw [<-eg];rfl
 rw [ern];clear hg ern;refine Zi (Sat R2 [pts p (Ze n' L'),VC.tru]) hw (λ w hw=>hw.k1) λ w hw=>Zb.mk rfl ⟨_,At.own Zf (by exact ⟨rfl,trivial⟩),Zb.mk rfl ⟨L'.gv,L'.gl,At.own Zf (by exact ⟨rfl,rfl,trivial⟩),?_⟩⟩;have hw:=hw.take (Zn R2 L'.ep n'.e);refine (Zle hn'.g hw).use ?_;clear hw;rintro _ w ⟨rfl,hw⟩;rw [eng.1] at hw;have hw:=hw.take (pts p (Ze n' L'));refine ⟨_,rfl,Zb.mk rfl ⟨_,At.own (eqS hw) (by exact ⟨rfl,trivial⟩),?_⟩⟩;have hw:=hw.take (Zn R2 L'.ep (n'.e.join g));refine (Zai hw).use ?_;clear hw;rintro _ w ⟨rfl,hw⟩;have hrole:(n'.e.join g).role=n'.e.role:=by unfold Eln.join;split<;>rfl
 rw [hrole];have hw:=hw.take (pts p (Ze n' L'));refine ⟨_,rfl,Br.ne (λ h=>Zb.mk rfl ?_) (λ h=>?_)⟩
 ·refine Za hw (by kernel_rfl) rfl (by simp [Value.cells,Zc]) λ w hw=>?_
  rw [if_neg (by simpa using h)];have hw:=hw.re (pts p (Ze { n' with e:=n'.e.join g,ps:=none } { L' with pm:=none }));have hw2:=(hw.take (Z2 L'.pm n'.ps)).drop;refine ⟨rfl,R2,e2,NAt.iff.2 ⟨{ L' with pm:=none },⟨hn'.g,hn'.sg,hn'.sd⟩,?_⟩⟩;have hw3:Sat R2 (Z2 none none::pts p (Ze { n' with e:=n'.e.join g,ps:=none } { L' with pm:=none })::Zn R2 L'.ep (n'.e.join g)::Zr R2 L'.lp n'.log::Z0 L'.rs n'.rs::Zq R2 L'.ms n'.rms::ZN L'.rr n'.rrd::Hs) w:=Z2.none'.2 ⟨rfl,hw2⟩;exact hw3.arr
 rw [if_pos (by simpa using h)];refine Zd hw λ m2 w hw=>?_;have hw:=Zg.new (α:=Int) rfl hw;refine Zm hw λ w hw=>Zb.mk rfl ⟨L'.gv,At.own Zf (by exact ⟨rfl,trivial⟩),Zb.mk rfl ⟨L'.gl,At.own Zf (by exact ⟨rfl,trivial⟩),Zd hw λ b w hw=>?_⟩⟩;have hw:=hw.take (Z2 L'.pm n'.ps);obtain ⟨l0,hl0,hw⟩:=Z2.old hw;have hw:Sat R2 (Zfk L'.pm l0::PsT [] l0::_) w:=hw.cons λ _ h=>Sat.star.2 h;have hpeer:∀ q,n'.peer q=(ZB q l0).map (·.2):=λ q=>by unfold Rn.peer;rw [hl0,ZdD]
 have hgp:Zd7 R2 g L'.gv L'.gl:=by have:=hn'.g;rwa [eng.1] at this
 have hnd:=ZcR hgr;have hlv:=Zv (Zp hgr);have hll':=Zv (ZO hgr);obtain ⟨St,hSt⟩:∃ St:List Int->World->Prop,∀ D w,St D w↔∃ acc:PL,Zm3 n' l0 D acc/\Sat R2 (pts p (Ze n' L')::Zg m2 (acc.map pEn)::Zfk L'.pm l0::PsT acc (ZbS l0 D)::pts b (.cells [.slice L'.gv.a L'.gv.len L'.gv.cap,.slice L'.gl.a L'.gl.len L'.gl.cap].toArray 30 (0,0))::
   Zn R2 L'.ep (n'.e.join g)::Zr R2 L'.lp n'.log::Z0 L'.rs n'.rs::Zq R2 L'.ms n'.rms::ZN L'.rr n'.rrd::Hs) w:=⟨_,λ _ _=>Iff.rfl⟩
 have h0:St [] w:=(hSt _ _).2 ⟨[],⟨rfl,λ _ h=>by cases h⟩,by
  have e:ZbS l0 []=l0:=by unfold ZbS;rw [List.filter_eq_self];simp
  rw [e];have hw:Sat R2 (Zg m2 (([]:PL).map pEn)::_) w:=hw.take (Zg m2 ([]:List (Int × Value)));exact hw.arr⟩
 clear hw;refine ⟨λ j w=>(j=0/\St [] w)\/(j=1/\St g.vs w)\/(j=2/\St (g.vs++g.ls) w),λ j _=>2 - j.toNat,.inl ⟨rfl,h0⟩,?_⟩;clear h0;intro _ j w hj;refine Br.d (λ hj2=>?_) (λ hj2=>?_)
 ·obtain ⟨s,pre,xs,hat,hjr,hxs,hnd2,hlen,hst,hnext⟩:∃ (s:Sl) (pre xs:List Int),At (λ w'=>w'=w) (Addr.add ⟨b,0,none⟩ j.toNat) [.slice s.a s.len s.cap]/\(0<=j/\j<2)/\RoI R2 s xs/\(pre++xs).Nodup/\xs.length<=15/\St pre w/\
    ∀ w,St (pre++xs) w->(IntKind.i64.wrap (j + 1)=0/\St [] w)\/(IntKind.i64.wrap (j + 1)=1/\St g.vs w)\/(IntKind.i64.wrap (j + 1)=2/\St (g.vs++g.ls) w):=by
   rcases hj with ⟨rfl,hst⟩|⟨rfl,hst⟩|⟨rfl,_⟩
   ·obtain ⟨acc,_,hw⟩:=(hSt _ _).1 hst
    exact ⟨L'.gv,[],g.vs,At.own (eqS hw) (by exact ⟨rfl,trivial⟩),by omega,hgp.v,(List.nodup_append.1 hnd).1,hlv,hst,λ w h=>.inr (.inl ⟨rfl,h⟩)⟩
   ·obtain ⟨acc,_,hw⟩:=(hSt _ _).1 hst
    exact ⟨L'.gl,g.vs,g.ls,At.own (eqS hw) (by exact ⟨rfl,trivial⟩),by omega,hgp.l,hnd,hll',hst,λ w h=>.inr (.inr ⟨rfl,h⟩)⟩
   ·exact absurd hj2 (by omega)
  have hsl:=RoI.len hxs;refine Rng.mk hjr.1 (by omega) ⟨s,hat,?_⟩;refine ⟨λ i w=>∃ k:Nat,i=k/\k<=xs.length/\St (pre++xs.take k) w,λ i _=>xs.length - i.toNat,⟨0,rfl,Nat.zero_le _,by simpa using hst⟩,?_⟩;clear hst hat;rintro _ _ w ⟨k,rfl,hk,hst⟩;refine Br.d (λ h2=>?_) (λ h2=>?_)
  ·have hk':k<xs.length:=by omega
   obtain ⟨acc,hacc,hw⟩:=(hSt _ _).1 hst;clear hst;have hqn:=Zmj hnd2 hk';have ed:pre++xs.take (k + 1)=(pre++xs.take k)++[xs[k]]:=by rw [List.take_succ_eq_append_getElem hk',List.append_assoc]
   obtain ⟨q,hq⟩:∃ q,q=xs[k]:=⟨_,rfl⟩;obtain ⟨D,hD⟩:∃ D,D=pre++xs.take k:=⟨_,rfl⟩;refine RoI.idx hxs (eqS hw) hk' ?_;rw [<-hq,<-hD] at hqn ed;rw [<-hD] at hacc hw;rw [<-hq];have next:∀ w,St (D++[q]) w->(∃ k_1:Nat,IntKind.i64.wrap ((k:Int) + 1)=k_1/\k_1<=xs.length/\St (pre++xs.take k_1) w)/\xs.length - (IntKind.i64.wrap ((k:Int) + 1)).toNat<xs.length - ((k:Int)).toNat:=λ w h=>by
    rw [Zh (by omega) (by omega)];exact ⟨⟨k + 1,by omega,hk',by rw [ed];exact h⟩,by omega⟩
   refine Zb.mk rfl ⟨L'.pm,At.own (eqS hw) (by exact ⟨rfl,trivial⟩),(ZB q l0).map λ t=>⟨t.1,0,none⟩,(ZB q l0).isSome,λ w' h=>by subst h;exact Zfk.look (hw.take (Zfk L'.pm l0)) q,Zb.mk rfl ⟨n'.id,At.own (eqS hw) (by exact ⟨rfl,trivial⟩),?_⟩⟩;refine Br.e (λ h3=>next _ ?_) (λ h3=>Br.nb (λ h4=>?_) (λ h4=>?_))
   ·refine (hSt _ _).2 ⟨acc,hacc.skip h3,?_⟩
    have h5:=(hw.take (PsT acc (ZbS l0 D))).cons λ _ h=>h;have h6:=PsT.sub (Zcy l0 D q) h5;exact h6.arr
   ·have hnone:ZB q l0=none:=by simpa using h4
    refine Zi (Sat R2 [pts p (Ze n' L'),VC.tru]) hw (λ w hw=>hw.k1) λ w hw=>Zb.mk rfl ⟨_,At.own Zf (by exact ⟨rfl,trivial⟩),Zb.mk rfl ⟨n'.win,At.own Zf (by exact ⟨rfl,trivial⟩),?_⟩⟩;have hw:=hw.take (Zr R2 L'.lp n'.log);have ok':ZD n'.log:=by rw [eng.2.2.2.1];exact ok
    refine (ZT ok' hw).use ?_;clear hw;rintro _ w ⟨rfl,hw⟩;have hlast:n'.log.last=n.log.last:=by rw [eng.2.2.2.1]
    have hlb:0<=n.log.last:=by unfold Lg.last;omega
    refine ⟨_,rfl,hw.k1,?_⟩;rw [hlast,Zh (by omega) (by omega)];have emin:(if 1099511627776<n.log.last + 1 then 1099511627776 else n.log.last + 1)=min (n'.log.last + 1) 1099511627776:=by rw [hlast];split<;>omega
    rw [emin];refine (ZkW (by rw [hlast];omega) (by omega) (by rw [eng.2.2.1];exact h1) (by rw [eng.2.2.1];exact h64) hw).use ?_;clear hw;rintro _ w ⟨c,rfl,hw⟩;refine ⟨_,_,rfl,hw.k1,?_⟩;have hput:=hacc.put (q:=q) h3 hqn (t:=(c,Pe.new (min (n'.log.last + 1) 1099511627776) n'.win)) (by unfold Rn.peerN;rw [hpeer,hnone];rfl);have hw:=hw.take (Zg m2 (acc.map pEn));refine Zg.put ZoV hw q (.pointer (some ⟨c,0,none⟩)) λ w hw=>next _ ?_;rw [hput.2] at hw;have h5:Sat R2 (ZP c (Pe.new (min (n'.log.last + 1) 1099511627776) n'.win)::_) w:=hw.take (ZP c (Pe.new (min (n'.log.last + 1) 1099511627776) n'.win));have h6:=h5.cons λ _ h=>h.take (PsT acc (ZbS l0 D));have h7:=PsT.new (x:=(q,c,Pe.new (min (n'.log.last + 1) 1099511627776) n'.win)) h6;have h8:=PsT.sub (Zcy l0 D q) h7;exact (hSt _ _).2 ⟨_,hput.1,h8.arr⟩
   ·obtain ⟨t,ht⟩:=Option.isSome_iff_exists.1 h4
    obtain ⟨a,c,hac,hsub⟩:=ZjO ht hqn;have hput:=hacc.put (q:=q) h3 hqn (t:=t) (by unfold Rn.peerN;rw [hpeer,ht];rfl);rw [ht];have hw:=hw.take (Zg m2 (acc.map pEn));refine Zg.put ZoV hw q (.pointer (some ⟨t.1,0,none⟩)) λ w hw=>next _ ?_;rw [hput.2] at hw;have h6:=hw.take (PsT acc (ZbS l0 D));rw [hac] at h6;have h7:=PsT.take hsub h6;exact (hSt _ _).2 ⟨_,hput.1,h7.arr⟩
  ·have:k=xs.length:=by omega
   subst this;rw [List.take_length] at hst;refine ⟨hnext _ hst,?_⟩;rw [Zh (by omega) (by omega)];show 2 - (j + 1).toNat<2 - j.toNat;omega
 ·obtain ⟨acc,hacc,hw⟩:∃ acc:PL,Zm3 n' l0 (g.vs++g.ls) acc/\Sat R2 (pts p (Ze n' L')::Zg m2 (acc.map pEn)::Zfk L'.pm l0::PsT acc (ZbS l0 (g.vs++g.ls))::pts b (.cells [.slice L'.gv.a L'.gv.len L'.gv.cap,.slice L'.gl.a L'.gl.len L'.gl.cap].toArray 30 (0,0))::
   Zn R2 L'.ep (n'.e.join g)::Zr R2 L'.lp n'.log::Z0 L'.rs n'.rs::Zq R2 L'.ms n'.rms::ZN L'.rr n'.rrd::Hs) w:=by
   rcases hj with ⟨rfl,_⟩|⟨rfl,_⟩|⟨rfl,hst⟩
   ·exact absurd (show (0:Int)<2 by omega) hj2
   ·exact absurd (show (1:Int)<2 by omega) hj2
   ·exact (hSt _ _).1 hst
  refine Zb.mk rfl ?_;refine Za hw (by kernel_rfl) rfl (by simp [Value.cells,Zc]) λ w hw=>?_;have hw:=hw.re (pts p (Ze { n' with e:=n'.e.join g,ps:=some (n'.newPs g) } { L' with pm:=some m2 }));have h2:=(hw.take (Zg m2 (acc.map pEn))).cons λ _ h=>PsT.done (h.take (PsT acc (ZbS l0 (g.vs++g.ls))));have h3:=Z2.some'.2 ⟨acc,show some (n'.newPs g)=some (acc.map pOf) by unfold Rn.newPs;rw [hacc.e],h2⟩;have h4:=(h3.take (Zfk L'.pm l0)).drop;have h5:=(h4.take (pts b (.cells [.slice L'.gv.a L'.gv.len L'.gv.cap,.slice L'.gl.a L'.gl.len L'.gl.cap].toArray 30 (0,0)))).drop;exact ⟨rfl,R2,e2,NAt.iff.2 ⟨{ L' with pm:=some m2 },⟨hn'.g,hn'.sg,hn'.sd⟩,h5.arr⟩⟩
end
end Go.Proofs.YthpmfnffkjjlnaaGreat
namespace Go.Proofs
section
open Go.Shelf
def Tryz.sorted101_ren:Go.Shelf.Ren:=⟨λ|6=>101|8=>163|9=>118|11=>214|13=>168|12=>167|23=>224|24=>120|14=>215|15=>216|16=>217|17=>218|18=>219|19=>220|20=>221|21=>222|22=>223|25=>243|26=>244|27=>245|28=>246|29=>247|30=>248|31=>254|n=>n,λ|26=>3|28=>169|24=>30|0=>0|3=>3|37=>199|48=>224|50=>121|4=>4|40=>218|39=>217|45=>165|5=>5|9=>9|51=>243|55=>212|57=>252|58=>253|33=>142|n=>n,λ|n=>n⟩
theorem Tryz.sorted101:Go.Proofs.SlLaysZI.n6 Tryz.prog Tryz.sorted101_ren:={
  mixed:=by kernel_rfl
  f6:=⟨Tryz.f101.name,by decide,Tryz.func101.trans (congrArg some (by kernel_rfl))⟩
  f8:=⟨Tryz.f163.name,by decide,Tryz.func163.trans (congrArg some (by kernel_rfl))⟩
  f11:=⟨Tryz.f214.name,by decide,Tryz.func214.trans (congrArg some (by kernel_rfl))⟩
  t0:=Tryz.underlying0
  a0:=Tryz.isAgg0
  z0:=Tryz.sizeOf0
  v0:=Tryz.zeroValue0
  t24:=Tryz.underlying30
  a24:=Tryz.isAgg30
  z24:=Tryz.sizeOf30
  v24:=Tryz.zeroValue30
  t26:=Tryz.underlying3
  a26:=Tryz.isAgg3
  z26:=Tryz.sizeOf3
  v26:=Tryz.zeroValue3
  t28:=Tryz.underlying169
  a28:=Tryz.isAgg169
  z28:=Tryz.sizeOf169
  v28:=Tryz.zeroValue169
  i26:=by kernel_rfl }
def Tryz.sort118_ren:Go.Shelf.Ren:=⟨λ|5=>118|8=>168|7=>167|19=>224|20=>120|10=>215|11=>216|12=>217|13=>218|14=>219|15=>220|16=>221|17=>222|18=>223|30=>243|31=>244|32=>245|33=>246|34=>247|35=>248|40=>254|n=>n,λ|23=>30|25=>3|3=>3|32=>199|22=>30|0=>0|44=>224|46=>121|4=>4|36=>218|35=>217|41=>165|5=>5|9=>9|53=>243|57=>212|63=>252|64=>253|n=>n,λ|n=>n⟩
theorem Tryz.sort118:Go.Proofs.SlLaysM.n5 Tryz.prog Tryz.sort118_ren:={
  mixed:=by kernel_rfl
  f5:=⟨Tryz.f118.name,by decide,Tryz.func118.trans (congrArg some (by kernel_rfl))⟩
  f7:=⟨Tryz.f167.name,by decide,Tryz.func167.trans (congrArg some (by kernel_rfl))⟩
  f8:=Tryz.func168.trans (congrArg some (by kernel_rfl))
  f10:=⟨Tryz.f215.name,by decide,Tryz.func215.trans (congrArg some (by kernel_rfl))⟩
  f11:=⟨Tryz.f216.name,by decide,Tryz.func216.trans (congrArg some (by kernel_rfl))⟩
  f12:=⟨Tryz.f217.name,by decide,Tryz.func217.trans (congrArg some (by kernel_rfl))⟩
  f13:=⟨Tryz.f218.name,by decide,Tryz.func218.trans (congrArg some (by kernel_rfl))⟩
  f14:=⟨Tryz.f219.name,by decide,Tryz.func219.trans (congrArg some (by kernel_rfl))⟩
  f15:=⟨Tryz.f220.name,by decide,Tryz.func220.trans (congrArg some (by kernel_rfl))⟩
  f16:=⟨Tryz.f221.name,by decide,Tryz.func221.trans (congrArg some (by kernel_rfl))⟩
  f17:=⟨Tryz.f222.name,by decide,Tryz.func222.trans (congrArg some (by kernel_rfl))⟩
  f18:=⟨Tryz.f223.name,by decide,Tryz.func223.trans (congrArg some (by kernel_rfl))⟩
  f19:=Tryz.func224.trans (congrArg some (by kernel_rfl))
  f20:=Tryz.func120.trans (congrArg some (by kernel_rfl))
  f30:=⟨Tryz.f243.name,by decide,Tryz.func243.trans (congrArg some (by kernel_rfl))⟩
  f31:=Tryz.func244.trans (congrArg some (by kernel_rfl))
  f32:=Tryz.func245.trans (congrArg some (by kernel_rfl))
  f33:=⟨Tryz.f246.name,by decide,Tryz.func246.trans (congrArg some (by kernel_rfl))⟩
  f34:=⟨Tryz.f247.name,by decide,Tryz.func247.trans (congrArg some (by kernel_rfl))⟩
  f35:=⟨Tryz.f248.name,by decide,Tryz.func248.trans (congrArg some (by kernel_rfl))⟩
  f40:=⟨Tryz.f254.name,by decide,Tryz.func254.trans (congrArg some (by kernel_rfl))⟩
  t0:=Tryz.underlying0
  a0:=Tryz.isAgg0
  z0:=Tryz.sizeOf0
  v0:=Tryz.zeroValue0
  t3:=Tryz.underlying3
  a3:=Tryz.isAgg3
  z3:=Tryz.sizeOf3
  v3:=Tryz.zeroValue3
  t4:=Tryz.underlying4
  a4:=Tryz.isAgg4
  z4:=Tryz.sizeOf4
  v4:=Tryz.zeroValue4
  t5:=Tryz.underlying5
  a5:=Tryz.isAgg5
  z5:=Tryz.sizeOf5
  v5:=Tryz.zeroValue5
  t9:=Tryz.underlying9
  a9:=Tryz.isAgg9
  z9:=Tryz.sizeOf9
  v9:=Tryz.zeroValue9
  t22:=Tryz.underlying30
  a22:=Tryz.isAgg30
  z22:=Tryz.sizeOf30
  v22:=Tryz.zeroValue30
  t23:=Tryz.underlying30
  a23:=Tryz.isAgg30
  z23:=Tryz.sizeOf30
  v23:=Tryz.zeroValue30
  t25:=Tryz.underlying3
  a25:=Tryz.isAgg3
  z25:=Tryz.sizeOf3
  v25:=Tryz.zeroValue3
  t32:=Tryz.underlying199
  a32:=Tryz.isAgg199
  z32:=Tryz.sizeOf199
  v32:=Tryz.zeroValue199
  t35:=Tryz.underlying217
  a35:=Tryz.isAgg217
  z35:=Tryz.sizeOf217
  v35:=Tryz.zeroValue217
  t36:=Tryz.underlying218
  a36:=Tryz.isAgg218
  z36:=Tryz.sizeOf218
  v36:=Tryz.zeroValue218
  t41:=Tryz.underlying165
  a41:=Tryz.isAgg165
  z41:=Tryz.sizeOf165
  v41:=Tryz.zeroValue165
  t44:=Tryz.underlying224
  a44:=Tryz.isAgg224
  z44:=Tryz.sizeOf224
  v44:=Tryz.zeroValue224
  t46:=Tryz.underlying121
  a46:=Tryz.isAgg121
  z46:=Tryz.sizeOf121
  v46:=Tryz.zeroValue121
  t53:=Tryz.underlying243
  a53:=Tryz.isAgg243
  z53:=Tryz.sizeOf243
  v53:=Tryz.zeroValue243
  t57:=Tryz.underlying212
  a57:=Tryz.isAgg212
  z57:=Tryz.sizeOf212
  v57:=Tryz.zeroValue212
  t63:=Tryz.underlying252
  a63:=Tryz.isAgg252
  z63:=Tryz.sizeOf252
  v63:=Tryz.zeroValue252
  t64:=Tryz.underlying253
  a64:=Tryz.isAgg253
  z64:=Tryz.sizeOf253
  v64:=Tryz.zeroValue253 }
open Go.RowKit Go.Maps Go.Sort Go.Shelf in
theorem Tryz.sorts101 (m:Nat):AnyZI.SortsIn Tryz.prog Tryz.sorted101_ren Fence.wide m:=
  ⟨λ blk off cap ss W hH hblk hsz=>callsIn_wide.2 (AnyM.slices_Sort_int Tryz.sort118 blk off cap ss W hH hblk hsz),
   λ p cap W=>callsIn_wide.2 (AnyM.slices_Sort_int_none Tryz.sort118 p cap W)⟩
def Tryz.keys102_ren:Go.Shelf.Ren:=⟨λ|7=>102|10=>164|n=>n,λ|23=>55|26=>3|3=>106|28=>169|0=>0|27=>168|33=>142|4=>4|n=>n,λ|n=>n⟩
theorem Tryz.keys102:Go.Proofs.SlLaysZI.n7 Tryz.prog Tryz.keys102_ren:={
  mixed:=by kernel_rfl
  f7:=⟨Tryz.f102.name,by decide,Tryz.func102.trans (congrArg some (by kernel_rfl))⟩
  f10:=⟨Tryz.f164.name,by decide,Tryz.func164.trans (congrArg some (by kernel_rfl))⟩
  t0:=Tryz.underlying0
  a0:=Tryz.isAgg0
  z0:=Tryz.sizeOf0
  v0:=Tryz.zeroValue0
  t4:=Tryz.underlying4
  a4:=Tryz.isAgg4
  z4:=Tryz.sizeOf4
  v4:=Tryz.zeroValue4
  t23:=Tryz.underlying55
  a23:=Tryz.isAgg55
  z23:=Tryz.sizeOf55
  v23:=Tryz.zeroValue55
  t26:=Tryz.underlying3
  a26:=Tryz.isAgg3
  z26:=Tryz.sizeOf3
  v26:=Tryz.zeroValue3
  t27:=Tryz.underlying168
  a27:=Tryz.isAgg168
  z27:=Tryz.sizeOf168
  v27:=Tryz.zeroValue168
  t28:=Tryz.underlying169
  a28:=Tryz.isAgg169
  z28:=Tryz.sizeOf169
  v28:=Tryz.zeroValue169
  t33:=Tryz.underlying142
  a33:=Tryz.isAgg142
  z33:=Tryz.sizeOf142
  v33:=Tryz.zeroValue142 }
open Go.RowKit Go.Maps Go.Sort Go.Shelf in
theorem Tryz.maps_Keys_102 (mb:Option Nat) (W:World):CallsIn Fence.wide 5 Tryz.prog 102 #[.map mb] W λ e w'=>e=.returned (.func (.func 164) #[] #[.pointer (some ⟨W.heap.size,0,none⟩)])/\w'=W.alloc (.cells #[.map mb] 55):=
  AnyZI.keys_in Tryz.keys102 Fence.wide 5 trivial rfl mb W
open Go.RowKit Go.Maps Go.Sort Go.Shelf in
theorem Tryz.slices_Sorted_keys_101_102 {H:Type} (b nn:Nat) (D0:DataW H) (R:Value->Option (DataW H × List MemPlace)) (w:World) (hown:w.ownsMap Tryz.prog 3 R b nn D0) (hmax:Maps.size D0<=maxLen) (hbytes:Maps.size D0 * 8<=140737488355328):
    CallsIn Fence.wide 5 Tryz.prog 101 #[.func (.func 164) #[] #[.pointer (some ⟨w.heap.size,0,none⟩)]] (w.alloc (.cells #[.map (some b)] 55)) λ e w'=>∃ (v:Value) (ss:List Int),e=.returned v/\ss.Perm (intKeys D0)/\
      w'.ownsRow (w.alloc (.cells #[.map (some b)] 55)).heap.size 3 1 v ss.length ((ss.mergeSort (λ x y=>decide (x<=y))).map encZ)/\(v=.slice none 0 0↔ss=[])/\Below (w.alloc (.cells #[.map (some b)] 55)).heap.size (w.alloc (.cells #[.map (some b)] 55)) w':=by
  have hbl:=hown.lt;have hseq:SeqGives Fence.wide 2 Tryz.prog 164 #[.pointer (some ⟨w.heap.size,0,none⟩)] encZ (λ ss=>ss.Perm (intKeys D0)) (Maps.size D0) (w.alloc (.cells #[.map (some b)] 55)):=
    AnyZI.keys_gives (ρ:=Tryz.keys102_ren) { Tryz.keys102 with } Fence.wide _ trivial rfl (by omega) w.heap.size b nn D0 _ (by simp) (by simp) (by
      obtain ⟨es,clock,hb,Ft,hs,hD⟩:=hown;exact ⟨es,clock,(Below.heap_alloc _ _ b hbl).trans hb,Ft,hs,hD⟩)
  exact AnyZI.sorted_in Tryz.sorted101 Fence.wide 5 trivial trivial trivial trivial rfl (by omega) (Tryz.sorts101 _) (enters_of Tryz.func118 (by kernel_rfl) rfl) 164 #[.pointer (some ⟨w.heap.size,0,none⟩)] trivial (enters_of Tryz.func164 (by kernel_rfl) rfl) _ _ hmax hbytes _ hseq
end
end Go.Proofs
namespace Go.Proofs.YthpmfnffkjjlnaaGreat
section
open Go Go.VC Tryz
open Go.Rf (Ey Lg ZD)
variable {R R' R1 R2:Cx} {Hs Rest Rest2:List HP} {w:World}
theorem Zld {m c:Nat} {l:List (En Int)} {es:List (Int × Value)} (hs:Zbm l=es) (hst:Zb1 l c) (hu:(es.map (·.1)).Nodup) (hn:∀ k∈es.map (·.1),-1000000000<=k/\k<=1000000000) (hlen:es.length<=1000000)
  (hm:w.heap[m]? =some (.map (l.map mkE).toArray c)):
  ∃ D0:DataW Unit,w.ownsMap prog 3 (λ _=>some (.nil,[])) m 1000000 D0/\Maps.size D0<=1000000/\∀ ss:List Int,ss.Perm (intKeys D0)->ss.Perm (es.map (·.1)):=by
 have hkeys:l.map (·.1)=es.map (·.1):=by rw [<-hs];simp [Zbm,Function.comp_def]
 have hlen2:l.length=es.length:=by have:=congrArg List.length hkeys;simpa using this
 have hkey:∀ e∈l,keyOf prog 3 (mkE e).key=some (.int .i64 e.1):=λ e he=>by
  have hm:e.1∈es.map (·.1):=by rw [<-hkeys];exact List.mem_map_of_mem he
  have hsz:=hn _ hm;have hwf:(Lit.int .i64 e.1).wf=true:=by
   have h1:IntKind.i64.min=-9223372036854775808:=by decide
   have h2:IntKind.i64.max=9223372036854775807:=by decide
   simp only [Lit.wf,Bool.and_eq_true,decide_eq_true_eq];omega
  simp only [keyOf,underlying3,mkE,mapKey,ZaU.enc];rw [if_pos ⟨trivial,hwf⟩]
 have hrd:∀ e∈l,WideElems.rd prog 3 (λ _=>some ((.nil:DataW Unit),[])) (mkE e)=some (.int .i64 e.1,.nil):=λ e he=>by
  unfold WideElems.rd;rw [hkey e he];rfl
 have hrg:((l.map mkE).map (WideElems.rg prog 3 (λ _=>some ((.nil:DataW Unit),[]))))=l.map λ e=>(.int .i64 e.1,.nil):=by
  rw [List.map_map];apply List.map_congr_left;intro e he;simp only [Function.comp,WideElems.rg,hrd e he,Option.getD_some]
 refine ⟨_,⟨(l.map mkE).toArray,c,hm,⟨by simp [maxLen];omega,?_,?_⟩,by simp;omega,rfl⟩,?_,?_⟩
 ·refine ⟨λ x hx=>?_,?_,?_⟩
  ·simp only [List.mem_map] at hx
   obtain ⟨e,he,rfl⟩:=hx;exact hst.1 e he
  ·have:=hst.2;simpa [mkE,Function.comp_def] using this
  ·have h2:(l.map (·.1)).Nodup:=by rw [hkeys];exact hu
   have e1:((l.map mkE).toArray.toList.map (·.key))=(l.map (·.1)).map (Value.int .i64):=by simp [mkE,Function.comp_def,ZaU.enc]
   rw [e1];exact List.Pairwise.map _ (λ a b hab h=>hab (by injection h)) h2
 ·intro x hx
  simp only [List.mem_map] at hx;obtain ⟨e,he,rfl⟩:=hx;exact ⟨_,hrd e he⟩
 ·simp only [Maps.size,hrg]
  rw [(WideShapes.sorted_perm _).length_eq];simp;omega
 ·intro ss hss
  refine hss.trans ?_;simp only [intKeys,hrg];refine ((WideShapes.sorted_perm _).map _).trans ?_;rw [List.map_map,<-hkeys];exact List.Perm.of_eq (List.map_congr_left λ e _=>rfl)
theorem Zf6 {a b:List Int} (h:a.Perm b):ZaF a=ZaF b:=
 List.Perm.eq_of_pairwise (le:=(·<=·)) (λ a b _ _ h1 h2=>Int.le_antisymm h1 h2) (ZbN a) (ZbN b) ((Z4 a).trans (h.trans (Z4 b).symm))
theorem ZgW {m:Nat} {es:List (Int × Value)} {K:Sl->World->Prop} (hu:(es.map (·.1)).Nodup) (hn:∀ k∈es.map (·.1),-1000000000<=k/\k<=1000000000) (hlen:es.length<=1000000) (hw:Sat R (Zg m es::Hs) w)
  (k:∀ s w',Sat R (Own s 3 (ints (ZaF (es.map (·.1))))::Zg m es::Hs) w'->K s w'):
  Calls prog 102 #[.map (some m)] w λ e w1=>∃ t:Value,e=.returned t/\Calls prog 101 #[t] w1 λ e w2=>∃ t:Sl,e=.returned (.slice t.a t.len t.cap)/\K t w2:=by
 obtain ⟨l,c,hs,hst,hp⟩:=Zg.iff.1 hw;obtain ⟨D0,hown,hsz,hperm⟩:=Zld hs hst hu hn hlen hp.at;refine (callsIn_wide.1 (Tryz.maps_Keys_102 (some m) w)).mono ?_;rintro _ _ ⟨rfl,rfl⟩;refine ⟨_,rfl,?_⟩;refine (callsIn_wide.1 (Tryz.slices_Sorted_keys_101_102 m _ D0 _ w hown (by unfold maxLen;omega) (by omega))).mono ?_;rintro _ w' ⟨v,ss,rfl,hS,hrow,hnil,hb⟩;have hw1:Sat R (Zg m es::Hs) (w.alloc (.cells #[.map (some m)] 55)):=(Sat.alloc _ hw).drop;obtain ⟨s,rfl,h3⟩:=Sat.ownsRow hw1 hb hrow;refine ⟨s,rfl,k s _ ?_⟩;rw [<-Zf6 (hperm ss hS),Zel];exact h3
structure Zdt (id:Int) (ps:List (Int × Pe)):Prop where
 nd:(ps.map (·.1)).Nodup
 rg:∀ k∈ps.map (·.1),1<=k/\k<=15/\k≠id
theorem Zdt.len {id:Int} {ps:List (Int × Pe)} (h:Zdt id ps):ps.length<=15:=by
 have:=Zk3 h.nd λ x hx=>⟨(h.rg x hx).1,(h.rg x hx).2.1⟩;simpa using this
theorem Zce {p:Nat} {n:Rn} {l:List (Int × Pe)} (hp:n.ps=some l) (hk:Zdt n.id l) (hw:Sat R (NAt R p n::Hs) w):
  Zj prog 41 #[.pointer (some ⟨p,0,none⟩)] w λ v w'=>∃ s:Sl,v=.slice s.a s.len s.cap/\Sat R (Own s 3 (ints n.mem)::NAt R p n::Hs) w':=by
 obtain ⟨L,hn,hw⟩:=NAt.iff.1 hw;apply Zp2;refine Zb.mk rfl ⟨L.pm,At.own (eqS hw) (by exact ⟨rfl,trivial⟩),?_⟩;have hw:=hw.take (Z2 L.pm n.ps);cases hpm:L.pm with
 |none=>
  rw [hpm] at hw;have:=(Z2.none'.1 hw).1;rw [hp] at this;cases this
 |some m=>
 rw [hpm] at hw;obtain ⟨pl,hpl,hw⟩:=Z2.some'.1 hw;have epl:l=pl.map pOf:=by rw [hp] at hpl;exact Option.some.inj hpl
 have ek:(pl.map pEn).map (·.1)=l.map (·.1):=by rw [epl,List.map_map,List.map_map];rfl
 have hlen:=hk.len;have epll:l.length=pl.length:=by rw [epl,List.length_map]
 refine ZgW (by rw [ek];exact hk.nd) (λ k h=>by rw [ek] at h;have:=hk.rg k h;omega) (by rw [List.length_map];omega) hw λ s w hw=>⟨s,rfl,?_⟩;rw [ek] at hw;have e:n.mem=ZaF (l.map (·.1)):=by unfold Rn.mem;rw [hp];rfl
 rw [e];refine hw.cons λ _ h=>NAt.iff.2 ⟨L,hn,?_⟩;have h2:=Z2.some'.2 ⟨pl,hpl,h⟩;rw [<-hpm] at h2;have h3:Sat _ (Z2 L.pm n.ps::pts p (Ze n L)::Zn _ L.ep n.e::Zr _ L.lp n.log::Z0 L.rs n.rs::Zq _ L.ms n.rms::ZN L.rr n.rrd::Hs) _:=h2;exact h3.arr
theorem Zrn:ElN prog 41 41 71 16 192:=⟨underlying41,⟨_,underlying41⟩,by kernel_rfl⟩
abbrev Zhl (t:MLo × Mg):Value:=.agg #[.int .i64 t.2.kd,.int .i64 t.2.fr,.int .i64 t.2.to',.int .i64 t.2.tm,.int .i64 t.2.ix,.int .i64 t.2.lt,.bool t.2.yes,.int .i64 t.2.com,.int .i64 t.2.hint,.int .i64 t.2.rnd,
 .slice t.1.e.a t.1.e.len t.1.e.cap,.int .i64 t.2.sn.ix,.int .i64 t.2.sn.tm,.slice t.1.v.a t.1.v.len t.1.v.cap,.slice t.1.l.a t.1.l.len t.1.l.cap,.slice t.1.d.a t.1.d.len t.1.d.cap]
theorem Zq.push {s:Sl} {ms:List Mg} {m:Mg} {L:MLo} {b:Nat} {T':TypeId} {K:Sl->World->Prop} (hm:Zdu R m L) (hl:ms.length<=1000000000) (hw:Sat R (pts b (.cells (Zbn (L,m)).toArray T' (0,0))::Zq R s ms::Hs) w)
  (k:∀ s' w',Sat R (Zq R s' (ms++[m])::Hs) w'->K s' w'):
  ∃ w',∃ t:Sl,(Builtin.append_ #[ 41,41 ] 41 #[.slice s.a s.len s.cap,.slice (some ⟨b,0,none⟩) 1 1]).run prog w=.ok (.slice t.a t.len t.cap) w'/\K t w':=by
 obtain ⟨l,hl2,hw⟩:=Zq.iff.1 hw.swap;have hll:l.length=ms.length:=by rw [<-hl2.1,List.length_map]
 refine Zbt Zrn hw rfl rfl (by rw [List.length_map];omega) (by rw [List.length_map];omega) λ s2 w hw=>k s2 w ?_;refine Zq.iff.2 ⟨l++[(L,m)],⟨by rw [List.map_append,hl2.1];rfl,λ t ht=>?_⟩,by rw [List.map_append];exact hw⟩;rcases List.mem_append.1 ht with ht|ht
 ·exact hl2.2 t ht
 ·simp at ht;subst ht;exact hm
theorem ZbQ {p:Nat} {n:Rn} {m:Mg} {L:MLo} (hm:Zdu R m L) (hl:n.rms.length<=1000000000) (hw:Sat R (NAt R p n::Hs) w):
  Zj prog 105 #[.pointer (some ⟨p,0,none⟩),Zhl (L,m)] w λ v w'=>v=.tuple #[]/\Sat R (NAt R p (n.put m)::Hs) w':=by
 obtain ⟨N,hn,hw⟩:=NAt.iff.1 hw;apply ZlM;refine Zd hw λ b w hw=>?_;refine Zi (Sat R [pts p (Ze n N),VC.tru]) hw (λ w hw=>hw.k1) λ w hw=>Zb.mk rfl ⟨n.id,At.own Zf (by exact ⟨rfl,trivial⟩),Zb.mk rfl ⟨_,At.own Zf (by exact ⟨rfl,trivial⟩),?_⟩⟩;have hw:=hw.take (Zn R N.ep n.e);refine (Zaq hw).use ?_;clear hw;rintro _ w ⟨rfl,hw⟩;refine ⟨_,_,rfl,hw.k1,?_⟩;refine Za hw (by kernel_rfl) rfl (by simp [Value.cells,Zc]) λ w hw=>?_;refine ⟨hw.k1,?_⟩;refine Za hw (by kernel_rfl) rfl (by simp [Value.cells,Zc]) λ w hw=>?_;have hw:=hw.re (pts b (.cells (Zbn (L,{ m with fr:=n.id,tm:=n.e.hd.tm })).toArray 71 (0,0)));refine Zi (Sat R [pts b (.cells (Zbn (L,{ m with fr:=n.id,tm:=n.e.hd.tm })).toArray 71 (0,0)),pts p (Ze n N),VC.tru]) hw (λ w hw=>hw.k2) λ w hw=>Zb.mk rfl ⟨N.ms,At.own Zf (by exact ⟨rfl,trivial⟩),?_⟩;refine ⟨_,_,_,_,_,_,_,_,_,_,L.e,_,_,L.v,L.l,L.d,At.own Zf (by exact ⟨rfl,rfl,rfl,rfl,rfl,rfl,rfl,rfl,rfl,rfl,rfl,rfl,rfl,rfl,rfl,rfl,trivial⟩),Zd hw λ b2 w hw=>⟨hw.k2,?_⟩⟩;have hw:Sat R (pts b2 (.cells (Zbn (L,{ m with fr:=n.id,tm:=n.e.hd.tm })).toArray 71 (0,0))::_) w:=hw;have hw:=hw.cons λ _ h=>h.take (Zq R N.ms n.rms);refine Zq.push (m:={ m with fr:=n.id,tm:=n.e.hd.tm }) (L:=L) ⟨hm.es,hm.dr,hm.ee,hm.g,hm.d,hm.ec⟩ hl hw λ s2 w hw=>⟨hw.k2,Zb.mk rfl ?_⟩;refine Za hw (by kernel_rfl) rfl (by simp [Value.cells,Zc]) λ w hw=>?_;have hw:=hw.re (pts p (Ze (n.put m) { N with ms:=s2 }));have hw:=(hw.take (pts b (.cells (Zbn (L,{ m with fr:=n.id,tm:=n.e.hd.tm })).toArray 71 (0,0)))).drop;refine ⟨rfl,NAt.iff.2 ⟨{ N with ms:=s2 },⟨hn.g,hn.sg,hn.sd⟩,?_⟩⟩;have hw:Sat R (pts p (Ze (n.put m) { N with ms:=s2 })::Zq R s2 (n.put m).rms::Zn R N.ep (n.put m).e::Zr R N.lp (n.put m).log::Z2 N.pm (n.put m).ps::Z0 N.rs (n.put m).rs::ZN N.rr (n.put m).rrd::Hs) w:=hw;exact hw.arr
theorem ZiS {p:Nat} {n:Rn} (ok:ZD n.log) (hw:Sat R (NAt R p n::Hs) w):
  Zj prog 49 #[.pointer (some ⟨p,0,none⟩)] w λ v w'=>v=.bool n.own/\Sat R (NAt R p n::Hs) w':=by
 obtain ⟨L,hn,hw⟩:=NAt.iff.1 hw;apply ZpU;refine Zi (Sat R [pts p (Ze n L),VC.tru]) hw (λ w hw=>hw.k1) λ w hw=>Zb.mk rfl ⟨_,At.own Zf (by exact ⟨rfl,trivial⟩),Zb.mk rfl ⟨_,At.own Zf (by exact ⟨rfl,trivial⟩),?_⟩⟩;have hw:=hw.take (Zr R L.lp n.log);refine (ZF hw).use ?_;clear hw;rintro _ w ⟨rfl,hw⟩;refine ⟨_,rfl,hw.k1,?_⟩;refine (ZaS ok _ hw).use ?_;clear hw;rintro _ w ⟨rfl,hw⟩;unfold Rn.own;refine ⟨_,_,rfl,hw.k1,Br.mk (λ h=>Zb.mk rfl ⟨_,At.own (eqS hw) (by exact ⟨rfl,trivial⟩),?_⟩) (λ h=>⟨by rw [h];rfl,NAt.iff.2 ⟨L,hn,hw.arr⟩⟩)⟩;have hw:=hw.take (Zn R L.ep n.e);refine (Zaq hw).use ?_;clear hw;rintro _ w ⟨rfl,hw⟩;refine ⟨_,_,rfl,Br.mk (λ h2=>Zb.mk rfl ⟨_,At.own (eqS hw) (by exact ⟨rfl,trivial⟩),?_⟩) (λ h2=>⟨by rw [h,h2];rfl,NAt.iff.2 ⟨L,hn,hw.arr⟩⟩)⟩;refine (Zai hw).use ?_;clear hw;rintro _ w ⟨rfl,hw⟩;exact ⟨_,rfl,by rw [h,h2];rfl,NAt.iff.2 ⟨L,hn,hw.arr⟩⟩
end
section
open Go Go.VC Tryz
open Go.Rf (Ey Lg ZD)
variable {R R' R1 R2:Cx} {Hs Rest Rest2:List HP} {w:World} {p:Nat} {n:Rn}
theorem NAt.mkX {L:NLo} (hn:NIn R1 n L) (e:R1.Ext R) (hw:Sat R (pts p (Ze n L)::Zn R1 L.ep n.e::Zr R L.lp n.log::Z2 L.pm n.ps::Z0 L.rs n.rs::Zq R1 L.ms n.rms::ZN L.rr n.rrd::Hs) w):Sat R (NAt R p n::Hs) w:=
 NAt.iff.2 ⟨L,hn.ext e,hw.cons λ _ h=>Sat.cons (λ _ h=>h.cons λ _ h=>h.cons λ _ h=>h.cons λ _ h=>Zq.ext h e) (Zn.ext h e)⟩
structure RnG (n:Rn):Prop where
 lg:ZD n.log
 lb:LgB n.log
 sg:Zo n.sn.g.vs n.sn.g.ls=true
 w1:1<=n.win
 w64:n.win<=64
theorem ZfH (ok:RnG n) (i:Int) (hw:Sat R (NAt R p n::Hs) w):
  Zj prog 159 #[.pointer (some ⟨p,0,none⟩),.int .i64 i] w λ v w'=>v=.tuple #[]/\∃ R',R.Ext R'/\Sat R' (NAt R' p (n.fresh i)::Hs) w':=by
 obtain ⟨L,hn,hw⟩:=NAt.iff.1 hw;apply Zoj;have go:∀ {n':Rn} {w:World},n'={ n with rfr:=if n.rfr==0||decide (i<n.rfr) then i else n.rfr }->Sat R (pts p (Ze n' L)::nHs R n L Hs) w->
   Calls prog 36 #[.pointer (some ⟨p,0,none⟩)] w λ e w_2=>(e=.returned (.tuple #[]))/\(Value.tuple #[]=.tuple #[]/\∃ R',R.Ext R'/\Sat R' (NAt R' p (n.fresh i)::Hs) w_2):=λ {n' w} e hw=>by
  subst e;refine (Zbs (n:={ n with rfr:=if n.rfr==0||decide (i<n.rfr) then i else n.rfr }) ok.lg ok.lb ok.sg ok.w1 ok.w64 (NAt.iff.2 ⟨L,⟨hn.g,hn.sg,hn.sd⟩,hw⟩)).use ?_
  rintro _ w ⟨rfl,R',e,hw⟩;exact ⟨rfl,rfl,R',e,hw⟩
 refine Zb.mk rfl ⟨n.rfr,At.own (eqS hw) (by exact ⟨rfl,trivial⟩),Br.e (λ h=>Zb.mk rfl ?_) (λ h=>Zb.mk rfl ⟨n.rfr,At.own (eqS hw) (by exact ⟨rfl,trivial⟩),Br.d (λ h2=>Zb.mk rfl ?_) (λ h2=>?_)⟩)⟩
 ·refine Za hw (by kernel_rfl) rfl (by simp [Value.cells,Zc]) λ w hw=>?_
  exact go (n':={ n with rfr:=i }) (by rw [if_pos (by simp [h])]) hw
 ·refine Za hw (by kernel_rfl) rfl (by simp [Value.cells,Zc]) λ w hw=>?_
  exact go (n':={ n with rfr:=i }) (by rw [if_pos (by simp [h2])]) hw
 ·exact go (n':=n) (by rw [if_neg (by simp [h];omega)]) hw
theorem ZfL {d:Sl} {dt:List Int} (ok:RnG n) (kd:Int) (hd:SlR R.m d (b8 dt)) (hdb:Zx dt) (hw:Sat R (NAt R p n::Hs) w):
  Zj prog 92 #[.pointer (some ⟨p,0,none⟩),.int .i64 kd,.slice d.a d.len d.cap] w λ v w'=>v=.tuple #[.int .i64 (n.enter kd dt).1.1,.int .i64 (n.enter kd dt).1.2]/\∃ R',R.Ext R'/\Sat R' (NAt R' p (n.enter kd dt).2::Hs) w':=by
 obtain ⟨L,hn,hw⟩:=NAt.iff.1 hw;apply Zpt;have hl:=ok.lg.last_le;have h0:=ok.lg.b0;have hl0:0<=n.log.last:=by unfold Lg.last;omega
 refine Zb.mk rfl ⟨_,At.own (eqS hw) (by exact ⟨rfl,trivial⟩),?_⟩;have hw:=hw.take (Zr R L.lp n.log);refine (ZT ok.lg hw).use ?_;clear hw;rintro _ w ⟨rfl,hw⟩;refine ⟨_,rfl,?_⟩;rw [Zh (by omega) (by omega)];refine Zi (Sat R [pts p (Ze n L),VC.tru]) hw (λ w hw=>hw.k1) λ w hw=>Zb.mk rfl ⟨_,At.own Zf (by exact ⟨rfl,trivial⟩),Zb.mk rfl ⟨_,At.own Zf (by exact ⟨rfl,trivial⟩),?_⟩⟩;have hw:=hw.take (Zn R L.ep n.e);refine (Zaq hw).use ?_;clear hw;rintro _ w ⟨rfl,hw⟩;refine ⟨_,_,rfl,hw.k1,Zd hw λ b w hw=>⟨hw.k1,?_⟩⟩;obtain ⟨x,hx⟩:∃ x:Ey,x=⟨n.log.last + 1,n.e.hd.tm,kd,dt⟩:=⟨_,rfl⟩;have hw:=hw.re (pts b (.cells (ZaC (d,x)).toArray 52 (0,0))) (by rw [hx]);have hw:=OwnN.of_pts (n:=4) (cap:=1) (rest:=[]) (rows:=[(d,x)].map ZaC) (Wid.one rfl) rfl hw;have hw:=hw.re (Zao ⟨some ⟨b,0,none⟩,1,1⟩ [(d,x)]);have hw:=(hw.take (Zr R L.lp n.log)).cons λ _ h=>h.take (Zao ⟨some ⟨b,0,none⟩,1,1⟩ [(d,x)]);refine (Zhq ok.lg (Rdg.own (n:=4) (T:=52) (rows:=[(d,x)].map ZaC)) (.one (by rw [hx];exact hd)) (by simp) hw).use ?_;clear hw;rintro _ w ⟨R2,e2,rfl,hw⟩;have ee:erE [(d,x)]=[⟨n.log.last + 1,n.e.hd.tm,kd,dt⟩]:=by rw [hx];rfl
 rw [ee] at hw ⊢;refine ⟨_,rfl,(e2.back hw).k1,?_⟩;have hw:=(hw.take (Zao ⟨some ⟨b,0,none⟩,1,1⟩ [(d,x)])).drop;unfold Rn.enter;dsimp only;obtain ⟨r,hr⟩:∃ r,r=n.log.add [⟨n.log.last + 1,n.e.hd.tm,kd,dt⟩]:=⟨_,rfl⟩;have okr:ZD r.2:=by rw [hr];exact ok.lg.add _
 have same:r.1≠0->r.2=n.log:=λ h=>by
  rw [hr] at h ⊢;unfold Lg.add at h ⊢;split
  ·rfl
  ·split
   ·rename_i h1 h2;rw [if_neg h1,if_pos h2] at h;exact absurd rfl h
   ·rfl
 have hbr:LgB r.2:=by
  rw [hr];unfold Lg.add;split
  ·exact ok.lb
  ·split
   ·intro e he
    rcases List.mem_append.1 he with he|he
    ·exact ok.lb e he
    ·simp at he;subst he;exact hdb
   ·exact ok.lb
 rw [<-hr] at hw ⊢;have hw:Sat R2 (pts p (Ze { n with log:=r.2 } L)::Zn R L.ep n.e::Zr R2 L.lp r.2::Z2 L.pm n.ps::Z0 L.rs n.rs::Zq R L.ms n.rms::ZN L.rr n.rrd::Hs) w:=hw.arr;have hw:=NAt.mkX (n:={ n with log:=r.2 }) ⟨hn.g,hn.sg,hn.sd⟩ e2 hw;refine Br.ne (λ h=>?_) (λ h=>?_)
 ·rw [if_pos (by simpa using h)]
  refine ⟨rfl,R2,e2,?_⟩;have e:{ n with log:=r.2 }=n:=by rw [same h]
  rwa [e] at hw
 ·rw [if_neg (by simpa using h)]
  refine (ZfH (n:={ n with log:=r.2 }) ⟨okr,hbr,ok.sg,ok.w1,ok.w64⟩ (n.log.last + 1) hw).use ?_;rintro _ w ⟨rfl,R3,e3,hw⟩;exact ⟨rfl,rfl,R3,e2.trans e3,hw⟩
end
section
open Go Go.VC Tryz
open Go.Rf (Ey Lg ZD)
variable {R R' R1 R2:Cx} {Hs Rest Rest2:List HP} {w:World} {p:Nat} {n:Rn}
def Zag (R:Cx) (p:Nat) (n:Rn) (pm:Option Nat) (P:HP):HP:=exs λ L:NLo=>Zds (pur (NIn R n L/\L.pm=pm)::pts p (Ze n L)::[Zn R L.ep n.e,Zr R L.lp n.log,P,Z0 L.rs n.rs,Zq R L.ms n.rms,ZN L.rr n.rrd])
theorem Zag.iff {pm:Option Nat} {P:HP}:Sat R (Zag R1 p n pm P::Hs) w↔∃ L,(NIn R1 n L/\L.pm=pm)/\Sat R (pts p (Ze n L)::Zn R1 L.ep n.e::Zr R1 L.lp n.log::P::Z0 L.rs n.rs::Zq R1 L.ms n.rms::ZN L.rr n.rrd::Hs) w:=by
 constructor
 ·intro h
  obtain ⟨L,h⟩:=Sat.exs.1 h;obtain ⟨h1,h⟩:=Sat.pur.1 (Sat.star.1 h);exact ⟨L,h1,h⟩
 ·rintro ⟨L,h1,h⟩
  exact Sat.exs.2 ⟨L,Sat.star.2 (Sat.pur.2 ⟨h1,h⟩)⟩
theorem Zag.of (hw:Sat R (NAt R1 p n::Hs) w):∃ pm,Sat R (Zag R1 p n pm (Z2 pm n.ps)::Hs) w:=by
 obtain ⟨L,hn,hw⟩:=NAt.iff.1 hw;exact ⟨L.pm,Zag.iff.2 ⟨L,⟨hn,rfl⟩,hw⟩⟩
theorem Zag.to {pm:Option Nat} (hw:Sat R (Zag R1 p n pm (Z2 pm n.ps)::Hs) w):Sat R (NAt R1 p n::Hs) w:=by
 obtain ⟨L,⟨hn,rfl⟩,hw⟩:=Zag.iff.1 hw;exact NAt.iff.2 ⟨L,hn,hw⟩
theorem Zag.ext {pm:Option Nat} {P:HP} (hw:Sat R (Zag R1 p n pm P::Hs) w) (e:R1.Ext R2):Sat R (Zag R2 p n pm P::Hs) w:=by
 obtain ⟨L,hn,hw⟩:=Zag.iff.1 hw;refine Zag.iff.2 ⟨L,⟨hn.1.ext e,hn.2⟩,hw.cons λ _ h=>?_⟩;exact Sat.cons (λ _ h=>Sat.cons (λ _ h=>h.cons λ _ h=>h.cons λ _ h=>Zq.ext h e) (Zr.ext h e)) (Zn.ext h e)
theorem Zag.mkX {L:NLo} {pm:Option Nat} {P:HP} (hn:NIn R1 n L) (hp:L.pm=pm) (e:R1.Ext R) (hw:Sat R (pts p (Ze n L)::Zn R1 L.ep n.e::Zr R L.lp n.log::P::Z0 L.rs n.rs::Zq R1 L.ms n.rms::ZN L.rr n.rrd::Hs) w):Sat R (Zag R p n pm P::Hs) w:=
 Zag.iff.2 ⟨L,⟨hn.ext e,hp⟩,hw.cons λ _ h=>Sat.cons (λ _ h=>h.cons λ _ h=>h.cons λ _ h=>h.cons λ _ h=>Zq.ext h e) (Zn.ext h e)⟩
theorem Zer {pm:Option Nat} {P:HP} {m:Mg} {L:MLo} (hm:Zdu R m L) (hl:n.rms.length<=1000000000) (hw:Sat R (Zag R p n pm P::Hs) w):
  Zj prog 105 #[.pointer (some ⟨p,0,none⟩),Zhl (L,m)] w λ v w'=>v=.tuple #[]/\Sat R (Zag R p (n.put m) pm P::Hs) w':=by
 obtain ⟨N,hn,hw⟩:=Zag.iff.1 hw;apply ZlM;refine Zd hw λ b w hw=>?_;refine Zi (Sat R [pts p (Ze n N),VC.tru]) hw (λ w hw=>hw.k1) λ w hw=>Zb.mk rfl ⟨n.id,At.own Zf (by exact ⟨rfl,trivial⟩),Zb.mk rfl ⟨_,At.own Zf (by exact ⟨rfl,trivial⟩),?_⟩⟩;have hw:=hw.take (Zn R N.ep n.e);refine (Zaq hw).use ?_;clear hw;rintro _ w ⟨rfl,hw⟩;refine ⟨_,_,rfl,hw.k1,?_⟩;refine Za hw (by kernel_rfl) rfl (by simp [Value.cells,Zc]) λ w hw=>?_;refine ⟨hw.k1,?_⟩;refine Za hw (by kernel_rfl) rfl (by simp [Value.cells,Zc]) λ w hw=>?_;have hw:=hw.re (pts b (.cells (Zbn (L,{ m with fr:=n.id,tm:=n.e.hd.tm })).toArray 71 (0,0)));refine Zi (Sat R [pts b (.cells (Zbn (L,{ m with fr:=n.id,tm:=n.e.hd.tm })).toArray 71 (0,0)),pts p (Ze n N),VC.tru]) hw (λ w hw=>hw.k2) λ w hw=>Zb.mk rfl ⟨N.ms,At.own Zf (by exact ⟨rfl,trivial⟩),?_⟩;refine ⟨_,_,_,_,_,_,_,_,_,_,L.e,_,_,L.v,L.l,L.d,At.own Zf (by exact ⟨rfl,rfl,rfl,rfl,rfl,rfl,rfl,rfl,rfl,rfl,rfl,rfl,rfl,rfl,rfl,rfl,trivial⟩),Zd hw λ b2 w hw=>⟨hw.k2,?_⟩⟩;have hw:Sat R (pts b2 (.cells (Zbn (L,{ m with fr:=n.id,tm:=n.e.hd.tm })).toArray 71 (0,0))::_) w:=hw;have hw:=hw.cons λ _ h=>h.take (Zq R N.ms n.rms);refine Zq.push (m:={ m with fr:=n.id,tm:=n.e.hd.tm }) (L:=L) ⟨hm.es,hm.dr,hm.ee,hm.g,hm.d,hm.ec⟩ hl hw λ s2 w hw=>⟨hw.k2,Zb.mk rfl ?_⟩;refine Za hw (by kernel_rfl) rfl (by simp [Value.cells,Zc]) λ w hw=>?_;have hw:=hw.re (pts p (Ze (n.put m) { N with ms:=s2 }));have hw:=(hw.take (pts b (.cells (Zbn (L,{ m with fr:=n.id,tm:=n.e.hd.tm })).toArray 71 (0,0)))).drop;refine ⟨rfl,Zag.iff.2 ⟨{ N with ms:=s2 },⟨⟨hn.1.g,hn.1.sg,hn.1.sd⟩,hn.2⟩,?_⟩⟩;have hw:Sat R (pts p (Ze (n.put m) { N with ms:=s2 })::Zq R s2 (n.put m).rms::Zn R N.ep (n.put m).e::Zr R N.lp (n.put m).log::P::Z0 N.rs (n.put m).rs::ZN N.rr (n.put m).rrd::Hs) w:=hw;exact hw.arr
def ZA (m:Nat) (q:Int) (b:Nat) (l:List (Int × Pe)):HP:=exs λ a:PL=>exs λ c:PL=>exs λ x:Pe=>
 Zds (pur (l=(a++(q,b,x)::c).map pOf/\ZB q (a.map pOf)=none)::Zg m ((a++(q,b,x)::c).map pEn)::(a.map pHP++c.map pHP))
theorem ZA.iff {m b:Nat} {q:Int} {l:List (Int × Pe)}:Sat R (ZA m q b l::Hs) w↔∃ (a c:PL) (x:Pe),(l=(a++(q,b,x)::c).map pOf/\ZB q (a.map pOf)=none)/\Sat R (Zg m ((a++(q,b,x)::c).map pEn)::((a.map pHP++c.map pHP)++Hs)) w:=by
 constructor
 ·intro h
  obtain ⟨a,h⟩:=Sat.exs.1 h;obtain ⟨c,h⟩:=Sat.exs.1 h;obtain ⟨x,h⟩:=Sat.exs.1 h;obtain ⟨h1,h⟩:=Sat.pur.1 (Sat.star.1 h);exact ⟨a,c,x,h1,h⟩
 ·rintro ⟨a,c,x,h1,h⟩
  exact Sat.exs.2 ⟨a,Sat.exs.2 ⟨c,Sat.exs.2 ⟨x,Sat.star.2 (Sat.pur.2 ⟨h1,h⟩)⟩⟩⟩
theorem Z2.hole {m:Nat} {l:List (Int × Pe)} {q:Int} {x:Pe} (hx:ZB q l=some x) (hw:Sat R (Z2 (some m) (some l)::Hs) w):∃ b,Sat R (ZP b x::ZA m q b l::Hs) w:=by
 obtain ⟨pl,hpl,hw⟩:=Z2.some'.1 hw;have hpl:=Option.some.inj hpl;rw [hpl,ZdD] at hx;obtain ⟨t,ht,rfl⟩:=Option.map_eq_some_iff.1 hx;obtain ⟨a,c,e,hn⟩:=Zcz ht;obtain ⟨b,x⟩:=t;refine ⟨b,?_⟩;subst e;have h2:Sat R (ZP b x::Zg m ((a++(q,b,x)::c).map pEn)::((a.map pHP++c.map pHP)++Hs)) w:=by
  refine hw.perm ?_;have e2:(a++(q,b,x)::c).map pHP++Hs=a.map pHP++(pHP (q,b,x)::(c.map pHP++Hs)):=by rw [List.map_append,List.map_cons,List.append_assoc];rfl
  rw [e2,List.append_assoc (a.map pHP)];exact (List.Perm.cons _ (List.perm_middle (l₁:=a.map pHP) (a:=pHP (q,b,x)) (l₂:=c.map pHP++Hs))).trans (List.Perm.swap _ _ _)
 exact h2.cons λ _ h=>ZA.iff.2 ⟨a,c,x,⟨hpl,by rw [ZdD,hn];rfl⟩,h⟩
theorem ZA.close {m b:Nat} {q:Int} {l:List (Int × Pe)} {y:Pe} (hw:Sat R (ZP b y::ZA m q b l::Hs) w):Sat R (Z2 (some m) (some (Zbq q y l))::Hs) w:=by
 obtain ⟨a,c,x,⟨e,hn⟩,hw⟩:=ZA.iff.1 hw.swap;refine Z2.some'.2 ⟨a++(q,b,y)::c,?_,?_⟩
 ·rw [e,List.map_append,List.map_cons,List.map_append,List.map_cons]
  rw [show pOf (q,b,x)=(q,x) from rfl,Zf8 hn (by simp)]
 ·have h2:Sat R (Zg m ((a++(q,b,y)::c).map pEn)::((a.map pHP++c.map pHP)++(ZP b y::Hs))) w:=by
   rw [show (a++(q,b,y)::c).map pEn=(a++(q,b,x)::c).map pEn by rw [List.map_append,List.map_append];rfl];exact hw
  refine h2.cons λ _ h=>h.perm ?_;have e2:(a++(q,b,y)::c).map pHP++Hs=a.map pHP++(pHP (q,b,y)::(c.map pHP++Hs)):=by rw [List.map_append,List.map_cons,List.append_assoc];rfl
  rw [e2,List.append_assoc (a.map pHP)];refine List.Perm.append_left _ ?_;exact List.perm_middle
theorem ZA.look {m b:Nat} {q:Int} {l:List (Int × Pe)} (hw:Sat R (ZA m q b l::Hs) w) (c:Bool):
  (Instr.lookup 55 (.map (some m)) (.int .i64 q) c).run prog w=.ok (if c then .tuple #[.pointer (some ⟨b,0,none⟩),.bool true] else .pointer (some ⟨b,0,none⟩)) w:=by
 obtain ⟨a,d,x,⟨_,hn⟩,hw⟩:=ZA.iff.1 hw;have h:=Zg.look ZoV hw q c;have e:ZB q ((a++(q,b,x)::d).map pEn)=some (.pointer (some ⟨b,0,none⟩)):=by
  rw [List.map_append,List.map_cons];refine Zi5 ?_ (by simp);have h1:ZB q (a.map pOf)=(ZB q a).map (·.2):=ZdD q a;have h2:ZB q (a.map pEn)=(ZB q a).map λ t=>Value.pointer (some ⟨t.1,0,none⟩):=Zbv (λ t:Nat × Pe=>Value.pointer (some ⟨t.1,0,none⟩)) q a;rw [h1] at hn;rw [h2];cases hq:ZB q a with
  |none=>rfl
  |some t=>rw [hq] at hn;cases hn
 rw [e] at h;exact h
theorem NAt.focus {l:List (Int × Pe)} {q:Int} {x:Pe} (hp:n.ps=some l) (hx:ZB q l=some x) (hw:Sat R (NAt R1 p n::Hs) w):∃ m b,Sat R (ZP b x::Zag R1 p n (some m) (ZA m q b l)::Hs) w:=by
 obtain ⟨pm,hw⟩:=Zag.of hw;obtain ⟨L,hn,hw⟩:=Zag.iff.1 hw;have hw:=hw.take (Z2 pm n.ps);rw [hp] at hw;cases pm with
 |none=>exact absurd (Z2.none'.1 hw).1 (by simp)
 |some m=>
  obtain ⟨b,hw⟩:=Z2.hole hx hw;exact ⟨m,b,hw.cons λ _ h=>Zag.iff.2 ⟨L,hn,h.arr⟩⟩
theorem Zag.close {m b:Nat} {l:List (Int × Pe)} {q:Int} {y:Pe} (hp:n.ps=some l) (hw:Sat R (ZP b y::Zag R1 p n (some m) (ZA m q b l)::Hs) w):Sat R (NAt R1 p (n.setP q y)::Hs) w:=by
 obtain ⟨L,hn,hw⟩:=Zag.iff.1 hw.swap;have hw:=hw.take (ZA m q b l);have hw:=ZA.close (hw.take (ZP b y));have e:(n.setP q y).ps=some (Zbq q y l):=by unfold Rn.setP;rw [hp];rfl
 rw [<-e] at hw;exact Zag.to (Zag.iff.2 ⟨L,⟨⟨hn.1.g,hn.1.sg,hn.1.sd⟩,hn.2⟩,(show Sat R (Z2 (some m) (n.setP q y).ps::pts p (Ze (n.setP q y) L)::Zn R1 L.ep (n.setP q y).e::Zr R1 L.lp (n.setP q y).log::Z0 L.rs (n.setP q y).rs::Zq R1 L.ms (n.setP q y).rms::ZN L.rr (n.setP q y).rrd::Hs) w from hw).arr⟩)
theorem Zg0 {β:Type} {k:Int} {v:β}:∀ {l:List (Int × β)},ZB k l=some v->Zbq k v l=l
 |[],h=>by cases h
 |e::l,h=>by
  unfold ZB at h;unfold Zbq;by_cases h1:(k==e.1)=true
  ·rw [if_pos h1] at h ⊢
   rw [<-Option.some.inj h]
  ·rw [if_neg h1] at h ⊢
   rw [Zg0 h]
theorem Za9 {l:List (Int × Pe)} {q:Int} {x:Pe} (hp:n.ps=some l) (hx:ZB q l=some x):n.setP q x=n:=by
 unfold Rn.setP;rw [hp,Option.map_some,Zg0 hx,<-hp]
def ml0:MLo:=⟨⟨none,0,0⟩,[],⟨none,0,0⟩,⟨none,0,0⟩,⟨none,0,0⟩⟩
theorem Zdu.nil {m:Mg} (h1:m.es=[]) (h2:m.sn=sn0):Zdu R m ml0:=by
 refine ⟨⟨Wid.nil,rfl,λ h=>absurd rfl h⟩,.nil,h1.symm,?_,?_,Nat.le_refl _⟩
 ·rw [h2];exact ⟨⟨rfl,by simp [sn0],λ h=>absurd rfl h⟩,⟨rfl,by simp [sn0],λ h=>absurd rfl h⟩⟩
 ·rw [h2];exact ⟨rfl,Nat.le_refl _,λ h=>absurd rfl h⟩
theorem ZhL {l:List (Int × Pe)} {q:Int} {x:Pe} (hp:n.ps=some l) (hx:ZB q l=some x) (hl:n.rms.length<=1000000000) (hw:Sat R (NAt R p n::Hs) w):
  Zj prog 45 #[.pointer (some ⟨p,0,none⟩),.int .i64 q] w λ v w'=>v=.tuple #[]/\Sat R (NAt R p (n.beat q)::Hs) w':=by
 obtain ⟨m,b,hw⟩:=NAt.focus hp hx hw;obtain ⟨L,hn,hw⟩:=Zag.iff.1 hw.swap;apply ZpY;refine Zi (Sat R [ZA m q b l,pts p (Ze n L),VC.tru]) hw (λ w hw=>hw.k2) λ w hw=>Zb.mk rfl ⟨some m,by rw [<-hn.2];exact At.own (eqS hw) (by exact ⟨rfl,trivial⟩),some ⟨b,0,none⟩,λ w' h=>by subst h;exact ZA.look (hw.take (ZA m q b l)) false,Zb.mk rfl ⟨_,At.own Zf (by exact ⟨rfl,trivial⟩),Zb.mk rfl ⟨n.rnd,At.own Zf (by exact ⟨rfl,trivial⟩),?_⟩⟩⟩;refine (ZcW (hw.take (ZP b x))).use ?_;clear hw;rintro _ w ⟨rfl,hw⟩;refine ⟨_,rfl,hw.k2,?_⟩;refine (ZF (hw.take (Zr R L.lp n.log))).use ?_;clear hw;rintro _ w ⟨rfl,hw⟩;refine ⟨_,rfl,hw.k2,?_⟩;have hw:Sat R (Zag R p n (some m) (ZA m q b l)::ZP b x::Hs) w:=Zag.iff.2 ⟨L,hn,hw.arr⟩;have em:(if n.log.com<x.mt then n.log.com else x.mt)=min x.mt n.log.com:=by split<;>omega
 rw [em];refine (Zer (m:={ kd:=7,to':=q,com:=min x.mt n.log.com,rnd:=n.rnd }) (Zdu.nil rfl rfl) hl hw).use ?_;rintro _ w ⟨rfl,hw⟩;refine ⟨rfl,rfl,?_⟩;have h2:=Zag.close (n:=n.put { kd:=7,to':=q,com:=min x.mt n.log.com,rnd:=n.rnd }) hp hw.swap;rw [Za9 (n:=n.put _) hp hx] at h2;have e:n.beat q=n.put { kd:=7,to':=q,com:=min x.mt n.log.com,rnd:=n.rnd }:=by
  unfold Rn.beat Rn.peer;rw [hp,Option.getD_some,hx];rfl
 rw [e];exact h2
theorem ZgL (l:List Int):∀ n:Rn,(l.foldl Rn.beat n).ps=n.ps/\(l.foldl Rn.beat n).rms.length=n.rms.length + l.length/\(l.foldl Rn.beat n).log=n.log/\(l.foldl Rn.beat n).id=n.id:=by
 induction l with
 |nil=>intro n;exact ⟨rfl,rfl,rfl,rfl⟩
 |cons q l ih=>
  intro n;obtain ⟨h1,h2,h3,h4⟩:=ih (n.beat q);refine ⟨h1.trans rfl,?_,h3.trans rfl,h4.trans rfl⟩;show ((l.foldl Rn.beat (n.beat q)).rms.length=_);rw [h2,List.length_cons];show (n.rms++[_]).length + l.length=_;rw [List.length_append,List.length_singleton];omega
theorem ZgC {β:Type} {k:Int} {l:List (Int × β)} (h:k∈l.map (·.1)):∃ v,ZB k l=some v:=by
 induction l with
 |nil=>cases h
 |cons e l ih=>
  unfold ZB;by_cases h1:(k==e.1)=true
  ·rw [if_pos h1];exact ⟨_,rfl⟩
  ·rw [if_neg h1]
   refine ih ?_;rcases List.mem_cons.1 h with h|h
   ·exact absurd (by simp [h]) h1
   ·exact h
theorem Zgu {l:List (Int × Pe)} (hp:n.ps=some l):∀ q∈n.mem,∃ x,ZB q l=some x:=λ q hq=>by
 unfold Rn.mem at hq;rw [hp] at hq;exact ZgC ((Z4 _).mem_iff.1 hq)
theorem ZeB {l:List (Int × Pe)} (hp:n.ps=some l) (hk:Zdt n.id l):n.mem.length<=15:=by
 unfold Rn.mem;rw [hp,Za8,Option.getD_some,List.length_map];exact hk.len
theorem ZfV {l:List (Int × Pe)} (hp:n.ps=some l) (hk:Zdt n.id l) (hl:n.rms.length<=999999000) (hw:Sat R (NAt R p n::Hs) w):
  Zj prog 52 #[.pointer (some ⟨p,0,none⟩)] w λ v w'=>v=.tuple #[]/\Sat R (NAt R p n.beats::Hs) w':=by
 apply ZpR;refine (Zce hp hk hw).use ?_;clear hw;rintro _ w ⟨s,rfl,hw⟩;have h15:=ZeB hp hk;have hsl:=Own.len hw;rw [List.length_map] at hsl;refine ⟨s,rfl,?_⟩;refine ⟨λ i w=>∃ k:Nat,i=k/\k<=n.mem.length/\Sat R (Own s 3 (ints n.mem)::NAt R p ((n.mem.take k).foldl Rn.beat n)::Hs) w,λ i _=>n.mem.length - i.toNat,⟨0,rfl,Nat.zero_le _,hw⟩,?_⟩;clear hw;rintro _ _ w ⟨k,rfl,hk',hw⟩;refine Br.d (λ h=>?_) (λ h=>?_)
 ·have hkl:k<n.mem.length:=by omega
  refine Own.idx hw (eqS hw) hkl ?_;obtain ⟨h1,h2,_,_⟩:=ZgL (n.mem.take k) n;obtain ⟨x,hx⟩:=Zgu hp _ (List.getElem_mem hkl);refine (ZhL (h1.trans hp) hx (by rw [h2,List.length_take];omega) hw.swap).use ?_;clear hw;rintro _ w ⟨rfl,hw⟩;rw [Zh (by omega) (by omega)];refine ⟨rfl,⟨k + 1,by omega,hkl,?_⟩,by dsimp only;omega⟩;rw [ZbI Rn.beat n hkl];exact hw.swap
 ·have:k=n.mem.length:=by omega
  subst this;rw [List.take_length] at hw;exact ⟨rfl,hw.drop⟩
end
section
open Go Go.VC Tryz
open Go.Rf (Ey Lg ZD)
variable {R R' R1 R2:Cx} {Hs Rest Rest2:List HP} {w:World} {p:Nat} {n m:Rn}
def ZbL (n:Rn):Prop:=∀ l,n.ps=some l->∀ t∈l,ZbC t.2
structure Snd (n m:Rn) (k:Nat):Prop where
 eq:m={ n with rms:=m.rms,ps:=m.ps }
 keys:m.ps.map (λ l=>l.map (·.1))=n.ps.map (λ l=>l.map (·.1))
 len:m.rms.length<=n.rms.length + k
 pe:ZbL n->ZbL m
theorem Snd.refl:Snd n n 0:=⟨rfl,rfl,Nat.le_refl _,id⟩
theorem Snd.trans {m':Rn} {k k':Nat} (h:Snd n m k) (h':Snd m m' k'):Snd n m' (k + k'):=
 ⟨by rw [h'.eq,h.eq],h'.keys.trans h.keys,by have:=h.len;have:=h'.len;omega,λ x=>h'.pe (h.pe x)⟩
theorem Snd.put (x:Mg):Snd n (n.put x) 1:=⟨rfl,rfl,by show (n.rms++[_]).length<=_;simp,λ h=>h⟩
theorem Zen {β:Type} {k:Int} {v:β}:∀ l:List (Int × β),(Zbq k v l).map (·.1)=l.map (·.1)
 |[]=>rfl
 |e::l=>by
  unfold Zbq;split
  ·rfl
  ·rw [List.map_cons,List.map_cons,Zen l]
theorem Zd9 {β:Type} {k:Int} {v:β} {t:Int × β}:∀ {l:List (Int × β)},t∈Zbq k v l->t.2=v\/t∈l
 |e::l,h=>by
  unfold Zbq at h;split at h
  ·rcases List.mem_cons.1 h with h|h
   ·left;rw [h]
   ·right;exact List.mem_cons_of_mem _ h
  ·rcases List.mem_cons.1 h with h|h
   ·right;rw [h];exact List.mem_cons_self
   ·exact (Zd9 h).imp id (List.mem_cons_of_mem _)
theorem Snd.setP (q:Int) {y:Pe} (hy:ZbL n->ZbC y):Snd n (n.setP q y) 0:=by
 refine ⟨rfl,?_,Nat.le_refl _,λ h=>?_⟩
 ·show (n.ps.map (Zbq q y)).map _=_
  rw [Option.map_map]
  congr 1
  funext l
  exact Zen l
 ·intro l hl t ht
  have hl:n.ps.map (Zbq q y)=some l:=hl;obtain ⟨l0,h0,rfl⟩:=Option.map_eq_some_iff.1 hl;rcases Zd9 ht with h2|h2
  ·rw [h2];exact hy h
  ·exact h l0 h0 t h2
theorem ZcX {q:Int} {x:Pe} (h:ZbL n) (hx:n.peer q=some x):ZbC x:=by
 unfold Rn.peer at hx;cases hp:n.ps with
 |none=>rw [hp] at hx;cases hx
 |some l=>rw [hp] at hx;exact h l hp _ (ZbT hx)
theorem Snd.sendF (q:Int):∀ (k:Nat) (n:Rn),Snd n (Rn.sendF q k n) k
 |0,n=>.refl
 |k + 1,n=>by
  unfold Rn.sendF;split
  ·exact ⟨rfl,rfl,Nat.le_add_right _ _,id⟩
  ·rename_i x hx
   split
   ·dsimp only
    split
    ·have:=(Snd.put { kd:=9,to':=q,ix:=n.sn.ix,lt:=n.sn.tm,sn:=n.sn }).trans (Snd.setP q (n:=n.put { kd:=9,to':=q,ix:=n.sn.ix,lt:=n.sn.tm,sn:=n.sn }) (y:=x.install n.sn.ix) λ h=>(ZcX (n:=n) h hx).install _)
     exact ⟨this.eq,this.keys,by have:=this.len;omega,this.pe⟩
    ·split
     ·exact ⟨rfl,rfl,Nat.le_add_right _ _,id⟩
     ·obtain ⟨m,hm⟩:∃ m,m=(n.put { kd:=5,to':=q,ix:=x.nx - 1,lt:=(n.log.term (x.nx - 1)).1,com:=n.log.com,es:=n.log.get (x.nx - 1 + 1) 8 }).setP q (x.sent (x.nx - 1 + (n.log.get (x.nx - 1 + 1) 8).length)):=⟨_,rfl⟩
      have h1:Snd n m 1:=by
       rw [hm];exact (Snd.put _).trans (Snd.setP q λ h=>(ZcX (n:=n) h hx).sent _)
      rw [<-hm];split
      ·have:=h1.trans (Snd.sendF q k m)
       exact ⟨this.eq,this.keys,by have:=this.len;omega,this.pe⟩
      ·exact ⟨h1.eq,h1.keys,by have:=h1.len;omega,h1.pe⟩
   ·exact ⟨rfl,rfl,Nat.le_add_right _ _,id⟩
theorem Snd.send (q:Int):Snd n (n.send q) 66:=.sendF q 66 n
theorem Snd.pkeys {k:Nat} {l:List (Int × Pe)} (h:Snd n m k) (hp:n.ps=some l) (hk:Zdt n.id l):∃ l',m.ps=some l'/\Zdt m.id l':=by
 have h1:=h.keys;rw [hp] at h1;obtain ⟨l',h2,h3⟩:=Option.map_eq_some_iff.1 h1;have e:m.id=n.id:=by rw [h.eq]
 exact ⟨l',h2,by rw [h3];exact hk.nd,by rw [h3,e];exact hk.rg⟩
theorem Snd.rng {k:Nat} (h:Snd n m k) (g:RnG n):RnG m:=by rw [h.eq];exact ⟨g.lg,g.lb,g.sg,g.w1,g.w64⟩
theorem ZA.set {mm b:Nat} {q:Int} {l:List (Int × Pe)} (y:Pe) (hw:Sat R (ZA mm q b l::Hs) w):Sat R (ZA mm q b (Zbq q y l)::Hs) w:=by
 obtain ⟨a,c,x,⟨e,hn⟩,hw⟩:=ZA.iff.1 hw;refine ZA.iff.2 ⟨a,c,y,⟨?_,hn⟩,?_⟩
 ·rw [e,List.map_append,List.map_cons,List.map_append,List.map_cons]
  rw [show pOf (q,b,x)=(q,x) from rfl,Zf8 hn (by simp)]
 ·rw [show (a++(q,b,y)::c).map pEn=(a++(q,b,x)::c).map pEn by rw [List.map_append,List.map_append];rfl]
  exact hw
def Zlu (b:Nat) (w:World):Nat:=match w.heap[b]? with
 |some (.cells l _ _)=>(match l[5]? with
  |some (Value.slice _ k _)=>k
  |_=>0)
 |_=>0
theorem Zhz {b:Nat} {x:Pe} (hw:Sat R (ZP b x::Hs) w):Zlu b w=x.fl.length:=by
 obtain ⟨s,hw⟩:=ZP.iff.1 hw;have h:=(Zb8.len hw.swap).1;unfold Zlu;rw [hw.at];exact h
theorem Zi4 {k:Int} {v:Pe} {l:List (Int × Pe)} {x:Pe} (h:ZB k l=some x):ZB k (Zbq k v l)=some v:=by
 rw [ZdH (by rw [h];rfl)];simp
structure Zry (R:Cx) (Hs:List HP) (p mm b:Nat) (q:Int) (n:Rn) (more:Bool) (w:World) (j:Nat) (R':Cx) (m:Rn) (x:Pe) (l:List (Int × Pe)):Prop where
 e:R.Ext R'
 s:Snd n m j
 ps:m.ps=some l
 gx:ZB q l=some x
 r:n.send q=if more then Rn.sendF q (66 - j) m else m
 f:more=true->j<=x.fl.length
 j:j<=65
 w:Sat R' (ZP b x::Zag R' p m (some mm) (ZA mm q b l)::Hs) w
theorem ZbE {l:List (Int × Pe)} {q:Int} {x:Pe} (g:RnG n) (hsn:ZE n.sn=true) (hlast:n.log.last<=1099511627775) (hpe:ZbL n) (hp:n.ps=some l) (hx:ZB q l=some x) (hl:n.rms.length<=999999000) (hw:Sat R (NAt R p n::Hs) w):
  Zj prog 46 #[.pointer (some ⟨p,0,none⟩),.int .i64 q] w λ v w'=>v=.tuple #[]/\∃ R',R.Ext R'/\Sat R' (NAt R' p (n.send q)::Hs) w':=by
 obtain ⟨mm,b,hw⟩:=NAt.focus hp hx hw;obtain ⟨L,hn,hw⟩:=Zag.iff.1 hw.swap;apply ZpX;refine Zb.mk rfl ⟨some mm,by rw [<-hn.2];exact At.own (eqS hw) (by exact ⟨rfl,trivial⟩),some ⟨b,0,none⟩,λ w' h=>by subst h;exact ZA.look (hw.take (ZA mm q b l)) false,?_⟩;have hw:Sat R (Zag R p n (some mm) (ZA mm q b l)::ZP b x::Hs) w:=Zag.iff.2 ⟨L,hn,hw.arr⟩;refine ⟨λ more w=>∃ j R' m y l',Zry R Hs p mm b q n more w j R' m y l',λ more w=>if more then 100 - Zlu b w else 0,
  ⟨0,R,n,x,l,.refl,.refl,hp,hx,by rw [if_pos rfl];rfl,λ _=>Nat.zero_le _,by omega,hw.swap⟩,?_⟩
 clear hw;rintro _ more w ⟨j,R1,m,x,l,st⟩;obtain ⟨e1,hs,hp,hx,hr,hf,hj,hw⟩:=st;have gm:=hs.rng g;have pem:=hs.pe hpe;have elog:m.log=n.log:=by rw [hs.eq]
 have hpx:m.peer q=some x:=by unfold Rn.peer;rw [hp];exact hx
 have xok:=ZcX pem hpx;have hlen:=hs.len;have hfw:=xok.fw;have hxw:=xok.w1;have hnx0:=xok.n0;have hnx1:=xok.n1;have hll:=gm.lg.last_le;have hb0:=gm.lg.b0;have hl0:0<=m.log.last:=by unfold Lg.last;omega
 have fin:∀ {w:World} {R2:Cx} {m':Rn} {y:Pe},R1.Ext R2->n.send q=m'.setP q y->m'.ps=some l->Sat R2 (ZP b y::Zag R2 p m' (some mm) (ZA mm q b l)::Hs) w->∃ R',R.Ext R'/\Sat R' (NAt R' p (n.send q)::Hs) w:=λ {w R2 m' y} e h1 h2 h3=>⟨R2,e1.trans e,by rw [h1];exact Zag.close h2 h3⟩;refine ⟨λ w=>(more=true/\x.may=true/\x.nx<=m.log.last + 1)/\Sat R1 (ZP b x::Zag R1 p m (some mm) (ZA mm q b l)::Hs) w,?_,?_⟩
 ·obtain ⟨L,hn,hw⟩:=Zag.iff.1 hw.swap
  refine Zi (Sat R1 [pts p (Ze m L),VC.tru]) hw (λ w hw=>hw.k1) λ w hw=>Br.mk (λ hm=>?_) (λ hm=>?_)
  ·rw [if_pos hm] at hr
   have hf:=hf hm;obtain ⟨k,hk⟩:∃ k,66 - j=k + 1:=⟨65 - j,by omega⟩;rw [hk] at hr;have un:(x.may && decide (x.nx<=m.log.last + 1))=false->n.send q=m.setP q x:=λ h=>by
    rw [hr,Za9 hp hx];unfold Rn.sendF;simp only [hpx];rw [if_neg (by rw [h];simp)]
   refine (Zhd (hw.take (ZP b x))).use ?_;clear hw;rintro _ w ⟨rfl,hw⟩;refine ⟨_,rfl,hw.k1,Br.mk (λ h=>Zb.mk rfl ⟨_,At.own Zf (by exact ⟨rfl,trivial⟩),?_⟩) (λ h=>⟨rfl,fin .refl (un (by rw [h];rfl)) hp (hw.cons λ _ h=>Zag.iff.2 ⟨L,hn,h.arr⟩)⟩)⟩;refine (Zfw hw).use ?_;clear hw;rintro _ w ⟨rfl,hw⟩;refine ⟨_,rfl,hw.k1,?_⟩;refine (ZT gm.lg (hw.take (Zr R1 L.lp m.log))).use ?_;clear hw;rintro _ w ⟨rfl,hw⟩;have hw:Sat R1 (ZP b x::Zag R1 p m (some mm) (ZA mm q b l)::Hs) w:=(hw.take (ZP b x)).cons λ _ h=>Zag.iff.2 ⟨L,hn,h.arr⟩;refine ⟨_,rfl,?_⟩;rw [Zh (by omega) (by omega)];exact Br.d (λ h2=>⟨⟨hm,h,h2⟩,hw⟩) (λ h2=>⟨rfl,fin .refl (un (by rw [h,decide_eq_false h2];rfl)) hp hw⟩)
  ·rw [if_neg (by rw [hm];simp)] at hr
   refine ⟨rfl,fin .refl (by rw [hr,Za9 hp hx]) hp ?_⟩;exact (hw.take (ZP b x)).cons λ _ h=>Zag.iff.2 ⟨L,hn,h.arr⟩
 have hflw:=Zhz hw;clear hw;rintro _ w ⟨⟨hm,hmay,hnl⟩,hw⟩;rw [if_pos hm] at hr;have hf:=hf hm;obtain ⟨k,hk⟩:∃ k,66 - j=k + 1:=⟨65 - j,by omega⟩;rw [hk] at hr;unfold Rn.sendF at hr;simp only [hpx] at hr;rw [if_pos (by rw [hmay,decide_eq_true hnl];rfl)] at hr;refine (Zfw hw).use ?_;clear hw;rintro _ w ⟨rfl,hw⟩;obtain ⟨L,hn,hw⟩:=Zag.iff.1 hw.swap;refine ⟨_,rfl,Zb.mk rfl ⟨_,At.own (eqS hw) (by exact ⟨rfl,trivial⟩),?_⟩⟩;rw [Zh (by omega) (by omega),Zh (x:=x.nx - 1 + 1) (by omega) (by omega)];refine (ZaS gm.lg _ (hw.take (Zr R1 L.lp m.log))).use ?_;clear hw;rintro _ w ⟨rfl,hw⟩;have hw:=hw.take (pts p (Ze m L));refine ⟨_,_,rfl,Br.nb (λ h=>?_) (λ h=>?_)⟩
 ·rw [if_pos (by rw [h];rfl)] at hr
  have esn:m.sn=n.sn:=by rw [hs.eq]
  have hsn':ZE m.sn=true:=by rw [esn];exact hsn
  unfold ZE Z3 at hsn';simp only [Bool.and_eq_true,decide_eq_true_eq] at hsn';have hv:=Zv (Zp hsn'.1.2);have hl2:=Zv (ZO hsn'.1.2);refine Zi (Sat R1 [pts p (Ze m L),VC.tru]) hw (λ w hw=>hw.k1) λ w hw=>Zb.mk rfl ⟨m.sn.ix,At.own Zf (by exact ⟨rfl,trivial⟩),Zb.mk rfl ⟨m.sn.tm,At.own Zf (by exact ⟨rfl,trivial⟩),Zb.mk rfl ⟨m.sn.ix,m.sn.tm,L.sv,L.sl,L.sd,At.own (eqS hw) (by exact ⟨rfl,rfl,rfl,rfl,rfl,trivial⟩),?_⟩⟩⟩;refine (Zap (s:=m.sn) hn.1.sg hn.1.sd (by omega) (by omega) (by omega) hw).use ?_;clear hw;rintro _ w ⟨R2,v',l',d',e2,hg',hd',rfl,hw⟩;refine ⟨_,_,v',l',d',rfl,(e2.back hw).k1,?_⟩;have hw:Sat R2 (Zag R2 p m (some mm) (ZA mm q b l)::ZP b x::Hs) w:=Zag.ext (Zag.iff.2 ⟨L,hn,hw.arr⟩) e2;refine (Zer (m:={ kd:=9,to':=q,ix:=m.sn.ix,lt:=m.sn.tm,sn:=m.sn }) (L:=⟨⟨none,0,0⟩,[],v',l',d'⟩) ⟨⟨Wid.nil,rfl,λ h=>absurd rfl h⟩,.nil,rfl,hg',hd',Nat.le_refl _⟩ (by omega) hw).use ?_;clear hw;rintro _ w ⟨rfl,hw⟩;obtain ⟨L2,hn2,hw⟩:=Zag.iff.1 hw;refine ⟨rfl,Zb.mk rfl ⟨m.sn.ix,At.own (eqS hw) (by exact ⟨rfl,trivial⟩),?_⟩⟩;refine (Zgo m.sn.ix (hw.take (ZP b x))).use ?_;clear hw;rintro _ w ⟨⟨t,rfl⟩,hw⟩;exact ⟨t,rfl,rfl,fin e2 hr hp (hw.cons λ _ h=>Zag.iff.2 ⟨L2,hn2,h.arr⟩)⟩
 rw [if_neg (by rw [h];simp)] at hr;refine Zb.mk rfl ⟨_,At.own (eqS hw) (by exact ⟨rfl,trivial⟩),?_⟩;refine (Zdk gm.lg _ 8 (hw.take (Zr R1 L.lp m.log))).use ?_;clear hw;rintro _ w ⟨R2,t,ds,e2,hd,he,rfl,hw⟩;have htc:=OwnN.cap (by decide) hw;obtain ⟨R3,e3,ht,hw⟩:=OwnN.leak hw;have hlen8:t.len=(m.log.get (x.nx - 1 + 1) 8).length:=by rw [<-he,List.length_map];have:=ht.len;simpa using this
 have h8:(m.log.get (x.nx - 1 + 1) 8).length<=8:=by
  unfold Lg.get;split
  ·simp
  ·rw [List.length_take];show min 8 _<=8;omega
 refine ⟨t,rfl,?_⟩;have e13:=e2.trans e3;have hn3:NIn R3 m L:=hn.1.ext e13;have hw:Sat R3 (pts p (Ze m L)::Zn R1 L.ep m.e::Zr R3 L.lp m.log::ZA mm q b l::Z0 L.rs m.rs::Zq R1 L.ms m.rms::ZN L.rr m.rrd::ZP b x::Hs) w:=by
  have h2:=Zr.ext hw e3;exact h2.arr
 have hw:=Zag.mkX hn.1 hn.2 e13 hw;refine (Zet hw.swap).use ?_;clear hw;rintro _ w ⟨rfl,hw⟩;refine ⟨_,rfl,?_⟩;refine ⟨λ w=>(x.st==1 && (m.log.get (x.nx - 1 + 1) 8).isEmpty)=false/\Sat R3 (ZP b x::Zag R3 p m (some mm) (ZA mm q b l)::Hs) w,?_,?_⟩
 ·refine Br.e (λ h2=>?_) (λ h2=>⟨by rw [show (x.st==1)=false by simp [h2]];rfl,hw⟩)
  rw [hlen8];refine Br.e (λ h3=>⟨rfl,fin e13 ?_ hp hw⟩) (λ h3=>⟨?_,hw⟩)
  ·have h4:(m.log.get (x.nx - 1 + 1) 8)=[]:=List.length_eq_zero_iff.1 (by omega)
   rw [if_pos (by rw [h4];simp [h2])] at hr;rw [hr,Za9 hp hx]
  ·cases hc:m.log.get (x.nx - 1 + 1) 8 with
   |nil=>rw [hc] at h3;exact absurd rfl h3
   |cons a c=>simp
 clear hw;rintro _ w ⟨hne,hw⟩;rw [if_neg (by rw [hne];simp)] at hr;obtain ⟨L2,hn2,hw⟩:=Zag.iff.1 hw.swap;refine Zb.mk rfl ⟨_,At.own (eqS hw) (by exact ⟨rfl,trivial⟩),?_⟩;refine (ZF (hw.take (Zr R3 L2.lp m.log))).use ?_;clear hw;rintro _ w ⟨rfl,hw⟩;have hw:Sat R3 (Zag R3 p m (some mm) (ZA mm q b l)::ZP b x::Hs) w:=Zag.iff.2 ⟨L2,hn2,hw.arr⟩;refine ⟨_,rfl,?_⟩;have hmg:Zdu R3 { kd:=5,to':=q,ix:=x.nx - 1,lt:=(m.log.term (x.nx - 1)).1,com:=m.log.com,es:=m.log.get (x.nx - 1 + 1) 8 } ⟨t,ds,⟨none,0,0⟩,⟨none,0,0⟩,⟨none,0,0⟩⟩:=by
  have h0:=Zdu.nil (R:=R3) (m:={ kd:=0 }) rfl rfl;exact ⟨ht,hd.ext e3,he,h0.g,h0.d,htc⟩
 refine (Zer hmg (by omega) hw).use ?_;clear hw;rintro _ w ⟨rfl,hw⟩;refine ⟨rfl,?_⟩;rw [hlen8,Zh (by omega) (by omega)];obtain ⟨m2,hm2⟩:∃ m2,m2=m.put { kd:=5,to':=q,ix:=x.nx - 1,lt:=(m.log.term (x.nx - 1)).1,com:=m.log.com,es:=m.log.get (x.nx - 1 + 1) 8 }:=⟨_,rfl⟩;rw [<-hm2] at hw hr;have hp2:m2.ps=some l:=by rw [hm2];exact hp
 have hs2:Snd n m2 (j + 1):=by rw [hm2];exact hs.trans (.put _)
 refine (ZjD xok (x.nx - 1 + (m.log.get (x.nx - 1 + 1) 8).length) hw.swap).use ?_;clear hw;rintro _ w ⟨⟨t',rfl⟩,hw⟩;obtain ⟨y,hy⟩:∃ y,y=x.sent (x.nx - 1 + (m.log.get (x.nx - 1 + 1) 8).length):=⟨_,rfl⟩;rw [<-hy] at hw hr;refine ⟨t',rfl,?_⟩;have yok:ZbC y:=by rw [hy];exact xok.sent _
 have hw2:Sat R3 (ZP b y::Zag R3 p (m2.setP q y) (some mm) (ZA mm q b (Zbq q y l))::Hs) w:=hw.cons λ _ h=>by
  obtain ⟨L3,hn3,h⟩:=Zag.iff.1 h;have h:=ZA.set y (h.take (ZA mm q b l));exact Zag.iff.2 ⟨L3,⟨⟨hn3.1.g,hn3.1.sg,hn3.1.sd⟩,hn3.2⟩,(show Sat _ (ZA mm q b (Zbq q y l)::pts p (Ze (m2.setP q y) L3)::Zn R3 L3.ep (m2.setP q y).e::Zr R3 L3.lp (m2.setP q y).log::Z0 L3.rs (m2.setP q y).rs::Zq R3 L3.ms (m2.setP q y).rms::ZN L3.rr (m2.setP q y).rrd::Hs) _ from h).arr⟩
 have hs3:Snd n (m2.setP q y) (j + 1):=hs2.trans (.setP q λ _=>yok);have hp3:(m2.setP q y).ps=some (Zbq q y l):=by unfold Rn.setP;rw [hp2];rfl
 have hy1:x.st=1->y.fl.length=x.fl.length + 1:=λ h1=>by
  have hne2:(m.log.get (x.nx - 1 + 1) 8)≠[]:=λ h=>by rw [h,h1] at hne;cases hne
  have hpos:=List.length_pos_iff.2 hne2;have hle:x.nx - 1 + ((m.log.get (x.nx - 1 + 1) 8).length:Int)<=m.log.last:=by
   unfold Lg.get at hpos ⊢;split at hpos
   ·simp at hpos
   ·rename_i hc
    rw [if_neg hc];rw [List.length_take,List.length_drop,Rf.all_len] at hpos ⊢;unfold Lg.last;omega
  have elast:m.log.last=n.log.last:=by rw [elog]
  rw [hy];generalize (m.log.get (x.nx - 1 + 1) 8).length=len at hle hpos;unfold Pe.sent;rw [if_neg (by rw [hmay,decide_eq_false (by omega),decide_eq_false (by omega)];simp),if_neg (by simp [h1]),if_pos (by omega)];show (x.fl++[_]).length=_;rw [List.length_append];rfl
 refine ⟨⟨j + 1,R3,m2.setP q y,y,Zbq q y l,e1.trans e13,hs3,hp3,Zi4 hx,?_,λ h1=>?_,by omega,hw2⟩,?_⟩
 ·rw [hr]
  by_cases h1:x.st==1
  ·rw [if_pos h1,if_pos h1,show 66 - (j + 1)=k by omega]
  ·rw [if_neg h1,if_neg h1]
 ·have:=hy1 (by simpa using h1);omega
 ·dsimp only
  rw [if_pos hm,hflw];by_cases h1:x.st=1
  ·have:=hy1 h1
   have hfy:=Zhz hw2;rw [if_pos (by simp [h1]),hfy];omega
  ·rw [if_neg (by simp [h1])]
   omega
end
section
open Go Go.VC Tryz
open Go.Rf (Ey Lg ZD)
variable {R R' R1 R2:Cx} {Hs Rest Rest2:List HP} {w:World} {p:Nat} {n m:Rn}
theorem Snd.sends:∀ (l:List Int) (n:Rn),Snd n (l.foldl Rn.send n) (66 * l.length)
 |[],n=>.refl
 |q::l,n=>by
  have:=(Snd.send q (n:=n)).trans (Snd.sends l (n.send q));exact ⟨this.eq,this.keys,by have:=this.len;rw [List.length_cons];show ((l.foldl Rn.send (n.send q)).rms.length<=_);omega,this.pe⟩
theorem ZiY {k:Nat} (h:Snd n m k):m.mem=n.mem:=by
 unfold Rn.mem;have:=h.keys;cases hn:n.ps with
 |none=>rw [hn] at this;cases hm:m.ps with
  |none=>rfl
  |some l=>rw [hm] at this;cases this
 |some l=>rw [hn] at this;cases hm:m.ps with
  |none=>rw [hm] at this;cases this
  |some l'=>
   rw [hm] at this;simp only [Option.map_some,Option.some.injEq] at this;simp only [Option.getD_some];rw [this]
theorem ZmI {l:List (Int × Pe)} (g:RnG n) (hsn:ZE n.sn=true) (hlast:n.log.last<=1099511627775) (hpe:ZbL n) (hp:n.ps=some l) (hk:Zdt n.id l) (hl:n.rms.length<=999990000) (hw:Sat R (NAt R p n::Hs) w):
  Zj prog 94 #[.pointer (some ⟨p,0,none⟩)] w λ v w'=>v=.tuple #[]/\∃ R',R.Ext R'/\Sat R' (NAt R' p n.all::Hs) w':=by
 apply Zpr;refine (Zce hp hk hw).use ?_;clear hw;rintro _ w ⟨s,rfl,hw⟩;have h15:=ZeB hp hk;have hsl:=Own.len hw;rw [List.length_map] at hsl;refine ⟨s,rfl,?_⟩;refine ⟨λ i w=>∃ (k:Nat) (R':Cx),i=k/\k<=n.mem.length/\R.Ext R'/\Sat R' (Own s 3 (ints n.mem)::NAt R' p ((n.mem.take k).foldl Rn.send n)::Hs) w,λ i _=>n.mem.length - i.toNat,⟨0,R,rfl,Nat.zero_le _,.refl,hw⟩,?_⟩;clear hw;rintro _ _ w ⟨k,R1,rfl,hk',e1,hw⟩;refine Br.d (λ h=>?_) (λ h=>?_)
 ·have hkl:k<n.mem.length:=by omega
  refine Own.idx hw (eqS hw) hkl ?_;obtain ⟨m,hm⟩:∃ m,m=(n.mem.take k).foldl Rn.send n:=⟨_,rfl⟩;have hs:Snd n m (66 * (n.mem.take k).length):=by rw [hm];exact .sends _ n
  obtain ⟨l',hp',hk2⟩:=hs.pkeys hp hk;have hlen:=hs.len;rw [List.length_take] at hlen;have emem:=ZiY hs;obtain ⟨x,hx⟩:=Zgu hp' n.mem[k] (by rw [emem];exact List.getElem_mem hkl);rw [<-hm] at hw;refine (ZbE (hs.rng g) (by rw [hs.eq];exact hsn) (by rw [hs.eq];exact hlast) (hs.pe hpe) hp' hx (by omega) hw.swap).use ?_;clear hw;rintro _ w ⟨rfl,R2,e2,hw⟩;rw [Zh (by omega) (by omega)];refine ⟨rfl,⟨k + 1,R2,by omega,hkl,e1.trans e2,?_⟩,by dsimp only;omega⟩;rw [ZbI Rn.send n hkl,<-hm];exact hw.swap
 ·have:k=n.mem.length:=by omega
  subst this;rw [List.take_length] at hw;exact ⟨rfl,R1,e1,hw.drop⟩
theorem Zds.focus {α:Type} (f:α->HP) {l:List α} {t:α} (ht:t∈l) (hw:Sat R (Zds (l.map f)::Hs) w):∃ rest:List HP,Sat R (f t::Zds rest::Hs) w/\∀ {R':Cx} {Hs':List HP} {w':World},Sat R' (f t::Zds rest::Hs') w'->Sat R' (Zds (l.map f)::Hs') w':=by
 obtain ⟨a,c,rfl⟩:=List.append_of_mem ht;have e:(a++t::c).map f=a.map f++f t::c.map f:=by rw [List.map_append];rfl
 refine ⟨a.map f++c.map f,?_,λ {R' Hs' w'} h=>?_⟩
 ·have h:=Sat.star.1 hw
  rw [e] at h;have h2:Sat R (f t::((a.map f++c.map f)++Hs)) w:=h.perm (by
   rw [List.append_assoc,List.append_assoc];exact List.perm_middle)
  exact h2.cons λ _ h=>Sat.star.2 h
 ·have h2:Sat R' (f t::((a.map f++c.map f)++Hs')) w':=h.cons λ _ h=>Sat.star.1 h
  refine Sat.star.2 (h2.perm ?_);rw [e,List.append_assoc,List.append_assoc];exact List.perm_middle.symm
theorem Ze0:n.ats.length=16:=by unfold Rn.ats;rw [List.length_map,List.length_range]
theorem Ze1 {k:Nat} (hk:k<n.ats.length):n.ats[k]=match n.peer k with|some x=>x.mt|none=>if (k:Int)==n.id then n.log.last else 0:=by
 simp only [Rn.ats,List.getElem_map,List.getElem_range];rfl
structure Zkj (n:Rn) (pl:PL) (left:List (Int × Value)) (A:List Int):Prop where
 len:A.length=16
 sub:∀ e∈left,e∈pl.map pEn
 done:∀ t∈pl,pEn t∈left\/A.getD t.1.toNat 0=t.2.2.mt
 base:∀ k:Nat,k<16->(k:Int) ∉ pl.map (·.1)->A.getD k 0=if (k:Int)==n.id then n.log.last else 0
theorem Zkj.end {pl:PL} {A:List Int} (h:Zkj n pl [] A) (hps:n.ps=some (pl.map pOf)):A=n.ats:=by
 refine List.ext_getElem (by rw [h.len,Ze0]) λ k h1 h2=>?_;rw [Ze1];have e:A.getD k 0=A[k]:=by rw [List.getD_eq_getElem?_getD,List.getElem?_eq_getElem h1];rfl
 rw [<-e];have hpk:n.peer k=(ZB (k:Int) pl).map (·.2):=by unfold Rn.peer;rw [hps,Option.getD_some,ZdD]
 rw [hpk];cases hg:ZB (k:Int) pl with
 |none=>
  refine h.base k (by rw [<-h.len];exact h1) λ hm=>?_;obtain ⟨v,hv⟩:=ZgC hm;rw [hv] at hg;cases hg
 |some t=>
  have:=h.done _ (ZbT hg);rcases this with h3|h3
  ·cases h3
  ·simpa using h3
theorem Zkj.step {pl:PL} {A:List Int} {a b:List (Int × Value)} {t:Int × Nat × Pe} (h:Zkj n pl (a++pEn t::b) A) (ht:t∈pl) (hnd:(pl.map (·.1)).Nodup) (hr:1<=t.1/\t.1<=15):Zkj n pl (a++b) (A.set t.1.toNat t.2.2.mt):=by
 have hlen:=h.len;have uniq:∀ t'∈pl,t'.1=t.1->t'=t:=by
  clear h
  induction pl with
  |nil=>cases ht
  |cons x pl ih=>
   rw [List.map_cons,List.nodup_cons] at hnd;intro t' ht' e;rcases List.mem_cons.1 ht with h1|h1
   ·rcases List.mem_cons.1 ht' with h2|h2
    ·rw [h1,h2]
    ·exact absurd (by rw [<-h1,<-e];exact List.mem_map_of_mem h2) hnd.1
   ·rcases List.mem_cons.1 ht' with h2|h2
    ·exact absurd (by rw [<-h2,e];exact List.mem_map_of_mem h1) hnd.1
    ·exact ih h1 hnd.2 t' h2 e
 refine ⟨by rw [List.length_set,hlen],λ e he=>h.sub e ?_,λ t' ht'=>?_,λ k hk hn=>?_⟩
 ·rcases List.mem_append.1 he with he|he
  ·exact List.mem_append.2 (.inl he)
  ·exact List.mem_append.2 (.inr (List.mem_cons_of_mem _ he))
 ·by_cases e:t'.1=t.1
  ·have:=uniq t' ht' e
   subst this;right;rw [List.getD_eq_getElem?_getD,List.getElem?_set_self (by omega)];rfl
  ·rcases h.done t' ht' with h1|h1
   ·left
    rcases List.mem_append.1 h1 with h1|h1
    ·exact List.mem_append.2 (.inl h1)
    ·rcases List.mem_cons.1 h1 with h1|h1
     ·exact absurd (congrArg Prod.fst h1) e
     ·exact List.mem_append.2 (.inr h1)
   ·by_cases e2:t'.1.toNat=t.1.toNat
    ·-- an odd key: it stands for no place of its own
     by_cases h0:0<=t'.1
     ·exact absurd (by omega) e
     ·by_cases e3:t'.1.toNat=0
      ·omega
      ·omega
    ·right
     rw [List.getD_eq_getElem?_getD,List.getElem?_set_ne (λ h=>e2 h.symm),<-List.getD_eq_getElem?_getD];exact h1
 ·rw [List.getD_eq_getElem?_getD,List.getElem?_set_ne (λ h=>hn ?_),<-List.getD_eq_getElem?_getD]
  ·exact h.base k hk hn
  ·have:(k:Int)=t.1:=by omega
   rw [this];exact List.mem_map_of_mem ht
theorem ZhO {l:List (Int × Pe)} (g:RnG n) (hid:1<=n.id/\n.id<=15) (hp:n.ps=some l) (hk:Zdt n.id l) (hl:n.rms.length<=999990000) (hw:Sat R (NAt R p n::Hs) w):
  Zj prog 93 #[.pointer (some ⟨p,0,none⟩)] w λ v w'=>v=.tuple #[]/\Sat R (NAt R p n.advance::Hs) w':=by
 obtain ⟨L,hn,hw⟩:=NAt.iff.1 hw;apply Zps;refine Zd hw λ b w hw=>?_;refine Zi (Sat R [pts p (Ze n L),VC.tru]) hw (λ w hw=>hw.k1) λ w hw=>Zb.mk rfl ⟨n.id,At.own Zf (by exact ⟨rfl,trivial⟩),Zb.mk rfl ⟨_,At.own Zf (by exact ⟨rfl,trivial⟩),?_⟩⟩;refine (ZT g.lg (hw.take (Zr R L.lp n.log))).use ?_;clear hw;rintro _ w ⟨rfl,hw⟩;refine ⟨_,rfl,hw.k1,Rng.mk (by omega) (by omega) ?_⟩;obtain ⟨i,hi⟩:∃ i:Nat,n.id=i:=⟨n.id.toNat,by omega⟩;rw [hi];have hw:=(hw.take (pts b (.cells [Value.int .i64 0,Value.int .i64 0,Value.int .i64 0,Value.int .i64 0,Value.int .i64 0,Value.int .i64 0,Value.int .i64 0,Value.int .i64 0,Value.int .i64 0,Value.int .i64 0,Value.int .i64 0,Value.int .i64 0,Value.int .i64 0,Value.int .i64 0,Value.int .i64 0,Value.int .i64 0].toArray 194 (0,0)))).re (pts b (.cells ((List.replicate 16 (0:Int)).map (Value.int .i64)).toArray 194 (0,0)));refine Zei (by kernel_rfl) hw (i:=i) (by rw [List.length_replicate];omega) λ w hw=>Zb.mk rfl ⟨L.pm,At.own (eqS hw) (by exact ⟨rfl,trivial⟩),?_⟩;have hw:=hw.take (Z2 L.pm n.ps);cases hpm:L.pm with
 |none=>
  rw [hpm] at hw;have:=(Z2.none'.1 hw).1;rw [hp] at this;cases this
 |some mm=>
 rw [hpm] at hw;obtain ⟨pl,hpl,hw⟩:=Z2.some'.1 hw;have epl:l=pl.map pOf:=by rw [hp] at hpl;exact Option.some.inj hpl
 have ekeys:l.map (·.1)=pl.map (·.1):=by rw [epl,List.map_map];rfl
 have hnd:(pl.map (·.1)).Nodup:=by rw [<-ekeys];exact hk.nd
 have hkr:∀ t∈pl,1<=t.1/\t.1<=15/\t.1≠n.id:=λ t ht=>hk.rg t.1 (by rw [ekeys];exact List.mem_map_of_mem ht);have hw:Sat R (Zg mm (pl.map pEn)::Zds (pl.map pHP)::_) w:=hw.cons λ _ h=>Sat.star.2 h;refine Zjz ZoV.hT hw λ r w hw=>?_;obtain ⟨J,hJ⟩:∃ J:World->Prop,∀ w,J w↔∃ left A,Zkj n pl left A/\Sat R (ZgS r mm (pl.map pEn) left::Zds (pl.map pHP)::pts b (.cells (A.map (Value.int .i64)).toArray 194 (0,0))::pts p (Ze n L)::Zn R L.ep n.e::Zr R L.lp n.log::Z0 L.rs n.rs::Zq R L.ms n.rms::ZN L.rr n.rrd::Hs) w:=⟨_,λ _=>Iff.rfl⟩;refine ⟨J,Zlg r mm,(hJ _).2 ⟨pl.map pEn,(List.replicate 16 (0:Int)).set i n.log.last,⟨by simp,λ e he=>he,λ t ht=>.inl (List.mem_map_of_mem ht),λ k hk16 hkn=>?_⟩,hw.arr⟩,?_⟩
 ·rw [hi]
  by_cases e:k=i
  ·subst e
   rw [List.getD_eq_getElem?_getD,List.getElem?_set_self (by simp;omega),if_pos (by simp)];rfl
  ·rw [List.getD_eq_getElem?_getD,List.getElem?_set_ne (λ h=>e h.symm),if_neg (by simp;omega),List.getElem?_replicate]
   rw [if_pos hk16];rfl
 clear hw;intro _ w hj;obtain ⟨left,A,hA,hw⟩:=(hJ w).1 hj;clear hj;have hleft:=Zhr hw;rcases ZjI (T:=0) hw with ⟨rfl,hx⟩|⟨a,k,v,c,w',hlc,hx,hent,hw2⟩
 ·refine ⟨w,.inl ⟨hx,?_⟩⟩
  have eA:=hA.end hpl;have hw:=ZgS.map hw;have hw:Sat R (Zg mm (pl.map pEn)::(pl.map pHP++_)) w:=hw.cons λ _ h=>Sat.star.1 h;have hw:=Z2.some'.2 ⟨pl,hpl,hw⟩;refine Zi (Sat R [pts b (.cells (A.map (Value.int .i64)).toArray 194 (0,0)),pts p (Ze n L),VC.tru]) hw (λ w hw=>hw.k2) λ w hw=>Zb.mk rfl ⟨L.gv,L.gl,At.own Zf (by exact ⟨rfl,rfl,trivial⟩),A.map (Value.int .i64),by rw [List.length_map,hA.len],At.own Zf (by exact Pre.refl _),?_⟩;refine (Zh7 hw hn.g.v hn.g.l hA.len).use ?_;clear hw;rintro _ w ⟨rfl,hw⟩;refine ⟨_,rfl,Zb.mk rfl ⟨_,At.own (eqS hw) (by exact ⟨rfl,trivial⟩),?_⟩⟩;rw [eA] at hw ⊢;obtain ⟨i,hi⟩:∃ i,i=ZeA n.g.vs n.g.ls n.ats:=⟨_,rfl⟩;rw [<-hi];have hw:=(hw.take (pts b (.cells (n.ats.map (Value.int .i64)).toArray 194 (0,0)))).drop;refine (ZaS g.lg i (hw.take (Zr R L.lp n.log))).use ?_;clear hw;rintro _ w ⟨rfl,hw⟩;have close:∀ {w},Sat R (Zr R L.lp n.log::Z2 (some mm) n.ps::pts p (Ze n L)::Zn R L.ep n.e::Z0 L.rs n.rs::Zq R L.ms n.rms::ZN L.rr n.rrd::Hs) w->Sat R (NAt R p n::Hs) w:=λ hw=>by
   rw [<-hpm] at hw;exact NAt.iff.2 ⟨L,hn,hw.arr⟩
  have stay:∀ {w},(!(n.log.term i).2||(n.log.term i).1 !=n.e.hd.tm||decide (i<=n.log.com))=true->Sat R (Zr R L.lp n.log::Z2 (some mm) n.ps::pts p (Ze n L)::Zn R L.ep n.e::Z0 L.rs n.rs::Zq R L.ms n.rms::ZN L.rr n.rrd::Hs) w->Sat R (NAt R p n.advance::Hs) w:=λ {w} h hw=>by
   have e:n.advance=n:=by unfold Rn.advance;rw [<-hi];dsimp only;rw [if_pos h]
   rw [e];exact close hw
  refine ⟨_,_,rfl,Br.nb (λ h=>⟨rfl,stay (by rw [h];rfl) hw⟩) (λ h=>Zb.mk rfl ⟨_,At.own (eqS hw) (by exact ⟨rfl,trivial⟩),?_⟩)⟩;refine (Zaq (hw.take (Zn R L.ep n.e))).use ?_;clear hw;rintro _ w ⟨rfl,hw⟩;refine ⟨_,_,rfl,Br.ne (λ h2=>⟨rfl,stay (by simp [h2]) hw.arr⟩) (λ h2=>Zb.mk rfl ⟨_,At.own (eqS hw) (by exact ⟨rfl,trivial⟩),?_⟩)⟩;refine (ZF (hw.take (Zr R L.lp n.log))).use ?_;clear hw;rintro _ w ⟨rfl,hw⟩;refine ⟨_,rfl,Br.d (λ h3=>⟨rfl,stay (by simp [h3]) hw.arr⟩) (λ h3=>Zb.mk rfl ⟨_,At.own (eqS hw) (by exact ⟨rfl,trivial⟩),?_⟩)⟩;refine (ZdU g.lg i hw).use ?_;clear hw;rintro _ w ⟨rfl,hw⟩;refine ⟨_,rfl,?_⟩;obtain ⟨n2,hn2⟩:∃ n2,n2={ n with log:=(n.log.commit i).2 }:=⟨_,rfl⟩;have hw:Sat R (NAt R p n2::Hs) w:=by
   rw [<-hpm] at hw;rw [hn2];exact NAt.iff.2 ⟨L,⟨hn.g,hn.sg,hn.sd⟩,(show Sat R (Zr R L.lp (n.log.commit i).2::Zn R L.ep n.e::Z2 L.pm n.ps::pts p (Ze { n with log:=(n.log.commit i).2 } L)::Z0 L.rs n.rs::Zq R L.ms n.rms::ZN L.rr n.rrd::Hs) w from hw).arr⟩
  refine (ZfV (n:=n2) (l:=l) (by rw [hn2];exact hp) (by rw [hn2];exact hk) (by rw [hn2];show n.rms.length<=_;omega) hw).use ?_;clear hw;rintro _ w ⟨rfl,hw⟩;refine ⟨rfl,rfl,?_⟩;have e:n.advance=n2.beats:=by
   unfold Rn.advance;rw [<-hi];dsimp only;rw [if_neg (by rw [h,h2,decide_eq_false h3];simp),hn2]
  rw [e];exact hw
 ·refine ⟨w',.inr ?_⟩
  obtain ⟨t,ht,hte⟩:=List.mem_map.1 (hA.sub (k,v) (by rw [hlc];simp));obtain rfl:t.1=k:=congrArg Prod.fst hte;obtain rfl:Value.pointer (some ⟨t.2.1,0,none⟩)=v:=congrArg Prod.snd hte;have hr:=hkr t ht;obtain ⟨q,hq⟩:∃ q:Nat,t.1=q:=⟨t.1.toNat,by omega⟩;refine ⟨_,_,hx,t.1,some ⟨t.2.1,0,none⟩,λ w h=>by subst h;exact hent,?_⟩;obtain ⟨rest,hw3,back⟩:=Zds.focus pHP ht hw2.swap;refine (ZcW hw3).use ?_;clear hw2 hw3;rintro _ w2 ⟨rfl,hw⟩;have hw:=back hw;refine ⟨_,rfl,Rng.mk (by omega) (by omega) ?_⟩;have hw:=hw.take (pts b (.cells (A.map (Value.int .i64)).toArray 194 (0,0)));refine Zei (by kernel_rfl) hw (i:=t.1.toNat) (by rw [hA.len];omega) λ w hw=>?_;rw [hlc] at hA;have hA2:=hA.step ht hnd ⟨hr.1,hr.2.1⟩;have hw:Sat R (ZgS r mm (pl.map pEn) (a++c)::_) w:=hw.take (ZgS r mm (pl.map pEn) (a++c));refine ⟨(hJ w).2 ⟨a++c,_,hA2,hw.arr⟩,?_⟩;rw [Zhr hw,hleft,hlc];simp
end
section
open Go Go.VC Tryz
open Go.Rf (Ey Lg ZD)
variable {R R' R1 R2:Cx} {Hs Rest Rest2:List HP} {w:World} {p:Nat} {n m:Rn}
theorem Ze6 (n:Rn):∀ (D:List Int) (acc:List (Int × Pe)),(acc.map (·.1)++D).Nodup->(D.foldl n.addP acc).map (·.1)=acc.map (·.1)++D.filter (λ q=>q !=n.id)
 |[],acc,_=>by simp
 |q::D,acc,h=>by
  rw [List.foldl_cons];have hq:q ∉ acc.map (·.1):=λ hx=>by
   rw [List.nodup_append] at h;exact h.2.2 q hx q List.mem_cons_self rfl
  have hD:(acc.map (·.1)++D).Nodup:=by
   refine h.sublist ?_;exact (List.Sublist.refl _).append (List.sublist_cons_self q D)
  by_cases e:q=n.id
  ·have e1:n.addP acc q=acc:=by unfold Rn.addP;rw [if_pos (by simp [e])]
   rw [e1,Ze6 n D acc hD,List.filter_cons_of_neg (by simp [e])]
  ·have e1:n.addP acc q=acc++[(q,n.peerN q)]:=by unfold Rn.addP;rw [if_neg (by simp [e]),Zgi hq]
   rw [e1,Ze6 n D _ (by
    rw [List.map_append,List.append_assoc];exact h),List.filter_cons_of_pos (by simp [e]),List.map_append,List.append_assoc]
   rfl
theorem ZlS (n:Rn) (hN:∀ q,ZbC (n.peerN q)):∀ (D:List Int) (acc:List (Int × Pe)),(∀ t∈acc,ZbC t.2)->∀ t∈D.foldl n.addP acc,ZbC t.2
 |[],_,h,t,ht=>h t ht
 |q::D,acc,h,t,ht=>by
  refine ZlS n hN D (n.addP acc q) (λ t ht=>?_) t ht;unfold Rn.addP at ht;split at ht
  ·exact h t ht
  ·unfold ZcG at ht
   split at ht
   ·rcases Zd9 ht with h2|h2
    ·rw [h2];exact hN q
    ·exact h t h2
   ·rcases List.mem_append.1 ht with h2|h2
    ·exact h t h2
    ·simp at h2;rw [h2];exact hN q
theorem ZjJ {g:Gp} (hg:Zo g.vs g.ls=true):Zdt n.id (n.newPs g):=by
 have hk:=Ze6 n (g.vs++g.ls) [] (by simpa using ZcR hg);rw [List.map_nil,List.nil_append] at hk;refine ⟨?_,λ k h=>?_⟩
 ·show ((n.newPs g).map (·.1)).Nodup
  unfold Rn.newPs;rw [hk];exact (ZcR hg).filter _
 ·unfold Rn.newPs at h
  rw [hk,List.mem_filter] at h;obtain ⟨h1,h2,_⟩:=ZaL.1 hg;have h3:k≠n.id:=by simpa using h.2
  rcases List.mem_append.1 h.1 with h4|h4
  ·have:=ZaK h1 k h4;omega
  ·have:=ZaK h2 k h4;omega
theorem Zml {g:Gp} (gg:RnG n) (hpe:ZbL n):∀ t∈n.newPs g,ZbC t.2:=by
 refine ZlS n (λ q=>?_) _ [] (λ _ h=>by cases h);unfold Rn.peerN;cases hq:n.peer q with
 |some x=>exact ZcX hpe hq
 |none=>
  have h1:=gg.lg.b0;have h2:0<=n.log.last:=by unfold Lg.last;omega
  exact ZbC.new (by omega) (by omega) gg.w1 gg.w64
theorem Za2 (gg:RnG n) (hpe:ZbL n):RnG n.regroup/\ZbL n.regroup/\(∀ l,n.regroup.ps=some l->Zdt n.regroup.id l)/\n.regroup.e.role=n.e.role/\(n.e.role=3->n.regroup.ps.isSome=true)/\Zo n.regroup.g.vs n.regroup.g.ls=true:=by
 have hr:=Zc1 (n:=n) gg.sg n.log.l.length;have e:n.regroup={ n with g:=n.foldG n.log.l.length,e:=n.e.join (n.foldG n.log.l.length),ps:=if n.e.role==3 then some (Rn.newPs { n with g:=n.foldG n.log.l.length } (n.foldG n.log.l.length)) else none }:=rfl
 have hps:∀ l,n.regroup.ps=some l->l=Rn.newPs { n with g:=n.foldG n.log.l.length } (n.foldG n.log.l.length):=λ l h=>by
  rw [e] at h;dsimp only at h;split at h
  ·exact (Option.some.inj h).symm
  ·cases h
 refine ⟨⟨gg.lg,gg.lb,gg.sg,gg.w1,gg.w64⟩,λ l h=>?_,λ l h=>?_,?_,λ h=>?_,hr⟩
 ·rw [hps l h]
  exact Zml (n:={ n with g:=n.foldG n.log.l.length }) ⟨gg.lg,gg.lb,gg.sg,gg.w1,gg.w64⟩ hpe
 ·rw [hps l h]
  exact ZjJ (n:={ n with g:=n.foldG n.log.l.length }) hr
 ·show (n.e.join _).role=_
  unfold Eln.join;split<;>rfl
 ·rw [e]
  dsimp only;rw [if_pos (by simp [h])];rfl
theorem Zij (gg:RnG n) (hpe:ZbL n) (i:Int):RnG (n.fresh i)/\ZbL (n.fresh i)/\(∀ l,(n.fresh i).ps=some l->Zdt (n.fresh i).id l)/\(n.fresh i).e.role=n.e.role/\(n.e.role=3->(n.fresh i).ps.isSome=true):=
 let ⟨a,b,c,d,e,_⟩:=Za2 (n:={ n with rfr:=if n.rfr==0||decide (i<n.rfr) then i else n.rfr }) ⟨gg.lg,gg.lb,gg.sg,gg.w1,gg.w64⟩ hpe
 ⟨a,b,c,d,e⟩
structure RnL (n:Rn):Prop where
 g:RnG n
 pe:ZbL n
 pk:∀ l,n.ps=some l->Zdt n.id l
 sm:n.ps.isSome=true
 i0:1<=n.id
 i1:n.id<=15
 sn:ZE n.sn=true
theorem LgB.add {g:Lg} (h:LgB g) {l:List Ey} (hl:∀ e∈l,Zx e.dt):LgB (g.add l).2:=by
 unfold Lg.add;split
 ·exact h
 ·split
  ·intro e he
   rcases List.mem_append.1 he with he|he
   ·exact h e he
   ·exact hl e he
  ·exact h
theorem Zbg (h:RnL n) (hr:n.e.role=3) (kd:Int) {dt:List Int} (hd:Zx dt):RnL (n.enter kd dt).2/\(n.enter kd dt).2.e.role=3/\(n.enter kd dt).2.rms=n.rms/\(n.enter kd dt).2.log.last<=n.log.last + 1:=by
 unfold Rn.enter;dsimp only;split
 ·exact ⟨h,hr,rfl,by show n.log.last<=_;omega⟩
 ·have gg:RnG { n with log:=(n.log.add [⟨n.log.last + 1,n.e.hd.tm,kd,dt⟩]).2 }:=⟨h.g.lg.add _,h.g.lb.add (λ e he=>by simp at he;subst he;exact hd),h.g.sg,h.g.w1,h.g.w64⟩
  obtain ⟨a,b,c,d,e⟩:=Zij gg h.pe (n.log.last + 1);refine ⟨⟨a,b,c,e hr,h.i0,h.i1,h.sn⟩,d.trans hr,rfl,?_⟩;show (n.log.add _).2.last<=_;unfold Lg.add;split
  ·show n.log.last<=_;omega
  ·split
   ·show n.log.b.ix + ((n.log.l++[_]).length:Int)<=_
    rw [List.length_append,List.length_singleton];unfold Lg.last;omega
   ·show n.log.last<=_;omega
theorem ZbY:∀ (l:List Int) (n:Rn),l.foldl Rn.beat n={ n with rms:=(l.foldl Rn.beat n).rms }
 |[],_=>rfl
 |q::l,n=>by
  show l.foldl Rn.beat (n.beat q)={ n with rms:=(l.foldl Rn.beat (n.beat q)).rms };rw [ZbY l (n.beat q)];rfl
theorem Zar (h:RnL n):RnL n.advance/\n.advance.e=n.e/\n.advance.log.last=n.log.last/\n.advance.rms.length<=n.rms.length + 15:=by
 unfold Rn.advance;dsimp only;split
 ·exact ⟨h,rfl,rfl,Nat.le_add_right _ _⟩
 ·obtain ⟨i,hi⟩:∃ i,i=ZeA n.g.vs n.g.ls n.ats:=⟨_,rfl⟩
  rw [<-hi];obtain ⟨n2,hn2⟩:∃ n2,n2={ n with log:=(n.log.commit i).2 }:=⟨_,rfl⟩;rw [<-hn2];obtain ⟨l,hl⟩:=Option.isSome_iff_exists.1 h.sm;have hb:=ZgL n2.mem n2;have e:=ZbY n2.mem n2;have hcl:(n.log.commit i).2.last=n.log.last:=by unfold Lg.commit;split<;>rfl
  have hcb:LgB (n.log.commit i).2:=by unfold Lg.commit;split<;>exact h.g.lb
  have hm:n2.mem.length<=15:=ZeB (n:=n2) (l:=l) (by rw [hn2];exact hl) (by rw [hn2];exact h.pk l hl);have e2:n2.beats={ n2 with rms:=n2.beats.rms }:=e;refine ⟨?_,?_,?_,?_⟩
  ·rw [e2,hn2]
   exact ⟨⟨h.g.lg.commit i,hcb,h.g.sg,h.g.w1,h.g.w64⟩,h.pe,h.pk,h.sm,h.i0,h.i1,h.sn⟩
  ·rw [e2,hn2]
  ·rw [e2,hn2];exact hcl
  ·show (n2.mem.foldl Rn.beat n2).rms.length<=_
   rw [hb.2.1];have:n2.rms=n.rms:=by rw [hn2]
   rw [this];omega
theorem Snd.all (n:Rn):Snd n n.all (66 * n.mem.length):=.sends _ n
theorem Zb0 (h:RnL n) (hl:n.rms.length<=999990000) (hw:Sat R (NAt R p n::Hs) w):
  Zj prog 93 #[.pointer (some ⟨p,0,none⟩)] w λ v w'=>v=.tuple #[]/\Sat R (NAt R p n.advance::Hs) w':=
 let ⟨_,hl'⟩:=Option.isSome_iff_exists.1 h.sm
 ZhO h.g ⟨h.i0,h.i1⟩ hl' (h.pk _ hl') hl hw
theorem ZhN (h:RnL n) (hlast:n.log.last<=1099511627775) (hl:n.rms.length<=999990000) (hw:Sat R (NAt R p n::Hs) w):
  Zj prog 94 #[.pointer (some ⟨p,0,none⟩)] w λ v w'=>v=.tuple #[]/\∃ R',R.Ext R'/\Sat R' (NAt R' p n.all::Hs) w':=
 let ⟨_,hl'⟩:=Option.isSome_iff_exists.1 h.sm
 ZmI h.g h.sn hlast h.pe hl' (h.pk _ hl') hl hw
theorem Zdy {t:Sl} {bl:List Bl} {led:Bool} (g:RnG n) (hpe:ZbL n) (hid:1<=n.id/\n.id<=15) (hsn:ZE n.sn=true) (hlast:n.log.last<=1000000000) (hl:n.rms.length<=999900000) (hbl:bl.length<=1000) (hled:led=true->n.ps.isSome=true) (hw:Sat R (BlO t bl::NAt R p n::Hs) w):
  Zj prog 37 #[.pointer (some ⟨p,0,none⟩),.bool led,.slice t.a t.len t.cap] w λ v w'=>v=.tuple #[]/\∃ R',R.Ext R'/\Sat R' (NAt R' p (n.voted led bl)::Hs) w':=by
 apply Zp5;have hsl:=OwnN.len hw;rw [List.length_map] at hsl;refine ⟨λ i w=>∃ k:Nat,i=k/\k<=bl.length/\Sat R (BlO t bl::NAt R p { n with rms:=n.rms++(bl.take k).map ZcK }::Hs) w,λ i _=>bl.length - i.toNat,⟨0,rfl,Nat.zero_le _,?_⟩,?_⟩
 ·have e:{ n with rms:=n.rms++(bl.take 0).map ZcK }=n:=by simp
  rw [e];exact hw
 clear hw;rintro _ _ w ⟨k,rfl,hk,hw⟩;refine Br.d (λ h=>?_) (λ h=>?_)
 ·have hkl:k<bl.length:=by omega
  obtain ⟨n1,hn1⟩:∃ n1,n1={ n with rms:=n.rms++(bl.take k).map ZcK }:=⟨_,rfl⟩;have e1:{ n with rms:=n.rms++(bl.take (k + 1)).map ZcK }={ n1 with rms:=n1.rms++[ZcK bl[k]] }:=by
   rw [hn1,List.take_succ_eq_append_getElem hkl,List.map_append,List.append_assoc];rfl
  rw [<-hn1] at hw;have hl1:n1.rms.length<=1000000000:=by rw [hn1];show (n.rms++_).length<=_;rw [List.length_append,List.length_map,List.length_take];omega
  refine (OwnN.readsM (T:=161) (n:=7) (s:=t) (rows:=bl.map Zc8) hw (eqS hw)).rngI (g:=Zc8) k rfl hkl λ a _ el=>?_;refine ⟨_,_,_,_,_,_,_,el.z (by exact ⟨rfl,rfl,rfl,rfl,rfl,rfl,rfl,trivial⟩),Zd hw λ b w hw=>?_⟩;refine Za hw (by kernel_rfl) rfl (by simp [Value.cells,Zc]) λ w hw=>?_;have hw:=hw.re (pts b (.cells (Zc8 bl[k]).toArray 161 (0,0)));obtain ⟨L,hn,hw⟩:=NAt.iff.1 (hw.take (NAt R p n1));refine Zi (Sat R [pts p (Ze n1 L),pts b (.cells (Zc8 bl[k]).toArray 161 (0,0)),VC.tru]) hw (λ w hw=>hw.k2) λ w hw=>Zb.mk rfl ⟨L.ms,At.own Zf (by exact ⟨rfl,trivial⟩),bl[k].kd,At.own Zf (by exact ⟨rfl,trivial⟩),bl[k].fr,At.own Zf (by exact ⟨rfl,trivial⟩),bl[k].to',At.own Zf (by exact ⟨rfl,trivial⟩),bl[k].tm,At.own Zf (by exact ⟨rfl,trivial⟩),bl[k].ix,At.own Zf (by exact ⟨rfl,trivial⟩),bl[k].lt,At.own Zf (by exact ⟨rfl,trivial⟩),bl[k].yes,At.own Zf (by exact ⟨rfl,trivial⟩),Zd hw λ b2 w hw=>⟨hw.k2,?_⟩⟩;have hw:=hw.re (pts b2 (.cells (Zbn (ml0,ZcK bl[k])).toArray 71 (0,0)));have hw:=hw.cons λ _ h=>h.take (Zq R L.ms n1.rms);refine Zq.push (m:=ZcK bl[k]) (L:=ml0) (Zdu.nil rfl rfl) hl1 hw λ s2 w hw=>⟨hw.k2,Zb.mk rfl ?_⟩;refine Za hw (by kernel_rfl) rfl (by simp [Value.cells,Zc]) λ w hw=>?_;have hw:=hw.re (pts p (Ze { n1 with rms:=n1.rms++[ZcK bl[k]] } { L with ms:=s2 }));have hw:=(hw.take (pts b (.cells (Zc8 bl[k]).toArray 161 (0,0)))).drop;rw [Zh (by omega) (by omega)];refine ⟨⟨k + 1,by omega,hkl,?_⟩,by dsimp only;omega⟩;rw [e1];have h2:Sat R (pts p (Ze { n1 with rms:=n1.rms++[ZcK bl[k]] } { L with ms:=s2 })::nHs R { n1 with rms:=n1.rms++[ZcK bl[k]] } { L with ms:=s2 } (BlO t bl::Hs)) w:=
   (show Sat R (pts p (Ze { n1 with rms:=n1.rms++[ZcK bl[k]] } { L with ms:=s2 })::Zq R s2 (n1.rms++[ZcK bl[k]])::Zn R L.ep n1.e::Zr R L.lp n1.log::Z2 L.pm n1.ps::Z0 L.rs n1.rs::ZN L.rr n1.rrd::BlO t bl::Hs) w from hw).arr
  exact (NAt.iff.2 ⟨{ L with ms:=s2 },⟨hn.g,hn.sg,hn.sd⟩,h2⟩:Sat R (NAt R p { n1 with rms:=n1.rms++[ZcK bl[k]] }::BlO t bl::Hs) w).swap
 ·have:k=bl.length:=by omega
  subst this;rw [List.take_length] at hw;have hw:=hw.drop;obtain ⟨n1,hn1⟩:∃ n1,n1={ n with rms:=n.rms++bl.map ZcK }:=⟨_,rfl⟩;rw [<-hn1] at hw;have g1:RnG n1:=by rw [hn1];exact ⟨g.lg,g.lb,g.sg,g.w1,g.w64⟩
  have er:n1.e=n.e:=by rw [hn1]
  have hl1:n1.rms.length<=999910000:=by rw [hn1];show (n.rms++_).length<=_;rw [List.length_append,List.length_map];omega
  have ev:n.voted led bl=(if n1.e.role !=3 then { n1 with ps:=none,rs:=[] } else if !led then (Rn.enter (Rn.regroup { n1 with ps:=none,rs:=[],rnd:=0 }) 0 []).2.advance.all else n1):=by rw [hn1];rfl
  rw [ev];obtain ⟨L,hn,hw⟩:=NAt.iff.1 hw;refine Zb.mk rfl ⟨_,At.own (eqS hw) (by exact ⟨rfl,trivial⟩),?_⟩;refine (Zai (hw.take (Zn R L.ep n1.e))).use ?_;clear hw;rintro _ w ⟨rfl,hw⟩;have hw:=hw.take (pts p (Ze n1 L));refine ⟨_,rfl,Br.ne (λ h1=>Zb.mk rfl ?_) (λ h1=>?_)⟩
  ·refine Za hw (by kernel_rfl) rfl (by simp [Value.cells,Zc]) λ w hw=>?_
   refine Zb.mk rfl ?_;refine Za hw (by kernel_rfl) rfl (by simp [Value.cells,Zc]) λ w hw=>?_;rw [if_pos (by simpa using h1)];have hw:=hw.re (pts p (Ze { n1 with ps:=none,rs:=[] } { L with pm:=none,rs:=⟨none,0,0⟩ }));have hw:=(hw.take (Z0 L.rs n1.rs)).drop;have hw:=Z0.nil (hw.take (Z2 L.pm n1.ps)).drop;have hw:=Z2.none'.2 ⟨rfl,hw⟩;exact ⟨rfl,R,.refl,NAt.iff.2 ⟨{ L with pm:=none,rs:=⟨none,0,0⟩ },⟨hn.g,hn.sg,hn.sd⟩,(show Sat R (Z2 none none::Z0 ⟨none,0,0⟩ []::pts p (Ze { n1 with ps:=none,rs:=[] } { L with pm:=none,rs:=⟨none,0,0⟩ })::Zn R L.ep n1.e::Zr R L.lp n1.log::Zq R L.ms n1.rms::ZN L.rr n1.rrd::Hs) w from hw).arr⟩⟩
  ·rw [if_neg (by simp [h1])]
   refine Br.nb (λ h2=>Zb.mk rfl ?_) (λ h2=>?_)
   ·rw [if_pos (by simp [h2])]
    refine Za hw (by kernel_rfl) rfl (by simp [Value.cells,Zc]) λ w hw=>?_;refine Zb.mk rfl ?_;refine Za hw (by kernel_rfl) rfl (by simp [Value.cells,Zc]) λ w hw=>?_;refine Zb.mk rfl ?_;refine Za hw (by kernel_rfl) rfl (by simp [Value.cells,Zc]) λ w hw=>?_;obtain ⟨n2,hn2⟩:∃ n2,n2={ n1 with ps:=none,rs:=[],rnd:=0 }:=⟨_,rfl⟩;have g2:RnG n2:=by rw [hn2];exact ⟨g1.lg,g1.lb,g1.sg,g1.w1,g1.w64⟩
    have pe2:ZbL n2:=by rw [hn2];intro l h;cases h
    have hw:Sat R (NAt R p n2::Hs) w:=by
     have hw:=hw.re (pts p (Ze { n1 with ps:=none,rs:=[],rnd:=0 } { L with pm:=none,rs:=⟨none,0,0⟩ }));have hw:=(hw.take (Z0 L.rs n1.rs)).drop;have hw:=Z0.nil (hw.take (Z2 L.pm n1.ps)).drop;have hw:=Z2.none'.2 ⟨rfl,hw⟩;rw [hn2];exact NAt.iff.2 ⟨{ L with pm:=none,rs:=⟨none,0,0⟩ },⟨hn.g,hn.sg,hn.sd⟩,(show Sat R (Z2 none none::Z0 ⟨none,0,0⟩ []::pts p (Ze { n1 with ps:=none,rs:=[],rnd:=0 } { L with pm:=none,rs:=⟨none,0,0⟩ })::Zn R L.ep n1.e::Zr R L.lp n1.log::Zq R L.ms n1.rms::ZN L.rr n1.rrd::Hs) w from hw).arr⟩
    rw [<-hn2];refine (Zbs g2.lg g2.lb g2.sg g2.w1 g2.w64 hw).use ?_;clear hw;rintro _ w ⟨rfl,R2,e2,hw⟩;obtain ⟨a,b,c,d,e,_⟩:=Za2 g2 pe2;have hr2:n2.e.role=3:=by rw [hn2];exact h1
    have L2:RnL n2.regroup:=⟨a,b,c,e hr2,by show 1<=n2.id;rw [hn2,hn1];exact hid.1,by show n2.id<=15;rw [hn2,hn1];exact hid.2,by show ZE n2.sn=true;rw [hn2,hn1];exact hsn⟩;refine ⟨rfl,?_⟩;refine (ZfL (d:=⟨none,0,0⟩) (dt:=[]) a 0 ⟨rfl,Nat.le_refl _,λ h=>absurd rfl h⟩ (λ x hx=>by cases hx) hw).use ?_;clear hw;rintro _ w ⟨rfl,R3,e3,hw⟩;obtain ⟨L3,r3,m3,t3⟩:=Zbg L2 (d.trans hr2) 0 (dt:=[]) (λ x hx=>by cases hx);have hlr:n2.regroup.log.last=n.log.last:=by show n2.log.last=_;rw [hn2,hn1]
    have hmr:n2.regroup.rms=n1.rms:=by show n2.rms=_;rw [hn2]
    refine ⟨_,_,rfl,?_⟩;refine (Zb0 L3 (by rw [m3,hmr];omega) hw).use ?_;clear hw;rintro _ w ⟨rfl,hw⟩;obtain ⟨L4,_,t4,m4⟩:=Zar L3;refine ⟨rfl,?_⟩;refine (ZhN L4 (by omega) (by rw [m3,hmr] at m4;omega) hw).use ?_;clear hw;rintro _ w ⟨rfl,R4,e4,hw⟩;exact ⟨rfl,rfl,R4,(e2.trans e3).trans e4,hw⟩
   ·rw [if_neg (by simp [h2])]
    exact ⟨rfl,R,.refl,NAt.iff.2 ⟨L,hn,hw.arr⟩⟩
end
section
open Go Go.VC Tryz
open Go.Rf (Ey Lg ZD)
variable {R R' R1 R2:Cx} {Hs Rest Rest2:List HP} {w:World} {p:Nat} {n m:Rn}
theorem Zh1 (e:Eln) (a b:Int) (h:Zo e.g.vs e.g.ls=true):(e.run a b).1.length<=15:=by
 have h15:=Zv (Zp h);unfold Eln.run;split
 ·show (0:Nat)<=15;omega
 ·dsimp only
  split
  ·show (0:Nat)<=15;omega
  ·show ((List.filter _ _).map _).length<=15
   rw [List.length_map];exact Nat.le_trans (List.length_filter_le _ _) h15
theorem Zl5 (e:Eln) (d a b:Int) (h:Zo e.g.vs e.g.ls=true):(e.tick d a b).1.length<=15:=by
 have h15:=Zv (Zp h);unfold Eln.tick;split
 ·show (0:Nat)<=15;omega
 ·dsimp only
  split
  ·show (0:Nat)<=15;omega
  ·split
   ·exact Zh1 _ _ _ h
   ·show ((List.filter _ _).map _).length<=15
    rw [List.length_map];exact Nat.le_trans (List.length_filter_le _ _) h15
theorem Zfy (g:RnG n) (hpe:ZbL n) (hid:1<=n.id/\n.id<=15) (hsn:ZE n.sn=true) (he:ZL n.e) (hwt:n.e.wait<4611686018427387904) (hlast:n.log.last<=1000000000) (hl:n.rms.length<=999900000) (hr:n.e.role≠3) (draw:Int) (hw:Sat R (NAt R p n::Hs) w):
  Zj prog 10 #[.pointer (some ⟨p,0,none⟩),.int .i64 draw] w λ v w'=>v=.tuple #[]/\∃ R',R.Ext R'/\Sat R' (NAt R' p (n.tick draw)::Hs) w':=by
 obtain ⟨L,hn,hw⟩:=NAt.iff.1 hw;apply ZmZ;refine Zb.mk rfl ⟨_,At.own (eqS hw) (by exact ⟨rfl,trivial⟩),?_⟩;refine (Zai (hw.take (Zn R L.ep n.e))).use ?_;clear hw;rintro _ w ⟨rfl,hw⟩;have hw:=hw.take (pts p (Ze n L));refine ⟨_,rfl,Br.ne (λ _=>?_) (λ h=>absurd h hr)⟩;refine Zi (Sat R [pts p (Ze n L),VC.tru]) hw (λ w hw=>hw.k1) λ w hw=>Zb.mk rfl ⟨some ⟨L.ep,0,none⟩,At.own Zf (by exact ⟨rfl,trivial⟩),Zb.mk rfl ⟨_,At.own (eqS hw) (by exact ⟨rfl,trivial⟩),?_⟩⟩;refine (ZT g.lg (hw.take (Zr R L.lp n.log))).use ?_;clear hw;rintro _ w ⟨rfl,hw⟩;refine ⟨_,rfl,hw.k1,?_⟩
 -- the term: the node is put together, and opened again
 obtain ⟨t,ht⟩:∃ t,t=(n.log.term n.log.last).1:=⟨_,rfl⟩;have term:Zj prog 40 #[.pointer (some ⟨p,0,none⟩)] w λ v w'=>v=.int .i64 t/\Sat R (pts p (Ze n L)::nHs R n L Hs) w':=by
  have hw:Sat R (pts p (Ze n L)::nHs R n L Hs) w:=hw.arr;apply ZmY;refine Zi (Sat R [pts p (Ze n L),VC.tru]) hw (λ w hw=>hw.k1) λ w hw=>Zb.mk rfl ⟨_,At.own Zf (by exact ⟨rfl,trivial⟩),Zb.mk rfl ⟨_,At.own Zf (by exact ⟨rfl,trivial⟩),?_⟩⟩;have hw:=hw.take (Zr R L.lp n.log);refine (ZT g.lg hw).use ?_;clear hw;rintro _ w ⟨rfl,hw⟩;refine ⟨_,rfl,hw.k1,?_⟩;refine (ZaS g.lg _ hw).use ?_;clear hw;rintro _ w ⟨rfl,hw⟩;exact ⟨_,_,rfl,hw.k1,by rw [ht],hw.arr⟩
 refine term.use ?_;clear hw term;rintro _ w ⟨rfl,hw⟩;refine ⟨_,rfl,hw.k1,?_⟩;refine (Zj1 he hwt draw n.log.last t (hw.take (Zn R L.ep n.e))).use ?_;clear hw;rintro _ w ⟨s,rfl,hw⟩;refine ⟨s,rfl,?_⟩;obtain ⟨r,hrr⟩:∃ r,r=n.e.tick draw n.log.last t:=⟨_,rfl⟩;rw [<-hrr] at hw;have hw:Sat R (pts p (Ze { n with e:=r.2 } L)::Zn R L.ep r.2::Zr R L.lp n.log::Z2 L.pm n.ps::Z0 L.rs n.rs::Zq R L.ms n.rms::ZN L.rr n.rrd::BlO s r.1::Hs) w:=hw.arr;have hw:Sat R (NAt R p { n with e:=r.2 }::BlO s r.1::Hs) w:=NAt.iff.2 ⟨L,⟨hn.g,hn.sg,hn.sd⟩,hw⟩;have hbl:=Zl5 n.e draw n.log.last t he.g;rw [<-hrr] at hbl;refine (Zdy (n:={ n with e:=r.2 }) (led:=false) ⟨g.lg,g.lb,g.sg,g.w1,g.w64⟩ hpe hid hsn hlast hl (by omega) (λ h=>by cases h) hw.swap).use ?_;rintro _ w ⟨rfl,R2,e2,hw⟩;refine ⟨rfl,rfl,R2,e2,?_⟩;have e:n.tick draw=Rn.voted { n with e:=r.2 } false r.1:=by unfold Rn.tick;rw [if_pos (by simpa using hr),hrr,ht]
 rw [e];exact hw
theorem Zho {d:Sl} {dt:List Int} (h:RnL n) (hr:n.e.role=3) (kd:Int) (hlast:n.log.last<=1000000000) (hl:n.rms.length<=999900000) (hd:SlR R.m d (b8 dt)) (hdb:Zx dt) (hw:Sat R (NAt R p n::Hs) w):
  Zj prog 47 #[.pointer (some ⟨p,0,none⟩),.int .i64 kd,.slice d.a d.len d.cap] w λ v w'=>v=.tuple #[.int .i64 (n.lead kd dt).1.1,.int .i64 (n.lead kd dt).1.2]/\∃ R',R.Ext R'/\Sat R' (NAt R' p (n.lead kd dt).2::Hs) w':=by
 apply ZpW;refine (ZfL h.g kd hd hdb hw).use ?_;clear hw;rintro _ w ⟨rfl,R2,e2,hw⟩;obtain ⟨L3,r3,m3,t3⟩:=Zbg h hr kd hdb;unfold Rn.lead;dsimp only;refine ⟨_,_,rfl,Br.ne (λ h1=>?_) (λ h1=>?_)⟩
 ·rw [if_pos (by simpa using h1)]
  exact ⟨rfl,R2,e2,hw⟩
 ·rw [if_neg (by simp [h1])]
  refine (Zb0 L3 (by rw [m3];omega) hw).use ?_;clear hw;rintro _ w ⟨rfl,hw⟩;obtain ⟨L4,_,t4,m4⟩:=Zar L3;refine ⟨rfl,?_⟩;refine (ZhN L4 (by omega) (by rw [m3] at m4;omega) hw).use ?_;clear hw;rintro _ w ⟨rfl,R4,e4,hw⟩;refine ⟨rfl,?_,R4,e2.trans e4,hw⟩;show Value.tuple #[.int .i64 (n.enter kd dt).1.1,.int .i64 0]=_;rw [h1]
theorem ZdT {d:Sl} {dt:List Int} (h:n.e.role=3->RnL n) (hlast:n.e.role=3->n.log.last<=1000000000) (hl:n.rms.length<=999900000) (hd:SlR R.m d (b8 dt)) (hdb:Zx dt) (hw:Sat R (NAt R p n::Hs) w):
  Zj prog 11 #[.pointer (some ⟨p,0,none⟩),.slice d.a d.len d.cap] w λ v w'=>v=.tuple #[.int .i64 (n.propose dt).1.1,.int .i64 (n.propose dt).1.2]/\∃ R',R.Ext R'/\Sat R' (NAt R' p (n.propose dt).2::Hs) w':=by
 obtain ⟨L,hn,hw⟩:=NAt.iff.1 hw;have hdl:d.len=dt.length:=by have:=hd.len;simpa using this
 apply Zqq;unfold Rn.propose;refine Zb.mk rfl ⟨_,At.own (eqS hw) (by exact ⟨rfl,trivial⟩),?_⟩;refine (Zai (hw.take (Zn R L.ep n.e))).use ?_;clear hw;rintro _ w ⟨rfl,hw⟩;have hw:Sat R (NAt R p n::Hs) w:=NAt.iff.2 ⟨L,hn,hw.arr⟩;refine ⟨_,rfl,Br.ne (λ h1=>?_) (λ h1=>?_)⟩
 ·rw [if_pos (by simpa using h1)]
  exact ⟨rfl,R,.refl,hw⟩
 rw [if_neg (by simp [h1])]
 with_reducible refine Br.d (λ h2=>?_) (λ h2=>?_)
 ·rw [if_pos (by omega)]
  exact ⟨rfl,R,.refl,hw⟩
 rw [if_neg (by omega)];have hdt:dt.length<=4096:=by omega
 refine (ZcD (hd.ro (by rw [List.length_map];omega)) (by omega) hw).use ?_;clear hw;rintro _ w ⟨t,rfl,hw⟩;obtain ⟨R2,e2,ht,hw⟩:=Own.leak hw;refine ⟨t,rfl,?_⟩;refine (Zho (h h1) h1 1 (hlast h1) hl ht hdb (NAt.ext hw e2)).use ?_;clear hw;rintro _ w ⟨rfl,R3,e3,hw⟩;exact ⟨_,_,rfl,rfl,R3,e2.trans e3,hw⟩
theorem elRq:ElN prog 56 56 112 4 48:=⟨underlying56,⟨_,underlying56⟩,by kernel_rfl⟩
theorem elRr:ElN prog 42 42 50 2 16:=⟨underlying42,⟨_,underlying42⟩,by kernel_rfl⟩
theorem Z0.len {s:Sl} {rs:List Rq} (hw:Sat R (Z0 s rs::Hs) w):s.len=rs.length:=by
 obtain ⟨l,h1,h2⟩:=Z0.iff.1 hw;subst h1;have:=OwnN.len h2;simpa using this
theorem Z0.push {s t:Sl} {rs:List Rq} {r:Rq} {b:Nat} {T':TypeId} {K:Sl->World->Prop} (hl:rs.length<=1000) (hw:Sat R (pts b (.cells (Z5 (t,r)).toArray T' (0,0))::Z0 s rs::Own t 3 (ints r.bh)::Hs) w)
  (k:∀ s' w',Sat R (Z0 s' (rs++[r])::Hs) w'->K s' w'):
  ∃ w',∃ u:Sl,(Builtin.append_ #[ 56,56 ] 56 #[.slice s.a s.len s.cap,.slice (some ⟨b,0,none⟩) 1 1]).run prog w=.ok (.slice u.a u.len u.cap) w'/\K u w':=by
 obtain ⟨l,h1,hw1⟩:=Z0.iff.1 hw.swap;subst h1;rw [List.length_map] at hl;have h2:Sat R (OwnN 4 s 112 (l.map Z5)::pts b (.cells (Z5 (t,r)).toArray T' (0,0))::Own t 3 (ints r.bh)::(l.map Zga++Hs)) w:=hw1.cons λ _ h=>by
  refine h.perm ?_;refine (List.perm_middle (l₁:=l.map Zga) (a:=pts b (.cells (Z5 (t,r)).toArray T' (0,0))) (l₂:=Own t 3 (ints r.bh)::Hs)).trans (List.Perm.cons _ ?_);exact List.perm_middle
 refine Zbt elRq h2 rfl rfl (by rw [List.length_map];omega) (by rw [List.length_map];omega) λ s2 w hw=>k s2 w ?_;refine Z0.iff.2 ⟨l++[(t,r)],by rw [List.map_append];rfl,?_⟩;rw [List.map_append,List.map_append];refine hw.cons λ _ h=>h.perm ?_;rw [List.append_assoc];exact (List.perm_middle (l₁:=l.map Zga) (a:=Zga (t,r)) (l₂:=Hs)).symm
theorem ZkQ (h:n.e.role=3->RnL n) (g:RnG n) (tok:Int) (hrnd:0<=n.rnd/\n.rnd<4611686018427387904) (hl:n.rms.length<=999900000) (hrr:n.rrd.length<=1000000000) (hw:Sat R (NAt R p n::Hs) w):
  Zj prog 12 #[.pointer (some ⟨p,0,none⟩),.int .i64 tok] w λ v w'=>v=.int .i64 (n.read tok).1/\Sat R (NAt R p (n.read tok).2::Hs) w':=by
 apply Zqp;unfold Rn.read;refine ⟨λ w=>(n.own=true/\¬ ((n.rs.length:Int) >= 64))/\Sat R (NAt R p n::Hs) w,?_,?_⟩
 ·refine (ZiS g.lg hw).use ?_
  clear hw;rintro _ w ⟨rfl,hw⟩;refine ⟨_,rfl,Br.nb (λ h1=>⟨by rw [h1];rfl,by rw [h1];exact hw⟩) (λ h1=>?_)⟩;obtain ⟨L,hn,hw⟩:=NAt.iff.1 hw;have hsl:=Z0.len (hw.take (Z0 L.rs n.rs));refine Zb.mk rfl ⟨L.rs,At.own (eqS hw) (by exact ⟨rfl,trivial⟩),?_⟩;rw [hsl];refine Br.d (λ h2=>?_) (λ h2=>⟨⟨h1,h2⟩,NAt.iff.2 ⟨L,hn,hw⟩⟩);rw [if_pos (by rw [decide_eq_true h2];simp)];exact ⟨rfl,NAt.iff.2 ⟨L,hn,hw⟩⟩
 clear hw;rintro _ w ⟨⟨h1,h2⟩,hw⟩;have hr:n.e.role=3:=by
  unfold Rn.own at h1;simp only [Bool.and_eq_true,beq_iff_eq] at h1;exact h1.2
 have hL:=h hr;rw [if_neg (by rw [h1,decide_eq_false h2];simp)];obtain ⟨L,hn,hw⟩:=NAt.iff.1 hw;refine Zb.mk rfl ⟨_,At.own (eqS hw) (by exact ⟨rfl,trivial⟩),?_⟩;refine (ZF (hw.take (Zr R L.lp n.log))).use ?_;clear hw;rintro _ w ⟨rfl,hw⟩;refine ⟨_,rfl,Zd hw λ b w hw=>?_⟩;refine Za hw (by kernel_rfl) rfl (by simp [Value.cells,Zc]) λ w hw=>?_;have hw:=hw.re (pts b (.cells (Zbb (tok,n.log.com)).toArray 50 (0,0)));refine Zb.mk rfl ⟨n.id,At.own (eqS hw) (by exact ⟨rfl,trivial⟩),Zd hw λ b2 w hw=>Zb.mk rfl ⟨L.gv,L.gl,At.own (eqS hw) (by exact ⟨rfl,rfl,trivial⟩),?_⟩⟩;have hw:=ZbR hw;have hw:=hw.re (Own ⟨some ⟨b2,0,none⟩,1,1⟩ 3 (ints [n.id]));obtain ⟨R2,hb,keep,hw,back⟩:=Own.lendI hw (by simp);refine (Zdb hw (keep _ _ hn.g.v) (keep _ _ hn.g.l) hb).use ?_;clear hw;rintro _ w ⟨rfl,hw⟩;have hw:=back hw;refine ⟨_,rfl,Br.mk (λ h3=>?_) (λ h3=>?_)⟩
 ·rw [if_pos h3]
  have hw:=hw.drop;refine Zi (Sat R [pts p (Ze n L),pts b (.cells (Zbb (tok,n.log.com)).toArray 50 (0,0)),VC.tru]) hw (λ w hw=>hw.k2) λ w hw=>Zb.mk rfl ⟨L.rr,At.own Zf (by exact ⟨rfl,trivial⟩),tok,n.log.com,At.own Zf (by exact ⟨rfl,rfl,trivial⟩),Zd hw λ b3 w hw=>⟨hw.k2,?_⟩⟩;have hw:=hw.re (pts b3 (.cells (Zbb (tok,n.log.com)).toArray 50 (0,0)));have hw:=hw.swap.cons λ _ h=>h;have hw:=hw.take (ZN L.rr n.rrd);have hw:=hw.cons λ _ h=>h.take (pts b3 (.cells (Zbb (tok,n.log.com)).toArray 50 (0,0)));refine Zbt elRr hw rfl rfl (by rw [List.length_map];omega) (by rw [List.length_map];omega) λ s2 w hw=>⟨hw.k2,Zb.mk rfl ?_⟩;refine Za hw (by kernel_rfl) rfl (by simp [Value.cells,Zc]) λ w hw=>?_;have hw:=hw.re (pts p (Ze { n with rrd:=n.rrd++[(tok,n.log.com)] } { L with rr:=s2 }));have hw:=(hw.take (pts b (.cells (Zbb (tok,n.log.com)).toArray 50 (0,0)))).drop;refine ⟨rfl,NAt.iff.2 ⟨{ L with rr:=s2 },⟨hn.g,hn.sg,hn.sd⟩,?_⟩⟩;have hw:Sat R (pts p (Ze { n with rrd:=n.rrd++[(tok,n.log.com)] } { L with rr:=s2 })::ZN s2 (n.rrd++[(tok,n.log.com)])::Zr R L.lp n.log::Zn R L.ep n.e::Z2 L.pm n.ps::Z0 L.rs n.rs::Zq R L.ms n.rms::Hs) w:=by
   unfold ZN;rw [List.map_append];exact hw
  exact hw.arr
 ·rw [if_neg (by rw [h3];simp)]
  refine Zb.mk rfl ⟨n.rnd,At.own (eqS hw) (by exact ⟨rfl,trivial⟩),Zb.mk rfl ?_⟩;rw [Zh (by omega) (by omega)];have hw:=hw.take (pts p (Ze n L));refine Za hw (by kernel_rfl) rfl (by simp [Value.cells,Zc]) λ w hw=>?_;have hw:=hw.re (pts p (Ze { n with rnd:=n.rnd + 1 } L));refine Zi (Sat R [pts p (Ze { n with rnd:=n.rnd + 1 } L),pts b (.cells (Zbb (tok,n.log.com)).toArray 50 (0,0)),VC.tru]) hw (λ w hw=>hw.k2) λ w hw=>Zb.mk rfl ⟨L.rs,At.own Zf (by exact ⟨rfl,trivial⟩),tok,n.log.com,At.own Zf (by exact ⟨rfl,rfl,trivial⟩),Zb.mk rfl ⟨n.rnd + 1,At.own Zf (by exact ⟨rfl,trivial⟩),Zd hw λ b3 w hw=>⟨hw.k2,?_⟩⟩⟩;have hw:=hw.re (pts b3 (.cells (Z5 (⟨some ⟨b2,0,none⟩,1,1⟩,⟨tok,n.log.com,n.rnd + 1,[n.id]⟩)).toArray 112 (0,0)));have hw:=hw.cons λ _ h=>(h.take (Z0 L.rs n.rs)).cons λ _ h=>h.take (Own ⟨some ⟨b2,0,none⟩,1,1⟩ 3 (ints [n.id]));refine Z0.push (t:=(⟨some ⟨b2,0,none⟩,1,1⟩:Sl)) (r:=(⟨tok,n.log.com,n.rnd + 1,[n.id]⟩:Rq)) (by omega) hw λ s2 w hw=>⟨hw.k2,Zb.mk rfl ?_⟩;refine Za hw (by kernel_rfl) rfl (by simp [Value.cells,Zc]) λ w hw=>?_;obtain ⟨n2,hn2⟩:∃ n2:Rn,n2={ n with rnd:=n.rnd + 1,rs:=n.rs++[⟨tok,n.log.com,n.rnd + 1,[n.id]⟩] }:=⟨_,rfl⟩;have hw:=hw.re (pts p (Ze { n with rnd:=n.rnd + 1,rs:=n.rs++[⟨tok,n.log.com,n.rnd + 1,[n.id]⟩] } { L with rs:=s2 }));have hw:=(hw.take (pts b (.cells (Zbb (tok,n.log.com)).toArray 50 (0,0)))).drop;have hw:Sat R (NAt R p n2::Hs) w:=by
   rw [hn2];exact NAt.iff.2 ⟨{ L with rs:=s2 },⟨hn.g,hn.sg,hn.sd⟩,(show Sat R (pts p (Ze { n with rnd:=n.rnd + 1,rs:=n.rs++[⟨tok,n.log.com,n.rnd + 1,[n.id]⟩] } { L with rs:=s2 })::Z0 s2 (n.rs++[⟨tok,n.log.com,n.rnd + 1,[n.id]⟩])::Zr R L.lp n.log::Zn R L.ep n.e::Z2 L.pm n.ps::Zq R L.ms n.rms::ZN L.rr n.rrd::Hs) w from hw).arr⟩
  rw [<-hn2];obtain ⟨l,hll⟩:=Option.isSome_iff_exists.1 hL.sm;refine (ZfV (n:=n2) (l:=l) (by rw [hn2];exact hll) (by rw [hn2];exact hL.pk l hll) (by rw [hn2];show n.rms.length<=_;omega) hw).use ?_;clear hw;rintro _ w ⟨rfl,hw⟩;exact ⟨rfl,rfl,hw⟩
end
section
open Go Go.VC Tryz
theorem Zmt (x y x' y':Int) (w:World):(Op.equal 29 (.agg #[.int .i64 x,.int .i64 y]) (.agg #[.int .i64 x',.int .i64 y'])).run prog w=.ok (decide (x=x'/\y=y')) w:=by
 show (Op.equalIn (9999 + 1) _ _ _).run _ _=_;rw [run_equalIn_struct w 9999 29 _ _ (by kernel_rfl) (by kernel_rfl)];have hf : (prog.fieldsOf 29).toList = [⟨"Term", 3, 0, false, "", "", 0⟩, ⟨"Vote", 3, 1, false, "", "", 8⟩] := by kernel_rfl
 rw [hf];have p:∀ (xs:Array Value) (i:Nat) (v:Value),xs[i]? =some v->(part 3 xs i).run prog w=.ok v w:=λ xs i v h=>run_part_plain (P:=prog) (w:=w) (e:=3) (by kernel_rfl) h;have e:∀ a b:Int,(Op.equalIn 9999 3 (.int .i64 a) (.int .i64 b)).run prog w=.ok (a==b) w:=λ a b=>run_equalIn_int w 9998 3 .i64 .i64 a b underlying3;unfold Op.eqFields;rw [if_pos (by simp),Sem.run_bind,p _ 0 (.int .i64 x) rfl,Result.andThen_ok,Sem.run_bind,p _ 0 (.int .i64 x') rfl,Result.andThen_ok,Sem.run_bind,e,Result.andThen_ok];by_cases h1:x=x'
 ·subst h1
  rw [if_neg (by simp)];unfold Op.eqFields;rw [if_pos (by simp),Sem.run_bind,p _ 1 (.int .i64 y) rfl,Result.andThen_ok,Sem.run_bind,p _ 1 (.int .i64 y') rfl,Result.andThen_ok,Sem.run_bind,e,Result.andThen_ok];by_cases h2:y=y'
  ·subst h2
   rw [if_neg (by simp)];unfold Op.eqFields;simp
  ·rw [if_pos (by simp [h2]),Sem.run_pure,decide_eq_false (λ h=>h2 h.2)]
 ·rw [if_pos (by simp [h1]),Sem.run_pure,decide_eq_false (λ h=>h1 h.1)]
theorem ZjX (op:BinOp) (x y x' y':Int) (w:World) (a b:Operand):(eqGuard op 29 a b (.agg #[.int .i64 x,.int .i64 y]) (.agg #[.int .i64 x',.int .i64 y'])).run prog w=.ok () w:=by
 have h:prog.eqGuardType prog.depth 29=false:=by kernel_rfl
 unfold eqGuard;cases op<;>simp [h]
theorem Zms (x y x' y':Int) (a b:Operand) (w:World):((do eqGuard BinOp.neq 29 a b (.agg #[.int .i64 x,.int .i64 y]) (.agg #[.int .i64 x',.int .i64 y']);binOp BinOp.neq 29 (.agg #[.int .i64 x,.int .i64 y]) (.agg #[.int .i64 x',.int .i64 y']):Sem Value)).run prog w=.ok (.bool (!decide (x=x'/\y=y'))) w:=by
 rw [Sem.run_bind,ZjX,Result.andThen_ok];show (do pure (.bool (!(<-Op.equal 29 _ _))):Sem Value).run _ _=_;rw [Sem.run_bind,Zmt,Result.andThen_ok,Sem.run_pure]
end
section
open Go Go.VC Tryz
open Go.Rf (Ey Lg ZD)
variable {R R' R1 R2:Cx} {Hs Rest Rest2:List HP} {w:World} {p:Nat} {n m:Rn}
structure RLo where
 v:Sl
 l:Sl
 d:Sl
 ms:Sl
 rr:Sl
abbrev Zo3 (r:Rdy) (L:RLo):List Value:=[.bool r.hn,.int .i64 r.hd.tm,.int .i64 r.hd.vt,.bool r.sn',.int .i64 r.sn.ix,.int .i64 r.sn.tm,.slice L.v.a L.v.len L.v.cap,.slice L.l.a L.l.len L.l.cap,.slice L.d.a L.d.len L.d.cap,.int .i64 r.fr,.slice L.ms.a L.ms.len L.ms.cap,.slice L.rr.a L.rr.len L.rr.cap]
abbrev Zo2 (r:Rdy) (L:RLo):Value:=.agg #[.bool r.hn,.int .i64 r.hd.tm,.int .i64 r.hd.vt,.bool r.sn',.int .i64 r.sn.ix,.int .i64 r.sn.tm,.slice L.v.a L.v.len L.v.cap,.slice L.l.a L.l.len L.l.cap,.slice L.d.a L.d.len L.d.cap,.int .i64 r.fr,.slice L.ms.a L.ms.len L.ms.cap,.slice L.rr.a L.rr.len L.rr.cap]
abbrev Zs (r:Rdy) (L:RLo):Obj:=.cells (Zo3 r L).toArray 44 (0,0)
structure ZrB (R:Cx) (r:Rdy) (L:RLo):Prop where
 g:Zd7 R r.sn.g L.v L.l
 d:SlR R.m L.d (b8 r.sn.dt)
def OutQ (R:Cx) (Hs:List HP) (p:Nat) (x:Rdy × Rn) (v:Value) (w:World):Prop:=∃ R' L,R.Ext R'/\ZrB R' x.1 L/\v=Zo2 x.1 L/\Sat R' (Zq R' L.ms x.1.ms::ZN L.rr x.1.rd::NAt R' p x.2::Hs) w
theorem Zmf (hsn:ZE n.sn=true) (hw:Sat R (NAt R p n::Hs) w):Zj prog 13 #[.pointer (some ⟨p,0,none⟩)] w (OutQ R Hs p n.out):=by
 obtain ⟨L,hn,hw⟩:=NAt.iff.1 hw;apply Zqo;have hb:n.sn.g.vs.length<=15/\n.sn.g.ls.length<=15/\n.sn.dt.length<=60000:=by
  unfold ZE at hsn;simp only [Bool.and_eq_true,decide_eq_true_eq] at hsn;exact ⟨Zv (Zp hsn.1.2),Zv (ZO hsn.1.2),hsn.2⟩
 obtain ⟨r0,hr0⟩:∃ r0:Rdy,r0=⟨false,⟨0,0⟩,n.rsn,sn0,n.rfr,n.rms,n.rrd⟩:=⟨_,rfl⟩;obtain ⟨L0,hL0⟩:∃ L0:RLo,L0=⟨⟨none,0,0⟩,⟨none,0,0⟩,⟨none,0,0⟩,L.ms,L.rr⟩:=⟨_,rfl⟩;obtain ⟨rz,hrz⟩:∃ rz:Rdy,rz=⟨false,⟨0,0⟩,false,sn0,0,[],[]⟩:=⟨_,rfl⟩;obtain ⟨Lz,hLz⟩:∃ Lz:RLo,Lz=⟨⟨none,0,0⟩,⟨none,0,0⟩,⟨none,0,0⟩,⟨none,0,0⟩,⟨none,0,0⟩⟩:=⟨_,rfl⟩;refine Zd hw λ b w hw=>?_;have hw:=hw.re (pts b (Zs rz Lz)) (by rw [hrz,hLz];rfl);refine Zb.mk rfl ⟨false,0,0,n.rsn,0,0,⟨none,0,0⟩,⟨none,0,0⟩,⟨none,0,0⟩,n.rfr,L.ms,L.rr,At.own (eqS hw) (by exact ⟨rfl,rfl,rfl,rfl,rfl,rfl,rfl,rfl,rfl,rfl,rfl,rfl,trivial⟩),Zd hw λ b2 w hw=>?_⟩;refine Za hw (by kernel_rfl) rfl (by simp [Value.cells,Zc]) λ w hw=>?_;have hw:=hw.re (pts b2 (Zs r0 L0)) (by rw [hr0,hL0];rfl);refine Zb.mk rfl ?_;have hw:=hw.take (pts p (Ze n L));refine Za hw (by kernel_rfl) rfl (by simp [Value.cells,Zc]) λ w hw=>?_;obtain ⟨n1,hn1⟩:∃ n1:Rn,n1={ n with rsn:=false,rfr:=0,rms:=[],rrd:=[] }:=⟨_,rfl⟩;obtain ⟨L1,hL1⟩:∃ L1:NLo,L1={ L with ms:=⟨none,0,0⟩,rr:=⟨none,0,0⟩ }:=⟨_,rfl⟩;have hw:=hw.re (pts p (Ze n1 L1)) (by rw [hn1,hL1];rfl);have hin1:NIn R n1 L1:=by rw [hn1,hL1];exact ⟨hn.g,hn.sg,hn.sd⟩
 have eE:Zn R L.ep n.e=Zn R L1.ep n1.e:=by rw [hL1,hn1]
 have eL:Zr R L.lp n.log=Zr R L1.lp n1.log:=by rw [hL1,hn1]
 have eP:Z2 L.pm n.ps=Z2 L1.pm n1.ps:=by rw [hL1,hn1]
 have eR:Z0 L.rs n.rs=Z0 L1.rs n1.rs:=by rw [hL1,hn1]
 have eM:Zq R L.ms n.rms=Zq R L0.ms r0.ms:=by rw [hL0,hr0]
 have eQ:ZN L.rr n.rrd=ZN L0.rr r0.rd:=by rw [hL0,hr0]
 have hw:Sat R (pts p (Ze n1 L1)::pts b2 (Zs r0 L0)::pts b (Zs rz Lz)::Zn R L1.ep n1.e::Zr R L1.lp n1.log::Z2 L1.pm n1.ps::Z0 L1.rs n1.rs::Zq R L0.ms r0.ms::ZN L0.rr r0.rd::Hs) w:=by
  rw [<-eE,<-eL,<-eP,<-eR,<-eM,<-eQ];exact hw.arr
 -- the end, alike on each way
 obtain ⟨TAILF,hTF⟩:∃ TAILF:World->Prop,TAILF=λ w=>∃ t1 t2 t3 t4 t5 t6,∃ t7 t8 t9:Sl,∃ t10,∃ t11 t12:Sl,At (λ w'=>w'=w) ⟨b2,0,none⟩ [.bool t1,.int .i64 t2,.int .i64 t3,.bool t4,.int .i64 t5,.int .i64 t6,.slice t7.a t7.len t7.cap,.slice t8.a t8.len t8.cap,.slice t9.a t9.len t9.cap,.int .i64 t10,.slice t11.a t11.len t11.cap,.slice t12.a t12.len t12.cap]/\
   ∃ w':World,((Instr.storeAt 44 (.pointer ((some ⟨b,0,none⟩))) (.agg #[.bool t1,.int .i64 t2,.int .i64 t3,.bool t4,.int .i64 t5,.int .i64 t6,.slice t7.a t7.len t7.cap,.slice t8.a t8.len t8.cap,.slice t9.a t9.len t9.cap,.int .i64 t10,.slice t11.a t11.len t11.cap,.slice t12.a t12.len t12.cap])).run prog w=.ok () w')/\
   ∃ t1 t2 t3 t4 t5 t6,∃ t7 t8 t9:Sl,∃ t10,∃ t11 t12:Sl,At (λ w''=>w''=w') ⟨b,0,none⟩ [.bool t1,.int .i64 t2,.int .i64 t3,.bool t4,.int .i64 t5,.int .i64 t6,.slice t7.a t7.len t7.cap,.slice t8.a t8.len t8.cap,.slice t9.a t9.len t9.cap,.int .i64 t10,.slice t11.a t11.len t11.cap,.slice t12.a t12.len t12.cap]/\
   OutQ R Hs p n.out (.agg #[.bool t1,.int .i64 t2,.int .i64 t3,.bool t4,.int .i64 t5,.int .i64 t6,.slice t7.a t7.len t7.cap,.slice t8.a t8.len t8.cap,.slice t9.a t9.len t9.cap,.int .i64 t10,.slice t11.a t11.len t11.cap,.slice t12.a t12.len t12.cap]) w':=⟨_,rfl⟩
 have tail:∀ {R2:Cx} {r:Rdy} {n2:Rn} {Lr:RLo} {w:World},R.Ext R2->n.out=(r,n2)->ZrB R2 r Lr->NIn R n2 L1->r.ms=r0.ms->r.rd=r0.rd->Lr.ms=L0.ms->Lr.rr=L0.rr->n2.e=n1.e->n2.log=n1.log->n2.ps=n1.ps->n2.rs=n1.rs->n2.rms=[]->n2.rrd=[]->L1.ms=⟨none,0,0⟩->L1.rr=⟨none,0,0⟩->
   Sat R2 (pts p (Ze n2 L1)::pts b2 (Zs r Lr)::pts b (Zs rz Lz)::Zn R L1.ep n1.e::Zr R L1.lp n1.log::Z2 L1.pm n1.ps::Z0 L1.rs n1.rs::Zq R L0.ms r0.ms::ZN L0.rr r0.rd::Hs) w->
   TAILF w:=by
  intro R2 r n2 Lr w e ho hri hni h1 h2 h3 h4 h5 h6 h7 h8 h9 h10 h11 h12 hw;rw [hTF];refine ⟨r.hn,r.hd.tm,r.hd.vt,r.sn',r.sn.ix,r.sn.tm,Lr.v,Lr.l,Lr.d,r.fr,Lr.ms,Lr.rr,At.own (eqS hw) (by exact ⟨rfl,rfl,rfl,rfl,rfl,rfl,rfl,rfl,rfl,rfl,rfl,rfl,trivial⟩),?_⟩;have hw:=hw.take (pts b (Zs rz Lz));refine Za hw (by kernel_rfl) rfl (by simp [Value.cells,Zc]) λ w hw=>?_;have hw:=hw.re (pts b (Zs r Lr));refine ⟨r.hn,r.hd.tm,r.hd.vt,r.sn',r.sn.ix,r.sn.tm,Lr.v,Lr.l,Lr.d,r.fr,Lr.ms,Lr.rr,At.own (eqS hw) (by exact ⟨rfl,rfl,rfl,rfl,rfl,rfl,rfl,rfl,rfl,rfl,rfl,rfl,trivial⟩),?_⟩;rw [ho];have hw:=(hw.drop.take (pts b2 (Zs r Lr))).drop;have hw:=Zr.ext (hw.take (Zr R L1.lp n1.log)) e;have hw:=Zn.ext (hw.take (Zn R L1.ep n1.e)) e;have hw:=Zq.ext (hw.take (Zq R L0.ms r0.ms)) e;have hw:=Zq.nil (R1:=R2) (OwnN.nil (n:=2) (T:=50) hw);have hw:=hw.re (Zq R2 L1.ms n2.rms) (by rw [h9,h11]);have hw:=hw.swap.re (ZN L1.rr n2.rrd) (by rw [h10,h12];rfl);rw [<-h5,<-h6,<-h7,<-h8,<-h1,<-h2,<-h3,<-h4] at hw;refine ⟨R2,Lr,e,hri,rfl,?_⟩;have hw:=hw.take (ZN Lr.rr r.rd);have hw:=hw.take (Zq R2 Lr.ms r.ms);refine hw.cons λ _ h=>h.cons λ _ h=>NAt.iff.2 ⟨L1,hni.ext e,?_⟩;exact h.arr
 refine Zb.mk rfl ⟨some ⟨L1.ep,0,none⟩,At.own (eqS hw) (by exact ⟨rfl,trivial⟩),?_⟩;refine (Zaq (hw.take (Zn R L1.ep n1.e))).use ?_;clear hw;rintro _ w ⟨rfl,hw⟩;have ee1:n1.e=n.e:=by rw [hn1]
 have et1:n1.told=n.told:=by rw [hn1]
 rw [ee1] at hw ⊢;refine ⟨_,_,rfl,Zd hw λ b3 w hw=>?_⟩;refine Za hw (by kernel_rfl) rfl (by simp [Value.cells,Zc]) λ w hw=>?_;have hw:=hw.re (pts b3 (.cells [.int .i64 n.e.hd.tm,.int .i64 n.e.hd.vt].toArray 29 (0,0)));refine Zi (Sat R [pts p (Ze n1 L1),pts b3 (.cells [.int .i64 n.e.hd.tm,.int .i64 n.e.hd.vt].toArray 29 (0,0)),VC.tru]) hw (λ w hw=>hw.k2) λ w hw=>⟨n.e.hd.tm,n.e.hd.vt,At.own Zf (by exact ⟨rfl,rfl,trivial⟩),Zb.mk rfl ⟨n1.told.tm,n1.told.vt,At.own Zf (by exact ⟨rfl,rfl,trivial⟩),_,λ w' _=>Zms _ _ _ _ _ _ w',?_⟩⟩;rw [et1];have hL1m:L1.ms=⟨none,0,0⟩/\L1.rr=⟨none,0,0⟩:=by rw [hL1];exact ⟨rfl,rfl⟩
 have hL0m:L0.v=⟨none,0,0⟩/\L0.l=⟨none,0,0⟩/\L0.d=⟨none,0,0⟩:=by rw [hL0];exact ⟨rfl,rfl,rfl⟩
 have hnil:ZrB R ⟨false,⟨0,0⟩,false,sn0,0,[],[]⟩ ⟨⟨none,0,0⟩,⟨none,0,0⟩,⟨none,0,0⟩,⟨none,0,0⟩,⟨none,0,0⟩⟩:=by
  have h:=Zdu.nil (R:=R) (m:={ kd:=0 }) rfl rfl;exact ⟨h.g,h.d⟩
 obtain ⟨nw,hnw⟩:∃ nw,nw=(n.e.hd.tm !=n.told.tm||n.e.hd.vt !=n.told.vt):=⟨_,rfl⟩;have enw:(!decide (n.e.hd.tm=n.told.tm/\n.e.hd.vt=n.told.vt))=nw:=by
  rw [hnw,Bool.eq_iff_iff];simp only [Bool.not_eq_true',decide_eq_false_iff_not,Bool.or_eq_true,bne_iff_ne,ne_eq];omega
 rw [enw]
 -- the last part: the snapshot, if there is a new one
 have last:∀ {r1:Rdy} {n2:Rn} {w:World},r1.sn'=n.rsn->r1.sn=sn0->r1.ms=r0.ms->r1.rd=r0.rd->n.out=((if n.rsn then { r1 with sn:=n.sn } else r1),n2)->n2.sn=n.sn->NIn R n2 L1->n2.e=n1.e->n2.log=n1.log->n2.ps=n1.ps->n2.rs=n1.rs->n2.rms=[]->n2.rrd=[]->
   Sat R (pts p (Ze n2 L1)::pts b2 (Zs r1 L0)::pts b (Zs rz Lz)::Zn R L1.ep n1.e::Zr R L1.lp n1.log::Z2 L1.pm n1.ps::Z0 L1.rs n1.rs::Zq R L0.ms r0.ms::ZN L0.rr r0.rd::Hs) w->
   ∃ t32:Bool,(At (λ w'=>w'=w) ⟨b2,0 + 3,none⟩ [.bool t32])/\Br t32
    (Zb (some ⟨p,0,none⟩) λ a_t34=>∃ t36:Int,∃ t36_1:Int,∃ t36_2:Sl,∃ t36_3:Sl,∃ t36_4:Sl,(At (λ w'=>w'=w) ⟨a_t34.block,a_t34.off + 4,none⟩ [.int .i64 t36,.int .i64 t36_1,.slice t36_2.a t36_2.len t36_2.cap,.slice t36_3.a t36_3.len t36_3.cap,.slice t36_4.a t36_4.len t36_4.cap])/\
     Calls prog 35 #[.agg #[.int .i64 t36,.int .i64 t36_1,.slice t36_2.a t36_2.len t36_2.cap,.slice t36_3.a t36_3.len t36_3.cap,.slice t36_4.a t36_4.len t36_4.cap]] w λ e_1 w_13=>
     ∃ t37:Int,∃ t37_1:Int,∃ t37_2:Sl,∃ t37_3:Sl,∃ t37_4:Sl,(e_1=.returned (.agg #[.int .i64 t37,.int .i64 t37_1,.slice t37_2.a t37_2.len t37_2.cap,.slice t37_3.a t37_3.len t37_3.cap,.slice t37_4.a t37_4.len t37_4.cap]))/\
     ∃ w_14:World,((Instr.storeAt 35 (.pointer ((some ⟨b2,0 + 4,none⟩))) (.agg #[.int .i64 t37,.int .i64 t37_1,.slice t37_2.a t37_2.len t37_2.cap,.slice t37_3.a t37_3.len t37_3.cap,.slice t37_4.a t37_4.len t37_4.cap])).run prog w_13=.ok () w_14)/\TAILF w_14)
    (TAILF w):=by
  intro r1 n2 w h1 h2 h3 h4 ho hs hni e1 e2 e3 e4 e5 e6 hw;refine ⟨n.rsn,by rw [<-h1];exact At.own (eqS hw) (by exact ⟨rfl,trivial⟩),Br.mk (λ hr=>Zb.mk rfl ?_) (λ hr=>?_)⟩
  ·rw [if_pos hr] at ho
   refine ⟨n.sn.ix,n.sn.tm,L1.sv,L1.sl,L1.sd,by rw [<-hs];exact At.own (eqS hw) (by exact ⟨rfl,rfl,rfl,rfl,rfl,trivial⟩),?_⟩;have hsg:Zd7 R n.sn.g L1.sv L1.sl:=by have:=hni.sg;rwa [hs] at this
   have hsd:SlR R.m L1.sd (b8 n.sn.dt):=by have:=hni.sd;rwa [hs] at this
   refine (Zap hsg hsd (by omega) (by omega) (by omega) hw).use ?_;clear hw;rintro _ w ⟨R2,v',l',d',ex,hg',hd',rfl,hw⟩;refine ⟨_,_,v',l',d',rfl,?_⟩;have hw:=hw.take (pts b2 (Zs r1 L0));refine Za hw (by kernel_rfl) rfl (by simp [Value.cells,Zc]) λ w hw=>?_;have hw:=hw.re (pts b2 (Zs { r1 with sn:=n.sn } { L0 with v:=v',l:=l',d:=d' }));exact tail (Lr:={ L0 with v:=v',l:=l',d:=d' }) ex ho ⟨hg',hd'⟩ hni h3 h4 rfl rfl e1 e2 e3 e4 e5 e6 hL1m.1 hL1m.2 hw.arr
  ·rw [if_neg (by rw [hr];simp)] at ho
   exact tail (Lr:=L0) .refl ho ⟨by rw [h2,hL0m.1,hL0m.2.1];exact hnil.g,by rw [h2,hL0m.2.2];exact hnil.d⟩ hni h3 h4 rfl rfl e1 e2 e3 e4 e5 e6 hL1m.1 hL1m.2 hw
 have hr0':r0.sn'=n.rsn/\r0.sn=sn0:=by rw [hr0];exact ⟨rfl,rfl⟩
 refine Br.mk (λ hb1=>?_) (λ hb1=>?_)
 ·refine Zi (Sat R [pts b3 (.cells [.int .i64 n.e.hd.tm,.int .i64 n.e.hd.vt].toArray 29 (0,0)),VC.tru]) hw (λ w hw=>hw.k1) λ w hw=>⟨n.e.hd.tm,n.e.hd.vt,At.own Zf (by exact ⟨rfl,rfl,trivial⟩),n.e.hd.tm,n.e.hd.vt,At.own Zf (by exact ⟨rfl,rfl,trivial⟩),?_⟩
  have hw:=hw.take (pts b2 (Zs r0 L0));refine Za hw (by kernel_rfl) rfl (by simp [Value.cells,Zc]) λ w hw=>?_;have hw:=hw.re (pts b2 (Zs { r0 with hn:=true } L0));refine ⟨hw.k1,?_⟩;refine Za hw (by kernel_rfl) rfl (by simp [Value.cells,Zc]) λ w hw=>?_;have hw:=hw.re (pts b2 (Zs { r0 with hn:=true,hd:=n.e.hd } L0));refine ⟨hw.k1,Zb.mk rfl ?_⟩;have hw:=hw.take (pts p (Ze n1 L1));refine Za hw (by kernel_rfl) rfl (by simp [Value.cells,Zc]) λ w hw=>?_;have hw:=hw.re (pts p (Ze { n1 with told:=n.e.hd } L1));have hw:=(hw.take (pts b3 (.cells [.int .i64 n.e.hd.tm,.int .i64 n.e.hd.vt].toArray 29 (0,0)))).drop;rw [hTF] at last;refine last (r1:={ r0 with hn:=true,hd:=n.e.hd }) (n2:={ n1 with told:=n.e.hd }) hr0'.1 hr0'.2 rfl rfl ?_ (by rw [hn1]) ⟨hin1.g,hin1.sg,hin1.sd⟩ rfl rfl rfl rfl (by rw [hn1]) (by rw [hn1]) (by rw [ee1];exact hw.arr);unfold Rn.out;dsimp only;rw [<-hnw,hb1,hn1,hr0];cases n.rsn<;>rfl
 ·have hw:=(hw.take (pts b3 (.cells [.int .i64 n.e.hd.tm,.int .i64 n.e.hd.vt].toArray 29 (0,0)))).drop
  rw [hTF] at last;refine last (r1:=r0) (n2:=n1) hr0'.1 hr0'.2 rfl rfl ?_ (by rw [hn1]) hin1 rfl rfl rfl rfl (by rw [hn1]) (by rw [hn1]) (by rw [ee1];exact hw.arr);unfold Rn.out;dsimp only;rw [<-hnw,hb1,hn1,hr0];cases n.rsn<;>rfl
end
section
open Go Go.VC Tryz
open Go.Rf (Ey Lg ZD)
variable {R R' R1 R2:Cx} {Hs Rest Rest2:List HP} {w:World} {p:Nat} {n m:Rn}
theorem _root_.Go.VC.Sat.k3 {A B C:HP} {R1 R2 R3:List HP} (hw:Sat R Hs w) [a:Zfj A Hs R1] [b:Zfj B R1 R2] [c:Zfj C R2 R3]:Sat R [A,B,C,VC.tru] w:=
 Sat.toTru (As:=[A,B,C]) ((hw.perm a.perm).cons λ _ h=>(h.perm b.perm).cons λ _ h=>h.perm c.perm)
theorem ZjH (ok:ZD n.log) (hw:Sat R (NAt R p n::Hs) w):Zj prog 18 #[.pointer (some ⟨p,0,none⟩)] w λ v w'=>v=.int .i64 n.log.last/\Sat R (NAt R p n::Hs) w':=by
 obtain ⟨L,hn,hw⟩:=NAt.iff.1 hw;apply Zqk;refine Zb.mk rfl ⟨_,At.own (eqS hw) (by exact ⟨rfl,trivial⟩),?_⟩;refine (ZT ok (hw.take (Zr R L.lp n.log))).use ?_;clear hw;rintro _ w ⟨rfl,hw⟩;exact ⟨_,rfl,rfl,NAt.iff.2 ⟨L,hn,hw.arr⟩⟩
theorem Zcd (hw:Sat R (NAt R p n::Hs) w):Zj prog 15 #[.pointer (some ⟨p,0,none⟩)] w λ v w'=>v=.int .i64 n.log.com/\Sat R (NAt R p n::Hs) w':=by
 obtain ⟨L,hn,hw⟩:=NAt.iff.1 hw;apply Zqm;refine Zb.mk rfl ⟨_,At.own (eqS hw) (by exact ⟨rfl,trivial⟩),?_⟩;refine (ZF (hw.take (Zr R L.lp n.log))).use ?_;clear hw;rintro _ w ⟨rfl,hw⟩;exact ⟨_,rfl,rfl,NAt.iff.2 ⟨L,hn,hw.arr⟩⟩
theorem Zdi (ok:ZD n.log) (i most:Int) (hw:Sat R (NAt R p n::Hs) w):Zj prog 14 #[.pointer (some ⟨p,0,none⟩),.int .i64 i,.int .i64 most] w λ v w'=>
  ∃ R' t ds,R.Ext R'/\DsR R' ds/\erE ds=n.log.get i most/\v=.slice t.a t.len t.cap/\Sat R' (Zao t ds::NAt R' p n::Hs) w':=by
 obtain ⟨L,hn,hw⟩:=NAt.iff.1 hw;apply Zqn;refine Zb.mk rfl ⟨_,At.own (eqS hw) (by exact ⟨rfl,trivial⟩),?_⟩;refine (Zdk ok i most (hw.take (Zr R L.lp n.log))).use ?_;clear hw;rintro _ w ⟨R2,t,ds,e2,hd,he,rfl,hw⟩;refine ⟨t,rfl,R2,t,ds,e2,hd,he,rfl,hw.cons λ _ h=>?_⟩;have e2':=e2;exact NAt.iff.2 ⟨L,hn.ext e2,(show Sat _ (Zr R2 L.lp n.log::pts p (Ze n L)::Zn R L.ep n.e::Z2 L.pm n.ps::Z0 L.rs n.rs::Zq R L.ms n.rms::ZN L.rr n.rrd::Hs) _ from h).arr (Hs':=pts p (Ze n L)::Zn R L.ep n.e::Zr R2 L.lp n.log::Z2 L.pm n.ps::Z0 L.rs n.rs::Zq R L.ms n.rms::ZN L.rr n.rrd::Hs)|>.cons λ _ h=>Sat.cons (λ _ h=>h.cons λ _ h=>h.cons λ _ h=>h.cons λ _ h=>Zq.ext h e2) (Zn.ext h e2)⟩
theorem ZnC {id pat:Int} {h:Hd} {g:Gp} (ok:Zko id h g pat=true):ZL (Eln.new id h g pat):=by
 unfold Zko Z3 at ok;simp only [Bool.and_eq_true,decide_eq_true_eq] at ok;obtain ⟨⟨⟨⟨h1,h2⟩,h3⟩,h4⟩,h5⟩:=ok;exact ⟨h1.1,h1.2,h4.1,h4.2,h2.1,h2.2,h3.1,h3.2,h5,Int.le_refl _,by simp [Eln.new],by simp [Eln.new]⟩
def rn0 (id:Int) (h:Hd) (s:Sn) (g:Lg) (pat win:Int):Rn:=⟨Eln.new id h s.g pat,id,win,g,s,⟨[],[]⟩,none,[],0,h,false,0,[],[]⟩
theorem Zg4 {A:HP} {h:Hd} {s:Sn} {v l d ls:Sl} {ds:List DE4} (id pat win:Int) (hg:Zd7 R s.g v l) (hd:SlR R.m d (b8 s.dt)) (hr:Rdg R A 4 ls (ds.map ZaC)) (hds:DsR R ds) (hb:∀ e∈ds,Zx e.2.dt) (hl:ds.length<=1000000) (hw:Sat R (A::Hs) w):
  Zj prog 9 #[.int .i64 id,.agg #[.int .i64 h.tm,.int .i64 h.vt],ZkD s v l d,.slice ls.a ls.len ls.cap,.agg #[.int .i64 pat,.int .i64 win]] w λ r w'=>
   (∃ e,ZbO id h s (erE ds) pat win=(e,none)/\e≠0/\r=.tuple #[.pointer none,.int .i64 e]/\Sat R (A::Hs) w')\/
   (∃ n p R',ZbO id h s (erE ds) pat win=(0,some n)/\r=.tuple #[.pointer (some ⟨p,0,none⟩),.int .i64 0]/\R.Ext R'/\Sat R' (NAt R' p n::A::Hs) w'):=by
 apply Zru;obtain ⟨D,hD⟩:∃ D,D=ZbO id h s (erE ds) pat win:=⟨_,rfl⟩;rw [<-hD];unfold ZbO at hD;refine Zd hw λ b1 w hw=>Zd hw λ b2 w hw=>Zd hw λ b3 w hw=>?_;have hw:Sat R (A::pts b1 (.cells [.int .i64 h.tm,.int .i64 h.vt].toArray 29 (0,0))::pts b2 (ZZ s v l d)::pts b3 (.cells [.int .i64 pat,.int .i64 win].toArray 36 (0,0))::Hs) w:=hw.arr;have no:∀ {e:Int} {w:World} {X:List HP},D=(e,none)->e≠0->Sat R (A::(X++Hs)) w->(∃ e',D=(e',none)/\e'≠0/\Value.tuple #[.pointer none,.int .i64 e]=.tuple #[.pointer none,.int .i64 e']/\Sat R (A::Hs) w)\/
   (∃ n p R',D=(0,some n)/\Value.tuple #[.pointer none,.int .i64 e]=.tuple #[.pointer (some ⟨p,0,none⟩),.int .i64 0]/\R.Ext R'/\Sat R' (NAt R' p n::A::Hs) w):=λ {e w X} h1 h2 h3=>.inl ⟨e,h1,h2,rfl,h3.cons λ _ h=>Sat.append_drop h⟩
 refine ⟨λ w=>(ZE s=true/\¬ win<1/\¬ win>64)/\Sat R (A::pts b1 (.cells [.int .i64 h.tm,.int .i64 h.vt].toArray 29 (0,0))::pts b2 (ZZ s v l d)::pts b3 (.cells [.int .i64 pat,.int .i64 win].toArray 36 (0,0))::Hs) w,?_,?_⟩
 ·refine ⟨_,_,v,l,d,At.own (eqS hw) (by exact ⟨rfl,rfl,rfl,rfl,rfl,trivial⟩),?_⟩
  refine (ZdQ hg hd hw).use ?_;clear hw;rintro _ w ⟨rfl,hw⟩;refine ⟨_,rfl,Br.nb (λ h1=>no (X:=[_,_,_]) (by rw [hD,h1];rfl) (by omega) hw) (λ h1=>⟨win,At.own (eqS hw) (by exact ⟨rfl,trivial⟩),?_⟩)⟩;refine Br.d (λ h2=>no (X:=[_,_,_]) (by rw [hD,h1,decide_eq_true h2];rfl) (by omega) hw) (λ h2=>⟨win,At.own (eqS hw) (by exact ⟨rfl,trivial⟩),?_⟩);exact Br.d (λ h3=>no (X:=[_,_,_]) (by rw [hD,h1,decide_eq_true h3,Bool.or_true];rfl) (by omega) hw) (λ h3=>⟨⟨h1,h2,h3⟩,hw⟩)
 clear hw;rintro _ w ⟨⟨h1,h2,h3⟩,hw⟩;rw [if_neg (by rw [h1,decide_eq_false h2,decide_eq_false h3];simp)] at hD;refine ⟨h.tm,h.vt,At.own (eqS hw) (by exact ⟨rfl,rfl,trivial⟩),v,l,At.own (eqS hw) (by exact ⟨rfl,rfl,trivial⟩),pat,At.own (eqS hw) (by exact ⟨rfl,trivial⟩),?_⟩;refine (Zly (h:=h) (g:=s.g) id pat hg hw).use ?_;clear hw;rintro _ w (⟨ok,ep,rfl,hw⟩|⟨ok,rfl,hw⟩)
 rotate_left
 ·refine ⟨none,1,rfl,Br.t rfl (no (X:=[_,_,_]) ?_ (by omega) hw)⟩
  rw [hD,if_pos (by rw [ok];rfl)]
 rw [if_neg (by rw [ok];simp)] at hD;have hsn:=h1;unfold ZE Z3 at hsn;simp only [Bool.and_eq_true,decide_eq_true_eq] at hsn;refine ⟨some ⟨ep,0,none⟩,0,rfl,Br.f rfl ⟨s.ix,At.own (eqS hw) (by exact ⟨rfl,trivial⟩),s.tm,At.own (eqS hw) (by exact ⟨rfl,trivial⟩),?_⟩⟩;refine (Zhn s.ix s.tm hw).use ?_;clear hw;have hin:(Rf.inIx s.ix && Rf.inIx s.tm)=true:=by unfold Rf.inIx;rw [decide_eq_true hsn.1.1.1,decide_eq_true hsn.1.1.2];rfl
 rintro _ w (⟨_,lp,rfl,hw⟩|⟨hno,_⟩)
 rotate_left
 ·rw [hin] at hno;cases hno
 have lok:ZD (Lg.new s.ix s.tm):=by
  simp only [Bool.and_eq_true] at hin;exact ZD.new hin.1 hin.2
 obtain ⟨r,hrr⟩:∃ r,r=(Lg.new s.ix s.tm).add (erE ds):=⟨_,rfl⟩;rw [<-hrr] at hD;refine ⟨some ⟨lp,0,none⟩,0,rfl,λ e w=>e=r.1/\∃ R2,R.Ext R2/\Sat R2 (Zr R2 lp r.2::A::Zn R ep (Eln.new id h s.g pat)::pts b1 (.cells [.int .i64 h.tm,.int .i64 h.vt].toArray 29 (0,0))::pts b2 (ZZ s v l d)::pts b3 (.cells [.int .i64 pat,.int .i64 win].toArray 36 (0,0))::Hs) w,Br.t rfl ?_,?_⟩
 ·have hw:Sat R (Zr R lp (Lg.new s.ix s.tm)::A::Zn R ep (Eln.new id h s.g pat)::pts b1 (.cells [.int .i64 h.tm,.int .i64 h.vt].toArray 29 (0,0))::pts b2 (ZZ s v l d)::pts b3 (.cells [.int .i64 pat,.int .i64 win].toArray 36 (0,0))::Hs) w:=hw.arr
  refine (Zhq lok hr hds (by omega) hw).use ?_;clear hw;rintro _ w ⟨R2,e2,rfl,hw⟩;exact ⟨_,rfl,by rw [hrr],R2,e2,by rw [hrr];exact hw⟩
 clear hw;rintro _ _ w ⟨rfl,R2,e2,hw⟩;refine Br.ne (λ h4=>?_) (λ h4=>?_)
 ·have hw:=e2.back hw
  refine no (X:=[_,_,_,_]) ?_ h4 hw.drop;rw [hD];dsimp only;rw [if_pos (by simpa using h4)]
 dsimp only at hD;rw [if_neg (by simp [h4])] at hD;refine Zi (Sat R2 [pts b1 (.cells [.int .i64 h.tm,.int .i64 h.vt].toArray 29 (0,0)),pts b2 (ZZ s v l d),pts b3 (.cells [.int .i64 pat,.int .i64 win].toArray 36 (0,0)),VC.tru]) hw (λ w hw=>hw.k3) λ w hw=>⟨win,At.own Zf (by exact ⟨rfl,trivial⟩),s.ix,s.tm,v,l,d,At.own Zf (by exact ⟨rfl,rfl,rfl,rfl,rfl,trivial⟩),h.tm,h.vt,At.own Zf (by exact ⟨rfl,rfl,trivial⟩),?_⟩;have hv15:=Zv (Zp hsn.1.2);have hl15:=Zv (ZO hsn.1.2);refine (Zap (hg.ext e2) (e2.slR hd) (by omega) (by omega) (by omega) hw).use ?_;clear hw;rintro _ w ⟨R3,v',l',d',e3,hg',hd',rfl,hw⟩;refine ⟨_,_,v',l',d',rfl,(e3.back hw).k3,Zd hw λ p w hw=>⟨?_,?_⟩⟩
 ·exact (e3.back hw).k3
 obtain ⟨L,hL⟩:∃ L:NLo,L=⟨ep,lp,v',l',d',⟨none,0,0⟩,⟨none,0,0⟩,none,⟨none,0,0⟩,⟨none,0,0⟩,⟨none,0,0⟩⟩:=⟨_,rfl⟩;obtain ⟨n,hn⟩:∃ n:Rn,n=rn0 id h s r.2 pat win:=⟨_,rfl⟩;have hw:=hw.re (pts p (Ze n L)) (by rw [hn,hL];rfl);have hin2:NIn R3 n L:=by
  have hz:=Zdu.nil (R:=R3) (m:={ kd:=0 }) rfl rfl;rw [hn,hL];exact ⟨hz.g,hg',hd'⟩
 have hw:=Zr.ext (hw.take (Zr R2 lp r.2)) e3;have hw:=Zn.ext (hw.take (Zn R ep (Eln.new id h s.g pat))) (e2.trans e3);have hw:=Z0.nil (Zq.nil (R1:=R3) (OwnN.nil (n:=2) (T:=50) hw));have hw:=Z2.none'.2 ⟨rfl,hw⟩;have hw:Sat R3 (Z2 none none::Z0 ⟨none,0,0⟩ []::Zq R3 ⟨none,0,0⟩ []::ZN ⟨none,0,0⟩ []::Zn R3 ep (Eln.new id h s.g pat)::Zr R3 lp r.2::pts p (Ze n L)::A::pts b1 (.cells [.int .i64 h.tm,.int .i64 h.vt].toArray 29 (0,0))::pts b2 (ZZ s v l d)::pts b3 (.cells [.int .i64 pat,.int .i64 win].toArray 36 (0,0))::Hs) w:=hw;have hw:Sat R3 (NAt R3 p n::A::pts b1 (.cells [.int .i64 h.tm,.int .i64 h.vt].toArray 29 (0,0))::pts b2 (ZZ s v l d)::pts b3 (.cells [.int .i64 pat,.int .i64 win].toArray 36 (0,0))::Hs) w:=by
  refine NAt.iff.2 ⟨L,hin2,?_⟩;have h6:Sat R3 (pts p (Ze n L)::Zn R3 ep (Eln.new id h s.g pat)::Zr R3 lp r.2::Z2 none none::Z0 ⟨none,0,0⟩ []::Zq R3 ⟨none,0,0⟩ []::ZN ⟨none,0,0⟩ []::A::pts b1 (.cells [.int .i64 h.tm,.int .i64 h.vt].toArray 29 (0,0))::pts b2 (ZZ s v l d)::pts b3 (.cells [.int .i64 pat,.int .i64 win].toArray 36 (0,0))::Hs) w:=hw.arr;rw [hn,hL] at h6 ⊢;exact h6
 have hr2:ZD r.2:=by rw [hrr];exact lok.add _
 have hb2:LgB r.2:=by
  rw [hrr];exact LgB.add (λ e he=>by cases he) λ e he=>by
   obtain ⟨x,hx,rfl⟩:=List.mem_map.1 he;exact hb x hx
 have g0:RnG n:=by rw [hn];exact ⟨hr2,hb2,hsn.1.2,by show 1<=win;omega,by show win<=64;omega⟩
 refine (Zbs g0.lg g0.lb g0.sg g0.w1 g0.w64 hw).use ?_;clear hw;rintro _ w ⟨rfl,R4,e4,hw⟩;refine ⟨rfl,.inr ⟨n.regroup,p,R4,?_,rfl,(e2.trans e3).trans e4,hw.cons λ _ h=>h.cons λ _ h=>h.drop.drop.drop⟩⟩;rw [hD,hn];rfl
theorem ZcQ {id pat win:Int} {h:Hd} {s:Sn} {l:List Ey} {n:Rn} (hb:∀ e∈l,Zx e.dt) (e:ZbO id h s l pat win=(0,some n)):
  RnG n/\ZbL n/\ZL n.e/\ZE n.sn=true/\n.e.role=0/\n.id=id/\n.e.id=id/\1<=id/\id<=15/\n.e.wait=0/\n.rms=[]/\n.rrd=[]/\n.rs=[]/\n.rnd=0/\n.rsn=false/\n.rfr=0/\n.told=n.e.hd/\n.ps=none/\n.e.hd=h/\n.sn=s/\n.win=win:=by
 unfold ZbO at e;split at e
 ·simp at e
 ·rename_i h1
  split at e
  ·simp at e
  ·rename_i h2
   dsimp only at e;split at e
   ·simp at e
   ·rename_i h3
    simp only [Bool.or_eq_true,Bool.not_eq_true',decide_eq_true_eq,not_or,Bool.not_eq_false] at h1;have hsn:=h1.1.1;unfold ZE Z3 at hsn;simp only [Bool.and_eq_true,decide_eq_true_eq] at hsn;obtain ⟨g,hg⟩:∃ g,g=((Lg.new s.ix s.tm).add l).2:=⟨_,rfl⟩;rw [<-hg] at e;have lok:ZD (Lg.new s.ix s.tm):=ZD.new (by unfold Rf.inIx;exact decide_eq_true hsn.1.1.1) (by unfold Rf.inIx;exact decide_eq_true hsn.1.1.2);have en:n=Rn.regroup (rn0 id h s g pat win):=by
     have:=congrArg Prod.snd e;exact (Option.some.inj this).symm
    have ok:=ZnC (by simpa using h2);have g0:RnG (rn0 id h s g pat win):=⟨by rw [show (rn0 id h s g pat win).log=g from rfl,hg];exact lok.add _,by
     rw [show (rn0 id h s g pat win).log=g from rfl,hg]
     exact LgB.add (λ e he=>by cases he) hb,hsn.1.2,by show 1<=win;omega,by show win<=64;omega⟩
    have p0:ZbL (rn0 id h s g pat win):=λ l hl=>by cases hl
    obtain ⟨a,b,c,d,e',f⟩:=Za2 g0 p0;have hj:∀ g',((Eln.new id h s.g pat).join g').id=id/\((Eln.new id h s.g pat).join g').hd=h/\((Eln.new id h s.g pat).join g').wait=0:=λ g'=>by
     unfold Eln.join;split<;>exact ⟨rfl,rfl,rfl⟩
    have ho:=ok.join ((rn0 id h s g pat win).foldG (rn0 id h s g pat win).log.l.length);subst en;exact ⟨a,b,ho,h1.1.1,d,rfl,(hj _).1,ok.id0,ok.id1,(hj _).2.2,rfl,rfl,rfl,rfl,rfl,rfl,by show h=_;exact (hj _).2.1.symm,rfl,(hj _).2.1,rfl,rfl⟩
end
section
open Go Go.VC Tryz
open Go.Rf (Ey Lg ZD)
def Rn.commit (n:Rn) (i:Int):Rn:=if i>n.log.com then { n with log:=(n.log.commit i).2 } else n
def Rn.ballot (n:Rn) (b:Bl):Rn:=
 let r:=n.e.take b n.log.last (n.log.term n.log.last).1
 Rn.voted { n with e:=r.2 } (n.e.role==3) r.1
def Rn.app (n:Rn) (m:Mg):Rn:=
 let r:=n.log.merge m.ix m.lt m.es
 let n1:={ n with log:=r.2 }
 if r.1.2==0 then
  (((if r.1.1>0 then n1.fresh r.1.1 else n1).commit (min m.com (m.ix + m.es.length))).put { kd:=6,to':=m.fr,ix:=m.ix + m.es.length,yes:=true })
 else if r.1.2==7 then n1.put { kd:=6,to':=m.fr,ix:=m.ix,hint:=r.2.back m.ix m.lt }
 else n1
def Rn.install (n:Rn) (m:Mg):Rn:=
 if !ZE m.sn||m.sn.ix !=m.ix||m.sn.tm !=m.lt then n
 else if m.sn.ix<=n.log.com then n.put { kd:=10,to':=m.fr,ix:=n.log.com,yes:=true }
 else if (n.log.term m.sn.ix).2 && (n.log.term m.sn.ix).1==m.sn.tm then (n.commit m.sn.ix).put { kd:=10,to':=m.fr,ix:=m.sn.ix,yes:=true }
 else (Rn.regroup { n with log:=(n.log.reset m.sn.ix m.sn.tm).2,sn:=m.sn,rsn:=true,rfr:=0 }).put { kd:=10,to':=m.fr,ix:=m.sn.ix,yes:=true }
def Rn.asked (n:Rn) (m:Mg):Rn:=
 if m.tm<n.e.hd.tm then n.put { kd:=m.kd + 1,to':=m.fr,ix:=m.ix }
 else if !n.e.heardOk m.fr m.tm then { n with e:=n.e.heard m.fr m.tm }
 else
  let n1:=Rn.voted { n with e:=n.e.heard m.fr m.tm } false []
  if m.kd==5 then n1.app m
  else if m.kd==7 then (n1.commit (min m.com n1.log.last)).put { kd:=8,to':=m.fr,yes:=true,rnd:=m.rnd,ix:=n1.log.last }
  else if m.kd==9 then n1.install m else n1
def Rq.stand (fr rnd:Int) (x:Rq):Rq:=if x.rnd<=rnd then { x with bh:=x.bh++[fr] } else x
def Rq.wins (g:Gp) (x:Rq):Bool:=ZaE g.vs g.ls x.bh
def Rn.behind (n:Rn) (fr rnd:Int):Rn:=
 let l:=n.rs.map (Rq.stand fr rnd)
 { n with rrd:=n.rrd++(l.filter (Rq.wins n.g)).map λ x=>(x.tok,x.ix),rs:=l.filter λ x=>!Rq.wins n.g x }
def Rn.said (n:Rn) (m:Mg):Rn:=
 if m.tm>n.e.hd.tm then n.ballot ⟨4,m.fr,n.id,m.tm,0,0,false⟩
 else if m.tm<n.e.hd.tm then n
 else match n.peer m.fr with
  |none=>n
  |some x=>
   if m.kd==8 then (if x.mt<n.log.last then (n.behind m.fr m.rnd).send m.fr else n.behind m.fr m.rnd)
   else if m.yes && decide (m.ix<=n.log.last) then
    (if (x.acked m.ix).1 then (n.setP m.fr (x.acked m.ix).2).advance else n.setP m.fr (x.acked m.ix).2).send m.fr
   else if m.yes then n
   else if m.kd==10 then n.setP m.fr (x.over false)
   else if (x.refused m.ix m.hint).1 then (n.setP m.fr (x.refused m.ix m.hint).2).send m.fr else n.setP m.fr (x.refused m.ix m.hint).2
def Rn.hears (n:Rn) (m:Mg):Bool:=!(m.to' !=n.id) && Z3 m.fr 1 15 && !(m.fr==n.id) && Z3 m.tm 0 1099511627776
def Rn.step (n:Rn) (m:Mg):Rn:=
 if !n.hears m then n
 else if m.kd==1||m.kd==2||m.kd==3||m.kd==4 then n.ballot ⟨m.kd,m.fr,m.to',m.tm,m.ix,m.lt,m.yes⟩
 else if m.kd==5||m.kd==7||m.kd==9 then n.asked m
 else if m.kd==6||m.kd==8||m.kd==10 then n.said m
 else n
def Rn.done (n:Rn) (i:Int):Int × Rn:=((n.log.apply i).1,{ n with log:=(n.log.apply i).2 })
def Rn.compact (n:Rn) (i:Int) (dt:List Int):Int × Rn:=
 if (dt.length:Int)>60000 then (1,n)
 else
  let r:=n.log.compact i
  if r.1 !=0 then (r.1,{ n with log:=r.2 }) else (0,{ n with log:=r.2,sn:=⟨i,(r.2.term i).1,n.foldG (IntKind.i64.wrap (IntKind.i64.wrap (i + 1) - (n.log.b.ix + 1))),dt⟩ })
end
end Go.Proofs.YthpmfnffkjjlnaaGreat
