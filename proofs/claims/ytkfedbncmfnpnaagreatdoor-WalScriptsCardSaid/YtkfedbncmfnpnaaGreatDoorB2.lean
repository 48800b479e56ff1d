/- SL, part 1: memory told by blocks: a read-only part R, and a list of predicates over disjoint parts of the rest. No condition. -/
import Derived.Test.YtkfedbncmfnpnaaGreatDoorB1
import Derived.Deep.AppendSrc
import Derived.Deep.DeepAppendWide
import Derived.Laws.AppendOwn
import Derived.Laws.IdiomCopy
import Derived.Sort.Grow
import Derived.Lib.SliceRun
import GoSem.Instr.MapUpdate
import GoSem.Builtin.Delete
import Derived.MapKept
import Derived.Lib.ConvBytes
import Derived.Laws.BytesArg
import Derived.Laws.Strings
import Derived.Below
import Derived.Sort.KeysCollected
import Derived.Maps.Own
import Derived.Laws.BitsAllLaws
import Derived.Lib.AppendZeros
import Derived.RangeFuncLeaves
set_option linter.unusedVariables false
set_option linter.unusedSimpArgs false
namespace Go.VC
abbrev ZS:=Nat->Option Obj
def ZS.none:ZS:=λ _=>Option.none
def ZS.one (b:Nat) (o:Obj):ZS:=λ i=>if i=b then some o else Option.none
def ZS.add (R h:ZS):ZS:=λ i=>match R i with|some o=>some o| .none=>h i
def ZS.set (R:ZS) (b:Nat) (o:Obj):ZS:=λ i=>if i=b then some o else R i
def ZS.dis (R h:ZS):Prop:=∀ i,h i≠.none->R i=.none
abbrev HP:=ZS->Prop
structure Cx where
 m:ZS
 os:Os
 tape:Nat->Question->Nat
 output:Array (Nat × ByteArray)
def Cx.add (R:Cx) (h:ZS):Cx:={ R with m:=R.m.add h }
def Cx.set (R:Cx) (b:Nat) (o:Obj):Cx:={ R with m:=R.m.set b o }
def Cx.dis (R:Cx) (h:ZS):Prop:=R.m.dis h
def Sat:Cx->List HP->World->Prop
 |R,[],w=>(∀ b o,R.m b=some o->w.heap[b]? =some o)/\w.os=R.os/\w.tape=R.tape/\w.output=R.output
 |R,H::Hs,w=>∃ h,H h/\R.dis h/\Sat (R.add h) Hs w
def pts (b:Nat) (o:Obj):HP:=λ h=>h=ZS.one b o
def pur (p:Prop):HP:=λ h=>p/\h=ZS.none
def exs {α:Type} (f:α->HP):HP:=λ h=>∃ x,f x h
def Zig:List HP->HP
 |[]=>λ h=>h=ZS.none
 |H::Hs=>λ h=>∃ h1 h2,H h1/\Zig Hs h2/\h1.dis h2/\h=h1.add h2
theorem ZS.add_none (R:ZS):R.add ZS.none=R:=by
 funext i;unfold ZS.add ZS.none;cases R i<;>rfl
theorem ZS.add_assoc (R a b:ZS):(R.add a).add b=R.add (a.add b):=by
 funext i;simp only [ZS.add];cases R i<;>simp
theorem ZS.add_comm {a b:ZS} (h:a.dis b):a.add b=b.add a:=by
 funext i
 simp only [ZS.add];cases hb:b i with
 |none=>cases a i<;>rfl
 |some o=>rw [h i (by rw [hb];simp)]
theorem ZS.dis_symm {a b:ZS} (h:a.dis b):b.dis a:=λ i hi=>by
 cases hb:b i with
 |none=>rfl
 |some o=>exact absurd (h i (by rw [hb];simp)) hi
theorem ZS.dis_add {R a b:ZS} (h1:R.dis a) (h2:(R.add a).dis b):R.dis (a.add b):=λ i hi=>by
 cases ha:a i with
 |some o=>exact h1 i (by rw [ha];simp)
 |none=>
  have hb:b i≠.none:=by simpa [ZS.add,ha] using hi
  have:=h2 i hb;simp only [ZS.add] at this;cases hr:R i with
  |none=>rfl
  |some o=>rw [hr] at this;cases this
theorem ZS.dis_of_add {R a b:ZS} (h2:(R.add a).dis b):R.dis b/\a.dis b:=by
 refine ⟨λ i hi=>?_,λ i hi=>?_⟩
 ·have:=h2 i hi;simp only [ZS.add] at this;cases hr:R i with
  |none=>rfl
  |some o=>rw [hr] at this;cases this
 ·have:=h2 i hi;simp only [ZS.add] at this;cases hr:R i with
  |none=>rw [hr] at this;exact this
  |some o=>rw [hr] at this;cases this
theorem ZS.add_dis {R a b:ZS} (h1:R.dis b) (h2:a.dis b):(R.add a).dis b:=λ i hi=>by
 simp only [ZS.add,h1 i hi,h2 i hi]
theorem Cx.add_none (R:Cx):R.add ZS.none=R:=by unfold Cx.add;rw [ZS.add_none]
theorem Cx.add_assoc (R:Cx) (a b:ZS):(R.add a).add b=R.add (a.add b):=by unfold Cx.add;simp only [ZS.add_assoc]
theorem Cx.dis_add {R:Cx} {a b:ZS} (h1:R.dis a) (h2:(R.add a).dis b):R.dis (a.add b):=ZS.dis_add h1 h2
theorem Cx.dis_of_add {R:Cx} {a b:ZS} (h2:(R.add a).dis b):R.dis b/\a.dis b:=ZS.dis_of_add h2
theorem Cx.add_dis {R:Cx} {a b:ZS} (h1:R.dis b) (h2:a.dis b):(R.add a).dis b:=ZS.add_dis h1 h2
theorem Cx.m_add (R:Cx) (h:ZS):(R.add h).m=R.m.add h:=rfl
def Cx.like (R R':Cx):Prop:=R'.os=R.os/\R'.tape=R.tape/\R'.output=R.output
theorem Sat.of_ro:∀ {Hs:List HP} {R:Cx} {w:World} {b:Nat} {o:Obj},Sat R Hs w->R.m b=some o->w.heap[b]? =some o
 |[],_,_,_,_,h,hb=>h.1 _ _ hb
 |_::_,_,_,b,o,h,hb=>by
  obtain ⟨h',_,_,hs⟩:=h;exact hs.of_ro (by simp only [Cx.m_add,ZS.add,hb])
theorem Sat.streams:∀ {Hs:List HP} {R:Cx} {w:World},Sat R Hs w->w.os=R.os/\w.tape=R.tape/\w.output=R.output
 |[],_,_,h=>h.2
 |_::_,_,_,h=>let ⟨_,_,_,hs⟩:=h;hs.streams
structure Alk (w w':World):Prop where
 heap:w'.heap=w.heap
 os:w'.os=w.os
 tape:w'.tape=w.tape
 output:w'.output=w.output
theorem Sat.alk:∀ {Hs:List HP} {R:Cx} {w w':World},Sat R Hs w->Alk w w'->Sat R Hs w'
 |[],_,_,_,h,e=>⟨λ b o hb=>by rw [e.heap];exact h.1 b o hb,e.os.trans h.2.1,e.tape.trans h.2.2.1,e.output.trans h.2.2.2⟩
 |_::_,_,_,_,h,e=>let ⟨h',hH,hd,hs⟩:=h;⟨h',hH,hd,hs.alk e⟩
theorem Sat.drew {R:Cx} {Hs:List HP} {w:World} (h:Sat R Hs w):Sat R Hs w.drew:=h.alk ⟨rfl,rfl,rfl,rfl⟩
theorem Sat.swap {R:Cx} {A B:HP} {Hs:List HP} {w:World} (h:Sat R (A::B::Hs) w):Sat R (B::A::Hs) w:=by
 obtain ⟨a,hA,hda,b,hB,hdb,hs⟩:=h;obtain ⟨h1,h2⟩:=Cx.dis_of_add hdb;refine ⟨b,hB,h1,a,hA,Cx.add_dis hda (ZS.dis_symm h2),?_⟩;rw [Cx.add_assoc,<-ZS.add_comm h2,<-Cx.add_assoc];exact hs
theorem Sat.cons {R:Cx} {A:HP} {Hs Hs':List HP} {w w':World} (k:∀ R',Sat R' Hs w->Sat R' Hs' w') (h:Sat R (A::Hs) w):Sat R (A::Hs') w':=
 let ⟨a,hA,hd,hs⟩:=h;⟨a,hA,hd,k _ hs⟩
theorem Sat.perm {Hs Hs':List HP} (p:Hs.Perm Hs'):∀ {R:Cx} {w:World},Sat R Hs w->Sat R Hs' w:=by
 induction p with
 |nil=>exact λ h=>h
 |cons x _ ih=>exact λ h=>h.cons λ _=>ih
 |swap x y l=>exact λ h=>h.swap
 |trans _ _ ih1 ih2=>exact λ h=>ih2 (ih1 h)
theorem Sat.ro_of:∀ {Hs:List HP} {R R':Cx} {w:World},(∀ b o,R'.m b=some o->R.m b=some o)->R.like R'->Sat R Hs w->Sat R' Hs w
 |[],_,_,_,k,e,h=>⟨λ b o hb=>h.1 b o (k b o hb),h.2.1.trans e.1.symm,h.2.2.1.trans e.2.1.symm,h.2.2.2.trans e.2.2.symm⟩
 |_::_,R,R',_,k,e,h=>by
  obtain ⟨a,hA,hd,hs⟩:=h;refine ⟨a,hA,λ i hi=>?_,Sat.ro_of (R:=R.add a) (R':=R'.add a) (λ b o hb=>?_) e hs⟩
  ·cases hr:R'.m i with
   |none=>rfl
   |some o=>have:=hd i hi;rw [k i o hr] at this;cases this
  ·simp only [Cx.m_add,ZS.add] at hb ⊢
   cases hr':R'.m b with
   |some o'=>rw [hr'] at hb;rw [k b o' hr'];exact hb
   |none=>
    rw [hr'] at hb;have hn:=hd b (by simp only at hb;rw [hb];simp);rw [hn];exact hb
theorem Sat.drop {R:Cx} {A:HP} {Hs:List HP} {w:World} (h:Sat R (A::Hs) w):Sat R Hs w:=by
 obtain ⟨a,_,hd,hs⟩:=h;exact Sat.ro_of (R:=R.add a) (R':=R) (λ b o hb=>by simp only [Cx.m_add,ZS.add,hb]) ⟨rfl,rfl,rfl⟩ hs
theorem Sat.lend {R:Cx} {b:Nat} {o:Obj} {Hs:List HP} {w:World}:Sat R (pts b o::Hs) w↔R.m b=.none/\Sat (R.add (ZS.one b o)) Hs w:=by
 constructor
 ·rintro ⟨a,rfl,hd,hs⟩
  exact ⟨hd b (by simp [ZS.one]),hs⟩
 ·rintro ⟨hb,hs⟩
  refine ⟨_,rfl,λ i hi=>?_,hs⟩;by_cases h:i=b
  ·subst h;exact hb
  ·simp [ZS.one,h] at hi
theorem Cx.lent {R:Cx} {b:Nat} {o:Obj} (h:R.m b=.none):(R.add (ZS.one b o)).m b=some o:=by
 simp [Cx.m_add,ZS.add,h,ZS.one]
theorem Cx.kept {R:Cx} {h:ZS} {b:Nat} {o:Obj} (hb:R.m b=some o):(R.add h).m b=some o:=by
 simp only [Cx.m_add,ZS.add,hb]
theorem Sat.at {R:Cx} {b:Nat} {o:Obj} {Hs:List HP} {w:World} (h:Sat R (pts b o::Hs) w):w.heap[b]? =some o:=
 let ⟨hb,hs⟩:=Sat.lend.1 h
 hs.of_ro (Cx.lent hb)
theorem Sat.pur {R:Cx} {p:Prop} {Hs:List HP} {w:World}:Sat R (VC.pur p::Hs) w↔p/\Sat R Hs w:=by
 constructor
 ·rintro ⟨a,⟨hp,rfl⟩,_,hs⟩
  rw [Cx.add_none] at hs;exact ⟨hp,hs⟩
 ·rintro ⟨hp,hs⟩
  exact ⟨ZS.none,⟨hp,rfl⟩,λ i hi=>absurd rfl hi,by rw [Cx.add_none];exact hs⟩
theorem Sat.exs {α:Type} {R:Cx} {f:α->HP} {Hs:List HP} {w:World}:Sat R (VC.exs f::Hs) w↔∃ x,Sat R (f x::Hs) w:=by
 constructor
 ·rintro ⟨a,⟨x,hx⟩,hd,hs⟩;exact ⟨x,a,hx,hd,hs⟩
 ·rintro ⟨x,a,hx,hd,hs⟩;exact ⟨a,⟨x,hx⟩,hd,hs⟩
theorem Sat.star {w:World}:∀ {l:List HP} {R:Cx} {Hs:List HP},Sat R (Zig l::Hs) w↔Sat R (l++Hs) w
 |[],R,Hs=>by
  constructor
  ·rintro ⟨a,rfl,_,hs⟩;rw [Cx.add_none] at hs;exact hs
  ·intro hs;exact ⟨ZS.none,rfl,λ i hi=>absurd rfl hi,by rw [Cx.add_none];exact hs⟩
 |A::l,R,Hs=>by
  constructor
  ·rintro ⟨x,⟨h1,h2,hA,hl,hd,rfl⟩,hdx,hs⟩
   have d1:R.dis h1:=λ i hi=>hdx i (by simp only [ZS.add];cases h:h1 i<;>simp_all);refine ⟨h1,hA,d1,Sat.star.1 ⟨h2,hl,Cx.add_dis (λ i hi=>hdx i ?_) hd,by rw [Cx.add_assoc];exact hs⟩⟩;simp only [ZS.add];cases h:h1 i<;>simp_all
  ·rintro ⟨h1,hA,d1,hs⟩
   obtain ⟨h2,hl,d2,hs⟩:=Sat.star.2 hs;refine ⟨h1.add h2,⟨h1,h2,hA,hl,(Cx.dis_of_add d2).2,rfl⟩,Cx.dis_add d1 d2,by rw [<-Cx.add_assoc];exact hs⟩
def _root_.Go.World.setBlock (w:World) (b:Nat) (o:Obj):World:={ w with heap:=w.heap.setIfInBounds b o }
theorem ZS.set_add {R h:ZS} {b:Nat} {o o':Obj} (hb:R b=some o):(R.set b o').add h=(R.add h).set b o':=by
 funext i
 simp only [ZS.add,ZS.set];by_cases hi:i=b
 ·subst hi;simp
 ·simp [hi]
theorem Cx.set_add {R:Cx} {h:ZS} {b:Nat} {o o':Obj} (hb:R.m b=some o):(R.set b o').add h=(R.add h).set b o':=by
 unfold Cx.set Cx.add;simp only [ZS.set_add hb]
theorem Sat.upd:∀ {Hs:List HP} {R:Cx} {w:World} {b:Nat} {o:Obj} (o':Obj),Sat R Hs w->R.m b=some o->Sat (R.set b o') Hs (w.setBlock b o')
 |[],R,w,b,o,o',h,hb=>by
  refine ⟨λ i x hx=>?_,h.2⟩;have hlt:b<w.heap.size:=(Array.getElem?_eq_some_iff.1 (h.1 b o hb)).1;simp only [Cx.set,ZS.set] at hx;simp only [World.setBlock];by_cases hi:i=b
  ·subst hi
   simp only [if_true,Option.some.injEq] at hx;subst hx;simp [hlt]
  ·rw [if_neg hi] at hx
   rw [Array.getElem?_setIfInBounds_ne (Ne.symm hi)];exact h.1 i x hx
 |H::Hs,R,w,b,o,o',h,hb=>by
  obtain ⟨a,hA,hd,hs⟩:=h;have:=Sat.upd o' hs (b:=b) (o:=o) (Cx.kept hb);refine ⟨a,hA,λ i hi=>?_,?_⟩
  ·have hr:=hd i hi
   simp only [Cx.set,ZS.set];by_cases h:i=b
   ·subst h;rw [hb] at hr;cases hr
   ·rw [if_neg h];exact hr
  ·rw [Cx.set_add hb];exact this
theorem Sat.setPts {R:Cx} {b:Nat} {o:Obj} {Hs:List HP} {w:World} (o':Obj) (h:Sat R (pts b o::Hs) w):Sat R (pts b o'::Hs) (w.setBlock b o'):=by
 obtain ⟨hb,hs⟩:=Sat.lend.1 h;refine Sat.lend.2 ⟨hb,?_⟩;have h1:=Sat.upd o' hs (b:=b) (o:=o) (Cx.lent hb);have e:(R.add (ZS.one b o)).set b o'=R.add (ZS.one b o'):=by
  unfold Cx.set Cx.add
  congr 1
  funext i
  simp only [ZS.add,ZS.set,ZS.one];by_cases hi:i=b
  ·subst hi;simp [hb]
  ·simp [hi]
 rw [e] at h1;exact h1
theorem Sat.ro_lt {R:Cx} {Hs:List HP} {w:World} (h:Sat R Hs w) {b:Nat} (hb:w.heap.size<=b):R.m b=.none:=by
 cases hr:R.m b with
 |none=>rfl
 |some o=>
  have:=h.of_ro hr;rw [Array.getElem?_eq_none hb] at this;cases this
theorem Sat.grow:∀ {Hs:List HP} {R:Cx} {w:World} (o:Obj),Sat R Hs w->Sat (R.add (ZS.one w.heap.size o)) Hs (w.alloc o)
 |[],R,w,o,h=>by
  refine ⟨λ b x hx=>?_,h.2⟩;simp only [Cx.m_add,ZS.add,ZS.one] at hx;cases hr:R.m b with
  |some y=>
   rw [hr] at hx;have:=h.1 b y hr;have hlt:b<w.heap.size:=(Array.getElem?_eq_some_iff.1 this).1;simp only at hx;simp only [World.alloc];rw [Array.getElem?_push_lt hlt,<-Array.getElem?_eq_getElem,this,hx]
  |none=>
   rw [hr] at hx;simp only at hx;split at hx
   ·rename_i hb;subst hb;cases hx;show (w.heap.push o)[w.heap.size]? =_;simp
   ·cases hx
 |H::Hs,R,w,o,h=>by
  have hR:R.m w.heap.size=.none:=Sat.ro_lt h (Nat.le_refl _);obtain ⟨a,hA,hd,hs⟩:=h;have hadd:(R.add a).m w.heap.size=.none:=Sat.ro_lt hs (Nat.le_refl _);have ha:a w.heap.size=.none:=by simpa [Cx.m_add,ZS.add,hR] using hadd
  have:=Sat.grow o hs;have hdis:(ZS.one w.heap.size o).dis a:=by
   intro i hi;simp only [ZS.one];split
   ·rename_i h;subst h;exact absurd ha hi
   ·rfl
  refine ⟨a,hA,Cx.add_dis hd hdis,?_⟩;rw [Cx.add_assoc,ZS.add_comm hdis,<-Cx.add_assoc];exact this
theorem Sat.alloc {R:Cx} {Hs:List HP} {w:World} (o:Obj) (h:Sat R Hs w):Sat R (pts w.heap.size o::Hs) (w.alloc o):=
 Sat.lend.2 ⟨Sat.ro_lt h (Nat.le_refl _),Sat.grow o h⟩
def Cx.of (w:World):Cx:={ m:=λ b=>w.heap[b]?,os:=w.os,tape:=w.tape,output:=w.output }
theorem Sat.start (w:World):Sat (Cx.of w) [] w:=⟨λ _ _ h=>h,rfl,rfl,rfl⟩
class Zcy (b:Nat) (Hs:List HP) (o:outParam Obj) (Rest:outParam (List HP)):Prop where
 perm:Hs.Perm (pts b o::Rest)
instance (priority:=2000) Zcy.head {b:Nat} {o:Obj} {Hs:List HP}:Zcy b (pts b o::Hs) o Hs:=⟨List.Perm.refl _⟩
instance Zcy.tail {b:Nat} {H:HP} {Hs:List HP} {o:Obj} {Rest:List HP} [t:Zcy b Hs o Rest]:Zcy b (H::Hs) o (H::Rest):=
 ⟨(t.perm.cons H).trans (.swap _ _ _)⟩
class Zmf (A:HP) (Hs:List HP) (Rest:outParam (List HP)):Prop where
 perm:Hs.Perm (A::Rest)
instance (priority:=2000) Zmf.head {A:HP} {Hs:List HP}:Zmf A (A::Hs) Hs:=⟨List.Perm.refl _⟩
instance Zmf.tail {A H:HP} {Hs:List HP} {Rest:List HP} [t:Zmf A Hs Rest]:Zmf A (H::Hs) (H::Rest):=
 ⟨(t.perm.cons H).trans (.swap _ _ _)⟩
theorem Sat.takeP {R:Cx} {Hs Rest:List HP} {w:World} {b:Nat} {o:Obj} (h:Sat R Hs w) (t:Zcy b Hs o Rest):Sat R (pts b o::Rest) w:=h.perm t.perm
theorem Sat.take {R:Cx} {Hs Rest:List HP} {w:World} (A:HP) [t:Zmf A Hs Rest] (h:Sat R Hs w):Sat R (A::Rest) w:=h.perm t.perm
theorem Sat.look {R:Cx} {Hs Rest:List HP} {w:World} {o:Obj} (b:Nat) [t:Zcy b Hs o Rest] (h:Sat R Hs w):w.heap[b]? =some o:=(h.takeP t).at
theorem eqS {R:Cx} {Hs:List HP} {w:World} (h:Sat R Hs w):∀ w',(λ w'=>w'=w) w'->Sat R Hs w':=λ _ e=>by rw [show _=w from e];exact h
theorem Ze {R:Cx} {Hs:List HP}:∀ w',Sat R Hs w'->Sat R Hs w':=λ _ h=>h
def Pre:List Value->List Value->Prop
 |[],_=>True
 |v::vs,x::l=>v=x/\Pre vs l
 |_::_,[]=>False
theorem Pre.get:∀ {vs l:List Value},Pre vs l->∀ (i:Nat) (v:Value),vs[i]? =some v->l[i]? =some v
 |[],_,_,i,v,h=>by simp at h
 |x::vs,y::l,hp,0,v,h=>by simp only [List.getElem?_cons_zero] at h ⊢;rw [<-hp.1];exact h
 |x::vs,y::l,hp,i + 1,v,h=>by simp only [List.getElem?_cons_succ] at h ⊢;exact hp.2.get i v h
 |_::_,[],hp,_,_,_=>hp.elim
theorem Zdf {w:World} {b:Nat} {l:List Value} {T:TypeId} {fr:Nat × Nat} (h:w.heap[b]? =some (.cells l.toArray T fr)) (i:Nat):w.cell? ⟨b,i,none⟩=l[i]?:=by
 simp [World.cell?,h]
theorem Zf (b o i:Nat):Addr.add ⟨b,o,none⟩ i=⟨b,o + i,none⟩:=by
 unfold Addr.add;split
 ·rename_i h;subst h;rfl
 ·rfl
theorem At.mk {S:World->Prop} {b off:Nat} {vs l:List Value} {T:TypeId} {fr:Nat × Nat} (h:∀ w,S w->w.heap[b]? =some (.cells l.toArray T fr)) (hp:Pre vs (l.drop off)):At S ⟨b,off,none⟩ vs:=by
 intro w hw i v hv;have:=hp.get i v hv;rw [List.getElem?_drop] at this;rw [Zf,Zdf (h w hw),this]
theorem At.own {S:World->Prop} {R:Cx} {Hs Rest:List HP} {b off:Nat} {vs l:List Value} {T:TypeId} {fr:Nat × Nat} (hS:∀ w,S w->Sat R Hs w)
  [t:Zcy b Hs (.cells l.toArray T fr) Rest] (hp:Pre vs (l.drop off)):At S ⟨b,off,none⟩ vs:=At.mk (λ w hw=>(hS w hw).look b) hp
theorem At.ro {S:World->Prop} {R:Cx} {Hs:List HP} {b off:Nat} {vs l:List Value} {T:TypeId} {fr:Nat × Nat} (hS:∀ w,S w->Sat R Hs w)
  (hR:R.m b=some (.cells l.toArray T fr)) (hp:Pre vs (l.drop off)):At S ⟨b,off,none⟩ vs:=At.mk (λ w hw=>(hS w hw).of_ro hR) hp
theorem Zd {R:Cx} {Hs:List HP} {w:World} {o:Obj} {K:Nat->World->Prop} (hw:Sat R Hs w) (k:∀ b w',Sat R (pts b o::Hs) w'->K b w'):New o K w:=
 k _ _ (Sat.alloc o hw)
theorem Zv {R:Cx} {Hs:List HP} {w:World} {F:(World->Prop)->World->Prop} (hw:Sat R Hs w) (k:∀ w',Sat R Hs w'->F (Sat R Hs) w'):Drw w F:=
 ⟨Sat R Hs,Sat R Hs,hw.drew,λ w' h=>⟨h,k w' h⟩⟩
theorem Zs {R:Cx} {Hs:List HP} {w:World} {F:(World->Prop)->World->Prop} (S:World->Prop) (hw:Sat R Hs w) (hS:∀ w',Sat R Hs w'->S w') (k:∀ w',Sat R Hs w'->F S w'):Drw w F:=
 ⟨Sat R Hs,S,hw.drew,λ w' h=>⟨hS w' h,k w' h⟩⟩
def tru:HP:=λ _=>True
theorem Sat.tru {R:Cx} {Hs:List HP} {w:World} (h:Sat R Hs w):Sat R (VC.tru::Hs) w:=⟨ZS.none,trivial,λ _ hi=>absurd rfl hi,by rw [Cx.add_none];exact h⟩
theorem Sat.absorb {R:Cx} {A:HP} {Hs:List HP} {w:World} (h:Sat R (A::VC.tru::Hs) w):Sat R (VC.tru::Hs) w:=by
 obtain ⟨a,_,hda,b,_,hdb,hs⟩:=h;refine ⟨a.add b,trivial,Cx.dis_add hda hdb,?_⟩;rw [<-Cx.add_assoc];exact hs
theorem ZkQ {R:Cx} {Hs:List HP} {w:World} {F:(World->Prop)->World->Prop} (hw:Sat R Hs w) (k:∀ w',Sat R (VC.tru::Hs) w'->F (Sat R (VC.tru::Hs)) w'):Drw w F:=
 ⟨_,_,hw.tru.drew,λ w' h=>⟨h,k w' h⟩⟩
theorem Zg {x:Int} (h0: -9223372036854775808<=x) (h1:x<9223372036854775808):IntKind.i64.wrap x=x:=by
 have:IntKind.i64.wrap x=(x + 9223372036854775808) % 18446744073709551616 - 9223372036854775808:=by
  rw [IntKind.wrap_i64]
 rw [this];omega
def Sl.v (s:Sl):Value:=.slice s.a s.len s.cap
structure Ro (R:Cx) (s:Sl) (xs:List Value):Prop where
 len:s.len=xs.length
 bound:xs.length<=9223372036854775807
 mem:xs≠[]->∃ b off l T fr,s.a=some ⟨b,off,none⟩/\R.m b=some (.cells l T fr)/\∀ (i:Nat) v,xs[i]? =some v->l[off + i]? =some v
theorem Ro.add {R:Cx} {h:ZS} {s:Sl} {xs:List Value} (hr:Ro R s xs):Ro (R.add h) s xs:=
 ⟨hr.len,hr.bound,λ hx=>let ⟨b,off,l,T,fr,ha,hb,hl⟩:=hr.mem hx;⟨b,off,l,T,fr,ha,Cx.kept hb,hl⟩⟩
theorem Ro.addr {R:Cx} {s:Sl} {xs:List Value} (hr:Ro R s xs) {k:Nat} (hk:k<xs.length):∃ a,s.a=some a/\
  ∀ {S:World->Prop} {Hs:List HP},(∀ w,S w->Sat R Hs w)->At S (a.add k) [xs[k]]:=by
 obtain ⟨b,off,l,T,fr,ha,hb,hl⟩:=hr.mem (by intro h;rw [h] at hk;simp at hk);refine ⟨_,ha,λ hS w hw i v hv=>?_⟩;have hi:i=0:=by
  cases i with
  |zero=>rfl
  |succ i=>simp at hv
 subst hi;simp only [List.getElem?_cons_zero,Option.some.injEq] at hv;subst hv;rw [Zf,Zf];have:=(hS w hw).of_ro hb;simp only [World.cell?,this,Option.isSome_none,Bool.false_eq_true,if_false];exact hl k _ (List.getElem?_eq_getElem hk)
abbrev RoI (R:Cx) (s:Sl) (xs:List Int):Prop:=Ro R s (xs.map (Value.int .i64))
theorem RoI.len {R:Cx} {s:Sl} {xs:List Int} (h:RoI R s xs):s.len=xs.length:=by rw [Ro.len h];simp
theorem RoI.bound {R:Cx} {s:Sl} {xs:List Int} (h:RoI R s xs):xs.length<=9223372036854775807:=by have:=Ro.bound h;simpa using this
theorem RoI.addr {R:Cx} {s:Sl} {xs:List Int} (hr:RoI R s xs) {k:Nat} (hk:k<xs.length):∃ a,s.a=some a/\
  ∀ {S:World->Prop} {Hs:List HP},(∀ w,S w->Sat R Hs w)->At S (a.add k) [.int .i64 xs[k]]:=by
 obtain ⟨a,ha,h⟩:=Ro.addr hr (k:=k) (by simpa using hk);refine ⟨a,ha,λ hS=>?_⟩;have:=h hS;simpa using this
theorem RoI.idx {S:World->Prop} {R:Cx} {Hs:List HP} {s:Sl} {xs:List Int} (hr:RoI R s xs) (hS:∀ w,S w->Sat R Hs w) {k:Nat} (hk:k<xs.length) {F:Int->Prop} (h:F xs[k]):
  Rng (k:Int) s.len (Zb s.a λ a=>∃ t:Int,(At S (a.add (k:Int).toNat) [.int .i64 t])/\F t):=by
 obtain ⟨a,ha,hat⟩:=RoI.addr hr hk;have hl:=RoI.len hr;exact Rng.mk (by omega) (by omega) (Zb.mk ha ⟨xs[k],hat hS,h⟩)
theorem Ro.idxS {S:World->Prop} {R:Cx} {Hs:List HP} {m:Sl} {ms:List Sl} (hr:Ro R m (ms.map Sl.v)) (hS:∀ w,S w->Sat R Hs w) {k:Nat} (hk:k<ms.length) {F:Sl->Prop} (h:F ms[k]):
  Rng (k:Int) m.len (Zb m.a λ a=>∃ t:Sl,(At S (a.add (k:Int).toNat) [.slice t.a t.len t.cap])/\F t):=by
 obtain ⟨a,ha,hat⟩:=hr.addr (k:=k) (by simpa using hk);have hl:m.len=ms.length:=by have:=hr.len;simpa using this
 refine Rng.mk (by omega) (by omega) (Zb.mk ha ⟨ms[k],?_,h⟩);have:=hat hS;simpa [Sl.v] using this
def Ze5:List Value->Nat->List Value->List Value
 |l,_,[]=>l
 |l,o,v::vs=>Ze5 (l.set o v) (o + 1) vs
theorem Zn:∀ (vs l:List Value) (o:Nat),(Ze5 l o vs).length=l.length
 |[],_,_=>rfl
 |_::vs,l,o=>by rw [Ze5,Zn vs,List.length_set]
theorem Zhg:∀ (vs l:List Value) (o:Nat),o + vs.length<=l.length->Ze5 l o vs=l.take o++vs++l.drop (o + vs.length)
 |[],l,o,_=>by simp [Ze5]
 |v::vs,l,o,h=>by
  simp only [List.length_cons] at h;rw [Ze5,Zhg vs (l.set o v) (o + 1) (by simp;omega)];have e1:(l.set o v).take (o + 1)=l.take o++[v]:=by
   rw [List.take_succ_eq_append_getElem (by simp;omega)];simp [List.take_set_of_le]
  have e2:(l.set o v).drop (o + 1 + vs.length)=l.drop (o + (vs.length + 1)):=by
   rw [List.drop_set_of_lt (by omega)];congr 1;omega
  rw [e1,e2];simp
theorem Zjc {w:World} {b o:Nat} {l:List Value} {T:TypeId} {fr:Nat × Nat} (h:w.heap[b]? =some (.cells l.toArray T fr)) (v:Value):
  w.setCell ⟨b,o,none⟩ v=w.setBlock b (.cells (l.set o v).toArray T fr):=by
 unfold World.setCell World.setBlock
 congr 1
 apply Array.ext_getElem?;intro i;rw [Array.getElem?_modify,Array.getElem?_setIfInBounds];by_cases hi:b=i
 ·subst hi
  obtain ⟨hlt,hg⟩:=Array.getElem?_eq_some_iff.1 h;simp [hlt,hg]
 ·simp [hi]
theorem ZcZ {R:Cx} {Hs:List HP} {b:Nat} {T:TypeId} {fr:Nat × Nat}:∀ (vs l:List Value) (o:Nat) (w:World),Sat R (pts b (.cells l.toArray T fr)::Hs) w->
  Sat R (pts b (.cells (Ze5 l o vs).toArray T fr)::Hs) (w.setCells b o vs)
 |[],_,_,_,h=>h
 |v::vs,l,o,w,h=>by
  rw [World.setCells,Zjc h.at,Ze5];exact ZcZ vs (l.set o v) (o + 1) _ (h.setPts _)
def ZoG (n:Nat) (fr:Nat × Nat):Prop:=fr.2=0\/n<=fr.1
theorem ZoG.le {n m:Nat} {fr:Nat × Nat} (h:ZoG n fr) (hm:m<=n):ZoG m fr:=h.imp id λ h=>Nat.le_trans hm h
theorem ZhA {w:World} {b:Nat} {l:Array Value} {T:TypeId} {fr:Nat × Nat} {n:Nat} (h:w.heap[b]? =some (.cells l T fr)) (hf:ZoG n fr) {i:Nat} (hi:i<n):w.frozen? ⟨b,i,none⟩=false:=by
 obtain ⟨lo,hi'⟩:=fr;simp only [World.frozen?,h];rcases hf with hf|hf<;>simp only at hf<;>simp<;>omega
def Zac (vs:List Value):Bool:=vs.all (·.oneCell')
theorem Zc {P:Program} {R:Cx} {Hs Rest:List HP} {w:World} {b o:Nat} {l:List Value} {T t:TypeId} {fr:Nat × Nat} {v:Value} {K:World->Prop}
  (hw:Sat R Hs w) [tk:Zcy b Hs (.cells l.toArray T fr) Rest] (hsz:(P.info? t).map (·.size)=some v.cells.toList.length) (h1:Zac v.cells.toList=true) (hb:o + v.cells.toList.length<=l.length)
  (k:∀ w',Sat R (pts b (.cells (Ze5 l o v.cells.toList).toArray T fr)::Rest) w'->K w') (hfr:ZoG l.length fr:=by first|assumption|exact Or.inl rfl):
  ∃ w',(Instr.storeAt t (.pointer (some ⟨b,o,none⟩)) v).run P w=.ok () w'/\K w':=by
 have hp:=hw.takeP tk;have hat:=hp.at;obtain ⟨i,hi,hsz⟩:=Option.map_eq_some_iff.1 hsz;refine ⟨w.setCells b o v.cells.toList,?_,k _ (ZcZ _ _ _ _ hp)⟩;have hst:=run_storeCells_cells (P:=P) b o v.cells.toList 0 w (λ j hj=>by
   simp only [Nat.add_zero];rw [Zdf hat];simp;omega) (λ j hj=>ZhA hat hfr (by omega)) (λ u hu=>List.all_eq_true.1 h1 u hu)
 simp only [Nat.add_zero] at hst;simp [Instr.storeAt,Instr.sureAddr,storeVar,sizeOf,typeInfo,hi,hsz,hst]
def Own (s:Sl) (T:TypeId) (xs:List Value):HP:=λ h=>
 (s=⟨none,0,0⟩/\xs=[]/\h=ZS.none)\/∃ b rest fr,s=⟨some ⟨b,0,none⟩,xs.length,(xs++rest).length⟩/\ZoG (xs++rest).length fr/\h=ZS.one b (.cells (xs++rest).toArray T fr)
theorem Own.nil {R:Cx} {Hs:List HP} {w:World} {T:TypeId} (h:Sat R Hs w):Sat R (Own ⟨none,0,0⟩ T []::Hs) w:=
 ⟨ZS.none,.inl ⟨rfl,rfl,rfl⟩,λ i hi=>absurd rfl hi,by rw [Cx.add_none];exact h⟩
theorem Own.of_pts {R:Cx} {Hs:List HP} {w:World} {T:TypeId} {b:Nat} {fr:Nat × Nat} {xs rest:List Value} (h:Sat R (pts b (.cells (xs++rest).toArray T fr)::Hs) w) (hf:ZoG (xs++rest).length fr:=by first|assumption|exact Or.inl rfl):
  Sat R (Own ⟨some ⟨b,0,none⟩,xs.length,(xs++rest).length⟩ T xs::Hs) w:=
 let ⟨a,ha,hd,hs⟩:=h;⟨a,.inr ⟨b,rest,fr,rfl,hf,ha⟩,hd,hs⟩
theorem Own.cases {R:Cx} {Hs:List HP} {w:World} {T:TypeId} {s:Sl} {xs:List Value} (h:Sat R (Own s T xs::Hs) w):
  (s=⟨none,0,0⟩/\xs=[]/\Sat R Hs w)\/∃ b rest fr,s=⟨some ⟨b,0,none⟩,xs.length,(xs++rest).length⟩/\ZoG (xs++rest).length fr/\Sat R (pts b (.cells (xs++rest).toArray T fr)::Hs) w:=by
 obtain ⟨a,ha,hd,hs⟩:=h;rcases ha with ⟨h1,h2,rfl⟩|⟨b,rest,fr,h1,hf,rfl⟩
 ·rw [Cx.add_none] at hs;exact .inl ⟨h1,h2,hs⟩
 ·exact .inr ⟨b,rest,fr,h1,hf,_,rfl,hd,hs⟩
theorem Own.len {R:Cx} {Hs:List HP} {w:World} {T:TypeId} {s:Sl} {xs:List Value} (h:Sat R (Own s T xs::Hs) w):s.len=xs.length:=by
 rcases Own.cases h with ⟨rfl,rfl,_⟩|⟨b,rest,fr,rfl,_,_⟩<;>rfl
theorem Own.lend {R:Cx} {Hs:List HP} {w:World} {T:TypeId} {s:Sl} {xs:List Value} (h:Sat R (Own s T xs::Hs) w) (hb:xs.length<=9223372036854775807):
  ∃ R':Cx,Ro R' s xs/\(∀ s' xs',Ro R s' xs'->Ro R' s' xs')/\Sat R' Hs w/\∀ {Hs' w'},Sat R' Hs' w'->Sat R (Own s T xs::Hs') w':=by
 rcases Own.cases h with ⟨rfl,rfl,h2⟩|⟨b,rest,fr,rfl,hf,h2⟩
 ·exact ⟨R,⟨rfl,by simp,λ h=>absurd rfl h⟩,λ _ _ h=>h,h2,λ h=>Own.nil h⟩
 ·obtain ⟨hn,h3⟩:=Sat.lend.1 h2
  refine ⟨_,⟨rfl,hb,λ _=>⟨b,0,_,T,fr,rfl,Cx.lent hn,λ i v hv=>?_⟩⟩,λ _ _ h=>h.add,h3,λ h=>Own.of_pts (Sat.lend.2 ⟨hn,h⟩)⟩;obtain ⟨hi,rfl⟩:=List.getElem?_eq_some_iff.1 hv;simp [List.getElem?_append_left hi]
def elB (P:Program) (T:TypeId) (bytes:Nat):Bool:=
 match P.info? T with
 |some i=>match i.zero with
  |some z=>i.size==1 && i.bytes==bytes && z.cells.size==1
  |none=>false
 |none=>false
theorem Zqe {P:Program} {T:TypeId} {bytes:Nat} (h:elB P T bytes=true):∃ i z,P.info? T=some i/\i.zero=some z/\i.size=1/\i.bytes=bytes/\z.cells.size=1:=by
 unfold elB at h;split at h
 ·rename_i i hi
  split at h
  ·rename_i z hz
   simp only [Bool.and_eq_true,beq_iff_eq] at h;exact ⟨i,z,hi,hz,h.1.1,h.1.2,h.2⟩
  ·cases h
 ·cases h
structure El (P:Program) (t1 t2 T:TypeId) (bytes:Nat):Prop where
 ht:P.underlying t1=some (.slice T)
 hk:∃ e',P.underlying t2=some (.slice e')
 hi:elB P T bytes=true
theorem Zas {P:Program} {t1 t2 ty T:TypeId} {bytes:Nat} (E:El P t1 t2 T bytes) {R:Cx} {Hs:List HP} {w:World} {s:Sl} {xs ys:List Value} {src:Value} {n:Nat} {K:Sl->World->Prop}
  (hw:Sat R (Own s T xs::Hs) w) (hs:Src P 1 t2 src n ys w) (h1:Zac xs=true) (hb:2 * (xs.length + n) * bytes<=281474976710656) (hb':xs.length + n<=9223372036854775807)
  (k:∀ s' w',Sat R (Own s' T (xs++ys)::Hs) w'->K s' w'):
  ∃ w',∃ t:Sl,(Builtin.append_ #[t1,t2] ty #[.slice s.a s.len s.cap,src]).run P w=.ok (.slice t.a t.len t.cap) w'/\K t w':=by
 obtain ⟨i,z,hi,hz,hsize,hbytes,hzc⟩:=Zqe E.hi;have hyn:ys.length=n:=by have:=hs.newsLen;simpa using this
 have hs':Src P i.size t2 src n ys w:=by rw [hsize];exact hs
 have hlen:=Own.len hw;have fit:∀ cap,cap<xs.length + n->Builtin.nextslicecap (xs.length + n) cap * i.bytes<=281474976710656:=λ cap hc=>by
  have h2:Builtin.nextslicecap (xs.length + n) cap<=2 * (xs.length + n):=by
   unfold Builtin.nextslicecap;split
   ·omega
   ·split
    ·omega
    ·have:=nextslicecap_le_wide hc
     unfold Builtin.nextslicecap at this;rw [if_neg (by assumption),if_neg (by assumption)] at this;omega
  rw [hbytes];exact Nat.le_trans (Nat.mul_le_mul_right _ h2) hb
 -- a new row
 have grow:∀ (base:Option Addr) (cap:Nat) (olds:List Value),olds=xs->cap<xs.length + n->(Builtin.firstCells i.size xs.length (.slice base xs.length cap)).run P w.drew=.ok olds.toArray w.drew->Sat R Hs w->
   ∃ w',∃ t:Sl,(Builtin.append_ #[t1,t2] ty #[.slice base xs.length cap,src]).run P w=.ok (.slice t.a t.len t.cap) w'/\K t w':=λ base cap olds ho hc hold hw=>by
  have hr:=run_append_grow_src w t1 t2 ty T i z E.ht hi hz base xs.length cap olds hold src n ys hs' hc (by omega) (fit cap hc);refine ⟨_,⟨some ⟨w.heap.size,0,none⟩,xs.length + n,grownCap w (xs.length + n) cap T⟩,hr,k _ _ ?_⟩;have hz0:(Builtin.zeroCells z.cells (grownCap w (xs.length + n) cap T - (xs.length + n))).size=grownCap w (xs.length + n) cap T - (xs.length + n):=by
   simp [Builtin.zeroCells,hzc]
  have hg:=grownCap_ge w (xs.length + n) cap T;have ho':Obj.cells ((olds++ys).toArray++Builtin.zeroCells z.cells (grownCap w (xs.length + n) cap T - (xs.length + n))) T=.cells ((xs++ys)++(Builtin.zeroCells z.cells (grownCap w (xs.length + n) cap T - (xs.length + n))).toList).toArray T (0,0):=by
   rw [ho]
   congr 1
   apply Array.ext';simp
  have:=Sat.alloc (Obj.cells ((olds++ys).toArray++Builtin.zeroCells z.cells (grownCap w (xs.length + n) cap T - (xs.length + n))) T) (Sat.drew hw);rw [ho'] at this ⊢;have h3:=Own.of_pts this;have e:(⟨some ⟨w.drew.heap.size,0,none⟩,(xs++ys).length,(xs++ys++(Builtin.zeroCells z.cells (grownCap w (xs.length + n) cap T - (xs.length + n))).toList).length⟩:Sl)=⟨some ⟨w.heap.size,0,none⟩,xs.length + n,grownCap w (xs.length + n) cap T⟩:=by
   simp only [List.length_append,Array.length_toList,hz0,World.size_drew,hyn]
   congr 1
   omega
  rw [e] at h3;exact h3
 rcases Own.cases hw with ⟨rfl,rfl,hz2⟩|⟨b,rest,fr,rfl,hfr,hp⟩
 ·by_cases hn0:n=0
  ·subst hn0
   have hy:ys=[]:=List.length_eq_zero_iff.1 hyn;subst hy;obtain ⟨e',he'⟩:=E.hk;refine ⟨w,⟨none,0,0⟩,?_,k _ _ (by simpa using Own.nil hz2)⟩;have hcz:=hs'.cells;simp [Builtin.append_,run_underlying E.ht,run_underlying he',sizeOf,typeInfo,hi,hs'.len,hcz]
  ·exact grow none 0 [] rfl (by simp;omega) (run_firstCells_none w.drew i.size 0 0 0) hz2
 ·by_cases hroom:xs.length + n<=(xs++rest).length
  ·have hat:=hp.at
   have hr:=run_append_room_src w t1 t2 ty T i E.ht hi b 0 xs.length (xs++rest).length src n ys hs' hroom
    (λ j hj=>by rw [Zdf hat,hsize];simp at hroom ⊢;omega) (λ j hj=>ZhA hat hfr (by rw [hsize,Nat.mul_one];simp only [List.length_append] at hroom ⊢;omega))
   refine ⟨_,⟨some ⟨b,0,none⟩,xs.length + n,(xs++rest).length⟩,hr,k _ _ ?_⟩;have h2:=ZcZ ys (xs++rest) xs.length w hp;have e1:Ze5 (xs++rest) xs.length ys=(xs++ys)++rest.drop n:=by
    rw [Zhg _ _ _ (by rw [hyn];exact hroom),List.take_left',List.drop_append]
    ·simp [hyn]
    ·rfl
   rw [e1] at h2;rw [hsize,Nat.zero_add,Nat.mul_one];have h3:=Own.of_pts h2 (hfr.le (by simp only [List.length_append,List.length_drop] at hroom ⊢;omega));have e:(⟨some ⟨b,0,none⟩,(xs++ys).length,(xs++ys++rest.drop n).length⟩:Sl)=⟨some ⟨b,0,none⟩,xs.length + n,(xs++rest).length⟩:=by
    simp only [List.length_append,List.length_drop,hyn] at hroom ⊢
    congr 1
    omega
   rw [e] at h3;exact h3
  ·have hat:=hp.at
   refine grow (some ⟨b,0,none⟩) (xs++rest).length xs rfl (by omega) ?_ hp.drop;refine run_firstCells_some w.drew i.size xs.length ⟨b,0,none⟩ xs.length _ xs (by rw [hsize];simp) ?_;intro j u hj;rw [World.cell?_drew,Zf,Zdf hat,Nat.zero_add];obtain ⟨hlt,rfl⟩:=List.getElem?_eq_some_iff.1 hj;simp [List.getElem?_append_left hlt]
theorem ZjN {P:Program} {t2:TypeId} (hk:∃ e',P.underlying t2=some (.slice e')) {R:Cx} {Hs Rest:List HP} {w:World} {b:Nat} {x:Value} {T:TypeId} {fr:Nat × Nat} (c:Nat)
  (hw:Sat R Hs w) [t:Zcy b Hs (.cells [x].toArray T fr) Rest] (h1:x.oneCell'=true):Src P 1 t2 (.slice (some ⟨b,0,none⟩) 1 c) 1 [x] w:=by
 obtain ⟨e',he'⟩:=hk;refine Go.Src.ofSlice w he' _ 1 c [x] rfl ?_ ?_
 ·intro j u hj
  have:=hw.look b;rw [Zf,Zdf this];simpa using hj
 ·intro u hu;simp at hu;subst hu;exact h1
theorem Zhh {P:Program} {t1 t2 ty T T':TypeId} {bytes:Nat} (E:El P t1 t2 T bytes) {R:Cx} {Hs:List HP} {w:World} {s:Sl} {xs:List Value} {x:Value} {K:Sl->World->Prop}
  (hw:Sat R (Own s T xs::Hs) w) (h1:Zac xs=true) (hx:x.oneCell'=true) (hb:2 * (xs.length + 1) * bytes<=281474976710656) (hb':xs.length + 1<=9223372036854775807)
  (k:∀ s' w',Sat R (Own s' T (xs++[x])::Hs) w'->K s' w'):
  New (.cells #[x] T' (0,0)) (λ b w=>∃ w',∃ t:Sl,(Builtin.append_ #[t1,t2] ty #[.slice s.a s.len s.cap,.slice (some ⟨b,0,none⟩) 1 1]).run P w=.ok (.slice t.a t.len t.cap) w'/\K t w') w:=by
 refine Zd hw λ b w hw=>?_;have hw:Sat R (pts b (.cells [x].toArray T' (0,0))::Own s T xs::Hs) w:=hw;exact Zas E hw.swap (ZjN E.hk 1 hw hx) h1 hb hb' λ s' w' h=>k s' w' h.swap.drop
theorem ZnN {P:Program} {t1 t2 ty T T':TypeId} (E:El P t1 t2 T 8) {R:Cx} {Hs:List HP} {w:World} {s:Sl} {xs:List Int} {x:Int} {K:Sl->World->Prop}
  (hw:Sat R (Own s T (xs.map (Value.int .i64))::Hs) w) (hb:xs.length<1000000000000)
  (k:∀ s' w',Sat R (Own s' T ((xs++[x]).map (Value.int .i64))::Hs) w'->K s' w'):
  New (.cells #[.int .i64 x] T' (0,0)) (λ b w=>∃ w',∃ t:Sl,(Builtin.append_ #[t1,t2] ty #[.slice s.a s.len s.cap,.slice (some ⟨b,0,none⟩) 1 1]).run P w=.ok (.slice t.a t.len t.cap) w'/\K t w') w:=
 Zhh E hw (by unfold Zac;simp [Value.oneCell']) rfl (by rw [List.length_map];omega) (by rw [List.length_map];omega) λ s' w' h=>k s' w' (by simpa using h)
theorem Sat.grows {R:Cx} {Hs:List HP}:∀ (os:List Obj) {w:World},Sat R Hs w->Sat R Hs (Go.Sort.grow w os.toArray)
 |[],w,h=>by simpa using h
 |o::os,w,h=>by
  have h1:=Sat.grows os (Sat.alloc o h).drop;rw [Go.Sort.alloc_eq_grow,Go.Sort.grow_grow] at h1;have e:(#[o]++os.toArray:Array Obj)=(o::os).toArray:=by simp
  rw [e] at h1;exact h1
theorem Pre.refl:∀ l:List Value,Pre l l
 |[]=>trivial
 |_::l=>⟨rfl,Pre.refl l⟩
theorem Ze0 {P:Program} {R:Cx} {Hs Rest:List HP} {w:World} {b i:Nat} {l:List Int} {T t:TypeId} {kd:IntKind} {x:Int} {K:World->Prop}
  (hsz:(P.info? t).map (·.size)=some 1) (hw:Sat R Hs w) [tk:Zcy b Hs (.cells (l.map (Value.int kd)).toArray T (0,0)) Rest] (hi:i<l.length)
  (k:∀ w',Sat R (pts b (.cells ((l.set i x).map (Value.int kd)).toArray T (0,0))::Rest) w'->K w'):
  ∃ w',(Instr.storeAt t (.pointer (some (Addr.add ⟨b,0,none⟩ i))) (.int kd x)).run P w=.ok () w'/\K w':=by
 rw [Zf];refine Zc hw (tk:=tk) (by rw [hsz];rfl) rfl (by simp [Value.cells];omega) λ w' h=>k w' ?_;have e:Ze5 (l.map (Value.int kd)) (0 + i) (Value.int kd x).cells.toList=(l.set i x).map (Value.int kd):=by
  simp [Ze5,Value.cells,List.map_set]
 rw [e] at h;exact h
section
variable {P:Program} {R:Cx} {Hs Rest:List HP} {w:World} {s:Sl} {T:TypeId}
theorem Own.addr {xs:List Value} (hw:Sat R (Own s T xs::Hs) w) {k:Nat} (hk:k<xs.length):∃ b,s.a=some ⟨b,0,none⟩/\
  ∀ {S:World->Prop} {Hs'},(∀ w,S w->Sat R (Own s T xs::Hs') w)->At S (Addr.add ⟨b,0,none⟩ k) [xs[k]]:=by
 rcases Own.cases hw with ⟨_,rfl,_⟩|⟨b,rest,fr,rfl,_,_⟩
 ·simp at hk
 ·refine ⟨b,rfl,λ hS w hs i v hv=>?_⟩
  have hi:i=0:=by
   cases i with
   |zero=>rfl
   |succ i=>simp at hv
  subst hi;simp only [List.getElem?_cons_zero,Option.some.injEq] at hv;subst hv;rcases Own.cases (hS w hs) with ⟨h0,_,_⟩|⟨b',rest',fr',he,_,h⟩
  ·cases h0
  ·simp only [Sl.mk.injEq,Option.some.injEq,Addr.mk.injEq,and_true] at he
   obtain ⟨rfl,_⟩:=he;rw [Zf,Zf,Zdf h.at];simp [List.getElem?_append_left hk]
theorem Own.cap {xs:List Value} (hw:Sat R (Own s T xs::Hs) w):s.len<=s.cap:=by
 rcases Own.cases hw with ⟨rfl,_,_⟩|⟨b,rest,fr,rfl,_,_⟩
 ·exact Nat.le_refl _
 ·simp
theorem Own.idx {kd:IntKind} {xs:List Int} {S:World->Prop} {Hs':List HP} (hw:Sat R (Own s T (xs.map (Value.int kd))::Hs) w) (hS:∀ w,S w->Sat R (Own s T (xs.map (Value.int kd))::Hs') w) {k:Nat} (hk:k<xs.length) {F:Int->Prop} (h:F xs[k]):
  Rng (k:Int) s.len (Zb s.a λ a=>∃ t:Int,(At S (a.add (k:Int).toNat) [.int kd t])/\F t):=by
 obtain ⟨b,ha,hat⟩:=Own.addr hw (k:=k) (by simpa using hk);have hl:=Own.len hw;rw [List.length_map] at hl;refine Rng.mk (by omega) (by omega) (Zb.mk ha ⟨xs[k],?_,h⟩);have:=hat hS;simpa using this
theorem Own.store {t:TypeId} {kd:IntKind} {xs:List Int} (hsz:(P.info? t).map (·.size)=some 1) (hw:Sat R (Own s T (xs.map (Value.int kd))::Hs) w) {k:Nat} (hk:k<xs.length) {x:Int} {K:World->Prop}
  (h:∀ w',Sat R (Own s T ((xs.set k x).map (Value.int kd))::Hs) w'->K w'):
  Rng (k:Int) s.len (Zb s.a λ a=>∃ w',(Instr.storeAt t (.pointer (some (Addr.add a (k:Int).toNat))) (.int kd x)).run P w=.ok () w'/\K w'):=by
 have hl:=Own.len hw;rw [List.length_map] at hl;rcases Own.cases hw with ⟨_,h0,_⟩|⟨b,rest,fr,rfl,hfr,hp⟩
 ·simp at h0;subst h0;simp at hk
 ·refine Rng.mk (by omega) (by simp only at hl ⊢;omega) (Zb.mk rfl ?_)
  rw [Zf];refine Zc hp (by rw [hsz];rfl) rfl (by simp [Value.cells];omega) λ w' h2=>h w' ?_;have e:Ze5 (xs.map (Value.int kd)++rest) (0 + (k:Int).toNat) (Value.int kd x).cells.toList=(xs.set k x).map (Value.int kd)++rest:=by
   simp only [Ze5,Value.cells,Nat.zero_add,Int.toNat_natCast];rw [List.set_append_left _ _ (by simpa using hk),List.map_set]
  rw [e] at h2;have h3:=Own.of_pts h2 (hfr.le (by simp));simpa using h3
end
section
class ZbU (α:Type) [BEq α] where
 enc:α->Value
 desc:TypeDesc
 same:∀ a b,Instr.sameNow desc (enc a) (enc b)=some (a==b)
 bits:∀ a,Instr.sameBits 10000 (enc a) (enc a)=true
 eq:∀ a b:α,(a==b)=true->a=b
 check:∀ (P:Program) (em:Bool) (K:TypeId) (a:α) (w:World),P.underlying K=some desc->(Instr.checkKey em 10000 K (enc a)).run P w=.ok () w
instance:ZbU ByteArray where
 enc:=Value.string
 desc:=.string
 same a b:=rfl
 bits a:=by
  have:∀ n,Instr.sameBits n (.string a) (.string a)=(a==a):=λ n=>by cases n<;>rfl
  rw [this];exact (MapKept.bytes_beq a a).2 rfl
 eq a b h:=(MapKept.bytes_beq a b).1 h
 check P em K a w h:=by
  show (Instr.checkKey em (9999 + 1) K (.string a)).run P w=_;unfold Instr.checkKey;simp [run_underlying h]
variable {α:Type} [BEq α] [ZbU α]
abbrev En (α:Type):=α × Value × Nat
def mkE (e:En α):MapEntry:={ key:=ZbU.enc e.1,val:=e.2.1,born:=e.2.2 }
def Zrx (k:α):List (En α)->Option Value
 |[]=>none
 |e::es=>if k==e.1 then some e.2.1 else Zrx k es
def ZqV (k:α) (v:Value):List (En α)->List (En α)
 |[]=>[]
 |e::es=>if k==e.1 then (e.1,v,e.2.2)::es else e::ZqV k v es
def Zm5 (k:α):List (En α)->List (En α)
 |[]=>[]
 |e::es=>if k==e.1 then es else e::Zm5 k es
def ZlQ (k:α) (es:List (En α)):Bool:=(Zrx k es).isSome
def Zr1 (k:α) (v:Value) (es:List (En α)) (clock:Nat):List (En α):=if ZlQ k es then ZqV k v es else es++[(k,v,clock)]
def Zh0 (k:α):List (En α)->Nat->Option (Nat × Value)
 |[],_=>none
 |e::es,i=>if k==e.1 then some (i,e.2.1) else Zh0 k es (i + 1)
theorem ZiJ (k:α):∀ (es:List (En α)) (i:Nat),Instr.findNow (ZbU.desc α) (ZbU.enc k) (es.map mkE) i=some (Zh0 k es i)
 |[],_=>rfl
 |e::es,i=>by
  rw [List.map_cons,Instr.findNow,mkE,ZbU.same,Zh0];cases h:(k==e.1)
  ·simpa using ZiJ k es (i + 1)
  ·rfl
omit [ZbU α] in
theorem Zjx (k:α):∀ (es:List (En α)) (i:Nat),(Zh0 k es i).map (·.2)=Zrx k es
 |[],_=>rfl
 |e::es,i=>by
  rw [Zh0,Zrx];cases h:(k==e.1)
  ·exact Zjx k es (i + 1)
  ·rfl
theorem Ze3 {P:Program} {K:TypeId} (hK:P.underlying K=some (ZbU.desc α)) (k:α) (es:List (En α)) (w:World):
  (Instr.findKey K (ZbU.enc k) (es.map mkE)).run P w=.ok (Zh0 k es 0) w:=by
 unfold Instr.findKey;simp [run_underlying hK,ZiJ]
theorem ZgB {P:Program} (k:α) (w:World):(Instr.keyThatStays (ZbU.enc k) (ZbU.enc k)).run P w=.ok (ZbU.enc k) w:=by
 unfold Instr.keyThatStays;rw [if_pos (ZbU.bits k)];rfl
theorem Zn4 {P:Program} {T K E:TypeId} (hT:P.underlying T=some (.map K E)) (hK:P.underlying K=some (ZbU.desc α)) {z:Value} (hz:∀ w,(zeroValue E).run P w=.ok z w)
  {w:World} {m clock:Nat} {es:List (En α)} (hm:w.heap[m]? =some (.map (es.map mkE).toArray clock)) (k:α) (c:Bool):
  (Instr.lookup T (.map (some m)) (ZbU.enc k) c).run P w=.ok (if c then .tuple #[(Zrx k es).getD z,.bool (ZlQ k es)] else (Zrx k es).getD z) w:=by
 have hv:=Zjx k es 0;have hck:=ZbU.check P (es.map mkE).toArray.isEmpty K k w hK;have hfk:=Ze3 hK k es w;unfold Instr.lookup;cases hi:Zh0 k es 0 with
 |none=>
  rw [hi] at hv hfk;simp only [Option.map_none] at hv;simp only [Sem.run_bind,run_underlying hT,Result.andThen,MapKept.run_getObj_map hm,Sem.run_pure,hck,hfk,hz,ZlQ,<-hv];rfl
 |some p=>
  rw [hi] at hv hfk;simp only [Option.map_some] at hv;simp only [Sem.run_bind,run_underlying hT,Result.andThen,MapKept.run_getObj_map hm,Sem.run_pure,hck,hfk,ZlQ,<-hv];rfl
omit [ZbU α] in
theorem ZfG (k:α):∀ (es:List (En α)) (i:Nat),(∀ p,Zh0 k es i=some p->i<=p.1)
 |[],i,p,h=>by cases h
 |e::es,i,p,h=>by
  rw [Zh0] at h;cases hk:(k==e.1)
  ·rw [hk] at h;have:=ZfG k es (i + 1) p (by simpa using h);omega
  ·rw [hk] at h;simp at h;subst h;exact Nat.le_refl _
theorem ZkA (k:α) (v:Value):∀ (es:List (En α)) (i:Nat) (p:Nat × Value),Zh0 k es i=some p->
  (es.map mkE).modify (p.1 - i) (λ e=>{ e with key:=ZbU.enc k,val:=v })=(ZqV k v es).map mkE
 |[],_,_,h=>by cases h
 |e::es,i,p,h=>by
  have hle:=ZfG k (e::es) i p h;rw [Zh0] at h;cases hk:(k==e.1)
  ·rw [hk] at h
   have h':Zh0 k es (i + 1)=some p:=by simpa using h
   have hle2:=ZfG k es (i + 1) p h';obtain ⟨j,hj⟩:∃ j,p.1 - i=j + 1:=⟨p.1 - (i + 1),by omega⟩;have ih:=ZkA k v es (i + 1) p h';rw [show p.1 - (i + 1)=j by omega] at ih;rw [hj,ZqV,hk];simp only [List.map_cons,List.modify_succ_cons,Bool.false_eq_true,if_false,List.cons.injEq,true_and];exact ih
  ·rw [hk] at h
   simp at h;subst h;have:=ZbU.eq _ _ hk;subst this;rw [ZqV,hk];simp [mkE]
theorem ZmW (k:α):∀ (es:List (En α)) (i:Nat) (p:Nat × Value),Zh0 k es i=some p->(es.map mkE).eraseIdx (p.1 - i)=(Zm5 k es).map mkE
 |[],_,_,h=>by cases h
 |e::es,i,p,h=>by
  rw [Zh0] at h;cases hk:(k==e.1)
  ·rw [hk] at h
   have h':Zh0 k es (i + 1)=some p:=by simpa using h
   have hle2:=ZfG k es (i + 1) p h';obtain ⟨j,hj⟩:∃ j,p.1 - i=j + 1:=⟨p.1 - (i + 1),by omega⟩;have ih:=ZmW k es (i + 1) p h';rw [show p.1 - (i + 1)=j by omega] at ih;rw [hj,Zm5,hk];simp only [List.map_cons,List.eraseIdx_cons_succ,Bool.false_eq_true,if_false,List.cons.injEq,true_and];exact ih
  ·rw [hk] at h
   simp at h;subst h;rw [Zm5,hk];simp
omit [ZbU α] in
theorem Zhx (k:α) (es:List (En α)) (i:Nat):Zh0 k es i=none↔ZlQ k es=false:=by
 unfold ZlQ;rw [<-Zjx k es i];cases Zh0 k es i<;>simp
omit [ZbU α] in
theorem ZkS (k:α):∀ (es:List (En α)),ZlQ k es=false->Zm5 k es=es
 |[],_=>rfl
 |e::es,h=>by
  unfold ZlQ Zrx at h;cases hk:(k==e.1)
  ·rw [hk] at h
   rw [Zm5,hk];simp only [Bool.false_eq_true,if_false,List.cons.injEq,true_and];exact ZkS k es (by unfold ZlQ;simpa using h)
  ·rw [hk] at h;simp at h
theorem ZlP (k:α):∀ (es:List (En α)) (i:Nat) (p:Nat × Value),Zh0 k es i=some p->p.1<i + es.length/\∃ e,(es.map mkE)[p.1 - i]? =some e/\e.key=ZbU.enc k
 |[],_,_,h=>by cases h
 |e::es,i,p,h=>by
  rw [Zh0] at h;cases hk:(k==e.1)
  ·rw [hk] at h
   have h':Zh0 k es (i + 1)=some p:=by simpa using h
   have hle2:=ZfG k es (i + 1) p h';obtain ⟨h1,e',h2,h3⟩:=ZlP k es (i + 1) p h';refine ⟨by simp only [List.length_cons];omega,e',?_,h3⟩;obtain ⟨j,hj⟩:∃ j,p.1 - i=j + 1:=⟨p.1 - (i + 1),by omega⟩;rw [hj,List.map_cons,List.getElem?_cons_succ,show j=p.1 - (i + 1) by omega];exact h2
  ·rw [hk] at h
   simp at h;subst h;refine ⟨by simp,mkE e,by simp,?_⟩;rw [ZbU.eq _ _ hk];rfl
theorem Znm {P:Program} {T K E:TypeId} (hT:P.underlying T=some (.map K E)) (hK:P.underlying K=some (ZbU.desc α))
  {w:World} {m clock:Nat} {es:List (En α)} (hm:w.heap[m]? =some (.map (es.map mkE).toArray clock)) (k:α) (v:Value):
  (Instr.mapUpdate T (.map (some m)) (ZbU.enc k) v).run P w=.ok () (w.setBlock m (.map ((Zr1 k v es clock).map mkE).toArray (if ZlQ k es then clock else clock + 1))):=by
 have hck:=ZbU.check P false K k w hK;have hfk:=Ze3 hK k es w;unfold Instr.mapUpdate;cases hi:Zh0 k es 0 with
 |none=>
  have hn:=(Zhx k es 0).1 hi;rw [hi] at hfk;simp only [Sem.run_bind,run_underlying hT,Result.andThen,MapKept.run_getObj_map hm,hck,hfk,MapKept.run_setObj_map _ hm,Zr1,hn,World.setBlock,Bool.false_eq_true,if_false];simp [mkE]
 |some p=>
  have hh:ZlQ k es=true:=by
   cases h:ZlQ k es
   ·rw [(Zhx k es 0).2 h] at hi;cases hi
   ·rfl
  obtain ⟨_,e,he,hek⟩:=ZlP k es 0 p hi;have hmod:=ZkA k v es 0 p hi;rw [Nat.sub_zero] at he hmod;rw [hi] at hfk;have hkey:(((es.map mkE).toArray[p.1]?).map (·.key)).getD (ZbU.enc k)=ZbU.enc k:=by
   have:(es.map mkE).toArray[p.1]? =some e:=by simpa using he
   rw [this];exact hek
  simp only [Sem.run_bind,run_underlying hT,Result.andThen,MapKept.run_getObj_map hm,hck,hfk,hkey,ZgB,MapKept.run_setObj_map _ hm,Zr1,hh,World.setBlock,if_true]
  congr 4
  apply Array.ext';rw [<-hmod];simp
theorem Zom {P:Program} {T K E ty t2:TypeId} (hT:P.underlying T=some (.map K E)) (hK:P.underlying K=some (ZbU.desc α))
  {w:World} {m clock:Nat} {es:List (En α)} (hm:w.heap[m]? =some (.map (es.map mkE).toArray clock)) (k:α):
  (Builtin.delete_ #[T,t2] ty #[.map (some m),ZbU.enc k]).run P w=.ok (.tuple #[]) (w.setBlock m (.map ((Zm5 k es).map mkE).toArray clock)):=by
 have hck:=ZbU.check P (es.map mkE).toArray.isEmpty K k w hK;have hfk:=Ze3 hK k es w;have h0:(#[T,t2]:Array TypeId)[0]? =some T:=rfl;have h1:(#[Value.map (some m),ZbU.enc k]:Array Value)[0]? =some (.map (some m)):=rfl;have h2:(#[Value.map (some m),ZbU.enc k]:Array Value)[1]? =some (ZbU.enc k):=rfl;unfold Builtin.delete_;rw [h0,h1,h2];cases hi:Zh0 k es 0 with
 |none=>
  have hn:=(Zhx k es 0).1 hi;rw [hi] at hfk;simp only [Sem.run_bind,run_underlying hT,Result.andThen,MapKept.run_getObj_map hm,hck,hfk,MapKept.run_setObj_map _ hm,World.setBlock,ZkS k es hn,Sem.run_pure]
 |some p=>
  have her:=ZmW k es 0 p hi;obtain ⟨hlt,_⟩:=ZlP k es 0 p hi;rw [Nat.sub_zero] at her;rw [hi] at hfk;have e:(es.map mkE).toArray.eraseIdxIfInBounds p.1=((Zm5 k es).map mkE).toArray:=by
   apply Array.ext';rw [<-her];simp [Array.eraseIdxIfInBounds,show p.1<es.length by omega]
  simp only [Sem.run_bind,run_underlying hT,Result.andThen,MapKept.run_getObj_map hm,hck,hfk,MapKept.run_setObj_map _ hm,World.setBlock,e,Sem.run_pure]
end
section
variable {α:Type} [BEq α] [ZbU α]
def Zw {β:Type} (k:α):List (α × β)->Option β
 |[]=>none
 |e::es=>if k==e.1 then some e.2 else Zw k es
def Zwn {β:Type} (k:α) (v:β):List (α × β)->List (α × β)
 |[]=>[]
 |e::es=>if k==e.1 then (e.1,v)::es else e::Zwn k v es
def Zaa {β:Type} (k:α):List (α × β)->List (α × β)
 |[]=>[]
 |e::es=>if k==e.1 then es else e::Zaa k es
def ZsA {β:Type} (k:α) (v:β) (es:List (α × β)):List (α × β):=if (Zw k es).isSome then Zwn k v es else es++[(k,v)]
abbrev Zd7 (es:List (En α)):List (α × Value):=es.map λ e=>(e.1,e.2.1)
omit [ZbU α] in
theorem Zgc (k:α):∀ es:List (En α),Zrx k es=Zw k (Zd7 es)
 |[]=>rfl
 |e::es=>by rw [Zrx,Zd7,List.map_cons,Zw,Zgc k es]
omit [ZbU α] in
theorem ZiG (k:α) (es:List (En α)):ZlQ k es=(Zw k (Zd7 es)).isSome:=by unfold ZlQ;rw [Zgc]
omit [ZbU α] in
theorem Zil (k:α) (v:Value):∀ es:List (En α),Zd7 (ZqV k v es)=Zwn k v (Zd7 es)
 |[]=>rfl
 |e::es=>by
  have ih:=Zil k v es;unfold Zd7 at *;rw [List.map_cons,ZqV,Zwn];split
  ·simp
  ·simp [ih]
omit [ZbU α] in
theorem ZiP (k:α):∀ es:List (En α),Zd7 (Zm5 k es)=Zaa k (Zd7 es)
 |[]=>rfl
 |e::es=>by
  have ih:=ZiP k es;unfold Zd7 at *;rw [List.map_cons,Zm5,Zaa];split
  ·rfl
  ·simp [ih]
omit [ZbU α] in
theorem ZnL (k:α) (v:Value) (es:List (En α)) (c:Nat):Zd7 (Zr1 k v es c)=ZsA k v (Zd7 es):=by
 unfold Zr1 ZsA;rw [ZiG];split
 ·exact Zil k v es
 ·simp [Zd7]
def Zd1 (l:List (En α)) (c:Nat):Prop:=(∀ e∈l,e.2.2<c)/\(l.map (·.2.2)).Nodup
omit [ZbU α] in
theorem Ze2 (k:α) (v:Value):∀ l:List (En α),(ZqV k v l).map (·.2.2)=l.map (·.2.2)
 |[]=>rfl
 |e::es=>by
  rw [ZqV];split
  ·rfl
  ·rw [List.map_cons,List.map_cons,Ze2 k v es]
omit [ZbU α] in
theorem ZjG (k:α):∀ l:List (En α),(Zm5 k l).Sublist l
 |[]=>List.Sublist.refl _
 |e::es=>by
  rw [Zm5];split
  ·exact List.sublist_cons_self _ _
  ·exact (ZjG k es).cons_cons _
omit [ZbU α] in
theorem Zns {l:List (En α)} {c:Nat} (h:Zd1 l c) (k:α) (v:Value):Zd1 (Zr1 k v l c) (if ZlQ k l then c else c + 1):=by
 unfold Zr1;split
 ·refine ⟨λ e he=>?_,by rw [Ze2];exact h.2⟩
  have:e.2.2∈(ZqV k v l).map (·.2.2):=List.mem_map_of_mem he;rw [Ze2] at this;obtain ⟨x,hx,hxe⟩:=List.mem_map.1 this;rw [<-hxe];exact h.1 x hx
 ·refine ⟨λ e he=>?_,?_⟩
  ·rcases List.mem_append.1 he with he|he
   ·have:=h.1 e he;omega
   ·simp at he;subst he;simp
  ·rw [List.map_append,List.nodup_append]
   refine ⟨h.2,by simp,λ x hx y hy=>?_⟩;simp at hy;obtain ⟨e,he,rfl⟩:=List.mem_map.1 hx;have:=h.1 e he;omega
omit [ZbU α] in
theorem Znt {l:List (En α)} {c:Nat} (h:Zd1 l c) (k:α):Zd1 (Zm5 k l) c:=
 ⟨λ e he=>h.1 e ((ZjG k l).subset he),((ZjG k l).map _).nodup h.2⟩
def Zaj (m:Nat) (es:List (α × Value)):HP:=λ h=>∃ (l:List (En α)) (c:Nat),Zd7 l=es/\Zd1 l c/\h=ZS.one m (.map (l.map mkE).toArray c)
theorem Zaj.iff {R:Cx} {Hs:List HP} {w:World} {m:Nat} {es:List (α × Value)}:Sat R (Zaj m es::Hs) w↔∃ l c,Zd7 l=es/\Zd1 l c/\Sat R (pts m (.map (l.map (mkE (α:=α))).toArray c)::Hs) w:=by
 constructor
 ·rintro ⟨a,⟨l,c,h1,h3,h2⟩,hd,hs⟩;exact ⟨l,c,h1,h3,a,h2,hd,hs⟩
 ·rintro ⟨l,c,h1,h3,a,h2,hd,hs⟩;exact ⟨a,⟨l,c,h1,h3,h2⟩,hd,hs⟩
structure Zww (P:Program) (T:TypeId) (α:Type) [BEq α] [ZbU α] (K E:TypeId) (z:Value):Prop where
 hT:P.underlying T=some (.map K E)
 hK:P.underlying K=some (ZbU.desc α)
 hz:∀ w,(zeroValue E).run P w=.ok z w
variable {P:Program} {R:Cx} {Hs:List HP} {w:World} {m:Nat} {es:List (α × Value)} {T K E:TypeId} {z:Value}
theorem Zaj.look (M:Zww P T α K E z) (hw:Sat R (Zaj m es::Hs) w) (k:α) (c:Bool):
  (Instr.lookup T (.map (some m)) (ZbU.enc k) c).run P w=.ok (if c then .tuple #[(Zw k es).getD z,.bool (Zw k es).isSome] else (Zw k es).getD z) w:=by
 obtain ⟨l,clk,rfl,_,hp⟩:=Zaj.iff.1 hw;rw [Zn4 M.hT M.hK M.hz hp.at k c,Zgc,ZiG]
theorem Zaj.put (M:Zww P T α K E z) (hw:Sat R (Zaj m es::Hs) w) (k:α) (v:Value) {Q:World->Prop} (h:∀ w',Sat R (Zaj m (ZsA k v es)::Hs) w'->Q w'):
  ∃ w',(Instr.mapUpdate T (.map (some m)) (ZbU.enc k) v).run P w=.ok () w'/\Q w':=by
 obtain ⟨l,clk,rfl,hst,hp⟩:=Zaj.iff.1 hw;refine ⟨_,Znm M.hT M.hK hp.at k v,h _ (Zaj.iff.2 ⟨Zr1 k v l clk,_,ZnL k v l clk,Zns hst k v,hp.setPts _⟩)⟩
theorem Zaj.del {t2 ty:TypeId} (M:Zww P T α K E z) (hw:Sat R (Zaj m es::Hs) w) (k:α) {Q:World->Prop} (h:∀ w',Sat R (Zaj m (Zaa k es)::Hs) w'->Q w'):
  ∃ w',(Builtin.delete_ #[T,t2] ty #[.map (some m),ZbU.enc k]).run P w=.ok (.tuple #[]) w'/\Q w':=by
 obtain ⟨l,clk,rfl,hst,hp⟩:=Zaj.iff.1 hw;exact ⟨_,Zom M.hT M.hK hp.at k,h _ (Zaj.iff.2 ⟨Zm5 k l,_,ZiP k l,Znt hst k,hp.setPts _⟩)⟩
theorem Zaj.new {o:Obj} (ho:o=.map #[] 0) (hw:Sat R (pts m o::Hs) w):Sat R (Zaj (α:=α) m []::Hs) w:=by
 subst ho;exact Zaj.iff.2 ⟨[],0,rfl,⟨λ _ h=>(by cases h),List.nodup_nil⟩,hw⟩
section
variable {β:Type}
omit [ZbU α] in
theorem ZdX {k:α} {v:β}:∀ {a b:List (α × β)},Zw k a=none->(k==k)=true->Zw k (a++(k,v)::b)=some v
 |[],b,_,hk=>by simp [Zw,hk]
 |e::a,b,h,hk=>by
  rw [Zw] at h;split at h
  ·cases h
  ·rename_i hne
   rw [List.cons_append,Zw,if_neg hne];exact ZdX h hk
omit [ZbU α] in
theorem ZbM {k:α} {v:β}:∀ {a b:List (α × β)},Zw k a=none->(k==k)=true->Zaa k (a++(k,v)::b)=a++b
 |[],b,_,hk=>by simp [Zaa,hk]
 |e::a,b,h,hk=>by
  rw [Zw] at h;split at h
  ·cases h
  ·rename_i hne
   rw [List.cons_append,Zaa,if_neg hne,ZbM h hk];rfl
theorem ZI {k:α} {v:β}:∀ {l:List (α × β)},Zw k l=some v->∃ a b,l=a++(k,v)::b/\Zw k a=none
 |[],h=>by cases h
 |e::l,h=>by
  rw [Zw] at h;split at h
  ·rename_i hk
   cases h;have:=ZbU.eq _ _ hk;subst this;exact ⟨[],l,rfl,rfl⟩
  ·rename_i hne
   obtain ⟨a,b,rfl,ha⟩:=ZI h;exact ⟨e::a,b,rfl,by rw [Zw,if_neg hne];exact ha⟩
omit [ZbU α] in
theorem ZjA {γ:Type} (f:β->γ) (k:α):∀ l:List (α × β),Zw k (l.map λ e=>(e.1,f e.2))=(Zw k l).map f
 |[]=>rfl
 |e::l=>by
  rw [List.map_cons,Zw,Zw,ZjA f k l];split<;>rfl
end
end
section
variable {P:Program} {R:Cx} {Hs:List HP} {w:World} {s:Sl} {T:TypeId}
theorem Ro.idxK {kd:IntKind} {xs:List Int} {S:World->Prop} (hr:Ro R s (xs.map (Value.int kd))) (hS:∀ w,S w->Sat R Hs w) {k:Nat} (hk:k<xs.length) {F:Int->Prop} (h:F xs[k]):
  Rng (k:Int) s.len (Zb s.a λ a=>∃ t:Int,(At S (a.add (k:Int).toNat) [.int kd t])/\F t):=by
 obtain ⟨a,ha,hat⟩:=hr.addr (k:=k) (by simpa using hk);have hl:s.len=xs.length:=by have:=hr.len;simpa using this
 refine Rng.mk (by omega) (by omega) (Zb.mk ha ⟨xs[k],?_,h⟩);have:=hat hS;simpa using this
theorem Ro.idxStr {xs:List ByteArray} {S:World->Prop} (hr:Ro R s (xs.map Value.string)) (hS:∀ w,S w->Sat R Hs w) {k:Nat} (hk:k<xs.length) {F:ByteArray->Prop} (h:F xs[k]):
  Rng (k:Int) s.len (Zb s.a λ a=>∃ t:ByteArray,(At S (a.add (k:Int).toNat) [.string t])/\F t):=by
 obtain ⟨a,ha,hat⟩:=hr.addr (k:=k) (by simpa using hk);have hl:s.len=xs.length:=by have:=hr.len;simpa using this
 refine Rng.mk (by omega) (by omega) (Zb.mk ha ⟨xs[k],?_,h⟩);have:=hat hS;simpa using this
theorem Zi9 {t2 e':TypeId} (ht:P.underlying t2=some (.slice e')) {xs:List Value} (hw:Sat R Hs w) (hs:Ro R s xs) (h1:Zac xs=true):Src P 1 t2 (.slice s.a s.len s.cap) xs.length xs w:=by
 have hl:s.len=xs.length:=hs.len;by_cases hx:xs=[]
 ·subst hx
  obtain ⟨a,n,c⟩:=s;simp only [List.length_nil] at hl;subst hl;cases a with
  |none=>exact Go.Src.ofNil _ ht _
  |some a=>exact Go.Src.ofSlice w ht _ 0 _ [] rfl (λ j u hj=>by simp at hj) (λ u hu=>by cases hu)
 ·obtain ⟨b,off,l,T,fr,ha,hb,hel⟩:=hs.mem hx
  obtain ⟨a,n,c⟩:=s;simp only at ha hl;subst ha hl;refine Go.Src.ofSlice w ht _ _ _ _ (by simp) (λ j u hj=>?_) (λ u hu=>List.all_eq_true.1 h1 u hu);rw [Zf];have:=hw.of_ro hb;simp only [World.cell?,this,Option.isSome_none,Bool.false_eq_true,if_false];exact hel j u hj
def bytesL (s:ByteArray):List Int:=s.data.toList.map λ b=>(b.toNat:Int)
theorem Zbe (s:ByteArray):(bytesL s).length=s.size:=by simp [bytesL]
theorem Zh2 {a b:World} (h:a.heap=b.heap) (h2:{ a with heap:=b.heap }=b):a=b:=by rw [<-h2,<-h]
theorem ZgC (w:World) (e:TypeId) (s:ByteArray):
  Lib.bytesWorld w e s=w.drew.alloc (.cells (Lib.bytesCells w e s) e ((Lib.bytesCells w e s).size,(Lib.bytesCells w e s).size + 1)):=by
 have:(Lib.bytesWorld w e s).heap=(w.drew.alloc (.cells (Lib.bytesCells w e s) e ((Lib.bytesCells w e s).size,(Lib.bytesCells w e s).size + 1))).heap:=by
  apply Array.ext_getElem?;intro i;by_cases hi:i<w.heap.size
  ·rw [Lib.bytesWorld_at_old w e s i hi]
   simp [World.alloc,World.drew,-World.alloc_eq,-World.drew_eq,Array.getElem?_push,Nat.ne_of_lt hi]
  ·by_cases h2:i=w.heap.size
   ·subst h2
    rw [Lib.bytesWorld_at_new];simp [World.alloc,World.drew,-World.alloc_eq,-World.drew_eq]
   ·rw [Array.getElem?_eq_none (by rw [Lib.bytesWorld_size];omega),Array.getElem?_eq_none (by simp [World.alloc,World.drew,-World.alloc_eq,-World.drew_eq];omega)]
 exact Zh2 this rfl
theorem Zov {src dst:TypeId} {u:TypeDesc} (hs:P.underlying src=some u) (hd:P.underlying dst=some (.slice T)) (he:P.underlying T=some (.int .u8)) {b:ByteArray} {K:Sl->World->Prop}
  (hw:Sat R Hs w) (k:∀ t w',Sat R (Own t T ((bytesL b).map (Value.int .u8))::Hs) w'->K t w'):
  ∃ w',∃ t:Sl,(convert src dst (.string b)).run P w=.ok (.slice t.a t.len t.cap) w'/\K t w':=by
 refine ⟨_,⟨some ⟨w.heap.size,0,none⟩,b.size,grownCap w b.size 0 T⟩,Lib.run_convert_string_bytes w src dst T b hs hd he,k _ _ ?_⟩;rw [ZgC];have hc:Lib.bytesCells w T b=((bytesL b).map (Value.int .u8)++List.replicate (grownCap w b.size 0 T - b.size) (Value.int .u8 0)).toArray:=by
  apply Array.ext';simp [Lib.bytesCells,bytesL,Function.comp_def]
 have h1:=Sat.alloc (Obj.cells (Lib.bytesCells w T b) T ((Lib.bytesCells w T b).size,(Lib.bytesCells w T b).size + 1)) hw.drew;have hg:=grownCap_ge w b.size 0 T;rw [hc] at h1 ⊢;have h2:=Own.of_pts h1 (.inr (by simp));have e:(⟨some ⟨w.drew.heap.size,0,none⟩,((bytesL b).map (Value.int .u8)).length,((bytesL b).map (Value.int .u8)++List.replicate (grownCap w b.size 0 T - b.size) (Value.int .u8 0)).length⟩:Sl)=⟨some ⟨w.heap.size,0,none⟩,b.size,grownCap w b.size 0 T⟩:=by
  simp only [List.length_append,List.length_map,List.length_replicate,Zbe,World.size_drew]
  congr 1
  omega
 rw [e] at h2;exact h2
def strOf (xs:List Int):ByteArray:=⟨(xs.map λ n=>UInt8.ofNat n.toNat).toArray⟩
theorem ZgN {src dst:TypeId} (hs:P.underlying src=some (.slice T)) (he:P.underlying T=some (.int .u8)) (hd:P.underlying dst=some .string) {xs:List Int}
  (hw:Sat R Hs w) (hr:Ro R s (xs.map (Value.int .u8))):(convert src dst (.slice s.a s.len s.cap)).run P w=.ok (.string (strOf xs)) w:=by
 have hl:s.len=xs.length:=by have:=hr.len;simpa using this
 by_cases hx:xs=[]
 ·subst hx
  obtain ⟨a,n,c⟩:=s;simp only [List.length_nil] at hl;subst hl;cases a with
  |none=>exact run_convert_bytes_nil w src T hs he _ _ dst hd
  |some a=>
   rw [run_convert_bytes_string w src dst T _ _ _ hs he hd,run_bytesToString w a 0 c [] (by simpa using run_loadCells_list (P:=P) w a [] (λ j v hj=>by simp at hj))];rfl
 ·obtain ⟨b,off,l,T',fr,ha,hb,hel⟩:=hr.mem (by simpa using hx)
  obtain ⟨a,n,c⟩:=s;simp only at ha hl;subst ha hl;refine (run_convert_bytes_arg w src T hs he b off _ c xs rfl (λ i hi=>?_) dst hd).trans rfl;have:=hw.of_ro hb;simp only [World.cell?,this,Option.isSome_none,Bool.false_eq_true,if_false];refine hel i _ ?_;simp [hi,List.getD]
theorem Zek (b:ByteArray):strOf (bytesL b)=b:=by
 unfold strOf bytesL;rw [List.map_map];have:(List.map ((λ n:Int=>UInt8.ofNat n.toNat) ∘ λ b:UInt8=>(b.toNat:Int)) b.data.toList)=b.data.toList:=by
  conv=>rhs;rw [<-List.map_id b.data.toList]
  apply List.map_congr_left;intro x _;simp
 rw [this]
theorem Zgz {xs:List Int} (h:∀ n∈xs,0<=n/\n<256):bytesL (strOf xs)=xs:=by
 unfold strOf bytesL;simp only [List.map_map]
 conv=>rhs;rw [<-List.map_id xs]
 apply List.map_congr_left;intro x hx;have:=h x hx;simp;omega
end
section
open Go Go.RowKit
structure Zmi (w w':World):Prop where
 os:w'.os=w.os
 tape:w'.tape=w.tape
 output:w'.output=w.output
 block:∀ k,k<w.heap.size->w'.heap[k]? =w.heap[k]?
theorem Zmi.of_below {w w':World} (h:Below w.heap.size w w'):Zmi w w':=⟨h.os,h.tape,h.output,h.block⟩
theorem Sat.keeps:∀ {Hs:List HP} {R:Cx} {w w':World},Sat R Hs w->Zmi w w'->Sat R Hs w'
 |[],_,w,_,h,e=>⟨λ b o hb=>by
   have:=h.1 b o hb;rw [e.block b (Array.getElem?_eq_some_iff.1 this).1];exact this,e.os.trans h.2.1,e.tape.trans h.2.2.1,e.output.trans h.2.2.2⟩
 |_::_,_,_,_,h,e=>let ⟨h',hH,hd,hs⟩:=h;⟨h',hH,hd,hs.keeps e⟩
theorem Sat.grewTo:∀ {Hs:List HP} {R:Cx} {w w':World} {b:Nat} {o:Obj},Sat R Hs w->Zmi w w'->w.heap.size<=b->w'.heap[b]? =some o->Sat (R.add (ZS.one b o)) Hs w'
 |[],R,w,w',b,o,h,e,hb,ho=>by
  refine ⟨λ i x hx=>?_,e.os.trans h.2.1,e.tape.trans h.2.2.1,e.output.trans h.2.2.2⟩;simp only [Cx.m_add,ZS.add,ZS.one] at hx;cases hr:R.m i with
  |some y=>
   rw [hr] at hx;have:=h.1 i y hr;rw [e.block i (Array.getElem?_eq_some_iff.1 this).1,this];exact hx
  |none=>
   rw [hr] at hx;simp only at hx;split at hx
   ·rename_i hi;subst hi;rw [ho];exact hx
   ·cases hx
 |H::Hs,R,w,w',b,o,h,e,hb,ho=>by
  have hR:R.m b=.none:=Sat.ro_lt h hb;obtain ⟨a,hA,hd,hs⟩:=h;have hadd:(R.add a).m b=.none:=Sat.ro_lt hs hb;have ha:a b=.none:=by simpa [Cx.m_add,ZS.add,hR] using hadd
  have:=Sat.grewTo hs e hb ho;have hdis:(ZS.one b o).dis a:=by
   intro i hi;simp only [ZS.one];split
   ·rename_i h;subst h;exact absurd ha hi
   ·rfl
  refine ⟨a,hA,Cx.add_dis hd hdis,?_⟩;rw [Cx.add_assoc,ZS.add_comm hdis,<-Cx.add_assoc];exact this
theorem Sat.fresh {R:Cx} {Hs:List HP} {w w':World} {b:Nat} {o:Obj} (h:Sat R Hs w) (e:Zmi w w') (hb:w.heap.size<=b) (ho:w'.heap[b]? =some o):Sat R (pts b o::Hs) w':=
 Sat.lend.2 ⟨Sat.ro_lt h hb,Sat.grewTo h e hb ho⟩
theorem Sat.ownsRow {R:Cx} {Hs:List HP} {w w':World} {T:TypeId} {v:Value} {n:Nat} {xs:List Value} (h:Sat R Hs w) (e:Below w.heap.size w w') (hr:w'.ownsRow w.heap.size T 1 v n xs):
  ∃ s:Sl,v=.slice s.a s.len s.cap/\Sat R (Own s T xs::Hs) w':=by
 obtain ⟨hl,h1|⟨g,cap,cur,rfl,hg,hb,hn,hc,hcs,ht⟩⟩:=hr
 ·obtain ⟨rfl,rfl⟩:=h1
  have:xs=[]:=by simpa using hl
  subst this;exact ⟨⟨none,0,0⟩,rfl,Own.nil (h.keeps (.of_below e))⟩
 ·rw [Nat.mul_one] at *
  have h2:=h.fresh (.of_below e) hg hb;have e1:cur=(xs++cur.toList.drop n).toArray:=by
   apply Array.ext';rw [<-ht];simp
  rw [e1] at h2;have h3:=Own.of_pts h2;refine ⟨_,?_,h3⟩;have:(xs++cur.toList.drop n).length=cap:=by
   have e2:cur.toList.length=cap:=by rw [Array.length_toList];exact hcs
   rw [List.length_append,List.length_drop,e2,hl];omega
  simp only [this,hl]
end
section
open Go Go.RowKit
variable {P:Program} {R:Cx} {Hs Rest:List HP} {w:World} {s:Sl} {T:TypeId} {n:Nat}
def Wid (n:Nat) (rows:List (List Value)):Prop:=∀ x∈rows,x.length=n
theorem Wid.nil {n:Nat}:Wid n []:=λ _ h=>by cases h
theorem Wid.app {n:Nat} {a b:List (List Value)} (ha:Wid n a) (hb:Wid n b):Wid n (a++b):=λ x hx=>(List.mem_append.1 hx).elim (ha x) (hb x)
theorem Wid.one {n:Nat} {x:List Value} (h:x.length=n):Wid n [x]:=λ y hy=>by simp at hy;rw [hy];exact h
theorem Wid.len {n:Nat}:∀ {rows:List (List Value)},Wid n rows->rows.flatten.length=rows.length * n
 |[],_=>by simp
 |x::rows,h=>by
  rw [List.flatten_cons,List.length_append,h x List.mem_cons_self,Wid.len (rows:=rows) (λ y hy=>h y (List.mem_cons_of_mem _ hy)),List.length_cons,Nat.add_mul];omega
theorem Wid.drop_flat {n:Nat}:∀ {rows:List (List Value)} (k:Nat),Wid n rows->rows.flatten.drop (k * n)=(rows.drop k).flatten
 |rows,0,_=>by simp
 |[],k + 1,_=>by simp
 |x::rows,k + 1,h=>by
  have hx:=h x List.mem_cons_self;rw [List.flatten_cons,List.drop_succ_cons,<-Wid.drop_flat (rows:=rows) k (λ y hy=>h y (List.mem_cons_of_mem _ hy)),List.drop_append];have e1:x.drop ((k + 1) * n)=[]:=List.drop_eq_nil_of_le (by rw [hx,Nat.add_mul];omega);have e2:(k + 1) * n - x.length=k * n:=by rw [hx,Nat.add_mul];omega
  rw [e1,e2,List.nil_append]
theorem Wid.take_flat {n:Nat} {rows:List (List Value)} (k:Nat) (h:Wid n rows):rows.flatten.take (k * n)=(rows.take k).flatten:=by
 by_cases hk:k<=rows.length
 ·have e:rows.flatten=(rows.take k).flatten++(rows.drop k).flatten:=by rw [<-List.flatten_append,List.take_append_drop]
  rw [e,List.take_left'];rw [Wid.len (λ x hx=>h x (List.mem_of_mem_take hx)),List.length_take,Nat.min_eq_left hk]
 ·rw [List.take_of_length_le (by rw [h.len];exact Nat.mul_le_mul_right _ (by omega)),List.take_of_length_le (by omega)]
theorem Wid.take {n k:Nat} {rows:List (List Value)} (h:Wid n rows):Wid n (rows.take k):=λ x hx=>h x (List.mem_of_mem_take hx)
theorem Wid.drop {n k:Nat} {rows:List (List Value)} (h:Wid n rows):Wid n (rows.drop k):=λ x hx=>h x (List.mem_of_mem_drop hx)
theorem Wid.set {n k:Nat} {rows:List (List Value)} {x:List Value} (h:Wid n rows) (hx:x.length=n):Wid n (rows.set k x):=λ y hy=>by
 rcases List.mem_or_eq_of_mem_set hy with hy|rfl
 ·exact h y hy
 ·exact hx
theorem Pre.app:∀ {vs a:List Value} (b:List Value),Pre vs a->Pre vs (a++b)
 |[],_,_,_=>trivial
 |_::_,_::_,b,h=>⟨h.1,Pre.app b h.2⟩
 |_::_,[],_,h=>h.elim
theorem Pre.len:∀ {vs a:List Value},Pre vs a->vs.length<=a.length
 |[],_,_=>Nat.zero_le _
 |_::_,_::_,h=>by simp only [List.length_cons];exact Nat.succ_le_succ (Pre.len h.2)
 |_::_,[],h=>h.elim
theorem Wid.pre {n k j:Nat} {rows:List (List Value)} (rest:List Value) (h:Wid n rows) (hk:k<rows.length) {vs:List Value} (hp:Pre vs (rows[k].drop j)):Pre vs ((rows.flatten++rest).drop (k * n + j)):=by
 cases vs with
 |nil=>trivial
 |cons v vs=>
  have hj:j<rows[k].length:=by
   have:=Pre.len hp;simp only [List.length_cons,List.length_drop] at this;omega
  have hx:rows[k].length=n:=h _ (List.getElem_mem _);have hle:k * n + j<=rows.flatten.length:=by
   rw [h.len];have:(k + 1) * n<=rows.length * n:=Nat.mul_le_mul_right _ (by omega);rw [Nat.add_mul] at this;omega
  rw [List.drop_append_of_le_length hle,Nat.add_comm (k * n) j,<-List.drop_drop];rw [Nat.add_comm] at hle;rw [List.drop_drop,Nat.add_comm j,<-List.drop_drop,h.drop_flat,List.drop_eq_getElem_cons hk,List.flatten_cons,List.drop_append_of_le_length (by omega),List.append_assoc];exact hp.app _
theorem Zmy {n:Nat}:∀ {rows:List (List Value)} {k j:Nat} (v:Value),Wid n rows->(hk:k<rows.length)->j<n->rows.flatten.set (k * n + j) v=(rows.set k (rows[k].set j v)).flatten
 |[],k,j,v,_,hk,_=>by simp at hk
 |x::rows,0,j,v,h,_,hj=>by
  have hx:=h x List.mem_cons_self;simp only [Nat.zero_mul,Nat.zero_add,List.flatten_cons,List.getElem_cons_zero,List.set_cons_zero];rw [List.set_append_left _ _ (by omega)]
 |x::rows,k + 1,j,v,h,hk,hj=>by
  have hx:=h x List.mem_cons_self;have hk':k<rows.length:=by simpa using hk
  simp only [List.flatten_cons,List.getElem_cons_succ,List.set_cons_succ];rw [List.set_append_right _ _ (by rw [hx,Nat.add_mul];omega)];have e:(k + 1) * n + j - x.length=k * n + j:=by rw [hx,Nat.add_mul];omega
  rw [e,Zmy v (λ y hy=>h y (List.mem_cons_of_mem _ hy)) hk' hj]
theorem Zkn {n:Nat} {rest:List Value}:∀ (vs:List Value) {rows:List (List Value)} {k j:Nat},Wid n rows->(hk:k<rows.length)->j + vs.length<=n->
  Ze5 (rows.flatten++rest) (k * n + j) vs=(rows.set k (Ze5 rows[k] j vs)).flatten++rest
 |[],rows,k,j,_,hk,_=>by simp [Ze5]
 |v::vs,rows,k,j,h,hk,hj=>by
  simp only [List.length_cons] at hj;have hb:k * n + j<rows.flatten.length:=by
   rw [h.len];have:(k + 1) * n<=rows.length * n:=Nat.mul_le_mul_right _ (by omega);rw [Nat.add_mul] at this;omega
  rw [Ze5,List.set_append_left _ _ hb,Zmy v h hk (by omega),Nat.add_assoc,Zkn vs (h.set (by rw [List.length_set];exact h _ (List.getElem_mem _))) (by simpa using hk) (by omega)];simp [Ze5]
def ZM (n:Nat) (s:Sl) (T:TypeId) (rows:List (List Value)):HP:=λ h=>
 Wid n rows/\((s=⟨none,0,0⟩/\rows=[]/\h=ZS.none)\/
  ∃ b rest fr cap,s=⟨some ⟨b,0,none⟩,rows.length,cap⟩/\(rows.flatten++rest).length=cap * n/\ZoG (cap * n) fr/\h=ZS.one b (.cells (rows.flatten++rest).toArray T fr))
theorem ZM.nil (h:Sat R Hs w):Sat R (ZM n ⟨none,0,0⟩ T []::Hs) w:=
 ⟨ZS.none,⟨Wid.nil,.inl ⟨rfl,rfl,rfl⟩⟩,λ i hi=>absurd rfl hi,by rw [Cx.add_none];exact h⟩
theorem ZM.of_pts {b cap:Nat} {fr:Nat × Nat} {rows:List (List Value)} {rest:List Value} (hwid:Wid n rows) (hl:(rows.flatten++rest).length=cap * n) (h:Sat R (pts b (.cells (rows.flatten++rest).toArray T fr)::Hs) w)
  (hf:ZoG (cap * n) fr:=by first|assumption|exact Or.inl rfl):Sat R (ZM n ⟨some ⟨b,0,none⟩,rows.length,cap⟩ T rows::Hs) w:=
 let ⟨a,ha,hd,hs⟩:=h;⟨a,⟨hwid,.inr ⟨b,rest,fr,cap,rfl,hl,hf,ha⟩⟩,hd,hs⟩
theorem ZM.cases {rows:List (List Value)} (h:Sat R (ZM n s T rows::Hs) w):Wid n rows/\
  ((s=⟨none,0,0⟩/\rows=[]/\Sat R Hs w)\/∃ b rest fr cap,s=⟨some ⟨b,0,none⟩,rows.length,cap⟩/\(rows.flatten++rest).length=cap * n/\ZoG (cap * n) fr/\Sat R (pts b (.cells (rows.flatten++rest).toArray T fr)::Hs) w):=by
 obtain ⟨a,⟨hwid,ha⟩,hd,hs⟩:=h;refine ⟨hwid,?_⟩;rcases ha with ⟨h1,h2,rfl⟩|⟨b,rest,fr,cap,h1,h3,hf,rfl⟩
 ·rw [Cx.add_none] at hs;exact .inl ⟨h1,h2,hs⟩
 ·exact .inr ⟨b,rest,fr,cap,h1,h3,hf,_,rfl,hd,hs⟩
theorem ZM.wid {rows:List (List Value)} (h:Sat R (ZM n s T rows::Hs) w):Wid n rows:=(ZM.cases h).1
theorem ZM.len {rows:List (List Value)} (h:Sat R (ZM n s T rows::Hs) w):s.len=rows.length:=by
 rcases (ZM.cases h).2 with ⟨rfl,rfl,_⟩|⟨b,rest,fr,cap,rfl,_,_⟩<;>rfl
theorem ZM.cap {rows:List (List Value)} (hn:0<n) (h:Sat R (ZM n s T rows::Hs) w):s.len<=s.cap:=by
 have hwid:=(ZM.cases h).1;rcases (ZM.cases h).2 with ⟨rfl,rfl,_⟩|⟨b,rest,fr,cap,rfl,hl,_⟩
 ·exact Nat.le_refl _
 ·rw [List.length_append,hwid.len] at hl
  simp only;have:rows.length * n<=cap * n:=by omega
  exact Nat.le_of_mul_le_mul_right this hn
def ReadsN (n:Nat) (s:Sl) (rows:List (List Value)) (S:World->Prop):Prop:=
 s.len=rows.length/\∀ k (hk:k<rows.length),∃ b off,s.a=some ⟨b,off,none⟩/\∀ j vs,Pre vs (rows[k].drop j)->At S ⟨b,off + (k * n + j),none⟩ vs
theorem ZM.reads {rows:List (List Value)} (hw:Sat R (ZM n s T rows::Hs) w) {S:World->Prop} {Hs'} (hS:∀ w,S w->Sat R (ZM n s T rows::Hs') w):ReadsN n s rows S:=by
 refine ⟨ZM.len hw,λ k hk=>?_⟩;obtain ⟨hwid,⟨_,rfl,_⟩|⟨b,rest,fr,cap,rfl,hl,_,_⟩⟩:=ZM.cases hw
 ·simp at hk
 ·refine ⟨b,0,rfl,λ j vs hp w hw i v hv=>?_⟩
  obtain ⟨_,⟨h0,_,_⟩|⟨b',rest',fr',cap',he,_,_,h⟩⟩:=ZM.cases (hS w hw)
  ·cases h0
  ·simp only [Sl.mk.injEq,Option.some.injEq,Addr.mk.injEq,and_true] at he
   obtain ⟨rfl,_⟩:=he;have:=(Wid.pre rest' hwid hk hp).get i v hv;rw [List.getElem?_drop] at this;rw [Zf,Nat.zero_add,Zdf h.at,this]
theorem ReadsN.rng {S:World->Prop} {rows:List (List Value)} (h:ReadsN n s rows S) {k:Nat} (hk:k<rows.length) {F:Addr->Prop} (f:∀ b off,s.a=some ⟨b,off,none⟩->(∀ j vs,Pre vs (rows[k].drop j)->At S ⟨b,off + (k * n + j),none⟩ vs)->F ⟨b,off,none⟩):
  Rng (k:Int) s.len (Zb s.a F):=by
 obtain ⟨b,off,ha,hat⟩:=h.2 k hk;have:=h.1;exact Rng.mk (by omega) (by omega) (Zb.mk ha (f b off ha hat))
theorem Zm0 (b off k n j:Nat):(⟨(Addr.add ⟨b,off,none⟩ (Zah k n)).block,(Addr.add ⟨b,off,none⟩ (Zah k n)).off + j,none⟩:Addr)=⟨b,off + (k * n + j),none⟩:=by
 rw [Zf,Zf8];simp only [Addr.mk.injEq,and_true,true_and];omega
theorem ZkO (b off k n:Nat):Addr.add ⟨b,off,none⟩ (Zah k n)=⟨b,off + (k * n + 0),none⟩:=by
 rw [Zf,Zf8];rfl
theorem ZM.store {rows:List (List Value)} {t:TypeId} {v:Value} {k j:Nat} {b off:Nat} {K:World->Prop} (hw:Sat R (ZM n s T rows::Hs) w) (ha:s.a=some ⟨b,off,none⟩) (hsz:(P.info? t).map (·.size)=some v.cells.toList.length) (h1:Zac v.cells.toList=true)
  (hk:k<rows.length) (hj:j + v.cells.toList.length<=n) (h:∀ w',Sat R (ZM n s T (rows.set k (Ze5 rows[k] j v.cells.toList))::Hs) w'->K w'):
  ∃ w',(Instr.storeAt t (.pointer (some ⟨b,off + (k * n + j),none⟩)) v).run P w=.ok () w'/\K w':=by
 obtain ⟨hwid,⟨rfl,_,_⟩|⟨b',rest,fr,cap,rfl,hl,hf,hp⟩⟩:=ZM.cases hw
 ·cases ha
 ·simp only [Option.some.injEq,Addr.mk.injEq,and_true] at ha
  obtain ⟨rfl,rfl⟩:=ha;have hlt:(k + 1) * n<=rows.length * n:=Nat.mul_le_mul_right _ (by omega);rw [Nat.add_mul] at hlt;have hll:=hl;rw [List.length_append,hwid.len] at hll;rw [Nat.zero_add];refine Zc hp hsz h1 (by rw [List.length_append,hwid.len];omega) (λ w' h2=>h w' ?_) (by rw [hl];exact hf);rw [Zkn _ hwid hk hj] at h2;have hl2:(Ze5 rows[k] j v.cells.toList).length=n:=by rw [Zn];exact hwid _ (List.getElem_mem _)
  have:=ZM.of_pts (cap:=cap) (hwid.set hl2) (by rw [<-hl,List.length_append,List.length_append,(hwid.set hl2).len,List.length_set,hwid.len]) h2;rw [List.length_set] at this;exact this
structure RoN (n:Nat) (R:Cx) (s:Sl) (rows:List (List Value)):Prop where
 wid:Wid n rows
 len:s.len=rows.length
 mem:rows≠[]->∃ b off l T fr,s.a=some ⟨b,off,none⟩/\R.m b=some (.cells l T fr)/\∀ (i:Nat) v,rows.flatten[i]? =some v->l[off + i]? =some v
theorem RoN.reads {rows:List (List Value)} (hr:RoN n R s rows) {S:World->Prop} {Hs'} (hS:∀ w,S w->Sat R Hs' w):ReadsN n s rows S:=by
 refine ⟨hr.len,λ k hk=>?_⟩;obtain ⟨b,off,l,T,fr,ha,hb,hl⟩:=hr.mem (λ h=>by rw [h] at hk;simp at hk);refine ⟨b,off,ha,λ j vs hp w hw i v hv=>?_⟩;have h1:=(Wid.pre [] hr.wid hk hp).get i v hv;rw [List.append_nil,List.getElem?_drop] at h1;have:=(hS w hw).of_ro hb;rw [Zf];simp only [World.cell?,this,Option.isSome_none,Bool.false_eq_true,if_false];rw [Nat.add_assoc];exact hl _ _ h1
theorem ZM.lend {rows:List (List Value)} (h:Sat R (ZM n s T rows::Hs) w):
  ∃ R':Cx,RoN n R' s rows/\(∃ x,R'=R.add x)/\Sat R' Hs w/\∀ {Hs' w'},Sat R' Hs' w'->Sat R (ZM n s T rows::Hs') w':=by
 obtain ⟨hwid,⟨rfl,rfl,h2⟩|⟨b,rest,fr,cap,rfl,hl,hf,h2⟩⟩:=ZM.cases h
 ·exact ⟨R,⟨hwid,rfl,λ h=>absurd rfl h⟩,⟨ZS.none,(Cx.add_none R).symm⟩,h2,λ h=>ZM.nil h⟩
 ·obtain ⟨hn,h3⟩:=Sat.lend.1 h2
  refine ⟨_,⟨hwid,rfl,λ _=>⟨b,0,_,T,fr,rfl,Cx.lent hn,λ i v hv=>?_⟩⟩,⟨_,rfl⟩,h3,λ h=>ZM.of_pts hwid hl (Sat.lend.2 ⟨hn,h⟩)⟩;obtain ⟨hi,rfl⟩:=List.getElem?_eq_some_iff.1 hv;simp [List.getElem?_append_left hi]
theorem RoN.sub {rows:List (List Value)} (hr:RoN n R s rows) {l h m:Nat} (hlh:l<=h) (hh:h<=rows.length) (hm:m=l->h=l):RoN n R ⟨ZcW s.a l m n,h - l,m - l⟩ ((rows.take h).drop l):=by
 have hwid:Wid n ((rows.take h).drop l):=hr.wid.take.drop;refine ⟨hwid,by simp;omega,λ hne=>?_⟩;have hlt:l<h:=by
  have:0<((rows.take h).drop l).length:=List.length_pos_iff.2 hne;simp at this;omega
 obtain ⟨b,off,ls,T,fr,ha,hb,hl⟩:=hr.mem (λ h0=>by rw [h0] at hh;simp at hh;omega);refine ⟨b,off + l * n,ls,T,fr,?_,hb,λ i v hv=>?_⟩
 ·unfold ZcW
  rw [if_neg (λ e=>by have:=hm e;omega),ha];simp [Zf]
 ·rw [Nat.add_assoc]
  refine hl _ _ ?_;have e1:((rows.take h).drop l).flatten=(rows.flatten.take (h * n)).drop (l * n):=by
   rw [hr.wid.take_flat,hr.wid.take.drop_flat]
  rw [e1,List.getElem?_drop] at hv;rw [List.getElem?_take] at hv;split at hv
  ·exact hv
  ·cases hv
theorem RoN.take {rows:List (List Value)} (hr:RoN n R s rows) {h:Nat} (hh:h<=rows.length) (c:Nat):RoN n R ⟨s.a,h,c⟩ (rows.take h):=
 ⟨hr.wid.take,by simp;omega,λ hne=>by
  obtain ⟨b,off,ls,T,fr,ha,hb,hl⟩:=hr.mem (λ h0=>hne (by rw [h0];simp));refine ⟨b,off,ls,T,fr,ha,hb,λ i v hv=>hl _ _ ?_⟩;rw [<-hr.wid.take_flat,List.getElem?_take] at hv;split at hv
  ·exact hv
  ·cases hv⟩
def Zxn (P:Program) (T:TypeId) (n bytes:Nat):Bool:=
 match P.info? T with
 |some i=>match i.zero with
  |some z=>i.size==n && i.bytes==bytes && z.cells.size==n
  |none=>false
 |none=>false
structure ElN (P:Program) (t1 t2 T:TypeId) (n bytes:Nat):Prop where
 ht:P.underlying t1=some (.slice T)
 hk:∃ e',P.underlying t2=some (.slice e')
 hi:Zxn P T n bytes=true
theorem Zrz {P:Program} {T:TypeId} {n bytes:Nat} (h:Zxn P T n bytes=true):∃ i z,P.info? T=some i/\i.zero=some z/\i.size=n/\i.bytes=bytes/\z.cells.size=n:=by
 unfold Zxn at h;split at h
 ·rename_i i hi
  split at h
  ·rename_i z hz
   simp only [Bool.and_eq_true,beq_iff_eq] at h;exact ⟨i,z,hi,hz,h.1.1,h.1.2,h.2⟩
  ·cases h
 ·cases h
theorem Zcl {t1 t2 ty:TypeId} {bytes:Nat} (E:ElN P t1 t2 T n bytes) {rows ys:List (List Value)} {src:Value} {K:Sl->World->Prop}
  (hw:Sat R (ZM n s T rows::Hs) w) (hs:Src P n t2 src ys.length ys.flatten w) (hy:Wid n ys) (hb:2 * (rows.length + ys.length) * bytes<=281474976710656) (hb':rows.length + ys.length<=9223372036854775807)
  (k:∀ s' w',Sat R (ZM n s' T (rows++ys)::Hs) w'->K s' w'):
  ∃ w',∃ t:Sl,(Builtin.append_ #[t1,t2] ty #[.slice s.a s.len s.cap,src]).run P w=.ok (.slice t.a t.len t.cap) w'/\K t w':=by
 obtain ⟨i,z,hi,hz,hsize,hbytes,hzc⟩:=Zrz E.hi;have hs':Src P i.size t2 src ys.length ys.flatten w:=by rw [hsize];exact hs
 have hlen:=ZM.len hw;have hwid:=ZM.wid hw;have hwid2:=hwid.app hy;generalize hcn:ys.length=c at *;have fit:∀ cap,cap<rows.length + c->Builtin.nextslicecap (rows.length + c) cap * i.bytes<=281474976710656:=λ cap hc=>by
  have h2:Builtin.nextslicecap (rows.length + c) cap<=2 * (rows.length + c):=by
   unfold Builtin.nextslicecap;split
   ·omega
   ·split
    ·omega
    ·have:=nextslicecap_le_wide hc
     unfold Builtin.nextslicecap at this;rw [if_neg (by assumption),if_neg (by assumption)] at this;omega
  rw [hbytes];exact Nat.le_trans (Nat.mul_le_mul_right _ h2) hb
 -- a new row
 have grow:∀ (base:Option Addr) (cap:Nat),cap<rows.length + c->(Builtin.firstCells i.size rows.length (.slice base rows.length cap)).run P w.drew=.ok rows.flatten.toArray w.drew->Sat R Hs w->
   ∃ w',∃ t:Sl,(Builtin.append_ #[t1,t2] ty #[.slice base rows.length cap,src]).run P w=.ok (.slice t.a t.len t.cap) w'/\K t w':=λ base cap hc hold hw=>by
  have hr:=run_append_grow_src w t1 t2 ty T i z E.ht hi hz base rows.length cap rows.flatten hold src c ys.flatten hs' hc (by omega) (fit cap hc);refine ⟨_,⟨some ⟨w.heap.size,0,none⟩,rows.length + c,grownCap w (rows.length + c) cap T⟩,hr,k _ _ ?_⟩;have hz0:(Builtin.zeroCells z.cells (grownCap w (rows.length + c) cap T - (rows.length + c))).size=(grownCap w (rows.length + c) cap T - (rows.length + c)) * n:=by
   simp [Builtin.zeroCells,hzc]
  have hg:=grownCap_ge w (rows.length + c) cap T;generalize hG:grownCap w (rows.length + c) cap T=G at *;have ho':Obj.cells ((rows.flatten++ys.flatten).toArray++Builtin.zeroCells z.cells (G - (rows.length + c))) T=.cells ((rows++ys).flatten++(Builtin.zeroCells z.cells (G - (rows.length + c))).toList).toArray T (0,0):=by
   congr 1
   apply Array.ext';simp
  have:=Sat.alloc (Obj.cells ((rows.flatten++ys.flatten).toArray++Builtin.zeroCells z.cells (G - (rows.length + c))) T) (Sat.drew hw);rw [ho'] at this ⊢;have hlenG:((rows++ys).flatten++(Builtin.zeroCells z.cells (G - (rows.length + c))).toList).length=G * n:=by
   have hz1:(Builtin.zeroCells z.cells (G - (rows.length + c))).toList.length=(G - (rows.length + c)) * n:=by rw [Array.length_toList];exact hz0
   rw [List.length_append,hz1,hwid2.len,List.length_append,hcn,<-Nat.add_mul]
   congr 1;omega
  have h3:=ZM.of_pts (cap:=G) hwid2 hlenG this;have e:(⟨some ⟨w.drew.heap.size,0,none⟩,(rows++ys).length,G⟩:Sl)=⟨some ⟨w.heap.size,0,none⟩,rows.length + c,G⟩:=by
   simp only [List.length_append,World.size_drew,hcn]
  rw [e] at h3;exact h3
 obtain ⟨_,⟨rfl,rfl,hz2⟩|⟨b,rest,fr,cap,rfl,hl,hfr,hp⟩⟩:=ZM.cases hw
 ·by_cases hn0:c=0
  ·subst hn0
   have hy0:ys=[]:=List.length_eq_zero_iff.1 hcn;subst hy0;obtain ⟨e',he'⟩:=E.hk;refine ⟨w,⟨none,0,0⟩,?_,k _ _ (by simpa using ZM.nil hz2)⟩;have hcz:=hs'.cells;simp [Builtin.append_,run_underlying E.ht,run_underlying he',sizeOf,typeInfo,hi,hs'.len,hcz]
  ·exact grow none 0 (by simp;omega) (run_firstCells_none w.drew i.size 0 0 0) hz2
 ·have hl0:=hl
  rw [List.length_append,hwid.len] at hl;by_cases hroom:rows.length + c<=cap
  ·have hat:=hp.at
   have hcapn:(rows.length + c) * n<=cap * n:=Nat.mul_le_mul_right _ hroom;rw [Nat.add_mul] at hcapn;have hyl:ys.flatten.length=c * n:=by rw [hy.len,hcn]
   have hr:=run_append_room_src w t1 t2 ty T i E.ht hi b 0 rows.length cap src c ys.flatten hs' hroom
    (λ j hj=>by
     rw [Zdf hat,hsize,List.getElem?_eq_getElem (by rw [hl0];omega)];rfl) (λ j hj=>ZhA hat hfr (by rw [hsize];omega))
   refine ⟨_,⟨some ⟨b,0,none⟩,rows.length + c,cap⟩,hr,k _ _ ?_⟩;have h2:=ZcZ ys.flatten (rows.flatten++rest) (rows.length * n) w hp;have e1:Ze5 (rows.flatten++rest) (rows.length * n) ys.flatten=(rows++ys).flatten++rest.drop (c * n):=by
    rw [Zhg _ _ _ (by rw [hyl,hl0];omega),List.take_left' hwid.len,hyl,<-List.drop_drop,List.drop_left' hwid.len];simp
   rw [e1] at h2;rw [hsize,Nat.zero_add];have h3:=ZM.of_pts (cap:=cap) hwid2 (by rw [List.length_append,hwid2.len,List.length_append,hcn,List.length_drop,Nat.add_mul];omega) h2;rw [List.length_append,hcn] at h3;exact h3
  ·have hat:=hp.at
   refine grow (some ⟨b,0,none⟩) cap (by omega) ?_ hp.drop;refine run_firstCells_some w.drew i.size rows.length ⟨b,0,none⟩ rows.length _ rows.flatten (by rw [hsize,hwid.len]) ?_;intro j u hj;rw [World.cell?_drew,Zf,Zdf hat,Nat.zero_add];obtain ⟨hlt,rfl⟩:=List.getElem?_eq_some_iff.1 hj;simp [List.getElem?_append_left hlt]
theorem Znd {t2:TypeId} (hk:∃ e',P.underlying t2=some (.slice e')) {b:Nat} {x:List Value} {fr:Nat × Nat} (c:Nat)
  (hw:Sat R Hs w) [t:Zcy b Hs (.cells x.toArray T fr) Rest] (hx:x.length=n) (h1:Zac x=true):Src P n t2 (.slice (some ⟨b,0,none⟩) 1 c) [x].length [x].flatten w:=by
 obtain ⟨e',he'⟩:=hk;refine Go.Src.ofSlice w he' _ 1 c _ (by simp [hx]) ?_ ?_
 ·intro j u hj
  have:=hw.look b;rw [Zf,Zdf this];simpa using hj
 ·intro u hu;simp at hu;exact List.all_eq_true.1 h1 u hu
theorem Zg0 {t2:TypeId} (ht:∃ e',P.underlying t2=some (.slice e')) {rows:List (List Value)} (hw:Sat R Hs w) (hs:RoN n R s rows) (h1:Zac rows.flatten=true):Src P n t2 (.slice s.a s.len s.cap) rows.length rows.flatten w:=by
 obtain ⟨e',ht⟩:=ht;have hl:s.len=rows.length:=hs.len;by_cases hx:rows=[]
 ·subst hx
  obtain ⟨a,n,c⟩:=s;simp only [List.length_nil] at hl;subst hl;cases a with
  |none=>exact Go.Src.ofNil _ ht _
  |some a=>exact Go.Src.ofSlice w ht _ 0 _ [] (by simp) (λ j u hj=>by simp at hj) (λ u hu=>by cases hu)
 ·obtain ⟨b,off,l,T,fr,ha,hb,hel⟩:=hs.mem hx
  obtain ⟨a,n,c⟩:=s;simp only at ha hl;subst ha hl;refine Go.Src.ofSlice w ht _ _ _ _ (by rw [hs.wid.len]) (λ j u hj=>?_) (λ u hu=>List.all_eq_true.1 h1 u hu);rw [Zf];have:=hw.of_ro hb;simp only [World.cell?,this,Option.isSome_none,Bool.false_eq_true,if_false];exact hel j u hj
theorem ZnM {t1 t2 ty T':TypeId} {bytes:Nat} (E:ElN P t1 t2 T n bytes) {rows:List (List Value)} {x:List Value} {K:Sl->World->Prop}
  (hw:Sat R (ZM n s T rows::Hs) w) (hx:x.length=n) (h1:Zac x=true) (hb:2 * (rows.length + 1) * bytes<=281474976710656) (hb':rows.length + 1<=9223372036854775807)
  (k:∀ s' w',Sat R (ZM n s' T (rows++[x])::Hs) w'->K s' w'):
  New (.cells x.toArray T' (0,0)) (λ b w=>∃ w',∃ t:Sl,(Builtin.append_ #[t1,t2] ty #[.slice s.a s.len s.cap,.slice (some ⟨b,0,none⟩) 1 1]).run P w=.ok (.slice t.a t.len t.cap) w'/\K t w') w:=by
 refine Zd hw λ b w hw=>?_;have hw:Sat R (pts b (.cells x.toArray T' (0,0))::ZM n s T rows::Hs) w:=hw;exact Zcl E hw.swap (Znd E.hk 1 hw hx h1) (Wid.one hx) hb hb' λ s' w' h=>k s' w' h.swap.drop
theorem ZM.empty {b:Nat} {fr:Nat × Nat} (h:Sat R (pts b (.cells #[] T fr)::Hs) w):Sat R (ZM n ⟨some ⟨b,0,none⟩,0,0⟩ T []::Hs) w:=
 ZM.of_pts (rows:=[]) (rest:=[]) (cap:=0) Wid.nil (by simp) h (.inr (by simp))
theorem ZbP {t1 t2 ty:TypeId} {bytes b:Nat} {fr:Nat × Nat} (E:ElN P t1 t2 T n bytes) {ys:List (List Value)} {src:Value} {K:Sl->World->Prop}
  (hw:Sat R Hs w) [tk:Zcy b Hs (.cells ([]:List Value).toArray T fr) Rest] (hs:Src P n t2 src ys.length ys.flatten w) (hy:Wid n ys) (hb:2 * ys.length * bytes<=281474976710656) (hb':ys.length<=9223372036854775807)
  (k:∀ s' w',Sat R (ZM n s' T ys::Rest) w'->K s' w'):
  ∃ w',∃ t:Sl,(Builtin.append_ #[t1,t2] ty #[.slice (some ⟨b,0,none⟩) 0 0,src]).run P w=.ok (.slice t.a t.len t.cap) w'/\K t w':=by
 have h2:=Zcl (ty:=ty) (s:=⟨some ⟨b,0,none⟩,0,0⟩) (K:=K) E (ZM.empty (hw.takeP tk)) hs hy (by simpa using hb) (by simpa using hb') (by simpa using k);exact h2
theorem ZeB {t1 t2 ty:TypeId} {bytes b:Nat} {fr:Nat × Nat} (E:El P t1 t2 T bytes) {ys:List Value} {src:Value} {m:Nat} {K:Sl->World->Prop}
  (hw:Sat R Hs w) [tk:Zcy b Hs (.cells ([]:List Value).toArray T fr) Rest] (hs:Src P 1 t2 src m ys w) (hb:2 * m * bytes<=281474976710656) (hb':m<=9223372036854775807)
  (k:∀ s' w',Sat R (Own s' T ys::Rest) w'->K s' w'):
  ∃ w',∃ t:Sl,(Builtin.append_ #[t1,t2] ty #[.slice (some ⟨b,0,none⟩) 0 0,src]).run P w=.ok (.slice t.a t.len t.cap) w'/\K t w':=by
 have h0:Sat R (Own ⟨some ⟨b,0,none⟩,0,0⟩ T []::Rest) w:=Own.of_pts (xs:=[]) (rest:=[]) (hw.takeP tk) (.inr (by simp));have h2:=Zas (ty:=ty) (s:=⟨some ⟨b,0,none⟩,0,0⟩) (K:=K) E h0 hs rfl (by simpa using hb) (by simpa using hb') (by simpa using k);exact h2
structure Elt (n:Nat) (S:World->Prop) (a:Addr) (k:Nat) (row:List Value):Prop where
 f:∀ (j:Nat) {vs:List Value},Pre vs (row.drop j)->At S ⟨(Addr.add a (Zah (k:Int).toNat n)).block,(Addr.add a (Zah (k:Int).toNat n)).off + j,none⟩ vs
 z:∀ {vs:List Value},Pre vs row->At S (Addr.add a (Zah (k:Int).toNat n)) vs
 zz:∀ {vs:List Value},Pre vs row->At S (Addr.add (Addr.add a (Zah (k:Int).toNat n)) 0) vs
theorem Zoj (b off k n:Nat):Addr.add (Addr.add ⟨b,off,none⟩ (Zah k n)) 0=⟨b,off + (k * n + 0),none⟩:=by
 rw [ZkO,Zf];rfl
theorem ReadsN.rngM {α:Type} {E:List α} {g:α->List Value} {S:World->Prop} (h:ReadsN n s (E.map g) S) {k:Nat} (hk:k<E.length) {F:Addr->Prop} (f:∀ a,s.a=some a->Elt n S a k (g E[k])->F a):Rng (k:Int) s.len (Zb s.a F):=by
 have hg:(E.map g)[k]'(by simpa using hk)=g E[k]:=by simp
 refine h.rng (k:=k) (by simpa using hk) λ b off ha hat=>f _ ha ⟨λ j vs hp=>?_,λ hp=>?_,λ hp=>?_⟩
 ·rw [Int.toNat_natCast,Zm0];exact hat j _ (by rw [hg];exact hp)
 ·rw [Int.toNat_natCast,ZkO];exact hat 0 _ (by rw [hg];exact hp)
 ·rw [Int.toNat_natCast,Zoj];exact hat 0 _ (by rw [hg];exact hp)
theorem ZM.readsM {rows:List (List Value)} (hw:Sat R Hs w) [t:Zmf (ZM n s T rows) Hs Rest] {S:World->Prop} (hS:∀ w,S w->Sat R Hs w):ReadsN n s rows S:=
 ZM.reads (hw.perm t.perm) λ w h=>(hS w h).perm t.perm
theorem ZM.storeM {α:Type} {E:List α} {g:α->List Value} {t:TypeId} {v:Value} {k:Nat} {a:Addr} {K:World->Prop} (j:Nat) (e':α) (hw:Sat R Hs w) [tk:Zmf (ZM n s T (E.map g)) Hs Rest] (ha:s.a=some a) (hk:k<E.length)
  (hsz:(P.info? t).map (·.size)=some v.cells.toList.length) (h1:Zac v.cells.toList=true) (hj:j + v.cells.toList.length<=n) (he:Ze5 (g E[k]) j v.cells.toList=g e')
  (h:∀ w',Sat R (ZM n s T ((E.set k e').map g)::Rest) w'->K w'):
  ∃ w',(Instr.storeAt t (.pointer (some ⟨(Addr.add a (Zah (k:Int).toNat n)).block,(Addr.add a (Zah (k:Int).toNat n)).off + j,none⟩)) v).run P w=.ok () w'/\K w':=by
 have hw:=hw.perm tk.perm;have hg:(E.map g)[k]'(by simpa using hk)=g E[k]:=by simp
 have hb:∃ b off,a=⟨b,off,none⟩:=by
  obtain ⟨_,⟨rfl,_,_⟩|⟨b',rest,fr,cap,rfl,hl,hf,hp⟩⟩:=ZM.cases hw
  ·cases ha
  ·simp only [Option.some.injEq] at ha;exact ⟨b',0,ha.symm⟩
 obtain ⟨b,off,rfl⟩:=hb;rw [Int.toNat_natCast,Zm0];refine ZM.store hw ha hsz h1 (by simpa using hk) hj λ w' h2=>h w' ?_;rw [hg,he] at h2;rw [List.map_set];exact h2
class Arr (Hs Hs':List HP):Prop where
 perm:Hs.Perm Hs'
instance (priority:=2000) Arr.refl {Hs:List HP}:Arr Hs Hs:=⟨List.Perm.refl _⟩
instance Arr.cons {A:HP} {Hs Rest Hs':List HP} [t:Zmf A Hs Rest] [r:Arr Rest Hs']:Arr Hs (A::Hs'):=⟨t.perm.trans (r.perm.cons A)⟩
theorem Sat.arr {Hs':List HP} (h:Sat R Hs w) [a:Arr Hs Hs']:Sat R Hs' w:=h.perm a.perm
theorem Br.d {p:Prop} {inst:Decidable p} {A B:Prop} (h:p->A) (h':¬ p->B):Br (@decide p inst) A B:=Br.mk (λ e=>h (of_decide_eq_true e)) (λ e=>h' (of_decide_eq_false e))
theorem Br.nd {p:Prop} {inst:Decidable p} {A B:Prop} (h:¬ p->A) (h':p->B):Br (!@decide p inst) A B:=Br.mk (λ e=>h (by simpa using e)) (λ e=>h' (by simpa using e))
theorem Br.e {x y:Int} {A B:Prop} (h:x=y->A) (h':¬ x=y->B):Br (x==y) A B:=Br.mk (λ e=>h (by simpa using e)) (λ e=>h' (by simpa using e))
theorem Br.ne {x y:Int} {A B:Prop} (h:¬ x=y->A) (h':x=y->B):Br (x !=y) A B:=Br.mk (λ e=>h (by simpa using e)) (λ e=>h' (by simpa using e))
theorem Br.nne {x y:Int} {A B:Prop} (h:¬ x=y->A) (h':x=y->B):Br (!(x==y)) A B:=Br.mk (λ e=>h (by simpa using e)) (λ e=>h' (by simpa using e))
theorem Br.nb {b:Bool} {A B:Prop} (h:b=false->A) (h':b=true->B):Br (!b) A B:=Br.mk (λ e=>h (by simpa using e)) (λ e=>h' (by simpa using e))
theorem Zld (a b:ByteArray):(a.toList==b.toList)=decide (a=b):=by
 rw [ByteArray.toList_eq,ByteArray.toList_eq];by_cases h:a=b
 ·simp [h]
 ·have:a.data≠b.data:=λ h2=>h (by cases a;cases b;simp_all)
  simp [h,this]
theorem Br.se {x y:ByteArray} {A B:Prop} (h:x=y->A) (h':¬ x=y->B):Br (x.toList==y.toList) A B:=by rw [Zld];exact Br.d h h'
theorem Br.sne {x y:ByteArray} {A B:Prop} (h:¬ x=y->A) (h':x=y->B):Br (!(x.toList==y.toList)) A B:=by rw [Zld];exact Br.nd h h'
end
theorem Zd3 {x:Int} (h0:0<=x) (h1:x<256):IntKind.u8.wrap x=x:=by rw [IntKind.wrap_u8'];omega
theorem Zi1 (x:Int):IntKind.u8.wrap x=x % 256:=IntKind.wrap_u8' x
theorem ZbF {x:Int} (h0:0<=x) (h1:x<4294967296):IntKind.u32.wrap x=x:=by rw [IntKind.wrap_u32'];omega
theorem ZqZ (x:Int):IntKind.u32.wrap x=x % 4294967296:=IntKind.wrap_u32' x
theorem Zbt {x:Int} (h0:0<=x) (h1:x<18446744073709551616):IntKind.u64.wrap x=x:=by rw [IntKind.wrap_u64];omega
theorem Zce (n x:Nat) (h:x<2 ^ n):(BitVec.ofInt n (x:Int)).toNat=x:=by
 rw [BitVec.toNat_ofInt];have:((x:Int) % (2 ^ n:Nat))=x:=Int.emod_eq_of_lt (by omega) (by exact_mod_cast h);rw [this];rfl
theorem ZgQ {x y:Nat} (hx:x<4294967296) (hy:y<4294967296):ZcT .xor .u32 x y=((x ^^^ y:Nat):Int):=by
 have e:(BitVec.ofInt 32 (x:Int) ^^^ BitVec.ofInt 32 (y:Int)).toNat=x ^^^ y:=by rw [BitVec.toNat_xor,Zce 32 x hx,Zce 32 y hy]
 show IntKind.u32.wrap (((BitVec.ofInt 32 (x:Int) ^^^ BitVec.ofInt 32 (y:Int)).toNat:Nat):Int)=_;rw [e];have:x ^^^ y<4294967296:=Nat.xor_lt_two_pow (n:=32) hx hy;exact ZbF (by omega) (by omega)
theorem ZqN {x y:Nat} (hx:x<4294967296) (hy:y<4294967296):ZcT .and .u32 x y=((x &&& y:Nat):Int):=by
 have e:(BitVec.ofInt 32 (x:Int) &&& BitVec.ofInt 32 (y:Int)).toNat=x &&& y:=by rw [BitVec.toNat_and,Zce 32 x hx,Zce 32 y hy]
 show IntKind.u32.wrap (((BitVec.ofInt 32 (x:Int) &&& BitVec.ofInt 32 (y:Int)).toNat:Nat):Int)=_;rw [e];have:x &&& y<4294967296:=Nat.and_lt_two_pow (n:=32) x hy;exact ZbF (by omega) (by omega)
theorem Zxa {x y:Nat} (hx:x<4294967296) (hy:y<4294967296):ZcT .or .u32 x y=((x|||y:Nat):Int):=by
 have e:(BitVec.ofInt 32 (x:Int)|||BitVec.ofInt 32 (y:Int)).toNat=x|||y:=by rw [BitVec.toNat_or,Zce 32 x hx,Zce 32 y hy]
 show IntKind.u32.wrap (((BitVec.ofInt 32 (x:Int)|||BitVec.ofInt 32 (y:Int)).toNat:Nat):Int)=_;rw [e];have:x|||y<4294967296:=Nat.or_lt_two_pow (n:=32) hx hy
 exact ZbF (by omega) (by omega)
theorem Zwy {x y:Nat} (hx:x<256) (hy:y<256):ZcT .xor .u8 x y=((x ^^^ y:Nat):Int):=by
 have e:(BitVec.ofInt 8 (x:Int) ^^^ BitVec.ofInt 8 (y:Int)).toNat=x ^^^ y:=by rw [BitVec.toNat_xor,Zce 8 x hx,Zce 8 y hy]
 show IntKind.u8.wrap (((BitVec.ofInt 8 (x:Int) ^^^ BitVec.ofInt 8 (y:Int)).toNat:Nat):Int)=_;rw [e];have:x ^^^ y<256:=Nat.xor_lt_two_pow (n:=8) hx hy;exact Zd3 (by omega) (by omega)
theorem Zw9 {x y:Nat} (hx:x<18446744073709551616) (hy:y<18446744073709551616):ZcT .or .u64 x y=((x|||y:Nat):Int):=by
 have e:(BitVec.ofInt 64 (x:Int)|||BitVec.ofInt 64 (y:Int)).toNat=x|||y:=by rw [BitVec.toNat_or,Zce 64 x hx,Zce 64 y hy]
 show IntKind.u64.wrap (((BitVec.ofInt 64 (x:Int)|||BitVec.ofInt 64 (y:Int)).toNat:Nat):Int)=_;rw [e];have:x|||y<18446744073709551616:=Nat.or_lt_two_pow (n:=64) hx hy
 exact Zbt (by omega) (by omega)
theorem Zpr (x y:Nat) (hy:y<256):x * 256|||y=x * 256 + y:=by
 have:=Nat.two_pow_add_eq_or_of_lt (i:=8) (b:=y) (by omega) x;rw [Nat.mul_comm] at this;exact this.symm
section
variable {P:Program} {R:Cx} {Hs Rest:List HP} {w:World} {s:Sl}
structure SlR (h:ZS) (s:Sl) (xs:List Value):Prop where
 len:s.len=xs.length
 cap:s.len<=s.cap
 mem:xs≠[]->∃ b off l T fr,s.a=some ⟨b,off,none⟩/\h b=some (.cells l T fr)/\∀ (i:Nat) v,xs[i]? =some v->l[off + i]? =some v
def Zd2 (s:Sl) (xs:List Value):HP:=λ h=>SlR h s xs
theorem SlR.add {h h':ZS} {xs:List Value} (a:SlR h s xs):SlR (h.add h') s xs:=
 ⟨a.len,a.cap,λ hx=>let ⟨b,off,l,T,fr,ha,hb,hl⟩:=a.mem hx;⟨b,off,l,T,fr,ha,by simp only [ZS.add,hb],hl⟩⟩
theorem SlR.addR {h h':ZS} {xs:List Value} (hd:h'.dis h) (a:SlR h s xs):SlR (h'.add h) s xs:=
 ⟨a.len,a.cap,λ hx=>let ⟨b,off,l,T,fr,ha,hb,hl⟩:=a.mem hx;⟨b,off,l,T,fr,ha,by
  simp only [ZS.add,hd b (by rw [hb];simp)];exact hb,hl⟩⟩
theorem SlR.ro {xs:List Value} (a:SlR R.m s xs) (hb:xs.length<=9223372036854775807):Ro R s xs:=
 ⟨a.len,hb,a.mem⟩
theorem SlR.take {h:ZS} {xs:List Value} (a:SlR h s xs) {k:Nat} (hk:k<=xs.length):SlR h ⟨s.a,k,s.cap⟩ (xs.take k):=
 ⟨by simp;omega,by have:=a.len;have:=a.cap;simp only;omega,λ hx=>by
  obtain ⟨b,off,l,T,fr,ha,hb,hl⟩:=a.mem (λ h0=>hx (by rw [h0];simp));refine ⟨b,off,l,T,fr,ha,hb,λ i v hv=>hl i v ?_⟩;rw [List.getElem?_take] at hv;split at hv
  ·exact hv
  ·cases hv⟩
theorem SlR.drop {h:ZS} {xs:List Value} (a:SlR h s xs) {k:Nat} (hk:k<=xs.length):SlR h ⟨ZcW s.a k s.cap 1,s.len - k,s.cap - k⟩ (xs.drop k):=by
 have hlen:=a.len;have hcap:=a.cap;refine ⟨by simp;omega,by simp only;omega,λ hx=>?_⟩;obtain ⟨b,off,l,T,fr,ha,hb,hl⟩:=a.mem (λ h0=>hx (by rw [h0];simp));have hlt:0<(xs.drop k).length:=List.length_pos_iff.2 hx;rw [List.length_drop] at hlt;refine ⟨b,off + k,l,T,fr,?_,hb,λ i v hv=>?_⟩
 ·unfold ZcW
  rw [if_neg (by omega),ha];simp [Zf]
 ·rw [List.getElem?_drop] at hv
  rw [Nat.add_assoc];exact hl _ _ hv
theorem Zd2.lend {xs:List Value} (h:Sat R (Zd2 s xs::Hs) w):∃ x:ZS,R.dis x/\SlR (R.add x).m s xs/\Sat (R.add x) Hs w/\SlR x s xs:=by
 obtain ⟨x,hx,hd,hs⟩:=h;exact ⟨x,hd,SlR.addR hd hx,hs,hx⟩
theorem Zd2.back {xs:List Value} {x:ZS} (hd:R.dis x) (hx:SlR x s xs) (h:Sat (R.add x) Hs w):Sat R (Zd2 s xs::Hs) w:=⟨x,hx,hd,h⟩
theorem Own.reads {T:TypeId} {xs:List Value} (h:Sat R (Own s T xs::Hs) w):Sat R (Zd2 s xs::Hs) w:=by
 rcases Own.cases h with ⟨rfl,rfl,h2⟩|⟨b,rest,fr,rfl,hf,h2⟩
 ·exact ⟨ZS.none,⟨rfl,Nat.le_refl _,λ h=>absurd rfl h⟩,λ i hi=>absurd rfl hi,by rw [Cx.add_none];exact h2⟩
 ·obtain ⟨a,ha,hd,hs⟩:=h2
  refine ⟨a,⟨rfl,by simp,λ _=>⟨b,0,(xs++rest).toArray,T,fr,rfl,by rw [ha];simp [ZS.one],λ i v hv=>?_⟩⟩,hd,hs⟩;obtain ⟨hi,rfl⟩:=List.getElem?_eq_some_iff.1 hv;simp [List.getElem?_append_left hi]
theorem SlR.idxK {kd:IntKind} {xs:List Int} {S:World->Prop} (hr:SlR R.m s (xs.map (Value.int kd))) (hS:∀ w,S w->Sat R Hs w) {k:Nat} (hk:k<xs.length) {F:Int->Prop} (h:F xs[k]):
  Rng (k:Int) s.len (Zb s.a λ a=>∃ t:Int,(At S (a.add (k:Int).toNat) [.int kd t])/\F t):=by
 have hl:s.len=xs.length:=by have:=hr.len;simpa using this
 obtain ⟨b,off,l,T,fr,ha,hb,hel⟩:=hr.mem (by intro h0;rw [List.map_eq_nil_iff] at h0;rw [h0] at hk;simp at hk);refine Rng.mk (by omega) (by omega) (Zb.mk ha ⟨xs[k],λ w hw i v hv=>?_,h⟩);have hi:i=0:=by
  cases i with
  |zero=>rfl
  |succ i=>simp at hv
 subst hi;simp only [List.getElem?_cons_zero,Option.some.injEq] at hv;subst hv;rw [Int.toNat_natCast,Zf,Zf];have:=(hS w hw).of_ro hb;simp only [World.cell?,this,Option.isSome_none,Bool.false_eq_true,if_false];exact hel k _ (by simp [hk])
end
section
variable {P:Program} {R:Cx} {Hs Rest:List HP} {w:World} {s:Sl}
theorem Zni {t1 t2 ty T:TypeId} {bytes n:Nat} {k kn:IntKind} {K:Sl->World->Prop} (ht:P.underlying t1=some (.slice T)) (hn:P.underlying t2=some (.int kn)) (hi:elB P T bytes=true) (h0:0<n) (h48:n * bytes<=281474976710656)
  (h63:(n:Int)<=9223372036854775807) (hw:Sat R Hs w) (h:∀ t w',Sat R (Own ⟨t.a,0,t.cap⟩ T []::Hs) w'->K t w'):
  ∃ w',∃ t:Sl,(Builtin.append_ #[t1,t2] ty #[.slice none 0 0,.int k n]).run P w=.ok (.slice t.a t.len t.cap) w'/\K t w':=by
 obtain ⟨i,z,hi,hz,hsize,hbytes,hzc⟩:=Zqe hi;have hr:=Lib.run_append_nil_zeros (P:=P) w t1 t2 ty T i z k kn ht hn hi hz n h0 (by omega) h63 (by rw [hbytes];exact h48);refine ⟨_,⟨some ⟨w.heap.size,0,none⟩,n,grownCap w n 0 T⟩,hr,h _ _ ?_⟩;have:=Sat.alloc (Obj.cells (Builtin.zeroCells z.cells n++Builtin.zeroCells z.cells (grownCap w n 0 T - n)) T) (Sat.drew hw);have hg:=grownCap_ge w n 0 T;have e:Obj.cells (Builtin.zeroCells z.cells n++Builtin.zeroCells z.cells (grownCap w n 0 T - n)) T=.cells ([]++(Builtin.zeroCells z.cells n++Builtin.zeroCells z.cells (grownCap w n 0 T - n)).toList).toArray T (0,0):=by
  congr 1
 rw [e] at this ⊢;have h3:=Own.of_pts this;have e2:(⟨some ⟨w.drew.heap.size,0,none⟩,([]:List Value).length,([]++(Builtin.zeroCells z.cells n++Builtin.zeroCells z.cells (grownCap w n 0 T - n)).toList).length⟩:Sl)=⟨some ⟨w.heap.size,0,none⟩,0,grownCap w n 0 T⟩:=by
  simp [Builtin.zeroCells,hzc];omega
 rw [e2] at h3;exact h3
theorem Zdg.gets {f:FuncId} {args:Array Value} {K:Value->World->Prop} (h:Zdg P f args w (λ _ _=>False) K):Zq P f args w K:=
 Calls.mono h λ e w' he=>by
  rcases he with ⟨v,rfl,hq⟩|⟨_,_,hf⟩
  ·exact ⟨v,rfl,hq⟩
  ·exact hf.elim
end
section
variable {P:Program} {cl:FuncId->Bool} {n nn m:Nat} {R:Cx} {Hs Hs':List HP} {w W:World}
def ZsJ (P:Program) (n:Nat) (fn:Func) (sk:Sk):Bool:=
 Nat.beq n fn.ntmps && (match fn.body with|some c=>Zcn P n c && Zdh (λ _=>true) c && Ze1 c sk|none=>false) &&
  fn.results.all λ r=>match r with| .tmp _=>true| .cell _ t=>ZmR P t
def Zxh (P:Program) (cl:FuncId->Bool) (Y:YF) (fn:Func) (sk:Sk) (args:List Value) (K:Value->World->Prop) (w:World):Prop:=
 match fn.body with
 |some c=>ZhI P cl Y c sk (Zd5 args) { nrm:=λ ρ w=>Ziq P ρ K fn.results.toList [] w,ex:=λ _ _ _=>False,ret:=λ ρ w=>Ziq P ρ K fn.results.toList [] w } w
 |none=>False
theorem Zqw {Y:YF} {f:FuncId} {fn:Func} {sk:Sk} (hcl:∀ g,cl g=true->ZG P g=true) (hmix:P.follows .mixedOrders=true) (hY:∀ l args w Q,Y l args w Q->YieldAt Fence.wide (nn - 1) P l args.toArray w Q)
  (hf:P.funcs[f]? =some fn) (hok:ZsJ P fn.ntmps fn sk=true) {args:List Value} {K:Value->World->Prop} {w:World} (hargs:args.length<=fn.ntmps)
  (h:Zxh P cl Y fn sk args K w):CallsIn Fence.wide nn P f args.toArray w λ e w'=>∃ v,e=.returned v/\K v w':=by
 unfold Zxh at h;unfold ZsJ at hok;simp only [Bool.and_eq_true] at hok;obtain ⟨⟨_,hbody⟩,hres⟩:=hok;split at h
 case h_2=>exact h.elim
 rename_i c hb;rw [hb] at hbody;simp only [Bool.and_eq_true] at hbody;refine callsIn_of_wp hf hb trivial ?_;have henv:=Zew (fn:=fn) (args:=args);rw [<-henv] at h;have fin:∀ (a:Act) (w:World),a.defers=[]->Ziq P a.env K fn.results.toList [] w->
   a.defers=[]/\∃ v,(results fn a.tmps).run P w=.ok v w/\(∃ v',Ending.returned v=.returned v'/\K v' w):=λ a w hd hr=>by
  obtain ⟨v,h1,h2⟩:=Zka hres hr;exact ⟨hd,v,h1,v,rfl,h2⟩
 refine Code.wpIn_mono ?_ (ZaK (r:=none) (nn:=nn) (n:=fn.ntmps) hcl hY hmix c sk (λ _=>true) _ hbody.1.1 hbody.1.2 hbody.2 _ _ w (ZcB.refl (by simp;omega) rfl) h);intro e a w hq;cases e with
 |normal=>exact fin a w hq.1.defers hq.2
 |ret=>exact fin a w hq.1.defers hq.2
 |exit i=>exact hq.2.elim
 |_=>exact hq.elim
abbrev Zh7 (st:LoopState) (fn:FuncId) (tmps:Array Value) (ps:Array Tmp) (assign body:Code) (D:Nat):Obj:=
 .loop { state:=st,pending:=none,fn:=fn,tmps:=tmps,params:=ps,assign:=assign,body:=body,defers:=D }
theorem ZnB {L D:Nat} {fn:FuncId} {tmps:Array Value} {ps:Array Tmp} {assign body:Code} {args:Array Value} {Q:Ending->World->Prop}
  (hw:Sat R (pts L (Zh7 .ready fn tmps ps assign body D)::Hs) W) (hsz:args.size=ps.size)
  (h:assign.wpIn (wf (some L)) m P (Exit.then (λ a1 W1=>Sat R (pts L (Zh7 .ready fn tmps ps assign body D)::Hs) W1/\∀ W2,Sat R (pts L (Zh7 .busy fn tmps ps assign body D)::Hs) W2->
    body.wpIn (wf (some L)) m P (λ e _ W3=>e=.normal/\∃ Hs',Sat R (pts L (Zh7 .busy fn tmps ps assign body D)::Hs') W3/\∀ W4,Sat R (pts L (Zh7 .ready fn tmps ps assign body D)::Hs') W4->Q (.returned (.bool true)) W4) a1 W2) (λ _ _ _=>False))
   { tmps:=(ps.zip args).foldl (λ t (p,v)=>t.setIfInBounds p v) tmps,defers:=[] } W):
  YieldAt Fence.wide m P L args W Q:=by
 refine ⟨fn,_,assign,body,run_yield hw.at hsz,roundIn_of_wpIn trivial (Code.wpIn_mono ?_ h)⟩;intro e a w hq;cases e with
 |normal=>
  obtain ⟨hw1,hb⟩:=hq;refine ⟨_,run_beginRound hw1.at rfl,?_⟩;refine Code.wpIn_mono ?_ (hb _ (hw1.setPts _));rintro e a w ⟨rfl,Hs',hw3,hq⟩;exact ⟨_,_,run_endRound none hw3.at,hq _ (hw3.setPts _)⟩
 |_=>exact hq.elim
theorem Zly {g:Operand} {ps:Array Tmp} {assign body:Code} {Q:Exit->Act->World->Prop} {a:Act} {gf:Nat} {lb:Array Value} (hg:a.eval g=.func (.func gf) #[] lb) (hc:ZG P gf=true) (hw:Sat R Hs w)
  (h:∀ fn D L W1,Sat R (pts L (Zh7 .ready fn a.tmps ps assign body D)::pts D (.deferred (some []))::Hs) W1->
   CallsIn Fence.wide (nn - 1) P gf (#[.func (.yield L) #[] #[]]++lb) W1 λ e W2=>(∃ v,e=.returned v)/\∃ Hs',Sat R (pts L (Zh7 .ready fn a.tmps ps assign body D)::pts D (.deferred (some []))::Hs') W2/\
    ∀ W3,Sat R (pts D (.deferred (some []))::Hs') W3->Q .normal { a with defers:={ target:=.collected D,args:=#[] }::a.defers } W3):
  (Code.rangeFunc g ps assign body).wpIn Fence.wide nn P Q a w:=by
 refine wpIn_rangeFunc ?_;intro fn hfn;have hw1:=(hw.alloc (.deferred (some []))).alloc (Zh7 .ready fn a.tmps ps assign body w.heap.size);have hsz:(w.alloc (.deferred (some []))).heap.size=w.heap.size + 1:=by simp
 rw [hsz] at hw1;have he:=run_enterLoop_outer (P:=P) (w:=w) fn a.tmps ps assign body;generalize hD:w.heap.size=D at hw1 he;generalize hW1:(w.alloc (.deferred (some []))).alloc (Zh7 .ready fn a.tmps ps assign body D)=W1 at hw1;have he:(Instr.enterLoop fn a.tmps ps assign body none).run P w=.ok (D + 1,[{ target:=.collected D,args:=#[] }]) W1:=by rw [he,<-hW1]
 clear hW1 hsz;have hres:(resolve a.eval (rangeCall g (D + 1)) 0).run P W1=.ok { target:=.fn (.func gf) lb,args:=#[.func (.yield (D + 1)) #[] #[]] } W1:=by
  simp only [resolve,hg];simp [go_sem]
 refine ⟨D + 1,[{ target:=.collected D,args:=#[] }],W1,{ target:=.fn (.func gf) lb,args:=#[.func (.yield (D + 1)) #[] #[]] },W1,gf,
  #[.func (.yield (D + 1)) #[] #[]]++lb,W1,he,hres,λ f' _=>trivial,?_,(λ h=>by cases h),?_⟩
 ·simp only [invoke]
  exact Zdb hc _ _
 ·have key:∀ (e:Ending) (W2:World),((∃ v,e=.returned v)/\∃ Hs',Sat R (pts (D + 1) (Zh7 .ready fn a.tmps ps assign body D)::pts D (.deferred (some []))::Hs') W2/\
    ∀ W3,Sat R (pts D (.deferred (some []))::Hs') W3->Q .normal { a with defers:={ target:=.collected D,args:=#[] }::a.defers } W3)->
    rangePost Fence.wide nn P (D + 1) Q { a with defers:=[{ target:=.collected D,args:=#[] }]++a.defers } e W2:=by
   intro e W2 hh;obtain ⟨⟨v,hv⟩,Hs',hw2,hq⟩:=hh;rw [hv];have h2:=run_endLoop (P:=P) hw2.at (by simp);exact ⟨none,_,h2,hq _ (hw2.setPts _).drop⟩
  exact CallsIn.mono (h fn D (D + 1) W1 hw1) key
theorem ZlJ {fn:Func} {a:Act} {D:Nat} {K:Value->World->Prop} (hd:a.defers=[{ target:=.collected D,args:=#[] }]) (hres:(fn.results.all λ r=>match r with| .tmp _=>true| .cell _ t=>ZmR P t)=true) (hw:Sat R (pts D (.deferred (some []))::Hs) W)
  (h:∀ W',Sat R Hs W'->Ziq P a.env K fn.results.toList [] W'):LeavesInM Fence.wide nn P fn a.tmps (λ e w'=>∃ v,e=.returned v/\K v w') a.defers .returning W:=by
 rw [hd];refine ⟨by simp,.inl ⟨D,_,rfl,run_takeDeferred hw.at,?_⟩⟩;have hw2:=(hw.setPts (.deferred none)).drop;obtain ⟨v,h1,h2⟩:=Zka hres (h _ hw2);exact ⟨v,h1,v,rfl,h2⟩
end
section
variable {P:Program} {cl:FuncId->Bool}
def Zlh (ρ:Env) (tmps:Array Value):List Nat->Prop
 |[]=>True
 |i::is=>tmps.getD i undef=ρ i/\Zlh ρ tmps is
theorem Zg1 (a:Act):∀ sl,Zlh a.env a.tmps sl
 |[]=>trivial
 |_::is=>⟨rfl,Zg1 a is⟩
def Zuf (P:Program) (cl:FuncId->Bool) (n:Nat) (ps:Array Tmp) (assign body:Code) (f:Value) (T:Array Value->Prop) (K:Nat->World->Prop) (w:World):Prop:=
 match f with
 | .func fn first captured=>(match fn with
  | .func gf=>(match cl gf with
   |true=>(match first.toList with
    |[]=>∃ (R:Cx) (Hs:List HP),Sat R Hs w/\∀ (nn:Nat) (tmps:Array Value) (fn D L:Nat) (W1:World),tmps.size=n->T tmps->Sat R (pts L (Zh7 .ready fn tmps ps assign body D)::pts D (.deferred (some []))::Hs) W1->
      CallsIn Fence.wide nn P gf (.func (.yield L) #[] #[]::captured.toList).toArray W1 λ e W2=>(∃ v,e=.returned v)/\∃ Hs',Sat R (pts L (Zh7 .ready fn tmps ps assign body D)::pts D (.deferred (some []))::Hs') W2/\
       ∀ W3,Sat R (pts D (.deferred (some []))::Hs') W3->K D W3
    |_=>False)
   |false=>False)
  |_=>False)
 |_=>False
theorem Zuf.mk {n:Nat} {ps:Array Tmp} {assign body:Code} {gf:FuncId} {captured:Array Value} {T:Array Value->Prop} {K:Nat->World->Prop} {w:World} {R:Cx} {Hs:List HP} (hc:cl gf=true) (hw:Sat R Hs w)
  (h:∀ (nn:Nat) (tmps:Array Value) (fn D L:Nat) (W1:World),tmps.size=n->T tmps->Sat R (pts L (Zh7 .ready fn tmps ps assign body D)::pts D (.deferred (some []))::Hs) W1->
      CallsIn Fence.wide nn P gf (.func (.yield L) #[] #[]::captured.toList).toArray W1 λ e W2=>(∃ v,e=.returned v)/\∃ Hs',Sat R (pts L (Zh7 .ready fn tmps ps assign body D)::pts D (.deferred (some []))::Hs') W2/\
       ∀ W3,Sat R (pts D (.deferred (some []))::Hs') W3->K D W3):Zuf P cl n ps assign body (.func (.func gf) #[] captured) T K w:=by
 unfold Zuf;simp only [hc];exact ⟨R,Hs,hw,h⟩
def RngF (P:Program) (cl:FuncId->Bool) (n:Nat) (sl:List Nat) (g:Operand) (ps:Array Tmp) (assign body:Code) (ρ:Env) (K:Nat->World->Prop) (w:World):Prop:=
 Zuf P cl n ps assign body (ρ.ev g) (λ tmps=>Zlh ρ tmps sl) K w
def Zhs (fn:Func):Array Tmp × Code × Code:=
 match fn.body with
 |some (.seq _ (.seq _ (.seq _ (.seq (.seq _ (.block _ (.rangeFunc _ ps assign body))) _))))=>(ps,assign,body)
 |_=>(#[],.skip,.skip)
def ZqX (fn:Func):Array Tmp:=(Zhs fn).1
def Zbc (fn:Func):Code:=(Zhs fn).2.1
def Zdt (fn:Func):Code:=(Zhs fn).2.2
def noC (k:Env->World->Prop):ZoM:={ nrm:=k,ex:=λ _ _ _=>False,ret:=λ _ _=>False }
def Zxj (P:Program) (fn:Func) (K:Value->World->Prop) (D:Nat) (ρ:Env) (w:World):Prop:=
 Ziq P ρ (λ v w=>∃ (R:Cx) (Hs:List HP),Sat R (pts D (.deferred (some []))::Hs) w/\∀ w',Sat R Hs w'->K v w') fn.results.toList [] w
def Zw5 (P:Program) (cl:FuncId->Bool) (fn:Func) (sk:Sk) (sl:List Nat) (args:List Value) (K:Value->World->Prop) (w:World):Prop:=
 match fn.body with
 |some (.seq r0 (.seq r1 (.seq r2 (.seq (.seq r3 (.block _ (.rangeFunc g ps assign body))) rest))))=>
  den P cl r0 .leaf (Zd5 args) (noC λ ρ w=>den P cl r1 .leaf ρ (noC λ ρ w=>den P cl r2 .leaf ρ (noC λ ρ w=>den P cl r3 .leaf ρ (noC λ ρ w=>
   RngF P cl fn.ntmps sl g ps assign body ρ (λ D w=>Zib P cl (λ _ _ _=>False) [] rest sk ρ { nrm:=Zxj P fn K D,ex:=λ _ _ _=>False,ret:=Zxj P fn K D } w) w) w) w) w) w
 |_=>False
def Zsx (P:Program) (fn:Func) (sk:Sk):Bool:=
 (match fn.body with
 |some (.seq r0 (.seq r1 (.seq r2 (.seq (.seq r3 (.block _ (.rangeFunc _ _ _ _))) rest))))=>
  (Zcr P fn.ntmps r0 && Zdh (λ _=>true) r0 && Ze1 r0 .leaf) && (Zcr P fn.ntmps r1 && Zdh (λ _=>true) r1 && Ze1 r1 .leaf) && (Zcr P fn.ntmps r2 && Zdh (λ _=>true) r2 && Ze1 r2 .leaf) && (Zcr P fn.ntmps r3 && Zdh (λ _=>true) r3 && Ze1 r3 .leaf) &&
   (Zco P fn.ntmps [] rest && Zdh (λ _=>true) rest && Ze1 rest sk)
 |_=>false) && fn.results.all λ r=>match r with| .tmp _=>true| .cell _ _=>false
theorem ZmD {ρ:Env} {K:Value->World->Prop} {w:World}:∀ {rs:List ResultVar} {acc:List Value},(∀ r∈rs,(match r with| .tmp _=>true| .cell _ _=>false)=true)->Ziq P ρ K rs acc w->
  ∃ v,K v w/\∀ (K':Value->World->Prop) (w':World),K' v w'->Ziq P ρ K' rs acc w'
 |[],acc,_,h=>by
  unfold Ziq ZuI at h;unfold Ziq ZuI;cases hl:acc.reverse with
  |nil=>rw [hl] at h;exact ⟨_,h,λ _ _ h=>h⟩
  |cons x xs=>
   rw [hl] at h;cases xs with
   |nil=>exact ⟨_,h,λ _ _ h=>h⟩
   |cons y ys=>exact ⟨_,h,λ _ _ h=>h⟩
 | .tmp t::rs,acc,hall,h=>ZmD (rs:=rs) (acc:=ρ t::acc) (λ r hr=>hall r (List.mem_cons_of_mem _ hr)) h
 | .cell _ _::rs,acc,hall,_=>by have:=hall _ (List.mem_cons_self ..);cases this
theorem Zqy {f:FuncId} {fn:Func} {sk:Sk} {sl:List Nat} (hcl:∀ g,cl g=true->ZG P g=true) (hmix:P.follows .mixedOrders=true)
  (hf:P.funcs[f]? =some fn) (hok:Zsx P fn sk=true) {args:List Value} {K:Value->World->Prop} {w:World} (hargs:args.length<=fn.ntmps)
  (h:Zw5 P cl fn sk sl args K w):Zq P f args.toArray w K:=by
 unfold Zq;refine (callsIn_wide (n:=5)).1 ?_;unfold Zw5 at h;unfold Zsx at hok;rw [Bool.and_eq_true] at hok;obtain ⟨hok,hres⟩:=hok;have hres1:∀ r∈fn.results.toList,(match r with| .tmp _=>true| .cell _ _=>false)=true:=λ r hr=>by
  rw [Array.all_eq_true_iff_forall_mem] at hres;exact hres r (by simpa using hr)
 have hres2:(fn.results.all λ r=>match r with| .tmp _=>true| .cell _ t=>ZmR P t)=true:=by
  rw [Array.all_eq_true_iff_forall_mem] at hres ⊢;intro r hr;have:=hres r hr;cases r<;>simp_all
 split at h
 case h_2=>exact h.elim
 rename_i r0 r1 r2 r3 bid g ps assign body rest hb;rw [hb] at hok;simp only [Bool.and_eq_true] at hok;obtain ⟨⟨⟨⟨h0,h1⟩,h2⟩,h3⟩,h4⟩:=hok;refine callsIn_of_wp_marks hf hb trivial ?_;have henv:=Zew (fn:=fn) (args:=args);generalize hA:({ tmps:=args.toArray++Array.replicate (fn.ntmps - args.toArray.size) undef,defers:=[] }:Act)=A at henv;have hAs:A.tmps.size=fn.ntmps:=by rw [<-hA];simp;omega
 have hAd:A.defers=[]:=by rw [<-hA]
 rw [<-henv] at h;have step:∀ {c c':Code} {Q:Exit->Act->World->Prop} {a:Act} {w:World} {k:Env->World->Prop},((Zcr P fn.ntmps c=true/\Zdh (λ _=>true) c=true)/\Ze1 c .leaf=true)->a.tmps.size=fn.ntmps->a.defers=[]->
   den P cl c .leaf a.env (noC k) w->(∀ a' w',a'.tmps.size=fn.ntmps->a'.defers=[]->k a'.env w'->c'.wpIn Fence.wide 5 P Q a' w')->(Code.seq c c').wpIn Fence.wide 5 P Q a w:=λ {c c' Q a w k} hc hs hd h hk=>by
  refine wpIn_seq (wpIn_wide.2 (Code.wp_mono ?_ (ZaV (n:=fn.ntmps) hcl hmix c .leaf (λ _=>true) a.env hc.1.1 hc.1.2 hc.2 a _ w (ZcB.refl hs hd) h)));intro e a' w' hq;cases e with
  |normal=>exact hk a' w' hq.1.size hq.1.defers hq.2
  |exit i=>exact hq.2.elim
  |ret=>exact hq.2.elim
  |_=>exact hq.elim
 refine step h0 hAs hAd h ?_;clear h hAs hAd henv hA;intro a w hs hd h;refine step h1 hs hd h ?_;clear h hs hd a w;intro a w hs hd h;refine step h2 hs hd h ?_;clear h hs hd a w;intro a w hs hd h;refine wpIn_seq ?_;refine step h3 hs hd h ?_;clear h hs hd a w;intro a w hs hd h;refine wpIn_block ?_;unfold RngF Zuf at h;split at h
 case h_2=>exact h.elim
 rename_i fv first captured hg
 rw [Z4] at hg;split at h
 case h_2=>exact h.elim
 rename_i gf;split at h
 case h_2=>exact h.elim
 rename_i hcg;split at h
 case h_2=>exact h.elim
 rename_i hfirst;have hfirst:first=#[]:=Array.ext' hfirst
 subst hfirst;obtain ⟨R,Hs,hw,h⟩:=h;refine Zly hg (hcl gf hcg) hw ?_;intro fnid D L W1 hw1;have hargs2:#[Value.func (.yield L) #[] #[]]++captured=(Value.func (.yield L) #[] #[]::captured.toList).toArray:=by apply Array.ext';simp
 rw [hargs2];refine CallsIn.mono (h _ a.tmps fnid D L W1 hs (Zg1 a sl) hw1) ?_;rintro e W2 ⟨hv,Hs',hw2,hq⟩;refine ⟨hv,Hs',hw2,λ W3 hw3=>?_⟩;have hx:=hq W3 hw3;show rest.wpIn Fence.wide 5 P _ _ W3;generalize hA2:({ a with defers:={ target:=.collected D,args:=#[] }::a.defers }:Act)=B;have hBe:B.env=a.env:=by rw [<-hA2];rfl
 have hBs:B.tmps.size=fn.ntmps:=by rw [<-hA2];exact hs
 have hBd:B.defers=[{ target:=.collected D,args:=#[] }]:=by rw [<-hA2,hd]
 rw [<-hBe] at hx;refine wpIn_wide.2 (Code.wp_mono ?_ (Zaw (n:=fn.ntmps) (ds:=[{ target:=.collected D,args:=#[] }]) hcl hmix rest sk (λ _=>true) B.env h4.1.1 h4.1.2 h4.2 B _ W3 (Zbj.refl' hBs hBd) hx));have fin:∀ (a:Act) (w:World),a.defers=[{ target:=.collected D,args:=#[] }]->Zxj P fn K D a.env w->LeavesInM Fence.wide 5 P fn a.tmps (λ e w'=>∃ v,e=.returned v/\K v w') a.defers .returning w:=λ a w hd hr=>by
  obtain ⟨v,⟨R,Hs,hw,hk⟩,hall⟩:=ZmD hres1 hr;exact ZlJ hd hres2 hw λ W' hw'=>hall _ _ (hk W' hw')
 intro e a w hq;cases e with
 |normal=>exact fin a w hq.1.defers hq.2
 |ret=>exact fin a w hq.1.defers hq.2
 |exit i=>exact hq.2.elim
 |panic ch=>exact hq.2.elim
 |_=>exact hq.elim
end
end Go.VC
namespace Go.Proofs.YtkfedbncmfnpnaaGreatDoor
section
open Go Go.VC Tryz
def B154 (b0:Sl) (K:Value->World->Prop) (w:World):Prop:=
  New (.cells #[.slice b0.a b0.len b0.cap] 53 (0,0)) (λ b_b1 w_1=>
  K (.func (.func 188) #[] #[.pointer ((some ⟨b_b1,0,none⟩))]) w_1) w
def Zsr:Sk:=.leaf
theorem Zxc:Zwq prog f154.ntmps f154 Zsr=true:=by kernel_rfl
theorem Zxl (b0:Sl) (K:Value->World->Prop) (w:World):fnF prog cl f154 Zsr [.slice b0.a b0.len b0.cap] K w=B154 b0 K w:=by kernel_rfl
theorem Ztw (b0:Sl) (K:Value->World->Prop) (w:World) (h:B154 b0 K w):Zq prog 154 #[.slice b0.a b0.len b0.cap] w K:=
  Znb (sk:=Zsr) Zid mixed func154 Zxc (args:=[.slice b0.a b0.len b0.cap]) (Nat.le_of_ble_eq_true (by kernel_rfl)) (by rw [Zxl];exact h)
def B188 (Y:YF) (l0:Nat) (c1:Option Addr) (K:Value->World->Prop) (w:World):Prop:=
  ∃ (I:World->Prop) (μ:World->Nat),(I  w)/\∀ (z:Env)  (w_1:World),I  w_1->
  Zb c1 λ a_t5=>
  ∃ t5:Sl,(At (λ w'=>w'=w_1) a_t5 [.slice t5.a t5.len t5.cap])/\
  Br (decide ((↑t5.len:Int) >= 8))
   (Zb c1 λ a_t8=>
    ∃ t8:Sl,(At (λ w'=>w'=w_1) a_t8 [.slice t8.a t8.len t8.cap])/\
    ((0:Int)<=4)/\
    ((4:Int)<=(↑t8.cap:Int))/\
    Calls prog 189 #[.slice t8.a 4 t8.cap] w_1 λ e w_2=>
    ∃ t10:Int,(e=.returned (.int .u32 t10))/\
    ∃ (J:World->Prop),(Br (decide (t10>65536))
       (K (.tuple #[]) w_2)
       (Zb c1 λ a_t16=>
        ∃ t16:Sl,(At (λ w'=>w'=w_2) a_t16 [.slice t16.a t16.len t16.cap])/\
        Br (decide (IntKind.i64.wrap t10>IntKind.i64.wrap ((↑t16.len:Int) - 8)))
         (K (.tuple #[]) w_2)
         (J  w_2)))/\
    ∀ (z_1:Env)  (w_3:World),J  w_3->
    Zb c1 λ a_t21=>
    ∃ t21:Sl,(At (λ w'=>w'=w_3) a_t21 [.slice t21.a t21.len t21.cap])/\
    ((0:Int)<=IntKind.i64.wrap (8 + IntKind.i64.wrap t10))/\
    ((IntKind.i64.wrap (8 + IntKind.i64.wrap t10):Int)<=(↑t21.cap:Int))/\
    ((0:Int)<=8)/\
    ((8:Int)<=(↑(IntKind.i64.wrap (8 + IntKind.i64.wrap t10)).toNat:Int))/\
    Drw w_3 λ S w_4=>
    Zb c1 λ a_t26=>
    ∃ t26:Sl,(At S a_t26 [.slice t26.a t26.len t26.cap])/\
    ((0:Int)<=4)/\
    ((4:Int)<=(↑t26.cap:Int))/\
    Zb c1 λ a_t31=>
    ∃ t31:Sl,(At S a_t31 [.slice t31.a t31.len t31.cap])/\
    ((0:Int)<=8)/\
    ((8:Int)<=(↑t31.cap:Int))/\
    ((0:Int)<=4)/\
    ((4:Int)<=8)/\
    Calls prog 164 #[.slice t26.a 4 t26.cap] w_4 λ e_1 w_5=>
    ∃ t28:Int,(e_1=.returned (.int .u32 t28))/\
    (S w_5)/\
    Calls prog 163 #[.int .u32 t28,.slice (ZcW t21.a (Int.toNat 8) t21.cap 1) ((IntKind.i64.wrap (8 + IntKind.i64.wrap t10)).toNat - Int.toNat 8) (t21.cap - Int.toNat 8)] w_5 λ e_2 w_6=>
    ∃ t30:Int,(e_2=.returned (.int .u32 t30))/\
    (S w_6)/\
    Calls prog 189 #[.slice (ZcW t31.a (Int.toNat 4) t31.cap 1) 4 (t31.cap - Int.toNat 4)] w_6 λ e_3 w_7=>
    ∃ t33:Int,(e_3=.returned (.int .u32 t33))/\
    (S w_7)/\
    Br (t30 !=t33)
     (K (.tuple #[]) w_7)
     (Y l0 [.slice (ZcW t21.a (Int.toNat 8) t21.cap 1) ((IntKind.i64.wrap (8 + IntKind.i64.wrap t10)).toNat - Int.toNat 8) (t21.cap - Int.toNat 8)] w_7 λ e_4 w_8=>
      ∃ t38:Bool,(e_4=.returned (.bool t38))/\
      (S w_8)/\
      Br (!t38)
       (K (.tuple #[]) w_8)
       (Zb c1 λ a_t41=>
        ∃ t41:Sl,(At (λ w'=>w'=w_8) a_t41 [.slice t41.a t41.len t41.cap])/\
        ((0:Int)<=IntKind.i64.wrap (8 + IntKind.i64.wrap t10))/\
        ((IntKind.i64.wrap (8 + IntKind.i64.wrap t10):Int)<=(↑t41.len:Int))/\
        ∃ w_9:World,((Instr.storeAt 53 (.pointer c1) (.slice (ZcW t41.a (IntKind.i64.wrap (8 + IntKind.i64.wrap t10)).toNat t41.cap 1) (t41.len - (IntKind.i64.wrap (8 + IntKind.i64.wrap t10)).toNat) (t41.cap - (IntKind.i64.wrap (8 + IntKind.i64.wrap t10)).toNat))).run prog w_8=.ok () w_9)/\
        (I  w_9)/\μ  w_9<μ  w_1)))
   (K (.tuple #[]) w_1)
def Zsq:Sk:=(.block (.loop [] [] [3,4,5,6,7,8,9,10,11,12,13,14,15,16,17,18,19,20,21,22,23,24,25,26,27,28,29,30,31,32,33,34,35,36,37,38,39,40,41,42,43,44,45] (.seq .leaf (.block (.seq .leaf (.cut [] [] [11,12,13,14,15,16,17,18,19,20] .leaf .leaf))))))
theorem Zxb:ZsJ prog f188.ntmps f188 Zsq=true:=by kernel_rfl
theorem Zxk (Y:YF) (l0:Nat) (c1:Option Addr) (K:Value->World->Prop) (w:World):Zxh prog cl Y f188 Zsq [.func (.yield l0) #[] #[],.pointer c1] K w=B188 Y l0 c1 K w:=by kernel_rfl
theorem ZrH {nn:Nat} (l0:Nat) (c1:Option Addr) (K:Value->World->Prop) (w:World) (h:B188 (λ l args w Q=>YieldAt Fence.wide (nn - 1) prog l args.toArray w Q) l0 c1 K w):
    CallsIn Fence.wide nn prog 188 #[.func (.yield l0) #[] #[],.pointer c1] w λ e w'=>∃ v,e=.returned v/\K v w':=
  Zqw (sk:=Zsq) Zid mixed (λ _ _ _ _ h=>h) func188 Zxb (args:=[.func (.yield l0) #[] #[],.pointer c1]) (Nat.le_of_ble_eq_true (by kernel_rfl)) (by rw [Zxk];exact h)
def Zwk (out4:Option Addr) (size5:Option Addr) (body6:Sl) (K:World->Prop) (w:World):Prop:=
  Drw w λ S w_1=>
  Zb out4 λ a_t10=>
  ∃ t10:Sl,(At S a_t10 [.slice t10.a t10.len t10.cap])/\
  Calls prog 98 #[.slice body6.a body6.len body6.cap] w_1 λ e w_2=>
  ∃ t12:Sl,(e=.returned (.slice t12.a t12.len t12.cap))/\
  (S w_2)/\
  New (.cells #[.slice t12.a t12.len t12.cap] 53 (0,0)) (λ b_t13 w_3=>
  (S w_3)/\
  ∃ w_4:World,∃ t14:Sl,((Builtin.append_ #[139,139] 139 #[.slice t10.a t10.len t10.cap,.slice ((some ⟨b_t13,0,none⟩)) 1 1]).run prog w_3=.ok (.slice t14.a t14.len t14.cap) w_4)/\
  ∃ w_5:World,((Instr.storeAt 139 (.pointer out4) (.slice t14.a t14.len t14.cap)).run prog w_4=.ok () w_5)/\
  Zb size5 λ a_t15=>
  ∃ t15:Int,(At (λ w'=>w'=w_5) a_t15 [.int .i64 t15])/\
  ∃ w_6:World,((Instr.storeAt 3 (.pointer size5) (.int .i64 (IntKind.i64.wrap (t15 + IntKind.i64.wrap (8 + (↑body6.len:Int)))))).run prog w_5=.ok () w_6)/\
  K w_6) w_2
theorem ZuJ (Y:YF) (ρ:Env) (out4 size5:Option Addr) (body6:Sl) (K:World->Prop) (w:World):
    ZhI prog cl Y (Zdt f108) .leaf (((ρ.set 4 (.pointer out4)).set 5 (.pointer size5)).set 6 (.slice body6.a body6.len body6.cap)) (noC λ _ w=>K w) w=Zwk out4 size5 body6 K w:=by kernel_rfl
theorem ZuK (Y:YF) (ρ:Env) (x:Value) (k:Env->World->Prop) (w:World):ZhI prog cl Y (Zbc f108) .leaf (ρ.set 9 x) (noC k) w=k ((ρ.set 9 x).set 6 x) w:=by kernel_rfl
theorem ZuA:(Zcn prog 22 (Zdt f108) && Zdh (λ _=>true) (Zdt f108) && Ze1 (Zdt f108) .leaf)=true:=by kernel_rfl
theorem ZuB:(Zcn prog 22 (Zbc f108) && Zdh (λ i=>ZhZ i [6]) (Zbc f108) && Ze1 (Zbc f108) .leaf)=true:=by kernel_rfl
theorem Zw7:ZqX f108=#[9]:=by kernel_rfl
def B108 (b0:Sl) (K:Value->World->Prop) (w:World):Prop:=
  New (.cells #[.slice none 0 0] 139 (0,0)) (λ b_t4 w_1=>
  New (.cells #[.int .i64 0] 3 (0,0)) (λ b_t5 w_2=>
  ∃ w_3:World,((Instr.storeAt 3 (.pointer (some ⟨b_t5,0,none⟩)) (.int .i64 0)).run prog w_2=.ok () w_3)/\
  Calls prog 154 #[.slice b0.a b0.len b0.cap] w_3 λ e w_4=>
  ∃ t8:Value,(e=.returned t8)/\
  Zuf prog cl 22 (ZqX f108) (Zbc f108) (Zdt f108) t8 (λ tmps=>tmps.getD 4 undef=.pointer (some ⟨b_t4,0,none⟩)/\tmps.getD 5 undef=.pointer (some ⟨b_t5,0,none⟩)/\True) (λ D w_5=>
    Drw w_5 λ S w_6=>
    ∃ t20:Sl,(At S ⟨b_t4,0,none⟩ [.slice t20.a t20.len t20.cap])/\
    ∃ t21:Int,(At S ⟨b_t5,0,none⟩ [.int .i64 t21])/\
    ∃ (R:Cx) (Hs:List HP),Sat R (pts D (.deferred (some []))::Hs) w_6/\∀ w',Sat R Hs w'->K (.tuple #[.slice t20.a t20.len t20.cap,.int .i64 t21]) w') w_4) w_1) w
theorem Zxd:Zsx prog f108 .leaf=true:=by kernel_rfl
theorem Zxm (b0:Sl) (K:Value->World->Prop) (w:World):Zw5 prog cl f108 .leaf [4,5] [.slice b0.a b0.len b0.cap] K w=B108 b0 K w:=by kernel_rfl
theorem Zt3 (b0:Sl) (K:Value->World->Prop) (w:World) (h:B108 b0 K w):Zq prog 108 #[.slice b0.a b0.len b0.cap] w K:=
  Zqy (sk:=.leaf) (sl:=[4,5]) Zid mixed func108 Zxd (args:=[.slice b0.a b0.len b0.cap]) (Nat.le_of_ble_eq_true (by kernel_rfl)) (by rw [Zxm];exact h)
end
section
open Go Go.VC Tryz
set_option maxRecDepth 10000
def B17 (a:Int) (K:Value->World->Prop) (w:World):Prop:=
 Br (decide (a<1))
 (K (.tuple #[.pointer none,.int .i64 1]) w)
 (Br (decide (a>16777216))
 (K (.tuple #[.pointer none,.int .i64 1]) w)
 (New (.map #[] 0) (λ b d=>
 New (.cells #[.int .i64 a,.int .i64 0,.map ((some b)),.int .i64 ((-1)),.int .i64 ((-1)),.bool false] 78 (0,0)) (λ c e=>
 K (.tuple #[.pointer ((some ⟨c,0,none⟩)),.int .i64 0]) e) d) w))
theorem Zv5 (a:Int) (K:Value->World->Prop) (w:World) (h:B17 a K w):Zq prog 17 #[.int .i64 a] w K:=cq (sk:=.leaf) func17 (by kernel_rfl) (by kernel_rfl) (by kernel_rfl) h
def B35 (m:Option Addr) (o:ByteArray) (b:Sl) (K:Value->World->Prop) (w:World):Prop:=
 New (.cells #[.pointer m] 25 (0,0)) (λ e p=>
 New (.cells #[.string o] 9 (0,0)) (λ f q=>
 New (.cells #[.slice b.a b.len b.cap] 53 (0,0)) (λ k d=>
 ∃ i:Option Addr,(At (λ c=>c=d) ⟨e,0,none⟩ [.pointer i])/\
 ∃ j:ByteArray,(At (λ c=>c=d) ⟨f,0,none⟩ [.string j])/\
 New (.cells #[.string j] 9 (0,0)) (λ l r=>
 Calls prog 77 #[.pointer i,.func (.func 78) #[] #[.pointer ((some ⟨e,0,none⟩)),.pointer ((some ⟨k,0,none⟩)),.pointer ((some ⟨f,0,none⟩))],.slice ((some ⟨l,0,none⟩)) 1 1] r λ n s=>
 ∃ g:Int,(n=.returned (.int .i64 g))/\
 K (.int .i64 g) s) d) q) p) w
theorem ZvO (c:Option Addr) (d:ByteArray) (b:Sl) (K:Value->World->Prop) (w:World) (h:B35 c d b K w):Zq prog 35 #[.pointer c,.string d,.slice b.a b.len b.cap] w K:=cq (sk:=.leaf) func35 (by kernel_rfl) (by kernel_rfl) (by kernel_rfl) h
def B37 (a:Option Addr) (b:ByteArray) (K:Value->World->Prop) (w:World):Prop:=
 Calls prog 83 #[.pointer a,.string b,.func (.func 84) #[] #[]] w λ f i=>
 ∃ d:Value,(f=.returned (d))/\
 New (.cells #[.string b] 9 (0,0)) (λ e j=>
 Calls prog 77 #[.pointer a,d,.slice ((some ⟨e,0,none⟩)) 1 1] j λ g k=>
 ∃ c:Int,(g=.returned (.int .i64 c))/\
 K (.int .i64 c) k) i
theorem ZvM (a:Option Addr) (b:ByteArray) (K:Value->World->Prop) (w:World) (h:B37 a b K w):Zq prog 37 #[.pointer a,.string b] w K:=cq (sk:=.leaf) func37 (by kernel_rfl) (by kernel_rfl) (by kernel_rfl) h
def B44 (i:Option Addr) (j:ByteArray) (K:Value->World->Prop) (w:World):Prop:=
 Zb i λ f=>
 ∃ k:Bool,(At (λ b=>b=w) ⟨f.block,f.off + 5,none⟩ [.bool k])/\
 Br k
 (K (.tuple #[.slice none 0 0,.int .i64 5]) w)
 (New (.cells #[.string j] 9 (0,0)) (λ q t=>
 Calls prog 97 #[.slice ((some ⟨q,0,none⟩)) 1 1] t λ r e=>
 ∃ l:Bool,(r=.returned (.bool l))/\
 Br (!l)
 (K (.tuple #[.slice none 0 0,.int .i64 1]) e)
 (Zb i λ g=>
 ∃ m:Option Nat,(At (λ b=>b=e) ⟨g.block,g.off + 2,none⟩ [.map m])/\
 ∃ n:Option Addr,∃ o:Bool,(∀ b,(λ b=>b=e) b->((Instr.lookup 76 (.map m) (.string j) true)).run prog b=.ok (.tuple #[.pointer n,.bool o]) b)/\
 Br (!o)
 (K (.tuple #[.slice none 0 0,.int .i64 2]) e)
 (Zb n λ p=>
 ∃ c:Sl,(At (λ b=>b=e) (Addr.add p 0) [.slice c.a c.len c.cap])/\
 Calls prog 98 #[.slice c.a c.len c.cap] e λ s u=>
 ∃ d:Sl,(s=.returned (.slice d.a d.len d.cap))/\
 K (.tuple #[.slice d.a d.len d.cap,.int .i64 0]) u))) w)
theorem ZvF (a:Option Addr) (b:ByteArray) (K:Value->World->Prop) (w:World) (h:B44 a b K w):Zq prog 44 #[.pointer a,.string b] w K:=cq (sk:=.leaf) func44 (by kernel_rfl) (by kernel_rfl) (by kernel_rfl) h
def B77 (b:Option Addr) (v:Value) (d:Sl) (K:Value->World->Prop) (w:World):Prop:=
 Calls prog 97 #[.slice d.a d.len d.cap] w λ r c=>
 ∃ n:Bool,(r=.returned (.bool n))/\
 Br (!n)
 (K (.int .i64 1) c)
 (Zb b λ e=>
 ∃ j:Bool,(At (λ x=>x=c) ⟨e.block,e.off + 5,none⟩ [.bool j])/\
 Br j
 (K (.int .i64 5) c)
 (Zb b λ f=>
 Calls prog 122 #[.pointer ((some ⟨f.block,f.off + 4,none⟩))] c λ s o=>
 ∃ k:Bool,(s=.returned (.bool k))/\
 Br k
 (Zb b λ g=>
 ∃ p:World,((Instr.storeAt 4 (.pointer ((some ⟨g.block,g.off + 5,none⟩))) (.bool true)).run prog o=.ok () p)/\
 K (.int .i64 5) p)
 (Zb b λ i=>
 Calls prog 122 #[.pointer ((some ⟨i.block,i.off + 3,none⟩))] o λ t q=>
 ∃ l:Bool,(t=.returned (.bool l))/\
 Br l
 (K (.int .i64 4) q)
 (Zcm prog cl v [] q λ u y=>
 ∃ m:Int,(u=.returned (.int .i64 m))/\
 K (.int .i64 m) y))))
theorem Zvb (c:Option Addr) (d:Value) (b:Sl) (K:Value->World->Prop) (w:World) (h:B77 c d b K w):Zq prog 77 #[.pointer c,d,.slice b.a b.len b.cap] w K:=cq (sk:=.leaf) func77 (by kernel_rfl) (by kernel_rfl) (by kernel_rfl) h
def B78 (f:Option Addr) (n:Option Addr) (y:Option Addr) (K:Value->World->Prop) (w:World):Prop:=
 Drw w λ e O=>
 Zb f λ al=>
 ∃ M:Option Addr,(At e al [.pointer M])/\
 Zb M λ v=>
 ∃ N:Int,(At e ⟨v.block,v.off + 1,none⟩ [.int .i64 N])/\
 Zb n λ Z=>
 ∃ i:Sl,(At e Z [.slice i.a i.len i.cap])/\
 Zb f λ aa=>
 ∃ z:Option Addr,(At e aa [.pointer z])/\
 Zb z λ ab=>
 ∃ A:Int,(At e (Addr.add ab 0) [.int .i64 A])/\
 Br (decide (IntKind.i64.wrap (N + (↑i.len:Int))>A))
 (K (.int .i64 3) O)
 (Drw O λ g T=>
 Zb f λ ac=>
 ∃ C:Option Addr,(At g ac [.pointer C])/\
 Zb C λ r=>
 ∃ D:Option Nat,(At g ⟨r.block,r.off + 2,none⟩ [.map D])/\
 Zb y λ ad=>
 ∃ E:ByteArray,(At g ad [.string E])/\
 ∃ F:Option Addr,∃ G:Bool,(∀ w',g w'->((Instr.lookup 76 (.map D) (.string E) true)).run prog w'=.ok (.tuple #[.pointer F,.bool G]) w')/\
 ∃ (k:Option Addr->World->Prop),(Br (!G)
 (New (.cells #[.slice none 0 0,.int .i64 0] 106 (0,0)) (λ x an=>
 Drw an λ l ao=>
 Zb f λ ae=>
 ∃ H:Option Addr,(At l ae [.pointer H])/\
 Zb H λ s=>
 ∃ I:Option Nat,(At l ⟨s.block,s.off + 2,none⟩ [.map I])/\
 Zb y λ af=>
 ∃ J:ByteArray,(At l af [.string J])/\
 ∃ U:World,((Instr.mapUpdate 76 (.map I) (.string J) (.pointer ((some ⟨x,0,none⟩)))).run prog ao=.ok () U)/\
 k ((some ⟨x,0,none⟩)) U) T)
 (k F T))/\
 ∀ (aq:Env) (o:Option Addr) (V:World),k o V->
 Drw V λ q ap=>
 Zb o λ ag=>
 ∃ b:Sl,(At q (Addr.add ag 0) [.slice b.a b.len b.cap])/\
 Zb n λ ah=>
 ∃ c:Sl,(At q ah [.slice c.a c.len c.cap])/\
 ∃ X:World,∃ d:Sl,((Builtin.append_ #[53,53] 53 #[.slice b.a b.len b.cap,.slice c.a c.len c.cap]).run prog ap=.ok (.slice d.a d.len d.cap) X)/\
 Zb o λ ai=>
 ∃ Y:World,((Instr.storeAt 53 (.pointer ((some (Addr.add ai 0)))) (.slice d.a d.len d.cap)).run prog X=.ok () Y)/\
 Drw Y λ m am=>
 Zb f λ aj=>
 ∃ p:Option Addr,(At m aj [.pointer p])/\
 Zb p λ t=>
 ∃ L:Int,(At m ⟨t.block,t.off + 1,none⟩ [.int .i64 L])/\
 Zb n λ ak=>
 ∃ j:Sl,(At m ak [.slice j.a j.len j.cap])/\
 Zb p λ u=>
 ∃ Q:World,((Instr.storeAt 3 (.pointer ((some ⟨u.block,u.off + 1,none⟩))) (.int .i64 (IntKind.i64.wrap (L + (↑j.len:Int))))).run prog am=.ok () Q)/\
 K (.int .i64 0) Q)
def sk78:Sk:=(.seq .leaf (.seq .leaf (.seq .leaf (.cut [4] [.ptr] [4,27,28,29,30,31,32,33,34,35,36] .leaf .leaf))))
theorem Zva (a:Option Addr) (b:Option Addr) (c:Option Addr) (K:Value->World->Prop) (w:World) (h:B78 a b c K w):Zq prog 78 #[.pointer a,.pointer b,.pointer c] w K:=cq (sk:=sk78) func78 (by kernel_rfl) (by kernel_rfl) (by kernel_rfl) h
def B83 (d:Option Addr) (f:ByteArray) (e:Value) (K:Value->World->Prop) (w:World):Prop:=
 New (.cells #[.pointer d] 25 (0,0)) (λ a g=>
 New (.cells #[.string f] 9 (0,0)) (λ c i=>
 New (.cells (Value.cells e) 123 (0,0)) (λ b j=>
 K (.func (.func 123) #[] #[.pointer ((some ⟨a,0,none⟩)),.pointer ((some ⟨c,0,none⟩)),.pointer ((some ⟨b,0,none⟩))]) j) i) g) w
theorem Zu5 (a:Option Addr) (c:ByteArray) (b:Value) (K:Value->World->Prop) (w:World) (h:B83 a c b K w):Zq prog 83 #[.pointer a,.string c,b] w K:=cq (sk:=.leaf) func83 (by kernel_rfl) (by kernel_rfl) (by kernel_rfl) h
def B84 (d:Option Addr) (K:Value->World->Prop) (w:World):Prop:=
 Zb d λ f=>
 ∃ b:Sl,(At (λ g=>g=w) (Addr.add f 0) [.slice b.a b.len b.cap])/\
 Zb d λ c=>
 ∃ e:World,((Instr.storeAt 3 (.pointer ((some ⟨c.block,c.off + 1,none⟩))) (.int .i64 ((↑b.len:Int)))).run prog w=.ok () e)/\
 K (.tuple #[]) e
theorem Zu4 (a:Option Addr) (K:Value->World->Prop) (w:World) (h:B84 a K w):Zq prog 84 #[.pointer a] w K:=cq (sk:=.leaf) func84 (by kernel_rfl) (by kernel_rfl) (by kernel_rfl) h
def B97 (m:Sl) (K:Value->World->Prop) (w:World):Prop:=
 ∃ (l:Int->World->Prop) (r:Int->World->Nat),(l 0 w)/\∀ (u:Env) (g:Int) (i:World),l g i->
 Br (decide (g<(↑m.len:Int)))
 (Rng g m.len (Zb m.a λ s=>
 ∃ k:ByteArray,(At (λ n=>n=i) (Addr.add s g.toNat) [.string k])/\
 ∃ (o:World->Prop),(Br (k.toList==(ByteArray.mk #[]).toList)
 (K (.bool false) i)
 (Br (decide ((↑k.size:Int)>64))
 (K (.bool false) i)
 (o  i)))/\
 ∀ (v:Env)  (p:World),o  p->
 ∃ q:World,∃ j:Sl,((convert 9 53 (.string k)).run prog p=.ok (.slice j.a j.len j.cap) q)/\
 ∃ (f:Int->World->Prop) (d:Int->World->Nat),(f 0 q)/\∀ (x:Env) (c:Int) (b:World),f c b->
 Br (decide (c<(↑j.len:Int)))
 (Rng c j.len (Zb j.a λ t=>
 ∃ e:Int,(At (λ n=>n=b) (Addr.add t c.toNat) [.int .u8 e])/\
 Br (decide (e<97))
 (Br (decide (e<48))
 (Br (e !=46)
 (Br (e !=45)
 (K (.bool false) b)
 ((f (IntKind.i64.wrap (c + 1)) b)/\d (IntKind.i64.wrap (c + 1)) b<d c b))
 ((f (IntKind.i64.wrap (c + 1)) b)/\d (IntKind.i64.wrap (c + 1)) b<d c b))
 (Br (decide (e>57))
 (Br (e !=46)
 (Br (e !=45)
 (K (.bool false) b)
 ((f (IntKind.i64.wrap (c + 1)) b)/\d (IntKind.i64.wrap (c + 1)) b<d c b))
 ((f (IntKind.i64.wrap (c + 1)) b)/\d (IntKind.i64.wrap (c + 1)) b<d c b))
 ((f (IntKind.i64.wrap (c + 1)) b)/\d (IntKind.i64.wrap (c + 1)) b<d c b)))
 (Br (decide (e>122))
 (Br (decide (e<48))
 (Br (e !=46)
 (Br (e !=45)
 (K (.bool false) b)
 ((f (IntKind.i64.wrap (c + 1)) b)/\d (IntKind.i64.wrap (c + 1)) b<d c b))
 ((f (IntKind.i64.wrap (c + 1)) b)/\d (IntKind.i64.wrap (c + 1)) b<d c b))
 (Br (decide (e>57))
 (Br (e !=46)
 (Br (e !=45)
 (K (.bool false) b)
 ((f (IntKind.i64.wrap (c + 1)) b)/\d (IntKind.i64.wrap (c + 1)) b<d c b))
 ((f (IntKind.i64.wrap (c + 1)) b)/\d (IntKind.i64.wrap (c + 1)) b<d c b))
 ((f (IntKind.i64.wrap (c + 1)) b)/\d (IntKind.i64.wrap (c + 1)) b<d c b)))
 ((f (IntKind.i64.wrap (c + 1)) b)/\d (IntKind.i64.wrap (c + 1)) b<d c b))))
 ((l (IntKind.i64.wrap (g + 1)) b)/\r (IntKind.i64.wrap (g + 1)) b<r g i)))
 (K (.bool true) i)
def sk97:Sk:=(.seq .leaf (.seq (.seq .leaf (.block (.loop [9] [(.int .i64)] [2,4,6,9,10,11,12,13,14,15,16,17,18,19,20,21,22,23,24,25,26,27,28,29,30,31,32,33,34,35,36,37,38,39,40,41,42,43,44,45,46,47,48,49,50] (.seq .leaf (.seq .leaf (.seq (.block (.seq .leaf (.cut [] [] [2,13,14,15,16,17,18,19] .leaf (.seq .leaf (.block (.loop [23] [(.int .i64)] [2,6,23,24,25,26,27,28,29,30,31,32,33,34,35,36,37,38,39,40,41,42,43,44,45,46,47,48,49] .leaf)))))) .leaf)))))) .leaf))
theorem ZuR (b:Sl) (K:Value->World->Prop) (w:World) (h:B97 b K w):Zq prog 97 #[.slice b.a b.len b.cap] w K:=cq (sk:=sk97) func97 (by kernel_rfl) (by kernel_rfl) (by kernel_rfl) h
def B122 (b:Option Addr) (K:Value->World->Prop) (w:World):Prop:=
 Zb b λ j=>
 ∃ e:Int,(At (λ a=>a=w) j [.int .i64 e])/\
 Br (e==-1)
 (K (.bool false) w)
 (Zb b λ k=>
 ∃ f:Int,(At (λ a=>a=w) k [.int .i64 f])/\
 Zb b λ g=>
 ∃ c:World,((Instr.storeAt 3 (.pointer ((some (g)))) (.int .i64 (IntKind.i64.wrap (f - 1)))).run prog w=.ok () c)/\
 Zb b λ i=>
 ∃ d:Int,(At (λ a=>a=c) i [.int .i64 d])/\
 K (.bool (d==-1)) c)
theorem ZtS (a:Option Addr) (K:Value->World->Prop) (w:World) (h:B122 a K w):Zq prog 122 #[.pointer a] w K:=cq (sk:=.leaf) func122 (by kernel_rfl) (by kernel_rfl) (by kernel_rfl) h
def B123 (o:Option Addr) (p:Option Addr) (q:Option Addr) (K:Value->World->Prop) (w:World):Prop:=
 Drw w λ b c=>
 Zb o λ n=>
 ∃ k:Option Addr,(At b n [.pointer k])/\
 Zb k λ d=>
 ∃ e:Option Nat,(At b ⟨d.block,d.off + 2,none⟩ [.map e])/\
 Zb p λ l=>
 ∃ f:ByteArray,(At b l [.string f])/\
 ∃ g:Option Addr,∃ i:Bool,(∀ a,b a->((Instr.lookup 76 (.map e) (.string f) true)).run prog a=.ok (.tuple #[.pointer g,.bool i]) a)/\
 Br (!i)
 (K (.int .i64 2) c)
 (Zb q λ m=>
 ∃ j:Value,(At (λ a=>a=c) m [j])/\
 Zcm prog cl j [.pointer g] c λ r s=>
 (r=.returned (.tuple #[]))/\
 K (.int .i64 0) s)
theorem ZtR (a:Option Addr) (b:Option Addr) (c:Option Addr) (K:Value->World->Prop) (w:World) (h:B123 a b c K w):Zq prog 123 #[.pointer a,.pointer b,.pointer c] w K:=cq (sk:=.leaf) func123 (by kernel_rfl) (by kernel_rfl) (by kernel_rfl) h
def B11 (c:Option Addr) (e:Int) (K:Value->World->Prop) (w:World):Prop:=
 Zb c λ a=>
 Calls prog 39 #[.pointer ((some ⟨a.block,a.off + 3,none⟩)),.int .i64 e] w λ d f=>
 ∃ b:Int,(d=.returned (.int .i64 b))/\
 K (.int .i64 b) f
theorem Zwb (a:Option Addr) (b:Int) (K:Value->World->Prop) (w:World) (h:B11 a b K w):Zq prog 11 #[.pointer a,.int .i64 b] w K:=cq (sk:=.leaf) func11 (by kernel_rfl) (by kernel_rfl) (by kernel_rfl) h
def B28 (c:Option Addr) (e:Int) (K:Value->World->Prop) (w:World):Prop:=
 Zb c λ a=>
 Calls prog 39 #[.pointer ((some ⟨a.block,a.off + 4,none⟩)),.int .i64 e] w λ d f=>
 ∃ b:Int,(d=.returned (.int .i64 b))/\
 K (.int .i64 b) f
theorem ZvU (a:Option Addr) (b:Int) (K:Value->World->Prop) (w:World) (h:B28 a b K w):Zq prog 28 #[.pointer a,.int .i64 b] w K:=cq (sk:=.leaf) func28 (by kernel_rfl) (by kernel_rfl) (by kernel_rfl) h
def B40 (c:Option Addr) (K:Value->World->Prop) (w:World):Prop:=
 Zb c λ a=>
 ∃ b:Bool,(At (λ d=>d=w) ⟨a.block,a.off + 5,none⟩ [.bool b])/\
 K (.bool b) w
theorem ZvJ (a:Option Addr) (K:Value->World->Prop) (w:World) (h:B40 a K w):Zq prog 40 #[.pointer a] w K:=cq (sk:=.leaf) func40 (by kernel_rfl) (by kernel_rfl) (by kernel_rfl) h
def B25 (f:Option Addr) (t:Sl) (K:Value->World->Prop) (w:World):Prop:=
 Calls prog 33 #[.pointer f] w λ ag ah=>
 ∃ i:Sl,(ag=.returned (.slice i.a i.len i.cap))/\
 ∃ (p:Int->World->Prop) (Y:Int->World->Nat),(p 0 ah)/\∀ (al:Env) (c:Int) (e:World),p c e->
 Br (decide (c<(↑i.len:Int)))
 (Rng c i.len (Zb i.a λ Z=>
 ∃ L:ByteArray,(At (λ b=>b=e) (Addr.add Z c.toNat) [.string L])/\
 Zb f λ z=>
 ∃ M:Option Nat,(At (λ b=>b=e) ⟨z.block,z.off + 2,none⟩ [.map M])/\
 ∃ d:Option Addr,(∀ b,(λ b=>b=e) b->((Instr.lookup 76 (.map M) (.string L) false)).run prog b=.ok (.pointer d) b)/\
 ∃ (q:Int->World->Prop),(Br (decide (c<(↑t.len:Int)))
 (Drw e λ r ai=>
 Rng c t.len (Zb t.a λ aa=>
 ∃ k:Int,(At r (Addr.add aa c.toNat) [.int .i64 k])/\
 Zb d λ ab=>
 ∃ l:Sl,(At r (Addr.add ab 0) [.slice l.a l.len l.cap])/\
 Zb d λ A=>
 ∃ u:Int,(At r ⟨A.block,A.off + 1,none⟩ [.int .i64 u])/\
 q (if IntKind.i64.wrap ((↑l.len:Int) - u)<if 0>k then 0 else k then IntKind.i64.wrap ((↑l.len:Int) - u) else if 0>k then 0 else k) ai))
 (q 0 e))/\
 ∀ (am:Env) (j:Int) (V:World),q j V->
 Drw V λ s aj=>
 Zb f λ C=>
 ∃ N:Int,(At s ⟨C.block,C.off + 1,none⟩ [.int .i64 N])/\
 Zb d λ ac=>
 ∃ m:Sl,(At s (Addr.add ac 0) [.slice m.a m.len m.cap])/\
 Zb d λ D=>
 ∃ O:Int,(At s ⟨D.block,D.off + 1,none⟩ [.int .i64 O])/\
 Zb f λ E=>
 ∃ X:World,((Instr.storeAt 3 (.pointer ((some ⟨E.block,E.off + 1,none⟩))) (.int .i64 (IntKind.i64.wrap (N - IntKind.i64.wrap (IntKind.i64.wrap ((↑m.len:Int) - O) - j))))).run prog aj=.ok () X)/\
 Drw X λ y ak=>
 Zb d λ ad=>
 ∃ g:Sl,(At y (Addr.add ad 0) [.slice g.a g.len g.cap])/\
 Zb d λ F=>
 ∃ n:Int,(At y ⟨F.block,F.off + 1,none⟩ [.int .i64 n])/\
 ((0:Int)<=IntKind.i64.wrap (n + j))/\
 ((IntKind.i64.wrap (n + j):Int)<=(↑g.cap:Int))/\
 Zb d λ ae=>
 ∃ v:World,((Instr.storeAt 53 (.pointer ((some (Addr.add ae 0)))) (.slice g.a ((IntKind.i64.wrap (n + j)).toNat) g.cap)).run prog ak=.ok () v)/\
 Zb d λ af=>
 ∃ o:Sl,(At (λ b=>b=v) (Addr.add af 0) [.slice o.a o.len o.cap])/\
 Zb d λ G=>
 ∃ x:World,((Instr.storeAt 3 (.pointer ((some ⟨G.block,G.off + 1,none⟩))) (.int .i64 ((↑o.len:Int)))).run prog v=.ok () x)/\
 (p (IntKind.i64.wrap (c + 1)) x)/\Y (IntKind.i64.wrap (c + 1)) x<Y c e))
 (Zb f λ H=>
 ∃ Q:World,((Instr.storeAt 4 (.pointer ((some ⟨H.block,H.off + 5,none⟩))) (.bool false)).run prog e=.ok () Q)/\
 Zb f λ I=>
 ∃ T:World,((Instr.storeAt 3 (.pointer ((some ⟨I.block,I.off + 3,none⟩))) (.int .i64 ((-1)))).run prog Q=.ok () T)/\
 Zb f λ J=>
 ∃ U:World,((Instr.storeAt 3 (.pointer ((some ⟨J.block,J.off + 4,none⟩))) (.int .i64 ((-1)))).run prog T=.ok () U)/\
 K (.tuple #[]) U)
def sk25:Sk:=(.seq (.seq .leaf (.block (.loop [11] [(.int .i64)] [4,5,6,7,11,12,13,14,15,16,17,18,19,20,21,22,23,24,25,26,27,28,29,30,31,32,33,34,35,36,37,38,39,40,41,42,43,44,45,46,47,48,49,50,51,52,53,54,55,56,57,58,59,60,61,62,63,64,65,66,67,68,69,70,71,72,73,74,75,76,77,78,79,80,81,82,83] (.seq .leaf (.seq .leaf (.seq (.block (.seq .leaf (.seq .leaf (.cut [7] [(.int .i64)] [7,22,23,24,25,26,27,28,29,30,31,32,33,34,35,36,37,38,39,40,41] .leaf .leaf)))) .leaf)))))) .leaf)
theorem ZvX (c:Option Addr) (b:Sl) (K:Value->World->Prop) (w:World) (h:B25 c b K w):Zq prog 25 #[.pointer c,.slice b.a b.len b.cap] w K:=cq (sk:=sk25) func25 (by kernel_rfl) (by kernel_rfl) (by kernel_rfl) h
def B39 (d:Option Addr) (a:Int) (K:Value->World->Prop) (w:World):Prop:=
 Br (decide (a<0))
 (K (.int .i64 1) w)
 (Zb d λ c=>
 ∃ b:World,((Instr.storeAt 3 (.pointer ((some (c)))) (.int .i64 a)).run prog w=.ok () b)/\
 K (.int .i64 0) b)
theorem ZvK (b:Option Addr) (a:Int) (K:Value->World->Prop) (w:World) (h:B39 b a K w):Zq prog 39 #[.pointer b,.int .i64 a] w K:=cq (sk:=.leaf) func39 (by kernel_rfl) (by kernel_rfl) (by kernel_rfl) h
end
section
open Go Go.VC Tryz
set_option maxRecDepth 10000
def B130 (y:Option Addr) (E:ByteArray) (F:ByteArray) (K:Value->World->Prop) (w:World):Prop:=
 New (.cells #[.pointer y] 25 (0,0)) (λ b G=>
 New (.cells #[.string E] 9 (0,0)) (λ c H=>
 New (.cells #[.string F] 9 (0,0)) (λ d I=>
 Drw I λ a p=>
 ∃ g:Option Addr,(At a ⟨b,0,none⟩ [.pointer g])/\
 ∃ i:Option Addr,(At a ⟨b,0,none⟩ [.pointer i])/\
 ∃ j:ByteArray,(At a ⟨c,0,none⟩ [.string j])/\
 ∃ e:ByteArray,(At a ⟨c,0,none⟩ [.string e])/\
 ∃ f:ByteArray,(At a ⟨d,0,none⟩ [.string f])/\
 (Calls prog 83 #[.pointer i,.string j,.func (.func 172) #[] #[.pointer ((some ⟨c,0,none⟩)),.pointer ((some ⟨d,0,none⟩)),.pointer ((some ⟨b,0,none⟩))]] p λ z q=>
 ∃ k:Value,(z=.returned (k))/\
 (a q)/\
 New (.cells #[.string e,.string f] 9 (0,0)) (λ v r=>
 (a r)/\
 Calls prog 77 #[.pointer g,k,.slice ((some ⟨v,0,none⟩)) 2 2] r λ A s=>
 ∃ m:Int,(A=.returned (.int .i64 m))/\
 (a s)/\
 K (.int .i64 m) s) q)/\
 New (.cells #[.string e,.string f] 9 (0,0)) (λ x t=>
 (a t)/\
 Calls prog 83 #[.pointer i,.string j,.func (.func 172) #[] #[.pointer ((some ⟨c,0,none⟩)),.pointer ((some ⟨d,0,none⟩)),.pointer ((some ⟨b,0,none⟩))]] t λ C u=>
 ∃ l:Value,(C=.returned (l))/\
 (a u)/\
 Calls prog 77 #[.pointer g,l,.slice ((some ⟨x,0,none⟩)) 2 2] u λ D o=>
 ∃ n:Int,(D=.returned (.int .i64 n))/\
 (a o)/\
 K (.int .i64 n) o) p) H) G) w
theorem ZtK (a:Option Addr) (b:ByteArray) (c:ByteArray) (K:Value->World->Prop) (w:World) (h:B130 a b c K w):Zq prog 130 #[.pointer a,.string b,.string c] w K:=cq (sk:=.leaf) func130 (by kernel_rfl) (by kernel_rfl) (by kernel_rfl) h
def B104 (v:Option Addr) (C:ByteArray) (K:Value->World->Prop) (w:World):Prop:=
 New (.cells #[.pointer v] 25 (0,0)) (λ b D=>
 New (.cells #[.string C] 9 (0,0)) (λ c E=>
 Drw E λ a m=>
 ∃ e:Option Addr,(At a ⟨b,0,none⟩ [.pointer e])/\
 ∃ f:Option Addr,(At a ⟨b,0,none⟩ [.pointer f])/\
 ∃ g:ByteArray,(At a ⟨c,0,none⟩ [.string g])/\
 ∃ d:ByteArray,(At a ⟨c,0,none⟩ [.string d])/\
 (Calls prog 83 #[.pointer f,.string g,.func (.func 141) #[] #[.pointer ((some ⟨b,0,none⟩)),.pointer ((some ⟨c,0,none⟩))]] m λ x n=>
 ∃ k:Value,(x=.returned (k))/\
 (a n)/\
 New (.cells #[.string d] 9 (0,0)) (λ t o=>
 (a o)/\
 Calls prog 77 #[.pointer e,k,.slice ((some ⟨t,0,none⟩)) 1 1] o λ y p=>
 ∃ i:Int,(y=.returned (.int .i64 i))/\
 (a p)/\
 K (.int .i64 i) p) n)/\
 New (.cells #[.string d] 9 (0,0)) (λ u q=>
 (a q)/\
 Calls prog 83 #[.pointer f,.string g,.func (.func 141) #[] #[.pointer ((some ⟨b,0,none⟩)),.pointer ((some ⟨c,0,none⟩))]] q λ z r=>
 ∃ l:Value,(z=.returned (l))/\
 (a r)/\
 Calls prog 77 #[.pointer e,l,.slice ((some ⟨u,0,none⟩)) 1 1] r λ A s=>
 ∃ j:Int,(A=.returned (.int .i64 j))/\
 (a s)/\
 K (.int .i64 j) s) m) D) w
theorem Zt5 (a:Option Addr) (b:ByteArray) (K:Value->World->Prop) (w:World) (h:B104 a b K w):Zq prog 104 #[.pointer a,.string b] w K:=cq (sk:=.leaf) func104 (by kernel_rfl) (by kernel_rfl) (by kernel_rfl) h
def B172 (G:Option Addr) (j:Option Addr) (d:Option Addr) (e:Option Addr) (K:Value->World->Prop) (w:World):Prop:=
 Zb j λ A=>
 ∃ q:ByteArray,(At (λ a=>a=w) A [.string q])/\
 Zb d λ C=>
 ∃ r:ByteArray,(At (λ a=>a=w) C [.string r])/\
 Br (q.toList==r.toList)
 (K (.tuple #[]) w)
 (Zb e λ D=>
 ∃ s:Option Addr,(At (λ a=>a=w) D [.pointer s])/\
 Zb d λ E=>
 ∃ t:ByteArray,(At (λ a=>a=w) E [.string t])/\
 Calls prog 142 #[.pointer s,.string t] w λ F H=>
 (F=.returned (.tuple #[]))/\
 Drw H λ b I=>
 Zb e λ v=>
 ∃ k:Option Addr,(At b v [.pointer k])/\
 Zb k λ g=>
 ∃ l:Option Nat,(At b ⟨g.block,g.off + 2,none⟩ [.map l])/\
 Zb j λ x=>
 ∃ m:ByteArray,(At b x [.string m])/\
 ∃ f:World,((Builtin.delete_ #[76,9] 0 #[.map l,.string m]).run prog I=.ok (.tuple #[]) f)/\
 (b f)/\
 Drw f λ c J=>
 Zb e λ y=>
 ∃ n:Option Addr,(At c y [.pointer n])/\
 Zb n λ i=>
 ∃ o:Option Nat,(At c ⟨i.block,i.off + 2,none⟩ [.map o])/\
 Zb d λ z=>
 ∃ p:ByteArray,(At c z [.string p])/\
 ∃ u:World,((Instr.mapUpdate 76 (.map o) (.string p) (.pointer G)).run prog J=.ok () u)/\
 K (.tuple #[]) u)
theorem Zth (d:Option Addr) (a:Option Addr) (b:Option Addr) (c:Option Addr) (K:Value->World->Prop) (w:World) (h:B172 d a b c K w):Zq prog 172 #[.pointer d,.pointer a,.pointer b,.pointer c] w K:=cq (sk:=.leaf) func172 (by kernel_rfl) (by kernel_rfl) (by kernel_rfl) h
def B142 (c:Option Addr) (l:ByteArray) (K:Value->World->Prop) (w:World):Prop:=
 Zb c λ k=>
 ∃ m:Option Nat,(At (λ b=>b=w) ⟨k.block,k.off + 2,none⟩ [.map m])/\
 ∃ n:Option Addr,∃ o:Bool,(∀ b,(λ b=>b=w) b->((Instr.lookup 76 (.map m) (.string l) true)).run prog b=.ok (.tuple #[.pointer n,.bool o]) b)/\
 Br o
 (Drw w λ f t=>
 Zb c λ g=>
 ∃ p:Int,(At f ⟨g.block,g.off + 1,none⟩ [.int .i64 p])/\
 Zb n λ s=>
 ∃ d:Sl,(At f (Addr.add s 0) [.slice d.a d.len d.cap])/\
 Zb c λ i=>
 ∃ e:World,((Instr.storeAt 3 (.pointer ((some ⟨i.block,i.off + 1,none⟩))) (.int .i64 (IntKind.i64.wrap (p - (↑d.len:Int))))).run prog t=.ok () e)/\
 Zb c λ j=>
 ∃ q:Option Nat,(At (λ b=>b=e) ⟨j.block,j.off + 2,none⟩ [.map q])/\
 ∃ r:World,((Builtin.delete_ #[76,9] 0 #[.map q,.string l]).run prog e=.ok (.tuple #[]) r)/\
 K (.tuple #[]) r)
 (K (.tuple #[]) w)
theorem ZqA (a:Option Addr) (b:ByteArray) (K:Value->World->Prop) (w:World) (h:B142 a b K w):Zq prog 142 #[.pointer a,.string b] w K:=cq (sk:=.leaf) func142 (by kernel_rfl) (by kernel_rfl) (by kernel_rfl) h
def B141 (k:Option Addr) (f:Option Addr) (g:Option Addr) (K:Value->World->Prop) (w:World):Prop:=
 Zb f λ d=>
 ∃ b:Option Addr,(At (λ a=>a=w) d [.pointer b])/\
 Zb g λ e=>
 ∃ c:ByteArray,(At (λ a=>a=w) e [.string c])/\
 Calls prog 142 #[.pointer b,.string c] w λ i j=>
 (i=.returned (.tuple #[]))/\
 K (.tuple #[]) j
theorem Ztz (c:Option Addr) (a:Option Addr) (b:Option Addr) (K:Value->World->Prop) (w:World) (h:B141 c a b K w):Zq prog 141 #[.pointer c,.pointer a,.pointer b] w K:=cq (sk:=.leaf) func141 (by kernel_rfl) (by kernel_rfl) (by kernel_rfl) h
end
section
open Go Go.VC Tryz
set_option maxRecDepth 10000
def B33 (f:Option Addr) (K:Value->World->Prop) (w:World):Prop:=
 Zb f λ c=>
 ∃ d:Option Nat,(At (λ j=>j=w) ⟨c.block,c.off + 2,none⟩ [.map d])/\
 Calls prog 76 #[.map d] w λ g k=>
 ∃ e:Value,(g=.returned (e))/\
 Calls prog 75 #[e] k λ i l=>
 ∃ b:Sl,(i=.returned (.slice b.a b.len b.cap))/\
 K (.slice b.a b.len b.cap) l
theorem ZvQ (a:Option Addr) (K:Value->World->Prop) (w:World) (h:B33 a K w):Zq prog 33 #[.pointer a] w K:=cq (sk:=.leaf) func33 (by kernel_rfl) (by kernel_rfl) (by kernel_rfl) h
end
section
open Go Go.VC Tryz
set_option maxRecDepth 10000
def B85 (b:Sl) (e:ByteArray) (K:Value->World->Prop) (w:World):Prop:=
 Calls prog 124 #[.slice b.a b.len b.cap,.string e] w λ d f=>
 ∃ c:Int,(d=.returned (.int .i64 c))/\
 K (.bool (decide (c >= 0))) f
theorem Zu3 (b:Sl) (c:ByteArray) (K:Value->World->Prop) (w:World) (h:B85 b c K w):Zq prog 85 #[.slice b.a b.len b.cap,.string c] w K:=cq (sk:=.leaf) func85 (by kernel_rfl) (by kernel_rfl) (by kernel_rfl) h
def B124 (e:Sl) (j:ByteArray) (K:Value->World->Prop) (w:World):Prop:=
 ∃ (d:Int->World->Prop) (g:Int->World->Nat),(d 0 w)/\∀ (l:Env) (b:Int) (c:World),d b c->
 Br (decide (b<(↑e.len:Int)))
 (Rng b e.len (Zb e.a λ i=>
 ∃ f:ByteArray,(At (λ k=>k=c) (Addr.add i b.toNat) [.string f])/\
 Br (j.toList==f.toList)
 (K (.int .i64 b) c)
 ((d (IntKind.i64.wrap (b + 1)) c)/\g (IntKind.i64.wrap (b + 1)) c<g b c)))
 (K (.int .i64 ((-1))) c)
def ZwX:Sk:=(.seq .leaf (.seq (.seq .leaf (.block (.loop [8] [(.int .i64)] [4,5,8,9,10,11,12,13,14,15,16,17,18] .leaf))) .leaf))
theorem ZtQ (b:Sl) (c:ByteArray) (K:Value->World->Prop) (w:World) (h:B124 b c K w):Zq prog 124 #[.slice b.a b.len b.cap,.string c] w K:=cq (sk:=ZwX) func124 (by kernel_rfl) (by kernel_rfl) (by kernel_rfl) h
def B57 (i:Int) (j:Int) (k:Int) (K:Value->World->Prop) (w:World):Prop:=
 New (.cells #[.int .i64 i,.int .i64 j,.int .i64 k] 96 (0,0)) (λ e d=>
 ∃ c:Int,(At (λ l=>l=d) ⟨e,0,none⟩ [.int .i64 c])/\
 Calls prog 105 #[.int .i64 c] d λ f m=>
 ∃ b:ByteArray,(f=.returned (.string b))/\
 Calls prog 106 #[.string (ByteArray.mk #[48]),.int .i64 (IntKind.i64.wrap (8 - (↑b.size:Int)))] m λ g n=>
 ∃ a:ByteArray,(g=.returned (.string a))/\
 (((↑((ByteArray.mk #[119,97,108,45]).size + a.size):Int):Int)<=9223372036854775807)/\
 (((↑((ByteArray.mk #[119,97,108,45]++a).size + b.size):Int):Int)<=9223372036854775807)/\
 K (.string (ByteArray.mk #[119,97,108,45]++a++b)) n) w
theorem Zvs (a:Int) (b:Int) (c:Int) (K:Value->World->Prop) (w:World) (h:B57 a b c K w):Zq prog 57 #[.agg #[.int .i64 a,.int .i64 b,.int .i64 c]] w K:=cq (sk:=.leaf) func57 (by kernel_rfl) (by kernel_rfl) (by kernel_rfl) h
def B64 (m:Sl) (y:Bool) (n:Sl) (K:Value->World->Prop) (w:World):Prop:=
 ∃ (l:Sl->Int->World->Prop) (r:Sl->Int->World->Nat),(l ⟨none,0,0⟩ 0 w)/\∀ (H:Env) (b:Sl) (c:Int) (j:World),l b c j->
 Br (decide (c<(↑n.len:Int)))
 (Rng c n.len (Zb n.a λ s=>
 ∃ p:Int,(At (λ C=>C=j) (Addr.add s c.toNat) [.int .i64 p])/\
 Calls prog 113 #[.int .u64 (IntKind.u64.wrap p)] j λ t D=>
 ∃ d:Sl,(t=.returned (.slice d.a d.len d.cap))/\
 ∃ o:World,∃ k:Sl,((Builtin.append_ #[53,53] 53 #[.slice b.a b.len b.cap,.slice d.a d.len d.cap]).run prog D=.ok (.slice k.a k.len k.cap) o)/\
 (l k (IntKind.i64.wrap (c + 1)) o)/\r k (IntKind.i64.wrap (c + 1)) o<r b c j))
 (Br y
 (Calls prog 114 #[.slice m.a m.len m.cap] j λ u E=>
 ∃ e:Sl,(u=.returned (.slice e.a e.len e.cap))/\
 ∃ q:World,∃ f:Sl,((Builtin.append_ #[53,53] 53 #[.slice b.a b.len b.cap,.slice e.a e.len e.cap]).run prog E=.ok (.slice f.a f.len f.cap) q)/\
 Calls prog 112 #[.slice f.a f.len f.cap] q λ v F=>
 ∃ g:Sl,∃ z:Int,(v=.returned (.tuple #[.slice g.a g.len g.cap,.int .i64 z]))/\
 K (.slice g.a g.len g.cap) F)
 (Calls prog 112 #[.slice b.a b.len b.cap] j λ x G=>
 ∃ i:Sl,∃ A:Int,(x=.returned (.tuple #[.slice i.a i.len i.cap,.int .i64 A]))/\
 K (.slice i.a i.len i.cap) G))
def sk64:Sk:=(.seq .leaf (.seq .leaf (.seq (.seq .leaf (.block (.loop [7,14] [.sl,(.int .i64)] [7,9,14,15,16,17,18,19,20,21,22,23] .leaf))) .leaf)))
theorem Zvl (b:Sl) (d:Bool) (c:Sl) (K:Value->World->Prop) (w:World) (h:B64 b d c K w):Zq prog 64 #[.slice b.a b.len b.cap,.bool d,.slice c.a c.len c.cap] w K:=cq (sk:=sk64) func64 (by kernel_rfl) (by kernel_rfl) (by kernel_rfl) h
def B156 (c:Option Addr) (K:Value->World->Prop) (w:World):Prop:=
 Calls prog 155 #[.pointer c,.int .u64 1099511627777] w λ b d=>
 ∃ a:Int,(b=.returned (.int .u64 a))/\
 K (.int .i64 (IntKind.i64.wrap a)) d
theorem Ztu (a:Option Addr) (K:Value->World->Prop) (w:World) (h:B156 a K w):Zq prog 156 #[.pointer a] w K:=cq (sk:=.leaf) func156 (by kernel_rfl) (by kernel_rfl) (by kernel_rfl) h
def B52 (e:Option Addr) (K:Value->World->Prop) (w:World):Prop:=
 Drw w λ c i=>
 Zb e λ g=>
 ∃ f:Int,(At c (Addr.add g 0) [.int .i64 f])/\
 Zb e λ d=>
 ∃ b:Sl,(At c ⟨d.block,d.off + 1,none⟩ [.slice b.a b.len b.cap])/\
 K (.int .i64 (IntKind.i64.wrap (f + (↑b.len:Int)))) i
theorem Zvx (a:Option Addr) (K:Value->World->Prop) (w:World) (h:B52 a K w):Zq prog 52 #[.pointer a] w K:=cq (sk:=.leaf) func52 (by kernel_rfl) (by kernel_rfl) (by kernel_rfl) h
def B110 (d:Option Addr) (a:Option Addr) (K:Value->World->Prop) (w:World):Prop:=
 Calls prog 155 #[.pointer a,.int .u64 3] w λ i c=>
 ∃ b:Int,(i=.returned (.int .u64 b))/\
 Br (b==1)
 (Calls prog 158 #[.pointer d,.pointer a] c λ j m=>
 ∃ e:Bool,(j=.returned (.bool e))/\
 K (.bool e) m)
 (Br (b==2)
 (Calls prog 159 #[.pointer d,.pointer a] c λ k n=>
 ∃ f:Bool,(k=.returned (.bool f))/\
 K (.bool f) n)
 (Br (b==3)
 (Calls prog 160 #[.pointer d,.pointer a] c λ l o=>
 ∃ g:Bool,(l=.returned (.bool g))/\
 K (.bool g) o)
 (K (.bool false) c)))
theorem Zt1 (a:Option Addr) (b:Option Addr) (K:Value->World->Prop) (w:World) (h:B110 a b K w):Zq prog 110 #[.pointer a,.pointer b] w K:=cq (sk:=.leaf) func110 (by kernel_rfl) (by kernel_rfl) (by kernel_rfl) h
def B158 (l:Option Addr) (g:Option Addr) (K:Value->World->Prop) (w:World):Prop:=
 Calls prog 156 #[.pointer g] w λ J T=>
 ∃ A:Int,(J=.returned (.int .i64 A))/\
 Calls prog 155 #[.pointer g,.int .u64 1099511627776] T λ L V=>
 ∃ C:Int,(L=.returned (.int .u64 C))/\
 Calls prog 155 #[.pointer g,.int .u64 7] V λ M X=>
 ∃ r:Int,(M=.returned (.int .u64 r))/\
 New (.cells #[.int .i64 0,.int .i64 0,.int .i64 0,.slice none 0 0] 55 (0,0)) (λ f Y=>
 ∃ G:World,((Instr.storeAt 55 (.pointer ((some ⟨f,0,none⟩))) (.agg #[.int .i64 A,.int .i64 (IntKind.i64.wrap C),.int .i64 (IntKind.i64.wrap r),.slice none 0 0])).run prog Y=.ok () G)/\
 Calls prog 194 #[.pointer g,.int .i64 4096] G λ N Z=>
 ∃ b:Sl,(N=.returned (.slice b.a b.len b.cap))/\
 ∃ H:World,((Instr.storeAt 53 (.pointer ((some ⟨f,0 + 3,none⟩))) (.slice b.a b.len b.cap)).run prog Z=.ok () H)/\
 ∃ (o:World->Prop),(Drw H λ i aa=>
 Calls prog 157 #[.pointer g] aa λ O k=>
 ∃ s:Bool,(O=.returned (.bool s))/\
 (i k)/\
 Br (!s)
 (K (.bool false) k)
 (∃ t:Int,(At i ⟨f,0,none⟩ [.int .i64 t])/\
 Br (decide (t>1099511627776))
 (K (.bool false) k)
 (∃ u:Int,(At i ⟨f,0,none⟩ [.int .i64 u])/\
 Calls prog 52 #[.pointer l] k λ Q m=>
 ∃ v:Int,(Q=.returned (.int .i64 v))/\
 (i m)/\
 Br (u !=IntKind.i64.wrap (v + 1))
 (K (.bool false) m)
 (o  m))))/\
 ∀ (ab:Env)  (D:World),o  D->
 Drw D λ j U=>
 Zb l λ p=>
 ∃ c:Sl,(At j ⟨p.block,p.off + 1,none⟩ [.slice c.a c.len c.cap])/\
 ∃ x:Int,∃ y:Int,∃ z:Int,∃ d:Sl,(At j ⟨f,0,none⟩ [.int .i64 x,.int .i64 y,.int .i64 z,.slice d.a d.len d.cap])/\
 New (.cells #[.int .i64 x,.int .i64 y,.int .i64 z,.slice d.a d.len d.cap] 55 (0,0)) (λ I E=>
 (j E)/\
 ∃ n:World,∃ e:Sl,((Builtin.append_ #[40,40] 40 #[.slice c.a c.len c.cap,.slice ((some ⟨I,0,none⟩)) 1 1]).run prog E=.ok (.slice e.a e.len e.cap) n)/\
 (j n)/\
 Zb l λ q=>
 ∃ F:World,((Instr.storeAt 40 (.pointer ((some ⟨q.block,q.off + 1,none⟩))) (.slice e.a e.len e.cap)).run prog n=.ok () F)/\
 K (.bool true) F) U) X
def ZwT:Sk:=(.seq .leaf (.seq .leaf (.seq .leaf (.cut [] [] [4,18,19,20,21,22,23,24,25,26,27,28,29,30,31,32,33] .leaf .leaf))))
theorem Zts (a:Option Addr) (b:Option Addr) (K:Value->World->Prop) (w:World) (h:B158 a b K w):Zq prog 158 #[.pointer a,.pointer b] w K:=cq (sk:=ZwT) func158 (by kernel_rfl) (by kernel_rfl) (by kernel_rfl) h
def B159 (c:Option Addr) (m:Option Addr) (K:Value->World->Prop) (w:World):Prop:=
 Calls prog 156 #[.pointer m] w λ A G=>
 ∃ b:Int,(A=.returned (.int .i64 b))/\
 ∃ (i:Bool->World->Prop),(Calls prog 157 #[.pointer m] G λ C r=>
 ∃ n:Bool,(C=.returned (.bool n))/\
 Br (!n)
 (i true r)
 (i (decide (b<1)) r))/\
 ∀ (I:Env) (q:Bool) (f:World),i q f->
 Br q
 (K (.bool false) f)
 (Zb c λ x=>
 ∃ o:Int,(At (λ F=>F=f) (Addr.add x 0) [.int .i64 o])/\
 Br (decide (b<=o))
 (Zb c λ y=>
 ∃ s:World,((Instr.storeAt 83 (.pointer ((some (y)))) (.agg #[.int .i64 (IntKind.i64.wrap (b - 1)),.slice none 0 0])).run prog f=.ok () s)/\
 K (.bool true) s)
 (Calls prog 52 #[.pointer c] f λ D t=>
 ∃ p:Int,(D=.returned (.int .i64 p))/\
 Br (decide (b<=p))
 (Drw t λ j H=>
 Zb c λ k=>
 ∃ d:Sl,(At j ⟨k.block,k.off + 1,none⟩ [.slice d.a d.len d.cap])/\
 Zb c λ z=>
 ∃ g:Int,(At j (Addr.add z 0) [.int .i64 g])/\
 ((0:Int)<=IntKind.i64.wrap (IntKind.i64.wrap (b - 1) - g))/\
 ((IntKind.i64.wrap (IntKind.i64.wrap (b - 1) - g):Int)<=(↑d.cap:Int))/\
 Calls prog 65 #[.slice d.a ((IntKind.i64.wrap (IntKind.i64.wrap (b - 1) - g)).toNat) d.cap] H λ E u=>
 ∃ e:Sl,(E=.returned (.slice e.a e.len e.cap))/\
 (j u)/\
 Zb c λ l=>
 ∃ v:World,((Instr.storeAt 40 (.pointer ((some ⟨l.block,l.off + 1,none⟩))) (.slice e.a e.len e.cap)).run prog u=.ok () v)/\
 K (.bool true) v)
 (K (.bool true) t)))
def ZwS:Sk:=(.seq .leaf (.seq .leaf (.seq (.block (.cut [8] [.bool] [8,9,10,11,12,13,14,15] .leaf .leaf)) .leaf)))
theorem Ztr (a:Option Addr) (b:Option Addr) (K:Value->World->Prop) (w:World) (h:B159 a b K w):Zq prog 159 #[.pointer a,.pointer b] w K:=cq (sk:=ZwS) func159 (by kernel_rfl) (by kernel_rfl) (by kernel_rfl) h
def B160 (j:Option Addr) (c:Option Addr) (K:Value->World->Prop) (w:World):Prop:=
 Calls prog 156 #[.pointer c] w λ g k=>
 ∃ a:Int,(g=.returned (.int .i64 a))/\
 Calls prog 157 #[.pointer c] k λ i b=>
 ∃ d:Bool,(i=.returned (.bool d))/\
 Br (!d)
 (K (.bool false) b)
 (Br (decide (a<1))
 (K (.bool false) b)
 (Zb j λ f=>
 ∃ e:World,((Instr.storeAt 83 (.pointer ((some (f)))) (.agg #[.int .i64 (IntKind.i64.wrap (a - 1)),.slice none 0 0])).run prog b=.ok () e)/\
 K (.bool true) e))
theorem Ztq (a:Option Addr) (b:Option Addr) (K:Value->World->Prop) (w:World) (h:B160 a b K w):Zq prog 160 #[.pointer a,.pointer b] w K:=cq (sk:=.leaf) func160 (by kernel_rfl) (by kernel_rfl) (by kernel_rfl) h
def B109 (c:Sl) (n:Int) (K:Value->World->Prop) (w:World):Prop:=
 Calls prog 111 #[.slice c.a c.len c.cap] w λ i p=>
 ∃ b:Option Addr,(i=.returned (.pointer b))/\
 Calls prog 155 #[.pointer b,.int .u64 0] p λ j q=>
 ∃ o:Int,(j=.returned (.int .u64 o))/\
 Calls prog 155 #[.pointer b,.int .u64 99999999] q λ k r=>
 ∃ e:Int,(k=.returned (.int .u64 e))/\
 Calls prog 156 #[.pointer b] r λ l s=>
 ∃ f:Int,(l=.returned (.int .i64 f))/\
 Calls prog 157 #[.pointer b] s λ m d=>
 ∃ g:Bool,(m=.returned (.bool g))/\
 Br (!g)
 (K (.int .i64 0) d)
 (Br (IntKind.i64.wrap e !=n)
 (K (.int .i64 0) d)
 (K (.int .i64 f) d))
theorem Zt2 (b:Sl) (c:Int) (K:Value->World->Prop) (w:World) (h:B109 b c K w):Zq prog 109 #[.slice b.a b.len b.cap,.int .i64 c] w K:=cq (sk:=.leaf) func109 (by kernel_rfl) (by kernel_rfl) (by kernel_rfl) h
def B107 (k:Sl) (K:Value->World->Prop) (w:World):Prop:=
 ∃ (f:Sl->Int->World->Prop) (d:Sl->Int->World->Nat),(f ⟨none,0,0⟩ 0 w)/\∀ (E:Env) (b:Sl) (c:Int) (e:World),f b c e->
 Br (decide (c<(↑k.len:Int)))
 (Rng c k.len (Zb k.a λ u=>
 ∃ q:ByteArray,(At (λ C=>C=e) (Addr.add u c.toNat) [.string q])/\
 Calls prog 150 #[.string q,.string (ByteArray.mk #[119,97,108,45])] e λ x i=>
 ∃ j:ByteArray,∃ r:Bool,(x=.returned (.tuple #[.string j,.bool r]))/\
 ∃ (p:World->Prop),(Br (!r)
 ((f b (IntKind.i64.wrap (c + 1)) i)/\d b (IntKind.i64.wrap (c + 1)) i<d b c e)
 (Br ((↑j.size:Int) !=8)
 ((f b (IntKind.i64.wrap (c + 1)) i)/\d b (IntKind.i64.wrap (c + 1)) i<d b c e)
 (Calls prog 152 #[.string j,.func (.func 151) #[] #[]] i λ y m=>
 ∃ s:Bool,(y=.returned (.bool s))/\
 Br s
 ((f b (IntKind.i64.wrap (c + 1)) m)/\d b (IntKind.i64.wrap (c + 1)) m<d b c e)
 (p  m))))/\
 ∀ (F:Env)  (t:World),p  t->
 Calls prog 153 #[.string j] t λ z n=>
 ∃ l:Int,∃ A:Value,(z=.returned (.tuple #[.int .i64 l,A]))/\
 Br (decide (l>0))
 (New (.cells #[.int .i64 l] 3 (0,0)) (λ v D=>
 ∃ o:World,∃ g:Sl,((Builtin.append_ #[41,41] 41 #[.slice b.a b.len b.cap,.slice ((some ⟨v,0,none⟩)) 1 1]).run prog D=.ok (.slice g.a g.len g.cap) o)/\
 (f g (IntKind.i64.wrap (c + 1)) o)/\d g (IntKind.i64.wrap (c + 1)) o<d b c e) n)
 ((f b (IntKind.i64.wrap (c + 1)) n)/\d b (IntKind.i64.wrap (c + 1)) n<d b c e)))
 (K (.slice b.a b.len b.cap) e)
def Zw1:Sk:=(.seq .leaf (.seq .leaf (.seq (.seq .leaf (.block (.loop [3,13] [.sl,(.int .i64)] [3,5,6,7,8,9,10,13,14,15,16,17,18,19,20,21,22,23,24,25,26,27,28,29,30,31,32,33,34,35,36,37,38,39,40,41,42,43,44,45] (.seq .leaf (.seq .leaf (.seq (.block (.seq .leaf (.seq .leaf (.seq .leaf (.cut [] [] [22,23,24,25,26,27,28,29,30,31,32,33] .leaf .leaf))))) .leaf)))))) .leaf)))
theorem Zt4 (b:Sl) (K:Value->World->Prop) (w:World) (h:B107 b K w):Zq prog 107 #[.slice b.a b.len b.cap] w K:=cq (sk:=Zw1) func107 (by kernel_rfl) (by kernel_rfl) (by kernel_rfl) h
def B151 (a:Int) (K:Value->World->Prop) (w:World):Prop:=
 Br (decide (a<48))
 (K (.bool true) w)
 (K (.bool (decide (a>57))) w)
theorem Zty (a:Int) (K:Value->World->Prop) (w:World) (h:B151 a K w):Zq prog 151 #[.int .i32 a] w K:=cq (sk:=.leaf) func151 (by kernel_rfl) (by kernel_rfl) (by kernel_rfl) h
def B58 (i:Option Addr) (K:Value->World->Prop) (w:World):Prop:=
 Zb i λ V=>
 ∃ av:World,((Instr.storeAt 83 (.pointer ((some ⟨V.block,V.off + 2,none⟩))) (.agg #[.int .i64 0,.slice none 0 0])).run prog w=.ok () av)/\
 Zb i λ X=>
 ∃ L:World,((Instr.storeAt 84 (.pointer ((some ⟨X.block,X.off + 4,none⟩))) (.slice none 0 0)).run prog av=.ok () L)/\
 Zb i λ be=>
 ∃ ag:Option Addr,(At (λ e=>e=L) (Addr.add be 0) [.pointer ag])/\
 Calls prog 33 #[.pointer ag] L λ bm b7=>
 ∃ p:Sl,(bm=.returned (.slice p.a p.len p.cap))/\
 Calls prog 107 #[.slice p.a p.len p.cap] b7 λ bn cc=>
 ∃ c:Sl,(bn=.returned (.slice c.a c.len c.cap))/\
 ∃ (E:Int->World->Prop) (bb:Int->World->Nat),(E 0 cc)/\∀ (cj:Env) (b:Int) (y:World),E b y->
 Br (decide (b<(↑c.len:Int)))
 (Rng b c.len (Zb c.a λ bf=>
 ∃ q:Int,(At (λ e=>e=y) (Addr.add bf b.toNat) [.int .i64 q])/\
 New (.cells #[.int .i64 0,.int .i64 0,.int .i64 0] 96 (0,0)) (λ d cd=>
 ∃ a9:World,((Instr.storeAt 96 (.pointer ((some ⟨d,0,none⟩))) (.agg #[.int .i64 q,.int .i64 0,.int .i64 0])).run prog cd=.ok () a9)/\
 Drw a9 λ A ce=>
 Zb i λ bg=>
 ∃ ah:Option Addr,(At A (Addr.add bg 0) [.pointer ah])/\
 ∃ ai:Int,∃ aj:Int,∃ ak:Int,(At A ⟨d,0,none⟩ [.int .i64 ai,.int .i64 aj,.int .i64 ak])/\
 Calls prog 57 #[.agg #[.int .i64 ai,.int .i64 aj,.int .i64 ak]] ce λ bq ba=>
 ∃ al:ByteArray,(bq=.returned (.string al))/\
 (A ba)/\
 Calls prog 44 #[.pointer ah,.string al] ba λ br aw=>
 ∃ j:Sl,∃ b0:Int,(br=.returned (.tuple #[.slice j.a j.len j.cap,.int .i64 b0]))/\
 (A aw)/\
 Calls prog 108 #[.slice j.a j.len j.cap] aw λ bs l=>
 ∃ f:Sl,∃ I:Int,(bs=.returned (.tuple #[.slice f.a f.len f.cap,.int .i64 I]))/\
 ∃ (t:World->Prop),(Br (decide ((↑f.len:Int)>0))
 (Br (b==0)
 (Rng 0 f.len (Zb f.a λ bi=>
 ∃ r:Sl,(At (λ e=>e=l) (Addr.add bi 0) [.slice r.a r.len r.cap])/\
 Calls prog 109 #[.slice r.a r.len r.cap,.int .i64 q] l λ bt b1=>
 ∃ an:Int,(bt=.returned (.int .i64 an))/\
 ∃ ax:World,((Instr.storeAt 3 (.pointer ((some ⟨d,0 + 1,none⟩))) (.int .i64 an)).run prog b1=.ok () ax)/\
 t  ax))
 (Rng (IntKind.i64.wrap (b - 1)) c.len (Zb c.a λ bh=>
 ∃ am:Int,(At (λ e=>e=l) (Addr.add bh ((IntKind.i64.wrap (b - 1)).toNat)) [.int .i64 am])/\
 Br (q==IntKind.i64.wrap (am + 1))
 (Rng 0 f.len (Zb f.a λ bj=>
 ∃ s:Sl,(At (λ e=>e=l) (Addr.add bj 0) [.slice s.a s.len s.cap])/\
 Calls prog 109 #[.slice s.a s.len s.cap,.int .i64 q] l λ bu b2=>
 ∃ ao:Int,(bu=.returned (.int .i64 ao))/\
 ∃ ay:World,((Instr.storeAt 3 (.pointer ((some ⟨d,0 + 1,none⟩))) (.int .i64 ao)).run prog b2=.ok () ay)/\
 t  ay))
 (t  l))))
 (t  l))/\
 ∀ (ck:Env)  (az:World),t  az->
 ∃ (G:World->Prop),(∃ (z:Bool->World->Prop),(Drw az λ H J=>
 ∃ aq:Int,(At H ⟨d,0 + 1,none⟩ [.int .i64 aq])/\
 Br (aq==0)
 (z true J)
 (Br (decide (b>0))
 (∃ ar:Int,(At H ⟨d,0 + 1,none⟩ [.int .i64 ar])/\
 Zb i λ Y=>
 Calls prog 52 #[.pointer ((some ⟨Y.block,Y.off + 2,none⟩))] J λ bv a0=>
 ∃ au:Int,(bv=.returned (.int .i64 au))/\
 (H a0)/\
 z (ar !=IntKind.i64.wrap (au + 1)) a0)
 (z false J)))/\
 ∀ (cl:Env) (ap:Bool) (x:World),z ap x->
 Br ap
 (Drw x λ cf b3=>
 ((0:Int)<=IntKind.i64.wrap (b + 1))/\
 ((IntKind.i64.wrap (b + 1):Int)<=(↑c.len:Int))/\
 K (.tuple #[.pointer ((some ⟨d,0,none⟩)),.slice (ZcW c.a (IntKind.i64.wrap (b + 1)).toNat c.cap 1) (c.len - (IntKind.i64.wrap (b + 1)).toNat) (c.cap - (IntKind.i64.wrap (b + 1)).toNat)]) b3)
 (Br (b==0)
 (∃ Z:Int,(At (λ e=>e=x) ⟨d,0 + 1,none⟩ [.int .i64 Z])/\
 Zb i λ O=>
 ∃ a1:World,((Instr.storeAt 3 (.pointer ((some ⟨O.block,O.off + 2,none⟩))) (.int .i64 (IntKind.i64.wrap (Z - 1)))).run prog x=.ok () a1)/\
 G  a1)
 (G  x)))/\
 ∀ (cm:Env)  (a2:World),G  a2->
 ∃ a3:World,((Instr.storeAt 3 (.pointer ((some ⟨d,0 + 2,none⟩))) (.int .i64 ((↑j.len:Int)))).run prog a2=.ok () a3)/\
 Drw a3 λ C b4=>
 Zb i λ Q=>
 ∃ n:Sl,(At C ⟨Q.block,Q.off + 4,none⟩ [.slice n.a n.len n.cap])/\
 ∃ aa:Int,∃ ab:Int,∃ ac:Int,(At C ⟨d,0,none⟩ [.int .i64 aa,.int .i64 ab,.int .i64 ac])/\
 New (.cells #[.int .i64 aa,.int .i64 ab,.int .i64 ac] 96 (0,0)) (λ bk a4=>
 (C a4)/\
 ∃ M:World,∃ o:Sl,((Builtin.append_ #[84,84] 84 #[.slice n.a n.len n.cap,.slice ((some ⟨bk,0,none⟩)) 1 1]).run prog a4=.ok (.slice o.a o.len o.cap) M)/\
 (C M)/\
 Zb i λ T=>
 ∃ N:World,((Instr.storeAt 84 (.pointer ((some ⟨T.block,T.off + 4,none⟩))) (.slice o.a o.len o.cap)).run prog M=.ok () N)/\
 ∃ ad:Int,(At (λ e=>e=N) ⟨d,0 + 1,none⟩ [.int .i64 ad])/\
 New (.cells #[.int .i64 0,.int .i64 q,.int .i64 ad] 3 (0,0)) (λ bl b5=>
 Calls prog 64 #[.slice none 0 0,.bool false,.slice ((some ⟨bl,0,none⟩)) 3 3] b5 λ bw b6=>
 ∃ D:Sl,(bw=.returned (.slice D.a D.len D.cap))/\
 ((0:Int)<=1)/\
 ((1:Int)<=(↑f.len:Int))/\
 ∃ (F:Int->Int->World->Prop) (bc:Int->Int->World->Nat),(F ((↑D.len:Int)) 0 b6)/\∀ (cn:Env) (u:Int) (k:Int) (m:World),F u k m->
 Br (decide (k<(↑(f.len - Int.toNat 1):Int)))
 (Rng k (f.len - Int.toNat 1) (Zb (ZcW f.a (Int.toNat 1) f.cap 1) λ bd=>
 ∃ g:Sl,(At (λ e=>e=m) (Addr.add bd k.toNat) [.slice g.a g.len g.cap])/\
 Drw m λ cg b8=>
 Zb i λ U=>
 Calls prog 111 #[.slice g.a g.len g.cap] b8 λ bx b9=>
 ∃ ae:Option Addr,(bx=.returned (.pointer ae))/\
 Calls prog 110 #[.pointer ((some ⟨U.block,U.off + 2,none⟩)),.pointer ae] b9 λ bo a5=>
 ∃ af:Bool,(bo=.returned (.bool af))/\
 Br (!af)
 (∃ a6:World,((Instr.storeAt 3 (.pointer ((some ⟨d,0 + 2,none⟩))) (.int .i64 u)).run prog a5=.ok () a6)/\
 Drw a6 λ ch ca=>
 ((0:Int)<=IntKind.i64.wrap (b + 1))/\
 ((IntKind.i64.wrap (b + 1):Int)<=(↑c.len:Int))/\
 K (.tuple #[.pointer ((some ⟨d,0,none⟩)),.slice (ZcW c.a (IntKind.i64.wrap (b + 1)).toNat c.cap 1) (c.len - (IntKind.i64.wrap (b + 1)).toNat) (c.cap - (IntKind.i64.wrap (b + 1)).toNat)]) ca)
 (Calls prog 112 #[.slice g.a g.len g.cap] a5 λ bp a7=>
 ∃ v:Sl,∃ bz:Int,(bp=.returned (.tuple #[.slice v.a v.len v.cap,.int .i64 bz]))/\
 (F (IntKind.i64.wrap (u + (↑v.len:Int))) (IntKind.i64.wrap (k + 1)) a7)/\bc (IntKind.i64.wrap (u + (↑v.len:Int))) (IntKind.i64.wrap (k + 1)) a7<bc u k m)))
 (Br (I==(↑j.len:Int))
 ((E (IntKind.i64.wrap (b + 1)) m)/\bb (IntKind.i64.wrap (b + 1)) m<bb b y)
 (∃ a8:World,((Instr.storeAt 3 (.pointer ((some ⟨d,0 + 2,none⟩))) (.int .i64 I)).run prog m=.ok () a8)/\
 Drw a8 λ ci cb=>
 ((0:Int)<=IntKind.i64.wrap (b + 1))/\
 ((IntKind.i64.wrap (b + 1):Int)<=(↑c.len:Int))/\
 K (.tuple #[.pointer ((some ⟨d,0,none⟩)),.slice (ZcW c.a (IntKind.i64.wrap (b + 1)).toNat c.cap 1) (c.len - (IntKind.i64.wrap (b + 1)).toNat) (c.cap - (IntKind.i64.wrap (b + 1)).toNat)]) cb))) N) b4) y))
 (K (.tuple #[.pointer none,.slice none 0 0]) y)
def sk58:Sk:=(.seq .leaf (.block (.seq .leaf (.seq .leaf (.seq .leaf (.seq (.seq .leaf (.block (.loop [32] [(.int .i64)] [2,3,5,6,7,8,9,10,11,12,14,15,16,32,33,34,35,36,37,38,39,40,41,42,43,44,45,46,47,48,49,50,51,52,53,54,55,56,57,58,59,60,61,62,63,64,65,66,67,68,69,70,71,72,73,74,75,76,77,78,79,80,81,82,83,84,85,86,87,88,89,90,91,92,93,94,95,96,97,98,99,100,101,102,103,104,105,106,107,108,109,110,111,112,113,114,115,116,117,118,119,120,121,122,123,124,125,126,127,128,129,130,131,132,133,134,135,136,137,138,139,140,141,142,143,144,145,146,147,148,149,150,151,152,153,154,155,156,157,158,159,160,161,162,163,164,165,166,167,168] (.seq .leaf (.seq .leaf (.seq (.block (.seq .leaf (.seq .leaf (.seq .leaf (.seq .leaf (.cut [] [] [54,55,56,57,58,59,60,61,62,63,64,65,66,67,68,69,70,71,72,73,74,75,76] .leaf (.cut [] [] [2,3,77,78,79,80,81,82,83,84,85,86,87,88,89,90,91,92,93,94,95,96,97,98,99,100,101,102,103,104,105,106,107,108] (.block (.cut [77] [.bool] [77,78,79,80,81,82,83,84,85,86,87,88,89,90,91,92,93,94] .leaf .leaf)) (.seq .leaf (.seq .leaf (.seq .leaf (.seq (.seq .leaf (.block (.loop [12,131] [(.int .i64),(.int .i64)] [2,3,12,14,15,16,131,132,133,134,135,136,137,138,139,140,141,142,143,144,145,146,147,148,149,150,151,152,153,154,155,156,157] .leaf))) .leaf))))))))))) .leaf)))))) .leaf))))))
theorem Zvr (a:Option Addr) (K:Value->World->Prop) (w:World) (h:B58 a K w):Zq prog 58 #[.pointer a] w K:=cq (sk:=sk58) func58 (by kernel_rfl) (by kernel_rfl) (by kernel_rfl) h
def B13 (a:Option Addr) (b:Int) (K:Value->World->Prop) (w:World):Prop:=
 ∃ (d:World->Prop),(Br a.isNone
 (K (.tuple #[.pointer none,.int .i64 1]) w)
 (Br (decide (b<32))
 (K (.tuple #[.pointer none,.int .i64 1]) w)
 (Br (decide (b>65536))
 (K (.tuple #[.pointer none,.int .i64 1]) w)
 (Calls prog 40 #[.pointer a] w λ k g=>
 ∃ f:Bool,(k=.returned (.bool f))/\
 Br f
 (K (.tuple #[.pointer none,.int .i64 5]) g)
 (d  g)))))/\
 ∀ (n:Env)  (i:World),d  i->
 New (.cells #[.pointer a,.int .i64 b,.int .i64 0,.slice none 0 0,.slice none 0 0,.bool false] 86 (0,0)) (λ e m=>
 Calls prog 41 #[.pointer ((some ⟨e,0,none⟩))] m λ l j=>
 ∃ c:Int,(l=.returned (.int .i64 c))/\
 Br (c !=0)
 (K (.tuple #[.pointer none,.int .i64 c]) j)
 (K (.tuple #[.pointer ((some ⟨e,0,none⟩)),.int .i64 0]) j)) i
def sk13:Sk:=(.seq .leaf (.cut [] [] [4,5,8,9,10,11,12,13,14,15,16,17,18,19,20,21] .leaf .leaf))
theorem Zv9 (a:Option Addr) (b:Int) (K:Value->World->Prop) (w:World) (h:B13 a b K w):Zq prog 13 #[.pointer a,.int .i64 b] w K:=cq (sk:=sk13) func13 (by kernel_rfl) (by kernel_rfl) (by kernel_rfl) h
def B90 (e:Sl) (K:Value->World->Prop) (w:World):Prop:=
 ∃ (d:Int->World->Prop) (j:Int->World->Nat),(d 0 w)/\∀ (n:Env) (b:Int) (c:World),d b c->
 Br (decide (b<(↑e.len:Int)))
 (Rng b e.len (Zb e.a λ k=>
 ∃ i:Value,(At (λ m=>m=c) (Addr.add k b.toNat) [i])/\
 Zcm prog cl i [] c λ l g=>
 ∃ f:Int,(l=.returned (.int .i64 f))/\
 Br (f !=0)
 (K (.int .i64 f) g)
 ((d (IntKind.i64.wrap (b + 1)) g)/\j (IntKind.i64.wrap (b + 1)) g<j b c)))
 (K (.int .i64 0) c)
def sk90:Sk:=(.seq .leaf (.seq (.seq .leaf (.block (.loop [8] [(.int .i64)] [2,4,5,8,9,10,11,12,13,14,15,16,17] .leaf))) .leaf))
theorem ZuY (b:Sl) (K:Value->World->Prop) (w:World) (h:B90 b K w):Zq prog 90 #[.slice b.a b.len b.cap] w K:=cq (sk:=sk90) func90 (by kernel_rfl) (by kernel_rfl) (by kernel_rfl) h
def B56 (d:Option Addr) (c:ByteArray) (K:Value->World->Prop) (w:World):Prop:=
 New (.cells #[.pointer d] 31 (0,0)) (λ b e=>
 New (.cells #[.string c] 9 (0,0)) (λ a f=>
 K (.func (.func 103) #[] #[.pointer ((some ⟨b,0,none⟩)),.pointer ((some ⟨a,0,none⟩))]) f) e) w
theorem Zvt (b:Option Addr) (a:ByteArray) (K:Value->World->Prop) (w:World) (h:B56 b a K w):Zq prog 56 #[.pointer b,.string a] w K:=cq (sk:=.leaf) func56 (by kernel_rfl) (by kernel_rfl) (by kernel_rfl) h
def B103 (k:Option Addr) (l:Option Addr) (K:Value->World->Prop) (w:World):Prop:=
 Drw w λ a n=>
 Zb k λ g=>
 ∃ b:Option Addr,(At a g [.pointer b])/\
 Zb b λ i=>
 ∃ c:Option Addr,(At a (Addr.add i 0) [.pointer c])/\
 Zb l λ j=>
 ∃ d:ByteArray,(At a j [.string d])/\
 Calls prog 104 #[.pointer c,.string d] n λ m f=>
 ∃ e:Int,(m=.returned (.int .i64 e))/\
 (a f)/\
 K (.int .i64 e) f
theorem Zt6 (a:Option Addr) (b:Option Addr) (K:Value->World->Prop) (w:World) (h:B103 a b K w):Zq prog 103 #[.pointer a,.pointer b] w K:=cq (sk:=.leaf) func103 (by kernel_rfl) (by kernel_rfl) (by kernel_rfl) h
def B86 (m:Option Addr) (n:Option Addr) (K:Value->World->Prop) (w:World):Prop:=
 Drw w λ a p=>
 Zb m λ j=>
 ∃ b:Option Addr,(At a j [.pointer b])/\
 Zb n λ k=>
 ∃ c:Option Addr,(At a k [.pointer c])/\
 Zb c λ l=>
 ∃ d:Int,∃ e:Int,∃ f:Int,(At a l [.int .i64 d,.int .i64 e,.int .i64 f])/\
 Calls prog 87 #[.pointer b,.agg #[.int .i64 d,.int .i64 e,.int .i64 f]] p λ o i=>
 ∃ g:Int,(o=.returned (.int .i64 g))/\
 (a i)/\
 K (.int .i64 g) i
theorem Zu2 (a:Option Addr) (b:Option Addr) (K:Value->World->Prop) (w:World) (h:B86 a b K w):Zq prog 86 #[.pointer a,.pointer b] w K:=cq (sk:=.leaf) func86 (by kernel_rfl) (by kernel_rfl) (by kernel_rfl) h
def B88 (d:Option Addr) (K:Value->World->Prop) (w:World):Prop:=
 Zb d λ c=>
 ∃ a:Option Addr,(At (λ f=>f=w) c [.pointer a])/\
 Calls prog 89 #[.pointer a,.int .i64 1,.int .i64 1] w λ e g=>
 ∃ b:Int,(e=.returned (.int .i64 b))/\
 K (.int .i64 b) g
theorem Zu0 (a:Option Addr) (K:Value->World->Prop) (w:World) (h:B88 a K w):Zq prog 88 #[.pointer a] w K:=cq (sk:=.leaf) func88 (by kernel_rfl) (by kernel_rfl) (by kernel_rfl) h
def B87 (br:Option Addr) (bo:Int) (bp:Int) (bq:Int) (K:Value->World->Prop) (w:World):Prop:=
 New (.cells #[.pointer br] 31 (0,0)) (λ c bs=>
 New (.cells #[.int .i64 bo,.int .i64 bp,.int .i64 bq] 96 (0,0)) (λ d p=>
 ∃ (A:World->Prop),(∃ ao:Int,(At (λ o=>o=p) ⟨d,0 + 1,none⟩ [.int .i64 ao])/\
 Br (ao==0)
 (Drw p λ k bw=>
 ∃ N:Option Addr,(At k ⟨c,0,none⟩ [.pointer N])/\
 Zb N λ a9=>
 ∃ Q:Option Addr,(At k (Addr.add a9 0) [.pointer Q])/\
 ∃ U:Int,∃ V:Int,∃ X:Int,(At k ⟨d,0,none⟩ [.int .i64 U,.int .i64 V,.int .i64 X])/\
 Calls prog 57 #[.agg #[.int .i64 U,.int .i64 V,.int .i64 X]] bw λ bd a4=>
 ∃ ab:ByteArray,(bd=.returned (.string ab))/\
 (k a4)/\
 Calls prog 104 #[.pointer Q,.string ab] a4 λ be a5=>
 ∃ ad:Int,(be=.returned (.int .i64 ad))/\
 (k a5)/\
 K (.int .i64 ad) a5)
 (∃ L:Option Addr,(At (λ o=>o=p) ⟨c,0,none⟩ [.pointer L])/\
 Zb L λ C=>
 ∃ e:Sl,(At (λ o=>o=p) ⟨C.block,C.off + 4,none⟩ [.slice e.a e.len e.cap])/\
 Calls prog 125 #[.slice e.a e.len e.cap,.func (.func 126) #[] #[.pointer ((some ⟨d,0,none⟩))]] p λ bg a6=>
 ∃ M:Bool,(bg=.returned (.bool M))/\
 Br (!M)
 (Drw a6 λ l bx=>
 ∃ O:Option Addr,(At l ⟨c,0,none⟩ [.pointer O])/\
 Zb O λ ba=>
 ∃ T:Option Addr,(At l (Addr.add ba 0) [.pointer T])/\
 ∃ Y:Int,∃ Z:Int,∃ aa:Int,(At l ⟨d,0,none⟩ [.int .i64 Y,.int .i64 Z,.int .i64 aa])/\
 Calls prog 57 #[.agg #[.int .i64 Y,.int .i64 Z,.int .i64 aa]] bx λ bh a7=>
 ∃ ac:ByteArray,(bh=.returned (.string ac))/\
 (l a7)/\
 Calls prog 104 #[.pointer T,.string ac] a7 λ bi a8=>
 ∃ ae:Int,(bi=.returned (.int .i64 ae))/\
 (l a8)/\
 K (.int .i64 ae) a8)
 (A  a6)))/\
 ∀ (bz:Env)  (ap:World),A  ap->
 ∃ (q:Option Addr->Int->World->Prop),(Drw ap λ b aq=>
 ∃ af:Option Addr,(At b ⟨c,0,none⟩ [.pointer af])/\
 Zb af λ bb=>
 ∃ r:Option Addr,(At b (Addr.add bb 0) [.pointer r])/\
 ∃ t:Int,∃ u:Int,∃ v:Int,(At b ⟨d,0,none⟩ [.int .i64 t,.int .i64 u,.int .i64 v])/\
 (Calls prog 57 #[.agg #[.int .i64 t,.int .i64 u,.int .i64 v]] aq λ bj y=>
 ∃ x:ByteArray,(bj=.returned (.string x))/\
 (b y)/\
 (Calls prog 44 #[.pointer r,.string x] y λ bk ar=>
 ∃ f:Sl,∃ ah:Int,(bk=.returned (.tuple #[.slice f.a f.len f.cap,.int .i64 ah]))/\
 (b ar)/\
 New (.cells #[.slice none 0 0] 53 (0,0)) (λ H au=>
 (b au)/\
 ∃ av:World,((Instr.storeAt 53 (.pointer ((some ⟨H,0,none⟩))) (.slice f.a f.len f.cap)).run prog au=.ok () av)/\
 q ((some ⟨H,0,none⟩)) ah av) ar)/\
 New (.cells #[.slice none 0 0] 53 (0,0)) (λ I aw=>
 (b aw)/\
 Calls prog 44 #[.pointer r,.string x] aw λ bl ax=>
 ∃ g:Sl,∃ ai:Int,(bl=.returned (.tuple #[.slice g.a g.len g.cap,.int .i64 ai]))/\
 (b ax)/\
 ∃ ay:World,((Instr.storeAt 53 (.pointer ((some ⟨I,0,none⟩))) (.slice g.a g.len g.cap)).run prog ax=.ok () ay)/\
 q ((some ⟨I,0,none⟩)) ai ay) y)/\
 New (.cells #[.slice none 0 0] 53 (0,0)) (λ J az=>
 (b az)/\
 Calls prog 57 #[.agg #[.int .i64 t,.int .i64 u,.int .i64 v]] az λ bm a0=>
 ∃ ag:ByteArray,(bm=.returned (.string ag))/\
 (b a0)/\
 Calls prog 44 #[.pointer r,.string ag] a0 λ bn a1=>
 ∃ i:Sl,∃ aj:Int,(bn=.returned (.tuple #[.slice i.a i.len i.cap,.int .i64 aj]))/\
 (b a1)/\
 ∃ a2:World,((Instr.storeAt 53 (.pointer ((some ⟨J,0,none⟩))) (.slice i.a i.len i.cap)).run prog a1=.ok () a2)/\
 q ((some ⟨J,0,none⟩)) aj a2) aq)/\
 ∀ (b0:Env) (G:Option Addr) (s:Int) (z:World),q G s z->
 Br (s !=0)
 (K (.int .i64 s) z)
 (Drw z λ m bt=>
 ∃ ak:Option Addr,(At m ⟨c,0,none⟩ [.pointer ak])/\
 Zb ak λ D=>
 ∃ n:Sl,(At m ⟨D.block,D.off + 4,none⟩ [.slice n.a n.len n.cap])/\
 ∃ al:Option Addr,(At m ⟨c,0,none⟩ [.pointer al])/\
 Zb al λ E=>
 ∃ j:Sl,(At m ⟨E.block,E.off + 4,none⟩ [.slice j.a j.len j.cap])/\
 ∃ am:Int,(At m ⟨d,0 + 2,none⟩ [.int .i64 am])/\
 Rng (IntKind.i64.wrap ((↑j.len:Int) - 1)) n.len (Zb n.a λ F=>
 ∃ a3:World,((Instr.storeAt 3 (.pointer ((some ⟨(F.add (Zah (IntKind.i64.wrap ((↑j.len:Int) - 1)).toNat 3)).block,(F.add (Zah (IntKind.i64.wrap ((↑j.len:Int) - 1)).toNat 3)).off + 2,none⟩))) (.int .i64 am)).run prog bt=.ok () a3)/\
 New (.cells #[.func (.func 127) #[] #[.pointer ((some ⟨c,0,none⟩)),.pointer G,.pointer ((some ⟨d,0,none⟩))],.func (.func 128) #[] #[.pointer ((some ⟨c,0,none⟩))],.func (.func 129) #[] #[.pointer ((some ⟨c,0,none⟩)),.pointer ((some ⟨d,0,none⟩))]] 52 (0,0)) (λ bc bu=>
 Calls prog 90 #[.slice ((some ⟨bc,0,none⟩)) 3 3] bu λ bf bv=>
 ∃ an:Int,(bf=.returned (.int .i64 an))/\
 K (.int .i64 an) bv) a3))) bs) w
def sk87:Sk:=(.seq .leaf (.cut [] [] [4,7,8,9,10,11,12,13,14,15,16,17,18,19,20,21,22,23,24,25] .leaf (.cut [5,6] [.ptr,(.int .i64)] [5,6,26,27,28,29,30,31,32,33,34,35] .leaf .leaf)))
theorem Zu1 (d:Option Addr) (a:Int) (b:Int) (c:Int) (K:Value->World->Prop) (w:World) (h:B87 d a b c K w):Zq prog 87 #[.pointer d,.agg #[.int .i64 a,.int .i64 b,.int .i64 c]] w K:=cq (sk:=sk87) func87 (by kernel_rfl) (by kernel_rfl) (by kernel_rfl) h
def B126 (i:Int) (j:Int) (k:Int) (g:Option Addr) (K:Value->World->Prop) (w:World):Prop:=
 New (.cells #[.int .i64 i,.int .i64 j,.int .i64 k] 96 (0,0)) (λ f b=>
 ∃ c:Int,(At (λ a=>a=b) ⟨f,0,none⟩ [.int .i64 c])/\
 Zb g λ e=>
 ∃ d:Int,(At (λ a=>a=b) (Addr.add e 0) [.int .i64 d])/\
 K (.bool (c==d)) b) w
theorem ZtO (b:Int) (c:Int) (d:Int) (a:Option Addr) (K:Value->World->Prop) (w:World) (h:B126 b c d a K w):Zq prog 126 #[.agg #[.int .i64 b,.int .i64 c,.int .i64 d],.pointer a] w K:=cq (sk:=.leaf) func126 (by kernel_rfl) (by kernel_rfl) (by kernel_rfl) h
def B127 (n:Option Addr) (o:Option Addr) (p:Option Addr) (K:Value->World->Prop) (w:World):Prop:=
 Drw w λ c r=>
 Zb n λ k=>
 ∃ g:Option Addr,(At c k [.pointer g])/\
 Zb g λ l=>
 ∃ i:Option Addr,(At c (Addr.add l 0) [.pointer i])/\
 Zb o λ m=>
 ∃ b:Sl,(At c m [.slice b.a b.len b.cap])/\
 Zb p λ e=>
 ∃ d:Int,(At c ⟨e.block,e.off + 2,none⟩ [.int .i64 d])/\
 ((0:Int)<=d)/\
 ((d:Int)<=(↑b.cap:Int))/\
 Calls prog 35 #[.pointer i,.string (ByteArray.mk #[119,97,108,46,110,101,119]),.slice b.a d.toNat b.cap] r λ q j=>
 ∃ f:Int,(q=.returned (.int .i64 f))/\
 (c j)/\
 K (.int .i64 f) j
theorem ZtN (a:Option Addr) (b:Option Addr) (c:Option Addr) (K:Value->World->Prop) (w:World) (h:B127 a b c K w):Zq prog 127 #[.pointer a,.pointer b,.pointer c] w K:=cq (sk:=.leaf) func127 (by kernel_rfl) (by kernel_rfl) (by kernel_rfl) h
def B128 (g:Option Addr) (K:Value->World->Prop) (w:World):Prop:=
 Zb g λ e=>
 ∃ b:Option Addr,(At (λ a=>a=w) e [.pointer b])/\
 Zb b λ f=>
 ∃ c:Option Addr,(At (λ a=>a=w) (Addr.add f 0) [.pointer c])/\
 Calls prog 37 #[.pointer c,.string (ByteArray.mk #[119,97,108,46,110,101,119])] w λ i j=>
 ∃ d:Int,(i=.returned (.int .i64 d))/\
 K (.int .i64 d) j
theorem ZtM (a:Option Addr) (K:Value->World->Prop) (w:World) (h:B128 a K w):Zq prog 128 #[.pointer a] w K:=cq (sk:=.leaf) func128 (by kernel_rfl) (by kernel_rfl) (by kernel_rfl) h
def B129 (o:Option Addr) (p:Option Addr) (K:Value->World->Prop) (w:World):Prop:=
 Drw w λ a s=>
 Zb o λ l=>
 ∃ b:Option Addr,(At a l [.pointer b])/\
 Zb b λ m=>
 ∃ c:Option Addr,(At a (Addr.add m 0) [.pointer c])/\
 Zb p λ n=>
 ∃ d:Int,∃ e:Int,∃ f:Int,(At a n [.int .i64 d,.int .i64 e,.int .i64 f])/\
 Calls prog 57 #[.agg #[.int .i64 d,.int .i64 e,.int .i64 f]] s λ q j=>
 ∃ g:ByteArray,(q=.returned (.string g))/\
 (a j)/\
 Calls prog 130 #[.pointer c,.string (ByteArray.mk #[119,97,108,46,110,101,119]),.string g] j λ r k=>
 ∃ i:Int,(r=.returned (.int .i64 i))/\
 (a k)/\
 K (.int .i64 i) k
theorem ZtL (a:Option Addr) (b:Option Addr) (K:Value->World->Prop) (w:World) (h:B129 a b K w):Zq prog 129 #[.pointer a,.pointer b] w K:=cq (sk:=.leaf) func129 (by kernel_rfl) (by kernel_rfl) (by kernel_rfl) h
def B89 (r:Option Addr) (j:Int) (i:Int) (K:Value->World->Prop) (w:World):Prop:=
 New (.cells #[.pointer r] 31 (0,0)) (λ f s=>
 New (.cells #[.int .i64 0,.int .i64 j,.int .i64 i] 3 (0,0)) (λ m t=>
 Calls prog 64 #[.slice none 0 0,.bool false,.slice ((some ⟨m,0,none⟩)) 3 3] t λ o u=>
 ∃ b:Sl,(o=.returned (.slice b.a b.len b.cap))/\
 New (.cells #[.slice none 0 0] 53 (0,0)) (λ e v=>
 ∃ g:World,((Instr.storeAt 53 (.pointer ((some ⟨e,0,none⟩))) (.slice b.a b.len b.cap)).run prog v=.ok () g)/\
 ∃ d:Sl,(At (λ q=>q=g) ⟨e,0,none⟩ [.slice d.a d.len d.cap])/\
 New (.cells #[.int .i64 0,.int .i64 0,.int .i64 0] 96 (0,0)) (λ c x=>
 ∃ l:World,((Instr.storeAt 96 (.pointer ((some ⟨c,0,none⟩))) (.agg #[.int .i64 j,.int .i64 i,.int .i64 ((↑d.len:Int))])).run prog x=.ok () l)/\
 New (.cells #[.func (.func 131) #[] #[.pointer ((some ⟨f,0,none⟩)),.pointer ((some ⟨c,0,none⟩)),.pointer ((some ⟨e,0,none⟩))],.func (.func 132) #[] #[.pointer ((some ⟨f,0,none⟩)),.pointer ((some ⟨c,0,none⟩))],.func (.func 133) #[] #[.pointer ((some ⟨f,0,none⟩)),.pointer ((some ⟨c,0,none⟩))]] 52 (0,0)) (λ n y=>
 Calls prog 90 #[.slice ((some ⟨n,0,none⟩)) 3 3] y λ p z=>
 ∃ k:Int,(p=.returned (.int .i64 k))/\
 K (.int .i64 k) z) l) g) u) s) w
theorem ZuZ (c:Option Addr) (b:Int) (a:Int) (K:Value->World->Prop) (w:World) (h:B89 c b a K w):Zq prog 89 #[.pointer c,.int .i64 b,.int .i64 a] w K:=cq (sk:=.leaf) func89 (by kernel_rfl) (by kernel_rfl) (by kernel_rfl) h
def B131 (r:Option Addr) (s:Option Addr) (t:Option Addr) (K:Value->World->Prop) (w:World):Prop:=
 Drw w λ b x=>
 Zb r λ o=>
 ∃ e:Option Addr,(At b o [.pointer e])/\
 Zb e λ p=>
 ∃ f:Option Addr,(At b (Addr.add p 0) [.pointer f])/\
 Zb s λ q=>
 ∃ g:Int,∃ i:Int,∃ j:Int,(At b q [.int .i64 g,.int .i64 i,.int .i64 j])/\
 Zb t λ n=>
 ∃ c:Sl,(At b n [.slice c.a c.len c.cap])/\
 Calls prog 57 #[.agg #[.int .i64 g,.int .i64 i,.int .i64 j]] x λ u l=>
 ∃ k:ByteArray,(u=.returned (.string k))/\
 (b l)/\
 Calls prog 35 #[.pointer f,.string k,.slice c.a c.len c.cap] l λ v m=>
 ∃ d:Int,(v=.returned (.int .i64 d))/\
 (b m)/\
 K (.int .i64 d) m
theorem ZtJ (a:Option Addr) (b:Option Addr) (c:Option Addr) (K:Value->World->Prop) (w:World) (h:B131 a b c K w):Zq prog 131 #[.pointer a,.pointer b,.pointer c] w K:=cq (sk:=.leaf) func131 (by kernel_rfl) (by kernel_rfl) (by kernel_rfl) h
def B132 (o:Option Addr) (p:Option Addr) (K:Value->World->Prop) (w:World):Prop:=
 Drw w λ a s=>
 Zb o λ l=>
 ∃ b:Option Addr,(At a l [.pointer b])/\
 Zb b λ m=>
 ∃ c:Option Addr,(At a (Addr.add m 0) [.pointer c])/\
 Zb p λ n=>
 ∃ d:Int,∃ e:Int,∃ f:Int,(At a n [.int .i64 d,.int .i64 e,.int .i64 f])/\
 Calls prog 57 #[.agg #[.int .i64 d,.int .i64 e,.int .i64 f]] s λ q j=>
 ∃ g:ByteArray,(q=.returned (.string g))/\
 (a j)/\
 Calls prog 37 #[.pointer c,.string g] j λ r k=>
 ∃ i:Int,(r=.returned (.int .i64 i))/\
 (a k)/\
 K (.int .i64 i) k
theorem ZtI (a:Option Addr) (b:Option Addr) (K:Value->World->Prop) (w:World) (h:B132 a b K w):Zq prog 132 #[.pointer a,.pointer b] w K:=cq (sk:=.leaf) func132 (by kernel_rfl) (by kernel_rfl) (by kernel_rfl) h
def B133 (i:Option Addr) (u:Option Addr) (K:Value->World->Prop) (w:World):Prop:=
 Drw w λ b v=>
 Zb i λ q=>
 ∃ j:Option Addr,(At b q [.pointer j])/\
 Zb i λ r=>
 ∃ k:Option Addr,(At b r [.pointer k])/\
 Zb k λ g=>
 ∃ d:Sl,(At b ⟨g.block,g.off + 4,none⟩ [.slice d.a d.len d.cap])/\
 Zb u λ s=>
 ∃ l:Int,∃ m:Int,∃ n:Int,(At b s [.int .i64 l,.int .i64 m,.int .i64 n])/\
 New (.cells #[.int .i64 l,.int .i64 m,.int .i64 n] 96 (0,0)) (λ t o=>
 (b o)/\
 ∃ e:World,∃ c:Sl,((Builtin.append_ #[84,84] 84 #[.slice d.a d.len d.cap,.slice ((some ⟨t,0,none⟩)) 1 1]).run prog o=.ok (.slice c.a c.len c.cap) e)/\
 (b e)/\
 Zb j λ f=>
 ∃ p:World,((Instr.storeAt 84 (.pointer ((some ⟨f.block,f.off + 4,none⟩))) (.slice c.a c.len c.cap)).run prog e=.ok () p)/\
 K (.int .i64 0) p) v
theorem ZtH (a:Option Addr) (b:Option Addr) (K:Value->World->Prop) (w:World) (h:B133 a b K w):Zq prog 133 #[.pointer a,.pointer b] w K:=cq (sk:=.leaf) func133 (by kernel_rfl) (by kernel_rfl) (by kernel_rfl) h
def B125 (b:Sl) (e:Value) (K:Value->World->Prop) (w:World):Prop:=
 Calls prog 171 #[.slice b.a b.len b.cap,e] w λ d f=>
 ∃ c:Int,(d=.returned (.int .i64 c))/\
 K (.bool (decide (c >= 0))) f
theorem ZtP (b:Sl) (c:Value) (K:Value->World->Prop) (w:World) (h:B125 b c K w):Zq prog 125 #[.slice b.a b.len b.cap,c] w K:=cq (sk:=.leaf) func125 (by kernel_rfl) (by kernel_rfl) (by kernel_rfl) h
def B171 (e:Sl) (o:Value) (K:Value->World->Prop) (w:World):Prop:=
 ∃ (d:Int->World->Prop) (l:Int->World->Nat),(d 0 w)/\∀ (q:Env) (b:Int) (c:World),d b c->
 Br (decide (b<(↑e.len:Int)))
 (Rng b e.len (Zb e.a λ m=>
 ∃ g:Int,∃ i:Int,∃ j:Int,(At (λ p=>p=c) (Addr.add m (Zah b.toNat 3)) [.int .i64 g,.int .i64 i,.int .i64 j])/\
 Zcm prog cl o [.agg #[.int .i64 g,.int .i64 i,.int .i64 j]] c λ n f=>
 ∃ k:Bool,(n=.returned (.bool k))/\
 Br k
 (K (.int .i64 b) f)
 ((d (IntKind.i64.wrap (b + 1)) f)/\l (IntKind.i64.wrap (b + 1)) f<l b c)))
 (K (.int .i64 ((-1))) c)
def ZwN:Sk:=(.seq .leaf (.seq (.seq .leaf (.block (.loop [8] [(.int .i64)] [4,5,8,9,10,11,12,13,14,15,16,17,18] .leaf))) .leaf))
theorem Zti (b:Sl) (c:Value) (K:Value->World->Prop) (w:World) (h:B171 b c K w):Zq prog 171 #[.slice b.a b.len b.cap,c] w K:=cq (sk:=ZwN) func171 (by kernel_rfl) (by kernel_rfl) (by kernel_rfl) h
def B152 (d:ByteArray) (c:Value) (K:Value->World->Prop) (w:World):Prop:=
 Calls prog 185 #[.string d,c] w λ b e=>
 ∃ a:Int,(b=.returned (.int .i64 a))/\
 K (.bool (decide (a >= 0))) e
theorem Ztx (b:ByteArray) (a:Value) (K:Value->World->Prop) (w:World) (h:B152 b a K w):Zq prog 152 #[.string b,a] w K:=cq (sk:=.leaf) func152 (by kernel_rfl) (by kernel_rfl) (by kernel_rfl) h
def B185 (d:ByteArray) (c:Value) (K:Value->World->Prop) (w:World):Prop:=
 Calls prog 215 #[.string d,c,.bool true] w λ b e=>
 ∃ a:Int,(b=.returned (.int .i64 a))/\
 K (.int .i64 a) e
theorem Ztb (b:ByteArray) (a:Value) (K:Value->World->Prop) (w:World) (h:B185 b a K w):Zq prog 185 #[.string b,a] w K:=cq (sk:=.leaf) func185 (by kernel_rfl) (by kernel_rfl) (by kernel_rfl) h
def B215 (l:ByteArray) (j:Value) (m:Bool) (K:Value->World->Prop) (w:World):Prop:=
 New (.stringIter l 0) (λ f n=>
 ∃ (a:World->Prop) (e:World->Nat),(a  n)/\∀ (q:Env)  (b:World),a  b->
 Zuh ((some ⟨f,0,none⟩)) (λ k g o=>
 Zcm prog cl j [.int .i32 g] o λ i c=>
 ∃ d:Bool,(i=.returned (.bool d))/\
 Br (d==m)
 (K (.int .i64 k) c)
 ((a  c)/\e  c<e  b))
 (λ p=>
 K (.int .i64 ((-1))) p) b) w
def ZwE:Sk:=(.seq .leaf (.seq (.seq .leaf (.block (.loop [] [] [6,7,8,11,12,13,14,15,16,17,18,19,20] .leaf))) .leaf))
theorem Zs0 (b:ByteArray) (a:Value) (c:Bool) (K:Value->World->Prop) (w:World) (h:B215 b a c K w):Zq prog 215 #[.string b,a,.bool c] w K:=cq (sk:=ZwE) func215 (by kernel_rfl) (by kernel_rfl) (by kernel_rfl) h
end
section
open Go Go.VC Tryz
variable {R:Cx} {Hs Rest:List HP} {w:World}
structure Fl where
 b:List Int
 sure:Nat
abbrev Fs:=List (ByteArray × Fl)
def total (fs:Fs):Int:=(fs.map λ e=>(e.2.b.length:Int)).foldr (· + ·) 0
structure DS where
 room:Int
 fs:Fs
 fail:Int
 arm:Int
 off:Bool
def Zk3 (c:Int):Bool:=(decide (97<=c) && decide (c<=122))||(decide (48<=c) && decide (c<=57))||c==46||c==45
def Zm (s:ByteArray):Bool:=decide (s.size≠0) && decide (s.size<=64) && (bytesL s).all Zk3
theorem Zqb (s:ByteArray):(s.toList==(ByteArray.mk #[]).toList)=decide (s.size=0):=by
 have:(ByteArray.mk #[]).toList=[]:=by rw [ByteArray.toList_eq]
 rw [ByteArray.toList_eq,this,show s.size=s.data.toList.length from (Array.length_toList (xs:=s.data)).symm]
 cases s.data.toList<;>simp
theorem ZaQ {α:Type} {l:List α} {k:Nat} (h:k<l.length):l.drop k=l[k]::l.drop (k + 1):=List.drop_eq_getElem_cons h
theorem ZiA {s:Sl} {names:List ByteArray} (hw:Sat R Hs w) (hs:Ro R s (names.map Value.string)) (hn:names.length<=1000):
  Zq prog 97 #[.slice s.a s.len s.cap] w λ r w'=>r=.bool (names.all Zm)/\Sat R Hs w':=by
 have hl:s.len=names.length:=by have:=hs.len;simpa using this
 apply ZuR;refine ⟨λ i w=>∃ k:Nat,i=k/\k<=names.length/\names.all Zm=(names.drop k).all Zm/\Sat R Hs w,λ i _=>names.length - i.toNat,⟨0,rfl,Nat.zero_le _,rfl,hw⟩,?_⟩;rintro z _ w ⟨k,rfl,hk,he,hw⟩;refine Br.mk (λ h=>?_) (λ h=>?_)<;>simp only [decide_eq_true_eq,decide_eq_false_iff_not] at h
 ·have hk':k<names.length:=by omega
  rw [ZaQ hk',List.all_cons] at he;refine hs.idxStr (eqS hw) hk' ?_;refine ⟨λ w=>names[k].size≠0/\names[k].size<=64/\Sat R Hs w,?_,?_⟩
  ·rw [Zqb]
   refine Br.mk (λ h1=>⟨?_,hw⟩) (λ h1=>Br.mk (λ h2=>⟨?_,hw⟩) (λ h2=>?_))
   ·rw [he];simp only [decide_eq_true_eq] at h1;simp [Zm,h1]
   ·rw [he];simp only [decide_eq_true_eq] at h2;simp [Zm];omega
   ·simp only [decide_eq_false_iff_not] at h1 h2;exact ⟨h1,by omega,hw⟩
  rintro z w ⟨h1,h2,hw⟩;refine Zov underlying9 underlying53 underlying5 hw λ t w hw=>?_;have hbl:=Zbe names[k];have hok:Zm names[k]=(bytesL names[k]).all Zk3:=by simp [Zm,h1,h2]
  have ht:=Own.len hw;rw [List.length_map] at ht;refine ⟨λ j w=>∃ i:Nat,j=i/\i<=(bytesL names[k]).length/\Zm names[k]=((bytesL names[k]).drop i).all Zk3/\Sat R (Own t 5 ((bytesL names[k]).map (Value.int .u8))::Hs) w,λ j _=>(bytesL names[k]).length - j.toNat,⟨0,rfl,Nat.zero_le _,hok,hw⟩,?_⟩;rintro z _ w ⟨i,rfl,hi,hio,hw⟩;refine Br.mk (λ h3=>?_) (λ h3=>?_)<;>simp only [decide_eq_true_eq,decide_eq_false_iff_not] at h3
  ·have hi':i<(bytesL names[k]).length:=by omega
   rw [ZaQ hi',List.all_cons] at hio;refine Own.idx hw (eqS hw) hi' ?_;generalize (bytesL names[k])[i]=c at hio;rw [Zg (by omega) (by omega)];have yes:Zk3 c=true->(∃ i':Nat,((i:Int) + 1)=i'/\i'<=(bytesL names[k]).length/\Zm names[k]=((bytesL names[k]).drop i').all Zk3/\Sat R (Own t 5 ((bytesL names[k]).map (Value.int .u8))::Hs) w)/\
     (bytesL names[k]).length - ((i:Int) + 1).toNat<(bytesL names[k]).length - (i:Int).toNat:=λ hc=>by
    rw [hc,Bool.true_and] at hio;exact ⟨⟨i + 1,by omega,by omega,hio,hw⟩,by omega⟩
   have no:Zk3 c=false->Value.bool false=.bool (names.all Zm)/\Sat R Hs w:=λ hc=>by
    rw [hc,Bool.false_and] at hio;rw [hio,Bool.false_and] at he;exact ⟨by rw [he],hw.drop⟩
   have hd:Zk3 c=((decide (97<=c) && decide (c<=122))||(decide (48<=c) && decide (c<=57))||c==46||c==45):=rfl;have p:∀ {q:Prop} [Decidable q],decide q=true->q:=of_decide_eq_true;refine Br.mk (λ a1=>Br.mk (λ a2=>Br.mk (λ a3=>Br.mk (λ a4=>no ?_) (λ a4=>yes ?_)) (λ a3=>yes ?_)) (λ a2=>Br.mk (λ a3=>Br.mk (λ a4=>Br.mk (λ a5=>no ?_) (λ a5=>yes ?_)) (λ a4=>yes ?_)) (λ a3=>yes ?_)))
    (λ a1=>Br.mk (λ a2=>Br.mk (λ a3=>Br.mk (λ a4=>Br.mk (λ a5=>no ?_) (λ a5=>yes ?_)) (λ a4=>yes ?_)) (λ a3=>Br.mk (λ a4=>Br.mk (λ a5=>Br.mk (λ a6=>no ?_) (λ a6=>yes ?_)) (λ a5=>yes ?_)) (λ a4=>yes ?_))) (λ a2=>yes ?_))
   all_goals
    simp only [decide_eq_true_eq,decide_eq_false_iff_not,bne_iff_ne,ne_eq,bne_eq_false_iff_eq] at *;simp only [Zk3,Bool.or_eq_true,Bool.and_eq_true,decide_eq_true_eq,beq_iff_eq,Bool.or_eq_false_iff,Bool.and_eq_false_iff,decide_eq_false_iff_not,beq_eq_false_iff_ne,ne_eq];omega
  ·have:i=(bytesL names[k]).length:=by omega
   subst this;rw [List.drop_length] at hio;rw [hio] at he;rw [Zg (by omega) (by omega)];exact ⟨⟨k + 1,by omega,by omega,by rw [he];rfl,hw.drop⟩,by dsimp only;omega⟩
 ·have:k=names.length:=by omega
  subst this;rw [List.drop_length] at he;exact ⟨by rw [he];rfl,hw⟩
end
section
open Go Go.VC Tryz
variable {R:Cx} {Hs Rest:List HP} {w:World}
theorem _root_.Go.VC.Sat.re {A:HP} (B:HP) (h:Sat R (A::Hs) w) (e:A=B:=by rfl):Sat R (B::Hs) w:=e ▸ h
abbrev b8 (l:List Int):List Value:=l.map (Value.int .u8)
theorem Zh1:El prog 53 53 5 1:=⟨underlying53,⟨_,underlying53⟩,by kernel_rfl⟩
theorem Zep (xs:List Int):Zac (b8 xs)=true:=by unfold Zac;simp [Value.oneCell']
theorem ZdC {s:Sl} {xs:List Int} (hs:Ro R s (b8 xs)) (hl:xs.length<=1099511627776) (hw:Sat R Hs w):
  Zq prog 98 #[.slice s.a s.len s.cap] w λ r w'=>∃ t:Sl,r=.slice t.a t.len t.cap/\Sat R (Own t 5 (b8 xs)::Hs) w':=by
 apply ZuQ;refine Br.mk (λ h=>?_) (λ h=>?_)
 ·have hx:xs=[]:=by
   by_cases hx:b8 xs=[]
   ·simpa using hx
   ·obtain ⟨b,off,_,_,_,ha,_⟩:=hs.mem hx
    rw [ha] at h;cases h
  subst hx;exact ⟨⟨none,0,0⟩,rfl,Own.nil hw⟩
 ·refine Zd hw λ b w hw=>?_
  have h0:Sat R (Own ⟨some ⟨b,0,none⟩,0,0⟩ 5 []::Hs) w:=Own.of_pts (xs:=[]) (rest:=[]) hw;have hsrc:Src prog 1 53 (.slice s.a s.len s.cap) xs.length (b8 xs) w:=by
   have:=Zi9 underlying53 h0 hs (Zep xs);simpa using this
  have:=Zas (ty:=53) (K:=λ t w'=>∃ u:Sl,Value.slice t.a t.len t.cap=.slice u.a u.len u.cap/\Sat R (Own u 5 (b8 xs)::Hs) w') Zh1 h0 hsrc rfl (by simp;omega) (by simp;omega) λ t w hw=>⟨t,rfl,by simpa using hw⟩;exact this
end
section
open Go Go.VC Tryz
variable {R:Cx} {Hs Rest:List HP} {w:World}
def ZfS (p:Nat) (f:Fl):HP:=exs λ s:Sl=>Zig [pts p (.cells [.slice s.a s.len s.cap,.int .i64 f.sure].toArray 106 (0,0)),Own s 5 (b8 f.b)]
abbrev DE:=ByteArray × Nat × Fl
def er (E:List DE):Fs:=E.map λ e=>(e.1,e.2.2)
def ZbQ (E:List DE):List (ByteArray × Value):=E.map λ e=>(e.1,.pointer (some ⟨e.2.1,0,none⟩))
def Zat (E:List DE):HP:=Zig (E.map λ e=>ZfS e.2.1 e.2.2)
abbrev Zbf (st:DS) (m:Nat):Obj:=.cells [.int .i64 st.room,.int .i64 (total st.fs),.map (some m),.int .i64 st.fail,.int .i64 st.arm,.bool st.off].toArray 78 (0,0)
def Zl (d:Nat) (st:DS):HP:=exs λ x:Nat × List DE=>Zig [pur (er x.2=st.fs),pts d (Zbf st x.1),Zaj x.1 (ZbQ x.2),Zat x.2]
theorem Sat.disk {d:Nat} {st:DS}:Sat R (Zl d st::Hs) w↔∃ m E,er E=st.fs/\Sat R (pts d (Zbf st m)::Zaj m (ZbQ E)::Zat E::Hs) w:=by
 unfold Zl;rw [Sat.exs];constructor
 ·rintro ⟨⟨m,E⟩,h⟩
  have:=Sat.star.1 h;exact ⟨m,E,Sat.pur.1 this⟩
 ·rintro ⟨m,E,h1,h2⟩
  exact ⟨⟨m,E⟩,Sat.star.2 (Sat.pur.2 ⟨h1,h2⟩)⟩
theorem Sat.file {p:Nat} {f:Fl}:Sat R (ZfS p f::Hs) w↔∃ s:Sl,Sat R (pts p (.cells [.slice s.a s.len s.cap,.int .i64 f.sure].toArray 106 (0,0))::Own s 5 (b8 f.b)::Hs) w:=by
 unfold ZfS;rw [Sat.exs];exact ⟨λ⟨s,h⟩=>⟨s,Sat.star.1 h⟩,λ⟨s,h⟩=>⟨s,Sat.star.2 h⟩⟩
theorem Sat.split {a b:List DE} {e:DE}:Sat R (Zat (a++e::b)::Hs) w↔Sat R (ZfS e.2.1 e.2.2::Zat (a++b)::Hs) w:=by
 have p:((a++e::b).map λ e:DE=>ZfS e.2.1 e.2.2).Perm (ZfS e.2.1 e.2.2::(a++b).map λ e:DE=>ZfS e.2.1 e.2.2):=by
  rw [List.map_append,List.map_cons,List.map_append];exact List.perm_middle
 unfold Zat;constructor
 ·intro h
  have h1:=(Sat.star.1 h).perm (p.append_right Hs);exact h1.cons λ _ h=>Sat.star.2 h
 ·intro h
  have h1:Sat R ((ZfS e.2.1 e.2.2::(a++b).map λ e:DE=>ZfS e.2.1 e.2.2)++Hs) w:=h.cons λ _ h=>Sat.star.1 h;exact Sat.star.2 (h1.perm (p.symm.append_right Hs))
def Ziz (room:Int):Int:=if room<1\/room>16777216 then 1 else 0
theorem ZmN (room:Int) (hw:Sat R Hs w):Zq prog 17 #[.int .i64 room] w λ v w'=>
  (Ziz room=1/\v=.tuple #[.pointer none,.int .i64 1]/\Sat R Hs w')\/
  (Ziz room=0/\1<=room/\room<=16777216/\∃ d,v=.tuple #[.pointer (some ⟨d,0,none⟩),.int .i64 0]/\Sat R (Zl d ⟨room,[],-1,-1,false⟩::Hs) w'):=by
 apply Zv5;refine Br.mk (λ h=>?_) (λ h=>Br.mk (λ h2=>?_) (λ h2=>?_))<;>simp only [decide_eq_true_eq,decide_eq_false_iff_not] at h
 ·exact .inl ⟨if_pos (.inl h),rfl,hw⟩
 ·simp only [decide_eq_true_eq] at h2
  exact .inl ⟨if_pos (.inr h2),rfl,hw⟩
 ·simp only [decide_eq_false_iff_not] at h2
  refine Zd hw λ m w hw=>Zd hw λ d w hw=>.inr ⟨if_neg (by omega),by omega,by omega,d,rfl,?_⟩;refine Sat.disk.2 ⟨m,[],rfl,hw.cons λ _ h=>(Zaj.new rfl h).cons λ _ h=>?_⟩;exact Sat.star.2 h
def ZeS (n:Int):Int × Bool:=if n==-1 then (n,false) else (n - 1,n - 1==-1)
theorem ZmP {b i:Nat} {l:List Value} {T:TypeId} {n:Int} (hw:Sat R (pts b (.cells l.toArray T (0,0))::Hs) w) (hi:l[i]? =some (.int .i64 n)) (h0: -1<=n) (h1:n<9223372036854775808):
  Zq prog 122 #[.pointer (some ⟨b,i,none⟩)] w λ r w'=>r=.bool (ZeS n).2/\Sat R (pts b (.cells (l.set i (.int .i64 (ZeS n).1)).toArray T (0,0))::Hs) w':=by
 have hlt:i<l.length:=(List.getElem?_eq_some_iff.1 hi).1;have hat:∀ {w} {l:List Value} {v:Value},Sat R (pts b (.cells l.toArray T (0,0))::Hs) w->l[i]? =some v->At (λ w'=>w'=w) ⟨b,i,none⟩ [v]:=λ {w l v} hw hi=>by
  refine At.own (eqS hw) ?_;obtain ⟨h,rfl⟩:=List.getElem?_eq_some_iff.1 hi;rw [List.drop_eq_getElem_cons h];exact ⟨rfl,trivial⟩
 apply ZtS;refine Zb.mk rfl ⟨n,hat hw hi,Br.mk (λ h=>?_) (λ h=>?_)⟩
 ·refine ⟨by simp [ZeS,h],?_⟩
  have:l.set i (.int .i64 (ZeS n).1)=l:=by
   obtain ⟨h',e⟩:=List.getElem?_eq_some_iff.1 hi;unfold ZeS;rw [if_pos h,<-e,List.set_getElem_self]
  rw [this];exact hw
 ·simp only [beq_eq_false_iff_ne,ne_eq] at h
  refine Zb.mk rfl ⟨n,hat hw hi,Zb.mk rfl ?_⟩;rw [Zg (by omega) (by omega)];refine Zc hw (by kernel_rfl) rfl (by simp [Value.cells];omega) λ w' hw=>?_;have e:Ze5 l i (Value.int .i64 (n - 1)).cells.toList=l.set i (.int .i64 (n - 1)):=by simp [Ze5,Value.cells]
  rw [e] at hw;refine Zb.mk rfl ⟨n - 1,hat hw (by simp [hlt]),?_⟩;unfold ZeS;rw [if_neg (by simpa using h)];exact ⟨rfl,hw⟩
theorem ZiE {b i:Nat} {l:List Value} {T:TypeId} {n0:Int} (n:Int) (hw:Sat R (pts b (.cells l.toArray T (0,0))::Hs) w) (hi:l[i]? =some (.int .i64 n0)):
  Zq prog 39 #[.pointer (some ⟨b,i,none⟩),.int .i64 n] w λ r w'=>r=.int .i64 (if n<0 then 1 else 0)/\Sat R (pts b (.cells (l.set i (.int .i64 (if n<0 then n0 else n))).toArray T (0,0))::Hs) w':=by
 have hlt:i<l.length:=(List.getElem?_eq_some_iff.1 hi).1;apply ZvK;refine Br.mk (λ h=>?_) (λ h=>?_)<;>simp only [decide_eq_true_eq,decide_eq_false_iff_not] at h
 ·rw [if_pos h,if_pos h]
  refine ⟨rfl,?_⟩;obtain ⟨h',e⟩:=List.getElem?_eq_some_iff.1 hi;rw [<-e,List.set_getElem_self];exact hw
 ·rw [if_neg h,if_neg h]
  refine Zb.mk rfl ?_;refine Zc hw (by kernel_rfl) rfl (by simp [Value.cells];omega) λ w' hw=>⟨rfl,?_⟩;have e:Ze5 l i (Value.int .i64 n).cells.toList=l.set i (.int .i64 n):=by simp [Ze5,Value.cells]
  rw [e] at hw;exact hw
theorem Zp7 {d:Nat} {st:DS} (n:Int) (hw:Sat R (Zl d st::Hs) w):
  Zq prog 11 #[.pointer (some ⟨d,0,none⟩),.int .i64 n] w λ r w'=>r=.int .i64 (if n<0 then 1 else 0)/\Sat R (Zl d { st with fail:=if n<0 then st.fail else n }::Hs) w':=by
 obtain ⟨m,E,hE,hw⟩:=Sat.disk.1 hw;apply Zwb;refine Zb.mk rfl ?_;refine (ZiE n hw (i:=3) rfl).use ?_;rintro _ w ⟨rfl,hw⟩;exact ⟨_,rfl,rfl,Sat.disk.2 ⟨m,E,hE,hw⟩⟩
theorem ZrL {d:Nat} {st:DS} (n:Int) (hw:Sat R (Zl d st::Hs) w):
  Zq prog 28 #[.pointer (some ⟨d,0,none⟩),.int .i64 n] w λ r w'=>r=.int .i64 (if n<0 then 1 else 0)/\Sat R (Zl d { st with arm:=if n<0 then st.arm else n }::Hs) w':=by
 obtain ⟨m,E,hE,hw⟩:=Sat.disk.1 hw;apply ZvU;refine Zb.mk rfl ?_;refine (ZiE n hw (i:=4) rfl).use ?_;rintro _ w ⟨rfl,hw⟩;exact ⟨_,rfl,rfl,Sat.disk.2 ⟨m,E,hE,hw⟩⟩
theorem ZmJ {d:Nat} {st:DS} (hw:Sat R (Zl d st::Hs) w):
  Zq prog 40 #[.pointer (some ⟨d,0,none⟩)] w λ r w'=>r=.bool st.off/\Sat R (Zl d st::Hs) w':=by
 have hw0:=hw;obtain ⟨m,E,hE,hw⟩:=Sat.disk.1 hw;apply ZvJ;exact Zb.mk rfl ⟨_,At.own (eqS hw) (by exact ⟨rfl,trivial⟩),rfl,hw0⟩
def chg (st:DS) (ok:Bool):DS × Int:=
 if !ok then (st,1)
 else if st.off then (st,5)
 else if (ZeS st.arm).2 then ({ st with arm:=(ZeS st.arm).1,off:=true },5)
 else ({ st with arm:=(ZeS st.arm).1,fail:=(ZeS st.fail).1 },if (ZeS st.fail).2 then 4 else 0)
structure Counts (st:DS):Prop where
 a0: -1<=st.arm
 a1:st.arm<9223372036854775808
 f0: -1<=st.fail
 f1:st.fail<9223372036854775808
theorem ZhQ {d:Nat} {st:DS} {s:Sl} {names:List ByteArray} {make:Value} {Q:Int->World->Prop} (hw:Sat R (Zl d st::Hs) w) (c:Counts st) (hs:Ro R s (names.map Value.string)) (hn:names.length<=1000)
  (hmake:(chg st (names.all Zm)).2=0->∀ w,Sat R (Zl d (chg st (names.all Zm)).1::Hs) w->Zcm prog cl make [] w (λ e w'=>∃ n:Int,e=.returned (.int .i64 n)/\Q n w'))
  (herr:∀ e,(chg st (names.all Zm)).2=e->e≠0->∀ w,Sat R (Zl d (chg st (names.all Zm)).1::Hs) w->Q e w):
  Zq prog 77 #[.pointer (some ⟨d,0,none⟩),make,.slice s.a s.len s.cap] w λ r w'=>∃ n:Int,r=.int .i64 n/\Q n w':=by
 apply Zvb;refine (ZiA hw hs hn).use ?_;rintro _ w ⟨rfl,hw⟩;refine ⟨_,rfl,Br.mk (λ h=>?_) (λ h=>?_)⟩
 ·simp only [Bool.not_eq_true'] at h
  have e:chg st (names.all Zm)=(st,1):=by simp [chg,h]
  rw [e] at herr;exact ⟨1,rfl,herr 1 rfl (by decide) w hw⟩
 simp only [Bool.not_eq_false'] at h;rw [h] at hmake herr;obtain ⟨m,E,hE,hw⟩:=Sat.disk.1 hw;refine Zb.mk rfl ⟨st.off,At.own (eqS hw) (by exact ⟨rfl,trivial⟩),Br.mk (λ ho=>?_) (λ ho=>Zb.mk rfl ?_)⟩
 ·have e:chg st true=(st,5):=by simp [chg,ho]
  rw [e] at herr;exact ⟨5,rfl,herr 5 rfl (by decide) w (Sat.disk.2 ⟨m,E,hE,hw⟩)⟩
 refine (ZmP hw (i:=4) (n:=st.arm) rfl c.a0 c.a1).use ?_;rintro _ w ⟨rfl,hw⟩;refine ⟨_,rfl,Br.mk (λ ha=>Zb.mk rfl ?_) (λ ha=>Zb.mk rfl ?_)⟩
 ·have e:chg st true=({ st with arm:=(ZeS st.arm).1,off:=true },5):=by simp [chg,ho,ha]
  rw [e] at herr;refine Zc hw (by kernel_rfl) rfl (by simp [Value.cells]) λ w hw=>?_;exact ⟨5,rfl,herr 5 rfl (by decide) w (Sat.disk.2 ⟨m,E,hE,hw⟩)⟩
 refine (ZmP hw (i:=3) (n:=st.fail) rfl c.f0 c.f1).use ?_;rintro _ w ⟨rfl,hw⟩;have hw:Sat R (Zl d { st with arm:=(ZeS st.arm).1,fail:=(ZeS st.fail).1 }::Hs) w:=Sat.disk.2 ⟨m,E,hE,hw⟩;have e:chg st true=({ st with arm:=(ZeS st.arm).1,fail:=(ZeS st.fail).1 },if (ZeS st.fail).2 then 4 else 0):=by simp [chg,ho,ha]
 rw [e] at herr hmake;refine ⟨_,rfl,Br.mk (λ hf=>?_) (λ hf=>?_)⟩
 ·exact ⟨4,rfl,herr 4 (by simp [hf]) (by decide) w hw⟩
 ·refine (hmake (by simp [hf]) w hw).mono ?_
  rintro _ w ⟨n,rfl,hq⟩;exact ⟨n,rfl,n,rfl,hq⟩
end
section
open Go Go.VC Tryz
variable {R:Cx} {Hs Rest:List HP} {w:World}
def ZdJ {β:Type} (k:ByteArray) (g:β->β):List (ByteArray × β)->List (ByteArray × β)
 |[]=>[]
 |e::es=>if k==e.1 then (e.1,g e.2)::es else e::ZdJ k g es
theorem Zbg (k:ByteArray):(k==k)=true:=(MapKept.bytes_beq k k).2 rfl
theorem Zl8 {a b:ByteArray} (h:a≠b):(a==b)=false:=by
 cases hc:(a==b)
 ·rfl
 ·exact absurd ((MapKept.bytes_beq a b).1 hc) h
theorem Zca {β:Type} {k:ByteArray} {g:β->β} {v:β}:∀ {a b:List (ByteArray × β)},Zw k a=none->ZdJ k g (a++(k,v)::b)=a++(k,g v)::b
 |[],b,_=>by simp [ZdJ,Zbg]
 |e::a,b,h=>by
  rw [Zw] at h;split at h
  ·cases h
  ·rename_i hne
   rw [List.cons_append,ZdJ,if_neg hne,Zca h];rfl
theorem ZbT (a b:List DE):er (a++b)=er a++er b:=by simp [er]
theorem Zb6 (e:DE) (b:List DE):er (e::b)=(e.1,e.2.2)::er b:=rfl
theorem Zcj (k:ByteArray) (E:List DE):Zw k (er E)=(Zw k E).map (·.2):=ZjA (λ x:Nat × Fl=>x.2) k E
theorem ZfA (k:ByteArray) (E:List DE):Zw k (ZbQ E)=(Zw k E).map λ x=>.pointer (some ⟨x.1,0,none⟩):=ZjA (λ x:Nat × Fl=>Value.pointer (some ⟨x.1,0,none⟩)) k E
theorem ZgG (a b:List DE):ZbQ (a++b)=ZbQ a++ZbQ b:=by simp [ZbQ]
theorem ZcE:total []=0:=rfl
theorem ZD (e:ByteArray × Fl) (l:Fs):total (e::l)=e.2.b.length + total l:=rfl
theorem Zdj (a b:Fs):total (a++b)=total a + total b:=by
 induction a with
 |nil=>simp [ZcE]
 |cons e a ih=>rw [List.cons_append,ZD,ZD,ih];omega
theorem ZbG (l:Fs):0<=total l:=by
 induction l with
 |nil=>exact Int.le_refl 0
 |cons e l ih=>rw [ZD];omega
theorem Zbl {k:ByteArray} {f:Fl} (a b:Fs):total (a++(k,f)::b)=total (a++b) + f.b.length:=by
 rw [Zdj,ZD,Zdj];simp only;omega
def ZaT (k:ByteArray) (fs:Fs):Fs:=if (Zw k fs).isSome then fs else fs++[(k,⟨[],0⟩)]
def Zk2 (k:ByteArray) (xs:List Int) (fs:Fs):Fs:=ZdJ k (λ f=>{ f with b:=f.b++xs }) (ZaT k fs)
def Uni (fs:Fs):Prop:=(fs.map (·.1)).Nodup
def ZdH (fs:Fs):Prop:=∀ e∈fs,e.2.sure<=e.2.b.length
structure Inv (st:DS):Prop extends Counts st where
 r0:1<=st.room
 r1:st.room<=16777216
 full:total st.fs<=st.room
 uni:Uni st.fs
 names:∀ k∈st.fs.map (·.1),Zm k=true
 sure:ZdH st.fs
theorem ZQ {β:Type} {k:ByteArray}:∀ {l:List (ByteArray × β)},Zw k l=none->k ∉ l.map (·.1)
 |[],_,h=>by cases h
 |e::l,h,hm=>by
  rw [Zw] at h;split at h
  ·cases h
  ·rename_i hne
   rw [List.map_cons,List.mem_cons] at hm;rcases hm with rfl|hm
   ·exact hne (Zbg _)
   ·exact ZQ h hm
theorem Z2 {β:Type} {k:ByteArray}:∀ {l:List (ByteArray × β)},k ∉ l.map (·.1)->Zw k l=none
 |[],_=>rfl
 |e::l,h=>by
  rw [List.map_cons,List.mem_cons,not_or] at h;rw [Zw,if_neg (by rw [Zl8 h.1];simp),Z2 h.2]
theorem Za6 {β:Type} (k:ByteArray) (g:β->β):∀ l:List (ByteArray × β),(ZdJ k g l).map (·.1)=l.map (·.1)
 |[]=>rfl
 |e::l=>by
  rw [ZdJ];split
  ·rename_i h;have:=(MapKept.bytes_beq _ _).1 h;simp
  ·rw [List.map_cons,List.map_cons,Za6 k g l]
theorem Zi3 {k:ByteArray} {g:Fl->Fl} {fs:Fs} (h:Uni fs):Uni (ZdJ k g fs):=by unfold Uni;rw [Za6];exact h
theorem ZeG {k:ByteArray} {g:Fl->Fl} (hg:∀ f:Fl,f.sure<=f.b.length->(g f).sure<=(g f).b.length):∀ {fs:Fs},ZdH fs->ZdH (ZdJ k g fs)
 |[],h=>h
 |e::fs,h=>by
  have h0:=h e List.mem_cons_self;have h1:ZdH fs:=λ x hx=>h x (List.mem_cons_of_mem _ hx);rw [ZdJ];intro x hx;split at hx
  ·rcases List.mem_cons.1 hx with rfl|hx
   ·exact hg _ h0
   ·exact h1 x hx
  ·rcases List.mem_cons.1 hx with rfl|hx
   ·exact h0
   ·exact ZeG hg h1 x hx
def ZaE (st:DS) (k:ByteArray) (xs:List Int):DS × Int:=
 if total st.fs + xs.length>st.room then (st,3) else ({ st with fs:=Zk2 k xs st.fs },0)
theorem Zgv (k:ByteArray) (fs:Fs):total (ZaT k fs)=total fs:=by
 unfold ZaT;split
 ·rfl
 ·rw [Zdj];simp [ZD,ZcE]
theorem ZoR {fs:Fs} (h:Uni fs) {k:ByteArray} {f:Fl} (hk:Zw k fs=none):Uni (fs++[(k,f)]):=by
 unfold Uni at *;rw [List.map_append,List.nodup_append];refine ⟨h,by simp,λ x hx y hy=>?_⟩;simp at hy;subst hy;intro he;subst he;exact ZQ hk hx
theorem Zmv {fs:Fs} (h:ZdH fs) {k:ByteArray} {f:Fl} (hf:f.sure<=f.b.length):ZdH (fs++[(k,f)]):=by
 intro x hx;rcases List.mem_append.1 hx with hx|hx
 ·exact h x hx
 ·simp at hx;subst hx;exact hf
theorem Zih {fs:Fs} (h:Uni fs) (k:ByteArray):Uni (ZaT k fs):=by
 unfold ZaT;split
 ·exact h
 ·rename_i hk;exact ZoR h (by simpa using hk)
theorem Zlc {fs:Fs} (h:ZdH fs) (k:ByteArray):ZdH (ZaT k fs):=by
 unfold ZaT;split
 ·exact h
 ·exact Zmv h (Nat.le_refl _)
abbrev box (b:Nat) (v:Value) (T:TypeId):HP:=pts b (.cells [v].toArray T (0,0))
abbrev Zul:Zww prog 76 ByteArray 9 104 (.pointer none):=⟨underlying76,underlying9,zeroValue104⟩
abbrev DO (d m:Nat) (E:List DE) (st:DS) (Hs:List HP):List HP:=pts d (Zbf st m)::Zaj m (ZbQ E)::Zat E::Hs
theorem DO.look {d m:Nat} {E:List DE} {st:DS} (hw:Sat R (DO d m E st Hs) w) (k:ByteArray) (c:Bool):
  (Instr.lookup 76 (.map (some m)) (.string k) c).run prog w=.ok (if c then .tuple #[.pointer ((Zw k E).map λ x=>⟨x.1,0,none⟩),.bool (Zw k E).isSome] else .pointer ((Zw k E).map λ x=>⟨x.1,0,none⟩)) w:=by
 have h:=Zaj.look Zul (hw.swap.cons λ _ h=>h) k c;rw [ZfA] at h;have e:((Zw k E).map λ x=>Value.pointer (some ⟨x.1,0,none⟩)).getD (.pointer none)=.pointer ((Zw k E).map λ x=>⟨x.1,0,none⟩):=by cases Zw k E<;>rfl
 have e2:((Zw k E).map λ x=>Value.pointer (some ⟨x.1,0,none⟩)).isSome=(Zw k E).isSome:=by cases Zw k E<;>rfl
 rw [e,e2] at h;exact h
theorem ZkY {d bd bb bn:Nat} {st:DS} {k:ByteArray} {x:Sl} {xs:List Int} (i:Inv st) (hx:Ro R x (b8 xs)) (hl:xs.length<=1099511627776)
  (hw:Sat R (Zl d st::box bd (.pointer (some ⟨d,0,none⟩)) 25::box bb (.slice x.a x.len x.cap) 53::box bn (.string k) 9::Hs) w):
  Zq prog 78 #[.pointer (some ⟨bd,0,none⟩),.pointer (some ⟨bb,0,none⟩),.pointer (some ⟨bn,0,none⟩)] w λ r w'=>r=.int .i64 (ZaE st k xs).2/\
   Sat R (Zl d (ZaE st k xs).1::box bd (.pointer (some ⟨d,0,none⟩)) 25::box bb (.slice x.a x.len x.cap) 53::box bn (.string k) 9::Hs) w':=by
 have hxl:x.len=xs.length:=by have:=hx.len;simpa using this
 have hnn:=ZbG st.fs;have r0:=i.r0;have r1:=i.r1;have hfull:=i.full;apply Zva;obtain ⟨m,E,hE,hw⟩:=Sat.disk.1 hw;refine Zv hw λ w hw=>?_;refine Zb.mk rfl ⟨some ⟨d,0,none⟩,At.own Ze (by exact ⟨rfl,trivial⟩),Zb.mk rfl ⟨total st.fs,At.own Ze (by exact ⟨rfl,trivial⟩),Zb.mk rfl ⟨x,At.own Ze (by exact ⟨rfl,trivial⟩),Zb.mk rfl ⟨some ⟨d,0,none⟩,At.own Ze (by exact ⟨rfl,trivial⟩),Zb.mk rfl ⟨st.room,by rw [Zf];exact At.own Ze (by exact ⟨rfl,trivial⟩),?_⟩⟩⟩⟩⟩;rw [Zg (by omega) (by omega)];refine Br.mk (λ h=>?_) (λ h=>?_)<;>simp only [decide_eq_true_eq,decide_eq_false_iff_not] at h
 ·have e:ZaE st k xs=(st,3):=if_pos (by omega)
  rw [e];exact ⟨rfl,Sat.disk.2 ⟨m,E,hE,hw⟩⟩
 have e:ZaE st k xs=({ st with fs:=Zk2 k xs st.fs },0):=if_neg (by omega);rw [e];refine Zv hw λ w hw=>?_;refine Zb.mk rfl ⟨some ⟨d,0,none⟩,At.own Ze (by exact ⟨rfl,trivial⟩),Zb.mk rfl ⟨some m,At.own Ze (by exact ⟨rfl,trivial⟩),Zb.mk rfl ⟨k,At.own Ze (by exact ⟨rfl,trivial⟩),_,_,λ w' hw'=>DO.look hw' k true,?_⟩⟩⟩;refine ⟨λ p w=>∃ q a b f,p=some ⟨q,0,none⟩/\Zw k a=none/\er (a++(k,q,f)::b)=ZaT k st.fs/\
  Sat R (DO d m (a++(k,q,f)::b) st (box bd (.pointer (some ⟨d,0,none⟩)) 25::box bb (.slice x.a x.len x.cap) 53::box bn (.string k) 9::Hs)) w,?_,?_⟩
 ·refine Br.mk (λ hk=>?_) (λ hk=>?_)
  ·simp only [Bool.not_eq_true',Option.isSome_eq_false_iff,Option.isNone_iff_eq_none] at hk
   have hk2:Zw k st.fs=none:=by rw [<-hE,Zcj,hk];rfl
   refine Zd hw λ q w hw=>Zv hw λ w hw=>?_;refine Zb.mk rfl ⟨some ⟨d,0,none⟩,At.own Ze (by exact ⟨rfl,trivial⟩),Zb.mk rfl ⟨some m,At.own Ze (by exact ⟨rfl,trivial⟩),Zb.mk rfl ⟨k,At.own Ze (by exact ⟨rfl,trivial⟩),?_⟩⟩⟩;have hw2:=hw.take (Zaj m (ZbQ E));refine Zaj.put Zul hw2 k (.pointer (some ⟨q,0,none⟩)) λ w hw=>⟨q,E,[],⟨[],0⟩,rfl,hk,?_,?_⟩
   ·rw [ZbT,hE];simp [ZaT,hk2,er]
   ·have ep:ZsA k (.pointer (some ⟨q,0,none⟩)) (ZbQ E)=ZbQ (E++[(k,q,⟨[],0⟩)]):=by
     unfold ZsA;rw [ZfA,hk];simp [ZbQ]
    rw [ep] at hw;have hw:=hw.take (pts d (Zbf st m));refine hw.cons λ _ h=>h.cons λ _ h=>?_;refine Sat.split.2 (Sat.file.2 ⟨⟨none,0,0⟩,?_⟩);rw [List.append_nil];exact h.cons λ _ h=>Own.nil h
  ·simp only [Bool.not_eq_false'] at hk
   obtain ⟨⟨q,f⟩,hf⟩:=Option.isSome_iff_exists.1 hk;obtain ⟨a,b,rfl,ha⟩:=ZI hf;rw [hf];refine ⟨q,a,b,f,rfl,ha,?_,hw⟩;rw [hE];unfold ZaT;rw [if_pos];rw [<-hE,Zcj,hf];rfl
 rintro z _ w ⟨q,a,b,f,rfl,ha,hE2,hw⟩;have ht2:total (er (a++(k,q,f)::b))=total st.fs:=by rw [hE2,Zgv]
 rw [ZbT,Zb6,Zbl] at ht2;have hnn2:=ZbG (er a++er b);simp only at ht2
 -- the file is opened
 have hw:Sat R (Zat (a++(k,q,f)::b)::pts d (Zbf st m)::Zaj m (ZbQ (a++(k,q,f)::b))::box bd (.pointer (some ⟨d,0,none⟩)) 25::box bb (.slice x.a x.len x.cap) 53::box bn (.string k) 9::Hs) w:=(hw.cons λ _ h=>h.swap).swap;obtain ⟨s,hw⟩:=Sat.file.1 (Sat.split.1 hw);refine Zv hw λ w hw=>?_;refine Zb.mk rfl ⟨s,by rw [Zf];exact At.own Ze (by exact ⟨rfl,trivial⟩),Zb.mk rfl ⟨x,At.own Ze (by exact ⟨rfl,trivial⟩),?_⟩⟩;have el:El prog 53 53 5 1:=⟨underlying53,⟨_,underlying53⟩,by kernel_rfl⟩;have hwo:=hw.swap;have hsrc:Src prog 1 53 (.slice x.a x.len x.cap) xs.length (b8 xs) w:=by
  have:=Zi9 underlying53 hwo hx (by unfold Zac;simp [Value.oneCell']);simpa using this
 refine Zas (K:=λ t w'=>Zb (some ⟨q,0,none⟩) λ a_t44=>∃ w_9:World,((Instr.storeAt 53 (.pointer ((some (Addr.add a_t44 0)))) (.slice t.a t.len t.cap)).run prog w'=.ok () w_9)/\_) el hwo hsrc (by unfold Zac;simp [Value.oneCell']) (by simp;omega) (by simp;omega) λ t w hw=>Zb.mk rfl ?_;rw [Zf];refine Zc hw (by kernel_rfl) rfl (by simp [Value.cells]) λ w hw=>?_;have hw:Sat R (pts q (.cells [.slice t.a t.len t.cap,.int .i64 f.sure].toArray 106 (0,0))::Own t 5 (b8 (f.b++xs))::Zat (a++b)::pts d (Zbf st m)::Zaj m (ZbQ (a++(k,q,f)::b))::box bd (.pointer (some ⟨d,0,none⟩)) 25::box bb (.slice x.a x.len x.cap) 53::box bn (.string k) 9::Hs) w:=by
  rw [show b8 (f.b++xs)=b8 f.b++b8 xs by simp];exact hw
 have hw:Sat R (Zat (a++(k,q,{ f with b:=f.b++xs })::b)::pts d (Zbf st m)::Zaj m (ZbQ (a++(k,q,f)::b))::box bd (.pointer (some ⟨d,0,none⟩)) 25::box bb (.slice x.a x.len x.cap) 53::box bn (.string k) 9::Hs) w:=
  Sat.split.2 (Sat.file.2 ⟨t,hw⟩)
 refine Zv hw λ w hw=>?_;refine Zb.mk rfl ⟨some ⟨d,0,none⟩,At.own Ze (by exact ⟨rfl,trivial⟩),Zb.mk rfl ⟨total st.fs,At.own Ze (by exact ⟨rfl,trivial⟩),Zb.mk rfl ⟨x,At.own Ze (by exact ⟨rfl,trivial⟩),Zb.mk rfl ?_⟩⟩⟩;rw [Zg (by omega) (by omega)];refine Zc hw (by kernel_rfl) rfl (by simp [Value.cells]) λ w hw=>⟨rfl,?_⟩;refine Sat.disk.2 ⟨m,a++(k,q,{ f with b:=f.b++xs })::b,?_,?_⟩
 ·simp only [Zk2]
  rw [<-hE2,ZbT,Zb6,ZbT,Zb6,Zca];rw [Zcj,ha];rfl
 ·have ep:ZbQ (a++(k,q,{ f with b:=f.b++xs })::b)=ZbQ (a++(k,q,f)::b):=by simp [ZbQ]
  have et:total (Zk2 k xs st.fs)=total st.fs + x.len:=by
   unfold Zk2;rw [<-hE2,ZbT,Zb6,Zca (by rw [Zcj,ha];rfl),Zbl,<-ht2,hxl];simp;omega
  rw [ep];have hw:=hw.cons λ _ h=>h.swap;unfold Zbf;simp only [et];exact hw
end
section
open Go Go.VC Tryz
variable {R:Cx} {Hs Rest:List HP} {w:World}
theorem ZpI {n:Int} (h0: -1<=n) (h1:n<9223372036854775808): -1<=(ZeS n).1/\(ZeS n).1<9223372036854775808:=by
 unfold ZeS;split
 ·exact ⟨h0,h1⟩
 ·rename_i h;simp at h;exact ⟨by simp only;omega,by simp only;omega⟩
theorem Zox {st:DS} (c:Counts st) (ok:Bool):Counts (chg st ok).1:=by
 have ha:=ZpI c.a0 c.a1;have hf:=ZpI c.f0 c.f1;unfold chg;split
 ·exact c
 split
 ·exact c
 split
 ·exact ⟨ha.1,ha.2,c.f0,c.f1⟩
 ·exact ⟨ha.1,ha.2,hf.1,hf.2⟩
theorem Zbp (st:DS) (ok:Bool):(chg st ok).1.fs=st.fs/\(chg st ok).1.room=st.room:=by
 unfold chg;split
 ·exact ⟨rfl,rfl⟩
 split
 ·exact ⟨rfl,rfl⟩
 split<;>exact ⟨rfl,rfl⟩
theorem ZbN {st:DS} (i:Inv st) (ok:Bool):Inv (chg st ok).1:=by
 obtain ⟨h1,h2⟩:=Zbp st ok;exact { toCounts:=Zox i.toCounts ok,r0:=by rw [h2];exact i.r0,r1:=by rw [h2];exact i.r1,full:=by rw [h1,h2];exact i.full,uni:=by rw [h1];exact i.uni,names:=by rw [h1];exact i.names,sure:=by rw [h1];exact i.sure }
def doing (st:DS) (ok:Bool) (g:DS->DS × Int):DS × Int:=if (chg st ok).2=0 then g (chg st ok).1 else chg st ok
def Zk (st:DS) (k:ByteArray) (xs:List Int):DS × Int:=doing st (Zm k) λ st=>ZaE st k xs
theorem Zgl (k:ByteArray):[k].all Zm=Zm k:=by simp
theorem Zj7 {b:Nat} {k:ByteArray} {T:TypeId} (hc:R.m b=.none):Ro (R.add (ZS.one b (.cells [.string k].toArray T (0,0)))) ⟨some ⟨b,0,none⟩,1,1⟩ ([k].map Value.string):=
 ⟨rfl,by simp,λ _=>⟨b,0,_,T,(0,0),rfl,Cx.lent hc,λ i v h=>by simpa using h⟩⟩
theorem ZrX {b:Nat} {k k2:ByteArray} {T:TypeId} (hc:R.m b=.none):Ro (R.add (ZS.one b (.cells [.string k,.string k2].toArray T (0,0)))) ⟨some ⟨b,0,none⟩,2,2⟩ ([k,k2].map Value.string):=
 ⟨rfl,by simp,λ _=>⟨b,0,_,T,(0,0),rfl,Cx.lent hc,λ i v h=>by simpa using h⟩⟩
theorem Zd0 {d:Nat} {st:DS} {k:ByteArray} {x:Sl} {xs:List Int} (i:Inv st) (hx:Ro R x (b8 xs)) (hl:xs.length<=1099511627776) (hw:Sat R (Zl d st::Hs) w):
  Zq prog 35 #[.pointer (some ⟨d,0,none⟩),.string k,.slice x.a x.len x.cap] w λ r w'=>r=.int .i64 (Zk st k xs).2/\Sat R (Zl d (Zk st k xs).1::Hs) w':=by
 apply ZvO;refine Zd hw λ bd w hw=>Zd hw λ bn w hw=>Zd hw λ bb w hw=>?_;have hw:Sat R (box bb (.slice x.a x.len x.cap) 53::box bn (.string k) 9::box bd (.pointer (some ⟨d,0,none⟩)) 25::Zl d st::Hs) w:=hw;refine ⟨some ⟨d,0,none⟩,At.own (eqS hw) (by exact ⟨rfl,trivial⟩),k,At.own (eqS hw) (by exact ⟨rfl,trivial⟩),Zd hw λ bt w hw=>?_⟩;obtain ⟨hc,hw⟩:=Sat.lend.1 hw;have hw:=hw.take (Zl d st);refine (ZhQ (Q:=λ n w=>n=(Zk st k xs).2/\Sat R (Zl d (Zk st k xs).1::Hs) w) hw i.toCounts (Zj7 hc) (by simp) ?_ ?_).use ?_
 ·rw [Zgl]
  intro h0 w hw;have e:Zk st k xs=ZaE (chg st (Zm k)).1 k xs:=if_pos h0;rw [e];have hw:Sat (R.add (ZS.one bt (.cells [.string k].toArray 9 (0,0)))) (Zl d (chg st (Zm k)).1::box bd (.pointer (some ⟨d,0,none⟩)) 25::box bb (.slice x.a x.len x.cap) 53::box bn (.string k) 9::Hs) w:=
   hw.cons λ _ h=>(h.take (box bd (.pointer (some ⟨d,0,none⟩)) 25))
  refine (ZkY (ZbN i _) hx.add hl hw).use ?_;rintro _ w ⟨rfl,hw⟩;refine ⟨_,rfl,rfl,?_⟩;exact (Sat.lend.2 ⟨hc,hw⟩).drop.cons λ _ h=>h.drop.drop.drop
 ·rw [Zgl]
  intro e h0 hne w hw;have e2:Zk st k xs=chg st (Zm k):=if_neg (by rw [h0];exact hne);rw [e2];exact ⟨h0.symm,(Sat.lend.2 ⟨hc,hw⟩).drop.cons λ _ h=>h.drop.drop.drop⟩
 ·rintro _ w ⟨n,rfl,rfl,hw⟩
  exact ⟨_,rfl,rfl,hw⟩
theorem Zf4 (k:ByteArray) (xs:List Int) (fs:Fs):total (Zk2 k xs fs)=total fs + xs.length:=by
 have hsome:(Zw k (ZaT k fs)).isSome=true:=by
  unfold ZaT;split
  ·assumption
  ·rename_i h
   have:Zw k fs=none:=by simpa using h
   rw [ZdX this (Zbg k)];rfl
 obtain ⟨f,hf⟩:=Option.isSome_iff_exists.1 hsome;obtain ⟨a,b,e,ha⟩:=ZI hf;have h1:=Zgv k fs;unfold Zk2;rw [e] at h1 ⊢;rw [Zbl] at h1;rw [Zca ha,Zbl,<-h1];simp;omega
theorem Zqu {st:DS} {ok:Bool} (h:(chg st ok).2=0):ok=true:=by
 cases ok
 ·unfold chg at h;simp at h
 ·rfl
theorem Zkz {k:ByteArray} {fs:Fs} (hk:Zm k=true) (h:∀ x∈fs.map (·.1),Zm x=true):∀ x∈(ZaT k fs).map (·.1),Zm x=true:=by
 unfold ZaT;by_cases hc:(Zw k fs).isSome=true
 ·rw [if_pos hc];exact h
 ·rw [if_neg hc]
  intro x hx;rw [List.map_append,List.mem_append] at hx;rcases hx with hx|hx
  ·exact h x hx
  ·simp at hx;subst hx;exact hk
theorem ZhW {st:DS} (i:Inv st) {k:ByteArray} (hk:Zm k=true) (xs:List Int):Inv (ZaE st k xs).1:=by
 unfold ZaE;split
 ·exact i
 ·exact { toCounts:=⟨i.a0,i.a1,i.f0,i.f1⟩,r0:=i.r0,r1:=i.r1,full:=by simp only [Zf4];omega,uni:=Zi3 (Zih i.uni k),names:=by simp only [Zk2,Za6];exact Zkz hk i.names,sure:=ZeG (λ f h=>by simp;omega) (Zlc i.sure k) }
theorem Z7 {st:DS} (i:Inv st) (k:ByteArray) (xs:List Int):Inv (Zk st k xs).1:=by
 unfold Zk doing;split
 ·rename_i h;exact ZhW (ZbN i _) (Zqu h) xs
 ·exact ZbN i _
theorem ZpW {room:Int} (h0:1<=room) (h1:room<=16777216):Inv ⟨room,[],-1,-1,false⟩:=
 { a0:=by simp,a1:=by simp,f0:=by simp,f1:=by simp,r0:=h0,r1:=h1,full:=by show total []<=room;rw [ZcE];omega,uni:=List.nodup_nil,names:=λ _ h=>(by cases h),sure:=λ _ h=>by cases h }
theorem ZuC {room:Int} (h0:1<=room) (h1:room<=16777216) (hw:Sat R Hs w):Zq prog 17 #[.int .i64 room] w λ v w'=>
  ∃ d,v=.tuple #[.pointer (some ⟨d,0,none⟩),.int .i64 0]/\Sat R (Zl d ⟨room,[],-1,-1,false⟩::Hs) w':=
 Calls.mono (ZmN room hw) λ e w' ⟨v,he,h⟩=>by
  rcases h with ⟨hn,_⟩|⟨_,_,_,d,hv,hw⟩
  ·unfold Ziz at hn;rw [if_neg (by omega)] at hn;cases hn
  ·exact ⟨v,he,d,hv,hw⟩
structure Zxy (n:Int) (i:Nat) (st:DS):Prop where
 inv:Inv st
 room:st.room=10000
 size:total st.fs<=1 + i
 arm:st.arm=-1
 off:st.off=false
 fail:st.fail=if (i:Int)<=n then n - i else -1
end
section
open Go Go.VC Tryz
variable {R:Cx} {Hs Rest:List HP} {w:World}
instance Zcy.app {b:Nat} {X Hs:List HP} {o:Obj} {Rest:List HP} [t:Zcy b Hs o Rest]:Zcy b (X++Hs) o (X++Rest):=
 ⟨(t.perm.append_left X).trans List.perm_middle⟩
abbrev bx (bm bn bd d:Nat) (v:Value) (k:ByteArray) (Hs:List HP):List HP:=
 box bm v 123::box bn (.string k) 9::box bd (.pointer (some ⟨d,0,none⟩)) 25::Hs
theorem ZoO {d:Nat} {k:ByteArray} {v:Value} (hv:v.cells=#[v]) (hw:Sat R Hs w):
  Zq prog 83 #[.pointer (some ⟨d,0,none⟩),.string k,v] w λ r w'=>∃ bm bn bd,r=.func (.func 123) #[] #[.pointer (some ⟨bd,0,none⟩),.pointer (some ⟨bn,0,none⟩),.pointer (some ⟨bm,0,none⟩)]/\Sat R (bx bm bn bd d v k Hs) w':=by
 apply Zu5;refine Zd hw λ bd w hw=>Zd hw λ bn w hw=>?_;rw [hv];exact Zd hw λ bm w hw=>⟨bm,bn,bd,rfl,hw⟩
theorem Znk {d bm bn bd:Nat} {st:DS} {k:ByteArray} {v:Value} {Q:Int->World->Prop} (hw:Sat R (Zl d st::bx bm bn bd d v k Hs) w)
  (hm:∀ m a q f b w,Zw k a=none->er (a++(k,q,f)::b)=st.fs->Sat R (DO d m (a++(k,q,f)::b) st (bx bm bn bd d v k Hs)) w->
   Zcm prog cl v [.pointer (some ⟨q,0,none⟩)] w (λ e w'=>e=.returned (.tuple #[])/\Q 0 w'))
  (hn:Zw k st.fs=none->∀ w,Sat R (Zl d st::bx bm bn bd d v k Hs) w->Q 2 w):
  Zq prog 123 #[.pointer (some ⟨bd,0,none⟩),.pointer (some ⟨bn,0,none⟩),.pointer (some ⟨bm,0,none⟩)] w λ r w'=>∃ n:Int,r=.int .i64 n/\Q n w':=by
 apply ZtR;obtain ⟨m,E,hE,hw⟩:=Sat.disk.1 hw;refine Zv hw λ w hw=>?_;refine Zb.mk rfl ⟨some ⟨d,0,none⟩,At.own Ze (by exact ⟨rfl,trivial⟩),Zb.mk rfl ⟨some m,At.own Ze (by exact ⟨rfl,trivial⟩),Zb.mk rfl ⟨k,At.own Ze (by exact ⟨rfl,trivial⟩),_,_,λ w' hw'=>DO.look hw' k true,?_⟩⟩⟩;refine Br.mk (λ hk=>?_) (λ hk=>?_)
 ·simp only [Bool.not_eq_true',Option.isSome_eq_false_iff,Option.isNone_iff_eq_none] at hk
  exact ⟨2,rfl,hn (by rw [<-hE,Zcj,hk];rfl) w (Sat.disk.2 ⟨m,E,hE,hw⟩)⟩
 ·simp only [Bool.not_eq_false'] at hk
  obtain ⟨⟨q,f⟩,hf⟩:=Option.isSome_iff_exists.1 hk;obtain ⟨a,b,rfl,ha⟩:=ZI hf;rw [hf];refine Zb.mk rfl ⟨v,At.own (eqS hw) (by exact ⟨rfl,trivial⟩),(hm m a q f b w ha hE hw).mono ?_⟩;rintro _ w ⟨rfl,hq⟩;exact ⟨rfl,0,rfl,hq⟩
theorem ZfB {d:Nat} {st:DS} {k:ByteArray} {v:Value} (g:DS->DS × Int) (i:Inv st) (hv:v.cells=#[v]) (hw:Sat R (Zl d st::Hs) w)
  (hm:∀ (R:Cx) (X:List HP) st m a q f b w,Inv st->Zw k a=none->er (a++(k,q,f)::b)=st.fs->Sat R (DO d m (a++(k,q,f)::b) st (X++Hs)) w->
   Zcm prog cl v [.pointer (some ⟨q,0,none⟩)] w (λ e w'=>e=.returned (.tuple #[])/\(g st).2=0/\Sat R (Zl d (g st).1::(X++Hs)) w'))
  (hn:∀ st,Zw k st.fs=none->g st=(st,2)):
  Zq prog 83 #[.pointer (some ⟨d,0,none⟩),.string k,v] w λ c w=>∃ Hs',Sat R (Zl d st::Hs') w/\(∀ R w,Sat R Hs' w->Sat R Hs w)/\
   ∀ (R':Cx) (s:Sl) (ks:List ByteArray) w,Sat R' (Zl d st::Hs') w->Ro R' s (ks.map Value.string)->ks.length<=1000->
    Zq prog 77 #[.pointer (some ⟨d,0,none⟩),c,.slice s.a s.len s.cap] w λ r w'=>r=.int .i64 (doing st (ks.all Zm) g).2/\Sat R' (Zl d (doing st (ks.all Zm) g).1::Hs') w':=by
 refine (ZoO hv hw).mono ?_;rintro _ w ⟨bm,bn,bd,rfl,hw⟩;refine ⟨bx bm bn bd d v k Hs,hw.take (Zl d st),λ R w h=>h.drop.drop.drop,λ R' s ks w hw hs hks=>?_⟩;refine (ZhQ (Q:=λ n w=>n=(doing st (ks.all Zm) g).2/\Sat R' (Zl d (doing st (ks.all Zm) g).1::bx bm bn bd d v k Hs) w) hw i.toCounts hs hks ?_ ?_).mono ?_
 ·intro h0 w hw
  have e:doing st (ks.all Zm) g=g (chg st (ks.all Zm)).1:=if_pos h0;rw [e];show Calls prog _ _ w _;refine (Znk (Q:=λ n w=>n=(g (chg st (ks.all Zm)).1).2/\Sat R' (Zl d (g (chg st (ks.all Zm)).1).1::bx bm bn bd d v k Hs) w) hw ?_ ?_).use ?_
  ·intro m a q f b w ha hE hw
   refine (hm R' [box bm v 123,box bn (.string k) 9,box bd (.pointer (some ⟨d,0,none⟩)) 25 ] _ m a q f b w (ZbN i _) ha hE hw).mono ?_;rintro _ w ⟨rfl,h1,h2⟩;exact ⟨rfl,h1.symm,h2⟩
  ·intro hnone w hw
   rw [hn _ hnone];exact ⟨rfl,hw⟩
  ·rintro _ w ⟨n,rfl,hq⟩;exact ⟨n,rfl,hq⟩
 ·intro e h0 hne w hw
  have e2:doing st (ks.all Zm) g=chg st (ks.all Zm):=if_neg (by rw [h0];exact hne);rw [e2];exact ⟨h0.symm,hw⟩
 ·rintro _ w ⟨n,rfl,rfl,hw⟩;exact ⟨rfl,hw⟩
end
section
open Go Go.VC Tryz
variable {R:Cx} {Hs Rest:List HP} {w:World}
theorem ZcA {k:ByteArray} {g:Fl->Fl} (hg:∀ f,(g f).b.length=f.b.length):∀ fs:Fs,total (ZdJ k g fs)=total fs
 |[]=>rfl
 |e::fs=>by
  rw [ZdJ];split
  ·rw [ZD,ZD,hg]
  ·rw [ZD,ZD,ZcA hg fs]
theorem ZeO (k:ByteArray):∀ fs:Fs,total (Zaa k fs)<=total fs
 |[]=>Int.le_refl _
 |e::fs=>by
  rw [Zaa];split
  ·rw [ZD];omega
  ·rw [ZD,ZD];have:=ZeO k fs;omega
def Zcv (k:ByteArray) (st:DS):DS × Int:=if (Zw k st.fs).isSome then ({ st with fs:=ZdJ k (λ f=>{ f with sure:=f.b.length }) st.fs },0) else (st,2)
def ZA (st:DS) (k:ByteArray):DS × Int:=doing st (Zm k) (Zcv k)
theorem Znr {d m q:Nat} {st:DS} {a b:List DE} {k:ByteArray} {f:Fl} (ha:Zw k a=none) (hE:er (a++(k,q,f)::b)=st.fs) (hw:Sat R (DO d m (a++(k,q,f)::b) st Hs) w):
  Zq prog 84 #[.pointer (some ⟨q,0,none⟩)] w λ r w'=>r=.tuple #[]/\(Zcv k st).2=0/\Sat R (Zl d (Zcv k st).1::Hs) w':=by
 have hk:Zw k st.fs=some f:=by rw [<-hE,ZbT,Zb6,ZdX (by rw [Zcj,ha];rfl) (Zbg k)]
 have e:Zcv k st=({ st with fs:=ZdJ k (λ f=>{ f with sure:=f.b.length }) st.fs },0):=if_pos (by rw [hk];rfl);rw [e];have hw:Sat R (Zat (a++(k,q,f)::b)::pts d (Zbf st m)::Zaj m (ZbQ (a++(k,q,f)::b))::Hs) w:=(hw.cons λ _ h=>h.swap).swap;obtain ⟨s,hw⟩:=Sat.file.1 (Sat.split.1 hw);apply Zu4;have hlen:s.len=f.b.length:=by have:=Own.len hw.swap;rwa [List.length_map] at this
 refine Zb.mk rfl ⟨s,by rw [Zf];exact At.own (eqS hw) (by exact ⟨rfl,trivial⟩),Zb.mk rfl ?_⟩;refine Zc hw (by kernel_rfl) rfl (by simp [Value.cells]) λ w hw=>⟨rfl,rfl,?_⟩;have hw:Sat R (pts q (.cells [.slice s.a s.len s.cap,.int .i64 (f.b.length:Nat)].toArray 106 (0,0))::Own s 5 (b8 f.b)::Zat (a++b)::pts d (Zbf st m)::Zaj m (ZbQ (a++(k,q,f)::b))::Hs) w:=by
  rw [<-hlen];exact hw
 have hw:Sat R (Zat (a++(k,q,{ f with sure:=f.b.length })::b)::pts d (Zbf st m)::Zaj m (ZbQ (a++(k,q,f)::b))::Hs) w:=Sat.split.2 (Sat.file.2 ⟨s,hw⟩);refine Sat.disk.2 ⟨m,a++(k,q,{ f with sure:=f.b.length })::b,?_,?_⟩
 ·rw [<-hE,ZbT,Zb6,ZbT,Zb6,Zca]
  rw [Zcj,ha];rfl
 ·have ep:ZbQ (a++(k,q,{ f with sure:=f.b.length })::b)=ZbQ (a++(k,q,f)::b):=by simp [ZbQ]
  rw [ep];unfold Zbf;simp only [ZcA (g:=λ f=>{ f with sure:=f.b.length }) (λ _=>rfl)];exact hw.swap.cons λ _ h=>h.swap
theorem Zei {d:Nat} {st:DS} {k:ByteArray} (i:Inv st) (hw:Sat R (Zl d st::Hs) w):
  Zq prog 37 #[.pointer (some ⟨d,0,none⟩),.string k] w λ r w'=>r=.int .i64 (ZA st k).2/\Sat R (Zl d (ZA st k).1::Hs) w':=by
 apply ZvM;refine (ZfB (v:=.func (.func 84) #[] #[]) (Zcv k) i rfl hw ?_ ?_).use ?_
 ·intro R X st m a q f b w _ ha hE hw
  show Calls prog _ _ w _;refine (Znr ha hE hw).use ?_;rintro _ w ⟨rfl,h⟩;exact ⟨rfl,h⟩
 ·intro st h;unfold Zcv;rw [h];rfl
 ·rintro c w ⟨Hs',hw,back,k2⟩
  refine ⟨c,rfl,Zd hw λ bt w hw=>?_⟩;obtain ⟨hc,hw⟩:=Sat.lend.1 hw;refine (k2 _ _ [k] w hw (Zj7 hc) (by simp)).use ?_;rw [Zgl];rintro _ w ⟨rfl,hw⟩;exact ⟨_,rfl,rfl,(Sat.lend.2 ⟨hc,hw⟩).drop.cons λ _ h=>back _ _ h⟩
theorem Za1 {st:DS} (i:Inv st) (k:ByteArray):Inv (ZA st k).1:=by
 have hg:∀ {st},Inv st->Inv (Zcv k st).1:=λ {st} i=>by
  unfold Zcv;split
  ·exact { toCounts:=⟨i.a0,i.a1,i.f0,i.f1⟩,r0:=i.r0,r1:=i.r1,full:=by simp only;rw [ZcA (g:=λ f=>{ f with sure:=f.b.length }) (λ _=>rfl)];exact i.full,uni:=Zi3 i.uni,names:=by simp only [Za6];exact i.names,sure:=ZeG (λ f _=>Nat.le_refl _) i.sure }
  ·exact i
 unfold ZA doing;split
 ·exact hg (ZbN i _)
 ·exact ZbN i _
theorem Zp1 {d:Nat} {st:DS} (i:Inv st) (k:ByteArray) (hw:Sat R (Zl d st::Hs) w):
  Zq prog 142 #[.pointer (some ⟨d,0,none⟩),.string k] w λ r w'=>r=.tuple #[]/\Sat R (Zl d { st with fs:=Zaa k st.fs }::Hs) w':=by
 obtain ⟨m,E,hE,hw⟩:=Sat.disk.1 hw;have hnn:=ZbG st.fs;have r1:=i.r1;have hfull:=i.full;apply ZqA;refine Zb.mk rfl ⟨some m,At.own (eqS hw) (by exact ⟨rfl,trivial⟩),_,_,λ w' hw'=>DO.look (eqS hw _ hw') k true,?_⟩;refine Br.mk (λ hk=>?_) (λ hk=>?_)
 ·obtain ⟨⟨q,f⟩,hf⟩:=Option.isSome_iff_exists.1 hk
  obtain ⟨a,b,rfl,ha⟩:=ZI hf;rw [hf];have ht:total st.fs=total (er a++er b) + f.b.length:=by rw [<-hE,ZbT,Zb6,Zbl]
  have hnn2:=ZbG (er a++er b);have hw:Sat R (Zat (a++(k,q,f)::b)::pts d (Zbf st m)::Zaj m (ZbQ (a++(k,q,f)::b))::Hs) w:=(hw.cons λ _ h=>h.swap).swap;obtain ⟨s,hw⟩:=Sat.file.1 (Sat.split.1 hw);have hlen:s.len=f.b.length:=by have:=Own.len hw.swap;rwa [List.length_map] at this
  refine Zv hw λ w hw=>?_;refine Zb.mk rfl ⟨total st.fs,At.own Ze (by exact ⟨rfl,trivial⟩),Zb.mk rfl ⟨s,by rw [Zf];exact At.own Ze (by exact ⟨rfl,trivial⟩),Zb.mk rfl ?_⟩⟩;rw [Zg (by omega) (by omega)];refine Zc hw (by kernel_rfl) rfl (by simp [Value.cells]) λ w hw=>Zb.mk rfl ⟨some m,At.own (eqS hw) (by exact ⟨rfl,trivial⟩),?_⟩;refine Zaj.del Zul (hw.take (Zaj m (ZbQ (a++(k,q,f)::b)))) k λ w hw=>⟨rfl,?_⟩;have ep:Zaa k (ZbQ (a++(k,q,f)::b))=ZbQ (a++b):=by
   rw [ZgG,show ZbQ ((k,q,f)::b)=(k,Value.pointer (some ⟨q,0,none⟩))::ZbQ b from rfl,ZbM (by rw [ZfA,ha];rfl) (Zbg k),<-ZgG]
  have ef:Zaa k st.fs=er (a++b):=by rw [<-hE,ZbT,Zb6,ZbM (by rw [Zcj,ha];rfl) (Zbg k),<-ZbT]
  rw [ep] at hw;refine Sat.disk.2 ⟨m,a++b,ef.symm,?_⟩;unfold Zbf;simp only [ef,ZbT];have e3:total st.fs - (s.len:Int)=total (er a++er b):=by omega
  rw [e3] at hw;exact hw.swap.cons λ _ h=>h.cons λ _ h=>h.drop.drop
 ·simp only [Option.isSome_eq_false_iff,Option.isNone_iff_eq_none] at hk
  have e:Zaa k st.fs=st.fs:=by
   have hk2:Zw k st.fs=none:=by rw [<-hE,Zcj,hk];rfl
   have:∀ l:Fs,Zw k l=none->Zaa k l=l:=λ l=>by
    induction l with
    |nil=>intro _;rfl
    |cons e l ih=>
     intro h;rw [Zw] at h;split at h
     ·cases h
     ·rename_i hne;rw [Zaa,if_neg hne,ih h]
   exact this _ hk2
  refine ⟨rfl,?_⟩;rw [e];exact Sat.disk.2 ⟨m,E,hE,hw⟩
end
end Go.Proofs.YtkfedbncmfnpnaaGreatDoor
