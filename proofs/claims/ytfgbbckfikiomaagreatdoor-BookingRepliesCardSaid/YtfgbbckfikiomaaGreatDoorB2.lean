/- SL, part 10: slices whose elements are structs of n cells: one's own, or only read; elements, stores, append. No condition but bounds on lengths. -/
import Derived.Test.YtfgbbckfikiomaaGreatDoorB1
import Derived.Laws.BitsAllLaws
import Derived.Lib.BitFns
import Derived.KernelRfl
import Derived.Lib.AppendZeros
import Derived.Laws.RangeAny
import Derived.Laws.MakeOwn
import GoSem.Core.Float
import Derived.Laws.Externs
import Derived.Lib.Overlaps
import Derived.Shelf.SlIterI.Collect
import Derived.Shelf.SlIterI.Sorted
import Derived.Shelf.SortM.Plain
import Derived.Shelf.SortM.SortNone
import Derived.Ground.GgzProg
import Derived.Ground.SlgmProg
import Derived.Test.YtfgbbckfikiomaaGreatDoorProg
namespace Go.VC
set_option linter.unusedVariables false
open Go Go.RowKit
variable {P:Program} {R:Cx} {Hs Rest:List HP} {w:World} {s:Sl} {T:TypeId} {n:Nat}
def Wid (n:Nat) (rows:List (List Value)):Prop:=∀ x∈rows,x.length=n
theorem Wid.nil {n:Nat}:Wid n []:=fun _ h=>by cases h
theorem Wid.app {n:Nat} {a b:List (List Value)} (ha:Wid n a) (hb:Wid n b):Wid n (a++b):=fun x hx=>(List.mem_append.1 hx).elim (ha x) (hb x)
theorem Wid.one {n:Nat} {x:List Value} (h:x.length=n):Wid n [x]:=fun y hy=>by simp at hy;rw [hy];exact h
theorem Wid.len {n:Nat}:∀ {rows:List (List Value)},Wid n rows→rows.flatten.length=rows.length * n
 |[],_=>by simp
 |x::rows,h=>by
  rw [List.flatten_cons,List.length_append,h x List.mem_cons_self,Wid.len (rows:=rows) (fun y hy=>h y (List.mem_cons_of_mem _ hy)),List.length_cons,Nat.add_mul]
  omega
theorem Wid.drop_flat {n:Nat}:∀ {rows:List (List Value)} (k:Nat),Wid n rows→rows.flatten.drop (k * n)=(rows.drop k).flatten
 |rows,0,_=>by simp
 |[],k + 1,_=>by simp
 |x::rows,k + 1,h=>by
  have hx:=h x List.mem_cons_self
  rw [List.flatten_cons,List.drop_succ_cons,←Wid.drop_flat (rows:=rows) k (fun y hy=>h y (List.mem_cons_of_mem _ hy)),List.drop_append]
  have e1:x.drop ((k + 1) * n)=[]:=List.drop_eq_nil_of_le (by rw [hx,Nat.add_mul];omega)
  have e2:(k + 1) * n - x.length=k * n:=by rw [hx,Nat.add_mul];omega
  rw [e1,e2,List.nil_append]
theorem Wid.take_flat {n:Nat} {rows:List (List Value)} (k:Nat) (h:Wid n rows):rows.flatten.take (k * n)=(rows.take k).flatten:=by
 by_cases hk:k≤rows.length
 ·have e:rows.flatten=(rows.take k).flatten++(rows.drop k).flatten:=by rw [←List.flatten_append,List.take_append_drop]
  rw [e,List.take_left']
  rw [Wid.len (fun x hx=>h x (List.mem_of_mem_take hx)),List.length_take,Nat.min_eq_left hk]
 ·rw [List.take_of_length_le (by rw [h.len];exact Nat.mul_le_mul_right _ (by omega)),List.take_of_length_le (by omega)]
theorem Wid.take {n k:Nat} {rows:List (List Value)} (h:Wid n rows):Wid n (rows.take k):=fun x hx=>h x (List.mem_of_mem_take hx)
theorem Wid.drop {n k:Nat} {rows:List (List Value)} (h:Wid n rows):Wid n (rows.drop k):=fun x hx=>h x (List.mem_of_mem_drop hx)
theorem Wid.set {n k:Nat} {rows:List (List Value)} {x:List Value} (h:Wid n rows) (hx:x.length=n):Wid n (rows.set k x):=fun y hy=>by
 rcases List.mem_or_eq_of_mem_set hy with hy|rfl
 ·exact h y hy
 ·exact hx
theorem Pre.app:∀ {vs a:List Value} (b:List Value),Pre vs a→Pre vs (a++b)
 |[],_,_,_=>trivial
 |_::_,_::_,b,h=>⟨h.1,Pre.app b h.2⟩
 |_::_,[],_,h=>h.elim
theorem Pre.len:∀ {vs a:List Value},Pre vs a→vs.length≤a.length
 |[],_,_=>Nat.zero_le _
 |_::_,_::_,h=>by simp only [List.length_cons];exact Nat.succ_le_succ (Pre.len h.2)
 |_::_,[],h=>h.elim
theorem Wid.pre {n k j:Nat} {rows:List (List Value)} (rest:List Value) (h:Wid n rows) (hk:k<rows.length) {vs:List Value} (hp:Pre vs (rows[k].drop j)):Pre vs ((rows.flatten++rest).drop (k * n + j)):=by
 cases vs with
 |nil=>trivial
 |cons v vs=>
  have hj:j<rows[k].length:=by
   have:=Pre.len hp;simp only [List.length_cons,List.length_drop] at this;omega
  have hx:rows[k].length=n:=h _ (List.getElem_mem _)
  have hle:k * n + j≤rows.flatten.length:=by
   rw [h.len]
   have:(k + 1) * n≤rows.length * n:=Nat.mul_le_mul_right _ (by omega)
   rw [Nat.add_mul] at this
   omega
  rw [List.drop_append_of_le_length hle,Nat.add_comm (k * n) j,←List.drop_drop]
  rw [Nat.add_comm] at hle
  rw [List.drop_drop,Nat.add_comm j,←List.drop_drop,h.drop_flat,List.drop_eq_getElem_cons hk,List.flatten_cons,List.drop_append_of_le_length (by omega),List.append_assoc]
  exact hp.app _
theorem set_flat {n:Nat}:∀ {rows:List (List Value)} {k j:Nat} (v:Value),Wid n rows→(hk:k<rows.length)→j<n→rows.flatten.set (k * n + j) v=(rows.set k (rows[k].set j v)).flatten
 |[],k,j,v,_,hk,_=>by simp at hk
 |x::rows,0,j,v,h,_,hj=>by
  have hx:=h x List.mem_cons_self
  simp only [Nat.zero_mul,Nat.zero_add,List.flatten_cons,List.getElem_cons_zero,List.set_cons_zero]
  rw [List.set_append_left _ _ (by omega)]
 |x::rows,k + 1,j,v,h,hk,hj=>by
  have hx:=h x List.mem_cons_self
  have hk':k<rows.length:=by simpa using hk
  simp only [List.flatten_cons,List.getElem_cons_succ,List.set_cons_succ]
  rw [List.set_append_right _ _ (by rw [hx,Nat.add_mul];omega)]
  have e:(k + 1) * n + j - x.length=k * n + j:=by rw [hx,Nat.add_mul];omega
  rw [e,set_flat v (fun y hy=>h y (List.mem_cons_of_mem _ hy)) hk' hj]
theorem putL_flat {n:Nat} {rest:List Value}:∀ (vs:List Value) {rows:List (List Value)} {k j:Nat},Wid n rows→(hk:k<rows.length)→j + vs.length≤n→
  putL (rows.flatten++rest) (k * n + j) vs=(rows.set k (putL rows[k] j vs)).flatten++rest
 |[],rows,k,j,_,hk,_=>by simp [putL]
 |v::vs,rows,k,j,h,hk,hj=>by
  simp only [List.length_cons] at hj
  have hb:k * n + j<rows.flatten.length:=by
   rw [h.len]
   have:(k + 1) * n≤rows.length * n:=Nat.mul_le_mul_right _ (by omega)
   rw [Nat.add_mul] at this
   omega
  rw [putL,List.set_append_left _ _ hb,set_flat v h hk (by omega),Nat.add_assoc,putL_flat vs (h.set (by rw [List.length_set];exact h _ (List.getElem_mem _))) (by simpa using hk) (by omega)]
  simp [putL]
def OwnN (n:Nat) (s:Sl) (T:TypeId) (rows:List (List Value)):HP:=fun h=>
 Wid n rows∧((s=⟨none,0,0⟩∧rows=[]∧h=Heap.none)∨
  ∃ b rest fr cap,s=⟨some ⟨b,0,none⟩,rows.length,cap⟩∧(rows.flatten++rest).length=cap * n∧okFr (cap * n) fr∧h=Heap.one b (.cells (rows.flatten++rest).toArray T fr))
theorem OwnN.nil (h:Sat R Hs w):Sat R (OwnN n ⟨none,0,0⟩ T []::Hs) w:=
 ⟨Heap.none,⟨Wid.nil,.inl ⟨rfl,rfl,rfl⟩⟩,fun i hi=>absurd rfl hi,by rw [Cx.add_none];exact h⟩
theorem OwnN.of_pts {b cap:Nat} {fr:Nat × Nat} {rows:List (List Value)} {rest:List Value} (hwid:Wid n rows) (hl:(rows.flatten++rest).length=cap * n) (h:Sat R (pts b (.cells (rows.flatten++rest).toArray T fr)::Hs) w)
  (hf:okFr (cap * n) fr:=by first|assumption|exact Or.inl rfl):Sat R (OwnN n ⟨some ⟨b,0,none⟩,rows.length,cap⟩ T rows::Hs) w:=
 let ⟨a,ha,hd,hs⟩:=h;⟨a,⟨hwid,.inr ⟨b,rest,fr,cap,rfl,hl,hf,ha⟩⟩,hd,hs⟩
theorem OwnN.cases {rows:List (List Value)} (h:Sat R (OwnN n s T rows::Hs) w):Wid n rows∧
  ((s=⟨none,0,0⟩∧rows=[]∧Sat R Hs w)∨∃ b rest fr cap,s=⟨some ⟨b,0,none⟩,rows.length,cap⟩∧(rows.flatten++rest).length=cap * n∧okFr (cap * n) fr∧Sat R (pts b (.cells (rows.flatten++rest).toArray T fr)::Hs) w):=by
 obtain ⟨a,⟨hwid,ha⟩,hd,hs⟩:=h
 refine ⟨hwid,?_⟩
 rcases ha with ⟨h1,h2,rfl⟩|⟨b,rest,fr,cap,h1,h3,hf,rfl⟩
 ·rw [Cx.add_none] at hs;exact .inl ⟨h1,h2,hs⟩
 ·exact .inr ⟨b,rest,fr,cap,h1,h3,hf,_,rfl,hd,hs⟩
theorem OwnN.wid {rows:List (List Value)} (h:Sat R (OwnN n s T rows::Hs) w):Wid n rows:=(OwnN.cases h).1
theorem OwnN.len {rows:List (List Value)} (h:Sat R (OwnN n s T rows::Hs) w):s.len=rows.length:=by
 rcases (OwnN.cases h).2 with ⟨rfl,rfl,_⟩|⟨b,rest,fr,cap,rfl,_,_⟩<;>rfl
theorem OwnN.cap {rows:List (List Value)} (hn:0<n) (h:Sat R (OwnN n s T rows::Hs) w):s.len≤s.cap:=by
 have hwid:=(OwnN.cases h).1
 rcases (OwnN.cases h).2 with ⟨rfl,rfl,_⟩|⟨b,rest,fr,cap,rfl,hl,_⟩
 ·exact Nat.le_refl _
 ·rw [List.length_append,hwid.len] at hl
  simp only
  have:rows.length * n≤cap * n:=by omega
  exact Nat.le_of_mul_le_mul_right this hn
def ReadsN (n:Nat) (s:Sl) (rows:List (List Value)) (S:World→Prop):Prop:=
 s.len=rows.length∧∀ k (hk:k<rows.length),∃ b off,s.a=some ⟨b,off,none⟩∧∀ j vs,Pre vs (rows[k].drop j)→At S ⟨b,off + (k * n + j),none⟩ vs
theorem OwnN.reads {rows:List (List Value)} (hw:Sat R (OwnN n s T rows::Hs) w) {S:World→Prop} {Hs'} (hS:∀ w,S w→Sat R (OwnN n s T rows::Hs') w):ReadsN n s rows S:=by
 refine ⟨OwnN.len hw,fun k hk=>?_⟩
 obtain ⟨hwid,⟨_,rfl,_⟩|⟨b,rest,fr,cap,rfl,hl,_,_⟩⟩:=OwnN.cases hw
 ·simp at hk
 ·refine ⟨b,0,rfl,fun j vs hp w hw i v hv=>?_⟩
  obtain ⟨_,⟨h0,_,_⟩|⟨b',rest',fr',cap',he,_,_,h⟩⟩:=OwnN.cases (hS w hw)
  ·cases h0
  ·simp only [Sl.mk.injEq,Option.some.injEq,Addr.mk.injEq,and_true] at he
   obtain ⟨rfl,_⟩:=he
   have:=(Wid.pre rest' hwid hk hp).get i v hv
   rw [List.getElem?_drop] at this
   rw [add_off,Nat.zero_add,cell_of h.at,this]
theorem ReadsN.rng {S:World→Prop} {rows:List (List Value)} (h:ReadsN n s rows S) {k:Nat} (hk:k<rows.length) {F:Addr→Prop} (f:∀ b off,s.a=some ⟨b,off,none⟩→(∀ j vs,Pre vs (rows[k].drop j)→At S ⟨b,off + (k * n + j),none⟩ vs)→F ⟨b,off,none⟩):
  Rng (k:Int) s.len (NilP s.a F):=by
 obtain ⟨b,off,ha,hat⟩:=h.2 k hk
 have:=h.1
 exact Rng.mk (by omega) (by omega) (NilP.mk ha (f b off ha hat))
theorem elt_addr (b off k n j:Nat):(⟨(Addr.add ⟨b,off,none⟩ (mulS k n)).block,(Addr.add ⟨b,off,none⟩ (mulS k n)).off + j,none⟩:Addr)=⟨b,off + (k * n + j),none⟩:=by
 rw [add_off,mulS_eq];simp only [Addr.mk.injEq,and_true,true_and];omega
theorem elt_addr0 (b off k n:Nat):Addr.add ⟨b,off,none⟩ (mulS k n)=⟨b,off + (k * n + 0),none⟩:=by
 rw [add_off,mulS_eq];rfl
theorem OwnN.store {rows:List (List Value)} {t:TypeId} {v:Value} {k j:Nat} {b off:Nat} {K:World→Prop} (hw:Sat R (OwnN n s T rows::Hs) w) (ha:s.a=some ⟨b,off,none⟩) (hsz:(P.info? t).map (·.size)=some v.cells.toList.length) (h1:oneAll v.cells.toList=true)
  (hk:k<rows.length) (hj:j + v.cells.toList.length≤n) (h:∀ w',Sat R (OwnN n s T (rows.set k (putL rows[k] j v.cells.toList))::Hs) w'→K w'):
  ∃ w',(Instr.storeAt t (.pointer (some ⟨b,off + (k * n + j),none⟩)) v).run P w=.ok () w'∧K w':=by
 obtain ⟨hwid,⟨rfl,_,_⟩|⟨b',rest,fr,cap,rfl,hl,hf,hp⟩⟩:=OwnN.cases hw
 ·cases ha
 ·simp only [Option.some.injEq,Addr.mk.injEq,and_true] at ha
  obtain ⟨rfl,rfl⟩:=ha
  have hlt:(k + 1) * n≤rows.length * n:=Nat.mul_le_mul_right _ (by omega)
  rw [Nat.add_mul] at hlt
  have hll:=hl
  rw [List.length_append,hwid.len] at hll
  rw [Nat.zero_add]
  refine store_rule hp hsz h1 (by rw [List.length_append,hwid.len];omega) (fun w' h2=>h w' ?_) (by rw [hl];exact hf)
  rw [putL_flat _ hwid hk hj] at h2
  have hl2:(putL rows[k] j v.cells.toList).length=n:=by rw [putL_len];exact hwid _ (List.getElem_mem _)
  have:=OwnN.of_pts (cap:=cap) (hwid.set hl2) (by rw [←hl,List.length_append,List.length_append,(hwid.set hl2).len,List.length_set,hwid.len]) h2
  rw [List.length_set] at this
  exact this
structure RoN (n:Nat) (R:Cx) (s:Sl) (rows:List (List Value)):Prop where
 wid:Wid n rows
 len:s.len=rows.length
 mem:rows≠[]→∃ b off l T fr,s.a=some ⟨b,off,none⟩∧R.m b=some (.cells l T fr)∧∀ (i:Nat) v,rows.flatten[i]? =some v→l[off + i]? =some v
theorem RoN.add {h:Heap} {rows:List (List Value)} (hr:RoN n R s rows):RoN n (R.add h) s rows:=
 ⟨hr.wid,hr.len,fun hx=>let ⟨b,off,l,T,fr,ha,hb,hl⟩:=hr.mem hx;⟨b,off,l,T,fr,ha,Cx.kept hb,hl⟩⟩
theorem RoN.reads {rows:List (List Value)} (hr:RoN n R s rows) {S:World→Prop} {Hs'} (hS:∀ w,S w→Sat R Hs' w):ReadsN n s rows S:=by
 refine ⟨hr.len,fun k hk=>?_⟩
 obtain ⟨b,off,l,T,fr,ha,hb,hl⟩:=hr.mem (fun h=>by rw [h] at hk;simp at hk)
 refine ⟨b,off,ha,fun j vs hp w hw i v hv=>?_⟩
 have h1:=(Wid.pre [] hr.wid hk hp).get i v hv
 rw [List.append_nil,List.getElem?_drop] at h1
 have:=(hS w hw).of_ro hb
 rw [add_off]
 simp only [World.cell?,this,Option.isSome_none,Bool.false_eq_true,if_false]
 rw [Nat.add_assoc]
 exact hl _ _ h1
theorem OwnN.lend {rows:List (List Value)} (h:Sat R (OwnN n s T rows::Hs) w):
  ∃ R':Cx,RoN n R' s rows∧(∃ x,R'=R.add x)∧Sat R' Hs w∧∀ {Hs' w'},Sat R' Hs' w'→Sat R (OwnN n s T rows::Hs') w':=by
 obtain ⟨hwid,⟨rfl,rfl,h2⟩|⟨b,rest,fr,cap,rfl,hl,hf,h2⟩⟩:=OwnN.cases h
 ·exact ⟨R,⟨hwid,rfl,fun h=>absurd rfl h⟩,⟨Heap.none,(Cx.add_none R).symm⟩,h2,fun h=>OwnN.nil h⟩
 ·obtain ⟨hn,h3⟩:=Sat.lend.1 h2
  refine ⟨_,⟨hwid,rfl,fun _=>⟨b,0,_,T,fr,rfl,Cx.lent hn,fun i v hv=>?_⟩⟩,⟨_,rfl⟩,h3,fun h=>OwnN.of_pts hwid hl (Sat.lend.2 ⟨hn,h⟩)⟩
  obtain ⟨hi,rfl⟩:=List.getElem?_eq_some_iff.1 hv
  simp [List.getElem?_append_left hi]
theorem RoN.sub {rows:List (List Value)} (hr:RoN n R s rows) {l h m:Nat} (hlh:l≤h) (hh:h≤rows.length) (hm:m=l→h=l):RoN n R ⟨cutA s.a l m n,h - l,m - l⟩ ((rows.take h).drop l):=by
 have hwid:Wid n ((rows.take h).drop l):=hr.wid.take.drop
 refine ⟨hwid,by simp;omega,fun hne=>?_⟩
 have hlt:l<h:=by
  have:0<((rows.take h).drop l).length:=List.length_pos_iff.2 hne
  simp at this;omega
 obtain ⟨b,off,ls,T,fr,ha,hb,hl⟩:=hr.mem (fun h0=>by rw [h0] at hh;simp at hh;omega)
 refine ⟨b,off + l * n,ls,T,fr,?_,hb,fun i v hv=>?_⟩
 ·unfold cutA
  rw [if_neg (fun e=>by have:=hm e;omega),ha]
  simp [add_off]
 ·rw [Nat.add_assoc]
  refine hl _ _ ?_
  have e1:((rows.take h).drop l).flatten=(rows.flatten.take (h * n)).drop (l * n):=by
   rw [hr.wid.take_flat,hr.wid.take.drop_flat]
  rw [e1,List.getElem?_drop] at hv
  rw [List.getElem?_take] at hv
  split at hv
  ·exact hv
  ·cases hv
theorem RoN.take {rows:List (List Value)} (hr:RoN n R s rows) {h:Nat} (hh:h≤rows.length) (c:Nat):RoN n R ⟨s.a,h,c⟩ (rows.take h):=
 ⟨hr.wid.take,by simp;omega,fun hne=>by
  obtain ⟨b,off,ls,T,fr,ha,hb,hl⟩:=hr.mem (fun h0=>hne (by rw [h0];simp))
  refine ⟨b,off,ls,T,fr,ha,hb,fun i v hv=>hl _ _ ?_⟩
  rw [←hr.wid.take_flat,List.getElem?_take] at hv
  split at hv
  ·exact hv
  ·cases hv⟩
def elBN (P:Program) (T:TypeId) (n bytes:Nat):Bool:=
 match P.info? T with
 |some i=>match i.zero with
  |some z=>i.size==n && i.bytes==bytes && z.cells.size==n
  |none=>false
 |none=>false
structure ElN (P:Program) (t1 t2 T:TypeId) (n bytes:Nat):Prop where
 ht:P.underlying t1=some (.slice T)
 hk:∃ e',P.underlying t2=some (.slice e')
 hi:elBN P T n bytes=true
theorem OwnN.empty {b:Nat} {fr:Nat × Nat} (h:Sat R (pts b (.cells #[] T fr)::Hs) w):Sat R (OwnN n ⟨some ⟨b,0,none⟩,0,0⟩ T []::Hs) w:=
 OwnN.of_pts (rows:=[]) (rest:=[]) (cap:=0) Wid.nil (by simp) h (.inr (by simp))
structure Elt (n:Nat) (S:World→Prop) (a:Addr) (k:Nat) (row:List Value):Prop where
 f:∀ (j:Nat) {vs:List Value},Pre vs (row.drop j)→At S ⟨(Addr.add a (mulS (k:Int).toNat n)).block,(Addr.add a (mulS (k:Int).toNat n)).off + j,none⟩ vs
 z:∀ {vs:List Value},Pre vs row→At S (Addr.add a (mulS (k:Int).toNat n)) vs
 zz:∀ {vs:List Value},Pre vs row→At S (Addr.add (Addr.add a (mulS (k:Int).toNat n)) 0) vs
class Arr (Hs Hs':List HP):Prop where
 perm:Hs.Perm Hs'
instance (priority:=2000) Arr.refl {Hs:List HP}:Arr Hs Hs:=⟨List.Perm.refl _⟩
instance Arr.cons {A:HP} {Hs Rest Hs':List HP} [t:Take A Hs Rest] [r:Arr Rest Hs']:Arr Hs (A::Hs'):=⟨t.perm.trans (r.perm.cons A)⟩
theorem Sat.arr {Hs':List HP} (h:Sat R Hs w) [a:Arr Hs Hs']:Sat R Hs' w:=h.perm a.perm
theorem Br.d {p:Prop} {inst:Decidable p} {A B:Prop} (h:p→A) (h':¬ p→B):Br (@decide p inst) A B:=Br.mk (fun e=>h (of_decide_eq_true e)) (fun e=>h' (of_decide_eq_false e))
theorem Br.nd {p:Prop} {inst:Decidable p} {A B:Prop} (h:¬ p→A) (h':p→B):Br (!@decide p inst) A B:=Br.mk (fun e=>h (by simpa using e)) (fun e=>h' (by simpa using e))
theorem Br.e {x y:Int} {A B:Prop} (h:x=y→A) (h':¬ x=y→B):Br (x==y) A B:=Br.mk (fun e=>h (by simpa using e)) (fun e=>h' (by simpa using e))
theorem Br.ne {x y:Int} {A B:Prop} (h:¬ x=y→A) (h':x=y→B):Br (x !=y) A B:=Br.mk (fun e=>h (by simpa using e)) (fun e=>h' (by simpa using e))
theorem Br.nb {b:Bool} {A B:Prop} (h:b=false→A) (h':b=true→B):Br (!b) A B:=Br.mk (fun e=>h (by simpa using e)) (fun e=>h' (by simpa using e))
theorem str_eql (a b:ByteArray):(a.toList==b.toList)=decide (a=b):=by
 rw [ByteArray.toList_eq,ByteArray.toList_eq]
 by_cases h:a=b
 ·simp [h]
 ·have:a.data≠b.data:=fun h2=>h (by cases a;cases b;simp_all)
  simp [h,this]
theorem Br.se {x y:ByteArray} {A B:Prop} (h:x=y→A) (h':¬ x=y→B):Br (x.toList==y.toList) A B:=by rw [str_eql];exact Br.d h h'
theorem Br.sne {x y:ByteArray} {A B:Prop} (h:¬ x=y→A) (h':x=y→B):Br (!(x.toList==y.toList)) A B:=by rw [str_eql];exact Br.nd h h'
end Go.VC
/- Integers of other kinds: wrapping, bits, shifts, as the formulas ask for them. No condition but ranges. -/
namespace Go.VC
set_option linter.unusedVariables false
theorem wrapU8 {x:Int} (h0:0≤x) (h1:x<256):IntKind.u8.wrap x=x:=by rw [IntKind.wrap_u8'];omega
theorem wrapU8m (x:Int):IntKind.u8.wrap x=x % 256:=IntKind.wrap_u8' x
theorem wrapU64 {x:Int} (h0:0≤x) (h1:x<18446744073709551616):IntKind.u64.wrap x=x:=by rw [IntKind.wrap_u64];omega
theorem bv_toNat (n x:Nat) (h:x<2 ^ n):(BitVec.ofInt n (x:Int)).toNat=x:=by
 rw [BitVec.toNat_ofInt]
 have:((x:Int) % (2 ^ n:Nat))=x:=Int.emod_eq_of_lt (by omega) (by exact_mod_cast h)
 rw [this];rfl
theorem orU64 {x y:Nat} (hx:x<18446744073709551616) (hy:y<18446744073709551616):bitI .or .u64 x y=((x|||y:Nat):Int):=by
 have e:(BitVec.ofInt 64 (x:Int)|||BitVec.ofInt 64 (y:Int)).toNat=x|||y:=by rw [BitVec.toNat_or,bv_toNat 64 x hx,bv_toNat 64 y hy]
 show IntKind.u64.wrap (((BitVec.ofInt 64 (x:Int)|||BitVec.ofInt 64 (y:Int)).toNat:Nat):Int)=_
 rw [e]
 have:x|||y<18446744073709551616:=Nat.or_lt_two_pow (n:=64) hx hy
 exact wrapU64 (by omega) (by omega)
theorem or_byte (x y:Nat) (hy:y<256):x * 256|||y=x * 256 + y:=by
 have:=Nat.two_pow_add_eq_or_of_lt (i:=8) (b:=y) (by omega) x
 rw [Nat.mul_comm] at this
 exact this.symm
end Go.VC
/- SL, part 11: slices that are only read, as memory of one's own: lent, cut, given back. No condition. -/
namespace Go.VC
set_option linter.unusedVariables false
variable {P:Program} {R:Cx} {Hs Rest:List HP} {w:World} {s:Sl}
structure SlR (h:Heap) (s:Sl) (xs:List Value):Prop where
 len:s.len=xs.length
 cap:s.len≤s.cap
 mem:xs≠[]→∃ b off l T fr,s.a=some ⟨b,off,none⟩∧h b=some (.cells l T fr)∧∀ (i:Nat) v,xs[i]? =some v→l[off + i]? =some v
def Reads (s:Sl) (xs:List Value):HP:=fun h=>SlR h s xs
theorem SlR.add {h h':Heap} {xs:List Value} (a:SlR h s xs):SlR (h.add h') s xs:=
 ⟨a.len,a.cap,fun hx=>let ⟨b,off,l,T,fr,ha,hb,hl⟩:=a.mem hx;⟨b,off,l,T,fr,ha,by simp only [Heap.add,hb],hl⟩⟩
theorem SlR.addR {h h':Heap} {xs:List Value} (hd:h'.dis h) (a:SlR h s xs):SlR (h'.add h) s xs:=
 ⟨a.len,a.cap,fun hx=>let ⟨b,off,l,T,fr,ha,hb,hl⟩:=a.mem hx;⟨b,off,l,T,fr,ha,by
  simp only [Heap.add,hd b (by rw [hb];simp)];exact hb,hl⟩⟩
theorem SlR.ro {xs:List Value} (a:SlR R.m s xs) (hb:xs.length≤9223372036854775807):Ro R s xs:=
 ⟨a.len,hb,a.mem⟩
theorem SlR.take {h:Heap} {xs:List Value} (a:SlR h s xs) {k:Nat} (hk:k≤xs.length):SlR h ⟨s.a,k,s.cap⟩ (xs.take k):=
 ⟨by simp;omega,by have:=a.len;have:=a.cap;simp only;omega,fun hx=>by
  obtain ⟨b,off,l,T,fr,ha,hb,hl⟩:=a.mem (fun h0=>hx (by rw [h0];simp))
  refine ⟨b,off,l,T,fr,ha,hb,fun i v hv=>hl i v ?_⟩
  rw [List.getElem?_take] at hv
  split at hv
  ·exact hv
  ·cases hv⟩
theorem SlR.drop {h:Heap} {xs:List Value} (a:SlR h s xs) {k:Nat} (hk:k≤xs.length):SlR h ⟨cutA s.a k s.cap 1,s.len - k,s.cap - k⟩ (xs.drop k):=by
 have hlen:=a.len
 have hcap:=a.cap
 refine ⟨by simp;omega,by simp only;omega,fun hx=>?_⟩
 obtain ⟨b,off,l,T,fr,ha,hb,hl⟩:=a.mem (fun h0=>hx (by rw [h0];simp))
 have hlt:0<(xs.drop k).length:=List.length_pos_iff.2 hx
 rw [List.length_drop] at hlt
 refine ⟨b,off + k,l,T,fr,?_,hb,fun i v hv=>?_⟩
 ·unfold cutA
  rw [if_neg (by omega),ha]
  simp [add_off]
 ·rw [List.getElem?_drop] at hv
  rw [Nat.add_assoc]
  exact hl _ _ hv
theorem Reads.lend {xs:List Value} (h:Sat R (Reads s xs::Hs) w):∃ x:Heap,R.dis x∧SlR (R.add x).m s xs∧Sat (R.add x) Hs w∧SlR x s xs:=by
 obtain ⟨x,hx,hd,hs⟩:=h
 exact ⟨x,hd,SlR.addR hd hx,hs,hx⟩
theorem Reads.back {xs:List Value} {x:Heap} (hd:R.dis x) (hx:SlR x s xs) (h:Sat (R.add x) Hs w):Sat R (Reads s xs::Hs) w:=⟨x,hx,hd,h⟩
theorem Own.reads {T:TypeId} {xs:List Value} (h:Sat R (Own s T xs::Hs) w):Sat R (Reads s xs::Hs) w:=by
 rcases Own.cases h with ⟨rfl,rfl,h2⟩|⟨b,rest,fr,rfl,hf,h2⟩
 ·exact ⟨Heap.none,⟨rfl,Nat.le_refl _,fun h=>absurd rfl h⟩,fun i hi=>absurd rfl hi,by rw [Cx.add_none];exact h2⟩
 ·obtain ⟨a,ha,hd,hs⟩:=h2
  refine ⟨a,⟨rfl,by simp,fun _=>⟨b,0,(xs++rest).toArray,T,fr,rfl,by rw [ha];simp [Heap.one],fun i v hv=>?_⟩⟩,hd,hs⟩
  obtain ⟨hi,rfl⟩:=List.getElem?_eq_some_iff.1 hv
  simp [List.getElem?_append_left hi]
theorem SlR.idxK {kd:IntKind} {xs:List Int} {S:World→Prop} (hr:SlR R.m s (xs.map (Value.int kd))) (hS:∀ w,S w→Sat R Hs w) {k:Nat} (hk:k<xs.length) {F:Int→Prop} (h:F xs[k]):
  Rng (k:Int) s.len (NilP s.a fun a=>∃ t:Int,(At S (a.add (k:Int).toNat) [.int kd t])∧F t):=by
 have hl:s.len=xs.length:=by have:=hr.len;simpa using this
 obtain ⟨b,off,l,T,fr,ha,hb,hel⟩:=hr.mem (by intro h0;rw [List.map_eq_nil_iff] at h0;rw [h0] at hk;simp at hk)
 refine Rng.mk (by omega) (by omega) (NilP.mk ha ⟨xs[k],fun w hw i v hv=>?_,h⟩)
 have hi:i=0:=by
  cases i with
  |zero=>rfl
  |succ i=>simp at hv
 subst hi
 simp only [List.getElem?_cons_zero,Option.some.injEq] at hv
 subst hv
 rw [Int.toNat_natCast,add_off,add_off]
 have:=(hS w hw).of_ro hb
 simp only [World.cell?,this,Option.isSome_none,Bool.false_eq_true,if_false]
 exact hel k _ (by simp [hk])
end Go.VC
/- Slices of bytes: Clone. No condition. -/
namespace Go.Proofs.YtfgbbckfikiomaaGreatDoor
set_option linter.unusedVariables false
open Go Go.VC
variable {R:Cx} {Hs Rest:List HP} {w:World}
theorem _root_.Go.VC.Sat.re {A:HP} (B:HP) (h:Sat R (A::Hs) w) (e:A=B:=by rfl):Sat R (B::Hs) w:=e ▸ h
abbrev b8 (l:List Int):List Value:=l.map (Value.int .u8)
theorem elB8:El Tryz.prog 42 42 5 1:=⟨Tryz.underlying42,⟨_,Tryz.underlying42⟩,by kernel_rfl⟩
theorem one_b8 (xs:List Int):oneAll (b8 xs)=true:=by unfold oneAll;simp [Value.oneCell']
theorem clone_spec {s:Sl} {xs:List Int} (hs:Ro R s (b8 xs)) (hl:xs.length≤1099511627776) (hw:Sat R Hs w):
  Gets Tryz.prog 146 #[.slice s.a s.len s.cap] w fun r w'=>∃ t:Sl,r=.slice t.a t.len t.cap∧Sat R (Own t 5 (b8 xs)::Hs) w':=by
 apply call146
 refine Br.mk (fun h=>?_) (fun h=>?_)
 ·have hx:xs=[]:=by
   by_cases hx:b8 xs=[]
   ·simpa using hx
   ·obtain ⟨b,off,_,_,_,ha,_⟩:=hs.mem hx
    rw [ha] at h;cases h
  subst hx
  exact ⟨⟨none,0,0⟩,rfl,Own.nil hw⟩
 ·refine new_rule hw fun b w hw=>?_
  have h0:Sat R (Own ⟨some ⟨b,0,none⟩,0,0⟩ 5 []::Hs) w:=Own.of_pts (xs:=[]) (rest:=[]) hw
  have hsrc:Src Tryz.prog 1 42 (.slice s.a s.len s.cap) xs.length (b8 xs) w:=by
   have:=srcRo Tryz.underlying42 h0 hs (one_b8 xs)
   simpa using this
  have:=append_rule (ty:=42) (K:=fun t w'=>∃ u:Sl,Value.slice t.a t.len t.cap=.slice u.a u.len u.cap∧Sat R (Own u 5 (b8 xs)::Hs) w') elB8 h0 hsrc rfl (by simp;omega) (by simp;omega) fun t w hw=>⟨t,rfl,by simpa using hw⟩
  exact this
end Go.Proofs.YtfgbbckfikiomaaGreatDoor
/- Codes of numbers and of bytes, plain. No program. No condition. -/
namespace Go.VC
set_option linter.unusedVariables false
def dig (n:Nat):List Int:=if h:n=0 then [] else dig (n / 256)++[((n % 256:Nat):Int)]
termination_by n
decreasing_by omega
theorem dig_zero:dig 0=[]:=by unfold dig;simp
theorem dig_pos {n:Nat} (h:n≠0):dig n=dig (n / 256)++[((n % 256:Nat):Int)]:=by
 conv=>lhs;unfold dig
 rw [dif_neg h]
def valI (acc:Int) (l:List Int):Int:=l.foldl (fun a b=>a * 256 + b) acc
theorem valI_cons (acc b:Int) (l:List Int):valI acc (b::l)=valI (acc * 256 + b) l:=rfl
theorem valI_app (acc:Int) (a b:List Int):valI acc (a++b)=valI (valI acc a) b:=List.foldl_append
theorem valI_snoc (acc:Int) (a:List Int) (b:Int):valI acc (a++[b])=valI acc a * 256 + b:=by rw [valI_app];rfl
theorem valI_nn:∀ {l:List Int} {acc:Int},0≤acc→(∀ x∈l,0≤x∧x<256)→0≤valI acc l
 |[],_,h,_=>h
 |b::l,acc,h,hb=>by
  rw [valI_cons]
  have:=hb b List.mem_cons_self
  exact valI_nn (by omega) fun x hx=>hb x (List.mem_cons_of_mem _ hx)
theorem valI_lt:∀ {l:List Int} {acc:Int},0≤acc→(∀ x∈l,0≤x∧x<256)→valI acc l<(acc + 1) * 256 ^ l.length
 |[],acc,h,_=>by simp [valI];omega
 |b::l,acc,h,hb=>by
  rw [valI_cons]
  have h1:=hb b List.mem_cons_self
  have:=valI_lt (l:=l) (acc:=acc * 256 + b) (by omega) fun x hx=>hb x (List.mem_cons_of_mem _ hx)
  refine Int.lt_of_lt_of_le this ?_
  rw [List.length_cons,Int.pow_succ,Int.mul_comm (256 ^ l.length) 256,←Int.mul_assoc]
  exact Int.mul_le_mul_of_nonneg_right (by omega) (Int.le_of_lt (Int.pow_pos (by decide)))
theorem dig_len_le:∀ (k n:Nat),n<256 ^ k→(dig n).length≤k
 |0,n,h=>by
  have:n=0:=by simpa using h
  subst this;rw [dig_zero];simp
 |k + 1,n,h=>by
  by_cases h0:n=0
  ·subst h0;rw [dig_zero];simp
  ·rw [dig_pos h0,List.length_append]
   have:=dig_len_le k (n / 256) (by rw [Nat.pow_succ] at h;exact Nat.div_lt_of_lt_mul (by rwa [Nat.mul_comm] at h))
   simp;omega
theorem dig_len8 {n:Nat} (h:n<18446744073709551616):(dig n).length≤8:=dig_len_le 8 n (by simpa using h)
theorem dig_width (n:Nat) (h:n<18446744073709551616):(Lib.bitLen n + 7) / 8=(dig n).length:=by
 induction n using Nat.strongRecOn with
 |ind n ih=>
  by_cases h0:n=0
  ·subst h0;rw [dig_zero];decide
  ·rw [dig_pos h0,List.length_append]
   by_cases h1:256≤n
   ·rw [Lib.bitLen_shift8 n h1 h,←ih (n / 256) (by omega) (by omega)]
    simp;omega
   ·have e:n / 256=0:=by omega
    rw [e,dig_zero]
    have h2:∀ m:Fin 256,m.val≠0→(Lib.bitLen m.val + 7) / 8=1:=by decide +kernel
    simpa using h2 ⟨n,by omega⟩ h0
theorem dig_drop:∀ (k n:Nat),k≤(dig n).length→(dig n).take ((dig n).length - k)=dig (n / 256 ^ k)
 |0,n,_=>by simp
 |k + 1,n,h=>by
  by_cases h0:n=0
  ·subst h0;rw [dig_zero] at h;simp at h
  ·rw [dig_pos h0] at h ⊢
   rw [List.length_append] at h ⊢
   simp only [List.length_cons,List.length_nil] at h ⊢
   have e:(dig (n / 256)).length + (0 + 1) - (k + 1)=(dig (n / 256)).length - k:=by omega
   rw [e,List.take_append_of_le_length (by omega),dig_drop k (n / 256) (by omega),Nat.div_div_eq_div_mul,Nat.pow_succ,Nat.mul_comm 256]
theorem dig_get {n k:Nat} (h:k<(dig n).length):(dig n)[(dig n).length - 1 - k]'(by omega)=((n / 256 ^ k % 256:Nat):Int):=by
 have h1:=dig_drop k n (by omega)
 have hn:n / 256 ^ k≠0:=by
  intro h0
  rw [h0,dig_zero] at h1
  have:=congrArg List.length h1
  simp at this;omega
 rw [dig_pos hn] at h1
 have h2:((dig n).take ((dig n).length - k)).getLast? =some ((n / 256 ^ k % 256:Nat):Int):=by rw [h1];simp
 rw [List.getLast?_eq_getElem?,List.length_take,Nat.min_eq_left (by omega),List.getElem?_take] at h2
 split at h2
 ·rw [List.getElem?_eq_some_iff] at h2
  obtain ⟨h3,h4⟩:=h2
  have e:(dig n).length - 1 - k=(dig n).length - k - 1:=by omega
  simp only [e]
  exact h4
 ·cases h2
def numB (n:Nat):List Int:=((dig n).length:Int)::dig n
def textB (b:List Int):List Int:=numB b.length++b
theorem numB_len {n:Nat} (h:n<18446744073709551616):(numB n).length≤9:=by
 have:=dig_len8 h;unfold numB;simp;omega
def parse (l:List Int):Option (Int × Bool × Nat):=
 match l with
 |[]=>none
 |k::rest=>
  let neg:=decide (16≤k)
  let w:=(if 16≤k then k - 16 else k).toNat
  if k<32∧w≤8∧w≤rest.length∧(w=0→k=0)∧(w≠0→rest.head?≠some 0) then some (valI 0 (rest.take w),neg,w + 1) else none
theorem parse_bd {l:List Int} {n:Int} {neg:Bool} {k:Nat} (hb:∀ x∈l,0≤x∧x<256) (h:parse l=some (n,neg,k)):0≤n∧n<18446744073709551616∧1≤k∧k≤9∧k≤l.length:=by
 unfold parse at h
 split at h
 ·cases h
 ·rename_i c rest
  simp only at h
  generalize hw:(if 16≤c then c - 16 else c).toNat=w at h
  split at h
  ·rename_i hc
   obtain ⟨_,h8,hr,_,_⟩:=hc
   simp only [Option.some.injEq,Prod.mk.injEq] at h
   obtain ⟨rfl,_,rfl⟩:=h
   have hb2:∀ x∈rest.take w,0≤x∧x<256:=fun x hx=>hb x (List.mem_cons_of_mem _ (List.mem_of_mem_take hx))
   refine ⟨valI_nn (Int.le_refl _) hb2,?_,by omega,by omega,by simp;omega⟩
   refine Int.lt_of_lt_of_le (valI_lt (Int.le_refl _) hb2) ?_
   rw [List.length_take,Nat.min_eq_left hr,Int.zero_add,Int.one_mul]
   have h9:256 ^ w≤256 ^ 8:=Nat.pow_le_pow_right (by omega) h8
   have:((256 ^ w:Nat):Int)≤((256 ^ 8:Nat):Int):=Int.ofNat_le.2 h9
   rw [Int.natCast_pow] at this
   exact Int.le_trans this (by decide)
  ·cases h
structure Rd where
 bs:List Int
 bad:Bool
def rdNum (most:Int) (r:Rd):Int × Rd:=
 if r.bad then (0,r) else match parse r.bs with
 |some (n,neg,k)=>if neg=false∧n≤most then (n,⟨r.bs.drop k,false⟩) else (0,⟨r.bs,true⟩)
 |none=>(0,⟨r.bs,true⟩)
def rdText (most:Int) (r:Rd):List Int × Rd:=
 if r.bad then ([],r) else match parse r.bs with
 |some (n,neg,k)=>if neg=false∧0≤most∧n≤most∧n≤((r.bs.length:Int) - k) then (((r.bs.drop k).take n.toNat),⟨r.bs.drop (k + n.toNat),false⟩) else ([],⟨r.bs,true⟩)
 |none=>([],⟨r.bs,true⟩)
def rdWhole (r:Rd):Bool:=!r.bad && decide (r.bs.length=0)
end Go.VC
/- Package field: numbers and bytes as bytes. Condition: bounds on lengths. -/
namespace Go.Proofs.YtfgbbckfikiomaaGreatDoor
set_option linter.unusedVariables false
open Go Go.VC
variable {R:Cx} {Hs Rest:List HP} {w:World}
theorem _root_.Go.VC.SlR.mono {h h':Heap} {s:Sl} {xs:List Value} (hs:∀ b o,h b=some o→h' b=some o) (a:SlR h s xs):SlR h' s xs:=
 ⟨a.len,a.cap,fun hx=>let ⟨b,off,l,T,fr,ha,hb,hl⟩:=a.mem hx;⟨b,off,l,T,fr,ha,hs _ _ hb,hl⟩⟩
abbrev amissP:List PanicEntry:=[⟨.iface 246 (.agg #[]),false,false⟩]
theorem must_c {b:Bool} {Q:Ending→World→Prop} (h1:b=true→Q (.returned (.tuple #[])) w) (h2:b=false→Q (.panicked amissP) w):Calls Tryz.prog 167 #[.bool b] w Q:=by
 have h:GetsX Tryz.prog 167 #[.bool b] w (fun ch w'=>b=false∧ch=amissP∧w'=w) (fun v w'=>b=true∧v=.tuple #[]∧w'=w):=by
  apply call167
  refine Br.nb (fun h=>?_) (fun h=>?_)
  ·exact ⟨h,rfl,rfl⟩
  ·exact ⟨h,rfl,rfl⟩
 refine h.use ?_ ?_
 ·rintro v w' ⟨hb,rfl,e⟩;rw [e];exact h1 hb
 ·rintro v w' ⟨hb,rfl,e⟩;rw [e];exact h2 hb
abbrev lp (l:Nat) (s:Sl):HP:=pts l (.cells [.slice s.a s.len s.cap].toArray 42 (0,0))
abbrev sdrop (s:Sl) (k:Nat):Sl:=⟨cutA s.a k s.cap 1,s.len - k,s.cap - k⟩
theorem take_spec {l:Nat} {s:Sl} {xs:List Value} {k:Nat} (hr:SlR R.m s xs) (hw:Sat R (lp l s::Hs) w):
  GetsX Tryz.prog 168 #[.pointer (some ⟨l,0,none⟩),.int .i64 k] w
   (fun ch w'=>xs.length<k∧ch=amissP∧Sat R (lp l s::Hs) w')
   (fun v w'=>k≤xs.length∧v=.slice s.a k s.cap∧Sat R (lp l (sdrop s k)::Hs) w'):=by
 have hlen:=hr.len
 have hcap:=hr.cap
 apply call168
 refine NilP.mk rfl ⟨s,At.own (eqS hw) (by exact ⟨rfl,trivial⟩),must_c (fun h=>.inl ⟨rfl,?_⟩) (fun h=>.inr ⟨_,rfl,?_⟩)⟩
 ·have h:=of_decide_eq_true h
  refine NilP.mk rfl ⟨s,At.own (eqS hw) (by exact ⟨rfl,trivial⟩),by omega,by omega,NilP.mk rfl ⟨s,At.own (eqS hw) (by exact ⟨rfl,trivial⟩),by omega,by omega,NilP.mk rfl ?_⟩⟩
  rw [Int.toNat_natCast]
  refine store_rule hw (by kernel_rfl) rfl (by simp [Value.cells]) fun w hw=>?_
  exact ⟨by omega,rfl,hw⟩
 ·have h:=of_decide_eq_false h
  exact ⟨by omega,rfl,hw⟩
theorem andn32:∀ c:Fin 32,bitI .andNot .u8 ((c.1:Nat):Int) 16=if 16≤((c.1:Nat):Int) then ((c.1:Nat):Int) - 16 else ((c.1:Nat):Int):=by decide +kernel
theorem andn {c:Int} (h0:0≤c) (h1:c<32):IntKind.i64.wrap (bitI .andNot .u8 c 16)=if 16≤c then c - 16 else c:=by
 obtain ⟨n,rfl⟩:=Int.eq_ofNat_of_zero_le h0
 have:=andn32 ⟨n,by omega⟩
 simp only at this
 rw [this]
 split<;>exact wrap64 (by omega) (by omega)
theorem shl8_or {n t:Int} (h0:0≤n) (h1:n<72057594037927936) (t0:0≤t) (t1:t<256):bitI .or .u64 (shlI .u64 n 8) (IntKind.u64.wrap t)=n * 256 + t:=by
 have e:shlI .u64 n 8=n * 256:=by
  show IntKind.u64.wrap (n * 2 ^ 8)=_
  rw [wrapU64 (by omega) (by omega)];omega
 rw [e,wrapU64 t0 (by omega)]
 obtain ⟨a,rfl⟩:=Int.eq_ofNat_of_zero_le h0
 obtain ⟨b,rfl⟩:=Int.eq_ofNat_of_zero_le t0
 have:=orU64 (x:=a * 256) (y:=b) (by omega) (by omega)
 rw [or_byte a b (by omega)] at this
 rw [show ((a * 256:Nat):Int)=(a:Int) * 256 from Int.natCast_mul a 256] at this
 rw [this]
 exact (Int.natCast_add (a * 256) b).trans (by rw [Int.natCast_mul];rfl)
abbrev widN (c:Int):Nat:=(if 16≤c then c - 16 else c).toNat
theorem fsize_spec {h:Heap} {l:Nat} {s:Sl} {bs:List Int} (hb:∀ x∈bs,0≤x∧x<256) (hsub:∀ b o,h b=some o→R.m b=some o) (hr0:SlR h s (b8 bs)) (hw:Sat R (lp l s::Hs) w):
  GetsX Tryz.prog 166 #[.pointer (some ⟨l,0,none⟩)] w
   (fun ch w'=>parse bs=none∧ch=amissP∧∃ s',Sat R (lp l s'::Hs) w')
   (fun v w'=>∃ n neg k s',parse bs=some (n,neg,k)∧v=.tuple #[.int .u64 n,.bool neg]∧SlR h s' (b8 (bs.drop k))∧Sat R (lp l s'::Hs) w'):=by
 have hr:SlR R.m s (b8 bs):=hr0.mono hsub
 apply call166
 refine (take_spec (k:=1) hr hw).use ?_ ?_
 rotate_left
 ·rintro _ w ⟨h,rfl,hw⟩
  refine .inr ⟨_,rfl,?_,rfl,s,hw⟩
  cases bs with
  |nil=>rfl
  |cons=>simp at h
 rintro _ w ⟨hlen,rfl,hw⟩
 cases bs with
 |nil=>simp at hlen
 |cons c rest=>
 have hc:=hb c List.mem_cons_self
 have hbr:∀ x∈rest,0≤x∧x<256:=fun x hx=>hb x (List.mem_cons_of_mem _ hx)
 refine .inl ⟨⟨s.a,1,s.cap⟩,rfl,?_⟩
 have hr1:SlR R.m ⟨s.a,1,s.cap⟩ (b8 [c]):=hr.take (k:=1) hlen
 have hrd:SlR R.m (sdrop s 1) (b8 rest):=hr.drop (k:=1) hlen
 have:=SlR.idxK (Hs:=lp l (sdrop s 1)::Hs) (S:=fun w'=>w'=w) hr1 (eqS hw) (k:=0) (by simp) (F:=fun t=>t=c) rfl
 obtain ⟨h0,h1,this⟩:=this.out
 obtain ⟨a,ha,t,hat,rfl⟩:=this.out
 refine Rng.mk h0 h1 (NilP.mk ha ⟨t,hat,?_⟩)
 have hsnone:∀ {p:Prop},¬ p→True:=fun _=>trivial
 refine ⟨fun w=>(t<32∧widN t≤8∧(widN t=0→t=0))∧Sat R (lp l (sdrop s 1)::Hs) w,?_,?_⟩
 ·have bad:(t<32∧widN t≤8∧widN t≤rest.length∧(widN t=0→t=0)∧(widN t≠0→rest.head?≠some 0)→False)→parse (t::rest)=none:=fun h=>by
   unfold parse;simp only;rw [if_neg h]
  refine Br.d (fun h=>?_) (fun h=>?_)
  ·rw [andn hc.1 h]
   refine Br.d (fun h2=>?_) (fun h2=>?_)
   ·refine Br.d (fun h3=>?_) (fun h3=>?_)
    ·exact must_c (fun _=>.inl ⟨rfl,⟨h,by unfold widN;omega,fun h4=>by unfold widN at h4;omega⟩,hw⟩) (fun h=>by cases h)
    ·refine must_c (fun h4=>.inl ⟨rfl,⟨h,by unfold widN;omega,fun h5=>?_⟩,hw⟩) (fun h4=>.inr ⟨_,rfl,bad ?_,rfl,_,hw⟩)
     ·simp only [ge_iff_le,Bool.not_eq_true',decide_eq_false_iff_not] at h4
      rw [if_neg h4] at h3;omega
     ·simp only [ge_iff_le,Bool.not_eq_false',decide_eq_true_eq] at h4
      rintro ⟨_,_,_,h5,_⟩
      rw [if_pos h4] at h3
      have:=h5 (by unfold widN;rw [if_pos h4];omega)
      omega
   ·exact must_c (fun h=>by cases h) (fun _=>.inr ⟨_,rfl,bad (by rintro ⟨_,h3,_⟩;unfold widN at h3;omega),rfl,_,hw⟩)
  ·exact must_c (fun h=>by cases h) (fun _=>.inr ⟨_,rfl,bad (by rintro ⟨h3,_⟩;exact h h3),rfl,_,hw⟩)
 clear hat ha h0 h1
 rintro _ w ⟨⟨h32,h8,hz⟩,hw⟩
 rw [andn hc.1 h32]
 have hwid:(if 16≤t then t - 16 else t)=((widN t:Nat):Int):=by
  unfold widN;rw [Int.toNat_of_nonneg];split<;>omega
 rw [hwid]
 generalize hW:widN t=W at *
 refine (take_spec (k:=W) hrd hw).use ?_ ?_
 rotate_left
 ·rintro _ w ⟨h,rfl,hw⟩
  refine .inr ⟨_,rfl,?_,rfl,_,hw⟩
  unfold parse;simp only;rw [if_neg]
  rintro ⟨_,_,h3,_⟩
  have:widN t≤rest.length:=h3
  simp at h;omega
 rintro _ w ⟨hl,rfl,hw⟩
 have hl:W≤rest.length:=by simpa using hl
 have hrt:SlR R.m ⟨(sdrop s 1).a,W,(sdrop s 1).cap⟩ (b8 (rest.take W)):=by have:=hrd.take (k:=W) (by simpa using hl);rwa [←List.map_take] at this
 have hlt:(rest.take W).length=W:=by simp;omega
 refine .inl ⟨⟨(sdrop s 1).a,W,(sdrop s 1).cap⟩,rfl,?_⟩
 refine ⟨fun n i w=>∃ k:Nat,i=k∧k≤W∧n=valI 0 (rest.take k)∧(k≠0→rest.head?≠some 0)∧Sat R (lp l (sdrop (sdrop s 1) W)::Hs) w,fun _ i _=>W - i.toNat,⟨0,rfl,Nat.zero_le _,rfl,fun h=>absurd rfl h,hw⟩,?_⟩
 rintro _ _ _ w ⟨k,rfl,hk,rfl,hh,hw⟩
 refine Br.d (fun h=>?_) (fun h=>?_)
 ·have hk2:k<W:=by have:((k:Nat):Int)<(W:Int):=h;omega
  have hkr:k<rest.length:=by omega
  have:=SlR.idxK (Hs:=lp l (sdrop (sdrop s 1) W)::Hs) (S:=fun w'=>w'=w) hrt (eqS hw) (k:=k) (by omega) (F:=fun t=>t=rest[k]) (by simp)
  obtain ⟨h0,h1,this⟩:=this.out
  obtain ⟨a,ha,x,hat,rfl⟩:=this.out
  refine Rng.mk h0 h1 (NilP.mk ha ⟨_,hat,?_⟩)
  have hx:=hbr rest[k] (List.getElem_mem _)
  have hvb:∀ x∈rest.take k,0≤x∧x<256:=fun x hx=>hbr x (List.mem_of_mem_take hx)
  have hv0:=valI_nn (acc:=0) (Int.le_refl _) hvb
  have hv1:valI 0 (rest.take k)<72057594037927936:=by
   refine Int.lt_of_lt_of_le (valI_lt (Int.le_refl _) hvb) ?_
   rw [List.length_take,Nat.min_eq_left (by omega),Int.zero_add,Int.one_mul]
   have h9:256 ^ k≤256 ^ 7:=Nat.pow_le_pow_right (by omega) (by omega)
   have:((256 ^ k:Nat):Int)≤((256 ^ 7:Nat):Int):=Int.ofNat_le.2 h9
   rw [Int.natCast_pow] at this
   exact Int.le_trans this (by decide)
  have hstep:∀ w,(rest.head?≠some 0)→Sat R (lp l (sdrop (sdrop s 1) W)::Hs) w→
    (∃ k':Nat,IntKind.i64.wrap ((k:Int) + 1)=k'∧k'≤W∧bitI .or .u64 (shlI .u64 (valI 0 (rest.take k)) 8) (IntKind.u64.wrap rest[k])=valI 0 (rest.take k')∧(k'≠0→rest.head?≠some 0)∧Sat R (lp l (sdrop (sdrop s 1) W)::Hs) w)∧W - (IntKind.i64.wrap ((k:Int) + 1)).toNat<W - (k:Int).toNat:=fun w h1 hw=>by
   rw [wrap64 (by omega) (by omega)]
   refine ⟨⟨k + 1,by omega,by omega,?_,fun _=>h1,hw⟩,by omega⟩
   rw [shl8_or hv0 hv1 hx.1 hx.2,List.take_succ_eq_append_getElem hkr,valI_snoc]
  refine Br.d (fun h3=>?_) (fun h3=>?_)
  ·exact must_c (fun _=>.inl ⟨rfl,hstep _ (hh (by omega)) hw⟩) (fun h=>by cases h)
  ·have hk0:k=0:=by omega
   subst hk0
   have hhead:rest.head? =some rest[0]:=by rw [List.head?_eq_getElem?,List.getElem?_eq_getElem hkr]
   refine must_c (fun h4=>.inl ⟨rfl,hstep _ ?_ hw⟩) (fun h4=>.inr ⟨_,rfl,?_,rfl,_,hw⟩)
   ·have h4:=of_decide_eq_true h4
    rw [hhead];intro h5;simp only [Option.some.injEq] at h5;omega
   ·have h4:=of_decide_eq_false h4
    unfold parse;simp only;rw [if_neg]
    rintro ⟨_,_,_,_,h5⟩
    have h6:widN t≠0:=by omega
    refine h5 h6 ?_
    rw [hhead];congr 1;omega
 ·have hkW:k=W:=by have:¬ ((k:Nat):Int)<(W:Int):=h;omega
  subst hkW
  refine ⟨valI 0 (rest.take k),decide (t ≥ 16),k + 1,sdrop (sdrop s 1) k,?_,rfl,?_,?_⟩
  ·unfold parse;simp only
   have e:(if 16≤t then t - 16 else t).toNat=k:=hW
   rw [e,if_pos ⟨h32,h8,hl,hz,hh⟩]
  ·have:=(hr0.drop (k:=1) hlen).drop (k:=k) (by simpa using hl)
   simpa using this
  ·exact hw
end Go.Proofs.YtfgbbckfikiomaaGreatDoor
/- Package field: Number; reading in general. Condition: none. -/
namespace Go.Proofs.YtfgbbckfikiomaaGreatDoor
set_option linter.unusedVariables false
open Go Go.VC
variable {R:Cx} {Hs Rest:List HP} {w:World}
theorem shr_nat (n k:Nat) (hk:k≤64):shrI .u64 (n:Int) (k:Int)=((n / 2 ^ k:Nat):Int):=by
 have e:min ((k:Int).toNat) IntKind.u64.bits=k:=by rw [Int.toNat_natCast];exact Nat.min_eq_left hk
 unfold shrI
 rw [e,Int.fdiv_eq_ediv_of_nonneg _ (by exact Int.le_of_lt (Int.pow_pos (by decide)))]
 rw [show ((2:Int) ^ k)=((2 ^ k:Nat):Int) from (Int.natCast_pow 2 k).symm]
 exact (Int.natCast_ediv n (2 ^ k)).symm
theorem shr32 (n:Nat):shrI .u64 (n:Int) 32=((n / 4294967296:Nat):Int):=shr_nat n 32 (by omega)
theorem shr16 (n:Nat):shrI .u64 (n:Int) 16=((n / 65536:Nat):Int):=shr_nat n 16 (by omega)
theorem shr8 (n:Nat):shrI .u64 (n:Int) 8=((n / 256:Nat):Int):=shr_nat n 8 (by omega)
theorem len64_spec {n:Nat} (hn:n<18446744073709551616) (hw:Sat R Hs w):
  Gets Tryz.prog 193 #[.int .u64 n] w fun v w'=>v=.int .i64 (Lib.bitLen n:Nat)∧Sat R Hs w':=by
 apply call193
 refine ⟨fun x j w=>∃ m i:Nat,x=m∧j=i∧m<4294967296∧i≤32∧Lib.bitLen n=i + Lib.bitLen m∧Sat R Hs w,?_,?_⟩
 ·refine Br.d (fun h=>?_) (fun h=>?_)
  ·rw [shr32]
   exact ⟨n / 4294967296,32,rfl,rfl,by omega,by omega,Lib.bitLen_shift32 n (by omega) hn,hw⟩
  ·exact ⟨n,0,rfl,rfl,by omega,by omega,by omega,hw⟩
 rintro _ _ _ w ⟨m,i,rfl,rfl,hm,hi,he,hw⟩
 refine ⟨fun x j w=>∃ m i:Nat,x=m∧j=i∧m<65536∧i≤48∧Lib.bitLen n=i + Lib.bitLen m∧Sat R Hs w,?_,?_⟩
 ·refine Br.d (fun h=>?_) (fun h=>?_)
  ·rw [shr16,wrap64 (by omega) (by omega)]
   exact ⟨m / 65536,i + 16,rfl,by omega,by omega,by omega,by have:=Lib.bitLen_shift16 m (by omega) (by omega);omega,hw⟩
  ·exact ⟨m,i,rfl,rfl,by omega,by omega,he,hw⟩
 clear hm hi he hw
 rintro _ _ _ w ⟨m,i,rfl,rfl,hm,hi,he,hw⟩
 refine Br.d (fun h=>?_) (fun h=>?_)
 ·rw [shr8,wrapU8 (by omega) (by omega)]
  have h8:Lib.bitLen (m / 256)≤8:=Lib.bitLen_le8 ⟨m / 256,by omega⟩
  refine ⟨UInt8.ofNat (Lib.bitLen (m / 256)),by omega,?_,?_,hw⟩
  ·rw [Int.toNat_natCast]
   obtain ⟨q,hq⟩:∃ q:Fin 256,q.1=m / 256:=⟨⟨m / 256,by omega⟩,rfl⟩
   rw [←hq]
   clear hq h8 hw he hi hm h
   revert q
   decide +kernel
  ·have:(UInt8.ofNat (Lib.bitLen (m / 256))).toNat=Lib.bitLen (m / 256):=by simp;omega
   have h2:=Lib.bitLen_shift8 m (by omega) (by omega)
   rw [this,wrap64 (x:=((Lib.bitLen (m / 256):Nat):Int)) (by omega) (by omega),wrap64 (x:=(i:Int) + 8) (by omega) (by omega),wrap64 (by omega) (by omega)]
   congr 1;omega
 ·rw [wrapU8 (by omega) (by omega)]
  have h8:Lib.bitLen m≤8:=Lib.bitLen_le8 ⟨m,by omega⟩
  refine ⟨UInt8.ofNat (Lib.bitLen m),by omega,?_,?_,hw⟩
  ·rw [Int.toNat_natCast]
   obtain ⟨q,hq⟩:∃ q:Fin 256,q.1=m:=⟨⟨m,by omega⟩,rfl⟩
   rw [←hq]
   clear hq h8 hw he hi hm h
   revert q
   decide +kernel
  ·have:(UInt8.ofNat (Lib.bitLen m)).toNat=Lib.bitLen m:=by simp;omega
   rw [this,wrap64 (x:=((Lib.bitLen m:Nat):Int)) (by omega) (by omega),wrap64 (by omega) (by omega)]
   congr 1;omega
theorem number_spec {n:Nat} (hn:n<18446744073709551616) (hw:Sat R Hs w):
  Gets Tryz.prog 120 #[.int .u64 n] w fun v w'=>∃ t:Sl,v=.slice t.a t.len t.cap∧Sat R (Own t 5 (b8 (numB n))::Hs) w':=by
 apply call120
 refine (len64_spec hn hw).use ?_
 rintro _ w ⟨rfl,hw⟩
 refine ⟨_,rfl,?_⟩
 have hwid:=dig_width n hn
 have h8:=dig_len8 hn
 generalize hL:(dig n).length=L at *
 have e:IntKind.i64.wrap ((IntKind.i64.wrap (((Lib.bitLen n:Nat):Int) + 7)).tdiv 8)=(L:Int):=by
  rw [wrap64 (x:=((Lib.bitLen n:Nat):Int) + 7) (by omega) (by omega),Int.tdiv_eq_ediv_of_nonneg (by omega),wrap64 (by omega) (by omega)]
  omega
 rw [e,wrapU8 (by omega) (by omega)]
 refine new_rule hw fun b w hw=>?_
 have h0:Sat R (Own ⟨some ⟨b,0,none⟩,1,1⟩ 5 (b8 [(L:Int)])::Hs) w:=Own.of_pts (xs:=b8 [(L:Int)]) (rest:=[]) hw
 refine ⟨fun wd out w=>∃ k:Nat,wd=k∧k≤L∧Sat R (Own out 5 (b8 ((L:Int)::(dig n).take (L - k)))::Hs) w,fun wd _ _=>wd.toNat,⟨L,rfl,Nat.le_refl _,by simpa using h0⟩,?_⟩
 clear hw h0
 rintro _ _ out w ⟨k,rfl,hk,hw⟩
 refine Br.d (fun h=>?_) (fun h=>?_)
 ·have e1:IntKind.i64.wrap ((k:Int) - 1)=((k - 1:Nat):Int):=by rw [wrap64 (by omega) (by omega)];omega
  have e2:IntKind.i64.wrap (8 * ((k - 1:Nat):Int))=((8 * (k - 1):Nat):Int):=by rw [wrap64 (by omega) (by omega)];omega
  rw [e1,e2,shr_nat n _ (by omega)]
  refine Ge0.mk (by omega) ?_
  have hd:=dig_get (n:=n) (k:=k - 1) (by omega)
  have hlen:((L:Int)::(dig n).take (L - k)).length≤9:=by simp;omega
  refine push_rule elB8 hw (one_b8 _) rfl (by rw [List.length_map];omega) (by rw [List.length_map];omega) fun t w hw=>⟨⟨k - 1,rfl,by omega,?_⟩,by show ((k - 1:Nat):Int).toNat<(k:Int).toNat;omega⟩
  have e3:((L:Int)::(dig n).take (L - (k - 1)))=((L:Int)::(dig n).take (L - k))++[IntKind.u8.wrap ((n / 2 ^ (8 * (k - 1)):Nat):Int)]:=by
   have e4:L - (k - 1)=(L - k) + 1:=by omega
   rw [e4,List.take_succ_eq_append_getElem (by omega),List.cons_append]
   congr 3
   rw [wrapU8m,show (2:Nat) ^ (8 * (k - 1))=256 ^ (k - 1) from by rw [Nat.pow_mul],show ((n / 256 ^ (k - 1):Nat):Int) % 256=((n / 256 ^ (k - 1) % 256:Nat):Int) from (Int.natCast_emod _ _).symm,←hd]
   congr 1;omega
  rw [e3]
  simpa [b8] using hw
 ·have hk0:k=0:=by omega
  subst hk0
  refine ⟨out,rfl,?_⟩
  have:(dig n).take (L - 0)=dig n:=List.take_of_length_le (by omega)
  rw [this] at hw
  unfold numB
  rw [hL];exact hw
abbrev rdCells (s:Sl) (bad:Bool):Obj:=.cells [.slice s.a s.len s.cap,.bool bad].toArray 188 (0,0)
def RdAt (r:Nat) (rd:Rd):HP:=exs fun s:Sl=>Star [pts r (rdCells s rd.bad),Reads s (b8 rd.bs)]
theorem Sat.rd {r:Nat} {rd:Rd}:Sat R (RdAt r rd::Hs) w↔∃ s:Sl,Sat R (pts r (rdCells s rd.bad)::Reads s (b8 rd.bs)::Hs) w:=by
 unfold RdAt
 rw [Sat.exs]
 exact ⟨fun ⟨s,h⟩=>⟨s,Sat.star.1 h⟩,fun ⟨s,h⟩=>⟨s,Sat.star.2 h⟩⟩
abbrev brCell (r:Nat):Obj:=.cells [.pointer (some ⟨r,0,none⟩)].toArray 123 (0,0)
theorem leaveP {br r:Nat} {s:Sl} {bad:Bool} {Kr:World→Prop} (hw:Sat R (pts br (brCell r)::pts r (rdCells s bad)::Hs) w) (k:∀ w,Sat R (pts br (brCell r)::pts r (rdCells s true)::Hs) w→Kr w):
  LeaveF Tryz.prog 219 [.pointer (some ⟨br,0,none⟩)] (.panicking amissP) Kr w:=by
 unfold LeaveF
 refine CallsD.mono (callP219 (some ⟨br,0,none⟩) (.iface 246 (.agg #[])) Kr w ?_) ?_
 ·refine ⟨true,fun w' _=>by kernel_rfl,Br.t rfl ?_⟩
  refine NilP.mk rfl ⟨some ⟨r,0,none⟩,At.own (eqS hw) (by exact ⟨rfl,trivial⟩),NilP.mk rfl ?_⟩
  have hw:=hw.swap
  refine store_rule hw (by kernel_rfl) rfl (by simp [Value.cells]) fun w hw=>?_
  exact k w hw.swap
 ·rintro e v w' ⟨hy,rfl,hk⟩
  exact ⟨hy,rfl,hk⟩
theorem leaveR {br:Nat} {Kr:World→Prop} (k:Kr w):LeaveF Tryz.prog 219 [.pointer (some ⟨br,0,none⟩)] .returning Kr w:=by
 unfold LeaveF
 refine CallsD.mono (callR219 (some ⟨br,0,none⟩) Kr w ?_) ?_
 ·exact ⟨false,fun w' _=>by kernel_rfl,Br.f rfl k⟩
 ·rintro e v w' ⟨hy,rfl,hk⟩
  exact ⟨hy,rfl,hk⟩
theorem reading_spec {r:Nat} {rd:Rd} {one:Value} {α:Type} {f:α→List Int} {Hs1:α→List HP} {Hs2:List HP} {G:α→Prop} {N:Prop} (hw:Sat R (RdAt r rd::Hs) w)
  (hone:rd.bad=false→∀ (x:Heap) (l:Nat) (s:Sl) (A B:HP) (w:World),(∀ b o,x b=some o→(R.add x).m b=some o)→SlR x s (b8 rd.bs)→Sat (R.add x) (lp l s::A::B::Hs) w→
   CalW Tryz.prog cl one [.pointer (some ⟨l,0,none⟩)] w fun e w'=>
    (e=.returned (.tuple #[])∧∃ y s',G y∧SlR x s' (b8 (f y))∧Sat (R.add x) (lp l s'::A::B::Hs1 y) w')∨
    (e=.panicked amissP∧N∧∃ s',Sat (R.add x) (lp l s'::A::B::Hs2) w')):
  Gets Tryz.prog 164 #[.pointer (some ⟨r,0,none⟩),one] w fun v w'=>v=.tuple #[]∧
   ((rd.bad=true∧Sat R (RdAt r rd::Hs) w')∨(rd.bad=false∧∃ y,G y∧Sat R (RdAt r ⟨f y,false⟩::Hs1 y) w')∨(rd.bad=false∧N∧Sat R (RdAt r ⟨rd.bs,true⟩::Hs2) w')):=by
 obtain ⟨s,hw⟩:=Sat.rd.1 hw
 apply call164
 refine new_rule hw fun br w hw=>?_
 refine ⟨_,At.own (eqS hw) (by exact ⟨rfl,trivial⟩),NilP.mk rfl ?_⟩
 refine ⟨_,At.own (eqS hw) (by exact ⟨rfl,trivial⟩),must_c (fun h=>.inl ⟨rfl,?_⟩) (fun h=>.inr ⟨_,rfl,?_⟩)⟩
 ·have hbad:rd.bad=false:=by simpa using h
  refine ⟨_,At.own (eqS hw) (by exact ⟨rfl,trivial⟩),NilP.mk rfl ?_⟩
  refine ⟨_,At.own (eqS hw) (by exact ⟨rfl,trivial⟩),?_⟩
  refine new_rule hw fun l w hw=>?_
  have hw:Sat R (pts l (.cells [.slice none 0 0].toArray 42 (0,0))::pts br (brCell r)::pts r (rdCells s rd.bad)::Reads s (b8 rd.bs)::Hs) w:=hw
  refine store_rule hw (by kernel_rfl) rfl (by simp [Value.cells]) fun w hw=>?_
  have hw:Sat R (lp l s::pts br (brCell r)::pts r (rdCells s rd.bad)::Reads s (b8 rd.bs)::Hs) w:=hw
  have hw:Sat R (Reads s (b8 rd.bs)::lp l s::pts br (brCell r)::pts r (rdCells s rd.bad)::Hs) w:=hw.arr
  obtain ⟨x,hd,_,hx,hs⟩:=Reads.lend hw
  have hsub:∀ b o,x b=some o→(R.add x).m b=some o:=fun b o hb=>by
   have:=hd b (by rw [hb];simp)
   simp only [Cx.add,Heap.add,this,hb]
  refine CalW.mono (hone hbad x l s _ _ w hsub hs hx) ?_
  rintro e w' (⟨rfl,bs',s',hg,hs',hw⟩|⟨rfl,hn,s',hw⟩)
  ·refine .inl ⟨rfl,?_⟩
   have hw:Sat (R.add x) (pts br (brCell r)::pts r (rdCells s rd.bad)::lp l s'::Hs1 bs') w':=hw.arr
   refine ⟨_,At.own (eqS hw) (by exact ⟨rfl,trivial⟩),?_⟩
   refine ⟨_,At.own (eqS hw) (by exact ⟨rfl,trivial⟩),NilP.mk rfl ?_⟩
   have hw:Sat (R.add x) (pts r (rdCells s rd.bad)::lp l s'::pts br (brCell r)::Hs1 bs') w':=hw.arr
   refine store_rule hw (by kernel_rfl) rfl (by simp [Value.cells]) fun w hw=>?_
   refine leaveR ⟨rfl,.inr (.inl ⟨hbad,bs',hg,?_⟩)⟩
   have hw:Sat (R.add x) (pts r (rdCells s' rd.bad)::lp l s'::pts br (brCell r)::Hs1 bs') w:=hw
   rw [hbad] at hw
   have hw:Sat (R.add x) (pts r (rdCells s' false)::Hs1 bs') w:=hw.cons fun _ h=>h.drop.drop
   refine Sat.rd.2 ⟨s',?_⟩
   exact (Reads.back hd hs' hw).swap
  ·refine .inr ⟨_,rfl,?_⟩
   have hw:Sat (R.add x) (pts br (brCell r)::pts r (rdCells s rd.bad)::lp l s'::Hs2) w':=hw.arr
   refine leaveP hw fun w hw=>⟨rfl,.inr (.inr ⟨hbad,hn,?_⟩)⟩
   have hw:Sat (R.add x) (pts r (rdCells s true)::Hs2) w:=hw.drop.cons fun _ h=>h.drop
   refine Sat.rd.2 ⟨s,?_⟩
   exact (Reads.back hd hs hw).swap
 ·have hbad:rd.bad=true:=by simpa using h
  have hw:Sat R (pts br (brCell r)::pts r (rdCells s rd.bad)::Reads s (b8 rd.bs)::Hs) w:=hw
  refine leaveP hw fun w hw=>⟨rfl,.inl ⟨hbad,?_⟩⟩
  rw [←hbad] at hw
  exact Sat.rd.2 ⟨s,hw.drop⟩
end Go.Proofs.YtfgbbckfikiomaaGreatDoor
/- Package field: a reader's New, Number, Whole. Condition: bounds on lengths. -/
namespace Go.Proofs.YtfgbbckfikiomaaGreatDoor
set_option linter.unusedVariables false
open Go Go.VC
variable {R:Cx} {Hs Rest:List HP} {w:World}
theorem CalW.mk {g:FuncId} {captured:Array Value} {args:List Value} {Q:Ending→World→Prop} (hc:cl g=true) (h:Calls Tryz.prog g (args++captured.toList).toArray w Q):CalW Tryz.prog cl (.func (.func g) #[] captured) args w Q:=by
 unfold CalW
 simp only [hc]
 exact h
theorem fnew_spec {s:Sl} {bs:List Int} (hs:Ro R s (b8 bs)) (hl:bs.length≤1099511627776) (hw:Sat R Hs w):
  Gets Tryz.prog 76 #[.slice s.a s.len s.cap] w fun v w'=>∃ r,v=.pointer (some ⟨r,0,none⟩)∧Sat R (RdAt r ⟨bs,false⟩::Hs) w':=by
 apply call76
 refine (clone_spec hs hl hw).use ?_
 rintro _ w ⟨t,rfl,hw⟩
 refine ⟨t,rfl,?_⟩
 have hw:=Own.reads hw
 refine new_rule hw fun r w hw=>⟨r,rfl,Sat.rd.2 ⟨t,hw⟩⟩
theorem whole_spec {r:Nat} {rd:Rd} (hw:Sat R (RdAt r rd::Hs) w):
  Gets Tryz.prog 83 #[.pointer (some ⟨r,0,none⟩)] w fun v w'=>v=.bool (rdWhole rd)∧Sat R (RdAt r rd::Hs) w':=by
 obtain ⟨s,hw⟩:=Sat.rd.1 hw
 have hsl:s.len=rd.bs.length:=by
  obtain ⟨x,_,_,_,hx⟩:=Reads.lend hw.swap
  have:=hx.len;simpa using this
 apply call83
 refine NilP.mk rfl ⟨rd.bad,At.own (eqS hw) (by exact ⟨rfl,trivial⟩),Br.nb (fun h=>?_) (fun h=>?_)⟩
 ·refine NilP.mk rfl ?_
  refine ⟨s,At.own (eqS hw) (by exact ⟨rfl,trivial⟩),?_,Sat.rd.2 ⟨s,hw⟩⟩
  unfold rdWhole
  rw [h,hsl]
  congr 1
  simp only [Bool.not_false,Bool.true_and]
  cases rd.bs with
  |nil=>rfl
  |cons=>simp;omega
 ·refine ⟨?_,Sat.rd.2 ⟨s,hw⟩⟩
  unfold rdWhole
  rw [h];rfl
theorem num1_spec {h:Heap} {l bm bo:Nat} {s:Sl} {bs:List Int} {most:Int} (hb:∀ x∈bs,0≤x∧x<256) (hsub:∀ b o,h b=some o→R.m b=some o) (hr:SlR h s (b8 bs))
  (hw:Sat R (lp l s::pts bo (.cells [.int .u64 0].toArray 134 (0,0))::pts bm (.cells [.int .u64 most].toArray 134 (0,0))::Hs) w):
  GetsX Tryz.prog 213 #[.pointer (some ⟨l,0,none⟩),.pointer (some ⟨bm,0,none⟩),.pointer (some ⟨bo,0,none⟩)] w
   (fun ch w'=>ch=amissP∧(∀ n k,parse bs=some (n,false,k)→¬ n≤most)∧∃ s',Sat R (lp l s'::pts bo (.cells [.int .u64 0].toArray 134 (0,0))::pts bm (.cells [.int .u64 most].toArray 134 (0,0))::Hs) w')
   (fun v w'=>v=.tuple #[]∧∃ n k s',parse bs=some (n,false,k)∧n≤most∧SlR h s' (b8 (bs.drop k))∧
    Sat R (lp l s'::pts bo (.cells [.int .u64 n].toArray 134 (0,0))::pts bm (.cells [.int .u64 most].toArray 134 (0,0))::Hs) w'):=by
 apply call213
 refine (fsize_spec hb hsub hr hw).use ?_ ?_
 rotate_left
 ·rintro _ w ⟨hp,rfl,s',hw⟩
  refine .inr ⟨_,rfl,rfl,?_,s',hw⟩
  intro n k h;rw [hp] at h;cases h
 rintro _ w ⟨n,neg,k,s',hp,rfl,hs',hw⟩
 refine .inl ⟨n,neg,rfl,Br.nb (fun h=>?_) (fun h=>?_)⟩
 ·subst h
  have hw2:Sat R (pts bm (.cells [.int .u64 most].toArray 134 (0,0))::lp l s'::pts bo (.cells [.int .u64 0].toArray 134 (0,0))::Hs) w:=hw.arr
  refine NilP.mk rfl ?_
  refine ⟨most,At.own (eqS hw) (by exact ⟨rfl,trivial⟩),must_c (fun h=>.inl ⟨rfl,?_⟩) (fun h=>.inr ⟨_,rfl,rfl,?_,s',hw⟩)⟩
  ·have h:=of_decide_eq_true h
   have hw:Sat R (pts bo (.cells [.int .u64 0].toArray 134 (0,0))::lp l s'::pts bm (.cells [.int .u64 most].toArray 134 (0,0))::Hs) w:=hw.swap
   refine store_rule hw (by kernel_rfl) rfl (by simp [Value.cells]) fun w hw=>?_
   exact ⟨rfl,n,k,s',hp,h,hs',hw.swap⟩
  ·have h:=of_decide_eq_false h
   intro n' k' hp'
   rw [hp] at hp'
   simp only [Option.some.injEq,Prod.mk.injEq,true_and] at hp'
   rw [←hp'.1];exact h
 ·subst h
  refine must_c (fun h=>by cases h) (fun _=>.inr ⟨_,rfl,rfl,?_,s',hw⟩)
  intro n' k' hp'
  rw [hp] at hp'
  simp at hp'
theorem rnum_spec {r:Nat} {rd:Rd} {most:Int} (hb:∀ x∈rd.bs,0≤x∧x<256) (hw:Sat R (RdAt r rd::Hs) w):
  Gets Tryz.prog 147 #[.pointer (some ⟨r,0,none⟩),.int .u64 most] w fun v w'=>v=.int .u64 (rdNum most rd).1∧Sat R (RdAt r (rdNum most rd).2::Hs) w':=by
 apply call147
 refine new_rule hw fun bm w hw=>new_rule hw fun bo w hw=>?_
 have hw:Sat R (pts bo (.cells [.int .u64 0].toArray 134 (0,0))::pts bm (.cells [.int .u64 most].toArray 134 (0,0))::RdAt r rd::Hs) w:=hw
 refine store_rule hw (by kernel_rfl) rfl (by simp [Value.cells]) fun w hw=>?_
 have hw:=hw.re (pts bo (.cells [.int .u64 0].toArray 134 (0,0)))
 have hw:Sat R (RdAt r rd::pts bo (.cells [.int .u64 0].toArray 134 (0,0))::pts bm (.cells [.int .u64 most].toArray 134 (0,0))::Hs) w:=hw.arr
 refine (reading_spec (α:=Int × Nat) (f:=fun y=>rd.bs.drop y.2) (G:=fun y=>parse rd.bs=some (y.1,false,y.2)∧y.1≤most) (N:=∀ n k,parse rd.bs=some (n,false,k)→¬ n≤most)
  (Hs1:=fun y=>pts bo (.cells [.int .u64 y.1].toArray 134 (0,0))::pts bm (.cells [.int .u64 most].toArray 134 (0,0))::Hs)
  (Hs2:=pts bo (.cells [.int .u64 0].toArray 134 (0,0))::pts bm (.cells [.int .u64 most].toArray 134 (0,0))::Hs) hw ?_).use ?_
 ·intro _ x l s A B w hsub hs hw
  refine CalW.mk (by kernel_rfl) ?_
  have hw2:Sat (R.add x) (lp l s::pts bo (.cells [.int .u64 0].toArray 134 (0,0))::pts bm (.cells [.int .u64 most].toArray 134 (0,0))::A::B::Hs) w:=hw.arr
  refine (num1_spec (h:=x) hb hsub hs hw2).use ?_ ?_
  ·rintro _ w ⟨rfl,n,k,s',hp,hn,hs',hw⟩
   exact .inl ⟨rfl,(n,k),s',⟨hp,hn⟩,hs',hw.arr⟩
  ·rintro _ w ⟨rfl,hn,s',hw⟩
   exact .inr ⟨rfl,hn,s',hw.arr⟩
 ·rintro _ w ⟨rfl,h⟩
  refine ⟨rfl,?_⟩
  rcases h with ⟨hbad,hw⟩|⟨hbad,⟨n,k⟩,⟨hp,hn⟩,hw⟩|⟨hbad,hno,hw⟩
  ·have hw:Sat R (pts bo (.cells [.int .u64 0].toArray 134 (0,0))::RdAt r rd::pts bm (.cells [.int .u64 most].toArray 134 (0,0))::Hs) w:=hw.swap
   refine ⟨0,At.own (eqS hw) (by exact ⟨rfl,trivial⟩),?_⟩
   unfold rdNum
   rw [if_pos hbad]
   exact ⟨rfl,hw.drop.cons fun _ h=>h.drop⟩
  ·have hw:Sat R (pts bo (.cells [.int .u64 n].toArray 134 (0,0))::RdAt r ⟨rd.bs.drop k,false⟩::pts bm (.cells [.int .u64 most].toArray 134 (0,0))::Hs) w:=hw.swap
   refine ⟨n,At.own (eqS hw) (by exact ⟨rfl,trivial⟩),?_⟩
   unfold rdNum
   rw [if_neg (by rw [hbad];simp),hp]
   simp only
   rw [if_pos (by simpa using hn)]
   exact ⟨rfl,hw.drop.cons fun _ h=>h.drop⟩
  ·have hw:Sat R (pts bo (.cells [.int .u64 0].toArray 134 (0,0))::RdAt r ⟨rd.bs,true⟩::pts bm (.cells [.int .u64 most].toArray 134 (0,0))::Hs) w:=hw.swap
   refine ⟨0,At.own (eqS hw) (by exact ⟨rfl,trivial⟩),?_⟩
   have e:rdNum most rd=(0,⟨rd.bs,true⟩):=by
    unfold rdNum
    rw [if_neg (by rw [hbad];simp)]
    cases hp:parse rd.bs with
    |none=>rfl
    |some p=>
     obtain ⟨n,neg,k⟩:=p
     simp only
     rw [if_neg]
     rintro ⟨rfl,h⟩
     exact hno n k hp h
   rw [e]
   exact ⟨rfl,hw.drop.cons fun _ h=>h.drop⟩
theorem rdNum_bd {most:Int} {rd:Rd} (hb:∀ x∈rd.bs,0≤x∧x<256):∀ x∈(rdNum most rd).2.bs,0≤x∧x<256:=by
 unfold rdNum
 split
 ·exact hb
 ·split
  ·split
   ·exact fun x hx=>hb x (List.mem_of_mem_drop hx)
   ·exact hb
  ·exact hb
theorem rdNum_val {most:Int} {rd:Rd} (hb:∀ x∈rd.bs,0≤x∧x<256) (hm:0≤most):0≤(rdNum most rd).1∧(rdNum most rd).1≤most:=by
 unfold rdNum
 split
 ·exact ⟨Int.le_refl _,hm⟩
 ·split
  ·rename_i n neg k hp
   split
   ·rename_i h;exact ⟨(parse_bd hb hp).1,h.2⟩
   ·exact ⟨Int.le_refl _,hm⟩
  ·exact ⟨Int.le_refl _,hm⟩
end Go.Proofs.YtfgbbckfikiomaaGreatDoor

/- SL, part 13: appends of integers; new arrays as slices of one's own. Condition: bounds on lengths. -/
namespace Go.VC
set_option linter.unusedVariables false
variable {P:Program} {R:Cx} {Hs Rest:List HP} {w:World} {s t:Sl} {T T2:TypeId}
theorem oneAll_k (k:IntKind) (xs:List Int):oneAll (xs.map (Value.int k))=true:=by
 induction xs with
 |nil=>rfl
 |cons x xs ih=>simp only [List.map_cons,oneAll,List.all_cons,Bool.and_eq_true];exact ⟨rfl,ih⟩
theorem own_lit {b n:Nat} {l:List Value} {fr:Nat × Nat} (hw:Sat R (pts b (.cells l.toArray T fr)::Hs) w) (hn:n=l.length:=by rfl) (hf:okFr l.length fr:=by first|assumption|exact Or.inl rfl):Sat R (Own ⟨some ⟨b,0,none⟩,n,n⟩ T l::Hs) w:=by
 subst hn
 have:=Own.of_pts (xs:=l) (rest:=[]) (by simpa using hw) (by simpa using hf)
 simpa using this
theorem appendRI {t1 t2 ty e':TypeId} {bytes n:Nat} {k:IntKind} (E:El P t1 t2 T bytes) {xs ys:List Int} {K:Sl→World→Prop} (h2:P.underlying t2=some (.slice e'))
  (hw:Sat R (Own s T (xs.map (Value.int k))::Hs) w) (hy:Ro R t (ys.map (Value.int k))) (hn:xs.length + ys.length≤n) (hb:2 * n * bytes≤281474976710656) (hb':n≤9223372036854775807)
  (kk:∀ s' w',Sat R (Own s' T ((xs++ys).map (Value.int k))::Hs) w'→K s' w'):
  ∃ w',∃ t':Sl,(Builtin.append_ #[t1,t2] ty #[.slice s.a s.len s.cap,.slice t.a t.len t.cap]).run P w=.ok (.slice t'.a t'.len t'.cap) w'∧K t' w':=by
 have hsrc:Src P 1 t2 (.slice t.a t.len t.cap) ys.length (ys.map (Value.int k)) w:=by
  have:=srcRo h2 hw hy (oneAll_k _ _)
  simpa using this
 refine append_rule E (s:=s) hw hsrc (oneAll_k _ _) ?_ (by rw [List.length_map];omega) fun s2 w hw=>kk s2 w (by simpa using hw)
 rw [List.length_map]
 have:2 * (xs.length + ys.length) * bytes≤2 * n * bytes:=Nat.mul_le_mul_right _ (by omega)
 omega
theorem appendOO {t1 t2 ty e':TypeId} {bytes n:Nat} {k:IntKind} (E:El P t1 t2 T bytes) {xs ys:List Int} {K:Sl→World→Prop} (h2:P.underlying t2=some (.slice e'))
  (hw:Sat R (Own s T (xs.map (Value.int k))::Own t T2 (ys.map (Value.int k))::Hs) w) (hn:xs.length + ys.length≤n) (hb:2 * n * bytes≤281474976710656) (hb':n≤9223372036854775807)
  (kk:∀ s' w',Sat R (Own s' T ((xs++ys).map (Value.int k))::Own t T2 (ys.map (Value.int k))::Hs) w'→K s' w'):
  ∃ w',∃ t':Sl,(Builtin.append_ #[t1,t2] ty #[.slice s.a s.len s.cap,.slice t.a t.len t.cap]).run P w=.ok (.slice t'.a t'.len t'.cap) w'∧K t' w':=by
 obtain ⟨R',hr,_,hw,back⟩:=Own.lend hw.swap (by rw [List.length_map];omega)
 exact appendRI E h2 hw hr hn hb hb' fun s' w' hw=>kk s' w' (back hw).swap
theorem Ro.ix {k:IntKind} {xs:List Int} {S:World→Prop} {i:Int} (hr:Ro R s (xs.map (Value.int k))) (hS:∀ w,S w→Sat R Hs w) (j:Nat) (hi:i=j) (hj:j<xs.length) {F:Int→Prop} (h:F xs[j]):
  Rng i s.len (NilP s.a fun a=>∃ t:Int,(At S (a.add i.toNat) [.int k t])∧F t):=by
 subst hi
 exact hr.idxK hS hj h
theorem SlR.ix {k:IntKind} {xs:List Int} {S:World→Prop} {i:Int} (hr:SlR R.m s (xs.map (Value.int k))) (hS:∀ w,S w→Sat R Hs w) (j:Nat) (hi:i=j) (hj:j<xs.length) {F:Int→Prop} (h:F xs[j]):
  Rng i s.len (NilP s.a fun a=>∃ t:Int,(At S (a.add i.toNat) [.int k t])∧F t):=by
 subst hi
 exact hr.idxK hS hj h
end Go.VC
/- SL, part 14: memory of one's own, made into memory that is only read, for good. No condition. -/
namespace Go.VC
set_option linter.unusedVariables false
variable {P:Program} {R R' R'':Cx} {Hs Rest:List HP} {w:World} {s:Sl} {T:TypeId}
structure Cx.Ext (R R':Cx):Prop where
 m:∀ b o,R.m b=some o→R'.m b=some o
 like:R'.like R
theorem Cx.Ext.refl:R.Ext R:=⟨fun _ _ h=>h,rfl,rfl,rfl⟩
theorem Cx.Ext.trans (h:R.Ext R') (h':R'.Ext R''):R.Ext R'':=
 ⟨fun b o hb=>h'.m b o (h.m b o hb),h.like.1.trans h'.like.1,h.like.2.1.trans h'.like.2.1,h.like.2.2.trans h'.like.2.2⟩
theorem Cx.Ext.add {h:Heap}:R.Ext (R.add h):=⟨fun b o hb=>by simp only [Cx.add,Heap.add,hb],rfl,rfl,rfl⟩
theorem Cx.Ext.back (h:R.Ext R') (hw:Sat R' Hs w):Sat R Hs w:=Sat.ro_of h.m h.like hw
theorem Cx.Ext.ro {xs:List Value} (h:R.Ext R') (a:Ro R s xs):Ro R' s xs:=
 ⟨a.len,a.bound,fun hx=>let ⟨b,off,l,T,fr,h1,h2,h3⟩:=a.mem hx;⟨b,off,l,T,fr,h1,h.m _ _ h2,h3⟩⟩
theorem Cx.Ext.roN {n:Nat} {xs:List (List Value)} (h:R.Ext R') (a:RoN n R s xs):RoN n R' s xs:=
 ⟨a.wid,a.len,fun hx=>let ⟨b,off,l,T,fr,h1,h2,h3⟩:=a.mem hx;⟨b,off,l,T,fr,h1,h.m _ _ h2,h3⟩⟩
theorem Cx.Ext.slR {xs:List Value} (h:R.Ext R') (a:SlR R.m s xs):SlR R'.m s xs:=
 ⟨a.len,a.cap,fun hx=>let ⟨b,off,l,T,fr,h1,h2,h3⟩:=a.mem hx;⟨b,off,l,T,fr,h1,h.m _ _ h2,h3⟩⟩
theorem Reads.leak {xs:List Value} (h:Sat R (Reads s xs::Hs) w):∃ R':Cx,R.Ext R'∧SlR R'.m s xs∧Sat R' Hs w:=by
 obtain ⟨x,_,h1,h2,_⟩:=Reads.lend h
 exact ⟨_,.add,h1,h2⟩
theorem Own.leak {xs:List Value} (h:Sat R (Own s T xs::Hs) w):∃ R':Cx,R.Ext R'∧SlR R'.m s xs∧Sat R' Hs w:=Reads.leak (Own.reads h)
theorem OwnN.leak {n:Nat} {rows:List (List Value)} (h:Sat R (OwnN n s T rows::Hs) w):∃ R':Cx,R.Ext R'∧RoN n R' s rows∧Sat R' Hs w:=by
 obtain ⟨R',h1,⟨x,rfl⟩,h2,_⟩:=OwnN.lend h
 exact ⟨_,.add,h1,h2⟩
theorem pts.leak {b:Nat} {o:Obj} (h:Sat R (pts b o::Hs) w):∃ R':Cx,R.Ext R'∧R'.m b=some o∧Sat R' Hs w:=by
 obtain ⟨h1,h2⟩:=Sat.lend.1 h
 exact ⟨_,.add,Cx.lent h1,h2⟩
end Go.VC
/- The formulas of functions of this seat's translation, printed by a program of mine off the translation; each is proved equal to 'fnF' of the function's body, so it is enough for the call. No condition. -/
namespace Go.Proofs.YtfgbbckfikiomaaGreatDoor
open Go Go.VC
set_option linter.unusedVariables false
set_option maxRecDepth 10000
def B172 (c:Sl) (K:Value→World→Prop) (w:World):Prop:=
 Br c.a.isNone
 (K (.slice none 0 0) w)
 (New (.cells #[] 3 (0,0)) (fun e f=>
 ∃ d:World,∃ b:Sl,((Builtin.append_ #[28,28] 28 #[.slice ((some ⟨e,0,none⟩)) 0 0,.slice c.a c.len c.cap]).run Tryz.prog f=.ok (.slice b.a b.len b.cap) d)∧
 K (.slice b.a b.len b.cap) d) w)
theorem call172 (b:Sl) (K:Value→World→Prop) (w:World) (h:B172 b K w):Gets Tryz.prog 172 #[.slice b.a b.len b.cap] w K:=cq (sk:=.leaf) Tryz.func172 (by kernel_rfl) (by kernel_rfl) (by kernel_rfl) h
def B216 (b:Sl) (e:Value) (K:Value→World→Prop) (w:World):Prop:=
 Calls Tryz.prog 257 #[.slice b.a b.len b.cap,e] w fun d f=>
 ∃ c:Int,(d=.returned (.int .i64 c))∧
 K (.bool (decide (c ≥ 0))) f
theorem call216 (b:Sl) (c:Value) (K:Value→World→Prop) (w:World) (h:B216 b c K w):Gets Tryz.prog 216 #[.slice b.a b.len b.cap,c] w K:=cq (sk:=.leaf) Tryz.func216 (by kernel_rfl) (by kernel_rfl) (by kernel_rfl) h
def B257 (e:Sl) (m:Value) (K:Value→World→Prop) (w:World):Prop:=
 ∃ (d:Int→World→Prop) (j:Int→World→Nat),(d 0 w)∧∀ (o:Env) (b:Int) (c:World),d b c→
 Br (decide (b<(↑e.len:Int)))
 (Rng b e.len (NilP e.a fun k=>
 ∃ g:Int,(At (fun n=>n=c) (Addr.add k b.toNat) [.int .i64 g])∧
 CalW Tryz.prog cl m [.int .i64 g] c fun l f=>
 ∃ i:Bool,(l=.returned (.bool i))∧
 Br i
 (K (.int .i64 b) f)
 ((d (IntKind.i64.wrap (b + 1)) f)∧j (IntKind.i64.wrap (b + 1)) f<j b c)))
 (K (.int .i64 ((-1))) c)
def sk257:Sk:=(.seq .leaf (.seq (.seq .leaf (.block (.loop [8] [(.int .i64)] [4,5,8,9,10,11,12,13,14,15,16,17,18] .leaf))) .leaf))
theorem call257 (b:Sl) (c:Value) (K:Value→World→Prop) (w:World) (h:B257 b c K w):Gets Tryz.prog 257 #[.slice b.a b.len b.cap,c] w K:=cq (sk:=sk257) Tryz.func257 (by kernel_rfl) (by kernel_rfl) (by kernel_rfl) h
def B160 (s:Int) (j:Sl) (K:Value→World→Prop) (w:World):Prop:=
 New (.cells #[.int .i64 s,.slice j.a j.len j.cap] 35 (0,0)) (fun d c=>
 ∃ o:Int,(At (fun b=>b=c) ⟨d,0,none⟩ [.int .i64 o])∧
 Br (decide (o<1))
 (K (.bool false) c)
 (∃ p:Int,(At (fun b=>b=c) ⟨d,0,none⟩ [.int .i64 p])∧
 Br (decide (p>60))
 (K (.bool false) c)
 (∃ g:Sl,(At (fun b=>b=c) ⟨d,0 + 1,none⟩ [.slice g.a g.len g.cap])∧
 Br (decide ((↑g.len:Int)<1))
 (K (.bool false) c)
 (∃ i:Sl,(At (fun b=>b=c) ⟨d,0 + 1,none⟩ [.slice i.a i.len i.cap])∧
 Br (decide ((↑i.len:Int)>4))
 (K (.bool false) c)
 (∃ e:Sl,(At (fun b=>b=c) ⟨d,0 + 1,none⟩ [.slice e.a e.len e.cap])∧
 Calls Tryz.prog 216 #[.slice e.a e.len e.cap,.func (.func 215) #[] #[]] c fun q k=>
 ∃ l:Bool,(q=.returned (.bool l))∧
 Br l
 (K (.bool false) k)
 (∃ m:Int,∃ f:Sl,(At (fun b=>b=k) ⟨d,0,none⟩ [.int .i64 m,.slice f.a f.len f.cap])∧
 Calls Tryz.prog 217 #[.agg #[.int .i64 m,.slice f.a f.len f.cap]] k fun r t=>
 ∃ n:Int,(r=.returned (.int .i64 n))∧
 K (.bool (decide (n≤10))) t)))))) w
theorem call160 (c:Int) (b:Sl) (K:Value→World→Prop) (w:World) (h:B160 c b K w):Gets Tryz.prog 160 #[.agg #[.int .i64 c,.slice b.a b.len b.cap]] w K:=cq (sk:=.leaf) Tryz.func160 (by kernel_rfl) (by kernel_rfl) (by kernel_rfl) h
def B215 (a:Int) (K:Value→World→Prop) (w:World):Prop:=
 Br (decide (a<1))
 (K (.bool true) w)
 (K (.bool (decide (a>10))) w)
theorem call215 (a:Int) (K:Value→World→Prop) (w:World) (h:B215 a K w):Gets Tryz.prog 215 #[.int .i64 a] w K:=cq (sk:=.leaf) Tryz.func215 (by kernel_rfl) (by kernel_rfl) (by kernel_rfl) h
def B217 (o:Int) (g:Sl) (K:Value→World→Prop) (w:World):Prop:=
 New (.cells #[.int .i64 o,.slice g.a g.len g.cap] 35 (0,0)) (fun n k=>
 ∃ c:Sl,(At (fun j=>j=k) ⟨n,0 + 1,none⟩ [.slice c.a c.len c.cap])∧
 ∃ (f:Int→Int→World→Prop) (l:Int→Int→World→Nat),(f 0 0 k)∧∀ (p:Env) (e:Int) (b:Int) (d:World),f e b d→
 Br (decide (b<(↑c.len:Int)))
 (Rng b c.len (NilP c.a fun m=>
 ∃ i:Int,(At (fun j=>j=d) (Addr.add m b.toNat) [.int .i64 i])∧
 (f (IntKind.i64.wrap (e + i)) (IntKind.i64.wrap (b + 1)) d)∧l (IntKind.i64.wrap (e + i)) (IntKind.i64.wrap (b + 1)) d<l e b d))
 (K (.int .i64 e) d)) w
def sk217:Sk:=(.seq .leaf (.seq .leaf (.seq (.seq .leaf (.block (.loop [3,9] [(.int .i64),(.int .i64)] [3,5,9,10,11,12,13,14,15,16] .leaf))) .leaf)))
theorem call217 (c:Int) (b:Sl) (K:Value→World→Prop) (w:World) (h:B217 c b K w):Gets Tryz.prog 217 #[.agg #[.int .i64 c,.slice b.a b.len b.cap]] w K:=cq (sk:=sk217) Tryz.func217 (by kernel_rfl) (by kernel_rfl) (by kernel_rfl) h
def B162 (r:Int) (f:Sl) (K:Value→World→Prop) (w:World):Prop:=
 New (.cells #[.int .i64 r,.slice f.a f.len f.cap] 35 (0,0)) (fun e m=>
 ∃ g:Int,∃ b:Sl,(At (fun s=>s=m) ⟨e,0,none⟩ [.int .i64 g,.slice b.a b.len b.cap])∧
 Calls Tryz.prog 160 #[.agg #[.int .i64 g,.slice b.a b.len b.cap]] m fun p n=>
 ∃ i:Bool,(p=.returned (.bool i))∧
 Br (!i)
 (K (.int .i64 0) n)
 (Drw n fun d t=>
 ∃ j:Int,(At d ⟨e,0,none⟩ [.int .i64 j])∧
 ∃ k:Int,∃ c:Sl,(At d ⟨e,0,none⟩ [.int .i64 k,.slice c.a c.len c.cap])∧
 Calls Tryz.prog 217 #[.agg #[.int .i64 k,.slice c.a c.len c.cap]] t fun q o=>
 ∃ l:Int,(q=.returned (.int .i64 l))∧
 (d o)∧
 K (.int .i64 (IntKind.i64.wrap (j * l))) o)) w
theorem call162 (c:Int) (b:Sl) (K:Value→World→Prop) (w:World) (h:B162 c b K w):Gets Tryz.prog 162 #[.agg #[.int .i64 c,.slice b.a b.len b.cap]] w K:=cq (sk:=.leaf) Tryz.func162 (by kernel_rfl) (by kernel_rfl) (by kernel_rfl) h
def B226 (a:Int) (K:Value→World→Prop) (w:World):Prop:=
 Br (decide (a ≥ 0))
 (K (.bool (decide (a≤10000))) w)
 (K (.bool false) w)
theorem call226 (a:Int) (K:Value→World→Prop) (w:World) (h:B226 a K w):Gets Tryz.prog 226 #[.int .i64 a] w K:=cq (sk:=.leaf) Tryz.func226 (by kernel_rfl) (by kernel_rfl) (by kernel_rfl) h
def B197 (c:Sl) (k:Sl) (t:Value) (K:Value→World→Prop) (w:World):Prop:=
 ∃ (s:World→Prop),(Br (decide ((↑c.len:Int)<1))
 (K (.bool false) w)
 (Br (decide ((↑c.len:Int)>8))
 (K (.bool false) w)
 (Br ((↑k.len:Int) !=(↑c.len:Int))
 (K (.bool false) w)
 (s  w))))∧
 ∀ (Z:Env)  (E:World),s  E→
 ∃ (n:Int→Bool→Int→World→Prop) (o:Int→Bool→Int→World→Nat),(n 0 true (IntKind.i64.wrap ((↑c.len:Int) - 1)) E)∧∀ (aa:Env) (d:Int) (j:Bool) (b:Int) (l:World),n d j b l→
 Br (decide (b ≥ 0))
 (∃ (p:World→Prop),(Drw l fun i Y=>
 Rng b c.len (NilP c.a fun H=>
 ∃ u:Int,(At i (Addr.add H b.toNat) [.int .i64 u])∧
 Calls Tryz.prog 226 #[.int .i64 u] Y fun T r=>
 ∃ v:Bool,(T=.returned (.bool v))∧
 (i r)∧
 Br (!v)
 (K (.bool false) r)
 (Rng b k.len (NilP k.a fun I=>
 ∃ x:Int,(At i (Addr.add I b.toNat) [.int .i64 x])∧
 Calls Tryz.prog 226 #[.int .i64 x] r fun U m=>
 ∃ y:Bool,(U=.returned (.bool y))∧
 (i m)∧
 Br (!y)
 (K (.bool false) m)
 (Br (decide (b>0))
 (Rng b c.len (NilP c.a fun J=>
 ∃ z:Int,(At i (Addr.add J b.toNat) [.int .i64 z])∧
 Rng (IntKind.i64.wrap (b - 1)) c.len (NilP c.a fun L=>
 ∃ A:Int,(At i (Addr.add L ((IntKind.i64.wrap (b - 1)).toNat)) [.int .i64 A])∧
 Br (decide (z>A))
 (K (.bool false) m)
 (p  m))))
 (p  m))))))∧
 ∀ (ab:Env)  (g:World),p  g→
 Rng b k.len (NilP k.a fun M=>
 ∃ e:Int,(At (fun f=>f=g) (Addr.add M b.toNat) [.int .i64 e])∧
 Br j
 (Rng b c.len (NilP c.a fun N=>
 ∃ q:Int,(At (fun f=>f=g) (Addr.add N b.toNat) [.int .i64 q])∧
 Rng b c.len (NilP c.a fun O=>
 ∃ C:Int,(At (fun f=>f=g) (Addr.add O b.toNat) [.int .i64 C])∧
 CalW Tryz.prog cl t [.int .i64 b,.int .i64 (IntKind.i64.wrap (C - IntKind.i64.wrap (d + e)))] g fun V F=>
 (V=.returned (.tuple #[]))∧
 (n (IntKind.i64.wrap (d + e)) (decide (IntKind.i64.wrap (d + e)≤q)) (IntKind.i64.wrap (b - 1)) F)∧o (IntKind.i64.wrap (d + e)) (decide (IntKind.i64.wrap (d + e)≤q)) (IntKind.i64.wrap (b - 1)) F<o d j b l)))
 (Rng b c.len (NilP c.a fun Q=>
 ∃ D:Int,(At (fun f=>f=g) (Addr.add Q b.toNat) [.int .i64 D])∧
 CalW Tryz.prog cl t [.int .i64 b,.int .i64 (IntKind.i64.wrap (D - IntKind.i64.wrap (d + e)))] g fun X G=>
 (X=.returned (.tuple #[]))∧
 (n (IntKind.i64.wrap (d + e)) false (IntKind.i64.wrap (b - 1)) G)∧o (IntKind.i64.wrap (d + e)) false (IntKind.i64.wrap (b - 1)) G<o d j b l))))
 (K (.bool j) l)
def sk197:Sk:=(.seq .leaf (.cut [] [] [6,10,11,12,13,14,15,16,17,18,19,20,21,22,23,24] .leaf (.seq .leaf (.seq (.seq .leaf (.block (.loop [7,8,9] [(.int .i64),.bool,(.int .i64)] [6,7,8,9,28,29,30,31,32,33,34,35,36,37,38,39,40,41,42,43,44,45,46,47,48,49,50,51,52,53,54,55,56,57,58,59,60,61,62,63,64,65,66,67,68,69,70,71,72,73,74,75,76,77,78,79,80,81,82,83,84,85] (.seq .leaf (.seq (.block (.cut [] [] [6,32,33,34,35,36,37,38,39,40,41,42,43,44,45,46,47,48,49,50,51,52,53,54,55,56,57,58,59,60,61] .leaf .leaf)) .leaf))))) .leaf))))
theorem call197 (b:Sl) (c:Sl) (d:Value) (K:Value→World→Prop) (w:World) (h:B197 b c d K w):Gets Tryz.prog 197 #[.slice b.a b.len b.cap,.slice c.a c.len c.cap,d] w K:=cq (sk:=sk197) Tryz.func197 (by kernel_rfl) (by kernel_rfl) (by kernel_rfl) h
def B131 (d:Sl) (g:Sl) (n:Int) (K:Value→World→Prop) (w:World):Prop:=
 New (.cells #[.int .i64 n] 3 (0,0)) (fun e p=>
 New (.cells #[.int .i64 0] 3 (0,0)) (fun f q=>
 ∃ m:World,((Instr.storeAt 3 (.pointer ((some ⟨f,0,none⟩))) (.int .i64 10000)).run Tryz.prog q=.ok () m)∧
 Calls Tryz.prog 197 #[.slice d.a d.len d.cap,.slice g.a g.len g.cap,.func (.func 198) #[] #[.pointer ((some ⟨e,0,none⟩)),.pointer ((some ⟨f,0,none⟩))]] m fun o b=>
 ∃ i:Bool,(o=.returned (.bool i))∧
 Br (!i)
 (K (.tuple #[.int .i64 0,.int .i64 1]) b)
 (∃ j:Int,(At (fun c=>c=b) ⟨e,0,none⟩ [.int .i64 j])∧
 Br (decide (j<0))
 (K (.tuple #[.int .i64 0,.int .i64 1]) b)
 (∃ k:Int,(At (fun c=>c=b) ⟨e,0,none⟩ [.int .i64 k])∧
 Br (decide (k ≥ (↑d.len:Int)))
 (K (.tuple #[.int .i64 0,.int .i64 1]) b)
 (∃ l:Int,(At (fun c=>c=b) ⟨f,0,none⟩ [.int .i64 l])∧
 K (.tuple #[.int .i64 l,.int .i64 0]) b)))) p) w
theorem call131 (b:Sl) (c:Sl) (d:Int) (K:Value→World→Prop) (w:World) (h:B131 b c d K w):Gets Tryz.prog 131 #[.slice b.a b.len b.cap,.slice c.a c.len c.cap,.int .i64 d] w K:=cq (sk:=.leaf) Tryz.func131 (by kernel_rfl) (by kernel_rfl) (by kernel_rfl) h
def B198 (k:Int) (d:Int) (j:Option Addr) (c:Option Addr) (K:Value→World→Prop) (w:World):Prop:=
 NilP j fun g=>
 ∃ e:Int,(At (fun b=>b=w) g [.int .i64 e])∧
 Br (decide (k≤e))
 (NilP c fun i=>
 ∃ a:Int,(At (fun b=>b=w) i [.int .i64 a])∧
 ∃ f:World,((Instr.storeAt 3 (.pointer c) (.int .i64 (if d<a then d else a))).run Tryz.prog w=.ok () f)∧
 K (.tuple #[]) f)
 (K (.tuple #[]) w)
theorem call198 (c:Int) (d:Int) (a:Option Addr) (b:Option Addr) (K:Value→World→Prop) (w:World) (h:B198 c d a b K w):Gets Tryz.prog 198 #[.int .i64 c,.int .i64 d,.pointer a,.pointer b] w K:=cq (sk:=.leaf) Tryz.func198 (by kernel_rfl) (by kernel_rfl) (by kernel_rfl) h
def B177 (j:Int) (d:Sl) (K:Value→World→Prop) (w:World):Prop:=
 ∃ (o:World→Prop),(Calls Tryz.prog 226 #[.int .i64 j] w fun z g=>
 ∃ p:Bool,(z=.returned (.bool p))∧
 Br (!p)
 (K (.tuple #[.slice none 0 0,.int .i64 1]) g)
 (Br (decide ((↑d.len:Int)<1))
 (K (.tuple #[.slice none 0 0,.int .i64 1]) g)
 (Br (decide ((↑d.len:Int)>8))
 (K (.tuple #[.slice none 0 0,.int .i64 1]) g)
 (o  g))))∧
 ∀ (F:Env)  (r:World),o  r→
 New (.cells #[.int .i64 j] 3 (0,0)) (fun x D=>
 ((0:Int)≤1)∧
 ((1:Int)≤(↑d.len:Int))∧
 ∃ (i:Sl→Int→World→Prop) (t:Sl→Int→World→Nat),(i ⟨(some ⟨x,0,none⟩),1,1⟩ 0 D)∧∀ (G:Env) (b:Sl) (c:Int) (f:World),i b c f→
 Br (decide (c<(↑(d.len - Int.toNat 1):Int)))
 (Rng c (d.len - Int.toNat 1) (NilP (cutA d.a (Int.toNat 1) d.cap 1) fun u=>
 ∃ q:Nat,(At (fun m=>m=f) (Addr.add u c.toNat) [.float .f64 q])∧
 Calls Tryz.prog 227 #[.float .f64 q,.int .i64 j] f fun A s=>
 ∃ k:Int,∃ C:Int,(A=.returned (.tuple #[.int .i64 k,.int .i64 C]))∧
 Rng c b.len (NilP b.a fun v=>
 ∃ l:Int,(At (fun m=>m=s) (Addr.add v c.toNat) [.int .i64 l])∧
 New (.cells #[.int .i64 (if l<k then l else k)] 3 (0,0)) (fun y E=>
 ∃ n:World,∃ e:Sl,((Builtin.append_ #[28,28] 28 #[.slice b.a b.len b.cap,.slice ((some ⟨y,0,none⟩)) 1 1]).run Tryz.prog E=.ok (.slice e.a e.len e.cap) n)∧
 (i e (IntKind.i64.wrap (c + 1)) n)∧t e (IntKind.i64.wrap (c + 1)) n<t b c f) s)))
 (K (.tuple #[.slice b.a b.len b.cap,.int .i64 0]) f)) r
def sk177:Sk:=(.seq .leaf (.cut [] [] [4,5,11,12,13,14,15,16,17,18,19,20,21,22,23] .leaf (.seq .leaf (.seq (.seq .leaf (.block (.loop [6,29] [.sl,(.int .i64)] [6,7,8,9,10,29,30,31,32,33,34,35,36,37,38,39,40,41,42,43,44,45,46,47,48,49] .leaf))) .leaf))))
theorem call177 (c:Int) (b:Sl) (K:Value→World→Prop) (w:World) (h:B177 c b K w):Gets Tryz.prog 177 #[.int .i64 c,.slice b.a b.len b.cap] w K:=cq (sk:=sk177) Tryz.func177 (by kernel_rfl) (by kernel_rfl) (by kernel_rfl) h
def B227 (c:Nat) (d:Int) (K:Value→World→Prop) (w:World):Prop:=
 ∃ (e:Bool→World→Prop),(Br (decide (d<0))
 (e true w)
 (e (decide (d>10000)) w))∧
 ∀ (q:Env) (n:Bool) (b:World),e n b→
 Br n
 (K (.tuple #[.int .i64 0,.int .i64 1]) b)
 (∃ i:Bool,(∀ a,(fun a=>a=b) a→((do eqGuard BinOp.gtr 33 (Operand.tmp 14) (Operand.const (Value.float FloatKind.f64 0)) (.float .f64 c) (.float .f64 0);binOp BinOp.gtr 33 (.float .f64 c) (.float .f64 0):Sem Value)).run Tryz.prog a=.ok (.bool i) a)∧
 Br (!i)
 (K (.tuple #[.int .i64 0,.int .i64 0]) b)
 (∃ j:Bool,(∀ a,(fun a=>a=b) a→((do eqGuard BinOp.geq 33 (Operand.tmp 18) (Operand.const (Value.float FloatKind.f64 4607182418800017408)) (.float .f64 c) (.float .f64 4607182418800017408);binOp BinOp.geq 33 (.float .f64 c) (.float .f64 4607182418800017408):Sem Value)).run Tryz.prog a=.ok (.bool j) a)∧
 Br j
 (K (.tuple #[.int .i64 d,.int .i64 0]) b)
 (∃ g:World,∃ f:Nat,((convert 3 33 (.int .i64 d)).run Tryz.prog b=.ok (.float .f64 f) g)∧
 ∃ k:Nat,(∀ a,(fun a=>a=g) a→((do eqGuard BinOp.mul 33 (Operand.tmp 21) (Operand.tmp 23) (.float .f64 c) (.float .f64 f);binOp BinOp.mul 33 (.float .f64 c) (.float .f64 f):Sem Value)).run Tryz.prog a=.ok (.float .f64 k) a)∧
 Calls Tryz.prog 260 #[.float .f64 k] g fun p o=>
 ∃ l:Nat,(p=.returned (.float .f64 l))∧
 ∃ m:Int,(∀ a,(fun a=>a=o) a→((convert 33 3 (.float .f64 l))).run Tryz.prog a=.ok (.int .i64 m) a)∧
 K (.tuple #[.int .i64 m,.int .i64 0]) o)))
def sk227:Sk:=(.seq .leaf (.seq (.block (.cut [6] [.bool] [6,7,8,9,10,11,12] .leaf .leaf)) .leaf))
theorem call227 (a:Nat) (b:Int) (K:Value→World→Prop) (w:World) (h:B227 a b K w):Gets Tryz.prog 227 #[.float .f64 a,.int .i64 b] w K:=cq (sk:=sk227) Tryz.func227 (by kernel_rfl) (by kernel_rfl) (by kernel_rfl) h
def B260 (d:Nat) (K:Value→World→Prop) (w:World):Prop:=
 Ext Tryz.prog 274 #[.float .f64 d] w fun b c=>
 ∃ a:Nat,(b=.returned (.float .f64 a))∧
 K (.float .f64 a) c
theorem call260 (a:Nat) (K:Value→World→Prop) (w:World) (h:B260 a K w):Gets Tryz.prog 260 #[.float .f64 a] w K:=cq (sk:=.leaf) Tryz.func260 (by kernel_rfl) (by kernel_rfl) (by kernel_rfl) h
end Go.Proofs.YtfgbbckfikiomaaGreatDoor
/- The formulas of functions of this seat's translation, printed by a program of mine off the translation; each is proved equal to 'fnF' of the function's body, so it is enough for the call. No condition. -/
namespace Go.Proofs.YtfgbbckfikiomaaGreatDoor
open Go Go.VC
set_option linter.unusedVariables false
set_option maxRecDepth 10000
def B109 (n:Int) (F:Int) (m:Sl) (o:Sl) (K:Value→World→Prop) (w:World):Prop:=
 New (.cells #[.int .i64 F,.slice m.a m.len m.cap] 35 (0,0)) (fun j y=>
 ∃ q:Int,∃ c:Sl,(At (fun b=>b=y) ⟨j,0,none⟩ [.int .i64 q,.slice c.a c.len c.cap])∧
 Calls Tryz.prog 162 #[.agg #[.int .i64 q,.slice c.a c.len c.cap]] y fun z G=>
 ∃ r:Int,(z=.returned (.int .i64 r))∧
 Calls Tryz.prog 177 #[.int .i64 r,.slice o.a o.len o.cap] G fun A k=>
 ∃ d:Sl,∃ s:Int,(A=.returned (.tuple #[.slice d.a d.len d.cap,.int .i64 s]))∧
 Br (decide (n<1))
 (K (.tuple #[.pointer none,.int .i64 1]) k)
 (Br (decide (n>9999))
 (K (.tuple #[.pointer none,.int .i64 1]) k)
 (∃ t:Int,∃ e:Sl,(At (fun b=>b=k) ⟨j,0,none⟩ [.int .i64 t,.slice e.a e.len e.cap])∧
 Calls Tryz.prog 160 #[.agg #[.int .i64 t,.slice e.a e.len e.cap]] k fun C l=>
 ∃ u:Bool,(C=.returned (.bool u))∧
 Br (!u)
 (K (.tuple #[.pointer none,.int .i64 1]) l)
 (Br (s !=0)
 (K (.tuple #[.pointer none,.int .i64 1]) l)
 (∃ f:Sl,(At (fun b=>b=l) ⟨j,0 + 1,none⟩ [.slice f.a f.len f.cap])∧
 Calls Tryz.prog 172 #[.slice f.a f.len f.cap] l fun D H=>
 ∃ g:Sl,(D=.returned (.slice g.a g.len g.cap))∧
 ∃ p:World,((Instr.storeAt 28 (.pointer ((some ⟨j,0 + 1,none⟩))) (.slice g.a g.len g.cap)).run Tryz.prog H=.ok () p)∧
 ∃ v:Int,∃ i:Sl,(At (fun b=>b=p) ⟨j,0,none⟩ [.int .i64 v,.slice i.a i.len i.cap])∧
 Calls Tryz.prog 159 #[.int .i64 n,.agg #[.int .i64 v,.slice i.a i.len i.cap],.slice d.a d.len d.cap] p fun E I=>
 ∃ x:Option Addr,(E=.returned (.pointer x))∧
 K (.tuple #[.pointer x,.int .i64 0]) I))))) w
theorem call109 (e:Int) (d:Int) (b:Sl) (c:Sl) (K:Value→World→Prop) (w:World) (h:B109 e d b c K w):Gets Tryz.prog 109 #[.int .i64 e,.agg #[.int .i64 d,.slice b.a b.len b.cap],.slice c.a c.len c.cap] w K:=cq (sk:=.leaf) Tryz.func109 (by kernel_rfl) (by kernel_rfl) (by kernel_rfl) h
def B159 (g:Int) (ah:Int) (n:Sl) (b:Sl) (K:Value→World→Prop) (w:World):Prop:=
 New (.cells #[.int .i64 ah,.slice n.a n.len n.cap] 35 (0,0)) (fun O ai=>
 Drw ai fun c t=>
 ∃ f:Int,∃ d:Sl,(At c ⟨O,0,none⟩ [.int .i64 f,.slice d.a d.len d.cap])∧
 (∃ m:World,∃ e:Sl,((Instr.makeSlice 28 (.int .i64 ((↑b.len:Int))) (.int .i64 ((↑b.len:Int)))).run Tryz.prog t=.ok (.slice e.a e.len e.cap) m)∧
 (c m)∧
 (New (.map #[] 0) (fun Q H=>
 (c H)∧
 New (.map #[] 0) (fun X I=>
 (c I)∧
 New (.cells #[.int .i64 g,.int .i64 f,.slice d.a d.len d.cap,.slice b.a b.len b.cap,.slice e.a e.len e.cap,.map ((some Q)),.map ((some X))] 174 (0,0)) (fun ab J=>
 (c J)∧
 K (.pointer ((some ⟨ab,0,none⟩))) J) I) H) m)∧
 New (.map #[] 0) (fun Y L=>
 (c L)∧
 New (.map #[] 0) (fun T M=>
 (c M)∧
 New (.cells #[.int .i64 g,.int .i64 f,.slice d.a d.len d.cap,.slice b.a b.len b.cap,.slice e.a e.len e.cap,.map ((some T)),.map ((some Y))] 174 (0,0)) (fun ac N=>
 (c N)∧
 K (.pointer ((some ⟨ac,0,none⟩))) N) M) L) m)∧
 (New (.map #[] 0) (fun v o=>
 (c o)∧
 (∃ p:World,∃ i:Sl,((Instr.makeSlice 28 (.int .i64 ((↑b.len:Int))) (.int .i64 ((↑b.len:Int)))).run Tryz.prog o=.ok (.slice i.a i.len i.cap) p)∧
 (c p)∧
 New (.map #[] 0) (fun Z y=>
 (c y)∧
 New (.cells #[.int .i64 g,.int .i64 f,.slice d.a d.len d.cap,.slice b.a b.len b.cap,.slice i.a i.len i.cap,.map ((some v)),.map ((some Z))] 174 (0,0)) (fun ad z=>
 (c z)∧
 K (.pointer ((some ⟨ad,0,none⟩))) z) y) p)∧
 New (.map #[] 0) (fun aa A=>
 (c A)∧
 ∃ q:World,∃ j:Sl,((Instr.makeSlice 28 (.int .i64 ((↑b.len:Int))) (.int .i64 ((↑b.len:Int)))).run Tryz.prog A=.ok (.slice j.a j.len j.cap) q)∧
 (c q)∧
 New (.cells #[.int .i64 g,.int .i64 f,.slice d.a d.len d.cap,.slice b.a b.len b.cap,.slice j.a j.len j.cap,.map ((some v)),.map ((some aa))] 174 (0,0)) (fun ae C=>
 (c C)∧
 K (.pointer ((some ⟨ae,0,none⟩))) C) q) o) t)∧
 New (.map #[] 0) (fun x r=>
 (c r)∧
 (∃ s:World,∃ k:Sl,((Instr.makeSlice 28 (.int .i64 ((↑b.len:Int))) (.int .i64 ((↑b.len:Int)))).run Tryz.prog r=.ok (.slice k.a k.len k.cap) s)∧
 (c s)∧
 New (.map #[] 0) (fun U D=>
 (c D)∧
 New (.cells #[.int .i64 g,.int .i64 f,.slice d.a d.len d.cap,.slice b.a b.len b.cap,.slice k.a k.len k.cap,.map ((some U)),.map ((some x))] 174 (0,0)) (fun af E=>
 (c E)∧
 K (.pointer ((some ⟨af,0,none⟩))) E) D) s)∧
 New (.map #[] 0) (fun V F=>
 (c F)∧
 ∃ u:World,∃ l:Sl,((Instr.makeSlice 28 (.int .i64 ((↑b.len:Int))) (.int .i64 ((↑b.len:Int)))).run Tryz.prog F=.ok (.slice l.a l.len l.cap) u)∧
 (c u)∧
 New (.cells #[.int .i64 g,.int .i64 f,.slice d.a d.len d.cap,.slice b.a b.len b.cap,.slice l.a l.len l.cap,.map ((some V)),.map ((some x))] 174 (0,0)) (fun ag G=>
 (c G)∧
 K (.pointer ((some ⟨ag,0,none⟩))) G) u) r) t) w
theorem call159 (e:Int) (d:Int) (b:Sl) (c:Sl) (K:Value→World→Prop) (w:World) (h:B159 e d b c K w):Gets Tryz.prog 159 #[.int .i64 e,.agg #[.int .i64 d,.slice b.a b.len b.cap],.slice c.a c.len c.cap] w K:=cq (sk:=.leaf) Tryz.func159 (by kernel_rfl) (by kernel_rfl) (by kernel_rfl) h
def B58 (j:Option Addr) (K:Value→World→Prop) (w:World):Prop:=
 NilP j fun o=>
 ∃ f:Sl,(At (fun v=>v=w) ⟨o.block,o.off + 3,none⟩ [.slice f.a f.len f.cap])∧
 ∃ q:World,∃ b:Sl,((Instr.makeSlice 28 (.int .i64 ((↑f.len:Int))) (.int .i64 ((↑f.len:Int)))).run Tryz.prog w=.ok (.slice b.a b.len b.cap) q)∧
 ∃ (i:Int→World→Prop) (r:Int→World→Nat),(i 0 q)∧∀ (z:Env) (c:Int) (g:World),i c g→
 Br (decide (c<(↑b.len:Int)))
 (Drw g fun l x=>
 NilP j fun m=>
 ∃ d:Sl,(At l ⟨m.block,m.off + 3,none⟩ [.slice d.a d.len d.cap])∧
 NilP j fun n=>
 ∃ e:Sl,(At l ⟨n.block,n.off + 4,none⟩ [.slice e.a e.len e.cap])∧
 Calls Tryz.prog 131 #[.slice d.a d.len d.cap,.slice e.a e.len e.cap,.int .i64 c] x fun t y=>
 ∃ p:Int,∃ u:Int,(t=.returned (.tuple #[.int .i64 p,.int .i64 u]))∧
 Rng c b.len (NilP b.a fun s=>
 ∃ k:World,((Instr.storeAt 3 (.pointer ((some (Addr.add s c.toNat)))) (.int .i64 p)).run Tryz.prog y=.ok () k)∧
 (i (IntKind.i64.wrap (c + 1)) k)∧r (IntKind.i64.wrap (c + 1)) k<r c g))
 (K (.slice b.a b.len b.cap) g)
def sk58:Sk:=(.seq .leaf (.seq .leaf (.seq (.seq .leaf (.block (.loop [13] [(.int .i64)] [4,13,14,15,16,17,18,19,20,21,22,23,24,25,26,27,28,29,30,31,32] .leaf))) .leaf)))
theorem call58 (a:Option Addr) (K:Value→World→Prop) (w:World) (h:B58 a K w):Gets Tryz.prog 58 #[.pointer a] w K:=cq (sk:=sk58) Tryz.func58 (by kernel_rfl) (by kernel_rfl) (by kernel_rfl) h
end Go.Proofs.YtfgbbckfikiomaaGreatDoor
/- The formulas of functions of this seat's translation, printed by a program of mine off the translation; each is proved equal to 'fnF' of the function's body, so it is enough for the call. No condition. -/
namespace Go.Proofs.YtfgbbckfikiomaaGreatDoor
open Go Go.VC
set_option linter.unusedVariables false
set_option maxRecDepth 10000
def B60 (c:Sl) (f:Sl) (K:Value→World→Prop) (w:World):Prop:=
 Br ((↑c.len:Int) !=(↑f.len:Int))
 (K (.bool false) w)
 (∃ (e:Int→World→Prop) (l:Int→World→Nat),(e 0 w)∧∀ (o:Env) (b:Int) (d:World),e b d→
 Br (decide (b<(↑c.len:Int)))
 (Drw d fun i g=>
 Rng b c.len (NilP c.a fun m=>
 ∃ j:Int,(At i (Addr.add m b.toNat) [.int .i64 j])∧
 Rng b f.len (NilP f.a fun n=>
 ∃ k:Int,(At i (Addr.add n b.toNat) [.int .i64 k])∧
 Br (j !=k)
 (K (.bool false) g)
 ((e (IntKind.i64.wrap (b + 1)) g)∧l (IntKind.i64.wrap (b + 1)) g<l b d))))
 (K (.bool true) d))
def sk60:Sk:=(.seq .leaf (.seq .leaf (.seq (.seq .leaf (.block (.loop [5] [(.int .i64)] [4,5,11,12,13,14,15,16,17,18,19,20,21,22,23,24,25] .leaf))) .leaf)))
theorem call60 (b:Sl) (c:Sl) (K:Value→World→Prop) (w:World) (h:B60 b c K w):Gets Tryz.prog 60 #[.slice b.a b.len b.cap,.slice c.a c.len c.cap] w K:=cq (sk:=sk60) Tryz.func60 (by kernel_rfl) (by kernel_rfl) (by kernel_rfl) h
def B88 (n:Int) (K:Value→World→Prop) (w:World):Prop:=
 ∃ (g:Int→Sl→World→Prop) (k:Int→Sl→World→Nat),(g n ⟨none,0,0⟩ w)∧∀ (q:Env) (c:Int) (b:Sl) (f:World),g c b f→
 Br (decide (c>0))
 (New (.cells #[.int .u8 (IntKind.u8.wrap (c.tmod 256))] 5 (0,0)) (fun m o=>
 ∃ i:World,∃ e:Sl,((Builtin.append_ #[42,42] 42 #[.slice ((some ⟨m,0,none⟩)) 1 1,.slice b.a b.len b.cap]).run Tryz.prog o=.ok (.slice e.a e.len e.cap) i)∧
 (g (IntKind.u64.wrap (c.tdiv 256)) e i)∧k (IntKind.u64.wrap (c.tdiv 256)) e i<k c b f) f)
 (New (.cells #[.int .u8 (IntKind.u8.wrap (↑b.len:Int))] 5 (0,0)) (fun l p=>
 ∃ j:World,∃ d:Sl,((Builtin.append_ #[42,42] 42 #[.slice ((some ⟨l,0,none⟩)) 1 1,.slice b.a b.len b.cap]).run Tryz.prog p=.ok (.slice d.a d.len d.cap) j)∧
 K (.slice d.a d.len d.cap) j) f)
def sk88:Sk:=(.seq .leaf (.seq .leaf (.seq (.block (.loop [0,3] [(.int .u64),.sl] [0,3,4,5,6,7,8,9,10,11,12,13] .leaf)) .leaf)))
theorem call88 (a:Int) (K:Value→World→Prop) (w:World) (h:B88 a K w):Gets Tryz.prog 88 #[.int .u64 a] w K:=cq (sk:=sk88) Tryz.func88 (by kernel_rfl) (by kernel_rfl) (by kernel_rfl) h
def B148 (b:Option Addr) (K:Value→World→Prop) (w:World):Prop:=
 ∃ (E:World→Prop),(Drw w fun t D=>
 NilP b fun F=>
 ∃ N:Bool,(At t ⟨F.block,F.off + 2,none⟩ [.bool N])∧
 Br N
 (K (.tuple #[.int .u64 0,.bool false,.int .i64 0]) D)
 (NilP b fun G=>
 ∃ O:Int,(At t ⟨G.block,G.off + 1,none⟩ [.int .i64 O])∧
 NilP b fun ad=>
 ∃ o:Sl,(At t (Addr.add ad 0) [.slice o.a o.len o.cap])∧
 Br (decide (O ≥ (↑o.len:Int)))
 (K (.tuple #[.int .u64 0,.bool false,.int .i64 0]) D)
 (E  D)))∧
 ∀ (am:Env)  (V:World),E  V→
 Drw V fun u X=>
 NilP b fun ae=>
 ∃ k:Sl,(At u (Addr.add ae 0) [.slice k.a k.len k.cap])∧
 NilP b fun H=>
 ∃ y:Int,(At u ⟨H.block,H.off + 1,none⟩ [.int .i64 y])∧
 Rng y k.len (NilP k.a fun af=>
 ∃ g:Int,(At u (Addr.add af y.toNat) [.int .u8 g])∧
 ∃ (s:Int→World→Prop),(Br (decide (IntKind.i64.wrap g ≥ 16))
 (s (IntKind.i64.wrap (IntKind.i64.wrap g - 16)) X)
 (s (IntKind.i64.wrap g) X))∧
 ∀ (an:Env) (e:Int) (Y:World),s e Y→
 ∃ (i:World→Prop),(Drw Y fun d c=>
 Br (decide (e>8))
 (K (.tuple #[.int .u64 0,.bool false,.int .i64 0]) c)
 (NilP b fun I=>
 ∃ Q:Int,(At d ⟨I.block,I.off + 1,none⟩ [.int .i64 Q])∧
 NilP b fun ag=>
 ∃ p:Sl,(At d (Addr.add ag 0) [.slice p.a p.len p.cap])∧
 Br (decide (IntKind.i64.wrap (IntKind.i64.wrap (Q + 1) + e)>(↑p.len:Int)))
 (K (.tuple #[.int .u64 0,.bool false,.int .i64 0]) c)
 (Br (decide (IntKind.i64.wrap g ≥ 16))
 (Br (e==0)
 (K (.tuple #[.int .u64 0,.bool false,.int .i64 0]) c)
 (Br (decide (e>0))
 (NilP b fun ah=>
 ∃ l:Sl,(At d (Addr.add ah 0) [.slice l.a l.len l.cap])∧
 NilP b fun J=>
 ∃ z:Int,(At d ⟨J.block,J.off + 1,none⟩ [.int .i64 z])∧
 Rng (IntKind.i64.wrap (z + 1)) l.len (NilP l.a fun aj=>
 ∃ T:Int,(At d (Addr.add aj ((IntKind.i64.wrap (z + 1)).toNat)) [.int .u8 T])∧
 Br (T==0)
 (K (.tuple #[.int .u64 0,.bool false,.int .i64 0]) c)
 (i  c)))
 (i  c)))
 (Br (decide (e>0))
 (NilP b fun ai=>
 ∃ m:Sl,(At d (Addr.add ai 0) [.slice m.a m.len m.cap])∧
 NilP b fun L=>
 ∃ A:Int,(At d ⟨L.block,L.off + 1,none⟩ [.int .i64 A])∧
 Rng (IntKind.i64.wrap (A + 1)) m.len (NilP m.a fun ak=>
 ∃ U:Int,(At d (Addr.add ak ((IntKind.i64.wrap (A + 1)).toNat)) [.int .u8 U])∧
 Br (U==0)
 (K (.tuple #[.int .u64 0,.bool false,.int .i64 0]) c)
 (i  c)))
 (i  c)))))∧
 ∀ (ao:Env)  (Z:World),i  Z→
 ∃ (r:Int→Int→World→Prop) (ab:Int→Int→World→Nat),(r 0 0 Z)∧∀ (ap:Env) (j:Int) (f:Int) (q:World),r j f q→
 Br (decide (f<e))
 (Drw q fun v aa=>
 NilP b fun al=>
 ∃ n:Sl,(At v (Addr.add al 0) [.slice n.a n.len n.cap])∧
 NilP b fun M=>
 ∃ C:Int,(At v ⟨M.block,M.off + 1,none⟩ [.int .i64 C])∧
 Rng (IntKind.i64.wrap (IntKind.i64.wrap (C + 1) + f)) n.len (NilP n.a fun ac=>
 ∃ x:Int,(At v (Addr.add ac ((IntKind.i64.wrap (IntKind.i64.wrap (C + 1) + f)).toNat)) [.int .u8 x])∧
 (r (IntKind.u64.wrap (IntKind.u64.wrap (j * 256) + IntKind.u64.wrap x)) (IntKind.i64.wrap (f + 1)) aa)∧ab (IntKind.u64.wrap (IntKind.u64.wrap (j * 256) + IntKind.u64.wrap x)) (IntKind.i64.wrap (f + 1)) aa<ab j f q))
 (K (.tuple #[.int .u64 j,.bool (decide (IntKind.i64.wrap g ≥ 16)),.int .i64 (IntKind.i64.wrap (e + 1))]) q))
def sk148:Sk:=(.seq .leaf (.cut [] [] [2,3,4,9,10,11,12,13,14,15,16,17,18,19,20,21,22,23,24] .leaf (.seq .leaf (.seq .leaf (.cut [5] [(.int .i64)] [5,38,39,40] .leaf (.cut [] [] [2,3,4,41,42,43,44,45,46,47,48,49,50,51,52,53,54,55,56,57,58,59,60,61,62,63,64,65,66,67,68,69,70,71,72,73,74,75,76,77,78,79,80,81,82] .leaf (.seq .leaf (.seq (.seq .leaf (.block (.loop [7,8] [(.int .u64),(.int .i64)] [7,8,83,84,85,86,87,88,89,90,91,92,93,94,95,96,97,98,99,100,101,102,103,104] .leaf))) .leaf))))))))
theorem call148 (a:Option Addr) (K:Value→World→Prop) (w:World) (h:B148 a K w):Gets Tryz.prog 148 #[.pointer a] w K:=cq (sk:=sk148) Tryz.func148 (by kernel_rfl) (by kernel_rfl) (by kernel_rfl) h
def B84 (a:Option Addr) (t:Int) (K:Value→World→Prop) (w:World):Prop:=
 Calls Tryz.prog 148 #[.pointer a] w fun s b=>
 ∃ c:Int,∃ m:Bool,∃ d:Int,(s=.returned (.tuple #[.int .u64 c,.bool m,.int .i64 d]))∧
 ∃ (f:World→Prop),(Br (d==0)
 (NilP a fun g=>
 ∃ o:World,((Instr.storeAt 4 (.pointer ((some ⟨g.block,g.off + 2,none⟩))) (.bool true)).run Tryz.prog b=.ok () o)∧
 K (.int .u64 0) o)
 (Br m
 (NilP a fun i=>
 ∃ p:World,((Instr.storeAt 4 (.pointer ((some ⟨i.block,i.off + 2,none⟩))) (.bool true)).run Tryz.prog b=.ok () p)∧
 K (.int .u64 0) p)
 (Br (decide (c>t))
 (NilP a fun j=>
 ∃ q:World,((Instr.storeAt 4 (.pointer ((some ⟨j.block,j.off + 2,none⟩))) (.bool true)).run Tryz.prog b=.ok () q)∧
 K (.int .u64 0) q)
 (f  b))))∧
 ∀ (v:Env)  (e:World),f  e→
 NilP a fun k=>
 ∃ n:Int,(At (fun u=>u=e) ⟨k.block,k.off + 1,none⟩ [.int .i64 n])∧
 NilP a fun l=>
 ∃ r:World,((Instr.storeAt 3 (.pointer ((some ⟨l.block,l.off + 1,none⟩))) (.int .i64 (IntKind.i64.wrap (n + d)))).run Tryz.prog e=.ok () r)∧
 K (.int .u64 c) r
def sk84:Sk:=(.seq .leaf (.seq .leaf (.cut [] [] [4,14,15,16,17,18,19,20,21,22,23,24,25,26] .leaf .leaf)))
theorem call84 (b:Option Addr) (a:Int) (K:Value→World→Prop) (w:World) (h:B84 b a K w):Gets Tryz.prog 84 #[.pointer b,.int .u64 a] w K:=cq (sk:=sk84) Tryz.func84 (by kernel_rfl) (by kernel_rfl) (by kernel_rfl) h
def B86 (d:Option Addr) (K:Value→World→Prop) (w:World):Prop:=
 Drw w fun c j=>
 NilP d fun f=>
 ∃ i:Bool,(At c ⟨f.block,f.off + 2,none⟩ [.bool i])∧
 Br (!i)
 (NilP d fun e=>
 ∃ g:Int,(At c ⟨e.block,e.off + 1,none⟩ [.int .i64 g])∧
 NilP d fun k=>
 ∃ b:Sl,(At c (Addr.add k 0) [.slice b.a b.len b.cap])∧
 K (.bool (g==(↑b.len:Int))) j)
 (K (.bool false) j)
theorem call86 (a:Option Addr) (K:Value→World→Prop) (w:World) (h:B86 a K w):Gets Tryz.prog 86 #[.pointer a] w K:=cq (sk:=.leaf) Tryz.func86 (by kernel_rfl) (by kernel_rfl) (by kernel_rfl) h
end Go.Proofs.YtfgbbckfikiomaaGreatDoor
/- The formulas of functions of this seat's translation, printed by a program of mine off the translation; each is proved equal to 'fnF' of the function's body, so it is enough for the call. No condition. -/
namespace Go.Proofs.YtfgbbckfikiomaaGreatDoor
open Go Go.VC
set_option linter.unusedVariables false
set_option maxRecDepth 10000
def B61 (c:Sl) (f:Sl) (K:Value→World→Prop) (w:World):Prop:=
 Br ((↑c.len:Int) !=(↑f.len:Int))
 (K (.bool false) w)
 (∃ (e:Int→World→Prop) (l:Int→World→Nat),(e 0 w)∧∀ (o:Env) (b:Int) (d:World),e b d→
 Br (decide (b<(↑c.len:Int)))
 (Drw d fun i g=>
 Rng b c.len (NilP c.a fun m=>
 ∃ j:ByteArray,(At i (Addr.add m b.toNat) [.string j])∧
 Rng b f.len (NilP f.a fun n=>
 ∃ k:ByteArray,(At i (Addr.add n b.toNat) [.string k])∧
 Br (!j.toList==k.toList)
 (K (.bool false) g)
 ((e (IntKind.i64.wrap (b + 1)) g)∧l (IntKind.i64.wrap (b + 1)) g<l b d))))
 (K (.bool true) d))
def sk61:Sk:=(.seq .leaf (.seq .leaf (.seq (.seq .leaf (.block (.loop [5] [(.int .i64)] [4,5,11,12,13,14,15,16,17,18,19,20,21,22,23,24,25] .leaf))) .leaf)))
theorem call61 (b:Sl) (c:Sl) (K:Value→World→Prop) (w:World) (h:B61 b c K w):Gets Tryz.prog 61 #[.slice b.a b.len b.cap,.slice c.a c.len c.cap] w K:=cq (sk:=sk61) Tryz.func61 (by kernel_rfl) (by kernel_rfl) (by kernel_rfl) h
end Go.Proofs.YtfgbbckfikiomaaGreatDoor
/- The formulas of functions of this seat's translation, printed by a program of mine off the translation; each is proved equal to 'fnF' of the function's body, so it is enough for the call. No condition. -/
namespace Go.Proofs.YtfgbbckfikiomaaGreatDoor
open Go Go.VC
set_option linter.unusedVariables false
set_option maxRecDepth 10000
def B72 (d:Sl) (K:Value→World→Prop) (w:World):Prop:=
 Calls Tryz.prog 88 #[.int .u64 (IntKind.u64.wrap (↑d.len:Int))] w fun f g=>
 ∃ b:Sl,(f=.returned (.slice b.a b.len b.cap))∧
 ∃ e:World,∃ c:Sl,((Builtin.append_ #[42,42] 42 #[.slice b.a b.len b.cap,.slice d.a d.len d.cap]).run Tryz.prog g=.ok (.slice c.a c.len c.cap) e)∧
 K (.slice c.a c.len c.cap) e
theorem call72 (b:Sl) (K:Value→World→Prop) (w:World) (h:B72 b K w):Gets Tryz.prog 72 #[.slice b.a b.len b.cap] w K:=cq (sk:=.leaf) Tryz.func72 (by kernel_rfl) (by kernel_rfl) (by kernel_rfl) h
def B85 (b:Option Addr) (A:Int) (K:Value→World→Prop) (w:World):Prop:=
 Calls Tryz.prog 148 #[.pointer b] w fun Q U=>
 ∃ k:Int,∃ C:Bool,∃ c:Int,(Q=.returned (.tuple #[.int .u64 k,.bool C,.int .i64 c]))∧
 ∃ (o:World→Prop),(Drw U fun p g=>
 Br (c==0)
 (NilP b fun r=>
 ∃ F:World,((Instr.storeAt 4 (.pointer ((some ⟨r.block,r.off + 2,none⟩))) (.bool true)).run Tryz.prog g=.ok () F)∧
 K (.slice none 0 0) F)
 (Br C
 (NilP b fun s=>
 ∃ G:World,((Instr.storeAt 4 (.pointer ((some ⟨s.block,s.off + 2,none⟩))) (.bool true)).run Tryz.prog g=.ok () G)∧
 K (.slice none 0 0) G)
 (Br (decide (A<0))
 (NilP b fun t=>
 ∃ H:World,((Instr.storeAt 4 (.pointer ((some ⟨t.block,t.off + 2,none⟩))) (.bool true)).run Tryz.prog g=.ok () H)∧
 K (.slice none 0 0) H)
 (Br (decide (k>IntKind.u64.wrap A))
 (NilP b fun u=>
 ∃ I:World,((Instr.storeAt 4 (.pointer ((some ⟨u.block,u.off + 2,none⟩))) (.bool true)).run Tryz.prog g=.ok () I)∧
 K (.slice none 0 0) I)
 (NilP b fun M=>
 ∃ l:Sl,(At p (Addr.add M 0) [.slice l.a l.len l.cap])∧
 NilP b fun q=>
 ∃ D:Int,(At p ⟨q.block,q.off + 1,none⟩ [.int .i64 D])∧
 Br (decide (k>IntKind.u64.wrap (IntKind.i64.wrap (IntKind.i64.wrap ((↑l.len:Int) - D) - c))))
 (NilP b fun v=>
 ∃ J:World,((Instr.storeAt 4 (.pointer ((some ⟨v.block,v.off + 2,none⟩))) (.bool true)).run Tryz.prog g=.ok () J)∧
 K (.slice none 0 0) J)
 (o  g))))))∧
 ∀ (X:Env)  (n:World),o  n→
 NilP b fun x=>
 ∃ d:Int,(At (fun T=>T=n) ⟨x.block,x.off + 1,none⟩ [.int .i64 d])∧
 NilP b fun y=>
 ∃ L:World,((Instr.storeAt 3 (.pointer ((some ⟨y.block,y.off + 1,none⟩))) (.int .i64 (IntKind.i64.wrap (IntKind.i64.wrap (d + c) + IntKind.i64.wrap k)))).run Tryz.prog n=.ok () L)∧
 Drw L fun j V=>
 NilP b fun N=>
 ∃ e:Sl,(At j (Addr.add N 0) [.slice e.a e.len e.cap])∧
 NilP b fun z=>
 ∃ i:Int,(At j ⟨z.block,z.off + 1,none⟩ [.int .i64 i])∧
 ((0:Int)≤i)∧
 ((i:Int)≤(↑e.cap:Int))∧
 ((0:Int)≤IntKind.i64.wrap (d + c))∧
 ((IntKind.i64.wrap (d + c):Int)≤(↑i.toNat:Int))∧
 New (.cells #[] 5 (0,0)) (fun O E=>
 (j E)∧
 ∃ m:World,∃ f:Sl,((Builtin.append_ #[42,42] 42 #[.slice ((some ⟨O,0,none⟩)) 0 0,.slice (cutA e.a (IntKind.i64.wrap (d + c)).toNat e.cap 1) (i.toNat - (IntKind.i64.wrap (d + c)).toNat) (e.cap - (IntKind.i64.wrap (d + c)).toNat)]).run Tryz.prog E=.ok (.slice f.a f.len f.cap) m)∧
 (j m)∧
 K (.slice f.a f.len f.cap) m) V
def sk85:Sk:=(.seq .leaf (.seq .leaf (.cut [] [] [4,15,16,17,18,19,20,21,22,23,24,25,26,27,28,29,30,31,32,33,34,35,36,37,38,39,40,41,42,43,44,45,46,47,48,49] .leaf .leaf)))
theorem call85 (b:Option Addr) (a:Int) (K:Value→World→Prop) (w:World) (h:B85 b a K w):Gets Tryz.prog 85 #[.pointer b,.int .i64 a] w K:=cq (sk:=sk85) Tryz.func85 (by kernel_rfl) (by kernel_rfl) (by kernel_rfl) h
end Go.Proofs.YtfgbbckfikiomaaGreatDoor

/- Packages seat and reference 13: layouts. Condition: none. -/
namespace Go.Proofs.YtfgbbckfikiomaaGreatDoor
set_option linter.unusedVariables false
open Go Go.VC
variable {R:Cx} {Hs Rest:List HP} {w:World}
theorem sum_app:∀ a b:List Int,(a++b).sum=a.sum + b.sum
 |[],b=>by simp
 |x::a,b=>by simp only [List.cons_append,List.sum_cons,sum_app a b];omega
theorem sum_take {g:List Int} {j:Nat} (h:j<g.length):(g.take (j + 1)).sum=(g.take j).sum + g[j]:=by
 rw [List.take_add_one,List.getElem?_eq_getElem h,sum_app]
 simp
theorem sum_bd {g:List Int} (h:∀ x∈g,0≤x∧x≤10):0≤g.sum∧g.sum≤10 * g.length:=by
 induction g with
 |nil=>simp
 |cons a g ih=>
  have:=ih fun x hx=>h x (List.mem_cons_of_mem _ hx)
  have:=h a List.mem_cons_self
  simp only [List.sum_cons,List.length_cons]
  omega
def grpsOk (g:List Int):Bool:=g.all fun x=>decide (1≤x∧x≤10)
def layOk (n:Int) (g:List Int):Bool:=decide (1≤n∧n≤60∧1≤g.length∧g.length≤4) && (grpsOk g && decide (g.sum≤10))
def layN (n:Int) (g:List Int):Int:=if layOk n g then n * g.sum else 0
theorem layOk_iff {n:Int} {g:List Int}:layOk n g=true↔(1≤n∧n≤60∧1≤g.length∧g.length≤4)∧(∀ x∈g,1≤x∧x≤10)∧g.sum≤10:=by
 simp [layOk,grpsOk]
theorem layN_ok {n:Int} {g:List Int} (h:layOk n g=true):layN n g=n * g.sum:=by unfold layN;rw [if_pos h]
theorem mul_bd {a b:Int} (h0:0≤a) (h1:a≤60) (h2:0≤b) (h3:b≤10):0≤a * b∧a * b≤600:=
 ⟨Int.mul_nonneg h0 h2,by have:=Int.mul_le_mul h1 h3 h2 (by omega);omega⟩
theorem layN_bd (n:Int) (g:List Int):0≤layN n g∧layN n g≤600:=by
 unfold layN
 split
 ·rename_i h
  obtain ⟨h1,h2,h3⟩:=layOk_iff.1 h
  have:=sum_bd (fun x hx=>by have:=h2 x hx;omega) (g:=g)
  exact mul_bd (by omega) (by omega) (by omega) (by omega)
 ·omega
abbrev layC (n:Int) (s:Sl):Obj:=.cells [.int .i64 n,.slice s.a s.len s.cap].toArray 35 (0,0)
theorem across_spec {n:Int} {s:Sl} {g:List Int} (hs:RoI R s g) (hg:∀ x∈g,0≤x∧x≤10) (hl:g.length≤4) (hw:Sat R Hs w):
  Gets Tryz.prog 217 #[.agg #[.int .i64 n,.slice s.a s.len s.cap]] w fun v w'=>v=.int .i64 g.sum∧Sat R Hs w':=by
 have hlen:=hs.len
 apply call217
 refine new_rule hw fun p w hw=>?_
 have hw:Sat R (pts p (layC n s)::Hs) w:=hw
 refine ⟨s,At.own (eqS hw) (by exact ⟨rfl,trivial⟩),?_⟩
 refine ⟨fun m i w=>∃ j:Nat,i=j∧j≤g.length∧m=(g.take j).sum∧Sat R (pts p (layC n s)::Hs) w,fun _ i _=>g.length - i.toNat,⟨0,rfl,by omega,by simp,hw⟩,?_⟩
 clear hw
 rintro _ _ _ w ⟨j,rfl,hj,rfl,hw⟩
 refine Br.d (fun h=>?_) (fun h=>?_)
 ·have hj2:j<g.length:=by omega
  refine hs.idx (eqS hw) hj2 ?_
  have hb:=sum_bd (fun x hx=>hg x (List.mem_of_mem_take hx)) (g:=g.take j)
  have hb2:(g.take j).length≤4:=by rw [List.length_take];omega
  have hx:=hg g[j] (List.getElem_mem _)
  rw [wrap64 (x:=(j:Int) + 1) (by omega) (by omega),wrap64 (by omega) (by omega)]
  exact ⟨⟨j + 1,by omega,by omega,(sum_take hj2).symm,hw⟩,by dsimp only;omega⟩
 ·rw [List.take_of_length_le (by omega)]
  exact ⟨rfl,hw.drop⟩
theorem idxF_spec {s:Sl} {l:List Int} {f:Value} {p:Int→Bool} (hs:RoI R s l) (hf:∀ x w,Sat R Hs w→CalW Tryz.prog cl f [.int .i64 x] w fun e w'=>e=.returned (.bool (p x))∧Sat R Hs w') (hw:Sat R Hs w):
  Gets Tryz.prog 257 #[.slice s.a s.len s.cap,f] w fun v w'=>(∃ n:Int,v=.int .i64 n∧(l.any p=true↔0≤n))∧Sat R Hs w':=by
 have hlen:=hs.len
 have hbd:=hs.bound
 apply call257
 refine ⟨fun i w=>∃ j:Nat,i=j∧j≤l.length∧(l.take j).any p=false∧Sat R Hs w,fun i _=>l.length - i.toNat,⟨0,rfl,by omega,by simp,hw⟩,?_⟩
 clear hw
 rintro _ _ w ⟨j,rfl,hj,hn,hw⟩
 refine Br.d (fun h=>?_) (fun h=>?_)
 ·have hj2:j<l.length:=by omega
  refine hs.idx (eqS hw) hj2 ?_
  refine (hf l[j] _ hw).mono ?_
  rintro _ w ⟨rfl,hw⟩
  refine ⟨_,rfl,Br.mk (fun h=>⟨⟨j,rfl,⟨fun _=>by omega,fun _=>List.any_eq_true.2 ⟨_,List.getElem_mem _,h⟩⟩⟩,hw⟩) (fun h=>?_)⟩
  rw [wrap64 (by omega) (by omega)]
  refine ⟨⟨j + 1,by omega,by omega,?_,hw⟩,by dsimp only;omega⟩
  rw [List.take_add_one,List.getElem?_eq_getElem hj2,List.any_append,hn]
  simp [h]
 ·refine ⟨⟨-1,rfl,⟨fun h2=>?_,fun h2=>by omega⟩⟩,hw⟩
  rw [List.take_of_length_le (by omega)] at hn
  rw [hn] at h2;cases h2
theorem contF_spec {s:Sl} {l:List Int} {f:Value} {p:Int→Bool} (hs:RoI R s l) (hf:∀ x w,Sat R Hs w→CalW Tryz.prog cl f [.int .i64 x] w fun e w'=>e=.returned (.bool (p x))∧Sat R Hs w') (hw:Sat R Hs w):
  Gets Tryz.prog 216 #[.slice s.a s.len s.cap,f] w fun v w'=>v=.bool (l.any p)∧Sat R Hs w':=by
 apply call216
 refine (idxF_spec hs hf hw).use ?_
 rintro _ w ⟨⟨n,rfl,h⟩,hw⟩
 refine ⟨n,rfl,?_,hw⟩
 congr 1
 rw [Bool.eq_iff_iff,decide_eq_true_iff]
 exact h.symm
theorem odd_spec {g:Int} (hw:Sat R Hs w):Gets Tryz.prog 215 #[.int .i64 g] w fun v w'=>v=.bool (!decide (1≤g∧g≤10))∧Sat R Hs w':=by
 apply call215
 refine Br.d (fun h=>⟨?_,hw⟩) (fun h=>⟨?_,hw⟩)
 ·rw [decide_eq_false (by omega)];rfl
 ·congr 1
  rw [←decide_not,decide_eq_decide];omega
theorem layOk_no {n:Int} {g:List Int} (h:¬ ((1≤n∧n≤60∧1≤g.length∧g.length≤4)∧(∀ x∈g,1≤x∧x≤10)∧g.sum≤10)):layOk n g=false:=by
 rw [←Bool.not_eq_true,layOk_iff];exact h
theorem right_spec {n:Int} {s:Sl} {g:List Int} (hs:RoI R s g) (hw:Sat R Hs w):
  Gets Tryz.prog 160 #[.agg #[.int .i64 n,.slice s.a s.len s.cap]] w fun v w'=>v=.bool (layOk n g)∧Sat R Hs w':=by
 have hlen:=hs.len
 apply call160
 refine new_rule hw fun p w hw=>?_
 have hw:Sat R (pts p (layC n s)::Hs) w:=hw
 refine ⟨n,At.own (eqS hw) (by exact ⟨rfl,trivial⟩),Br.d (fun h1=>⟨by rw [layOk_no (fun h=>by omega)],hw.drop⟩) (fun h1=>?_)⟩
 refine ⟨n,At.own (eqS hw) (by exact ⟨rfl,trivial⟩),Br.d (fun h2=>⟨by rw [layOk_no (fun h=>by omega)],hw.drop⟩) (fun h2=>?_)⟩
 refine ⟨s,At.own (eqS hw) (by exact ⟨rfl,trivial⟩),Br.d (fun h3=>⟨by rw [layOk_no (fun h=>by omega)],hw.drop⟩) (fun h3=>?_)⟩
 refine ⟨s,At.own (eqS hw) (by exact ⟨rfl,trivial⟩),Br.d (fun h4=>⟨by rw [layOk_no (fun h=>by omega)],hw.drop⟩) (fun h4=>?_)⟩
 refine ⟨s,At.own (eqS hw) (by exact ⟨rfl,trivial⟩),?_⟩
 refine (contF_spec (p:=fun x=>!decide (1≤x∧x≤10)) hs (fun x w hw=>CalW.mk (by kernel_rfl) ((odd_spec hw).use fun v w' h=>⟨by rw [h.1],h.2⟩)) hw).use ?_
 rintro _ w ⟨rfl,hw⟩
 refine ⟨_,rfl,Br.mk (fun h5=>⟨?_,hw.drop⟩) (fun h5=>?_)⟩
 ·rw [layOk_no (fun h=>?_)]
  obtain ⟨x,hx,hx2⟩:=List.any_eq_true.1 h5
  have:=h.2.1 x hx
  rw [decide_eq_true this] at hx2;cases hx2
 have hg:∀ x∈g,1≤x∧x≤10:=fun x hx=>by
  by_cases h:1≤x∧x≤10
  ·exact h
  ·have:(g.any fun x=>!decide (1≤x∧x≤10))=true:=List.any_eq_true.2 ⟨x,hx,by rw [decide_eq_false h];rfl⟩
   rw [h5] at this;cases this
 refine ⟨n,s,At.own (eqS hw) (by exact ⟨rfl,rfl,trivial⟩),?_⟩
 refine (across_spec hs (fun x hx=>by have:=hg x hx;omega) (by omega) hw).use ?_
 rintro _ w ⟨rfl,hw⟩
 refine ⟨_,rfl,?_,hw.drop⟩
 congr 1
 rw [Bool.eq_iff_iff,decide_eq_true_iff,layOk_iff]
 exact ⟨fun h=>⟨⟨by omega,by omega,by omega,by omega⟩,hg,h⟩,fun h=>h.2.2⟩
theorem count_spec {n:Int} {s:Sl} {g:List Int} (hs:RoI R s g) (hw:Sat R Hs w):
  Gets Tryz.prog 162 #[.agg #[.int .i64 n,.slice s.a s.len s.cap]] w fun v w'=>v=.int .i64 (layN n g)∧Sat R Hs w':=by
 apply call162
 refine new_rule hw fun p w hw=>?_
 have hw:Sat R (pts p (layC n s)::Hs) w:=hw
 refine ⟨n,s,At.own (eqS hw) (by exact ⟨rfl,rfl,trivial⟩),?_⟩
 refine (right_spec hs hw).use ?_
 rintro _ w ⟨rfl,hw⟩
 refine ⟨_,rfl,Br.nb (fun h=>⟨?_,hw.drop⟩) (fun h=>?_)⟩
 ·unfold layN;rw [h];rfl
 obtain ⟨h1,h2,h3⟩:=layOk_iff.1 h
 refine drw_rule hw fun w hw=>?_
 refine ⟨n,At.own selfS (by exact ⟨rfl,trivial⟩),n,s,At.own selfS (by exact ⟨rfl,rfl,trivial⟩),?_⟩
 refine (across_spec hs (fun x hx=>by have:=h2 x hx;omega) (by omega) hw).use ?_
 rintro _ w ⟨rfl,hw⟩
 have hb:=layN_bd n g
 rw [layN_ok h] at hb ⊢
 refine ⟨_,rfl,hw,?_,hw.drop⟩
 rw [wrap64 (by omega) (by omega)]
end Go.Proofs.YtfgbbckfikiomaaGreatDoor





/- SL, part 15: new rows of so many zeros; elements of any one cell. Condition: bounds on lengths. -/
namespace Go.VC
set_option linter.unusedVariables false
variable {P:Program} {R:Cx} {Hs Rest:List HP} {w:World} {s:Sl} {T:TypeId}
theorem make_rule {t:TypeId} {bytes n:Nat} {kl kc:IntKind} {z:Value} {K:Sl→World→Prop} (ht:P.underlying t=some (.slice T)) (hi:elB P T bytes=true) (hv:∀ w,(zeroValue T).run P w=.ok z w) (h1:z.cells=#[z])
  (hn:bytes * n≤281474976710656) (h63:n≤9223372036854775807) (hw:Sat R Hs w) (k:∀ s' w',Sat R (Own s' T (List.replicate n z)::Hs) w'→K s' w'):
  ∃ w',∃ t':Sl,(Instr.makeSlice t (.int kl (n:Int)) (.int kc (n:Int))).run P w=.ok (.slice t'.a t'.len t'.cap) w'∧K t' w':=by
 obtain ⟨i,z',hi,hz,hs,hb,hc⟩:=elB_out hi
 have hzz:z'=z:=by
  have:=hv w
  simp [zeroValue,hi,hz,typeInfo] at this
  exact this
 subst hzz
 have hb':(i.bytes:Int) * (n:Int)≤281474976710656:=by
  rw [hb]
  have h:((bytes * n:Nat):Int)≤281474976710656:=by omega
  rwa [Int.natCast_mul] at h
 have hr:=run_make (P:=P) w t T i z' ht hi hz kl kc n n (by omega) (Int.le_refl _) hb' (by omega)
 simp only [Int.toNat_natCast,hs,Nat.mul_one,h1] at hr
 refine ⟨_,⟨some ⟨w.heap.size,0,none⟩,n,n⟩,hr,k _ _ ?_⟩
 have e:madeCells #[z'] n=(List.replicate n z').toArray:=by
  apply Array.ext
  ·simp [size_madeCells]
  ·intro j h1 h2
   simp [madeCells,Nat.mod_one]
 rw [e]
 exact own_lit (hw.alloc _) (by simp)
theorem Own.ix {kd:IntKind} {xs:List Int} {S:World→Prop} {Hs':List HP} {i:Int} (hw:Sat R (Own s T (xs.map (Value.int kd))::Hs) w) (hS:∀ w,S w→Sat R (Own s T (xs.map (Value.int kd))::Hs') w) (k:Nat) (hi:i=k) (hk:k<xs.length) {F:Int→Prop} (h:F xs[k]):
  Rng i s.len (NilP s.a fun a=>∃ t:Int,(At S (a.add i.toNat) [.int kd t])∧F t):=by
 subst hi;exact Own.idx hw hS hk h
end Go.VC
/- Seats side by side: packages seat and reference 13. Condition: none. -/
namespace Go.Proofs.YtfgbbckfikiomaaGreatDoor
set_option linter.unusedVariables false
open Go Go.VC
variable {R:Cx} {Hs Rest:List HP} {w:World}
theorem elI8:El Tryz.prog 28 28 3 8:=⟨Tryz.underlying28,⟨_,Tryz.underlying28⟩,by kernel_rfl⟩
abbrev ints (l:List Nat):List Value:=(l.map fun (j:Nat)=>(j:Int)).map (Value.int .i64)
end Go.Proofs.YtfgbbckfikiomaaGreatDoor
/- Seats side by side: reference 13. Condition: none. -/
namespace Go.Proofs.YtfgbbckfikiomaaGreatDoor
set_option linter.unusedVariables false
open Go Go.VC
variable {R:Cx} {Hs Rest:List HP} {w:World}
theorem _root_.Go.VC.Sat.imp {A B:HP} (h:∀ m,A m→B m) (hw:Sat R (A::Hs) w):Sat R (B::Hs) w:=let ⟨m,a,b,c⟩:=hw;⟨m,h m a,b,c⟩
end Go.Proofs.YtfgbbckfikiomaaGreatDoor
/- Classes and limits: package nest. Condition: none. -/
namespace Go.Proofs.YtfgbbckfikiomaaGreatDoor
set_option linter.unusedVariables false
open Go Go.VC
variable {R:Cx} {Hs Rest:List HP} {w:World}
def inR (x:Int):Bool:=decide (0≤x∧x≤10000)
def limOk (l:List Int):Bool:=decide (1≤l.length∧l.length≤8) && decide (∀ k,k<l.length→(0≤l.getD k 0∧l.getD k 0≤10000)∧(0<k→l.getD k 0≤l.getD (k - 1) 0))
def fromN (sold:List Int) (k:Nat):Int:=(sold.drop k).sum
def nestOk (lim sold:List Int):Bool:=limOk lim && (decide (sold.length=lim.length) && decide (∀ k,k<lim.length→(0≤sold.getD k 0∧sold.getD k 0≤10000)∧fromN sold k≤lim.getD k 0))
def mnF (x:Nat→Int):Nat→Int
 |0=>10000
 |k + 1=>if x k<mnF x k then x k else mnF x k
def roomF (lim sold:List Int) (k:Nat):Int:=lim.getD k 0 - fromN sold k
def leftT (lim sold:List Int) (c:Int):Int × Int:=if nestOk lim sold=true∧0≤c∧c<lim.length then (mnF (roomF lim sold) (c.toNat + 1),0) else (0,1)
def sellT (lim sold:List Int) (c many:Int):List Int × Int:=
 if (leftT lim sold c).2≠0∨many<1∨many>10000 then ([],1) else if many>(leftT lim sold c).1 then ([],3)
 else (sold.set c.toNat (sold.getD c.toNat 0 + many),0)
def IsMn (x:Nat→Int) (a b:Nat) (L:Int):Prop:=L≤10000∧(∀ k,a≤k→k<b→L≤x k)∧(L=10000∨∃ k,a≤k∧k<b∧L=x k)
theorem mnF_is (x:Nat→Int):∀ k,IsMn x 0 k (mnF x k)
 |0=>⟨by simp [mnF],fun k h0 h1=>by omega,.inl rfl⟩
 |k + 1=>by
  obtain ⟨h1,h2,h3⟩:=mnF_is x k
  unfold mnF
  split
  ·exact ⟨by omega,fun j a b=>by
    by_cases hj:j=k
    ·rw [hj];exact Int.le_refl _
    ·have:=h2 j a (by omega);omega,.inr ⟨k,by omega,by omega,rfl⟩⟩
  ·refine ⟨h1,fun j a b=>?_,?_⟩
   ·by_cases hj:j=k
    ·rw [hj];omega
    ·exact h2 j a (by omega)
   ·rcases h3 with h3|⟨j,a,b,c⟩
    ·exact .inl h3
    ·exact .inr ⟨j,a,by omega,c⟩
theorem IsMn.eq {x:Nat→Int} {a b:Nat} {L L':Int} (h:IsMn x a b L) (h':IsMn x a b L'):L=L':=by
 obtain ⟨h1,h2,h3⟩:=h
 obtain ⟨h1',h2',h3'⟩:=h'
 have a1:L≤L':=by
  rcases h3' with h|⟨k,k1,k2,k3⟩
  ·omega
  ·rw [k3];exact h2 k k1 k2
 have a2:L'≤L:=by
  rcases h3 with h|⟨k,k1,k2,k3⟩
  ·omega
  ·rw [k3];exact h2' k k1 k2
 omega
theorem IsMn.step {x:Nat→Int} {a b:Nat} {L:Int} (h:IsMn x (a + 1) b L) (hab:a<b):IsMn x a b (if x a<L then x a else L):=by
 obtain ⟨h1,h2,h3⟩:=h
 split
 ·exact ⟨by omega,fun k k1 k2=>by
   by_cases hk:k=a
   ·rw [hk];exact Int.le_refl _
   ·have:=h2 k (by omega) k2;omega,.inr ⟨a,by omega,hab,rfl⟩⟩
 ·refine ⟨h1,fun k k1 k2=>?_,?_⟩
  ·by_cases hk:k=a
   ·rw [hk];omega
   ·exact h2 k (by omega) k2
  ·rcases h3 with h|⟨k,k1,k2,k3⟩
   ·exact .inl h
   ·exact .inr ⟨k,by omega,k2,k3⟩
theorem IsMn.skip {x:Nat→Int} {a b:Nat} {L:Int} (h:IsMn x (a + 1) b L) (hab:¬ a<b):IsMn x a b L:=by
 obtain ⟨h1,h2,h3⟩:=h
 refine ⟨h1,fun k k1 k2=>by omega,?_⟩
 rcases h3 with h|⟨k,k1,k2,k3⟩
 ·exact .inl h
 ·omega
theorem fromN_step {sold:List Int} {k:Nat} (h:k<sold.length):fromN sold k=sold[k] + fromN sold (k + 1):=by
 unfold fromN;rw [List.drop_eq_getElem_cons h,List.sum_cons]
theorem fromN_end {sold:List Int} {k:Nat} (h:sold.length≤k):fromN sold k=0:=by
 unfold fromN;rw [List.drop_eq_nil_of_le h];rfl
theorem fromN_bd {sold:List Int} (h:∀ x∈sold,0≤x∧x≤10000):∀ k,0≤fromN sold k∧fromN sold k≤10000 * (sold.length - k:Nat):=by
 intro k
 unfold fromN
 rw [←List.length_drop]
 have:∀ x∈sold.drop k,0≤x∧x≤10000:=fun x hx=>h x (List.mem_of_mem_drop hx)
 generalize sold.drop k=l at *
 induction l with
 |nil=>simp
 |cons a l ih=>
  have:=ih fun x hx=>this x (List.mem_cons_of_mem _ hx)
  have:=‹∀ x∈a::l,0≤x∧x≤10000› a List.mem_cons_self
  simp only [List.sum_cons,List.length_cons];omega
theorem getD_lt {l:List Int} {k:Nat} (h:k<l.length):l.getD k 0=l[k]:=by rw [List.getD_eq_getElem?_getD,List.getElem?_eq_getElem h];rfl
theorem limOk_iff {l:List Int}:limOk l=true↔(1≤l.length∧l.length≤8)∧∀ k (h:k<l.length),(0≤l[k]∧l[k]≤10000)∧(0<k→l[k]≤l.getD (k - 1) 0):=by
 unfold limOk
 rw [Bool.and_eq_true,decide_eq_true_iff,decide_eq_true_iff]
 constructor
 ·rintro ⟨h1,h2⟩
  exact ⟨h1,fun k h=>by have:=h2 k h;rw [getD_lt h] at this;exact this⟩
 ·rintro ⟨h1,h2⟩
  exact ⟨h1,fun k h=>by rw [getD_lt h];exact h2 k h⟩
theorem nestOk_iff {lim sold:List Int}:nestOk lim sold=true↔limOk lim=true∧sold.length=lim.length∧∀ k,k<lim.length→(0≤sold.getD k 0∧sold.getD k 0≤10000)∧fromN sold k≤lim.getD k 0:=by
 unfold nestOk
 rw [Bool.and_eq_true,Bool.and_eq_true,decide_eq_true_iff,decide_eq_true_iff]
theorem nestOk_no {lim sold:List Int} (h:¬ (limOk lim=true∧sold.length=lim.length∧∀ k,k<lim.length→(0≤sold.getD k 0∧sold.getD k 0≤10000)∧fromN sold k≤lim.getD k 0)):nestOk lim sold=false:=by
 rw [←Bool.not_eq_true,nestOk_iff];exact h
theorem within_spec {x:Int} (hw:Sat R Hs w):Gets Tryz.prog 226 #[.int .i64 x] w fun v w'=>v=.bool (inR x)∧Sat R Hs w':=by
 apply call226
 unfold inR
 refine Br.d (fun h=>⟨?_,hw⟩) (fun h=>⟨?_,hw⟩)
 ·congr 1;rw [decide_eq_decide];omega
 ·rw [decide_eq_false (by omega)]
theorem lefts_spec {sl ss:Sl} {lim sold:List Int} {ask:Value} {A:Nat→List HP} (hl:RoI R sl lim) (hs:RoI R ss sold)
  (hask:∀ j w,j<lim.length→Sat R (A (j + 1)) w→CalW Tryz.prog cl ask [.int .i64 j,.int .i64 (roomF lim sold j)] w fun e w'=>e=.returned (.tuple #[])∧Sat R (A j) w')
  (hw:Sat R (A lim.length) w):
  Gets Tryz.prog 197 #[.slice sl.a sl.len sl.cap,.slice ss.a ss.len ss.cap,ask] w fun v w'=>v=.bool (nestOk lim sold)∧∃ j,Sat R (A j) w'∧(nestOk lim sold=true→j=0):=by
 have hll:=hl.len
 have hsl:=hs.len
 have hlb:=hl.bound
 have hsb:=hs.bound
 apply call197
 have no:∀ j w,Sat R (A j) w→nestOk lim sold=false→Value.bool false=.bool (nestOk lim sold)∧∃ j,Sat R (A j) w∧(nestOk lim sold=true→j=0):=fun j w h e=>⟨by rw [e],j,h,fun h=>by rw [e] at h;cases h⟩
 have nl:¬ (1≤lim.length∧lim.length≤8)→nestOk lim sold=false:=fun h=>nestOk_no fun h2=>h (limOk_iff.1 h2.1).1
 refine ⟨fun w=>(1≤lim.length∧lim.length≤8∧sold.length=lim.length)∧Sat R (A lim.length) w,?_,?_⟩
 ·refine Br.d (fun h=>no _ _ hw (nl (by omega))) (fun h1=>Br.d (fun h=>no _ _ hw (nl (by omega))) (fun h2=>Br.ne (fun h=>no _ _ hw (nestOk_no fun h3=>by omega)) (fun h3=>⟨⟨by omega,by omega,by omega⟩,hw⟩)))
 clear hw
 rintro _ w ⟨⟨h1,h2,h3⟩,hw⟩
 refine ⟨fun sum fine i w=>∃ j:Nat,i=(j:Int) - 1∧j≤lim.length∧sum=fromN sold j∧(∀ x∈sold.drop j,0≤x∧x≤10000)∧
   (∀ k (h:k<lim.length),j≤k→(0≤lim[k]∧lim[k]≤10000)∧(0<k→lim[k]≤lim.getD (k - 1) 0))∧fine=decide (∀ k,k<lim.length→j≤k→fromN sold k≤lim.getD k 0)∧Sat R (A j) w,
  fun _ _ i _=>(i + 1).toNat,⟨lim.length,?_,by omega,?_,?_,fun k h h'=>by omega,?_,hw⟩,?_⟩
 ·rw [hll,wrap64 (by omega) (by omega)]
 ·rw [fromN_end (by omega)]
 ·rw [List.drop_eq_nil_of_le (by omega)];simp
 ·rw [decide_eq_true];intro k h h';omega
 clear hw
 rintro _ _ fine _ w ⟨j,rfl,hj,rfl,hsm,hlm,rfl,hw⟩
 refine Br.d (fun h=>?_) (fun h=>?_)
 ·obtain ⟨i,rfl⟩:∃ i,j=i + 1:=⟨j - 1,by omega⟩
  rw [show ((i + 1:Nat):Int) - 1=(i:Int) by omega]
  have hil:i<lim.length:=by omega
  have his:i<sold.length:=by omega
  have nlim:¬ ((0≤lim[i]∧lim[i]≤10000)∧(0<i→lim[i]≤lim.getD (i - 1) 0))→nestOk lim sold=false:=fun h=>nestOk_no fun h2=>h ((limOk_iff.1 h2.1).2 i hil)
  have nsold:¬ (0≤sold[i]∧sold[i]≤10000)→nestOk lim sold=false:=fun h=>nestOk_no fun h2=>h (by have:=(h2.2.2 i hil).1;rw [getD_lt his] at this;exact this)
  refine ⟨fun w=>(inR lim[i]=true∧inR sold[i]=true∧(0<i→lim[i]≤lim.getD (i - 1) 0))∧Sat R (A (i + 1)) w,?_,?_⟩
  ·refine drw_rule hw fun w hw=>?_
   refine Ro.ix hl selfS i rfl hil ?_
   refine (within_spec hw).use ?_
   rintro _ w ⟨rfl,hw⟩
   refine ⟨_,rfl,hw,Br.nb (fun h=>no _ _ hw (nlim fun h2=>by unfold inR at h;have:=of_decide_eq_false h;omega)) (fun h4=>?_)⟩
   refine Ro.ix hs selfS i rfl his ?_
   refine (within_spec hw).use ?_
   rintro _ w ⟨rfl,hw⟩
   refine ⟨_,rfl,hw,Br.nb (fun h=>no _ _ hw (nsold fun h2=>by unfold inR at h;have:=of_decide_eq_false h;omega)) (fun h5=>?_)⟩
   refine Br.d (fun h6=>?_) (fun h6=>⟨⟨h4,h5,fun h=>by omega⟩,hw⟩)
   refine Ro.ix hl selfS i rfl hil ?_
   refine Ro.ix hl selfS (i - 1) (by rw [wrap64 (by omega) (by omega)];omega) (by omega) ?_
   refine Br.d (fun h7=>no _ _ hw (nlim fun h8=>?_)) (fun h7=>⟨⟨h4,h5,fun _=>by rw [getD_lt (by omega)];omega⟩,hw⟩)
   have:=h8.2 (by omega)
   rw [getD_lt (by omega)] at this;omega
  clear hw
  rintro _ w ⟨⟨h4,h5,h6⟩,hw⟩
  have h4:=of_decide_eq_true h4
  have h5:=of_decide_eq_true h5
  have hsm':∀ x∈sold.drop i,0≤x∧x≤10000:=fun x hx=>by
   rw [List.drop_eq_getElem_cons his] at hx
   rcases List.mem_cons.1 hx with rfl|hx
   ·exact h5
   ·exact hsm x hx
  have hfs:=fromN_step his
  have hfb:0≤fromN sold (i + 1)∧fromN sold (i + 1)≤80000:=by
   have:=fromN_bd (sold:=sold.drop (i + 1)) hsm 0
   unfold fromN at this ⊢
   rw [List.drop_zero] at this
   rw [List.length_drop] at this
   omega
  have hroom:IntKind.i64.wrap (lim[i] - fromN sold i)=roomF lim sold i:=by
   rw [wrap64 (by omega) (by omega)]
   unfold roomF;rw [getD_lt hil]
  have hsum:IntKind.i64.wrap (fromN sold (i + 1) + sold[i])=fromN sold i:=by rw [wrap64 (by omega) (by omega)];omega
  have hk:IntKind.i64.wrap ((i:Int) - 1)=(i:Int) - 1:=wrap64 (by omega) (by omega)
  have fin:∀ w,Sat R (A i) w→∀ b:Bool,b=(decide (∀ k,k<lim.length→i + 1≤k→fromN sold k≤lim.getD k 0) && decide (fromN sold i≤lim[i]))→
    (∃ j:Nat,(i:Int) - 1=(j:Int) - 1∧j≤lim.length∧fromN sold i=fromN sold j∧(∀ x∈sold.drop j,0≤x∧x≤10000)∧
     (∀ k (h:k<lim.length),j≤k→(0≤lim[k]∧lim[k]≤10000)∧(0<k→lim[k]≤lim.getD (k - 1) 0))∧b=decide (∀ k,k<lim.length→j≤k→fromN sold k≤lim.getD k 0)∧Sat R (A j) w)∧((i:Int) - 1 + 1).toNat<((i:Int) + 1).toNat:=fun w hw b hb=>by
   refine ⟨⟨i,rfl,by omega,rfl,hsm',fun k h h'=>?_,?_,hw⟩,by omega⟩
   ·by_cases hki:k=i
    ·subst hki;exact ⟨h4,h6⟩
    ·exact hlm k h (by omega)
   ·rw [hb,←Bool.decide_and,decide_eq_decide]
    constructor
    ·rintro ⟨a,b⟩ k c d
     by_cases hki:k=i
     ·subst hki;rw [getD_lt hil];exact b
     ·exact a k c (by omega)
    ·intro a
     exact ⟨fun k c d=>a k c (by omega),by have:=a i hil (by omega);rw [getD_lt hil] at this;exact this⟩
  refine Ro.ix hs (eqS hw) i rfl his ?_
  rw [hsum,hk]
  refine Br.d (fun h7=>?_) (fun h7=>?_)
  ·refine Ro.ix hl (eqS hw) i rfl hil (Ro.ix hl (eqS hw) i rfl hil ?_)
   rw [hroom]
   refine (hask i w hil hw).mono ?_
   rintro _ w ⟨rfl,hw⟩
   exact ⟨rfl,fin w hw _ (by rw [decide_eq_true h7];rfl)⟩
  ·refine Ro.ix hl (eqS hw) i rfl hil ?_
   rw [hroom]
   refine (hask i w hil hw).mono ?_
   rintro _ w ⟨rfl,hw⟩
   exact ⟨rfl,fin w hw _ (by rw [decide_eq_false h7];rfl)⟩
 ·obtain rfl:j=0:=by omega
  have e:nestOk lim sold=decide (∀ k,k<lim.length→0≤k→fromN sold k≤lim.getD k 0):=by
   rw [Bool.eq_iff_iff,nestOk_iff,decide_eq_true_iff]
   constructor
   ·intro h k h4 _;exact (h.2.2 k h4).2
   ·intro h
    refine ⟨limOk_iff.2 ⟨⟨h1,h2⟩,fun k h4=>hlm k h4 (by omega)⟩,h3,fun k h4=>⟨?_,h k h4 (by omega)⟩⟩
    rw [getD_lt (by omega)]
    exact hsm _ (by rw [List.drop_zero];exact List.getElem_mem _)
  exact ⟨by rw [e],0,hw,fun _=>rfl⟩
end Go.Proofs.YtfgbbckfikiomaaGreatDoor
/- Classes and limits: package nest, reference 14: what is left, selling, giving back. Condition: none. -/
namespace Go.Proofs.YtfgbbckfikiomaaGreatDoor
set_option linter.unusedVariables false
open Go Go.VC
variable {R:Cx} {Hs Rest:List HP} {w:World}
def leastH (b:Nat) (x:Nat→Int) (j c:Nat):HP:=fun h=>∃ L,IsMn x j c L∧pts b (.cells [.int .i64 L].toArray 3 (0,0)) h
theorem leastH_out {b j c:Nat} {x:Nat→Int} (hw:Sat R (leastH b x j c::Hs) w):∃ L,IsMn x j c L∧Sat R (pts b (.cells [.int .i64 L].toArray 3 (0,0))::Hs) w:=
 let ⟨h,⟨L,hL,hp⟩,hd,hs⟩:=hw
 ⟨L,hL,h,hp,hd,hs⟩
theorem leastH_in {b j c:Nat} {x:Nat→Int} {L:Int} (hL:IsMn x j c L) (hw:Sat R (pts b (.cells [.int .i64 L].toArray 3 (0,0))::Hs) w):Sat R (leastH b x j c::Hs) w:=
 Sat.imp (fun _ h=>⟨L,hL,h⟩) hw
theorem left1_spec {bc bl:Nat} {c:Int} {x:Nat→Int} {j:Nat} (hw:Sat R (leastH bl x (j + 1) (c + 1).toNat::pts bc (.cells [.int .i64 c].toArray 3 (0,0))::Hs) w):
  Gets Tryz.prog 198 #[.int .i64 j,.int .i64 (x j),.pointer (some ⟨bc,0,none⟩),.pointer (some ⟨bl,0,none⟩)] w fun v w'=>v=.tuple #[]∧Sat R (leastH bl x j (c + 1).toNat::pts bc (.cells [.int .i64 c].toArray 3 (0,0))::Hs) w':=by
 obtain ⟨L,hL,hw⟩:=leastH_out hw
 apply call198
 refine NilP.mk rfl ⟨c,At.own (eqS hw) (by exact ⟨rfl,trivial⟩),Br.d (fun h=>?_) (fun h=>⟨rfl,leastH_in (hL.skip (by omega)) hw⟩)⟩
 refine NilP.mk rfl ⟨L,At.own (eqS hw) (by exact ⟨rfl,trivial⟩),?_⟩
 refine store_rule hw (by kernel_rfl) rfl (by simp [Value.cells]) fun w hw=>?_
 exact ⟨rfl,leastH_in (hL.step (by omega)) hw⟩
theorem left_spec {sl ss:Sl} {lim sold:List Int} {c:Int} (hl:RoI R sl lim) (hs:RoI R ss sold) (hw:Sat R Hs w):
  Gets Tryz.prog 131 #[.slice sl.a sl.len sl.cap,.slice ss.a ss.len ss.cap,.int .i64 c] w fun v w'=>v=.tuple #[.int .i64 (leftT lim sold c).1,.int .i64 (leftT lim sold c).2]∧Sat R Hs w':=by
 have hll:=hl.len
 have hlb:=hl.bound
 have no:¬ (nestOk lim sold=true∧0≤c∧c<lim.length)→leftT lim sold c=(0,1):=fun h=>by unfold leftT;rw [if_neg h]
 apply call131
 refine new_rule hw fun bc w hw=>?_
 refine new_rule hw fun bl w hw=>?_
 have hw:Sat R (pts bl (.cells [.int .i64 0].toArray 3 (0,0))::pts bc (.cells [.int .i64 c].toArray 3 (0,0))::Hs) w:=hw
 refine store_rule hw (by kernel_rfl) rfl (by simp [Value.cells]) fun w hw=>?_
 have hw:Sat R (pts bl (.cells [.int .i64 10000].toArray 3 (0,0))::pts bc (.cells [.int .i64 c].toArray 3 (0,0))::Hs) w:=hw
 by_cases hc:c<lim.length
 ·have h0:IsMn (roomF lim sold) lim.length (c + 1).toNat 10000:=⟨by omega,fun k h1 h2=>by omega,.inl rfl⟩
  refine (lefts_spec (A:=fun j=>leastH bl (roomF lim sold) j (c + 1).toNat::pts bc (.cells [.int .i64 c].toArray 3 (0,0))::Hs) hl hs (fun j w _ hw=>CalW.mk (by kernel_rfl) ((left1_spec hw).use fun v w' h=>⟨by rw [h.1],h.2⟩)) (leastH_in h0 hw)).use ?_
  rintro _ w ⟨rfl,j,hw,hj⟩
  refine ⟨_,rfl,Br.nb (fun h=>⟨?_,hw.drop.drop⟩) (fun h1=>?_)⟩
  ·rw [no (fun h2=>by rw [h] at h2;cases h2.1)]
  obtain rfl:=hj h1
  obtain ⟨L,hL,hw⟩:=leastH_out hw
  refine ⟨c,At.own (eqS hw) (by exact ⟨rfl,trivial⟩),Br.d (fun h=>⟨by rw [no (fun h2=>by omega)],hw.drop.drop⟩) (fun h2=>?_)⟩
  refine ⟨c,At.own (eqS hw) (by exact ⟨rfl,trivial⟩),Br.d (fun h=>⟨by rw [no (fun h2=>by omega)],hw.drop.drop⟩) (fun h3=>?_)⟩
  refine ⟨L,At.own (eqS hw) (by exact ⟨rfl,trivial⟩),?_,hw.drop.drop⟩
  have e:leftT lim sold c=(mnF (roomF lim sold) (c.toNat + 1),0):=by unfold leftT;rw [if_pos ⟨h1,by omega,hc⟩]
  rw [e,show c.toNat + 1=(c + 1).toNat by omega]
  rw [hL.eq (mnF_is _ _)]
 ·have h0:IsMn (fun _=>0) 0 0 10000:=⟨by omega,fun k h1 h2=>by omega,.inl rfl⟩
  refine (lefts_spec (A:=fun j=>exs (fun L=>pts bl (.cells [.int .i64 L].toArray 3 (0,0)))::pts bc (.cells [.int .i64 c].toArray 3 (0,0))::Hs) hl hs (fun j w _ hw=>CalW.mk (by kernel_rfl) ?_) (Sat.exs.2 ⟨10000,hw⟩)).use ?_
  ·obtain ⟨L,hw⟩:=Sat.exs.1 hw
   refine Gets.use (Q:=fun v w'=>v=.tuple #[]∧Sat R (exs (fun L=>pts bl (.cells [.int .i64 L].toArray 3 (0,0)))::pts bc (.cells [.int .i64 c].toArray 3 (0,0))::Hs) w') (call198 _ _ _ _ _ _ ?_) fun v w' h=>⟨by rw [h.1],h.2⟩
   refine NilP.mk rfl ⟨c,At.own (eqS hw) (by exact ⟨rfl,trivial⟩),Br.d (fun h=>?_) (fun h=>⟨rfl,Sat.exs.2 ⟨L,hw⟩⟩)⟩
   refine NilP.mk rfl ⟨L,At.own (eqS hw) (by exact ⟨rfl,trivial⟩),?_⟩
   refine store_rule hw (by kernel_rfl) rfl (by simp [Value.cells]) fun w hw=>?_
   exact ⟨rfl,Sat.exs.2 ⟨_,hw⟩⟩
  rintro _ w ⟨rfl,j,hw,hj⟩
  obtain ⟨L,hw⟩:=Sat.exs.1 hw
  have e:=no (fun h2=>by omega)
  refine ⟨_,rfl,Br.nb (fun h=>⟨by rw [e],hw.drop.drop⟩) (fun h1=>?_)⟩
  refine ⟨c,At.own (eqS hw) (by exact ⟨rfl,trivial⟩),Br.d (fun h=>⟨by rw [e],hw.drop.drop⟩) (fun h2=>?_)⟩
  refine ⟨c,At.own (eqS hw) (by exact ⟨rfl,trivial⟩),Br.d (fun h=>⟨by rw [e],hw.drop.drop⟩) (fun h3=>by omega)⟩
theorem cloneI_spec {s:Sl} {l:List Int} (hs:RoI R s l) (hl:l.length≤1000000000) (hw:Sat R Hs w):
  Gets Tryz.prog 172 #[.slice s.a s.len s.cap] w fun v w'=>∃ t:Sl,v=.slice t.a t.len t.cap∧Sat R (Own t 3 (l.map (Value.int .i64))::Hs) w':=by
 apply call172
 refine Br.mk (fun h=>?_) (fun h=>?_)
 ·have hnil:l=[]:=by
   by_cases hn:l=[]
   ·exact hn
   ·obtain ⟨b,off,l',T,fr,ha,_⟩:=hs.mem (by simpa using hn)
    rw [ha] at h;cases h
  subst hnil
  exact ⟨⟨none,0,0⟩,rfl,Own.nil hw⟩
 ·refine new_rule hw fun b w hw=>?_
  have hw:Sat R (Own ⟨some ⟨b,0,none⟩,0,0⟩ 3 (([]:List Int).map (Value.int .i64))::Hs) w:=own_lit hw
  refine appendRI elI8 (s:=⟨some ⟨b,0,none⟩,0,0⟩) (n:=1000000000) Tryz.underlying28 hw hs (by simpa using hl) (by omega) (by omega) fun t w hw=>?_
  exact ⟨t,rfl,hw⟩
end Go.Proofs.YtfgbbckfikiomaaGreatDoor

/- Floats, plain: a part of some seats, as a whole number of them. No program. No condition. -/
namespace Go.VC
set_option linter.unusedVariables false
open Ieee
abbrev fw (n:Nat):Nat:=double.nearest false n 0
def fwOk (n:Nat):Bool:=match double.read (fw n) with
 | .number false m e=>decide (e≤0) && (m==n<<<(-e).toNat)
 |_=>false
set_option maxRecDepth 100000 in
theorem fw_all:(List.range 10002).all fwOk=true:=by kernel_rfl
theorem fw_read {n:Nat} (h:n≤10001):∃ d:Nat,double.read (fw n)=.number false (n * 2 ^ d) (-(d:Int)):=by
 have:=List.all_eq_true.1 fw_all n (List.mem_range.2 (by omega))
 unfold fwOk at this
 split at this
 ·rename_i m e he
  simp only [Bool.and_eq_true,decide_eq_true_eq,beq_iff_eq] at this
  refine ⟨(-e).toNat,?_⟩
  rw [he,this.2,Nat.shiftLeft_eq,show (-((-e).toNat:Int))=e by omega]
 ·cases this
theorem cut_le {n drop B:Nat} (h:n<B * 2 ^ drop):Toward.even.cut false n drop≤B:=by
 unfold Toward.cut
 simp only
 generalize hg:1<<<min drop (n.log2 + 2)=gap
 rw [Nat.shiftLeft_eq,Nat.one_mul] at hg
 have hb:∀ b:Bool,b.toNat≤1:=fun b=>by cases b<;>simp
 by_cases hd:drop≤n.log2 + 2
 ·rw [Nat.min_eq_left hd] at hg
  subst hg
  have h1:n / 2 ^ drop<B:=(Nat.div_lt_iff_lt_mul (Nat.two_pow_pos drop)).2 h
  have:=hb (decide (2 ^ drop<2 * (n % 2 ^ drop))||(2 ^ drop==2 * (n % 2 ^ drop) && n / 2 ^ drop % 2==1))
  omega
 ·rw [Nat.min_eq_right (by omega)] at hg
  have hn:n<2 ^ (n.log2 + 1):=Nat.lt_log2_self
  have hp:2 ^ (n.log2 + 2)=2 * 2 ^ (n.log2 + 1):=by rw [Nat.pow_succ];omega
  subst hg
  have h0:n / 2 ^ (n.log2 + 2)=0:=Nat.div_eq_of_lt (by omega)
  have h1:n % 2 ^ (n.log2 + 2)=n:=Nat.mod_eq_of_lt (by omega)
  rw [h0,h1]
  have e1:decide (2 ^ (n.log2 + 2)<2 * n)=false:=decide_eq_false (by omega)
  have e2:(2 ^ (n.log2 + 2)==2 * n)=false:=by
   rw [beq_eq_false_iff_ne];omega
  rw [e1,e2]
  simp
end Go.VC
/- Floats, plain, part 2. No program. No condition. -/
namespace Go.VC
set_option linter.unusedVariables false
open Ieee
theorem dbl_least:double.leastPlace=-1074:=by decide
theorem dbl_binade:double.binade=4503599627370496:=by decide
theorem dbl_inf:double.infRung=2047 * 4503599627370496:=by decide
theorem dbl_sign:double.signWeight=9223372036854775808:=by decide
theorem dbl_frac:(double.fractionBits:Nat)=52:=rfl
theorem cut_down {n drop:Nat}:Toward.down.cut false n drop=n / 2 ^ drop:=by
 unfold Toward.cut
 simp only
 rw [Nat.shiftLeft_eq,Nat.one_mul]
 have e:(false && n % 2 ^ min drop (n.log2 + 2) !=0).toNat=0:=by simp
 rw [e,Nat.add_zero]
 by_cases hd:drop≤n.log2 + 2
 ·rw [Nat.min_eq_left hd]
 ·rw [Nat.min_eq_right (by omega)]
  have hn:n<2 ^ (n.log2 + 1):=Nat.lt_log2_self
  have h1:2 ^ (n.log2 + 1)≤2 ^ (n.log2 + 2):=Nat.pow_le_pow_right (by omega) (by omega)
  have h2:2 ^ (n.log2 + 2)≤2 ^ drop:=Nat.pow_le_pow_right (by omega) (by omega)
  rw [Nat.div_eq_of_lt (by omega),Nat.div_eq_of_lt (by omega)]
theorem cut_bd {n drop:Nat} (h:drop≤n.log2 + 2):n / 2 ^ drop≤Toward.even.cut false n drop∧Toward.even.cut false n drop≤n / 2 ^ drop + 1:=by
 unfold Toward.cut
 simp only
 rw [Nat.shiftLeft_eq,Nat.one_mul,Nat.min_eq_left h]
 have hb:∀ b:Bool,b.toNat≤1:=fun b=>by cases b<;>simp
 have:=hb (decide (2 ^ drop<2 * (n % 2 ^ drop))||(2 ^ drop==2 * (n % 2 ^ drop) && n / 2 ^ drop % 2==1))
 omega
theorem read_rung {i kept:Nat} (hi:i≤1074) (hk:kept≤9007199254740992) (hk2:0<i→4503599627370496≤kept):
  ∃ mp:Nat,∃ j:Nat,double.read (i * 4503599627370496 + kept)=.number false mp (-1074 + (j:Int))∧((mp=kept∧j=i)∨(mp=4503599627370496∧kept=9007199254740992∧j=i + 1)):=by
 have hr:i * 4503599627370496 + kept<9223372036854775808:=by omega
 unfold Format.read
 simp only
 rw [dbl_sign,dbl_binade,dbl_inf,dbl_least]
 rw [Nat.mod_eq_of_lt hr,Nat.div_eq_of_lt hr]
 have e0:(0 % 2==1)=false:=by decide
 rw [e0]
 by_cases h1:i * 4503599627370496 + kept<4503599627370496
 ·rw [if_pos h1]
  have:i=0:=by omega
  subst this
  exact ⟨_,0,rfl,.inl ⟨by omega,rfl⟩⟩
 rw [if_neg h1,if_pos (by omega)]
 by_cases h2:kept<9007199254740992
 ·have h3:4503599627370496≤kept:=by
   by_cases hi0:0<i
   ·exact hk2 hi0
   ·omega
  have d1:(i * 4503599627370496 + kept) / 4503599627370496=i + 1:=by omega
  have d2:(i * 4503599627370496 + kept) % 4503599627370496=kept - 4503599627370496:=by omega
  rw [d1,d2]
  refine ⟨_,i,?_,.inl ⟨rfl,rfl⟩⟩
  rw [show 4503599627370496 + (kept - 4503599627370496)=kept by omega,show i + 1 - 1=i by omega]
 ·have:kept=9007199254740992:=by omega
  subst this
  have d1:(i * 4503599627370496 + 9007199254740992) / 4503599627370496=i + 2:=by omega
  have d2:(i * 4503599627370496 + 9007199254740992) % 4503599627370496=0:=by omega
  rw [d1,d2]
  exact ⟨_,i + 1,rfl,.inr ⟨by omega,rfl,rfl⟩⟩
theorem plc1 {j L:Nat} (h:j=1074 - L) (h2:L≤1074): -1074 + (j:Int)=-(L:Int):=by omega
theorem plc2 {j L:Nat} (h:j=1074 - L + 1) (h2:L≤1074) (h1:39≤L): -1074 + (j:Int)=-((L - 1:Nat):Int):=by omega
theorem half_le {B L kept:Nat} (h1:kept≤B * 2 ^ L) (h2:kept=9007199254740992) (h3:39≤L):4503599627370496≤B * 2 ^ (L - 1):=by
 have h4:2 ^ L=2 * 2 ^ (L - 1):=by rw [←Nat.pow_succ'];congr 1;omega
 rw [h4,Nat.mul_left_comm] at h1
 clear h4
 generalize B * 2 ^ (L - 1)=y at *
 omega
theorem near_read {M d B:Nat} (hB:B≤10000) (hlt:M<B * 2 ^ d):
  ∃ mp dp:Nat,double.read (double.nearest false M (-(d:Int)))=.number false mp (-(dp:Int))∧mp≤B * 2 ^ dp:=by
 by_cases hM:M=0
 ·subst hM
  refine ⟨0,1074,?_,by omega⟩
  unfold Format.nearest
  rw [if_pos rfl]
  decide
 unfold Format.nearest
 rw [if_neg hM,dbl_least,dbl_binade,dbl_inf,dbl_frac]
 have hlog:2 ^ M.log2≤M:=Nat.log2_self_le hM
 have hlog2:M<2 ^ (M.log2 + 1):=Nat.lt_log2_self
 have hl14:M.log2<14 + d:=by
  have:2 ^ M.log2<2 ^ (14 + d):=by
   rw [Nat.pow_add]
   have:B * 2 ^ d≤2 ^ 14 * 2 ^ d:=Nat.mul_le_mul_right _ (by omega)
   omega
  exact (Nat.pow_lt_pow_iff_right (by omega)).1 this
 simp only
 generalize hlast:max (-(d:Int) + (M.log2:Int) - ((52:Nat):Int)) (-1074)=last
 obtain ⟨L,hL⟩:∃ L:Nat,last=-(L:Int):=⟨(-last).toNat,by omega⟩
 have hL1:39≤L:=by omega
 have hL2:L≤1074:=by omega
 subst hL
 have hi:(-(L:Int) - -1074).toNat=1074 - L:=by omega
 rw [hi]
 -- what is kept
 obtain ⟨kept,hkd,hk1,hk2,hk3⟩:∃ kept,Toward.even.cut false (M<<<(-(d:Int) - -(L:Int)).toNat) (-(L:Int) - -(d:Int)).toNat=kept∧kept≤B * 2 ^ L∧kept≤9007199254740992∧(0<1074 - L→4503599627370496≤kept):=by
  refine ⟨_,rfl,?_⟩
  by_cases hdl:d≤L
  ·have e1:(-(d:Int) - -(L:Int)).toNat=L - d:=by omega
   have e2:(-(L:Int) - -(d:Int)).toNat=0:=by omega
   rw [e1,e2,Nat.shiftLeft_eq]
   have hp:2 ^ L=2 ^ d * 2 ^ (L - d):=by rw [←Nat.pow_add];congr 1;omega
   have hlt':M * 2 ^ (L - d)<B * 2 ^ L:=by
    rw [hp,←Nat.mul_assoc]
    exact Nat.mul_lt_mul_of_pos_right hlt (Nat.two_pow_pos _)
   have c1:=cut_le (n:=M * 2 ^ (L - d)) (drop:=0) (B:=B * 2 ^ L) (by simpa using hlt')
   have c2:=cut_bd (n:=M * 2 ^ (L - d)) (drop:=0) (by omega)
   rw [Nat.pow_zero,Nat.div_one] at c2
   -- no rest, so it is the number itself
   have c3:Toward.even.cut false (M * 2 ^ (L - d)) 0=M * 2 ^ (L - d):=by
    unfold Toward.cut
    simp [Nat.mod_one]
   rw [c3] at c1 ⊢
   have hup:M * 2 ^ (L - d)<2 ^ (M.log2 + 1) * 2 ^ (L - d):=Nat.mul_lt_mul_of_pos_right hlog2 (Nat.two_pow_pos _)
   rw [←Nat.pow_add] at hup
   have hle:M.log2 + 1 + (L - d)≤53:=by omega
   have h53:2 ^ (M.log2 + 1 + (L - d))≤2 ^ 53:=Nat.pow_le_pow_right (by omega) hle
   refine ⟨c1,by omega,fun h=>?_⟩
   have hlo:2 ^ M.log2 * 2 ^ (L - d)≤M * 2 ^ (L - d):=Nat.mul_le_mul_right _ hlog
   rw [←Nat.pow_add] at hlo
   have he:M.log2 + (L - d)=52:=by omega
   rw [he] at hlo
   omega
  ·have e1:(-(d:Int) - -(L:Int)).toNat=0:=by omega
   have e2:(-(L:Int) - -(d:Int)).toNat=d - L:=by omega
   rw [e1,e2,Nat.shiftLeft_zero]
   have hp:2 ^ d=2 ^ L * 2 ^ (d - L):=by rw [←Nat.pow_add];congr 1;omega
   have c1:=cut_le (n:=M) (drop:=d - L) (B:=B * 2 ^ L) (by rw [Nat.mul_assoc,←hp];exact hlt)
   by_cases hdr:d - L≤M.log2 + 2
   ·have c2:=cut_bd hdr
    have hup:M / 2 ^ (d - L)<2 ^ 53:=by
     rw [Nat.div_lt_iff_lt_mul (Nat.two_pow_pos _),←Nat.pow_add]
     have:2 ^ (M.log2 + 1)≤2 ^ (53 + (d - L)):=Nat.pow_le_pow_right (by omega) (by omega)
     omega
    refine ⟨c1,by omega,fun h=>?_⟩
    have hlo:2 ^ 52≤M / 2 ^ (d - L):=by
     rw [Nat.le_div_iff_mul_le (Nat.two_pow_pos _),←Nat.pow_add]
     have:2 ^ (52 + (d - L))≤2 ^ M.log2:=Nat.pow_le_pow_right (by omega) (by omega)
     omega
    omega
   ·-- all of it is dropped
    have hL3:L=1074:=by omega
    have c0:Toward.even.cut false M (d - L)≤1:=cut_le (by
     have h1:2 ^ (M.log2 + 1)≤2 ^ (d - L):=Nat.pow_le_pow_right (by omega) (by omega)
     omega)
    exact ⟨c1,by omega,fun h=>by omega⟩
 rw [hkd]
 obtain ⟨mp,j,hr,hc⟩:=read_rung (i:=1074 - L) (by omega) hk2 hk3
 have hmin:min ((1074 - L) * 4503599627370496 + kept) (2047 * 4503599627370496)=(1074 - L) * 4503599627370496 + kept:=Nat.min_eq_left (by omega)
 have hword:double.word false (min ((1074 - L) * 4503599627370496 + kept) (2047 * 4503599627370496))=(1074 - L) * 4503599627370496 + kept:=by rw [hmin];unfold Format.word;rw [if_neg (by simp)]
 rw [hword,hr]
 rcases hc with ⟨hmk,hj⟩|⟨hmk,hkk,hj⟩
 ·exact ⟨mp,L,by rw [plc1 hj hL2],by rw [hmk];exact hk1⟩
 ·exact ⟨mp,L - 1,by rw [plc2 hj hL2 hL1],by rw [hmk];exact half_le hk1 hkk hL1⟩
end Go.VC
/- Floats, plain, part 3: the part of some seats. No program. No condition. -/
namespace Go.VC
set_option linter.unusedVariables false
open Ieee
def NumW (p mp dp:Nat):Prop:=double.read p=.number false mp (-(dp:Int))
theorem fw_num {n:Nat} (h:n≤10001):∃ d,NumW (fw n) (n * 2 ^ d) d:=fw_read h
theorem zero_num:NumW 0 0 1074:=by unfold NumW;decide
theorem part_num {x:Nat} (h0:double.order x 0=some .gt) (h1:double.order x 4607182418800017408≠some .gt) (h2:double.order x 4607182418800017408≠some .eq):∃ m d,NumW x m d∧0<m∧m<2 ^ d:=by
 have e0:double.read 0=.number false 0 (-1074):=by decide
 have e1:double.read 4607182418800017408=.number false 4503599627370496 (-52):=by decide
 unfold Format.order at h0 h1 h2
 rw [e0] at h0
 rw [e1] at h1 h2
 generalize hx:double.read x=dx at h0 h1 h2
 cases dx with
 |nan s f=>simp [Datum.order] at h0
 |infinity s=>
  cases s
  ·exact absurd rfl h1
  ·simp [Datum.order] at h0
 |number s m e=>
  unfold Datum.order at h0 h1 h2
  simp only [ne_eq,Option.some.injEq] at h0 h1 h2
  have hg:=Int.compare_eq_gt.1 h0
  have hz:signed false 0 (-1074 - min e (-1074)).toNat=0:=by simp [signed]
  rw [hz] at hg
  cases s with
  |true=>
   exfalso
   unfold signed at hg
   rw [if_pos rfl] at hg
   generalize m<<<(e - min e (-1074)).toNat=y at hg
   omega
  |false=>
   have hm:0<m:=by
    rcases Nat.eq_zero_or_pos m with h|h
    ·subst h;simp [signed] at hg
    ·exact h
   have hlt:signed false m (e - min e (-52)).toNat<signed false 4503599627370496 (-52 - min e (-52)).toNat:=by
    rcases Int.lt_trichotomy (signed false m (e - min e (-52)).toNat) (signed false 4503599627370496 (-52 - min e (-52)).toNat) with h|h|h
    ·exact h
    ·exact absurd (Int.compare_eq_eq.2 h) h2
    ·exact absurd (Int.compare_eq_gt.2 h) h1
   unfold signed at hlt
   rw [if_neg (by simp),if_neg (by simp),Nat.shiftLeft_eq,Nat.shiftLeft_eq] at hlt
   have hlt:m * 2 ^ (e - min e (-52)).toNat<4503599627370496 * 2 ^ (-52 - min e (-52)).toNat:=Int.ofNat_lt.1 hlt
   have hneg:e<0:=by
    by_cases he:0≤e
    ·exfalso
     have a1:min e (-52)=-52:=by omega
     rw [a1,show (-52 - (-52):Int).toNat=0 from rfl,Nat.pow_zero,Nat.mul_one] at hlt
     have:2 ^ 52≤2 ^ (e - -52).toNat:=Nat.pow_le_pow_right (by omega) (by omega)
     have:1 * 2 ^ (e - -52).toNat≤m * 2 ^ (e - -52).toNat:=Nat.mul_le_mul_right _ hm
     omega
    ·omega
   refine ⟨m,(-e).toNat,?_,hm,?_⟩
   ·unfold NumW;rw [hx,show (-((-e).toNat:Int))=e by omega]
   ·by_cases h52: -52≤e
    ·have a1:min e (-52)=-52:=by omega
     rw [a1,show (-52 - (-52):Int).toNat=0 from rfl,Nat.pow_zero,Nat.mul_one] at hlt
     have a2:(2:Nat) ^ 52=2 ^ (-e).toNat * 2 ^ (e - -52).toNat:=by rw [←Nat.pow_add];congr 1;omega
     have a3:m * 2 ^ (e - -52).toNat<2 ^ (-e).toNat * 2 ^ (e - -52).toNat:=by rw [←a2];omega
     exact Nat.lt_of_mul_lt_mul_right a3
    ·have a1:min e (-52)=e:=by omega
     rw [a1,show (e - e).toNat=0 by omega,Nat.pow_zero,Nat.mul_one] at hlt
     have a2:2 ^ (-e).toNat=2 ^ 52 * 2 ^ (-52 - e).toNat:=by rw [←Nat.pow_add];congr 1;omega
     rw [a2];exact hlt
theorem part_mul {x m d s:Nat} (hx:NumW x m d) (hlt:m<2 ^ d) (hs:s≤10000):∃ p mp dp,double.mul x (fw s)=some p∧NumW p mp dp∧mp≤s * 2 ^ dp:=by
 obtain ⟨ds,hd⟩:=fw_num (n:=s) (by omega)
 have hmul:double.mul x (fw s)=some (double.nearest false (m * (s * 2 ^ ds)) (-((d + ds:Nat):Int))):=by
  unfold Format.mul
  rw [hx,hd]
  show some (double.write (.number (false ^^ false) (m * (s * 2 ^ ds)) (-(d:Int) + -(ds:Int))))=_
  rw [show (-(d:Int) + -(ds:Int))=-((d + ds:Nat):Int) by omega]
  rfl
 rcases Nat.eq_zero_or_pos s with h0|h0
 ·subst h0
  refine ⟨_,0,1074,hmul,?_,by omega⟩
  rw [Nat.zero_mul,Nat.mul_zero]
  unfold Format.nearest
  rw [if_pos rfl]
  exact zero_num
 ·have hb:m * (s * 2 ^ ds)<s * 2 ^ (d + ds):=by
   have a1:s * 2 ^ (d + ds)=2 ^ d * (s * 2 ^ ds):=by rw [Nat.pow_add,Nat.mul_left_comm]
   rw [a1]
   exact Nat.mul_lt_mul_of_pos_right hlt (Nat.mul_pos h0 (Nat.two_pow_pos _))
  obtain ⟨mp,dp,hr,hle⟩:=near_read hs hb
  exact ⟨_,mp,dp,hmul,hr,hle⟩
theorem floor_word {p mp dp:Nat} (hp:NumW p mp dp):double.write ((double.read p).integral .down)=fw (mp / 2 ^ dp):=by
 rw [hp]
 unfold Datum.integral
 simp only
 rw [show (-(dp:Int)).toNat=0 by omega,Nat.shiftLeft_zero,show (- -(dp:Int)).toNat=dp by omega,cut_down]
 rfl
theorem fw_int {n:Nat} (h:n≤10001):(double.read (fw n)).toInt .zero=some (n:Int):=by
 obtain ⟨d,hd⟩:=fw_num h
 unfold Datum.toInt
 rw [hd]
 unfold Datum.integral
 simp only
 rw [show (-(d:Int)).toNat=0 by omega,Nat.shiftLeft_zero,show (- -(d:Int)).toNat=d by omega]
 have:Toward.zero.cut false (n * 2 ^ d) d=n:=by
  have:Toward.zero.cut false (n * 2 ^ d) d=Toward.down.cut false (n * 2 ^ d) d:=by
   unfold Toward.cut;simp
  rw [this,cut_down,Nat.mul_div_cancel _ (Nat.two_pow_pos d)]
 rw [this]
 simp [signed]
end Go.VC
/- A part of some seats: package fare and reference 03. Condition: none. -/
namespace Go.Proofs.YtfgbbckfikiomaaGreatDoor
set_option linter.unusedVariables false
open Go Go.VC Ieee
variable {R:Cx} {Hs Rest:List HP} {w:World}
def floF (x s:Nat):Nat:=match double.mul x (fw s) with
 |some p=>(match double.read p with| .number _ m e=>m / 2 ^ (-e).toNat|_=>0)
 |none=>0
def isGt (x:Nat):Bool:=double.order x 0==some .gt
def isGe1 (x:Nat):Bool:=double.order x 4607182418800017408==some .gt||double.order x 4607182418800017408==some .eq
def levelT (x:Nat) (s:Int):Int × Int:=
 if s<0∨s>10000 then (0,1) else if isGt x=false then (0,0) else if isGe1 x=true then (s,0) else ((floF x s.toNat:Nat),0)
theorem flo_out {x s:Nat} (h0:isGt x=true) (h1:isGe1 x=false) (hs:s≤10000):∃ p mp dp,double.mul x (fw s)=some p∧NumW p mp dp∧mp≤s * 2 ^ dp∧floF x s=mp / 2 ^ dp∧floF x s≤s:=by
 unfold isGt at h0
 unfold isGe1 at h1
 simp only [Bool.or_eq_false_iff,beq_eq_false_iff_ne,ne_eq] at h1
 obtain ⟨m,d,hx,_,hlt⟩:=part_num (beq_iff_eq.1 h0) h1.1 h1.2
 obtain ⟨p,mp,dp,hp,hn,hle⟩:=part_mul hx hlt hs
 have e:floF x s=mp / 2 ^ dp:=by
  unfold floF
  rw [hp]
  unfold NumW at hn
  simp only [hn]
  rw [show (-(-(dp:Int))).toNat=dp by omega]
 refine ⟨p,mp,dp,hp,hn,hle,e,?_⟩
 rw [e]
 exact Nat.div_le_of_le_mul (by rw [Nat.mul_comm];exact hle)
theorem cmp_gt (t1 t2:Operand) (T:TypeId) (x y:Nat) (w:World):((do eqGuard BinOp.gtr T t1 t2 (.float .f64 x) (.float .f64 y);binOp BinOp.gtr T (.float .f64 x) (.float .f64 y):Sem Value)).run Tryz.prog w=.ok (.bool (double.order x y==some .gt)) w:=by
 simp [eqGuard,binOp,Op.floatCmp,FloatKind.format]
theorem cmp_ge (t1 t2:Operand) (T:TypeId) (x y:Nat) (w:World):((do eqGuard BinOp.geq T t1 t2 (.float .f64 x) (.float .f64 y);binOp BinOp.geq T (.float .f64 x) (.float .f64 y):Sem Value)).run Tryz.prog w=.ok (.bool (double.order x y==some .gt||double.order x y==some .eq)) w:=by
 simp [eqGuard,binOp,Op.floatCmp,FloatKind.format]
theorem mul_run (t1 t2:Operand) (T:TypeId) {x y p:Nat} (h:double.mul x y=some p) (w:World):((do eqGuard BinOp.mul T t1 t2 (.float .f64 x) (.float .f64 y);binOp BinOp.mul T (.float .f64 x) (.float .f64 y):Sem Value)).run Tryz.prog w=.ok (.float .f64 p) w:=by
 simp [eqGuard,binOp,Op.floatArith,FloatKind.format,h]
theorem toF_run (n:Nat) (w:World):(convert 3 33 (.int .i64 n)).run Tryz.prog w=.ok (.float .f64 (fw n)) w:=by
 have h:FloatKind.f64.nearest (n:Int)=fw n:=by
  unfold FloatKind.nearest FloatKind.encode FloatKind.format
  rw [decide_eq_false (show ¬ (n:Int)<0 by omega),Int.natAbs_natCast]
  rfl
 simp [convert,run_underlying Tryz.underlying3,run_underlying Tryz.underlying33,Conv.intToFloat,h]
theorem toI_run {n:Nat} (hn:n≤10001) (w:World):(convert 33 3 (.float .f64 (fw n))).run Tryz.prog w=.ok (.int .i64 n) w:=by
 have h:(FloatKind.f64.decode (fw n)).toInt .zero=some (n:Int):=fw_int hn
 have hr:IntKind.i64.min≤(n:Int)∧(n:Int)≤IntKind.i64.max:=by
  have h1:IntKind.i64.min=-9223372036854775808:=by decide
  have h2:IntKind.i64.max=9223372036854775807:=by decide
  omega
 simp [convert,run_underlying Tryz.underlying3,run_underlying Tryz.underlying33,Conv.floatToInt,h,hr]
 intro h2;omega
theorem fl_name : (Tryz.f274.name == "runtime.NumGoroutine") = false := by kernel_rfl
theorem fl_body:Tryz.f274.body.isNone=true:=by kernel_rfl
theorem fl_next:Extern.findNext Tryz.f274=none:=by kernel_rfl
theorem fl_find : Extern.find Tryz.f274 = some (Extern.MathFloor.toIntegral "math.archFloor" .down) := by kernel_rfl
theorem floor_val {p m : Nat} {e : Int} (hd : FloatKind.f64.decode p = .number false m e) : Extern.MathFloor.toIntegral "math.archFloor" .down #[.float .f64 p] = pure (.float .f64 (FloatKind.f64.encode ((Datum.number false m e).integral .down))) := by
 unfold Extern.MathFloor.toIntegral
 generalize FloatKind.decode FloatKind.f64=D at hd ⊢
 conv=>lhs;whnf
 rw [hd]
theorem floor_spec {p mp dp:Nat} (hp:NumW p mp dp) (hw:Sat R Hs w):Gets Tryz.prog 260 #[.float .f64 p] w fun v w'=>v=.float .f64 (fw (mp / 2 ^ dp))∧Sat R Hs w':=by
 apply call260
 refine ⟨.float .f64 (fw (mp / 2 ^ dp)),w,?_,_,rfl,rfl,hw⟩
 rw [run_callFunc_extern Tryz.func274 fl_name fl_body fl_next fl_find]
 have hd:FloatKind.f64.decode p=.number false mp (-(dp:Int)):=hp
 have hf:FloatKind.f64.encode ((Datum.number false mp (-(dp:Int))).integral .down)=fw (mp / 2 ^ dp):=by
  have:=floor_word hp
  rw [show double.read p=.number false mp (-(dp:Int)) from hp] at this
  exact this
 rw [floor_val hd,hf]
 rfl
theorem level_spec {x:Nat} {s:Int} (hw:Sat R Hs w):Gets Tryz.prog 227 #[.float .f64 x,.int .i64 s] w fun v w'=>v=.tuple #[.int .i64 (levelT x s).1,.int .i64 (levelT x s).2]∧Sat R Hs w':=by
 apply call227
 refine ⟨fun t w=>t=decide (s<0∨s>10000)∧Sat R Hs w,Br.d (fun h=>⟨by rw [decide_eq_true (.inl h)],hw⟩) (fun h=>⟨by rw [decide_eq_decide];omega,hw⟩),?_⟩
 clear hw
 rintro _ _ w ⟨rfl,hw⟩
 unfold levelT
 refine Br.d (fun h=>⟨by rw [if_pos h],hw⟩) (fun h=>?_)
 rw [if_neg h]
 refine ⟨isGt x,fun w' e=>cmp_gt _ _ _ _ _ _,Br.nb (fun h1=>⟨by rw [if_pos h1],hw⟩) (fun h1=>?_)⟩
 rw [if_neg (by rw [h1];simp)]
 refine ⟨isGe1 x,fun w' e=>cmp_ge _ _ _ _ _ _,Br.mk (fun h2=>⟨by rw [if_pos h2],hw⟩) (fun h2=>?_)⟩
 rw [if_neg (by rw [h2];simp)]
 obtain ⟨n,rfl⟩:=Int.eq_ofNat_of_zero_le (show 0≤s by omega)
 obtain ⟨p,mp,dp,hp,hn,hle,e,he⟩:=flo_out (s:=n) h1 h2 (by omega)
 refine ⟨w,_,toF_run n w,_,fun w' _=>mul_run _ _ _ hp w',?_⟩
 refine (floor_spec hn hw).use ?_
 rintro _ w ⟨rfl,hw⟩
 rw [←e]
 refine ⟨_,rfl,_,fun w' _=>toI_run (by omega) w',?_,hw⟩
 rw [Int.toNat_natCast]
end Go.Proofs.YtfgbbckfikiomaaGreatDoor
/- The limits that parts give: package nest, reference 14. Condition: none. -/
namespace Go.Proofs.YtfgbbckfikiomaaGreatDoor
set_option linter.unusedVariables false
open Go Go.VC
variable {R:Cx} {Hs Rest:List HP} {w:World}
theorem _root_.Go.VC.Ro.ixF {xs:List Nat} {s:Sl} {S:World→Prop} {i:Int} (hr:Ro R s (xs.map (Value.float .f64))) (hS:∀ w,S w→Sat R Hs w) (j:Nat) (hi:i=j) (hj:j<xs.length) {F:Nat→Prop} (h:F xs[j]):
  Rng i s.len (NilP s.a fun a=>∃ t:Nat,(At S (a.add i.toNat) [.float .f64 t])∧F t):=by
 subst hi
 obtain ⟨a,ha,hat⟩:=hr.addr (k:=j) (by rw [List.length_map];exact hj)
 have hl:=hr.len
 rw [List.length_map] at hl
 exact Rng.mk (by omega) (by omega) (NilP.mk ha ⟨_,by have:=hat hS;rw [List.getElem_map] at this;exact this,h⟩)
def limGo (s:Int):Int→List Nat→List Int
 |_,[]=>[]
 |last,x::xs=>(if last<(levelT x s).1 then last else (levelT x s).1)::limGo s (if last<(levelT x s).1 then last else (levelT x s).1) xs
def limitsT (s:Int) (parts:List Nat):List Int × Int:=if s<0∨s>10000∨parts.length<1∨parts.length>8 then ([],1) else (s::limGo s s parts.tail,0)
theorem limGo_len (s:Int):∀ (xs:List Nat) (last:Int),(limGo s last xs).length=xs.length
 |[],_=>rfl
 |x::xs,last=>by simp [limGo,limGo_len s xs]
theorem limGo_snoc (s:Int):∀ (xs:List Nat) (last:Int) (x:Nat),limGo s last (xs++[x])=limGo s last xs++
  [if (last::limGo s last xs).getD xs.length 0<(levelT x s).1 then (last::limGo s last xs).getD xs.length 0 else (levelT x s).1]
 |[],last,x=>by simp [limGo]
 |y::xs,last,x=>by
  simp only [List.cons_append,limGo,limGo_snoc s xs,List.length_cons,List.getD_cons_succ]
abbrev flts (l:List Nat):List Value:=l.map (Value.float .f64)
abbrev intsI (l:List Int):List Value:=l.map (Value.int .i64)
theorem limits_spec {s:Int} {sp:Sl} {parts:List Nat} (hp:SlR R.m sp (flts parts)) (hw:Sat R Hs w):
  Gets Tryz.prog 177 #[.int .i64 s,.slice sp.a sp.len sp.cap] w fun v w'=>∃ t:Sl,v=.tuple #[.slice t.a t.len t.cap,.int .i64 (limitsT s parts).2]∧Sat R (Own t 3 (intsI (limitsT s parts).1)::Hs) w':=by
 have hlen:=hp.len
 rw [List.length_map] at hlen
 have bad:(s<0∨s>10000∨parts.length<1∨parts.length>8)→∀ w,Sat R Hs w→∃ t:Sl,Value.tuple #[.slice none 0 0,.int .i64 1]=.tuple #[.slice t.a t.len t.cap,.int .i64 (limitsT s parts).2]∧Sat R (Own t 3 (intsI (limitsT s parts).1)::Hs) w:=fun h w hw=>by
  unfold limitsT;rw [if_pos h];exact ⟨⟨none,0,0⟩,rfl,Own.nil hw⟩
 apply call177
 refine ⟨fun w=>(0≤s∧s≤10000∧1≤parts.length∧parts.length≤8)∧Sat R Hs w,?_,?_⟩
 ·refine (within_spec hw).use ?_
  rintro _ w ⟨rfl,hw⟩
  unfold inR
  refine ⟨_,rfl,Br.nd (fun h=>bad (by omega) _ hw) (fun h1=>Br.d (fun h=>bad (by omega) _ hw) (fun h2=>Br.d (fun h=>bad (by omega) _ hw) (fun h3=>⟨⟨by omega,by omega,by omega,by omega⟩,hw⟩)))⟩
 clear hw
 rintro _ w ⟨⟨h1,h2,h3,h4⟩,hw⟩
 have e:limitsT s parts=(s::limGo s s parts.tail,0):=by unfold limitsT;rw [if_neg (by omega)]
 rw [e]
 clear bad
 refine new_rule hw fun b w hw=>⟨by omega,by omega,?_⟩
 have hw:Sat R (Own ⟨some ⟨b,0,none⟩,1,1⟩ 3 (intsI [s])::Hs) w:=own_lit hw
 have hd:=(hp.drop (k:=1) (by rw [List.length_map];omega)).ro (by rw [List.length_drop,List.length_map];omega)
 have hdl:(flts parts).drop 1=flts parts.tail:=by simp [flts,List.drop_one,List.map_tail]
 rw [hdl] at hd
 have htl:parts.tail.length=parts.length - 1:=List.length_tail
 have hslen:(sp.len - Int.toNat 1:Nat)=parts.tail.length:=by rw [htl];show sp.len - 1=_;omega
 refine ⟨fun so i w=>∃ j:Nat,i=j∧j≤parts.tail.length∧Sat R (Own so 3 (intsI (s::limGo s s (parts.tail.take j)))::Hs) w,fun _ i _=>parts.tail.length - i.toNat,⟨0,rfl,by omega,hw⟩,?_⟩
 clear hw
 rintro _ so _ w ⟨j,rfl,hj,hw⟩
 refine Br.d (fun h=>?_) (fun h=>?_)
 ·have hj2:j<parts.tail.length:=by omega
  refine Ro.ixF hd (eqS hw) j rfl hj2 ?_
  refine (level_spec hw).use ?_
  rintro _ w ⟨rfl,hw⟩
  refine ⟨_,_,rfl,?_⟩
  have hl:(s::limGo s s (parts.tail.take j)).length=j + 1:=by rw [List.length_cons,limGo_len,List.length_take];omega
  refine Own.ix hw (eqS hw) j rfl (by omega) ?_
  refine pushI_rule elI8 hw (by omega) fun so' w hw=>?_
  rw [wrap64 (by omega) (by omega)]
  refine ⟨⟨j + 1,by omega,by omega,?_⟩,by dsimp only;omega⟩
  rw [List.take_add_one,List.getElem?_eq_getElem hj2]
  simp only [Option.toList_some]
  rw [limGo_snoc,List.length_take,show min j parts.tail.length=j by omega,getD_lt (by omega)]
  exact hw
 ·rw [List.take_of_length_le (by omega)] at hw
  exact ⟨so,rfl,hw⟩
theorem limGo_ok (s:Int) (h0:0≤s) (h1:s≤10000):∀ (xs:List Nat) (last:Int),0≤last→last≤10000→∀ k (h:k<(limGo s last xs).length),(0≤(limGo s last xs)[k]∧(limGo s last xs)[k]≤10000)∧(limGo s last xs)[k]≤(last::limGo s last xs).getD k 0
 |[],last,_,_,k,h=>by simp [limGo] at h
 |x::xs,last,a,b,k,h=>by
  have hlv:0≤(levelT x s).1:=by
   unfold levelT
   split
   ·simp
   ·split
    ·simp
    ·split
     ·exact h0
     ·simp
  rcases k with _|k
  ·simp only [limGo,List.getElem_cons_zero,List.getD_cons_zero]
   split<;>omega
  ·simp only [limGo,List.getElem_cons_succ,List.getD_cons_succ]
   exact limGo_ok s h0 h1 xs _ (by split<;>omega) (by split<;>omega) k (by simpa [limGo] using h)
theorem limits_ok {s:Int} {parts:List Nat} (h:(limitsT s parts).2=0):limOk (limitsT s parts).1=true∧(limitsT s parts).1.getD 0 0=s:=by
 unfold limitsT at *
 split at h
 ·simp at h
 ·rename_i hn
  rw [if_neg hn]
  refine ⟨limOk_iff.2 ⟨⟨by simp,?_⟩,fun k hk=>?_⟩,rfl⟩
  ·simp only [List.length_cons,limGo_len,List.length_tail];omega
  ·rcases k with _|k
   ·simp;omega
   ·have:=limGo_ok s (by omega) (by omega) parts.tail s (by omega) (by omega) k (by simpa using hk)
    simp only [List.getElem_cons_succ]
    exact ⟨this.1,fun _=>by rw [show k + 1 - 1=k by omega];exact this.2⟩
end Go.Proofs.YtfgbbckfikiomaaGreatDoor
/- Sorted numbers: package slices. Condition: none. -/
namespace Go.Proofs.YtfgbbckfikiomaaGreatDoor
set_option linter.unusedVariables false
open Go Go.VC
variable {R:Cx} {Hs Rest:List HP} {w:World}
def Rise (l:List Int):Prop:=∀ i j (hj:j<l.length),(hij:i<j)→l[i]<l[j]
def insS (n:Int):List Int→List Int
 |[]=>[n]
 |x::l=>if x<n then x::insS n l else n::x::l
end Go.Proofs.YtfgbbckfikiomaaGreatDoor



/- SL, part 17: maps whose keys are ints; memory that is only read, several pieces of it lent at once. No condition. -/
namespace Go.VC
set_option linter.unusedVariables false
variable {P:Program} {R R' R'':Cx} {Hs Rest:List HP} {w:World} {s:Sl} {T:TypeId}
instance:KeyK Int where
 enc:=Value.int .i64
 desc:=.int .i64
 same a b:=by
  show (if IntKind.i64=IntKind.i64 then some (a==b) else none)=some (a==b)
  rw [if_pos rfl]
 bits a:=by
  have:∀ n,Instr.sameBits n (.int .i64 a) (.int .i64 a)=(IntKind.i64==IntKind.i64 && a==a):=fun n=>by cases n<;>rfl
  rw [this];simp
 eq a b h:=beq_iff_eq.1 h
 check P em K a w h:=by
  show (Instr.checkKey em (9999 + 1) K (.int .i64 a)).run P w=_
  unfold Instr.checkKey
  simp [run_underlying h]
theorem Reads.out {xs:List Value} (h:Sat R (Reads s xs::Hs) w):∃ R',R.Ext R'∧SlR R'.m s xs∧Sat R' Hs w∧∀ Hs' w',Sat R' Hs' w'→Sat R (Reads s xs::Hs') w':=by
 obtain ⟨x,hd,hs,hw,hx⟩:=Reads.lend h
 exact ⟨R.add x,Cx.Ext.add,hs,hw,fun Hs' w' h=>Reads.back hd hx h⟩
end Go.VC
/- A flight in memory. Condition: none. -/
namespace Go.Proofs.YtfgbbckfikiomaaGreatDoor
set_option linter.unusedVariables false
open Go Go.VC
variable {R:Cx} {Hs Rest:List HP} {w:World}
structure Hold where
 owner:Int
 cls:Int
 many:Int
 seats:List Int
structure PF where
 num:Int
 rows:Int
 grps:List Int
 lims:List Int
 sold:List Int
 hs:List (Int × Hold)
 own:List (Int × Int)
abbrev hCells (h:Hold) (s:Sl):Obj:=.cells [.int .i64 h.owner,.int .i64 h.cls,.int .i64 h.many,.slice s.a s.len s.cap].toArray 176 (0,0)
def HoldAt (b:Nat) (h:Hold):HP:=exs fun s:Sl=>Star [pts b (hCells h s),Own s 3 (intsI h.seats)]
abbrev HE:=Int × Nat × Hold
def HoldsAt (E:List HE):HP:=Star (E.map fun e=>HoldAt e.2.1 e.2.2)
abbrev hPtrs (E:List HE):List (Int × Value):=E.map fun e=>(e.1,.pointer (some ⟨e.2.1,0,none⟩))
abbrev hEr (E:List HE):List (Int × Hold):=E.map fun e=>(e.1,e.2.2)
abbrev oVals (l:List (Int × Int)):List (Int × Value):=l.map fun e=>(e.1,.int .i64 e.2)
abbrev fCells (f:PF) (sg sl ss:Sl) (hm om:Nat):Obj:=
 .cells [.int .i64 f.num,.int .i64 f.rows,.slice sg.a sg.len sg.cap,.slice sl.a sl.len sl.cap,.slice ss.a ss.len ss.cap,.map (some hm),.map (some om)].toArray 174 (0,0)
abbrev FO (p hm om:Nat) (sg sl ss:Sl) (E:List HE) (f:PF) (Hs:List HP):List HP:=
 pts p (fCells f sg sl ss hm om)::MapAt hm (hPtrs E)::MapAt om (oVals f.own)::HoldsAt E::Hs
structure FX where
 hm:Nat
 om:Nat
 sg:Sl
 sl:Sl
 ss:Sl
 E:List HE
def FlightAt (p:Nat) (f:PF):HP:=exs fun x:FX=>
 Star [pur (hEr x.E=f.hs),Reads x.sg (intsI f.grps),Reads x.sl (intsI f.lims),Reads x.ss (intsI f.sold),pts p (fCells f x.sg x.sl x.ss x.hm x.om),MapAt x.hm (hPtrs x.E),MapAt x.om (oVals f.own),HoldsAt x.E]
theorem Sat.flight {p:Nat} {f:PF}:Sat R (FlightAt p f::Hs) w↔∃ hm om sg sl ss E,hEr E=f.hs∧Sat R (Reads sg (intsI f.grps)::Reads sl (intsI f.lims)::Reads ss (intsI f.sold)::FO p hm om sg sl ss E f Hs) w:=by
 unfold FlightAt
 rw [Sat.exs]
 constructor
 ·rintro ⟨⟨hm,om,sg,sl,ss,E⟩,h⟩
  obtain ⟨h1,h2⟩:=Sat.pur.1 (Sat.star.1 h)
  exact ⟨hm,om,sg,sl,ss,E,h1,h2⟩
 ·rintro ⟨hm,om,sg,sl,ss,E,h1,h2⟩
  exact ⟨⟨hm,om,sg,sl,ss,E⟩,Sat.star.2 (Sat.pur.2 ⟨h1,h2⟩)⟩
theorem Sat.flightO {p:Nat} {f:PF} (hw:Sat R (FlightAt p f::Hs) w):∃ hm om sg sl ss E R',hEr E=f.hs∧R.Ext R'∧SlR R'.m sg (intsI f.grps)∧SlR R'.m sl (intsI f.lims)∧SlR R'.m ss (intsI f.sold)∧Sat R' (FO p hm om sg sl ss E f Hs) w∧
  ∀ Hs' w',Sat R' Hs' w'→Sat R (Reads sg (intsI f.grps)::Reads sl (intsI f.lims)::Reads ss (intsI f.sold)::Hs') w':=by
 obtain ⟨hm,om,sg,sl,ss,E,hE,hw⟩:=Sat.flight.1 hw
 obtain ⟨R1,e1,g1,hw,b1⟩:=Reads.out hw
 obtain ⟨R2,e2,g2,hw,b2⟩:=Reads.out hw
 obtain ⟨R3,e3,g3,hw,b3⟩:=Reads.out hw
 exact ⟨hm,om,sg,sl,ss,E,R3,hE,e1.trans (e2.trans e3),e3.slR (e2.slR g1),e3.slR g2,g3,hw,fun Hs' w' h=>b1 _ _ (b2 _ _ (b3 _ _ h))⟩
theorem Sat.flightC {p hm om:Nat} {sg sl ss:Sl} {E:List HE} {f:PF} (hE:hEr E=f.hs) (hw:Sat R (Reads sg (intsI f.grps)::Reads sl (intsI f.lims)::Reads ss (intsI f.sold)::FO p hm om sg sl ss E f Hs) w):Sat R (FlightAt p f::Hs) w:=
 Sat.flight.2 ⟨hm,om,sg,sl,ss,E,hE,hw⟩
theorem Sat.hold {b:Nat} {h:Hold}:Sat R (HoldAt b h::Hs) w↔∃ s:Sl,Sat R (pts b (hCells h s)::Own s 3 (intsI h.seats)::Hs) w:=by
 unfold HoldAt
 rw [Sat.exs]
 exact ⟨fun ⟨s,h⟩=>⟨s,Sat.star.1 h⟩,fun ⟨s,h⟩=>⟨s,Sat.star.2 h⟩⟩
theorem Sat.holds {a b:List HE} {e:HE}:Sat R (HoldsAt (a++e::b)::Hs) w↔Sat R (HoldAt e.2.1 e.2.2::HoldsAt (a++b)::Hs) w:=by
 have p:((a++e::b).map fun e:HE=>HoldAt e.2.1 e.2.2).Perm (HoldAt e.2.1 e.2.2::(a++b).map fun e:HE=>HoldAt e.2.1 e.2.2):=by
  rw [List.map_append,List.map_cons,List.map_append];exact List.perm_middle
 unfold HoldsAt
 constructor
 ·intro h
  have h1:=(Sat.star.1 h).perm (p.append_right Hs)
  exact h1.cons fun _ h=>Sat.star.2 h
 ·intro h
  have h1:Sat R ((HoldAt e.2.1 e.2.2::(a++b).map fun e:HE=>HoldAt e.2.1 e.2.2)++Hs) w:=h.cons fun _ h=>Sat.star.1 h
  exact Sat.star.2 (h1.perm (p.symm.append_right Hs))
end Go.Proofs.YtfgbbckfikiomaaGreatDoor
/- A flight: seats told, names, reading. Condition: bounds on lengths. -/
namespace Go.Proofs.YtfgbbckfikiomaaGreatDoor
set_option linter.unusedVariables false
open Go Go.VC
variable {R:Cx} {Hs Rest:List HP} {w:World}
def Hold.put (h:Hold) (n:Int):Hold:={ h with seats:=insS n h.seats }
theorem elStr:El Tryz.prog 29 29 9 16:=⟨Tryz.underlying29,⟨_,Tryz.underlying29⟩,by kernel_rfl⟩
theorem oneAll_str (l:List ByteArray):oneAll (l.map Value.string)=true:=by unfold oneAll;simp [Value.oneCell']
end Go.Proofs.YtfgbbckfikiomaaGreatDoor
/- A flight: a new one. Condition: bounds on lengths. -/
namespace Go.Proofs.YtfgbbckfikiomaaGreatDoor
set_option linter.unusedVariables false
open Go Go.VC
variable {R:Cx} {Hs Rest:List HP} {w:World}
theorem map_rule {K:Nat→World→Prop} (hw:Sat R Hs w) (k:∀ m w',Sat R (MapAt (α:=Int) m []::Hs) w'→K m w'):New (.map #[] 0) K w:=
 new_rule hw fun m w hw=>k m w (MapAt.new rfl hw)
theorem zer_rule {n:Nat} {K:Sl→World→Prop} (hn:n≤1000) (hw:Sat R Hs w) (k:∀ s w',Sat R (Own s 3 (intsI (List.replicate n 0))::Hs) w'→K s w'):
  ∃ w',∃ t:Sl,(Instr.makeSlice 28 (.int .i64 (n:Int)) (.int .i64 (n:Int))).run Tryz.prog w=.ok (.slice t.a t.len t.cap) w'∧K t w':=
 make_rule (bytes:=8) (z:=.int .i64 0) Tryz.underlying28 (by kernel_rfl) Tryz.zeroValue3 rfl (by omega) (by omega) hw fun s w hw=>k s w (by
  rw [show intsI (List.replicate n 0)=List.replicate n (.int .i64 0) by simp [intsI]];exact hw)
def emptyF (num rows:Int) (grps lims:List Int):PF:=⟨num,rows,grps,lims,List.replicate lims.length 0,[],[]⟩
theorem empty_spec {num rows:Int} {sg sl:Sl} {grps lims:List Int} (hl:lims.length≤1000) (hw:Sat R (Reads sg (intsI grps)::Reads sl (intsI lims)::Hs) w):
  Gets Tryz.prog 159 #[.int .i64 num,.agg #[.int .i64 rows,.slice sg.a sg.len sg.cap],.slice sl.a sl.len sl.cap] w fun v w'=>∃ p,v=.pointer (some ⟨p,0,none⟩)∧Sat R (FlightAt p (emptyF num rows grps lims)::Hs) w':=by
 have hlen:sl.len=lims.length:=by
  obtain ⟨_,_,h,_⟩:=Reads.out hw.swap
  have:=h.len
  rw [List.length_map] at this;exact this
 apply call159
 refine new_rule hw fun b4 w hw=>?_
 have hw:Sat R (pts b4 (layC rows sg)::Reads sg (intsI grps)::Reads sl (intsI lims)::Hs) w:=hw
 refine drw_rule hw fun w hw=>?_
 rw [hlen]
 have fin:∀ {hm om:Nat} {ss:Sl} {w:World} (_:Sat R (MapAt (α:=Int) om []::MapAt (α:=Int) hm []::Own ss 3 (intsI (List.replicate lims.length 0))::pts b4 (layC rows sg)::Reads sg (intsI grps)::Reads sl (intsI lims)::Hs) w),
   New (.cells #[.int .i64 num,.int .i64 rows,.slice sg.a sg.len sg.cap,.slice sl.a lims.length sl.cap,.slice ss.a ss.len ss.cap,.map (some hm),.map (some om)] 174 (0,0))
    (fun p w=>Sat R (pts b4 (layC rows sg)::Reads sg (intsI grps)::Reads sl (intsI lims)::Hs) w∧∃ p',Value.pointer (some ⟨p,0,none⟩)=.pointer (some ⟨p',0,none⟩)∧Sat R (FlightAt p' (emptyF num rows grps lims)::Hs) w) w:=fun {hm om ss w} hw=>by
  refine new_rule hw fun p w hw=>⟨hw.drop.drop.drop.drop,p,rfl,?_⟩
  refine Sat.flight.2 ⟨hm,om,sg,sl,ss,[],rfl,?_⟩
  have ec:(Obj.cells #[.int .i64 num,.int .i64 rows,.slice sg.a sg.len sg.cap,.slice sl.a lims.length sl.cap,.slice ss.a ss.len ss.cap,.map (some hm),.map (some om)] 174 (0,0))=fCells (emptyF num rows grps lims) sg sl ss hm om:=by rw [←hlen];rfl
  rw [ec] at hw
  have hw:=(hw.take (pts b4 (layC rows sg))).drop
  have hw:=hw.take (Own ss 3 (intsI (List.replicate lims.length 0)))
  have hw:Sat R (Reads ss (intsI (List.replicate lims.length 0))::pts p (fCells (emptyF num rows grps lims) sg sl ss hm om)::MapAt (α:=Int) om []::MapAt (α:=Int) hm []::Reads sg (intsI grps)::Reads sl (intsI lims)::Hs) w:=Own.reads hw
  have h2:Sat R (HoldsAt []::Reads ss (intsI (List.replicate lims.length 0))::pts p (fCells (emptyF num rows grps lims) sg sl ss hm om)::MapAt (α:=Int) om []::MapAt (α:=Int) hm []::Reads sg (intsI grps)::Reads sl (intsI lims)::Hs) w:=Sat.star.2 hw
  have h3:=(((((((h2.take (HoldsAt [])).take (MapAt (α:=Int) om [])).take (MapAt (α:=Int) hm [])).take (pts p (fCells (emptyF num rows grps lims) sg sl ss hm om))).take (Reads ss (intsI (List.replicate lims.length 0)))).take (Reads sl (intsI lims))).take (Reads sg (intsI grps)))
  exact h3
 refine ⟨rows,sg,At.own selfS (by exact ⟨rfl,rfl,trivial⟩),?_,?_,?_⟩
 ·refine zer_rule hl hw fun ss w hw=>⟨hw.drop,?_,?_⟩
  ·refine map_rule hw fun hm w hw=>⟨hw.drop.drop,map_rule hw fun om w hw=>⟨hw.drop.drop.drop,fin hw⟩⟩
  ·refine map_rule hw fun om w hw=>⟨hw.drop.drop,map_rule hw fun hm w hw=>⟨hw.drop.drop.drop,fin hw.swap⟩⟩
 ·refine map_rule hw fun hm w hw=>⟨hw.drop,?_,?_⟩
  ·refine zer_rule hl hw fun ss w hw=>⟨hw.drop.drop,map_rule hw fun om w hw=>⟨hw.drop.drop.drop,fin ((hw.take (MapAt (α:=Int) hm [])).take (MapAt (α:=Int) om []))⟩⟩
  ·refine map_rule hw fun om w hw=>⟨hw.drop.drop,zer_rule hl hw fun ss w hw=>⟨hw.drop.drop.drop,fin ((hw.take (MapAt (α:=Int) hm [])).take (MapAt (α:=Int) om []))⟩⟩
 ·refine map_rule hw fun om w hw=>⟨hw.drop,?_,?_⟩
  ·refine zer_rule hl hw fun ss w hw=>⟨hw.drop.drop,map_rule hw fun hm w hw=>⟨hw.drop.drop.drop,fin ((hw.take (MapAt (α:=Int) hm [])).take (MapAt (α:=Int) om []))⟩⟩
  ·refine map_rule hw fun hm w hw=>⟨hw.drop.drop,zer_rule hl hw fun ss w hw=>⟨hw.drop.drop.drop,fin ((hw.take (MapAt (α:=Int) hm [])).take (MapAt (α:=Int) om []))⟩⟩
end Go.Proofs.YtfgbbckfikiomaaGreatDoor
/- A flight: New, Take. Condition: bounds on lengths. -/
namespace Go.Proofs.YtfgbbckfikiomaaGreatDoor
set_option linter.unusedVariables false
open Go Go.VC
variable {R:Cx} {Hs Rest:List HP} {w:World}
def newOk (num rows:Int) (grps:List Int) (parts:List Nat):Prop:=1≤num∧num≤9999∧layOk rows grps=true∧(limitsT (layN rows grps) parts).2=0
theorem limits_len {s:Int} {parts:List Nat}:(limitsT s parts).1.length≤8:=by
 unfold limitsT
 split
 ·simp
 ·simp only [List.length_cons,limGo_len,List.length_tail];omega
theorem fnew_spec' {num rows:Int} {sg sp:Sl} {grps:List Int} {parts:List Nat} (hg:RoI R sg grps) (hp:SlR R.m sp (flts parts)) (hw:Sat R Hs w):
  Gets Tryz.prog 109 #[.int .i64 num,.agg #[.int .i64 rows,.slice sg.a sg.len sg.cap],.slice sp.a sp.len sp.cap] w fun v w'=>
   (¬ newOk num rows grps parts∧v=.tuple #[.pointer none,.int .i64 1]∧Sat R Hs w')∨
   (newOk num rows grps parts∧∃ p,v=.tuple #[.pointer (some ⟨p,0,none⟩),.int .i64 0]∧Sat R (FlightAt p (emptyF num rows grps (limitsT (layN rows grps) parts).1)::Hs) w'):=by
 apply call109
 refine new_rule hw fun b4 w hw=>?_
 have hw:Sat R (pts b4 (layC rows sg)::Hs) w:=hw
 refine ⟨rows,sg,At.own (eqS hw) (by exact ⟨rfl,rfl,trivial⟩),?_⟩
 refine (count_spec hg hw).use ?_
 rintro _ w ⟨rfl,hw⟩
 refine ⟨_,rfl,?_⟩
 refine (limits_spec hp hw).use ?_
 rintro _ w ⟨t,rfl,hw⟩
 have bad:¬ newOk num rows grps parts→∀ {w},Sat R (Own t 3 (intsI (limitsT (layN rows grps) parts).1)::pts b4 (layC rows sg)::Hs) w→(¬ newOk num rows grps parts∧Value.tuple #[.pointer none,.int .i64 1]=.tuple #[.pointer none,.int .i64 1]∧Sat R Hs w)∨
   (newOk num rows grps parts∧∃ p,Value.tuple #[.pointer none,.int .i64 1]=.tuple #[.pointer (some ⟨p,0,none⟩),.int .i64 0]∧Sat R (FlightAt p (emptyF num rows grps (limitsT (layN rows grps) parts).1)::Hs) w):=fun h w hw=>.inl ⟨h,rfl,hw.drop.drop⟩
 refine ⟨_,_,rfl,Br.d (fun h=>bad (fun h2=>by have:=h2.1;omega) hw) (fun h1=>Br.d (fun h=>bad (fun h2=>by have:=h2.2.1;omega) hw) (fun h2=>?_))⟩
 refine ⟨rows,sg,At.own (eqS hw) (by exact ⟨rfl,rfl,trivial⟩),?_⟩
 refine (right_spec hg hw).use ?_
 rintro _ w ⟨rfl,hw⟩
 refine ⟨_,rfl,Br.nb (fun h=>bad (fun h2=>by have h5:=h2.2.2.1;rw [h] at h5;cases h5) hw) (fun h3=>Br.ne (fun h=>bad (fun h2=>h h2.2.2.2) hw) (fun h4=>?_))⟩
 refine ⟨sg,At.own (eqS hw) (by exact ⟨rfl,trivial⟩),?_⟩
 obtain ⟨l1,_,_⟩:=layOk_iff.1 h3
 refine (cloneI_spec hg (by omega) hw).use ?_
 rintro _ w ⟨tg,rfl,hw⟩
 refine ⟨tg,rfl,?_⟩
 refine store_rule hw (by kernel_rfl) rfl (by simp [Value.cells]) fun w hw=>?_
 have hw:Sat R (pts b4 (layC rows tg)::Own tg 3 (intsI grps)::Own t 3 (intsI (limitsT (layN rows grps) parts).1)::Hs) w:=hw
 refine ⟨rows,tg,At.own (eqS hw) (by exact ⟨rfl,rfl,trivial⟩),?_⟩
 have hw:Sat R (Reads tg (intsI grps)::Reads t (intsI (limitsT (layN rows grps) parts).1)::Hs) w:=Sat.cons (fun _ h=>Own.reads h) (Own.reads hw.drop)
 refine (empty_spec (by have:=limits_len (s:=layN rows grps) (parts:=parts);omega) hw).use ?_
 rintro _ w ⟨p,rfl,hw⟩
 exact ⟨_,rfl,.inr ⟨⟨by omega,by omega,h3,h4⟩,p,rfl,hw⟩⟩
def takeF (f:PF) (owner cls many:Int):PF × Int:=
 if owner<1∨owner>28629151 then (f,1) else if (getM owner f.hs).isSome then (f,7)
 else if (sellT f.lims f.sold cls many).2=0 then ({ f with sold:=(sellT f.lims f.sold cls many).1,hs:=f.hs++[(owner,⟨owner,cls,many,[]⟩)] },0) else (f,(sellT f.lims f.sold cls many).2)
end Go.Proofs.YtfgbbckfikiomaaGreatDoor
/- A flight: Seat, Labels. Condition: bounds on lengths. -/
namespace Go.Proofs.YtfgbbckfikiomaaGreatDoor
set_option linter.unusedVariables false
open Go Go.VC
variable {R:Cx} {Hs Rest:List HP} {w:World}
abbrev FO1 (p hm om b:Nat) (sg sl ss s:Sl) (E Er:List HE) (f:PF) (h:Hold) (own:List (Int × Int)) (Hs:List HP):List HP:=
 pts b (hCells h s)::Own s 3 (intsI h.seats)::HoldsAt Er::pts p (fCells f sg sl ss hm om)::MapAt hm (hPtrs E)::MapAt om (oVals own)::Hs
theorem FO.open {p hm om b:Nat} {sg sl ss:Sl} {a c:List HE} {k:Int} {h:Hold} {f:PF} (hw:Sat R (FO p hm om sg sl ss (a++(k,b,h)::c) f Hs) w):∃ s,Sat R (FO1 p hm om b sg sl ss s (a++(k,b,h)::c) (a++c) f h f.own Hs) w:=
 Sat.hold.1 (Sat.holds.1 (hw.take (HoldsAt (a++(k,b,h)::c))))
theorem FO.close {p hm om b:Nat} {sg sl ss s:Sl} {a c:List HE} {k:Int} {h h':Hold} {f:PF} {own:List (Int × Int)} (hw:Sat R (FO1 p hm om b sg sl ss s (a++(k,b,h)::c) (a++c) f h' own Hs) w):
  Sat R (FO p hm om sg sl ss (a++(k,b,h')::c) { f with own:=own } Hs) w:=by
 have hw:=(Sat.hold (b:=b) (h:=h')).2 ⟨s,hw⟩
 have hw:=(Sat.holds (e:=((k,b,h'):HE)) (a:=a) (b:=c)).2 hw
 have e:hPtrs (a++(k,b,h')::c)=hPtrs (a++(k,b,h)::c):=by simp [hPtrs]
 show Sat R (pts p (fCells f sg sl ss hm om)::MapAt hm (hPtrs (a++(k,b,h')::c))::MapAt om (oVals own)::HoldsAt (a++(k,b,h')::c)::Hs) w
 rw [e]
 exact ((hw.take (MapAt om (oVals own))).take (MapAt hm (hPtrs (a++(k,b,h)::c)))).take (pts p (fCells f sg sl ss hm om))
end Go.Proofs.YtfgbbckfikiomaaGreatDoor
/- A flight: Labels, Unseat. Condition: bounds on lengths. -/
namespace Go.Proofs.YtfgbbckfikiomaaGreatDoor
set_option linter.unusedVariables false
open Go Go.VC
variable {R:Cx} {Hs Rest:List HP} {w:World}
def Hold.cut (h:Hold) (n:Int):Hold:={ h with seats:=h.seats.filter fun x=>!(x==n) }
end Go.Proofs.YtfgbbckfikiomaaGreatDoor
/- A flight: Left, Give. Condition: bounds on lengths. -/
namespace Go.Proofs.YtfgbbckfikiomaaGreatDoor
set_option linter.unusedVariables false
open Go Go.VC
variable {R:Cx} {Hs Rest:List HP} {w:World}
def leftsF (f:PF):List Int:=(List.range f.lims.length).map fun (k:Nat)=>(leftT f.lims f.sold k).1
def leftsTo (f:PF) (j:Nat):List Int:=(List.range f.lims.length).map fun (k:Nat)=>if k<j then (leftT f.lims f.sold k).1 else 0
theorem leftsTo_set (f:PF) {j:Nat} (h:j<f.lims.length):(leftsTo f j).set j (leftT f.lims f.sold j).1=leftsTo f (j + 1):=by
 apply List.ext_getElem
 ·simp [leftsTo]
 ·intro i h1 h2
  simp only [leftsTo,List.length_set,List.length_map,List.length_range] at h1 h2
  rw [List.getElem_set]
  simp only [leftsTo,List.getElem_map,List.getElem_range]
  split
  ·rename_i h3;subst h3;rw [if_pos (by omega)]
  ·by_cases h4:i<j
   ·rw [if_pos h4,if_pos (by omega)]
   ·rw [if_neg h4,if_neg (by omega)]
theorem left_fspec {p:Nat} {f:PF} (hl:f.lims.length≤1000) (hs:f.sold.length≤1000) (hw:Sat R (FlightAt p f::Hs) w):
  Gets Tryz.prog 58 #[.pointer (some ⟨p,0,none⟩)] w fun v w'=>∃ t:Sl,v=.slice t.a t.len t.cap∧Sat R (Own t 3 (intsI (leftsF f))::FlightAt p f::Hs) w':=by
 obtain ⟨hm,om,sg,sl,ss,E,R',hE,_,_,rl,rs,hw,back⟩:=Sat.flightO hw
 have hsl:sl.len=f.lims.length:=by have:=rl.len;rw [List.length_map] at this;exact this
 apply call58
 refine NilP.mk rfl ⟨sl,At.own (eqS hw) (by exact ⟨rfl,trivial⟩),?_⟩
 rw [hsl]
 refine zer_rule hl hw fun t w hw=>?_
 have e0:List.replicate f.lims.length (0:Int)=leftsTo f 0:=by
  apply List.ext_getElem
  ·simp [leftsTo]
  ·intro i h1 h2;simp [leftsTo]
 rw [e0] at hw
 refine ⟨fun i w=>∃ j:Nat,i=j∧j≤f.lims.length∧Sat R' (Own t 3 (intsI (leftsTo f j))::FO p hm om sg sl ss E f Hs) w,fun i _=>f.lims.length - i.toNat,⟨0,rfl,by omega,hw⟩,?_⟩
 clear hw
 rintro _ _ w ⟨j,rfl,hj,hw⟩
 have htl:=Own.len hw
 simp only [leftsTo,List.length_map,List.length_range] at htl
 refine Br.d (fun h=>?_) (fun h=>?_)
 ·have hj2:j<f.lims.length:=by omega
  refine drw_rule hw fun w hw=>?_
  refine NilP.mk rfl ⟨sl,At.own selfS (by exact ⟨rfl,trivial⟩),NilP.mk rfl ⟨ss,At.own selfS (by exact ⟨rfl,trivial⟩),?_⟩⟩
  refine (left_spec (rl.ro (by rw [List.length_map];omega)) (rs.ro (by rw [List.length_map];omega)) hw).use ?_
  rintro _ w ⟨rfl,hw⟩
  refine ⟨_,_,rfl,?_⟩
  refine Own.store (by kernel_rfl) hw (by simp [leftsTo];exact hj2) fun w hw=>?_
  rw [leftsTo_set f hj2] at hw
  rw [wrap64 (by omega) (by omega)]
  exact ⟨⟨j + 1,by omega,by omega,hw⟩,by dsimp only;omega⟩
 ·obtain rfl:j=f.lims.length:=by omega
  have e1:leftsTo f f.lims.length=leftsF f:=by
   unfold leftsTo leftsF
   refine List.map_congr_left fun k hk=>?_
   rw [if_pos (List.mem_range.1 hk)]
  rw [e1] at hw
  refine ⟨t,rfl,?_⟩
  have hw:=back _ _ hw
  exact Sat.cons (fun _ h5=>Sat.flightC hE h5) (hw.take (Own t 3 (intsI (leftsF f))))
end Go.Proofs.YtfgbbckfikiomaaGreatDoor


/- The keys of a map of ints, by the library's calls. Condition: bounds. -/
namespace Go.Proofs.YtfgbbckfikiomaaGreatDoor
set_option linter.unusedVariables false
open Go Go.VC
variable {R:Cx} {Hs Rest:List HP} {w:World}
def sortI (l:List Int):List Int:=l.mergeSort fun x y=>decide (x≤y)
end Go.Proofs.YtfgbbckfikiomaaGreatDoor

/- Reference 15: putting a seat; whether two answers are the same. Condition: bounds. -/
namespace Go.Proofs.YtfgbbckfikiomaaGreatDoor
set_option linter.unusedVariables false
open Go Go.VC
variable {R:Cx} {Hs Rest:List HP} {w:World}
theorem sameI_spec {s t:Sl} {a b:List Int} (hs:RoI R s a) (ht:RoI R t b) (hw:Sat R Hs w):
  Gets Tryz.prog 60 #[.slice s.a s.len s.cap,.slice t.a t.len t.cap] w fun v w'=>v=.bool (decide (a=b))∧Sat R Hs w':=by
 have hsl:=hs.len
 have htl:=ht.len
 have hbd:=hs.bound
 apply call60
 refine Br.ne (fun h=>⟨?_,hw⟩) (fun h=>?_)
 ·rw [decide_eq_false fun e=>h (by rw [hsl,htl,e])]
 have hl:a.length=b.length:=by omega
 refine ⟨fun i w=>∃ j:Nat,i=j∧j≤a.length∧a.take j=b.take j∧Sat R Hs w,fun i _=>a.length - i.toNat,⟨0,rfl,by omega,by simp,hw⟩,?_⟩
 clear hw
 rintro _ _ w ⟨j,rfl,hj,hn,hw⟩
 refine Br.d (fun h=>?_) (fun h=>?_)
 ·have hj2:j<a.length:=by omega
  have hj3:j<b.length:=by omega
  refine drw_rule hw fun w hw=>?_
  refine hs.idx selfS hj2 (ht.idx selfS hj3 ?_)
  refine Br.ne (fun h=>⟨?_,hw⟩) (fun h=>?_)
  ·rw [decide_eq_false];rintro rfl;exact h rfl
  ·rw [wrap64 (by omega) (by omega)]
   refine ⟨⟨j + 1,by omega,by omega,?_,hw⟩,by dsimp only;omega⟩
   rw [List.take_add_one,List.take_add_one,List.getElem?_eq_getElem hj2,List.getElem?_eq_getElem hj3,hn,h]
 ·rw [List.take_of_length_le (by omega),List.take_of_length_le (by omega)] at hn
  rw [decide_eq_true hn];exact ⟨rfl,hw⟩
abbrev strs (l:List ByteArray):List Value:=l.map Value.string
theorem sameT_spec {s t:Sl} {a b:List ByteArray} (hs:Ro R s (strs a)) (ht:Ro R t (strs b)) (hw:Sat R Hs w):
  Gets Tryz.prog 61 #[.slice s.a s.len s.cap,.slice t.a t.len t.cap] w fun v w'=>v=.bool (decide (a=b))∧Sat R Hs w':=by
 have hsl:=hs.len
 have htl:=ht.len
 have hbd:=hs.bound
 rw [List.length_map] at hsl htl hbd
 apply call61
 refine Br.ne (fun h=>⟨?_,hw⟩) (fun h=>?_)
 ·rw [decide_eq_false fun e=>h (by rw [hsl,htl,e])]
 have hl:a.length=b.length:=by omega
 refine ⟨fun i w=>∃ j:Nat,i=j∧j≤a.length∧a.take j=b.take j∧Sat R Hs w,fun i _=>a.length - i.toNat,⟨0,rfl,by omega,by simp,hw⟩,?_⟩
 clear hw
 rintro _ _ w ⟨j,rfl,hj,hn,hw⟩
 refine Br.d (fun h=>?_) (fun h=>?_)
 ·have hj2:j<a.length:=by omega
  have hj3:j<b.length:=by omega
  refine drw_rule hw fun w hw=>?_
  refine hs.idxStr selfS hj2 (ht.idxStr selfS hj3 ?_)
  refine Br.sne (fun h=>⟨?_,hw⟩) (fun h=>?_)
  ·rw [decide_eq_false];rintro rfl;exact h rfl
  ·rw [wrap64 (by omega) (by omega)]
   refine ⟨⟨j + 1,by omega,by omega,?_,hw⟩,by dsimp only;omega⟩
   rw [List.take_add_one,List.take_add_one,List.getElem?_eq_getElem hj2,List.getElem?_eq_getElem hj3,hn,h]
 ·rw [List.take_of_length_le (by omega),List.take_of_length_le (by omega)] at hn
  rw [decide_eq_true hn];exact ⟨rfl,hw⟩
end Go.Proofs.YtfgbbckfikiomaaGreatDoor
/- Reference 02 at this seat: numbers as bytes, a reader. Condition: bounds on lengths. -/
namespace Go.Proofs.YtfgbbckfikiomaaGreatDoor
set_option linter.unusedVariables false
open Go Go.VC
variable {R:Cx} {Hs Rest:List HP} {w:World}
theorem rnumber_spec {n:Nat} (hn:n<18446744073709551616) (hw:Sat R Hs w):
    Gets Tryz.prog 88 #[.int .u64 n] w fun v w'=>∃ t:Sl,v=.slice t.a t.len t.cap∧Sat R (Own t 5 (b8 (numB n))::Hs) w':=by
  apply call88
  have h8:=dig_len8 hn
  refine ⟨fun x out w=>∃ (m:Nat) (ds:List Int),x=m∧m≤n∧dig m++ds=dig n∧Sat R (Own out 5 (b8 ds)::Hs) w,fun x _ _=>x.toNat,⟨n,[],rfl,by omega,by simp,Own.nil hw⟩,?_⟩
  clear hw
  rintro _ _ out w ⟨m,ds,rfl,hm,he,hw⟩
  have hdl:ds.length≤8:=by rw [←he,List.length_append] at h8;omega
  refine Br.d (fun h=>?_) (fun h=>?_)
  · have e1:IntKind.u8.wrap ((m:Int).tmod 256)=((m % 256:Nat):Int):=by
      rw [show (m:Int).tmod 256=((m % 256:Nat):Int) from (Int.ofNat_tmod m 256).symm,wrapU8 (by omega) (by omega)]
    have e2:IntKind.u64.wrap ((m:Int).tdiv 256)=((m / 256:Nat):Int):=by
      rw [show (m:Int).tdiv 256=((m / 256:Nat):Int) from (Int.ofNat_tdiv m 256).symm,wrapU64 (by omega) (by omega)]
    rw [e1,e2]
    refine new_rule hw fun b w hw=>?_
    have hw:Sat R (Own ⟨some ⟨b,0,none⟩,1,1⟩ 5 (b8 [((m % 256:Nat):Int)])::Own out 5 (b8 ds)::Hs) w:=own_lit hw
    refine appendOO elB8 (s:=⟨some ⟨b,0,none⟩,1,1⟩) (n:=9) Tryz.underlying42 hw (by simp;omega) (by omega) (by omega) fun s' w hw=>?_
    refine ⟨⟨m / 256,[((m % 256:Nat):Int)]++ds,rfl,by omega,?_,hw.cons fun _ h=>h.drop⟩,by dsimp only;omega⟩
    rw [←List.append_assoc,←dig_pos (by omega)]
    exact he
  · have hm0:m=0:=by omega
    subst hm0
    rw [dig_zero,List.nil_append] at he
    have hol:out.len=ds.length:=by have:=Own.len hw;simpa using this
    have e1:IntKind.u8.wrap (out.len:Int)=((dig n).length:Int):=by rw [wrapU8 (by omega) (by omega),hol,he]
    rw [e1]
    refine new_rule hw fun b w hw=>?_
    have hw:Sat R (Own ⟨some ⟨b,0,none⟩,1,1⟩ 5 (b8 [((dig n).length:Int)])::Own out 5 (b8 ds)::Hs) w:=own_lit hw
    refine appendOO elB8 (s:=⟨some ⟨b,0,none⟩,1,1⟩) (n:=9) Tryz.underlying42 hw (by simp;omega) (by omega) (by omega) fun s' w hw=>?_
    have e2:numB n=[((dig n).length:Int)]++ds:=by rw [he];rfl
    rw [e2]
    exact ⟨s',rfl,hw.cons fun _ h=>h.drop⟩
theorem rtextB_spec {s:Sl} {bs:List Int} (hs:Ro R s (b8 bs)) (hl:bs.length≤1099511627776) (hw:Sat R Hs w):
    Gets Tryz.prog 72 #[.slice s.a s.len s.cap] w fun v w'=>∃ t:Sl,v=.slice t.a t.len t.cap∧Sat R (Own t 5 (b8 (textB bs))::Hs) w':=by
  have hlen:s.len=bs.length:=by have:=hs.len;simpa using this
  apply call72
  unfold B72
  rw [wrapU64 (by omega) (by omega),hlen]
  refine (rnumber_spec (by omega) hw).use ?_
  rintro _ w ⟨t,rfl,hw⟩
  refine ⟨t,rfl,?_⟩
  rw [←hlen]
  have hn:=numB_len (n:=bs.length) (by omega)
  refine appendRI elB8 (n:=1099511627790) Tryz.underlying42 hw hs (by omega) (by omega) (by omega) fun s2 w hw=>?_
  exact ⟨s2,rfl,hw⟩
abbrev rrCells (s:Sl) (n:Nat) (bad:Bool):Obj:=.cells [.slice s.a s.len s.cap,.int .i64 n,.bool bad].toArray 133 (0,0)
def RRdAt (r:Nat) (s:Sl) (bs:List Int) (rd:Rd):HP:=exs fun n:Nat=>Star [pur (n≤bs.length∧bs.drop n=rd.bs),pts r (rrCells s n rd.bad)]
theorem Sat.rrd {r:Nat} {s:Sl} {bs:List Int} {rd:Rd}:Sat R (RRdAt r s bs rd::Hs) w↔∃ n:Nat,(n≤bs.length∧bs.drop n=rd.bs)∧Sat R (pts r (rrCells s n rd.bad)::Hs) w:=by
  unfold RRdAt
  rw [Sat.exs]
  constructor
  · rintro ⟨n,h⟩
    have h:=Sat.star.1 h
    have h:Sat R (pur _::pts r _::Hs) w:=h
    rw [Sat.pur] at h
    exact ⟨n,h⟩
  · rintro ⟨n,h⟩
    exact ⟨n,Sat.star.2 (by show Sat R (pur _::pts r _::Hs) w;rw [Sat.pur];exact h)⟩
theorem p256 {a b:Nat} (h:a≤b):(256:Int) ^ a≤256 ^ b:=by
  rw [show (256:Int)=((256:Nat):Int) from rfl,←Int.natCast_pow,←Int.natCast_pow]
  exact Int.ofNat_le.2 (Nat.pow_le_pow_right (by omega) h)
def nextR (rd:Rd):Int × Bool × Int:=if rd.bad then (0,false,0) else match parse rd.bs with|some (n,neg,k)=>(n,neg,(k:Int))|none=>(0,false,0)
theorem rnext_spec {r:Nat} {s:Sl} {bs:List Int} {n:Nat} {bad:Bool} (hl:bs.length≤1099511627776) (hb:∀ x∈bs,0≤x∧x<256) (hs:SlR R.m s (b8 bs)) (hn:n≤bs.length) (hw:Sat R (pts r (rrCells s n bad)::Hs) w):
    Gets Tryz.prog 148 #[.pointer (some ⟨r,0,none⟩)] w fun v w'=>v=.tuple #[.int .u64 (nextR ⟨bs.drop n,bad⟩).1,.bool (nextR ⟨bs.drop n,bad⟩).2.1,.int .i64 (nextR ⟨bs.drop n,bad⟩).2.2]∧Sat R (pts r (rrCells s n bad)::Hs) w':=by
  have hlen:s.len=bs.length:=by have:=hs.len;simpa using this
  apply call148
  have no:nextR ⟨bs.drop n,bad⟩=(0,false,0)→∀ {w},Sat R (pts r (rrCells s n bad)::Hs) w→(Value.tuple #[.int .u64 0,.bool false,.int .i64 0]=.tuple #[.int .u64 (nextR ⟨bs.drop n,bad⟩).1,.bool (nextR ⟨bs.drop n,bad⟩).2.1,.int .i64 (nextR ⟨bs.drop n,bad⟩).2.2]∧Sat R (pts r (rrCells s n bad)::Hs) w):=fun e {w} hw=>by
    rw [e];exact ⟨rfl,hw⟩
  refine ⟨fun w=>(bad=false∧n<bs.length)∧Sat R (pts r (rrCells s n bad)::Hs) w,drw_rule hw fun w hw=>?_,?_⟩
  · refine NilP.mk rfl ⟨bad,At.own selfS (by exact ⟨rfl,trivial⟩),Br.mk (fun h=>no (by unfold nextR;rw [if_pos h]) hw) (fun h=>?_)⟩
    refine NilP.mk rfl ⟨n,At.own selfS (by exact ⟨rfl,trivial⟩),NilP.mk rfl ⟨s,At.own selfS (by exact ⟨rfl,trivial⟩),?_⟩⟩
    rw [hlen]
    refine Br.d (fun h2=>no ?_ hw) (fun h2=>⟨⟨h,by omega⟩,hw⟩)
    unfold nextR
    simp only
    rw [List.drop_eq_nil_of_le (by omega)]
    split<;>rfl
  clear hw
  rintro _ w ⟨⟨hbad,hlt⟩,hw⟩
  have hc:=hb bs[n] (List.getElem_mem _)
  have hd:bs.drop n=bs[n]::bs.drop (n + 1):=List.drop_eq_getElem_cons hlt
  have e0:IntKind.i64.wrap bs[n]=bs[n]:=wrap64 (by omega) (by omega)
  have nx:nextR ⟨bs.drop n,bad⟩=match parse (bs[n]::bs.drop (n + 1)) with|some (n,neg,k)=>(n,neg,(k:Int))|none=>(0,false,0):=by
    unfold nextR;rw [hbad,hd];rfl
  refine drw_rule hw fun w hw=>?_
  refine NilP.mk rfl ⟨s,At.own selfS (by exact ⟨rfl,trivial⟩),NilP.mk rfl ⟨n,At.own selfS (by exact ⟨rfl,trivial⟩),hs.ix selfS n rfl hlt ?_⟩⟩
  rw [e0]
  have hkn:0≤(if 16≤bs[n] then bs[n] - 16 else bs[n]):=by split<;>omega
  obtain ⟨k,hk⟩:=Int.eq_ofNat_of_zero_le hkn
  have hk2:(if 16≤bs[n] then bs[n] - 16 else bs[n]).toNat=k:=by rw [hk];rfl
  refine ⟨fun x w=>x=(k:Int)∧Sat R (pts r (rrCells s n bad)::Hs) w,Br.d (fun h=>⟨?_,hw⟩) (fun h=>⟨?_,hw⟩),?_⟩
  · rw [wrap64 (by omega) (by omega),←hk,if_pos (by omega)]
  · rw [←hk,if_neg (by omega)]
  clear hw
  rintro _ _ w ⟨rfl,hw⟩
  have dl:(bs.drop (n + 1)).length=bs.length - (n + 1):=List.length_drop
  have pno:¬ (bs[n]<32∧k≤8∧k≤(bs.drop (n + 1)).length∧(k=0→bs[n]=0)∧(k≠0→(bs.drop (n + 1)).head?≠some 0))→nextR ⟨bs.drop n,bad⟩=(0,false,0):=fun h=>by
    rw [nx];unfold parse;simp only [hk2];rw [if_neg h]
  have pyes:(bs[n]<32∧k≤8∧k≤(bs.drop (n + 1)).length∧(k=0→bs[n]=0)∧(k≠0→(bs.drop (n + 1)).head?≠some 0))→nextR ⟨bs.drop n,bad⟩=(valI 0 ((bs.drop (n + 1)).take k),decide (16≤bs[n]),((k + 1:Nat):Int)):=fun h=>by
    rw [nx];unfold parse;simp only [hk2];rw [if_pos h]
  refine ⟨fun w=>(bs[n]<32∧k≤8∧k≤(bs.drop (n + 1)).length∧(k=0→bs[n]=0)∧(k≠0→(bs.drop (n + 1)).head?≠some 0))∧Sat R (pts r (rrCells s n bad)::Hs) w,drw_rule hw fun w hw=>?_,?_⟩
  · refine Br.d (fun h=>no (pno fun h2=>by omega) hw) (fun h8=>?_)
    refine NilP.mk rfl ⟨n,At.own selfS (by exact ⟨rfl,trivial⟩),NilP.mk rfl ⟨s,At.own selfS (by exact ⟨rfl,trivial⟩),?_⟩⟩
    rw [wrap64 (x:=(n:Int) + 1) (by omega) (by omega),wrap64 (by omega) (by omega),hlen]
    refine Br.d (fun h=>no (pno fun h2=>by omega) hw) (fun hln=>?_)
    have h32:bs[n]<32:=by split at hk<;>omega
    have last:(k≠0∨bs[n]=0)→Br (decide ((k:Int)>0))
             (NilP (some ⟨r,0,none⟩) fun a_t70=>
              ∃ t72:Sl,(At (Sat R (pts r (rrCells s n bad)::Hs)) (Addr.add a_t70 0) [.slice t72.a t72.len t72.cap])∧
              NilP (some ⟨r,0,none⟩) fun a_t74=>
              ∃ t76:Int,(At (Sat R (pts r (rrCells s n bad)::Hs)) ⟨a_t74.block,a_t74.off + 1,none⟩ [.int .i64 t76])∧
              Rng (IntKind.i64.wrap (t76 + 1)) t72.len (NilP t72.a fun a_t78=>
              ∃ t79:Int,(At (Sat R (pts r (rrCells s n bad)::Hs)) (Addr.add a_t78 ((IntKind.i64.wrap (t76 + 1)).toNat)) [.int .u8 t79])∧
              Br (t79==0)
               (Value.tuple #[.int .u64 0,.bool false,.int .i64 0]=.tuple #[.int .u64 (nextR ⟨bs.drop n,bad⟩).1,.bool (nextR ⟨bs.drop n,bad⟩).2.1,.int .i64 (nextR ⟨bs.drop n,bad⟩).2.2]∧Sat R (pts r (rrCells s n bad)::Hs) w)
               ((bs[n]<32∧k≤8∧k≤(bs.drop (n + 1)).length∧(k=0→bs[n]=0)∧(k≠0→(bs.drop (n + 1)).head?≠some 0))∧Sat R (pts r (rrCells s n bad)::Hs) w)))
             ((bs[n]<32∧k≤8∧k≤(bs.drop (n + 1)).length∧(k=0→bs[n]=0)∧(k≠0→(bs.drop (n + 1)).head?≠some 0))∧Sat R (pts r (rrCells s n bad)::Hs) w):=fun hz=>by
      refine Br.d (fun h=>?_) (fun h=>⟨⟨h32,by omega,by omega,by omega,fun h2=>by omega⟩,hw⟩)
      refine NilP.mk rfl ⟨s,At.own selfS (by exact ⟨rfl,trivial⟩),NilP.mk rfl ⟨n,At.own selfS (by exact ⟨rfl,trivial⟩),?_⟩⟩
      rw [wrap64 (by omega) (by omega)]
      have hn1:n + 1<bs.length:=by omega
      have hh:(bs.drop (n + 1)).head? =some bs[n + 1]:=by rw [List.drop_eq_getElem_cons hn1];rfl
      refine hs.ix selfS (n + 1) (by omega) hn1 ?_
      refine Br.e (fun h0=>no (pno fun h2=>?_) hw) (fun h0=>⟨⟨h32,by omega,by omega,by omega,fun h2=>?_⟩,hw⟩)
      · exact h2.2.2.2.2 (by omega) (by rw [hh,h0])
      · rw [hh];intro h3;exact h0 (Option.some.inj h3)
    refine Br.d (fun h16=>?_) (fun h16=>?_)
    · refine Br.e (fun h0=>no (pno fun h2=>?_) hw) (fun h0=>last (.inl (by omega)))
      have:=h2.2.2.2.1 (by omega)
      omega
    · refine last ?_
      rw [if_neg (by omega)] at hk
      by_cases hk0:k=0
      · exact .inr (by omega)
      · exact .inl hk0
  clear hw
  rintro _ w ⟨hp,hw⟩
  have e:=pyes hp
  rw [e]
  obtain ⟨h32,hk8,hkl,_,_⟩:=hp
  have hbd:∀ j,∀ x∈(bs.drop (n + 1)).take j,0≤x∧x<256:=fun j x hx=>hb x (List.mem_of_mem_drop (List.mem_of_mem_take hx))
  have vb:∀ j,j≤8→0≤valI 0 ((bs.drop (n + 1)).take j)∧valI 0 ((bs.drop (n + 1)).take j)<256 ^ j:=fun j hj=>by
    refine ⟨valI_nn (by omega) (hbd j),?_⟩
    have h1:=valI_lt (acc:=0) (by omega) (hbd j)
    have h2:((bs.drop (n + 1)).take j).length≤j:=by rw [List.length_take];omega
    have h3:(256:Int) ^ ((bs.drop (n + 1)).take j).length≤256 ^ j:=p256 h2
    rw [show (0:Int) + 1=1 from rfl,Int.one_mul] at h1
    omega
  refine ⟨fun x i w=>∃ j:Nat,i=j∧j≤k∧x=valI 0 ((bs.drop (n + 1)).take j)∧Sat R (pts r (rrCells s n bad)::Hs) w,fun _ i _=>k - i.toNat,⟨0,rfl,by omega,rfl,hw⟩,?_⟩
  clear hw
  rintro _ _ _ w ⟨j,rfl,hj,rfl,hw⟩
  refine Br.d (fun h=>drw_rule hw fun w hw=>?_) (fun h=>?_)
  · refine NilP.mk rfl ⟨s,At.own selfS (by exact ⟨rfl,trivial⟩),NilP.mk rfl ⟨n,At.own selfS (by exact ⟨rfl,trivial⟩),?_⟩⟩
    rw [wrap64 (x:=(n:Int) + 1) (by omega) (by omega),wrap64 (x:=(n:Int) + 1 + j) (by omega) (by omega)]
    have hnj:n + 1 + j<bs.length:=by omega
    refine hs.ix selfS (n + 1 + j) (by omega) hnj ?_
    have hx:=hb bs[n + 1 + j] (List.getElem_mem _)
    have et:(bs.drop (n + 1)).take (j + 1)=(bs.drop (n + 1)).take j++[bs[n + 1 + j]]:=by
      rw [List.take_add_one,List.getElem?_drop,List.getElem?_eq_getElem hnj];rfl
    have hv:=vb j (by omega)
    have hv2:=vb (j + 1) (by omega)
    rw [et,valI_snoc] at hv2
    have h7:(256:Int) ^ j≤256 ^ 7:=p256 (by omega)
    have hv3:=hv.2
    have e7:(256:Int) ^ 7=72057594037927936:=by decide
    rw [wrapU64 (x:=bs[n + 1 + j]) (by omega) (by omega),wrapU64 (x:=valI 0 ((bs.drop (n + 1)).take j) * 256) (by omega) (by omega),wrapU64 (by omega) (by omega),wrap64 (by omega) (by omega)]
    exact ⟨⟨j + 1,by omega,by omega,by rw [et,valI_snoc],hw⟩,by dsimp only;omega⟩
  · have:j=k:=by omega
    subst this
    rw [wrap64 (by omega) (by omega)]
    refine ⟨?_,hw⟩
    simp
theorem rrnum_spec {r:Nat} {s:Sl} {bs:List Int} {rd:Rd} {most:Int} (hl:bs.length≤1099511627776) (hb:∀ x∈bs,0≤x∧x<256) (hs:SlR R.m s (b8 bs)) (hw:Sat R (RRdAt r s bs rd::Hs) w):
    Gets Tryz.prog 84 #[.pointer (some ⟨r,0,none⟩),.int .u64 most] w fun v w'=>v=.int .u64 (rdNum most rd).1∧Sat R (RRdAt r s bs (rdNum most rd).2::Hs) w':=by
  obtain ⟨n,⟨hn,hd⟩,hw⟩:=Sat.rrd.1 hw
  apply call84
  refine (rnext_spec hl hb hs hn hw).use ?_
  rintro _ w ⟨rfl,hw⟩
  refine ⟨_,_,_,rfl,?_⟩
  rw [hd]
  have bad:rdNum most rd=(0,⟨rd.bs,true⟩)→NilP (some ⟨r,0,none⟩) fun a_t25=>
      ∃ w_2:World,((Instr.storeAt 4 (.pointer ((some ⟨a_t25.block,a_t25.off + 2,none⟩))) (.bool true)).run Tryz.prog w=.ok () w_2)∧
      (Value.int .u64 0=.int .u64 (rdNum most rd).1∧Sat R (RRdAt r s bs (rdNum most rd).2::Hs) w_2):=fun e=>by
    refine NilP.mk rfl ?_
    refine store_rule hw (by kernel_rfl) rfl (by simp [Value.cells]) fun w hw=>?_
    have hw:=hw.re (pts r (rrCells s n true))
    rw [e]
    exact ⟨rfl,Sat.rrd.2 ⟨n,⟨hn,hd⟩,hw⟩⟩
  refine ⟨fun w=>(∃ x k,rd.bad=false∧parse rd.bs=some (x,false,k)∧x≤most)∧Sat R (pts r (rrCells s n rd.bad)::Hs) w,?_,?_⟩
  · by_cases hbd:rd.bad=true
    · have e:nextR ⟨rd.bs,rd.bad⟩=(0,false,0):=by unfold nextR;rw [if_pos hbd]
      rw [e];dsimp only
      refine Br.mk (fun h=>bad ?_) (fun h=>by simp at h)
      unfold rdNum;rw [if_pos hbd];rw [show rd=⟨rd.bs,rd.bad⟩ from rfl,hbd]
    · have hbd:rd.bad=false:=by simpa using hbd
      cases hp:parse rd.bs with
      |none=>
        have e:nextR ⟨rd.bs,rd.bad⟩=(0,false,0):=by unfold nextR;simp [hp]
        rw [e];dsimp only
        refine Br.mk (fun h=>bad ?_) (fun h=>by simp at h)
        unfold rdNum;rw [if_neg (by rw [hbd];simp),hp]
      |some p=>
        obtain ⟨x,neg,k⟩:=p
        have e:nextR ⟨rd.bs,rd.bad⟩=(x,neg,(k:Int)):=by unfold nextR;simp [hp,hbd]
        rw [e];dsimp only
        have hb2:∀ x∈rd.bs,0≤x∧x<256:=fun x hx=>hb x (by rw [←hd] at hx;exact List.mem_of_mem_drop hx)
        obtain ⟨_,_,k0,_,_⟩:=parse_bd hb2 hp
        have e2:rdNum most rd=if neg=false∧x≤most then (x,⟨rd.bs.drop k,false⟩) else (0,⟨rd.bs,true⟩):=by
          unfold rdNum;rw [if_neg (by rw [hbd];simp),hp]
        refine Br.e (fun h=>by omega) (fun _=>Br.mk (fun h=>bad ?_) (fun h=>Br.d (fun h2=>bad ?_) (fun h2=>?_)))
        · rw [e2,if_neg (by rintro ⟨h3,_⟩;rw [h3] at h;cases h)]
        · rw [e2,if_neg (by rintro ⟨_,h3⟩;omega)]
        · exact ⟨⟨x,k,hbd,by rw [h],by omega⟩,hw⟩
  clear bad hw
  rintro _ w ⟨⟨x,k,hbd,hp,hx⟩,hw⟩
  have hb2:∀ x∈rd.bs,0≤x∧x<256:=fun x hx=>hb x (by rw [←hd] at hx;exact List.mem_of_mem_drop hx)
  obtain ⟨_,_,k0,_,k2⟩:=parse_bd hb2 hp
  have e:nextR ⟨rd.bs,rd.bad⟩=(x,false,(k:Int)):=by unfold nextR;simp [hp,hbd]
  have e2:rdNum most rd=(x,⟨rd.bs.drop k,false⟩):=by
    unfold rdNum;rw [if_neg (by rw [hbd];simp),hp];dsimp only;rw [if_pos ⟨rfl,hx⟩]
  rw [e,e2]
  dsimp only
  have hlen:rd.bs.length=bs.length - n:=by rw [←hd,List.length_drop]
  refine NilP.mk rfl ⟨n,At.own (eqS hw) (by exact ⟨rfl,trivial⟩),NilP.mk rfl ?_⟩
  dsimp only
  rw [wrap64 (by omega) (by omega)]
  refine store_rule hw (by kernel_rfl) rfl (by simp [Value.cells]) fun w hw=>?_
  rw [hbd] at hw
  have hw:=hw.re (pts r (rrCells s (n + k) false))
  exact ⟨rfl,Sat.rrd.2 ⟨n + k,⟨by omega,by rw [←List.drop_drop,hd]⟩,hw⟩⟩
theorem rrwhole_spec {r:Nat} {s:Sl} {bs:List Int} {rd:Rd} (hs:SlR R.m s (b8 bs)) (hw:Sat R (RRdAt r s bs rd::Hs) w):
    Gets Tryz.prog 86 #[.pointer (some ⟨r,0,none⟩)] w fun v w'=>v=.bool (rdWhole rd)∧Sat R (RRdAt r s bs rd::Hs) w':=by
  have hsl:s.len=bs.length:=by have:=hs.len;simpa using this
  obtain ⟨n,⟨hn,hd⟩,hw⟩:=Sat.rrd.1 hw
  have hlen:rd.bs.length=bs.length - n:=by rw [←hd,List.length_drop]
  apply call86
  refine drw_rule hw fun w hw=>?_
  refine NilP.mk rfl ⟨rd.bad,At.own selfS (by exact ⟨rfl,trivial⟩),Br.nb (fun h=>?_) (fun h=>?_)⟩
  · refine NilP.mk rfl ⟨n,At.own selfS (by exact ⟨rfl,trivial⟩),NilP.mk rfl ⟨s,At.own selfS (by exact ⟨rfl,trivial⟩),?_,Sat.rrd.2 ⟨n,⟨hn,hd⟩,hw⟩⟩⟩
    unfold rdWhole
    rw [h,hsl]
    congr 1
    rw [Bool.not_false,Bool.true_and,hlen]
    show decide ((n:Int)=(bs.length:Int))=_
    rw [decide_eq_decide];omega
  · refine ⟨?_,Sat.rrd.2 ⟨n,⟨hn,hd⟩,hw⟩⟩
    unfold rdWhole
    rw [h];rfl
end Go.Proofs.YtfgbbckfikiomaaGreatDoor
/- Numbers, one behind the other: Encode's inner function; reference 15's numbers. Condition: bounds on lengths. -/
namespace Go.Proofs.YtfgbbckfikiomaaGreatDoor
set_option linter.unusedVariables false
open Go Go.VC
variable {R:Cx} {Hs Rest:List HP} {w:World}
def numsB (l:List Int):List Int:=(l.map fun x=>numB x.toNat).flatten
theorem numsB_len:∀ {l:List Int},(∀ x∈l,0≤x∧x<18446744073709551616)→(numsB l).length≤9 * l.length
 |[],_=>by simp [numsB]
 |x::l,h=>by
  have h1:=h x (List.mem_cons_self ..)
  have:=numB_len (n:=x.toNat) (by omega)
  have h2:=numsB_len (l:=l) fun y hy=>h y (List.mem_cons_of_mem _ hy)
  unfold numsB at h2 ⊢
  rw [List.map_cons,List.flatten_cons,List.length_append,List.length_cons]
  omega
theorem numsB_app (a b:List Int):numsB (a++b)=numsB a++numsB b:=by simp [numsB]
end Go.Proofs.YtfgbbckfikiomaaGreatDoor
/- Lists of holds in memory. Condition: none. -/
namespace Go.Proofs.YtfgbbckfikiomaaGreatDoor
set_option linter.unusedVariables false
open Go Go.VC
variable {R:Cx} {Hs Rest:List HP} {w:World}
def rowH (h:Hold) (t:Sl):List Value:=[.int .i64 h.owner,.int .i64 h.cls,.int .i64 h.many,.slice t.a t.len t.cap]
def rowsH (L:List Hold) (ts:List Sl):List (List Value):=(L.zip ts).map fun x=>rowH x.1 x.2
def seatsH (L:List Hold) (ts:List Sl):List HP:=(L.zip ts).map fun x=>Reads x.2 (intsI x.1.seats)
def HoldsL (s:Sl) (L:List Hold):HP:=exs fun ts:List Sl=>Star (pur (ts.length=L.length)::OwnN 4 s 176 (rowsH L ts)::seatsH L ts)
theorem Sat.holdsL {s:Sl} {L:List Hold}:Sat R (HoldsL s L::Hs) w↔∃ ts:List Sl,ts.length=L.length∧Sat R (OwnN 4 s 176 (rowsH L ts)::(seatsH L ts++Hs)) w:=by
 unfold HoldsL
 rw [Sat.exs]
 constructor
 ·rintro ⟨ts,h⟩
  obtain ⟨h1,h2⟩:=Sat.pur.1 (Sat.star.1 h)
  exact ⟨ts,h1,h2⟩
 ·rintro ⟨ts,h1,h2⟩
  exact ⟨ts,Sat.star.2 (Sat.pur.2 ⟨h1,h2⟩)⟩
structure HsR (R:Cx) (s:Sl) (L:List Hold) (ts:List Sl):Prop where
 len:ts.length=L.length
 rows:RoN 4 R s (rowsH L ts)
 seats:∀ i (h:i<L.length) (h':i<ts.length),SlR R.m ts[i] (intsI L[i].seats)
theorem seats_leak:∀ {L:List Hold} {ts:List Sl} {R:Cx},ts.length=L.length→Sat R (seatsH L ts++Hs) w→∃ R':Cx,R.Ext R'∧(∀ i (h:i<L.length) (h':i<ts.length),SlR R'.m ts[i] (intsI L[i].seats))∧Sat R' Hs w
 |[],_,R,_,hw=>⟨R,Cx.Ext.refl,fun i h=>by simp at h,by simpa [seatsH] using hw⟩
 |h::L,[],R,hl,_=>by simp at hl
 |h::L,t::ts,R,hl,hw=>by
  have hw:Sat R (Reads t (intsI h.seats)::(seatsH L ts++Hs)) w:=hw
  obtain ⟨R1,e1,s1,hw⟩:=Reads.leak hw
  obtain ⟨R2,e2,s2,hw⟩:=seats_leak (by simpa using hl) hw
  refine ⟨R2,e1.trans e2,fun i h h'=>?_,hw⟩
  rcases i with _|i
  ·exact e2.slR s1
  ·exact s2 i (by simpa using h) (by simpa using h')
theorem HoldsL.leak {s:Sl} {L:List Hold} (hw:Sat R (HoldsL s L::Hs) w):∃ (R':Cx) (ts:List Sl),R.Ext R'∧HsR R' s L ts∧Sat R' Hs w:=by
 obtain ⟨ts,hl,hw⟩:=Sat.holdsL.1 hw
 obtain ⟨R1,e1,hr,hw⟩:=OwnN.leak hw
 obtain ⟨R2,e2,hs,hw⟩:=seats_leak hl hw
 exact ⟨R2,ts,e1.trans e2,⟨hl,e2.roN hr,hs⟩,hw⟩
end Go.Proofs.YtfgbbckfikiomaaGreatDoor
/- Whether two lists of holds are the same: reference 15. Condition: none. -/
namespace Go.Proofs.YtfgbbckfikiomaaGreatDoor
set_option linter.unusedVariables false
open Go Go.VC
variable {R:Cx} {Hs Rest:List HP} {w:World}
theorem rowsH_len {L:List Hold} {ts:List Sl} (h:ts.length=L.length):(rowsH L ts).length=L.length:=by simp [rowsH,h]
theorem rowsH_at {L:List Hold} {ts:List Sl} {k:Nat} (h:k<L.length) (h':k<ts.length) (h2:k<(rowsH L ts).length):(rowsH L ts)[k]=rowH L[k] ts[k]:=by simp [rowsH]
theorem HsR.fld {s:Sl} {L:List Hold} {ts:List Sl} {S:World→Prop} {k j:Nat} {v:Value} (hr:HsR R s L ts) (hS:∀ w,S w→Sat R Hs w) (hk:k<L.length) (hk':k<ts.length) (hv:(rowH L[k] ts[k])[j]? =some v) {F:Addr→Prop}
  (f:∀ a:Addr,a.spot=none→At S ⟨(a.add (mulS k 4)).block,(a.add (mulS k 4)).off + j,none⟩ [v]→F a):Rng (k:Int) s.len (NilP s.a F):=by
 have hl:=rowsH_len hr.len
 refine (hr.rows.reads hS).rng (k:=k) (by omega) fun b off ha hat=>f _ rfl ?_
 rw [elt_addr]
 refine hat j [v] ?_
 rw [rowsH_at hk hk']
 obtain ⟨hlt,he⟩:=List.getElem?_eq_some_iff.1 hv
 rw [List.drop_eq_getElem_cons hlt,he]
 exact ⟨rfl,trivial⟩
def holdEq (a b:Hold):Prop:=a.owner=b.owner∧a.cls=b.cls∧a.many=b.many∧a.seats=b.seats
theorem hold_ext {a b:Hold} (h:holdEq a b):a=b:=by
 obtain ⟨h1,h2,h3,h4⟩:=h
 cases a;cases b;simp_all
instance:DecidableEq Hold:=fun a b=>decidable_of_iff (a.owner=b.owner∧a.cls=b.cls∧a.many=b.many∧a.seats=b.seats) ⟨hold_ext,fun h=>by subst h;exact ⟨rfl,rfl,rfl,rfl⟩⟩
end Go.Proofs.YtfgbbckfikiomaaGreatDoor
/- Reference 15's flight in memory; place. Condition: none. -/
namespace Go.Proofs.YtfgbbckfikiomaaGreatDoor
set_option linter.unusedVariables false
open Go Go.VC
variable {R:Cx} {Hs Rest:List HP} {w:World}
structure RF where
 num:Int
 rows:Int
 grps:List Int
 lims:List Int
 L:List Hold
abbrev rCells (r:RF) (sg sl s:Sl):Obj:=.cells [.int .i64 r.num,.int .i64 r.rows,.slice sg.a sg.len sg.cap,.slice sl.a sl.len sl.cap,.slice s.a s.len s.cap].toArray 149 (0,0)
end Go.Proofs.YtfgbbckfikiomaaGreatDoor
/- A flight, plain: the document's steps; how the program's go with them. No program in sight. Condition: none. -/
namespace Go.Proofs.YtfgbbckfikiomaaGreatDoor
set_option linter.unusedVariables false
open Go Go.VC
def cntL (k:Int):List Hold→Int
 |[]=>0
 |h::L=>(if h.cls=k then h.many else 0) + cntL k L
def soldL (n:Nat) (L:List Hold):List Int:=(List.range n).map fun (k:Nat)=>cntL (k:Int) L
def takenL (L:List Hold):List Int:=L.flatMap Hold.seats
theorem cntL_cons (k:Int) (h:Hold) (L:List Hold):cntL k (h::L)=(if h.cls=k then h.many else 0) + cntL k L:=rfl
theorem cntL_app (k:Int):∀ A B:List Hold,cntL k (A++B)=cntL k A + cntL k B
 |[],B=>by simp [cntL]
 |h::A,B=>by simp only [List.cons_append,cntL,cntL_app k A B];omega
theorem cntL_perm {k:Int} {A B:List Hold} (h:A.Perm B):cntL k A=cntL k B:=by
 induction h with
 |nil=>rfl
 |cons x _ ih=>simp only [cntL,ih]
 |swap x y l=>simp only [cntL];exact Int.add_left_comm _ _ _
 |trans _ _ a b=>exact a.trans b
theorem soldL_len (n:Nat) (L:List Hold):(soldL n L).length=n:=by simp [soldL]
theorem soldL_get {n k:Nat} {L:List Hold} (h:k<(soldL n L).length):(soldL n L)[k]=cntL (k:Int) L:=by simp [soldL]
theorem soldL_getD {n k:Nat} {L:List Hold} (h:k<n):(soldL n L).getD k 0=cntL (k:Int) L:=by
 rw [List.getD_eq_getElem?_getD,List.getElem?_eq_getElem (by rw [soldL_len];exact h),soldL_get];rfl
theorem soldL_set {n:Nat} {L L':List Hold} {c:Int} {x:Int} (h0:0≤c) (h1:c<n) (hc:cntL c L'=x) (ho:∀ k:Nat,(k:Int)≠c→cntL (k:Int) L'=cntL (k:Int) L):(soldL n L).set c.toNat x=soldL n L':=by
 apply List.ext_getElem
 ·simp [soldL]
 ·intro i h2 h3
  rw [List.getElem_set]
  split
  ·rename_i e
   rw [soldL_get]
   rw [←hc]
   congr 1
   omega
  ·rename_i e
   rw [soldL_get,soldL_get]
   exact (ho i (by omega)).symm
theorem soldL_put {n:Nat} {h:Hold} {L L':List Hold} (p:L'.Perm (h::L)) (h0:0≤h.cls) (h1:h.cls<n):(soldL n L).set h.cls.toNat ((soldL n L).getD h.cls.toNat 0 + h.many)=soldL n L':=by
 refine soldL_set h0 h1 ?_ fun k hk=>?_
 ·rw [soldL_getD (by omega),cntL_perm p,show ((h.cls.toNat:Nat):Int)=h.cls by omega]
  rw [cntL_cons,if_pos rfl];omega
 ·rw [cntL_perm p]
  show (if h.cls=(k:Int) then h.many else 0) + cntL (k:Int) L=_
  rw [if_neg (fun e=>hk e.symm)];omega
def getO (o:Int):List Hold→Option Hold
 |[]=>none
 |h::L=>if h.owner=o then some h else getO o L
def insH (h:Hold):List Hold→List Hold
 |[]=>[h]
 |x::L=>if x.owner<h.owner then x::insH h L else h::x::L
theorem getO_cons (o:Int) (h:Hold) (L:List Hold):getO o (h::L)=if h.owner=o then some h else getO o L:=rfl
def OwR (L:List Hold):Prop:=L.Pairwise fun a b=>a.owner<b.owner
theorem OwR.ne {L:List Hold} (h:OwR L):L.Pairwise fun a b=>a.owner≠b.owner:=h.imp fun h e=>by omega
theorem getO_iff {o:Int} {h:Hold}:∀ {L:List Hold},(L.Pairwise fun a b=>a.owner≠b.owner)→(getO o L=some h↔h∈L∧h.owner=o)
 |[],_=>by simp [getO]
 |x::L,hp=>by
  obtain ⟨h1,h2⟩:=List.pairwise_cons.1 hp
  rw [getO_cons]
  split
  ·rename_i hx
   constructor
   ·intro e;cases e;exact ⟨List.mem_cons_self,hx⟩
   ·rintro ⟨hm,ho⟩
    rcases List.mem_cons.1 hm with rfl|hm
    ·rfl
    ·exact absurd (hx.trans ho.symm) (h1 h hm)
  ·rename_i hx
   rw [getO_iff h2]
   constructor
   ·rintro ⟨a,b⟩;exact ⟨List.mem_cons_of_mem _ a,b⟩
   ·rintro ⟨hm,ho⟩
    rcases List.mem_cons.1 hm with rfl|hm
    ·exact absurd ho hx
    ·exact ⟨hm,ho⟩
theorem getO_perm {o:Int} {A B:List Hold} (p:A.Perm B) (h:A.Pairwise fun a b=>a.owner≠b.owner):getO o A=getO o B:=by
 have h':B.Pairwise fun a b=>a.owner≠b.owner:=(p.pairwise_iff fun h=>h.symm).1 h
 apply Option.ext
 intro x
 rw [getO_iff h,getO_iff h',p.mem_iff]
def RF.sold (r:RF):List Int:=soldL r.lims.length r.L
def rtakeF (r:RF) (owner cls many:Int):RF × Int:=
 if owner<1∨owner>28629151 then (r,1) else if (getO owner r.L).isSome then (r,7)
 else if (sellT r.lims r.sold cls many).2=0 then ({ r with L:=insH ⟨owner,cls,many,[]⟩ r.L },0) else (r,(sellT r.lims r.sold cls many).2)
def rleftsF (r:RF):List Int:=(List.range r.lims.length).map fun (k:Nat)=>(leftT r.lims r.sold k).1
structure HoldOk (n:Nat) (N:Int) (h:Hold):Prop where
 owner:1≤h.owner∧h.owner≤28629151
 cls:0≤h.cls∧h.cls<n
 many:1≤h.many
 rise:Rise h.seats
 few:(h.seats.length:Int)≤h.many
 seats:∀ x∈h.seats,0≤x∧x<N
structure Good (r:RF):Prop where
 num:1≤r.num∧r.num≤9999
 lay:layOk r.rows r.grps=true
 nest:nestOk r.lims r.sold=true
 l0:r.lims.getD 0 0=layN r.rows r.grps
 rise:OwR r.L
 each:∀ h∈r.L,HoldOk r.lims.length (layN r.rows r.grps) h
 apart:r.L.Pairwise fun a b=>∀ x∈a.seats,x ∉ b.seats
structure Tie (f:PF) (r:RF):Prop where
 num:f.num=r.num
 rows:f.rows=r.rows
 grps:f.grps=r.grps
 lims:f.lims=r.lims
 sold:f.sold=r.sold
 hs:(f.hs.map (·.2)).Perm r.L
 key:∀ e∈f.hs,e.2.owner=e.1
 own:∀ n o,getM n f.own=some o↔∃ h∈r.L,h.owner=o∧n∈h.seats
 nod:(f.own.map (·.1)).Nodup
theorem tie_get1 {o:Int}:∀ {hs:List (Int × Hold)},(∀ e∈hs,e.2.owner=e.1)→getM o hs=getO o (hs.map (·.2))
 |[],_=>rfl
 |e::hs,h=>by
  have h1:=h e List.mem_cons_self
  have ih:=tie_get1 (o:=o) fun x hx=>h x (List.mem_cons_of_mem _ hx)
  rw [List.map_cons,getO_cons,h1,←ih]
  show (if o==e.1 then some e.2 else getM o hs)=_
  by_cases he:e.1=o
  ·rw [if_pos he,if_pos (by rw [he];exact beq_self_eq_true o)]
  ·rw [if_neg he,if_neg (by rw [beq_iff_eq];exact fun e'=>he e'.symm)]
variable {f:PF} {r:RF}
theorem Tie.ne (t:Tie f r) (g:OwR r.L):(f.hs.map (·.2)).Pairwise fun a b=>a.owner≠b.owner:=(t.hs.pairwise_iff fun h=>h.symm).2 g.ne
theorem Tie.get (t:Tie f r) (g:OwR r.L) (o:Int):getM o f.hs=getO o r.L:=by
 rw [tie_get1 t.key,getO_perm t.hs (t.ne g)]
end Go.Proofs.YtfgbbckfikiomaaGreatDoor
/- A flight: Holds. Condition: bounds on lengths. -/
namespace Go.Proofs.YtfgbbckfikiomaaGreatDoor
set_option linter.unusedVariables false
open Go Go.VC
variable {R:Cx} {Hs Rest:List HP} {w:World}
def hold0:Hold:=⟨0,0,0,[]⟩
def holdOf (f:PF) (k:Int):Hold:=(getM k f.hs).getD hold0
def holdsF (f:PF):List Hold:=(sortI (f.hs.map (·.1))).map (holdOf f)
theorem HoldsL.nil (hw:Sat R Hs w):Sat R (HoldsL ⟨none,0,0⟩ []::Hs) w:=Sat.holdsL.2 ⟨[],rfl,OwnN.nil hw⟩
theorem rowsH_snoc {L:List Hold} {ts:List Sl} (hl:ts.length=L.length) (h:Hold) (t:Sl):rowsH (L++[h]) (ts++[t])=rowsH L ts++[rowH h t]:=by
 unfold rowsH
 rw [List.zip_append hl.symm,List.map_append];rfl
theorem seatsH_snoc {L:List Hold} {ts:List Sl} (hl:ts.length=L.length) (h:Hold) (t:Sl):seatsH (L++[h]) (ts++[t])=seatsH L ts++[Reads t (intsI h.seats)]:=by
 unfold seatsH
 rw [List.zip_append hl.symm,List.map_append];rfl
theorem HoldsL.snoc {s:Sl} {L:List Hold} {ts:List Sl} {h:Hold} {t:Sl} (hl:ts.length=L.length) (hw:Sat R (OwnN 4 s 176 (rowsH L ts++[rowH h t])::Reads t (intsI h.seats)::(seatsH L ts++Hs)) w):Sat R (HoldsL s (L++[h])::Hs) w:=by
 refine Sat.holdsL.2 ⟨ts++[t],by simp [hl],?_⟩
 rw [rowsH_snoc hl,seatsH_snoc hl,List.append_assoc]
 exact hw.cons fun _ h5=>h5.perm List.perm_middle.symm
end Go.Proofs.YtfgbbckfikiomaaGreatDoor
/- A flight's bytes. Condition: bounds on lengths. -/
namespace Go.Proofs.YtfgbbckfikiomaaGreatDoor
set_option linter.unusedVariables false
open Go Go.VC
variable {R:Cx} {Hs Rest:List HP} {w:World}
theorem _root_.Go.VC.Sat.allTru {Hs:List HP}:∀ {R:Cx},Sat R Hs w→Sat R [VC.tru] w:=by
 induction Hs with
 |nil=>exact fun h=>h.tru
 |cons A Hs ih=>exact fun h=>Sat.absorb (h.cons fun _ h=>ih h)
theorem _root_.Go.VC.Sat.restTru2 {A:HP} (h:Sat R (A::Hs) w):Sat R [A,VC.tru] w:=h.cons fun _ h=>h.allTru
theorem _root_.Go.VC.MapAt.len {P:Program} {α:Type} [BEq α] [KeyK α] {m:Nat} {es:List (α × Value)} {T ty:TypeId} (hT:P.underlying T=some (.map (P.mapKeyOf T) (P.mapElemOf T))) (hw:Sat R (MapAt m es::Hs) w):
  (Builtin.len_ #[T] ty #[.map (some m)]).run P w=.ok (.int .i64 es.length) w:=by
 obtain ⟨l,c,hs,hst,hp⟩:=MapAt.iff.1 hw
 rw [run_len_map w T ty m _ c hT hp.at]
 subst hs
 simp [goInt,strip]
abbrev small (l:List Int):Prop:=∀ x∈l,0≤x∧x<9223372036854775808
structure HSmall (h:Hold):Prop where
 o:0≤h.owner∧h.owner<9223372036854775808
 c:0≤h.cls∧h.cls<9223372036854775808
 m:0≤h.many∧h.many<9223372036854775808
 s:small h.seats
 n:h.seats.length≤1000
end Go.Proofs.YtfgbbckfikiomaaGreatDoor
/- Reference 15's flight in memory: opened, closed; place, Sold, taken, Left, Labels. Condition: bounds. -/
namespace Go.Proofs.YtfgbbckfikiomaaGreatDoor
set_option linter.unusedVariables false
open Go Go.VC
variable {R R':Cx} {Hs Rest:List HP} {w:World}
def SeatsAt (L:List Hold) (ts:List Sl):HP:=Star (seatsH L ts)
structure RX where
 sg:Sl
 sl:Sl
 s:Sl
 ts:List Sl
def RFAt (q:Nat) (r:RF):HP:=exs fun x:RX=>
 Star [pur (x.ts.length=r.L.length),Reads x.sg (intsI r.grps),Reads x.sl (intsI r.lims),pts q (rCells r x.sg x.sl x.s),OwnN 4 x.s 176 (rowsH r.L x.ts),SeatsAt r.L x.ts]
abbrev RO (q:Nat) (r:RF) (sg sl s:Sl) (ts:List Sl) (Hs:List HP):List HP:=Reads sg (intsI r.grps)::Reads sl (intsI r.lims)::pts q (rCells r sg sl s)::OwnN 4 s 176 (rowsH r.L ts)::SeatsAt r.L ts::Hs
theorem seats_out:∀ {L:List Hold} {ts:List Sl} {R:Cx},ts.length=L.length→Sat R (seatsH L ts++Hs) w→∃ R':Cx,R.Ext R'∧(∀ i (h:i<L.length) (h':i<ts.length),SlR R'.m ts[i] (intsI L[i].seats))∧Sat R' Hs w∧∀ Hs' w',Sat R' Hs' w'→Sat R (seatsH L ts++Hs') w'
 |[],_,R,_,hw=>⟨R,Cx.Ext.refl,fun i h=>by simp at h,by simpa [seatsH] using hw,fun Hs' w' h=>by simpa [seatsH] using h⟩
 |h::L,[],R,hl,_=>by simp at hl
 |h::L,t::ts,R,hl,hw=>by
  have hw:Sat R (Reads t (intsI h.seats)::(seatsH L ts++Hs)) w:=hw
  obtain ⟨R1,e1,s1,hw,b1⟩:=Reads.out hw
  obtain ⟨R2,e2,s2,hw,b2⟩:=seats_out (by simpa using hl) hw
  refine ⟨R2,e1.trans e2,fun i h h'=>?_,hw,fun Hs' w' h=>b1 _ _ (b2 _ _ h)⟩
  rcases i with _|i
  ·exact e2.slR s1
  ·exact s2 i (by simpa using h) (by simpa using h')
structure RfR (R:Cx) (r:RF) (sg sl s:Sl) (ts:List Sl):Prop where
 grps:SlR R.m sg (intsI r.grps)
 lims:SlR R.m sl (intsI r.lims)
 hs:HsR R s r.L ts
 cap:s.len≤s.cap
theorem RfR.ext {r:RF} {sg sl s:Sl} {ts:List Sl} (h:RfR R r sg sl s ts) (e:R.Ext R'):RfR R' r sg sl s ts:=
 ⟨e.slR h.grps,e.slR h.lims,⟨h.hs.len,e.roN h.hs.rows,fun i a b=>e.slR (h.hs.seats i a b)⟩,h.cap⟩
theorem RfR.len {r:RF} {sg sl s:Sl} {ts:List Sl} (h:RfR R r sg sl s ts):s.len=r.L.length:=by
 have:=h.hs.rows.len
 rwa [rowsH_len h.hs.len] at this
theorem RO.out {q:Nat} {r:RF} {sg sl s:Sl} {ts:List Sl} (hl:ts.length=r.L.length) (hw:Sat R (RO q r sg sl s ts Hs) w):∃ R',R.Ext R'∧RfR R' r sg sl s ts∧Sat R' (pts q (rCells r sg sl s)::Hs) w∧∀ Hs' w',Sat R' (pts q (rCells r sg sl s)::Hs') w'→Sat R (RO q r sg sl s ts Hs') w':=by
 obtain ⟨R1,e1,g1,hw,b1⟩:=Reads.out hw
 obtain ⟨R2,e2,g2,hw,b2⟩:=Reads.out hw
 have hw:Sat R2 (OwnN 4 s 176 (rowsH r.L ts)::SeatsAt r.L ts::pts q (rCells r sg sl s)::Hs) w:=hw.arr
 have hc:=OwnN.cap (by omega) hw
 obtain ⟨R3,g3,⟨x,hx⟩,hw,b3⟩:=OwnN.lend hw
 have e3:R2.Ext R3:=by rw [hx];exact Cx.Ext.add
 obtain ⟨R4,e4,g4,hw,b4⟩:=seats_out hl (Sat.star.1 hw)
 refine ⟨R4,e1.trans (e2.trans (e3.trans e4)),⟨e4.slR (e3.slR (e2.slR g1)),e4.slR (e3.slR g2),⟨hl,e4.roN g3,g4⟩,hc⟩,hw,fun Hs' w' h=>b1 _ _ (b2 _ _ ?_)⟩
 have h1:Sat R2 (OwnN 4 s 176 (rowsH r.L ts)::SeatsAt r.L ts::pts q (rCells r sg sl s)::Hs') w':=b3 (Sat.star.2 (b4 _ _ h))
 exact h1.arr
structure HCls (n:Nat) (h:Hold):Prop where
 c:0≤h.cls∧h.cls<n
 m:0≤h.many∧h.many≤10000
end Go.Proofs.YtfgbbckfikiomaaGreatDoor
/- A flight, plain: each step of the program's goes with the document's; what holds of a flight holds on. Condition: none. -/
namespace Go.Proofs.YtfgbbckfikiomaaGreatDoor
set_option linter.unusedVariables false
open Go Go.VC
section
variable {β:Type}
theorem getM_cons (k:Int) (e:Int × β) (l:List (Int × β)):getM k (e::l)=if k=e.1 then some e.2 else getM k l:=by
 show (if k==e.1 then some e.2 else getM k l)=_
 by_cases h:k=e.1
 ·rw [if_pos h,if_pos (beq_iff_eq.2 h)]
 ·rw [if_neg h,if_neg (fun h'=>h (beq_iff_eq.1 h'))]
theorem getM_mem {k:Int}:∀ {l:List (Int × β)},(getM k l).isSome=true↔k∈l.map (·.1)
 |[]=>by simp [getM]
 |e::l=>by
  rw [getM_cons,List.map_cons,List.mem_cons]
  split
  ·rename_i h;simp [h]
  ·rename_i h;rw [getM_mem (l:=l)];simp [h]
end
theorem fromN_add {sold:List Int} {c:Nat} {m:Int} (hc:c<sold.length):∀ (t k:Nat),k + t=sold.length→fromN (sold.set c (sold.getD c 0 + m)) k=fromN sold k + (if k≤c then m else 0)
 |0,k,h=>by
  rw [fromN_end (by rw [List.length_set];omega),fromN_end (by omega),if_neg (by omega)];rfl
 |t + 1,k,h=>by
  have ih:=fromN_add (m:=m) hc t (k + 1) (by omega)
  rw [fromN_step (k:=k) (by rw [List.length_set];omega),fromN_step (sold:=sold) (k:=k) (by omega),ih,List.getElem_set]
  by_cases e:c=k
  ·subst e
   rw [if_pos rfl,if_neg (by omega),if_pos (Nat.le_refl _),getD_lt hc];omega
  ·rw [if_neg e]
   by_cases h2:k≤c
   ·rw [if_pos (by omega),if_pos h2];omega
   ·rw [if_neg (by omega),if_neg h2];omega
def totL:List Hold→Int
 |[]=>0
 |h::L=>h.many + totL L
theorem soldL_nil (n:Nat):soldL n []=List.replicate n 0:=by
 apply List.ext_getElem
 ·simp [soldL]
 ·intro i h1 h2;rw [soldL_get];simp [cntL]
theorem fromN_zero (n:Nat):∀ t k:Nat,k + t=n→fromN (List.replicate n (0:Int)) k=0
 |0,k,h=>fromN_end (by rw [List.length_replicate];omega)
 |t + 1,k,h=>by rw [fromN_step (by rw [List.length_replicate];omega),fromN_zero n t (k + 1) (by omega)];simp
theorem totL_from {n:Nat}:∀ {L:List Hold},(∀ h∈L,0≤h.cls∧h.cls<n)→fromN (soldL n L) 0=totL L
 |[],_=>by rw [soldL_nil,fromN_zero n n 0 (by omega)];rfl
 |h::L,hc=>by
  have h0:=hc h List.mem_cons_self
  have ih:=totL_from fun x hx=>hc x (List.mem_cons_of_mem _ hx)
  rw [←soldL_put (List.Perm.refl (h::L)) h0.1 h0.2,fromN_add (by rw [soldL_len];omega) n 0 (by rw [soldL_len];omega),if_pos (by omega),ih]
  show _=h.many + totL L
  omega
theorem nest_zero {lim:List Int} (h:limOk lim=true):nestOk lim (List.replicate lim.length 0)=true:=by
 refine nestOk_iff.2 ⟨h,by simp,fun k hk=>?_⟩
 rw [fromN_zero lim.length (lim.length - k) k (by omega),List.getD_eq_getElem?_getD]
 have:=(limOk_iff.1 h).2 k hk
 rw [getD_lt hk]
 simp [hk]
 omega
variable {f:PF} {r:RF}
end Go.Proofs.YtfgbbckfikiomaaGreatDoor
/- A flight, plain: Auto; its state. Condition: none. -/
namespace Go.Proofs.YtfgbbckfikiomaaGreatDoor
set_option linter.unusedVariables false
open Go Go.VC
variable {f:PF} {r:RF}
theorem Good.tot (g:Good r):totL r.L≤layN r.rows r.grps:=by
 rw [←totL_from (n:=r.lims.length) fun h hh=>(g.each h hh).cls,←g.l0]
 have hl:=(limOk_iff.1 (nestOk_iff.1 g.nest).1).1.1
 exact ((nestOk_iff.1 g.nest).2.2 0 (by omega)).2
theorem len_tot:∀ {L:List Hold},(∀ h∈L,1≤h.many)→(L.length:Int)≤totL L∧∀ h∈L,h.many≤totL L
 |[],_=>⟨Int.le_refl _,by simp⟩
 |h::L,hm=>by
  obtain ⟨i1,i2⟩:=len_tot fun x hx=>hm x (List.mem_cons_of_mem _ hx)
  have h1:=hm h List.mem_cons_self
  have e:totL (h::L)=h.many + totL L:=rfl
  rw [e,List.length_cons]
  refine ⟨by omega,fun x hx=>?_⟩
  rcases List.mem_cons.1 hx with rfl|hx
  ·omega
  ·have:=i2 x hx;omega
theorem Good.len (g:Good r):(r.L.length:Int)≤600∧∀ h∈r.L,h.many≤600:=by
 obtain ⟨h1,h2⟩:=len_tot fun h hh=>(g.each h hh).many
 have h3:=g.tot
 have h4:=(layN_bd r.rows r.grps).2
 exact ⟨by omega,fun h hh=>by have:=h2 h hh;omega⟩
theorem tie_left (t:Tie f r):leftsF f=rleftsF r:=by
 unfold leftsF rleftsF
 rw [t.lims,t.sold]
theorem Tie.mem (t:Tie f r) {e:Int × Hold} (he:e∈f.hs):e.2∈r.L:=t.hs.mem_iff.1 (List.mem_map.2 ⟨e,he,rfl⟩)
theorem Tie.ownIn (t:Tie f r) (g:Good r):∀ k∈f.own.map (·.1),0≤k∧k<layN r.rows r.grps:=fun k hk=>by
 obtain ⟨o,ho⟩:=Option.isSome_iff_exists.1 (getM_mem.2 hk)
 obtain ⟨h,hh,_,hs⟩:=(t.own k o).1 ho
 exact (g.each h hh).seats k hs
theorem nodup_bd:∀ (N:Nat) {l:List Int},l.Nodup→(∀ x∈l,0≤x∧x<N)→l.length≤N
 |0,[],_,_=>Nat.le_refl _
 |0,x::l,_,hb=>by have:=hb x List.mem_cons_self;omega
 |N + 1,l,h,hb=>by
  by_cases hm:(N:Int)∈l
  ·have h1:=nodup_bd N (h.erase (N:Int)) fun x hx=>by
    have h2:=(h.mem_erase_iff).1 hx
    have:=hb x h2.2
    have:=h2.1
    omega
   rw [List.length_erase_of_mem hm] at h1
   omega
  ·have h1:=nodup_bd N h fun x hx=>by
    have:=hb x hx
    have:x≠N:=fun e=>hm (by rw [←e];exact hx)
    omega
   omega
theorem Tie.bounds (t:Tie f r) (g:Good r):f.hs.length≤600∧f.own.length≤600∧f.lims.length≤8∧f.sold.length≤8∧f.grps.length≤4∧(∀ e∈f.hs,Rise e.2.seats∧e.2.seats.length≤600)∧(∀ k∈f.hs.map (·.1),1≤k∧k≤28629151):=by
 have hl:=g.len
 have h1:=t.hs.length_eq
 rw [List.length_map] at h1
 have h2:=nodup_bd (layN r.rows r.grps).toNat t.nod fun x hx=>by have:=t.ownIn g x hx;omega
 rw [List.length_map] at h2
 have h3:=layN_bd r.rows r.grps
 have h4:=(limOk_iff.1 (nestOk_iff.1 g.nest).1).1.2
 have h5:=(layOk_iff.1 g.lay).1
 refine ⟨by omega,by omega,by rw [t.lims];exact h4,by rw [t.sold];show (soldL _ _).length≤8;rw [soldL_len];exact h4,by rw [t.grps];omega,fun e he=>?_,fun k hk=>?_⟩
 ·have hh:=g.each _ (t.mem he)
  have:=hl.2 _ (t.mem he)
  exact ⟨hh.rise,by have:=hh.few;omega⟩
 ·obtain ⟨e,he,rfl⟩:=List.mem_map.1 hk
  have hh:=g.each _ (t.mem he)
  have:=hh.owner
  rw [t.key e he] at this;exact this
def rnewF (num rows:Int) (grps lims:List Int):RF:=⟨num,rows,grps,lims,[]⟩
theorem good_new {num rows:Int} {grps:List Int} {parts:List Nat} (h:newOk num rows grps parts):Good (rnewF num rows grps (limitsT (layN rows grps) parts).1):=by
 obtain ⟨h1,h2,h3,h4⟩:=h
 obtain ⟨l1,l2⟩:=limits_ok h4
 refine ⟨⟨h1,h2⟩,h3,?_,l2,List.Pairwise.nil,fun h hh=>(by cases hh),List.Pairwise.nil⟩
 show nestOk _ (soldL _ [])=true
 rw [soldL_nil];exact nest_zero l1
theorem tie_new {num rows:Int} {grps lims:List Int}:Tie (emptyF num rows grps lims) (rnewF num rows grps lims):=by
 refine ⟨rfl,rfl,rfl,rfl,?_,List.Perm.refl _,fun e he=>(by cases he),fun n o=>?_,List.nodup_nil⟩
 ·show List.replicate _ 0=soldL _ []
  rw [soldL_nil];rfl
 ·constructor
  ·intro h;cases h
  ·rintro ⟨h,hh,_⟩;cases hh
end Go.Proofs.YtfgbbckfikiomaaGreatDoor
/- Reference 15: New, Take, Give, Seat, Unseat, Auto. Condition: bounds. -/
namespace Go.Proofs.YtfgbbckfikiomaaGreatDoor
set_option linter.unusedVariables false
open Go Go.VC
variable {R R':Cx} {Hs Rest:List HP} {w:World}
section
variable {γ:Type} (f:Hold × Sl→γ)
theorem zipm_ins (h:Hold) (t:Sl):∀ (k:Nat) (L:List Hold) (ts:List Sl),ts.length=L.length→k≤L.length→((L.take k++h::L.drop k).zip (ts.take k++t::ts.drop k)).map f=((L.zip ts).map f).take k++f (h,t)::((L.zip ts).map f).drop k
 |0,L,ts,_,_=>by simp
 |k + 1,[],ts,_,hk=>by simp at hk
 |k + 1,x::L,[],hl,_=>by simp at hl
 |k + 1,x::L,y::ts,hl,hk=>by
  have ih:=zipm_ins h t k L ts (by simpa using hl) (by simpa using hk)
  simp only [List.take_succ_cons,List.drop_succ_cons,List.cons_append,List.zip_cons_cons,List.map_cons,ih]
theorem zipm_del:∀ (k:Nat) (L:List Hold) (ts:List Sl),ts.length=L.length→k<L.length→((L.take k++L.drop (k + 1)).zip (ts.take k++ts.drop (k + 1))).map f=((L.zip ts).map f).take k++((L.zip ts).map f).drop (k + 1)
 |k,[],ts,_,hk=>by simp at hk
 |k,x::L,[],hl,_=>by simp at hl
 |0,x::L,y::ts,_,_=>by simp
 |k + 1,x::L,y::ts,hl,hk=>by
  have ih:=zipm_del k L ts (by simpa using hl) (by simpa using hk)
  simp only [List.take_succ_cons,List.drop_succ_cons,List.cons_append,List.zip_cons_cons,List.map_cons,ih]
theorem zipm_set (h:Hold) (t:Sl):∀ (k:Nat) (L:List Hold) (ts:List Sl),((L.set k h).zip (ts.set k t))=(L.zip ts).set k (h,t)
 |k,[],ts=>by simp
 |k,x::L,[]=>by simp
 |0,x::L,y::ts=>by simp
 |k + 1,x::L,y::ts=>by
  have ih:=zipm_set h t k L ts
  simp only [List.set_cons_succ,List.zip_cons_cons,ih]
end
theorem SeatsAt.ins {L:List Hold} {ts:List Sl} {k:Nat} {h:Hold} {t:Sl} (hl:ts.length=L.length) (hk:k≤L.length) (hw:Sat R (Reads t (intsI h.seats)::SeatsAt L ts::Hs) w):Sat R (SeatsAt (L.take k++h::L.drop k) (ts.take k++t::ts.drop k)::Hs) w:=by
 refine Sat.star.2 ?_
 rw [show seatsH (L.take k++h::L.drop k) (ts.take k++t::ts.drop k)=(seatsH L ts).take k++Reads t (intsI h.seats)::(seatsH L ts).drop k from zipm_ins (fun x=>Reads x.2 (intsI x.1.seats)) h t k L ts hl hk]
 have hw:Sat R (Reads t (intsI h.seats)::(seatsH L ts++Hs)) w:=hw.cons fun _ h=>Sat.star.1 h
 refine hw.perm ?_
 rw [List.append_assoc,List.cons_append]
 refine (List.Perm.trans ?_ List.perm_middle.symm)
 rw [←List.append_assoc,List.take_append_drop]
theorem SeatsAt.pick {L:List Hold} {ts:List Sl} {k:Nat} (hk:k<L.length) (hk':k<ts.length) (hw:Sat R (SeatsAt L ts::Hs) w):Sat R (Reads ts[k] (intsI L[k].seats)::((seatsH L ts).take k++(seatsH L ts).drop (k + 1)++Hs)) w:=by
 have hw:=Sat.star.1 hw
 have hlt:k<(seatsH L ts).length:=by simp [seatsH];omega
 have e:seatsH L ts=(seatsH L ts).take k++Reads ts[k] (intsI L[k].seats)::(seatsH L ts).drop (k + 1):=by
  have h1:(seatsH L ts)[k]=Reads ts[k] (intsI L[k].seats):=by simp [seatsH]
  rw [←h1,←List.drop_eq_getElem_cons hlt,List.take_append_drop]
 rw [e,List.append_assoc,List.cons_append] at hw
 rw [List.append_assoc]
 exact hw.perm List.perm_middle
theorem SeatsAt.del {L:List Hold} {ts:List Sl} {k:Nat} (hl:ts.length=L.length) (hk:k<L.length) (hw:Sat R (SeatsAt L ts::Hs) w):Sat R (SeatsAt (L.take k++L.drop (k + 1)) (ts.take k++ts.drop (k + 1))::Hs) w:=by
 have hw:=(SeatsAt.pick hk (by omega) hw).drop
 refine Sat.star.2 ?_
 rw [show seatsH (L.take k++L.drop (k + 1)) (ts.take k++ts.drop (k + 1))=(seatsH L ts).take k++(seatsH L ts).drop (k + 1) from zipm_del (fun x=>Reads x.2 (intsI x.1.seats)) k L ts hl hk]
 exact hw
theorem SeatsAt.set {L:List Hold} {ts:List Sl} {k:Nat} {h:Hold} {t:Sl} (hl:ts.length=L.length) (hk:k<L.length) (hw:Sat R (Reads t (intsI h.seats)::SeatsAt L ts::Hs) w):Sat R (SeatsAt (L.set k h) (ts.set k t)::Hs) w:=by
 have hw:Sat R (Reads t (intsI h.seats)::((seatsH L ts).take k++(seatsH L ts).drop (k + 1)++Hs)) w:=hw.cons fun _ h5=>(SeatsAt.pick hk (by omega) h5).drop
 refine Sat.star.2 ?_
 have hlt:k<(seatsH L ts).length:=by simp [seatsH];omega
 rw [show seatsH (L.set k h) (ts.set k t)=(seatsH L ts).take k++Reads t (intsI h.seats)::(seatsH L ts).drop (k + 1) by
  unfold seatsH at hlt ⊢
  rw [zipm_set,List.map_set,List.set_eq_take_append_cons_drop,if_pos hlt]]
 refine hw.perm ?_
 rw [List.append_assoc,List.append_assoc,List.cons_append]
 exact List.perm_middle.symm
theorem RfR.row {A C:List Hold} {hd:Hold} {r:RF} {sg sl s:Sl} {ts:List Sl} (h:RfR R r sg sl s ts) (hL:r.L=A++hd::C):∃ (t:Sl) (ht:A.length<ts.length),ts[A.length]=t∧SlR R.m t (intsI hd.seats)∧
  ∀ {S:World→Prop} {Hs:List HP} {i:Nat} {v:Value},(∀ w,S w→Sat R Hs w)→(rowH hd t)[i]? =some v→∀ {F:Addr→Prop},(∀ a:Addr,a.spot=none→At S ⟨(a.add (mulS A.length 4)).block,(a.add (mulS A.length 4)).off + i,none⟩ [v]→F a)→Rng (A.length:Int) s.len (NilP s.a F):=by
 have hl:=h.hs.len
 have i1:A.length<r.L.length:=by rw [hL];simp
 have i2:A.length<ts.length:=by omega
 have hgi:r.L[A.length]=hd:=by simp [hL]
 have hsd:=h.hs.seats A.length i1 i2
 rw [hgi] at hsd
 exact ⟨_,i2,rfl,hsd,fun {S Hs i v} hS hv {F} f=>h.hs.fld hS i1 i2 (by rw [hgi];exact hv) f⟩
end Go.Proofs.YtfgbbckfikiomaaGreatDoor
/- A flight: Encode. Condition: bounds on lengths. -/
namespace Go.Proofs.YtfgbbckfikiomaaGreatDoor
set_option linter.unusedVariables false
open Go Go.VC
variable {R:Cx} {Hs Rest:List HP} {w:World}
theorem HsR.row {s:Sl} {L:List Hold} {ts:List Sl} {S:World→Prop} {k:Nat} (hr:HsR R s L ts) (hS:∀ w,S w→Sat R Hs w) (hk:k<L.length) (hk':k<ts.length) {F:Addr→Prop}
  (f:∀ a:Addr,At S (Addr.add a (mulS k 4)) (rowH L[k] ts[k])→F a):Rng (k:Int) s.len (NilP s.a F):=by
 have hl:=rowsH_len hr.len
 refine (hr.rows.reads hS).rng (k:=k) (by omega) fun b off ha hat=>f _ ?_
 rw [elt_addr0]
 refine hat 0 _ ?_
 rw [rowsH_at hk hk']
 exact ⟨rfl,rfl,rfl,rfl,trivial⟩
structure FSmall (f:PF):Prop where
 num:0≤f.num∧f.num<9223372036854775808
 rows:0≤f.rows∧f.rows<9223372036854775808
 grps:small f.grps
 lims:small f.lims
 gl:f.grps.length≤1000
 ll:f.lims.length≤1000
 hs:∀ h∈holdsF f,HSmall h
 hl:f.hs.length≤10000
end Go.Proofs.YtfgbbckfikiomaaGreatDoor
/- A flight out of bytes: reading numbers and lists; a hold put in again. Condition: bounds on lengths. -/
namespace Go.Proofs.YtfgbbckfikiomaaGreatDoor
set_option linter.unusedVariables false
open Go Go.VC
variable {R:Cx} {Hs Rest:List HP} {w:World}
def tellF (f:PF) (o n:Int):PF:=
 match getM o f.hs with
 |none=>f
 |some h=>{ f with hs:=setM o (h.put n) f.hs,own:=putM n h.owner f.own }
def resGo (o N:Int):List Int→Int→PF→PF × Bool
 |[],_,f=>(f,true)
 |n::l,last,f=>if (getM n f.own).isSome then (f,false) else if n≤last then (f,false) else if n ≥ N then (f,false) else resGo o N l n (tellF f o n)
def restoreF (f:PF) (h:Hold):PF × Bool:=
 if (takeF f h.owner h.cls h.many).2≠0 then ((takeF f h.owner h.cls h.many).1,false)
 else if (h.seats.length:Int)>h.many then ((takeF f h.owner h.cls h.many).1,false)
 else resGo h.owner (layN f.rows f.grps) h.seats (-1) (takeF f h.owner h.cls h.many).1
end Go.Proofs.YtfgbbckfikiomaaGreatDoor
/- A flight: Decode. Condition: bounds on lengths. -/
namespace Go.Proofs.YtfgbbckfikiomaaGreatDoor
set_option linter.unusedVariables false
open Go Go.VC
variable {R:Cx} {Hs Rest:List HP} {w:World}
structure HoldIn (h:Hold):Prop where
 o:0≤h.owner∧h.owner≤28629151
 c:0≤h.cls∧h.cls≤8
 m:0≤h.many∧h.many≤600
 s:∀ x∈h.seats,0≤x∧x≤600
 n:h.seats.length≤600
abbrev PS:=PF × Bool × Int
def stepD (x:PS) (h:Hold):PS:=if x.2.1=true∧h.owner>x.2.2 then ((restoreF x.1 h).1,(restoreF x.1 h).2,h.owner) else (x.1,false,h.owner)
def fine0 (num rows:Int) (grps lims:List Int):Bool:=decide (num>0) && (layOk rows grps && (nestOk lims (List.replicate lims.length 0) && (lims.getD 0 0==layN rows grps)))
structure Raw where
 num:Int
 rows:Int
 grps:List Int
 lims:List Int
 L:List Hold
 rd:Rd
def Raw.run (x:Raw):PS:=x.L.foldl stepD (emptyF x.num x.rows x.grps x.lims,fine0 x.num x.rows x.grps x.lims,0)
structure KeepF (f f':PF):Prop where
 lims:f'.lims=f.lims
 grps:f'.grps=f.grps
 rows:f'.rows=f.rows
 num:f'.num=f.num
 sold:f'.sold.length=f.sold.length
theorem KeepF.refl (f:PF):KeepF f f:=⟨rfl,rfl,rfl,rfl,rfl⟩
theorem KeepF.trans {f f' f'':PF} (a:KeepF f f') (b:KeepF f' f''):KeepF f f'':=⟨b.lims.trans a.lims,b.grps.trans a.grps,b.rows.trans a.rows,b.num.trans a.num,b.sold.trans a.sold⟩
end Go.Proofs.YtfgbbckfikiomaaGreatDoor
/- Reference 15: Encode, list, may, Decode. Condition: bounds. -/
namespace Go.Proofs.YtfgbbckfikiomaaGreatDoor
set_option linter.unusedVariables false
open Go Go.VC
variable {R R':Cx} {Hs Rest:List HP} {w:World}
theorem numsB_one (x:Int) (l:List Int):numsB (x::l)=numsB [x]++numsB l:=by rw [show x::l=[x]++l from rfl,numsB_app]
structure RSmall (r:RF):Prop where
 num:0≤r.num∧r.num<9223372036854775808
 rows:0≤r.rows∧r.rows<9223372036854775808
 grps:small r.grps
 lims:small r.lims
 gl:r.grps.length≤1000
 ll:r.lims.length≤1000
 hs:∀ h∈r.L,HSmall h
 hl:r.L.length≤10000
end Go.Proofs.YtfgbbckfikiomaaGreatDoor
/- Reference 15: list, may, Decode. Condition: bounds. -/
namespace Go.Proofs.YtfgbbckfikiomaaGreatDoor
set_option linter.unusedVariables false
open Go Go.VC
variable {R R':Cx} {Hs Rest:List HP} {w:World}
structure OkAt (r:RF) (j:Nat) (hj:j<r.L.length):Prop where
 o:1≤r.L[j].owner
 p:∀ h:0<j,r.L[j - 1].owner<r.L[j].owner
 c:r.L[j].cls<r.lims.length
 m:1≤r.L[j].many
 n:(r.L[j].seats.length:Int)≤r.L[j].many
 s:∀ k (hk:k<r.L[j].seats.length),r.L[j].seats[k] ∉ takenL (r.L.take j)++r.L[j].seats.take k∧r.L[j].seats[k]<layN r.rows r.grps∧∀ h:0<k,r.L[j].seats[k - 1]<r.L[j].seats[k]
structure MayP (r:RF):Prop where
 num:1≤r.num
 lay:layOk r.rows r.grps=true
 lim:limOk r.lims=true
 l0:r.lims.getD 0 0=layN r.rows r.grps
 each:∀ j (hj:j<r.L.length),OkAt r j hj
 nest:nestOk r.lims r.sold=true
structure RIn (r:RF):Prop where
 gl:r.grps.length≤1000
 ll:r.lims.length≤1000
 hl:r.L.length≤1000
 hs:∀ h∈r.L,HoldIn h
end Go.Proofs.YtfgbbckfikiomaaGreatDoor

/- A flight, plain: which bytes are one, by the program and by the document. Condition: none. -/
namespace Go.Proofs.YtfgbbckfikiomaaGreatDoor
set_option linter.unusedVariables false
open Go Go.VC
variable {f:PF} {r:RF}
def SOk (N:Int) (T:List Int):List Int→Int→Prop
 |[],_=>True
 |n::l,last=>n ∉ T∧last<n∧n<N∧SOk N T l n
structure AddOk (r:RF) (h:Hold):Prop where
 c:h.cls<r.lims.length
 m:1≤h.many
 n:(h.seats.length:Int)≤h.many
 s:SOk (layN r.rows r.grps) (takenL r.L) h.seats (-1)
 nest:nestOk r.lims (soldL r.lims.length (r.L++[h]))=true
structure RawIn (x:Raw):Prop where
 num:x.num≤9999
 hs:∀ h∈x.L,HoldIn h
def Raw.at (x:Raw) (j:Nat):PS:=(x.L.take j).foldl stepD (emptyF x.num x.rows x.grps x.lims,fine0 x.num x.rows x.grps x.lims,0)
def Raw.pre (x:Raw) (j:Nat):RF:=⟨x.num,x.rows,x.grps,x.lims,x.L.take j⟩
end Go.Proofs.YtfgbbckfikiomaaGreatDoor

