/- SL, part 10: slices whose elements are structs of n cells: one's own, or only read; elements, stores, append. No condition but bounds on lengths. -/
import Derived.Test.YtlplemdmegpoeaaGreatDoorB1
import Derived.Laws.BitsAllLaws
import Derived.Lib.BitFns
import Derived.KernelRfl
import Derived.Lib.AppendZeros
import Derived.Laws.RangeAny
import Derived.Laws.MakeOwn
set_option linter.unusedVariables false
set_option linter.unusedSimpArgs false
set_option maxHeartbeats 8000000
namespace Go.VC
section
open Go Go.RowKit
variable {P:Program} {R:Cx} {Hs Rest:List HP} {w:World} {s:Sl} {T:TypeId} {n:Nat}
def Wid (n:Nat) (rows:List (List Value)):Prop:=∀ x∈rows,x.length=n
theorem Wid.nil {n:Nat}:Wid n []:=λ _ h=>by cases h
theorem Wid.app {n:Nat} {a b:List (List Value)} (ha:Wid n a) (hb:Wid n b):Wid n (a++b):=λ x hx=>(List.mem_append.1 hx).elim (ha x) (hb x)
theorem Wid.one {n:Nat} {x:List Value} (h:x.length=n):Wid n [x]:=λ y hy=>by simp at hy;rw [hy];exact h
theorem Wid.len {n:Nat}:∀ {rows:List (List Value)},Wid n rows->rows.flatten.length=rows.length * n
 |[],_=>by simp
 |x::rows,h=>by
  rw [List.flatten_cons,List.length_append,h x List.mem_cons_self,Wid.len (rows:=rows) (λ y hy=>h y (List.mem_cons_of_mem _ hy)),List.length_cons,Nat.add_mul];omega
theorem Wid.drop_flat {n:Nat}:∀ {rows:List (List Value)} (k:Nat),Wid n rows->rows.flatten.drop (k * n)=(rows.drop k).flatten
 |rows,0,_=>by simp
 |[],k + 1,_=>by simp
 |x::rows,k + 1,h=>by
  have hx:=h x List.mem_cons_self;rw [List.flatten_cons,List.drop_succ_cons,<-Wid.drop_flat (rows:=rows) k (λ y hy=>h y (List.mem_cons_of_mem _ hy)),List.drop_append];have e1:x.drop ((k + 1) * n)=[]:=List.drop_eq_nil_of_le (by rw [hx,Nat.add_mul];omega);have e2:(k + 1) * n - x.length=k * n:=by rw [hx,Nat.add_mul];omega
  rw [e1,e2,List.nil_append]
theorem Wid.take_flat {n:Nat} {rows:List (List Value)} (k:Nat) (h:Wid n rows):rows.flatten.take (k * n)=(rows.take k).flatten:=by
 by_cases hk:k<=rows.length
 ·have e:rows.flatten=(rows.take k).flatten++(rows.drop k).flatten:=by rw [<-List.flatten_append,List.take_append_drop]
  rw [e,List.take_left'];rw [Wid.len (λ x hx=>h x (List.mem_of_mem_take hx)),List.length_take,Nat.min_eq_left hk]
 ·rw [List.take_of_length_le (by rw [h.len];exact Nat.mul_le_mul_right _ (by omega)),List.take_of_length_le (by omega)]
theorem Wid.take {n k:Nat} {rows:List (List Value)} (h:Wid n rows):Wid n (rows.take k):=λ x hx=>h x (List.mem_of_mem_take hx)
theorem Wid.drop {n k:Nat} {rows:List (List Value)} (h:Wid n rows):Wid n (rows.drop k):=λ x hx=>h x (List.mem_of_mem_drop hx)
theorem Wid.set {n k:Nat} {rows:List (List Value)} {x:List Value} (h:Wid n rows) (hx:x.length=n):Wid n (rows.set k x):=λ y hy=>by
 rcases List.mem_or_eq_of_mem_set hy with hy|rfl
 ·exact h y hy
 ·exact hx
theorem Pre.app:∀ {vs a:List Value} (b:List Value),Pre vs a->Pre vs (a++b)
 |[],_,_,_=>trivial
 |_::_,_::_,b,h=>⟨h.1,Pre.app b h.2⟩
 |_::_,[],_,h=>h.elim
theorem Pre.len:∀ {vs a:List Value},Pre vs a->vs.length<=a.length
 |[],_,_=>Nat.zero_le _
 |_::_,_::_,h=>by simp only [List.length_cons];exact Nat.succ_le_succ (Pre.len h.2)
 |_::_,[],h=>h.elim
theorem Wid.pre {n k j:Nat} {rows:List (List Value)} (rest:List Value) (h:Wid n rows) (hk:k<rows.length) {vs:List Value} (hp:Pre vs (rows[k].drop j)):Pre vs ((rows.flatten++rest).drop (k * n + j)):=by
 cases vs with
 |nil=>trivial
 |cons v vs=>
  have hj:j<rows[k].length:=by
   have:=Pre.len hp;simp only [List.length_cons,List.length_drop] at this;omega
  have hx:rows[k].length=n:=h _ (List.getElem_mem _);have hle:k * n + j<=rows.flatten.length:=by
   rw [h.len];have:(k + 1) * n<=rows.length * n:=Nat.mul_le_mul_right _ (by omega);rw [Nat.add_mul] at this;omega
  rw [List.drop_append_of_le_length hle,Nat.add_comm (k * n) j,<-List.drop_drop];rw [Nat.add_comm] at hle;rw [List.drop_drop,Nat.add_comm j,<-List.drop_drop,h.drop_flat,List.drop_eq_getElem_cons hk,List.flatten_cons,List.drop_append_of_le_length (by omega),List.append_assoc];exact hp.app _
theorem ZmV {n:Nat}:∀ {rows:List (List Value)} {k j:Nat} (v:Value),Wid n rows->(hk:k<rows.length)->j<n->rows.flatten.set (k * n + j) v=(rows.set k (rows[k].set j v)).flatten
 |[],k,j,v,_,hk,_=>by simp at hk
 |x::rows,0,j,v,h,_,hj=>by
  have hx:=h x List.mem_cons_self;simp only [Nat.zero_mul,Nat.zero_add,List.flatten_cons,List.getElem_cons_zero,List.set_cons_zero];rw [List.set_append_left _ _ (by omega)]
 |x::rows,k + 1,j,v,h,hk,hj=>by
  have hx:=h x List.mem_cons_self;have hk':k<rows.length:=by simpa using hk
  simp only [List.flatten_cons,List.getElem_cons_succ,List.set_cons_succ];rw [List.set_append_right _ _ (by rw [hx,Nat.add_mul];omega)];have e:(k + 1) * n + j - x.length=k * n + j:=by rw [hx,Nat.add_mul];omega
  rw [e,ZmV v (λ y hy=>h y (List.mem_cons_of_mem _ hy)) hk' hj]
theorem ZkN {n:Nat} {rest:List Value}:∀ (vs:List Value) {rows:List (List Value)} {k j:Nat},Wid n rows->(hk:k<rows.length)->j + vs.length<=n->
  ZcK (rows.flatten++rest) (k * n + j) vs=(rows.set k (ZcK rows[k] j vs)).flatten++rest
 |[],rows,k,j,_,hk,_=>by simp [ZcK]
 |v::vs,rows,k,j,h,hk,hj=>by
  simp only [List.length_cons] at hj;have hb:k * n + j<rows.flatten.length:=by
   rw [h.len];have:(k + 1) * n<=rows.length * n:=Nat.mul_le_mul_right _ (by omega);rw [Nat.add_mul] at this;omega
  rw [ZcK,List.set_append_left _ _ hb,ZmV v h hk (by omega),Nat.add_assoc,ZkN vs (h.set (by rw [List.length_set];exact h _ (List.getElem_mem _))) (by simpa using hk) (by omega)];simp [ZcK]
def Zl (n:Nat) (s:Sl) (T:TypeId) (rows:List (List Value)):HP:=λ h=>
 Wid n rows/\((s=⟨none,0,0⟩/\rows=[]/\h=ZX.none)\/
  ∃ b rest fr cap,s=⟨some ⟨b,0,none⟩,rows.length,cap⟩/\(rows.flatten++rest).length=cap * n/\Zl1 (cap * n) fr/\h=ZX.one b (.cells (rows.flatten++rest).toArray T fr))
theorem Zl.nil (h:Sat R Hs w):Sat R (Zl n ⟨none,0,0⟩ T []::Hs) w:=
 ⟨ZX.none,⟨Wid.nil,.inl ⟨rfl,rfl,rfl⟩⟩,λ i hi=>absurd rfl hi,by rw [Cx.add_none];exact h⟩
theorem Zl.of_pts {b cap:Nat} {fr:Nat × Nat} {rows:List (List Value)} {rest:List Value} (hwid:Wid n rows) (hl:(rows.flatten++rest).length=cap * n) (h:Sat R (pts b (.cells (rows.flatten++rest).toArray T fr)::Hs) w)
  (hf:Zl1 (cap * n) fr:=by first|assumption|exact Or.inl rfl):Sat R (Zl n ⟨some ⟨b,0,none⟩,rows.length,cap⟩ T rows::Hs) w:=
 let ⟨a,ha,hd,hs⟩:=h;⟨a,⟨hwid,.inr ⟨b,rest,fr,cap,rfl,hl,hf,ha⟩⟩,hd,hs⟩
theorem Zl.cases {rows:List (List Value)} (h:Sat R (Zl n s T rows::Hs) w):Wid n rows/\
  ((s=⟨none,0,0⟩/\rows=[]/\Sat R Hs w)\/∃ b rest fr cap,s=⟨some ⟨b,0,none⟩,rows.length,cap⟩/\(rows.flatten++rest).length=cap * n/\Zl1 (cap * n) fr/\Sat R (pts b (.cells (rows.flatten++rest).toArray T fr)::Hs) w):=by
 obtain ⟨a,⟨hwid,ha⟩,hd,hs⟩:=h;refine ⟨hwid,?_⟩;rcases ha with ⟨h1,h2,rfl⟩|⟨b,rest,fr,cap,h1,h3,hf,rfl⟩
 ·rw [Cx.add_none] at hs;exact .inl ⟨h1,h2,hs⟩
 ·exact .inr ⟨b,rest,fr,cap,h1,h3,hf,_,rfl,hd,hs⟩
theorem Zl.wid {rows:List (List Value)} (h:Sat R (Zl n s T rows::Hs) w):Wid n rows:=(Zl.cases h).1
theorem Zl.len {rows:List (List Value)} (h:Sat R (Zl n s T rows::Hs) w):s.len=rows.length:=by
 rcases (Zl.cases h).2 with ⟨rfl,rfl,_⟩|⟨b,rest,fr,cap,rfl,_,_⟩<;>rfl
theorem Zl.cap {rows:List (List Value)} (hn:0<n) (h:Sat R (Zl n s T rows::Hs) w):s.len<=s.cap:=by
 have hwid:=(Zl.cases h).1;rcases (Zl.cases h).2 with ⟨rfl,rfl,_⟩|⟨b,rest,fr,cap,rfl,hl,_⟩
 ·exact Nat.le_refl _
 ·rw [List.length_append,hwid.len] at hl
  simp only;have:rows.length * n<=cap * n:=by omega
  exact Nat.le_of_mul_le_mul_right this hn
def ZcG (n:Nat) (s:Sl) (rows:List (List Value)) (S:World->Prop):Prop:=
 s.len=rows.length/\∀ k (hk:k<rows.length),∃ b off,s.a=some ⟨b,off,none⟩/\∀ j vs,Pre vs (rows[k].drop j)->At S ⟨b,off + (k * n + j),none⟩ vs
theorem Zl.reads {rows:List (List Value)} (hw:Sat R (Zl n s T rows::Hs) w) {S:World->Prop} {Hs'} (hS:∀ w,S w->Sat R (Zl n s T rows::Hs') w):ZcG n s rows S:=by
 refine ⟨Zl.len hw,λ k hk=>?_⟩;obtain ⟨hwid,⟨_,rfl,_⟩|⟨b,rest,fr,cap,rfl,hl,_,_⟩⟩:=Zl.cases hw
 ·simp at hk
 ·refine ⟨b,0,rfl,λ j vs hp w hw i v hv=>?_⟩
  obtain ⟨_,⟨h0,_,_⟩|⟨b',rest',fr',cap',he,_,_,h⟩⟩:=Zl.cases (hS w hw)
  ·cases h0
  ·simp only [Sl.mk.injEq,Option.some.injEq,Addr.mk.injEq,and_true] at he
   obtain ⟨rfl,_⟩:=he;have:=(Wid.pre rest' hwid hk hp).get i v hv;rw [List.getElem?_drop] at this;rw [Zs,Nat.zero_add,Zas h.at,this]
theorem Zl.readsT {rows:List (List Value)} {S:World->Prop} {Hs':List HP} (hw:Sat R Hs w) (t:ZfA (Zl n s T rows) Hs Rest) {Rest':List HP} (hS:∀ w,S w->Sat R Hs' w) (t':ZfA (Zl n s T rows) Hs' Rest'):ZcG n s rows S:=
 Zl.reads (hw.perm t.perm) λ w h=>(hS w h).perm t'.perm
theorem ZcG.rng {S:World->Prop} {rows:List (List Value)} (h:ZcG n s rows S) {k:Nat} (hk:k<rows.length) {F:Addr->Prop} (f:∀ b off,s.a=some ⟨b,off,none⟩->(∀ j vs,Pre vs (rows[k].drop j)->At S ⟨b,off + (k * n + j),none⟩ vs)->F ⟨b,off,none⟩):
  Rng (k:Int) s.len (Zb s.a F):=by
 obtain ⟨b,off,ha,hat⟩:=h.2 k hk;have:=h.1;exact Rng.mk (by omega) (by omega) (Zb.mk ha (f b off ha hat))
theorem ZjG (b off k n j:Nat):(⟨(Addr.add ⟨b,off,none⟩ (ZaD k n)).block,(Addr.add ⟨b,off,none⟩ (ZaD k n)).off + j,none⟩:Addr)=⟨b,off + (k * n + j),none⟩:=by
 rw [Zs,ZfO];simp only [Addr.mk.injEq,and_true,true_and];omega
theorem Zhx (b off k n:Nat):Addr.add ⟨b,off,none⟩ (ZaD k n)=⟨b,off + (k * n + 0),none⟩:=by
 rw [Zs,ZfO];rfl
theorem Zl.store {rows:List (List Value)} {t:TypeId} {v:Value} {k j:Nat} {b off:Nat} {K:World->Prop} (hw:Sat R (Zl n s T rows::Hs) w) (ha:s.a=some ⟨b,off,none⟩) (hsz:(P.info? t).map (·.size)=some v.cells.toList.length) (h1:ZR v.cells.toList=true)
  (hk:k<rows.length) (hj:j + v.cells.toList.length<=n) (h:∀ w',Sat R (Zl n s T (rows.set k (ZcK rows[k] j v.cells.toList))::Hs) w'->K w'):
  ∃ w',(Instr.storeAt t (.pointer (some ⟨b,off + (k * n + j),none⟩)) v).run P w=.ok () w'/\K w':=by
 obtain ⟨hwid,⟨rfl,_,_⟩|⟨b',rest,fr,cap,rfl,hl,hf,hp⟩⟩:=Zl.cases hw
 ·cases ha
 ·simp only [Option.some.injEq,Addr.mk.injEq,and_true] at ha
  obtain ⟨rfl,rfl⟩:=ha;have hlt:(k + 1) * n<=rows.length * n:=Nat.mul_le_mul_right _ (by omega);rw [Nat.add_mul] at hlt;have hll:=hl;rw [List.length_append,hwid.len] at hll;rw [Nat.zero_add];refine ZK hp hsz h1 (by rw [List.length_append,hwid.len];omega) (λ w' h2=>h w' ?_) (by rw [hl];exact hf);rw [ZkN _ hwid hk hj] at h2;have hl2:(ZcK rows[k] j v.cells.toList).length=n:=by rw [Zbl];exact hwid _ (List.getElem_mem _)
  have:=Zl.of_pts (cap:=cap) (hwid.set hl2) (by rw [<-hl,List.length_append,List.length_append,(hwid.set hl2).len,List.length_set,hwid.len]) h2;rw [List.length_set] at this;exact this
structure RoN (n:Nat) (R:Cx) (s:Sl) (rows:List (List Value)):Prop where
 wid:Wid n rows
 len:s.len=rows.length
 mem:rows≠[]->∃ b off l T fr,s.a=some ⟨b,off,none⟩/\R.m b=some (.cells l T fr)/\∀ (i:Nat) v,rows.flatten[i]? =some v->l[off + i]? =some v
theorem RoN.reads {rows:List (List Value)} (hr:RoN n R s rows) {S:World->Prop} {Hs'} (hS:∀ w,S w->Sat R Hs' w):ZcG n s rows S:=by
 refine ⟨hr.len,λ k hk=>?_⟩;obtain ⟨b,off,l,T,fr,ha,hb,hl⟩:=hr.mem (λ h=>by rw [h] at hk;simp at hk);refine ⟨b,off,ha,λ j vs hp w hw i v hv=>?_⟩;have h1:=(Wid.pre [] hr.wid hk hp).get i v hv;rw [List.append_nil,List.getElem?_drop] at h1;have:=(hS w hw).of_ro hb;rw [Zs];simp only [World.cell?,this,Option.isSome_none,Bool.false_eq_true,if_false];rw [Nat.add_assoc];exact hl _ _ h1
theorem Zl.lend {rows:List (List Value)} (h:Sat R (Zl n s T rows::Hs) w):
  ∃ R':Cx,RoN n R' s rows/\(∃ x,R'=R.add x)/\Sat R' Hs w/\∀ {Hs' w'},Sat R' Hs' w'->Sat R (Zl n s T rows::Hs') w':=by
 obtain ⟨hwid,⟨rfl,rfl,h2⟩|⟨b,rest,fr,cap,rfl,hl,hf,h2⟩⟩:=Zl.cases h
 ·exact ⟨R,⟨hwid,rfl,λ h=>absurd rfl h⟩,⟨ZX.none,(Cx.add_none R).symm⟩,h2,λ h=>Zl.nil h⟩
 ·obtain ⟨hn,h3⟩:=Sat.lend.1 h2
  refine ⟨_,⟨hwid,rfl,λ _=>⟨b,0,_,T,fr,rfl,Cx.lent hn,λ i v hv=>?_⟩⟩,⟨_,rfl⟩,h3,λ h=>Zl.of_pts hwid hl (Sat.lend.2 ⟨hn,h⟩)⟩;obtain ⟨hi,rfl⟩:=List.getElem?_eq_some_iff.1 hv;simp [List.getElem?_append_left hi]
theorem RoN.sub {rows:List (List Value)} (hr:RoN n R s rows) {l h m:Nat} (hlh:l<=h) (hh:h<=rows.length) (hm:m=l->h=l):RoN n R ⟨ZbI s.a l m n,h - l,m - l⟩ ((rows.take h).drop l):=by
 have hwid:Wid n ((rows.take h).drop l):=hr.wid.take.drop;refine ⟨hwid,by simp;omega,λ hne=>?_⟩;have hlt:l<h:=by
  have:0<((rows.take h).drop l).length:=List.length_pos_iff.2 hne;simp at this;omega
 obtain ⟨b,off,ls,T,fr,ha,hb,hl⟩:=hr.mem (λ h0=>by rw [h0] at hh;simp at hh;omega);refine ⟨b,off + l * n,ls,T,fr,?_,hb,λ i v hv=>?_⟩
 ·unfold ZbI
  rw [if_neg (λ e=>by have:=hm e;omega),ha];simp [Zs]
 ·rw [Nat.add_assoc]
  refine hl _ _ ?_;have e1:((rows.take h).drop l).flatten=(rows.flatten.take (h * n)).drop (l * n):=by
   rw [hr.wid.take_flat,hr.wid.take.drop_flat]
  rw [e1,List.getElem?_drop] at hv;rw [List.getElem?_take] at hv;split at hv
  ·exact hv
  ·cases hv
theorem RoN.take {rows:List (List Value)} (hr:RoN n R s rows) {h:Nat} (hh:h<=rows.length) (c:Nat):RoN n R ⟨s.a,h,c⟩ (rows.take h):=
 ⟨hr.wid.take,by simp;omega,λ hne=>by
  obtain ⟨b,off,ls,T,fr,ha,hb,hl⟩:=hr.mem (λ h0=>hne (by rw [h0];simp));refine ⟨b,off,ls,T,fr,ha,hb,λ i v hv=>hl _ _ ?_⟩;rw [<-hr.wid.take_flat,List.getElem?_take] at hv;split at hv
  ·exact hv
  ·cases hv⟩
def ZxC (P:Program) (T:TypeId) (n bytes:Nat):Bool:=
 match P.info? T with
 |some i=>match i.zero with
  |some z=>i.size==n && i.bytes==bytes && z.cells.size==n
  |none=>false
 |none=>false
structure ElN (P:Program) (t1 t2 T:TypeId) (n bytes:Nat):Prop where
 ht:P.underlying t1=some (.slice T)
 hk:∃ e',P.underlying t2=some (.slice e')
 hi:ZxC P T n bytes=true
theorem ZjH {P:Program} {T:TypeId} {n bytes:Nat} (h:ZxC P T n bytes=true):∃ i z,P.info? T=some i/\i.zero=some z/\i.size=n/\i.bytes=bytes/\z.cells.size=n:=by
 unfold ZxC at h;split at h
 ·rename_i i hi
  split at h
  ·rename_i z hz
   simp only [Bool.and_eq_true,beq_iff_eq] at h;exact ⟨i,z,hi,hz,h.1.1,h.1.2,h.2⟩
  ·cases h
 ·cases h
theorem Z4 {t1 t2 ty:TypeId} {bytes:Nat} (E:ElN P t1 t2 T n bytes) {rows ys:List (List Value)} {src:Value} {K:Sl->World->Prop}
  (hw:Sat R (Zl n s T rows::Hs) w) (hs:Src P n t2 src ys.length ys.flatten w) (hy:Wid n ys) (hb:2 * (rows.length + ys.length) * bytes<=281474976710656) (hb':rows.length + ys.length<=9223372036854775807)
  (k:∀ s' w',Sat R (Zl n s' T (rows++ys)::Hs) w'->K s' w'):
  ∃ w',∃ t:Sl,(Builtin.append_ #[t1,t2] ty #[.slice s.a s.len s.cap,src]).run P w=.ok (.slice t.a t.len t.cap) w'/\K t w':=by
 obtain ⟨i,z,hi,hz,hsize,hbytes,hzc⟩:=ZjH E.hi;have hs':Src P i.size t2 src ys.length ys.flatten w:=by rw [hsize];exact hs
 have hlen:=Zl.len hw;have hwid:=Zl.wid hw;have hwid2:=hwid.app hy;generalize hcn:ys.length=c at *;have fit:∀ cap,cap<rows.length + c->Builtin.nextslicecap (rows.length + c) cap * i.bytes<=281474976710656:=λ cap hc=>by
  have h2:Builtin.nextslicecap (rows.length + c) cap<=2 * (rows.length + c):=by
   unfold Builtin.nextslicecap;split
   ·omega
   ·split
    ·omega
    ·have:=nextslicecap_le_wide hc
     unfold Builtin.nextslicecap at this;rw [if_neg (by assumption),if_neg (by assumption)] at this;omega
  rw [hbytes];exact Nat.le_trans (Nat.mul_le_mul_right _ h2) hb
 -- a new row
 have grow:∀ (base:Option Addr) (cap:Nat),cap<rows.length + c->(Builtin.firstCells i.size rows.length (.slice base rows.length cap)).run P w.drew=.ok rows.flatten.toArray w.drew->Sat R Hs w->
   ∃ w',∃ t:Sl,(Builtin.append_ #[t1,t2] ty #[.slice base rows.length cap,src]).run P w=.ok (.slice t.a t.len t.cap) w'/\K t w':=λ base cap hc hold hw=>by
  have hr:=run_append_grow_src w t1 t2 ty T i z E.ht hi hz base rows.length cap rows.flatten hold src c ys.flatten hs' hc (by omega) (fit cap hc);refine ⟨_,⟨some ⟨w.heap.size,0,none⟩,rows.length + c,grownCap w (rows.length + c) cap T⟩,hr,k _ _ ?_⟩;have hz0:(Builtin.zeroCells z.cells (grownCap w (rows.length + c) cap T - (rows.length + c))).size=(grownCap w (rows.length + c) cap T - (rows.length + c)) * n:=by
   simp [Builtin.zeroCells,hzc]
  have hg:=grownCap_ge w (rows.length + c) cap T;generalize hG:grownCap w (rows.length + c) cap T=G at *;have ho':Obj.cells ((rows.flatten++ys.flatten).toArray++Builtin.zeroCells z.cells (G - (rows.length + c))) T=.cells ((rows++ys).flatten++(Builtin.zeroCells z.cells (G - (rows.length + c))).toList).toArray T (0,0):=by
   congr 1
   apply Array.ext';simp
  have:=Sat.alloc (Obj.cells ((rows.flatten++ys.flatten).toArray++Builtin.zeroCells z.cells (G - (rows.length + c))) T) (Sat.drew hw);rw [ho'] at this ⊢;have hlenG:((rows++ys).flatten++(Builtin.zeroCells z.cells (G - (rows.length + c))).toList).length=G * n:=by
   have hz1:(Builtin.zeroCells z.cells (G - (rows.length + c))).toList.length=(G - (rows.length + c)) * n:=by rw [Array.length_toList];exact hz0
   rw [List.length_append,hz1,hwid2.len,List.length_append,hcn,<-Nat.add_mul]
   congr 1;omega
  have h3:=Zl.of_pts (cap:=G) hwid2 hlenG this;have e:(⟨some ⟨w.drew.heap.size,0,none⟩,(rows++ys).length,G⟩:Sl)=⟨some ⟨w.heap.size,0,none⟩,rows.length + c,G⟩:=by
   simp only [List.length_append,World.size_drew,hcn]
  rw [e] at h3;exact h3
 obtain ⟨_,⟨rfl,rfl,hz2⟩|⟨b,rest,fr,cap,rfl,hl,hfr,hp⟩⟩:=Zl.cases hw
 ·by_cases hn0:c=0
  ·subst hn0
   have hy0:ys=[]:=List.length_eq_zero_iff.1 hcn;subst hy0;obtain ⟨e',he'⟩:=E.hk;refine ⟨w,⟨none,0,0⟩,?_,k _ _ (by simpa using Zl.nil hz2)⟩;have hcz:=hs'.cells;simp [Builtin.append_,run_underlying E.ht,run_underlying he',sizeOf,typeInfo,hi,hs'.len,hcz]
  ·exact grow none 0 (by simp;omega) (run_firstCells_none w.drew i.size 0 0 0) hz2
 ·have hl0:=hl
  rw [List.length_append,hwid.len] at hl;by_cases hroom:rows.length + c<=cap
  ·have hat:=hp.at
   have hcapn:(rows.length + c) * n<=cap * n:=Nat.mul_le_mul_right _ hroom;rw [Nat.add_mul] at hcapn;have hyl:ys.flatten.length=c * n:=by rw [hy.len,hcn]
   have hr:=run_append_room_src w t1 t2 ty T i E.ht hi b 0 rows.length cap src c ys.flatten hs' hroom
    (λ j hj=>by
     rw [Zas hat,hsize,List.getElem?_eq_getElem (by rw [hl0];omega)];rfl) (λ j hj=>Zcz hat hfr (by rw [hsize];omega))
   refine ⟨_,⟨some ⟨b,0,none⟩,rows.length + c,cap⟩,hr,k _ _ ?_⟩;have h2:=ZaQ ys.flatten (rows.flatten++rest) (rows.length * n) w hp;have e1:ZcK (rows.flatten++rest) (rows.length * n) ys.flatten=(rows++ys).flatten++rest.drop (c * n):=by
    rw [ZeB _ _ _ (by rw [hyl,hl0];omega),List.take_left' hwid.len,hyl,<-List.drop_drop,List.drop_left' hwid.len];simp
   rw [e1] at h2;rw [hsize,Nat.zero_add];have h3:=Zl.of_pts (cap:=cap) hwid2 (by rw [List.length_append,hwid2.len,List.length_append,hcn,List.length_drop,Nat.add_mul];omega) h2;rw [List.length_append,hcn] at h3;exact h3
  ·have hat:=hp.at
   refine grow (some ⟨b,0,none⟩) cap (by omega) ?_ hp.drop;refine run_firstCells_some w.drew i.size rows.length ⟨b,0,none⟩ rows.length _ rows.flatten (by rw [hsize,hwid.len]) ?_;intro j u hj;rw [World.cell?_drew,Zs,Zas hat,Nat.zero_add];obtain ⟨hlt,rfl⟩:=List.getElem?_eq_some_iff.1 hj;simp [List.getElem?_append_left hlt]
theorem Zfx {t2:TypeId} (hk:∃ e',P.underlying t2=some (.slice e')) {b:Nat} {x:List Value} {fr:Nat × Nat} (c:Nat)
  (hw:Sat R Hs w) [t:ZcT b Hs (.cells x.toArray T fr) Rest] (hx:x.length=n) (h1:ZR x=true):Src P n t2 (.slice (some ⟨b,0,none⟩) 1 c) [x].length [x].flatten w:=by
 obtain ⟨e',he'⟩:=hk;refine Go.Src.ofSlice w he' _ 1 c _ (by simp [hx]) ?_ ?_
 ·intro j u hj
  have:=hw.look b;rw [Zs,Zas this];simpa using hj
 ·intro u hu;simp at hu;exact List.all_eq_true.1 h1 u hu
theorem Zdq {t2:TypeId} (ht:∃ e',P.underlying t2=some (.slice e')) {rows:List (List Value)} (hw:Sat R Hs w) (hs:RoN n R s rows) (h1:ZR rows.flatten=true):Src P n t2 (.slice s.a s.len s.cap) rows.length rows.flatten w:=by
 obtain ⟨e',ht⟩:=ht;have hl:s.len=rows.length:=hs.len;by_cases hx:rows=[]
 ·subst hx
  obtain ⟨a,n,c⟩:=s;simp only [List.length_nil] at hl;subst hl;cases a with
  |none=>exact Go.Src.ofNil _ ht _
  |some a=>exact Go.Src.ofSlice w ht _ 0 _ [] (by simp) (λ j u hj=>by simp at hj) (λ u hu=>by cases hu)
 ·obtain ⟨b,off,l,T,fr,ha,hb,hel⟩:=hs.mem hx
  obtain ⟨a,n,c⟩:=s;simp only at ha hl;subst ha hl;refine Go.Src.ofSlice w ht _ _ _ _ (by rw [hs.wid.len]) (λ j u hj=>?_) (λ u hu=>List.all_eq_true.1 h1 u hu);rw [Zs];have:=hw.of_ro hb;simp only [World.cell?,this,Option.isSome_none,Bool.false_eq_true,if_false];exact hel j u hj
theorem Zd7 {t1 t2 ty T':TypeId} {bytes:Nat} (E:ElN P t1 t2 T n bytes) {rows:List (List Value)} {x:List Value} {K:Sl->World->Prop}
  (hw:Sat R (Zl n s T rows::Hs) w) (hx:x.length=n) (h1:ZR x=true) (hb:2 * (rows.length + 1) * bytes<=281474976710656) (hb':rows.length + 1<=9223372036854775807)
  (k:∀ s' w',Sat R (Zl n s' T (rows++[x])::Hs) w'->K s' w'):
  New (.cells x.toArray T' (0,0)) (λ b w=>∃ w',∃ t:Sl,(Builtin.append_ #[t1,t2] ty #[.slice s.a s.len s.cap,.slice (some ⟨b,0,none⟩) 1 1]).run P w=.ok (.slice t.a t.len t.cap) w'/\K t w') w:=by
 refine Za hw λ b w hw=>?_;have hw:Sat R (pts b (.cells x.toArray T' (0,0))::Zl n s T rows::Hs) w:=hw;exact Z4 E hw.swap (Zfx E.hk 1 hw hx h1) (Wid.one hx) hb hb' λ s' w' h=>k s' w' h.swap.drop
theorem Zl.empty {b:Nat} {fr:Nat × Nat} (h:Sat R (pts b (.cells #[] T fr)::Hs) w):Sat R (Zl n ⟨some ⟨b,0,none⟩,0,0⟩ T []::Hs) w:=
 Zl.of_pts (rows:=[]) (rest:=[]) (cap:=0) Wid.nil (by simp) h (.inr (by simp))
theorem Zbg {t1 t2 ty:TypeId} {bytes b:Nat} {fr:Nat × Nat} (E:ElN P t1 t2 T n bytes) {ys:List (List Value)} {src:Value} {K:Sl->World->Prop}
  (hw:Sat R Hs w) [tk:ZcT b Hs (.cells ([]:List Value).toArray T fr) Rest] (hs:Src P n t2 src ys.length ys.flatten w) (hy:Wid n ys) (hb:2 * ys.length * bytes<=281474976710656) (hb':ys.length<=9223372036854775807)
  (k:∀ s' w',Sat R (Zl n s' T ys::Rest) w'->K s' w'):
  ∃ w',∃ t:Sl,(Builtin.append_ #[t1,t2] ty #[.slice (some ⟨b,0,none⟩) 0 0,src]).run P w=.ok (.slice t.a t.len t.cap) w'/\K t w':=by
 have h2:=Z4 (ty:=ty) (s:=⟨some ⟨b,0,none⟩,0,0⟩) (K:=K) E (Zl.empty (hw.takeP tk)) hs hy (by simpa using hb) (by simpa using hb') (by simpa using k);exact h2
theorem Zgb {t1 t2 ty:TypeId} {bytes b:Nat} {fr:Nat × Nat} (E:El P t1 t2 T bytes) {ys:List Value} {src:Value} {m:Nat} {K:Sl->World->Prop}
  (hw:Sat R Hs w) [tk:ZcT b Hs (.cells ([]:List Value).toArray T fr) Rest] (hs:Src P 1 t2 src m ys w) (hb:2 * m * bytes<=281474976710656) (hb':m<=9223372036854775807)
  (k:∀ s' w',Sat R (Own s' T ys::Rest) w'->K s' w'):
  ∃ w',∃ t:Sl,(Builtin.append_ #[t1,t2] ty #[.slice (some ⟨b,0,none⟩) 0 0,src]).run P w=.ok (.slice t.a t.len t.cap) w'/\K t w':=by
 have h0:Sat R (Own ⟨some ⟨b,0,none⟩,0,0⟩ T []::Rest) w:=Own.of_pts (xs:=[]) (rest:=[]) (hw.takeP tk) (.inr (by simp));have h2:=ZcD (ty:=ty) (s:=⟨some ⟨b,0,none⟩,0,0⟩) (K:=K) E h0 hs rfl (by simpa using hb) (by simpa using hb') (by simpa using k);exact h2
structure Elt (n:Nat) (S:World->Prop) (a:Addr) (k:Nat) (row:List Value):Prop where
 f:∀ (j:Nat) {vs:List Value},Pre vs (row.drop j)->At S ⟨(Addr.add a (ZaD (k:Int).toNat n)).block,(Addr.add a (ZaD (k:Int).toNat n)).off + j,none⟩ vs
 z:∀ {vs:List Value},Pre vs row->At S (Addr.add a (ZaD (k:Int).toNat n)) vs
 zz:∀ {vs:List Value},Pre vs row->At S (Addr.add (Addr.add a (ZaD (k:Int).toNat n)) 0) vs
theorem ZoV (b off k n:Nat):Addr.add (Addr.add ⟨b,off,none⟩ (ZaD k n)) 0=⟨b,off + (k * n + 0),none⟩:=by
 rw [Zhx,Zs];rfl
theorem ZcG.rngM {α:Type} {E:List α} {g:α->List Value} {S:World->Prop} (h:ZcG n s (E.map g) S) {k:Nat} (hk:k<E.length) {F:Addr->Prop} (f:∀ a,s.a=some a->Elt n S a k (g E[k])->F a):Rng (k:Int) s.len (Zb s.a F):=by
 have hg:(E.map g)[k]'(by simpa using hk)=g E[k]:=by simp
 refine h.rng (k:=k) (by simpa using hk) λ b off ha hat=>f _ ha ⟨λ j vs hp=>?_,λ hp=>?_,λ hp=>?_⟩
 ·rw [Int.toNat_natCast,ZjG];exact hat j _ (by rw [hg];exact hp)
 ·rw [Int.toNat_natCast,Zhx];exact hat 0 _ (by rw [hg];exact hp)
 ·rw [Int.toNat_natCast,ZoV];exact hat 0 _ (by rw [hg];exact hp)
theorem Zl.readsM {rows:List (List Value)} (hw:Sat R Hs w) [t:ZfA (Zl n s T rows) Hs Rest] {S:World->Prop} (hS:∀ w,S w->Sat R Hs w):ZcG n s rows S:=
 Zl.reads (hw.perm t.perm) λ w h=>(hS w h).perm t.perm
theorem Zl.storeM {α:Type} {E:List α} {g:α->List Value} {t:TypeId} {v:Value} {k:Nat} {a:Addr} {K:World->Prop} (j:Nat) (e':α) (hw:Sat R Hs w) [tk:ZfA (Zl n s T (E.map g)) Hs Rest] (ha:s.a=some a) (hk:k<E.length)
  (hsz:(P.info? t).map (·.size)=some v.cells.toList.length) (h1:ZR v.cells.toList=true) (hj:j + v.cells.toList.length<=n) (he:ZcK (g E[k]) j v.cells.toList=g e')
  (h:∀ w',Sat R (Zl n s T ((E.set k e').map g)::Rest) w'->K w'):
  ∃ w',(Instr.storeAt t (.pointer (some ⟨(Addr.add a (ZaD (k:Int).toNat n)).block,(Addr.add a (ZaD (k:Int).toNat n)).off + j,none⟩)) v).run P w=.ok () w'/\K w':=by
 have hw:=hw.perm tk.perm;have hg:(E.map g)[k]'(by simpa using hk)=g E[k]:=by simp
 have hb:∃ b off,a=⟨b,off,none⟩:=by
  obtain ⟨_,⟨rfl,_,_⟩|⟨b',rest,fr,cap,rfl,hl,hf,hp⟩⟩:=Zl.cases hw
  ·cases ha
  ·simp only [Option.some.injEq] at ha;exact ⟨b',0,ha.symm⟩
 obtain ⟨b,off,rfl⟩:=hb;rw [Int.toNat_natCast,ZjG];refine Zl.store hw ha hsz h1 (by simpa using hk) hj λ w' h2=>h w' ?_;rw [hg,he] at h2;rw [List.map_set];exact h2
class Arr (Hs Hs':List HP):Prop where
 perm:Hs.Perm Hs'
instance (priority:=2000) Arr.refl {Hs:List HP}:Arr Hs Hs:=⟨List.Perm.refl _⟩
instance Arr.cons {A:HP} {Hs Rest Hs':List HP} [t:ZfA A Hs Rest] [r:Arr Rest Hs']:Arr Hs (A::Hs'):=⟨t.perm.trans (r.perm.cons A)⟩
theorem Sat.arr {Hs':List HP} (h:Sat R Hs w) [a:Arr Hs Hs']:Sat R Hs' w:=h.perm a.perm
theorem Br.d {p:Prop} {inst:Decidable p} {A B:Prop} (h:p->A) (h':¬ p->B):Br (@decide p inst) A B:=Br.mk (λ e=>h (of_decide_eq_true e)) (λ e=>h' (of_decide_eq_false e))
theorem Br.nd {p:Prop} {inst:Decidable p} {A B:Prop} (h:¬ p->A) (h':p->B):Br (!@decide p inst) A B:=Br.mk (λ e=>h (by simpa using e)) (λ e=>h' (by simpa using e))
theorem Br.e {x y:Int} {A B:Prop} (h:x=y->A) (h':¬ x=y->B):Br (x==y) A B:=Br.mk (λ e=>h (by simpa using e)) (λ e=>h' (by simpa using e))
theorem Br.ne {x y:Int} {A B:Prop} (h:¬ x=y->A) (h':x=y->B):Br (x !=y) A B:=Br.mk (λ e=>h (by simpa using e)) (λ e=>h' (by simpa using e))
theorem Br.nb {b:Bool} {A B:Prop} (h:b=false->A) (h':b=true->B):Br (!b) A B:=Br.mk (λ e=>h (by simpa using e)) (λ e=>h' (by simpa using e))
theorem ZpE (a b:ByteArray):(a.toList==b.toList)=decide (a=b):=by
 rw [ByteArray.toList_eq,ByteArray.toList_eq];by_cases h:a=b
 ·simp [h]
 ·have:a.data≠b.data:=λ h2=>h (by cases a;cases b;simp_all)
  simp [h,this]
theorem Br.se {x y:ByteArray} {A B:Prop} (h:x=y->A) (h':¬ x=y->B):Br (x.toList==y.toList) A B:=by rw [ZpE];exact Br.d h h'
theorem Br.sne {x y:ByteArray} {A B:Prop} (h:¬ x=y->A) (h':x=y->B):Br (!(x.toList==y.toList)) A B:=by rw [ZpE];exact Br.nd h h'
end
theorem Zj5 {x:Int} (h0:0<=x) (h1:x<256):IntKind.u8.wrap x=x:=by rw [IntKind.wrap_u8'];omega
theorem ZtZ (x:Int):IntKind.u8.wrap x=x % 256:=IntKind.wrap_u8' x
theorem Zar {x:Int} (h0 : 0<=x := by omega) (h1 : x<18446744073709551616 := by omega):IntKind.u64.wrap x=x:=by rw [IntKind.wrap_u64];omega
theorem Zfr (n x:Nat) (h:x<2 ^ n):(BitVec.ofInt n (x:Int)).toNat=x:=by
 rw [BitVec.toNat_ofInt];have:((x:Int) % (2 ^ n:Nat))=x:=Int.emod_eq_of_lt (by omega) (by exact_mod_cast h);rw [this];rfl
theorem ZzQ {x y:Nat} (hx:x<18446744073709551616) (hy:y<18446744073709551616):ZnH .or .u64 x y=((x|||y:Nat):Int):=by
 have e:(BitVec.ofInt 64 (x:Int)|||BitVec.ofInt 64 (y:Int)).toNat=x|||y:=by rw [BitVec.toNat_or,Zfr 64 x hx,Zfr 64 y hy]
 show IntKind.u64.wrap (((BitVec.ofInt 64 (x:Int)|||BitVec.ofInt 64 (y:Int)).toNat:Nat):Int)=_;rw [e];have:x|||y<18446744073709551616:=Nat.or_lt_two_pow (n:=64) hx hy
 exact Zar
theorem Zyt {x y:Nat} (hx:x<18446744073709551616) (hy:y<18446744073709551616):ZnH .and .u64 x y=((x &&& y:Nat):Int):=by
 have e:(BitVec.ofInt 64 (x:Int) &&& BitVec.ofInt 64 (y:Int)).toNat=x &&& y:=by rw [BitVec.toNat_and,Zfr 64 x hx,Zfr 64 y hy]
 show IntKind.u64.wrap (((BitVec.ofInt 64 (x:Int) &&& BitVec.ofInt 64 (y:Int)).toNat:Nat):Int)=_;rw [e];have:x &&& y<18446744073709551616:=Nat.and_lt_two_pow (n:=64) x hy;exact Zar
section
variable {P:Program} {R:Cx} {Hs Rest:List HP} {w:World} {s:Sl}
structure SlR (h:ZX) (s:Sl) (xs:List Value):Prop where
 len:s.len=xs.length
 cap:s.len<=s.cap
 mem:xs≠[]->∃ b off l T fr,s.a=some ⟨b,off,none⟩/\h b=some (.cells l T fr)/\∀ (i:Nat) v,xs[i]? =some v->l[off + i]? =some v
def Zt (s:Sl) (xs:List Value):HP:=λ h=>SlR h s xs
theorem SlR.addR {h h':ZX} {xs:List Value} (hd:h'.dis h) (a:SlR h s xs):SlR (h'.add h) s xs:=
 ⟨a.len,a.cap,λ hx=>let ⟨b,off,l,T,fr,ha,hb,hl⟩:=a.mem hx;⟨b,off,l,T,fr,ha,by
  simp only [ZX.add,hd b (by rw [hb];simp)];exact hb,hl⟩⟩
theorem SlR.ro {xs:List Value} (a:SlR R.m s xs) (hb:xs.length<=9223372036854775807 := by rw [List.length_map];omega):Ro R s xs:=
 ⟨a.len,hb,a.mem⟩
theorem SlR.take {h:ZX} {xs:List Value} (a:SlR h s xs) {k:Nat} (hk:k<=xs.length):SlR h ⟨s.a,k,s.cap⟩ (xs.take k):=
 ⟨by simp;omega,by have:=a.len;have:=a.cap;simp only;omega,λ hx=>by
  obtain ⟨b,off,l,T,fr,ha,hb,hl⟩:=a.mem (λ h0=>hx (by rw [h0];simp));refine ⟨b,off,l,T,fr,ha,hb,λ i v hv=>hl i v ?_⟩;rw [List.getElem?_take] at hv;split at hv
  ·exact hv
  ·cases hv⟩
theorem SlR.drop {h:ZX} {xs:List Value} (a:SlR h s xs) {k:Nat} (hk:k<=xs.length):SlR h ⟨ZbI s.a k s.cap 1,s.len - k,s.cap - k⟩ (xs.drop k):=by
 have hlen:=a.len;have hcap:=a.cap;refine ⟨by simp;omega,by simp only;omega,λ hx=>?_⟩;obtain ⟨b,off,l,T,fr,ha,hb,hl⟩:=a.mem (λ h0=>hx (by rw [h0];simp));have hlt:0<(xs.drop k).length:=List.length_pos_iff.2 hx;rw [List.length_drop] at hlt;refine ⟨b,off + k,l,T,fr,?_,hb,λ i v hv=>?_⟩
 ·unfold ZbI
  rw [if_neg (by omega),ha];simp [Zs]
 ·rw [List.getElem?_drop] at hv
  rw [Nat.add_assoc];exact hl _ _ hv
theorem Zt.lend {xs:List Value} (h:Sat R (Zt s xs::Hs) w):∃ x:ZX,R.dis x/\SlR (R.add x).m s xs/\Sat (R.add x) Hs w/\SlR x s xs:=by
 obtain ⟨x,hx,hd,hs⟩:=h;exact ⟨x,hd,SlR.addR hd hx,hs,hx⟩
theorem Zt.back {xs:List Value} {x:ZX} (hd:R.dis x) (hx:SlR x s xs) (h:Sat (R.add x) Hs w):Sat R (Zt s xs::Hs) w:=⟨x,hx,hd,h⟩
theorem Own.reads {T:TypeId} {xs:List Value} (h:Sat R (Own s T xs::Hs) w):Sat R (Zt s xs::Hs) w:=by
 rcases Own.cases h with ⟨rfl,rfl,h2⟩|⟨b,rest,fr,rfl,hf,h2⟩
 ·exact ⟨ZX.none,⟨rfl,Nat.le_refl _,λ h=>absurd rfl h⟩,λ i hi=>absurd rfl hi,by rw [Cx.add_none];exact h2⟩
 ·obtain ⟨a,ha,hd,hs⟩:=h2
  refine ⟨a,⟨rfl,by simp,λ _=>⟨b,0,(xs++rest).toArray,T,fr,rfl,by rw [ha];simp [ZX.one],λ i v hv=>?_⟩⟩,hd,hs⟩;obtain ⟨hi,rfl⟩:=List.getElem?_eq_some_iff.1 hv;simp [List.getElem?_append_left hi]
end
end Go.VC
namespace Go.Proofs.YtlplemdmegpoeaaGreatDoor
section
open Go Go.VC Tryz
variable {R:Cx} {Hs Rest:List HP} {w:World}
theorem _root_.Go.VC.Sat.re {A:HP} (B:HP) (h:Sat R (A::Hs) w) (e:A=B:=by rfl):Sat R (B::Hs) w:=e ▸ h
abbrev b8 (l:List Int):List Value:=l.map (Value.int .u8)
theorem ZhK:El prog 47 47 5 1:=⟨underlying47,⟨_,underlying47⟩,by kernel_rfl⟩
theorem Zqx (xs:List Int):ZR (b8 xs)=true:=by unfold ZR;simp [Value.oneCell']
end
end Go.Proofs.YtlplemdmegpoeaaGreatDoor
namespace Go.VC
def dig (n:Nat):List Int:=if h:n=0 then [] else dig (n / 256)++[((n % 256:Nat):Int)]
termination_by n
decreasing_by omega
theorem ZbH:dig 0=[]:=by unfold dig;simp
theorem Zdn {n:Nat} (h:n≠0):dig n=dig (n / 256)++[((n % 256:Nat):Int)]:=by
 conv=>lhs;unfold dig
 rw [dif_neg h]
def Zpf (acc:Int) (l:List Int):Int:=l.foldl (λ a b=>a * 256 + b) acc
theorem Zj8 (acc b:Int) (l:List Int):Zpf acc (b::l)=Zpf (acc * 256 + b) l:=rfl
theorem Zsm (acc:Int) (a b:List Int):Zpf acc (a++b)=Zpf (Zpf acc a) b:=List.foldl_append
theorem Zpm (acc:Int) (a:List Int) (b:Int):Zpf acc (a++[b])=Zpf acc a * 256 + b:=by rw [Zsm];rfl
theorem Zpn:∀ {l:List Int} {acc:Int},0<=acc->(∀ x∈l,0<=x/\x<256)->0<=Zpf acc l
 |[],_,h,_=>h
 |b::l,acc,h,hb=>by
  rw [Zj8];have:=hb b List.mem_cons_self;exact Zpn (by omega) λ x hx=>hb x (List.mem_cons_of_mem _ hx)
theorem Zpo:∀ {l:List Int} {acc:Int},0<=acc->(∀ x∈l,0<=x/\x<256)->Zpf acc l<(acc + 1) * 256 ^ l.length
 |[],acc,h,_=>by simp [Zpf];omega
 |b::l,acc,h,hb=>by
  rw [Zj8];have h1:=hb b List.mem_cons_self;have:=Zpo (l:=l) (acc:=acc * 256 + b) (by omega) λ x hx=>hb x (List.mem_cons_of_mem _ hx);refine Int.lt_of_lt_of_le this ?_;rw [List.length_cons,Int.pow_succ,Int.mul_comm (256 ^ l.length) 256,<-Int.mul_assoc];exact Int.mul_le_mul_of_nonneg_right (by omega) (Int.le_of_lt (Int.pow_pos (by decide)))
theorem ZuY (n:Nat):Zpf 0 (dig n)=n:=by
 induction n using Nat.strongRecOn with
 |ind n ih=>
  by_cases h:n=0
  ·subst h;rw [ZbH];rfl
  ·rw [Zdn h,Zpm,ih (n / 256) (by omega)];omega
theorem ZxD (n:Nat):∀ x∈dig n,0<=x/\x<256:=by
 induction n using Nat.strongRecOn with
 |ind n ih=>
  by_cases h:n=0
  ·subst h;rw [ZbH];intro x hx;cases hx
  ·rw [Zdn h]
   intro x hx;rcases List.mem_append.1 hx with hx|hx
   ·exact ih (n / 256) (by omega) x hx
   ·simp at hx;omega
theorem Ztf (n:Nat):∀ x l,dig n=x::l->x≠0:=by
 induction n using Nat.strongRecOn with
 |ind n ih=>
  intro x l hx;by_cases h:n=0
  ·subst h;rw [ZbH] at hx;cases hx
  ·rw [Zdn h] at hx
   by_cases h2:n / 256=0
   ·rw [h2,ZbH] at hx
    simp at hx;omega
   ·cases hd:dig (n / 256) with
    |nil=>rw [Zdn h2] at hd;simp at hd
    |cons y l'=>
     rw [hd] at hx;simp at hx;obtain ⟨rfl,_⟩:=hx;exact ih (n / 256) (by omega) _ _ hd
theorem ZiE:∀ (k n:Nat),n<256 ^ k->(dig n).length<=k
 |0,n,h=>by
  have:n=0:=by simpa using h
  subst this;rw [ZbH];simp
 |k + 1,n,h=>by
  by_cases h0:n=0
  ·subst h0;rw [ZbH];simp
  ·rw [Zdn h0,List.length_append]
   have:=ZiE k (n / 256) (by rw [Nat.pow_succ] at h;exact Nat.div_lt_of_lt_mul (by rwa [Nat.mul_comm] at h));simp;omega
theorem Zfi {n:Nat} (h:n<18446744073709551616):(dig n).length<=8:=ZiE 8 n (by simpa using h)
theorem Zrr (n:Nat) (h:n<18446744073709551616):(Lib.bitLen n + 7) / 8=(dig n).length:=by
 induction n using Nat.strongRecOn with
 |ind n ih=>
  by_cases h0:n=0
  ·subst h0;rw [ZbH];decide
  ·rw [Zdn h0,List.length_append]
   by_cases h1:256<=n
   ·rw [Lib.bitLen_shift8 n h1 h,<-ih (n / 256) (by omega) (by omega)]
    simp;omega
   ·have e:n / 256=0:=by omega
    rw [e,ZbH];have h2:∀ m:Fin 256,m.val≠0->(Lib.bitLen m.val + 7) / 8=1:=by decide +kernel
    simpa using h2 ⟨n,by omega⟩ h0
theorem Znv:∀ (k n:Nat),k<=(dig n).length->(dig n).take ((dig n).length - k)=dig (n / 256 ^ k)
 |0,n,_=>by simp
 |k + 1,n,h=>by
  by_cases h0:n=0
  ·subst h0;rw [ZbH] at h;simp at h
  ·rw [Zdn h0] at h ⊢
   rw [List.length_append] at h ⊢;simp only [List.length_cons,List.length_nil] at h ⊢;have e:(dig (n / 256)).length + (0 + 1) - (k + 1)=(dig (n / 256)).length - k:=by omega
   rw [e,List.take_append_of_le_length (by omega),Znv k (n / 256) (by omega),Nat.div_div_eq_div_mul,Nat.pow_succ,Nat.mul_comm 256]
theorem ZuZ {n k:Nat} (h:k<(dig n).length):(dig n)[(dig n).length - 1 - k]'(by omega)=((n / 256 ^ k % 256:Nat):Int):=by
 have h1:=Znv k n (by omega);have hn:n / 256 ^ k≠0:=by
  intro h0;rw [h0,ZbH] at h1;have:=congrArg List.length h1;simp at this;omega
 rw [Zdn hn] at h1;have h2:((dig n).take ((dig n).length - k)).getLast? =some ((n / 256 ^ k % 256:Nat):Int):=by rw [h1];simp
 rw [List.getLast?_eq_getElem?,List.length_take,Nat.min_eq_left (by omega),List.getElem?_take] at h2;split at h2
 ·rw [List.getElem?_eq_some_iff] at h2
  obtain ⟨h3,h4⟩:=h2;have e:(dig n).length - 1 - k=(dig n).length - k - 1:=by omega
  simp only [e];exact h4
 ·cases h2
def ZeO (n:Nat):List Int:=((dig n).length:Int)::dig n
def Zca (b:List Int):List Int:=ZeO b.length++b
theorem Zut {n:Nat} (h:n<18446744073709551616):∀ x∈ZeO n,0<=x/\x<256:=by
 intro x hx;rcases List.mem_cons.1 hx with rfl|hx
 ·have:=Zfi h;omega
 ·exact ZxD n x hx
theorem Zbd {n:Nat} (h:n<18446744073709551616):(ZeO n).length<=9:=by
 have:=Zfi h;unfold ZeO;simp;omega
def Zqo (l:List Int):Option (Int × Bool × Nat):=
 match l with
 |[]=>none
 |k::rest=>
  let neg:=decide (16<=k)
  let w:=(if 16<=k then k - 16 else k).toNat
  if k<32/\w<=8/\w<=rest.length/\(w=0->k=0)/\(w≠0->rest.head?≠some 0) then some (Zpf 0 (rest.take w),neg,w + 1) else none
theorem Zqn {n:Nat} (h:n<18446744073709551616) (rest:List Int):Zqo (ZeO n++rest)=some ((n:Int),false,(ZeO n).length):=by
 have h8:=Zfi h;unfold Zqo ZeO;simp only [List.cons_append];have e1:¬ (16:Int)<=((dig n).length:Int):=by omega
 rw [if_neg e1];rw [if_pos]
 ·simp only [Int.toNat_natCast,List.take_left',ZuY,List.length_cons,Option.some.injEq,Prod.mk.injEq,and_true,true_and]
  simpa using e1
 ·refine ⟨by omega,by omega,by simp,λ h0=>by omega,λ h0=>?_⟩
  simp only [Int.toNat_natCast] at h0;cases hd:dig n with
  |nil=>rw [hd] at h0;simp at h0
  |cons x l=>
   have:=Ztf n x l hd;simp;exact this
theorem ZsG {l:List Int} {n:Int} {neg:Bool} {k:Nat} (hb:∀ x∈l,0<=x/\x<256) (h:Zqo l=some (n,neg,k)):0<=n/\n<18446744073709551616/\1<=k/\k<=9/\k<=l.length:=by
 unfold Zqo at h;split at h
 ·cases h
 ·rename_i c rest
  simp only at h;generalize hw:(if 16<=c then c - 16 else c).toNat=w at h
  split at h
  ·rename_i hc
   obtain ⟨_,h8,hr,_,_⟩:=hc;simp only [Option.some.injEq,Prod.mk.injEq] at h;obtain ⟨rfl,_,rfl⟩:=h;have hb2:∀ x∈rest.take w,0<=x/\x<256:=λ x hx=>hb x (List.mem_cons_of_mem _ (List.mem_of_mem_take hx));refine ⟨Zpn (Int.le_refl _) hb2,?_,by omega,by omega,by simp;omega⟩;refine Int.lt_of_lt_of_le (Zpo (Int.le_refl _) hb2) ?_;rw [List.length_take,Nat.min_eq_left hr,Int.zero_add,Int.one_mul];have h9:256 ^ w<=256 ^ 8:=Nat.pow_le_pow_right (by omega) h8;have:((256 ^ w:Nat):Int)<=((256 ^ 8:Nat):Int):=Int.ofNat_le.2 h9;rw [Int.natCast_pow] at this;exact Int.le_trans this (by decide)
  ·cases h
structure Rd where
 bs:List Int
 bad:Bool
def Za2 (most:Int) (r:Rd):Int × Rd:=
 if r.bad then (0,r) else match Zqo r.bs with
 |some (n,neg,k)=>if neg=false/\n<=most then (n,⟨r.bs.drop k,false⟩) else (0,⟨r.bs,true⟩)
 |none=>(0,⟨r.bs,true⟩)
def Zp6 (r:Rd):Bool:=!r.bad && decide (r.bs.length=0)
end Go.VC
namespace Go.Proofs.YtlplemdmegpoeaaGreatDoor
section
open Go Go.VC Tryz
variable {R:Cx} {Hs Rest:List HP} {w:World}
abbrev lp (l:Nat) (s:Sl):HP:=pts l (.cells [.slice s.a s.len s.cap].toArray 47 (0,0))
theorem ZiW (n k:Nat) (hk:k<=64):Zf3 .u64 (n:Int) (k:Int)=((n / 2 ^ k:Nat):Int):=by
 have e:min ((k:Int).toNat) IntKind.u64.bits=k:=by rw [Int.toNat_natCast];exact Nat.min_eq_left hk
 unfold Zf3;rw [e,Int.fdiv_eq_ediv_of_nonneg _ (by exact Int.le_of_lt (Int.pow_pos (by decide)))];rw [show ((2:Int) ^ k)=((2 ^ k:Nat):Int) from (Int.natCast_pow 2 k).symm]
 exact (Int.natCast_ediv n (2 ^ k)).symm
theorem ZzI (n:Nat):Zf3 .u64 (n:Int) 32=((n / 4294967296:Nat):Int):=ZiW n 32 (by omega)
theorem ZzJ (n:Nat):Zf3 .u64 (n:Int) 16=((n / 65536:Nat):Int):=ZiW n 16 (by omega)
theorem shr8 (n:Nat):Zf3 .u64 (n:Int) 8=((n / 256:Nat):Int):=ZiW n 8 (by omega)
theorem ZoF {n:Nat} (hn:n<18446744073709551616) (hw:Sat R Hs w):
  Zk prog 205 #[.int .u64 n] w λ v w'=>v=nI (Lib.bitLen n:Nat)/\Sat R Hs w':=by
 apply ZvH;refine ⟨λ x j w=>∃ m i:Nat,x=m/\j=i/\m<4294967296/\i<=32/\Lib.bitLen n=i + Lib.bitLen m/\Sat R Hs w,?_,?_⟩
 ·refine Br.d (λ h=>?_) (λ h=>?_)
  ·rw [ZzI]
   exact ⟨n / 4294967296,32,rfl,rfl,by omega,by omega,Lib.bitLen_shift32 n (by omega) hn,hw⟩
  ·exact ⟨n,0,rfl,rfl,by omega,by omega,by omega,hw⟩
 rintro _ _ _ w ⟨m,i,rfl,rfl,hm,hi,he,hw⟩;refine ⟨λ x j w=>∃ m i:Nat,x=m/\j=i/\m<65536/\i<=48/\Lib.bitLen n=i + Lib.bitLen m/\Sat R Hs w,?_,?_⟩
 ·refine Br.d (λ h=>?_) (λ h=>?_)
  ·rw [ZzJ,Zd]
   exact ⟨m / 65536,i + 16,rfl,by omega,by omega,by omega,by have:=Lib.bitLen_shift16 m (by omega) (by omega);omega,hw⟩
  ·exact ⟨m,i,rfl,rfl,by omega,by omega,he,hw⟩
 clear hm hi he hw;rintro _ _ _ w ⟨m,i,rfl,rfl,hm,hi,he,hw⟩;refine Br.d (λ h=>?_) (λ h=>?_)
 ·rw [shr8,Zj5 (by omega) (by omega)]
  have h8:Lib.bitLen (m / 256)<=8:=Lib.bitLen_le8 ⟨m / 256,by omega⟩;refine ⟨UInt8.ofNat (Lib.bitLen (m / 256)),by omega,?_,?_,hw⟩
  ·rw [Int.toNat_natCast]
   obtain ⟨q,hq⟩:∃ q:Fin 256,q.1=m / 256:=⟨⟨m / 256,by omega⟩,rfl⟩;rw [<-hq];clear hq h8 hw he hi hm h
   revert q
   decide +kernel
  ·have:(UInt8.ofNat (Lib.bitLen (m / 256))).toNat=Lib.bitLen (m / 256):=by simp;omega
   have h2:=Lib.bitLen_shift8 m (by omega) (by omega);rw [this,Zd (x:=((Lib.bitLen (m / 256):Nat):Int)) (by omega) (by omega),Zd (x:=(i:Int) + 8),Zd]
   congr 1;omega
 ·rw [Zj5 (by omega) (by omega)]
  have h8:Lib.bitLen m<=8:=Lib.bitLen_le8 ⟨m,by omega⟩;refine ⟨UInt8.ofNat (Lib.bitLen m),by omega,?_,?_,hw⟩
  ·rw [Int.toNat_natCast]
   obtain ⟨q,hq⟩:∃ q:Fin 256,q.1=m:=⟨⟨m,by omega⟩,rfl⟩;rw [<-hq];clear hq h8 hw he hi hm h
   revert q
   decide +kernel
  ·have:(UInt8.ofNat (Lib.bitLen m)).toNat=Lib.bitLen m:=by simp;omega
   rw [this,Zd (x:=((Lib.bitLen m:Nat):Int)) (by omega) (by omega),Zd]
   congr 1;omega
theorem Zct {n:Nat} (hn:n<18446744073709551616) (hw:Sat R Hs w):
  Zk prog 128 #[.int .u64 n] w λ v w'=>∃ t:Sl,v=.slice t.a t.len t.cap/\Sat R (Own t 5 (b8 (ZeO n))::Hs) w':=by
 apply Zwt;refine (ZoF hn hw).use ?_;rintro _ w ⟨rfl,hw⟩;refine ⟨_,rfl,?_⟩;have hwid:=Zrr n hn;have h8:=Zfi hn;generalize hL:(dig n).length=L at *;have e:wI ((wI (((Lib.bitLen n:Nat):Int) + 7)).tdiv 8)=(L:Int):=by
  rw [Zd (x:=((Lib.bitLen n:Nat):Int) + 7) (by omega) (by omega),Int.tdiv_eq_ediv_of_nonneg (by omega),Zd];omega
 rw [e,Zj5 (by omega) (by omega)];refine Za hw λ b w hw=>?_;have h0:Sat R (Own ⟨some ⟨b,0,none⟩,1,1⟩ 5 (b8 [(L:Int)])::Hs) w:=Own.of_pts (xs:=b8 [(L:Int)]) (rest:=[]) hw;refine ⟨λ wd out w=>∃ k:Nat,wd=k/\k<=L/\Sat R (Own out 5 (b8 ((L:Int)::(dig n).take (L - k)))::Hs) w,λ wd _ _=>wd.toNat,⟨L,rfl,Nat.le_refl _,by simpa using h0⟩,?_⟩;clear hw h0;rintro _ _ out w ⟨k,rfl,hk,hw⟩;refine Br.d (λ h=>?_) (λ h=>?_)
 ·have e1:wI ((k:Int) - 1)=((k - 1:Nat):Int):=by rw [Zd];omega
  have e2:wI (8 * ((k - 1:Nat):Int))=((8 * (k - 1):Nat):Int):=by rw [Zd];omega
  rw [e1,e2,ZiW n _ (by omega)];refine Ge0.mk (by omega) ?_;have hd:=ZuZ (n:=n) (k:=k - 1) (by omega);have hlen:((L:Int)::(dig n).take (L - k)).length<=9:=by simp;omega
  refine Zcp ZhK hw (Zqx _) rfl (by rw [List.length_map];omega) (by rw [List.length_map];omega) λ t w hw=>⟨⟨k - 1,rfl,by omega,?_⟩,by show ((k - 1:Nat):Int).toNat<(k:Int).toNat;omega⟩;have e3:((L:Int)::(dig n).take (L - (k - 1)))=((L:Int)::(dig n).take (L - k))++[IntKind.u8.wrap ((n / 2 ^ (8 * (k - 1)):Nat):Int)]:=by
   have e4:L - (k - 1)=(L - k) + 1:=by omega
   rw [e4,List.take_succ_eq_append_getElem (by omega),List.cons_append]
   congr 3
   rw [ZtZ,show (2:Nat) ^ (8 * (k - 1))=256 ^ (k - 1) from by rw [Nat.pow_mul],show ((n / 256 ^ (k - 1):Nat):Int) % 256=((n / 256 ^ (k - 1) % 256:Nat):Int) from (Int.natCast_emod _ _).symm,<-hd]
   congr 1;omega
  rw [e3];simpa [b8] using hw
 ·have hk0:k=0:=by omega
  subst hk0;refine ⟨out,rfl,?_⟩;have:(dig n).take (L - 0)=dig n:=List.take_of_length_le (by omega);rw [this] at hw;unfold ZeO;rw [hL];exact hw
theorem Zda.mk {g:FuncId} {captured:Array Value} {args:List Value} {Q:Ending->World->Prop} (hc:cl g=true) (h:Calls prog g (args++captured.toList).toArray w Q):Zda prog cl (.func (.func g) #[] captured) args w Q:=by
 unfold Zda;simp only [hc];exact h
theorem Zba {most:Int} {rd:Rd} (hb:∀ x∈rd.bs,0<=x/\x<256):∀ x∈(Za2 most rd).2.bs,0<=x/\x<256:=by
 unfold Za2;split
 ·exact hb
 ·split
  ·split
   ·exact λ x hx=>hb x (List.mem_of_mem_drop hx)
   ·exact hb
  ·exact hb
theorem ZcW {most:Int} {rd:Rd} (hb:∀ x∈rd.bs,0<=x/\x<256) (hm:0<=most):0<=(Za2 most rd).1/\(Za2 most rd).1<=most:=by
 unfold Za2;split
 ·exact ⟨Int.le_refl _,hm⟩
 ·split
  ·rename_i n neg k hp
   split
   ·rename_i h;exact ⟨(ZsG hb hp).1,h.2⟩
   ·exact ⟨Int.le_refl _,hm⟩
  ·exact ⟨Int.le_refl _,hm⟩
end
end Go.Proofs.YtlplemdmegpoeaaGreatDoor

namespace Go.VC
section
variable {P:Program} {R:Cx} {Hs Rest:List HP} {w:World} {s t:Sl} {T T2:TypeId}
theorem Zea (k:IntKind) (xs:List Int):ZR (xs.map (Value.int k))=true:=by
 induction xs with
 |nil=>rfl
 |cons x xs ih=>simp only [List.map_cons,ZR,List.all_cons,Bool.and_eq_true];exact ⟨rfl,ih⟩
theorem Za0 {b n:Nat} {l:List Value} {fr:Nat × Nat} (hw:Sat R (pts b (.cells l.toArray T fr)::Hs) w) (hn:n=l.length:=by rfl) (hf:Zl1 l.length fr:=by first|assumption|exact Or.inl rfl):Sat R (Own ⟨some ⟨b,0,none⟩,n,n⟩ T l::Hs) w:=by
 subst hn;have:=Own.of_pts (xs:=l) (rest:=[]) (by simpa using hw) (by simpa using hf);simpa using this
theorem Zel {t1 t2 ty e':TypeId} {bytes n:Nat} {k:IntKind} (E:El P t1 t2 T bytes) {xs ys:List Int} {K:Sl->World->Prop} (h2:P.underlying t2=some (.slice e'))
  (hw:Sat R (Own s T (xs.map (Value.int k))::Hs) w) (hy:Ro R t (ys.map (Value.int k))) (hn:xs.length + ys.length<=n) (hb:2 * n * bytes<=281474976710656) (hb':n<=9223372036854775807)
  (kk:∀ s' w',Sat R (Own s' T ((xs++ys).map (Value.int k))::Hs) w'->K s' w'):
  ∃ w',∃ t':Sl,(Builtin.append_ #[t1,t2] ty #[.slice s.a s.len s.cap,.slice t.a t.len t.cap]).run P w=.ok (.slice t'.a t'.len t'.cap) w'/\K t' w':=by
 have hsrc:Src P 1 t2 (.slice t.a t.len t.cap) ys.length (ys.map (Value.int k)) w:=by
  have:=Zst h2 hw hy (Zea _ _);simpa using this
 refine ZcD E (s:=s) hw hsrc (Zea _ _) ?_ (by rw [List.length_map];omega) λ s2 w hw=>kk s2 w (by simpa using hw);rw [List.length_map];have:2 * (xs.length + ys.length) * bytes<=2 * n * bytes:=Nat.mul_le_mul_right _ (by omega);omega
theorem Zaz {t1 t2 ty e':TypeId} {bytes n:Nat} {k:IntKind} (E:El P t1 t2 T bytes) {xs ys:List Int} {K:Sl->World->Prop} (h2:P.underlying t2=some (.slice e'))
  (hw:Sat R (Own s T (xs.map (Value.int k))::Own t T2 (ys.map (Value.int k))::Hs) w) (hn:xs.length + ys.length<=n) (hb:2 * n * bytes<=281474976710656) (hb':n<=9223372036854775807)
  (kk:∀ s' w',Sat R (Own s' T ((xs++ys).map (Value.int k))::Own t T2 (ys.map (Value.int k))::Hs) w'->K s' w'):
  ∃ w',∃ t':Sl,(Builtin.append_ #[t1,t2] ty #[.slice s.a s.len s.cap,.slice t.a t.len t.cap]).run P w=.ok (.slice t'.a t'.len t'.cap) w'/\K t' w':=by
 obtain ⟨R',hr,_,hw,back⟩:=Own.lend hw.swap (by rw [List.length_map];omega);exact Zel E h2 hw hr hn hb hb' λ s' w' hw=>kk s' w' (back hw).swap
theorem Ro.ix {k:IntKind} {xs:List Int} {S:World->Prop} {i:Int} (hr:Ro R s (xs.map (Value.int k))) (hS:∀ w,S w->Sat R Hs w) (j:Nat) (hi:i=j) (hj:j<xs.length) {F:Int->Prop} (h:F xs[j]):
  Rng i s.len (Zb s.a λ a=>∃ t:Int,(At S (a.add i.toNat) [.int k t])/\F t):=by
 subst hi;exact hr.idxK hS hj h
end
section
variable {P:Program} {R R' R'':Cx} {Hs Rest:List HP} {w:World} {s:Sl} {T:TypeId}
structure Cx.Ext (R R':Cx):Prop where
 m:∀ b o,R.m b=some o->R'.m b=some o
 like:R'.like R
theorem Cx.Ext.refl:R.Ext R:=⟨λ _ _ h=>h,rfl,rfl,rfl⟩
theorem Cx.Ext.trans (h:R.Ext R') (h':R'.Ext R''):R.Ext R'':=
 ⟨λ b o hb=>h'.m b o (h.m b o hb),h.like.1.trans h'.like.1,h.like.2.1.trans h'.like.2.1,h.like.2.2.trans h'.like.2.2⟩
theorem Cx.Ext.add {h:ZX}:R.Ext (R.add h):=⟨λ b o hb=>by simp only [Cx.add,ZX.add,hb],rfl,rfl,rfl⟩
theorem Cx.Ext.back (h:R.Ext R') (hw:Sat R' Hs w):Sat R Hs w:=Sat.ro_of h.m h.like hw
theorem Cx.Ext.ro {xs:List Value} (h:R.Ext R') (a:Ro R s xs):Ro R' s xs:=
 ⟨a.len,a.bound,λ hx=>let ⟨b,off,l,T,fr,h1,h2,h3⟩:=a.mem hx;⟨b,off,l,T,fr,h1,h.m _ _ h2,h3⟩⟩
theorem Cx.Ext.roN {n:Nat} {xs:List (List Value)} (h:R.Ext R') (a:RoN n R s xs):RoN n R' s xs:=
 ⟨a.wid,a.len,λ hx=>let ⟨b,off,l,T,fr,h1,h2,h3⟩:=a.mem hx;⟨b,off,l,T,fr,h1,h.m _ _ h2,h3⟩⟩
theorem Cx.Ext.slR {xs:List Value} (h:R.Ext R') (a:SlR R.m s xs):SlR R'.m s xs:=
 ⟨a.len,a.cap,λ hx=>let ⟨b,off,l,T,fr,h1,h2,h3⟩:=a.mem hx;⟨b,off,l,T,fr,h1,h.m _ _ h2,h3⟩⟩
theorem Zt.leak {xs:List Value} (h:Sat R (Zt s xs::Hs) w):∃ R':Cx,R.Ext R'/\SlR R'.m s xs/\Sat R' Hs w:=by
 obtain ⟨x,_,h1,h2,_⟩:=Zt.lend h;exact ⟨_,.add,h1,h2⟩
theorem Own.leak {xs:List Value} (h:Sat R (Own s T xs::Hs) w):∃ R':Cx,R.Ext R'/\SlR R'.m s xs/\Sat R' Hs w:=Zt.leak (Own.reads h)
theorem Zl.leak {n:Nat} {rows:List (List Value)} (h:Sat R (Zl n s T rows::Hs) w):∃ R':Cx,R.Ext R'/\RoN n R' s rows/\Sat R' Hs w:=by
 obtain ⟨R',h1,⟨x,rfl⟩,h2,_⟩:=Zl.lend h;exact ⟨_,.add,h1,h2⟩
end
end Go.VC
namespace Go.Proofs.YtlplemdmegpoeaaGreatDoor
section
open Go Go.VC Tryz
set_option maxRecDepth 10000
def B166 (c:Sl) (K:nK) (w : nW):Prop:=
 Br c.a.isNone
 (K (.slice none 0 0) w)
 (New (.cells #[] 3 (0,0)) (λ e f=>
 ∃ d:World,∃ b:Sl,((Builtin.append_ #[30,30] 30 #[.slice ((some ⟨e,0,none⟩)) 0 0,c.v]).run prog f=.ok (b.v) d)/\
 K (b.v) d) w)
theorem Zwi (b:Sl) (K:nK) (w : nW) (h:B166 b K w):Zk prog 166 #[b.v] w K:=cq (sk:=.leaf) h func166
def B212 (b:Sl) (e:Value) (K:nK) (w : nW):Prop:=
 nC 272 #[b.v,e] w λ d f=>
 ∃ c,(d=.returned (nI c))/\
 K (.bool (decide (c >= 0))) f
theorem ZvG (b:Sl) (c:Value) (K:nK) (w : nW) (h:B212 b c K w):Zk prog 212 #[b.v,c] w K:=cq (sk:=.leaf) h func212
def B272 (e:Sl) (m:Value) (K:nK) (w : nW):Prop:=
 ∃ (d:Int->World->Prop) (j:Int->World->Nat),(d 0 w)/\∀ (o:Env) (b:Int) (c:World),d b c->
 Br (decide (b<(↑e.len:Int)))
 (Rng b e.len (Zb e.a λ k=>
 ∃ g,(Aw c (Addr.add k b.toNat) [nI g])/\
 Zda prog cl m [nI g] c λ l f=>
 ∃ i,(l=.returned (.bool i))/\
 Br i
 (K (nI b) f)
 ((d (wI (b + 1)) f)/\j (wI (b + 1)) f<j b c)))
 (K (nI ((-1))) c)
def ZyN:Sk:=(.seq .leaf (.seq (.seq .leaf (.block (.loop [8] [(.int .i64)] [4,5,8,9,10,11,12,13,14,15,16,17,18] .leaf))) .leaf))
theorem Zvg (b:Sl) (c:Value) (K:nK) (w : nW) (h:B272 b c K w):Zk prog 272 #[b.v,c] w K:=cq (sk:=ZyN) h func272
def B249 (b:Sl) (d:Int) (c:Sl) (K:nK) (w : nW):Prop:=
 ((0:Int)<=d)/\
 ((d:Int)<=(↑b.len:Int))/\
 Br ((↑c.len:Int)==0)
 (K (.slice b.a b.len b.cap) w)
 (Br (d==(↑b.len:Int))
 (∃ i:World,∃ f:Sl,((Builtin.append_ #[30,30] 30 #[.slice b.a b.len b.cap,.slice c.a c.len c.cap]).run prog w=.ok (.slice f.a f.len f.cap) i)/\
 K (.slice f.a f.len f.cap) i)
 (Br (decide (wI ((↑b.len:Int) + (↑c.len:Int))>(↑b.cap:Int)))
 (((0:Int)<=d)/\
 ((d:Int)<=(↑b.cap:Int))/\
 ∃ k:World,∃ e:Sl,((Builtin.append_ #[30,3] 30 #[.slice b.a d.toNat b.cap,nI (wI (wI ((↑b.len:Int) + (↑c.len:Int)) - d))]).run prog w=.ok (.slice e.a e.len e.cap) k)/\
 ((0:Int)<=d)/\
 ((d:Int)<=(↑e.len:Int))/\
 ∃ l:World,∃ s:Int,((Builtin.copy_ #[30,30] 3 #[.slice (ZbI e.a d.toNat e.cap 1) (e.len - d.toNat) (e.cap - d.toNat),.slice c.a c.len c.cap]).run prog k=.ok (nI s) l)/\
 Drw l λ C z=>
 ((0:Int)<=wI (d + (↑c.len:Int)))/\
 ((wI (d + (↑c.len:Int)):Int)<=(↑e.len:Int))/\
 ((0:Int)<=d)/\
 ((d:Int)<=(↑b.len:Int))/\
 ∃ m:World,∃ t:Int,((Builtin.copy_ #[30,30] 3 #[.slice (ZbI e.a (wI (d + (↑c.len:Int))).toNat e.cap 1) (e.len - (wI (d + (↑c.len:Int))).toNat) (e.cap - (wI (d + (↑c.len:Int))).toNat),.slice (ZbI b.a d.toNat b.cap 1) (b.len - d.toNat) (b.cap - d.toNat)]).run prog z=.ok (nI t) m)/\
 K (.slice e.a e.len e.cap) m)
 (((0:Int)<=wI ((↑b.len:Int) + (↑c.len:Int)))/\
 ((wI ((↑b.len:Int) + (↑c.len:Int)):Int)<=(↑b.cap:Int))/\
 ((0:Int)<=wI (d + (↑c.len:Int)))/\
 ((wI (d + (↑c.len:Int)):Int)<=(↑(wI ((↑b.len:Int) + (↑c.len:Int))).toNat:Int))/\
 Ext prog 282 #[.slice c.a c.len c.cap,.slice (ZbI b.a (wI (d + (↑c.len:Int))).toNat b.cap 1) ((wI ((↑b.len:Int) + (↑c.len:Int))).toNat - (wI (d + (↑c.len:Int))).toNat) (b.cap - (wI (d + (↑c.len:Int))).toNat)] w λ q n=>
 ∃ g,(q=.returned (.bool g))/\
 Br (!g)
 (Drw n λ D A=>
 ((0:Int)<=wI (d + (↑c.len:Int)))/\
 ((wI (d + (↑c.len:Int)):Int)<=(↑(wI ((↑b.len:Int) + (↑c.len:Int))).toNat:Int))/\
 ((0:Int)<=d)/\
 ((d:Int)<=(↑(wI ((↑b.len:Int) + (↑c.len:Int))).toNat:Int))/\
 ∃ o:World,∃ u:Int,((Builtin.copy_ #[30,30] 3 #[.slice (ZbI b.a (wI (d + (↑c.len:Int))).toNat b.cap 1) ((wI ((↑b.len:Int) + (↑c.len:Int))).toNat - (wI (d + (↑c.len:Int))).toNat) (b.cap - (wI (d + (↑c.len:Int))).toNat),.slice (ZbI b.a d.toNat b.cap 1) ((wI ((↑b.len:Int) + (↑c.len:Int))).toNat - d.toNat) (b.cap - d.toNat)]).run prog A=.ok (nI u) o)/\
 ((0:Int)<=d)/\
 ((d:Int)<=(↑(wI ((↑b.len:Int) + (↑c.len:Int))).toNat:Int))/\
 ∃ p:World,∃ v:Int,((Builtin.copy_ #[30,30] 3 #[.slice (ZbI b.a d.toNat b.cap 1) ((wI ((↑b.len:Int) + (↑c.len:Int))).toNat - d.toNat) (b.cap - d.toNat),.slice c.a c.len c.cap]).run prog o=.ok (nI v) p)/\
 K (.slice b.a ((wI ((↑b.len:Int) + (↑c.len:Int))).toNat) b.cap) p)
 (((0:Int)<=(↑b.len:Int))/\
 (((↑b.len:Int):Int)<=(↑(wI ((↑b.len:Int) + (↑c.len:Int))).toNat:Int))/\
 ∃ j:World,∃ x:Int,((Builtin.copy_ #[30,30] 3 #[.slice (ZbI b.a (↑b.len:Int).toNat b.cap 1) ((wI ((↑b.len:Int) + (↑c.len:Int))).toNat - (↑b.len:Int).toNat) (b.cap - (↑b.len:Int).toNat),.slice c.a c.len c.cap]).run prog n=.ok (nI x) j)/\
 ((0:Int)<=d)/\
 ((d:Int)<=(↑(wI ((↑b.len:Int) + (↑c.len:Int))).toNat:Int))/\
 nC 283 #[.slice (ZbI b.a d.toNat b.cap 1) ((wI ((↑b.len:Int) + (↑c.len:Int))).toNat - d.toNat) (b.cap - d.toNat),nI ((↑c.len:Int))] j λ r y=>
 (r=.returned (.tuple #[]))/\
 K (.slice b.a ((wI ((↑b.len:Int) + (↑c.len:Int))).toNat) b.cap) y))))
theorem Zvs (b:Sl) (d:Int) (c:Sl) (K:nK) (w : nW) (h:B249 b d c K w):Zk prog 249 #[.slice b.a b.len b.cap,nI d,.slice c.a c.len c.cap] w K:=cq (sk:=.leaf) h func249
def B248 (e:Sl) (k:Int) (K:nK) (w : nW):Prop:=
 ∃ (g:Int->Int->World->Prop) (j:Int->Int->World->Nat),(g 0 ((↑e.len:Int)) w)/\∀ (A:Env) (b:Int) (c:Int) (d:World),g b c d->
 Br (decide (b<c))
 (Rng (wI (Zf3 IntKind.u64 (IntKind.u64.wrap (wI (b + c))) 1)) e.len (Zb e.a λ s=>
 ∃ l,(Aw d (Addr.add s ((wI (Zf3 IntKind.u64 (IntKind.u64.wrap (wI (b + c))) 1)).toNat)) [nI l])/\
 nC 267 #[nI l,nI k] d λ v i=>
 ∃ m,(v=.returned (.bool m))/\
 Br m
 ((g (wI (wI (Zf3 IntKind.u64 (IntKind.u64.wrap (wI (b + c))) 1) + 1)) c i)/\j (wI (wI (Zf3 IntKind.u64 (IntKind.u64.wrap (wI (b + c))) 1) + 1)) c i<j b c d)
 ((g b (wI (Zf3 IntKind.u64 (IntKind.u64.wrap (wI (b + c))) 1)) i)/\j b (wI (Zf3 IntKind.u64 (IntKind.u64.wrap (wI (b + c))) 1)) i<j b c d)))
 (Br (decide (b<(↑e.len:Int)))
 (Rng b e.len (Zb e.a λ t=>
 ∃ n,(Aw d (Addr.add t b.toNat) [nI n])/\
 Br (n==k)
 (K (.tuple #[nI b,.bool true]) d)
 (Rng b e.len (Zb e.a λ u=>
 ∃ o,(Aw d (Addr.add u b.toNat) [nI o])/\
 nC 281 #[nI o] d λ x r=>
 ∃ p,(x=.returned (.bool p))/\
 Br p
 (nC 281 #[nI k] r λ y z=>
 ∃ q,(y=.returned (.bool q))/\
 K (.tuple #[nI b,.bool q]) z)
 (K (.tuple #[nI b,.bool false]) r)))))
 (K (.tuple #[nI b,.bool false]) d))
def ZyT:Sk:=(.seq .leaf (.seq .leaf (.seq .leaf (.seq (.block (.loop [7,8] [(.int .i64),(.int .i64)] [7,8,9,13,14,15,16,17,18,19,20,21,22,23,24,25,26,27,28,29,30] .leaf)) .leaf))))
theorem Zvt (b:Sl) (c:Int) (K:nK) (w : nW) (h:B248 b c K w):Zk prog 248 #[b.v,nI c] w K:=cq (sk:=ZyT) h func248
def B267 (a:Int) (b:Int) (K:nK) (w : nW):Prop:=
 nC 278 #[nI a] w λ g e=>
 ∃ c,(g=.returned (.bool c))/\
 Br c
 (nC 278 #[nI b] e λ i f=>
 ∃ d,(i=.returned (.bool d))/\
 Br (!d)
 (K (.bool true) f)
 (K (.bool (decide (a<b))) f))
 (K (.bool (decide (a<b))) e)
theorem Zvh (a:Int) (b:Int) (K:nK) (w : nW) (h:B267 a b K w):Zk prog 267 #[nI a,nI b] w K:=cq (sk:=.leaf) h func267
def B281 (a:Int) (K:nK) (w : nW):Prop:=
 K (.bool (a !=a)) w
theorem Zvc (a:Int) (K:nK) (w : nW) (h:B281 a K w):Zk prog 281 #[nI a] w K:=cq (sk:=.leaf) h func281
def B278 (a:Int) (K:nK) (w : nW):Prop:=
 K (.bool (a !=a)) w
theorem ZrI (a:Int) (K:nK) (w : nW) (h:B278 a K w):Zk prog 278 #[nI a] w K:=cq (sk:=.leaf) h func278
def B165 (s:Int) (j:Sl) (K:nK) (w : nW):Prop:=
 New (.cells #[nI s,j.v] 37 (0,0)) (λ d c=>
 ∃ o,(Aw c ⟨d,0,none⟩ [nI o])/\
 Br (decide (o<1))
 (K (.bool false) c)
 (∃ p,(Aw c ⟨d,0,none⟩ [nI p])/\
 Br (decide (p>60))
 (K (.bool false) c)
 (∃ g:Sl,(Aw c ⟨d,0 + 1,none⟩ [g.v])/\
 Br (decide ((↑g.len:Int)<1))
 (K (.bool false) c)
 (∃ i:Sl,(Aw c ⟨d,0 + 1,none⟩ [i.v])/\
 Br (decide ((↑i.len:Int)>4))
 (K (.bool false) c)
 (∃ e:Sl,(Aw c ⟨d,0 + 1,none⟩ [e.v])/\
 nC 212 #[e.v,.func (.func 237) #[] #[]] c λ q k=>
 ∃ l,(q=.returned (.bool l))/\
 Br l
 (K (.bool false) k)
 (∃ m,∃ f:Sl,(Aw k ⟨d,0,none⟩ [nI m,f.v])/\
 nC 236 #[.agg #[nI m,f.v]] k λ r t=>
 ∃ n,(r=.returned (nI n))/\
 K (.bool (decide (n<=10))) t)))))) w
theorem Zwj (c:Int) (b:Sl) (K:nK) (w : nW) (h:B165 c b K w):Zk prog 165 #[.agg #[nI c,b.v]] w K:=cq (sk:=.leaf) h func165
def B237 (a:Int) (K:nK) (w : nW):Prop:=
 Br (decide (a<1))
 (K (.bool true) w)
 (K (.bool (decide (a>10))) w)
theorem ZvC (a:Int) (K:nK) (w : nW) (h:B237 a K w):Zk prog 237 #[nI a] w K:=cq (sk:=.leaf) h func237
def B236 (o:Int) (g:Sl) (K:nK) (w : nW):Prop:=
 New (.cells #[nI o,g.v] 37 (0,0)) (λ n k=>
 ∃ c:Sl,(Aw k ⟨n,0 + 1,none⟩ [c.v])/\
 ∃ (f:Int->Int->World->Prop) (l:Int->Int->World->Nat),(f 0 0 k)/\∀ (p:Env) (e:Int) (b:Int) (d:World),f e b d->
 Br (decide (b<(↑c.len:Int)))
 (Rng b c.len (Zb c.a λ m=>
 ∃ i,(Aw d (Addr.add m b.toNat) [nI i])/\
 (f (wI (e + i)) (wI (b + 1)) d)/\l (wI (e + i)) (wI (b + 1)) d<l e b d))
 (K (nI e) d)) w
def ZyX:Sk:=(.seq .leaf (.seq .leaf (.seq (.seq .leaf (.block (.loop [3,9] [(.int .i64),(.int .i64)] [3,5,9,10,11,12,13,14,15,16] .leaf))) .leaf)))
theorem ZvD (c:Int) (b:Sl) (K:nK) (w : nW) (h:B236 c b K w):Zk prog 236 #[.agg #[nI c,b.v]] w K:=cq (sk:=ZyX) h func236
def B164 (r:Int) (f:Sl) (K:nK) (w : nW):Prop:=
 New (.cells #[nI r,f.v] 37 (0,0)) (λ e m=>
 ∃ g,∃ b:Sl,(Aw m ⟨e,0,none⟩ [nI g,b.v])/\
 nC 165 #[.agg #[nI g,b.v]] m λ p n=>
 ∃ i,(p=.returned (.bool i))/\
 Br (!i)
 (K (nI 0) n)
 (Drw n λ d t=>
 ∃ j,(At d ⟨e,0,none⟩ [nI j])/\
 ∃ k,∃ c:Sl,(At d ⟨e,0,none⟩ [nI k,c.v])/\
 nC 236 #[.agg #[nI k,c.v]] t λ q o=>
 ∃ l,(q=.returned (nI l))/\
 (d o)/\
 K (nI (wI (j * l))) o)) w
theorem Zwk (c:Int) (b:Sl) (K:nK) (w : nW) (h:B164 c b K w):Zk prog 164 #[.agg #[nI c,b.v]] w K:=cq (sk:=.leaf) h func164
def B250 (k:Int) (c:Sl) (e:Int) (K:nK) (w : nW):Prop:=
 New (.cells #[nI k,c.v] 37 (0,0)) (λ i d=>
 Br (decide (e >= 0))
 (∃ g,∃ b:Sl,(Aw d ⟨i,0,none⟩ [nI g,b.v])/\
 nC 164 #[.agg #[nI g,b.v]] d λ j m=>
 ∃ f,(j=.returned (nI f))/\
 K (.bool (decide (e<f))) m)
 (K (.bool false) d)) w
theorem Zvr (c:Int) (b:Sl) (d:Int) (K:nK) (w : nW) (h:B250 c b d K w):Zk prog 250 #[.agg #[nI c,b.v],nI d] w K:=cq (sk:=.leaf) h func250
def B253 (s:Int) (f:Sl) (c:Int) (K:nK) (w : nW):Prop:=
 New (.cells #[nI s,f.v] 37 (0,0)) (λ k o=>
 ∃ m,∃ e:Sl,(Aw o ⟨k,0,none⟩ [nI m,e.v])/\
 nC 250 #[.agg #[nI m,e.v],nI c] o λ p j=>
 ∃ n,(p=.returned (.bool n))/\
 Br (!n)
 (K (.tuple #[.string (ByteArray.mk #[]),nI 1]) j)
 (∃ l,∃ d:Sl,(Aw j ⟨k,0,none⟩ [nI l,d.v])/\
 nC 236 #[.agg #[nI l,d.v]] j λ q t=>
 ∃ b,(q=.returned (nI b))/\
 Drw t λ x u=>
 Nz b (Nz b (Nz b (((0:Int)<=wI (c.tmod b + 1))/\
 ((wI (c.tmod b + 1):Int)<=10)/\
 ((0:Int)<=c.tmod b)/\
 ((c.tmod b:Int)<=(↑(wI (c.tmod b + 1)).toNat:Int))/\
 nC 284 #[nI (wI (wI (c.tdiv b) + 1))] u λ r v=>
 ∃ g,(r=.returned (.string g))/\
 (((↑(g.size + ((ByteArray.mk #[65,66,67,68,69,70,71,72,74,75]).extract (c.tmod b).toNat (wI (c.tmod b + 1)).toNat).size):Int):Int)<=9223372036854775807)/\
 K (.tuple #[.string (g++(ByteArray.mk #[65,66,67,68,69,70,71,72,74,75]).extract (c.tmod b).toNat (wI (c.tmod b + 1)).toNat),nI 0]) v))))) w
theorem Zvp (c:Int) (b:Sl) (d:Int) (K:nK) (w : nW) (h:B253 c b d K w):Zk prog 253 #[.agg #[nI c,b.v],nI d] w K:=cq (sk:=.leaf) h func253
def B247 (U:Int) (u:Sl) (V:ByteArray) (K:nK) (w : nW):Prop:=
 New (.cells #[nI U,u.v] 37 (0,0)) (λ m I=>
 ∃ y,∃ f:Sl,(Aw I ⟨m,0,none⟩ [nI y,f.v])/\
 nC 165 #[.agg #[nI y,f.v]] I λ M J=>
 ∃ z,(M=.returned (.bool z))/\
 Br (!z)
 (K (.tuple #[nI 0,nI 1]) J)
 (New (.stringIter V 0) (λ L Y=>
 ∃ (l:Int->Int->World->Prop) (s:Int->Int->World->Nat),(l 0 ((-1)) Y)/\∀ (Z:Env) (b:Int) (c:Int) (o:World),l b c o->
 Ztr ((some ⟨L,0,none⟩)) (λ T e p=>
 ∃ (k:Bool->World->Prop),(Br (decide (c >= 0))
 (k true p)
 (Br (T==0)
 (Br (e==48)
 (k true p)
 (k (decide (b>60)) p))
 (k (decide (b>60)) p)))/\
 ∀ (aa:Env) (A:Bool) (q:World),k A q->
 Br A
 (K (.tuple #[nI 0,nI 2]) q)
 (∃ (t:Bool->World->Prop),(Br (decide (e >= 48))
 (t (decide (e<=57)) q)
 (t false q))/\
 ∀ (ab:Env) (C:Bool) (r:World),t C r->
 Br C
 ((l (wI (wI (10 * b) + wI (IntKind.i32.wrap (e - 48)))) c r)/\s (wI (wI (10 * b) + wI (IntKind.i32.wrap (e - 48)))) c r<s b c o)
 (nC 280 #[.int .i32 e] r λ N x=>
 ∃ n,(N=.returned (nI n))/\
 Br (decide (n<0))
 (K (.tuple #[nI 0,nI 2]) x)
 ((l b n x)/\s b n x<s b c o))))
 (λ j=>
 Br (decide (b<1))
 (K (.tuple #[nI 0,nI 2]) j)
 (∃ D,(Aw j ⟨m,0,none⟩ [nI D])/\
 Br (decide (b>D))
 (K (.tuple #[nI 0,nI 2]) j)
 (Br (decide (c<0))
 (K (.tuple #[nI 0,nI 2]) j)
 (∃ E,∃ g:Sl,(Aw j ⟨m,0,none⟩ [nI E,g.v])/\
 nC 236 #[.agg #[nI E,g.v]] j λ O v=>
 ∃ F,(O=.returned (nI F))/\
 Br (decide (c >= F))
 (K (.tuple #[nI 0,nI 2]) v)
 (∃ G,∃ i:Sl,(Aw v ⟨m,0,none⟩ [nI G,i.v])/\
 nC 236 #[.agg #[nI G,i.v]] v λ Q X=>
 ∃ H,(Q=.returned (nI H))/\
 K (.tuple #[nI (wI (wI (wI (b - 1) * H) + c)),nI 0]) X))))) o) J)) w
def ZyU:Sk:=(.seq .leaf (.seq .leaf (.seq .leaf (.seq (.seq .leaf (.block (.loop [6,7] [(.int .i64),(.int .i64)] [4,5,6,7,8,9,15,16,17,18,19,20,21,22,23,24,25,26,27,28,29,30,31,32,33,34,35,36,37,38,39,40,41,42,43,44,45,46,47,48,49,50] (.seq .leaf (.seq .leaf (.block (.seq .leaf (.block (.cut [23] [.bool] [23,24,25,26,27,28,29,30,31,32,33,34,35,36,37] .leaf (.cond .leaf (.cut [38] [.bool] [38,39,40,41,42,43,44] .leaf .leaf))))))))))) .leaf))))
theorem Zvu (c:Int) (b:Sl) (d:ByteArray) (K:nK) (w : nW) (h:B247 c b d K w):Zk prog 247 #[.agg #[nI c,b.v],.string d] w K:=cq (sk:=ZyU) h func247
def B280 (f:Int) (K:nK) (w : nW):Prop:=
 ∃ (c:Int->World->Prop) (e:Int->World->Nat),(c 0 w)/\∀ (g:Env) (a:Int) (b:World),c a b->
 Br (decide (a<10))
 (∃ d:UInt8,((0:Int)<=a)/\
 ((ByteArray.mk #[65,66,67,68,69,70,71,72,74,75])[a.toNat]? =some d)/\
 Br (IntKind.i32.wrap (↑d.toNat:Int)==f)
 (K (nI a) b)
 ((c (wI (a + 1)) b)/\e (wI (a + 1)) b<e a b))
 (K (nI ((-1))) b)
def ZyM:Sk:=(.seq .leaf (.seq (.seq .leaf (.block (.loop [4] [(.int .i64)] [2,3,4,5,6,7,8,9,10,11,12,13] .leaf))) .leaf))
theorem Zvd (a:Int) (K:nK) (w : nW) (h:B280 a K w):Zk prog 280 #[.int .i32 a] w K:=cq (sk:=ZyM) h func280
def B251 (t:Int) (k:Sl) (u:Int) (K:nK) (w : nW):Prop:=
 New (.cells #[nI t,k.v] 37 (0,0)) (λ m o=>
 ∃ n,∃ e:Sl,(Aw o ⟨m,0,none⟩ [nI n,e.v])/\
 nC 236 #[.agg #[nI n,e.v]] o λ s p=>
 ∃ l,(s=.returned (nI l))/\
 Nz l (∃ f:Sl,(Aw p ⟨m,0 + 1,none⟩ [f.v])/\
 ∃ (j:Int->Int->World->Prop) (q:Int->Int->World->Nat),(j (u.tmod l) 0 p)/\∀ (v:Env) (b:Int) (c:Int) (d:World),j b c d->
 Br (decide (c<(↑f.len:Int)))
 (Rng c f.len (Zb f.a λ r=>
 ∃ g,(Aw d (Addr.add r c.toNat) [nI g])/\
 Br (decide (b<g))
 (K (.tuple #[nI b,nI (wI (wI (g - 1) - b))]) d)
 ((j (wI (b - g)) (wI (c + 1)) d)/\q (wI (b - g)) (wI (c + 1)) d<q b c d)))
 (K (.tuple #[nI 0,nI 0]) d))) w
def ZyS:Sk:=(.seq .leaf (.seq .leaf (.seq (.seq .leaf (.block (.loop [6,16] [(.int .i64),(.int .i64)] [4,5,6,8,16,17,18,19,20,21,22,23,24,25,26,27,28,29,30,31] .leaf))) .leaf)))
theorem Zvq (c:Int) (b:Sl) (d:Int) (K:nK) (w : nW) (h:B251 c b d K w):Zk prog 251 #[.agg #[nI c,b.v],nI d] w K:=cq (sk:=ZyS) h func251
def B179 (ar:Int) (F:Sl) (H:Sl) (j:Int) (K:nK) (w : nW):Prop:=
 New (.cells #[nI ar,F.v] 37 (0,0)) (λ r I=>
 ∃ (N:World->Prop),(Br (decide (j<1))
 (K (.tuple #[.slice none 0 0,nI 1]) I)
 (∃ O,∃ m:Sl,(Aw I ⟨r,0,none⟩ [nI O,m.v])/\
 nC 164 #[.agg #[nI O,m.v]] I λ am ae=>
 ∃ Q,(am=.returned (nI Q))/\
 Br (decide (j>Q))
 (K (.tuple #[.slice none 0 0,nI 1]) ae)
 (N  ae)))/\
 ∀ (az:Env)  (J:World),N  J->
 ∃ T,∃ n:Sl,(Aw J ⟨r,0,none⟩ [nI T,n.v])/\
 nC 164 #[.agg #[nI T,n.v]] J λ an ax=>
 ∃ G,(an=.returned (nI G))/\
 ∃ af:World,∃ f:Sl,((Instr.makeSlice 291 (nI G) (nI G)).run prog ax=.ok (f.v) af)/\
 ∃ (u:Int->World->Prop) (D:Int->World->Nat),(u 0 af)/\∀ (a0:Env) (e:Int) (i:World),u e i->
 Br (decide (e<(↑H.len:Int)))
 (Rng e H.len (Zb H.a λ ag=>
 ∃ z,(Aw i (Addr.add ag e.toNat) [nI z])/\
 ∃ U,∃ o:Sl,(Aw i ⟨r,0,none⟩ [nI U,o.v])/\
 nC 250 #[.agg #[nI U,o.v],nI z] i λ ao L=>
 ∃ V,(ao=.returned (.bool V))/\
 Br V
 (Rng z f.len (Zb f.a λ ah=>
 ∃ M,(St 4 (Addr.add ah z.toNat) (.bool true) L M)/\
 (u (wI (e + 1)) M)/\D (wI (e + 1)) M<D e i))
 ((u (wI (e + 1)) L)/\D (wI (e + 1)) L<D e i)))
 (∃ X,∃ p:Sl,(Aw i ⟨r,0,none⟩ [nI X,p.v])/\
 nC 164 #[.agg #[nI X,p.v]] i λ ap ay=>
 ∃ Y,(ap=.returned (nI Y))/\
 ∃ (v:Sl->Sl->Int->World->Prop) (E:Sl->Sl->Int->World->Nat),(v ⟨none,0,0⟩ ⟨none,0,0⟩ 0 ay)/\∀ (a1:Env) (d:Sl) (y:Sl) (b:Int) (k:World),v d y b k->
 Br (decide (b<Y))
 (∃ (x:Sl->World->Prop),(∃ Z,∃ q:Sl,(Aw k ⟨r,0,none⟩ [nI Z,q.v])/\
 nC 251 #[.agg #[nI Z,q.v],nI b] k λ aq A=>
 ∃ aa au,(aq=.returned (.tuple #[nI aa,nI au]))/\
 Br (aa==0)
 (x ⟨none,0,0⟩ A)
 (Rng b f.len (Zb f.a λ ai=>
 ∃ ab,(Aw A (Addr.add ai b.toNat) [.bool ab])/\
 Br ab
 (x ⟨none,0,0⟩ A)
 (x y A))))/\
 ∀ (a2:Env) (l:Sl) (t:World),x l t->
 Rng b f.len (Zb f.a λ aj=>
 ∃ ac,(Aw t (Addr.add aj b.toNat) [.bool ac])/\
 Br ac
 ((v d l (wI (b + 1)) t)/\E d l (wI (b + 1)) t<E d y b k)
 (New (.cells #[nI b] 3 (0,0)) (λ ak av=>
 ∃ ad:World,∃ s:Sl,((Builtin.append_ #[30,30] 30 #[d.v,.slice ((some ⟨ak,0,none⟩)) 1 1]).run prog av=.ok (s.v) ad)/\
 New (.cells #[nI b] 3 (0,0)) (λ al aw=>
 ∃ C:World,∃ g:Sl,((Builtin.append_ #[30,30] 30 #[l.v,.slice ((some ⟨al,0,none⟩)) 1 1]).run prog aw=.ok (g.v) C)/\
 Br ((↑g.len:Int)==j)
 (K (.tuple #[g.v,nI 0]) C)
 ((v s g (wI (b + 1)) C)/\E s g (wI (b + 1)) C<E d y b k)) ad) t)))
 (Br (decide ((↑d.len:Int)<j))
 (K (.tuple #[.slice none 0 0,nI 3]) k)
 (((0:Int)<=j)/\
 ((j:Int)<=(↑d.cap:Int))/\
 K (.tuple #[.slice d.a j.toNat d.cap,nI 0]) k)))) w
def Zzh:Sk:=(.seq .leaf (.cut [] [] [6,7,16,17,18,19,20,21,22,23] .leaf (.seq .leaf (.seq (.seq .leaf (.block (.loop [29] [(.int .i64)] [10,29,30,31,32,33,34,35,36,37,38,39] .leaf))) (.seq .leaf (.seq (.seq .leaf (.block (.loop [11,12,42] [.sl,.sl,(.int .i64)] [6,7,11,12,13,14,15,42,43,44,45,46,47,48,49,50,51,52,53,54,55,56,57,58,59,60,61,62,63,64,65,66,67,68,69,70,71,72,73,74,75,76] (.seq .leaf (.seq .leaf (.seq (.block (.seq .leaf (.cut [12] [.sl] [12,14,15,45,46,47,48,49,50,51,52,53,54,55,56,57,58] .leaf .leaf))) .leaf)))))) .leaf))))))
theorem Zv5 (d:Int) (b:Sl) (c:Sl) (e:Int) (K:nK) (w : nW) (h:B179 d b c e K w):Zk prog 179 #[.agg #[nI d,b.v],c.v,nI e] w K:=cq (sk:=Zzh) h func179
def B234 (a:Int) (K:nK) (w : nW):Prop:=
 Br (decide (a >= 0))
 (K (.bool (decide (a<=10000))) w)
 (K (.bool false) w)
theorem ZvF (a:Int) (K:nK) (w : nW) (h:B234 a K w):Zk prog 234 #[nI a] w K:=cq (sk:=.leaf) h func234
def B201 (c:Sl) (k:Sl) (t:Value) (K:nK) (w : nW):Prop:=
 ∃ (s:World->Prop),(Br (decide ((↑c.len:Int)<1))
 (K (.bool false) w)
 (Br (decide ((↑c.len:Int)>8))
 (K (.bool false) w)
 (Br ((↑k.len:Int) !=(↑c.len:Int))
 (K (.bool false) w)
 (s  w))))/\
 ∀ (Z:Env)  (E:World),s  E->
 ∃ (n:Int->Bool->Int->World->Prop) (o:Int->Bool->Int->World->Nat),(n 0 true (wI ((↑c.len:Int) - 1)) E)/\∀ (aa:Env) (d:Int) (j:Bool) (b:Int) (l:World),n d j b l->
 Br (decide (b >= 0))
 (∃ (p:World->Prop),(Drw l λ i Y=>
 Rng b c.len (Zb c.a λ H=>
 ∃ u,(At i (Addr.add H b.toNat) [nI u])/\
 nC 234 #[nI u] Y λ T r=>
 ∃ v,(T=.returned (.bool v))/\
 (i r)/\
 Br (!v)
 (K (.bool false) r)
 (Rng b k.len (Zb k.a λ I=>
 ∃ x,(At i (Addr.add I b.toNat) [nI x])/\
 nC 234 #[nI x] r λ U m=>
 ∃ y,(U=.returned (.bool y))/\
 (i m)/\
 Br (!y)
 (K (.bool false) m)
 (Br (decide (b>0))
 (Rng b c.len (Zb c.a λ J=>
 ∃ z,(At i (Addr.add J b.toNat) [nI z])/\
 Rng (wI (b - 1)) c.len (Zb c.a λ L=>
 ∃ A,(At i (Addr.add L ((wI (b - 1)).toNat)) [nI A])/\
 Br (decide (z>A))
 (K (.bool false) m)
 (p  m))))
 (p  m))))))/\
 ∀ (ab:Env)  (g:World),p  g->
 Rng b k.len (Zb k.a λ M=>
 ∃ e,(Aw g (Addr.add M b.toNat) [nI e])/\
 Br j
 (Rng b c.len (Zb c.a λ N=>
 ∃ q,(Aw g (Addr.add N b.toNat) [nI q])/\
 Rng b c.len (Zb c.a λ O=>
 ∃ C,(Aw g (Addr.add O b.toNat) [nI C])/\
 Zda prog cl t [nI b,nI (wI (C - wI (d + e)))] g λ V F=>
 (V=.returned (.tuple #[]))/\
 (n (wI (d + e)) (decide (wI (d + e)<=q)) (wI (b - 1)) F)/\o (wI (d + e)) (decide (wI (d + e)<=q)) (wI (b - 1)) F<o d j b l)))
 (Rng b c.len (Zb c.a λ Q=>
 ∃ D,(Aw g (Addr.add Q b.toNat) [nI D])/\
 Zda prog cl t [nI b,nI (wI (D - wI (d + e)))] g λ X G=>
 (X=.returned (.tuple #[]))/\
 (n (wI (d + e)) false (wI (b - 1)) G)/\o (wI (d + e)) false (wI (b - 1)) G<o d j b l))))
 (K (.bool j) l)
def Zy2:Sk:=(.seq .leaf (.cut [] [] [6,10,11,12,13,14,15,16,17,18,19,20,21,22,23,24] .leaf (.seq .leaf (.seq (.seq .leaf (.block (.loop [7,8,9] [(.int .i64),.bool,(.int .i64)] [6,7,8,9,28,29,30,31,32,33,34,35,36,37,38,39,40,41,42,43,44,45,46,47,48,49,50,51,52,53,54,55,56,57,58,59,60,61,62,63,64,65,66,67,68,69,70,71,72,73,74,75,76,77,78,79,80,81,82,83,84,85] (.seq .leaf (.seq (.block (.cut [] [] [6,32,33,34,35,36,37,38,39,40,41,42,43,44,45,46,47,48,49,50,51,52,53,54,55,56,57,58,59,60,61] .leaf .leaf)) .leaf))))) .leaf))))
theorem ZvK (b:Sl) (c:Sl) (d:Value) (K:nK) (w : nW) (h:B201 b c d K w):Zk prog 201 #[b.v,c.v,d] w K:=cq (sk:=Zy2) h func201
def B123 (d:Sl) (g:Sl) (n:Int) (K:nK) (w : nW):Prop:=
 New (.cells #[nI n] 3 (0,0)) (λ e p=>
 New (.cells #[nI 0] 3 (0,0)) (λ f q=>
 ∃ m,(St 3 ⟨f,0,none⟩ (nI 10000) q m)/\
 nC 201 #[d.v,g.v,.func (.func 202) #[] #[.pointer ((some ⟨e,0,none⟩)),.pointer ((some ⟨f,0,none⟩))]] m λ o b=>
 ∃ i,(o=.returned (.bool i))/\
 Br (!i)
 (K (.tuple #[nI 0,nI 1]) b)
 (∃ j,(Aw b ⟨e,0,none⟩ [nI j])/\
 Br (decide (j<0))
 (K (.tuple #[nI 0,nI 1]) b)
 (∃ k,(Aw b ⟨e,0,none⟩ [nI k])/\
 Br (decide (k >= (↑d.len:Int)))
 (K (.tuple #[nI 0,nI 1]) b)
 (∃ l,(Aw b ⟨f,0,none⟩ [nI l])/\
 K (.tuple #[nI l,nI 0]) b)))) p) w
theorem Zwy (b:Sl) (c:Sl) (d:Int) (K:nK) (w : nW) (h:B123 b c d K w):Zk prog 123 #[b.v,c.v,nI d] w K:=cq (sk:=.leaf) h func123
def B202 (k:Int) (d:Int) (j:Option Addr) (c:Option Addr) (K:nK) (w : nW):Prop:=
 Zb j λ g=>
 ∃ e,(Aw w g [nI e])/\
 Br (decide (k<=e))
 (Zb c λ i=>
 ∃ a,(Aw w i [nI a])/\
 ∃ f:World,((Instr.storeAt 3 (.pointer c) (nI (if d<a then d else a))).run prog w=.ok () f)/\
 K (.tuple #[]) f)
 (K (.tuple #[]) w)
theorem ZrJ (c:Int) (d:Int) (a:Option Addr) (b:Option Addr) (K:nK) (w : nW) (h:B202 c d a b K w):Zk prog 202 #[nI c,nI d,.pointer a,.pointer b] w K:=cq (sk:=.leaf) h func202
def B168 (f:Sl) (b:Sl) (g:Int) (e:Int) (K:nK) (w : nW):Prop:=
 nC 123 #[f.v,b.v,nI g] w λ k d=>
 ∃ i j,(k=.returned (.tuple #[nI i,nI j]))/\
 Br (j !=0)
 (K (.tuple #[.slice none 0 0,nI 1]) d)
 (Br (decide (e<1))
 (K (.tuple #[.slice none 0 0,nI 1]) d)
 (Br (decide (e>10000))
 (K (.tuple #[.slice none 0 0,nI 1]) d)
 (Br (decide (e>i))
 (K (.tuple #[.slice none 0 0,nI 3]) d)
 (nC 238 #[b.v,nI g,nI e] d λ l m=>
 ∃ c:Sl,(l=.returned (c.v))/\
 K (.tuple #[c.v,nI 0]) m))))
theorem Zwg (b:Sl) (c:Sl) (d:Int) (e:Int) (K:nK) (w : nW) (h:B168 b c d e K w):Zk prog 168 #[b.v,c.v,nI d,nI e] w K:=cq (sk:=.leaf) h func168
def B175 (f:Sl) (b:Sl) (e:Int) (g:Int) (K:nK) (w : nW):Prop:=
 nC 123 #[f.v,b.v,nI e] w λ l d=>
 ∃ n i,(l=.returned (.tuple #[nI n,nI i]))/\
 Br (i !=0)
 (K (.tuple #[.slice none 0 0,nI 1]) d)
 (Br (decide (g<1))
 (K (.tuple #[.slice none 0 0,nI 1]) d)
 (Rng e b.len (Zb b.a λ k=>
 ∃ j,(Aw d (Addr.add k e.toNat) [nI j])/\
 Br (decide (g>j))
 (K (.tuple #[.slice none 0 0,nI 1]) d)
 (nC 238 #[b.v,nI e,nI (wI (0 - g))] d λ m p=>
 ∃ c:Sl,(m=.returned (c.v))/\
 K (.tuple #[c.v,nI 0]) p))))
theorem Zv9 (b:Sl) (c:Sl) (d:Int) (e:Int) (K:nK) (w : nW) (h:B175 b c d e K w):Zk prog 175 #[b.v,c.v,nI d,nI e] w K:=cq (sk:=.leaf) h func175
def B238 (d:Sl) (c:Int) (l:Int) (K:nK) (w : nW):Prop:=
 nC 166 #[d.v] w λ k f=>
 ∃ b:Sl,(k=.returned (b.v))/\
 Rng c b.len (Zb b.a λ i=>
 ∃ e,(Aw f (Addr.add i c.toNat) [nI e])/\
 Rng c b.len (Zb b.a λ j=>
 ∃ g,(St 3 (Addr.add j c.toNat) (nI (wI (e + l))) f g)/\
 K (b.v) g))
theorem ZvB (b:Sl) (c:Int) (d:Int) (K:nK) (w : nW) (h:B238 b c d K w):Zk prog 238 #[b.v,nI c,nI d] w K:=cq (sk:=.leaf) h func238
def B163 (j:Int) (d:Sl) (K:nK) (w : nW):Prop:=
 ∃ (o:World->Prop),(nC 234 #[nI j] w λ z g=>
 ∃ p,(z=.returned (.bool p))/\
 Br (!p)
 (K (.tuple #[.slice none 0 0,nI 1]) g)
 (Br (decide ((↑d.len:Int)<1))
 (K (.tuple #[.slice none 0 0,nI 1]) g)
 (Br (decide ((↑d.len:Int)>8))
 (K (.tuple #[.slice none 0 0,nI 1]) g)
 (o  g))))/\
 ∀ (F:Env)  (r:World),o  r->
 New (.cells #[nI j] 3 (0,0)) (λ x D=>
 ((0:Int)<=1)/\
 ((1:Int)<=(↑d.len:Int))/\
 ∃ (i:Sl->Int->World->Prop) (t:Sl->Int->World->Nat),(i ⟨(some ⟨x,0,none⟩),1,1⟩ 0 D)/\∀ (G:Env) (b:Sl) (c:Int) (f:World),i b c f->
 Br (decide (c<(↑(d.len - Int.toNat 1):Int)))
 (Rng c (d.len - Int.toNat 1) (Zb (ZbI d.a (Int.toNat 1) d.cap 1) λ u=>
 ∃ q,(Aw f (Addr.add u c.toNat) [.float .f64 q])/\
 nC 235 #[.float .f64 q,nI j] f λ A s=>
 ∃ k C,(A=.returned (.tuple #[nI k,nI C]))/\
 Rng c b.len (Zb b.a λ v=>
 ∃ l,(Aw s (Addr.add v c.toNat) [nI l])/\
 New (.cells #[nI (if l<k then l else k)] 3 (0,0)) (λ y E=>
 ∃ n:World,∃ e:Sl,((Builtin.append_ #[30,30] 30 #[b.v,.slice ((some ⟨y,0,none⟩)) 1 1]).run prog E=.ok (e.v) n)/\
 (i e (wI (c + 1)) n)/\t e (wI (c + 1)) n<t b c f) s)))
 (K (.tuple #[b.v,nI 0]) f)) r
def Zzk:Sk:=(.seq .leaf (.cut [] [] [4,5,11,12,13,14,15,16,17,18,19,20,21,22,23] .leaf (.seq .leaf (.seq (.seq .leaf (.block (.loop [6,29] [.sl,(.int .i64)] [6,7,8,9,10,29,30,31,32,33,34,35,36,37,38,39,40,41,42,43,44,45,46,47,48,49] .leaf))) .leaf))))
theorem Zwl (c:Int) (b:Sl) (K:nK) (w : nW) (h:B163 c b K w):Zk prog 163 #[nI c,b.v] w K:=cq (sk:=Zzk) h func163
def B235 (c:Nat) (d:Int) (K:nK) (w : nW):Prop:=
 ∃ (e:Bool->World->Prop),(Br (decide (d<0))
 (e true w)
 (e (decide (d>10000)) w))/\
 ∀ (q:Env) (n:Bool) (b:World),e n b->
 Br n
 (K (.tuple #[nI 0,nI 1]) b)
 (∃ i:Bool,(∀ a,(λ a=>a=b) a->((do eqGuard BinOp.gtr 35 (Operand.tmp 14) (Operand.const (Value.float FloatKind.f64 0)) (.float .f64 c) (.float .f64 0);binOp BinOp.gtr 35 (.float .f64 c) (.float .f64 0):Sem Value)).run prog a=.ok (.bool i) a)/\
 Br (!i)
 (K (.tuple #[nI 0,nI 0]) b)
 (∃ j:Bool,(∀ a,(λ a=>a=b) a->((do eqGuard BinOp.geq 35 (Operand.tmp 18) (Operand.const (Value.float FloatKind.f64 4607182418800017408)) (.float .f64 c) (.float .f64 4607182418800017408);binOp BinOp.geq 35 (.float .f64 c) (.float .f64 4607182418800017408):Sem Value)).run prog a=.ok (.bool j) a)/\
 Br j
 (K (.tuple #[nI d,nI 0]) b)
 (∃ g:World,∃ f:Nat,((convert 3 35 (nI d)).run prog b=.ok (.float .f64 f) g)/\
 ∃ k:Nat,(∀ a,(λ a=>a=g) a->((do eqGuard BinOp.mul 35 (Operand.tmp 21) (Operand.tmp 23) (.float .f64 c) (.float .f64 f);binOp BinOp.mul 35 (.float .f64 c) (.float .f64 f):Sem Value)).run prog a=.ok (.float .f64 k) a)/\
 nC 276 #[.float .f64 k] g λ p o=>
 ∃ l,(p=.returned (.float .f64 l))/\
 ∃ m:Int,(∀ a,(λ a=>a=o) a->((convert 35 3 (.float .f64 l))).run prog a=.ok (nI m) a)/\
 K (.tuple #[nI m,nI 0]) o)))
def ZyY:Sk:=(.seq .leaf (.seq (.block (.cut [6] [.bool] [6,7,8,9,10,11,12] .leaf .leaf)) .leaf))
theorem ZvE (a:Nat) (b:Int) (K:nK) (w : nW) (h:B235 a b K w):Zk prog 235 #[.float .f64 a,nI b] w K:=cq (sk:=ZyY) h func235
def B276 (d:Nat) (K:nK) (w : nW):Prop:=
 Ext prog 291 #[.float .f64 d] w λ b c=>
 ∃ a,(b=.returned (.float .f64 a))/\
 K (.float .f64 a) c
theorem Zvf (a:Nat) (K:nK) (w : nW) (h:B276 a K w):Zk prog 276 #[.float .f64 a] w K:=cq (sk:=.leaf) h func276
def B284 (c:Int) (K:nK) (w : nW):Prop:=
 nC 296 #[nI c] w λ b d=>
 ∃ a,(b=.returned (.string a))/\
 K (.string a) d
theorem Zvb (a:Int) (K:nK) (w : nW) (h:B284 a K w):Zk prog 284 #[nI a] w K:=cq (sk:=.leaf) h func284
set_option maxRecDepth 10000
def B98 (n:Int) (F:Int) (m:Sl) (o:Sl) (K:nK) (w : nW):Prop:=
 New (.cells #[nI F,m.v] 37 (0,0)) (λ j y=>
 ∃ q,∃ c:Sl,(Aw y ⟨j,0,none⟩ [nI q,c.v])/\
 nC 164 #[.agg #[nI q,c.v]] y λ z G=>
 ∃ r,(z=.returned (nI r))/\
 nC 163 #[nI r,o.v] G λ A k=>
 ∃ d:Sl,∃ s,(A=.returned (.tuple #[d.v,nI s]))/\
 Br (decide (n<1))
 (K (.tuple #[.pointer none,nI 1]) k)
 (Br (decide (n>9999))
 (K (.tuple #[.pointer none,nI 1]) k)
 (∃ t,∃ e:Sl,(Aw k ⟨j,0,none⟩ [nI t,e.v])/\
 nC 165 #[.agg #[nI t,e.v]] k λ C l=>
 ∃ u,(C=.returned (.bool u))/\
 Br (!u)
 (K (.tuple #[.pointer none,nI 1]) l)
 (Br (s !=0)
 (K (.tuple #[.pointer none,nI 1]) l)
 (∃ f:Sl,(Aw l ⟨j,0 + 1,none⟩ [f.v])/\
 nC 166 #[f.v] l λ D H=>
 ∃ g:Sl,(D=.returned (g.v))/\
 ∃ p,(St 30 ⟨j,0 + 1,none⟩ (g.v) H p)/\
 ∃ v,∃ i:Sl,(Aw p ⟨j,0,none⟩ [nI v,i.v])/\
 nC 167 #[nI n,.agg #[nI v,i.v],d.v] p λ E I=>
 ∃ x,(E=.returned (.pointer x))/\
 K (.tuple #[.pointer x,nI 0]) I))))) w
theorem ZxJ (e:Int) (d:Int) (b:Sl) (c:Sl) (K:nK) (w : nW) (h:B98 e d b c K w):Zk prog 98 #[nI e,.agg #[nI d,b.v],c.v] w K:=cq (sk:=.leaf) h func98
def B167 (g:Int) (ah:Int) (n:Sl) (b:Sl) (K:nK) (w : nW):Prop:=
 New (.cells #[nI ah,.slice n.a n.len n.cap] 37 (0,0)) (λ O ai=>
 Drw ai λ c t=>
 ∃ f,∃ d:Sl,(At c ⟨O,0,none⟩ [nI f,.slice d.a d.len d.cap])/\
 (∃ m:World,∃ e:Sl,((Instr.makeSlice 30 (nI ((↑b.len:Int))) (nI ((↑b.len:Int)))).run prog t=.ok (.slice e.a e.len e.cap) m)/\
 (c m)/\
 (New (.map #[] 0) (λ Q H=>
 (c H)/\
 New (.map #[] 0) (λ X I=>
 (c I)/\
 New (.cells #[nI g,nI f,.slice d.a d.len d.cap,.slice b.a b.len b.cap,.slice e.a e.len e.cap,.map ((some Q)),.map ((some X))] 186 (0,0)) (λ ab J=>
 (c J)/\
 K (.pointer ((some ⟨ab,0,none⟩))) J) I) H) m)/\
 New (.map #[] 0) (λ Y L=>
 (c L)/\
 New (.map #[] 0) (λ T M=>
 (c M)/\
 New (.cells #[nI g,nI f,.slice d.a d.len d.cap,.slice b.a b.len b.cap,.slice e.a e.len e.cap,.map ((some T)),.map ((some Y))] 186 (0,0)) (λ ac N=>
 (c N)/\
 K (.pointer ((some ⟨ac,0,none⟩))) N) M) L) m)/\
 (New (.map #[] 0) (λ v o=>
 (c o)/\
 (∃ p:World,∃ i:Sl,((Instr.makeSlice 30 (nI ((↑b.len:Int))) (nI ((↑b.len:Int)))).run prog o=.ok (.slice i.a i.len i.cap) p)/\
 (c p)/\
 New (.map #[] 0) (λ Z y=>
 (c y)/\
 New (.cells #[nI g,nI f,.slice d.a d.len d.cap,.slice b.a b.len b.cap,.slice i.a i.len i.cap,.map ((some v)),.map ((some Z))] 186 (0,0)) (λ ad z=>
 (c z)/\
 K (.pointer ((some ⟨ad,0,none⟩))) z) y) p)/\
 New (.map #[] 0) (λ aa A=>
 (c A)/\
 ∃ q:World,∃ j:Sl,((Instr.makeSlice 30 (nI ((↑b.len:Int))) (nI ((↑b.len:Int)))).run prog A=.ok (.slice j.a j.len j.cap) q)/\
 (c q)/\
 New (.cells #[nI g,nI f,.slice d.a d.len d.cap,.slice b.a b.len b.cap,.slice j.a j.len j.cap,.map ((some v)),.map ((some aa))] 186 (0,0)) (λ ae C=>
 (c C)/\
 K (.pointer ((some ⟨ae,0,none⟩))) C) q) o) t)/\
 New (.map #[] 0) (λ x r=>
 (c r)/\
 (∃ s:World,∃ k:Sl,((Instr.makeSlice 30 (nI ((↑b.len:Int))) (nI ((↑b.len:Int)))).run prog r=.ok (.slice k.a k.len k.cap) s)/\
 (c s)/\
 New (.map #[] 0) (λ U D=>
 (c D)/\
 New (.cells #[nI g,nI f,.slice d.a d.len d.cap,.slice b.a b.len b.cap,.slice k.a k.len k.cap,.map ((some U)),.map ((some x))] 186 (0,0)) (λ af E=>
 (c E)/\
 K (.pointer ((some ⟨af,0,none⟩))) E) D) s)/\
 New (.map #[] 0) (λ V F=>
 (c F)/\
 ∃ u:World,∃ l:Sl,((Instr.makeSlice 30 (nI ((↑b.len:Int))) (nI ((↑b.len:Int)))).run prog F=.ok (.slice l.a l.len l.cap) u)/\
 (c u)/\
 New (.cells #[nI g,nI f,.slice d.a d.len d.cap,.slice b.a b.len b.cap,.slice l.a l.len l.cap,.map ((some V)),.map ((some x))] 186 (0,0)) (λ ag G=>
 (c G)/\
 K (.pointer ((some ⟨ag,0,none⟩))) G) u) r) t) w
theorem Zwh (e:Int) (d:Int) (b:Sl) (c:Sl) (K:nK) (w : nW) (h:B167 e d b c K w):Zk prog 167 #[nI e,.agg #[nI d,.slice b.a b.len b.cap],.slice c.a c.len c.cap] w K:=cq (sk:=.leaf) h func167
def B101 (f:Option Addr) (g:Int) (r:Int) (s:Int) (K:nK) (w : nW):Prop:=
 Zb f λ m=>
 ∃ t:Option Nat,(Aw w (nO m 5) [.map t])/\
 ∃ D:Option Addr,∃ u:Bool,(∀ b,(λ b=>b=w) b->((Instr.lookup 183 (.map t) (nI g) true)).run prog b=.ok (.tuple #[.pointer D,.bool u]) b)/\
 ∃ (k:World->Prop),(Br (decide (g<1))
 (K (nI 1) w)
 (Br (decide (g>28629151))
 (K (nI 1) w)
 (Br u
 (K (nI 7) w)
 (k  w))))/\
 ∀ (G:Env)  (x:World),k  x->
 Drw x λ l E=>
 Zb f λ n=>
 ∃ c:Sl,(At l (nO n 3) [c.v])/\
 Zb f λ o=>
 ∃ d:Sl,(At l (nO o 4) [d.v])/\
 nC 168 #[c.v,d.v,nI r,nI s] E λ C y=>
 ∃ e:Sl,∃ i,(C=.returned (.tuple #[e.v,nI i]))/\
 Br (i==0)
 (Zb f λ p=>
 ∃ j,(St 30 (nO p 4) (e.v) y j)/\
 Zb f λ q=>
 ∃ v:Option Nat,(Aw j (nO q 5) [.map v])/\
 New (.cells #[nI g,nI r,nI s,.slice none 0 0] 197 (0,0)) (λ A F=>
 ∃ z:World,((Instr.mapUpdate 183 (.map v) (nI g) (.pointer ((some ⟨A,0,none⟩)))).run prog F=.ok () z)/\
 K (nI i) z) j)
 (K (nI i) y)
def ZzH:Sk:=(.seq .leaf (.seq .leaf (.cut [] [] [8,22,23,24,25,26,27,28,29,30] .leaf .leaf)))
theorem ZwU (b:Option Addr) (d:Int) (a:Int) (c:Int) (K:nK) (w : nW) (h:B101 b d a c K w):Zk prog 101 #[.pointer b,nI d,nI a,nI c] w K:=cq (sk:=ZzH) h func101
def B104 (d:Option Addr) (z:Int) (K:nK) (w : nW):Prop:=
 Zb d λ p=>
 ∃ A:Option Nat,(Aw w (nO p 5) [.map A])/\
 ∃ l:Option Addr,∃ C:Bool,(∀ b,(λ b=>b=w) b->((Instr.lookup 183 (.map A) (nI z) true)).run prog b=.ok (.tuple #[.pointer l,.bool C]) b)/\
 Br (!C)
 (K (nI 2) w)
 (Zb l λ q=>
 ∃ e:Sl,(Aw w (nO q 3) [e.v])/\
 ∃ (m:Int->World->Prop) (J:Int->World->Nat),(m 0 w)/\∀ (T:Env) (c:Int) (j:World),m c j->
 Br (decide (c<(↑e.len:Int)))
 (Rng c e.len (Zb e.a λ L=>
 ∃ D,(Aw j (Addr.add L c.toNat) [nI D])/\
 Zb d λ r=>
 ∃ E:Option Nat,(Aw j (nO r 6) [.map E])/\
 ∃ n:World,((Builtin.delete_ #[184,3] 0 #[.map E,nI D]).run prog j=.ok (.tuple #[]) n)/\
 (m (wI (c + 1)) n)/\J (wI (c + 1)) n<J c j))
 (Drw j λ k O=>
 Zb d λ s=>
 ∃ f:Sl,(At k (nO s 3) [f.v])/\
 Zb d λ t=>
 ∃ g:Sl,(At k (nO t 4) [g.v])/\
 Zb l λ u=>
 ∃ F,(At k (nO u 1) [nI F])/\
 Zb l λ v=>
 ∃ G,(At k (nO v 2) [nI G])/\
 nC 175 #[f.v,g.v,nI F,nI G] O λ M Q=>
 ∃ i:Sl,∃ N,(M=.returned (.tuple #[i.v,nI N]))/\
 Zb d λ x=>
 ∃ o,(St 30 (nO x 4) (i.v) Q o)/\
 Zb d λ y=>
 ∃ H:Option Nat,(Aw o (nO y 5) [.map H])/\
 ∃ I:World,((Builtin.delete_ #[183,3] 0 #[.map H,nI z]).run prog o=.ok (.tuple #[]) I)/\
 K (nI 0) I))
def ZzF:Sk:=(.seq .leaf (.seq .leaf (.seq .leaf (.seq (.seq .leaf (.block (.loop [25] [(.int .i64)] [8,25,26,27,28,29,30,31,32,33,34] .leaf))) .leaf))))
theorem ZwR (a:Option Addr) (b:Int) (K:nK) (w : nW) (h:B104 a b K w):Zk prog 104 #[.pointer a,nI b] w K:=cq (sk:=ZzF) h func104
def B177 (i:Option Addr) (q:Int) (p:ByteArray) (K:nK) (w : nW):Prop:=
 Zb i λ f=>
 ∃ j:Option Nat,(Aw w (nO f 5) [.map j])/\
 ∃ d:Option Addr,∃ k:Bool,(∀ b,(λ b=>b=w) b->((Instr.lookup 183 (.map j) (nI q) true)).run prog b=.ok (.tuple #[.pointer d,.bool k]) b)/\
 Zb i λ g=>
 ∃ l,∃ c:Sl,(Aw w (nO g 1) [nI l,c.v])/\
 nC 247 #[.agg #[nI l,c.v],.string p] w λ o n=>
 ∃ e m,(o=.returned (.tuple #[nI e,nI m]))/\
 Br k
 (K (.tuple #[.pointer d,nI e,.bool (m==0)]) n)
 (K (.tuple #[.pointer d,nI e,.bool false]) n)
theorem Zv7 (a:Option Addr) (c:Int) (b:ByteArray) (K:nK) (w : nW) (h:B177 a c b K w):Zk prog 177 #[.pointer a,nI c,.string b] w K:=cq (sk:=.leaf) h func177
def B178 (y:Option Addr) (e:Option Addr) (f:Int) (K:nK) (w : nW):Prop:=
 Zb e λ j=>
 ∃ b:Sl,(Aw w (nO j 3) [b.v])/\
 nC 248 #[b.v,nI f] w λ v q=>
 ∃ n z,(v=.returned (.tuple #[nI n,.bool z]))/\
 Zb e λ k=>
 ∃ c:Sl,(Aw q (nO k 3) [c.v])/\
 New (.cells #[nI f] 3 (0,0)) (λ u A=>
 nC 249 #[c.v,nI n,.slice ((some ⟨u,0,none⟩)) 1 1] A λ x C=>
 ∃ d:Sl,(x=.returned (d.v))/\
 Zb e λ l=>
 ∃ r,(St 30 (nO l 3) (d.v) C r)/\
 Drw r λ i D=>
 Zb y λ m=>
 ∃ o:Option Nat,(At i (nO m 6) [.map o])/\
 Zb e λ t=>
 ∃ p,(At i (Addr.add t 0) [nI p])/\
 ∃ s:World,((Instr.mapUpdate 184 (.map o) (nI f) (nI p)).run prog D=.ok () s)/\
 K (.tuple #[]) s) q
theorem Zv6 (a:Option Addr) (b:Option Addr) (c:Int) (K:nK) (w : nW) (h:B178 a b c K w):Zk prog 178 #[.pointer a,.pointer b,nI c] w K:=cq (sk:=.leaf) h func178
def B106 (f:Option Addr) (u:Int) (t:ByteArray) (K:nK) (w : nW):Prop:=
 nC 177 #[.pointer f,nI u,.string t] w λ r e=>
 ∃ c g n,(r=.returned (.tuple #[.pointer c,nI g,.bool n]))/\
 Zb f λ k=>
 ∃ o:Option Nat,(Aw e (nO k 6) [.map o])/\
 ∃ v:Int,∃ p:Bool,(∀ b,(λ b=>b=e) b->((Instr.lookup 184 (.map o) (nI g) true)).run prog b=.ok (.tuple #[nI v,.bool p]) b)/\
 Br (!n)
 (K (nI 2) e)
 (Drw e λ j i=>
 Zb c λ l=>
 ∃ d:Sl,(At j (nO l 3) [d.v])/\
 Zb c λ m=>
 ∃ q,(At j (nO m 2) [nI q])/\
 Br (decide ((↑d.len:Int) >= q))
 (K (nI 7) i)
 (Br p
 (K (nI 3) i)
 (nC 178 #[.pointer f,.pointer c,nI g] i λ s x=>
 (s=.returned (.tuple #[]))/\
 K (nI 0) x)))
theorem ZwP (a:Option Addr) (c:Int) (b:ByteArray) (K:nK) (w : nW) (h:B106 a c b K w):Zk prog 106 #[.pointer a,nI c,.string b] w K:=cq (sk:=.leaf) h func106
def B107 (j:Option Addr) (Q:Int) (K:nK) (w : nW):Prop:=
 Zb j λ o=>
 ∃ t:Option Nat,(Aw w (nO o 5) [.map t])/\
 ∃ l:Option Addr,∃ u:Bool,(∀ b,(λ b=>b=w) b->((Instr.lookup 183 (.map t) (nI Q) true)).run prog b=.ok (.tuple #[.pointer l,.bool u]) b)/\
 Br (!u)
 (K (.tuple #[.slice none 0 0,nI 2]) w)
 (Zb l λ p=>
 ∃ m:Sl,(Aw w (nO p 3) [m.v])/\
 Br (decide ((↑m.len:Int)>0))
 (K (.tuple #[.slice none 0 0,nI 7]) w)
 (Drw w λ e T=>
 Zb j λ q=>
 ∃ v,∃ f:Sl,(At e (nO q 1) [nI v,f.v])/\
 Zb j λ r=>
 ∃ x:Option Nat,(At e (nO r 6) [.map x])/\
 Zb l λ s=>
 ∃ z,(At e (nO s 2) [nI z])/\
 nC 180 #[.map x] T λ J D=>
 ∃ y:Value,(J=.returned (y))/\
 (e D)/\
 nC 129 #[y] D λ L E=>
 ∃ g:Sl,(L=.returned (g.v))/\
 (e E)/\
 nC 179 #[.agg #[nI v,f.v],g.v,nI z] E λ M F=>
 ∃ c:Sl,∃ A,(M=.returned (.tuple #[c.v,nI A]))/\
 (e F)/\
 ∃ (n:Int->World->Prop) (H:Int->World->Nat),(n 0 F)/\∀ (V:Env) (d:Int) (k:World),n d k->
 Br (decide (d<(↑c.len:Int)))
 (Rng d c.len (Zb c.a λ I=>
 ∃ C,(Aw k (Addr.add I d.toNat) [nI C])/\
 nC 178 #[.pointer j,.pointer l,nI C] k λ N G=>
 (N=.returned (.tuple #[]))/\
 (n (wI (d + 1)) G)/\H (wI (d + 1)) G<H d k))
 (nC 181 #[.pointer j,c.v] k λ O U=>
 ∃ i:Sl,(O=.returned (i.v))/\
 K (.tuple #[i.v,nI A]) U)))
def ZzE:Sk:=(.seq .leaf (.seq .leaf (.seq .leaf (.seq .leaf (.seq (.seq .leaf (.block (.loop [51] [(.int .i64)] [11,51,52,53,54,55,56,57,58,59] .leaf))) .leaf)))))
theorem ZwO (a:Option Addr) (b:Int) (K:nK) (w : nW) (h:B107 a b K w):Zk prog 107 #[.pointer a,nI b] w K:=cq (sk:=ZzE) h func107
def B55 (j:Option Addr) (K:nK) (w : nW):Prop:=
 Zb j λ o=>
 ∃ f:Sl,(Aw w (nO o 3) [f.v])/\
 ∃ q:World,∃ b:Sl,((Instr.makeSlice 30 (nI ((↑f.len:Int))) (nI ((↑f.len:Int)))).run prog w=.ok (b.v) q)/\
 ∃ (i:Int->World->Prop) (r:Int->World->Nat),(i 0 q)/\∀ (z:Env) (c:Int) (g:World),i c g->
 Br (decide (c<(↑b.len:Int)))
 (Drw g λ l x=>
 Zb j λ m=>
 ∃ d:Sl,(At l (nO m 3) [d.v])/\
 Zb j λ n=>
 ∃ e:Sl,(At l (nO n 4) [e.v])/\
 nC 123 #[d.v,e.v,nI c] x λ t y=>
 ∃ p u,(t=.returned (.tuple #[nI p,nI u]))/\
 Rng c b.len (Zb b.a λ s=>
 ∃ k,(St 3 (Addr.add s c.toNat) (nI p) y k)/\
 (i (wI (c + 1)) k)/\r (wI (c + 1)) k<r c g))
 (K (b.v) g)
def sk55:Sk:=(.seq .leaf (.seq .leaf (.seq (.seq .leaf (.block (.loop [13] [(.int .i64)] [4,13,14,15,16,17,18,19,20,21,22,23,24,25,26,27,28,29,30,31,32] .leaf))) .leaf)))
theorem ZxY (a:Option Addr) (K:nK) (w : nW) (h:B55 a K w):Zk prog 55 #[.pointer a] w K:=cq (sk:=sk55) h func55
def B134 (t:Option Addr) (K:nK) (w : nW):Prop:=
 Zb t λ s=>
 ∃ u:Option Nat,(Aw w (nO s 5) [.map u])/\
 nC 209 #[.map u] w λ M Q=>
 ∃ v:Value,(M=.returned (v))/\
 nC 61 #[v] Q λ N T=>
 ∃ f:Sl,(N=.returned (f.v))/\
 ∃ (n:Sl->Int->World->Prop) (H:Sl->Int->World->Nat),(n ⟨none,0,0⟩ 0 T)/\∀ (Y:Env) (c:Sl) (e:Int) (d:World),n c e d->
 Br (decide (e<(↑f.len:Int)))
 (Rng e f.len (Zb f.a λ I=>
 ∃ x,(Aw d (Addr.add I e.toNat) [nI x])/\
 Zb t λ r=>
 ∃ y:Option Nat,(Aw d (nO r 5) [.map y])/\
 ∃ z:Option Addr,(∀ b,(λ b=>b=d) b->((Instr.lookup 183 (.map y) (nI x) false)).run prog b=.ok (.pointer z) b)/\
 Zb z λ J=>
 ∃ A C D,∃ g:Sl,(Aw d J [nI A,nI C,nI D,g.v])/\
 New (.cells #[nI 0,nI 0,nI 0,.slice none 0 0] 197 (0,0)) (λ m U=>
 ∃ o,(St 197 ⟨m,0,none⟩ (.agg #[nI A,nI C,nI D,g.v]) U o)/\
 ∃ i:Sl,(Aw o ⟨m,0 + 3,none⟩ [i.v])/\
 nC 166 #[i.v] o λ O V=>
 ∃ j:Sl,(O=.returned (j.v))/\
 ∃ p,(St 30 ⟨m,0 + 3,none⟩ (j.v) V p)/\
 ∃ E F G,∃ k:Sl,(Aw p ⟨m,0,none⟩ [nI E,nI F,nI G,k.v])/\
 New (.cells #[nI E,nI F,nI G,k.v] 197 (0,0)) (λ L X=>
 ∃ q:World,∃ l:Sl,((Builtin.append_ #[177,177] 177 #[c.v,.slice ((some ⟨L,0,none⟩)) 1 1]).run prog X=.ok (l.v) q)/\
 (n l (wI (e + 1)) q)/\H l (wI (e + 1)) q<H c e d) p) d))
 (K (c.v) d)
def Zzn:Sk:=(.seq .leaf (.seq .leaf (.seq (.seq .leaf (.block (.loop [3,14] [.sl,(.int .i64)] [3,5,6,14,15,16,17,18,19,20,21,22,23,24,25,26,27,28,29,30,31,32,33,34] .leaf))) .leaf)))
theorem Zwq (a:Option Addr) (K:nK) (w : nW) (h:B134 a K w):Zk prog 134 #[.pointer a] w K:=cq (sk:=Zzn) h func134
def B122 (g:Option Addr) (m:Int) (K:nK) (w : nW):Prop:=
 Zb g λ f=>
 ∃ i:Option Nat,(Aw w (nO f 5) [.map i])/\
 ∃ j:Option Addr,∃ k:Bool,(∀ b,(λ b=>b=w) b->((Instr.lookup 183 (.map i) (nI m) true)).run prog b=.ok (.tuple #[.pointer j,.bool k]) b)/\
 Br (!k)
 (K (.slice none 0 0) w)
 (Zb j λ e=>
 ∃ c:Sl,(Aw w (nO e 3) [c.v])/\
 nC 181 #[.pointer g,c.v] w λ l n=>
 ∃ d:Sl,(l=.returned (d.v))/\
 K (d.v) n)
theorem Zwz (a:Option Addr) (b:Int) (K:nK) (w : nW) (h:B122 a b K w):Zk prog 122 #[.pointer a,nI b] w K:=cq (sk:=.leaf) h func122
def B181 (t:Option Addr) (i:Sl) (K:nK) (w : nW):Prop:=
 ∃ (g:Sl->Int->World->Prop) (p:Sl->Int->World->Nat),(g ⟨none,0,0⟩ 0 w)/\∀ (y:Env) (b:Sl) (c:Int) (e:World),g b c e->
 Br (decide (c<(↑i.len:Int)))
 (Rng c i.len (Zb i.a λ q=>
 ∃ m,(Aw e (Addr.add q c.toNat) [nI m])/\
 Zb t λ l=>
 ∃ n,∃ d:Sl,(Aw e (nO l 1) [nI n,d.v])/\
 nC 253 #[.agg #[nI n,d.v],nI m] e λ s v=>
 ∃ o u,(s=.returned (.tuple #[.string o,nI u]))/\
 New (.cells #[.string o] 9 (0,0)) (λ r x=>
 ∃ k:World,∃ f:Sl,((Builtin.append_ #[31,31] 31 #[b.v,.slice ((some ⟨r,0,none⟩)) 1 1]).run prog x=.ok (f.v) k)/\
 (g f (wI (c + 1)) k)/\p f (wI (c + 1)) k<p b c e) v))
 (K (b.v) e)
def Zzg:Sk:=(.seq .leaf (.seq .leaf (.seq (.seq .leaf (.block (.loop [5,12] [.sl,(.int .i64)] [5,7,8,9,12,13,14,15,16,17,18,19,20,21,22,23,24,25,26,27,28,29] .leaf))) .leaf)))
theorem Zv4 (c:Option Addr) (b:Sl) (K:nK) (w : nW) (h:B181 c b K w):Zk prog 181 #[.pointer c,b.v] w K:=cq (sk:=Zzg) h func181
def B64 (e:Option Addr) (K:nK) (w : nW):Prop:=
 New (.cells #[.slice none 0 0] 47 (0,0)) (λ y am=>
 New (.cells #[.nilFunc] 113 (0,0)) (λ c aq=>
 ∃ V,(St 113 ⟨c,0,none⟩ (.func (.func 132) #[] #[.pointer ((some ⟨y,0,none⟩))]) aq V)/\
 Drw V λ o ar=>
 ∃ z:Value,(At o ⟨c,0,none⟩ [z])/\
 Zb e λ aa=>
 ∃ A,(At o (Addr.add aa 0) [nI A])/\
 Zb e λ t=>
 ∃ C,(At o (nO t 1) [nI C])/\
 New (.cells #[nI A,nI C] 3 (0,0)) (λ ac X=>
 (o X)/\
 Zda prog cl z [.slice ((some ⟨ac,0,none⟩)) 2 2] X λ af s=>
 (af=.returned (.tuple #[]))/\
 (o s)/\
 Zb e λ u=>
 ∃ f:Sl,(Aw s ⟨u.block,u.off + 1 + 1,none⟩ [f.v])/\
 nC 133 #[f.v,.pointer ((some ⟨c,0,none⟩))] s λ ag Y=>
 (ag=.returned (.tuple #[]))/\
 Zb e λ v=>
 ∃ g:Sl,(Aw Y (nO v 3) [g.v])/\
 nC 133 #[g.v,.pointer ((some ⟨c,0,none⟩))] Y λ ah au=>
 (ah=.returned (.tuple #[]))/\
 Drw au λ p av=>
 ∃ D:Value,(At p ⟨c,0,none⟩ [D])/\
 Zb e λ x=>
 ∃ E:Option Nat,(At p (nO x 5) [.map E])/\
 ∃ F:Int,(∀ b,p b->((Builtin.len_ #[183] 3 #[.map E])).run prog b=.ok (nI F) b)/\
 New (.cells #[nI F] 3 (0,0)) (λ ad O=>
 (p O)/\
 Zda prog cl D [.slice ((some ⟨ad,0,none⟩)) 1 1] O λ ai Q=>
 (ai=.returned (.tuple #[]))/\
 (p Q)/\
 nC 134 #[.pointer e] Q λ aj an=>
 ∃ i:Sl,(aj=.returned (i.v))/\
 ∃ (r:Int->World->Prop) (Z:Int->World->Nat),(r 0 an)/\∀ (aw:Env) (d:Int) (m:World),r d m->
 Br (decide (d<(↑i.len:Int)))
 (Rng d i.len (Zb i.a λ ab=>
 ∃ G H I,∃ j:Sl,(Aw m (Addr.add ab (ZaD d.toNat 4)) [nI G,nI H,nI I,j.v])/\
 New (.cells #[nI 0,nI 0,nI 0,.slice none 0 0] 197 (0,0)) (λ q ao=>
 ∃ n,(St 197 ⟨q,0,none⟩ (.agg #[nI G,nI H,nI I,j.v]) ao n)/\
 ∃ J:Value,(Aw n ⟨c,0,none⟩ [J])/\
 ∃ L,(Aw n ⟨q,0,none⟩ [nI L])/\
 ∃ M,(Aw n ⟨q,0 + 1,none⟩ [nI M])/\
 ∃ N,(Aw n ⟨q,0 + 2,none⟩ [nI N])/\
 New (.cells #[nI L,nI M,nI N] 3 (0,0)) (λ ae ap=>
 Zda prog cl J [.slice ((some ⟨ae,0,none⟩)) 3 3] ap λ ak T=>
 (ak=.returned (.tuple #[]))/\
 ∃ k:Sl,(Aw T ⟨q,0 + 3,none⟩ [k.v])/\
 nC 133 #[k.v,.pointer ((some ⟨c,0,none⟩))] T λ al U=>
 (al=.returned (.tuple #[]))/\
 (r (wI (d + 1)) U)/\Z (wI (d + 1)) U<Z d m) n) m))
 (∃ l:Sl,(Aw m ⟨y,0,none⟩ [l.v])/\
 K (l.v) m)) av) ar) am) w
def sk64:Sk:=(.seq .leaf (.seq .leaf (.seq .leaf (.seq .leaf (.seq .leaf (.seq .leaf (.seq .leaf (.seq .leaf (.seq (.seq .leaf (.block (.loop [46] [(.int .i64)] [7,46,47,48,49,50,51,52,53,54,55,56,57,58,59,60,61,62,63] .leaf))) .leaf)))))))))
theorem ZxR (a:Option Addr) (K:nK) (w : nW) (h:B64 a K w):Zk prog 64 #[.pointer a] w K:=cq (sk:=sk64) h func64
def B132 (i:Sl) (l:Option Addr) (K:nK) (w : nW):Prop:=
 ∃ (g:Int->World->Prop) (p:Int->World->Nat),(g 0 w)/\∀ (v:Env) (b:Int) (f:World),g b f->
 Br (decide (b<(↑i.len:Int)))
 (Rng b i.len (Zb i.a λ r=>
 ∃ m,(Aw f (Addr.add r b.toNat) [nI m])/\
 Drw f λ k u=>
 Zb l λ q=>
 ∃ c:Sl,(At k q [c.v])/\
 nC 128 #[.int .u64 (IntKind.u64.wrap m)] u λ s n=>
 ∃ d:Sl,(s=.returned (d.v))/\
 (k n)/\
 ∃ o:World,∃ e:Sl,((Builtin.append_ #[47,47] 47 #[c.v,d.v]).run prog n=.ok (e.v) o)/\
 ∃ j:World,((Instr.storeAt 47 (.pointer l) (e.v)).run prog o=.ok () j)/\
 (g (wI (b + 1)) j)/\p (wI (b + 1)) j<p b f))
 (K (.tuple #[]) f)
def Zzo:Sk:=(.seq .leaf (.block (.loop [7] [(.int .i64)] [4,7,8,9,10,11,12,13,14,15,16] .leaf)))
theorem Zws (b:Sl) (c:Option Addr) (K:nK) (w : nW) (h:B132 b c K w):Zk prog 132 #[b.v,.pointer c] w K:=cq (sk:=Zzo) h func132
def B133 (b:Sl) (d:Option Addr) (K:nK) (w : nW):Prop:=
 Zb d λ i=>
 ∃ e:Value,(Aw w i [e])/\
 New (.cells #[nI ((↑b.len:Int))] 3 (0,0)) (λ k n=>
 Zda prog cl e [.slice ((some ⟨k,0,none⟩)) 1 1] n λ l g=>
 (l=.returned (.tuple #[]))/\
 Zb d λ j=>
 ∃ f:Value,(Aw g j [f])/\
 Zda prog cl f [.slice b.a b.len b.cap] g λ m o=>
 (m=.returned (.tuple #[]))/\
 K (.tuple #[]) o) w
theorem Zwr (b:Sl) (c:Option Addr) (K:nK) (w : nW) (h:B133 b c K w):Zk prog 133 #[.slice b.a b.len b.cap,.pointer c] w K:=cq (sk:=.leaf) h func133
set_option maxRecDepth 10000
def B256 (o:Int) (j:Sl) (K:nK) (w : nW):Prop:=
 New (.cells #[nI o,j.v] 37 (0,0)) (λ l p=>
 ∃ (i:Int->Int->World->Prop) (m:Int->Int->World->Nat),(i 0 0 p)/\∀ (q:Env) (d:Int) (c:Int) (b:World),i d c b->
 ∃ g:Sl,(Aw b ⟨l,0 + 1,none⟩ [g.v])/\
 Br (decide (c<(↑g.len:Int)))
 (∃ e:Sl,(Aw b ⟨l,0 + 1,none⟩ [e.v])/\
 Rng c e.len (Zb e.a λ n=>
 ∃ k,(Aw b (Addr.add n c.toNat) [nI k])/\
 (i (wI (d + k)) (wI (c + 1)) b)/\m (wI (d + k)) (wI (c + 1)) b<m d c b))
 (K (nI d) b)) w
def ZyR:Sk:=(.seq .leaf (.seq .leaf (.seq (.seq .leaf (.block (.loop [3,4] [(.int .i64),(.int .i64)] [3,4,5,6,7,8,9,10,11,12,13,14,15,16,17,18] .leaf))) .leaf)))
theorem Zvm (c:Int) (b:Sl) (K:nK) (w : nW) (h:B256 c b K w):Zk prog 256 #[.agg #[nI c,b.v]] w K:=cq (sk:=ZyR) h func256
def B184 (D:Int) (o:Sl) (K:nK) (w : nW):Prop:=
 New (.cells #[nI D,o.v] 37 (0,0)) (λ f e=>
 ∃ (p:World->Prop),(∃ u,(Aw e ⟨f,0,none⟩ [nI u])/\
 Br (decide (u<1))
 (K (.bool false) e)
 (∃ v,(Aw e ⟨f,0,none⟩ [nI v])/\
 Br (decide (v>60))
 (K (.bool false) e)
 (∃ k:Sl,(Aw e ⟨f,0 + 1,none⟩ [k.v])/\
 Br (decide ((↑k.len:Int)<1))
 (K (.bool false) e)
 (∃ l:Sl,(Aw e ⟨f,0 + 1,none⟩ [l.v])/\
 Br (decide ((↑l.len:Int)>4))
 (K (.bool false) e)
 (p  e)))))/\
 ∀ (F:Env)  (x:World),p  x->
 ∃ (n:Int->World->Prop) (y:Int->World->Nat),(n 0 x)/\∀ (G:Env) (d:Int) (c:World),n d c->
 ∃ m:Sl,(Aw c ⟨f,0 + 1,none⟩ [m.v])/\
 Br (decide (d<(↑m.len:Int)))
 (∃ i:Sl,(Aw c ⟨f,0 + 1,none⟩ [i.v])/\
 Rng d i.len (Zb i.a λ z=>
 ∃ q,(Aw c (Addr.add z d.toNat) [nI q])/\
 Br (decide (q<1))
 (K (.bool false) c)
 (∃ j:Sl,(Aw c ⟨f,0 + 1,none⟩ [j.v])/\
 Rng d j.len (Zb j.a λ A=>
 ∃ r,(Aw c (Addr.add A d.toNat) [nI r])/\
 Br (decide (r>10))
 (K (.bool false) c)
 ((n (wI (d + 1)) c)/\y (wI (d + 1)) c<y d c)))))
 (∃ s,∃ g:Sl,(Aw c ⟨f,0,none⟩ [nI s,g.v])/\
 nC 256 #[.agg #[nI s,g.v]] c λ C E=>
 ∃ t,(C=.returned (nI t))/\
 K (.bool (decide (t<=10))) E)) w
def Zzf:Sk:=(.seq .leaf (.cut [] [] [2,4,5,6,7,8,9,10,11,12,13,14,15,16,17,18,19,20,21,22,23] .leaf (.seq (.seq .leaf (.block (.loop [3] [(.int .i64)] [2,3,24,25,26,27,28,29,30,31,32,33,34,35,36,37,38,39,40,41,42,43,44] .leaf))) .leaf)))
theorem Zv1 (c:Int) (b:Sl) (K:nK) (w : nW) (h:B184 c b K w):Zk prog 184 #[.agg #[nI c,b.v]] w K:=cq (sk:=Zzf) h func184
def B186 (r:Int) (f:Sl) (K:nK) (w : nW):Prop:=
 New (.cells #[nI r,f.v] 37 (0,0)) (λ e m=>
 ∃ j,∃ c:Sl,(Aw m ⟨e,0,none⟩ [nI j,c.v])/\
 nC 184 #[.agg #[nI j,c.v]] m λ p n=>
 ∃ k,(p=.returned (.bool k))/\
 Br (!k)
 (K (nI 0) n)
 (Drw n λ d t=>
 ∃ l,(At d ⟨e,0,none⟩ [nI l])/\
 ∃ g,∃ b:Sl,(At d ⟨e,0,none⟩ [nI g,b.v])/\
 nC 256 #[.agg #[nI g,b.v]] t λ q o=>
 ∃ i,(q=.returned (nI i))/\
 (d o)/\
 K (nI (wI (l * i))) o)) w
theorem ZvZ (c:Int) (b:Sl) (K:nK) (w : nW) (h:B186 c b K w):Zk prog 186 #[.agg #[nI c,b.v]] w K:=cq (sk:=.leaf) h func186
def B200 (L:Int) (o:Sl) (c:Int) (K:nK) (w : nW):Prop:=
 New (.cells #[nI L,o.v] 37 (0,0)) (λ n p=>
 ∃ (t:World->Prop),(Br (decide (c<0))
 (K (.tuple #[.string (ByteArray.mk #[]),nI 1]) p)
 (∃ u,∃ d:Sl,(Aw p ⟨n,0,none⟩ [nI u,d.v])/\
 nC 186 #[.agg #[nI u,d.v]] p λ H C=>
 ∃ v,(H=.returned (nI v))/\
 Br (decide (c >= v))
 (K (.tuple #[.string (ByteArray.mk #[]),nI 1]) C)
 (t  C)))/\
 ∀ (Q:Env)  (r:World),t  r->
 ∃ x,∃ e:Sl,(Aw r ⟨n,0,none⟩ [nI x,e.v])/\
 nC 256 #[.agg #[nI x,e.v]] r λ I D=>
 ∃ i,(I=.returned (nI i))/\
 Nz i (∃ (m:Sl->World->Prop),(Br (decide (wI (wI (c.tdiv i) + 1) >= 10))
 (New (.cells #[.int .u8 (IntKind.u8.wrap (wI (48 + wI ((wI (wI (c.tdiv i) + 1)).tdiv 10))))] 5 (0,0)) (λ F M=>
 ∃ E:World,∃ k:Sl,((Builtin.append_ #[47,47] 47 #[.slice none 0 0,.slice ((some ⟨F,0,none⟩)) 1 1]).run prog M=.ok (k.v) E)/\
 m k E) D)
 (m ⟨none,0,0⟩ D))/\
 ∀ (T:Env) (j:Sl) (s:World),m j s->
 ∃ y,∃ f:Sl,(Aw s ⟨n,0,none⟩ [nI y,f.v])/\
 nC 256 #[.agg #[nI y,f.v]] s λ J N=>
 ∃ l,(J=.returned (nI l))/\
 Nz l (∃ z:UInt8,((0:Int)<=c.tmod l)/\
 ((ByteArray.mk #[65,66,67,68,69,70,71,72,74,75])[(c.tmod l).toNat]? =some z)/\
 New (.cells #[.int .u8 (IntKind.u8.wrap (wI (48 + (wI (wI (c.tdiv i) + 1)).tmod 10))),.int .u8 ((↑z.toNat:Int))] 5 (0,0)) (λ G O=>
 ∃ q:World,∃ g:Sl,((Builtin.append_ #[47,47] 47 #[j.v,.slice ((some ⟨G,0,none⟩)) 2 2]).run prog O=.ok (g.v) q)/\
 ∃ A:ByteArray,(∀ b,(λ b=>b=q) b->((convert 47 9 (g.v))).run prog b=.ok (.string A) b)/\
 K (.tuple #[.string A,nI 0]) q) N))) w
def Zy3:Sk:=(.seq .leaf (.cut [] [] [4,5,8,9,10,11,12,13,14,15] .leaf (.seq .leaf (.seq .leaf (.cut [7] [.sl] [7,21,22,23,24,25,26,27,28,29] .leaf .leaf)))))
theorem ZvL (c:Int) (b:Sl) (d:Int) (K:nK) (w : nW) (h:B200 c b d K w):Zk prog 200 #[.agg #[nI c,b.v],nI d] w K:=cq (sk:=Zy3) h func200
def B195 (A:Int) (k:Sl) (C:ByteArray) (K:nK) (w : nW):Prop:=
 New (.cells #[nI A,k.v] 37 (0,0)) (λ j t=>
 ∃ n,∃ c:Sl,(Aw t ⟨j,0,none⟩ [nI n,c.v])/\
 nC 184 #[.agg #[nI n,c.v]] t λ x u=>
 ∃ o,(x=.returned (.bool o))/\
 Br (!o)
 (K (.tuple #[nI 0,nI 1]) u)
 (∃ (i:Int->World->Prop) (v:Int->World->Nat),(i 0 u)/\∀ (E:Env) (b:Int) (g:World),i b g->
 ∃ p,∃ d:Sl,(Aw g ⟨j,0,none⟩ [nI p,d.v])/\
 nC 186 #[.agg #[nI p,d.v]] g λ y l=>
 ∃ q,(y=.returned (nI q))/\
 Br (decide (b<q))
 (∃ r,∃ e:Sl,(Aw l ⟨j,0,none⟩ [nI r,e.v])/\
 nC 200 #[.agg #[nI r,e.v],nI b] l λ z m=>
 ∃ s D,(z=.returned (.tuple #[.string s,nI D]))/\
 Br (s.toList==C.toList)
 (K (.tuple #[nI b,nI 0]) m)
 ((i (wI (b + 1)) m)/\v (wI (b + 1)) m<v b g))
 (K (.tuple #[nI 0,nI 2]) l))) w
def Zy8:Sk:=(.seq .leaf (.seq .leaf (.seq .leaf (.seq (.seq .leaf (.block (.loop [7] [(.int .i64)] [4,5,7,8,9,14,15,16,17,18,19,20,21,22,23,24,25,26,27,28,29] .leaf))) .leaf))))
theorem ZvQ (c:Int) (b:Sl) (d:ByteArray) (K:nK) (w : nW) (h:B195 c b d K w):Zk prog 195 #[.agg #[nI c,b.v],.string d] w K:=cq (sk:=Zy8) h func195
def B259 (F:Int) (o:Sl) (s:Int) (K:nK) (w : nW):Prop:=
 New (.cells #[nI F,o.v] 37 (0,0)) (λ i x=>
 ∃ v,∃ f:Sl,(Aw x ⟨i,0,none⟩ [nI v,f.v])/\
 nC 256 #[.agg #[nI v,f.v]] x λ D G=>
 ∃ r,(D=.returned (nI r))/\
 Nz r (∃ (m:Int->Int->World->Prop) (z:Int->Int->World->Nat),(m (s.tmod r) 0 G)/\∀ (I:Env) (g:Int) (b:Int) (d:World),m g b d->
 ∃ j:Sl,(Aw d ⟨i,0 + 1,none⟩ [j.v])/\
 Rng b j.len (Zb j.a λ A=>
 ∃ t,(Aw d (Addr.add A b.toNat) [nI t])/\
 Br (decide (g >= t))
 (∃ k:Sl,(Aw d ⟨i,0 + 1,none⟩ [k.v])/\
 Rng b k.len (Zb k.a λ C=>
 ∃ p,(Aw d (Addr.add C b.toNat) [nI p])/\
 (m (wI (g - p)) (wI (b + 1)) d)/\z (wI (g - p)) (wI (b + 1)) d<z g b d))
 (Drw d λ n H=>
 ∃ u,∃ e:Sl,(At n ⟨i,0,none⟩ [nI u,e.v])/\
 ∃ l:Sl,(At n ⟨i,0 + 1,none⟩ [l.v])/\
 nC 256 #[.agg #[nI u,e.v]] H λ E y=>
 ∃ q,(E=.returned (nI q))/\
 (n y)/\
 Nz q (K (nI (wI (wI (wI (s.tdiv q) * (↑l.len:Int)) + b))) y))))) w
def ZyP:Sk:=(.seq .leaf (.seq .leaf (.seq .leaf (.seq (.block (.loop [5,6] [(.int .i64),(.int .i64)] [5,6,11,12,13,14,15,16,17,18,19,20,21,22,23,24,25,26] .leaf)) .leaf))))
theorem Zvj (c:Int) (b:Sl) (d:Int) (K:nK) (w : nW) (h:B259 c b d K w):Zk prog 259 #[.agg #[nI c,b.v],nI d] w K:=cq (sk:=ZyP) h func259
def B199 (ai:Int) (v:Sl) (y:Sl) (d:Int) (K:nK) (w : nW):Prop:=
 New (.cells #[nI ai,v.v] 37 (0,0)) (λ r z=>
 ∃ (F:World->Prop),(Br (decide (d<1))
 (K (.tuple #[.slice none 0 0,nI 1]) z)
 (∃ G,∃ g:Sl,(Aw z ⟨r,0,none⟩ [nI G,g.v])/\
 nC 186 #[.agg #[nI G,g.v]] z λ ad X=>
 ∃ H,(ad=.returned (nI H))/\
 Br (decide (d>H))
 (K (.tuple #[.slice none 0 0,nI 1]) X)
 (F  X)))/\
 ∀ (ak:Env)  (Y:World),F  Y->
 ∃ (p:Sl->Int->World->Prop) (t:Sl->Int->World->Nat),(p ⟨none,0,0⟩ 0 Y)/\∀ (al:Env) (b:Sl) (e:Int) (o:World),p b e o->
 ∃ I,∃ i:Sl,(Aw o ⟨r,0,none⟩ [nI I,i.v])/\
 nC 186 #[.agg #[nI I,i.v]] o λ ae C=>
 ∃ J,(ae=.returned (nI J))/\
 Br (decide (e<J))
 (nC 196 #[y.v,nI e] C λ af D=>
 ∃ L,(af=.returned (.bool L))/\
 Br (!L)
 (New (.cells #[nI e] 3 (0,0)) (λ ac aj=>
 ∃ E:World,∃ m:Sl,((Builtin.append_ #[30,30] 30 #[b.v,.slice ((some ⟨ac,0,none⟩)) 1 1]).run prog aj=.ok (m.v) E)/\
 (p m (wI (e + 1)) E)/\t m (wI (e + 1)) E<t b e o) D)
 ((p b (wI (e + 1)) D)/\t b (wI (e + 1)) D<t b e o))
 (Br (decide ((↑b.len:Int)<d))
 (K (.tuple #[.slice none 0 0,nI 3]) C)
 (∃ (q:Int->World->Prop) (u:Int->World->Nat),(q 0 C)/\∀ (am:Env) (c:Int) (l:World),q c l->
 Br (decide (wI (c + d)<=(↑b.len:Int)))
 (Rng (wI (wI (c + d) - 1)) b.len (Zb b.a λ Z=>
 ∃ x,(Aw l (Addr.add Z ((wI (wI (c + d) - 1)).toNat)) [nI x])/\
 Drw l λ f A=>
 Rng c b.len (Zb b.a λ aa=>
 ∃ M,(At f (Addr.add aa c.toNat) [nI M])/\
 Br (wI (x - M)==wI (d - 1))
 (∃ N,∃ j:Sl,(At f ⟨r,0,none⟩ [nI N,j.v])/\
 Rng c b.len (Zb b.a λ ab=>
 ∃ O,(At f (Addr.add ab c.toNat) [nI O])/\
 ∃ T,∃ k:Sl,(At f ⟨r,0,none⟩ [nI T,k.v])/\
 nC 259 #[.agg #[nI N,j.v],nI O] A λ ag V=>
 ∃ Q,(ag=.returned (nI Q))/\
 (f V)/\
 nC 259 #[.agg #[nI T,k.v],nI x] V λ ah s=>
 ∃ U,(ah=.returned (nI U))/\
 (f s)/\
 Br (Q==U)
 (((0:Int)<=wI (c + d))/\
 ((wI (c + d):Int)<=(↑b.cap:Int))/\
 ((0:Int)<=c)/\
 ((c:Int)<=(↑(wI (c + d)).toNat:Int))/\
 K (.tuple #[.slice (ZbI b.a c.toNat b.cap 1) ((wI (c + d)).toNat - c.toNat) (b.cap - c.toNat),nI 0]) s)
 ((q (wI (c + 1)) s)/\u (wI (c + 1)) s<u c l)))
 ((q (wI (c + 1)) A)/\u (wI (c + 1)) A<u c l))))
 (((0:Int)<=d)/\
 ((d:Int)<=(↑b.cap:Int))/\
 K (.tuple #[.slice b.a d.toNat b.cap,nI 0]) l)))) w
def Zy4:Sk:=(.seq .leaf (.cut [] [] [6,7,13,14,15,16,17,18,19,20] .leaf (.seq .leaf (.seq (.seq .leaf (.block (.loop [8,9] [.sl,(.int .i64)] [8,9,10,21,22,23,24,25,26,27,28,29,30,31,32,33,34,35] .leaf))) (.seq .leaf (.seq (.seq .leaf (.block (.loop [11] [(.int .i64)] [6,7,11,12,40,41,42,43,44,45,46,47,48,49,50,51,52,53,54,55,56,57,58,59,60,61,62,63,64,65,66,67,68,69,70,71,72,73,74,75,76,77,78,79,80,81] .leaf))) .leaf))))))
theorem ZvM (d:Int) (b:Sl) (c:Sl) (e:Int) (K:nK) (w : nW) (h:B199 d b c e K w):Zk prog 199 #[.agg #[nI d,b.v],c.v,nI e] w K:=cq (sk:=Zy4) h func199
def B260 (c:Sl) (K:nK) (w : nW):Prop:=
 ∃ (j:World->Prop),(Br (decide ((↑c.len:Int)<1))
 (K (.bool false) w)
 (Br (decide ((↑c.len:Int)>8))
 (K (.bool false) w)
 (j  w)))/\
 ∀ (t:Env)  (o:World),j  o->
 ∃ (f:Int->World->Prop) (i:Int->World->Nat),(f 0 o)/\∀ (u:Env) (b:Int) (e:World),f b e->
 Br (decide (b<(↑c.len:Int)))
 (Drw e λ g d=>
 Rng b c.len (Zb c.a λ p=>
 ∃ k,(At g (Addr.add p b.toNat) [nI k])/\
 Br (decide (k<0))
 (K (.bool false) d)
 (Rng b c.len (Zb c.a λ q=>
 ∃ l,(At g (Addr.add q b.toNat) [nI l])/\
 Br (decide (l>10000))
 (K (.bool false) d)
 (Br (decide (b>0))
 (Rng b c.len (Zb c.a λ r=>
 ∃ m,(At g (Addr.add r b.toNat) [nI m])/\
 Rng (wI (b - 1)) c.len (Zb c.a λ s=>
 ∃ n,(At g (Addr.add s ((wI (b - 1)).toNat)) [nI n])/\
 Br (decide (m>n))
 (K (.bool false) d)
 ((f (wI (b + 1)) d)/\i (wI (b + 1)) d<i b e))))
 ((f (wI (b + 1)) d)/\i (wI (b + 1)) d<i b e))))))
 (K (.bool true) e)
def ZyO:Sk:=(.seq .leaf (.cut [] [] [2,4,5,6,7,8,9,10,11] .leaf (.seq (.seq .leaf (.block (.loop [3] [(.int .i64)] [2,3,12,13,14,15,16,17,18,19,20,21,22,23,24,25,26,27,28,29,30,31,32,33,34,35,36,37,38,39,40,41,42,43,44,45] .leaf))) .leaf)))
theorem Zvi (b:Sl) (K:nK) (w : nW) (h:B260 b K w):Zk prog 260 #[b.v] w K:=cq (sk:=ZyO) h func260
def B204 (f:Sl) (k:Int) (K:nK) (w : nW):Prop:=
 ∃ (e:Int->Int->World->Prop) (i:Int->Int->World->Nat),(e 0 k w)/\∀ (m:Env) (d:Int) (b:Int) (c:World),e d b c->
 Br (decide (b<(↑f.len:Int)))
 (Rng b f.len (Zb f.a λ j=>
 ∃ g,(Aw c (Addr.add j b.toNat) [nI g])/\
 (e (wI (d + g)) (wI (b + 1)) c)/\i (wI (d + g)) (wI (b + 1)) c<i d b c))
 (K (nI d) c)
def Zy0:Sk:=(.seq .leaf (.seq .leaf (.seq (.seq .leaf (.block (.loop [5,6] [(.int .i64),(.int .i64)] [5,6,8,9,10,11,12,13,14,15,16,17,18,19] .leaf))) .leaf)))
theorem ZvI (b:Sl) (c:Int) (K:nK) (w : nW) (h:B204 b c K w):Zk prog 204 #[b.v,nI c] w K:=cq (sk:=Zy0) h func204
def B185 (g:Int) (d:Sl) (K:nK) (w : nW):Prop:=
 ∃ (n:World->Prop),(Br (decide (g<0))
 (K (.tuple #[.slice none 0 0,nI 1]) w)
 (Br (decide (g>10000))
 (K (.tuple #[.slice none 0 0,nI 1]) w)
 (Br (decide ((↑d.len:Int)<1))
 (K (.tuple #[.slice none 0 0,nI 1]) w)
 (Br (decide ((↑d.len:Int)>8))
 (K (.tuple #[.slice none 0 0,nI 1]) w)
 (n  w)))))/\
 ∀ (C:Env)  (p:World),n  p->
 New (.cells #[nI g] 3 (0,0)) (λ u z=>
 ∃ (i:Sl->Int->World->Prop) (r:Sl->Int->World->Nat),(i ⟨(some ⟨u,0,none⟩),1,1⟩ 1 z)/\∀ (D:Env) (b:Sl) (c:Int) (f:World),i b c f->
 Br (decide (c<(↑d.len:Int)))
 (Rng c d.len (Zb d.a λ s=>
 ∃ o,(Aw f (Addr.add s c.toNat) [.float .f64 o])/\
 nC 257 #[.float .f64 o,nI g] f λ x q=>
 ∃ j y,(x=.returned (.tuple #[nI j,nI y]))/\
 Rng (wI (c - 1)) b.len (Zb b.a λ t=>
 ∃ k,(Aw q (Addr.add t ((wI (c - 1)).toNat)) [nI k])/\
 New (.cells #[nI (if k<j then k else j)] 3 (0,0)) (λ v A=>
 ∃ m:World,∃ e:Sl,((Builtin.append_ #[30,30] 30 #[b.v,.slice ((some ⟨v,0,none⟩)) 1 1]).run prog A=.ok (e.v) m)/\
 (i e (wI (c + 1)) m)/\r e (wI (c + 1)) m<r b c f) q)))
 (K (.tuple #[b.v,nI 0]) f)) p
def Zze:Sk:=(.seq .leaf (.cut [] [] [4,5,10,11,12,13,14,15,16,17,18,19,20,21,22,23,24,25] .leaf (.seq .leaf (.seq (.seq .leaf (.block (.loop [6,7] [.sl,(.int .i64)] [6,7,8,9,28,29,30,31,32,33,34,35,36,37,38,39,40,41,42,43,44,45,46,47,48,49,50,51,52] .leaf))) .leaf))))
theorem Zv0 (c:Int) (b:Sl) (K:nK) (w : nW) (h:B185 c b K w):Zk prog 185 #[nI c,b.v] w K:=cq (sk:=Zze) h func185
def B203 (f:Sl) (c:Sl) (K:nK) (w : nW):Prop:=
 nC 260 #[f.v] w λ C m=>
 ∃ t,(C=.returned (.bool t))/\
 ∃ (n:World->Prop),(Br (!t)
 (K (.bool false) m)
 (Br ((↑c.len:Int) !=(↑f.len:Int))
 (K (.bool false) m)
 (n  m)))/\
 ∀ (F:Env)  (u:World),n  u->
 ∃ (j:Int->World->Prop) (v:Int->World->Nat),(j 0 u)/\∀ (G:Env) (b:Int) (d:World),j b d->
 Br (decide (b<(↑c.len:Int)))
 (Rng b c.len (Zb c.a λ y=>
 ∃ p,(Aw d (Addr.add y b.toNat) [nI p])/\
 Br (decide (p<0))
 (K (.bool false) d)
 (Rng b c.len (Zb c.a λ z=>
 ∃ q,(Aw d (Addr.add z b.toNat) [nI q])/\
 Br (decide (q>10000))
 (K (.bool false) d)
 ((j (wI (b + 1)) d)/\v (wI (b + 1)) d<v b d)))))
 (∃ (k:Int->World->Prop) (x:Int->World->Nat),(k 0 d)/\∀ (H:Env) (e:Int) (g:World),k e g->
 Br (decide (e<(↑f.len:Int)))
 (Drw g λ o E=>
 Rng e f.len (Zb f.a λ A=>
 ∃ s,(At o (Addr.add A e.toNat) [nI s])/\
 nC 204 #[c.v,nI e] E λ D i=>
 ∃ r,(D=.returned (nI r))/\
 (o i)/\
 Br (decide (r>s))
 (K (.bool false) i)
 ((k (wI (e + 1)) i)/\x (wI (e + 1)) i<x e g)))
 (K (.bool true) g))
def Zy1:Sk:=(.seq .leaf (.seq .leaf (.cut [] [] [4,10,11,12,13,14,15,16,17,18] .leaf (.seq (.seq .leaf (.block (.loop [6] [(.int .i64)] [4,6,19,20,21,22,23,24,25,26,27,28,29,30,31,32,33,34,35,36] .leaf))) (.seq (.seq .leaf (.block (.loop [7] [(.int .i64)] [4,7,37,38,39,40,41,42,43,44,45,46,47,48,49,50] .leaf))) .leaf)))))
theorem ZvJ (b:Sl) (c:Sl) (K:nK) (w : nW) (h:B203 b c K w):Zk prog 203 #[b.v,c.v] w K:=cq (sk:=Zy1) h func203
def B126 (d:Sl) (e:Sl) (l:Int) (K:nK) (w : nW):Prop:=
 nC 203 #[d.v,e.v] w λ t i=>
 ∃ p,(t=.returned (.bool p))/\
 ∃ (n:World->Prop),(Br (!p)
 (K (.tuple #[nI 0,nI 1]) i)
 (Br (decide (l<0))
 (K (.tuple #[nI 0,nI 1]) i)
 (Br (decide (l >= (↑d.len:Int)))
 (K (.tuple #[nI 0,nI 1]) i)
 (n  i))))/\
 ∀ (x:Env)  (q:World),n  q->
 ∃ (k:Int->Int->World->Prop) (r:Int->Int->World->Nat),(k 10000 0 q)/\∀ (y:Env) (c:Int) (b:Int) (j:World),k c b j->
 Br (decide (b<=l))
 (Drw j λ o v=>
 Rng b d.len (Zb d.a λ s=>
 ∃ f,(At o (Addr.add s b.toNat) [nI f])/\
 nC 204 #[e.v,nI b] v λ u m=>
 ∃ g,(u=.returned (nI g))/\
 (o m)/\
 (k (if wI (f - g)<c then wI (f - g) else c) (wI (b + 1)) m)/\r (if wI (f - g)<c then wI (f - g) else c) (wI (b + 1)) m<r c b j))
 (K (.tuple #[nI c,nI 0]) j)
def Zzr:Sk:=(.seq .leaf (.seq .leaf (.cut [] [] [6,7,14,15,16,17,18,19,20,21,22,23,24,25] .leaf (.seq .leaf (.seq (.seq .leaf (.block (.loop [9,10] [(.int .i64),(.int .i64)] [9,10,26,27,28,29,30,31,32,33,34,35,36,37,38,39,40] .leaf))) .leaf)))))
theorem Zwv (b:Sl) (c:Sl) (d:Int) (K:nK) (w : nW) (h:B126 b c d K w):Zk prog 126 #[b.v,c.v,nI d] w K:=cq (sk:=Zzr) h func126
def B188 (g:Sl) (c:Sl) (d:Int) (e:Int) (K:nK) (w : nW):Prop:=
 nC 126 #[g.v,c.v,nI d] w λ s f=>
 ∃ l m,(s=.returned (.tuple #[nI l,nI m]))/\
 ∃ (k:World->Prop),(Br (m !=0)
 (K (.tuple #[.slice none 0 0,nI 1]) f)
 (Br (decide (e<1))
 (K (.tuple #[.slice none 0 0,nI 1]) f)
 (Br (decide (e>10000))
 (K (.tuple #[.slice none 0 0,nI 1]) f)
 (k  f))))/\
 ∀ (v:Env)  (i:World),k  i->
 Br (decide (e>l))
 (K (.tuple #[.slice none 0 0,nI 3]) i)
 (New (.cells #[] 3 (0,0)) (λ r u=>
 ∃ j:World,∃ b:Sl,((Builtin.append_ #[30,30] 30 #[.slice ((some ⟨r,0,none⟩)) 0 0,c.v]).run prog u=.ok (b.v) j)/\
 Rng d b.len (Zb b.a λ p=>
 ∃ n,(Aw j (Addr.add p d.toNat) [nI n])/\
 Rng d b.len (Zb b.a λ q=>
 ∃ o,(St 3 (Addr.add q d.toNat) (nI (wI (n + e))) j o)/\
 K (.tuple #[b.v,nI 0]) o))) i)
def Zzc:Sk:=(.seq .leaf (.seq .leaf (.cut [] [] [8,9,20,21,22,23,24,25,26,27,28,29] .leaf .leaf)))
theorem ZvX (b:Sl) (c:Sl) (d:Int) (e:Int) (K:nK) (w : nW) (h:B188 b c d e K w):Zk prog 188 #[b.v,c.v,nI d,nI e] w K:=cq (sk:=Zzc) h func188
def B257 (b:Nat) (e:Int) (K:nK) (w : nW):Prop:=
 ∃ (o:World->Prop),(Br (decide (e<0))
 (K (.tuple #[nI 0,nI 1]) w)
 (Br (decide (e>10000))
 (K (.tuple #[nI 0,nI 1]) w)
 (o  w)))/\
 ∀ (v:Env)  (d:World),o  d->
 ∃ (p:World->Prop),(∃ q:Bool,(∀ a,(λ a=>a=d) a->((do eqGuard BinOp.neq 35 (Operand.tmp 14) (Operand.tmp 15) (.float .f64 b) (.float .f64 b);binOp BinOp.neq 35 (.float .f64 b) (.float .f64 b):Sem Value)).run prog a=.ok (.bool q) a)/\
 Br q
 (K (.tuple #[nI 0,nI 0]) d)
 (∃ r:Bool,(∀ a,(λ a=>a=d) a->((do eqGuard BinOp.leq 35 (Operand.tmp 18) (Operand.const (Value.float FloatKind.f64 0)) (.float .f64 b) (.float .f64 0);binOp BinOp.leq 35 (.float .f64 b) (.float .f64 0):Sem Value)).run prog a=.ok (.bool r) a)/\
 Br r
 (K (.tuple #[nI 0,nI 0]) d)
 (p  d)))/\
 ∀ (x:Env)  (g:World),p  g->
 ∃ s:Bool,(∀ a,(λ a=>a=g) a->((do eqGuard BinOp.geq 35 (Operand.tmp 21) (Operand.const (Value.float FloatKind.f64 4607182418800017408)) (.float .f64 b) (.float .f64 4607182418800017408);binOp BinOp.geq 35 (.float .f64 b) (.float .f64 4607182418800017408):Sem Value)).run prog a=.ok (.bool s) a)/\
 Br s
 (K (.tuple #[nI e,nI 0]) g)
 (∃ n:World,∃ k:Nat,((convert 3 35 (nI e)).run prog g=.ok (.float .f64 k) n)/\
 ∃ l:Nat,(∀ a,(λ a=>a=n) a->((do eqGuard BinOp.mul 35 (Operand.tmp 24) (Operand.tmp 26) (.float .f64 b) (.float .f64 k);binOp BinOp.mul 35 (.float .f64 b) (.float .f64 k):Sem Value)).run prog a=.ok (.float .f64 l) a)/\
 ∃ (j:Int->World->Prop) (u:Int->World->Nat),(j 0 n)/\∀ (y:Env) (c:Int) (i:World),j c i->
 Br (decide (c<e))
 (∃ f:World,∃ m:Nat,((convert 3 35 (nI (wI (c + 1)))).run prog i=.ok (.float .f64 m) f)/\
 ∃ t:Bool,(∀ a,(λ a=>a=f) a->((do eqGuard BinOp.leq 35 (Operand.tmp 34) (Operand.tmp 35) (.float .f64 m) (.float .f64 l);binOp BinOp.leq 35 (.float .f64 m) (.float .f64 l):Sem Value)).run prog a=.ok (.bool t) a)/\
 Br t
 ((j (wI (c + 1)) f)/\u (wI (c + 1)) f<u c i)
 (K (.tuple #[nI c,nI 0]) f))
 (K (.tuple #[nI c,nI 0]) i))
def ZyQ:Sk:=(.seq .leaf (.cut [] [] [4,5,8,9,10,11,12,13] .leaf (.cut [] [] [4,5,14,15,16,17,18,19,20] .leaf (.seq .leaf (.seq .leaf (.seq .leaf (.seq (.block (.loop [7] [(.int .i64)] [7,28,29,30,31,32,33,34,35,36,37,38,39] .leaf)) .leaf)))))))
theorem Zvl (a:Nat) (b:Int) (K:nK) (w : nW) (h:B257 a b K w):Zk prog 257 #[.float .f64 a,nI b] w K:=cq (sk:=ZyQ) h func257
def B196 (e:Sl) (j:Int) (K:nK) (w : nW):Prop:=
 ∃ (d:Int->World->Prop) (g:Int->World->Nat),(d 0 w)/\∀ (l:Env) (b:Int) (c:World),d b c->
 Br (decide (b<(↑e.len:Int)))
 (Rng b e.len (Zb e.a λ i=>
 ∃ f,(Aw c (Addr.add i b.toNat) [nI f])/\
 Br (f==j)
 (K (.bool true) c)
 ((d (wI (b + 1)) c)/\g (wI (b + 1)) c<g b c)))
 (K (.bool false) c)
def Zy7:Sk:=(.seq .leaf (.seq (.seq .leaf (.block (.loop [5] [(.int .i64)] [4,5,6,7,8,9,10,11,12,13,14,15,16,17] .leaf))) .leaf))
theorem ZvP (b:Sl) (c:Int) (K:nK) (w : nW) (h:B196 b c K w):Zk prog 196 #[b.v,nI c] w K:=cq (sk:=Zy7) h func196
def B44 (c:Sl) (f:Sl) (K:nK) (w : nW):Prop:=
 Br ((↑c.len:Int) !=(↑f.len:Int))
 (K (.bool false) w)
 (∃ (e:Int->World->Prop) (l:Int->World->Nat),(e 0 w)/\∀ (o:Env) (b:Int) (d:World),e b d->
 Br (decide (b<(↑c.len:Int)))
 (Drw d λ i g=>
 Rng b c.len (Zb c.a λ m=>
 ∃ j,(At i (Addr.add m b.toNat) [nI j])/\
 Rng b f.len (Zb f.a λ n=>
 ∃ k,(At i (Addr.add n b.toNat) [nI k])/\
 Br (j !=k)
 (K (.bool false) g)
 ((e (wI (b + 1)) g)/\l (wI (b + 1)) g<l b d))))
 (K (.bool true) d))
def sk44:Sk:=(.seq .leaf (.seq .leaf (.seq (.seq .leaf (.block (.loop [5] [(.int .i64)] [4,5,11,12,13,14,15,16,17,18,19,20,21,22,23,24,25] .leaf))) .leaf)))
theorem Zx9 (b:Sl) (c:Sl) (K:nK) (w : nW) (h:B44 b c K w):Zk prog 44 #[b.v,c.v] w K:=cq (sk:=sk44) h func44
def B137 (n:Int) (K:nK) (w : nW):Prop:=
 ∃ (g:Int->Sl->World->Prop) (k:Int->Sl->World->Nat),(g n ⟨none,0,0⟩ w)/\∀ (q:Env) (c:Int) (b:Sl) (f:World),g c b f->
 Br (decide (c>0))
 (New (.cells #[.int .u8 (IntKind.u8.wrap (c.tmod 256))] 5 (0,0)) (λ m o=>
 ∃ i:World,∃ e:Sl,((Builtin.append_ #[47,47] 47 #[.slice ((some ⟨m,0,none⟩)) 1 1,b.v]).run prog o=.ok (e.v) i)/\
 (g (IntKind.u64.wrap (c.tdiv 256)) e i)/\k (IntKind.u64.wrap (c.tdiv 256)) e i<k c b f) f)
 (New (.cells #[.int .u8 (IntKind.u8.wrap (↑b.len:Int))] 5 (0,0)) (λ l p=>
 ∃ j:World,∃ d:Sl,((Builtin.append_ #[47,47] 47 #[.slice ((some ⟨l,0,none⟩)) 1 1,b.v]).run prog p=.ok (d.v) j)/\
 K (d.v) j) f)
def Zzm:Sk:=(.seq .leaf (.seq .leaf (.seq (.block (.loop [0,3] [(.int .u64),.sl] [0,3,4,5,6,7,8,9,10,11,12,13] .leaf)) .leaf)))
theorem Zwo (a:Int) (K:nK) (w : nW) (h:B137 a K w):Zk prog 137 #[.int .u64 a] w K:=cq (sk:=Zzm) h func137
set_option maxRecDepth 10000
def B109 (m:Int) (I:Int) (l:Sl) (n:Sl) (K:nK) (w : nW):Prop:=
 New (.cells #[nI I,l.v] 37 (0,0)) (λ j y=>
 ∃ r,∃ c:Sl,(Aw y ⟨j,0,none⟩ [nI r,c.v])/\
 nC 184 #[.agg #[nI r,c.v]] y λ F k=>
 ∃ s,(F=.returned (.bool s))/\
 ∃ (q:World->Prop),(Br (decide (m<1))
 (K (.tuple #[.pointer none,nI 1]) k)
 (Br (decide (m>9999))
 (K (.tuple #[.pointer none,nI 1]) k)
 (Br (!s)
 (K (.tuple #[.pointer none,nI 1]) k)
 (q  k))))/\
 ∀ (M:Env)  (o:World),q  o->
 ∃ t,∃ d:Sl,(Aw o ⟨j,0,none⟩ [nI t,d.v])/\
 nC 186 #[.agg #[nI t,d.v]] o λ G J=>
 ∃ u,(G=.returned (nI u))/\
 nC 185 #[nI u,n.v] J λ H z=>
 ∃ e:Sl,∃ v,(H=.returned (.tuple #[e.v,nI v]))/\
 Br (v !=0)
 (K (.tuple #[.pointer none,nI 1]) z)
 (New (.cells #[] 3 (0,0)) (λ D A=>
 ∃ f:Sl,(Aw A ⟨j,0 + 1,none⟩ [f.v])/\
 ∃ C:World,∃ g:Sl,((Builtin.append_ #[30,30] 30 #[.slice ((some ⟨D,0,none⟩)) 0 0,f.v]).run prog A=.ok (g.v) C)/\
 ∃ p,(St 30 ⟨j,0 + 1,none⟩ (g.v) C p)/\
 ∃ x,∃ i:Sl,(Aw p ⟨j,0,none⟩ [nI x,i.v])/\
 New (.cells #[nI m,nI x,i.v,e.v,.slice none 0 0] 179 (0,0)) (λ E L=>
 K (.tuple #[.pointer ((some ⟨E,0,none⟩)),nI 0]) L) p) z)) w
def ZzC:Sk:=(.seq .leaf (.seq .leaf (.cut [] [] [6,7,13,14,15,16,17,18,19,20,21,22] .leaf .leaf)))
theorem ZwM (e:Int) (d:Int) (b:Sl) (c:Sl) (K:nK) (w : nW) (h:B109 e d b c K w):Zk prog 109 #[nI e,.agg #[nI d,b.v],c.v] w K:=cq (sk:=ZzC) h func109
def B127 (e:Option Addr) (K:nK) (w : nW):Prop:=
 Zb e λ z=>
 ∃ j:Sl,(Aw w (nO z 3) [j.v])/\
 ∃ D:World,∃ c:Sl,((Instr.makeSlice 30 (nI ((↑j.len:Int))) (nI ((↑j.len:Int)))).run prog w=.ok (c.v) D)/\
 ∃ (m:Int->World->Prop) (E:Int->World->Nat),(m 0 D)/\∀ (I:Env) (b:Int) (k:World),m b k->
 Zb e λ r=>
 ∃ l:Sl,(Aw k (nO r 4) [l.v])/\
 Br (decide (b<(↑l.len:Int)))
 (Drw k λ d H=>
 Zb e λ s=>
 ∃ f:Sl,(At d (nO s 4) [f.v])/\
 Rng b f.len (Zb f.a λ t=>
 ∃ n,(At d (nO (t.add (ZaD b.toNat 4)) 1) [nI n])/\
 Zb e λ u=>
 ∃ g:Sl,(At d (nO u 4) [g.v])/\
 Rng b g.len (Zb g.a λ v=>
 ∃ o,(At d (nO (v.add (ZaD b.toNat 4)) 1) [nI o])/\
 Rng o c.len (Zb c.a λ F=>
 ∃ A,(At d (Addr.add F o.toNat) [nI A])/\
 Zb e λ x=>
 ∃ i:Sl,(At d (nO x 4) [i.v])/\
 Rng b i.len (Zb i.a λ y=>
 ∃ C,(At d (nO (y.add (ZaD b.toNat 4)) 2) [nI C])/\
 Rng n c.len (Zb c.a λ G=>
 ∃ q,(St 3 (Addr.add G n.toNat) (nI (wI (A + C))) H q)/\
 (m (wI (b + 1)) q)/\E (wI (b + 1)) q<E b k))))))
 (K (c.v) k)
def Zzq:Sk:=(.seq .leaf (.seq .leaf (.seq (.seq .leaf (.block (.loop [4] [(.int .i64)] [4,11,12,13,14,15,16,17,18,19,20,21,22,23,24,25,26,27,28,29,30,31,32,33,34,35,36,37,38,39,40,41,42,43,44,45,46,47,48,49] .leaf))) .leaf)))
theorem Zwu (a:Option Addr) (K:nK) (w : nW) (h:B127 a K w):Zk prog 127 #[.pointer a] w K:=cq (sk:=Zzq) h func127
def B59 (k:Option Addr) (K:nK) (w : nW):Prop:=
 ∃ (j:Sl->Int->World->Prop) (r:Sl->Int->World->Nat),(j ⟨none,0,0⟩ 0 w)/\∀ (C:Env) (b:Sl) (c:Int) (g:World),j b c g->
 Zb k λ o=>
 ∃ i:Sl,(Aw g (nO o 3) [i.v])/\
 Br (decide (c<(↑i.len:Int)))
 (Drw g λ m y=>
 Zb k λ n=>
 ∃ d:Sl,(At m (nO n 3) [d.v])/\
 nC 127 #[.pointer k] y λ t q=>
 ∃ e:Sl,(t=.returned (e.v))/\
 (m q)/\
 nC 126 #[d.v,e.v,nI c] q λ u z=>
 ∃ p v,(u=.returned (.tuple #[nI p,nI v]))/\
 New (.cells #[nI p] 3 (0,0)) (λ s A=>
 ∃ l:World,∃ f:Sl,((Builtin.append_ #[30,30] 30 #[b.v,.slice ((some ⟨s,0,none⟩)) 1 1]).run prog A=.ok (f.v) l)/\
 (j f (wI (c + 1)) l)/\r f (wI (c + 1)) l<r b c g) z)
 (K (b.v) g)
def sk59:Sk:=(.seq .leaf (.seq .leaf (.seq (.seq .leaf (.block (.loop [3,4] [.sl,(.int .i64)] [3,4,5,6,7,8,9,10,11,12,13,14,15,16,17,18,19,20,21,22,23,24,25,26,27,28,29,30] .leaf))) .leaf)))
theorem ZxU (a:Option Addr) (K:nK) (w : nW) (h:B59 a K w):Zk prog 59 #[.pointer a] w K:=cq (sk:=sk59) h func59
def B187 (k:Option Addr) (o:Int) (K:nK) (w : nW):Prop:=
 ∃ (g:Int->World->Prop) (m:Int->World->Nat),(g 0 w)/\∀ (p:Env) (c:Int) (b:World),g c b->
 Zb k λ j=>
 ∃ f:Sl,(Aw b (nO j 4) [f.v])/\
 Br (decide (c<(↑f.len:Int)))
 (Zb k λ i=>
 ∃ d:Sl,(Aw b (nO i 4) [d.v])/\
 Rng c d.len (Zb d.a λ n=>
 ∃ l,(Aw b (Addr.add (Addr.add n (ZaD c.toNat 4)) 0) [nI l])/\
 Br (l==o)
 (K (nI c) b)
 ((g (wI (c + 1)) b)/\m (wI (c + 1)) b<m c b)))
 (K (nI ((-1))) b)
def Zzd:Sk:=(.seq .leaf (.seq (.seq .leaf (.block (.loop [5] [(.int .i64)] [4,5,6,7,8,9,10,11,12,13,14,15,16,17,18,19,20,21,22,23,24,25] .leaf))) .leaf))
theorem ZvY (a:Option Addr) (b:Int) (K:nK) (w : nW) (h:B187 a b K w):Zk prog 187 #[.pointer a,nI b] w K:=cq (sk:=Zzd) h func187
def B111 (f:Option Addr) (o:Int) (G:Int) (H:Int) (K:nK) (w : nW):Prop:=
 ∃ (x:World->Prop),(Br (decide (o<1))
 (K (nI 1) w)
 (Br (decide (o>28629151))
 (K (nI 1) w)
 (x  w)))/\
 ∀ (ah:Env)  (L:World),x  L->
 nC 187 #[.pointer f,nI o] L λ ac O=>
 ∃ I,(ac=.returned (nI I))/\
 Br (decide (I >= 0))
 (K (nI 7) O)
 (Drw O λ y ag=>
 Zb f λ z=>
 ∃ i:Sl,(At y (nO z 3) [i.v])/\
 nC 127 #[.pointer f] ag λ ad Q=>
 ∃ j:Sl,(ad=.returned (j.v))/\
 (y Q)/\
 nC 188 #[i.v,j.v,nI G,nI H] Q λ ae T=>
 ∃ t:Sl,∃ u,(ae=.returned (.tuple #[t.v,nI u]))/\
 Br (u !=0)
 (K (nI u) T)
 (∃ (s:Int->World->Prop),(∃ (r:Int->World->Prop) (Y:Int->World->Nat),(r 0 T)/\∀ (ai:Env) (b:Int) (e:World),r b e->
 Zb f λ A=>
 ∃ q:Sl,(Aw e (nO A 4) [q.v])/\
 Br (decide (b<(↑q.len:Int)))
 (Zb f λ C=>
 ∃ p:Sl,(Aw e (nO C 4) [p.v])/\
 Rng b p.len (Zb p.a λ Z=>
 ∃ J,(Aw e (Addr.add (Addr.add Z (ZaD b.toNat 4)) 0) [nI J])/\
 Br (decide (J<o))
 ((r (wI (b + 1)) e)/\Y (wI (b + 1)) e<Y b e)
 (s b e)))
 (s b e))/\
 ∀ (aj:Env) (c:Int) (U:World),s c U->
 New (.cells #[] 197 (0,0)) (λ aa V=>
 Zb f λ D=>
 ∃ k:Sl,(Aw V (nO D 4) [k.v])/\
 ((0:Int)<=c)/\
 ((c:Int)<=(↑k.cap:Int))/\
 ∃ X:World,∃ l:Sl,((Builtin.append_ #[177,177] 177 #[.slice ((some ⟨aa,0,none⟩)) 0 0,.slice k.a c.toNat k.cap]).run prog V=.ok (l.v) X)/\
 New (.cells #[nI o,nI G,nI H,.slice none 0 0] 197 (0,0)) (λ ab af=>
 ∃ v:World,∃ m:Sl,((Builtin.append_ #[177,177] 177 #[l.v,.slice ((some ⟨ab,0,none⟩)) 1 1]).run prog af=.ok (m.v) v)/\
 Zb f λ E=>
 ∃ g:Sl,(Aw v (nO E 4) [g.v])/\
 ((0:Int)<=c)/\
 ((c:Int)<=(↑g.len:Int))/\
 ∃ M:World,∃ n:Sl,((Builtin.append_ #[177,177] 177 #[m.v,.slice (ZbI g.a c.toNat g.cap 4) (g.len - c.toNat) (g.cap - c.toNat)]).run prog v=.ok (n.v) M)/\
 Zb f λ F=>
 ∃ N,(St 177 (nO F 4) (n.v) M N)/\
 K (nI 0) N) X) U))
def ZzB:Sk:=(.seq .leaf (.cut [] [] [8,13,14,15,16,17,18] .leaf (.seq .leaf (.seq .leaf (.seq .leaf (.seq .leaf (.cut [11] [(.int .i64)] [11,38,39,40,41,42,43,44,45,46,47,48,49,50,51,52,53,54,55,56,57,58] (.block (.loop [11] [(.int .i64)] [11,38,39,40,41,42,43,44,45,46,47,48,49,50,51,52,53,54,55,56,57,58] .leaf)) .leaf)))))))
theorem ZwK (b:Option Addr) (d:Int) (a:Int) (c:Int) (K:nK) (w : nW) (h:B111 b d a c K w):Zk prog 111 #[.pointer b,nI d,nI a,nI c] w K:=cq (sk:=ZzB) h func111
def B114 (i:Option Addr) (t:Int) (K:nK) (w : nW):Prop:=
 nC 187 #[.pointer i,nI t] w λ s o=>
 ∃ b,(s=.returned (nI b))/\
 Br (decide (b<0))
 (K (nI 2) o)
 (Drw o λ g u=>
 Zb i λ l=>
 ∃ d:Sl,(At g (nO l 4) [d.v])/\
 ((0:Int)<=b)/\
 ((b:Int)<=(↑d.cap:Int))/\
 Zb i λ m=>
 ∃ c:Sl,(At g (nO m 4) [c.v])/\
 ((0:Int)<=wI (b + 1))/\
 ((wI (b + 1):Int)<=(↑c.len:Int))/\
 New (.cells #[] 197 (0,0)) (λ r p=>
 (g p)/\
 ∃ j:World,∃ e:Sl,((Builtin.append_ #[177,177] 177 #[.slice ((some ⟨r,0,none⟩)) 0 0,.slice d.a b.toNat d.cap]).run prog p=.ok (e.v) j)/\
 (g j)/\
 ∃ k:World,∃ f:Sl,((Builtin.append_ #[177,177] 177 #[e.v,.slice (ZbI c.a (wI (b + 1)).toNat c.cap 4) (c.len - (wI (b + 1)).toNat) (c.cap - (wI (b + 1)).toNat)]).run prog j=.ok (f.v) k)/\
 (g k)/\
 Zb i λ n=>
 ∃ q,(St 177 (nO n 4) (f.v) k q)/\
 K (nI 0) q) u)
theorem ZwH (a:Option Addr) (b:Int) (K:nK) (w : nW) (h:B114 a b K w):Zk prog 114 #[.pointer a,nI b] w K:=cq (sk:=.leaf) h func114
def B197 (p:Option Addr) (K:nK) (w : nW):Prop:=
 ∃ (k:Sl->Int->World->Prop) (q:Sl->Int->World->Nat),(k ⟨none,0,0⟩ 0 w)/\∀ (r:Env) (c:Sl) (b:Int) (d:World),k c b d->
 Zb p λ o=>
 ∃ j:Sl,(Aw d (nO o 4) [j.v])/\
 Br (decide (b<(↑j.len:Int)))
 (Zb p λ m=>
 ∃ f:Sl,(Aw d (nO m 4) [f.v])/\
 Rng b f.len (Zb f.a λ n=>
 ∃ e:Sl,(Aw d (nO (n.add (ZaD b.toNat 4)) 3) [e.v])/\
 ∃ l:World,∃ g:Sl,((Builtin.append_ #[30,30] 30 #[c.v,e.v]).run prog d=.ok (g.v) l)/\
 (k g (wI (b + 1)) l)/\q g (wI (b + 1)) l<q c b d))
 (K (c.v) d)
def Zy6:Sk:=(.seq .leaf (.seq .leaf (.seq (.seq .leaf (.block (.loop [3,4] [.sl,(.int .i64)] [3,4,5,6,7,8,9,10,11,12,13,14,15,16,17,18,19,20,21,22,23] .leaf))) .leaf)))
theorem ZvO (a:Option Addr) (K:nK) (w : nW) (h:B197 a K w):Zk prog 197 #[.pointer a] w K:=cq (sk:=Zy6) h func197
def B198 (f:Sl) (p:Int) (K:nK) (w : nW):Prop:=
 ∃ (l:Sl->Bool->Int->World->Prop) (k:Sl->Bool->Int->World->Nat),(l ⟨none,0,0⟩ false 0 w)/\∀ (T:Env) (c:Sl) (e:Bool) (b:Int) (d:World),l c e b d->
 Br (decide (b<(↑f.len:Int)))
 (Br (!e)
 (Rng b f.len (Zb f.a λ A=>
 ∃ u,(Aw d (Addr.add A b.toNat) [nI u])/\
 Br (decide (u>p))
 (New (.cells #[nI p] 3 (0,0)) (λ F M=>
 ∃ q:World,∃ i:Sl,((Builtin.append_ #[30,30] 30 #[c.v,.slice ((some ⟨F,0,none⟩)) 1 1]).run prog M=.ok (i.v) q)/\
 Rng b f.len (Zb f.a λ C=>
 ∃ v,(Aw q (Addr.add C b.toNat) [nI v])/\
 New (.cells #[nI v] 3 (0,0)) (λ G N=>
 ∃ r:World,∃ m:Sl,((Builtin.append_ #[30,30] 30 #[i.v,.slice ((some ⟨G,0,none⟩)) 1 1]).run prog N=.ok (m.v) r)/\
 (l m true (wI (b + 1)) r)/\k m true (wI (b + 1)) r<k c e b d) q)) d)
 (Rng b f.len (Zb f.a λ D=>
 ∃ x,(Aw d (Addr.add D b.toNat) [nI x])/\
 New (.cells #[nI x] 3 (0,0)) (λ H O=>
 ∃ s:World,∃ n:Sl,((Builtin.append_ #[30,30] 30 #[c.v,.slice ((some ⟨H,0,none⟩)) 1 1]).run prog O=.ok (n.v) s)/\
 (l n e (wI (b + 1)) s)/\k n e (wI (b + 1)) s<k c e b d) d))))
 (Rng b f.len (Zb f.a λ E=>
 ∃ y,(Aw d (Addr.add E b.toNat) [nI y])/\
 New (.cells #[nI y] 3 (0,0)) (λ I Q=>
 ∃ t:World,∃ o:Sl,((Builtin.append_ #[30,30] 30 #[c.v,.slice ((some ⟨I,0,none⟩)) 1 1]).run prog Q=.ok (o.v) t)/\
 (l o e (wI (b + 1)) t)/\k o e (wI (b + 1)) t<k c e b d) d)))
 (Br (!e)
 (New (.cells #[nI p] 3 (0,0)) (λ J L=>
 ∃ z:World,∃ j:Sl,((Builtin.append_ #[30,30] 30 #[c.v,.slice ((some ⟨J,0,none⟩)) 1 1]).run prog L=.ok (j.v) z)/\
 K (j.v) z) d)
 (K (c.v) d))
def Zy5:Sk:=(.seq .leaf (.seq .leaf (.seq .leaf (.seq (.seq .leaf (.block (.loop [5,6,7] [.sl,.bool,(.int .i64)] [5,6,7,8,9,10,11,12,13,14,15,16,17,18,19,20,21,22,23,24,25,26,27,28,29,30,31,32,33,34] .leaf))) .leaf))))
theorem ZvN (b:Sl) (c:Int) (K:nK) (w : nW) (h:B198 b c K w):Zk prog 198 #[b.v,nI c] w K:=cq (sk:=Zy5) h func198
def B119 (c:Option Addr) (Y:Int) (X:ByteArray) (K:nK) (w : nW):Prop:=
 nC 187 #[.pointer c,nI Y] w λ O H=>
 ∃ b,(O=.returned (nI b))/\
 Zb c λ s=>
 ∃ D,∃ d:Sl,(Aw H (nO s 1) [nI D,d.v])/\
 nC 195 #[.agg #[nI D,d.v],.string X] H λ Q q=>
 ∃ p E,(Q=.returned (.tuple #[nI p,nI E]))/\
 ∃ (r:World->Prop),(Br (decide (b<0))
 (K (nI 2) q)
 (Br (E !=0)
 (K (nI 2) q)
 (r  q)))/\
 ∀ (ac:Env)  (I:World),r  I->
 Drw I λ m J=>
 Zb c λ t=>
 ∃ i:Sl,(At m (nO t 4) [i.v])/\
 Rng b i.len (Zb i.a λ u=>
 ∃ o:Sl,(At m (nO (u.add (ZaD b.toNat 4)) 3) [o.v])/\
 Zb c λ v=>
 ∃ j:Sl,(At m (nO v 4) [j.v])/\
 Rng b j.len (Zb j.a λ x=>
 ∃ F,(At m (nO (x.add (ZaD b.toNat 4)) 2) [nI F])/\
 Br (decide ((↑o.len:Int) >= F))
 (K (nI 7) J)
 (nC 197 #[.pointer c] J λ T aa=>
 ∃ e:Sl,(T=.returned (e.v))/\
 nC 196 #[e.v,nI p] aa λ U L=>
 ∃ G,(U=.returned (.bool G))/\
 Br G
 (K (nI 3) L)
 (Drw L λ n ab=>
 Zb c λ y=>
 ∃ k:Sl,(At n (nO y 4) [k.v])/\
 Zb c λ z=>
 ∃ l:Sl,(At n (nO z 4) [l.v])/\
 Rng b l.len (Zb l.a λ A=>
 ∃ f:Sl,(At n (nO (A.add (ZaD b.toNat 4)) 3) [f.v])/\
 nC 198 #[f.v,nI p] ab λ V M=>
 ∃ g:Sl,(V=.returned (g.v))/\
 (n M)/\
 Rng b k.len (Zb k.a λ C=>
 ∃ N,(St 30 (nO (C.add (ZaD b.toNat 4)) 3) (g.v) M N)/\
 K (nI 0) N))))))
def Zzw:Sk:=(.seq .leaf (.seq .leaf (.seq .leaf (.cut [] [] [6,23,24,25,26,27,28] .leaf .leaf))))
theorem ZwC (a:Option Addr) (c:Int) (b:ByteArray) (K:nK) (w : nW) (h:B119 a c b K w):Zk prog 119 #[.pointer a,nI c,.string b] w K:=cq (sk:=Zzw) h func119
def B120 (e:Option Addr) (ag:Int) (K:nK) (w : nW):Prop:=
 nC 187 #[.pointer e,nI ag] w λ ac q=>
 ∃ b,(ac=.returned (nI b))/\
 Br (decide (b<0))
 (K (.tuple #[.slice none 0 0,nI 2]) q)
 (Zb e λ D=>
 ∃ m:Sl,(Aw q (nO D 4) [m.v])/\
 Rng b m.len (Zb m.a λ E=>
 ∃ r:Sl,(Aw q (nO (E.add (ZaD b.toNat 4)) 3) [r.v])/\
 Br (decide ((↑r.len:Int)>0))
 (K (.tuple #[.slice none 0 0,nI 7]) q)
 (Drw q λ l aj=>
 Zb e λ F=>
 ∃ M,∃ g:Sl,(At l (nO F 1) [nI M,g.v])/\
 Zb e λ G=>
 ∃ n:Sl,(At l (nO G 4) [n.v])/\
 Rng b n.len (Zb n.a λ H=>
 ∃ N,(At l (nO (H.add (ZaD b.toNat 4)) 2) [nI N])/\
 nC 197 #[.pointer e] aj λ ad X=>
 ∃ i:Sl,(ad=.returned (i.v))/\
 (l X)/\
 nC 199 #[.agg #[nI M,g.v],i.v,nI N] X λ ae z=>
 ∃ c:Sl,∃ v,(ae=.returned (.tuple #[c.v,nI v]))/\
 (l z)/\
 Br (v !=0)
 (K (.tuple #[.slice none 0 0,nI v]) z)
 (∃ (t:Sl->Int->World->Prop) (Y:Sl->Int->World->Nat),(t ⟨none,0,0⟩ 0 z)/\∀ (an:Env) (d:Sl) (f:Int) (s:World),t d f s->
 Br (decide (f<(↑c.len:Int)))
 (Drw s λ C ak=>
 Zb e λ I=>
 ∃ O,∃ j:Sl,(At C (nO I 1) [nI O,j.v])/\
 Rng f c.len (Zb c.a λ Z=>
 ∃ Q,(At C (Addr.add Z f.toNat) [nI Q])/\
 nC 200 #[.agg #[nI O,j.v],nI Q] ak λ af al=>
 ∃ T ah,(af=.returned (.tuple #[.string T,nI ah]))/\
 New (.cells #[.string T] 9 (0,0)) (λ aa am=>
 ∃ A:World,∃ o:Sl,((Builtin.append_ #[31,31] 31 #[d.v,.slice ((some ⟨aa,0,none⟩)) 1 1]).run prog am=.ok (o.v) A)/\
 (t o (wI (f + 1)) A)/\Y o (wI (f + 1)) A<Y d f s) al))
 (Drw s λ u ai=>
 Zb e λ J=>
 ∃ p:Sl,(At u (nO J 4) [p.v])/\
 New (.cells #[] 3 (0,0)) (λ ab U=>
 (u U)/\
 ∃ y:World,∃ k:Sl,((Builtin.append_ #[30,30] 30 #[.slice ((some ⟨ab,0,none⟩)) 0 0,c.v]).run prog U=.ok (k.v) y)/\
 (u y)/\
 Rng b p.len (Zb p.a λ L=>
 ∃ V,(St 30 (nO (L.add (ZaD b.toNat 4)) 3) (k.v) y V)/\
 K (.tuple #[d.v,nI 0]) V)) ai))))))
def Zzv:Sk:=(.seq .leaf (.seq .leaf (.seq .leaf (.seq .leaf (.seq .leaf (.seq .leaf (.seq .leaf (.seq (.seq .leaf (.block (.loop [9,10] [.sl,(.int .i64)] [9,10,11,12,49,50,51,52,53,54,55,56,57,58,59,60,61,62,63,64,65,66,67,68,69,70] .leaf))) .leaf))))))))
theorem ZwB (a:Option Addr) (b:Int) (K:nK) (w : nW) (h:B120 a b K w):Zk prog 120 #[.pointer a,nI b] w K:=cq (sk:=Zzv) h func120
def B125 (m:Option Addr) (J:Int) (K:nK) (w : nW):Prop:=
 nC 187 #[.pointer m,nI J] w λ H M=>
 ∃ c,(H=.returned (nI c))/\
 ∃ (o:Sl->Int->World->Prop) (E:Sl->Int->World->Nat),(o ⟨none,0,0⟩ 0 M)/\∀ (Q:Env) (b:Sl) (d:Int) (e:World),o b d e->
 ∃ (r:World->Prop),(Br (decide (c >= 0))
 (Zb m λ s=>
 ∃ i:Sl,(Aw e (nO s 4) [i.v])/\
 Rng c i.len (Zb i.a λ t=>
 ∃ n:Sl,(Aw e (nO (t.add (ZaD c.toNat 4)) 3) [n.v])/\
 Br (decide (d<(↑n.len:Int)))
 (r  e)
 (K (b.v) e)))
 (K (b.v) e))/\
 ∀ (T:Env)  (C:World),r  C->
 Drw C λ g N=>
 Zb m λ u=>
 ∃ y,∃ f:Sl,(At g (nO u 1) [nI y,f.v])/\
 Zb m λ v=>
 ∃ j:Sl,(At g (nO v 4) [j.v])/\
 Rng c j.len (Zb j.a λ x=>
 ∃ k:Sl,(At g (nO (x.add (ZaD c.toNat 4)) 3) [k.v])/\
 Rng d k.len (Zb k.a λ F=>
 ∃ z,(At g (Addr.add F d.toNat) [nI z])/\
 nC 200 #[.agg #[nI y,f.v],nI z] N λ I D=>
 ∃ A L,(I=.returned (.tuple #[.string A,nI L]))/\
 (g D)/\
 New (.cells #[.string A] 9 (0,0)) (λ G O=>
 ∃ q:World,∃ l:Sl,((Builtin.append_ #[31,31] 31 #[b.v,.slice ((some ⟨G,0,none⟩)) 1 1]).run prog O=.ok (l.v) q)/\
 (o l (wI (d + 1)) q)/\E l (wI (d + 1)) q<E b d e) D))
def Zzs:Sk:=(.seq .leaf (.seq .leaf (.seq .leaf (.seq (.seq .leaf (.block (.loop [6,7] [.sl,(.int .i64)] [6,7,8,9,13,14,15,16,17,18,19,20,21,22,23,24,25,26,27,28,29,30,31,32,33,34,35,36,37,38,39,40,41,42,43,44,45,46,47,48,49,50,51,52] (.cut [] [] [13,14,15,16,17,18,19,20,21,22,23,24,25,26,27] .leaf .leaf)))) .leaf))))
theorem Zww (a:Option Addr) (b:Int) (K:nK) (w : nW) (h:B125 a b K w):Zk prog 125 #[.pointer a,nI b] w K:=cq (sk:=Zzs) h func125
def B138 (i:Sl) (K:nK) (w : nW):Prop:=
 ∃ (g:Sl->Int->World->Prop) (l:Sl->Int->World->Nat),(g ⟨none,0,0⟩ 0 w)/\∀ (q:Env) (b:Sl) (c:Int) (f:World),g b c f->
 Br (decide (c<(↑i.len:Int)))
 (Rng c i.len (Zb i.a λ m=>
 ∃ k,(Aw f (Addr.add m c.toNat) [nI k])/\
 nC 137 #[.int .u64 (IntKind.u64.wrap k)] f λ n p=>
 ∃ d:Sl,(n=.returned (d.v))/\
 ∃ j:World,∃ e:Sl,((Builtin.append_ #[47,47] 47 #[b.v,d.v]).run prog p=.ok (e.v) j)/\
 (g e (wI (c + 1)) j)/\l e (wI (c + 1)) j<l b c f))
 (K (b.v) f)
def Zzl:Sk:=(.seq .leaf (.seq .leaf (.seq (.seq .leaf (.block (.loop [3,4] [.sl,(.int .i64)] [3,4,5,6,7,8,9,10,11,12,13,14,15,16,17,18] .leaf))) .leaf)))
theorem Zwn (b:Sl) (K:nK) (w : nW) (h:B138 b K w):Zk prog 138 #[b.v] w K:=cq (sk:=Zzl) h func138
def B69 (c:Option Addr) (K:nK) (w : nW):Prop:=
 Drw w λ z a3=>
 Zb c λ ao=>
 ∃ ak,(At z (Addr.add ao 0) [nI ak])/\
 Zb c λ U=>
 ∃ ad,(At z (nO U 1) [nI ad])/\
 Zb c λ V=>
 ∃ D:Sl,(At z ⟨V.block,V.off + 1 + 1,none⟩ [D.v])/\
 New (.cells #[nI ak,nI ad,nI ((↑D.len:Int))] 3 (0,0)) (λ aq am=>
 (z am)/\
 nC 138 #[.slice ((some ⟨aq,0,none⟩)) 3 3] am λ aw O=>
 ∃ i:Sl,(aw=.returned (i.v))/\
 (z O)/\
 Zb c λ X=>
 ∃ j:Sl,(Aw O ⟨X.block,X.off + 1 + 1,none⟩ [j.v])/\
 nC 138 #[j.v] O λ ax ba=>
 ∃ k:Sl,(ax=.returned (k.v))/\
 ∃ Q:World,∃ l:Sl,((Builtin.append_ #[47,47] 47 #[i.v,k.v]).run prog ba=.ok (l.v) Q)/\
 Zb c λ Y=>
 ∃ E:Sl,(Aw Q (nO Y 3) [E.v])/\
 New (.cells #[nI ((↑E.len:Int))] 3 (0,0)) (λ ar bb=>
 nC 138 #[.slice ((some ⟨ar,0,none⟩)) 1 1] bb λ ay bc=>
 ∃ m:Sl,(ay=.returned (m.v))/\
 ∃ T:World,∃ n:Sl,((Builtin.append_ #[47,47] 47 #[l.v,m.v]).run prog bc=.ok (n.v) T)/\
 Zb c λ Z=>
 ∃ o:Sl,(Aw T (nO Z 3) [o.v])/\
 nC 138 #[o.v] T λ az bd=>
 ∃ p:Sl,(az=.returned (p.v))/\
 ∃ L:World,∃ q:Sl,((Builtin.append_ #[47,47] 47 #[n.v,p.v]).run prog bd=.ok (q.v) L)/\
 Zb c λ aa=>
 ∃ F:Sl,(Aw L (nO aa 4) [F.v])/\
 New (.cells #[nI ((↑F.len:Int))] 3 (0,0)) (λ au a4=>
 nC 138 #[.slice ((some ⟨au,0,none⟩)) 1 1] a4 λ a0 a5=>
 ∃ r:Sl,(a0=.returned (r.v))/\
 ∃ al:World,∃ G:Sl,((Builtin.append_ #[47,47] 47 #[q.v,r.v]).run prog a5=.ok (G.v) al)/\
 ∃ (J:Sl->Int->World->Prop) (an:Sl->Int->World->Nat),(J G 0 al)/\∀ (be:Env) (d:Sl) (e:Int) (f:World),J d e f->
 Zb c λ ab=>
 ∃ H:Sl,(Aw f (nO ab 4) [H.v])/\
 Br (decide (e<(↑H.len:Int)))
 (Zb c λ ac=>
 ∃ A:Sl,(Aw f (nO ac 4) [A.v])/\
 Rng e A.len (Zb A.a λ ap=>
 ∃ ae af ag,∃ s:Sl,(Aw f (Addr.add ap (ZaD e.toNat 4)) [nI ae,nI af,nI ag,s.v])/\
 New (.cells #[nI 0,nI 0,nI 0,.slice none 0 0] 197 (0,0)) (λ g a6=>
 ∃ y,(St 197 ⟨g,0,none⟩ (.agg #[nI ae,nI af,nI ag,s.v]) a6 y)/\
 ∃ ah,(Aw y ⟨g,0,none⟩ [nI ah])/\
 ∃ ai,(Aw y ⟨g,0 + 1,none⟩ [nI ai])/\
 ∃ aj,(Aw y ⟨g,0 + 2,none⟩ [nI aj])/\
 ∃ I:Sl,(Aw y ⟨g,0 + 3,none⟩ [I.v])/\
 New (.cells #[nI ah,nI ai,nI aj,nI ((↑I.len:Int))] 3 (0,0)) (λ av a7=>
 nC 138 #[.slice ((some ⟨av,0,none⟩)) 4 4] a7 λ a1 a8=>
 ∃ t:Sl,(a1=.returned (t.v))/\
 ∃ M:World,∃ u:Sl,((Builtin.append_ #[47,47] 47 #[d.v,t.v]).run prog a8=.ok (u.v) M)/\
 ∃ v:Sl,(Aw M ⟨g,0 + 3,none⟩ [v.v])/\
 nC 138 #[v.v] M λ a2 a9=>
 ∃ x:Sl,(a2=.returned (x.v))/\
 ∃ N:World,∃ C:Sl,((Builtin.append_ #[47,47] 47 #[u.v,x.v]).run prog a9=.ok (C.v) N)/\
 (J C (wI (e + 1)) N)/\an C (wI (e + 1)) N<an d e f) y) f))
 (K (d.v) f)) L) Q) a3
def sk69:Sk:=(.seq .leaf (.seq .leaf (.seq .leaf (.seq .leaf (.seq .leaf (.seq .leaf (.seq (.seq .leaf (.block (.loop [3,4] [.sl,(.int .i64)] [3,4,5,56,57,58,59,60,61,62,63,64,65,66,67,68,69,70,71,72,73,74,75,76,77,78,79,80,81,82,83,84,85,86,87,88,89] .leaf))) .leaf)))))))
theorem ZxN (a:Option Addr) (K:nK) (w : nW) (h:B69 a K w):Zk prog 69 #[.pointer a] w K:=cq (sk:=sk69) h func69
def B45 (c:Sl) (f:Sl) (K:nK) (w : nW):Prop:=
 Br ((↑c.len:Int) !=(↑f.len:Int))
 (K (.bool false) w)
 (∃ (e:Int->World->Prop) (l:Int->World->Nat),(e 0 w)/\∀ (o:Env) (b:Int) (d:World),e b d->
 Br (decide (b<(↑c.len:Int)))
 (Drw d λ i g=>
 Rng b c.len (Zb c.a λ m=>
 ∃ j,(At i (Addr.add m b.toNat) [.string j])/\
 Rng b f.len (Zb f.a λ n=>
 ∃ k,(At i (Addr.add n b.toNat) [.string k])/\
 Br (!j.toList==k.toList)
 (K (.bool false) g)
 ((e (wI (b + 1)) g)/\l (wI (b + 1)) g<l b d))))
 (K (.bool true) d))
def sk45:Sk:=(.seq .leaf (.seq .leaf (.seq (.seq .leaf (.block (.loop [5] [(.int .i64)] [4,5,11,12,13,14,15,16,17,18,19,20,21,22,23,24,25] .leaf))) .leaf)))
theorem Zx8 (b:Sl) (c:Sl) (K:nK) (w : nW) (h:B45 b c K w):Zk prog 45 #[b.v,c.v] w K:=cq (sk:=sk45) h func45
set_option maxRecDepth 10000
def B68 (d:Sl) (K:nK) (w : nW):Prop:=
 nC 137 #[.int .u64 (IntKind.u64.wrap (↑d.len:Int))] w λ f g=>
 ∃ b:Sl,(f=.returned (.slice b.a b.len b.cap))/\
 ∃ e:World,∃ c:Sl,((Builtin.append_ #[47,47] 47 #[.slice b.a b.len b.cap,.slice d.a d.len d.cap]).run prog g=.ok (.slice c.a c.len c.cap) e)/\
 K (.slice c.a c.len c.cap) e
theorem ZxO (b:Sl) (K:nK) (w : nW) (h:B68 b K w):Zk prog 68 #[.slice b.a b.len b.cap] w K:=cq (sk:=.leaf) h func68
end
end Go.Proofs.YtlplemdmegpoeaaGreatDoor

namespace Go.Proofs.YtlplemdmegpoeaaGreatDoor
section
open Go Go.VC Tryz
variable {R:Cx} {Hs Rest:List HP} {w:World}
theorem ZpD:∀ a b:List Int,(a++b).sum=a.sum + b.sum
 |[],b=>by simp
 |x::a,b=>by simp only [List.cons_append,List.sum_cons,ZpD a b];omega
theorem ZmQ {g:List Int} {j:Nat} (h:j<g.length):(g.take (j + 1)).sum=(g.take j).sum + g[j]:=by
 rw [List.take_add_one,List.getElem?_eq_getElem h,ZpD];simp
theorem ZhY {g:List Int} (h:∀ x∈g,0<=x/\x<=10):0<=g.sum/\g.sum<=10 * g.length:=by
 induction g with
 |nil=>simp
 |cons a g ih=>
  have:=ih λ x hx=>h x (List.mem_cons_of_mem _ hx);have:=h a List.mem_cons_self;simp only [List.sum_cons,List.length_cons];omega
def ZtH (g:List Int):Bool:=g.all λ x=>decide (1<=x/\x<=10)
def ZcR (n:Int) (g:List Int):Bool:=decide (1<=n/\n<=60/\1<=g.length/\g.length<=4) && (ZtH g && decide (g.sum<=10))
def Zaw (n:Int) (g:List Int):Int:=if ZcR n g then n * g.sum else 0
theorem ZW {n:Int} {g:List Int}:ZcR n g=true↔(1<=n/\n<=60/\1<=g.length/\g.length<=4)/\(∀ x∈g,1<=x/\x<=10)/\g.sum<=10:=by
 simp [ZcR,ZtH]
theorem Zes {g:List Int} (h:∀ x∈g,1<=x/\x<=10) (hl:1<=g.length):1<=g.sum:=by
 match g,hl with
 |a::g,_=>
  have h1:=h a List.mem_cons_self;have h2:=ZhY (g:=g) λ x hx=>by have:=h x (List.mem_cons_of_mem _ hx);omega
  simp only [List.sum_cons];omega
theorem Zhg {n:Int} {g:List Int} (h:ZcR n g=true):Zaw n g=n * g.sum:=by unfold Zaw;rw [if_pos h]
theorem ZtB {a b:Int} (h0:0<=a) (h1:a<=60) (h2:0<=b) (h3:b<=10):0<=a * b/\a * b<=600:=
 ⟨Int.mul_nonneg h0 h2,by have:=Int.mul_le_mul h1 h3 h2 (by omega);omega⟩
theorem ZbR (n:Int) (g:List Int):0<=Zaw n g/\Zaw n g<=600:=by
 unfold Zaw;split
 ·rename_i h
  obtain ⟨h1,h2,h3⟩:=ZW.1 h;have:=ZhY (λ x hx=>by have:=h2 x hx;omega) (g:=g);exact ZtB (by omega) (by omega) (by omega) (by omega)
 ·omega
abbrev Zb5 (n:Int) (s:Sl):Obj:=.cells [nI n,.slice s.a s.len s.cap].toArray 37 (0,0)
theorem ZbT {n:Int} {s:Sl} {g:List Int} (hs:RoI R s g) (hg:∀ x∈g,0<=x/\x<=10) (hl:g.length<=4) (hw:Sat R Hs w):
  Zk prog 236 #[.agg #[nI n,.slice s.a s.len s.cap]] w λ v w'=>v=nI g.sum/\Sat R Hs w':=by
 have hlen:=hs.len;apply ZvD;refine Za hw λ p w hw=>?_;have hw:Sat R (pts p (Zb5 n s)::Hs) w:=hw;refine ⟨s,oA hw,?_⟩;refine ⟨λ m i w=>∃ j:Nat,i=j/\j<=g.length/\m=(g.take j).sum/\Sat R (pts p (Zb5 n s)::Hs) w,λ _ i _=>g.length - i.toNat,⟨0,rfl,by omega,by simp,hw⟩,?_⟩;clear hw;rintro _ _ _ w ⟨j,rfl,hj,rfl,hw⟩;refine Br.d (λ h=>?_) (λ h=>?_)
 ·have hj2:j<g.length:=by omega
  refine hs.idx (eqS hw) hj2 ?_;have hb:=ZhY (λ x hx=>hg x (List.mem_of_mem_take hx)) (g:=g.take j);have hb2:(g.take j).length<=4:=by rw [List.length_take];omega
  have hx:=hg g[j] (List.getElem_mem _);rw [Zd (x:=(j:Int) + 1),Zd];exact ⟨⟨j + 1,by omega,by omega,(ZmQ hj2).symm,hw⟩,by dsimp only;omega⟩
 ·rw [List.take_of_length_le (by omega)]
  exact ⟨rfl,hw.drop⟩
theorem Zbq {n:Int} {s:Sl} {g:List Int} (hs:RoI R s g) (hg:∀ x∈g,0<=x/\x<=10) (hl:g.length<=4) (hw:Sat R Hs w):
  Zk prog 256 #[.agg #[nI n,.slice s.a s.len s.cap]] w λ v w'=>v=nI g.sum/\Sat R Hs w':=by
 have hlen:=hs.len;apply Zvm;refine Za hw λ p w hw=>?_;have hw:Sat R (pts p (Zb5 n s)::Hs) w:=hw;refine ⟨λ m i w=>∃ j:Nat,i=j/\j<=g.length/\m=(g.take j).sum/\Sat R (pts p (Zb5 n s)::Hs) w,λ _ i _=>g.length - i.toNat,⟨0,rfl,by omega,by simp,hw⟩,?_⟩;clear hw;rintro _ _ _ w ⟨j,rfl,hj,rfl,hw⟩;refine ⟨s,oA hw,Br.d (λ h=>?_) (λ h=>?_)⟩
 ·have hj2:j<g.length:=by omega
  refine ⟨s,oA hw,hs.idx (eqS hw) hj2 ?_⟩;have hb:=ZhY (λ x hx=>hg x (List.mem_of_mem_take hx)) (g:=g.take j);have hb2:(g.take j).length<=4:=by rw [List.length_take];omega
  have hx:=hg g[j] (List.getElem_mem _);rw [Zd (x:=(j:Int) + 1),Zd];exact ⟨⟨j + 1,by omega,by omega,(ZmQ hj2).symm,hw⟩,by dsimp only;omega⟩
 ·rw [List.take_of_length_le (by omega)]
  exact ⟨rfl,hw.drop⟩
theorem Zq9 {s:Sl} {l:List Int} {f:Value} {p:Int->Bool} (hs:RoI R s l) (hf:∀ x w,Sat R Hs w->Zda prog cl f [nI x] w λ e w'=>e=.returned (.bool (p x))/\Sat R Hs w') (hw:Sat R Hs w):
  Zk prog 272 #[.slice s.a s.len s.cap,f] w λ v w'=>(∃ n:Int,v=nI n/\(l.any p=true↔0<=n))/\Sat R Hs w':=by
 have hlen:=hs.len;have hbd:=hs.bound;apply Zvg;refine ⟨λ i w=>∃ j:Nat,i=j/\j<=l.length/\(l.take j).any p=false/\Sat R Hs w,λ i _=>l.length - i.toNat,⟨0,rfl,by omega,by simp,hw⟩,?_⟩;clear hw;rintro _ _ w ⟨j,rfl,hj,hn,hw⟩;refine Br.d (λ h=>?_) (λ h=>?_)
 ·have hj2:j<l.length:=by omega
  refine hs.idx (eqS hw) hj2 ?_;refine (hf l[j] _ hw).mono ?_;rintro _ w ⟨rfl,hw⟩;refine ⟨_,rfl,Br.mk (λ h=>⟨⟨j,rfl,⟨λ _=>by omega,λ _=>List.any_eq_true.2 ⟨_,List.getElem_mem _,h⟩⟩⟩,hw⟩) (λ h=>?_)⟩;rw [Zd];refine ⟨⟨j + 1,by omega,by omega,?_,hw⟩,by dsimp only;omega⟩;rw [List.take_add_one,List.getElem?_eq_getElem hj2,List.any_append,hn];simp [h]
 ·refine ⟨⟨-1,rfl,⟨λ h2=>?_,λ h2=>by omega⟩⟩,hw⟩
  rw [List.take_of_length_le (by omega)] at hn;rw [hn] at h2;cases h2
theorem ZoZ {s:Sl} {l:List Int} {f:Value} {p:Int->Bool} (hs:RoI R s l) (hf:∀ x w,Sat R Hs w->Zda prog cl f [nI x] w λ e w'=>e=.returned (.bool (p x))/\Sat R Hs w') (hw:Sat R Hs w):
  Zk prog 212 #[.slice s.a s.len s.cap,f] w λ v w'=>v=.bool (l.any p)/\Sat R Hs w':=by
 apply ZvG;refine (Zq9 hs hf hw).use ?_;rintro _ w ⟨⟨n,rfl,h⟩,hw⟩;refine ⟨n,rfl,?_,hw⟩
 congr 1
 rw [Bool.eq_iff_iff,decide_eq_true_iff];exact h.symm
theorem ZsR {g:Int} (hw:Sat R Hs w):Zk prog 237 #[nI g] w λ v w'=>v=.bool (!decide (1<=g/\g<=10))/\Sat R Hs w':=by
 apply ZvC;refine Br.d (λ h=>⟨?_,hw⟩) (λ h=>⟨?_,hw⟩)
 ·rw [decide_eq_false (by omega)];rfl
 ·congr 1
  rw [<-decide_not,decide_eq_decide];omega
theorem ZbW {n:Int} {g:List Int} (h:¬ ((1<=n/\n<=60/\1<=g.length/\g.length<=4)/\(∀ x∈g,1<=x/\x<=10)/\g.sum<=10)):ZcR n g=false:=by
 rw [<-Bool.not_eq_true,ZW];exact h
theorem ZfE {n:Int} {s:Sl} {g:List Int} (hs:RoI R s g) (hw:Sat R Hs w):
  Zk prog 165 #[.agg #[nI n,.slice s.a s.len s.cap]] w λ v w'=>v=.bool (ZcR n g)/\Sat R Hs w':=by
 have hlen:=hs.len;apply Zwj;refine Za hw λ p w hw=>?_;have hw:Sat R (pts p (Zb5 n s)::Hs) w:=hw;refine ⟨n,oA hw,Br.d (λ h1=>⟨by rw [ZbW (λ h=>by omega)],hw.drop⟩) (λ h1=>?_)⟩;refine ⟨n,oA hw,Br.d (λ h2=>⟨by rw [ZbW (λ h=>by omega)],hw.drop⟩) (λ h2=>?_)⟩;refine ⟨s,oA hw,Br.d (λ h3=>⟨by rw [ZbW (λ h=>by omega)],hw.drop⟩) (λ h3=>?_)⟩;refine ⟨s,oA hw,Br.d (λ h4=>⟨by rw [ZbW (λ h=>by omega)],hw.drop⟩) (λ h4=>?_)⟩;refine ⟨s,oA hw,?_⟩;refine (ZoZ (p:=λ x=>!decide (1<=x/\x<=10)) hs (λ x w hw=>Zda.mk (by kernel_rfl) ((ZsR hw).use λ v w' h=>⟨by rw [h.1],h.2⟩)) hw).u λ w hw=>?_;refine ⟨_,rfl,Br.mk (λ h5=>⟨?_,hw.drop⟩) (λ h5=>?_)⟩
 ·rw [ZbW (λ h=>?_)]
  obtain ⟨x,hx,hx2⟩:=List.any_eq_true.1 h5;have:=h.2.1 x hx;rw [decide_eq_true this] at hx2;cases hx2
 have hg:∀ x∈g,1<=x/\x<=10:=λ x hx=>by
  by_cases h:1<=x/\x<=10
  ·exact h
  ·have:(g.any λ x=>!decide (1<=x/\x<=10))=true:=List.any_eq_true.2 ⟨x,hx,by rw [decide_eq_false h];rfl⟩
   rw [h5] at this;cases this
 refine ⟨n,s,oA hw,?_⟩;refine (ZbT hs (λ x hx=>by have:=hg x hx;omega) (by omega) hw).u λ w hw=>?_;refine ⟨_,rfl,?_,hw.drop⟩
 congr 1
 rw [Bool.eq_iff_iff,decide_eq_true_iff,ZW];exact ⟨λ h=>⟨⟨by omega,by omega,by omega,by omega⟩,hg,h⟩,λ h=>h.2.2⟩
theorem Zex {n:Int} {s:Sl} {g:List Int} (hs:RoI R s g) (hw:Sat R Hs w):
  Zk prog 184 #[.agg #[nI n,.slice s.a s.len s.cap]] w λ v w'=>v=.bool (ZcR n g)/\Sat R Hs w':=by
 have hlen:=hs.len;have hbd:=hs.bound;apply Zv1;refine Za hw λ p w hw=>?_;have hw:Sat R (pts p (Zb5 n s)::Hs) w:=hw;refine ⟨λ w=>(1<=n/\n<=60/\1<=g.length/\g.length<=4)/\Sat R (pts p (Zb5 n s)::Hs) w,?_,?_⟩
 ·refine ⟨n,oA hw,Br.d (λ h1=>⟨by rw [ZbW (λ h=>by omega)],hw.drop⟩) (λ h1=>?_)⟩
  refine ⟨n,oA hw,Br.d (λ h2=>⟨by rw [ZbW (λ h=>by omega)],hw.drop⟩) (λ h2=>?_)⟩;refine ⟨s,oA hw,Br.d (λ h3=>⟨by rw [ZbW (λ h=>by omega)],hw.drop⟩) (λ h3=>?_)⟩;refine ⟨s,oA hw,Br.d (λ h4=>⟨by rw [ZbW (λ h=>by omega)],hw.drop⟩) (λ h4=>⟨⟨by omega,by omega,by omega,by omega⟩,hw⟩)⟩
 clear hw;rintro _ w ⟨h0,hw⟩;refine ⟨λ i w=>∃ j:Nat,i=j/\j<=g.length/\(∀ x∈g.take j,1<=x/\x<=10)/\Sat R (pts p (Zb5 n s)::Hs) w,λ i _=>g.length - i.toNat,⟨0,rfl,by omega,by simp,hw⟩,?_⟩;clear hw;rintro _ _ w ⟨j,rfl,hj,hn,hw⟩;refine ⟨s,oA hw,Br.d (λ h=>?_) (λ h=>?_)⟩
 ·have hj2:j<g.length:=by omega
  have no:¬ (1<=g[j]/\g[j]<=10)->ZcR n g=false:=λ h=>ZbW λ h2=>h (h2.2.1 _ (List.getElem_mem _));refine ⟨s,oA hw,hs.idx (eqS hw) hj2 ?_⟩;refine Br.d (λ h1=>⟨by rw [no (by omega)],hw.drop⟩) (λ h1=>?_);refine ⟨s,oA hw,hs.idx (eqS hw) hj2 ?_⟩;refine Br.d (λ h2=>⟨by rw [no (by omega)],hw.drop⟩) (λ h2=>?_);rw [Zd];refine ⟨⟨j + 1,by omega,by omega,?_,hw⟩,by dsimp only;omega⟩;rw [List.take_add_one,List.getElem?_eq_getElem hj2];intro x hx;simp only [Option.toList_some,List.mem_append,List.mem_singleton] at hx;rcases hx with hx|rfl
  ·exact hn x hx
  ·omega
 ·rw [List.take_of_length_le (by omega)] at hn
  refine ⟨n,s,oA hw,?_⟩;refine (Zbq hs (λ x hx=>by have:=hn x hx;omega) (by omega) hw).u λ w hw=>?_;refine ⟨_,rfl,?_,hw.drop⟩
  congr 1
  rw [Bool.eq_iff_iff,decide_eq_true_iff,ZW];exact ⟨λ h=>⟨h0,hn,h⟩,λ h=>h.2.2⟩
theorem Zc4 {n:Int} {s:Sl} {g:List Int} (hs:RoI R s g) (hw:Sat R Hs w):
  Zk prog 164 #[.agg #[nI n,.slice s.a s.len s.cap]] w λ v w'=>v=nI (Zaw n g)/\Sat R Hs w':=by
 apply Zwk;refine Za hw λ p w hw=>?_;have hw:Sat R (pts p (Zb5 n s)::Hs) w:=hw;refine ⟨n,s,oA hw,?_⟩;refine (ZfE hs hw).u λ w hw=>?_;refine ⟨_,rfl,Br.nb (λ h=>⟨?_,hw.drop⟩) (λ h=>?_)⟩
 ·unfold Zaw;rw [h];rfl
 obtain ⟨h1,h2,h3⟩:=ZW.1 h;refine Zq hw λ w hw=>?_;refine ⟨n,oS,n,s,oS,?_⟩;refine (ZbT hs (λ x hx=>by have:=h2 x hx;omega) (by omega) hw).u λ w hw=>?_;have hb:=ZbR n g;rw [Zhg h] at hb ⊢;refine ⟨_,rfl,hw,?_,hw.drop⟩;rw [Zd]
theorem Zco {n:Int} {s:Sl} {g:List Int} (hs:RoI R s g) (hw:Sat R Hs w):
  Zk prog 186 #[.agg #[nI n,.slice s.a s.len s.cap]] w λ v w'=>v=nI (Zaw n g)/\Sat R Hs w':=by
 apply ZvZ;refine Za hw λ p w hw=>?_;have hw:Sat R (pts p (Zb5 n s)::Hs) w:=hw;refine ⟨n,s,oA hw,?_⟩;refine (Zex hs hw).u λ w hw=>?_;refine ⟨_,rfl,Br.nb (λ h=>⟨?_,hw.drop⟩) (λ h=>?_)⟩
 ·unfold Zaw;rw [h];rfl
 obtain ⟨h1,h2,h3⟩:=ZW.1 h;refine Zq hw λ w hw=>?_;refine ⟨n,oS,n,s,oS,?_⟩;refine (Zbq hs (λ x hx=>by have:=h2 x hx;omega) (by omega) hw).u λ w hw=>?_;have hb:=ZbR n g;rw [Zhg h] at hb ⊢;refine ⟨_,rfl,hw,?_,hw.drop⟩;rw [Zd]
theorem Zkn {n k:Int} {s:Sl} {g:List Int} (hs:RoI R s g) (hw:Sat R Hs w):
  Zk prog 250 #[.agg #[nI n,.slice s.a s.len s.cap],nI k] w λ v w'=>v=.bool (decide (0<=k/\k<Zaw n g))/\Sat R Hs w':=by
 apply Zvr;refine Za hw λ p w hw=>?_;have hw:Sat R (pts p (Zb5 n s)::Hs) w:=hw;refine Br.d (λ h=>?_) (λ h=>⟨by rw [decide_eq_false (by omega)],hw.drop⟩);refine ⟨n,s,oA hw,?_⟩;refine (Zc4 hs hw).u λ w hw=>?_;refine ⟨_,rfl,?_,hw.drop⟩
 congr 1
 rw [decide_eq_decide];omega
theorem Zno {s:Sl} {l:List Int} {k:Int} (hs:RoI R s l) (hw:Sat R Hs w):
  Zk prog 196 #[.slice s.a s.len s.cap,nI k] w λ v w'=>v=.bool (decide (k∈l))/\Sat R Hs w':=by
 have hlen:=hs.len;have hbd:=hs.bound;apply ZvP;refine ⟨λ i w=>∃ j:Nat,i=j/\j<=l.length/\k ∉ l.take j/\Sat R Hs w,λ i _=>l.length - i.toNat,⟨0,rfl,by omega,by simp,hw⟩,?_⟩;clear hw;rintro _ _ w ⟨j,rfl,hj,hn,hw⟩;refine Br.d (λ h=>?_) (λ h=>?_)
 ·have hj2:j<l.length:=by omega
  refine hs.idx (eqS hw) hj2 ?_;refine Br.e (λ h=>⟨?_,hw⟩) (λ h=>?_)
  ·rw [decide_eq_true (show k∈l by rw [<-h];exact List.getElem_mem _)]
  rw [Zd];refine ⟨⟨j + 1,by omega,by omega,?_,hw⟩,by dsimp only;omega⟩;rw [List.take_add_one,List.getElem?_eq_getElem hj2];simp only [Option.toList_some,List.mem_append,List.mem_singleton,not_or];exact ⟨hn,λ h2=>h h2.symm⟩
 ·rw [List.take_of_length_le (by omega)] at hn
  exact ⟨by rw [decide_eq_false hn],hw⟩
end
section
open Go Go.VC Tryz
def Zhc:List Int:=[65,66,67,68,69,70,71,72,74,75]
def ZaK (c:Nat):Int:=Zhc.getD c 0
def ZlN (r:Nat):List Int:=(if 10<=r then [48 + ((r / 10:Nat):Int)] else [])++[48 + ((r % 10:Nat):Int)]
def ZdJ (r c:Nat):List Int:=ZlN r++[ZaK c]
def Zse (w k:Int):ByteArray:=VC.strOf (ZdJ (k / w + 1).toNat (k % w).toNat)
def ZqN:ByteArray:=ByteArray.mk #[65,66,67,68,69,70,71,72,74,75]
theorem ZoD:∀ c:Fin 10,ZqN.extract c.1 (c.1 + 1)=VC.strOf [ZaK c.1]:=by decide +kernel
theorem ZkZ:∀ c:Fin 10,∃ b:UInt8,ZqN[c.1]? =some b/\(b.toNat:Int)=ZaK c.1:=by decide +kernel
theorem ZqS:∀ r:Fin 61,∀ c:Fin 10,VC.strOf (ZlN r.1)++VC.strOf [ZaK c.1]=VC.strOf (ZdJ r.1 c.1):=by decide +kernel
def ZjT (c:Int):Int:=match Zhc.findIdx? (·==c) with|some i=>i|none=>-1
def Zq5 (c:Int):Bool:=decide (48<=c/\c<=57)
def prs:List Int->Bool->Int->Int->Option (Int × Int)
 |[],_,row,last=>some (row,last)
 |c::l,first,row,last=>
  if 0<=last\/(first=true/\c=48)\/row>60 then none
  else if Zq5 c then prs l false (10 * row + (c - 48)) last
  else if ZjT c<0 then none
  else prs l false row (ZjT c)
def ZeJ (n w:Int) (lab:ByteArray):Int × Int:=
 match prs (ZQ lab) true 0 (-1) with
 |none=>(0,2)
 |some (row,last)=>if row<1\/row>n\/last<0\/last >= w then (0,2) else ((row - 1) * w + last,0)
theorem Zqj:∀ r:Fin 60,∀ c:Fin 10,prs (ZdJ (r.1 + 1) c.1) true 0 (-1)=some ((r.1:Int) + 1,(c.1:Int)):=by decide +kernel
def ZyK (l:List Int) (row:Int):Prop:=
 (l=[]/\row=0)\/(∃ d:Int,1<=d/\d<=9/\l=[48 + d]/\row=d)\/(∃ d e:Int,1<=d/\d<=9/\0<=e/\e<=9/\l=[48 + d,48 + e]/\row=10 * d + e)\/100<=row
def PrsI (l:List Int) (row last:Int):Prop:=(last=-1/\ZyK l row)\/(0<=last/\last<10/\∃ l',l=l'++[ZaK last.toNat]/\ZyK l' row)
theorem ZjS {c:Int} (h:¬ ZjT c<0):0<=ZjT c/\ZjT c<10/\ZaK (ZjT c).toNat=c:=by
 unfold ZjT at *;split at h
 ·rename_i i hi
  obtain ⟨hlt,hp,_⟩:=List.findIdx?_eq_some_iff_getElem.1 hi;have hlt':i<10:=hlt;refine ⟨by omega,by omega,?_⟩;unfold ZaK;rw [Int.toNat_natCast,List.getD_eq_getElem?_getD,List.getElem?_eq_getElem hlt];simpa using hp
 ·omega
theorem ZlY:∀ (l a:List Int) (first:Bool) (row last row' last':Int),(first=true↔a=[])->PrsI a row last->prs l first row last=some (row',last')->PrsI (a++l) row' last'
 |[],a,_,row,last,row',last',_,h,e=>by
  simp only [prs,Option.some.injEq,Prod.mk.injEq] at e;rw [List.append_nil,<-e.1,<-e.2];exact h
 |c::l,a,first,row,last,row',last',hf,h,e=>by
  have hne:(false=true↔a++[c]=[]):=by simp
  unfold prs at e;split at e
  ·cases e
  rename_i h1;have hl:last<0:=by omega
  have hd:ZyK a row:=by
   rcases h with h|h
   ·exact h.2
   ·omega
  split at e
  ·rename_i h2
   have h2:=of_decide_eq_true h2;have:=ZlY l (a++[c]) false _ last row' last' hne (.inl ⟨?_,?_⟩) e
   ·rw [List.append_assoc] at this;exact this
   ·rcases h with h|h
    ·exact h.1
    ·omega
   ·rcases hd with ⟨rfl,rfl⟩|⟨d,hd1,hd2,rfl,rfl⟩|⟨d,e2,hd1,hd2,he1,he2,rfl,rfl⟩|hbig
    ·have:first=true:=hf.2 rfl
     refine .inr (.inl ⟨c - 48,?_,by omega,?_,by omega⟩)
     ·have:c≠48:=λ hc=>h1 (.inr (.inl ⟨this,hc⟩))
      omega
     ·rw [show (48:Int) + (c - 48)=c by omega];rfl
    ·refine .inr (.inr (.inl ⟨row,c - 48,hd1,hd2,by omega,by omega,?_,by omega⟩))
     rw [show (48:Int) + (c - 48)=c by omega];rfl
    ·exact .inr (.inr (.inr (by omega)))
    ·omega
  ·split at e
   ·cases e
   rename_i h2 h3;obtain ⟨c0,c1,c2⟩:=ZjS h3;have:=ZlY l (a++[c]) false row (ZjT c) row' last' hne (.inr ⟨c0,c1,a,by rw [c2],hd⟩) e;rw [List.append_assoc] at this;exact this
theorem Ztg {l:List Int} {row:Int} (h:ZyK l row) (h1:1<=row) (h2:row<=60):l=ZlN row.toNat:=by
 rcases h with ⟨rfl,rfl⟩|⟨d,hd1,hd2,rfl,rfl⟩|⟨d,e,hd1,hd2,he1,he2,rfl,rfl⟩|hbig
 ·omega
 ·unfold ZlN
  rw [if_neg (by omega)];simp only [List.nil_append,List.cons.injEq,and_true];omega
 ·unfold ZlN
  rw [if_pos (by omega)];simp only [List.cons_append,List.nil_append,List.cons.injEq,and_true];constructor<;>omega
 ·omega
theorem Zud {l:List Int} {row last:Int} (h:prs l true 0 (-1)=some (row,last)) (h1:1<=row) (h2:row<=60) (h3:0<=last):last<10/\l=ZdJ row.toNat last.toNat:=by
 have:=ZlY l [] true 0 (-1) row last (by simp) (.inl ⟨rfl,.inl ⟨rfl,rfl⟩⟩) h;rw [List.nil_append] at this;rcases this with ⟨h,_⟩|⟨_,h4,l',rfl,hd⟩
 ·omega
 ·exact ⟨h4,by unfold ZdJ;rw [Ztg hd h1 h2]⟩
theorem Zk2:∀ r:Fin 60,∀ c:Fin 10,∀ n∈ZdJ (r.1 + 1) c.1,0<=n/\n<256:=by decide +kernel
theorem ZjD {n w k:Int} {lab:ByteArray} (hn:n<=60) (hw:1<=w) (hw2:w<=10):(ZeJ n w lab=(k,0))↔(0<=k/\k<n * w/\Zse w k=lab):=by
 constructor
 ·intro h
  unfold ZeJ at h;split at h
  ·simp at h
  rename_i row last hp;split at h
  ·simp at h
  rename_i hr;simp only [Prod.mk.injEq,and_true] at h;obtain ⟨h4,h5⟩:=Zud hp (by omega) (by omega) (by omega);have hm:(row - 1) * w<=(n - 1) * w:=Int.mul_le_mul_of_nonneg_right (by omega) (by omega);have hm0:0<=(row - 1) * w:=Int.mul_nonneg (by omega) (by omega);have hm2:(n - 1) * w=n * w - w:=by rw [Int.sub_mul];omega
  refine ⟨by omega,by omega,?_⟩;have e1:k / w=row - 1:=by
   rw [<-h,Int.mul_comm,Int.add_comm,Int.add_mul_ediv_left _ _ (by omega),Int.ediv_eq_zero_of_lt (by omega) (by omega)];omega
  have e2:k % w=last:=by
   rw [<-h,Int.mul_comm,Int.add_comm,Int.add_mul_emod_self_left,Int.emod_eq_of_lt (by omega) (by omega)]
  unfold Zse;rw [e1,e2,show row - 1 + 1=row by omega,<-h5,Zkd]
 ·rintro ⟨h0,h1,rfl⟩
  have e0:0<=k / w:=Int.ediv_nonneg h0 (by omega);have e1:k / w<n:=Int.ediv_lt_of_lt_mul (by omega) h1;have e2:0<=k % w:=Int.emod_nonneg _ (by omega);have e3:k % w<w:=Int.emod_lt_of_pos _ (by omega);have e4:=Int.mul_ediv_add_emod k w;generalize hq:k / w=q at *;generalize hm:k % w=m at *;obtain ⟨a,rfl⟩:=Int.eq_ofNat_of_zero_le e0;obtain ⟨b,rfl⟩:=Int.eq_ofNat_of_zero_le e2;unfold ZeJ Zse;rw [hq,hm,show ((a:Int) + 1).toNat=a + 1 by omega,Int.toNat_natCast];have hb:=Zk2 ⟨a,by omega⟩ ⟨b,by omega⟩;have hp:=Zqj ⟨a,by omega⟩ ⟨b,by omega⟩;rw [Zlm hb,hp];dsimp only;rw [if_neg (by omega)];simp only [Prod.mk.injEq,and_true];rw [<-e4,show (a:Int) + 1 - 1=a by omega,Int.mul_comm]
theorem ZuQ {n w:Int} {lab:ByteArray} (h:(ZeJ n w lab).2≠0):ZeJ n w lab=(0,2):=by
 unfold ZeJ at *;split at h
 ·rfl
 ·split at h
  ·rename_i h2;rw [if_pos h2]
  ·simp at h
theorem Zru (s:ByteArray) (i:Nat) (h:¬ (s.get! (i + 0)).toNat<128):128<=(Utf8.decode s i).1:=by
 unfold Utf8.decode;dsimp only;rw [if_neg h];split
 ·split
  ·assumption
  ·decide
 ·split
  ·split
   ·rename_i h;simp only [Bool.and_eq_true,decide_eq_true_iff] at h;have:=h.1;dsimp only;omega
   ·decide
  ·split
   ·split
    ·rename_i h;simp only [Bool.and_eq_true,decide_eq_true_iff] at h;have:=h.1;dsimp only;omega
    ·decide
   ·decide
set_option maxRecDepth 10000
def B296 (c:Int) (K:nK) (w : nW):Prop:=
 nC 302 #[nI c,nI 10] w λ b d=>
 ∃ a,(b=.returned (.string a))/\
 K (.string a) d
theorem Zu9 (a:Int) (K:nK) (w : nW) (h:B296 a K w):Zk prog 296 #[nI a] w K:=cq (sk:=.leaf) h func296
def B302 (d:Int) (m:Int) (K:nK) (w : nW):Prop:=
 Br (m==10)
 (∃ (f:World->Prop),(Br (decide (0<=d))
 (Br (decide (d<100))
 (nC 306 #[nI d] w λ y D=>
 ∃ n,(y=.returned (.string n))/\
 K (.string n) D)
 (f  w))
 (f  w))/\
 ∀ (G:Env)  (u:World),f  u->
 New (.cells #[.int .u8 0,.int .u8 0,.int .u8 0,.int .u8 0,.int .u8 0,.int .u8 0,.int .u8 0,.int .u8 0,.int .u8 0,.int .u8 0,.int .u8 0,.int .u8 0,.int .u8 0,.int .u8 0,.int .u8 0,.int .u8 0,.int .u8 0,.int .u8 0,.int .u8 0,.int .u8 0,.int .u8 0,.int .u8 0,.int .u8 0,.int .u8 0] 328 (0,0)) (λ e v=>
 ∃ (g:Int->World->Prop),(Br (decide (d<0))
 (g (IntKind.u64.wrap (0 - IntKind.u64.wrap d)) v)
 (g (IntKind.u64.wrap d) v))/\
 ∀ (H:Env) (j:Int) (x:World),g j x->
 nC 307 #[.int .u64 j] x λ z E=>
 ∃ b,(z=.returned (nI b))/\
 ∃ o:Addr,(some (Addr.mk e 0 none)=some o)/\
 ((0:Int)<=wI (1 + b))/\
 ((wI (1 + b):Int)<=24)/\
 ((0:Int)<=1)/\
 ((1:Int)<=(↑(wI (1 + b)).toNat:Int))/\
 nC 308 #[.slice (ZbI (some o) (Int.toNat 1) 24 1) ((wI (1 + b)).toNat - Int.toNat 1) 23,.int .u64 j] E λ A k=>
 (A=.returned (.tuple #[]))/\
 Br (decide (d<0))
 (∃ l,(St 5 (Addr.add ⟨e,0,none⟩ 0) (.int .u8 45) k l)/\
 ∃ p:Addr,(some (Addr.mk e 0 none)=some p)/\
 ((0:Int)<=wI (1 + b))/\
 ((wI (1 + b):Int)<=24)/\
 ∃ q:ByteArray,(∀ c,(λ c=>c=l) c->((convert 47 9 (.slice ((some (p))) ((wI (1 + b)).toNat) 24))).run prog c=.ok (.string q) c)/\
 K (.string q) l)
 (∃ r:Addr,(some (Addr.mk e 0 none)=some r)/\
 ((0:Int)<=wI (1 + b))/\
 ((wI (1 + b):Int)<=24)/\
 ((0:Int)<=1)/\
 ((1:Int)<=(↑(wI (1 + b)).toNat:Int))/\
 ∃ s:ByteArray,(∀ c,(λ c=>c=k) c->((convert 47 9 (.slice (ZbI (some r) (Int.toNat 1) 24 1) ((wI (1 + b)).toNat - Int.toNat 1) 23))).run prog c=.ok (.string s) c)/\
 K (.string s) k)) u)
 (nC 309 #[.slice none 0 0,.int .u64 (IntKind.u64.wrap d),nI m,.bool (decide (d<0)),.bool false] w λ C F=>
 ∃ i:Sl,∃ t,(C=.returned (.tuple #[i.v,.string t]))/\
 K (.string t) F)
def ZyL:Sk:=(.seq .leaf (.seq (.seq .leaf (.cond (.cut [] [] [4,12,13,14,15,16,17,18,19] .leaf (.seq .leaf (.seq .leaf (.cut [6] [(.int .u64)] [6,22,23,24,25] .leaf .leaf)))) .leaf)) .leaf))
theorem Zu8 (b:Int) (a:Int) (K:nK) (w : nW) (h:B302 b a K w):Zk prog 302 #[nI b,nI a] w K:=cq (sk:=ZyL) h func302
def B306 (a:Int) (K:nK) (w : nW):Prop:=
 Br (decide (a<10))
 (((0:Int)<=wI (a + 1))/\
 ((wI (a + 1):Int)<=36)/\
 ((0:Int)<=a)/\
 ((a:Int)<=(↑(wI (a + 1)).toNat:Int))/\
 K (.string ((ByteArray.mk #[48,49,50,51,52,53,54,55,56,57,97,98,99,100,101,102,103,104,105,106,107,108,109,110,111,112,113,114,115,116,117,118,119,120,121,122]).extract a.toNat (wI (a + 1)).toNat)) w)
 (((0:Int)<=wI (wI (a * 2) + 2))/\
 ((wI (wI (a * 2) + 2):Int)<=200)/\
 ((0:Int)<=wI (a * 2))/\
 ((wI (a * 2):Int)<=(↑(wI (wI (a * 2) + 2)).toNat:Int))/\
 K (.string ((ByteArray.mk (([48,48,48,49,48,50,48,51,48,52,48,53,48,54,48,55,48,56,48,57,49,48,49,49,49,50,49,51,49,52,49,53,49,54,49,55,49,56,49,57,50,48,50,49,50,50,50,51,50,52].append [50,53,50,54,50,55,50,56,50,57,51,48,51,49,51,50,51,51,51,52,51,53,51,54,51,55,51,56,51,57,52,48,52,49,52,50,52,51,52,52,52,53,52,54,52,55,52,56,52,57]).append ([53,48,53,49,53,50,53,51,53,52,53,53,53,54,53,55,53,56,53,57,54,48,54,49,54,50,54,51,54,52,54,53,54,54,54,55,54,56,54,57,55,48,55,49,55,50,55,51,55,52].append [55,53,55,54,55,55,55,56,55,57,56,48,56,49,56,50,56,51,56,52,56,53,56,54,56,55,56,56,56,57,57,48,57,49,57,50,57,51,57,52,57,53,57,54,57,55,57,56,57,57])).toArray).extract (wI (a * 2)).toNat (wI (wI (a * 2) + 2)).toNat)) w)
theorem Zu7 (a:Int) (K:nK) (w : nW) (h:B306 a K w):Zk prog 306 #[nI a] w K:=cq (sk:=.leaf) h func306
end
section
open Go Go.VC Tryz
variable {R:Cx} {Hs Rest:List HP} {w:World}
def Zxg:ByteArray:=ByteArray.mk #[48,49,50,51,52,53,54,55,56,57,97,98,99,100,101,102,103,104,105,106,107,108,109,110,111,112,113,114,115,116,117,118,119,120,121,122]
def Zxf:ByteArray:=ByteArray.mk (([48,48,48,49,48,50,48,51,48,52,48,53,48,54,48,55,48,56,48,57,49,48,49,49,49,50,49,51,49,52,49,53,49,54,49,55,49,56,49,57,50,48,50,49,50,50,50,51,50,52].append [50,53,50,54,50,55,50,56,50,57,51,48,51,49,51,50,51,51,51,52,51,53,51,54,51,55,51,56,51,57,52,48,52,49,52,50,52,51,52,52,52,53,52,54,52,55,52,56,52,57]).append ([53,48,53,49,53,50,53,51,53,52,53,53,53,54,53,55,53,56,53,57,54,48,54,49,54,50,54,51,54,52,54,53,54,54,54,55,54,56,54,57,55,48,55,49,55,50,55,51,55,52].append [55,53,55,54,55,55,55,56,55,57,56,48,56,49,56,50,56,51,56,52,56,53,56,54,56,55,56,56,56,57,57,48,57,49,57,50,57,51,57,52,57,53,57,54,57,55,57,56,57,57])).toArray
theorem ZnX:∀ r:Fin 10,Zxg.extract r.1 (r.1 + 1)=VC.strOf (ZlN r.1):=by decide +kernel
theorem ZnW:∀ r:Fin 100,10<=r.1->Zxf.extract (r.1 * 2) (r.1 * 2 + 2)=VC.strOf (ZlN r.1):=by decide +kernel
theorem Zq2 {n:Nat} (h:n<100) (hw:Sat R Hs w):Zk prog 284 #[nI n] w λ v w'=>v=.string (VC.strOf (ZlN n))/\Sat R Hs w':=by
 apply Zvb;have h3:Zk prog 306 #[nI n] w λ v w'=>v=.string (VC.strOf (ZlN n))/\Sat R Hs w':=by
  apply Zu7;have w1:wI ((n:Int) + 1)=((n + 1:Nat):Int):=Zd;have w2:wI ((n:Int) * 2)=((n * 2:Nat):Int):=Zd;have w3:wI (((n * 2:Nat):Int) + 2)=((n * 2 + 2:Nat):Int):=Zd;rw [B306,w2,w3,w1];refine Br.d (λ h=>?_) (λ h=>?_)
  ·refine ⟨by omega,by omega,by omega,by omega,?_,hw⟩
   exact congrArg Value.string (ZnX ⟨n,by omega⟩)
  ·refine ⟨by omega,by omega,by omega,by omega,?_,hw⟩
   exact congrArg Value.string (ZnW ⟨n,by omega⟩ (by dsimp only;omega))
 have h2:Zk prog 302 #[nI n,nI 10] w λ v w'=>v=.string (VC.strOf (ZlN n))/\Sat R Hs w':=by
  apply Zu8;refine Br.t rfl ⟨λ _=>False,Br.t (decide_eq_true (by omega)) (Br.t (decide_eq_true (by omega)) ?_),λ _ _ h=>h.elim⟩;refine h3.u λ w hw=>?_;exact ⟨_,rfl,rfl,hw⟩
 have h1:Zk prog 296 #[nI n] w λ v w'=>v=.string (VC.strOf (ZlN n))/\Sat R Hs w':=by
  apply Zu9;refine h2.u λ w hw=>?_;exact ⟨_,rfl,rfl,hw⟩
 refine h1.u λ w hw=>?_;exact ⟨_,rfl,rfl,hw⟩
def Zjl (n:Int) (g:List Int) (k:Int):ByteArray × Int:=if 0<=k/\k<Zaw n g then (Zse g.sum k,0) else (⟨#[]⟩,1)
theorem Zma {n:Int} {g:List Int} {k:Int} (h:0<=k/\k<Zaw n g):∃ a b q m:Nat,k=a/\g.sum=b/\1<=b/\b<=10/\q<60/\m<b/\Zse g.sum k=VC.strOf (ZdJ (q + 1) m)/\(∀ x∈g,1<=x/\x<=10)/\g.length<=4/\((a:Int)).tmod (b:Int)=(m:Int)/\((a:Int)).tdiv (b:Int)=(q:Int):=by
 have hok:ZcR n g=true:=by
  by_cases hok:ZcR n g=true
  ·exact hok
  ·unfold Zaw at h;rw [if_neg hok] at h;omega
 obtain ⟨h1,h2,h3⟩:=ZW.1 hok;have hp:=Zes h2 (by omega);rw [Zhg hok] at h;obtain ⟨a,rfl⟩:=Int.eq_ofNat_of_zero_le h.1;obtain ⟨b,hb⟩:=Int.eq_ofNat_of_zero_le (show 0<=g.sum by omega);rw [hb] at h hp h3;have hd:(a:Int) / (b:Int)<n:=Int.ediv_lt_of_lt_mul (by omega) h.2;refine ⟨a,b,a / b,a % b,rfl,hb,by omega,by omega,?_,Nat.mod_lt _ (by omega),?_,h2,by omega,rfl,rfl⟩
 ·rw [<-Int.natCast_ediv] at hd;omega
 ·unfold Zse
  rw [hb,<-Int.natCast_ediv,<-Int.natCast_emod];rfl
theorem ZoJ {n k:Int} {s:Sl} {g:List Int} (hs:RoI R s g) (hw:Sat R Hs w):
  Zk prog 253 #[.agg #[nI n,.slice s.a s.len s.cap],nI k] w λ v w'=>v=.tuple #[.string (Zjl n g k).1,nI (Zjl n g k).2]/\Sat R Hs w':=by
 apply Zvp;refine Za hw λ p w hw=>?_;have hw:Sat R (pts p (Zb5 n s)::Hs) w:=hw;refine ⟨n,s,oA hw,?_⟩;refine (Zkn hs hw).u λ w hw=>?_;refine ⟨_,rfl,Br.nd (λ h=>⟨?_,hw.drop⟩) (λ h=>?_)⟩
 ·unfold Zjl;rw [if_neg h]
 have e:Zjl n g k=(Zse g.sum k,0):=by unfold Zjl;rw [if_pos h]
 rw [e];obtain ⟨a,b,q,m,rfl,hb,b1,b2,a1,a2,hl,hg,hg2,e1,e2⟩:=Zma h;rw [hl];refine ⟨n,s,oA hw,?_⟩;refine (ZbT hs (λ x hx=>by have:=hg x hx;omega) hg2 hw).u λ w hw=>?_;rw [hb];refine ⟨_,rfl,?_⟩;refine Zq hw λ w hw=>?_;have w1:wI ((m:Int) + 1)=((m + 1:Nat):Int):=Zd;have w2:wI (q:Int)=(q:Int):=Zd;have w3:wI ((q:Int) + 1)=((q + 1:Nat):Int):=Zd;rw [e1,e2,w1,w2,w3];refine Nz.mk (by omega) (Nz.mk (by omega) (Nz.mk (by omega) ⟨by omega,by omega,by omega,by omega,?_⟩));refine (Zq2 (by omega) hw).u λ w hw=>?_;have eL:(ByteArray.mk #[65,66,67,68,69,70,71,72,74,75]).extract ((m:Int)).toNat (((m + 1:Nat):Int)).toNat=VC.strOf [ZaK (m)]:=ZoD ⟨m,by omega⟩;rw [eL];refine ⟨_,rfl,?_,?_,hw.drop⟩
 ·have:(VC.strOf (ZlN (q + 1))).size<=2:=by
   show ((ZlN (q + 1)).map _).toArray.size<=2;rw [List.size_toArray,List.length_map];unfold ZlN;split<;>simp
  have h1:(VC.strOf [ZaK (m)]).size=1:=rfl;omega
 ·rw [ZqS ⟨q + 1,by omega⟩ ⟨m,by omega⟩]
theorem Zu2 {c:Int} {j:Nat} (hj:j<10) (hn:∀ i,i<j->ZaK i≠c) (h:ZaK j=c):ZjT c=j:=by
 have hl:Zhc.findIdx? (·==c)=some j:=by
  rw [List.findIdx?_eq_some_iff_getElem];refine ⟨hj,?_,λ i hi=>?_⟩
  ·unfold ZaK at h
   rw [List.getD_eq_getElem?_getD,List.getElem?_eq_getElem (show j<Zhc.length from hj)] at h
   exact beq_iff_eq.2 h
  ·have:=hn i hi
   unfold ZaK at this;rw [List.getD_eq_getElem?_getD,List.getElem?_eq_getElem (show i<Zhc.length from by show i<10;omega)] at this
   simpa using this
 unfold ZjT;rw [hl]
theorem Zu1 {c:Int} (hn:∀ i,i<10->ZaK i≠c):ZjT c=-1:=by
 unfold ZjT;split
 ·rename_i i hi
  obtain ⟨hlt,hp,_⟩:=List.findIdx?_eq_some_iff_getElem.1 hi;have:=hn i hlt;unfold ZaK at this;rw [List.getD_eq_getElem?_getD,List.getElem?_eq_getElem hlt] at this;exact absurd (by simpa using hp) this
 ·rfl
theorem Zmu {c:Int} (hw:Sat R Hs w):Zk prog 280 #[.int .i32 c] w λ v w'=>v=nI (ZjT c)/\Sat R Hs w':=by
 apply Zvd;refine ⟨λ i w=>∃ j:Nat,i=j/\j<=10/\(∀ k,k<j->ZaK k≠c)/\Sat R Hs w,λ i _=>10 - i.toNat,⟨0,rfl,by omega,λ k h=>by omega,hw⟩,?_⟩;clear hw;rintro _ _ w ⟨j,rfl,hj,hn,hw⟩;refine Br.d (λ h=>?_) (λ h=>?_)
 ·obtain ⟨b,hb,hv⟩:=ZkZ ⟨j,by omega⟩
  refine ⟨b,by omega,hb,?_⟩;have hbd:=b.toNat_lt;rw [show IntKind.i32.wrap (b.toNat:Int)=(b.toNat:Int) by rw [IntKind.wrap_i32];omega];refine Br.e (λ h2=>⟨?_,hw⟩) (λ h2=>?_)
  ·rw [Zu2 (by omega) hn (hv.symm.trans h2)]
  ·rw [Zd]
   refine ⟨⟨j + 1,by omega,by omega,λ k hk=>?_,hw⟩,by dsimp only;omega⟩;by_cases hkj:k=j
   ·subst hkj;rw [<-hv];exact h2
   ·exact hn k (by omega)
 ·exact ⟨by rw [Zu1 (λ i hi=>hn i (by omega))],hw⟩
def Zax (n:Int) (g:List Int) (lab:ByteArray):Int × Int:=if ZcR n g then ZeJ n g.sum lab else (0,1)
theorem Zm4 (c:Int) (l:List Int) (first:Bool) (row last:Int):prs (c::l) first row last=if 0<=last\/(first=true/\c=48)\/row>60 then none
  else if Zq5 c then prs l false (10 * row + (c - 48)) last else if ZjT c<0 then none else prs l false row (ZjT c):=rfl
theorem ZsD {lab:ByteArray} {pos:Nat} (h:pos<lab.size):(ZQ lab).drop pos=((lab[pos]'h).toNat:Int)::(ZQ lab).drop (pos + 1):=by
 have hl:pos<(ZQ lab).length:=by rw [Zc7];exact h
 rw [List.drop_eq_getElem_cons hl]
 congr 1
 simp [ZQ];rfl
theorem ZoE:∀ i:Fin 10,ZaK i.1<=75:=by decide +kernel
theorem Zry {c:Int} (h:128<=c):ZjT c<0:=by
 by_cases h2:ZjT c<0
 ·exact h2
 ·obtain ⟨h0,h1,h3⟩:=ZjS h2
  have:=ZoE ⟨(ZjT c).toNat,by omega⟩;dsimp only at this;omega
theorem Zrl {n:Int} {s:Sl} {g:List Int} {lab:ByteArray} (hs:RoI R s g) (hsz:lab.size<=9223372036854775807) (hw:Sat R Hs w):
  Zk prog 247 #[.agg #[nI n,.slice s.a s.len s.cap],.string lab] w λ v w'=>v=.tuple #[nI (Zax n g lab).1,nI (Zax n g lab).2]/\Sat R Hs w':=by
 apply Zvu;refine Za hw λ p w hw=>?_;have hw:Sat R (pts p (Zb5 n s)::Hs) w:=hw;refine ⟨n,s,oA hw,?_⟩;refine (ZfE hs hw).use ?_;rintro _ w ⟨rfl,hw⟩;refine ⟨_,rfl,Br.nb (λ h=>⟨?_,hw.drop⟩) (λ hok=>?_)⟩
 ·unfold Zax;rw [h];rfl
 have e:Zax n g lab=ZeJ n g.sum lab:=by unfold Zax;rw [if_pos hok]
 rw [e];obtain ⟨l1,l2,l3⟩:=ZW.1 hok;have hp:=Zes l2 (by omega);refine Za hw λ b w hw=>?_;have no:prs (ZQ lab) true 0 (-1)=none->ZeJ n g.sum lab=(0,2):=λ h=>by unfold ZeJ;rw [h]
 refine ⟨λ row last w=>∃ pos:Nat,pos<=lab.size/\prs ((ZQ lab).drop pos) (decide (pos=0)) row last=prs (ZQ lab) true 0 (-1)/\0<=row/\row<=700/\-1<=last/\last<10/\Sat R (pts b (.stringIter lab pos)::pts p (Zb5 n s)::Hs) w,
  λ _ _ w=>lab.size - w.iterPos b,⟨0,by omega,rfl,by omega,by omega,by omega,by omega,hw⟩,?_⟩
 clear hw;rintro _ row last w ⟨pos,hpos,hprs,r0,r1,t0,t1,hw⟩;have hpw:w.iterPos b=pos:=by have:=hw.at;simp [World.iterPos,this]
 refine ⟨b,lab,pos,rfl,hw.at,λ hlt=>?_,λ hlt=>?_⟩
 ·rw [ZsD hlt] at hprs
  have hbyte:=(lab[pos]'hlt).toNat_lt;have hw2:=hw.setPts (.stringIter lab (pos + (Utf8.decode lab pos).2));generalize hw':w.setBlock b (.stringIter lab (pos + (Utf8.decode lab pos).2))=w2 at hw2;have:({ w with heap:=w.heap.setIfInBounds b (.stringIter lab (pos + (Utf8.decode lab pos).2)) }:World)=w2:=hw';rw [this];have hc:((lab[pos]'hlt).toNat<128/\Utf8.decode lab pos=((lab[pos]'hlt).toNat,1))\/(128<=(lab[pos]'hlt).toNat/\128<=(Utf8.decode lab pos).1):=by
   by_cases h:(lab[pos]'hlt).toNat<128
   ·exact .inl ⟨h,decode_ascii lab pos hlt h⟩
   ·refine .inr ⟨by omega,Zru lab pos ?_⟩
    have e:lab.get! (pos + 0)=lab[pos]'hlt:=by
     show lab.get! pos=_;simp [ByteArray.get!,getElem!_pos,hlt];rfl
    rw [e];exact h
  clear this hw';generalize hdc:Utf8.decode lab pos=dc at *;obtain ⟨c,wd⟩:=dc;dsimp only at hc hw2 ⊢;generalize hby:(lab[pos]'hlt).toNat=by0 at *;have hc0:(c:Int)=by0/\wd=1\/128<=by0/\128<=c:=by
   rcases hc with ⟨_,h⟩|h
   ·simp only [Prod.mk.injEq] at h;exact .inl ⟨by omega,h.2⟩
   ·exact .inr h
  have h48:(by0:Int)=48↔(c:Int)=48:=by omega
  refine ⟨λ t w=>t=decide (0<=last\/(decide (pos=0)=true/\(by0:Int)=48)\/row>60)/\Sat R (pts b (.stringIter lab (pos + wd))::pts p (Zb5 n s)::Hs) w,?_,?_⟩
  ·refine Br.d (λ h=>⟨?_,hw2⟩) (λ h=>Br.e (λ h2=>Br.e (λ h3=>⟨?_,hw2⟩) (λ h3=>⟨?_,hw2⟩)) (λ h2=>⟨?_,hw2⟩))
   ·rw [decide_eq_true (.inl h)]
   ·rw [decide_eq_true (.inr (.inl ⟨decide_eq_true (by omega),h48.2 h3⟩))]
   ·rw [decide_eq_decide]
    constructor
    ·intro h4;exact .inr (.inr h4)
    ·rintro (h4|⟨_,h4⟩|h4)
     ·omega
     ·exact absurd (h48.1 h4) h3
     ·exact h4
   ·rw [decide_eq_decide]
    constructor
    ·intro h4;exact .inr (.inr h4)
    ·rintro (h4|⟨h4,_⟩|h4)
     ·omega
     ·have:=of_decide_eq_true h4;omega
     ·exact h4
  clear hw hw2;rintro _ _ w3 ⟨rfl,hw⟩;refine Br.d (λ h=>⟨?_,hw.drop.drop⟩) (λ h=>?_)
  ·rw [Zm4] at hprs
   rw [if_pos h] at hprs;rw [no hprs.symm]
  rw [Zm4] at hprs;rw [if_neg h] at hprs;refine ⟨λ t w=>t=Zq5 c/\Sat R (pts b (.stringIter lab (pos + wd))::pts p (Zb5 n s)::Hs) w,?_,?_⟩
  ·unfold Zq5
   refine Br.d (λ h=>⟨?_,hw⟩) (λ h=>⟨?_,hw⟩)
   ·rw [decide_eq_decide];omega
   ·rw [decide_eq_false (by omega)]
  clear hw;rintro _ _ w4 ⟨rfl,hw⟩;refine Br.mk (λ h2=>?_) (λ h2=>?_)
  ·have h3:=of_decide_eq_true h2
   rcases hc0 with ⟨hcb,rfl⟩|hc0
   ·rw [<-hcb,if_pos h2] at hprs
    rw [show IntKind.i32.wrap ((c:Int) - 48)=(c:Int) - 48 by rw [IntKind.wrap_i32];omega,Zd (x:=10 * row),Zd (x:=(c:Int) - 48),Zd];refine ⟨⟨pos + 1,by omega,?_,by omega,by omega,by omega,by omega,hw⟩,?_⟩
    ·rw [decide_eq_false (by omega)];exact hprs
    ·have:w4.iterPos b=pos + 1:=by have:=hw.at;simp [World.iterPos,this]
     rw [this,hpw];omega
   ·omega
  ·refine (Zmu hw).use ?_
   rintro _ w5 ⟨rfl,hw⟩;refine ⟨_,rfl,Br.d (λ h3=>⟨?_,hw.drop.drop⟩) (λ h3=>?_)⟩
   ·have hno:ZjT (by0:Int)<0:=by
     rcases hc0 with ⟨hcb,rfl⟩|hc0
     ·rw [<-hcb];exact h3
     ·exact Zry (by omega)
    have hnd:Zq5 (by0:Int)=false:=by
     rcases hc0 with ⟨hcb,rfl⟩|hc0
     ·rw [<-hcb];exact h2
     ·exact decide_eq_false (by omega)
    rw [hnd,if_neg (by simp),if_pos hno] at hprs;rw [no hprs.symm]
   ·obtain ⟨c0,c1,c2⟩:=ZjS h3
    rcases hc0 with ⟨hcb,rfl⟩|hc0
    ·rw [<-hcb,h2,if_neg (by simp),if_neg h3] at hprs
     refine ⟨⟨pos + 1,by omega,?_,by omega,by omega,by omega,by omega,hw⟩,?_⟩
     ·rw [decide_eq_false (by omega)];exact hprs
     ·have:w5.iterPos b=pos + 1:=by have:=hw.at;simp [World.iterPos,this]
      rw [this,hpw];omega
    ·have:=Zry (c:=(c:Int)) (by omega);omega
 ·rw [List.drop_eq_nil_of_le (by rw [Zc7];omega)] at hprs
  have hw:=hw.drop;have ef:ZeJ n g.sum lab=if row<1\/row>n\/last<0\/last >= g.sum then (0,2) else ((row - 1) * g.sum + last,0):=by
   unfold ZeJ;rw [<-hprs];rfl
  rw [ef];refine Br.d (λ h=>⟨by rw [if_pos (.inl h)],hw.drop⟩) (λ h1=>?_);refine ⟨n,oA hw,Br.d (λ h=>⟨by rw [if_pos (.inr (.inl h))],hw.drop⟩) (λ h2=>?_)⟩;refine Br.d (λ h=>⟨by rw [if_pos (.inr (.inr (.inl h)))],hw.drop⟩) (λ h3=>?_);refine ⟨n,s,oA hw,?_⟩;refine (ZbT hs (λ x hx=>by have:=l2 x hx;omega) (by omega) hw).use ?_;rintro _ w ⟨rfl,hw⟩;refine ⟨_,rfl,Br.d (λ h=>⟨by rw [if_pos (.inr (.inr (.inr h)))],hw.drop⟩) (λ h4=>?_)⟩;refine ⟨n,s,oA hw,?_⟩;refine (ZbT hs (λ x hx=>by have:=l2 x hx;omega) (by omega) hw).use ?_;rintro _ w ⟨rfl,hw⟩;refine ⟨_,rfl,?_,hw.drop⟩;have hm:=ZtB (a:=row - 1) (b:=g.sum) (by omega) (by omega) (by omega) (by omega);rw [if_neg (by omega),Zd (x:=row - 1),Zd (x:=(row - 1) * g.sum),Zd]
theorem Zxd {x:Int} (h0:0<=x) (h1:x<256):IntKind.u8.wrap x=x:=by rw [IntKind.wrap_u8];omega
theorem Zey {n k:Int} {s:Sl} {g:List Int} (hs:RoI R s g) (hw:Sat R Hs w):
  Zk prog 200 #[.agg #[nI n,.slice s.a s.len s.cap],nI k] w λ v w'=>v=.tuple #[.string (Zjl n g k).1,nI (Zjl n g k).2]/\Sat R Hs w':=by
 apply ZvL;refine Za hw λ p w hw=>?_;have hw:Sat R (pts p (Zb5 n s)::Hs) w:=hw;refine ⟨λ w=>(0<=k/\k<Zaw n g)/\Sat R (pts p (Zb5 n s)::Hs) w,Br.d (λ h=>⟨?_,hw.drop⟩) (λ h1=>?_),?_⟩
 ·unfold Zjl;rw [if_neg (by omega)]
 ·refine ⟨n,s,oA hw,?_⟩
  refine (Zco hs hw).u λ w hw=>?_;refine ⟨_,rfl,Br.d (λ h=>⟨?_,hw.drop⟩) (λ h=>⟨⟨by omega,by omega⟩,hw⟩)⟩;unfold Zjl;rw [if_neg (by omega)]
 clear hw;rintro _ w ⟨h,hw⟩;have e:Zjl n g k=(Zse g.sum k,0):=by unfold Zjl;rw [if_pos h]
 rw [e];obtain ⟨a,b,q,m,rfl,hb,b1,b2,a1,a2,hl,hg,hg2,e1,e2⟩:=Zma h;rw [hl];refine ⟨n,s,oA hw,?_⟩;refine (Zbq hs (λ x hx=>by have:=hg x hx;omega) hg2 hw).u λ w hw=>?_;refine ⟨b,by rw [hb],?_⟩;have w2:wI (q:Int)=(q:Int):=Zd;have w3:wI ((q:Int) + 1)=((q + 1:Nat):Int):=Zd;rw [e2,w2,w3];have t1:(((q + 1:Nat):Int)).tdiv 10=(((q + 1) / 10:Nat):Int):=rfl;have t2:(((q + 1:Nat):Int)).tmod 10=(((q + 1) % 10:Nat):Int):=rfl;rw [t1,t2];refine Nz.mk (by omega) ⟨λ t w=>Sat R (Own t 5 (b8 (if 10<=q + 1 then [48 + (((q + 1) / 10:Nat):Int)] else []))::pts p (Zb5 n s)::Hs) w,Br.d (λ h=>?_) (λ h=>?_),?_⟩
 ·refine Zcp ZhK (s:=⟨none,0,0⟩) (xs:=[]) (Own.nil hw) rfl rfl (by simp) (by simp) λ t w hw=>?_
  rw [if_pos (by omega)];rw [Zd (x:=(((q + 1) / 10:Nat):Int)) (by omega) (by omega),Zd,Zxd (by omega) (by omega)] at hw;exact hw
 ·rw [if_neg (by omega)]
  exact Own.nil hw
 clear hw;rintro _ t w hw;refine ⟨n,s,oA hw,?_⟩;refine (Zbq hs (λ x hx=>by have:=hg x hx;omega) hg2 hw).u λ w hw=>?_;refine ⟨b,by rw [hb],Nz.mk (by omega) ?_⟩;obtain ⟨c,hc,hv⟩:=ZkZ ⟨m,by omega⟩;refine ⟨c,by omega,?_,?_⟩
 ·rw [e1];exact hc
 rw [hv,Zd,Zxd (by omega) (by omega)];dsimp only;refine Za hw λ b2 w hw=>?_;have hw:Sat R (Own ⟨some ⟨b2,0,none⟩,2,2⟩ 5 (b8 [48 + (((q + 1) % 10:Nat):Int),ZaK m])::Own t 5 (b8 (if 10<=q + 1 then [48 + (((q + 1) / 10:Nat):Int)] else []))::pts p (Zb5 n s)::Hs) w:=Za0 hw
 refine Zaz ZhK (t:=⟨some ⟨b2,0,none⟩,2,2⟩) (n:=5) underlying47 hw.swap (by split<;>simp) (by omega) (by omega) λ t3 w hw=>?_;obtain ⟨R',hr,_,hw',back⟩:=Own.lend hw (by rw [List.length_map];split<;>simp);refine ⟨VC.strOf ((if 10<=q + 1 then [48 + (((q + 1) / 10:Nat):Int)] else [])++[48 + (((q + 1) % 10:Nat):Int),ZaK m]),λ w' e=>?_,?_,(back hw').drop.drop.drop⟩
 ·subst e;exact ZjP (T:=5) underlying47 underlying5 underlying9 hw' hr
 ·have e:(if 10<=q + 1 then [48 + (((q + 1) / 10:Nat):Int)] else [])++[48 + (((q + 1) % 10:Nat):Int),ZaK m]=ZdJ (q + 1) m:=by
   unfold ZdJ ZlN;split<;>rfl
  rw [e]
theorem Zoh {n:Int} {s:Sl} {g:List Int} {lab:ByteArray} (hs:RoI R s g) (hw:Sat R Hs w):
  Zk prog 195 #[.agg #[nI n,.slice s.a s.len s.cap],.string lab] w λ v w'=>v=.tuple #[nI (Zax n g lab).1,nI (Zax n g lab).2]/\Sat R Hs w':=by
 apply ZvQ;refine Za hw λ p w hw=>?_;have hw:Sat R (pts p (Zb5 n s)::Hs) w:=hw;refine ⟨n,s,oA hw,?_⟩;refine (Zex hs hw).u λ w hw=>?_;refine ⟨_,rfl,Br.nb (λ h=>⟨?_,hw.drop⟩) (λ hok=>?_)⟩
 ·unfold Zax;rw [h];rfl
 have e:Zax n g lab=ZeJ n g.sum lab:=by unfold Zax;rw [if_pos hok]
 rw [e];obtain ⟨l1,l2,l3⟩:=ZW.1 hok;have hp:=Zes l2 (by omega);have hbd:=ZbR n g;have hN:=Zhg hok;refine ⟨λ i w=>∃ j:Nat,i=j/\(j:Int)<=Zaw n g/\(∀ k:Int,0<=k->k<j->Zse g.sum k≠lab)/\Sat R (pts p (Zb5 n s)::Hs) w,λ i _=>600 - i.toNat,⟨0,rfl,by omega,λ k h0 h1=>by omega,hw⟩,?_⟩;clear hw;rintro _ _ w ⟨j,rfl,hj,hn,hw⟩;refine ⟨n,s,oA hw,?_⟩;refine (Zco hs hw).u λ w hw=>?_;refine ⟨_,rfl,Br.d (λ h=>?_) (λ h=>⟨?_,hw.drop⟩)⟩
 ·refine ⟨n,s,oA hw,?_⟩
  refine (Zey hs hw).use ?_;have e:Zjl n g j=(Zse g.sum j,0):=by unfold Zjl;rw [if_pos ⟨by omega,h⟩]
  rw [e];rintro _ w ⟨rfl,hw⟩;refine ⟨_,_,rfl,Br.se (λ h2=>⟨?_,hw.drop⟩) (λ h2=>?_)⟩
  ·rw [(ZjD (by omega) (by omega) l3).2 ⟨by omega,by omega,h2⟩]
  ·rw [Zd]
   refine ⟨⟨j + 1,by omega,by omega,λ k h0 h1=>?_,hw⟩,by dsimp only;omega⟩;by_cases hk:k=j
   ·rw [hk];exact h2
   ·exact hn k h0 (by omega)
 ·have:(ZeJ n g.sum lab).2≠0:=λ h2=>by
   obtain ⟨k0,k1,k2⟩:=(ZjD (n:=n) (w:=g.sum) (k:=(ZeJ n g.sum lab).1) (lab:=lab) (by omega) (by omega) l3).1 (Prod.ext rfl h2);exact hn _ k0 (by omega) k2
  rw [ZuQ this]
def Zfc:List Int->Int->Nat
 |[],_=>0
 |x::g,a=>if a<x then 0 else Zfc g (a - x) + 1
def ZeS:List Int->Int->Int × Int
 |[],_=>(0,0)
 |x::g,a=>if a<x then (a,x - 1 - a) else ZeS g (a - x)
theorem Zh3 (x:Int) (g:List Int) (a:Int):ZeS (x::g) a=if a<x then (a,x - 1 - a) else ZeS g (a - x):=rfl
theorem Zee (x:Int) (g:List Int) (a:Int):Zfc (x::g) a=if a<x then 0 else Zfc g (a - x) + 1:=rfl
theorem ZnY {n k:Int} {s:Sl} {g:List Int} (hs:RoI R s g) (hg:∀ x∈g,1<=x/\x<=10) (hl:g.length<=4) (hl1:1<=g.length) (hk:0<=k) (hw:Sat R Hs w):
  Zk prog 251 #[.agg #[nI n,.slice s.a s.len s.cap],nI k] w λ v w'=>v=.tuple #[nI (ZeS g (k % g.sum)).1,nI (ZeS g (k % g.sum)).2]/\Sat R Hs w':=by
 have hlen:=hs.len;have hp:=Zes hg hl1;apply Zvq;refine Za hw λ p w hw=>?_;have hw:Sat R (pts p (Zb5 n s)::Hs) w:=hw;refine ⟨n,s,oA hw,?_⟩;refine (ZbT hs (λ x hx=>by have:=hg x hx;omega) hl hw).use ?_;rintro _ w ⟨rfl,hw⟩;refine ⟨_,rfl,Nz.mk (by omega) ⟨s,oA hw,?_⟩⟩;rw [Int.tmod_eq_emod_of_nonneg hk];have m0:=Int.emod_nonneg k (show g.sum≠0 by omega);have m1:=Int.emod_lt_of_pos k (show 0<g.sum by omega);have hsb:=ZhY (g:=g) (λ x hx=>by have:=hg x hx;omega);generalize k % g.sum=a at *;refine ⟨λ at' i w=>∃ j:Nat,i=j/\j<=g.length/\0<=at'/\at'<=a/\ZeS (g.drop j) at'=ZeS g a/\Sat R (pts p (Zb5 n s)::Hs) w,λ _ i _=>g.length - i.toNat,⟨0,rfl,by omega,by omega,by omega,rfl,hw⟩,?_⟩;clear hw;rintro _ at' _ w ⟨j,rfl,hj,h0,h1,hn,hw⟩;refine Br.d (λ h=>?_) (λ h=>?_)
 ·have hj2:j<g.length:=by omega
  have hx:=hg g[j] (List.getElem_mem _);rw [List.drop_eq_getElem_cons hj2,Zh3] at hn;refine hs.idx (eqS hw) hj2 ?_;refine Br.d (λ h2=>⟨?_,hw.drop⟩) (λ h2=>?_)
  ·rw [if_pos h2] at hn
   rw [Zd (x:=g[j] - 1),Zd];have:=hn.symm;rw [show ZeS g a=(at',g[j] - 1 - at') from this]
  ·rw [if_neg h2] at hn
   rw [Zd (x:=at' - g[j]),Zd];exact ⟨⟨j + 1,by omega,by omega,by omega,by omega,hn,hw⟩,by dsimp only;omega⟩
 ·rw [List.drop_eq_nil_of_le (by omega)] at hn
  refine ⟨?_,hw.drop⟩;rw [show ZeS g a=(0,0) from hn.symm]
end
section
open Go Go.VC Tryz
section
variable (u z:Nat->Bool)
def ZF:Nat->List Nat
 |0=>[]
 |j + 1=>ZF j++(if u j then [] else [j])
def Zd2:Nat->Nat
 |0=>0
 |j + 1=>if u j then 0 else (if z j then 0 else Zd2 j) + 1
def ZhM (j many:Nat):List Nat:=(List.range many).map λ t=>j - many + t
def Zc8 (N many:Nat):List Nat × Int:=
 match (List.range N).find? λ j=>Zd2 u z (j + 1)==many with
 |some j=>(ZhM (j + 1) many,0)
 |none=>if (ZF u N).length<many then ([],3) else ((ZF u N).take many,0)
variable {u z}
theorem Zbs (j:Nat):ZF u (j + 1)=ZF u j++(if u j then [] else [j]):=rfl
theorem Zld {j:Nat}:∀ {N:Nat},j<=N->∃ l,ZF u N=ZF u j++l
 |0,h=>⟨[],by rw [show j=0 by omega];rfl⟩
 |N + 1,h=>by
  by_cases hj:j=N + 1
  ·exact ⟨[],by rw [hj];simp⟩
  ·obtain ⟨l,hl⟩:=Zld (N:=N) (j:=j) (by omega)
   exact ⟨l++(if u N then [] else [N]),by rw [Zbs,hl,List.append_assoc]⟩
theorem Zmp {j N:Nat} (hj:j<N) (hu:u j=false):(ZF u N)[(ZF u j).length]? =some j:=by
 obtain ⟨l,hl⟩:=Zld (u:=u) (j:=j + 1) (N:=N) (by omega);rw [hl,Zbs,hu];simp
theorem ZcA {i j:Nat}:∀ {N:Nat},(ZF u N)[i]? =some j->j<N/\u j=false/\(ZF u j).length=i
 |0,h=>by simp [ZF] at h
 |N + 1,h=>by
  rw [Zbs] at h;by_cases hi:i<(ZF u N).length
  ·rw [List.getElem?_append_left hi] at h
   obtain ⟨h1,h2⟩:=ZcA h;exact ⟨by omega,h2⟩
  ·rw [List.getElem?_append_right (by omega)] at h
   split at h
   ·simp at h
   ·rename_i hu
    rcases hk:i - (ZF u N).length with _|k
    ·rw [hk] at h
     simp at h;subst h;exact ⟨by omega,by simpa using hu,by omega⟩
    ·rw [hk] at h;simp at h
theorem ZbD (j:Nat):(ZF u (j + 1)).length=(ZF u j).length + (if u j then 0 else 1):=by
 rw [Zbs,List.length_append];split<;>rfl
theorem Zmn {j:Nat}:∀ t:Nat,(ZF u (j + t)).length<=(ZF u j).length + t
 |0=>by simp
 |t + 1=>by
  have:=Zmn (j:=j) t;rw [<-Nat.add_assoc,ZbD];split<;>omega
theorem Zmo {j:Nat}:∀ t:Nat,(ZF u j).length<=(ZF u (j + t)).length
 |0=>by simp
 |t + 1=>by
  have:=Zmo (j:=j) t;rw [<-Nat.add_assoc,ZbD];omega
theorem ZjA {j t:Nat} (h:∀ x,j<=x->x<j + t->u x=false):(ZF u (j + t)).length=(ZF u j).length + t:=by
 induction t with
 |zero=>simp
 |succ t ih=>
  rw [<-Nat.add_assoc,ZbD,ih λ x h1 h2=>h x h1 (by omega),h (j + t) (by omega) (by omega)];simp;omega
theorem Zlc {j t:Nat} (h:(ZF u (j + t)).length=(ZF u j).length + t):∀ x,j<=x->x<j + t->u x=false:=by
 intro x h1 h2;cases hu:u x with
 |false=>rfl
 |true=>
  have a:=Zmn (u:=u) (j:=j) (x - j);have b:=Zmn (u:=u) (j:=x + 1) (j + t - (x + 1));have c:=ZbD (u:=u) x;rw [hu] at c;simp only [if_true] at c;rw [show j + (x - j)=x by omega] at a;rw [show x + 1 + (j + t - (x + 1))=j + t by omega] at b;omega
theorem Zck (j:Nat):Zd2 u z (j + 1)=if u j then 0 else (if z j then 0 else Zd2 u z j) + 1:=rfl
theorem ZiY:∀ {j m:Nat},m<=Zd2 u z j↔m<=j/\∀ x,j - m<=x->x<j->u x=false/\(j - m<x->z x=false)
 |j,0=>⟨λ _=>⟨by omega,λ x h1 h2=>by omega⟩,λ _=>by omega⟩
 |0,m + 1=>⟨λ h=>by simp [Zd2] at h,λ h=>by omega⟩
 |j + 1,m + 1=>by
  rw [Zck];cases hu:u j with
  |true=>
   refine ⟨λ h=>by simp at h,λ h=>?_⟩;have:=(h.2 j (by omega) (by omega)).1;rw [hu] at this;cases this
  |false=>
   simp only [Bool.false_eq_true,if_false];cases hz:z j with
   |true=>
    simp only [if_true];constructor
    ·intro h
     obtain rfl:m=0:=by omega
     exact ⟨by omega,λ x h1 h2=>by
      obtain rfl:x=j:=by omega
      exact ⟨hu,λ h=>by omega⟩⟩
    ·intro h
     by_cases hm:m=0
     ·omega
     ·have:=(h.2 j (by omega) (by omega)).2 (by omega)
      rw [hz] at this;cases this
   |false=>
    simp only [Bool.false_eq_true,if_false];have ih:=ZiY (j:=j) (m:=m);constructor
    ·intro h
     obtain ⟨h1,h2⟩:=ih.1 (by omega);refine ⟨by omega,λ x h3 h4=>?_⟩;by_cases hx:x=j
     ·subst hx;exact ⟨hu,λ _=>hz⟩
     ·obtain ⟨h5,h6⟩:=h2 x (by omega) (by omega)
      exact ⟨h5,λ h=>h6 (by omega)⟩
    ·rintro ⟨h1,h2⟩
     have:=ih.2 ⟨by omega,λ x h3 h4=>by
      obtain ⟨h5,h6⟩:=h2 x (by omega) (by omega);exact ⟨h5,λ h=>h6 (by omega)⟩⟩
     omega
variable {N many:Nat} {grp:Nat->Int}
theorem Zrc (h0:∀ k,k + 1<N->z (k + 1)=true->grp k<grp (k + 1)) (h1:∀ k,k + 1<N->z (k + 1)=false->grp k=grp (k + 1)) {a:Nat}:
  ∀ t:Nat,a + t<N->grp a<=grp (a + t)/\(grp a=grp (a + t)↔∀ x,a<x->x<=a + t->z x=false)
 |0,h=>⟨Int.le_refl _,⟨λ _ x h1 h2=>by omega,λ _=>rfl⟩⟩
 |t + 1,h=>by
  obtain ⟨i1,i2⟩:=Zrc h0 h1 (a:=a) t (by omega);cases hz:z (a + t + 1) with
  |true=>
   have:=h0 (a + t) (by omega) hz;refine ⟨by rw [<-Nat.add_assoc];omega,⟨λ h=>by rw [<-Nat.add_assoc] at h;omega,λ h=>?_⟩⟩;have:=h (a + t + 1) (by omega) (by omega);rw [hz] at this;cases this
  |false=>
   have:=h1 (a + t) (by omega) hz;rw [<-Nat.add_assoc];refine ⟨by omega,⟨λ h x h2 h3=>?_,λ h=>?_⟩⟩
   ·by_cases hx:x=a + t + 1
    ·rw [hx];exact hz
    ·exact i2.1 (by omega) x h2 (by omega)
   ·rw [<-this];exact i2.2 λ x h2 h3=>h x h2 (by omega)
def Zsj (f:List Nat) (grp:Nat->Int) (many i:Nat):Prop:=∃ a b,f[i]? =some a/\f[i + many - 1]? =some b/\b - a=many - 1/\a<=b/\grp a=grp b
theorem ZiQ (h0:∀ k,k + 1<N->z (k + 1)=true->grp k<grp (k + 1)) (h1:∀ k,k + 1<N->z (k + 1)=false->grp k=grp (k + 1)) (hm:1<=many) {i j:Nat} (hj:(ZF u N)[i + many - 1]? =some j):
  Zsj (ZF u N) grp many i↔many<=Zd2 u z (j + 1):=by
 obtain ⟨j1,j2,j3⟩:=ZcA hj;rw [ZiY];constructor
 ·rintro ⟨a,b,ha,hb,hd,hab,hg⟩
  rw [hj] at hb;obtain rfl:j=b:=Option.some.inj hb;obtain ⟨a1,a2,a3⟩:=ZcA ha;have hfull:=Zlc (u:=u) (j:=a) (t:=many - 1) (by rw [show a + (many - 1)=j by omega];omega);have hgr:=(Zrc h0 h1 (a:=a) (many - 1) (by omega)).2;rw [show a + (many - 1)=j by omega] at hgr;refine ⟨by omega,λ x h3 h4=>⟨?_,λ h5=>hgr.1 hg x (by omega) (by omega)⟩⟩;by_cases hx:x=j
  ·rw [hx];exact j2
  ·exact hfull x (by omega) (by omega)
 ·rintro ⟨h2,h3⟩
  have hall:=ZjA (u:=u) (j:=j + 1 - many) (t:=many - 1) λ x h4 h5=>(h3 x (by omega) (by omega)).1;rw [show j + 1 - many + (many - 1)=j by omega] at hall;have ha:=Zmp (u:=u) (j:=j + 1 - many) (N:=N) (by omega) (h3 _ (by omega) (by omega)).1;rw [show (ZF u (j + 1 - many)).length=i by omega] at ha;refine ⟨j + 1 - many,j,ha,hj,by omega,by omega,?_⟩;have hgr:=(Zrc h0 h1 (a:=j + 1 - many) (many - 1) (by omega)).2;rw [show j + 1 - many + (many - 1)=j by omega] at hgr;exact hgr.2 λ x h4 h5=>(h3 x (by omega) (by omega)).2 (by omega)
theorem Zkr (hm:1<=many) {j:Nat} (hj:j<N) (h:many<=Zd2 u z (j + 1)):∃ i,(ZF u j).length=i + many - 1/\(ZF u N)[i + many - 1]? =some j/\i + many<=(ZF u N).length:=by
 have hr:=(ZiY.1 h);have hall:=ZjA (u:=u) (j:=j + 1 - many) (t:=many - 1) λ x h4 h5=>(hr.2 x (by omega) (by omega)).1;rw [show j + 1 - many + (many - 1)=j by omega] at hall;have hat:=Zmp (u:=u) hj (hr.2 j (by omega) (by omega)).1;refine ⟨(ZF u (j + 1 - many)).length,by omega,by rw [show (ZF u (j + 1 - many)).length + many - 1=(ZF u j).length by omega];exact hat,?_⟩;have:=(List.getElem?_eq_some_iff.1 hat).1;omega
theorem Zlt (hm:1<=many) (h:∀ j,j<N->¬ many<=Zd2 u z (j + 1)):Zc8 u z N many=if (ZF u N).length<many then ([],3) else ((ZF u N).take many,0):=by
 unfold Zc8;have:((List.range N).find? λ j=>Zd2 u z (j + 1)==many)=none:=by
  rw [List.find?_eq_none];intro j hj h2;have h2:=beq_iff_eq.1 h2;exact h j (List.mem_range.1 hj) (by omega)
 rw [this]
theorem Zlq (hm:1<=many) {j:Nat} (hj:j<N) (h:Zd2 u z (j + 1)=many) (hn:∀ k,k<j->¬ many<=Zd2 u z (k + 1)):Zc8 u z N many=(ZhM (j + 1) many,0):=by
 unfold Zc8;have:((List.range N).find? λ j=>Zd2 u z (j + 1)==many)=some j:=by
  rw [List.find?_range_eq_some];exact ⟨by simpa using h,List.mem_range.2 hj,λ k hk=>by
   have:=hn k hk;simp only [Bool.not_eq_true',beq_eq_false_iff_ne];omega⟩
 rw [this]
theorem Zs8 {i a:Nat} (ha:(ZF u N)[i]? =some a) (hb:(ZF u N)[i + many - 1]? =some (a + many - 1)) (hm:1<=many):((ZF u N).drop i).take many=ZhM (a + many) many:=by
 obtain ⟨a1,a2,a3⟩:=ZcA ha;obtain ⟨b1,b2,b3⟩:=ZcA hb;have hfull:=Zlc (u:=u) (j:=a) (t:=many - 1) (by rw [show a + (many - 1)=a + many - 1 by omega];omega);have hl:=(List.getElem?_eq_some_iff.1 hb).1;apply List.ext_getElem?;intro t;by_cases ht:t<many
 ·rw [List.getElem?_take_of_lt ht,List.getElem?_drop]
  have hx:u (a + t)=false:=by
   by_cases hx:a + t=a + many - 1
   ·rw [hx];exact b2
   ·exact hfull _ (by omega) (by omega)
  have hc:(ZF u (a + t)).length=i + t:=by
   rw [ZjA (u:=u) (j:=a) (t:=t) λ x h1 h2=>by exact hfull x h1 (by omega)];omega
  have:=Zmp (u:=u) (j:=a + t) (N:=N) (by omega) hx;rw [hc] at this;rw [this];unfold ZhM;rw [List.getElem?_map,List.getElem?_range ht];simp
 ·rw [List.getElem?_eq_none (by rw [List.length_take];omega),List.getElem?_eq_none (by unfold ZhM;simp;omega)]
theorem ZnI (h0:∀ k,k + 1<N->z (k + 1)=true->grp k<grp (k + 1)) (h1:∀ k,k + 1<N->z (k + 1)=false->grp k=grp (k + 1)) (hm:1<=many) {i:Nat}
  (hP:Zsj (ZF u N) grp many i) (hn:∀ k,k<i->¬ Zsj (ZF u N) grp many k):Zc8 u z N many=(((ZF u N).drop i).take many,0):=by
 obtain ⟨a,j,ha,hj,hd,hab,hg⟩:=hP;have hrun:=(ZiQ h0 h1 hm hj).1 ⟨a,j,ha,hj,hd,hab,hg⟩;obtain ⟨j1,j2,j3⟩:=ZcA hj;have hfst:∀ k,k<j->¬ many<=Zd2 u z (k + 1):=λ k hk hr=>by
  obtain ⟨i',hi1,hi2,hi3⟩:=Zkr hm (N:=N) (by omega) hr;have hc:i' + many - 1<i + many - 1:=by
   have h2:=Zmo (u:=u) (j:=k + 1) (j - (k + 1));rw [show k + 1 + (j - (k + 1))=j by omega,ZbD] at h2;have h3:=(ZcA hi2).2.1;rw [h3] at h2;simp only [Bool.false_eq_true,if_false] at h2;omega
  exact hn i' (by omega) ((ZiQ h0 h1 hm hi2).2 hr)
 have heq:Zd2 u z (j + 1)=many:=by
  by_cases he:Zd2 u z (j + 1)=many
  ·exact he
  ·exfalso
   have h2:many<=Zd2 u z j:=by
    have:=Zck (u:=u) (z:=z) j;rw [j2] at this;simp only [Bool.false_eq_true,if_false] at this;split at this<;>omega
   have hj0:0<j:=by
    by_cases h:j=0
    ·rw [h] at h2;simp [Zd2] at h2;omega
    ·omega
   exact hfst (j - 1) (by omega) (by rw [show j - 1 + 1=j by omega];exact h2)
 rw [Zlq hm j1 heq hfst,Zs8 ha (by rw [show a + many - 1=j by omega];exact hj) hm,show a + many=j + 1 by omega]
theorem Zls (h0:∀ k,k + 1<N->z (k + 1)=true->grp k<grp (k + 1)) (h1:∀ k,k + 1<N->z (k + 1)=false->grp k=grp (k + 1)) (hm:1<=many)
  (hn:∀ k,k + many<=(ZF u N).length->¬ Zsj (ZF u N) grp many k):Zc8 u z N many=if (ZF u N).length<many then ([],3) else ((ZF u N).take many,0):=by
 refine Zlt hm λ j hj hr=>?_;obtain ⟨i',hi1,hi2,hi3⟩:=Zkr hm hj hr;exact hn i' hi3 ((ZiQ h0 h1 hm hi2).2 hr)
end
theorem Zgn:∀ {g:List Int} {a:Int},(∀ x∈g,1<=x/\x<=10)->0<=a->a<g.sum->0<=(ZeS g a).1/\Zfc g a<g.length/\((ZeS g a).1=0->1<=a->Zfc g (a - 1) + 1=Zfc g a)/\((ZeS g a).1≠0->1<=a/\Zfc g (a - 1)=Zfc g a)
 |[],a,_,h0,h1=>by simp at h1;omega
 |x::g,a,hg,h0,h1=>by
  have hx:=hg x List.mem_cons_self;rw [Zh3,Zee,Zee];by_cases h:a<x
  ·rw [if_pos h,if_pos h,if_pos (by omega)]
   simp only [List.length_cons];exact ⟨h0,by omega,λ h2 h3=>by omega,λ h2=>⟨by omega,trivial⟩⟩
  ·rw [if_neg h,if_neg h]
   have ih:=Zgn (g:=g) (a:=a - x) (λ y hy=>hg y (List.mem_cons_of_mem _ hy)) (by omega) (by simp only [List.sum_cons] at h1;omega);obtain ⟨i0,i1,i2,i3⟩:=ih;simp only [List.length_cons];refine ⟨i0,by omega,λ h2 h3=>?_,λ h2=>?_⟩
   ·by_cases hax:a=x
    ·subst hax
     rw [if_pos (by omega)]
     match g,i1,h1 with
     |[],i1,_=>simp at i1
     |y::g,_,_=>
      have:=hg y (by simp);rw [Zee,if_pos (by omega)]
    ·rw [if_neg (by omega),show a - 1 - x=a - x - 1 by omega]
     have:=i2 h2 (by omega);omega
   ·obtain ⟨h4,h5⟩:=i3 h2
    rw [if_neg (by omega),show a - 1 - x=a - x - 1 by omega,h5];exact ⟨by omega,rfl⟩
def Zj1 (g:List Int) (k:Nat):Int:=(k:Int) / g.sum * g.length + Zfc g ((k:Int) % g.sum)
def zF (g:List Int) (k:Nat):Bool:=(ZeS g ((k:Int) % g.sum)).1==0
theorem Zk8 {g:List Int} (hg:∀ x∈g,1<=x/\x<=10) (hl:1<=g.length) (k:Nat):(zF g (k + 1)=true->Zj1 g k<Zj1 g (k + 1))/\(zF g (k + 1)=false->Zj1 g k=Zj1 g (k + 1)):=by
 have hp:=Zes hg hl;have m0:=Int.emod_nonneg ((k + 1:Nat):Int) (show g.sum≠0 by omega);have m1:=Int.emod_lt_of_pos ((k + 1:Nat):Int) (show 0<g.sum by omega);have n0:=Int.emod_nonneg (k:Int) (show g.sum≠0 by omega);have n1:=Int.emod_lt_of_pos (k:Int) (show 0<g.sum by omega);have e1:=Int.mul_ediv_add_emod ((k + 1:Nat):Int) g.sum;have hs:=Zgn hg m0 m1;unfold zF Zj1;obtain ⟨s0,s1,s2,s3⟩:=hs;have ek:(k:Int)=((k + 1:Nat):Int) % g.sum - 1 + g.sum * (((k + 1:Nat):Int) / g.sum):=by omega
 by_cases hm:((k + 1:Nat):Int) % g.sum=0
 ·-- a row begins
  have hq:(k:Int) / g.sum=((k + 1:Nat):Int) / g.sum - 1/\(k:Int) % g.sum=g.sum - 1:=by
   have:(k:Int)=(g.sum - 1) + g.sum * (((k + 1:Nat):Int) / g.sum - 1):=by rw [Int.mul_sub];omega
   constructor
   ·rw [this,Int.add_mul_ediv_left _ _ (by omega),Int.ediv_eq_zero_of_lt (by omega) (by omega)]
    omega
   ·rw [this,Int.add_mul_emod_self_left,Int.emod_eq_of_lt (by omega) (by omega)]
  obtain ⟨_,t1,_,_⟩:=Zgn hg (a:=g.sum - 1) (by omega) (by omega);have hlt:(k:Int) / g.sum * g.length + Zfc g ((k:Int) % g.sum)<((k + 1:Nat):Int) / g.sum * g.length + Zfc g (((k + 1:Nat):Int) % g.sum):=by
   rw [hq.1,hq.2,Int.sub_mul];omega
  refine ⟨λ _=>hlt,λ h=>?_⟩;have h:=beq_eq_false_iff_ne.1 h;have:=(s3 h).1;omega
 ·have hq:(k:Int) / g.sum=((k + 1:Nat):Int) / g.sum/\(k:Int) % g.sum=((k + 1:Nat):Int) % g.sum - 1:=by
   constructor
   ·rw [ek,Int.add_mul_ediv_left _ _ (by omega),Int.ediv_eq_zero_of_lt (by omega) (by omega)];omega
   ·rw [ek,Int.add_mul_emod_self_left,Int.emod_eq_of_lt (by omega) (by omega)]
  rw [hq.1,hq.2];refine ⟨λ h=>?_,λ h=>?_⟩
  ·have:=s2 (beq_iff_eq.1 h) (by omega);omega
  ·have:=(s3 (beq_eq_false_iff_ne.1 h)).2;omega
end
end Go.Proofs.YtlplemdmegpoeaaGreatDoor
namespace Go.VC
section
variable {P:Program} {R:Cx} {Hs Rest:List HP} {w:World} {s:Sl} {T:TypeId}
theorem Zha {t:TypeId} {bytes n:Nat} {kl kc:IntKind} {z:Value} {K:Sl->World->Prop} (ht:P.underlying t=some (.slice T)) (hi:elB P T bytes=true) (hv:∀ w,(zeroValue T).run P w=.ok z w) (h1:z.cells=#[z])
  (hn:bytes * n<=281474976710656) (h63:n<=9223372036854775807) (hw:Sat R Hs w) (k:∀ s' w',Sat R (Own s' T (List.replicate n z)::Hs) w'->K s' w'):
  ∃ w',∃ t':Sl,(Instr.makeSlice t (.int kl (n:Int)) (.int kc (n:Int))).run P w=.ok (.slice t'.a t'.len t'.cap) w'/\K t' w':=by
 obtain ⟨i,z',hi,hz,hs,hb,hc⟩:=Zmr hi;have hzz:z'=z:=by
  have:=hv w;simp [zeroValue,hi,hz,typeInfo] at this;exact this
 subst hzz;have hb':(i.bytes:Int) * (n:Int)<=281474976710656:=by
  rw [hb];have h:((bytes * n:Nat):Int)<=281474976710656:=by omega
  rwa [Int.natCast_mul] at h
 have hr:=run_make (P:=P) w t T i z' ht hi hz kl kc n n (by omega) (Int.le_refl _) hb' (by omega);simp only [Int.toNat_natCast,hs,Nat.mul_one,h1] at hr;refine ⟨_,⟨some ⟨w.heap.size,0,none⟩,n,n⟩,hr,k _ _ ?_⟩;have e:madeCells #[z'] n=(List.replicate n z').toArray:=by
  apply Array.ext
  ·simp [size_madeCells]
  ·intro j h1 h2
   simp [madeCells,Nat.mod_one]
 rw [e];exact Za0 (hw.alloc _) (by simp)
theorem Own.idxB {xs:List Bool} {S:World->Prop} {Hs':List HP} {i:Int} (hw:Sat R (Own s T (xs.map Value.bool)::Hs) w) (hS:∀ w,S w->Sat R (Own s T (xs.map Value.bool)::Hs') w) (k:Nat) (hi:i=k) (hk:k<xs.length) {F:Bool->Prop} (h:F xs[k]):
  Rng i s.len (Zb s.a λ a=>∃ t:Bool,(At S (a.add i.toNat) [.bool t])/\F t):=by
 subst hi;obtain ⟨b,ha,hat⟩:=Own.addr hw (k:=k) (by simpa using hk);have hl:=Own.len hw;rw [List.length_map] at hl;refine Rng.mk (by omega) (by omega) (Zb.mk ha ⟨xs[k],?_,h⟩);have:=hat hS;simpa using this
theorem Own.storeV {t:TypeId} {xs:List Value} {v:Value} {i:Int} (hsz:(P.info? t).map (·.size)=some 1) (hv:v.cells=#[v]) (h1:v.oneCell'=true) (hw:Sat R (Own s T xs::Hs) w) (k:Nat) (hi:i=k) (hk:k<xs.length) {K:World->Prop}
  (h:∀ w',Sat R (Own s T (xs.set k v)::Hs) w'->K w'):
  Rng i s.len (Zb s.a λ a=>∃ w',(Instr.storeAt t (.pointer (some (Addr.add a i.toNat))) v).run P w=.ok () w'/\K w'):=by
 subst hi;have hl:=Own.len hw;rcases Own.cases hw with ⟨_,h0,_⟩|⟨b,rest,fr,rfl,hfr,hp⟩
 ·subst h0;simp at hk
 ·refine Rng.mk (by omega) (by simp only at hl ⊢;omega) (Zb.mk rfl ?_)
  rw [Zs];refine ZK hp (by rw [hsz,hv];rfl) (by rw [hv];simp [ZR,h1]) (by rw [hv];simp;omega) λ w' h2=>h w' ?_;have e:ZcK (xs++rest) (0 + (k:Int).toNat) v.cells.toList=xs.set k v++rest:=by
   rw [hv];simp only [ZcK,Nat.zero_add,Int.toNat_natCast];rw [List.set_append_left _ _ hk]
  rw [e] at h2;have h3:=Own.of_pts h2 (hfr.le (by simp));simpa using h3
theorem Own.ix {kd:IntKind} {xs:List Int} {S:World->Prop} {Hs':List HP} {i:Int} (hw:Sat R (Own s T (xs.map (Value.int kd))::Hs) w) (hS:∀ w,S w->Sat R (Own s T (xs.map (Value.int kd))::Hs') w) (k:Nat) (hi:i=k) (hk:k<xs.length) {F:Int->Prop} (h:F xs[k]):
  Rng i s.len (Zb s.a λ a=>∃ t:Int,(At S (a.add i.toNat) [.int kd t])/\F t):=by
 subst hi;exact Own.idx hw hS hk h
end
end Go.VC
namespace Go.Proofs.YtlplemdmegpoeaaGreatDoor
section
open Go Go.VC Tryz
variable {R:Cx} {Hs Rest:List HP} {w:World}
theorem ZiC:El prog 30 30 3 8:=⟨underlying30,⟨_,underlying30⟩,by kernel_rfl⟩
abbrev ints (l:List Nat):List Value:=(l.map λ (j:Nat)=>(j:Int)).map (Value.int .i64)
def Za6 (taken:List Int) (j:Nat):Bool:=decide ((j:Int)∈taken)
def Z0 (n:Int) (g:List Int) (taken:List Int) (many:Int):List Int × Int:=
 if many<1\/many>Zaw n g then ([],1)
 else ((Zc8 (Za6 taken) (zF g) (Zaw n g).toNat many.toNat).1.map λ (j:Nat)=>(j:Int),(Zc8 (Za6 taken) (zF g) (Zaw n g).toNat many.toNat).2)
theorem ZlK {u z:Nat->Bool}:∀ j,Zd2 u z j<=j
 |0=>Nat.le_refl _
 |j + 1=>by
  have:=ZlK (u:=u) (z:=z) j;rw [Zck];split
  ·omega
  ·split<;>omega
theorem Zpp {j m:Nat} (h:m<=j):ZhM (j + 1) (m + 1)=ZhM j m++[j]:=by
 unfold ZhM;rw [List.range_succ,List.map_append]
 congr 1
 ·refine List.map_congr_left λ t _=>by omega
 ·simp;omega
theorem Zgl (j m:Nat):(ZhM j m).length=m:=by unfold ZhM;simp
theorem Zhq {u:Nat->Bool}:∀ j,(ZF u j).length<=j
 |0=>Nat.le_refl _
 |j + 1=>by
  have:=Zhq (u:=u) j;rw [ZbD];split<;>omega
theorem Zec (l:List Nat):(ints l).length=l.length:=by simp [ints]
theorem Zm6 {s:Sl} {T:TypeId} {xs:List Value} {k:Nat} (hk:k<=xs.length) (hw:Sat R (Own s T xs::Hs) w):Sat R (Own ⟨s.a,k,s.cap⟩ T (xs.take k)::Hs) w:=by
 rcases Own.cases hw with ⟨rfl,rfl,hn⟩|⟨b,rest,fr,rfl,hfr,hp⟩
 ·obtain rfl:k=0:=by simpa using hk
  exact Own.nil hn
 ·have e:xs++rest=xs.take k++(xs.drop k++rest):=by rw [<-List.append_assoc,List.take_append_drop]
  rw [e] at hp hfr ⊢;have:=Own.of_pts hp hfr;rw [show (xs.take k).length=k by rw [List.length_take];omega] at this;exact this
theorem ZrR {n many:Int} {s st:Sl} {g taken:List Int} (hs:RoI R s g) (ht:RoI R st taken) (hw:Sat R Hs w):
  Zk prog 179 #[.agg #[nI n,.slice s.a s.len s.cap],.slice st.a st.len st.cap,nI many] w λ v w'=>∃ t:Sl,v=.tuple #[.slice t.a t.len t.cap,nI (Z0 n g taken many).2]/\Sat R (Zt t ((Z0 n g taken many).1.map (Value.int .i64))::Hs) w':=by
 have hbd:=ZbR n g;have htl:=ht.len;have htb:=ht.bound;have bad:(many<1\/many>Zaw n g)->∀ w,Sat R (pts 0 (.cells #[] 0 (0,0))::Hs) w\/Sat R Hs w->∃ t:Sl,Value.tuple #[.slice none 0 0,nI 1]=.tuple #[.slice t.a t.len t.cap,nI (Z0 n g taken many).2]/\Sat R (Zt t ((Z0 n g taken many).1.map (Value.int .i64))::Hs) w:=λ h w hw=>by
  have e:Z0 n g taken many=([],1):=by unfold Z0;rw [if_pos h]
  rw [e];exact ⟨⟨none,0,0⟩,rfl,Own.reads (T:=0) (Own.nil (by rcases hw with h|h;exact h.drop;exact h))⟩
 apply Zv5;refine Za hw λ p w hw=>?_;have hw:Sat R (pts p (Zb5 n s)::Hs) w:=hw;refine ⟨λ w=>(1<=many/\many<=Zaw n g)/\Sat R (pts p (Zb5 n s)::Hs) w,Br.d (λ h=>bad (.inl h) _ (.inr hw.drop)) (λ h1=>?_),?_⟩
 ·refine ⟨n,s,oA hw,?_⟩
  refine (Zc4 hs hw).u λ w hw=>?_;exact ⟨_,rfl,Br.d (λ h=>bad (.inr h) _ (.inr hw.drop)) (λ h=>⟨⟨by omega,by omega⟩,hw⟩)⟩
 clear hw;rintro _ w ⟨⟨hm1,hm2⟩,hw⟩;have hok:ZcR n g=true:=by
  by_cases hok:ZcR n g=true
  ·exact hok
  ·unfold Zaw at hm2;rw [if_neg hok] at hm2;omega
 obtain ⟨l1,l2,l3⟩:=ZW.1 hok;have eT:Z0 n g taken many=((Zc8 (Za6 taken) (zF g) (Zaw n g).toNat many.toNat).1.map λ (j:Nat)=>(j:Int),(Zc8 (Za6 taken) (zF g) (Zaw n g).toNat many.toNat).2):=by
  unfold Z0;rw [if_neg (by omega)]
 rw [eT];obtain ⟨N,hN⟩:=Int.eq_ofNat_of_zero_le hbd.1;obtain ⟨m,rfl⟩:=Int.eq_ofNat_of_zero_le (show 0<=many by omega);rw [hN] at hbd hm2 ⊢;rw [Int.toNat_natCast,Int.toNat_natCast];clear bad eT;generalize hu:Za6 taken=u;generalize hz:zF g=z;refine ⟨n,s,oA hw,?_⟩;refine (Zc4 hs hw).use ?_;rw [hN];rintro _ w ⟨rfl,hw⟩;refine ⟨_,rfl,?_⟩;refine Zha (bytes:=1) (z:=.bool false) underlying291 (by kernel_rfl) zeroValue4 rfl (by omega) (by omega) hw λ su w hw=>?_
 -- which ones are taken
 refine ⟨λ i w=>∃ j:Nat,i=j/\j<=taken.length/\Sat R (Own su 4 (((List.range N).map (Za6 (taken.take j))).map Value.bool)::pts p (Zb5 n s)::Hs) w,λ i _=>taken.length - i.toNat,⟨0,rfl,by omega,?_⟩,?_⟩
 ·have e:((List.range N).map (Za6 (taken.take 0))).map Value.bool=List.replicate N (.bool false):=by
   apply List.ext_getElem
   ·simp
   ·intro i h1 h2;simp [Za6]
  rw [e];exact hw
 clear hw;rintro _ _ w ⟨j,rfl,hj,hw⟩;have hsl:=Own.len hw;simp only [List.length_map,List.length_range] at hsl;refine Br.d (λ h=>?_) (λ h=>?_)
 ·have hj2:j<taken.length:=by omega
  refine ht.idx (eqS hw) hj2 ?_;refine ⟨n,s,oA hw,?_⟩;refine (Zkn hs hw).use ?_;rw [hN];rintro _ w ⟨rfl,hw⟩;have hset:∀ k:Nat,Za6 (taken.take (j + 1)) k=(Za6 (taken.take j) k||decide ((k:Int)=taken[j])):=λ k=>by
   unfold Za6;rw [List.take_add_one,List.getElem?_eq_getElem hj2];simp only [Option.toList_some,List.mem_append,List.mem_singleton];rw [Bool.decide_or]
  rw [Zd];refine ⟨_,rfl,Br.d (λ h2=>?_) (λ h2=>?_)⟩
  ·obtain ⟨k,hk⟩:=Int.eq_ofNat_of_zero_le h2.1
   refine Own.storeV (by kernel_rfl) rfl rfl hw k hk (by simp;omega) λ w hw=>?_;refine ⟨⟨j + 1,by omega,by omega,?_⟩,by dsimp only;omega⟩;have e:(((List.range N).map (Za6 (taken.take j))).map Value.bool).set k (.bool true)=((List.range N).map (Za6 (taken.take (j + 1)))).map Value.bool:=by
    rw [<-List.map_set]
    congr 1
    apply List.ext_getElem
    ·simp
    ·intro i h3 h4
     simp only [List.length_map,List.length_range,List.length_set] at h3 h4;rw [List.getElem_set];simp only [List.getElem_map,List.getElem_range];rw [hset];split
     ·rename_i h5;subst h5;rw [decide_eq_true hk.symm,Bool.or_true]
     ·rw [decide_eq_false (by omega),Bool.or_false]
   rw [e] at hw;exact hw
  ·refine ⟨⟨j + 1,by omega,by omega,?_⟩,by dsimp only;omega⟩
   have e:(List.range N).map (Za6 (taken.take j))=(List.range N).map (Za6 (taken.take (j + 1))):=by
    refine List.map_congr_left λ i hi=>?_;have hi:=List.mem_range.1 hi;rw [hset,decide_eq_false (by omega),Bool.or_false]
   rw [e] at hw;exact hw
 rw [List.take_of_length_le (show taken.length<=j by omega),hu] at hw
 -- the seats, one behind the other
 refine ⟨n,s,oA hw,?_⟩;refine (Zc4 hs hw).use ?_;rw [hN];rintro _ w ⟨rfl,hw⟩;refine ⟨_,rfl,?_⟩;clear h hj hsl;refine ⟨λ sf sr i w=>∃ j:Nat,i=j/\j<=N/\(∀ k,k<j->¬ m<=Zd2 u z (k + 1))/\Sat R (Own sf 3 (ints (ZF u j))::Own sr 3 (ints (ZhM j (Zd2 u z j)))::Own su 4 (((List.range N).map u).map Value.bool)::pts p (Zb5 n s)::Hs) w,
  λ _ _ i _=>N - i.toNat,⟨0,rfl,by omega,λ k h=>by omega,Own.nil (Own.nil hw)⟩,?_⟩
 clear hw;rintro _ sf sr _ w ⟨j,rfl,hj,hn,hw⟩;have hfl:=Zhq (u:=u) j;have hrl:=ZlK (u:=u) (z:=z) j;refine Br.d (λ h=>?_) (λ h=>?_)
 ·have hjN:j<N:=by omega
  have hused:((List.range N).map u)[j]? =some (u j):=by rw [List.getElem?_map,List.getElem?_range hjN];rfl
  have hgu:∀ (hh:j<((List.range N).map u).length),((List.range N).map u)[j]=u j:=λ hh=>by simp
  refine ⟨λ sr w=>Sat R (Own sf 3 (ints (ZF u j))::Own sr 3 (ints (if z j||u j then [] else ZhM j (Zd2 u z j)))::Own su 4 (((List.range N).map u).map Value.bool)::pts p (Zb5 n s)::Hs) w,?_,?_⟩
  ·refine ⟨n,s,oA hw,?_⟩
   refine (ZnY hs l2 (by omega) (by omega) (by omega) hw).u λ w hw=>?_;have hzj:z j=((ZeS g ((j:Int) % g.sum)).1==0):=by rw [<-hz];rfl
   refine ⟨_,_,rfl,?_⟩;rw [<-hzj];refine Br.mk (λ h2=>?_) (λ h2=>?_)
   ·rw [h2];exact Own.nil (hw.swap.drop)|>.swap
   ·refine Own.idxB (hw.take (Own su 4 (((List.range N).map u).map Value.bool))) (eqS (hw.take (Own su 4 (((List.range N).map u).map Value.bool)))) j rfl (by simp;omega) ?_
    rw [hgu];refine Br.mk (λ h3=>?_) (λ h3=>?_)
    ·rw [h2,h3];exact Own.nil (hw.swap.drop)|>.swap
    ·rw [h2,h3];exact hw
  clear hw;rintro _ sr w hw;refine Own.idxB (hw.take (Own su 4 (((List.range N).map u).map Value.bool))) (eqS (hw.take (Own su 4 (((List.range N).map u).map Value.bool)))) j rfl (by simp;omega) ?_;rw [hgu,Zd];refine Br.mk (λ h3=>?_) (λ h3=>?_)
  ·refine ⟨⟨j + 1,by omega,by omega,λ k hk=>?_,?_⟩,by dsimp only;omega⟩
   ·by_cases hkj:k=j
    ·rw [hkj,Zck,h3];simp;omega
    ·exact hn k (by omega)
   ·rw [h3,Bool.or_true,if_pos rfl] at hw
    rw [Zbs,Zck,h3];simp only [if_true,List.append_nil];exact hw
  ·refine ZaJ ZiC hw (by rw [List.length_map];omega) λ sf' w hw=>?_
   have hrun:(if z j||u j then [] else ZhM j (Zd2 u z j))++[j]=ZhM (j + 1) (Zd2 u z (j + 1)):=by
    rw [Zck,h3,Bool.or_false];simp only [Bool.false_eq_true,if_false];cases hzz:z j with
    |true=>simp [ZhM]
    |false=>
     simp only [Bool.false_eq_true,if_false];exact (Zpp hrl).symm
   have hrl2:=ZlK (u:=u) (z:=z) (j + 1);refine ZaJ ZiC hw.swap (by rw [List.length_map];split<;>simp [Zgl]<;>omega) λ sr' w hw=>?_;have hw:Sat R (Own sr' 3 (ints (ZhM (j + 1) (Zd2 u z (j + 1))))::Own sf' 3 (ints (ZF u (j + 1)))::Own su 4 (((List.range N).map u).map Value.bool)::pts p (Zb5 n s)::Hs) w:=by
    have e1:ints (ZF u (j + 1))=(((ZF u j).map λ (j:Nat)=>(j:Int))++[(j:Int)]).map (Value.int .i64):=by rw [Zbs,h3];simp [ints]
    have e2:ints (ZhM (j + 1) (Zd2 u z (j + 1)))=(((if z j||u j then [] else ZhM j (Zd2 u z j)).map λ (j:Nat)=>(j:Int))++[(j:Int)]).map (Value.int .i64):=by rw [<-hrun];simp only [ints,List.map_append,List.map_cons,List.map_nil]
    rw [e1,e2];exact hw
   have hrlen:=Own.len hw;rw [Zec,Zgl] at hrlen;refine Br.e (λ h4=>?_) (λ h4=>?_)
   ·have hbs:=Zlq (u:=u) (z:=z) (many:=m) (N:=N) (by omega) hjN (by omega) hn
    rw [hbs];refine ⟨sr',rfl,?_⟩;have:=Own.reads hw;rw [show Zd2 u z (j + 1)=m by omega] at this;exact Sat.cons (λ R' h=>h.drop.drop.drop) this
   ·refine ⟨⟨j + 1,by omega,by omega,λ k hk hr=>?_,hw.swap⟩,by dsimp only;omega⟩
    by_cases hkj:k=j
    ·subst hkj
     have:Zd2 u z (k + 1)<=Zd2 u z k + 1:=by rw [Zck];split<;>(try split)<;>omega
     have:Zd2 u z k<m:=by
      by_cases hk0:k=0
      ·rw [hk0];simp only [Zd2];omega
      ·have:=hn (k - 1) (by omega)
       rw [show k - 1 + 1=k by omega] at this;omega
     omega
    ·exact hn k (by omega) hr
 ·obtain rfl:j=N:=by omega
  have hbn:=Zlt (u:=u) (z:=z) (many:=m) (N:=j) (by omega) hn;have hfl2:=Own.len hw;have hcap:=Own.cap hw;rw [Zec] at hfl2;rw [hbn];refine Br.d (λ h4=>?_) (λ h4=>?_)
  ·rw [if_pos (by omega)]
   exact ⟨⟨none,0,0⟩,rfl,Own.reads (T:=0) (Own.nil hw.drop.drop.drop.drop)⟩
  ·rw [if_neg (by omega)]
   refine ⟨by omega,by omega,⟨sf.a,m,sf.cap⟩,rfl,?_⟩;have:=Own.reads (Zm6 (k:=m) (by rw [Zec];omega) hw);rw [show (ints (ZF u j)).take m=ints ((ZF u j).take m) by simp [ints,List.map_take]] at this;exact Sat.cons (λ R' h=>h.drop.drop.drop) this
theorem _root_.Go.VC.Sat.imp {A B:HP} (h:∀ m,A m->B m) (hw:Sat R (A::Hs) w):Sat R (B::Hs) w:=let ⟨m,a,b,c⟩:=hw;⟨m,h m a,b,c⟩
theorem ZgU {n k:Int} {s:Sl} {g:List Int} (hs:RoI R s g) (hg:∀ x∈g,1<=x/\x<=10) (hl:g.length<=4) (hl1:1<=g.length) (hk:0<=k) (hk2:k<=1000) (hw:Sat R Hs w):
  Zk prog 259 #[.agg #[nI n,.slice s.a s.len s.cap],nI k] w λ v w'=>v=nI (Zj1 g k.toNat)/\Sat R Hs w':=by
 have hlen:=hs.len;have hp:=Zes hg hl1;apply Zvj;refine Za hw λ p w hw=>?_;have hw:Sat R (pts p (Zb5 n s)::Hs) w:=hw;refine ⟨n,s,oA hw,?_⟩;refine (Zbq hs (λ x hx=>by have:=hg x hx;omega) hl hw).use ?_;rintro _ w ⟨rfl,hw⟩;refine ⟨_,rfl,Nz.mk (by omega) ?_⟩;rw [Int.tmod_eq_emod_of_nonneg hk];have m0:=Int.emod_nonneg k (show g.sum≠0 by omega);have m1:=Int.emod_lt_of_pos k (show 0<g.sum by omega);have hsb:=ZhY (g:=g) (λ x hx=>by have:=hg x hx;omega);have q0:=Int.ediv_nonneg hk (show 0<=g.sum by omega);have q1:k / g.sum<=k:=Int.ediv_le_self _ hk;have eg:Zj1 g k.toNat=k / g.sum * g.length + Zfc g (k % g.sum):=by unfold Zj1;rw [Int.toNat_of_nonneg hk]
 rw [eg];generalize k % g.sum=a at *;generalize hqq:k / g.sum=q at *;have hix:=(Zgn hg m0 m1).2.1;refine ⟨λ at' i w=>∃ j:Nat,i=j/\j<=g.length/\0<=at'/\at'<(g.drop j).sum/\at'<=a/\j + Zfc (g.drop j) at'=Zfc g a/\Sat R (pts p (Zb5 n s)::Hs) w,λ _ i _=>g.length - i.toNat,⟨0,rfl,by omega,by omega,m1,by omega,by simp,hw⟩,?_⟩;clear hw;rintro _ at' _ w ⟨j,rfl,hj,h0,h1,h2,hn,hw⟩;have hj2:j<g.length:=by
  by_cases hj2:j<g.length
  ·exact hj2
  ·rw [List.drop_eq_nil_of_le (by omega)] at h1;simp at h1;omega
 have hx:=hg g[j] (List.getElem_mem _);rw [List.drop_eq_getElem_cons hj2,Zee] at hn;rw [List.drop_eq_getElem_cons hj2,List.sum_cons] at h1;refine ⟨s,oA hw,hs.idx (eqS hw) hj2 ?_⟩;refine Br.d (λ h=>?_) (λ h=>?_)
 ·refine ⟨s,oA hw,hs.idx (eqS hw) hj2 ?_⟩
  rw [if_neg (by omega)] at hn;rw [Zd (x:=at' - g[j]),Zd];exact ⟨⟨j + 1,by omega,by omega,by omega,by omega,by omega,by omega,hw⟩,by dsimp only;omega⟩
 ·rw [if_pos (by omega)] at hn
  refine Zq hw λ w hw=>?_;refine ⟨n,s,oS,s,oS,?_⟩;refine (Zbq hs (λ x hx=>by have:=hg x hx;omega) hl hw).use ?_;rintro _ w ⟨rfl,hw⟩;refine ⟨_,rfl,hw,Nz.mk (by omega) ⟨?_,hw.drop⟩⟩;rw [hlen,Int.tdiv_eq_ediv_of_nonneg hk,hqq];have hb:0<=q * (g.length:Int)/\q * (g.length:Int)<=4000:=⟨Int.mul_nonneg q0 (by omega),by
   have:=Int.mul_le_mul (show q<=1000 by omega) (show (g.length:Int)<=4 by omega) (by omega) (by omega);omega⟩
  rw [Zd (x:=q),Zd (x:=q * (g.length:Int)),Zd]
  congr 1;omega
theorem Zp2 {s:Sl} {xs:List Value} {i m:Nat} (h:i + m<=xs.length) (hw:Sat R (Zt s xs::Hs) w):Sat R (Zt ⟨ZbI s.a i s.cap 1,m,s.cap - i⟩ ((xs.drop i).take m)::Hs) w:=
 Sat.imp (λ _ a=>by
  have b:=SlR.drop (k:=i) a (by omega);exact SlR.take (k:=m) b (by rw [List.length_drop];omega)) hw
theorem Zom {n many:Int} {s st:Sl} {g taken:List Int} (hs:RoI R s g) (ht:RoI R st taken) (hw:Sat R Hs w):
  Zk prog 199 #[.agg #[nI n,.slice s.a s.len s.cap],.slice st.a st.len st.cap,nI many] w λ v w'=>∃ t:Sl,v=.tuple #[.slice t.a t.len t.cap,nI (Z0 n g taken many).2]/\Sat R (Zt t ((Z0 n g taken many).1.map (Value.int .i64))::Hs) w':=by
 have hbd:=ZbR n g;have bad:(many<1\/many>Zaw n g)->∀ w,Sat R Hs w->∃ t:Sl,Value.tuple #[.slice none 0 0,nI 1]=.tuple #[.slice t.a t.len t.cap,nI (Z0 n g taken many).2]/\Sat R (Zt t ((Z0 n g taken many).1.map (Value.int .i64))::Hs) w:=λ h w hw=>by
  have e:Z0 n g taken many=([],1):=by unfold Z0;rw [if_pos h]
  rw [e];exact ⟨⟨none,0,0⟩,rfl,Own.reads (T:=0) (Own.nil hw)⟩
 apply ZvM;refine Za hw λ p w hw=>?_;have hw:Sat R (pts p (Zb5 n s)::Hs) w:=hw;refine ⟨λ w=>(1<=many/\many<=Zaw n g)/\Sat R (pts p (Zb5 n s)::Hs) w,Br.d (λ h=>bad (.inl h) _ hw.drop) (λ h1=>?_),?_⟩
 ·refine ⟨n,s,oA hw,?_⟩
  refine (Zco hs hw).use ?_;rintro _ w ⟨rfl,hw⟩;exact ⟨_,rfl,Br.d (λ h=>bad (.inr h) _ hw.drop) (λ h=>⟨⟨by omega,by omega⟩,hw⟩)⟩
 clear hw;rintro _ w ⟨⟨hm1,hm2⟩,hw⟩;have hok:ZcR n g=true:=by
  by_cases hok:ZcR n g=true
  ·exact hok
  ·unfold Zaw at hm2;rw [if_neg hok] at hm2;omega
 obtain ⟨l1,l2,l3⟩:=ZW.1 hok;have eT:Z0 n g taken many=((Zc8 (Za6 taken) (zF g) (Zaw n g).toNat many.toNat).1.map λ (j:Nat)=>(j:Int),(Zc8 (Za6 taken) (zF g) (Zaw n g).toNat many.toNat).2):=by
  unfold Z0;rw [if_neg (by omega)]
 rw [eT];obtain ⟨N,hN⟩:=Int.eq_ofNat_of_zero_le hbd.1;obtain ⟨m,rfl⟩:=Int.eq_ofNat_of_zero_le (show 0<=many by omega);rw [hN] at hbd hm2 ⊢;rw [Int.toNat_natCast,Int.toNat_natCast];clear bad eT;have g0:=λ k (_:k + 1<N)=>(Zk8 l2 (by omega) k).1;have g1:=λ k (_:k + 1<N)=>(Zk8 l2 (by omega) k).2;generalize hu:Za6 taken=u;generalize zF g=z at *;refine ⟨λ sf i w=>∃ j:Nat,i=j/\j<=N/\Sat R (Own sf 3 (ints (ZF u j))::pts p (Zb5 n s)::Hs) w,λ _ i _=>N - i.toNat,⟨0,rfl,by omega,Own.nil hw⟩,?_⟩;clear hw;rintro _ sf _ w ⟨j,rfl,hj,hw⟩;have hfl:=Zhq (u:=u) j;refine ⟨n,s,oA hw,?_⟩;refine (Zco hs hw).use ?_;rw [hN];rintro _ w ⟨rfl,hw⟩;refine ⟨_,rfl,Br.d (λ h=>?_) (λ h=>?_)⟩
 ·refine (Zno ht hw).use ?_
  rintro _ w ⟨rfl,hw⟩;have huj:u j=decide ((j:Int)∈taken):=by rw [<-hu];rfl
  refine ⟨_,rfl,?_⟩;rw [<-huj,Zd];refine Br.nb (λ h2=>?_) (λ h2=>?_)
  ·refine ZaJ ZiC hw (by rw [List.length_map];omega) λ sf' w hw=>?_
   refine ⟨⟨j + 1,by omega,by omega,?_⟩,by dsimp only;omega⟩;have e1:ints (ZF u (j + 1))=(((ZF u j).map λ (j:Nat)=>(j:Int))++[(j:Int)]).map (Value.int .i64):=by rw [Zbs,h2];simp [ints]
   rw [e1];exact hw
  ·refine ⟨⟨j + 1,by omega,by omega,?_⟩,by dsimp only;omega⟩
   rw [Zbs,h2,if_pos rfl,List.append_nil];exact hw
 obtain rfl:j=N:=by omega
 have hfl2:=Own.len hw;have hcap:=Own.cap hw;rw [Zec] at hfl2;have gen:∀ k,(ZF u j)[k]? =some ((ZF u j).getD k 0)↔k<(ZF u j).length:=λ k=>by
  rw [List.getD_eq_getElem?_getD];constructor
  ·intro h;exact (List.getElem?_eq_some_iff.1 h).1
  ·intro h;rw [List.getElem?_eq_getElem h];rfl
 generalize hf:ZF u j=f at *;refine Br.d (λ h4=>?_) (λ h4=>?_)
 ·have:=Zls (u:=u) (z:=z) (grp:=Zj1 g) (many:=m) (N:=j) g0 g1 (by omega) (λ k hk=>by rw [hf] at hk;omega)
  rw [this,hf,if_pos (by omega)];exact ⟨⟨none,0,0⟩,rfl,Own.reads (T:=0) (Own.nil hw.drop.drop)⟩
 refine ⟨λ i w=>∃ k:Nat,i=k/\k<=f.length/\(∀ k',k'<k->¬ Zsj f (Zj1 g) m k')/\Sat R (Own sf 3 (ints f)::pts p (Zb5 n s)::Hs) w,λ i _=>f.length - i.toNat,⟨0,rfl,by omega,λ k h=>by omega,hw⟩,?_⟩;clear hw h;rintro _ _ w ⟨k,rfl,hk,hn,hw⟩;rw [Zd (x:=(k:Int) + m),Zd (x:=(k:Int) + m - 1),Zd (x:=(m:Int) - 1),Zd (x:=(k:Int) + 1)];refine Br.d (λ h=>?_) (λ h=>?_)
 ·have hx1:k<f.length:=by omega
  have hx2:k + m - 1<f.length:=by omega
  have hfk:=λ i (hi:i<f.length)=>by
   have h2:(ZF u j)[i]? =some f[i]:=by rw [hf];exact List.getElem?_eq_getElem hi
   exact (ZcA h2).1
  have b1:=hfk k hx1;have b2:=hfk (k + m - 1) hx2;have next:¬ Zsj f (Zj1 g) m k->∀ w,Sat R (Own sf 3 (ints f)::pts p (Zb5 n s)::Hs) w->(∃ k':Nat,(k:Int) + 1=k'/\k'<=f.length/\(∀ k'',k''<k'->¬ Zsj f (Zj1 g) m k'')/\Sat R (Own sf 3 (ints f)::pts p (Zb5 n s)::Hs) w)/\f.length - ((k:Int) + 1).toNat<f.length - (k:Int).toNat:=λ hno w hw=>
   ⟨⟨k + 1,by omega,by omega,λ k' hk'=>by
    by_cases hkk:k'=k
    ·rw [hkk];exact hno
    ·exact hn k' (by omega),hw⟩,by omega⟩
  have hwin:Zsj f (Zj1 g) m k↔((f[k + m - 1]:Int) - f[k]=m - 1/\Zj1 g f[k]=Zj1 g f[k + m - 1]):=by
   unfold Zsj;constructor
   ·rintro ⟨a,b,ha,hb,hd,hab,hg⟩
    rw [List.getElem?_eq_getElem hx1] at ha;rw [List.getElem?_eq_getElem hx2] at hb;obtain rfl:=Option.some.inj ha;obtain rfl:=Option.some.inj hb;exact ⟨by omega,hg⟩
   ·rintro ⟨hd,hg⟩
    exact ⟨_,_,List.getElem?_eq_getElem hx1,List.getElem?_eq_getElem hx2,by omega,by omega,hg⟩
  have hval:∀ i (hi:i<f.length),(f.map λ (j:Nat)=>(j:Int))[i]'(by rw [List.length_map];exact hi)=(f[i]:Int):=λ i hi=>by simp
  refine Own.ix (xs:=f.map λ (j:Nat)=>(j:Int)) hw (eqS hw) (k + m - 1) (by omega) (by rw [List.length_map];exact hx2) ?_;rw [hval _ hx2];refine Zq hw λ w hw=>?_;refine Own.ix (xs:=f.map λ (j:Nat)=>(j:Int)) hw ZbK k rfl (by rw [List.length_map];exact hx1) ?_;rw [hval _ hx1,Zd (x:=(f[k + m - 1]:Int) - f[k])];refine Br.e (λ h5=>?_) (λ h5=>next (λ hw=>h5 (hwin.1 hw).1) _ hw);refine ⟨n,s,oS,?_⟩;refine Own.ix (xs:=f.map λ (j:Nat)=>(j:Int)) hw ZbK k rfl (by rw [List.length_map];exact hx1) ?_;rw [hval _ hx1];refine ⟨n,s,oS,?_⟩;refine (ZgU hs l2 (by omega) (by omega) (by omega) (by omega) hw).use ?_;rintro _ w ⟨rfl,hw⟩;refine ⟨_,rfl,hw,?_⟩;refine (ZgU hs l2 (by omega) (by omega) (by omega) (by omega) hw).use ?_;rintro _ w ⟨rfl,hw⟩;refine ⟨_,rfl,hw,?_⟩;rw [Int.toNat_natCast,Int.toNat_natCast];refine Br.e (λ h6=>?_) (λ h6=>next (λ hw=>h6 (hwin.1 hw).2) _ hw);refine ⟨by omega,by omega,by omega,by omega,⟨ZbI sf.a k sf.cap 1,m,sf.cap - k⟩,?_,?_⟩
  ·rw [ZnI (u:=u) (z:=z) (grp:=Zj1 g) (many:=m) (N:=j) g0 g1 (by omega) (by rw [hf];exact hwin.2 ⟨h5,h6⟩) (by rw [hf];exact hn),show ((k:Int) + m).toNat - (k:Int).toNat=m by omega]
   rfl
  ·rw [ZnI (u:=u) (z:=z) (grp:=Zj1 g) (many:=m) (N:=j) g0 g1 (by omega) (by rw [hf];exact hwin.2 ⟨h5,h6⟩) (by rw [hf];exact hn),hf]
   have:=Zp2 (i:=k) (m:=m) (by rw [Zec];omega) (Own.reads hw);rw [show ((ints f).drop k).take m=ints ((f.drop k).take m) by simp [ints,List.map_take,List.map_drop]] at this;exact Sat.cons (λ R' h=>h.drop) this
 ·have:=Zls (u:=u) (z:=z) (grp:=Zj1 g) (many:=m) (N:=j) g0 g1 (by omega) (λ k' hk'=>by rw [hf] at hk' ⊢;exact hn k' (by omega))
  rw [this,hf,if_neg (by omega)];refine ⟨by omega,by omega,⟨sf.a,m,sf.cap⟩,rfl,?_⟩;have:=Own.reads (Zm6 (k:=m) (by rw [Zec];omega) hw);rw [show (ints f).take m=ints (f.take m) by simp [ints,List.map_take]] at this;exact Sat.cons (λ R' h=>h.drop) this
end
end Go.Proofs.YtlplemdmegpoeaaGreatDoor
