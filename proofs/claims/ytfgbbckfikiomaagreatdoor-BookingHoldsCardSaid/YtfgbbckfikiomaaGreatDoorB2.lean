/- SL, part 10: slices whose elements are structs of n cells: one's own, or only read; elements, stores, append. No condition but bounds on lengths. -/
import Derived.Test.YtfgbbckfikiomaaGreatDoorB1
import Derived.Laws.BitsAllLaws
import Derived.Lib.BitFns
import Derived.KernelRfl
import Derived.Lib.AppendZeros
import Derived.Laws.RangeAny
import Derived.Laws.MakeOwn
set_option linter.unusedVariables false
namespace Go.VC
section
open Go Go.RowKit
variable {P:Program} {R:Cx} {Hs Rest:List HP} {w:World} {s:Sl} {T:TypeId} {n:Nat}
def Wid (n:Nat) (rows:List (List Value)):Prop:=∀ x∈rows,x.length=n
theorem Wid.nil {n:Nat}:Wid n []:=λ _ h=>by cases h
theorem Wid.app {n:Nat} {a b:List (List Value)} (ha:Wid n a) (hb:Wid n b):Wid n (a++b):=λ x hx=>(List.mem_append.1 hx).elim (ha x) (hb x)
theorem Wid.one {n:Nat} {x:List Value} (h:x.length=n):Wid n [x]:=λ y hy=>by simp at hy;rw [hy];exact h
theorem Wid.len {n:Nat}:∀ {rows:List (List Value)},Wid n rows->rows.flatten.length=rows.length * n
 |[],_=>by simp
 |x::rows,h=>by
  rw [List.flatten_cons,List.length_append,h x List.mem_cons_self,Wid.len (rows:=rows) (λ y hy=>h y (List.mem_cons_of_mem _ hy)),List.length_cons,Nat.add_mul];omega
theorem Wid.drop_flat {n:Nat}:∀ {rows:List (List Value)} (k:Nat),Wid n rows->rows.flatten.drop (k * n)=(rows.drop k).flatten
 |rows,0,_=>by simp
 |[],k + 1,_=>by simp
 |x::rows,k + 1,h=>by
  have hx:=h x List.mem_cons_self;rw [List.flatten_cons,List.drop_succ_cons,<-Wid.drop_flat (rows:=rows) k (λ y hy=>h y (List.mem_cons_of_mem _ hy)),List.drop_append];have e1:x.drop ((k + 1) * n)=[]:=List.drop_eq_nil_of_le (by rw [hx,Nat.add_mul];omega);have e2:(k + 1) * n - x.length=k * n:=by rw [hx,Nat.add_mul];omega
  rw [e1,e2,List.nil_append]
theorem Wid.take_flat {n:Nat} {rows:List (List Value)} (k:Nat) (h:Wid n rows):rows.flatten.take (k * n)=(rows.take k).flatten:=by
 by_cases hk:k<=rows.length
 ·have e:rows.flatten=(rows.take k).flatten++(rows.drop k).flatten:=by rw [<-List.flatten_append,List.take_append_drop]
  rw [e,List.take_left'];rw [Wid.len (λ x hx=>h x (List.mem_of_mem_take hx)),List.length_take,Nat.min_eq_left hk]
 ·rw [List.take_of_length_le (by rw [h.len];exact Nat.mul_le_mul_right _ (by omega)),List.take_of_length_le (by omega)]
theorem Wid.take {n k:Nat} {rows:List (List Value)} (h:Wid n rows):Wid n (rows.take k):=λ x hx=>h x (List.mem_of_mem_take hx)
theorem Wid.drop {n k:Nat} {rows:List (List Value)} (h:Wid n rows):Wid n (rows.drop k):=λ x hx=>h x (List.mem_of_mem_drop hx)
theorem Pre.app:∀ {vs a:List Value} (b:List Value),Pre vs a->Pre vs (a++b)
 |[],_,_,_=>trivial
 |_::_,_::_,b,h=>⟨h.1,Pre.app b h.2⟩
 |_::_,[],_,h=>h.elim
theorem Pre.len:∀ {vs a:List Value},Pre vs a->vs.length<=a.length
 |[],_,_=>Nat.zero_le _
 |_::_,_::_,h=>by simp only [List.length_cons];exact Nat.succ_le_succ (Pre.len h.2)
 |_::_,[],h=>h.elim
theorem Wid.pre {n k j:Nat} {rows:List (List Value)} (rest:List Value) (h:Wid n rows) (hk:k<rows.length) {vs:List Value} (hp:Pre vs (rows[k].drop j)):Pre vs ((rows.flatten++rest).drop (k * n + j)):=by
 cases vs with
 |nil=>trivial
 |cons v vs=>
  have hj:j<rows[k].length:=by
   have:=Pre.len hp;simp only [List.length_cons,List.length_drop] at this;omega
  have hx:rows[k].length=n:=h _ (List.getElem_mem _);have hle:k * n + j<=rows.flatten.length:=by
   rw [h.len];have:(k + 1) * n<=rows.length * n:=Nat.mul_le_mul_right _ (by omega);rw [Nat.add_mul] at this;omega
  rw [List.drop_append_of_le_length hle,Nat.add_comm (k * n) j,<-List.drop_drop];rw [Nat.add_comm] at hle;rw [List.drop_drop,Nat.add_comm j,<-List.drop_drop,h.drop_flat,List.drop_eq_getElem_cons hk,List.flatten_cons,List.drop_append_of_le_length (by omega),List.append_assoc];exact hp.app _
def Zt (n:Nat) (s:Sl) (T:TypeId) (rows:List (List Value)):HP:=λ h=>
 Wid n rows/\((s=⟨none,0,0⟩/\rows=[]/\h=ZU.none)\/
  ∃ b rest fr cap,s=⟨some ⟨b,0,none⟩,rows.length,cap⟩/\(rows.flatten++rest).length=cap * n/\Znn (cap * n) fr/\h=ZU.one b (.cells (rows.flatten++rest).toArray T fr))
theorem Zt.nil (h:Sat R Hs w):Sat R (Zt n ⟨none,0,0⟩ T []::Hs) w:=
 ⟨ZU.none,⟨Wid.nil,.inl ⟨rfl,rfl,rfl⟩⟩,λ i hi=>absurd rfl hi,by rw [Cx.add_none];exact h⟩
theorem Zt.of_pts {b cap:Nat} {fr:Nat × Nat} {rows:List (List Value)} {rest:List Value} (hwid:Wid n rows) (hl:(rows.flatten++rest).length=cap * n) (h:Sat R (pts b (.cells (rows.flatten++rest).toArray T fr)::Hs) w)
  (hf:Znn (cap * n) fr:=by first|assumption|exact Or.inl rfl):Sat R (Zt n ⟨some ⟨b,0,none⟩,rows.length,cap⟩ T rows::Hs) w:=
 let ⟨a,ha,hd,hs⟩:=h;⟨a,⟨hwid,.inr ⟨b,rest,fr,cap,rfl,hl,hf,ha⟩⟩,hd,hs⟩
theorem Zt.cases {rows:List (List Value)} (h:Sat R (Zt n s T rows::Hs) w):Wid n rows/\
  ((s=⟨none,0,0⟩/\rows=[]/\Sat R Hs w)\/∃ b rest fr cap,s=⟨some ⟨b,0,none⟩,rows.length,cap⟩/\(rows.flatten++rest).length=cap * n/\Znn (cap * n) fr/\Sat R (pts b (.cells (rows.flatten++rest).toArray T fr)::Hs) w):=by
 obtain ⟨a,⟨hwid,ha⟩,hd,hs⟩:=h;refine ⟨hwid,?_⟩;rcases ha with ⟨h1,h2,rfl⟩|⟨b,rest,fr,cap,h1,h3,hf,rfl⟩
 ·rw [Cx.add_none] at hs;exact .inl ⟨h1,h2,hs⟩
 ·exact .inr ⟨b,rest,fr,cap,h1,h3,hf,_,rfl,hd,hs⟩
theorem Zt.wid {rows:List (List Value)} (h:Sat R (Zt n s T rows::Hs) w):Wid n rows:=(Zt.cases h).1
theorem Zt.len {rows:List (List Value)} (h:Sat R (Zt n s T rows::Hs) w):s.len=rows.length:=by
 rcases (Zt.cases h).2 with ⟨rfl,rfl,_⟩|⟨b,rest,fr,cap,rfl,_,_⟩<;>rfl
theorem Zt.cap {rows:List (List Value)} (hn:0<n) (h:Sat R (Zt n s T rows::Hs) w):s.len<=s.cap:=by
 have hwid:=(Zt.cases h).1;rcases (Zt.cases h).2 with ⟨rfl,rfl,_⟩|⟨b,rest,fr,cap,rfl,hl,_⟩
 ·exact Nat.le_refl _
 ·rw [List.length_append,hwid.len] at hl
  simp only;have:rows.length * n<=cap * n:=by omega
  exact Nat.le_of_mul_le_mul_right this hn
def Zgl (n:Nat) (s:Sl) (rows:List (List Value)) (S:World->Prop):Prop:=
 s.len=rows.length/\∀ k (hk:k<rows.length),∃ b off,s.a=some ⟨b,off,none⟩/\∀ j vs,Pre vs (rows[k].drop j)->At S ⟨b,off + (k * n + j),none⟩ vs
theorem Zt.reads {rows:List (List Value)} (hw:Sat R (Zt n s T rows::Hs) w) {S:World->Prop} {Hs'} (hS:∀ w,S w->Sat R (Zt n s T rows::Hs') w):Zgl n s rows S:=by
 refine ⟨Zt.len hw,λ k hk=>?_⟩;obtain ⟨hwid,⟨_,rfl,_⟩|⟨b,rest,fr,cap,rfl,hl,_,_⟩⟩:=Zt.cases hw
 ·simp at hk
 ·refine ⟨b,0,rfl,λ j vs hp w hw i v hv=>?_⟩
  obtain ⟨_,⟨h0,_,_⟩|⟨b',rest',fr',cap',he,_,_,h⟩⟩:=Zt.cases (hS w hw)
  ·cases h0
  ·simp only [Sl.mk.injEq,Option.some.injEq,Addr.mk.injEq,and_true] at he
   obtain ⟨rfl,_⟩:=he;have:=(Wid.pre rest' hwid hk hp).get i v hv;rw [List.getElem?_drop] at this;rw [Zy,Nat.zero_add,Zau h.at,this]
theorem Zgl.rng {S:World->Prop} {rows:List (List Value)} (h:Zgl n s rows S) {k:Nat} (hk:k<rows.length) {F:Addr->Prop} (f:∀ b off,s.a=some ⟨b,off,none⟩->(∀ j vs,Pre vs (rows[k].drop j)->At S ⟨b,off + (k * n + j),none⟩ vs)->F ⟨b,off,none⟩):
  Rng (k:Int) s.len (Zc s.a F):=by
 obtain ⟨b,off,ha,hat⟩:=h.2 k hk;have:=h.1;exact Rng.mk (by omega) (by omega) (Zc.mk ha (f b off ha hat))
theorem ZnL (b off k n j:Nat):(⟨(Addr.add ⟨b,off,none⟩ (Za6 k n)).block,(Addr.add ⟨b,off,none⟩ (Za6 k n)).off + j,none⟩:Addr)=⟨b,off + (k * n + j),none⟩:=by
 rw [Zy,ZfJ];simp only [Addr.mk.injEq,and_true,true_and];omega
theorem ZhF (b off k n:Nat):Addr.add ⟨b,off,none⟩ (Za6 k n)=⟨b,off + (k * n + 0),none⟩:=by
 rw [Zy,ZfJ];rfl
structure RoN (n:Nat) (R:Cx) (s:Sl) (rows:List (List Value)):Prop where
 wid:Wid n rows
 len:s.len=rows.length
 mem:rows≠[]->∃ b off l T fr,s.a=some ⟨b,off,none⟩/\R.m b=some (.cells l T fr)/\∀ (i:Nat) v,rows.flatten[i]? =some v->l[off + i]? =some v
theorem RoN.reads {rows:List (List Value)} (hr:RoN n R s rows) {S:World->Prop} {Hs'} (hS:∀ w,S w->Sat R Hs' w):Zgl n s rows S:=by
 refine ⟨hr.len,λ k hk=>?_⟩;obtain ⟨b,off,l,T,fr,ha,hb,hl⟩:=hr.mem (λ h=>by rw [h] at hk;simp at hk);refine ⟨b,off,ha,λ j vs hp w hw i v hv=>?_⟩;have h1:=(Wid.pre [] hr.wid hk hp).get i v hv;rw [List.append_nil,List.getElem?_drop] at h1;have:=(hS w hw).of_ro hb;rw [Zy];simp only [World.cell?,this,Option.isSome_none,Bool.false_eq_true,if_false];rw [Nat.add_assoc];exact hl _ _ h1
theorem Zt.lend {rows:List (List Value)} (h:Sat R (Zt n s T rows::Hs) w):
  ∃ R':Cx,RoN n R' s rows/\(∃ x,R'=R.add x)/\Sat R' Hs w/\∀ {Hs' w'},Sat R' Hs' w'->Sat R (Zt n s T rows::Hs') w':=by
 obtain ⟨hwid,⟨rfl,rfl,h2⟩|⟨b,rest,fr,cap,rfl,hl,hf,h2⟩⟩:=Zt.cases h
 ·exact ⟨R,⟨hwid,rfl,λ h=>absurd rfl h⟩,⟨ZU.none,(Cx.add_none R).symm⟩,h2,λ h=>Zt.nil h⟩
 ·obtain ⟨hn,h3⟩:=Sat.lend.1 h2
  refine ⟨_,⟨hwid,rfl,λ _=>⟨b,0,_,T,fr,rfl,Cx.lent hn,λ i v hv=>?_⟩⟩,⟨_,rfl⟩,h3,λ h=>Zt.of_pts hwid hl (Sat.lend.2 ⟨hn,h⟩)⟩;obtain ⟨hi,rfl⟩:=List.getElem?_eq_some_iff.1 hv;simp [List.getElem?_append_left hi]
theorem RoN.sub {rows:List (List Value)} (hr:RoN n R s rows) {l h m:Nat} (hlh:l<=h) (hh:h<=rows.length) (hm:m=l->h=l):RoN n R ⟨Zb1 s.a l m n,h - l,m - l⟩ ((rows.take h).drop l):=by
 have hwid:Wid n ((rows.take h).drop l):=hr.wid.take.drop;refine ⟨hwid,by simp;omega,λ hne=>?_⟩;have hlt:l<h:=by
  have:0<((rows.take h).drop l).length:=List.length_pos_iff.2 hne;simp at this;omega
 obtain ⟨b,off,ls,T,fr,ha,hb,hl⟩:=hr.mem (λ h0=>by rw [h0] at hh;simp at hh;omega);refine ⟨b,off + l * n,ls,T,fr,?_,hb,λ i v hv=>?_⟩
 ·unfold Zb1
  rw [if_neg (λ e=>by have:=hm e;omega),ha];simp [Zy]
 ·rw [Nat.add_assoc]
  refine hl _ _ ?_;have e1:((rows.take h).drop l).flatten=(rows.flatten.take (h * n)).drop (l * n):=by
   rw [hr.wid.take_flat,hr.wid.take.drop_flat]
  rw [e1,List.getElem?_drop] at hv;rw [List.getElem?_take] at hv;split at hv
  ·exact hv
  ·cases hv
theorem RoN.take {rows:List (List Value)} (hr:RoN n R s rows) {h:Nat} (hh:h<=rows.length) (c:Nat):RoN n R ⟨s.a,h,c⟩ (rows.take h):=
 ⟨hr.wid.take,by simp;omega,λ hne=>by
  obtain ⟨b,off,ls,T,fr,ha,hb,hl⟩:=hr.mem (λ h0=>hne (by rw [h0];simp));refine ⟨b,off,ls,T,fr,ha,hb,λ i v hv=>hl _ _ ?_⟩;rw [<-hr.wid.take_flat,List.getElem?_take] at hv;split at hv
  ·exact hv
  ·cases hv⟩
def ZyL (P:Program) (T:TypeId) (n bytes:Nat):Bool:=
 match P.info? T with
 |some i=>match i.zero with
  |some z=>i.size==n && i.bytes==bytes && z.cells.size==n
  |none=>false
 |none=>false
structure ElN (P:Program) (t1 t2 T:TypeId) (n bytes:Nat):Prop where
 ht:P.underlying t1=some (.slice T)
 hk:∃ e',P.underlying t2=some (.slice e')
 hi:ZyL P T n bytes=true
theorem ZjX {P:Program} {T:TypeId} {n bytes:Nat} (h:ZyL P T n bytes=true):∃ i z,P.info? T=some i/\i.zero=some z/\i.size=n/\i.bytes=bytes/\z.cells.size=n:=by
 unfold ZyL at h;split at h
 ·rename_i i hi
  split at h
  ·rename_i z hz
   simp only [Bool.and_eq_true,beq_iff_eq] at h;exact ⟨i,z,hi,hz,h.1.1,h.1.2,h.2⟩
  ·cases h
 ·cases h
theorem Za1 {t1 t2 ty:TypeId} {bytes:Nat} (E:ElN P t1 t2 T n bytes) {rows ys:List (List Value)} {src:Value} {K:Sl->World->Prop}
  (hw:Sat R (Zt n s T rows::Hs) w) (hs:Src P n t2 src ys.length ys.flatten w) (hy:Wid n ys) (hb:2 * (rows.length + ys.length) * bytes<=281474976710656) (hb':rows.length + ys.length<=9223372036854775807)
  (k:∀ s' w',Sat R (Zt n s' T (rows++ys)::Hs) w'->K s' w'):
  ∃ w',∃ t:Sl,(Builtin.append_ #[t1,t2] ty #[.slice s.a s.len s.cap,src]).run P w=.ok (.slice t.a t.len t.cap) w'/\K t w':=by
 obtain ⟨i,z,hi,hz,hsize,hbytes,hzc⟩:=ZjX E.hi;have hs':Src P i.size t2 src ys.length ys.flatten w:=by rw [hsize];exact hs
 have hlen:=Zt.len hw;have hwid:=Zt.wid hw;have hwid2:=hwid.app hy;generalize hcn:ys.length=c at *;have fit:∀ cap,cap<rows.length + c->Builtin.nextslicecap (rows.length + c) cap * i.bytes<=281474976710656:=λ cap hc=>by
  have h2:Builtin.nextslicecap (rows.length + c) cap<=2 * (rows.length + c):=by
   unfold Builtin.nextslicecap;split
   ·omega
   ·split
    ·omega
    ·have:=nextslicecap_le_wide hc
     unfold Builtin.nextslicecap at this;rw [if_neg (by assumption),if_neg (by assumption)] at this;omega
  rw [hbytes];exact Nat.le_trans (Nat.mul_le_mul_right _ h2) hb
 -- a new row
 have grow:∀ (base:Option Addr) (cap:Nat),cap<rows.length + c->(Builtin.firstCells i.size rows.length (.slice base rows.length cap)).run P w.drew=.ok rows.flatten.toArray w.drew->Sat R Hs w->
   ∃ w',∃ t:Sl,(Builtin.append_ #[t1,t2] ty #[.slice base rows.length cap,src]).run P w=.ok (.slice t.a t.len t.cap) w'/\K t w':=λ base cap hc hold hw=>by
  have hr:=run_append_grow_src w t1 t2 ty T i z E.ht hi hz base rows.length cap rows.flatten hold src c ys.flatten hs' hc (by omega) (fit cap hc);refine ⟨_,⟨some ⟨w.heap.size,0,none⟩,rows.length + c,grownCap w (rows.length + c) cap T⟩,hr,k _ _ ?_⟩;have hz0:(Builtin.zeroCells z.cells (grownCap w (rows.length + c) cap T - (rows.length + c))).size=(grownCap w (rows.length + c) cap T - (rows.length + c)) * n:=by
   simp [Builtin.zeroCells,hzc]
  have hg:=grownCap_ge w (rows.length + c) cap T;generalize hG:grownCap w (rows.length + c) cap T=G at *;have ho':Obj.cells ((rows.flatten++ys.flatten).toArray++Builtin.zeroCells z.cells (G - (rows.length + c))) T=.cells ((rows++ys).flatten++(Builtin.zeroCells z.cells (G - (rows.length + c))).toList).toArray T (0,0):=by
   congr 1
   apply Array.ext';simp
  have:=Sat.alloc (Obj.cells ((rows.flatten++ys.flatten).toArray++Builtin.zeroCells z.cells (G - (rows.length + c))) T) (Sat.drew hw);rw [ho'] at this ⊢;have hlenG:((rows++ys).flatten++(Builtin.zeroCells z.cells (G - (rows.length + c))).toList).length=G * n:=by
   have hz1:(Builtin.zeroCells z.cells (G - (rows.length + c))).toList.length=(G - (rows.length + c)) * n:=by rw [Array.length_toList];exact hz0
   rw [List.length_append,hz1,hwid2.len,List.length_append,hcn,<-Nat.add_mul]
   congr 1;omega
  have h3:=Zt.of_pts (cap:=G) hwid2 hlenG this;have e:(⟨some ⟨w.drew.heap.size,0,none⟩,(rows++ys).length,G⟩:Sl)=⟨some ⟨w.heap.size,0,none⟩,rows.length + c,G⟩:=by
   simp only [List.length_append,World.size_drew,hcn]
  rw [e] at h3;exact h3
 obtain ⟨_,⟨rfl,rfl,hz2⟩|⟨b,rest,fr,cap,rfl,hl,hfr,hp⟩⟩:=Zt.cases hw
 ·by_cases hn0:c=0
  ·subst hn0
   have hy0:ys=[]:=List.length_eq_zero_iff.1 hcn;subst hy0;obtain ⟨e',he'⟩:=E.hk;refine ⟨w,⟨none,0,0⟩,?_,k _ _ (by simpa using Zt.nil hz2)⟩;have hcz:=hs'.cells;simp [Builtin.append_,run_underlying E.ht,run_underlying he',sizeOf,typeInfo,hi,hs'.len,hcz]
  ·exact grow none 0 (by simp;omega) (run_firstCells_none w.drew i.size 0 0 0) hz2
 ·have hl0:=hl
  rw [List.length_append,hwid.len] at hl;by_cases hroom:rows.length + c<=cap
  ·have hat:=hp.at
   have hcapn:(rows.length + c) * n<=cap * n:=Nat.mul_le_mul_right _ hroom;rw [Nat.add_mul] at hcapn;have hyl:ys.flatten.length=c * n:=by rw [hy.len,hcn]
   have hr:=run_append_room_src w t1 t2 ty T i E.ht hi b 0 rows.length cap src c ys.flatten hs' hroom
    (λ j hj=>by
     rw [Zau hat,hsize,List.getElem?_eq_getElem (by rw [hl0];omega)];rfl) (λ j hj=>Zct hat hfr (by rw [hsize];omega))
   refine ⟨_,⟨some ⟨b,0,none⟩,rows.length + c,cap⟩,hr,k _ _ ?_⟩;have h2:=ZaG ys.flatten (rows.flatten++rest) (rows.length * n) w hp;have e1:Zei (rows.flatten++rest) (rows.length * n) ys.flatten=(rows++ys).flatten++rest.drop (c * n):=by
    rw [ZeB _ _ _ (by rw [hyl,hl0];omega),List.take_left' hwid.len,hyl,<-List.drop_drop,List.drop_left' hwid.len];simp
   rw [e1] at h2;rw [hsize,Nat.zero_add];have h3:=Zt.of_pts (cap:=cap) hwid2 (by rw [List.length_append,hwid2.len,List.length_append,hcn,List.length_drop,Nat.add_mul];omega) h2;rw [List.length_append,hcn] at h3;exact h3
  ·have hat:=hp.at
   refine grow (some ⟨b,0,none⟩) cap (by omega) ?_ hp.drop;refine run_firstCells_some w.drew i.size rows.length ⟨b,0,none⟩ rows.length _ rows.flatten (by rw [hsize,hwid.len]) ?_;intro j u hj;rw [World.cell?_drew,Zy,Zau hat,Nat.zero_add];obtain ⟨hlt,rfl⟩:=List.getElem?_eq_some_iff.1 hj;simp [List.getElem?_append_left hlt]
theorem Zfq {t2:TypeId} (hk:∃ e',P.underlying t2=some (.slice e')) {b:Nat} {x:List Value} {fr:Nat × Nat} (c:Nat)
  (hw:Sat R Hs w) [t:ZdO b Hs (.cells x.toArray T fr) Rest] (hx:x.length=n) (h1:ZaS x=true):Src P n t2 (.slice (some ⟨b,0,none⟩) 1 c) [x].length [x].flatten w:=by
 obtain ⟨e',he'⟩:=hk;refine Go.Src.ofSlice w he' _ 1 c _ (by simp [hx]) ?_ ?_
 ·intro j u hj
  have:=hw.look b;rw [Zy,Zau this];simpa using hj
 ·intro u hu;simp at hu;exact List.all_eq_true.1 h1 u hu
theorem Zug {t2:TypeId} (ht:∃ e',P.underlying t2=some (.slice e')) {rows:List (List Value)} (hw:Sat R Hs w) (hs:RoN n R s rows) (h1:ZaS rows.flatten=true):Src P n t2 (.slice s.a s.len s.cap) rows.length rows.flatten w:=by
 obtain ⟨e',ht⟩:=ht;have hl:s.len=rows.length:=hs.len;by_cases hx:rows=[]
 ·subst hx
  obtain ⟨a,n,c⟩:=s;simp only [List.length_nil] at hl;subst hl;cases a with
  |none=>exact Go.Src.ofNil _ ht _
  |some a=>exact Go.Src.ofSlice w ht _ 0 _ [] (by simp) (λ j u hj=>by simp at hj) (λ u hu=>by cases hu)
 ·obtain ⟨b,off,l,T,fr,ha,hb,hel⟩:=hs.mem hx
  obtain ⟨a,n,c⟩:=s;simp only at ha hl;subst ha hl;refine Go.Src.ofSlice w ht _ _ _ _ (by rw [hs.wid.len]) (λ j u hj=>?_) (λ u hu=>List.all_eq_true.1 h1 u hu);rw [Zy];have:=hw.of_ro hb;simp only [World.cell?,this,Option.isSome_none,Bool.false_eq_true,if_false];exact hel j u hj
theorem ZfG {t1 t2 ty T':TypeId} {bytes:Nat} (E:ElN P t1 t2 T n bytes) {rows:List (List Value)} {x:List Value} {K:Sl->World->Prop}
  (hw:Sat R (Zt n s T rows::Hs) w) (hx:x.length=n) (h1:ZaS x=true) (hb:2 * (rows.length + 1) * bytes<=281474976710656) (hb':rows.length + 1<=9223372036854775807)
  (k:∀ s' w',Sat R (Zt n s' T (rows++[x])::Hs) w'->K s' w'):
  New (.cells x.toArray T' (0,0)) (λ b w=>∃ w',∃ t:Sl,(Builtin.append_ #[t1,t2] ty #[.slice s.a s.len s.cap,.slice (some ⟨b,0,none⟩) 1 1]).run P w=.ok (.slice t.a t.len t.cap) w'/\K t w') w:=by
 refine Zb hw λ b w hw=>?_;have hw:Sat R (pts b (.cells x.toArray T' (0,0))::Zt n s T rows::Hs) w:=hw;exact Za1 E hw.swap (Zfq E.hk 1 hw hx h1) (Wid.one hx) hb hb' λ s' w' h=>k s' w' h.swap.drop
theorem Zt.empty {b:Nat} {fr:Nat × Nat} (h:Sat R (pts b (.cells #[] T fr)::Hs) w):Sat R (Zt n ⟨some ⟨b,0,none⟩,0,0⟩ T []::Hs) w:=
 Zt.of_pts (rows:=[]) (rest:=[]) (cap:=0) Wid.nil (by simp) h (.inr (by simp))
theorem Zkf {t1 t2 ty:TypeId} {bytes b:Nat} {fr:Nat × Nat} (E:ElN P t1 t2 T n bytes) {ys:List (List Value)} {src:Value} {K:Sl->World->Prop}
  (hw:Sat R Hs w) [tk:ZdO b Hs (.cells ([]:List Value).toArray T fr) Rest] (hs:Src P n t2 src ys.length ys.flatten w) (hy:Wid n ys) (hb:2 * ys.length * bytes<=281474976710656) (hb':ys.length<=9223372036854775807)
  (k:∀ s' w',Sat R (Zt n s' T ys::Rest) w'->K s' w'):
  ∃ w',∃ t:Sl,(Builtin.append_ #[t1,t2] ty #[.slice (some ⟨b,0,none⟩) 0 0,src]).run P w=.ok (.slice t.a t.len t.cap) w'/\K t w':=by
 have h2:=Za1 (ty:=ty) (s:=⟨some ⟨b,0,none⟩,0,0⟩) (K:=K) E (Zt.empty (hw.takeP tk)) hs hy (by simpa using hb) (by simpa using hb') (by simpa using k);exact h2
structure Elt (n:Nat) (S:World->Prop) (a:Addr) (k:Nat) (row:List Value):Prop where
 f:∀ (j:Nat) {vs:List Value},Pre vs (row.drop j)->At S ⟨(Addr.add a (Za6 (k:Int).toNat n)).block,(Addr.add a (Za6 (k:Int).toNat n)).off + j,none⟩ vs
 z:∀ {vs:List Value},Pre vs row->At S (Addr.add a (Za6 (k:Int).toNat n)) vs
 zz:∀ {vs:List Value},Pre vs row->At S (Addr.add (Addr.add a (Za6 (k:Int).toNat n)) 0) vs
theorem Zo5 (b off k n:Nat):Addr.add (Addr.add ⟨b,off,none⟩ (Za6 k n)) 0=⟨b,off + (k * n + 0),none⟩:=by
 rw [ZhF,Zy];rfl
theorem Zgl.rngM {α:Type} {E:List α} {g:α->List Value} {S:World->Prop} (h:Zgl n s (E.map g) S) {k:Nat} (hk:k<E.length) {F:Addr->Prop} (f:∀ a,s.a=some a->Elt n S a k (g E[k])->F a):Rng (k:Int) s.len (Zc s.a F):=by
 have hg:(E.map g)[k]'(by simpa using hk)=g E[k]:=by simp
 refine h.rng (k:=k) (by simpa using hk) λ b off ha hat=>f _ ha ⟨λ j vs hp=>?_,λ hp=>?_,λ hp=>?_⟩
 ·rw [Int.toNat_natCast,ZnL];exact hat j _ (by rw [hg];exact hp)
 ·rw [Int.toNat_natCast,ZhF];exact hat 0 _ (by rw [hg];exact hp)
 ·rw [Int.toNat_natCast,Zo5];exact hat 0 _ (by rw [hg];exact hp)
theorem Zt.readsM {rows:List (List Value)} (hw:Sat R Hs w) [t:Zkk (Zt n s T rows) Hs Rest] {S:World->Prop} (hS:∀ w,S w->Sat R Hs w):Zgl n s rows S:=
 Zt.reads (hw.perm t.perm) λ w h=>(hS w h).perm t.perm
class Arr (Hs Hs':List HP):Prop where
 perm:Hs.Perm Hs'
instance (priority:=2000) Arr.refl {Hs:List HP}:Arr Hs Hs:=⟨List.Perm.refl _⟩
instance Arr.cons {A:HP} {Hs Rest Hs':List HP} [t:Zkk A Hs Rest] [r:Arr Rest Hs']:Arr Hs (A::Hs'):=⟨t.perm.trans (r.perm.cons A)⟩
theorem Sat.arr {Hs':List HP} (h:Sat R Hs w) [a:Arr Hs Hs']:Sat R Hs' w:=h.perm a.perm
theorem Br.d {p:Prop} {inst:Decidable p} {A B:Prop} (h:p->A) (h':¬ p->B):Br (@decide p inst) A B:=Br.mk (λ e=>h (of_decide_eq_true e)) (λ e=>h' (of_decide_eq_false e))
theorem Br.nd {p:Prop} {inst:Decidable p} {A B:Prop} (h:¬ p->A) (h':p->B):Br (!@decide p inst) A B:=Br.mk (λ e=>h (by simpa using e)) (λ e=>h' (by simpa using e))
theorem Br.e {x y:Int} {A B:Prop} (h:x=y->A) (h':¬ x=y->B):Br (x==y) A B:=Br.mk (λ e=>h (by simpa using e)) (λ e=>h' (by simpa using e))
theorem Br.ne {x y:Int} {A B:Prop} (h:¬ x=y->A) (h':x=y->B):Br (x !=y) A B:=Br.mk (λ e=>h (by simpa using e)) (λ e=>h' (by simpa using e))
theorem Br.nb {b:Bool} {A B:Prop} (h:b=false->A) (h':b=true->B):Br (!b) A B:=Br.mk (λ e=>h (by simpa using e)) (λ e=>h' (by simpa using e))
theorem ZpR (a b:ByteArray):(a.toList==b.toList)=decide (a=b):=by
 rw [ByteArray.toList_eq,ByteArray.toList_eq];by_cases h:a=b
 ·simp [h]
 ·have:a.data≠b.data:=λ h2=>h (by cases a;cases b;simp_all)
  simp [h,this]
theorem Br.sne {x y:ByteArray} {A B:Prop} (h:¬ x=y->A) (h':x=y->B):Br (!(x.toList==y.toList)) A B:=by rw [ZpR];exact Br.nd h h'
end
theorem Zkn {x:Int} (h0:0<=x) (h1:x<256):IntKind.u8.wrap x=x:=by rw [IntKind.wrap_u8'];omega
theorem ZuN (x:Int):IntKind.u8.wrap x=x % 256:=IntKind.wrap_u8' x
theorem ZK {x:Int} (h0:0<=x) (h1:x<18446744073709551616):IntKind.u64.wrap x=x:=by rw [IntKind.wrap_u64];omega
theorem Zed (n x:Nat) (h:x<2 ^ n):(BitVec.ofInt n (x:Int)).toNat=x:=by
 rw [BitVec.toNat_ofInt];have:((x:Int) % (2 ^ n:Nat))=x:=Int.emod_eq_of_lt (by omega) (by exact_mod_cast h);rw [this];rfl
theorem Zyu {x y:Nat} (hx:x<18446744073709551616) (hy:y<18446744073709551616):Zfo .or .u64 x y=((x|||y:Nat):Int):=by
 have e:(BitVec.ofInt 64 (x:Int)|||BitVec.ofInt 64 (y:Int)).toNat=x|||y:=by rw [BitVec.toNat_or,Zed 64 x hx,Zed 64 y hy]
 show IntKind.u64.wrap (((BitVec.ofInt 64 (x:Int)|||BitVec.ofInt 64 (y:Int)).toNat:Nat):Int)=_;rw [e];have:x|||y<18446744073709551616:=Nat.or_lt_two_pow (n:=64) hx hy
 exact ZK (by omega) (by omega)
theorem ZuG {x y:Nat} (hx:x<18446744073709551616) (hy:y<18446744073709551616):Zfo .and .u64 x y=((x &&& y:Nat):Int):=by
 have e:(BitVec.ofInt 64 (x:Int) &&& BitVec.ofInt 64 (y:Int)).toNat=x &&& y:=by rw [BitVec.toNat_and,Zed 64 x hx,Zed 64 y hy]
 show IntKind.u64.wrap (((BitVec.ofInt 64 (x:Int) &&& BitVec.ofInt 64 (y:Int)).toNat:Nat):Int)=_;rw [e];have:x &&& y<18446744073709551616:=Nat.and_lt_two_pow (n:=64) x hy;exact ZK (by omega) (by omega)
theorem Zvh (x y:Nat) (hy:y<256):x * 256|||y=x * 256 + y:=by
 have:=Nat.two_pow_add_eq_or_of_lt (i:=8) (b:=y) (by omega) x;rw [Nat.mul_comm] at this;exact this.symm
section
variable {P:Program} {R:Cx} {Hs Rest:List HP} {w:World} {s:Sl}
structure SlR (h:ZU) (s:Sl) (xs:List Value):Prop where
 len:s.len=xs.length
 cap:s.len<=s.cap
 mem:xs≠[]->∃ b off l T fr,s.a=some ⟨b,off,none⟩/\h b=some (.cells l T fr)/\∀ (i:Nat) v,xs[i]? =some v->l[off + i]? =some v
def ZA (s:Sl) (xs:List Value):HP:=λ h=>SlR h s xs
theorem SlR.addR {h h':ZU} {xs:List Value} (hd:h'.dis h) (a:SlR h s xs):SlR (h'.add h) s xs:=
 ⟨a.len,a.cap,λ hx=>let ⟨b,off,l,T,fr,ha,hb,hl⟩:=a.mem hx;⟨b,off,l,T,fr,ha,by
  simp only [ZU.add,hd b (by rw [hb];simp)];exact hb,hl⟩⟩
theorem SlR.ro {xs:List Value} (a:SlR R.m s xs) (hb:xs.length<=9223372036854775807):Ro R s xs:=
 ⟨a.len,hb,a.mem⟩
theorem SlR.take {h:ZU} {xs:List Value} (a:SlR h s xs) {k:Nat} (hk:k<=xs.length):SlR h ⟨s.a,k,s.cap⟩ (xs.take k):=
 ⟨by simp;omega,by have:=a.len;have:=a.cap;simp only;omega,λ hx=>by
  obtain ⟨b,off,l,T,fr,ha,hb,hl⟩:=a.mem (λ h0=>hx (by rw [h0];simp));refine ⟨b,off,l,T,fr,ha,hb,λ i v hv=>hl i v ?_⟩;rw [List.getElem?_take] at hv;split at hv
  ·exact hv
  ·cases hv⟩
theorem SlR.drop {h:ZU} {xs:List Value} (a:SlR h s xs) {k:Nat} (hk:k<=xs.length):SlR h ⟨Zb1 s.a k s.cap 1,s.len - k,s.cap - k⟩ (xs.drop k):=by
 have hlen:=a.len;have hcap:=a.cap;refine ⟨by simp;omega,by simp only;omega,λ hx=>?_⟩;obtain ⟨b,off,l,T,fr,ha,hb,hl⟩:=a.mem (λ h0=>hx (by rw [h0];simp));have hlt:0<(xs.drop k).length:=List.length_pos_iff.2 hx;rw [List.length_drop] at hlt;refine ⟨b,off + k,l,T,fr,?_,hb,λ i v hv=>?_⟩
 ·unfold Zb1
  rw [if_neg (by omega),ha];simp [Zy]
 ·rw [List.getElem?_drop] at hv
  rw [Nat.add_assoc];exact hl _ _ hv
theorem ZA.lend {xs:List Value} (h:Sat R (ZA s xs::Hs) w):∃ x:ZU,R.dis x/\SlR (R.add x).m s xs/\Sat (R.add x) Hs w/\SlR x s xs:=by
 obtain ⟨x,hx,hd,hs⟩:=h;exact ⟨x,hd,SlR.addR hd hx,hs,hx⟩
theorem ZA.back {xs:List Value} {x:ZU} (hd:R.dis x) (hx:SlR x s xs) (h:Sat (R.add x) Hs w):Sat R (ZA s xs::Hs) w:=⟨x,hx,hd,h⟩
theorem Own.reads {T:TypeId} {xs:List Value} (h:Sat R (Own s T xs::Hs) w):Sat R (ZA s xs::Hs) w:=by
 rcases Own.cases h with ⟨rfl,rfl,h2⟩|⟨b,rest,fr,rfl,hf,h2⟩
 ·exact ⟨ZU.none,⟨rfl,Nat.le_refl _,λ h=>absurd rfl h⟩,λ i hi=>absurd rfl hi,by rw [Cx.add_none];exact h2⟩
 ·obtain ⟨a,ha,hd,hs⟩:=h2
  refine ⟨a,⟨rfl,by simp,λ _=>⟨b,0,(xs++rest).toArray,T,fr,rfl,by rw [ha];simp [ZU.one],λ i v hv=>?_⟩⟩,hd,hs⟩;obtain ⟨hi,rfl⟩:=List.getElem?_eq_some_iff.1 hv;simp [List.getElem?_append_left hi]
theorem SlR.idxK {kd:IntKind} {xs:List Int} {S:World->Prop} (hr:SlR R.m s (xs.map (Value.int kd))) (hS:∀ w,S w->Sat R Hs w) {k:Nat} (hk:k<xs.length) {F:Int->Prop} (h:F xs[k]):
  Rng (k:Int) s.len (Zc s.a λ a=>∃ t:Int,(At S (a.add (k:Int).toNat) [.int kd t])/\F t):=by
 have hl:s.len=xs.length:=by have:=hr.len;simpa using this
 obtain ⟨b,off,l,T,fr,ha,hb,hel⟩:=hr.mem (by intro h0;rw [List.map_eq_nil_iff] at h0;rw [h0] at hk;simp at hk);refine Rng.mk (by omega) (by omega) (Zc.mk ha ⟨xs[k],λ w hw i v hv=>?_,h⟩);have hi:i=0:=by
  cases i with
  |zero=>rfl
  |succ i=>simp at hv
 subst hi;simp only [List.getElem?_cons_zero,Option.some.injEq] at hv;subst hv;rw [Int.toNat_natCast,Zy,Zy];have:=(hS w hw).of_ro hb;simp only [World.cell?,this,Option.isSome_none,Bool.false_eq_true,if_false];exact hel k _ (by simp [hk])
end
end Go.VC
namespace Go.Proofs.YtfgbbckfikiomaaGreatDoor
section
open Go Go.VC Tryz
variable {R:Cx} {Hs Rest:List HP} {w:World}
theorem _root_.Go.VC.Sat.re {A:HP} (B:HP) (h:Sat R (A::Hs) w) (e:A=B:=by rfl):Sat R (B::Hs) w:=e ▸ h
abbrev b8 (l:List Int):List Value:=l.map (Value.int .u8)
theorem ZrD:El prog 42 42 5 1:=⟨underlying42,⟨_,underlying42⟩,by kernel_rfl⟩
theorem Znm (xs:List Int):ZaS (b8 xs)=true:=by unfold ZaS;simp [Value.oneCell']
theorem ZiT {s:Sl} {xs:List Int} (hs:Ro R s (b8 xs)) (hl:xs.length<=1099511627776) (hw:Sat R Hs w):
  Zm prog 146 #[.slice s.a s.len s.cap] w λ r w'=>∃ t:Sl,r=.slice t.a t.len t.cap/\Sat R (Own t 5 (b8 xs)::Hs) w':=by
 apply ZxB;refine Br.mk (λ h=>?_) (λ h=>?_)
 ·have hx:xs=[]:=by
   by_cases hx:b8 xs=[]
   ·simpa using hx
   ·obtain ⟨b,off,_,_,_,ha,_⟩:=hs.mem hx
    rw [ha] at h;cases h
  subst hx;exact ⟨⟨none,0,0⟩,rfl,Own.nil hw⟩
 ·refine Zb hw λ b w hw=>?_
  have h0:Sat R (Own ⟨some ⟨b,0,none⟩,0,0⟩ 5 []::Hs) w:=Own.of_pts (xs:=[]) (rest:=[]) hw;have hsrc:Src prog 1 42 (.slice s.a s.len s.cap) xs.length (b8 xs) w:=by
   have:=ZuV underlying42 h0 hs (Znm xs);simpa using this
  have:=Zcw (ty:=42) (K:=λ t w'=>∃ u:Sl,Value.slice t.a t.len t.cap=.slice u.a u.len u.cap/\Sat R (Own u 5 (b8 xs)::Hs) w') ZrD h0 hsrc rfl (by simp;omega) (by simp;omega) λ t w hw=>⟨t,rfl,by simpa using hw⟩;exact this
end
end Go.Proofs.YtfgbbckfikiomaaGreatDoor
namespace Go.VC
def dig (n:Nat):List Int:=if h:n=0 then [] else dig (n / 256)++[((n % 256:Nat):Int)]
termination_by n
decreasing_by omega
theorem ZbB:dig 0=[]:=by unfold dig;simp
theorem Zdh {n:Nat} (h:n≠0):dig n=dig (n / 256)++[((n % 256:Nat):Int)]:=by
 conv=>lhs;unfold dig
 rw [dif_neg h]
def ZhR (acc:Int) (l:List Int):Int:=l.foldl (λ a b=>a * 256 + b) acc
theorem Zkp (acc b:Int) (l:List Int):ZhR acc (b::l)=ZhR (acc * 256 + b) l:=rfl
theorem ZsL (acc:Int) (a b:List Int):ZhR acc (a++b)=ZhR (ZhR acc a) b:=List.foldl_append
theorem ZeQ (acc:Int) (a:List Int) (b:Int):ZhR acc (a++[b])=ZhR acc a * 256 + b:=by rw [ZsL];rfl
theorem Zi1:∀ {l:List Int} {acc:Int},0<=acc->(∀ x∈l,0<=x/\x<256)->0<=ZhR acc l
 |[],_,h,_=>h
 |b::l,acc,h,hb=>by
  rw [Zkp];have:=hb b List.mem_cons_self;exact Zi1 (by omega) λ x hx=>hb x (List.mem_cons_of_mem _ hx)
theorem Zi2:∀ {l:List Int} {acc:Int},0<=acc->(∀ x∈l,0<=x/\x<256)->ZhR acc l<(acc + 1) * 256 ^ l.length
 |[],acc,h,_=>by simp [ZhR];omega
 |b::l,acc,h,hb=>by
  rw [Zkp];have h1:=hb b List.mem_cons_self;have:=Zi2 (l:=l) (acc:=acc * 256 + b) (by omega) λ x hx=>hb x (List.mem_cons_of_mem _ hx);refine Int.lt_of_lt_of_le this ?_;rw [List.length_cons,Int.pow_succ,Int.mul_comm (256 ^ l.length) 256,<-Int.mul_assoc];exact Int.mul_le_mul_of_nonneg_right (by omega) (Int.le_of_lt (Int.pow_pos (by decide)))
theorem ZvX (n:Nat):ZhR 0 (dig n)=n:=by
 induction n using Nat.strongRecOn with
 |ind n ih=>
  by_cases h:n=0
  ·subst h;rw [ZbB];rfl
  ·rw [Zdh h,ZeQ,ih (n / 256) (by omega)];omega
theorem ZyM (n:Nat):∀ x∈dig n,0<=x/\x<256:=by
 induction n using Nat.strongRecOn with
 |ind n ih=>
  by_cases h:n=0
  ·subst h;rw [ZbB];intro x hx;cases hx
  ·rw [Zdh h]
   intro x hx;rcases List.mem_append.1 hx with hx|hx
   ·exact ih (n / 256) (by omega) x hx
   ·simp at hx;omega
theorem ZtQ (n:Nat):∀ x l,dig n=x::l->x≠0:=by
 induction n using Nat.strongRecOn with
 |ind n ih=>
  intro x l hx;by_cases h:n=0
  ·subst h;rw [ZbB] at hx;cases hx
  ·rw [Zdh h] at hx
   by_cases h2:n / 256=0
   ·rw [h2,ZbB] at hx
    simp at hx;omega
   ·cases hd:dig (n / 256) with
    |nil=>rw [Zdh h2] at hd;simp at hd
    |cons y l'=>
     rw [hd] at hx;simp at hx;obtain ⟨rfl,_⟩:=hx;exact ih (n / 256) (by omega) _ _ hd
theorem ZiP:∀ (k n:Nat),n<256 ^ k->(dig n).length<=k
 |0,n,h=>by
  have:n=0:=by simpa using h
  subst this;rw [ZbB];simp
 |k + 1,n,h=>by
  by_cases h0:n=0
  ·subst h0;rw [ZbB];simp
  ·rw [Zdh h0,List.length_append]
   have:=ZiP k (n / 256) (by rw [Nat.pow_succ] at h;exact Nat.div_lt_of_lt_mul (by rwa [Nat.mul_comm] at h));simp;omega
theorem Zfh {n:Nat} (h:n<18446744073709551616):(dig n).length<=8:=ZiP 8 n (by simpa using h)
theorem ZrF (n:Nat) (h:n<18446744073709551616):(Lib.bitLen n + 7) / 8=(dig n).length:=by
 induction n using Nat.strongRecOn with
 |ind n ih=>
  by_cases h0:n=0
  ·subst h0;rw [ZbB];decide
  ·rw [Zdh h0,List.length_append]
   by_cases h1:256<=n
   ·rw [Lib.bitLen_shift8 n h1 h,<-ih (n / 256) (by omega) (by omega)]
    simp;omega
   ·have e:n / 256=0:=by omega
    rw [e,ZbB];have h2:∀ m:Fin 256,m.val≠0->(Lib.bitLen m.val + 7) / 8=1:=by decide +kernel
    simpa using h2 ⟨n,by omega⟩ h0
theorem ZnM:∀ (k n:Nat),k<=(dig n).length->(dig n).take ((dig n).length - k)=dig (n / 256 ^ k)
 |0,n,_=>by simp
 |k + 1,n,h=>by
  by_cases h0:n=0
  ·subst h0;rw [ZbB] at h;simp at h
  ·rw [Zdh h0] at h ⊢
   rw [List.length_append] at h ⊢;simp only [List.length_cons,List.length_nil] at h ⊢;have e:(dig (n / 256)).length + (0 + 1) - (k + 1)=(dig (n / 256)).length - k:=by omega
   rw [e,List.take_append_of_le_length (by omega),ZnM k (n / 256) (by omega),Nat.div_div_eq_div_mul,Nat.pow_succ,Nat.mul_comm 256]
theorem ZvY {n k:Nat} (h:k<(dig n).length):(dig n)[(dig n).length - 1 - k]'(by omega)=((n / 256 ^ k % 256:Nat):Int):=by
 have h1:=ZnM k n (by omega);have hn:n / 256 ^ k≠0:=by
  intro h0;rw [h0,ZbB] at h1;have:=congrArg List.length h1;simp at this;omega
 rw [Zdh hn] at h1;have h2:((dig n).take ((dig n).length - k)).getLast? =some ((n / 256 ^ k % 256:Nat):Int):=by rw [h1];simp
 rw [List.getLast?_eq_getElem?,List.length_take,Nat.min_eq_left (by omega),List.getElem?_take] at h2;split at h2
 ·rw [List.getElem?_eq_some_iff] at h2
  obtain ⟨h3,h4⟩:=h2;have e:(dig n).length - 1 - k=(dig n).length - k - 1:=by omega
  simp only [e];exact h4
 ·cases h2
def ZeP (n:Nat):List Int:=((dig n).length:Int)::dig n
def ZcQ (b:List Int):List Int:=ZeP b.length++b
theorem Zmh {n:Nat} (h:n<18446744073709551616):∀ x∈ZeP n,0<=x/\x<256:=by
 intro x hx;rcases List.mem_cons.1 hx with rfl|hx
 ·have:=Zfh h;omega
 ·exact ZyM n x hx
theorem Zbw {n:Nat} (h:n<18446744073709551616):(ZeP n).length<=9:=by
 have:=Zfh h;unfold ZeP;simp;omega
def Za3 (l:List Int):Option (Int × Bool × Nat):=
 match l with
 |[]=>none
 |k::rest=>
  let neg:=decide (16<=k)
  let w:=(if 16<=k then k - 16 else k).toNat
  if k<32/\w<=8/\w<=rest.length/\(w=0->k=0)/\(w≠0->rest.head?≠some 0) then some (ZhR 0 (rest.take w),neg,w + 1) else none
theorem Zk7 {n:Nat} (h:n<18446744073709551616) (rest:List Int):Za3 (ZeP n++rest)=some ((n:Int),false,(ZeP n).length):=by
 have h8:=Zfh h;unfold Za3 ZeP;simp only [List.cons_append];have e1:¬ (16:Int)<=((dig n).length:Int):=by omega
 rw [if_neg e1];rw [if_pos]
 ·simp only [Int.toNat_natCast,List.take_left',ZvX,List.length_cons,Option.some.injEq,Prod.mk.injEq,and_true,true_and]
  simpa using e1
 ·refine ⟨by omega,by omega,by simp,λ h0=>by omega,λ h0=>?_⟩
  simp only [Int.toNat_natCast] at h0;cases hd:dig n with
  |nil=>rw [hd] at h0;simp at h0
  |cons x l=>
   have:=ZtQ n x l hd;simp;exact this
theorem Zd1 {l:List Int} {n:Int} {neg:Bool} {k:Nat} (hb:∀ x∈l,0<=x/\x<256) (h:Za3 l=some (n,neg,k)):0<=n/\n<18446744073709551616/\1<=k/\k<=9/\k<=l.length:=by
 unfold Za3 at h;split at h
 ·cases h
 ·rename_i c rest
  simp only at h;generalize hw:(if 16<=c then c - 16 else c).toNat=w at h
  split at h
  ·rename_i hc
   obtain ⟨_,h8,hr,_,_⟩:=hc;simp only [Option.some.injEq,Prod.mk.injEq] at h;obtain ⟨rfl,_,rfl⟩:=h;have hb2:∀ x∈rest.take w,0<=x/\x<256:=λ x hx=>hb x (List.mem_cons_of_mem _ (List.mem_of_mem_take hx));refine ⟨Zi1 (Int.le_refl _) hb2,?_,by omega,by omega,by simp;omega⟩;refine Int.lt_of_lt_of_le (Zi2 (Int.le_refl _) hb2) ?_;rw [List.length_take,Nat.min_eq_left hr,Int.zero_add,Int.one_mul];have h9:256 ^ w<=256 ^ 8:=Nat.pow_le_pow_right (by omega) h8;have:((256 ^ w:Nat):Int)<=((256 ^ 8:Nat):Int):=Int.ofNat_le.2 h9;rw [Int.natCast_pow] at this;exact Int.le_trans this (by decide)
  ·cases h
structure Rd where
 bs:List Int
 bad:Bool
def Ze (most:Int) (r:Rd):Int × Rd:=
 if r.bad then (0,r) else match Za3 r.bs with
 |some (n,neg,k)=>if neg=false/\n<=most then (n,⟨r.bs.drop k,false⟩) else (0,⟨r.bs,true⟩)
 |none=>(0,⟨r.bs,true⟩)
def ZP (most:Int) (r:Rd):List Int × Rd:=
 if r.bad then ([],r) else match Za3 r.bs with
 |some (n,neg,k)=>if neg=false/\0<=most/\n<=most/\n<=((r.bs.length:Int) - k) then (((r.bs.drop k).take n.toNat),⟨r.bs.drop (k + n.toNat),false⟩) else ([],⟨r.bs,true⟩)
 |none=>([],⟨r.bs,true⟩)
def Z0 (r:Rd):Bool:=!r.bad && decide (r.bs.length=0)
end Go.VC
namespace Go.Proofs.YtfgbbckfikiomaaGreatDoor
section
open Go Go.VC Tryz
variable {R:Cx} {Hs Rest:List HP} {w:World}
theorem _root_.Go.VC.SlR.mono {h h':ZU} {s:Sl} {xs:List Value} (hs:∀ b o,h b=some o->h' b=some o) (a:SlR h s xs):SlR h' s xs:=
 ⟨a.len,a.cap,λ hx=>let ⟨b,off,l,T,fr,ha,hb,hl⟩:=a.mem hx;⟨b,off,l,T,fr,ha,hs _ _ hb,hl⟩⟩
abbrev Zet:List PanicEntry:=[⟨.iface 246 (.agg #[]),false,false⟩]
theorem ZcF {b:Bool} {Q:Ending->World->Prop} (h1:b=true->Q (.returned (.tuple #[])) w) (h2:b=false->Q (.panicked Zet) w):Calls prog 167 #[.bool b] w Q:=by
 have h:ZaX prog 167 #[.bool b] w (λ ch w'=>b=false/\ch=Zet/\w'=w) (λ v w'=>b=true/\v=.tuple #[]/\w'=w):=by
  apply Zxi;refine Br.nb (λ h=>?_) (λ h=>?_)
  ·exact ⟨h,rfl,rfl⟩
  ·exact ⟨h,rfl,rfl⟩
 refine h.use ?_ ?_
 ·rintro v w' ⟨hb,rfl,e⟩;rw [e];exact h1 hb
 ·rintro v w' ⟨hb,rfl,e⟩;rw [e];exact h2 hb
abbrev lp (l:Nat) (s:Sl):HP:=pts l (.cells [.slice s.a s.len s.cap].toArray 42 (0,0))
abbrev Zb4 (s:Sl) (k:Nat):Sl:=⟨Zb1 s.a k s.cap 1,s.len - k,s.cap - k⟩
theorem ZgR {l:Nat} {s:Sl} {xs:List Value} {k:Nat} (hr:SlR R.m s xs) (hw:Sat R (lp l s::Hs) w):
  ZaX prog 168 #[.pointer (some ⟨l,0,none⟩),.int .i64 k] w
   (λ ch w'=>xs.length<k/\ch=Zet/\Sat R (lp l s::Hs) w')
   (λ v w'=>k<=xs.length/\v=.slice s.a k s.cap/\Sat R (lp l (Zb4 s k)::Hs) w'):=by
 have hlen:=hr.len;have hcap:=hr.cap;apply Zxh;refine Zc.mk rfl ⟨s,oA hw,ZcF (λ h=>.inl ⟨rfl,?_⟩) (λ h=>.inr ⟨_,rfl,?_⟩)⟩
 ·have h:=of_decide_eq_true h
  refine Zc.mk rfl ⟨s,oA hw,by omega,by omega,Zc.mk rfl ⟨s,oA hw,by omega,by omega,Zc.mk rfl ?_⟩⟩;rw [Int.toNat_natCast];refine Za hw (by kernel_rfl) rfl (by simp [Value.cells]) λ w hw=>?_;exact ⟨by omega,rfl,hw⟩
 ·have h:=of_decide_eq_false h
  exact ⟨by omega,rfl,hw⟩
theorem ZzB:∀ c:Fin 32,Zfo .andNot .u8 ((c.1:Nat):Int) 16=if 16<=((c.1:Nat):Int) then ((c.1:Nat):Int) - 16 else ((c.1:Nat):Int):=by decide +kernel
theorem andn {c:Int} (h0:0<=c) (h1:c<32):IntKind.i64.wrap (Zfo .andNot .u8 c 16)=if 16<=c then c - 16 else c:=by
 obtain ⟨n,rfl⟩:=Int.eq_ofNat_of_zero_le h0;have:=ZzB ⟨n,by omega⟩;simp only at this;rw [this];split<;>exact Zh (by omega) (by omega)
theorem ZuW {n t:Int} (h0:0<=n) (h1:n<72057594037927936) (t0:0<=t) (t1:t<256):Zfo .or .u64 (Zuh .u64 n 8) (IntKind.u64.wrap t)=n * 256 + t:=by
 have e:Zuh .u64 n 8=n * 256:=by
  show IntKind.u64.wrap (n * 2 ^ 8)=_;rw [ZK (by omega) (by omega)];omega
 rw [e,ZK t0 (by omega)];obtain ⟨a,rfl⟩:=Int.eq_ofNat_of_zero_le h0;obtain ⟨b,rfl⟩:=Int.eq_ofNat_of_zero_le t0;have:=Zyu (x:=a * 256) (y:=b) (by omega) (by omega);rw [Zvh a b (by omega)] at this;rw [show ((a * 256:Nat):Int)=(a:Int) * 256 from Int.natCast_mul a 256] at this
 rw [this];exact (Int.natCast_add (a * 256) b).trans (by rw [Int.natCast_mul];rfl)
abbrev ZlR (c:Int):Nat:=(if 16<=c then c - 16 else c).toNat
theorem ZiI {h:ZU} {l:Nat} {s:Sl} {bs:List Int} (hb:∀ x∈bs,0<=x/\x<256) (hsub:∀ b o,h b=some o->R.m b=some o) (hr0:SlR h s (b8 bs)) (hw:Sat R (lp l s::Hs) w):
  ZaX prog 166 #[.pointer (some ⟨l,0,none⟩)] w
   (λ ch w'=>Za3 bs=none/\ch=Zet/\∃ s',Sat R (lp l s'::Hs) w')
   (λ v w'=>∃ n neg k s',Za3 bs=some (n,neg,k)/\v=.tuple #[.int .u64 n,.bool neg]/\SlR h s' (b8 (bs.drop k))/\Sat R (lp l s'::Hs) w'):=by
 have hr:SlR R.m s (b8 bs):=hr0.mono hsub;apply Zxj;refine (ZgR (k:=1) hr hw).use ?_ ?_
 rotate_left
 ·rintro _ w ⟨h,rfl,hw⟩
  refine .inr ⟨_,rfl,?_,rfl,s,hw⟩;cases bs with
  |nil=>rfl
  |cons=>simp at h
 rintro _ w ⟨hlen,rfl,hw⟩;cases bs with
 |nil=>simp at hlen
 |cons c rest=>
 have hc:=hb c List.mem_cons_self;have hbr:∀ x∈rest,0<=x/\x<256:=λ x hx=>hb x (List.mem_cons_of_mem _ hx);refine .inl ⟨⟨s.a,1,s.cap⟩,rfl,?_⟩;have hr1:SlR R.m ⟨s.a,1,s.cap⟩ (b8 [c]):=hr.take (k:=1) hlen;have hrd:SlR R.m (Zb4 s 1) (b8 rest):=hr.drop (k:=1) hlen;have:=SlR.idxK (Hs:=lp l (Zb4 s 1)::Hs) (S:=λ w'=>w'=w) hr1 (eqS hw) (k:=0) (by simp) (F:=λ t=>t=c) rfl;obtain ⟨h0,h1,this⟩:=this.out;obtain ⟨a,ha,t,hat,rfl⟩:=this.out;refine Rng.mk h0 h1 (Zc.mk ha ⟨t,hat,?_⟩);have hsnone:∀ {p:Prop},¬ p->True:=λ _=>trivial;refine ⟨λ w=>(t<32/\ZlR t<=8/\(ZlR t=0->t=0))/\Sat R (lp l (Zb4 s 1)::Hs) w,?_,?_⟩
 ·have bad:(t<32/\ZlR t<=8/\ZlR t<=rest.length/\(ZlR t=0->t=0)/\(ZlR t≠0->rest.head?≠some 0)->False)->Za3 (t::rest)=none:=λ h=>by
   unfold Za3;simp only;rw [if_neg h]
  refine Br.d (λ h=>?_) (λ h=>?_)
  ·rw [andn hc.1 h]
   refine Br.d (λ h2=>?_) (λ h2=>?_)
   ·refine Br.d (λ h3=>?_) (λ h3=>?_)
    ·exact ZcF (λ _=>.inl ⟨rfl,⟨h,by unfold ZlR;omega,λ h4=>by unfold ZlR at h4;omega⟩,hw⟩) (λ h=>by cases h)
    ·refine ZcF (λ h4=>.inl ⟨rfl,⟨h,by unfold ZlR;omega,λ h5=>?_⟩,hw⟩) (λ h4=>.inr ⟨_,rfl,bad ?_,rfl,_,hw⟩)
     ·simp only [ge_iff_le,Bool.not_eq_true',decide_eq_false_iff_not] at h4
      rw [if_neg h4] at h3;omega
     ·simp only [ge_iff_le,Bool.not_eq_false',decide_eq_true_eq] at h4
      rintro ⟨_,_,_,h5,_⟩;rw [if_pos h4] at h3;have:=h5 (by unfold ZlR;rw [if_pos h4];omega);omega
   ·exact ZcF (λ h=>by cases h) (λ _=>.inr ⟨_,rfl,bad (by rintro ⟨_,h3,_⟩;unfold ZlR at h3;omega),rfl,_,hw⟩)
  ·exact ZcF (λ h=>by cases h) (λ _=>.inr ⟨_,rfl,bad (by rintro ⟨h3,_⟩;exact h h3),rfl,_,hw⟩)
 clear hat ha h0 h1;rintro _ w ⟨⟨h32,h8,hz⟩,hw⟩;rw [andn hc.1 h32];have hwid:(if 16<=t then t - 16 else t)=((ZlR t:Nat):Int):=by
  unfold ZlR;rw [Int.toNat_of_nonneg];split<;>omega
 rw [hwid];generalize hW:ZlR t=W at *;refine (ZgR (k:=W) hrd hw).use ?_ ?_
 rotate_left
 ·rintro _ w ⟨h,rfl,hw⟩
  refine .inr ⟨_,rfl,?_,rfl,_,hw⟩;unfold Za3;simp only;rw [if_neg];rintro ⟨_,_,h3,_⟩;have:ZlR t<=rest.length:=h3;simp at h;omega
 rintro _ w ⟨hl,rfl,hw⟩;have hl:W<=rest.length:=by simpa using hl
 have hrt:SlR R.m ⟨(Zb4 s 1).a,W,(Zb4 s 1).cap⟩ (b8 (rest.take W)):=by have:=hrd.take (k:=W) (by simpa using hl);rwa [<-List.map_take] at this
 have hlt:(rest.take W).length=W:=by simp;omega
 refine .inl ⟨⟨(Zb4 s 1).a,W,(Zb4 s 1).cap⟩,rfl,?_⟩;refine ⟨λ n i w=>∃ k:Nat,i=k/\k<=W/\n=ZhR 0 (rest.take k)/\(k≠0->rest.head?≠some 0)/\Sat R (lp l (Zb4 (Zb4 s 1) W)::Hs) w,λ _ i _=>W - i.toNat,⟨0,rfl,Nat.zero_le _,rfl,λ h=>absurd rfl h,hw⟩,?_⟩;rintro _ _ _ w ⟨k,rfl,hk,rfl,hh,hw⟩;refine Br.d (λ h=>?_) (λ h=>?_)
 ·have hk2:k<W:=by have:((k:Nat):Int)<(W:Int):=h;omega
  have hkr:k<rest.length:=by omega
  have:=SlR.idxK (Hs:=lp l (Zb4 (Zb4 s 1) W)::Hs) (S:=λ w'=>w'=w) hrt (eqS hw) (k:=k) (by omega) (F:=λ t=>t=rest[k]) (by simp);obtain ⟨h0,h1,this⟩:=this.out;obtain ⟨a,ha,x,hat,rfl⟩:=this.out;refine Rng.mk h0 h1 (Zc.mk ha ⟨_,hat,?_⟩);have hx:=hbr rest[k] (List.getElem_mem _);have hvb:∀ x∈rest.take k,0<=x/\x<256:=λ x hx=>hbr x (List.mem_of_mem_take hx);have hv0:=Zi1 (acc:=0) (Int.le_refl _) hvb;have hv1:ZhR 0 (rest.take k)<72057594037927936:=by
   refine Int.lt_of_lt_of_le (Zi2 (Int.le_refl _) hvb) ?_;rw [List.length_take,Nat.min_eq_left (by omega),Int.zero_add,Int.one_mul];have h9:256 ^ k<=256 ^ 7:=Nat.pow_le_pow_right (by omega) (by omega);have:((256 ^ k:Nat):Int)<=((256 ^ 7:Nat):Int):=Int.ofNat_le.2 h9;rw [Int.natCast_pow] at this;exact Int.le_trans this (by decide)
  have hstep:∀ w,(rest.head?≠some 0)->Sat R (lp l (Zb4 (Zb4 s 1) W)::Hs) w->
    (∃ k':Nat,IntKind.i64.wrap ((k:Int) + 1)=k'/\k'<=W/\Zfo .or .u64 (Zuh .u64 (ZhR 0 (rest.take k)) 8) (IntKind.u64.wrap rest[k])=ZhR 0 (rest.take k')/\(k'≠0->rest.head?≠some 0)/\Sat R (lp l (Zb4 (Zb4 s 1) W)::Hs) w)/\W - (IntKind.i64.wrap ((k:Int) + 1)).toNat<W - (k:Int).toNat:=λ w h1 hw=>by
   rw [Zh (by omega) (by omega)];refine ⟨⟨k + 1,by omega,by omega,?_,λ _=>h1,hw⟩,by omega⟩;rw [ZuW hv0 hv1 hx.1 hx.2,List.take_succ_eq_append_getElem hkr,ZeQ]
  refine Br.d (λ h3=>?_) (λ h3=>?_)
  ·exact ZcF (λ _=>.inl ⟨rfl,hstep _ (hh (by omega)) hw⟩) (λ h=>by cases h)
  ·have hk0:k=0:=by omega
   subst hk0;have hhead:rest.head? =some rest[0]:=by rw [List.head?_eq_getElem?,List.getElem?_eq_getElem hkr]
   refine ZcF (λ h4=>.inl ⟨rfl,hstep _ ?_ hw⟩) (λ h4=>.inr ⟨_,rfl,?_,rfl,_,hw⟩)
   ·have h4:=of_decide_eq_true h4
    rw [hhead];intro h5;simp only [Option.some.injEq] at h5;omega
   ·have h4:=of_decide_eq_false h4
    unfold Za3;simp only;rw [if_neg];rintro ⟨_,_,_,_,h5⟩;have h6:ZlR t≠0:=by omega
    refine h5 h6 ?_;rw [hhead];congr 1;omega
 ·have hkW:k=W:=by have:¬ ((k:Nat):Int)<(W:Int):=h;omega
  subst hkW;refine ⟨ZhR 0 (rest.take k),decide (t >= 16),k + 1,Zb4 (Zb4 s 1) k,?_,rfl,?_,?_⟩
  ·unfold Za3;simp only
   have e:(if 16<=t then t - 16 else t).toNat=k:=hW
   rw [e,if_pos ⟨h32,h8,hl,hz,hh⟩]
  ·have:=(hr0.drop (k:=1) hlen).drop (k:=k) (by simpa using hl)
   simpa using this
  ·exact hw
end
section
open Go Go.VC Tryz
variable {R:Cx} {Hs Rest:List HP} {w:World}
theorem Zi9 (n k:Nat) (hk:k<=64):Zf8 .u64 (n:Int) (k:Int)=((n / 2 ^ k:Nat):Int):=by
 have e:min ((k:Int).toNat) IntKind.u64.bits=k:=by rw [Int.toNat_natCast];exact Nat.min_eq_left hk
 unfold Zf8;rw [e,Int.fdiv_eq_ediv_of_nonneg _ (by exact Int.le_of_lt (Int.pow_pos (by decide)))];rw [show ((2:Int) ^ k)=((2 ^ k:Nat):Int) from (Int.natCast_pow 2 k).symm]
 exact (Int.natCast_ediv n (2 ^ k)).symm
theorem ZAE (n:Nat):Zf8 .u64 (n:Int) 32=((n / 4294967296:Nat):Int):=Zi9 n 32 (by omega)
theorem ZAF (n:Nat):Zf8 .u64 (n:Int) 16=((n / 65536:Nat):Int):=Zi9 n 16 (by omega)
theorem shr8 (n:Nat):Zf8 .u64 (n:Int) 8=((n / 256:Nat):Int):=Zi9 n 8 (by omega)
theorem ZoP {n:Nat} (hn:n<18446744073709551616) (hw:Sat R Hs w):
  Zm prog 193 #[.int .u64 n] w λ v w'=>v=.int .i64 (Lib.bitLen n:Nat)/\Sat R Hs w':=by
 apply ZwU;refine ⟨λ x j w=>∃ m i:Nat,x=m/\j=i/\m<4294967296/\i<=32/\Lib.bitLen n=i + Lib.bitLen m/\Sat R Hs w,?_,?_⟩
 ·refine Br.d (λ h=>?_) (λ h=>?_)
  ·rw [ZAE]
   exact ⟨n / 4294967296,32,rfl,rfl,by omega,by omega,Lib.bitLen_shift32 n (by omega) hn,hw⟩
  ·exact ⟨n,0,rfl,rfl,by omega,by omega,by omega,hw⟩
 rintro _ _ _ w ⟨m,i,rfl,rfl,hm,hi,he,hw⟩;refine ⟨λ x j w=>∃ m i:Nat,x=m/\j=i/\m<65536/\i<=48/\Lib.bitLen n=i + Lib.bitLen m/\Sat R Hs w,?_,?_⟩
 ·refine Br.d (λ h=>?_) (λ h=>?_)
  ·rw [ZAF,Zh (by omega) (by omega)]
   exact ⟨m / 65536,i + 16,rfl,by omega,by omega,by omega,by have:=Lib.bitLen_shift16 m (by omega) (by omega);omega,hw⟩
  ·exact ⟨m,i,rfl,rfl,by omega,by omega,he,hw⟩
 clear hm hi he hw;rintro _ _ _ w ⟨m,i,rfl,rfl,hm,hi,he,hw⟩;refine Br.d (λ h=>?_) (λ h=>?_)
 ·rw [shr8,Zkn (by omega) (by omega)]
  have h8:Lib.bitLen (m / 256)<=8:=Lib.bitLen_le8 ⟨m / 256,by omega⟩;refine ⟨UInt8.ofNat (Lib.bitLen (m / 256)),by omega,?_,?_,hw⟩
  ·rw [Int.toNat_natCast]
   obtain ⟨q,hq⟩:∃ q:Fin 256,q.1=m / 256:=⟨⟨m / 256,by omega⟩,rfl⟩;rw [<-hq];clear hq h8 hw he hi hm h
   revert q
   decide +kernel
  ·have:(UInt8.ofNat (Lib.bitLen (m / 256))).toNat=Lib.bitLen (m / 256):=by simp;omega
   have h2:=Lib.bitLen_shift8 m (by omega) (by omega);rw [this,Zh (x:=((Lib.bitLen (m / 256):Nat):Int)) (by omega) (by omega),Zh (x:=(i:Int) + 8) (by omega) (by omega),Zh (by omega) (by omega)]
   congr 1;omega
 ·rw [Zkn (by omega) (by omega)]
  have h8:Lib.bitLen m<=8:=Lib.bitLen_le8 ⟨m,by omega⟩;refine ⟨UInt8.ofNat (Lib.bitLen m),by omega,?_,?_,hw⟩
  ·rw [Int.toNat_natCast]
   obtain ⟨q,hq⟩:∃ q:Fin 256,q.1=m:=⟨⟨m,by omega⟩,rfl⟩;rw [<-hq];clear hq h8 hw he hi hm h
   revert q
   decide +kernel
  ·have:(UInt8.ofNat (Lib.bitLen m)).toNat=Lib.bitLen m:=by simp;omega
   rw [this,Zh (x:=((Lib.bitLen m:Nat):Int)) (by omega) (by omega),Zh (by omega) (by omega)]
   congr 1;omega
theorem Zcl {n:Nat} (hn:n<18446744073709551616) (hw:Sat R Hs w):
  Zm prog 120 #[.int .u64 n] w λ v w'=>∃ t:Sl,v=.slice t.a t.len t.cap/\Sat R (Own t 5 (b8 (ZeP n))::Hs) w':=by
 apply ZxK;refine (ZoP hn hw).use ?_;rintro _ w ⟨rfl,hw⟩;refine ⟨_,rfl,?_⟩;have hwid:=ZrF n hn;have h8:=Zfh hn;generalize hL:(dig n).length=L at *;have e:IntKind.i64.wrap ((IntKind.i64.wrap (((Lib.bitLen n:Nat):Int) + 7)).tdiv 8)=(L:Int):=by
  rw [Zh (x:=((Lib.bitLen n:Nat):Int) + 7) (by omega) (by omega),Int.tdiv_eq_ediv_of_nonneg (by omega),Zh (by omega) (by omega)];omega
 rw [e,Zkn (by omega) (by omega)];refine Zb hw λ b w hw=>?_;have h0:Sat R (Own ⟨some ⟨b,0,none⟩,1,1⟩ 5 (b8 [(L:Int)])::Hs) w:=Own.of_pts (xs:=b8 [(L:Int)]) (rest:=[]) hw;refine ⟨λ wd out w=>∃ k:Nat,wd=k/\k<=L/\Sat R (Own out 5 (b8 ((L:Int)::(dig n).take (L - k)))::Hs) w,λ wd _ _=>wd.toNat,⟨L,rfl,Nat.le_refl _,by simpa using h0⟩,?_⟩;clear hw h0;rintro _ _ out w ⟨k,rfl,hk,hw⟩;refine Br.d (λ h=>?_) (λ h=>?_)
 ·have e1:IntKind.i64.wrap ((k:Int) - 1)=((k - 1:Nat):Int):=by rw [Zh (by omega) (by omega)];omega
  have e2:IntKind.i64.wrap (8 * ((k - 1:Nat):Int))=((8 * (k - 1):Nat):Int):=by rw [Zh (by omega) (by omega)];omega
  rw [e1,e2,Zi9 n _ (by omega)];refine Ge0.mk (by omega) ?_;have hd:=ZvY (n:=n) (k:=k - 1) (by omega);have hlen:((L:Int)::(dig n).take (L - k)).length<=9:=by simp;omega
  refine Zha ZrD hw (Znm _) rfl (by rw [List.length_map];omega) (by rw [List.length_map];omega) λ t w hw=>⟨⟨k - 1,rfl,by omega,?_⟩,by show ((k - 1:Nat):Int).toNat<(k:Int).toNat;omega⟩;have e3:((L:Int)::(dig n).take (L - (k - 1)))=((L:Int)::(dig n).take (L - k))++[IntKind.u8.wrap ((n / 2 ^ (8 * (k - 1)):Nat):Int)]:=by
   have e4:L - (k - 1)=(L - k) + 1:=by omega
   rw [e4,List.take_succ_eq_append_getElem (by omega),List.cons_append]
   congr 3
   rw [ZuN,show (2:Nat) ^ (8 * (k - 1))=256 ^ (k - 1) from by rw [Nat.pow_mul],show ((n / 256 ^ (k - 1):Nat):Int) % 256=((n / 256 ^ (k - 1) % 256:Nat):Int) from (Int.natCast_emod _ _).symm,<-hd]
   congr 1;omega
  rw [e3];simpa [b8] using hw
 ·have hk0:k=0:=by omega
  subst hk0;refine ⟨out,rfl,?_⟩;have:(dig n).take (L - 0)=dig n:=List.take_of_length_le (by omega);rw [this] at hw;unfold ZeP;rw [hL];exact hw
abbrev Zbu (s:Sl) (bad:Bool):Obj:=.cells [.slice s.a s.len s.cap,.bool bad].toArray 188 (0,0)
def ZZ (r:Nat) (rd:Rd):HP:=exs λ s:Sl=>Zgu [pts r (Zbu s rd.bad),ZA s (b8 rd.bs)]
theorem Sat.rd {r:Nat} {rd:Rd}:Sat R (ZZ r rd::Hs) w↔∃ s:Sl,Sat R (pts r (Zbu s rd.bad)::ZA s (b8 rd.bs)::Hs) w:=by
 unfold ZZ;rw [Sat.exs];exact ⟨λ⟨s,h⟩=>⟨s,Sat.star.1 h⟩,λ⟨s,h⟩=>⟨s,Sat.star.2 h⟩⟩
abbrev ZB (r:Nat):Obj:=.cells [.pointer (some ⟨r,0,none⟩)].toArray 123 (0,0)
theorem Zut {br r:Nat} {s:Sl} {bad:Bool} {Kr:World->Prop} (hw:Sat R (pts br (ZB r)::pts r (Zbu s bad)::Hs) w) (k:∀ w,Sat R (pts br (ZB r)::pts r (Zbu s true)::Hs) w->Kr w):
  Zu prog 219 [.pointer (some ⟨br,0,none⟩)] (.panicking Zet) Kr w:=by
 unfold Zu;refine CallsD.mono (Zt2 (some ⟨br,0,none⟩) (.iface 246 (.agg #[])) Kr w ?_) ?_
 ·refine ⟨true,λ w' _=>by kernel_rfl,Br.t rfl ?_⟩
  refine Zc.mk rfl ⟨some ⟨r,0,none⟩,oA hw,Zc.mk rfl ?_⟩;have hw:=hw.swap;refine Za hw (by kernel_rfl) rfl (by simp [Value.cells]) λ w hw=>?_;exact k w hw.swap
 ·rintro e v w' ⟨hy,rfl,hk⟩
  exact ⟨hy,rfl,hk⟩
theorem ZyA {br:Nat} {Kr:World->Prop} (k:Kr w):Zu prog 219 [.pointer (some ⟨br,0,none⟩)] .returning Kr w:=by
 unfold Zu;refine CallsD.mono (Zt1 (some ⟨br,0,none⟩) Kr w ?_) ?_
 ·exact ⟨false,λ w' _=>by kernel_rfl,Br.f rfl k⟩
 ·rintro e v w' ⟨hy,rfl,hk⟩
  exact ⟨hy,rfl,hk⟩
theorem Zgb {r:Nat} {rd:Rd} {one:Value} {α:Type} {f:α->List Int} {Hs1:α->List HP} {Hs2:List HP} {G:α->Prop} {N:Prop} (hw:Sat R (ZZ r rd::Hs) w)
  (hone:rd.bad=false->∀ (x:ZU) (l:Nat) (s:Sl) (A B:HP) (w:World),(∀ b o,x b=some o->(R.add x).m b=some o)->SlR x s (b8 rd.bs)->Sat (R.add x) (lp l s::A::B::Hs) w->
   ZaK prog cl one [.pointer (some ⟨l,0,none⟩)] w λ e w'=>
    (e=.returned (.tuple #[])/\∃ y s',G y/\SlR x s' (b8 (f y))/\Sat (R.add x) (lp l s'::A::B::Hs1 y) w')\/
    (e=.panicked Zet/\N/\∃ s',Sat (R.add x) (lp l s'::A::B::Hs2) w')):
  Zm prog 164 #[.pointer (some ⟨r,0,none⟩),one] w λ v w'=>v=.tuple #[]/\
   ((rd.bad=true/\Sat R (ZZ r rd::Hs) w')\/(rd.bad=false/\∃ y,G y/\Sat R (ZZ r ⟨f y,false⟩::Hs1 y) w')\/(rd.bad=false/\N/\Sat R (ZZ r ⟨rd.bs,true⟩::Hs2) w')):=by
 obtain ⟨s,hw⟩:=Sat.rd.1 hw;apply Zxl;refine Zb hw λ br w hw=>?_;refine ⟨_,oA hw,Zc.mk rfl ?_⟩;refine ⟨_,oA hw,ZcF (λ h=>.inl ⟨rfl,?_⟩) (λ h=>.inr ⟨_,rfl,?_⟩)⟩
 ·have hbad:rd.bad=false:=by simpa using h
  refine ⟨_,oA hw,Zc.mk rfl ?_⟩;refine ⟨_,oA hw,?_⟩;refine Zb hw λ l w hw=>?_;have hw:Sat R (pts l (.cells [.slice none 0 0].toArray 42 (0,0))::pts br (ZB r)::pts r (Zbu s rd.bad)::ZA s (b8 rd.bs)::Hs) w:=hw;refine Za hw (by kernel_rfl) rfl (by simp [Value.cells]) λ w hw=>?_;have hw:Sat R (lp l s::pts br (ZB r)::pts r (Zbu s rd.bad)::ZA s (b8 rd.bs)::Hs) w:=hw;have hw:Sat R (ZA s (b8 rd.bs)::lp l s::pts br (ZB r)::pts r (Zbu s rd.bad)::Hs) w:=hw.arr;obtain ⟨x,hd,_,hx,hs⟩:=ZA.lend hw;have hsub:∀ b o,x b=some o->(R.add x).m b=some o:=λ b o hb=>by
   have:=hd b (by rw [hb];simp);simp only [Cx.add,ZU.add,this,hb]
  refine ZaK.mono (hone hbad x l s _ _ w hsub hs hx) ?_;rintro e w' (⟨rfl,bs',s',hg,hs',hw⟩|⟨rfl,hn,s',hw⟩)
  ·refine .inl ⟨rfl,?_⟩
   have hw:Sat (R.add x) (pts br (ZB r)::pts r (Zbu s rd.bad)::lp l s'::Hs1 bs') w':=hw.arr;refine ⟨_,oA hw,?_⟩;refine ⟨_,oA hw,Zc.mk rfl ?_⟩;have hw:Sat (R.add x) (pts r (Zbu s rd.bad)::lp l s'::pts br (ZB r)::Hs1 bs') w':=hw.arr;refine Za hw (by kernel_rfl) rfl (by simp [Value.cells]) λ w hw=>?_;refine ZyA ⟨rfl,.inr (.inl ⟨hbad,bs',hg,?_⟩)⟩;have hw:Sat (R.add x) (pts r (Zbu s' rd.bad)::lp l s'::pts br (ZB r)::Hs1 bs') w:=hw;rw [hbad] at hw;have hw:Sat (R.add x) (pts r (Zbu s' false)::Hs1 bs') w:=hw.cons λ _ h=>h.drop.drop;refine Sat.rd.2 ⟨s',?_⟩;exact (ZA.back hd hs' hw).swap
  ·refine .inr ⟨_,rfl,?_⟩
   have hw:Sat (R.add x) (pts br (ZB r)::pts r (Zbu s rd.bad)::lp l s'::Hs2) w':=hw.arr;refine Zut hw λ w hw=>⟨rfl,.inr (.inr ⟨hbad,hn,?_⟩)⟩;have hw:Sat (R.add x) (pts r (Zbu s true)::Hs2) w:=hw.drop.cons λ _ h=>h.drop;refine Sat.rd.2 ⟨s,?_⟩;exact (ZA.back hd hs hw).swap
 ·have hbad:rd.bad=true:=by simpa using h
  have hw:Sat R (pts br (ZB r)::pts r (Zbu s rd.bad)::ZA s (b8 rd.bs)::Hs) w:=hw;refine Zut hw λ w hw=>⟨rfl,.inl ⟨hbad,?_⟩⟩;rw [<-hbad] at hw;exact Sat.rd.2 ⟨s,hw.drop⟩
end
section
open Go Go.VC Tryz
variable {R:Cx} {Hs Rest:List HP} {w:World}
theorem ZaK.mk {g:FuncId} {captured:Array Value} {args:List Value} {Q:Ending->World->Prop} (hc:cl g=true) (h:Calls prog g (args++captured.toList).toArray w Q):ZaK prog cl (.func (.func g) #[] captured) args w Q:=by
 unfold ZaK;simp only [hc];exact h
theorem Zhz {s:Sl} {bs:List Int} (hs:Ro R s (b8 bs)) (hl:bs.length<=1099511627776) (hw:Sat R Hs w):
  Zm prog 76 #[.slice s.a s.len s.cap] w λ v w'=>∃ r,v=.pointer (some ⟨r,0,none⟩)/\Sat R (ZZ r ⟨bs,false⟩::Hs) w':=by
 apply Zy6;refine (ZiT hs hl hw).use ?_;rintro _ w ⟨t,rfl,hw⟩;refine ⟨t,rfl,?_⟩;have hw:=Own.reads hw;refine Zb hw λ r w hw=>⟨r,rfl,Sat.rd.2 ⟨t,hw⟩⟩
theorem Zft {r:Nat} {rd:Rd} (hw:Sat R (ZZ r rd::Hs) w):
  Zm prog 83 #[.pointer (some ⟨r,0,none⟩)] w λ v w'=>v=.bool (Z0 rd)/\Sat R (ZZ r rd::Hs) w':=by
 obtain ⟨s,hw⟩:=Sat.rd.1 hw;have hsl:s.len=rd.bs.length:=by
  obtain ⟨x,_,_,_,hx⟩:=ZA.lend hw.swap;have:=hx.len;simpa using this
 apply Zy4;refine Zc.mk rfl ⟨rd.bad,oA hw,Br.nb (λ h=>?_) (λ h=>?_)⟩
 ·refine Zc.mk rfl ?_
  refine ⟨s,oA hw,?_,Sat.rd.2 ⟨s,hw⟩⟩;unfold Z0;rw [h,hsl]
  congr 1
  simp only [Bool.not_false,Bool.true_and];cases rd.bs with
  |nil=>rfl
  |cons=>simp;omega
 ·refine ⟨?_,Sat.rd.2 ⟨s,hw⟩⟩
  unfold Z0;rw [h];rfl
theorem ZqN {h:ZU} {l bm bo:Nat} {s:Sl} {bs:List Int} {most:Int} (hb:∀ x∈bs,0<=x/\x<256) (hsub:∀ b o,h b=some o->R.m b=some o) (hr:SlR h s (b8 bs))
  (hw:Sat R (lp l s::pts bo (.cells [.int .u64 0].toArray 134 (0,0))::pts bm (.cells [.int .u64 most].toArray 134 (0,0))::Hs) w):
  ZaX prog 213 #[.pointer (some ⟨l,0,none⟩),.pointer (some ⟨bm,0,none⟩),.pointer (some ⟨bo,0,none⟩)] w
   (λ ch w'=>ch=Zet/\(∀ n k,Za3 bs=some (n,false,k)->¬ n<=most)/\∃ s',Sat R (lp l s'::pts bo (.cells [.int .u64 0].toArray 134 (0,0))::pts bm (.cells [.int .u64 most].toArray 134 (0,0))::Hs) w')
   (λ v w'=>v=.tuple #[]/\∃ n k s',Za3 bs=some (n,false,k)/\n<=most/\SlR h s' (b8 (bs.drop k))/\
    Sat R (lp l s'::pts bo (.cells [.int .u64 n].toArray 134 (0,0))::pts bm (.cells [.int .u64 most].toArray 134 (0,0))::Hs) w'):=by
 apply ZwM;refine (ZiI hb hsub hr hw).use ?_ ?_
 rotate_left
 ·rintro _ w ⟨hp,rfl,s',hw⟩
  refine .inr ⟨_,rfl,rfl,?_,s',hw⟩;intro n k h;rw [hp] at h;cases h
 rintro _ w ⟨n,neg,k,s',hp,rfl,hs',hw⟩;refine .inl ⟨n,neg,rfl,Br.nb (λ h=>?_) (λ h=>?_)⟩
 ·subst h
  have hw2:Sat R (pts bm (.cells [.int .u64 most].toArray 134 (0,0))::lp l s'::pts bo (.cells [.int .u64 0].toArray 134 (0,0))::Hs) w:=hw.arr;refine Zc.mk rfl ?_;refine ⟨most,oA hw,ZcF (λ h=>.inl ⟨rfl,?_⟩) (λ h=>.inr ⟨_,rfl,rfl,?_,s',hw⟩)⟩
  ·have h:=of_decide_eq_true h
   have hw:Sat R (pts bo (.cells [.int .u64 0].toArray 134 (0,0))::lp l s'::pts bm (.cells [.int .u64 most].toArray 134 (0,0))::Hs) w:=hw.swap;refine Za hw (by kernel_rfl) rfl (by simp [Value.cells]) λ w hw=>?_;exact ⟨rfl,n,k,s',hp,h,hs',hw.swap⟩
  ·have h:=of_decide_eq_false h
   intro n' k' hp';rw [hp] at hp';simp only [Option.some.injEq,Prod.mk.injEq,true_and] at hp';rw [<-hp'.1];exact h
 ·subst h
  refine ZcF (λ h=>by cases h) (λ _=>.inr ⟨_,rfl,rfl,?_,s',hw⟩);intro n' k' hp';rw [hp] at hp';simp at hp'
theorem ZeW {r:Nat} {rd:Rd} {most:Int} (hb:∀ x∈rd.bs,0<=x/\x<256) (hw:Sat R (ZZ r rd::Hs) w):
  Zm prog 147 #[.pointer (some ⟨r,0,none⟩),.int .u64 most] w λ v w'=>v=.int .u64 (Ze most rd).1/\Sat R (ZZ r (Ze most rd).2::Hs) w':=by
 apply ZxA;refine Zb hw λ bm w hw=>Zb hw λ bo w hw=>?_;have hw:Sat R (pts bo (.cells [.int .u64 0].toArray 134 (0,0))::pts bm (.cells [.int .u64 most].toArray 134 (0,0))::ZZ r rd::Hs) w:=hw;refine Za hw (by kernel_rfl) rfl (by simp [Value.cells]) λ w hw=>?_;have hw:=hw.re (pts bo (.cells [.int .u64 0].toArray 134 (0,0)));have hw:Sat R (ZZ r rd::pts bo (.cells [.int .u64 0].toArray 134 (0,0))::pts bm (.cells [.int .u64 most].toArray 134 (0,0))::Hs) w:=hw.arr;refine (Zgb (α:=Int × Nat) (f:=λ y=>rd.bs.drop y.2) (G:=λ y=>Za3 rd.bs=some (y.1,false,y.2)/\y.1<=most) (N:=∀ n k,Za3 rd.bs=some (n,false,k)->¬ n<=most)
  (Hs1:=λ y=>pts bo (.cells [.int .u64 y.1].toArray 134 (0,0))::pts bm (.cells [.int .u64 most].toArray 134 (0,0))::Hs)
  (Hs2:=pts bo (.cells [.int .u64 0].toArray 134 (0,0))::pts bm (.cells [.int .u64 most].toArray 134 (0,0))::Hs) hw ?_).use ?_
 ·intro _ x l s A B w hsub hs hw
  refine ZaK.mk (by kernel_rfl) ?_;have hw2:Sat (R.add x) (lp l s::pts bo (.cells [.int .u64 0].toArray 134 (0,0))::pts bm (.cells [.int .u64 most].toArray 134 (0,0))::A::B::Hs) w:=hw.arr;refine (ZqN (h:=x) hb hsub hs hw2).use ?_ ?_
  ·rintro _ w ⟨rfl,n,k,s',hp,hn,hs',hw⟩
   exact .inl ⟨rfl,(n,k),s',⟨hp,hn⟩,hs',hw.arr⟩
  ·rintro _ w ⟨rfl,hn,s',hw⟩
   exact .inr ⟨rfl,hn,s',hw.arr⟩
 ·rintro _ w ⟨rfl,h⟩
  refine ⟨rfl,?_⟩;rcases h with ⟨hbad,hw⟩|⟨hbad,⟨n,k⟩,⟨hp,hn⟩,hw⟩|⟨hbad,hno,hw⟩
  ·have hw:Sat R (pts bo (.cells [.int .u64 0].toArray 134 (0,0))::ZZ r rd::pts bm (.cells [.int .u64 most].toArray 134 (0,0))::Hs) w:=hw.swap
   refine ⟨0,oA hw,?_⟩;unfold Ze;rw [if_pos hbad];exact ⟨rfl,hw.drop.cons λ _ h=>h.drop⟩
  ·have hw:Sat R (pts bo (.cells [.int .u64 n].toArray 134 (0,0))::ZZ r ⟨rd.bs.drop k,false⟩::pts bm (.cells [.int .u64 most].toArray 134 (0,0))::Hs) w:=hw.swap
   refine ⟨n,oA hw,?_⟩;unfold Ze;rw [if_neg (by rw [hbad];simp),hp];simp only;rw [if_pos (by simpa using hn)];exact ⟨rfl,hw.drop.cons λ _ h=>h.drop⟩
  ·have hw:Sat R (pts bo (.cells [.int .u64 0].toArray 134 (0,0))::ZZ r ⟨rd.bs,true⟩::pts bm (.cells [.int .u64 most].toArray 134 (0,0))::Hs) w:=hw.swap
   refine ⟨0,oA hw,?_⟩;have e:Ze most rd=(0,⟨rd.bs,true⟩):=by
    unfold Ze;rw [if_neg (by rw [hbad];simp)];cases hp:Za3 rd.bs with
    |none=>rfl
    |some p=>
     obtain ⟨n,neg,k⟩:=p;simp only;rw [if_neg];rintro ⟨rfl,h⟩;exact hno n k hp h
   rw [e];exact ⟨rfl,hw.drop.cons λ _ h=>h.drop⟩
theorem Zk {most:Int} {rd:Rd} (hb:∀ x∈rd.bs,0<=x/\x<256):∀ x∈(Ze most rd).2.bs,0<=x/\x<256:=by
 unfold Ze;split
 ·exact hb
 ·split
  ·split
   ·exact λ x hx=>hb x (List.mem_of_mem_drop hx)
   ·exact hb
  ·exact hb
theorem Zw {most:Int} {rd:Rd} (hb:∀ x∈rd.bs,0<=x/\x<256) (hm:0<=most):0<=(Ze most rd).1/\(Ze most rd).1<=most:=by
 unfold Ze;split
 ·exact ⟨Int.le_refl _,hm⟩
 ·split
  ·rename_i n neg k hp
   split
   ·rename_i h;exact ⟨(Zd1 hb hp).1,h.2⟩
   ·exact ⟨Int.le_refl _,hm⟩
  ·exact ⟨Int.le_refl _,hm⟩
end
end Go.Proofs.YtfgbbckfikiomaaGreatDoor

namespace Go.VC
section
variable {P:Program} {R:Cx} {Hs Rest:List HP} {w:World} {s t:Sl} {T T2:TypeId}
theorem Ze1 (k:IntKind) (xs:List Int):ZaS (xs.map (Value.int k))=true:=by
 induction xs with
 |nil=>rfl
 |cons x xs ih=>simp only [List.map_cons,ZaS,List.all_cons,Bool.and_eq_true];exact ⟨rfl,ih⟩
theorem ZbI {b n:Nat} {l:List Value} {fr:Nat × Nat} (hw:Sat R (pts b (.cells l.toArray T fr)::Hs) w) (hn:n=l.length:=by rfl) (hf:Znn l.length fr:=by first|assumption|exact Or.inl rfl):Sat R (Own ⟨some ⟨b,0,none⟩,n,n⟩ T l::Hs) w:=by
 subst hn;have:=Own.of_pts (xs:=l) (rest:=[]) (by simpa using hw) (by simpa using hf);simpa using this
theorem ZgG {t1 t2 ty e':TypeId} {bytes n:Nat} {k:IntKind} (E:El P t1 t2 T bytes) {xs ys:List Int} {K:Sl->World->Prop} (h2:P.underlying t2=some (.slice e'))
  (hw:Sat R (Own s T (xs.map (Value.int k))::Hs) w) (hy:Ro R t (ys.map (Value.int k))) (hn:xs.length + ys.length<=n) (hb:2 * n * bytes<=281474976710656) (hb':n<=9223372036854775807)
  (kk:∀ s' w',Sat R (Own s' T ((xs++ys).map (Value.int k))::Hs) w'->K s' w'):
  ∃ w',∃ t':Sl,(Builtin.append_ #[t1,t2] ty #[.slice s.a s.len s.cap,.slice t.a t.len t.cap]).run P w=.ok (.slice t'.a t'.len t'.cap) w'/\K t' w':=by
 have hsrc:Src P 1 t2 (.slice t.a t.len t.cap) ys.length (ys.map (Value.int k)) w:=by
  have:=ZuV h2 hw hy (Ze1 _ _);simpa using this
 refine Zcw E (s:=s) hw hsrc (Ze1 _ _) ?_ (by rw [List.length_map];omega) λ s2 w hw=>kk s2 w (by simpa using hw);rw [List.length_map];have:2 * (xs.length + ys.length) * bytes<=2 * n * bytes:=Nat.mul_le_mul_right _ (by omega);omega
theorem Zdi {t1 t2 ty e':TypeId} {bytes n:Nat} {k:IntKind} (E:El P t1 t2 T bytes) {xs ys:List Int} {K:Sl->World->Prop} (h2:P.underlying t2=some (.slice e'))
  (hw:Sat R (Own s T (xs.map (Value.int k))::Own t T2 (ys.map (Value.int k))::Hs) w) (hn:xs.length + ys.length<=n) (hb:2 * n * bytes<=281474976710656) (hb':n<=9223372036854775807)
  (kk:∀ s' w',Sat R (Own s' T ((xs++ys).map (Value.int k))::Own t T2 (ys.map (Value.int k))::Hs) w'->K s' w'):
  ∃ w',∃ t':Sl,(Builtin.append_ #[t1,t2] ty #[.slice s.a s.len s.cap,.slice t.a t.len t.cap]).run P w=.ok (.slice t'.a t'.len t'.cap) w'/\K t' w':=by
 obtain ⟨R',hr,_,hw,back⟩:=Own.lend hw.swap (by rw [List.length_map];omega);exact ZgG E h2 hw hr hn hb hb' λ s' w' hw=>kk s' w' (back hw).swap
theorem Ro.ix {k:IntKind} {xs:List Int} {S:World->Prop} {i:Int} (hr:Ro R s (xs.map (Value.int k))) (hS:∀ w,S w->Sat R Hs w) (j:Nat) (hi:i=j) (hj:j<xs.length) {F:Int->Prop} (h:F xs[j]):
  Rng i s.len (Zc s.a λ a=>∃ t:Int,(At S (a.add i.toNat) [.int k t])/\F t):=by
 subst hi;exact hr.idxK hS hj h
theorem SlR.ix {k:IntKind} {xs:List Int} {S:World->Prop} {i:Int} (hr:SlR R.m s (xs.map (Value.int k))) (hS:∀ w,S w->Sat R Hs w) (j:Nat) (hi:i=j) (hj:j<xs.length) {F:Int->Prop} (h:F xs[j]):
  Rng i s.len (Zc s.a λ a=>∃ t:Int,(At S (a.add i.toNat) [.int k t])/\F t):=by
 subst hi;exact hr.idxK hS hj h
end
section
variable {P:Program} {R R' R'':Cx} {Hs Rest:List HP} {w:World} {s:Sl} {T:TypeId}
structure Cx.Ext (R R':Cx):Prop where
 m:∀ b o,R.m b=some o->R'.m b=some o
 like:R'.like R
theorem Cx.Ext.refl:R.Ext R:=⟨λ _ _ h=>h,rfl,rfl,rfl⟩
theorem Cx.Ext.trans (h:R.Ext R') (h':R'.Ext R''):R.Ext R'':=
 ⟨λ b o hb=>h'.m b o (h.m b o hb),h.like.1.trans h'.like.1,h.like.2.1.trans h'.like.2.1,h.like.2.2.trans h'.like.2.2⟩
theorem Cx.Ext.add {h:ZU}:R.Ext (R.add h):=⟨λ b o hb=>by simp only [Cx.add,ZU.add,hb],rfl,rfl,rfl⟩
theorem Cx.Ext.back (h:R.Ext R') (hw:Sat R' Hs w):Sat R Hs w:=Sat.ro_of h.m h.like hw
theorem Cx.Ext.ro {xs:List Value} (h:R.Ext R') (a:Ro R s xs):Ro R' s xs:=
 ⟨a.len,a.bound,λ hx=>let ⟨b,off,l,T,fr,h1,h2,h3⟩:=a.mem hx;⟨b,off,l,T,fr,h1,h.m _ _ h2,h3⟩⟩
theorem Cx.Ext.roN {n:Nat} {xs:List (List Value)} (h:R.Ext R') (a:RoN n R s xs):RoN n R' s xs:=
 ⟨a.wid,a.len,λ hx=>let ⟨b,off,l,T,fr,h1,h2,h3⟩:=a.mem hx;⟨b,off,l,T,fr,h1,h.m _ _ h2,h3⟩⟩
theorem Cx.Ext.slR {xs:List Value} (h:R.Ext R') (a:SlR R.m s xs):SlR R'.m s xs:=
 ⟨a.len,a.cap,λ hx=>let ⟨b,off,l,T,fr,h1,h2,h3⟩:=a.mem hx;⟨b,off,l,T,fr,h1,h.m _ _ h2,h3⟩⟩
theorem ZA.leak {xs:List Value} (h:Sat R (ZA s xs::Hs) w):∃ R':Cx,R.Ext R'/\SlR R'.m s xs/\Sat R' Hs w:=by
 obtain ⟨x,_,h1,h2,_⟩:=ZA.lend h;exact ⟨_,.add,h1,h2⟩
theorem Own.leak {xs:List Value} (h:Sat R (Own s T xs::Hs) w):∃ R':Cx,R.Ext R'/\SlR R'.m s xs/\Sat R' Hs w:=ZA.leak (Own.reads h)
theorem Zt.leak {n:Nat} {rows:List (List Value)} (h:Sat R (Zt n s T rows::Hs) w):∃ R':Cx,R.Ext R'/\RoN n R' s rows/\Sat R' Hs w:=by
 obtain ⟨R',h1,⟨x,rfl⟩,h2,_⟩:=Zt.lend h;exact ⟨_,.add,h1,h2⟩
end
end Go.VC
namespace Go.Proofs.YtfgbbckfikiomaaGreatDoor
section
open Go Go.VC Tryz
set_option maxRecDepth 10000
def B172 (c:Sl) (K:Value->World->Prop) (w:World):Prop:=
 Br c.a.isNone
 (K (.slice none 0 0) w)
 (New (.cells #[] 3 (0,0)) (λ e f=>
 ∃ d:World,∃ b:Sl,((Builtin.append_ #[28,28] 28 #[.slice ((some ⟨e,0,none⟩)) 0 0,c.v]).run prog f=.ok (b.v) d)/\
 K (b.v) d) w)
theorem Zxe (b:Sl) (K:Value->World->Prop) (w:World) (h:B172 b K w):Zm prog 172 #[b.v] w K:=cq (sk:=.leaf) func172 (by kernel_rfl) (by kernel_rfl) (by kernel_rfl) h
def B216 (b:Sl) (e:Value) (K:Value->World->Prop) (w:World):Prop:=
 Calls prog 257 #[b.v,e] w λ d f=>
 ∃ c,(d=.returned (.int .i64 c))/\
 K (.bool (decide (c >= 0))) f
theorem ZwJ (b:Sl) (c:Value) (K:Value->World->Prop) (w:World) (h:B216 b c K w):Zm prog 216 #[b.v,c] w K:=cq (sk:=.leaf) func216 (by kernel_rfl) (by kernel_rfl) (by kernel_rfl) h
def B257 (e:Sl) (m:Value) (K:Value->World->Prop) (w:World):Prop:=
 ∃ (d:Int->World->Prop) (j:Int->World->Nat),(d 0 w)/\∀ (o:Env) (b:Int) (c:World),d b c->
 Br (decide (b<(↑e.len:Int)))
 (Rng b e.len (Zc e.a λ k=>
 ∃ g,(Aw c (Addr.add k b.toNat) [.int .i64 g])/\
 ZaK prog cl m [.int .i64 g] c λ l f=>
 ∃ i,(l=.returned (.bool i))/\
 Br i
 (K (.int .i64 b) f)
 ((d (IntKind.i64.wrap (b + 1)) f)/\j (IntKind.i64.wrap (b + 1)) f<j b c)))
 (K (.int .i64 ((-1))) c)
def ZzX:Sk:=(.seq .leaf (.seq (.seq .leaf (.block (.loop [8] [(.int .i64)] [4,5,8,9,10,11,12,13,14,15,16,17,18] .leaf))) .leaf))
theorem Zwk (b:Sl) (c:Value) (K:Value->World->Prop) (w:World) (h:B257 b c K w):Zm prog 257 #[b.v,c] w K:=cq (sk:=ZzX) func257 (by kernel_rfl) (by kernel_rfl) (by kernel_rfl) h
def B236 (b:Sl) (d:Int) (c:Sl) (K:Value->World->Prop) (w:World):Prop:=
 ((0:Int)<=d)/\
 ((d:Int)<=(↑b.len:Int))/\
 Br ((↑c.len:Int)==0)
 (K (.slice b.a b.len b.cap) w)
 (Br (d==(↑b.len:Int))
 (∃ i:World,∃ f:Sl,((Builtin.append_ #[28,28] 28 #[.slice b.a b.len b.cap,.slice c.a c.len c.cap]).run prog w=.ok (.slice f.a f.len f.cap) i)/\
 K (.slice f.a f.len f.cap) i)
 (Br (decide (IntKind.i64.wrap ((↑b.len:Int) + (↑c.len:Int))>(↑b.cap:Int)))
 (((0:Int)<=d)/\
 ((d:Int)<=(↑b.cap:Int))/\
 ∃ k:World,∃ e:Sl,((Builtin.append_ #[28,3] 28 #[.slice b.a d.toNat b.cap,.int .i64 (IntKind.i64.wrap (IntKind.i64.wrap ((↑b.len:Int) + (↑c.len:Int)) - d))]).run prog w=.ok (.slice e.a e.len e.cap) k)/\
 ((0:Int)<=d)/\
 ((d:Int)<=(↑e.len:Int))/\
 ∃ l:World,∃ s:Int,((Builtin.copy_ #[28,28] 3 #[.slice (Zb1 e.a d.toNat e.cap 1) (e.len - d.toNat) (e.cap - d.toNat),.slice c.a c.len c.cap]).run prog k=.ok (.int .i64 s) l)/\
 Drw l λ C z=>
 ((0:Int)<=IntKind.i64.wrap (d + (↑c.len:Int)))/\
 ((IntKind.i64.wrap (d + (↑c.len:Int)):Int)<=(↑e.len:Int))/\
 ((0:Int)<=d)/\
 ((d:Int)<=(↑b.len:Int))/\
 ∃ m:World,∃ t:Int,((Builtin.copy_ #[28,28] 3 #[.slice (Zb1 e.a (IntKind.i64.wrap (d + (↑c.len:Int))).toNat e.cap 1) (e.len - (IntKind.i64.wrap (d + (↑c.len:Int))).toNat) (e.cap - (IntKind.i64.wrap (d + (↑c.len:Int))).toNat),.slice (Zb1 b.a d.toNat b.cap 1) (b.len - d.toNat) (b.cap - d.toNat)]).run prog z=.ok (.int .i64 t) m)/\
 K (.slice e.a e.len e.cap) m)
 (((0:Int)<=IntKind.i64.wrap ((↑b.len:Int) + (↑c.len:Int)))/\
 ((IntKind.i64.wrap ((↑b.len:Int) + (↑c.len:Int)):Int)<=(↑b.cap:Int))/\
 ((0:Int)<=IntKind.i64.wrap (d + (↑c.len:Int)))/\
 ((IntKind.i64.wrap (d + (↑c.len:Int)):Int)<=(↑(IntKind.i64.wrap ((↑b.len:Int) + (↑c.len:Int))).toNat:Int))/\
 Ext prog 264 #[.slice c.a c.len c.cap,.slice (Zb1 b.a (IntKind.i64.wrap (d + (↑c.len:Int))).toNat b.cap 1) ((IntKind.i64.wrap ((↑b.len:Int) + (↑c.len:Int))).toNat - (IntKind.i64.wrap (d + (↑c.len:Int))).toNat) (b.cap - (IntKind.i64.wrap (d + (↑c.len:Int))).toNat)] w λ q n=>
 ∃ g,(q=.returned (.bool g))/\
 Br (!g)
 (Drw n λ D A=>
 ((0:Int)<=IntKind.i64.wrap (d + (↑c.len:Int)))/\
 ((IntKind.i64.wrap (d + (↑c.len:Int)):Int)<=(↑(IntKind.i64.wrap ((↑b.len:Int) + (↑c.len:Int))).toNat:Int))/\
 ((0:Int)<=d)/\
 ((d:Int)<=(↑(IntKind.i64.wrap ((↑b.len:Int) + (↑c.len:Int))).toNat:Int))/\
 ∃ o:World,∃ u:Int,((Builtin.copy_ #[28,28] 3 #[.slice (Zb1 b.a (IntKind.i64.wrap (d + (↑c.len:Int))).toNat b.cap 1) ((IntKind.i64.wrap ((↑b.len:Int) + (↑c.len:Int))).toNat - (IntKind.i64.wrap (d + (↑c.len:Int))).toNat) (b.cap - (IntKind.i64.wrap (d + (↑c.len:Int))).toNat),.slice (Zb1 b.a d.toNat b.cap 1) ((IntKind.i64.wrap ((↑b.len:Int) + (↑c.len:Int))).toNat - d.toNat) (b.cap - d.toNat)]).run prog A=.ok (.int .i64 u) o)/\
 ((0:Int)<=d)/\
 ((d:Int)<=(↑(IntKind.i64.wrap ((↑b.len:Int) + (↑c.len:Int))).toNat:Int))/\
 ∃ p:World,∃ v:Int,((Builtin.copy_ #[28,28] 3 #[.slice (Zb1 b.a d.toNat b.cap 1) ((IntKind.i64.wrap ((↑b.len:Int) + (↑c.len:Int))).toNat - d.toNat) (b.cap - d.toNat),.slice c.a c.len c.cap]).run prog o=.ok (.int .i64 v) p)/\
 K (.slice b.a ((IntKind.i64.wrap ((↑b.len:Int) + (↑c.len:Int))).toNat) b.cap) p)
 (((0:Int)<=(↑b.len:Int))/\
 (((↑b.len:Int):Int)<=(↑(IntKind.i64.wrap ((↑b.len:Int) + (↑c.len:Int))).toNat:Int))/\
 ∃ j:World,∃ x:Int,((Builtin.copy_ #[28,28] 3 #[.slice (Zb1 b.a (↑b.len:Int).toNat b.cap 1) ((IntKind.i64.wrap ((↑b.len:Int) + (↑c.len:Int))).toNat - (↑b.len:Int).toNat) (b.cap - (↑b.len:Int).toNat),.slice c.a c.len c.cap]).run prog n=.ok (.int .i64 x) j)/\
 ((0:Int)<=d)/\
 ((d:Int)<=(↑(IntKind.i64.wrap ((↑b.len:Int) + (↑c.len:Int))).toNat:Int))/\
 Calls prog 265 #[.slice (Zb1 b.a d.toNat b.cap 1) ((IntKind.i64.wrap ((↑b.len:Int) + (↑c.len:Int))).toNat - d.toNat) (b.cap - d.toNat),.int .i64 ((↑c.len:Int))] j λ r y=>
 (r=.returned (.tuple #[]))/\
 K (.slice b.a ((IntKind.i64.wrap ((↑b.len:Int) + (↑c.len:Int))).toNat) b.cap) y))))
theorem Zwt (b:Sl) (d:Int) (c:Sl) (K:Value->World->Prop) (w:World) (h:B236 b d c K w):Zm prog 236 #[.slice b.a b.len b.cap,.int .i64 d,.slice c.a c.len c.cap] w K:=cq (sk:=.leaf) func236 (by kernel_rfl) (by kernel_rfl) (by kernel_rfl) h
def B235 (e:Sl) (k:Int) (K:Value->World->Prop) (w:World):Prop:=
 ∃ (g:Int->Int->World->Prop) (j:Int->Int->World->Nat),(g 0 ((↑e.len:Int)) w)/\∀ (A:Env) (b:Int) (c:Int) (d:World),g b c d->
 Br (decide (b<c))
 (Rng (IntKind.i64.wrap (Zf8 IntKind.u64 (IntKind.u64.wrap (IntKind.i64.wrap (b + c))) 1)) e.len (Zc e.a λ s=>
 ∃ l,(Aw d (Addr.add s ((IntKind.i64.wrap (Zf8 IntKind.u64 (IntKind.u64.wrap (IntKind.i64.wrap (b + c))) 1)).toNat)) [.int .i64 l])/\
 Calls prog 249 #[.int .i64 l,.int .i64 k] d λ v i=>
 ∃ m,(v=.returned (.bool m))/\
 Br m
 ((g (IntKind.i64.wrap (IntKind.i64.wrap (Zf8 IntKind.u64 (IntKind.u64.wrap (IntKind.i64.wrap (b + c))) 1) + 1)) c i)/\j (IntKind.i64.wrap (IntKind.i64.wrap (Zf8 IntKind.u64 (IntKind.u64.wrap (IntKind.i64.wrap (b + c))) 1) + 1)) c i<j b c d)
 ((g b (IntKind.i64.wrap (Zf8 IntKind.u64 (IntKind.u64.wrap (IntKind.i64.wrap (b + c))) 1)) i)/\j b (IntKind.i64.wrap (Zf8 IntKind.u64 (IntKind.u64.wrap (IntKind.i64.wrap (b + c))) 1)) i<j b c d)))
 (Br (decide (b<(↑e.len:Int)))
 (Rng b e.len (Zc e.a λ t=>
 ∃ n,(Aw d (Addr.add t b.toNat) [.int .i64 n])/\
 Br (n==k)
 (K (.tuple #[.int .i64 b,.bool true]) d)
 (Rng b e.len (Zc e.a λ u=>
 ∃ o,(Aw d (Addr.add u b.toNat) [.int .i64 o])/\
 Calls prog 263 #[.int .i64 o] d λ x r=>
 ∃ p,(x=.returned (.bool p))/\
 Br p
 (Calls prog 263 #[.int .i64 k] r λ y z=>
 ∃ q,(y=.returned (.bool q))/\
 K (.tuple #[.int .i64 b,.bool q]) z)
 (K (.tuple #[.int .i64 b,.bool false]) r)))))
 (K (.tuple #[.int .i64 b,.bool false]) d))
def Zz0:Sk:=(.seq .leaf (.seq .leaf (.seq .leaf (.seq (.block (.loop [7,8] [(.int .i64),(.int .i64)] [7,8,9,13,14,15,16,17,18,19,20,21,22,23,24,25,26,27,28,29,30] .leaf)) .leaf))))
theorem Zwu (b:Sl) (c:Int) (K:Value->World->Prop) (w:World) (h:B235 b c K w):Zm prog 235 #[b.v,.int .i64 c] w K:=cq (sk:=Zz0) func235 (by kernel_rfl) (by kernel_rfl) (by kernel_rfl) h
def B249 (a:Int) (b:Int) (K:Value->World->Prop) (w:World):Prop:=
 Calls prog 259 #[.int .i64 a] w λ g e=>
 ∃ c,(g=.returned (.bool c))/\
 Br c
 (Calls prog 259 #[.int .i64 b] e λ i f=>
 ∃ d,(i=.returned (.bool d))/\
 Br (!d)
 (K (.bool true) f)
 (K (.bool (decide (a<b))) f))
 (K (.bool (decide (a<b))) e)
theorem Zwn (a:Int) (b:Int) (K:Value->World->Prop) (w:World) (h:B249 a b K w):Zm prog 249 #[.int .i64 a,.int .i64 b] w K:=cq (sk:=.leaf) func249 (by kernel_rfl) (by kernel_rfl) (by kernel_rfl) h
def B263 (a:Int) (K:Value->World->Prop) (w:World):Prop:=
 K (.bool (a !=a)) w
theorem Zwg (a:Int) (K:Value->World->Prop) (w:World) (h:B263 a K w):Zm prog 263 #[.int .i64 a] w K:=cq (sk:=.leaf) func263 (by kernel_rfl) (by kernel_rfl) (by kernel_rfl) h
def B259 (a:Int) (K:Value->World->Prop) (w:World):Prop:=
 K (.bool (a !=a)) w
theorem ZrY (a:Int) (K:Value->World->Prop) (w:World) (h:B259 a K w):Zm prog 259 #[.int .i64 a] w K:=cq (sk:=.leaf) func259 (by kernel_rfl) (by kernel_rfl) (by kernel_rfl) h
def B160 (s:Int) (j:Sl) (K:Value->World->Prop) (w:World):Prop:=
 New (.cells #[.int .i64 s,j.v] 35 (0,0)) (λ d c=>
 ∃ o,(Aw c ⟨d,0,none⟩ [.int .i64 o])/\
 Br (decide (o<1))
 (K (.bool false) c)
 (∃ p,(Aw c ⟨d,0,none⟩ [.int .i64 p])/\
 Br (decide (p>60))
 (K (.bool false) c)
 (∃ g:Sl,(Aw c ⟨d,0 + 1,none⟩ [g.v])/\
 Br (decide ((↑g.len:Int)<1))
 (K (.bool false) c)
 (∃ i:Sl,(Aw c ⟨d,0 + 1,none⟩ [i.v])/\
 Br (decide ((↑i.len:Int)>4))
 (K (.bool false) c)
 (∃ e:Sl,(Aw c ⟨d,0 + 1,none⟩ [e.v])/\
 Calls prog 216 #[e.v,.func (.func 215) #[] #[]] c λ q k=>
 ∃ l,(q=.returned (.bool l))/\
 Br l
 (K (.bool false) k)
 (∃ m,∃ f:Sl,(Aw k ⟨d,0,none⟩ [.int .i64 m,f.v])/\
 Calls prog 217 #[.agg #[.int .i64 m,f.v]] k λ r t=>
 ∃ n,(r=.returned (.int .i64 n))/\
 K (.bool (decide (n<=10))) t)))))) w
theorem Zxp (c:Int) (b:Sl) (K:Value->World->Prop) (w:World) (h:B160 c b K w):Zm prog 160 #[.agg #[.int .i64 c,b.v]] w K:=cq (sk:=.leaf) func160 (by kernel_rfl) (by kernel_rfl) (by kernel_rfl) h
def B215 (a:Int) (K:Value->World->Prop) (w:World):Prop:=
 Br (decide (a<1))
 (K (.bool true) w)
 (K (.bool (decide (a>10))) w)
theorem ZwK (a:Int) (K:Value->World->Prop) (w:World) (h:B215 a K w):Zm prog 215 #[.int .i64 a] w K:=cq (sk:=.leaf) func215 (by kernel_rfl) (by kernel_rfl) (by kernel_rfl) h
def B217 (o:Int) (g:Sl) (K:Value->World->Prop) (w:World):Prop:=
 New (.cells #[.int .i64 o,g.v] 35 (0,0)) (λ n k=>
 ∃ c:Sl,(Aw k ⟨n,0 + 1,none⟩ [c.v])/\
 ∃ (f:Int->Int->World->Prop) (l:Int->Int->World->Nat),(f 0 0 k)/\∀ (p:Env) (e:Int) (b:Int) (d:World),f e b d->
 Br (decide (b<(↑c.len:Int)))
 (Rng b c.len (Zc c.a λ m=>
 ∃ i,(Aw d (Addr.add m b.toNat) [.int .i64 i])/\
 (f (IntKind.i64.wrap (e + i)) (IntKind.i64.wrap (b + 1)) d)/\l (IntKind.i64.wrap (e + i)) (IntKind.i64.wrap (b + 1)) d<l e b d))
 (K (.int .i64 e) d)) w
def Zz7:Sk:=(.seq .leaf (.seq .leaf (.seq (.seq .leaf (.block (.loop [3,9] [(.int .i64),(.int .i64)] [3,5,9,10,11,12,13,14,15,16] .leaf))) .leaf)))
theorem ZwI (c:Int) (b:Sl) (K:Value->World->Prop) (w:World) (h:B217 c b K w):Zm prog 217 #[.agg #[.int .i64 c,b.v]] w K:=cq (sk:=Zz7) func217 (by kernel_rfl) (by kernel_rfl) (by kernel_rfl) h
def B162 (r:Int) (f:Sl) (K:Value->World->Prop) (w:World):Prop:=
 New (.cells #[.int .i64 r,f.v] 35 (0,0)) (λ e m=>
 ∃ g,∃ b:Sl,(Aw m ⟨e,0,none⟩ [.int .i64 g,b.v])/\
 Calls prog 160 #[.agg #[.int .i64 g,b.v]] m λ p n=>
 ∃ i,(p=.returned (.bool i))/\
 Br (!i)
 (K (.int .i64 0) n)
 (Drw n λ d t=>
 ∃ j,(At d ⟨e,0,none⟩ [.int .i64 j])/\
 ∃ k,∃ c:Sl,(At d ⟨e,0,none⟩ [.int .i64 k,c.v])/\
 Calls prog 217 #[.agg #[.int .i64 k,c.v]] t λ q o=>
 ∃ l,(q=.returned (.int .i64 l))/\
 (d o)/\
 K (.int .i64 (IntKind.i64.wrap (j * l))) o)) w
theorem Zxn (c:Int) (b:Sl) (K:Value->World->Prop) (w:World) (h:B162 c b K w):Zm prog 162 #[.agg #[.int .i64 c,b.v]] w K:=cq (sk:=.leaf) func162 (by kernel_rfl) (by kernel_rfl) (by kernel_rfl) h
def B237 (k:Int) (c:Sl) (e:Int) (K:Value->World->Prop) (w:World):Prop:=
 New (.cells #[.int .i64 k,c.v] 35 (0,0)) (λ i d=>
 Br (decide (e >= 0))
 (∃ g,∃ b:Sl,(Aw d ⟨i,0,none⟩ [.int .i64 g,b.v])/\
 Calls prog 162 #[.agg #[.int .i64 g,b.v]] d λ j m=>
 ∃ f,(j=.returned (.int .i64 f))/\
 K (.bool (decide (e<f))) m)
 (K (.bool false) d)) w
theorem Zws (c:Int) (b:Sl) (d:Int) (K:Value->World->Prop) (w:World) (h:B237 c b d K w):Zm prog 237 #[.agg #[.int .i64 c,b.v],.int .i64 d] w K:=cq (sk:=.leaf) func237 (by kernel_rfl) (by kernel_rfl) (by kernel_rfl) h
def B240 (s:Int) (f:Sl) (c:Int) (K:Value->World->Prop) (w:World):Prop:=
 New (.cells #[.int .i64 s,f.v] 35 (0,0)) (λ k o=>
 ∃ m,∃ e:Sl,(Aw o ⟨k,0,none⟩ [.int .i64 m,e.v])/\
 Calls prog 237 #[.agg #[.int .i64 m,e.v],.int .i64 c] o λ p j=>
 ∃ n,(p=.returned (.bool n))/\
 Br (!n)
 (K (.tuple #[.string (ByteArray.mk #[]),.int .i64 1]) j)
 (∃ l,∃ d:Sl,(Aw j ⟨k,0,none⟩ [.int .i64 l,d.v])/\
 Calls prog 217 #[.agg #[.int .i64 l,d.v]] j λ q t=>
 ∃ b,(q=.returned (.int .i64 b))/\
 Drw t λ x u=>
 Nz b (Nz b (Nz b (((0:Int)<=IntKind.i64.wrap (c.tmod b + 1))/\
 ((IntKind.i64.wrap (c.tmod b + 1):Int)<=10)/\
 ((0:Int)<=c.tmod b)/\
 ((c.tmod b:Int)<=(↑(IntKind.i64.wrap (c.tmod b + 1)).toNat:Int))/\
 Calls prog 266 #[.int .i64 (IntKind.i64.wrap (IntKind.i64.wrap (c.tdiv b) + 1))] u λ r v=>
 ∃ g,(r=.returned (.string g))/\
 (((↑(g.size + ((ByteArray.mk #[65,66,67,68,69,70,71,72,74,75]).extract (c.tmod b).toNat (IntKind.i64.wrap (c.tmod b + 1)).toNat).size):Int):Int)<=9223372036854775807)/\
 K (.tuple #[.string (g++(ByteArray.mk #[65,66,67,68,69,70,71,72,74,75]).extract (c.tmod b).toNat (IntKind.i64.wrap (c.tmod b + 1)).toNat),.int .i64 0]) v))))) w
theorem Zwq (c:Int) (b:Sl) (d:Int) (K:Value->World->Prop) (w:World) (h:B240 c b d K w):Zm prog 240 #[.agg #[.int .i64 c,b.v],.int .i64 d] w K:=cq (sk:=.leaf) func240 (by kernel_rfl) (by kernel_rfl) (by kernel_rfl) h
def B234 (U:Int) (u:Sl) (V:ByteArray) (K:Value->World->Prop) (w:World):Prop:=
 New (.cells #[.int .i64 U,u.v] 35 (0,0)) (λ m I=>
 ∃ y,∃ f:Sl,(Aw I ⟨m,0,none⟩ [.int .i64 y,f.v])/\
 Calls prog 160 #[.agg #[.int .i64 y,f.v]] I λ M J=>
 ∃ z,(M=.returned (.bool z))/\
 Br (!z)
 (K (.tuple #[.int .i64 0,.int .i64 1]) J)
 (New (.stringIter V 0) (λ L Y=>
 ∃ (l:Int->Int->World->Prop) (s:Int->Int->World->Nat),(l 0 ((-1)) Y)/\∀ (Z:Env) (b:Int) (c:Int) (o:World),l b c o->
 Zuc ((some ⟨L,0,none⟩)) (λ T e p=>
 ∃ (k:Bool->World->Prop),(Br (decide (c >= 0))
 (k true p)
 (Br (T==0)
 (Br (e==48)
 (k true p)
 (k (decide (b>60)) p))
 (k (decide (b>60)) p)))/\
 ∀ (aa:Env) (A:Bool) (q:World),k A q->
 Br A
 (K (.tuple #[.int .i64 0,.int .i64 2]) q)
 (∃ (t:Bool->World->Prop),(Br (decide (e >= 48))
 (t (decide (e<=57)) q)
 (t false q))/\
 ∀ (ab:Env) (C:Bool) (r:World),t C r->
 Br C
 ((l (IntKind.i64.wrap (IntKind.i64.wrap (10 * b) + IntKind.i64.wrap (IntKind.i32.wrap (e - 48)))) c r)/\s (IntKind.i64.wrap (IntKind.i64.wrap (10 * b) + IntKind.i64.wrap (IntKind.i32.wrap (e - 48)))) c r<s b c o)
 (Calls prog 262 #[.int .i32 e] r λ N x=>
 ∃ n,(N=.returned (.int .i64 n))/\
 Br (decide (n<0))
 (K (.tuple #[.int .i64 0,.int .i64 2]) x)
 ((l b n x)/\s b n x<s b c o))))
 (λ j=>
 Br (decide (b<1))
 (K (.tuple #[.int .i64 0,.int .i64 2]) j)
 (∃ D,(Aw j ⟨m,0,none⟩ [.int .i64 D])/\
 Br (decide (b>D))
 (K (.tuple #[.int .i64 0,.int .i64 2]) j)
 (Br (decide (c<0))
 (K (.tuple #[.int .i64 0,.int .i64 2]) j)
 (∃ E,∃ g:Sl,(Aw j ⟨m,0,none⟩ [.int .i64 E,g.v])/\
 Calls prog 217 #[.agg #[.int .i64 E,g.v]] j λ O v=>
 ∃ F,(O=.returned (.int .i64 F))/\
 Br (decide (c >= F))
 (K (.tuple #[.int .i64 0,.int .i64 2]) v)
 (∃ G,∃ i:Sl,(Aw v ⟨m,0,none⟩ [.int .i64 G,i.v])/\
 Calls prog 217 #[.agg #[.int .i64 G,i.v]] v λ Q X=>
 ∃ H,(Q=.returned (.int .i64 H))/\
 K (.tuple #[.int .i64 (IntKind.i64.wrap (IntKind.i64.wrap (IntKind.i64.wrap (b - 1) * H) + c)),.int .i64 0]) X))))) o) J)) w
def Zz1:Sk:=(.seq .leaf (.seq .leaf (.seq .leaf (.seq (.seq .leaf (.block (.loop [6,7] [(.int .i64),(.int .i64)] [4,5,6,7,8,9,15,16,17,18,19,20,21,22,23,24,25,26,27,28,29,30,31,32,33,34,35,36,37,38,39,40,41,42,43,44,45,46,47,48,49,50] (.seq .leaf (.seq .leaf (.block (.seq .leaf (.block (.cut [23] [.bool] [23,24,25,26,27,28,29,30,31,32,33,34,35,36,37] .leaf (.cond .leaf (.cut [38] [.bool] [38,39,40,41,42,43,44] .leaf .leaf))))))))))) .leaf))))
theorem Zwv (c:Int) (b:Sl) (d:ByteArray) (K:Value->World->Prop) (w:World) (h:B234 c b d K w):Zm prog 234 #[.agg #[.int .i64 c,b.v],.string d] w K:=cq (sk:=Zz1) func234 (by kernel_rfl) (by kernel_rfl) (by kernel_rfl) h
def B262 (f:Int) (K:Value->World->Prop) (w:World):Prop:=
 ∃ (c:Int->World->Prop) (e:Int->World->Nat),(c 0 w)/\∀ (g:Env) (a:Int) (b:World),c a b->
 Br (decide (a<10))
 (∃ d:UInt8,((0:Int)<=a)/\
 ((ByteArray.mk #[65,66,67,68,69,70,71,72,74,75])[a.toNat]? =some d)/\
 Br (IntKind.i32.wrap (↑d.toNat:Int)==f)
 (K (.int .i64 a) b)
 ((c (IntKind.i64.wrap (a + 1)) b)/\e (IntKind.i64.wrap (a + 1)) b<e a b))
 (K (.int .i64 ((-1))) b)
def ZzW:Sk:=(.seq .leaf (.seq (.seq .leaf (.block (.loop [4] [(.int .i64)] [2,3,4,5,6,7,8,9,10,11,12,13] .leaf))) .leaf))
theorem Zwh (a:Int) (K:Value->World->Prop) (w:World) (h:B262 a K w):Zm prog 262 #[.int .i32 a] w K:=cq (sk:=ZzW) func262 (by kernel_rfl) (by kernel_rfl) (by kernel_rfl) h
def B238 (t:Int) (k:Sl) (u:Int) (K:Value->World->Prop) (w:World):Prop:=
 New (.cells #[.int .i64 t,k.v] 35 (0,0)) (λ m o=>
 ∃ n,∃ e:Sl,(Aw o ⟨m,0,none⟩ [.int .i64 n,e.v])/\
 Calls prog 217 #[.agg #[.int .i64 n,e.v]] o λ s p=>
 ∃ l,(s=.returned (.int .i64 l))/\
 Nz l (∃ f:Sl,(Aw p ⟨m,0 + 1,none⟩ [f.v])/\
 ∃ (j:Int->Int->World->Prop) (q:Int->Int->World->Nat),(j (u.tmod l) 0 p)/\∀ (v:Env) (b:Int) (c:Int) (d:World),j b c d->
 Br (decide (c<(↑f.len:Int)))
 (Rng c f.len (Zc f.a λ r=>
 ∃ g,(Aw d (Addr.add r c.toNat) [.int .i64 g])/\
 Br (decide (b<g))
 (K (.tuple #[.int .i64 b,.int .i64 (IntKind.i64.wrap (IntKind.i64.wrap (g - 1) - b))]) d)
 ((j (IntKind.i64.wrap (b - g)) (IntKind.i64.wrap (c + 1)) d)/\q (IntKind.i64.wrap (b - g)) (IntKind.i64.wrap (c + 1)) d<q b c d)))
 (K (.tuple #[.int .i64 0,.int .i64 0]) d))) w
def ZzZ:Sk:=(.seq .leaf (.seq .leaf (.seq (.seq .leaf (.block (.loop [6,16] [(.int .i64),(.int .i64)] [4,5,6,8,16,17,18,19,20,21,22,23,24,25,26,27,28,29,30,31] .leaf))) .leaf)))
theorem Zwr (c:Int) (b:Sl) (d:Int) (K:Value->World->Prop) (w:World) (h:B238 c b d K w):Zm prog 238 #[.agg #[.int .i64 c,b.v],.int .i64 d] w K:=cq (sk:=ZzZ) func238 (by kernel_rfl) (by kernel_rfl) (by kernel_rfl) h
def B188 (ar:Int) (F:Sl) (H:Sl) (j:Int) (K:Value->World->Prop) (w:World):Prop:=
 New (.cells #[.int .i64 ar,F.v] 35 (0,0)) (λ r I=>
 ∃ (N:World->Prop),(Br (decide (j<1))
 (K (.tuple #[.slice none 0 0,.int .i64 1]) I)
 (∃ O,∃ m:Sl,(Aw I ⟨r,0,none⟩ [.int .i64 O,m.v])/\
 Calls prog 162 #[.agg #[.int .i64 O,m.v]] I λ am ae=>
 ∃ Q,(am=.returned (.int .i64 Q))/\
 Br (decide (j>Q))
 (K (.tuple #[.slice none 0 0,.int .i64 1]) ae)
 (N  ae)))/\
 ∀ (az:Env)  (J:World),N  J->
 ∃ T,∃ n:Sl,(Aw J ⟨r,0,none⟩ [.int .i64 T,n.v])/\
 Calls prog 162 #[.agg #[.int .i64 T,n.v]] J λ an ax=>
 ∃ G,(an=.returned (.int .i64 G))/\
 ∃ af:World,∃ f:Sl,((Instr.makeSlice 261 (.int .i64 G) (.int .i64 G)).run prog ax=.ok (f.v) af)/\
 ∃ (u:Int->World->Prop) (D:Int->World->Nat),(u 0 af)/\∀ (a0:Env) (e:Int) (i:World),u e i->
 Br (decide (e<(↑H.len:Int)))
 (Rng e H.len (Zc H.a λ ag=>
 ∃ z,(Aw i (Addr.add ag e.toNat) [.int .i64 z])/\
 ∃ U,∃ o:Sl,(Aw i ⟨r,0,none⟩ [.int .i64 U,o.v])/\
 Calls prog 237 #[.agg #[.int .i64 U,o.v],.int .i64 z] i λ ao L=>
 ∃ V,(ao=.returned (.bool V))/\
 Br V
 (Rng z f.len (Zc f.a λ ah=>
 ∃ M:World,(St 4 (Addr.add ah z.toNat) (.bool true) L M)/\
 (u (IntKind.i64.wrap (e + 1)) M)/\D (IntKind.i64.wrap (e + 1)) M<D e i))
 ((u (IntKind.i64.wrap (e + 1)) L)/\D (IntKind.i64.wrap (e + 1)) L<D e i)))
 (∃ X,∃ p:Sl,(Aw i ⟨r,0,none⟩ [.int .i64 X,p.v])/\
 Calls prog 162 #[.agg #[.int .i64 X,p.v]] i λ ap ay=>
 ∃ Y,(ap=.returned (.int .i64 Y))/\
 ∃ (v:Sl->Sl->Int->World->Prop) (E:Sl->Sl->Int->World->Nat),(v ⟨none,0,0⟩ ⟨none,0,0⟩ 0 ay)/\∀ (a1:Env) (d:Sl) (y:Sl) (b:Int) (k:World),v d y b k->
 Br (decide (b<Y))
 (∃ (x:Sl->World->Prop),(∃ Z,∃ q:Sl,(Aw k ⟨r,0,none⟩ [.int .i64 Z,q.v])/\
 Calls prog 238 #[.agg #[.int .i64 Z,q.v],.int .i64 b] k λ aq A=>
 ∃ aa au,(aq=.returned (.tuple #[.int .i64 aa,.int .i64 au]))/\
 Br (aa==0)
 (x ⟨none,0,0⟩ A)
 (Rng b f.len (Zc f.a λ ai=>
 ∃ ab,(Aw A (Addr.add ai b.toNat) [.bool ab])/\
 Br ab
 (x ⟨none,0,0⟩ A)
 (x y A))))/\
 ∀ (a2:Env) (l:Sl) (t:World),x l t->
 Rng b f.len (Zc f.a λ aj=>
 ∃ ac,(Aw t (Addr.add aj b.toNat) [.bool ac])/\
 Br ac
 ((v d l (IntKind.i64.wrap (b + 1)) t)/\E d l (IntKind.i64.wrap (b + 1)) t<E d y b k)
 (New (.cells #[.int .i64 b] 3 (0,0)) (λ ak av=>
 ∃ ad:World,∃ s:Sl,((Builtin.append_ #[28,28] 28 #[d.v,.slice ((some ⟨ak,0,none⟩)) 1 1]).run prog av=.ok (s.v) ad)/\
 New (.cells #[.int .i64 b] 3 (0,0)) (λ al aw=>
 ∃ C:World,∃ g:Sl,((Builtin.append_ #[28,28] 28 #[l.v,.slice ((some ⟨al,0,none⟩)) 1 1]).run prog aw=.ok (g.v) C)/\
 Br ((↑g.len:Int)==j)
 (K (.tuple #[g.v,.int .i64 0]) C)
 ((v s g (IntKind.i64.wrap (b + 1)) C)/\E s g (IntKind.i64.wrap (b + 1)) C<E d y b k)) ad) t)))
 (Br (decide ((↑d.len:Int)<j))
 (K (.tuple #[.slice none 0 0,.int .i64 3]) k)
 (((0:Int)<=j)/\
 ((j:Int)<=(↑d.cap:Int))/\
 K (.tuple #[.slice d.a j.toNat d.cap,.int .i64 0]) k)))) w
def ZAf:Sk:=(.seq .leaf (.cut [] [] [6,7,16,17,18,19,20,21,22,23] .leaf (.seq .leaf (.seq (.seq .leaf (.block (.loop [29] [(.int .i64)] [10,29,30,31,32,33,34,35,36,37,38,39] .leaf))) (.seq .leaf (.seq (.seq .leaf (.block (.loop [11,12,42] [.sl,.sl,(.int .i64)] [6,7,11,12,13,14,15,42,43,44,45,46,47,48,49,50,51,52,53,54,55,56,57,58,59,60,61,62,63,64,65,66,67,68,69,70,71,72,73,74,75,76] (.seq .leaf (.seq .leaf (.seq (.block (.seq .leaf (.cut [12] [.sl] [12,14,15,45,46,47,48,49,50,51,52,53,54,55,56,57,58] .leaf .leaf))) .leaf)))))) .leaf))))))
theorem ZwY (d:Int) (b:Sl) (c:Sl) (e:Int) (K:Value->World->Prop) (w:World) (h:B188 d b c e K w):Zm prog 188 #[.agg #[.int .i64 d,b.v],c.v,.int .i64 e] w K:=cq (sk:=ZAf) func188 (by kernel_rfl) (by kernel_rfl) (by kernel_rfl) h
def B226 (a:Int) (K:Value->World->Prop) (w:World):Prop:=
 Br (decide (a >= 0))
 (K (.bool (decide (a<=10000))) w)
 (K (.bool false) w)
theorem ZwB (a:Int) (K:Value->World->Prop) (w:World) (h:B226 a K w):Zm prog 226 #[.int .i64 a] w K:=cq (sk:=.leaf) func226 (by kernel_rfl) (by kernel_rfl) (by kernel_rfl) h
def B197 (c:Sl) (k:Sl) (t:Value) (K:Value->World->Prop) (w:World):Prop:=
 ∃ (s:World->Prop),(Br (decide ((↑c.len:Int)<1))
 (K (.bool false) w)
 (Br (decide ((↑c.len:Int)>8))
 (K (.bool false) w)
 (Br ((↑k.len:Int) !=(↑c.len:Int))
 (K (.bool false) w)
 (s  w))))/\
 ∀ (Z:Env)  (E:World),s  E->
 ∃ (n:Int->Bool->Int->World->Prop) (o:Int->Bool->Int->World->Nat),(n 0 true (IntKind.i64.wrap ((↑c.len:Int) - 1)) E)/\∀ (aa:Env) (d:Int) (j:Bool) (b:Int) (l:World),n d j b l->
 Br (decide (b >= 0))
 (∃ (p:World->Prop),(Drw l λ i Y=>
 Rng b c.len (Zc c.a λ H=>
 ∃ u,(At i (Addr.add H b.toNat) [.int .i64 u])/\
 Calls prog 226 #[.int .i64 u] Y λ T r=>
 ∃ v,(T=.returned (.bool v))/\
 (i r)/\
 Br (!v)
 (K (.bool false) r)
 (Rng b k.len (Zc k.a λ I=>
 ∃ x,(At i (Addr.add I b.toNat) [.int .i64 x])/\
 Calls prog 226 #[.int .i64 x] r λ U m=>
 ∃ y,(U=.returned (.bool y))/\
 (i m)/\
 Br (!y)
 (K (.bool false) m)
 (Br (decide (b>0))
 (Rng b c.len (Zc c.a λ J=>
 ∃ z,(At i (Addr.add J b.toNat) [.int .i64 z])/\
 Rng (IntKind.i64.wrap (b - 1)) c.len (Zc c.a λ L=>
 ∃ A,(At i (Addr.add L ((IntKind.i64.wrap (b - 1)).toNat)) [.int .i64 A])/\
 Br (decide (z>A))
 (K (.bool false) m)
 (p  m))))
 (p  m))))))/\
 ∀ (ab:Env)  (g:World),p  g->
 Rng b k.len (Zc k.a λ M=>
 ∃ e,(Aw g (Addr.add M b.toNat) [.int .i64 e])/\
 Br j
 (Rng b c.len (Zc c.a λ N=>
 ∃ q,(Aw g (Addr.add N b.toNat) [.int .i64 q])/\
 Rng b c.len (Zc c.a λ O=>
 ∃ C,(Aw g (Addr.add O b.toNat) [.int .i64 C])/\
 ZaK prog cl t [.int .i64 b,.int .i64 (IntKind.i64.wrap (C - IntKind.i64.wrap (d + e)))] g λ V F=>
 (V=.returned (.tuple #[]))/\
 (n (IntKind.i64.wrap (d + e)) (decide (IntKind.i64.wrap (d + e)<=q)) (IntKind.i64.wrap (b - 1)) F)/\o (IntKind.i64.wrap (d + e)) (decide (IntKind.i64.wrap (d + e)<=q)) (IntKind.i64.wrap (b - 1)) F<o d j b l)))
 (Rng b c.len (Zc c.a λ Q=>
 ∃ D,(Aw g (Addr.add Q b.toNat) [.int .i64 D])/\
 ZaK prog cl t [.int .i64 b,.int .i64 (IntKind.i64.wrap (D - IntKind.i64.wrap (d + e)))] g λ X G=>
 (X=.returned (.tuple #[]))/\
 (n (IntKind.i64.wrap (d + e)) false (IntKind.i64.wrap (b - 1)) G)/\o (IntKind.i64.wrap (d + e)) false (IntKind.i64.wrap (b - 1)) G<o d j b l))))
 (K (.bool j) l)
def ZAc:Sk:=(.seq .leaf (.cut [] [] [6,10,11,12,13,14,15,16,17,18,19,20,21,22,23,24] .leaf (.seq .leaf (.seq (.seq .leaf (.block (.loop [7,8,9] [(.int .i64),.bool,(.int .i64)] [6,7,8,9,28,29,30,31,32,33,34,35,36,37,38,39,40,41,42,43,44,45,46,47,48,49,50,51,52,53,54,55,56,57,58,59,60,61,62,63,64,65,66,67,68,69,70,71,72,73,74,75,76,77,78,79,80,81,82,83,84,85] (.seq .leaf (.seq (.block (.cut [] [] [6,32,33,34,35,36,37,38,39,40,41,42,43,44,45,46,47,48,49,50,51,52,53,54,55,56,57,58,59,60,61] .leaf .leaf)) .leaf))))) .leaf))))
theorem ZwT (b:Sl) (c:Sl) (d:Value) (K:Value->World->Prop) (w:World) (h:B197 b c d K w):Zm prog 197 #[b.v,c.v,d] w K:=cq (sk:=ZAc) func197 (by kernel_rfl) (by kernel_rfl) (by kernel_rfl) h
def B161 (b:Sl) (c:Sl) (K:Value->World->Prop) (w:World):Prop:=
 Calls prog 197 #[b.v,c.v,.func (.func 218) #[] #[]] w λ e f=>
 ∃ d,(e=.returned (.bool d))/\
 K (.bool d) f
theorem Zxo (b:Sl) (c:Sl) (K:Value->World->Prop) (w:World) (h:B161 b c K w):Zm prog 161 #[b.v,c.v] w K:=cq (sk:=.leaf) func161 (by kernel_rfl) (by kernel_rfl) (by kernel_rfl) h
def B218 (a:Int) (b:Int) (K:Value->World->Prop) (w:World):Prop:=
 K (.tuple #[]) w
theorem ZwH (a:Int) (b:Int) (K:Value->World->Prop) (w:World) (h:B218 a b K w):Zm prog 218 #[.int .i64 a,.int .i64 b] w K:=cq (sk:=.leaf) func218 (by kernel_rfl) (by kernel_rfl) (by kernel_rfl) h
def B131 (d:Sl) (g:Sl) (n:Int) (K:Value->World->Prop) (w:World):Prop:=
 New (.cells #[.int .i64 n] 3 (0,0)) (λ e p=>
 New (.cells #[.int .i64 0] 3 (0,0)) (λ f q=>
 ∃ m:World,(St 3 ⟨f,0,none⟩ (.int .i64 10000) q m)/\
 Calls prog 197 #[d.v,g.v,.func (.func 198) #[] #[.pointer ((some ⟨e,0,none⟩)),.pointer ((some ⟨f,0,none⟩))]] m λ o b=>
 ∃ i,(o=.returned (.bool i))/\
 Br (!i)
 (K (.tuple #[.int .i64 0,.int .i64 1]) b)
 (∃ j,(Aw b ⟨e,0,none⟩ [.int .i64 j])/\
 Br (decide (j<0))
 (K (.tuple #[.int .i64 0,.int .i64 1]) b)
 (∃ k,(Aw b ⟨e,0,none⟩ [.int .i64 k])/\
 Br (decide (k >= (↑d.len:Int)))
 (K (.tuple #[.int .i64 0,.int .i64 1]) b)
 (∃ l,(Aw b ⟨f,0,none⟩ [.int .i64 l])/\
 K (.tuple #[.int .i64 l,.int .i64 0]) b)))) p) w
theorem ZxD (b:Sl) (c:Sl) (d:Int) (K:Value->World->Prop) (w:World) (h:B131 b c d K w):Zm prog 131 #[b.v,c.v,.int .i64 d] w K:=cq (sk:=.leaf) func131 (by kernel_rfl) (by kernel_rfl) (by kernel_rfl) h
def B198 (k:Int) (d:Int) (j:Option Addr) (c:Option Addr) (K:Value->World->Prop) (w:World):Prop:=
 Zc j λ g=>
 ∃ e,(Aw w g [.int .i64 e])/\
 Br (decide (k<=e))
 (Zc c λ i=>
 ∃ a,(Aw w i [.int .i64 a])/\
 ∃ f:World,((Instr.storeAt 3 (.pointer c) (.int .i64 (if d<a then d else a))).run prog w=.ok () f)/\
 K (.tuple #[]) f)
 (K (.tuple #[]) w)
theorem ZrZ (c:Int) (d:Int) (a:Option Addr) (b:Option Addr) (K:Value->World->Prop) (w:World) (h:B198 c d a b K w):Zm prog 198 #[.int .i64 c,.int .i64 d,.pointer a,.pointer b] w K:=cq (sk:=.leaf) func198 (by kernel_rfl) (by kernel_rfl) (by kernel_rfl) h
def B178 (f:Sl) (b:Sl) (g:Int) (e:Int) (K:Value->World->Prop) (w:World):Prop:=
 Calls prog 131 #[f.v,b.v,.int .i64 g] w λ k d=>
 ∃ i j,(k=.returned (.tuple #[.int .i64 i,.int .i64 j]))/\
 Br (j !=0)
 (K (.tuple #[.slice none 0 0,.int .i64 1]) d)
 (Br (decide (e<1))
 (K (.tuple #[.slice none 0 0,.int .i64 1]) d)
 (Br (decide (e>10000))
 (K (.tuple #[.slice none 0 0,.int .i64 1]) d)
 (Br (decide (e>i))
 (K (.tuple #[.slice none 0 0,.int .i64 3]) d)
 (Calls prog 228 #[b.v,.int .i64 g,.int .i64 e] d λ l m=>
 ∃ c:Sl,(l=.returned (c.v))/\
 K (.tuple #[c.v,.int .i64 0]) m))))
theorem Zw8 (b:Sl) (c:Sl) (d:Int) (e:Int) (K:Value->World->Prop) (w:World) (h:B178 b c d e K w):Zm prog 178 #[b.v,c.v,.int .i64 d,.int .i64 e] w K:=cq (sk:=.leaf) func178 (by kernel_rfl) (by kernel_rfl) (by kernel_rfl) h
def B184 (f:Sl) (b:Sl) (e:Int) (g:Int) (K:Value->World->Prop) (w:World):Prop:=
 Calls prog 131 #[f.v,b.v,.int .i64 e] w λ l d=>
 ∃ n i,(l=.returned (.tuple #[.int .i64 n,.int .i64 i]))/\
 Br (i !=0)
 (K (.tuple #[.slice none 0 0,.int .i64 1]) d)
 (Br (decide (g<1))
 (K (.tuple #[.slice none 0 0,.int .i64 1]) d)
 (Rng e b.len (Zc b.a λ k=>
 ∃ j,(Aw d (Addr.add k e.toNat) [.int .i64 j])/\
 Br (decide (g>j))
 (K (.tuple #[.slice none 0 0,.int .i64 1]) d)
 (Calls prog 228 #[b.v,.int .i64 e,.int .i64 (IntKind.i64.wrap (0 - g))] d λ m p=>
 ∃ c:Sl,(m=.returned (c.v))/\
 K (.tuple #[c.v,.int .i64 0]) p))))
theorem Zw2 (b:Sl) (c:Sl) (d:Int) (e:Int) (K:Value->World->Prop) (w:World) (h:B184 b c d e K w):Zm prog 184 #[b.v,c.v,.int .i64 d,.int .i64 e] w K:=cq (sk:=.leaf) func184 (by kernel_rfl) (by kernel_rfl) (by kernel_rfl) h
def B228 (d:Sl) (c:Int) (l:Int) (K:Value->World->Prop) (w:World):Prop:=
 Calls prog 172 #[d.v] w λ k f=>
 ∃ b:Sl,(k=.returned (b.v))/\
 Rng c b.len (Zc b.a λ i=>
 ∃ e,(Aw f (Addr.add i c.toNat) [.int .i64 e])/\
 Rng c b.len (Zc b.a λ j=>
 ∃ g:World,(St 3 (Addr.add j c.toNat) (.int .i64 (IntKind.i64.wrap (e + l))) f g)/\
 K (b.v) g))
theorem Zwz (b:Sl) (c:Int) (d:Int) (K:Value->World->Prop) (w:World) (h:B228 b c d K w):Zm prog 228 #[b.v,.int .i64 c,.int .i64 d] w K:=cq (sk:=.leaf) func228 (by kernel_rfl) (by kernel_rfl) (by kernel_rfl) h
def B177 (j:Int) (d:Sl) (K:Value->World->Prop) (w:World):Prop:=
 ∃ (o:World->Prop),(Calls prog 226 #[.int .i64 j] w λ z g=>
 ∃ p,(z=.returned (.bool p))/\
 Br (!p)
 (K (.tuple #[.slice none 0 0,.int .i64 1]) g)
 (Br (decide ((↑d.len:Int)<1))
 (K (.tuple #[.slice none 0 0,.int .i64 1]) g)
 (Br (decide ((↑d.len:Int)>8))
 (K (.tuple #[.slice none 0 0,.int .i64 1]) g)
 (o  g))))/\
 ∀ (F:Env)  (r:World),o  r->
 New (.cells #[.int .i64 j] 3 (0,0)) (λ x D=>
 ((0:Int)<=1)/\
 ((1:Int)<=(↑d.len:Int))/\
 ∃ (i:Sl->Int->World->Prop) (t:Sl->Int->World->Nat),(i ⟨(some ⟨x,0,none⟩),1,1⟩ 0 D)/\∀ (G:Env) (b:Sl) (c:Int) (f:World),i b c f->
 Br (decide (c<(↑(d.len - Int.toNat 1):Int)))
 (Rng c (d.len - Int.toNat 1) (Zc (Zb1 d.a (Int.toNat 1) d.cap 1) λ u=>
 ∃ q,(Aw f (Addr.add u c.toNat) [.float .f64 q])/\
 Calls prog 227 #[.float .f64 q,.int .i64 j] f λ A s=>
 ∃ k C,(A=.returned (.tuple #[.int .i64 k,.int .i64 C]))/\
 Rng c b.len (Zc b.a λ v=>
 ∃ l,(Aw s (Addr.add v c.toNat) [.int .i64 l])/\
 New (.cells #[.int .i64 (if l<k then l else k)] 3 (0,0)) (λ y E=>
 ∃ n:World,∃ e:Sl,((Builtin.append_ #[28,28] 28 #[b.v,.slice ((some ⟨y,0,none⟩)) 1 1]).run prog E=.ok (e.v) n)/\
 (i e (IntKind.i64.wrap (c + 1)) n)/\t e (IntKind.i64.wrap (c + 1)) n<t b c f) s)))
 (K (.tuple #[b.v,.int .i64 0]) f)) r
def ZAi:Sk:=(.seq .leaf (.cut [] [] [4,5,11,12,13,14,15,16,17,18,19,20,21,22,23] .leaf (.seq .leaf (.seq (.seq .leaf (.block (.loop [6,29] [.sl,(.int .i64)] [6,7,8,9,10,29,30,31,32,33,34,35,36,37,38,39,40,41,42,43,44,45,46,47,48,49] .leaf))) .leaf))))
theorem Zw9 (c:Int) (b:Sl) (K:Value->World->Prop) (w:World) (h:B177 c b K w):Zm prog 177 #[.int .i64 c,b.v] w K:=cq (sk:=ZAi) func177 (by kernel_rfl) (by kernel_rfl) (by kernel_rfl) h
def B227 (c:Nat) (d:Int) (K:Value->World->Prop) (w:World):Prop:=
 ∃ (e:Bool->World->Prop),(Br (decide (d<0))
 (e true w)
 (e (decide (d>10000)) w))/\
 ∀ (q:Env) (n:Bool) (b:World),e n b->
 Br n
 (K (.tuple #[.int .i64 0,.int .i64 1]) b)
 (∃ i:Bool,(∀ a,(λ a=>a=b) a->((do eqGuard BinOp.gtr 33 (Operand.tmp 14) (Operand.const (Value.float FloatKind.f64 0)) (.float .f64 c) (.float .f64 0);binOp BinOp.gtr 33 (.float .f64 c) (.float .f64 0):Sem Value)).run prog a=.ok (.bool i) a)/\
 Br (!i)
 (K (.tuple #[.int .i64 0,.int .i64 0]) b)
 (∃ j:Bool,(∀ a,(λ a=>a=b) a->((do eqGuard BinOp.geq 33 (Operand.tmp 18) (Operand.const (Value.float FloatKind.f64 4607182418800017408)) (.float .f64 c) (.float .f64 4607182418800017408);binOp BinOp.geq 33 (.float .f64 c) (.float .f64 4607182418800017408):Sem Value)).run prog a=.ok (.bool j) a)/\
 Br j
 (K (.tuple #[.int .i64 d,.int .i64 0]) b)
 (∃ g:World,∃ f:Nat,((convert 3 33 (.int .i64 d)).run prog b=.ok (.float .f64 f) g)/\
 ∃ k:Nat,(∀ a,(λ a=>a=g) a->((do eqGuard BinOp.mul 33 (Operand.tmp 21) (Operand.tmp 23) (.float .f64 c) (.float .f64 f);binOp BinOp.mul 33 (.float .f64 c) (.float .f64 f):Sem Value)).run prog a=.ok (.float .f64 k) a)/\
 Calls prog 260 #[.float .f64 k] g λ p o=>
 ∃ l,(p=.returned (.float .f64 l))/\
 ∃ m:Int,(∀ a,(λ a=>a=o) a->((convert 33 3 (.float .f64 l))).run prog a=.ok (.int .i64 m) a)/\
 K (.tuple #[.int .i64 m,.int .i64 0]) o)))
def Zz3:Sk:=(.seq .leaf (.seq (.block (.cut [6] [.bool] [6,7,8,9,10,11,12] .leaf .leaf)) .leaf))
theorem ZwA (a:Nat) (b:Int) (K:Value->World->Prop) (w:World) (h:B227 a b K w):Zm prog 227 #[.float .f64 a,.int .i64 b] w K:=cq (sk:=Zz3) func227 (by kernel_rfl) (by kernel_rfl) (by kernel_rfl) h
def B260 (d:Nat) (K:Value->World->Prop) (w:World):Prop:=
 Ext prog 274 #[.float .f64 d] w λ b c=>
 ∃ a,(b=.returned (.float .f64 a))/\
 K (.float .f64 a) c
theorem Zwi (a:Nat) (K:Value->World->Prop) (w:World) (h:B260 a K w):Zm prog 260 #[.float .f64 a] w K:=cq (sk:=.leaf) func260 (by kernel_rfl) (by kernel_rfl) (by kernel_rfl) h
def B266 (c:Int) (K:Value->World->Prop) (w:World):Prop:=
 Calls prog 278 #[.int .i64 c] w λ b d=>
 ∃ a,(b=.returned (.string a))/\
 K (.string a) d
theorem Zwf (a:Int) (K:Value->World->Prop) (w:World) (h:B266 a K w):Zm prog 266 #[.int .i64 a] w K:=cq (sk:=.leaf) func266 (by kernel_rfl) (by kernel_rfl) (by kernel_rfl) h
end
section
open Go Go.VC Tryz
set_option maxRecDepth 10000
def B109 (n:Int) (F:Int) (m:Sl) (o:Sl) (K:Value->World->Prop) (w:World):Prop:=
 New (.cells #[.int .i64 F,m.v] 35 (0,0)) (λ j y=>
 ∃ q,∃ c:Sl,(Aw y ⟨j,0,none⟩ [.int .i64 q,c.v])/\
 Calls prog 162 #[.agg #[.int .i64 q,c.v]] y λ z G=>
 ∃ r,(z=.returned (.int .i64 r))/\
 Calls prog 177 #[.int .i64 r,o.v] G λ A k=>
 ∃ d:Sl,∃ s,(A=.returned (.tuple #[d.v,.int .i64 s]))/\
 Br (decide (n<1))
 (K (.tuple #[.pointer none,.int .i64 1]) k)
 (Br (decide (n>9999))
 (K (.tuple #[.pointer none,.int .i64 1]) k)
 (∃ t,∃ e:Sl,(Aw k ⟨j,0,none⟩ [.int .i64 t,e.v])/\
 Calls prog 160 #[.agg #[.int .i64 t,e.v]] k λ C l=>
 ∃ u,(C=.returned (.bool u))/\
 Br (!u)
 (K (.tuple #[.pointer none,.int .i64 1]) l)
 (Br (s !=0)
 (K (.tuple #[.pointer none,.int .i64 1]) l)
 (∃ f:Sl,(Aw l ⟨j,0 + 1,none⟩ [f.v])/\
 Calls prog 172 #[f.v] l λ D H=>
 ∃ g:Sl,(D=.returned (g.v))/\
 ∃ p:World,(St 28 ⟨j,0 + 1,none⟩ (g.v) H p)/\
 ∃ v,∃ i:Sl,(Aw p ⟨j,0,none⟩ [.int .i64 v,i.v])/\
 Calls prog 159 #[.int .i64 n,.agg #[.int .i64 v,i.v],d.v] p λ E I=>
 ∃ x,(E=.returned (.pointer x))/\
 K (.tuple #[.pointer x,.int .i64 0]) I))))) w
theorem ZxV (e:Int) (d:Int) (b:Sl) (c:Sl) (K:Value->World->Prop) (w:World) (h:B109 e d b c K w):Zm prog 109 #[.int .i64 e,.agg #[.int .i64 d,b.v],c.v] w K:=cq (sk:=.leaf) func109 (by kernel_rfl) (by kernel_rfl) (by kernel_rfl) h
def B159 (g:Int) (ah:Int) (n:Sl) (b:Sl) (K:Value->World->Prop) (w:World):Prop:=
 New (.cells #[.int .i64 ah,.slice n.a n.len n.cap] 35 (0,0)) (λ O ai=>
 Drw ai λ c t=>
 ∃ f,∃ d:Sl,(At c ⟨O,0,none⟩ [.int .i64 f,.slice d.a d.len d.cap])/\
 (∃ m:World,∃ e:Sl,((Instr.makeSlice 28 (.int .i64 ((↑b.len:Int))) (.int .i64 ((↑b.len:Int)))).run prog t=.ok (.slice e.a e.len e.cap) m)/\
 (c m)/\
 (New (.map #[] 0) (λ Q H=>
 (c H)/\
 New (.map #[] 0) (λ X I=>
 (c I)/\
 New (.cells #[.int .i64 g,.int .i64 f,.slice d.a d.len d.cap,.slice b.a b.len b.cap,.slice e.a e.len e.cap,.map ((some Q)),.map ((some X))] 174 (0,0)) (λ ab J=>
 (c J)/\
 K (.pointer ((some ⟨ab,0,none⟩))) J) I) H) m)/\
 New (.map #[] 0) (λ Y L=>
 (c L)/\
 New (.map #[] 0) (λ T M=>
 (c M)/\
 New (.cells #[.int .i64 g,.int .i64 f,.slice d.a d.len d.cap,.slice b.a b.len b.cap,.slice e.a e.len e.cap,.map ((some T)),.map ((some Y))] 174 (0,0)) (λ ac N=>
 (c N)/\
 K (.pointer ((some ⟨ac,0,none⟩))) N) M) L) m)/\
 (New (.map #[] 0) (λ v o=>
 (c o)/\
 (∃ p:World,∃ i:Sl,((Instr.makeSlice 28 (.int .i64 ((↑b.len:Int))) (.int .i64 ((↑b.len:Int)))).run prog o=.ok (.slice i.a i.len i.cap) p)/\
 (c p)/\
 New (.map #[] 0) (λ Z y=>
 (c y)/\
 New (.cells #[.int .i64 g,.int .i64 f,.slice d.a d.len d.cap,.slice b.a b.len b.cap,.slice i.a i.len i.cap,.map ((some v)),.map ((some Z))] 174 (0,0)) (λ ad z=>
 (c z)/\
 K (.pointer ((some ⟨ad,0,none⟩))) z) y) p)/\
 New (.map #[] 0) (λ aa A=>
 (c A)/\
 ∃ q:World,∃ j:Sl,((Instr.makeSlice 28 (.int .i64 ((↑b.len:Int))) (.int .i64 ((↑b.len:Int)))).run prog A=.ok (.slice j.a j.len j.cap) q)/\
 (c q)/\
 New (.cells #[.int .i64 g,.int .i64 f,.slice d.a d.len d.cap,.slice b.a b.len b.cap,.slice j.a j.len j.cap,.map ((some v)),.map ((some aa))] 174 (0,0)) (λ ae C=>
 (c C)/\
 K (.pointer ((some ⟨ae,0,none⟩))) C) q) o) t)/\
 New (.map #[] 0) (λ x r=>
 (c r)/\
 (∃ s:World,∃ k:Sl,((Instr.makeSlice 28 (.int .i64 ((↑b.len:Int))) (.int .i64 ((↑b.len:Int)))).run prog r=.ok (.slice k.a k.len k.cap) s)/\
 (c s)/\
 New (.map #[] 0) (λ U D=>
 (c D)/\
 New (.cells #[.int .i64 g,.int .i64 f,.slice d.a d.len d.cap,.slice b.a b.len b.cap,.slice k.a k.len k.cap,.map ((some U)),.map ((some x))] 174 (0,0)) (λ af E=>
 (c E)/\
 K (.pointer ((some ⟨af,0,none⟩))) E) D) s)/\
 New (.map #[] 0) (λ V F=>
 (c F)/\
 ∃ u:World,∃ l:Sl,((Instr.makeSlice 28 (.int .i64 ((↑b.len:Int))) (.int .i64 ((↑b.len:Int)))).run prog F=.ok (.slice l.a l.len l.cap) u)/\
 (c u)/\
 New (.cells #[.int .i64 g,.int .i64 f,.slice d.a d.len d.cap,.slice b.a b.len b.cap,.slice l.a l.len l.cap,.map ((some V)),.map ((some x))] 174 (0,0)) (λ ag G=>
 (c G)/\
 K (.pointer ((some ⟨ag,0,none⟩))) G) u) r) t) w
theorem Zxq (e:Int) (d:Int) (b:Sl) (c:Sl) (K:Value->World->Prop) (w:World) (h:B159 e d b c K w):Zm prog 159 #[.int .i64 e,.agg #[.int .i64 d,.slice b.a b.len b.cap],.slice c.a c.len c.cap] w K:=cq (sk:=.leaf) func159 (by kernel_rfl) (by kernel_rfl) (by kernel_rfl) h
def B112 (f:Option Addr) (g:Int) (r:Int) (s:Int) (K:Value->World->Prop) (w:World):Prop:=
 Zc f λ m=>
 ∃ t:Option Nat,(Aw w ⟨m.block,m.off + 5,none⟩ [.map t])/\
 ∃ D:Option Addr,∃ u:Bool,(∀ b,(λ b=>b=w) b->((Instr.lookup 171 (.map t) (.int .i64 g) true)).run prog b=.ok (.tuple #[.pointer D,.bool u]) b)/\
 ∃ (k:World->Prop),(Br (decide (g<1))
 (K (.int .i64 1) w)
 (Br (decide (g>28629151))
 (K (.int .i64 1) w)
 (Br u
 (K (.int .i64 7) w)
 (k  w))))/\
 ∀ (G:Env)  (x:World),k  x->
 Drw x λ l E=>
 Zc f λ n=>
 ∃ c:Sl,(At l ⟨n.block,n.off + 3,none⟩ [c.v])/\
 Zc f λ o=>
 ∃ d:Sl,(At l ⟨o.block,o.off + 4,none⟩ [d.v])/\
 Calls prog 178 #[c.v,d.v,.int .i64 r,.int .i64 s] E λ C y=>
 ∃ e:Sl,∃ i,(C=.returned (.tuple #[e.v,.int .i64 i]))/\
 Br (i==0)
 (Zc f λ p=>
 ∃ j:World,(St 28 ⟨p.block,p.off + 4,none⟩ (e.v) y j)/\
 Zc f λ q=>
 ∃ v:Option Nat,(Aw j ⟨q.block,q.off + 5,none⟩ [.map v])/\
 New (.cells #[.int .i64 g,.int .i64 r,.int .i64 s,.slice none 0 0] 176 (0,0)) (λ A F=>
 ∃ z:World,((Instr.mapUpdate 171 (.map v) (.int .i64 g) (.pointer ((some ⟨A,0,none⟩)))).run prog F=.ok () z)/\
 K (.int .i64 i) z) j)
 (K (.int .i64 i) y)
def ZAA:Sk:=(.seq .leaf (.seq .leaf (.cut [] [] [8,22,23,24,25,26,27,28,29,30] .leaf .leaf)))
theorem ZxS (b:Option Addr) (d:Int) (a:Int) (c:Int) (K:Value->World->Prop) (w:World) (h:B112 b d a c K w):Zm prog 112 #[.pointer b,.int .i64 d,.int .i64 a,.int .i64 c] w K:=cq (sk:=ZAA) func112 (by kernel_rfl) (by kernel_rfl) (by kernel_rfl) h
def B115 (d:Option Addr) (z:Int) (K:Value->World->Prop) (w:World):Prop:=
 Zc d λ p=>
 ∃ A:Option Nat,(Aw w ⟨p.block,p.off + 5,none⟩ [.map A])/\
 ∃ l:Option Addr,∃ C:Bool,(∀ b,(λ b=>b=w) b->((Instr.lookup 171 (.map A) (.int .i64 z) true)).run prog b=.ok (.tuple #[.pointer l,.bool C]) b)/\
 Br (!C)
 (K (.int .i64 2) w)
 (Zc l λ q=>
 ∃ e:Sl,(Aw w ⟨q.block,q.off + 3,none⟩ [e.v])/\
 ∃ (m:Int->World->Prop) (J:Int->World->Nat),(m 0 w)/\∀ (T:Env) (c:Int) (j:World),m c j->
 Br (decide (c<(↑e.len:Int)))
 (Rng c e.len (Zc e.a λ L=>
 ∃ D,(Aw j (Addr.add L c.toNat) [.int .i64 D])/\
 Zc d λ r=>
 ∃ E:Option Nat,(Aw j ⟨r.block,r.off + 6,none⟩ [.map E])/\
 ∃ n:World,((Builtin.delete_ #[172,3] 0 #[.map E,.int .i64 D]).run prog j=.ok (.tuple #[]) n)/\
 (m (IntKind.i64.wrap (c + 1)) n)/\J (IntKind.i64.wrap (c + 1)) n<J c j))
 (Drw j λ k O=>
 Zc d λ s=>
 ∃ f:Sl,(At k ⟨s.block,s.off + 3,none⟩ [f.v])/\
 Zc d λ t=>
 ∃ g:Sl,(At k ⟨t.block,t.off + 4,none⟩ [g.v])/\
 Zc l λ u=>
 ∃ F,(At k ⟨u.block,u.off + 1,none⟩ [.int .i64 F])/\
 Zc l λ v=>
 ∃ G,(At k ⟨v.block,v.off + 2,none⟩ [.int .i64 G])/\
 Calls prog 184 #[f.v,g.v,.int .i64 F,.int .i64 G] O λ M Q=>
 ∃ i:Sl,∃ N,(M=.returned (.tuple #[i.v,.int .i64 N]))/\
 Zc d λ x=>
 ∃ o:World,(St 28 ⟨x.block,x.off + 4,none⟩ (i.v) Q o)/\
 Zc d λ y=>
 ∃ H:Option Nat,(Aw o ⟨y.block,y.off + 5,none⟩ [.map H])/\
 ∃ I:World,((Builtin.delete_ #[171,3] 0 #[.map H,.int .i64 z]).run prog o=.ok (.tuple #[]) I)/\
 K (.int .i64 0) I))
def ZAy:Sk:=(.seq .leaf (.seq .leaf (.seq .leaf (.seq (.seq .leaf (.block (.loop [25] [(.int .i64)] [8,25,26,27,28,29,30,31,32,33,34] .leaf))) .leaf))))
theorem ZxP (a:Option Addr) (b:Int) (K:Value->World->Prop) (w:World) (h:B115 a b K w):Zm prog 115 #[.pointer a,.int .i64 b] w K:=cq (sk:=ZAy) func115 (by kernel_rfl) (by kernel_rfl) (by kernel_rfl) h
def B186 (i:Option Addr) (q:Int) (p:ByteArray) (K:Value->World->Prop) (w:World):Prop:=
 Zc i λ f=>
 ∃ j:Option Nat,(Aw w ⟨f.block,f.off + 5,none⟩ [.map j])/\
 ∃ d:Option Addr,∃ k:Bool,(∀ b,(λ b=>b=w) b->((Instr.lookup 171 (.map j) (.int .i64 q) true)).run prog b=.ok (.tuple #[.pointer d,.bool k]) b)/\
 Zc i λ g=>
 ∃ l,∃ c:Sl,(Aw w ⟨g.block,g.off + 1,none⟩ [.int .i64 l,c.v])/\
 Calls prog 234 #[.agg #[.int .i64 l,c.v],.string p] w λ o n=>
 ∃ e m,(o=.returned (.tuple #[.int .i64 e,.int .i64 m]))/\
 Br k
 (K (.tuple #[.pointer d,.int .i64 e,.bool (m==0)]) n)
 (K (.tuple #[.pointer d,.int .i64 e,.bool false]) n)
theorem Zw0 (a:Option Addr) (c:Int) (b:ByteArray) (K:Value->World->Prop) (w:World) (h:B186 a c b K w):Zm prog 186 #[.pointer a,.int .i64 c,.string b] w K:=cq (sk:=.leaf) func186 (by kernel_rfl) (by kernel_rfl) (by kernel_rfl) h
def B187 (y:Option Addr) (e:Option Addr) (f:Int) (K:Value->World->Prop) (w:World):Prop:=
 Zc e λ j=>
 ∃ b:Sl,(Aw w ⟨j.block,j.off + 3,none⟩ [.slice b.a b.len b.cap])/\
 Calls prog 235 #[.slice b.a b.len b.cap,.int .i64 f] w λ v q=>
 ∃ n z,(v=.returned (.tuple #[.int .i64 n,.bool z]))/\
 Zc e λ k=>
 ∃ c:Sl,(Aw q ⟨k.block,k.off + 3,none⟩ [.slice c.a c.len c.cap])/\
 New (.cells #[.int .i64 f] 3 (0,0)) (λ u A=>
 Calls prog 236 #[.slice c.a c.len c.cap,.int .i64 n,.slice ((some ⟨u,0,none⟩)) 1 1] A λ x C=>
 ∃ d:Sl,(x=.returned (.slice d.a d.len d.cap))/\
 Zc e λ l=>
 ∃ r:World,(St 28 ⟨l.block,l.off + 3,none⟩ (.slice d.a d.len d.cap) C r)/\
 Drw r λ i D=>
 Zc y λ m=>
 ∃ o:Option Nat,(At i ⟨m.block,m.off + 6,none⟩ [.map o])/\
 Zc e λ t=>
 ∃ p,(At i (Addr.add t 0) [.int .i64 p])/\
 ∃ s:World,((Instr.mapUpdate 172 (.map o) (.int .i64 f) (.int .i64 p)).run prog D=.ok () s)/\
 K (.tuple #[]) s) q
theorem ZwZ (a:Option Addr) (b:Option Addr) (c:Int) (K:Value->World->Prop) (w:World) (h:B187 a b c K w):Zm prog 187 #[.pointer a,.pointer b,.int .i64 c] w K:=cq (sk:=.leaf) func187 (by kernel_rfl) (by kernel_rfl) (by kernel_rfl) h
def B117 (f:Option Addr) (u:Int) (t:ByteArray) (K:Value->World->Prop) (w:World):Prop:=
 Calls prog 186 #[.pointer f,.int .i64 u,.string t] w λ r e=>
 ∃ c g n,(r=.returned (.tuple #[.pointer c,.int .i64 g,.bool n]))/\
 Zc f λ k=>
 ∃ o:Option Nat,(Aw e ⟨k.block,k.off + 6,none⟩ [.map o])/\
 ∃ v:Int,∃ p:Bool,(∀ b,(λ b=>b=e) b->((Instr.lookup 172 (.map o) (.int .i64 g) true)).run prog b=.ok (.tuple #[.int .i64 v,.bool p]) b)/\
 Br (!n)
 (K (.int .i64 2) e)
 (Drw e λ j i=>
 Zc c λ l=>
 ∃ d:Sl,(At j ⟨l.block,l.off + 3,none⟩ [d.v])/\
 Zc c λ m=>
 ∃ q,(At j ⟨m.block,m.off + 2,none⟩ [.int .i64 q])/\
 Br (decide ((↑d.len:Int) >= q))
 (K (.int .i64 7) i)
 (Br p
 (K (.int .i64 3) i)
 (Calls prog 187 #[.pointer f,.pointer c,.int .i64 g] i λ s x=>
 (s=.returned (.tuple #[]))/\
 K (.int .i64 0) x)))
theorem ZxN (a:Option Addr) (c:Int) (b:ByteArray) (K:Value->World->Prop) (w:World) (h:B117 a c b K w):Zm prog 117 #[.pointer a,.int .i64 c,.string b] w K:=cq (sk:=.leaf) func117 (by kernel_rfl) (by kernel_rfl) (by kernel_rfl) h
def B118 (j:Option Addr) (Q:Int) (K:Value->World->Prop) (w:World):Prop:=
 Zc j λ o=>
 ∃ t:Option Nat,(Aw w ⟨o.block,o.off + 5,none⟩ [.map t])/\
 ∃ l:Option Addr,∃ u:Bool,(∀ b,(λ b=>b=w) b->((Instr.lookup 171 (.map t) (.int .i64 Q) true)).run prog b=.ok (.tuple #[.pointer l,.bool u]) b)/\
 Br (!u)
 (K (.tuple #[.slice none 0 0,.int .i64 2]) w)
 (Zc l λ p=>
 ∃ m:Sl,(Aw w ⟨p.block,p.off + 3,none⟩ [m.v])/\
 Br (decide ((↑m.len:Int)>0))
 (K (.tuple #[.slice none 0 0,.int .i64 7]) w)
 (Drw w λ e T=>
 Zc j λ q=>
 ∃ v,∃ f:Sl,(At e ⟨q.block,q.off + 1,none⟩ [.int .i64 v,f.v])/\
 Zc j λ r=>
 ∃ x:Option Nat,(At e ⟨r.block,r.off + 6,none⟩ [.map x])/\
 Zc l λ s=>
 ∃ z,(At e ⟨s.block,s.off + 2,none⟩ [.int .i64 z])/\
 Calls prog 189 #[.map x] T λ J D=>
 ∃ y:Value,(J=.returned (y))/\
 (e D)/\
 Calls prog 121 #[y] D λ L E=>
 ∃ g:Sl,(L=.returned (g.v))/\
 (e E)/\
 Calls prog 188 #[.agg #[.int .i64 v,f.v],g.v,.int .i64 z] E λ M F=>
 ∃ c:Sl,∃ A,(M=.returned (.tuple #[c.v,.int .i64 A]))/\
 (e F)/\
 ∃ (n:Int->World->Prop) (H:Int->World->Nat),(n 0 F)/\∀ (V:Env) (d:Int) (k:World),n d k->
 Br (decide (d<(↑c.len:Int)))
 (Rng d c.len (Zc c.a λ I=>
 ∃ C,(Aw k (Addr.add I d.toNat) [.int .i64 C])/\
 Calls prog 187 #[.pointer j,.pointer l,.int .i64 C] k λ N G=>
 (N=.returned (.tuple #[]))/\
 (n (IntKind.i64.wrap (d + 1)) G)/\H (IntKind.i64.wrap (d + 1)) G<H d k))
 (Calls prog 190 #[.pointer j,c.v] k λ O U=>
 ∃ i:Sl,(O=.returned (i.v))/\
 K (.tuple #[i.v,.int .i64 A]) U)))
def ZAx:Sk:=(.seq .leaf (.seq .leaf (.seq .leaf (.seq .leaf (.seq (.seq .leaf (.block (.loop [51] [(.int .i64)] [11,51,52,53,54,55,56,57,58,59] .leaf))) .leaf)))))
theorem ZxM (a:Option Addr) (b:Int) (K:Value->World->Prop) (w:World) (h:B118 a b K w):Zm prog 118 #[.pointer a,.int .i64 b] w K:=cq (sk:=ZAx) func118 (by kernel_rfl) (by kernel_rfl) (by kernel_rfl) h
def B104 (c:Option Addr) (K:Value->World->Prop) (w:World):Prop:=
 Zc c λ b=>
 ∃ a,(Aw w (Addr.add b 0) [.int .i64 a])/\
 K (.int .i64 a) w
theorem ZxZ (a:Option Addr) (K:Value->World->Prop) (w:World) (h:B104 a K w):Zm prog 104 #[.pointer a] w K:=cq (sk:=.leaf) func104 (by kernel_rfl) (by kernel_rfl) (by kernel_rfl) h
def B58 (j:Option Addr) (K:Value->World->Prop) (w:World):Prop:=
 Zc j λ o=>
 ∃ f:Sl,(Aw w ⟨o.block,o.off + 3,none⟩ [f.v])/\
 ∃ q:World,∃ b:Sl,((Instr.makeSlice 28 (.int .i64 ((↑f.len:Int))) (.int .i64 ((↑f.len:Int)))).run prog w=.ok (b.v) q)/\
 ∃ (i:Int->World->Prop) (r:Int->World->Nat),(i 0 q)/\∀ (z:Env) (c:Int) (g:World),i c g->
 Br (decide (c<(↑b.len:Int)))
 (Drw g λ l x=>
 Zc j λ m=>
 ∃ d:Sl,(At l ⟨m.block,m.off + 3,none⟩ [d.v])/\
 Zc j λ n=>
 ∃ e:Sl,(At l ⟨n.block,n.off + 4,none⟩ [e.v])/\
 Calls prog 131 #[d.v,e.v,.int .i64 c] x λ t y=>
 ∃ p u,(t=.returned (.tuple #[.int .i64 p,.int .i64 u]))/\
 Rng c b.len (Zc b.a λ s=>
 ∃ k:World,(St 3 (Addr.add s c.toNat) (.int .i64 p) y k)/\
 (i (IntKind.i64.wrap (c + 1)) k)/\r (IntKind.i64.wrap (c + 1)) k<r c g))
 (K (b.v) g)
def sk58:Sk:=(.seq .leaf (.seq .leaf (.seq (.seq .leaf (.block (.loop [13] [(.int .i64)] [4,13,14,15,16,17,18,19,20,21,22,23,24,25,26,27,28,29,30,31,32] .leaf))) .leaf)))
theorem Zza (a:Option Addr) (K:Value->World->Prop) (w:World) (h:B58 a K w):Zm prog 58 #[.pointer a] w K:=cq (sk:=sk58) func58 (by kernel_rfl) (by kernel_rfl) (by kernel_rfl) h
def B105 (t:Option Addr) (K:Value->World->Prop) (w:World):Prop:=
 Zc t λ s=>
 ∃ u:Option Nat,(Aw w ⟨s.block,s.off + 5,none⟩ [.map u])/\
 Calls prog 171 #[.map u] w λ M Q=>
 ∃ v:Value,(M=.returned (v))/\
 Calls prog 50 #[v] Q λ N T=>
 ∃ f:Sl,(N=.returned (f.v))/\
 ∃ (n:Sl->Int->World->Prop) (H:Sl->Int->World->Nat),(n ⟨none,0,0⟩ 0 T)/\∀ (Y:Env) (c:Sl) (e:Int) (d:World),n c e d->
 Br (decide (e<(↑f.len:Int)))
 (Rng e f.len (Zc f.a λ I=>
 ∃ x,(Aw d (Addr.add I e.toNat) [.int .i64 x])/\
 Zc t λ r=>
 ∃ y:Option Nat,(Aw d ⟨r.block,r.off + 5,none⟩ [.map y])/\
 ∃ z:Option Addr,(∀ b,(λ b=>b=d) b->((Instr.lookup 171 (.map y) (.int .i64 x) false)).run prog b=.ok (.pointer z) b)/\
 Zc z λ J=>
 ∃ A C D,∃ g:Sl,(Aw d J [.int .i64 A,.int .i64 C,.int .i64 D,g.v])/\
 New (.cells #[.int .i64 0,.int .i64 0,.int .i64 0,.slice none 0 0] 176 (0,0)) (λ m U=>
 ∃ o:World,(St 176 ⟨m,0,none⟩ (.agg #[.int .i64 A,.int .i64 C,.int .i64 D,g.v]) U o)/\
 ∃ i:Sl,(Aw o ⟨m,0 + 3,none⟩ [i.v])/\
 Calls prog 172 #[i.v] o λ O V=>
 ∃ j:Sl,(O=.returned (j.v))/\
 ∃ p:World,(St 28 ⟨m,0 + 3,none⟩ (j.v) V p)/\
 ∃ E F G,∃ k:Sl,(Aw p ⟨m,0,none⟩ [.int .i64 E,.int .i64 F,.int .i64 G,k.v])/\
 New (.cells #[.int .i64 E,.int .i64 F,.int .i64 G,k.v] 176 (0,0)) (λ L X=>
 ∃ q:World,∃ l:Sl,((Builtin.append_ #[147,147] 147 #[c.v,.slice ((some ⟨L,0,none⟩)) 1 1]).run prog X=.ok (l.v) q)/\
 (n l (IntKind.i64.wrap (e + 1)) q)/\H l (IntKind.i64.wrap (e + 1)) q<H c e d) p) d))
 (K (c.v) d)
def ZAB:Sk:=(.seq .leaf (.seq .leaf (.seq (.seq .leaf (.block (.loop [3,14] [.sl,(.int .i64)] [3,5,6,14,15,16,17,18,19,20,21,22,23,24,25,26,27,28,29,30,31,32,33,34] .leaf))) .leaf)))
theorem ZxY (a:Option Addr) (K:Value->World->Prop) (w:World) (h:B105 a K w):Zm prog 105 #[.pointer a] w K:=cq (sk:=ZAB) func105 (by kernel_rfl) (by kernel_rfl) (by kernel_rfl) h
def B130 (g:Option Addr) (m:Int) (K:Value->World->Prop) (w:World):Prop:=
 Zc g λ f=>
 ∃ i:Option Nat,(Aw w ⟨f.block,f.off + 5,none⟩ [.map i])/\
 ∃ j:Option Addr,∃ k:Bool,(∀ b,(λ b=>b=w) b->((Instr.lookup 171 (.map i) (.int .i64 m) true)).run prog b=.ok (.tuple #[.pointer j,.bool k]) b)/\
 Br (!k)
 (K (.slice none 0 0) w)
 (Zc j λ e=>
 ∃ c:Sl,(Aw w ⟨e.block,e.off + 3,none⟩ [c.v])/\
 Calls prog 190 #[.pointer g,c.v] w λ l n=>
 ∃ d:Sl,(l=.returned (d.v))/\
 K (d.v) n)
theorem ZxE (a:Option Addr) (b:Int) (K:Value->World->Prop) (w:World) (h:B130 a b K w):Zm prog 130 #[.pointer a,.int .i64 b] w K:=cq (sk:=.leaf) func130 (by kernel_rfl) (by kernel_rfl) (by kernel_rfl) h
def B190 (t:Option Addr) (i:Sl) (K:Value->World->Prop) (w:World):Prop:=
 ∃ (g:Sl->Int->World->Prop) (p:Sl->Int->World->Nat),(g ⟨none,0,0⟩ 0 w)/\∀ (y:Env) (b:Sl) (c:Int) (e:World),g b c e->
 Br (decide (c<(↑i.len:Int)))
 (Rng c i.len (Zc i.a λ q=>
 ∃ m,(Aw e (Addr.add q c.toNat) [.int .i64 m])/\
 Zc t λ l=>
 ∃ n,∃ d:Sl,(Aw e ⟨l.block,l.off + 1,none⟩ [.int .i64 n,.slice d.a d.len d.cap])/\
 Calls prog 240 #[.agg #[.int .i64 n,.slice d.a d.len d.cap],.int .i64 m] e λ s v=>
 ∃ o u,(s=.returned (.tuple #[.string o,.int .i64 u]))/\
 New (.cells #[.string o] 9 (0,0)) (λ r x=>
 ∃ k:World,∃ f:Sl,((Builtin.append_ #[29,29] 29 #[.slice b.a b.len b.cap,.slice ((some ⟨r,0,none⟩)) 1 1]).run prog x=.ok (.slice f.a f.len f.cap) k)/\
 (g f (IntKind.i64.wrap (c + 1)) k)/\p f (IntKind.i64.wrap (c + 1)) k<p b c e) v))
 (K (.slice b.a b.len b.cap) e)
def ZAe:Sk:=(.seq .leaf (.seq .leaf (.seq (.seq .leaf (.block (.loop [5,12] [.sl,(.int .i64)] [5,7,8,9,12,13,14,15,16,17,18,19,20,21,22,23,24,25,26,27,28,29] .leaf))) .leaf)))
theorem ZwX (c:Option Addr) (b:Sl) (K:Value->World->Prop) (w:World) (h:B190 c b K w):Zm prog 190 #[.pointer c,.slice b.a b.len b.cap] w K:=cq (sk:=ZAe) func190 (by kernel_rfl) (by kernel_rfl) (by kernel_rfl) h
def B53 (e:Option Addr) (K:Value->World->Prop) (w:World):Prop:=
 New (.cells #[.slice none 0 0] 42 (0,0)) (λ y am=>
 New (.cells #[.nilFunc] 94 (0,0)) (λ c aq=>
 ∃ V:World,(St 94 ⟨c,0,none⟩ (.func (.func 125) #[] #[.pointer ((some ⟨y,0,none⟩))]) aq V)/\
 Drw V λ o ar=>
 ∃ z:Value,(At o ⟨c,0,none⟩ [z])/\
 Zc e λ aa=>
 ∃ A,(At o (Addr.add aa 0) [.int .i64 A])/\
 Zc e λ t=>
 ∃ C,(At o ⟨t.block,t.off + 1,none⟩ [.int .i64 C])/\
 New (.cells #[.int .i64 A,.int .i64 C] 3 (0,0)) (λ ac X=>
 (o X)/\
 ZaK prog cl z [.slice ((some ⟨ac,0,none⟩)) 2 2] X λ af s=>
 (af=.returned (.tuple #[]))/\
 (o s)/\
 Zc e λ u=>
 ∃ f:Sl,(Aw s ⟨u.block,u.off + 1 + 1,none⟩ [f.v])/\
 Calls prog 126 #[f.v,.pointer ((some ⟨c,0,none⟩))] s λ ag Y=>
 (ag=.returned (.tuple #[]))/\
 Zc e λ v=>
 ∃ g:Sl,(Aw Y ⟨v.block,v.off + 3,none⟩ [g.v])/\
 Calls prog 126 #[g.v,.pointer ((some ⟨c,0,none⟩))] Y λ ah au=>
 (ah=.returned (.tuple #[]))/\
 Drw au λ p av=>
 ∃ D:Value,(At p ⟨c,0,none⟩ [D])/\
 Zc e λ x=>
 ∃ E:Option Nat,(At p ⟨x.block,x.off + 5,none⟩ [.map E])/\
 ∃ F:Int,(∀ b,p b->((Builtin.len_ #[171] 3 #[.map E])).run prog b=.ok (.int .i64 F) b)/\
 New (.cells #[.int .i64 F] 3 (0,0)) (λ ad O=>
 (p O)/\
 ZaK prog cl D [.slice ((some ⟨ad,0,none⟩)) 1 1] O λ ai Q=>
 (ai=.returned (.tuple #[]))/\
 (p Q)/\
 Calls prog 105 #[.pointer e] Q λ aj an=>
 ∃ i:Sl,(aj=.returned (i.v))/\
 ∃ (r:Int->World->Prop) (Z:Int->World->Nat),(r 0 an)/\∀ (aw:Env) (d:Int) (m:World),r d m->
 Br (decide (d<(↑i.len:Int)))
 (Rng d i.len (Zc i.a λ ab=>
 ∃ G H I,∃ j:Sl,(Aw m (Addr.add ab (Za6 d.toNat 4)) [.int .i64 G,.int .i64 H,.int .i64 I,j.v])/\
 New (.cells #[.int .i64 0,.int .i64 0,.int .i64 0,.slice none 0 0] 176 (0,0)) (λ q ao=>
 ∃ n:World,(St 176 ⟨q,0,none⟩ (.agg #[.int .i64 G,.int .i64 H,.int .i64 I,j.v]) ao n)/\
 ∃ J:Value,(Aw n ⟨c,0,none⟩ [J])/\
 ∃ L,(Aw n ⟨q,0,none⟩ [.int .i64 L])/\
 ∃ M,(Aw n ⟨q,0 + 1,none⟩ [.int .i64 M])/\
 ∃ N,(Aw n ⟨q,0 + 2,none⟩ [.int .i64 N])/\
 New (.cells #[.int .i64 L,.int .i64 M,.int .i64 N] 3 (0,0)) (λ ae ap=>
 ZaK prog cl J [.slice ((some ⟨ae,0,none⟩)) 3 3] ap λ ak T=>
 (ak=.returned (.tuple #[]))/\
 ∃ k:Sl,(Aw T ⟨q,0 + 3,none⟩ [k.v])/\
 Calls prog 126 #[k.v,.pointer ((some ⟨c,0,none⟩))] T λ al U=>
 (al=.returned (.tuple #[]))/\
 (r (IntKind.i64.wrap (d + 1)) U)/\Z (IntKind.i64.wrap (d + 1)) U<Z d m) n) m))
 (∃ l:Sl,(Aw m ⟨y,0,none⟩ [l.v])/\
 K (l.v) m)) av) ar) am) w
def sk53:Sk:=(.seq .leaf (.seq .leaf (.seq .leaf (.seq .leaf (.seq .leaf (.seq .leaf (.seq .leaf (.seq .leaf (.seq (.seq .leaf (.block (.loop [46] [(.int .i64)] [7,46,47,48,49,50,51,52,53,54,55,56,57,58,59,60,61,62,63] .leaf))) .leaf)))))))))
theorem Zze (a:Option Addr) (K:Value->World->Prop) (w:World) (h:B53 a K w):Zm prog 53 #[.pointer a] w K:=cq (sk:=sk53) func53 (by kernel_rfl) (by kernel_rfl) (by kernel_rfl) h
def B125 (i:Sl) (l:Option Addr) (K:Value->World->Prop) (w:World):Prop:=
 ∃ (g:Int->World->Prop) (p:Int->World->Nat),(g 0 w)/\∀ (v:Env) (b:Int) (f:World),g b f->
 Br (decide (b<(↑i.len:Int)))
 (Rng b i.len (Zc i.a λ r=>
 ∃ m,(Aw f (Addr.add r b.toNat) [.int .i64 m])/\
 Drw f λ k u=>
 Zc l λ q=>
 ∃ c:Sl,(At k q [c.v])/\
 Calls prog 120 #[.int .u64 (IntKind.u64.wrap m)] u λ s n=>
 ∃ d:Sl,(s=.returned (d.v))/\
 (k n)/\
 ∃ o:World,∃ e:Sl,((Builtin.append_ #[42,42] 42 #[c.v,d.v]).run prog n=.ok (e.v) o)/\
 ∃ j:World,((Instr.storeAt 42 (.pointer l) (e.v)).run prog o=.ok () j)/\
 (g (IntKind.i64.wrap (b + 1)) j)/\p (IntKind.i64.wrap (b + 1)) j<p b f))
 (K (.tuple #[]) f)
def ZAu:Sk:=(.seq .leaf (.block (.loop [7] [(.int .i64)] [4,7,8,9,10,11,12,13,14,15,16] .leaf)))
theorem ZxI (b:Sl) (c:Option Addr) (K:Value->World->Prop) (w:World) (h:B125 b c K w):Zm prog 125 #[b.v,.pointer c] w K:=cq (sk:=ZAu) func125 (by kernel_rfl) (by kernel_rfl) (by kernel_rfl) h
def B126 (b:Sl) (d:Option Addr) (K:Value->World->Prop) (w:World):Prop:=
 Zc d λ i=>
 ∃ e:Value,(Aw w i [e])/\
 New (.cells #[.int .i64 ((↑b.len:Int))] 3 (0,0)) (λ k n=>
 ZaK prog cl e [.slice ((some ⟨k,0,none⟩)) 1 1] n λ l g=>
 (l=.returned (.tuple #[]))/\
 Zc d λ j=>
 ∃ f:Value,(Aw g j [f])/\
 ZaK prog cl f [.slice b.a b.len b.cap] g λ m o=>
 (m=.returned (.tuple #[]))/\
 K (.tuple #[]) o) w
theorem ZxH (b:Sl) (c:Option Addr) (K:Value->World->Prop) (w:World) (h:B126 b c K w):Zm prog 126 #[.slice b.a b.len b.cap,.pointer c] w K:=cq (sk:=.leaf) func126 (by kernel_rfl) (by kernel_rfl) (by kernel_rfl) h
def B101 (I:Sl) (K:Value->World->Prop) (w:World):Prop:=
 Calls prog 76 #[I.v] w λ ck c7=>
 ∃ az,(ck=.returned (.pointer az))/\
 New (.cells #[.pointer none] 123 (0,0)) (λ J da=>
 ∃ bv:World,(St 123 ⟨J,0,none⟩ (.pointer az) da bv)/\
 New (.cells #[.nilFunc] 115 (0,0)) (λ g dc=>
 ∃ b9:World,(St 115 ⟨g,0,none⟩ (.func (.func 157) #[] #[.pointer ((some ⟨J,0,none⟩))]) dc b9)/\
 Drw b9 λ A de=>
 ∃ a0:Value,(At A ⟨g,0,none⟩ [a0])/\
 ∃ a2:Value,(At A ⟨g,0,none⟩ [a2])/\
 ZaK prog cl a0 [.int .i64 9999] de λ cm ca=>
 ∃ a1,(cm=.returned (.int .i64 a1))/\
 (A ca)/\
 ZaK prog cl a2 [.int .i64 60] ca λ cx cb=>
 ∃ a3,(cx=.returned (.int .i64 a3))/\
 (A cb)/\
 Calls prog 159 #[.int .i64 a1,.agg #[.int .i64 a3,.slice none 0 0],.slice none 0 0] cb λ c0 cc=>
 ∃ d,(c0=.returned (.pointer d))/\
 (A cc)/\
 Calls prog 158 #[.int .i64 4,.int .i64 10,.pointer ((some ⟨g,0,none⟩))] cc λ c1 c8=>
 ∃ n:Sl,(c1=.returned (n.v))/\
 Zc d λ ad=>
 ∃ bl:World,(St 28 ⟨ad.block,ad.off + 1 + 1,none⟩ (n.v) c8 bl)/\
 Calls prog 158 #[.int .i64 8,.int .i64 10000,.pointer ((some ⟨g,0,none⟩))] bl λ c2 c9=>
 ∃ o:Sl,(c2=.returned (o.v))/\
 Zc d λ ae=>
 ∃ U:World,(St 28 ⟨ae.block,ae.off + 3,none⟩ (o.v) c9 U)/\
 Zc d λ af=>
 ∃ D:Sl,(Aw U ⟨af.block,af.off + 3,none⟩ [D.v])/\
 ∃ bm:World,∃ p:Sl,((Instr.makeSlice 28 (.int .i64 ((↑D.len:Int))) (.int .i64 ((↑D.len:Int)))).run prog U=.ok (p.v) bm)/\
 Zc d λ ag=>
 ∃ bn:World,(St 28 ⟨ag.block,ag.off + 4,none⟩ (p.v) bm bn)/\
 ∃ (y:Bool->World->Prop),(Drw bn λ f bo=>
 Zc d λ ch=>
 ∃ a4,(At f (Addr.add ch 0) [.int .i64 a4])/\
 Br (decide (a4>0))
 (Zc d λ ah=>
 ∃ a5,∃ q:Sl,(At f ⟨ah.block,ah.off + 1,none⟩ [.int .i64 a5,q.v])/\
 Calls prog 160 #[.agg #[.int .i64 a5,q.v]] bo λ c3 V=>
 ∃ a6,(c3=.returned (.bool a6))/\
 (f V)/\
 Br a6
 (Zc d λ ai=>
 ∃ r:Sl,(At f ⟨ai.block,ai.off + 3,none⟩ [r.v])/\
 Zc d λ aj=>
 ∃ s:Sl,(At f ⟨aj.block,aj.off + 4,none⟩ [s.v])/\
 Calls prog 161 #[r.v,s.v] V λ c4 X=>
 ∃ a7,(c4=.returned (.bool a7))/\
 (f X)/\
 Br a7
 (Zc d λ ak=>
 ∃ E:Sl,(At f ⟨ak.block,ak.off + 3,none⟩ [E.v])/\
 Rng 0 E.len (Zc E.a λ ci=>
 ∃ a8,(At f (Addr.add ci 0) [.int .i64 a8])/\
 Zc d λ al=>
 ∃ a9,∃ t:Sl,(At f ⟨al.block,al.off + 1,none⟩ [.int .i64 a9,t.v])/\
 Calls prog 162 #[.agg #[.int .i64 a9,t.v]] X λ c5 bp=>
 ∃ ba,(c5=.returned (.int .i64 ba))/\
 (f bp)/\
 y (a8==ba) bp))
 (y false X))
 (y false V))
 (y false bo))/\
 ∀ (df:Env) (ar:Bool) (Y:World),y ar Y->
 ∃ bb:Value,(Aw Y ⟨g,0,none⟩ [bb])/\
 ZaK prog cl bb [.int .i64 600] Y λ c6 db=>
 ∃ bc,(c6=.returned (.int .i64 bc))/\
 ∃ (x:Bool->Int->Int->World->Prop) (v:Bool->Int->Int->World->Nat),(x ar 0 0 db)/\∀ (dg:Env) (l:Bool) (C:Int) (e:Int) (k:World),x l C e k->
 Br (decide (e<bc))
 (∃ (z:Option Addr->World->Prop),(Drw k λ b bq=>
 ∃ Q:Value,(At b ⟨g,0,none⟩ [Q])/\
 ∃ H:Value,(At b ⟨g,0,none⟩ [H])/\
 ∃ F:Value,(At b ⟨g,0,none⟩ [F])/\
 (ZaK prog cl Q [.int .i64 28629151] bq λ cn Z=>
 ∃ G,(cn=.returned (.int .i64 G))/\
 (b Z)/\
 (ZaK prog cl H [.int .i64 8] Z λ co aa=>
 ∃ T,(co=.returned (.int .i64 T))/\
 (b aa)/\
 (ZaK prog cl F [.int .i64 600] aa λ cp br=>
 ∃ bg,(cp=.returned (.int .i64 bg))/\
 (b br)/\
 New (.cells #[.int .i64 0,.int .i64 0,.int .i64 0,.slice none 0 0] 176 (0,0)) (λ an bs=>
 (b bs)/\
 ∃ bt:World,(St 176 ⟨an,0,none⟩ (.agg #[.int .i64 G,.int .i64 T,.int .i64 bg,.slice none 0 0]) bs bt)/\
 z ((some ⟨an,0,none⟩)) bt) br)/\
 New (.cells #[.int .i64 0,.int .i64 0,.int .i64 0,.slice none 0 0] 176 (0,0)) (λ ao bu=>
 (b bu)/\
 ZaK prog cl F [.int .i64 600] bu λ cq bw=>
 ∃ bh,(cq=.returned (.int .i64 bh))/\
 (b bw)/\
 ∃ bx:World,(St 176 ⟨ao,0,none⟩ (.agg #[.int .i64 G,.int .i64 T,.int .i64 bh,.slice none 0 0]) bw bx)/\
 z ((some ⟨ao,0,none⟩)) bx) aa)/\
 New (.cells #[.int .i64 0,.int .i64 0,.int .i64 0,.slice none 0 0] 176 (0,0)) (λ ap bz=>
 (b bz)/\
 ZaK prog cl H [.int .i64 8] bz λ cr b0=>
 ∃ be,(cr=.returned (.int .i64 be))/\
 (b b0)/\
 ZaK prog cl F [.int .i64 600] b0 λ cs b1=>
 ∃ bi,(cs=.returned (.int .i64 bi))/\
 (b b1)/\
 ∃ b2:World,(St 176 ⟨ap,0,none⟩ (.agg #[.int .i64 G,.int .i64 be,.int .i64 bi,.slice none 0 0]) b1 b2)/\
 z ((some ⟨ap,0,none⟩)) b2) Z)/\
 New (.cells #[.int .i64 0,.int .i64 0,.int .i64 0,.slice none 0 0] 176 (0,0)) (λ aq b3=>
 (b b3)/\
 ZaK prog cl Q [.int .i64 28629151] b3 λ ct b4=>
 ∃ bd,(ct=.returned (.int .i64 bd))/\
 (b b4)/\
 ZaK prog cl H [.int .i64 8] b4 λ cu b5=>
 ∃ bf,(cu=.returned (.int .i64 bf))/\
 (b b5)/\
 ZaK prog cl F [.int .i64 600] b5 λ cv b6=>
 ∃ bj,(cv=.returned (.int .i64 bj))/\
 (b b6)/\
 ∃ b7:World,(St 176 ⟨aq,0,none⟩ (.agg #[.int .i64 bd,.int .i64 bf,.int .i64 bj,.slice none 0 0]) b6 b7)/\
 z ((some ⟨aq,0,none⟩)) b7) bq)/\
 ∀ (dh:Env) (j:Option Addr) (b8:World),z j b8->
 Calls prog 158 #[.int .i64 600,.int .i64 600,.pointer ((some ⟨g,0,none⟩))] b8 λ cw dd=>
 ∃ u:Sl,(cw=.returned (u.v))/\
 Zc j λ am=>
 ∃ i:World,(St 28 ⟨am.block,am.off + 3,none⟩ (u.v) dd i)/\
 Br l
 (Zc j λ cj=>
 ∃ bk,(Aw i (Addr.add cj 0) [.int .i64 bk])/\
 Br (decide (bk>C))
 (Zc j λ cd=>
 ∃ au av aw,∃ m:Sl,(Aw i cd [.int .i64 au,.int .i64 av,.int .i64 aw,m.v])/\
 Calls prog 163 #[.pointer d,.agg #[.int .i64 au,.int .i64 av,.int .i64 aw,m.v]] i λ cy ab=>
 ∃ L,(cy=.returned (.bool L))/\
 Zc j λ ce=>
 ∃ M,(Aw ab (Addr.add ce 0) [.int .i64 M])/\
 (x L M (IntKind.i64.wrap (e + 1)) ab)/\v L M (IntKind.i64.wrap (e + 1)) ab<v l C e k)
 (Zc j λ cf=>
 ∃ N,(Aw i (Addr.add cf 0) [.int .i64 N])/\
 (x false N (IntKind.i64.wrap (e + 1)) i)/\v false N (IntKind.i64.wrap (e + 1)) i<v l C e k))
 (Zc j λ cg=>
 ∃ O,(Aw i (Addr.add cg 0) [.int .i64 O])/\
 (x false O (IntKind.i64.wrap (e + 1)) i)/\v false O (IntKind.i64.wrap (e + 1)) i<v l C e k))
 (∃ ax,(Aw k ⟨J,0,none⟩ [.pointer ax])/\
 Calls prog 83 #[.pointer ax] k λ cz ac=>
 ∃ ay,(cz=.returned (.bool ay))/\
 Br (!ay)
 (K (.tuple #[.pointer none,.int .i64 6]) ac)
 (Br (!l)
 (K (.tuple #[.pointer none,.int .i64 6]) ac)
 (K (.tuple #[.pointer d,.int .i64 0]) ac)))) bv) c7
def ZAD:Sk:=(.seq .leaf (.seq .leaf (.seq .leaf (.seq .leaf (.seq .leaf (.seq .leaf (.seq .leaf (.seq .leaf (.cut [8] [.bool] [8,41,42,43,44,45,46,47,48,49,50,51,52,53,54,55,56,57,58,59,60,61,62,63,64,65,66,67,68,69,70,71,72,73,74,75,76,77] .leaf (.seq .leaf (.seq (.seq .leaf (.block (.loop [8,9,80] [.bool,(.int .i64),(.int .i64)] [8,9,10,80,81,82,83,84,85,86,87,88,89,90,91,92,93,94,95,96,97,98,99,100,101,102,103,104,105,106] (.seq .leaf (.seq .leaf (.seq (.block (.cut [10] [.ptr] [10,82,83,84,85,86,87,88] .leaf .leaf)) .leaf)))))) .leaf)))))))))))
theorem Zx2 (b:Sl) (K:Value->World->Prop) (w:World) (h:B101 b K w):Zm prog 101 #[b.v] w K:=cq (sk:=ZAD) func101 (by kernel_rfl) (by kernel_rfl) (by kernel_rfl) h
def B157 (f:Int) (d:Option Addr) (K:Value->World->Prop) (w:World):Prop:=
 Zc d λ c=>
 ∃ a,(Aw w c [.pointer a])/\
 Calls prog 147 #[.pointer a,.int .u64 (IntKind.u64.wrap f)] w λ e i=>
 ∃ b,(e=.returned (.int .u64 b))/\
 K (.int .i64 (IntKind.i64.wrap b)) i
theorem Zxs (b:Int) (a:Option Addr) (K:Value->World->Prop) (w:World) (h:B157 b a K w):Zm prog 157 #[.int .i64 b,.pointer a] w K:=cq (sk:=.leaf) func157 (by kernel_rfl) (by kernel_rfl) (by kernel_rfl) h
def B158 (v:Int) (u:Int) (j:Option Addr) (K:Value->World->Prop) (w:World):Prop:=
 Zc j λ q=>
 ∃ m:Value,(Aw w q [m])/\
 ZaK prog cl m [.int .i64 v] w λ s x=>
 ∃ n,(s=.returned (.int .i64 n))/\
 ∃ (f:Sl->Int->World->Prop) (o:Sl->Int->World->Nat),(f ⟨none,0,0⟩ 0 x)/\∀ (A:Env) (b:Sl) (c:Int) (e:World),f b c e->
 Br (decide (c<n))
 (Zc j λ p=>
 ∃ k:Value,(Aw e p [k])/\
 ZaK prog cl k [.int .i64 u] e λ t y=>
 ∃ l,(t=.returned (.int .i64 l))/\
 New (.cells #[.int .i64 l] 3 (0,0)) (λ r z=>
 ∃ i:World,∃ d:Sl,((Builtin.append_ #[28,28] 28 #[b.v,.slice ((some ⟨r,0,none⟩)) 1 1]).run prog z=.ok (d.v) i)/\
 (f d (IntKind.i64.wrap (c + 1)) i)/\o d (IntKind.i64.wrap (c + 1)) i<o b c e) y)
 (K (b.v) e)
def ZAl:Sk:=(.seq .leaf (.seq .leaf (.seq (.seq .leaf (.block (.loop [6,10] [.sl,(.int .i64)] [6,10,11,12,13,14,15,16,17,18] .leaf))) .leaf)))
theorem Zxr (c:Int) (b:Int) (a:Option Addr) (K:Value->World->Prop) (w:World) (h:B158 c b a K w):Zm prog 158 #[.int .i64 c,.int .i64 b,.pointer a] w K:=cq (sk:=ZAl) func158 (by kernel_rfl) (by kernel_rfl) (by kernel_rfl) h
def B163 (j:Option Addr) (Y:Int) (Z:Int) (aa:Int) (p:Sl) (K:Value->World->Prop) (w:World):Prop:=
 New (.cells #[.int .i64 Y,.int .i64 Z,.int .i64 aa,p.v] 176 (0,0)) (λ d n=>
 ∃ (t:World->Prop),(∃ z,(Aw n ⟨d,0,none⟩ [.int .i64 z])/\
 ∃ A,(Aw n ⟨d,0 + 1,none⟩ [.int .i64 A])/\
 ∃ C,(Aw n ⟨d,0 + 2,none⟩ [.int .i64 C])/\
 Calls prog 112 #[.pointer j,.int .i64 z,.int .i64 A,.int .i64 C] n λ U k=>
 ∃ D,(U=.returned (.int .i64 D))/\
 Br (D !=0)
 (K (.bool false) k)
 (∃ m:Sl,(Aw k ⟨d,0 + 3,none⟩ [m.v])/\
 ∃ E,(Aw k ⟨d,0 + 2,none⟩ [.int .i64 E])/\
 Br (decide ((↑m.len:Int)>E))
 (K (.bool false) k)
 (t  k)))/\
 ∀ (ad:Env)  (r:World),t  r->
 ∃ g:Sl,(Aw r ⟨d,0 + 3,none⟩ [g.v])/\
 ∃ (o:Int->Int->World->Prop) (Q:Int->Int->World->Nat),(o ((-1)) 0 r)/\∀ (ae:Env) (q:Int) (e:Int) (c:World),o q e c->
 Br (decide (e<(↑g.len:Int)))
 (Rng e g.len (Zc g.a λ T=>
 ∃ f,(Aw c (Addr.add T e.toNat) [.int .i64 f])/\
 ∃ (u:World->Prop),(Zc j λ v=>
 ∃ F:Option Nat,(Aw c ⟨v.block,v.off + 6,none⟩ [.map F])/\
 ∃ ab:Int,∃ G:Bool,(∀ b,(λ b=>b=c) b->((Instr.lookup 172 (.map F) (.int .i64 f) true)).run prog b=.ok (.tuple #[.int .i64 ab,.bool G]) b)/\
 Br G
 (K (.bool false) c)
 (Br (decide (f<=q))
 (K (.bool false) c)
 (Zc j λ x=>
 ∃ H,∃ i:Sl,(Aw c ⟨x.block,x.off + 1,none⟩ [.int .i64 H,i.v])/\
 Calls prog 162 #[.agg #[.int .i64 H,i.v]] c λ V N=>
 ∃ I,(V=.returned (.int .i64 I))/\
 Br (decide (f >= I))
 (K (.bool false) N)
 (u  N))))/\
 ∀ (af:Env)  (O:World),u  O->
 Drw O λ l ac=>
 Zc j λ y=>
 ∃ J:Option Nat,(At l ⟨y.block,y.off + 5,none⟩ [.map J])/\
 ∃ L,(At l ⟨d,0,none⟩ [.int .i64 L])/\
 ∃ M:Option Addr,(∀ b,l b->((Instr.lookup 171 (.map J) (.int .i64 L) false)).run prog b=.ok (.pointer M) b)/\
 Calls prog 187 #[.pointer j,.pointer M,.int .i64 f] ac λ X s=>
 (X=.returned (.tuple #[]))/\
 (l s)/\
 (o f (IntKind.i64.wrap (e + 1)) s)/\Q f (IntKind.i64.wrap (e + 1)) s<Q q e c))
 (K (.bool true) c)) w
def ZAk:Sk:=(.seq .leaf (.cut [] [] [4,10,11,12,13,14,15,16,17,18,19,20,21,22,23,24,25,26] .leaf (.seq .leaf (.seq (.seq .leaf (.block (.loop [5,30] [(.int .i64),(.int .i64)] [4,5,7,8,9,30,31,32,33,34,35,36,37,38,39,40,41,42,43,44,45,46,47,48,49,50,51,52,53,54,55,56,57,58,59,60,61,62,63,64,65,66,67,68,69] (.seq .leaf (.seq .leaf (.seq (.block (.seq .leaf (.cut [] [] [4,8,9,34,35,36,37,38,39,40,41,42,43,44,45,46,47,48,49,50,51,52,53,54,55,56,57] .leaf .leaf))) .leaf)))))) .leaf))))
theorem Zxm (c:Option Addr) (d:Int) (e:Int) (f:Int) (b:Sl) (K:Value->World->Prop) (w:World) (h:B163 c d e f b K w):Zm prog 163 #[.pointer c,.agg #[.int .i64 d,.int .i64 e,.int .i64 f,b.v]] w K:=cq (sk:=ZAk) func163 (by kernel_rfl) (by kernel_rfl) (by kernel_rfl) h
end
section
open Go Go.VC Tryz
set_option maxRecDepth 10000
def B253 (o:Int) (j:Sl) (K:Value->World->Prop) (w:World):Prop:=
 New (.cells #[.int .i64 o,j.v] 35 (0,0)) (λ l p=>
 ∃ (i:Int->Int->World->Prop) (m:Int->Int->World->Nat),(i 0 0 p)/\∀ (q:Env) (d:Int) (c:Int) (b:World),i d c b->
 ∃ g:Sl,(Aw b ⟨l,0 + 1,none⟩ [g.v])/\
 Br (decide (c<(↑g.len:Int)))
 (∃ e:Sl,(Aw b ⟨l,0 + 1,none⟩ [e.v])/\
 Rng c e.len (Zc e.a λ n=>
 ∃ k,(Aw b (Addr.add n c.toNat) [.int .i64 k])/\
 (i (IntKind.i64.wrap (d + k)) (IntKind.i64.wrap (c + 1)) b)/\m (IntKind.i64.wrap (d + k)) (IntKind.i64.wrap (c + 1)) b<m d c b))
 (K (.int .i64 d) b)) w
def ZzY:Sk:=(.seq .leaf (.seq .leaf (.seq (.seq .leaf (.block (.loop [3,4] [(.int .i64),(.int .i64)] [3,4,5,6,7,8,9,10,11,12,13,14,15,16,17,18] .leaf))) .leaf)))
theorem Zwm (c:Int) (b:Sl) (K:Value->World->Prop) (w:World) (h:B253 c b K w):Zm prog 253 #[.agg #[.int .i64 c,b.v]] w K:=cq (sk:=ZzY) func253 (by kernel_rfl) (by kernel_rfl) (by kernel_rfl) h
def B199 (D:Int) (o:Sl) (K:Value->World->Prop) (w:World):Prop:=
 New (.cells #[.int .i64 D,o.v] 35 (0,0)) (λ f e=>
 ∃ (p:World->Prop),(∃ u,(Aw e ⟨f,0,none⟩ [.int .i64 u])/\
 Br (decide (u<1))
 (K (.bool false) e)
 (∃ v,(Aw e ⟨f,0,none⟩ [.int .i64 v])/\
 Br (decide (v>60))
 (K (.bool false) e)
 (∃ k:Sl,(Aw e ⟨f,0 + 1,none⟩ [k.v])/\
 Br (decide ((↑k.len:Int)<1))
 (K (.bool false) e)
 (∃ l:Sl,(Aw e ⟨f,0 + 1,none⟩ [l.v])/\
 Br (decide ((↑l.len:Int)>4))
 (K (.bool false) e)
 (p  e)))))/\
 ∀ (F:Env)  (x:World),p  x->
 ∃ (n:Int->World->Prop) (y:Int->World->Nat),(n 0 x)/\∀ (G:Env) (d:Int) (c:World),n d c->
 ∃ m:Sl,(Aw c ⟨f,0 + 1,none⟩ [m.v])/\
 Br (decide (d<(↑m.len:Int)))
 (∃ i:Sl,(Aw c ⟨f,0 + 1,none⟩ [i.v])/\
 Rng d i.len (Zc i.a λ z=>
 ∃ q,(Aw c (Addr.add z d.toNat) [.int .i64 q])/\
 Br (decide (q<1))
 (K (.bool false) c)
 (∃ j:Sl,(Aw c ⟨f,0 + 1,none⟩ [j.v])/\
 Rng d j.len (Zc j.a λ A=>
 ∃ r,(Aw c (Addr.add A d.toNat) [.int .i64 r])/\
 Br (decide (r>10))
 (K (.bool false) c)
 ((n (IntKind.i64.wrap (d + 1)) c)/\y (IntKind.i64.wrap (d + 1)) c<y d c)))))
 (∃ s,∃ g:Sl,(Aw c ⟨f,0,none⟩ [.int .i64 s,g.v])/\
 Calls prog 253 #[.agg #[.int .i64 s,g.v]] c λ C E=>
 ∃ t,(C=.returned (.int .i64 t))/\
 K (.bool (decide (t<=10))) E)) w
def ZAb:Sk:=(.seq .leaf (.cut [] [] [2,4,5,6,7,8,9,10,11,12,13,14,15,16,17,18,19,20,21,22,23] .leaf (.seq (.seq .leaf (.block (.loop [3] [(.int .i64)] [2,3,24,25,26,27,28,29,30,31,32,33,34,35,36,37,38,39,40,41,42,43,44] .leaf))) .leaf)))
theorem ZwS (c:Int) (b:Sl) (K:Value->World->Prop) (w:World) (h:B199 c b K w):Zm prog 199 #[.agg #[.int .i64 c,b.v]] w K:=cq (sk:=ZAb) func199 (by kernel_rfl) (by kernel_rfl) (by kernel_rfl) h
def B201 (r:Int) (f:Sl) (K:Value->World->Prop) (w:World):Prop:=
 New (.cells #[.int .i64 r,f.v] 35 (0,0)) (λ e m=>
 ∃ j,∃ c:Sl,(Aw m ⟨e,0,none⟩ [.int .i64 j,c.v])/\
 Calls prog 199 #[.agg #[.int .i64 j,c.v]] m λ p n=>
 ∃ k,(p=.returned (.bool k))/\
 Br (!k)
 (K (.int .i64 0) n)
 (Drw n λ d t=>
 ∃ l,(At d ⟨e,0,none⟩ [.int .i64 l])/\
 ∃ g,∃ b:Sl,(At d ⟨e,0,none⟩ [.int .i64 g,b.v])/\
 Calls prog 253 #[.agg #[.int .i64 g,b.v]] t λ q o=>
 ∃ i,(q=.returned (.int .i64 i))/\
 (d o)/\
 K (.int .i64 (IntKind.i64.wrap (l * i))) o)) w
theorem ZwR (c:Int) (b:Sl) (K:Value->World->Prop) (w:World) (h:B201 c b K w):Zm prog 201 #[.agg #[.int .i64 c,b.v]] w K:=cq (sk:=.leaf) func201 (by kernel_rfl) (by kernel_rfl) (by kernel_rfl) h
def B214 (c:Sl) (K:Value->World->Prop) (w:World):Prop:=
 ∃ (j:World->Prop),(Br (decide ((↑c.len:Int)<1))
 (K (.bool false) w)
 (Br (decide ((↑c.len:Int)>8))
 (K (.bool false) w)
 (j  w)))/\
 ∀ (t:Env)  (o:World),j  o->
 ∃ (f:Int->World->Prop) (i:Int->World->Nat),(f 0 o)/\∀ (u:Env) (b:Int) (e:World),f b e->
 Br (decide (b<(↑c.len:Int)))
 (Drw e λ g d=>
 Rng b c.len (Zc c.a λ p=>
 ∃ k,(At g (Addr.add p b.toNat) [.int .i64 k])/\
 Br (decide (k<0))
 (K (.bool false) d)
 (Rng b c.len (Zc c.a λ q=>
 ∃ l,(At g (Addr.add q b.toNat) [.int .i64 l])/\
 Br (decide (l>10000))
 (K (.bool false) d)
 (Br (decide (b>0))
 (Rng b c.len (Zc c.a λ r=>
 ∃ m,(At g (Addr.add r b.toNat) [.int .i64 m])/\
 Rng (IntKind.i64.wrap (b - 1)) c.len (Zc c.a λ s=>
 ∃ n,(At g (Addr.add s ((IntKind.i64.wrap (b - 1)).toNat)) [.int .i64 n])/\
 Br (decide (m>n))
 (K (.bool false) d)
 ((f (IntKind.i64.wrap (b + 1)) d)/\i (IntKind.i64.wrap (b + 1)) d<i b e))))
 ((f (IntKind.i64.wrap (b + 1)) d)/\i (IntKind.i64.wrap (b + 1)) d<i b e))))))
 (K (.bool true) e)
def Zz8:Sk:=(.seq .leaf (.cut [] [] [2,4,5,6,7,8,9,10,11] .leaf (.seq (.seq .leaf (.block (.loop [3] [(.int .i64)] [2,3,12,13,14,15,16,17,18,19,20,21,22,23,24,25,26,27,28,29,30,31,32,33,34,35,36,37,38,39,40,41,42,43,44,45] .leaf))) .leaf)))
theorem ZwL (b:Sl) (K:Value->World->Prop) (w:World) (h:B214 b K w):Zm prog 214 #[b.v] w K:=cq (sk:=Zz8) func214 (by kernel_rfl) (by kernel_rfl) (by kernel_rfl) h
def B156 (f:Sl) (k:Int) (K:Value->World->Prop) (w:World):Prop:=
 ∃ (e:Int->Int->World->Prop) (i:Int->Int->World->Nat),(e 0 k w)/\∀ (m:Env) (d:Int) (b:Int) (c:World),e d b c->
 Br (decide (b<(↑f.len:Int)))
 (Rng b f.len (Zc f.a λ j=>
 ∃ g,(Aw c (Addr.add j b.toNat) [.int .i64 g])/\
 (e (IntKind.i64.wrap (d + g)) (IntKind.i64.wrap (b + 1)) c)/\i (IntKind.i64.wrap (d + g)) (IntKind.i64.wrap (b + 1)) c<i d b c))
 (K (.int .i64 d) c)
def ZAm:Sk:=(.seq .leaf (.seq .leaf (.seq (.seq .leaf (.block (.loop [5,6] [(.int .i64),(.int .i64)] [5,6,8,9,10,11,12,13,14,15,16,17,18,19] .leaf))) .leaf)))
theorem Zxt (b:Sl) (c:Int) (K:Value->World->Prop) (w:World) (h:B156 b c K w):Zm prog 156 #[b.v,.int .i64 c] w K:=cq (sk:=ZAm) func156 (by kernel_rfl) (by kernel_rfl) (by kernel_rfl) h
def B155 (f:Sl) (c:Sl) (K:Value->World->Prop) (w:World):Prop:=
 Calls prog 214 #[f.v] w λ C m=>
 ∃ t,(C=.returned (.bool t))/\
 ∃ (n:World->Prop),(Br (!t)
 (K (.bool false) m)
 (Br ((↑c.len:Int) !=(↑f.len:Int))
 (K (.bool false) m)
 (n  m)))/\
 ∀ (F:Env)  (u:World),n  u->
 ∃ (j:Int->World->Prop) (v:Int->World->Nat),(j 0 u)/\∀ (G:Env) (b:Int) (d:World),j b d->
 Br (decide (b<(↑c.len:Int)))
 (Rng b c.len (Zc c.a λ y=>
 ∃ p,(Aw d (Addr.add y b.toNat) [.int .i64 p])/\
 Br (decide (p<0))
 (K (.bool false) d)
 (Rng b c.len (Zc c.a λ z=>
 ∃ q,(Aw d (Addr.add z b.toNat) [.int .i64 q])/\
 Br (decide (q>10000))
 (K (.bool false) d)
 ((j (IntKind.i64.wrap (b + 1)) d)/\v (IntKind.i64.wrap (b + 1)) d<v b d)))))
 (∃ (k:Int->World->Prop) (x:Int->World->Nat),(k 0 d)/\∀ (H:Env) (e:Int) (g:World),k e g->
 Br (decide (e<(↑f.len:Int)))
 (Drw g λ o E=>
 Rng e f.len (Zc f.a λ A=>
 ∃ s,(At o (Addr.add A e.toNat) [.int .i64 s])/\
 Calls prog 156 #[c.v,.int .i64 e] E λ D i=>
 ∃ r,(D=.returned (.int .i64 r))/\
 (o i)/\
 Br (decide (r>s))
 (K (.bool false) i)
 ((k (IntKind.i64.wrap (e + 1)) i)/\x (IntKind.i64.wrap (e + 1)) i<x e g)))
 (K (.bool true) g))
def ZAn:Sk:=(.seq .leaf (.seq .leaf (.cut [] [] [4,10,11,12,13,14,15,16,17,18] .leaf (.seq (.seq .leaf (.block (.loop [6] [(.int .i64)] [4,6,19,20,21,22,23,24,25,26,27,28,29,30,31,32,33,34,35,36] .leaf))) (.seq (.seq .leaf (.block (.loop [7] [(.int .i64)] [4,7,37,38,39,40,41,42,43,44,45,46,47,48,49,50] .leaf))) .leaf)))))
theorem Zxu (b:Sl) (c:Sl) (K:Value->World->Prop) (w:World) (h:B155 b c K w):Zm prog 155 #[b.v,c.v] w K:=cq (sk:=ZAn) func155 (by kernel_rfl) (by kernel_rfl) (by kernel_rfl) h
def B97 (d:Sl) (e:Sl) (l:Int) (K:Value->World->Prop) (w:World):Prop:=
 Calls prog 155 #[d.v,e.v] w λ t i=>
 ∃ p,(t=.returned (.bool p))/\
 ∃ (n:World->Prop),(Br (!p)
 (K (.tuple #[.int .i64 0,.int .i64 1]) i)
 (Br (decide (l<0))
 (K (.tuple #[.int .i64 0,.int .i64 1]) i)
 (Br (decide (l >= (↑d.len:Int)))
 (K (.tuple #[.int .i64 0,.int .i64 1]) i)
 (n  i))))/\
 ∀ (x:Env)  (q:World),n  q->
 ∃ (k:Int->Int->World->Prop) (r:Int->Int->World->Nat),(k 10000 0 q)/\∀ (y:Env) (c:Int) (b:Int) (j:World),k c b j->
 Br (decide (b<=l))
 (Drw j λ o v=>
 Rng b d.len (Zc d.a λ s=>
 ∃ f,(At o (Addr.add s b.toNat) [.int .i64 f])/\
 Calls prog 156 #[e.v,.int .i64 b] v λ u m=>
 ∃ g,(u=.returned (.int .i64 g))/\
 (o m)/\
 (k (if IntKind.i64.wrap (f - g)<c then IntKind.i64.wrap (f - g) else c) (IntKind.i64.wrap (b + 1)) m)/\r (if IntKind.i64.wrap (f - g)<c then IntKind.i64.wrap (f - g) else c) (IntKind.i64.wrap (b + 1)) m<r c b j))
 (K (.tuple #[.int .i64 c,.int .i64 0]) j)
def sk97:Sk:=(.seq .leaf (.seq .leaf (.cut [] [] [6,7,14,15,16,17,18,19,20,21,22,23,24,25] .leaf (.seq .leaf (.seq (.seq .leaf (.block (.loop [9,10] [(.int .i64),(.int .i64)] [9,10,26,27,28,29,30,31,32,33,34,35,36,37,38,39,40] .leaf))) .leaf)))))
theorem ZyU (b:Sl) (c:Sl) (d:Int) (K:Value->World->Prop) (w:World) (h:B97 b c d K w):Zm prog 97 #[b.v,c.v,.int .i64 d] w K:=cq (sk:=sk97) func97 (by kernel_rfl) (by kernel_rfl) (by kernel_rfl) h
def B208 (e:Sl) (j:Int) (K:Value->World->Prop) (w:World):Prop:=
 ∃ (d:Int->World->Prop) (g:Int->World->Nat),(d 0 w)/\∀ (l:Env) (b:Int) (c:World),d b c->
 Br (decide (b<(↑e.len:Int)))
 (Rng b e.len (Zc e.a λ i=>
 ∃ f,(Aw c (Addr.add i b.toNat) [.int .i64 f])/\
 Br (f==j)
 (K (.bool true) c)
 ((d (IntKind.i64.wrap (b + 1)) c)/\g (IntKind.i64.wrap (b + 1)) c<g b c)))
 (K (.bool false) c)
def Zz9:Sk:=(.seq .leaf (.seq (.seq .leaf (.block (.loop [5] [(.int .i64)] [4,5,6,7,8,9,10,11,12,13,14,15,16,17] .leaf))) .leaf))
theorem ZwN (b:Sl) (c:Int) (K:Value->World->Prop) (w:World) (h:B208 b c K w):Zm prog 208 #[b.v,.int .i64 c] w K:=cq (sk:=Zz9) func208 (by kernel_rfl) (by kernel_rfl) (by kernel_rfl) h
def B88 (n:Int) (K:Value->World->Prop) (w:World):Prop:=
 ∃ (g:Int->Sl->World->Prop) (k:Int->Sl->World->Nat),(g n ⟨none,0,0⟩ w)/\∀ (q:Env) (c:Int) (b:Sl) (f:World),g c b f->
 Br (decide (c>0))
 (New (.cells #[.int .u8 (IntKind.u8.wrap (c.tmod 256))] 5 (0,0)) (λ m o=>
 ∃ i:World,∃ e:Sl,((Builtin.append_ #[42,42] 42 #[.slice ((some ⟨m,0,none⟩)) 1 1,b.v]).run prog o=.ok (e.v) i)/\
 (g (IntKind.u64.wrap (c.tdiv 256)) e i)/\k (IntKind.u64.wrap (c.tdiv 256)) e i<k c b f) f)
 (New (.cells #[.int .u8 (IntKind.u8.wrap (↑b.len:Int))] 5 (0,0)) (λ l p=>
 ∃ j:World,∃ d:Sl,((Builtin.append_ #[42,42] 42 #[.slice ((some ⟨l,0,none⟩)) 1 1,b.v]).run prog p=.ok (d.v) j)/\
 K (d.v) j) f)
def sk88:Sk:=(.seq .leaf (.seq .leaf (.seq (.block (.loop [0,3] [(.int .u64),.sl] [0,3,4,5,6,7,8,9,10,11,12,13] .leaf)) .leaf)))
theorem Zy0 (a:Int) (K:Value->World->Prop) (w:World) (h:B88 a K w):Zm prog 88 #[.int .u64 a] w K:=cq (sk:=sk88) func88 (by kernel_rfl) (by kernel_rfl) (by kernel_rfl) h
def B148 (b:Option Addr) (K:Value->World->Prop) (w:World):Prop:=
 ∃ (E:World->Prop),(Drw w λ t D=>
 Zc b λ F=>
 ∃ N,(At t ⟨F.block,F.off + 2,none⟩ [.bool N])/\
 Br N
 (K (.tuple #[.int .u64 0,.bool false,.int .i64 0]) D)
 (Zc b λ G=>
 ∃ O,(At t ⟨G.block,G.off + 1,none⟩ [.int .i64 O])/\
 Zc b λ ad=>
 ∃ o:Sl,(At t (Addr.add ad 0) [o.v])/\
 Br (decide (O >= (↑o.len:Int)))
 (K (.tuple #[.int .u64 0,.bool false,.int .i64 0]) D)
 (E  D)))/\
 ∀ (am:Env)  (V:World),E  V->
 Drw V λ u X=>
 Zc b λ ae=>
 ∃ k:Sl,(At u (Addr.add ae 0) [k.v])/\
 Zc b λ H=>
 ∃ y,(At u ⟨H.block,H.off + 1,none⟩ [.int .i64 y])/\
 Rng y k.len (Zc k.a λ af=>
 ∃ g,(At u (Addr.add af y.toNat) [.int .u8 g])/\
 ∃ (s:Int->World->Prop),(Br (decide (IntKind.i64.wrap g >= 16))
 (s (IntKind.i64.wrap (IntKind.i64.wrap g - 16)) X)
 (s (IntKind.i64.wrap g) X))/\
 ∀ (an:Env) (e:Int) (Y:World),s e Y->
 ∃ (i:World->Prop),(Drw Y λ d c=>
 Br (decide (e>8))
 (K (.tuple #[.int .u64 0,.bool false,.int .i64 0]) c)
 (Zc b λ I=>
 ∃ Q,(At d ⟨I.block,I.off + 1,none⟩ [.int .i64 Q])/\
 Zc b λ ag=>
 ∃ p:Sl,(At d (Addr.add ag 0) [p.v])/\
 Br (decide (IntKind.i64.wrap (IntKind.i64.wrap (Q + 1) + e)>(↑p.len:Int)))
 (K (.tuple #[.int .u64 0,.bool false,.int .i64 0]) c)
 (Br (decide (IntKind.i64.wrap g >= 16))
 (Br (e==0)
 (K (.tuple #[.int .u64 0,.bool false,.int .i64 0]) c)
 (Br (decide (e>0))
 (Zc b λ ah=>
 ∃ l:Sl,(At d (Addr.add ah 0) [l.v])/\
 Zc b λ J=>
 ∃ z,(At d ⟨J.block,J.off + 1,none⟩ [.int .i64 z])/\
 Rng (IntKind.i64.wrap (z + 1)) l.len (Zc l.a λ aj=>
 ∃ T,(At d (Addr.add aj ((IntKind.i64.wrap (z + 1)).toNat)) [.int .u8 T])/\
 Br (T==0)
 (K (.tuple #[.int .u64 0,.bool false,.int .i64 0]) c)
 (i  c)))
 (i  c)))
 (Br (decide (e>0))
 (Zc b λ ai=>
 ∃ m:Sl,(At d (Addr.add ai 0) [m.v])/\
 Zc b λ L=>
 ∃ A,(At d ⟨L.block,L.off + 1,none⟩ [.int .i64 A])/\
 Rng (IntKind.i64.wrap (A + 1)) m.len (Zc m.a λ ak=>
 ∃ U,(At d (Addr.add ak ((IntKind.i64.wrap (A + 1)).toNat)) [.int .u8 U])/\
 Br (U==0)
 (K (.tuple #[.int .u64 0,.bool false,.int .i64 0]) c)
 (i  c)))
 (i  c)))))/\
 ∀ (ao:Env)  (Z:World),i  Z->
 ∃ (r:Int->Int->World->Prop) (ab:Int->Int->World->Nat),(r 0 0 Z)/\∀ (ap:Env) (j:Int) (f:Int) (q:World),r j f q->
 Br (decide (f<e))
 (Drw q λ v aa=>
 Zc b λ al=>
 ∃ n:Sl,(At v (Addr.add al 0) [n.v])/\
 Zc b λ M=>
 ∃ C,(At v ⟨M.block,M.off + 1,none⟩ [.int .i64 C])/\
 Rng (IntKind.i64.wrap (IntKind.i64.wrap (C + 1) + f)) n.len (Zc n.a λ ac=>
 ∃ x,(At v (Addr.add ac ((IntKind.i64.wrap (IntKind.i64.wrap (C + 1) + f)).toNat)) [.int .u8 x])/\
 (r (IntKind.u64.wrap (IntKind.u64.wrap (j * 256) + IntKind.u64.wrap x)) (IntKind.i64.wrap (f + 1)) aa)/\ab (IntKind.u64.wrap (IntKind.u64.wrap (j * 256) + IntKind.u64.wrap x)) (IntKind.i64.wrap (f + 1)) aa<ab j f q))
 (K (.tuple #[.int .u64 j,.bool (decide (IntKind.i64.wrap g >= 16)),.int .i64 (IntKind.i64.wrap (e + 1))]) q))
def ZAr:Sk:=(.seq .leaf (.cut [] [] [2,3,4,9,10,11,12,13,14,15,16,17,18,19,20,21,22,23,24] .leaf (.seq .leaf (.seq .leaf (.cut [5] [(.int .i64)] [5,38,39,40] .leaf (.cut [] [] [2,3,4,41,42,43,44,45,46,47,48,49,50,51,52,53,54,55,56,57,58,59,60,61,62,63,64,65,66,67,68,69,70,71,72,73,74,75,76,77,78,79,80,81,82] .leaf (.seq .leaf (.seq (.seq .leaf (.block (.loop [7,8] [(.int .u64),(.int .i64)] [7,8,83,84,85,86,87,88,89,90,91,92,93,94,95,96,97,98,99,100,101,102,103,104] .leaf))) .leaf))))))))
theorem Zxz (a:Option Addr) (K:Value->World->Prop) (w:World) (h:B148 a K w):Zm prog 148 #[.pointer a] w K:=cq (sk:=ZAr) func148 (by kernel_rfl) (by kernel_rfl) (by kernel_rfl) h
def B84 (a:Option Addr) (t:Int) (K:Value->World->Prop) (w:World):Prop:=
 Calls prog 148 #[.pointer a] w λ s b=>
 ∃ c m d,(s=.returned (.tuple #[.int .u64 c,.bool m,.int .i64 d]))/\
 ∃ (f:World->Prop),(Br (d==0)
 (Zc a λ g=>
 ∃ o:World,(St 4 ⟨g.block,g.off + 2,none⟩ (.bool true) b o)/\
 K (.int .u64 0) o)
 (Br m
 (Zc a λ i=>
 ∃ p:World,(St 4 ⟨i.block,i.off + 2,none⟩ (.bool true) b p)/\
 K (.int .u64 0) p)
 (Br (decide (c>t))
 (Zc a λ j=>
 ∃ q:World,(St 4 ⟨j.block,j.off + 2,none⟩ (.bool true) b q)/\
 K (.int .u64 0) q)
 (f  b))))/\
 ∀ (v:Env)  (e:World),f  e->
 Zc a λ k=>
 ∃ n,(Aw e ⟨k.block,k.off + 1,none⟩ [.int .i64 n])/\
 Zc a λ l=>
 ∃ r:World,(St 3 ⟨l.block,l.off + 1,none⟩ (.int .i64 (IntKind.i64.wrap (n + d))) e r)/\
 K (.int .u64 c) r
def sk84:Sk:=(.seq .leaf (.seq .leaf (.cut [] [] [4,14,15,16,17,18,19,20,21,22,23,24,25,26] .leaf .leaf)))
theorem Zy3 (b:Option Addr) (a:Int) (K:Value->World->Prop) (w:World) (h:B84 b a K w):Zm prog 84 #[.pointer b,.int .u64 a] w K:=cq (sk:=sk84) func84 (by kernel_rfl) (by kernel_rfl) (by kernel_rfl) h
def B86 (d:Option Addr) (K:Value->World->Prop) (w:World):Prop:=
 Drw w λ c j=>
 Zc d λ f=>
 ∃ i,(At c ⟨f.block,f.off + 2,none⟩ [.bool i])/\
 Br (!i)
 (Zc d λ e=>
 ∃ g,(At c ⟨e.block,e.off + 1,none⟩ [.int .i64 g])/\
 Zc d λ k=>
 ∃ b:Sl,(At c (Addr.add k 0) [b.v])/\
 K (.bool (g==(↑b.len:Int))) j)
 (K (.bool false) j)
theorem Zy1 (a:Option Addr) (K:Value->World->Prop) (w:World) (h:B86 a K w):Zm prog 86 #[.pointer a] w K:=cq (sk:=.leaf) func86 (by kernel_rfl) (by kernel_rfl) (by kernel_rfl) h
end
section
open Go Go.VC Tryz
set_option maxRecDepth 10000
def B98 (e:Option Addr) (K:Value->World->Prop) (w:World):Prop:=
 Zc e λ z=>
 ∃ j:Sl,(Aw w ⟨z.block,z.off + 3,none⟩ [j.v])/\
 ∃ D:World,∃ c:Sl,((Instr.makeSlice 28 (.int .i64 ((↑j.len:Int))) (.int .i64 ((↑j.len:Int)))).run prog w=.ok (c.v) D)/\
 ∃ (m:Int->World->Prop) (E:Int->World->Nat),(m 0 D)/\∀ (I:Env) (b:Int) (k:World),m b k->
 Zc e λ r=>
 ∃ l:Sl,(Aw k ⟨r.block,r.off + 4,none⟩ [l.v])/\
 Br (decide (b<(↑l.len:Int)))
 (Drw k λ d H=>
 Zc e λ s=>
 ∃ f:Sl,(At d ⟨s.block,s.off + 4,none⟩ [f.v])/\
 Rng b f.len (Zc f.a λ t=>
 ∃ n,(At d ⟨(t.add (Za6 b.toNat 4)).block,(t.add (Za6 b.toNat 4)).off + 1,none⟩ [.int .i64 n])/\
 Zc e λ u=>
 ∃ g:Sl,(At d ⟨u.block,u.off + 4,none⟩ [g.v])/\
 Rng b g.len (Zc g.a λ v=>
 ∃ o,(At d ⟨(v.add (Za6 b.toNat 4)).block,(v.add (Za6 b.toNat 4)).off + 1,none⟩ [.int .i64 o])/\
 Rng o c.len (Zc c.a λ F=>
 ∃ A,(At d (Addr.add F o.toNat) [.int .i64 A])/\
 Zc e λ x=>
 ∃ i:Sl,(At d ⟨x.block,x.off + 4,none⟩ [i.v])/\
 Rng b i.len (Zc i.a λ y=>
 ∃ C,(At d ⟨(y.add (Za6 b.toNat 4)).block,(y.add (Za6 b.toNat 4)).off + 2,none⟩ [.int .i64 C])/\
 Rng n c.len (Zc c.a λ G=>
 ∃ q:World,(St 3 (Addr.add G n.toNat) (.int .i64 (IntKind.i64.wrap (A + C))) H q)/\
 (m (IntKind.i64.wrap (b + 1)) q)/\E (IntKind.i64.wrap (b + 1)) q<E b k))))))
 (K (c.v) k)
def sk98:Sk:=(.seq .leaf (.seq .leaf (.seq (.seq .leaf (.block (.loop [4] [(.int .i64)] [4,11,12,13,14,15,16,17,18,19,20,21,22,23,24,25,26,27,28,29,30,31,32,33,34,35,36,37,38,39,40,41,42,43,44,45,46,47,48,49] .leaf))) .leaf)))
theorem ZyT (a:Option Addr) (K:Value->World->Prop) (w:World) (h:B98 a K w):Zm prog 98 #[.pointer a] w K:=cq (sk:=sk98) func98 (by kernel_rfl) (by kernel_rfl) (by kernel_rfl) h
def B36 (k:Option Addr) (K:Value->World->Prop) (w:World):Prop:=
 ∃ (j:Sl->Int->World->Prop) (r:Sl->Int->World->Nat),(j ⟨none,0,0⟩ 0 w)/\∀ (C:Env) (b:Sl) (c:Int) (g:World),j b c g->
 Zc k λ o=>
 ∃ i:Sl,(Aw g ⟨o.block,o.off + 3,none⟩ [i.v])/\
 Br (decide (c<(↑i.len:Int)))
 (Drw g λ m y=>
 Zc k λ n=>
 ∃ d:Sl,(At m ⟨n.block,n.off + 3,none⟩ [d.v])/\
 Calls prog 98 #[.pointer k] y λ t q=>
 ∃ e:Sl,(t=.returned (e.v))/\
 (m q)/\
 Calls prog 97 #[d.v,e.v,.int .i64 c] q λ u z=>
 ∃ p v,(u=.returned (.tuple #[.int .i64 p,.int .i64 v]))/\
 New (.cells #[.int .i64 p] 3 (0,0)) (λ s A=>
 ∃ l:World,∃ f:Sl,((Builtin.append_ #[28,28] 28 #[b.v,.slice ((some ⟨s,0,none⟩)) 1 1]).run prog A=.ok (f.v) l)/\
 (j f (IntKind.i64.wrap (c + 1)) l)/\r f (IntKind.i64.wrap (c + 1)) l<r b c g) z)
 (K (b.v) g)
def sk36:Sk:=(.seq .leaf (.seq .leaf (.seq (.seq .leaf (.block (.loop [3,4] [.sl,(.int .i64)] [3,4,5,6,7,8,9,10,11,12,13,14,15,16,17,18,19,20,21,22,23,24,25,26,27,28,29,30] .leaf))) .leaf)))
theorem Zzp (a:Option Addr) (K:Value->World->Prop) (w:World) (h:B36 a K w):Zm prog 36 #[.pointer a] w K:=cq (sk:=sk36) func36 (by kernel_rfl) (by kernel_rfl) (by kernel_rfl) h
def B152 (g:Option Addr) (s:Int) (r:Int) (K:Value->World->Prop) (w:World):Prop:=
 Calls prog 84 #[.pointer g,.int .u64 s] w λ p u=>
 ∃ k,(p=.returned (.int .u64 k))/\
 ∃ (f:Sl->Int->World->Prop) (n:Sl->Int->World->Nat),(f ⟨none,0,0⟩ 0 u)/\∀ (y:Env) (b:Sl) (d:Int) (c:World),f b d c->
 Br (decide (d<k))
 (Zc g λ j=>
 ∃ l,(Aw c ⟨j.block,j.off + 2,none⟩ [.bool l])/\
 Br (!l)
 (Calls prog 84 #[.pointer g,.int .u64 r] c λ q v=>
 ∃ m,(q=.returned (.int .u64 m))/\
 New (.cells #[.int .i64 (IntKind.i64.wrap m)] 3 (0,0)) (λ o x=>
 ∃ i:World,∃ e:Sl,((Builtin.append_ #[28,28] 28 #[b.v,.slice ((some ⟨o,0,none⟩)) 1 1]).run prog x=.ok (e.v) i)/\
 (f e (IntKind.u64.wrap (d + 1)) i)/\n e (IntKind.u64.wrap (d + 1)) i<n b d c) v)
 (K (b.v) c))
 (K (b.v) c)
def ZAq:Sk:=(.seq .leaf (.seq .leaf (.seq .leaf (.seq (.seq .leaf (.block (.loop [8,9] [.sl,(.int .u64)] [8,9,13,14,15,16,17,18,19,20,21,22,23,24,25,26,27,28,29,30,31] .leaf))) .leaf))))
theorem Zxx (c:Option Addr) (b:Int) (a:Int) (K:Value->World->Prop) (w:World) (h:B152 c b a K w):Zm prog 152 #[.pointer c,.int .u64 b,.int .u64 a] w K:=cq (sk:=ZAq) func152 (by kernel_rfl) (by kernel_rfl) (by kernel_rfl) h
def B94 (p:Sl) (K:Value->World->Prop) (w:World):Prop:=
 New (.cells #[p.v,.int .i64 0,.bool false] 133 (0,0)) (λ b ak=>
 Calls prog 84 #[.pointer ((some ⟨b,0,none⟩)),.int .u64 9999] ak λ Y ar=>
 ∃ u,(Y=.returned (.int .u64 u))/\
 Calls prog 84 #[.pointer ((some ⟨b,0,none⟩)),.int .u64 60] ar λ Z au=>
 ∃ v,(Z=.returned (.int .u64 v))/\
 New (.cells #[.int .i64 (IntKind.i64.wrap u),.int .i64 (IntKind.i64.wrap v),.slice none 0 0,.slice none 0 0,.slice none 0 0] 149 (0,0)) (λ c av=>
 Calls prog 152 #[.pointer ((some ⟨b,0,none⟩)),.int .u64 4,.int .u64 10] av λ ab aw=>
 ∃ d:Sl,(ab=.returned (d.v))/\
 ∃ T:World,(St 28 ⟨c,0 + 1 + 1,none⟩ (d.v) aw T)/\
 Calls prog 152 #[.pointer ((some ⟨b,0,none⟩)),.int .u64 8,.int .u64 10000] T λ ac ax=>
 ∃ e:Sl,(ac=.returned (e.v))/\
 ∃ U:World,(St 28 ⟨c,0 + 3,none⟩ (e.v) ax U)/\
 Calls prog 84 #[.pointer ((some ⟨b,0,none⟩)),.int .u64 600] U λ ad ay=>
 ∃ x,(ad=.returned (.int .u64 x))/\
 ∃ (o:World->Prop),(∃ (n:Int->World->Prop) (V:Int->World->Nat),(n 0 ay)/\∀ (az:Env) (l:Int) (k:World),n l k->
 ∃ (t:World->Prop),(Br (decide (l<x))
 (∃ y,(Aw k ⟨b,0 + 2,none⟩ [.bool y])/\
 Br (!y)
 (t  k)
 (o  k))
 (o  k))/\
 ∀ (a0:Env)  (I:World),t  I->
 Calls prog 84 #[.pointer ((some ⟨b,0,none⟩)),.int .u64 28629151] I λ ae al=>
 ∃ z,(ae=.returned (.int .u64 z))/\
 Calls prog 84 #[.pointer ((some ⟨b,0,none⟩)),.int .u64 8] al λ af am=>
 ∃ A,(af=.returned (.int .u64 A))/\
 Calls prog 84 #[.pointer ((some ⟨b,0,none⟩)),.int .u64 600] am λ ag an=>
 ∃ C,(ag=.returned (.int .u64 C))/\
 New (.cells #[.int .i64 0,.int .i64 0,.int .i64 0,.slice none 0 0] 176 (0,0)) (λ q ao=>
 ∃ J:World,(St 176 ⟨q,0,none⟩ (.agg #[.int .i64 (IntKind.i64.wrap z),.int .i64 (IntKind.i64.wrap A),.int .i64 (IntKind.i64.wrap C),.slice none 0 0]) ao J)/\
 Calls prog 152 #[.pointer ((some ⟨b,0,none⟩)),.int .u64 600,.int .u64 600] J λ ah ap=>
 ∃ f:Sl,(ah=.returned (f.v))/\
 ∃ L:World,(St 28 ⟨q,0 + 3,none⟩ (f.v) ap L)/\
 Drw L λ m aq=>
 ∃ g:Sl,(At m ⟨c,0 + 4,none⟩ [g.v])/\
 ∃ D E F,∃ i:Sl,(At m ⟨q,0,none⟩ [.int .i64 D,.int .i64 E,.int .i64 F,i.v])/\
 New (.cells #[.int .i64 D,.int .i64 E,.int .i64 F,i.v] 176 (0,0)) (λ X M=>
 (m M)/\
 ∃ r:World,∃ j:Sl,((Builtin.append_ #[147,147] 147 #[g.v,.slice ((some ⟨X,0,none⟩)) 1 1]).run prog M=.ok (j.v) r)/\
 (m r)/\
 ∃ s:World,(St 147 ⟨c,0 + 4,none⟩ (j.v) r s)/\
 (n (IntKind.u64.wrap (l + 1)) s)/\V (IntKind.u64.wrap (l + 1)) s<V l k) aq) an)/\
 ∀ (a1:Env)  (N:World),o  N->
 Calls prog 86 #[.pointer ((some ⟨b,0,none⟩))] N λ ai O=>
 ∃ G,(ai=.returned (.bool G))/\
 Br G
 (Calls prog 153 #[.pointer ((some ⟨c,0,none⟩))] O λ aa Q=>
 ∃ H,(aa=.returned (.bool H))/\
 Br (!H)
 (K (.tuple #[.pointer none,.int .i64 6]) Q)
 (K (.tuple #[.pointer ((some ⟨c,0,none⟩)),.int .i64 0]) Q))
 (K (.tuple #[.pointer none,.int .i64 6]) O)) au) w
def sk94:Sk:=(.seq .leaf (.seq .leaf (.seq .leaf (.seq .leaf (.seq .leaf (.seq .leaf (.cut [] [] [7,8,36,37,38,39,40,41,42,43,44,45,46,47,48,49,50,51,52,53,54,55,56,57,58,59,60,61,62,63,64,65,66,67,68,69,70] (.seq .leaf (.block (.loop [7] [(.int .u64)] [7,8,36,37,38,39,40,41,42,43,44,45,46,47,48,49,50,51,52,53,54,55,56,57,58,59,60,61,62,63,64,65,66,67,68,69,70] (.cut [] [] [36,37,38,39,40,41,42,43,44,45] .leaf .leaf)))) .leaf)))))))
theorem ZyX (b:Sl) (K:Value->World->Prop) (w:World) (h:B94 b K w):Zm prog 94 #[b.v] w K:=cq (sk:=sk94) func94 (by kernel_rfl) (by kernel_rfl) (by kernel_rfl) h
def B153 (g:Option Addr) (K:Value->World->Prop) (w:World):Prop:=
 Zc g λ af=>
 ∃ ax,∃ p:Sl,(Aw w ⟨af.block,af.off + 1,none⟩ [.int .i64 ax,p.v])/\
 Calls prog 199 #[.agg #[.int .i64 ax,p.v]] w λ b5 bl=>
 ∃ a0,(b5=.returned (.bool a0))/\
 Zc g λ ah=>
 ∃ s:Sl,(Aw bl ⟨ah.block,ah.off + 3,none⟩ [s.v])/\
 Calls prog 214 #[s.v] bl λ b6 cg=>
 ∃ a6,(b6=.returned (.bool a6))/\
 ∃ (ad:World->Prop),(Drw cg λ v U=>
 Zc g λ bz=>
 ∃ a7,(At v (Addr.add bz 0) [.int .i64 a7])/\
 Br (decide (a7<1))
 (K (.bool false) U)
 (Br (!a0)
 (K (.bool false) U)
 (Br (!a6)
 (K (.bool false) U)
 (Zc g λ aj=>
 ∃ G:Sl,(At v ⟨aj.block,aj.off + 3,none⟩ [G.v])/\
 Rng 0 G.len (Zc G.a λ b0=>
 ∃ a8,(At v (Addr.add b0 0) [.int .i64 a8])/\
 Zc g λ ak=>
 ∃ a9,∃ t:Sl,(At v ⟨ak.block,ak.off + 1,none⟩ [.int .i64 a9,t.v])/\
 Calls prog 201 #[.agg #[.int .i64 a9,t.v]] U λ b7 ac=>
 ∃ ba,(b7=.returned (.int .i64 ba))/\
 (v ac)/\
 Br (a8 !=ba)
 (K (.bool false) ac)
 (ad  ac))))))/\
 ∀ (cj:Env)  (bp:World),ad  bp->
 ∃ (X:Sl->Int->World->Prop) (br:Sl->Int->World->Nat),(X ⟨none,0,0⟩ 0 bp)/\∀ (ck:Env) (Z:Sl) (i:Int) (n:World),X Z i n->
 Zc g λ al=>
 ∃ O:Sl,(Aw n ⟨al.block,al.off + 4,none⟩ [O.v])/\
 Br (decide (i<(↑O.len:Int)))
 (Zc g λ am=>
 ∃ H:Sl,(Aw n ⟨am.block,am.off + 4,none⟩ [H.v])/\
 Rng i H.len (Zc H.a λ b1=>
 ∃ bb bc bd,∃ u:Sl,(Aw n (Addr.add b1 (Za6 i.toNat 4)) [.int .i64 bb,.int .i64 bc,.int .i64 bd,u.v])/\
 New (.cells #[.int .i64 0,.int .i64 0,.int .i64 0,.slice none 0 0] 176 (0,0)) (λ d ci=>
 ∃ bq:World,(St 176 ⟨d,0,none⟩ (.agg #[.int .i64 bb,.int .i64 bc,.int .i64 bd,u.v]) ci bq)/\
 ∃ (Y:World->Prop),(Drw bq λ e j=>
 ∃ be,(At e ⟨d,0,none⟩ [.int .i64 be])/\
 Br (decide (be<1))
 (K (.bool false) j)
 (Br (decide (i>0))
 (∃ bf,(At e ⟨d,0,none⟩ [.int .i64 bf])/\
 Zc g λ an=>
 ∃ I:Sl,(At e ⟨an.block,an.off + 4,none⟩ [I.v])/\
 Rng (IntKind.i64.wrap (i - 1)) I.len (Zc I.a λ b2=>
 ∃ bg,(At e (Addr.add (Addr.add b2 (Za6 (IntKind.i64.wrap (i - 1)).toNat 4)) 0) [.int .i64 bg])/\
 Br (decide (bf<=bg))
 (K (.bool false) j)
 (∃ bh,(At e ⟨d,0 + 1,none⟩ [.int .i64 bh])/\
 Zc g λ ao=>
 ∃ Q:Sl,(At e ⟨ao.block,ao.off + 3,none⟩ [Q.v])/\
 Br (decide (bh >= (↑Q.len:Int)))
 (K (.bool false) j)
 (∃ bj,(At e ⟨d,0 + 2,none⟩ [.int .i64 bj])/\
 Br (decide (bj<1))
 (K (.bool false) j)
 (∃ L:Sl,(At e ⟨d,0 + 3,none⟩ [L.v])/\
 ∃ aq,(At e ⟨d,0 + 2,none⟩ [.int .i64 aq])/\
 Br (decide ((↑L.len:Int)>aq))
 (K (.bool false) j)
 (Y  j))))))
 (∃ bi,(At e ⟨d,0 + 1,none⟩ [.int .i64 bi])/\
 Zc g λ ap=>
 ∃ T:Sl,(At e ⟨ap.block,ap.off + 3,none⟩ [T.v])/\
 Br (decide (bi >= (↑T.len:Int)))
 (K (.bool false) j)
 (∃ bk,(At e ⟨d,0 + 2,none⟩ [.int .i64 bk])/\
 Br (decide (bk<1))
 (K (.bool false) j)
 (∃ M:Sl,(At e ⟨d,0 + 3,none⟩ [M.v])/\
 ∃ ar,(At e ⟨d,0 + 2,none⟩ [.int .i64 ar])/\
 Br (decide ((↑M.len:Int)>ar))
 (K (.bool false) j)
 (Y  j))))))/\
 ∀ (cl:Env)  (bm:World),Y  bm->
 ∃ (J:Sl->Int->World->Prop) (V:Sl->Int->World->Nat),(J Z 0 bm)/\∀ (cm:Env) (f:Sl) (c:Int) (k:World),J f c k->
 ∃ N:Sl,(Aw k ⟨d,0 + 3,none⟩ [N.v])/\
 Br (decide (c<(↑N.len:Int)))
 (∃ x:Sl,(Aw k ⟨d,0 + 3,none⟩ [x.v])/\
 Rng c x.len (Zc x.a λ bs=>
 ∃ au,(Aw k (Addr.add bs c.toNat) [.int .i64 au])/\
 Calls prog 208 #[f.v,.int .i64 au] k λ b8 cc=>
 ∃ av,(b8=.returned (.bool av))/\
 Drw cc λ m bn=>
 Br av
 (K (.bool false) bn)
 (∃ y:Sl,(At m ⟨d,0 + 3,none⟩ [y.v])/\
 Rng c y.len (Zc y.a λ bt=>
 ∃ aw,(At m (Addr.add bt c.toNat) [.int .i64 aw])/\
 Zc g λ ag=>
 ∃ ay,∃ o:Sl,(At m ⟨ag.block,ag.off + 1,none⟩ [.int .i64 ay,o.v])/\
 Calls prog 201 #[.agg #[.int .i64 ay,o.v]] bn λ b9 l=>
 ∃ az,(b9=.returned (.int .i64 az))/\
 (m l)/\
 Br (decide (aw >= az))
 (K (.bool false) l)
 (Br (decide (c>0))
 (∃ z:Sl,(At m ⟨d,0 + 3,none⟩ [z.v])/\
 Rng c z.len (Zc z.a λ bu=>
 ∃ a1,(At m (Addr.add bu c.toNat) [.int .i64 a1])/\
 ∃ A:Sl,(At m ⟨d,0 + 3,none⟩ [A.v])/\
 Rng (IntKind.i64.wrap (c - 1)) A.len (Zc A.a λ bv=>
 ∃ a2,(At m (Addr.add bv ((IntKind.i64.wrap (c - 1)).toNat)) [.int .i64 a2])/\
 Br (decide (a1<=a2))
 (K (.bool false) l)
 (∃ C:Sl,(Aw l ⟨d,0 + 3,none⟩ [C.v])/\
 Rng c C.len (Zc C.a λ bw=>
 ∃ a3,(Aw l (Addr.add bw c.toNat) [.int .i64 a3])/\
 New (.cells #[.int .i64 a3] 3 (0,0)) (λ b3 cd=>
 ∃ aa:World,∃ E:Sl,((Builtin.append_ #[28,28] 28 #[f.v,.slice ((some ⟨b3,0,none⟩)) 1 1]).run prog cd=.ok (E.v) aa)/\
 (J E (IntKind.i64.wrap (c + 1)) aa)/\V E (IntKind.i64.wrap (c + 1)) aa<V f c k) l)))))
 (∃ D:Sl,(Aw l ⟨d,0 + 3,none⟩ [D.v])/\
 Rng c D.len (Zc D.a λ bx=>
 ∃ a4,(Aw l (Addr.add bx c.toNat) [.int .i64 a4])/\
 New (.cells #[.int .i64 a4] 3 (0,0)) (λ b4 ce=>
 ∃ ab:World,∃ F:Sl,((Builtin.append_ #[28,28] 28 #[f.v,.slice ((some ⟨b4,0,none⟩)) 1 1]).run prog ce=.ok (F.v) ab)/\
 (J F (IntKind.i64.wrap (c + 1)) ab)/\V F (IntKind.i64.wrap (c + 1)) ab<V f c k) l)))))))
 ((X f (IntKind.i64.wrap (i + 1)) k)/\br f (IntKind.i64.wrap (i + 1)) k<br Z i n)) n))
 (Drw n λ ae cf=>
 Zc g λ ai=>
 ∃ q:Sl,(At ae ⟨ai.block,ai.off + 3,none⟩ [q.v])/\
 Calls prog 98 #[.pointer g] cf λ ca bo=>
 ∃ r:Sl,(ca=.returned (r.v))/\
 (ae bo)/\
 Calls prog 155 #[q.v,r.v] bo λ cb ch=>
 ∃ a5,(cb=.returned (.bool a5))/\
 K (.bool a5) ch)
def ZAp:Sk:=(.seq .leaf (.seq .leaf (.seq .leaf (.cut [] [] [2,20,21,22,23,24,25,26,27,28,29,30,31,32,33,34,35,36,37,38,39,40,41,42,43,44,45,46] .leaf (.seq .leaf (.seq (.seq .leaf (.block (.loop [5,6] [.sl,(.int .i64)] [2,5,6,7,8,9,47,48,49,50,51,52,53,54,55,56,57,58,59,60,61,62,63,64,65,66,67,68,69,70,71,72,73,74,75,76,77,78,79,80,81,82,83,84,85,86,87,88,89,90,91,92,93,94,95,96,97,98,99,100,101,102,103,104,105,106,107,108,109,110,111,112,113,114,115,116,117,118,119,120,121,122,123,124,125,126,127,128,129,130,131,132,133,134,135,136,137,138,139,140,141,142,143,144,145,146,147,148,149,150,151,152,153,154,155,156,157,158,159,160] (.seq .leaf (.seq (.block (.seq .leaf (.cut [] [] [2,63,64,65,66,67,68,69,70,71,72,73,74,75,76,77,78,79,80,81,82,83,84,85,86,87,88,89,90,91,92,93,94,95,96,97,98,99,100,101,102,103,104,105,106] .leaf (.seq .leaf (.block (.loop [5,8] [.sl,(.int .i64)] [2,5,8,9,107,108,109,110,111,112,113,114,115,116,117,118,119,120,121,122,123,124,125,126,127,128,129,130,131,132,133,134,135,136,137,138,139,140,141,142,143,144,145,146,147,148,149,150,151,152,153,154,155,156,157,158,159,160] .leaf)))))) .leaf))))) .leaf))))))
theorem Zxw (a:Option Addr) (K:Value->World->Prop) (w:World) (h:B153 a K w):Zm prog 153 #[.pointer a] w K:=cq (sk:=ZAp) func153 (by kernel_rfl) (by kernel_rfl) (by kernel_rfl) h
end
section
open Go Go.VC Tryz
set_option maxRecDepth 10000
def B85 (b:Option Addr) (A:Int) (K:Value->World->Prop) (w:World):Prop:=
 Calls prog 148 #[.pointer b] w λ Q U=>
 ∃ k C c,(Q=.returned (.tuple #[.int .u64 k,.bool C,.int .i64 c]))/\
 ∃ (o:World->Prop),(Drw U λ p g=>
 Br (c==0)
 (Zc b λ r=>
 ∃ F:World,(St 4 ⟨r.block,r.off + 2,none⟩ (.bool true) g F)/\
 K (.slice none 0 0) F)
 (Br C
 (Zc b λ s=>
 ∃ G:World,(St 4 ⟨s.block,s.off + 2,none⟩ (.bool true) g G)/\
 K (.slice none 0 0) G)
 (Br (decide (A<0))
 (Zc b λ t=>
 ∃ H:World,(St 4 ⟨t.block,t.off + 2,none⟩ (.bool true) g H)/\
 K (.slice none 0 0) H)
 (Br (decide (k>IntKind.u64.wrap A))
 (Zc b λ u=>
 ∃ I:World,(St 4 ⟨u.block,u.off + 2,none⟩ (.bool true) g I)/\
 K (.slice none 0 0) I)
 (Zc b λ M=>
 ∃ l:Sl,(At p (Addr.add M 0) [l.v])/\
 Zc b λ q=>
 ∃ D,(At p ⟨q.block,q.off + 1,none⟩ [.int .i64 D])/\
 Br (decide (k>IntKind.u64.wrap (IntKind.i64.wrap (IntKind.i64.wrap ((↑l.len:Int) - D) - c))))
 (Zc b λ v=>
 ∃ J:World,(St 4 ⟨v.block,v.off + 2,none⟩ (.bool true) g J)/\
 K (.slice none 0 0) J)
 (o  g))))))/\
 ∀ (X:Env)  (n:World),o  n->
 Zc b λ x=>
 ∃ d,(Aw n ⟨x.block,x.off + 1,none⟩ [.int .i64 d])/\
 Zc b λ y=>
 ∃ L:World,(St 3 ⟨y.block,y.off + 1,none⟩ (.int .i64 (IntKind.i64.wrap (IntKind.i64.wrap (d + c) + IntKind.i64.wrap k))) n L)/\
 Drw L λ j V=>
 Zc b λ N=>
 ∃ e:Sl,(At j (Addr.add N 0) [e.v])/\
 Zc b λ z=>
 ∃ i,(At j ⟨z.block,z.off + 1,none⟩ [.int .i64 i])/\
 ((0:Int)<=i)/\
 ((i:Int)<=(↑e.cap:Int))/\
 ((0:Int)<=IntKind.i64.wrap (d + c))/\
 ((IntKind.i64.wrap (d + c):Int)<=(↑i.toNat:Int))/\
 New (.cells #[] 5 (0,0)) (λ O E=>
 (j E)/\
 ∃ m:World,∃ f:Sl,((Builtin.append_ #[42,42] 42 #[.slice ((some ⟨O,0,none⟩)) 0 0,.slice (Zb1 e.a (IntKind.i64.wrap (d + c)).toNat e.cap 1) (i.toNat - (IntKind.i64.wrap (d + c)).toNat) (e.cap - (IntKind.i64.wrap (d + c)).toNat)]).run prog E=.ok (f.v) m)/\
 (j m)/\
 K (f.v) m) V
def sk85:Sk:=(.seq .leaf (.seq .leaf (.cut [] [] [4,15,16,17,18,19,20,21,22,23,24,25,26,27,28,29,30,31,32,33,34,35,36,37,38,39,40,41,42,43,44,45,46,47,48,49] .leaf .leaf)))
theorem Zy2 (b:Option Addr) (a:Int) (K:Value->World->Prop) (w:World) (h:B85 b a K w):Zm prog 85 #[.pointer b,.int .i64 a] w K:=cq (sk:=sk85) func85 (by kernel_rfl) (by kernel_rfl) (by kernel_rfl) h
end
end Go.Proofs.YtfgbbckfikiomaaGreatDoor

namespace Go.Proofs.YtfgbbckfikiomaaGreatDoor
section
open Go Go.VC Tryz
variable {R:Cx} {Hs Rest:List HP} {w:World}
theorem ZpQ:∀ a b:List Int,(a++b).sum=a.sum + b.sum
 |[],b=>by simp
 |x::a,b=>by simp only [List.cons_append,List.sum_cons,ZpQ a b];omega
theorem Zm4 {g:List Int} {j:Nat} (h:j<g.length):(g.take (j + 1)).sum=(g.take j).sum + g[j]:=by
 rw [List.take_add_one,List.getElem?_eq_getElem h,ZpQ];simp
theorem Zkt {g:List Int} (h:∀ x∈g,0<=x/\x<=10):0<=g.sum/\g.sum<=10 * g.length:=by
 induction g with
 |nil=>simp
 |cons a g ih=>
  have:=ih λ x hx=>h x (List.mem_cons_of_mem _ hx);have:=h a List.mem_cons_self;simp only [List.sum_cons,List.length_cons];omega
def Zuv (g:List Int):Bool:=g.all λ x=>decide (1<=x/\x<=10)
def Zdg (n:Int) (g:List Int):Bool:=decide (1<=n/\n<=60/\1<=g.length/\g.length<=4) && (Zuv g && decide (g.sum<=10))
def ZaL (n:Int) (g:List Int):Int:=if Zdg n g then n * g.sum else 0
theorem Zab {n:Int} {g:List Int}:Zdg n g=true↔(1<=n/\n<=60/\1<=g.length/\g.length<=4)/\(∀ x∈g,1<=x/\x<=10)/\g.sum<=10:=by
 simp [Zdg,Zuv]
theorem Zi6 {g:List Int} (h:∀ x∈g,1<=x/\x<=10) (hl:1<=g.length):1<=g.sum:=by
 match g,hl with
 |a::g,_=>
  have h1:=h a List.mem_cons_self;have h2:=Zkt (g:=g) λ x hx=>by have:=h x (List.mem_cons_of_mem _ hx);omega
  simp only [List.sum_cons];omega
theorem ZjC {n:Int} {g:List Int} (h:Zdg n g=true):ZaL n g=n * g.sum:=by unfold ZaL;rw [if_pos h]
theorem Zup {a b:Int} (h0:0<=a) (h1:a<=60) (h2:0<=b) (h3:b<=10):0<=a * b/\a * b<=600:=
 ⟨Int.mul_nonneg h0 h2,by have:=Int.mul_le_mul h1 h3 h2 (by omega);omega⟩
theorem Zcp (n:Int) (g:List Int):0<=ZaL n g/\ZaL n g<=600:=by
 unfold ZaL;split
 ·rename_i h
  obtain ⟨h1,h2,h3⟩:=Zab.1 h;have:=Zkt (λ x hx=>by have:=h2 x hx;omega) (g:=g);exact Zup (by omega) (by omega) (by omega) (by omega)
 ·omega
abbrev ZeH (n:Int) (s:Sl):Obj:=.cells [.int .i64 n,.slice s.a s.len s.cap].toArray 35 (0,0)
theorem ZbN {n:Int} {s:Sl} {g:List Int} (hs:RoI R s g) (hg:∀ x∈g,0<=x/\x<=10) (hl:g.length<=4) (hw:Sat R Hs w):
  Zm prog 217 #[.agg #[.int .i64 n,.slice s.a s.len s.cap]] w λ v w'=>v=.int .i64 g.sum/\Sat R Hs w':=by
 have hlen:=hs.len;apply ZwI;refine Zb hw λ p w hw=>?_;have hw:Sat R (pts p (ZeH n s)::Hs) w:=hw;refine ⟨s,oA hw,?_⟩;refine ⟨λ m i w=>∃ j:Nat,i=j/\j<=g.length/\m=(g.take j).sum/\Sat R (pts p (ZeH n s)::Hs) w,λ _ i _=>g.length - i.toNat,⟨0,rfl,by omega,by simp,hw⟩,?_⟩;clear hw;rintro _ _ _ w ⟨j,rfl,hj,rfl,hw⟩;refine Br.d (λ h=>?_) (λ h=>?_)
 ·have hj2:j<g.length:=by omega
  refine hs.idx (eqS hw) hj2 ?_;have hb:=Zkt (λ x hx=>hg x (List.mem_of_mem_take hx)) (g:=g.take j);have hb2:(g.take j).length<=4:=by rw [List.length_take];omega
  have hx:=hg g[j] (List.getElem_mem _);rw [Zh (x:=(j:Int) + 1) (by omega) (by omega),Zh (by omega) (by omega)];exact ⟨⟨j + 1,by omega,by omega,(Zm4 hj2).symm,hw⟩,by dsimp only;omega⟩
 ·rw [List.take_of_length_le (by omega)]
  exact ⟨rfl,hw.drop⟩
theorem Zgd {n:Int} {s:Sl} {g:List Int} (hs:RoI R s g) (hg:∀ x∈g,0<=x/\x<=10) (hl:g.length<=4) (hw:Sat R Hs w):
  Zm prog 253 #[.agg #[.int .i64 n,.slice s.a s.len s.cap]] w λ v w'=>v=.int .i64 g.sum/\Sat R Hs w':=by
 have hlen:=hs.len;apply Zwm;refine Zb hw λ p w hw=>?_;have hw:Sat R (pts p (ZeH n s)::Hs) w:=hw;refine ⟨λ m i w=>∃ j:Nat,i=j/\j<=g.length/\m=(g.take j).sum/\Sat R (pts p (ZeH n s)::Hs) w,λ _ i _=>g.length - i.toNat,⟨0,rfl,by omega,by simp,hw⟩,?_⟩;clear hw;rintro _ _ _ w ⟨j,rfl,hj,rfl,hw⟩;refine ⟨s,oA hw,Br.d (λ h=>?_) (λ h=>?_)⟩
 ·have hj2:j<g.length:=by omega
  refine ⟨s,oA hw,hs.idx (eqS hw) hj2 ?_⟩;have hb:=Zkt (λ x hx=>hg x (List.mem_of_mem_take hx)) (g:=g.take j);have hb2:(g.take j).length<=4:=by rw [List.length_take];omega
  have hx:=hg g[j] (List.getElem_mem _);rw [Zh (x:=(j:Int) + 1) (by omega) (by omega),Zh (by omega) (by omega)];exact ⟨⟨j + 1,by omega,by omega,(Zm4 hj2).symm,hw⟩,by dsimp only;omega⟩
 ·rw [List.take_of_length_le (by omega)]
  exact ⟨rfl,hw.drop⟩
theorem Zrj {s:Sl} {l:List Int} {f:Value} {p:Int->Bool} (hs:RoI R s l) (hf:∀ x w,Sat R Hs w->ZaK prog cl f [.int .i64 x] w λ e w'=>e=.returned (.bool (p x))/\Sat R Hs w') (hw:Sat R Hs w):
  Zm prog 257 #[.slice s.a s.len s.cap,f] w λ v w'=>(∃ n:Int,v=.int .i64 n/\(l.any p=true↔0<=n))/\Sat R Hs w':=by
 have hlen:=hs.len;have hbd:=hs.bound;apply Zwk;refine ⟨λ i w=>∃ j:Nat,i=j/\j<=l.length/\(l.take j).any p=false/\Sat R Hs w,λ i _=>l.length - i.toNat,⟨0,rfl,by omega,by simp,hw⟩,?_⟩;clear hw;rintro _ _ w ⟨j,rfl,hj,hn,hw⟩;refine Br.d (λ h=>?_) (λ h=>?_)
 ·have hj2:j<l.length:=by omega
  refine hs.idx (eqS hw) hj2 ?_;refine (hf l[j] _ hw).mono ?_;rintro _ w ⟨rfl,hw⟩;refine ⟨_,rfl,Br.mk (λ h=>⟨⟨j,rfl,⟨λ _=>by omega,λ _=>List.any_eq_true.2 ⟨_,List.getElem_mem _,h⟩⟩⟩,hw⟩) (λ h=>?_)⟩;rw [Zh (by omega) (by omega)];refine ⟨⟨j + 1,by omega,by omega,?_,hw⟩,by dsimp only;omega⟩;rw [List.take_add_one,List.getElem?_eq_getElem hj2,List.any_append,hn];simp [h]
 ·refine ⟨⟨-1,rfl,⟨λ h2=>?_,λ h2=>by omega⟩⟩,hw⟩
  rw [List.take_of_length_le (by omega)] at hn;rw [hn] at h2;cases h2
theorem Zpc {s:Sl} {l:List Int} {f:Value} {p:Int->Bool} (hs:RoI R s l) (hf:∀ x w,Sat R Hs w->ZaK prog cl f [.int .i64 x] w λ e w'=>e=.returned (.bool (p x))/\Sat R Hs w') (hw:Sat R Hs w):
  Zm prog 216 #[.slice s.a s.len s.cap,f] w λ v w'=>v=.bool (l.any p)/\Sat R Hs w':=by
 apply ZwJ;refine (Zrj hs hf hw).use ?_;rintro _ w ⟨⟨n,rfl,h⟩,hw⟩;refine ⟨n,rfl,?_,hw⟩
 congr 1
 rw [Bool.eq_iff_iff,decide_eq_true_iff];exact h.symm
theorem Ztj {g:Int} (hw:Sat R Hs w):Zm prog 215 #[.int .i64 g] w λ v w'=>v=.bool (!decide (1<=g/\g<=10))/\Sat R Hs w':=by
 apply ZwK;refine Br.d (λ h=>⟨?_,hw⟩) (λ h=>⟨?_,hw⟩)
 ·rw [decide_eq_false (by omega)];rfl
 ·congr 1
  rw [<-decide_not,decide_eq_decide];omega
theorem ZbP {n:Int} {g:List Int} (h:¬ ((1<=n/\n<=60/\1<=g.length/\g.length<=4)/\(∀ x∈g,1<=x/\x<=10)/\g.sum<=10)):Zdg n g=false:=by
 rw [<-Bool.not_eq_true,Zab];exact h
theorem ZdS {n:Int} {s:Sl} {g:List Int} (hs:RoI R s g) (hw:Sat R Hs w):
  Zm prog 160 #[.agg #[.int .i64 n,.slice s.a s.len s.cap]] w λ v w'=>v=.bool (Zdg n g)/\Sat R Hs w':=by
 have hlen:=hs.len;apply Zxp;refine Zb hw λ p w hw=>?_;have hw:Sat R (pts p (ZeH n s)::Hs) w:=hw;refine ⟨n,oA hw,Br.d (λ h1=>⟨by rw [ZbP (λ h=>by omega)],hw.drop⟩) (λ h1=>?_)⟩;refine ⟨n,oA hw,Br.d (λ h2=>⟨by rw [ZbP (λ h=>by omega)],hw.drop⟩) (λ h2=>?_)⟩;refine ⟨s,oA hw,Br.d (λ h3=>⟨by rw [ZbP (λ h=>by omega)],hw.drop⟩) (λ h3=>?_)⟩;refine ⟨s,oA hw,Br.d (λ h4=>⟨by rw [ZbP (λ h=>by omega)],hw.drop⟩) (λ h4=>?_)⟩;refine ⟨s,oA hw,?_⟩;refine (Zpc (p:=λ x=>!decide (1<=x/\x<=10)) hs (λ x w hw=>ZaK.mk (by kernel_rfl) ((Ztj hw).use λ v w' h=>⟨by rw [h.1],h.2⟩)) hw).use ?_;rintro _ w ⟨rfl,hw⟩;refine ⟨_,rfl,Br.mk (λ h5=>⟨?_,hw.drop⟩) (λ h5=>?_)⟩
 ·rw [ZbP (λ h=>?_)]
  obtain ⟨x,hx,hx2⟩:=List.any_eq_true.1 h5;have:=h.2.1 x hx;rw [decide_eq_true this] at hx2;cases hx2
 have hg:∀ x∈g,1<=x/\x<=10:=λ x hx=>by
  by_cases h:1<=x/\x<=10
  ·exact h
  ·have:(g.any λ x=>!decide (1<=x/\x<=10))=true:=List.any_eq_true.2 ⟨x,hx,by rw [decide_eq_false h];rfl⟩
   rw [h5] at this;cases this
 refine ⟨n,s,At.own (eqS hw) (by exact ⟨rfl,rfl,trivial⟩),?_⟩;refine (ZbN hs (λ x hx=>by have:=hg x hx;omega) (by omega) hw).use ?_;rintro _ w ⟨rfl,hw⟩;refine ⟨_,rfl,?_,hw.drop⟩
 congr 1
 rw [Bool.eq_iff_iff,decide_eq_true_iff,Zab];exact ⟨λ h=>⟨⟨by omega,by omega,by omega,by omega⟩,hg,h⟩,λ h=>h.2.2⟩
theorem Zg0 {n:Int} {s:Sl} {g:List Int} (hs:RoI R s g) (hw:Sat R Hs w):
  Zm prog 199 #[.agg #[.int .i64 n,.slice s.a s.len s.cap]] w λ v w'=>v=.bool (Zdg n g)/\Sat R Hs w':=by
 have hlen:=hs.len;have hbd:=hs.bound;apply ZwS;refine Zb hw λ p w hw=>?_;have hw:Sat R (pts p (ZeH n s)::Hs) w:=hw;refine ⟨λ w=>(1<=n/\n<=60/\1<=g.length/\g.length<=4)/\Sat R (pts p (ZeH n s)::Hs) w,?_,?_⟩
 ·refine ⟨n,oA hw,Br.d (λ h1=>⟨by rw [ZbP (λ h=>by omega)],hw.drop⟩) (λ h1=>?_)⟩
  refine ⟨n,oA hw,Br.d (λ h2=>⟨by rw [ZbP (λ h=>by omega)],hw.drop⟩) (λ h2=>?_)⟩;refine ⟨s,oA hw,Br.d (λ h3=>⟨by rw [ZbP (λ h=>by omega)],hw.drop⟩) (λ h3=>?_)⟩;refine ⟨s,oA hw,Br.d (λ h4=>⟨by rw [ZbP (λ h=>by omega)],hw.drop⟩) (λ h4=>⟨⟨by omega,by omega,by omega,by omega⟩,hw⟩)⟩
 clear hw;rintro _ w ⟨h0,hw⟩;refine ⟨λ i w=>∃ j:Nat,i=j/\j<=g.length/\(∀ x∈g.take j,1<=x/\x<=10)/\Sat R (pts p (ZeH n s)::Hs) w,λ i _=>g.length - i.toNat,⟨0,rfl,by omega,by simp,hw⟩,?_⟩;clear hw;rintro _ _ w ⟨j,rfl,hj,hn,hw⟩;refine ⟨s,oA hw,Br.d (λ h=>?_) (λ h=>?_)⟩
 ·have hj2:j<g.length:=by omega
  have no:¬ (1<=g[j]/\g[j]<=10)->Zdg n g=false:=λ h=>ZbP λ h2=>h (h2.2.1 _ (List.getElem_mem _));refine ⟨s,oA hw,hs.idx (eqS hw) hj2 ?_⟩;refine Br.d (λ h1=>⟨by rw [no (by omega)],hw.drop⟩) (λ h1=>?_);refine ⟨s,oA hw,hs.idx (eqS hw) hj2 ?_⟩;refine Br.d (λ h2=>⟨by rw [no (by omega)],hw.drop⟩) (λ h2=>?_);rw [Zh (by omega) (by omega)];refine ⟨⟨j + 1,by omega,by omega,?_,hw⟩,by dsimp only;omega⟩;rw [List.take_add_one,List.getElem?_eq_getElem hj2];intro x hx;simp only [Option.toList_some,List.mem_append,List.mem_singleton] at hx;rcases hx with hx|rfl
  ·exact hn x hx
  ·omega
 ·rw [List.take_of_length_le (by omega)] at hn
  refine ⟨n,s,At.own (eqS hw) (by exact ⟨rfl,rfl,trivial⟩),?_⟩;refine (Zgd hs (λ x hx=>by have:=hn x hx;omega) (by omega) hw).use ?_;rintro _ w ⟨rfl,hw⟩;refine ⟨_,rfl,?_,hw.drop⟩
  congr 1
  rw [Bool.eq_iff_iff,decide_eq_true_iff,Zab];exact ⟨λ h=>⟨h0,hn,h⟩,λ h=>h.2.2⟩
theorem ZbM {n:Int} {s:Sl} {g:List Int} (hs:RoI R s g) (hw:Sat R Hs w):
  Zm prog 162 #[.agg #[.int .i64 n,.slice s.a s.len s.cap]] w λ v w'=>v=.int .i64 (ZaL n g)/\Sat R Hs w':=by
 apply Zxn;refine Zb hw λ p w hw=>?_;have hw:Sat R (pts p (ZeH n s)::Hs) w:=hw;refine ⟨n,s,At.own (eqS hw) (by exact ⟨rfl,rfl,trivial⟩),?_⟩;refine (ZdS hs hw).use ?_;rintro _ w ⟨rfl,hw⟩;refine ⟨_,rfl,Br.nb (λ h=>⟨?_,hw.drop⟩) (λ h=>?_)⟩
 ·unfold ZaL;rw [h];rfl
 obtain ⟨h1,h2,h3⟩:=Zab.1 h;refine Zo hw λ w hw=>?_;refine ⟨n,oS,n,s,At.own Zao (by exact ⟨rfl,rfl,trivial⟩),?_⟩;refine (ZbN hs (λ x hx=>by have:=h2 x hx;omega) (by omega) hw).use ?_;rintro _ w ⟨rfl,hw⟩;have hb:=Zcp n g;rw [ZjC h] at hb ⊢;refine ⟨_,rfl,hw,?_,hw.drop⟩;rw [Zh (by omega) (by omega)]
theorem Zg5 {n:Int} {s:Sl} {g:List Int} (hs:RoI R s g) (hw:Sat R Hs w):
  Zm prog 201 #[.agg #[.int .i64 n,.slice s.a s.len s.cap]] w λ v w'=>v=.int .i64 (ZaL n g)/\Sat R Hs w':=by
 apply ZwR;refine Zb hw λ p w hw=>?_;have hw:Sat R (pts p (ZeH n s)::Hs) w:=hw;refine ⟨n,s,At.own (eqS hw) (by exact ⟨rfl,rfl,trivial⟩),?_⟩;refine (Zg0 hs hw).use ?_;rintro _ w ⟨rfl,hw⟩;refine ⟨_,rfl,Br.nb (λ h=>⟨?_,hw.drop⟩) (λ h=>?_)⟩
 ·unfold ZaL;rw [h];rfl
 obtain ⟨h1,h2,h3⟩:=Zab.1 h;refine Zo hw λ w hw=>?_;refine ⟨n,oS,n,s,At.own Zao (by exact ⟨rfl,rfl,trivial⟩),?_⟩;refine (Zgd hs (λ x hx=>by have:=h2 x hx;omega) (by omega) hw).use ?_;rintro _ w ⟨rfl,hw⟩;have hb:=Zcp n g;rw [ZjC h] at hb ⊢;refine ⟨_,rfl,hw,?_,hw.drop⟩;rw [Zh (by omega) (by omega)]
theorem ZkC {n k:Int} {s:Sl} {g:List Int} (hs:RoI R s g) (hw:Sat R Hs w):
  Zm prog 237 #[.agg #[.int .i64 n,.slice s.a s.len s.cap],.int .i64 k] w λ v w'=>v=.bool (decide (0<=k/\k<ZaL n g))/\Sat R Hs w':=by
 apply Zws;refine Zb hw λ p w hw=>?_;have hw:Sat R (pts p (ZeH n s)::Hs) w:=hw;refine Br.d (λ h=>?_) (λ h=>⟨by rw [decide_eq_false (by omega)],hw.drop⟩);refine ⟨n,s,At.own (eqS hw) (by exact ⟨rfl,rfl,trivial⟩),?_⟩;refine (ZbM hs hw).use ?_;rintro _ w ⟨rfl,hw⟩;refine ⟨_,rfl,?_,hw.drop⟩
 congr 1
 rw [decide_eq_decide];omega
theorem ZtE {s:Sl} {l:List Int} {k:Int} (hs:RoI R s l) (hw:Sat R Hs w):
  Zm prog 208 #[.slice s.a s.len s.cap,.int .i64 k] w λ v w'=>v=.bool (decide (k∈l))/\Sat R Hs w':=by
 have hlen:=hs.len;have hbd:=hs.bound;apply ZwN;refine ⟨λ i w=>∃ j:Nat,i=j/\j<=l.length/\k ∉ l.take j/\Sat R Hs w,λ i _=>l.length - i.toNat,⟨0,rfl,by omega,by simp,hw⟩,?_⟩;clear hw;rintro _ _ w ⟨j,rfl,hj,hn,hw⟩;refine Br.d (λ h=>?_) (λ h=>?_)
 ·have hj2:j<l.length:=by omega
  refine hs.idx (eqS hw) hj2 ?_;refine Br.e (λ h=>⟨?_,hw⟩) (λ h=>?_)
  ·rw [decide_eq_true (show k∈l by rw [<-h];exact List.getElem_mem _)]
  rw [Zh (by omega) (by omega)];refine ⟨⟨j + 1,by omega,by omega,?_,hw⟩,by dsimp only;omega⟩;rw [List.take_add_one,List.getElem?_eq_getElem hj2];simp only [Option.toList_some,List.mem_append,List.mem_singleton,not_or];exact ⟨hn,λ h2=>h h2.symm⟩
 ·rw [List.take_of_length_le (by omega)] at hn
  exact ⟨by rw [decide_eq_false hn],hw⟩
end
section
open Go Go.VC Tryz
def Zhl:List Int:=[65,66,67,68,69,70,71,72,74,75]
def ZaZ (c:Nat):Int:=Zhl.getD c 0
def Zna (r:Nat):List Int:=(if 10<=r then [48 + ((r / 10:Nat):Int)] else [])++[48 + ((r % 10:Nat):Int)]
def Zhq (r c:Nat):List Int:=Zna r++[ZaZ c]
def Zvu (w k:Int):ByteArray:=VC.strOf (Zhq (k / w + 1).toNat (k % w).toNat)
def Zq4:ByteArray:=ByteArray.mk #[65,66,67,68,69,70,71,72,74,75]
theorem ZoN:∀ c:Fin 10,Zq4.extract c.1 (c.1 + 1)=VC.strOf [ZaZ c.1]:=by decide +kernel
theorem Zq3:∀ c:Fin 10,∃ b:UInt8,Zq4[c.1]? =some b/\(b.toNat:Int)=ZaZ c.1:=by decide +kernel
theorem Zq8:∀ r:Fin 61,∀ c:Fin 10,VC.strOf (Zna r.1)++VC.strOf [ZaZ c.1]=VC.strOf (Zhq r.1 c.1):=by decide +kernel
def Zj9 (c:Int):Int:=match Zhl.findIdx? (·==c) with|some i=>i|none=>-1
def Zrf (c:Int):Bool:=decide (48<=c/\c<=57)
def prs:List Int->Bool->Int->Int->Option (Int × Int)
 |[],_,row,last=>some (row,last)
 |c::l,first,row,last=>
  if 0<=last\/(first=true/\c=48)\/row>60 then none
  else if Zrf c then prs l false (10 * row + (c - 48)) last
  else if Zj9 c<0 then none
  else prs l false row (Zj9 c)
def ZjW (n w:Int) (lab:ByteArray):Int × Int:=
 match prs (Z8 lab) true 0 (-1) with
 |none=>(0,2)
 |some (row,last)=>if row<1\/row>n\/last<0\/last >= w then (0,2) else ((row - 1) * w + last,0)
theorem Zqw:∀ r:Fin 60,∀ c:Fin 10,prs (Zhq (r.1 + 1) c.1) true 0 (-1)=some ((r.1:Int) + 1,(c.1:Int)):=by decide +kernel
def ZzT (l:List Int) (row:Int):Prop:=
 (l=[]/\row=0)\/(∃ d:Int,1<=d/\d<=9/\l=[48 + d]/\row=d)\/(∃ d e:Int,1<=d/\d<=9/\0<=e/\e<=9/\l=[48 + d,48 + e]/\row=10 * d + e)\/100<=row
def PrsI (l:List Int) (row last:Int):Prop:=(last=-1/\ZzT l row)\/(0<=last/\last<10/\∃ l',l=l'++[ZaZ last.toNat]/\ZzT l' row)
theorem Zj8 {c:Int} (h:¬ Zj9 c<0):0<=Zj9 c/\Zj9 c<10/\ZaZ (Zj9 c).toNat=c:=by
 unfold Zj9 at *;split at h
 ·rename_i i hi
  obtain ⟨hlt,hp,_⟩:=List.findIdx?_eq_some_iff_getElem.1 hi;have hlt':i<10:=hlt;refine ⟨by omega,by omega,?_⟩;unfold ZaZ;rw [Int.toNat_natCast,List.getD_eq_getElem?_getD,List.getElem?_eq_getElem hlt];simpa using hp
 ·omega
theorem Zmd:∀ (l a:List Int) (first:Bool) (row last row' last':Int),(first=true↔a=[])->PrsI a row last->prs l first row last=some (row',last')->PrsI (a++l) row' last'
 |[],a,_,row,last,row',last',_,h,e=>by
  simp only [prs,Option.some.injEq,Prod.mk.injEq] at e;rw [List.append_nil,<-e.1,<-e.2];exact h
 |c::l,a,first,row,last,row',last',hf,h,e=>by
  have hne:(false=true↔a++[c]=[]):=by simp
  unfold prs at e;split at e
  ·cases e
  rename_i h1;have hl:last<0:=by omega
  have hd:ZzT a row:=by
   rcases h with h|h
   ·exact h.2
   ·omega
  split at e
  ·rename_i h2
   have h2:=of_decide_eq_true h2;have:=Zmd l (a++[c]) false _ last row' last' hne (.inl ⟨?_,?_⟩) e
   ·rw [List.append_assoc] at this;exact this
   ·rcases h with h|h
    ·exact h.1
    ·omega
   ·rcases hd with ⟨rfl,rfl⟩|⟨d,hd1,hd2,rfl,rfl⟩|⟨d,e2,hd1,hd2,he1,he2,rfl,rfl⟩|hbig
    ·have:first=true:=hf.2 rfl
     refine .inr (.inl ⟨c - 48,?_,by omega,?_,by omega⟩)
     ·have:c≠48:=λ hc=>h1 (.inr (.inl ⟨this,hc⟩))
      omega
     ·rw [show (48:Int) + (c - 48)=c by omega];rfl
    ·refine .inr (.inr (.inl ⟨row,c - 48,hd1,hd2,by omega,by omega,?_,by omega⟩))
     rw [show (48:Int) + (c - 48)=c by omega];rfl
    ·exact .inr (.inr (.inr (by omega)))
    ·omega
  ·split at e
   ·cases e
   rename_i h2 h3;obtain ⟨c0,c1,c2⟩:=Zj8 h3;have:=Zmd l (a++[c]) false row (Zj9 c) row' last' hne (.inr ⟨c0,c1,a,by rw [c2],hd⟩) e;rw [List.append_assoc] at this;exact this
theorem ZtR {l:List Int} {row:Int} (h:ZzT l row) (h1:1<=row) (h2:row<=60):l=Zna row.toNat:=by
 rcases h with ⟨rfl,rfl⟩|⟨d,hd1,hd2,rfl,rfl⟩|⟨d,e,hd1,hd2,he1,he2,rfl,rfl⟩|hbig
 ·omega
 ·unfold Zna
  rw [if_neg (by omega)];simp only [List.nil_append,List.cons.injEq,and_true];omega
 ·unfold Zna
  rw [if_pos (by omega)];simp only [List.cons_append,List.nil_append,List.cons.injEq,and_true];constructor<;>omega
 ·omega
theorem Zu7 {l:List Int} {row last:Int} (h:prs l true 0 (-1)=some (row,last)) (h1:1<=row) (h2:row<=60) (h3:0<=last):last<10/\l=Zhq row.toNat last.toNat:=by
 have:=Zmd l [] true 0 (-1) row last (by simp) (.inl ⟨rfl,.inl ⟨rfl,rfl⟩⟩) h;rw [List.nil_append] at this;rcases this with ⟨h,_⟩|⟨_,h4,l',rfl,hd⟩
 ·omega
 ·exact ⟨h4,by unfold Zhq;rw [ZtR hd h1 h2]⟩
theorem Zln:∀ r:Fin 60,∀ c:Fin 10,∀ n∈Zhq (r.1 + 1) c.1,0<=n/\n<256:=by decide +kernel
theorem ZtM {n w k:Int} {lab:ByteArray} (hn:n<=60) (hw:1<=w) (hw2:w<=10):(ZjW n w lab=(k,0))↔(0<=k/\k<n * w/\Zvu w k=lab):=by
 constructor
 ·intro h
  unfold ZjW at h;split at h
  ·simp at h
  rename_i row last hp;split at h
  ·simp at h
  rename_i hr;simp only [Prod.mk.injEq,and_true] at h;obtain ⟨h4,h5⟩:=Zu7 hp (by omega) (by omega) (by omega);have hm:(row - 1) * w<=(n - 1) * w:=Int.mul_le_mul_of_nonneg_right (by omega) (by omega);have hm0:0<=(row - 1) * w:=Int.mul_nonneg (by omega) (by omega);have hm2:(n - 1) * w=n * w - w:=by rw [Int.sub_mul];omega
  refine ⟨by omega,by omega,?_⟩;have e1:k / w=row - 1:=by
   rw [<-h,Int.mul_comm,Int.add_comm,Int.add_mul_ediv_left _ _ (by omega),Int.ediv_eq_zero_of_lt (by omega) (by omega)];omega
  have e2:k % w=last:=by
   rw [<-h,Int.mul_comm,Int.add_comm,Int.add_mul_emod_self_left,Int.emod_eq_of_lt (by omega) (by omega)]
  unfold Zvu;rw [e1,e2,show row - 1 + 1=row by omega,<-h5,Zku]
 ·rintro ⟨h0,h1,rfl⟩
  have e0:0<=k / w:=Int.ediv_nonneg h0 (by omega);have e1:k / w<n:=Int.ediv_lt_of_lt_mul (by omega) h1;have e2:0<=k % w:=Int.emod_nonneg _ (by omega);have e3:k % w<w:=Int.emod_lt_of_pos _ (by omega);have e4:=Int.mul_ediv_add_emod k w;generalize hq:k / w=q at *;generalize hm:k % w=m at *;obtain ⟨a,rfl⟩:=Int.eq_ofNat_of_zero_le e0;obtain ⟨b,rfl⟩:=Int.eq_ofNat_of_zero_le e2;unfold ZjW Zvu;rw [hq,hm,show ((a:Int) + 1).toNat=a + 1 by omega,Int.toNat_natCast];have hb:=Zln ⟨a,by omega⟩ ⟨b,by omega⟩;have hp:=Zqw ⟨a,by omega⟩ ⟨b,by omega⟩;rw [ZlG hb,hp];dsimp only;rw [if_neg (by omega)];simp only [Prod.mk.injEq,and_true];rw [<-e4,show (a:Int) + 1 - 1=a by omega,Int.mul_comm]
theorem ZrI (s:ByteArray) (i:Nat) (h:¬ (s.get! (i + 0)).toNat<128):128<=(Utf8.decode s i).1:=by
 unfold Utf8.decode;dsimp only;rw [if_neg h];split
 ·split
  ·assumption
  ·decide
 ·split
  ·split
   ·rename_i h;simp only [Bool.and_eq_true,decide_eq_true_iff] at h;have:=h.1;dsimp only;omega
   ·decide
  ·split
   ·split
    ·rename_i h;simp only [Bool.and_eq_true,decide_eq_true_iff] at h;have:=h.1;dsimp only;omega
    ·decide
   ·decide
end
section
open Go Go.VC Tryz
set_option maxRecDepth 10000
def B278 (c:Int) (K:Value->World->Prop) (w:World):Prop:=
 Calls prog 284 #[.int .i64 c,.int .i64 10] w λ b d=>
 ∃ a,(b=.returned (.string a))/\
 K (.string a) d
theorem Zwd (a:Int) (K:Value->World->Prop) (w:World) (h:B278 a K w):Zm prog 278 #[.int .i64 a] w K:=cq (sk:=.leaf) func278 (by kernel_rfl) (by kernel_rfl) (by kernel_rfl) h
def B284 (d:Int) (m:Int) (K:Value->World->Prop) (w:World):Prop:=
 Br (m==10)
 (∃ (f:World->Prop),(Br (decide (0<=d))
 (Br (decide (d<100))
 (Calls prog 288 #[.int .i64 d] w λ y D=>
 ∃ n,(y=.returned (.string n))/\
 K (.string n) D)
 (f  w))
 (f  w))/\
 ∀ (G:Env)  (u:World),f  u->
 New (.cells #[.int .u8 0,.int .u8 0,.int .u8 0,.int .u8 0,.int .u8 0,.int .u8 0,.int .u8 0,.int .u8 0,.int .u8 0,.int .u8 0,.int .u8 0,.int .u8 0,.int .u8 0,.int .u8 0,.int .u8 0,.int .u8 0,.int .u8 0,.int .u8 0,.int .u8 0,.int .u8 0,.int .u8 0,.int .u8 0,.int .u8 0,.int .u8 0] 295 (0,0)) (λ e v=>
 ∃ (g:Int->World->Prop),(Br (decide (d<0))
 (g (IntKind.u64.wrap (0 - IntKind.u64.wrap d)) v)
 (g (IntKind.u64.wrap d) v))/\
 ∀ (H:Env) (j:Int) (x:World),g j x->
 Calls prog 289 #[.int .u64 j] x λ z E=>
 ∃ b,(z=.returned (.int .i64 b))/\
 ∃ o:Addr,(some (Addr.mk e 0 none)=some o)/\
 ((0:Int)<=IntKind.i64.wrap (1 + b))/\
 ((IntKind.i64.wrap (1 + b):Int)<=24)/\
 ((0:Int)<=1)/\
 ((1:Int)<=(↑(IntKind.i64.wrap (1 + b)).toNat:Int))/\
 Calls prog 290 #[.slice (Zb1 (some o) (Int.toNat 1) 24 1) ((IntKind.i64.wrap (1 + b)).toNat - Int.toNat 1) 23,.int .u64 j] E λ A k=>
 (A=.returned (.tuple #[]))/\
 Br (decide (d<0))
 (∃ l:World,(St 5 (Addr.add ⟨e,0,none⟩ 0) (.int .u8 45) k l)/\
 ∃ p:Addr,(some (Addr.mk e 0 none)=some p)/\
 ((0:Int)<=IntKind.i64.wrap (1 + b))/\
 ((IntKind.i64.wrap (1 + b):Int)<=24)/\
 ∃ q:ByteArray,(∀ c,(λ c=>c=l) c->((convert 42 9 (.slice ((some (p))) ((IntKind.i64.wrap (1 + b)).toNat) 24))).run prog c=.ok (.string q) c)/\
 K (.string q) l)
 (∃ r:Addr,(some (Addr.mk e 0 none)=some r)/\
 ((0:Int)<=IntKind.i64.wrap (1 + b))/\
 ((IntKind.i64.wrap (1 + b):Int)<=24)/\
 ((0:Int)<=1)/\
 ((1:Int)<=(↑(IntKind.i64.wrap (1 + b)).toNat:Int))/\
 ∃ s:ByteArray,(∀ c,(λ c=>c=k) c->((convert 42 9 (.slice (Zb1 (some r) (Int.toNat 1) 24 1) ((IntKind.i64.wrap (1 + b)).toNat - Int.toNat 1) 23))).run prog c=.ok (.string s) c)/\
 K (.string s) k)) u)
 (Calls prog 291 #[.slice none 0 0,.int .u64 (IntKind.u64.wrap d),.int .i64 m,.bool (decide (d<0)),.bool false] w λ C F=>
 ∃ i:Sl,∃ t,(C=.returned (.tuple #[i.v,.string t]))/\
 K (.string t) F)
def ZzV:Sk:=(.seq .leaf (.seq (.seq .leaf (.cond (.cut [] [] [4,12,13,14,15,16,17,18,19] .leaf (.seq .leaf (.seq .leaf (.cut [6] [(.int .u64)] [6,22,23,24,25] .leaf .leaf)))) .leaf)) .leaf))
theorem Zwc (b:Int) (a:Int) (K:Value->World->Prop) (w:World) (h:B284 b a K w):Zm prog 284 #[.int .i64 b,.int .i64 a] w K:=cq (sk:=ZzV) func284 (by kernel_rfl) (by kernel_rfl) (by kernel_rfl) h
def B288 (a:Int) (K:Value->World->Prop) (w:World):Prop:=
 Br (decide (a<10))
 (((0:Int)<=IntKind.i64.wrap (a + 1))/\
 ((IntKind.i64.wrap (a + 1):Int)<=36)/\
 ((0:Int)<=a)/\
 ((a:Int)<=(↑(IntKind.i64.wrap (a + 1)).toNat:Int))/\
 K (.string ((ByteArray.mk #[48,49,50,51,52,53,54,55,56,57,97,98,99,100,101,102,103,104,105,106,107,108,109,110,111,112,113,114,115,116,117,118,119,120,121,122]).extract a.toNat (IntKind.i64.wrap (a + 1)).toNat)) w)
 (((0:Int)<=IntKind.i64.wrap (IntKind.i64.wrap (a * 2) + 2))/\
 ((IntKind.i64.wrap (IntKind.i64.wrap (a * 2) + 2):Int)<=200)/\
 ((0:Int)<=IntKind.i64.wrap (a * 2))/\
 ((IntKind.i64.wrap (a * 2):Int)<=(↑(IntKind.i64.wrap (IntKind.i64.wrap (a * 2) + 2)).toNat:Int))/\
 K (.string ((ByteArray.mk (([48,48,48,49,48,50,48,51,48,52,48,53,48,54,48,55,48,56,48,57,49,48,49,49,49,50,49,51,49,52,49,53,49,54,49,55,49,56,49,57,50,48,50,49,50,50,50,51,50,52].append [50,53,50,54,50,55,50,56,50,57,51,48,51,49,51,50,51,51,51,52,51,53,51,54,51,55,51,56,51,57,52,48,52,49,52,50,52,51,52,52,52,53,52,54,52,55,52,56,52,57]).append ([53,48,53,49,53,50,53,51,53,52,53,53,53,54,53,55,53,56,53,57,54,48,54,49,54,50,54,51,54,52,54,53,54,54,54,55,54,56,54,57,55,48,55,49,55,50,55,51,55,52].append [55,53,55,54,55,55,55,56,55,57,56,48,56,49,56,50,56,51,56,52,56,53,56,54,56,55,56,56,56,57,57,48,57,49,57,50,57,51,57,52,57,53,57,54,57,55,57,56,57,57])).toArray).extract (IntKind.i64.wrap (a * 2)).toNat (IntKind.i64.wrap (IntKind.i64.wrap (a * 2) + 2)).toNat)) w)
theorem Zwb (a:Int) (K:Value->World->Prop) (w:World) (h:B288 a K w):Zm prog 288 #[.int .i64 a] w K:=cq (sk:=.leaf) func288 (by kernel_rfl) (by kernel_rfl) (by kernel_rfl) h
end
section
open Go Go.VC Tryz
variable {R:Cx} {Hs Rest:List HP} {w:World}
def Zyo:ByteArray:=ByteArray.mk #[48,49,50,51,52,53,54,55,56,57,97,98,99,100,101,102,103,104,105,106,107,108,109,110,111,112,113,114,115,116,117,118,119,120,121,122]
def Zyn:ByteArray:=ByteArray.mk (([48,48,48,49,48,50,48,51,48,52,48,53,48,54,48,55,48,56,48,57,49,48,49,49,49,50,49,51,49,52,49,53,49,54,49,55,49,56,49,57,50,48,50,49,50,50,50,51,50,52].append [50,53,50,54,50,55,50,56,50,57,51,48,51,49,51,50,51,51,51,52,51,53,51,54,51,55,51,56,51,57,52,48,52,49,52,50,52,51,52,52,52,53,52,54,52,55,52,56,52,57]).append ([53,48,53,49,53,50,53,51,53,52,53,53,53,54,53,55,53,56,53,57,54,48,54,49,54,50,54,51,54,52,54,53,54,54,54,55,54,56,54,57,55,48,55,49,55,50,55,51,55,52].append [55,53,55,54,55,55,55,56,55,57,56,48,56,49,56,50,56,51,56,52,56,53,56,54,56,55,56,56,56,57,57,48,57,49,57,50,57,51,57,52,57,53,57,54,57,55,57,56,57,57])).toArray
theorem Zoj:∀ r:Fin 10,Zyo.extract r.1 (r.1 + 1)=VC.strOf (Zna r.1):=by decide +kernel
theorem Zoi:∀ r:Fin 100,10<=r.1->Zyn.extract (r.1 * 2) (r.1 * 2 + 2)=VC.strOf (Zna r.1):=by decide +kernel
theorem Zrd {n:Nat} (h:n<100) (hw:Sat R Hs w):Zm prog 266 #[.int .i64 n] w λ v w'=>v=.string (VC.strOf (Zna n))/\Sat R Hs w':=by
 apply Zwf;have h3:Zm prog 288 #[.int .i64 n] w λ v w'=>v=.string (VC.strOf (Zna n))/\Sat R Hs w':=by
  apply Zwb;have w1:IntKind.i64.wrap ((n:Int) + 1)=((n + 1:Nat):Int):=Zh (by omega) (by omega);have w2:IntKind.i64.wrap ((n:Int) * 2)=((n * 2:Nat):Int):=Zh (by omega) (by omega);have w3:IntKind.i64.wrap (((n * 2:Nat):Int) + 2)=((n * 2 + 2:Nat):Int):=Zh (by omega) (by omega);rw [B288,w2,w3,w1];refine Br.d (λ h=>?_) (λ h=>?_)
  ·refine ⟨by omega,by omega,by omega,by omega,?_,hw⟩
   exact congrArg Value.string (Zoj ⟨n,by omega⟩)
  ·refine ⟨by omega,by omega,by omega,by omega,?_,hw⟩
   exact congrArg Value.string (Zoi ⟨n,by omega⟩ (by dsimp only;omega))
 have h2:Zm prog 284 #[.int .i64 n,.int .i64 10] w λ v w'=>v=.string (VC.strOf (Zna n))/\Sat R Hs w':=by
  apply Zwc;refine Br.t rfl ⟨λ _=>False,Br.t (decide_eq_true (by omega)) (Br.t (decide_eq_true (by omega)) ?_),λ _ _ h=>h.elim⟩;refine h3.use ?_;rintro _ w ⟨rfl,hw⟩;exact ⟨_,rfl,rfl,hw⟩
 have h1:Zm prog 278 #[.int .i64 n] w λ v w'=>v=.string (VC.strOf (Zna n))/\Sat R Hs w':=by
  apply Zwd;refine h2.use ?_;rintro _ w ⟨rfl,hw⟩;exact ⟨_,rfl,rfl,hw⟩
 refine h1.use ?_;rintro _ w ⟨rfl,hw⟩;exact ⟨_,rfl,rfl,hw⟩
def Zvt (n:Int) (g:List Int) (k:Int):ByteArray × Int:=if 0<=k/\k<ZaL n g then (Zvu g.sum k,0) else (⟨#[]⟩,1)
theorem Zvs {n:Int} {g:List Int} {k:Int} (h:0<=k/\k<ZaL n g):∃ a b q m:Nat,k=a/\g.sum=b/\1<=b/\b<=10/\q<60/\m<b/\Zvu g.sum k=VC.strOf (Zhq (q + 1) m)/\(∀ x∈g,1<=x/\x<=10)/\g.length<=4/\((a:Int)).tmod (b:Int)=(m:Int)/\((a:Int)).tdiv (b:Int)=(q:Int):=by
 have hok:Zdg n g=true:=by
  by_cases hok:Zdg n g=true
  ·exact hok
  ·unfold ZaL at h;rw [if_neg hok] at h;omega
 obtain ⟨h1,h2,h3⟩:=Zab.1 hok;have hp:=Zi6 h2 (by omega);rw [ZjC hok] at h;obtain ⟨a,rfl⟩:=Int.eq_ofNat_of_zero_le h.1;obtain ⟨b,hb⟩:=Int.eq_ofNat_of_zero_le (show 0<=g.sum by omega);rw [hb] at h hp h3;have hd:(a:Int) / (b:Int)<n:=Int.ediv_lt_of_lt_mul (by omega) h.2;refine ⟨a,b,a / b,a % b,rfl,hb,by omega,by omega,?_,Nat.mod_lt _ (by omega),?_,h2,by omega,rfl,rfl⟩
 ·rw [<-Int.natCast_ediv] at hd;omega
 ·unfold Zvu
  rw [hb,<-Int.natCast_ediv,<-Int.natCast_emod];rfl
theorem ZoU {n k:Int} {s:Sl} {g:List Int} (hs:RoI R s g) (hw:Sat R Hs w):
  Zm prog 240 #[.agg #[.int .i64 n,.slice s.a s.len s.cap],.int .i64 k] w λ v w'=>v=.tuple #[.string (Zvt n g k).1,.int .i64 (Zvt n g k).2]/\Sat R Hs w':=by
 apply Zwq;refine Zb hw λ p w hw=>?_;have hw:Sat R (pts p (ZeH n s)::Hs) w:=hw;refine ⟨n,s,At.own (eqS hw) (by exact ⟨rfl,rfl,trivial⟩),?_⟩;refine (ZkC hs hw).use ?_;rintro _ w ⟨rfl,hw⟩;refine ⟨_,rfl,Br.nd (λ h=>⟨?_,hw.drop⟩) (λ h=>?_)⟩
 ·unfold Zvt;rw [if_neg h]
 have e:Zvt n g k=(Zvu g.sum k,0):=by unfold Zvt;rw [if_pos h]
 rw [e];obtain ⟨a,b,q,m,rfl,hb,b1,b2,a1,a2,hl,hg,hg2,e1,e2⟩:=Zvs h;rw [hl];refine ⟨n,s,At.own (eqS hw) (by exact ⟨rfl,rfl,trivial⟩),?_⟩;refine (ZbN hs (λ x hx=>by have:=hg x hx;omega) hg2 hw).use ?_;rintro _ w ⟨rfl,hw⟩;rw [hb];refine ⟨_,rfl,?_⟩;refine Zo hw λ w hw=>?_;have w1:IntKind.i64.wrap ((m:Int) + 1)=((m + 1:Nat):Int):=Zh (by omega) (by omega);have w2:IntKind.i64.wrap (q:Int)=(q:Int):=Zh (by omega) (by omega);have w3:IntKind.i64.wrap ((q:Int) + 1)=((q + 1:Nat):Int):=Zh (by omega) (by omega);rw [e1,e2,w1,w2,w3];refine Nz.mk (by omega) (Nz.mk (by omega) (Nz.mk (by omega) ⟨by omega,by omega,by omega,by omega,?_⟩));refine (Zrd (by omega) hw).use ?_;rintro _ w ⟨rfl,hw⟩;have eL:(ByteArray.mk #[65,66,67,68,69,70,71,72,74,75]).extract ((m:Int)).toNat (((m + 1:Nat):Int)).toNat=VC.strOf [ZaZ (m)]:=ZoN ⟨m,by omega⟩;rw [eL];refine ⟨_,rfl,?_,?_,hw.drop⟩
 ·have:(VC.strOf (Zna (q + 1))).size<=2:=by
   show ((Zna (q + 1)).map _).toArray.size<=2;rw [List.size_toArray,List.length_map];unfold Zna;split<;>simp
  have h1:(VC.strOf [ZaZ (m)]).size=1:=rfl;omega
 ·rw [Zq8 ⟨q + 1,by omega⟩ ⟨m,by omega⟩]
theorem Zv2 {c:Int} {j:Nat} (hj:j<10) (hn:∀ i,i<j->ZaZ i≠c) (h:ZaZ j=c):Zj9 c=j:=by
 have hl:Zhl.findIdx? (·==c)=some j:=by
  rw [List.findIdx?_eq_some_iff_getElem];refine ⟨hj,?_,λ i hi=>?_⟩
  ·unfold ZaZ at h
   rw [List.getD_eq_getElem?_getD,List.getElem?_eq_getElem (show j<Zhl.length from hj)] at h
   exact beq_iff_eq.2 h
  ·have:=hn i hi
   unfold ZaZ at this;rw [List.getD_eq_getElem?_getD,List.getElem?_eq_getElem (show i<Zhl.length from by show i<10;omega)] at this
   simpa using this
 unfold Zj9;rw [hl]
theorem Zv1 {c:Int} (hn:∀ i,i<10->ZaZ i≠c):Zj9 c=-1:=by
 unfold Zj9;split
 ·rename_i i hi
  obtain ⟨hlt,hp,_⟩:=List.findIdx?_eq_some_iff_getElem.1 hi;have:=hn i hlt;unfold ZaZ at this;rw [List.getD_eq_getElem?_getD,List.getElem?_eq_getElem hlt] at this;exact absurd (by simpa using hp) this
 ·rfl
theorem ZmI {c:Int} (hw:Sat R Hs w):Zm prog 262 #[.int .i32 c] w λ v w'=>v=.int .i64 (Zj9 c)/\Sat R Hs w':=by
 apply Zwh;refine ⟨λ i w=>∃ j:Nat,i=j/\j<=10/\(∀ k,k<j->ZaZ k≠c)/\Sat R Hs w,λ i _=>10 - i.toNat,⟨0,rfl,by omega,λ k h=>by omega,hw⟩,?_⟩;clear hw;rintro _ _ w ⟨j,rfl,hj,hn,hw⟩;refine Br.d (λ h=>?_) (λ h=>?_)
 ·obtain ⟨b,hb,hv⟩:=Zq3 ⟨j,by omega⟩
  refine ⟨b,by omega,hb,?_⟩;have hbd:=b.toNat_lt;rw [show IntKind.i32.wrap (b.toNat:Int)=(b.toNat:Int) by rw [IntKind.wrap_i32];omega];refine Br.e (λ h2=>⟨?_,hw⟩) (λ h2=>?_)
  ·rw [Zv2 (by omega) hn (hv.symm.trans h2)]
  ·rw [Zh (by omega) (by omega)]
   refine ⟨⟨j + 1,by omega,by omega,λ k hk=>?_,hw⟩,by dsimp only;omega⟩;by_cases hkj:k=j
   ·subst hkj;rw [<-hv];exact h2
   ·exact hn k (by omega)
 ·exact ⟨by rw [Zv1 (λ i hi=>hn i (by omega))],hw⟩
def Zbe (n:Int) (g:List Int) (lab:ByteArray):Int × Int:=if Zdg n g then ZjW n g.sum lab else (0,1)
theorem Znh (c:Int) (l:List Int) (first:Bool) (row last:Int):prs (c::l) first row last=if 0<=last\/(first=true/\c=48)\/row>60 then none
  else if Zrf c then prs l false (10 * row + (c - 48)) last else if Zj9 c<0 then none else prs l false row (Zj9 c):=rfl
theorem Zs2 {lab:ByteArray} {pos:Nat} (h:pos<lab.size):(Z8 lab).drop pos=((lab[pos]'h).toNat:Int)::(Z8 lab).drop (pos + 1):=by
 have hl:pos<(Z8 lab).length:=by rw [Zec];exact h
 rw [List.drop_eq_getElem_cons hl]
 congr 1
 simp [Z8];rfl
theorem ZoO:∀ i:Fin 10,ZaZ i.1<=75:=by decide +kernel
theorem ZrP {c:Int} (h:128<=c):Zj9 c<0:=by
 by_cases h2:Zj9 c<0
 ·exact h2
 ·obtain ⟨h0,h1,h3⟩:=Zj8 h2
  have:=ZoO ⟨(Zj9 c).toNat,by omega⟩;dsimp only at this;omega
theorem Zry {n:Int} {s:Sl} {g:List Int} {lab:ByteArray} (hs:RoI R s g) (hsz:lab.size<=9223372036854775807) (hw:Sat R Hs w):
  Zm prog 234 #[.agg #[.int .i64 n,.slice s.a s.len s.cap],.string lab] w λ v w'=>v=.tuple #[.int .i64 (Zbe n g lab).1,.int .i64 (Zbe n g lab).2]/\Sat R Hs w':=by
 apply Zwv;refine Zb hw λ p w hw=>?_;have hw:Sat R (pts p (ZeH n s)::Hs) w:=hw;refine ⟨n,s,At.own (eqS hw) (by exact ⟨rfl,rfl,trivial⟩),?_⟩;refine (ZdS hs hw).use ?_;rintro _ w ⟨rfl,hw⟩;refine ⟨_,rfl,Br.nb (λ h=>⟨?_,hw.drop⟩) (λ hok=>?_)⟩
 ·unfold Zbe;rw [h];rfl
 have e:Zbe n g lab=ZjW n g.sum lab:=by unfold Zbe;rw [if_pos hok]
 rw [e];obtain ⟨l1,l2,l3⟩:=Zab.1 hok;have hp:=Zi6 l2 (by omega);refine Zb hw λ b w hw=>?_;have no:prs (Z8 lab) true 0 (-1)=none->ZjW n g.sum lab=(0,2):=λ h=>by unfold ZjW;rw [h]
 refine ⟨λ row last w=>∃ pos:Nat,pos<=lab.size/\prs ((Z8 lab).drop pos) (decide (pos=0)) row last=prs (Z8 lab) true 0 (-1)/\0<=row/\row<=700/\-1<=last/\last<10/\Sat R (pts b (.stringIter lab pos)::pts p (ZeH n s)::Hs) w,
  λ _ _ w=>lab.size - w.iterPos b,⟨0,by omega,rfl,by omega,by omega,by omega,by omega,hw⟩,?_⟩
 clear hw;rintro _ row last w ⟨pos,hpos,hprs,r0,r1,t0,t1,hw⟩;have hpw:w.iterPos b=pos:=by have:=hw.at;simp [World.iterPos,this]
 refine ⟨b,lab,pos,rfl,hw.at,λ hlt=>?_,λ hlt=>?_⟩
 ·rw [Zs2 hlt] at hprs
  have hbyte:=(lab[pos]'hlt).toNat_lt;have hw2:=hw.setPts (.stringIter lab (pos + (Utf8.decode lab pos).2));generalize hw':w.setBlock b (.stringIter lab (pos + (Utf8.decode lab pos).2))=w2 at hw2;have:({ w with heap:=w.heap.setIfInBounds b (.stringIter lab (pos + (Utf8.decode lab pos).2)) }:World)=w2:=hw';rw [this];have hc:((lab[pos]'hlt).toNat<128/\Utf8.decode lab pos=((lab[pos]'hlt).toNat,1))\/(128<=(lab[pos]'hlt).toNat/\128<=(Utf8.decode lab pos).1):=by
   by_cases h:(lab[pos]'hlt).toNat<128
   ·exact .inl ⟨h,decode_ascii lab pos hlt h⟩
   ·refine .inr ⟨by omega,ZrI lab pos ?_⟩
    have e:lab.get! (pos + 0)=lab[pos]'hlt:=by
     show lab.get! pos=_;simp [ByteArray.get!,getElem!_pos,hlt];rfl
    rw [e];exact h
  clear this hw';generalize hdc:Utf8.decode lab pos=dc at *;obtain ⟨c,wd⟩:=dc;dsimp only at hc hw2 ⊢;generalize hby:(lab[pos]'hlt).toNat=by0 at *;have hc0:(c:Int)=by0/\wd=1\/128<=by0/\128<=c:=by
   rcases hc with ⟨_,h⟩|h
   ·simp only [Prod.mk.injEq] at h;exact .inl ⟨by omega,h.2⟩
   ·exact .inr h
  have h48:(by0:Int)=48↔(c:Int)=48:=by omega
  refine ⟨λ t w=>t=decide (0<=last\/(decide (pos=0)=true/\(by0:Int)=48)\/row>60)/\Sat R (pts b (.stringIter lab (pos + wd))::pts p (ZeH n s)::Hs) w,?_,?_⟩
  ·refine Br.d (λ h=>⟨?_,hw2⟩) (λ h=>Br.e (λ h2=>Br.e (λ h3=>⟨?_,hw2⟩) (λ h3=>⟨?_,hw2⟩)) (λ h2=>⟨?_,hw2⟩))
   ·rw [decide_eq_true (.inl h)]
   ·rw [decide_eq_true (.inr (.inl ⟨decide_eq_true (by omega),h48.2 h3⟩))]
   ·rw [decide_eq_decide]
    constructor
    ·intro h4;exact .inr (.inr h4)
    ·rintro (h4|⟨_,h4⟩|h4)
     ·omega
     ·exact absurd (h48.1 h4) h3
     ·exact h4
   ·rw [decide_eq_decide]
    constructor
    ·intro h4;exact .inr (.inr h4)
    ·rintro (h4|⟨h4,_⟩|h4)
     ·omega
     ·have:=of_decide_eq_true h4;omega
     ·exact h4
  clear hw hw2;rintro _ _ w3 ⟨rfl,hw⟩;refine Br.d (λ h=>⟨?_,hw.drop.drop⟩) (λ h=>?_)
  ·rw [Znh] at hprs
   rw [if_pos h] at hprs;rw [no hprs.symm]
  rw [Znh] at hprs;rw [if_neg h] at hprs;refine ⟨λ t w=>t=Zrf c/\Sat R (pts b (.stringIter lab (pos + wd))::pts p (ZeH n s)::Hs) w,?_,?_⟩
  ·unfold Zrf
   refine Br.d (λ h=>⟨?_,hw⟩) (λ h=>⟨?_,hw⟩)
   ·rw [decide_eq_decide];omega
   ·rw [decide_eq_false (by omega)]
  clear hw;rintro _ _ w4 ⟨rfl,hw⟩;refine Br.mk (λ h2=>?_) (λ h2=>?_)
  ·have h3:=of_decide_eq_true h2
   rcases hc0 with ⟨hcb,rfl⟩|hc0
   ·rw [<-hcb,if_pos h2] at hprs
    rw [show IntKind.i32.wrap ((c:Int) - 48)=(c:Int) - 48 by rw [IntKind.wrap_i32];omega,Zh (x:=10 * row) (by omega) (by omega),Zh (x:=(c:Int) - 48) (by omega) (by omega),Zh (by omega) (by omega)];refine ⟨⟨pos + 1,by omega,?_,by omega,by omega,by omega,by omega,hw⟩,?_⟩
    ·rw [decide_eq_false (by omega)];exact hprs
    ·have:w4.iterPos b=pos + 1:=by have:=hw.at;simp [World.iterPos,this]
     rw [this,hpw];omega
   ·omega
  ·refine (ZmI hw).use ?_
   rintro _ w5 ⟨rfl,hw⟩;refine ⟨_,rfl,Br.d (λ h3=>⟨?_,hw.drop.drop⟩) (λ h3=>?_)⟩
   ·have hno:Zj9 (by0:Int)<0:=by
     rcases hc0 with ⟨hcb,rfl⟩|hc0
     ·rw [<-hcb];exact h3
     ·exact ZrP (by omega)
    have hnd:Zrf (by0:Int)=false:=by
     rcases hc0 with ⟨hcb,rfl⟩|hc0
     ·rw [<-hcb];exact h2
     ·exact decide_eq_false (by omega)
    rw [hnd,if_neg (by simp),if_pos hno] at hprs;rw [no hprs.symm]
   ·obtain ⟨c0,c1,c2⟩:=Zj8 h3
    rcases hc0 with ⟨hcb,rfl⟩|hc0
    ·rw [<-hcb,h2,if_neg (by simp),if_neg h3] at hprs
     refine ⟨⟨pos + 1,by omega,?_,by omega,by omega,by omega,by omega,hw⟩,?_⟩
     ·rw [decide_eq_false (by omega)];exact hprs
     ·have:w5.iterPos b=pos + 1:=by have:=hw.at;simp [World.iterPos,this]
      rw [this,hpw];omega
    ·have:=ZrP (c:=(c:Int)) (by omega);omega
 ·rw [List.drop_eq_nil_of_le (by rw [Zec];omega)] at hprs
  have hw:=hw.drop;have ef:ZjW n g.sum lab=if row<1\/row>n\/last<0\/last >= g.sum then (0,2) else ((row - 1) * g.sum + last,0):=by
   unfold ZjW;rw [<-hprs];rfl
  rw [ef];refine Br.d (λ h=>⟨by rw [if_pos (.inl h)],hw.drop⟩) (λ h1=>?_);refine ⟨n,oA hw,Br.d (λ h=>⟨by rw [if_pos (.inr (.inl h))],hw.drop⟩) (λ h2=>?_)⟩;refine Br.d (λ h=>⟨by rw [if_pos (.inr (.inr (.inl h)))],hw.drop⟩) (λ h3=>?_);refine ⟨n,s,At.own (eqS hw) (by exact ⟨rfl,rfl,trivial⟩),?_⟩;refine (ZbN hs (λ x hx=>by have:=l2 x hx;omega) (by omega) hw).use ?_;rintro _ w ⟨rfl,hw⟩;refine ⟨_,rfl,Br.d (λ h=>⟨by rw [if_pos (.inr (.inr (.inr h)))],hw.drop⟩) (λ h4=>?_)⟩;refine ⟨n,s,At.own (eqS hw) (by exact ⟨rfl,rfl,trivial⟩),?_⟩;refine (ZbN hs (λ x hx=>by have:=l2 x hx;omega) (by omega) hw).use ?_;rintro _ w ⟨rfl,hw⟩;refine ⟨_,rfl,?_,hw.drop⟩;have hm:=Zup (a:=row - 1) (b:=g.sum) (by omega) (by omega) (by omega) (by omega);rw [if_neg (by omega),Zh (x:=row - 1) (by omega) (by omega),Zh (x:=(row - 1) * g.sum) (by omega) (by omega),Zh (by omega) (by omega)]
end
section
open Go Go.VC Tryz
variable {R:Cx} {Hs Rest:List HP} {w:World}
def ZgW:List Int->Int->Int × Int
 |[],_=>(0,0)
 |x::g,a=>if a<x then (a,x - 1 - a) else ZgW g (a - x)
theorem Zol (x:Int) (g:List Int) (a:Int):ZgW (x::g) a=if a<x then (a,x - 1 - a) else ZgW g (a - x):=rfl
theorem Zok {n k:Int} {s:Sl} {g:List Int} (hs:RoI R s g) (hg:∀ x∈g,1<=x/\x<=10) (hl:g.length<=4) (hl1:1<=g.length) (hk:0<=k) (hw:Sat R Hs w):
  Zm prog 238 #[.agg #[.int .i64 n,.slice s.a s.len s.cap],.int .i64 k] w λ v w'=>v=.tuple #[.int .i64 (ZgW g (k % g.sum)).1,.int .i64 (ZgW g (k % g.sum)).2]/\Sat R Hs w':=by
 have hlen:=hs.len;have hp:=Zi6 hg hl1;apply Zwr;refine Zb hw λ p w hw=>?_;have hw:Sat R (pts p (ZeH n s)::Hs) w:=hw;refine ⟨n,s,At.own (eqS hw) (by exact ⟨rfl,rfl,trivial⟩),?_⟩;refine (ZbN hs (λ x hx=>by have:=hg x hx;omega) hl hw).use ?_;rintro _ w ⟨rfl,hw⟩;refine ⟨_,rfl,Nz.mk (by omega) ⟨s,oA hw,?_⟩⟩;rw [Int.tmod_eq_emod_of_nonneg hk];have m0:=Int.emod_nonneg k (show g.sum≠0 by omega);have m1:=Int.emod_lt_of_pos k (show 0<g.sum by omega);have hsb:=Zkt (g:=g) (λ x hx=>by have:=hg x hx;omega);generalize k % g.sum=a at *;refine ⟨λ at' i w=>∃ j:Nat,i=j/\j<=g.length/\0<=at'/\at'<=a/\ZgW (g.drop j) at'=ZgW g a/\Sat R (pts p (ZeH n s)::Hs) w,λ _ i _=>g.length - i.toNat,⟨0,rfl,by omega,by omega,by omega,rfl,hw⟩,?_⟩;clear hw;rintro _ at' _ w ⟨j,rfl,hj,h0,h1,hn,hw⟩;refine Br.d (λ h=>?_) (λ h=>?_)
 ·have hj2:j<g.length:=by omega
  have hx:=hg g[j] (List.getElem_mem _);rw [List.drop_eq_getElem_cons hj2,Zol] at hn;refine hs.idx (eqS hw) hj2 ?_;refine Br.d (λ h2=>⟨?_,hw.drop⟩) (λ h2=>?_)
  ·rw [if_pos h2] at hn
   rw [Zh (x:=g[j] - 1) (by omega) (by omega),Zh (by omega) (by omega)];have:=hn.symm;rw [show ZgW g a=(at',g[j] - 1 - at') from this]
  ·rw [if_neg h2] at hn
   rw [Zh (x:=at' - g[j]) (by omega) (by omega),Zh (by omega) (by omega)];exact ⟨⟨j + 1,by omega,by omega,by omega,by omega,hn,hw⟩,by dsimp only;omega⟩
 ·rw [List.drop_eq_nil_of_le (by omega)] at hn
  refine ⟨?_,hw.drop⟩;rw [show ZgW g a=(0,0) from hn.symm]
end
section
open Go Go.VC Tryz
section
variable (u z:Nat->Bool)
def Zat:Nat->List Nat
 |0=>[]
 |j + 1=>Zat j++(if u j then [] else [j])
def Zfw:Nat->Nat
 |0=>0
 |j + 1=>if u j then 0 else (if z j then 0 else Zfw j) + 1
def Zkh (j many:Nat):List Nat:=(List.range many).map λ t=>j - many + t
def Zen (N many:Nat):List Nat × Int:=
 match (List.range N).find? λ j=>Zfw u z (j + 1)==many with
 |some j=>(Zkh (j + 1) many,0)
 |none=>if (Zat u N).length<many then ([],3) else ((Zat u N).take many,0)
variable {u z}
theorem Zd7 (j:Nat):Zat u (j + 1)=Zat u j++(if u j then [] else [j]):=rfl
theorem ZjS {i j:Nat}:∀ {N:Nat},(Zat u N)[i]? =some j->j<N/\u j=false/\(Zat u j).length=i
 |0,h=>by simp [Zat] at h
 |N + 1,h=>by
  rw [Zd7] at h;by_cases hi:i<(Zat u N).length
  ·rw [List.getElem?_append_left hi] at h
   obtain ⟨h1,h2⟩:=ZjS h;exact ⟨by omega,h2⟩
  ·rw [List.getElem?_append_right (by omega)] at h
   split at h
   ·simp at h
   ·rename_i hu
    rcases hk:i - (Zat u N).length with _|k
    ·rw [hk] at h
     simp at h;subst h;exact ⟨by omega,by simpa using hu,by omega⟩
    ·rw [hk] at h;simp at h
theorem ZdH (j:Nat):(Zat u (j + 1)).length=(Zat u j).length + (if u j then 0 else 1):=by
 rw [Zd7,List.length_append];split<;>rfl
theorem Zrt {j:Nat}:∀ t:Nat,(Zat u j).length<=(Zat u (j + t)).length
 |0=>by simp
 |t + 1=>by
  have:=Zrt (j:=j) t;rw [<-Nat.add_assoc,ZdH];omega
theorem ZcU (j:Nat):Zfw u z (j + 1)=if u j then 0 else (if z j then 0 else Zfw u z j) + 1:=rfl
theorem Zp2:∀ {j m:Nat},m<=Zfw u z j↔m<=j/\∀ x,j - m<=x->x<j->u x=false/\(j - m<x->z x=false)
 |j,0=>⟨λ _=>⟨by omega,λ x h1 h2=>by omega⟩,λ _=>by omega⟩
 |0,m + 1=>⟨λ h=>by simp [Zfw] at h,λ h=>by omega⟩
 |j + 1,m + 1=>by
  rw [ZcU];cases hu:u j with
  |true=>
   refine ⟨λ h=>by simp at h,λ h=>?_⟩;have:=(h.2 j (by omega) (by omega)).1;rw [hu] at this;cases this
  |false=>
   simp only [Bool.false_eq_true,if_false];cases hz:z j with
   |true=>
    simp only [if_true];constructor
    ·intro h
     obtain rfl:m=0:=by omega
     exact ⟨by omega,λ x h1 h2=>by
      obtain rfl:x=j:=by omega
      exact ⟨hu,λ h=>by omega⟩⟩
    ·intro h
     by_cases hm:m=0
     ·omega
     ·have:=(h.2 j (by omega) (by omega)).2 (by omega)
      rw [hz] at this;cases this
   |false=>
    simp only [Bool.false_eq_true,if_false];have ih:=Zp2 (j:=j) (m:=m);constructor
    ·intro h
     obtain ⟨h1,h2⟩:=ih.1 (by omega);refine ⟨by omega,λ x h3 h4=>?_⟩;by_cases hx:x=j
     ·subst hx;exact ⟨hu,λ _=>hz⟩
     ·obtain ⟨h5,h6⟩:=h2 x (by omega) (by omega)
      exact ⟨h5,λ h=>h6 (by omega)⟩
    ·rintro ⟨h1,h2⟩
     have:=ih.2 ⟨by omega,λ x h3 h4=>by
      obtain ⟨h5,h6⟩:=h2 x (by omega) (by omega);exact ⟨h5,λ h=>h6 (by omega)⟩⟩
     omega
variable {N many:Nat} {grp:Nat->Int}
theorem Zsi (hm:1<=many) (h:∀ j,j<N->¬ many<=Zfw u z (j + 1)):Zen u z N many=if (Zat u N).length<many then ([],3) else ((Zat u N).take many,0):=by
 unfold Zen;have:((List.range N).find? λ j=>Zfw u z (j + 1)==many)=none:=by
  rw [List.find?_eq_none];intro j hj h2;have h2:=beq_iff_eq.1 h2;exact h j (List.mem_range.1 hj) (by omega)
 rw [this]
theorem Zsh (hm:1<=many) {j:Nat} (hj:j<N) (h:Zfw u z (j + 1)=many) (hn:∀ k,k<j->¬ many<=Zfw u z (k + 1)):Zen u z N many=(Zkh (j + 1) many,0):=by
 unfold Zen;have:((List.range N).find? λ j=>Zfw u z (j + 1)==many)=some j:=by
  rw [List.find?_range_eq_some];exact ⟨by simpa using h,List.mem_range.2 hj,λ k hk=>by
   have:=hn k hk;simp only [Bool.not_eq_true',beq_eq_false_iff_ne];omega⟩
 rw [this]
end
def zF (g:List Int) (k:Nat):Bool:=(ZgW g ((k:Int) % g.sum)).1==0
end
end Go.Proofs.YtfgbbckfikiomaaGreatDoor
namespace Go.VC
section
variable {P:Program} {R:Cx} {Hs Rest:List HP} {w:World} {s:Sl} {T:TypeId}
theorem Zhi {t:TypeId} {bytes n:Nat} {kl kc:IntKind} {z:Value} {K:Sl->World->Prop} (ht:P.underlying t=some (.slice T)) (hi:elB P T bytes=true) (hv:∀ w,(zeroValue T).run P w=.ok z w) (h1:z.cells=#[z])
  (hn:bytes * n<=281474976710656) (h63:n<=9223372036854775807) (hw:Sat R Hs w) (k:∀ s' w',Sat R (Own s' T (List.replicate n z)::Hs) w'->K s' w'):
  ∃ w',∃ t':Sl,(Instr.makeSlice t (.int kl (n:Int)) (.int kc (n:Int))).run P w=.ok (.slice t'.a t'.len t'.cap) w'/\K t' w':=by
 obtain ⟨i,z',hi,hz,hs,hb,hc⟩:=ZmF hi;have hzz:z'=z:=by
  have:=hv w;simp [zeroValue,hi,hz,typeInfo] at this;exact this
 subst hzz;have hb':(i.bytes:Int) * (n:Int)<=281474976710656:=by
  rw [hb];have h:((bytes * n:Nat):Int)<=281474976710656:=by omega
  rwa [Int.natCast_mul] at h
 have hr:=run_make (P:=P) w t T i z' ht hi hz kl kc n n (by omega) (Int.le_refl _) hb' (by omega);simp only [Int.toNat_natCast,hs,Nat.mul_one,h1] at hr;refine ⟨_,⟨some ⟨w.heap.size,0,none⟩,n,n⟩,hr,k _ _ ?_⟩;have e:madeCells #[z'] n=(List.replicate n z').toArray:=by
  apply Array.ext
  ·simp [size_madeCells]
  ·intro j h1 h2
   simp [madeCells,Nat.mod_one]
 rw [e];exact ZbI (hw.alloc _) (by simp)
theorem Own.idxB {xs:List Bool} {S:World->Prop} {Hs':List HP} {i:Int} (hw:Sat R (Own s T (xs.map Value.bool)::Hs) w) (hS:∀ w,S w->Sat R (Own s T (xs.map Value.bool)::Hs') w) (k:Nat) (hi:i=k) (hk:k<xs.length) {F:Bool->Prop} (h:F xs[k]):
  Rng i s.len (Zc s.a λ a=>∃ t:Bool,(At S (a.add i.toNat) [.bool t])/\F t):=by
 subst hi;obtain ⟨b,ha,hat⟩:=Own.addr hw (k:=k) (by simpa using hk);have hl:=Own.len hw;rw [List.length_map] at hl;refine Rng.mk (by omega) (by omega) (Zc.mk ha ⟨xs[k],?_,h⟩);have:=hat hS;simpa using this
theorem Own.storeV {t:TypeId} {xs:List Value} {v:Value} {i:Int} (hsz:(P.info? t).map (·.size)=some 1) (hv:v.cells=#[v]) (h1:v.oneCell'=true) (hw:Sat R (Own s T xs::Hs) w) (k:Nat) (hi:i=k) (hk:k<xs.length) {K:World->Prop}
  (h:∀ w',Sat R (Own s T (xs.set k v)::Hs) w'->K w'):
  Rng i s.len (Zc s.a λ a=>∃ w',(Instr.storeAt t (.pointer (some (Addr.add a i.toNat))) v).run P w=.ok () w'/\K w'):=by
 subst hi;have hl:=Own.len hw;rcases Own.cases hw with ⟨_,h0,_⟩|⟨b,rest,fr,rfl,hfr,hp⟩
 ·subst h0;simp at hk
 ·refine Rng.mk (by omega) (by simp only at hl ⊢;omega) (Zc.mk rfl ?_)
  rw [Zy];refine Za hp (by rw [hsz,hv];rfl) (by rw [hv];simp [ZaS,h1]) (by rw [hv];simp;omega) λ w' h2=>h w' ?_;have e:Zei (xs++rest) (0 + (k:Int).toNat) v.cells.toList=xs.set k v++rest:=by
   rw [hv];simp only [Zei,Nat.zero_add,Int.toNat_natCast];rw [List.set_append_left _ _ hk]
  rw [e] at h2;have h3:=Own.of_pts h2 (hfr.le (by simp));simpa using h3
theorem Own.ix {kd:IntKind} {xs:List Int} {S:World->Prop} {Hs':List HP} {i:Int} (hw:Sat R (Own s T (xs.map (Value.int kd))::Hs) w) (hS:∀ w,S w->Sat R (Own s T (xs.map (Value.int kd))::Hs') w) (k:Nat) (hi:i=k) (hk:k<xs.length) {F:Int->Prop} (h:F xs[k]):
  Rng i s.len (Zc s.a λ a=>∃ t:Int,(At S (a.add i.toNat) [.int kd t])/\F t):=by
 subst hi;exact Own.idx hw hS hk h
end
end Go.VC
namespace Go.Proofs.YtfgbbckfikiomaaGreatDoor
section
open Go Go.VC Tryz
variable {R:Cx} {Hs Rest:List HP} {w:World}
theorem Zo6:El prog 28 28 3 8:=⟨underlying28,⟨_,underlying28⟩,by kernel_rfl⟩
abbrev ZiD (l:List Nat):List Value:=(l.map λ (j:Nat)=>(j:Int)).map (Value.int .i64)
def Za8 (taken:List Int) (j:Nat):Bool:=decide ((j:Int)∈taken)
def Zal (n:Int) (g:List Int) (taken:List Int) (many:Int):List Int × Int:=
 if many<1\/many>ZaL n g then ([],1)
 else ((Zen (Za8 taken) (zF g) (ZaL n g).toNat many.toNat).1.map λ (j:Nat)=>(j:Int),(Zen (Za8 taken) (zF g) (ZaL n g).toNat many.toNat).2)
theorem Zl6 {u z:Nat->Bool}:∀ j,Zfw u z j<=j
 |0=>Nat.le_refl _
 |j + 1=>by
  have:=Zl6 (u:=u) (z:=z) j;rw [ZcU];split
  ·omega
  ·split<;>omega
theorem ZpA {j m:Nat} (h:m<=j):Zkh (j + 1) (m + 1)=Zkh j m++[j]:=by
 unfold Zkh;rw [List.range_succ,List.map_append]
 congr 1
 ·refine List.map_congr_left λ t _=>by omega
 ·simp;omega
theorem Zgy (j m:Nat):(Zkh j m).length=m:=by unfold Zkh;simp
theorem Zlu {u:Nat->Bool}:∀ j,(Zat u j).length<=j
 |0=>Nat.le_refl _
 |j + 1=>by
  have:=Zlu (u:=u) j;rw [ZdH];split<;>omega
theorem ZjH (l:List Nat):(ZiD l).length=l.length:=by simp [ZiD]
theorem Zta {s:Sl} {T:TypeId} {xs:List Value} {k:Nat} (hk:k<=xs.length) (hw:Sat R (Own s T xs::Hs) w):Sat R (Own ⟨s.a,k,s.cap⟩ T (xs.take k)::Hs) w:=by
 rcases Own.cases hw with ⟨rfl,rfl,hn⟩|⟨b,rest,fr,rfl,hfr,hp⟩
 ·obtain rfl:k=0:=by simpa using hk
  exact Own.nil hn
 ·have e:xs++rest=xs.take k++(xs.drop k++rest):=by rw [<-List.append_assoc,List.take_append_drop]
  rw [e] at hp hfr ⊢;have:=Own.of_pts hp hfr;rw [show (xs.take k).length=k by rw [List.length_take];omega] at this;exact this
theorem Zsg {n many:Int} {s st:Sl} {g taken:List Int} (hs:RoI R s g) (ht:RoI R st taken) (hw:Sat R Hs w):
  Zm prog 188 #[.agg #[.int .i64 n,.slice s.a s.len s.cap],.slice st.a st.len st.cap,.int .i64 many] w λ v w'=>∃ t:Sl,v=.tuple #[.slice t.a t.len t.cap,.int .i64 (Zal n g taken many).2]/\Sat R (ZA t ((Zal n g taken many).1.map (Value.int .i64))::Hs) w':=by
 have hbd:=Zcp n g;have htl:=ht.len;have htb:=ht.bound;have bad:(many<1\/many>ZaL n g)->∀ w,Sat R (pts 0 (.cells #[] 0 (0,0))::Hs) w\/Sat R Hs w->∃ t:Sl,Value.tuple #[.slice none 0 0,.int .i64 1]=.tuple #[.slice t.a t.len t.cap,.int .i64 (Zal n g taken many).2]/\Sat R (ZA t ((Zal n g taken many).1.map (Value.int .i64))::Hs) w:=λ h w hw=>by
  have e:Zal n g taken many=([],1):=by unfold Zal;rw [if_pos h]
  rw [e];exact ⟨⟨none,0,0⟩,rfl,Own.reads (T:=0) (Own.nil (by rcases hw with h|h;exact h.drop;exact h))⟩
 apply ZwY;refine Zb hw λ p w hw=>?_;have hw:Sat R (pts p (ZeH n s)::Hs) w:=hw;refine ⟨λ w=>(1<=many/\many<=ZaL n g)/\Sat R (pts p (ZeH n s)::Hs) w,Br.d (λ h=>bad (.inl h) _ (.inr hw.drop)) (λ h1=>?_),?_⟩
 ·refine ⟨n,s,At.own (eqS hw) (by exact ⟨rfl,rfl,trivial⟩),?_⟩
  refine (ZbM hs hw).use ?_;rintro _ w ⟨rfl,hw⟩;exact ⟨_,rfl,Br.d (λ h=>bad (.inr h) _ (.inr hw.drop)) (λ h=>⟨⟨by omega,by omega⟩,hw⟩)⟩
 clear hw;rintro _ w ⟨⟨hm1,hm2⟩,hw⟩;have hok:Zdg n g=true:=by
  by_cases hok:Zdg n g=true
  ·exact hok
  ·unfold ZaL at hm2;rw [if_neg hok] at hm2;omega
 obtain ⟨l1,l2,l3⟩:=Zab.1 hok;have eT:Zal n g taken many=((Zen (Za8 taken) (zF g) (ZaL n g).toNat many.toNat).1.map λ (j:Nat)=>(j:Int),(Zen (Za8 taken) (zF g) (ZaL n g).toNat many.toNat).2):=by
  unfold Zal;rw [if_neg (by omega)]
 rw [eT];obtain ⟨N,hN⟩:=Int.eq_ofNat_of_zero_le hbd.1;obtain ⟨m,rfl⟩:=Int.eq_ofNat_of_zero_le (show 0<=many by omega);rw [hN] at hbd hm2 ⊢;rw [Int.toNat_natCast,Int.toNat_natCast];clear bad eT;generalize hu:Za8 taken=u;generalize hz:zF g=z;refine ⟨n,s,At.own (eqS hw) (by exact ⟨rfl,rfl,trivial⟩),?_⟩;refine (ZbM hs hw).use ?_;rw [hN];rintro _ w ⟨rfl,hw⟩;refine ⟨_,rfl,?_⟩;refine Zhi (bytes:=1) (z:=.bool false) underlying261 (by kernel_rfl) zeroValue4 rfl (by omega) (by omega) hw λ su w hw=>?_
 -- which ones are taken
 refine ⟨λ i w=>∃ j:Nat,i=j/\j<=taken.length/\Sat R (Own su 4 (((List.range N).map (Za8 (taken.take j))).map Value.bool)::pts p (ZeH n s)::Hs) w,λ i _=>taken.length - i.toNat,⟨0,rfl,by omega,?_⟩,?_⟩
 ·have e:((List.range N).map (Za8 (taken.take 0))).map Value.bool=List.replicate N (.bool false):=by
   apply List.ext_getElem
   ·simp
   ·intro i h1 h2;simp [Za8]
  rw [e];exact hw
 clear hw;rintro _ _ w ⟨j,rfl,hj,hw⟩;have hsl:=Own.len hw;simp only [List.length_map,List.length_range] at hsl;refine Br.d (λ h=>?_) (λ h=>?_)
 ·have hj2:j<taken.length:=by omega
  refine ht.idx (eqS hw) hj2 ?_;refine ⟨n,s,At.own (eqS hw) (by exact ⟨rfl,rfl,trivial⟩),?_⟩;refine (ZkC hs hw).use ?_;rw [hN];rintro _ w ⟨rfl,hw⟩;have hset:∀ k:Nat,Za8 (taken.take (j + 1)) k=(Za8 (taken.take j) k||decide ((k:Int)=taken[j])):=λ k=>by
   unfold Za8;rw [List.take_add_one,List.getElem?_eq_getElem hj2];simp only [Option.toList_some,List.mem_append,List.mem_singleton];rw [Bool.decide_or]
  rw [Zh (by omega) (by omega)];refine ⟨_,rfl,Br.d (λ h2=>?_) (λ h2=>?_)⟩
  ·obtain ⟨k,hk⟩:=Int.eq_ofNat_of_zero_le h2.1
   refine Own.storeV (by kernel_rfl) rfl rfl hw k hk (by simp;omega) λ w hw=>?_;refine ⟨⟨j + 1,by omega,by omega,?_⟩,by dsimp only;omega⟩;have e:(((List.range N).map (Za8 (taken.take j))).map Value.bool).set k (.bool true)=((List.range N).map (Za8 (taken.take (j + 1)))).map Value.bool:=by
    rw [<-List.map_set]
    congr 1
    apply List.ext_getElem
    ·simp
    ·intro i h3 h4
     simp only [List.length_map,List.length_range,List.length_set] at h3 h4;rw [List.getElem_set];simp only [List.getElem_map,List.getElem_range];rw [hset];split
     ·rename_i h5;subst h5;rw [decide_eq_true hk.symm,Bool.or_true]
     ·rw [decide_eq_false (by omega),Bool.or_false]
   rw [e] at hw;exact hw
  ·refine ⟨⟨j + 1,by omega,by omega,?_⟩,by dsimp only;omega⟩
   have e:(List.range N).map (Za8 (taken.take j))=(List.range N).map (Za8 (taken.take (j + 1))):=by
    refine List.map_congr_left λ i hi=>?_;have hi:=List.mem_range.1 hi;rw [hset,decide_eq_false (by omega),Bool.or_false]
   rw [e] at hw;exact hw
 rw [List.take_of_length_le (show taken.length<=j by omega),hu] at hw
 -- the seats, one behind the other
 refine ⟨n,s,At.own (eqS hw) (by exact ⟨rfl,rfl,trivial⟩),?_⟩;refine (ZbM hs hw).use ?_;rw [hN];rintro _ w ⟨rfl,hw⟩;refine ⟨_,rfl,?_⟩;clear h hj hsl;refine ⟨λ sf sr i w=>∃ j:Nat,i=j/\j<=N/\(∀ k,k<j->¬ m<=Zfw u z (k + 1))/\Sat R (Own sf 3 (ZiD (Zat u j))::Own sr 3 (ZiD (Zkh j (Zfw u z j)))::Own su 4 (((List.range N).map u).map Value.bool)::pts p (ZeH n s)::Hs) w,
  λ _ _ i _=>N - i.toNat,⟨0,rfl,by omega,λ k h=>by omega,Own.nil (Own.nil hw)⟩,?_⟩
 clear hw;rintro _ sf sr _ w ⟨j,rfl,hj,hn,hw⟩;have hfl:=Zlu (u:=u) j;have hrl:=Zl6 (u:=u) (z:=z) j;refine Br.d (λ h=>?_) (λ h=>?_)
 ·have hjN:j<N:=by omega
  have hused:((List.range N).map u)[j]? =some (u j):=by rw [List.getElem?_map,List.getElem?_range hjN];rfl
  have hgu:∀ (hh:j<((List.range N).map u).length),((List.range N).map u)[j]=u j:=λ hh=>by simp
  refine ⟨λ sr w=>Sat R (Own sf 3 (ZiD (Zat u j))::Own sr 3 (ZiD (if z j||u j then [] else Zkh j (Zfw u z j)))::Own su 4 (((List.range N).map u).map Value.bool)::pts p (ZeH n s)::Hs) w,?_,?_⟩
  ·refine ⟨n,s,At.own (eqS hw) (by exact ⟨rfl,rfl,trivial⟩),?_⟩
   refine (Zok hs l2 (by omega) (by omega) (by omega) hw).use ?_;rintro _ w ⟨rfl,hw⟩;have hzj:z j=((ZgW g ((j:Int) % g.sum)).1==0):=by rw [<-hz];rfl
   refine ⟨_,_,rfl,?_⟩;rw [<-hzj];refine Br.mk (λ h2=>?_) (λ h2=>?_)
   ·rw [h2];exact Own.nil (hw.swap.drop)|>.swap
   ·refine Own.idxB (hw.take (Own su 4 (((List.range N).map u).map Value.bool))) (eqS (hw.take (Own su 4 (((List.range N).map u).map Value.bool)))) j rfl (by simp;omega) ?_
    rw [hgu];refine Br.mk (λ h3=>?_) (λ h3=>?_)
    ·rw [h2,h3];exact Own.nil (hw.swap.drop)|>.swap
    ·rw [h2,h3];exact hw
  clear hw;rintro _ sr w hw;refine Own.idxB (hw.take (Own su 4 (((List.range N).map u).map Value.bool))) (eqS (hw.take (Own su 4 (((List.range N).map u).map Value.bool)))) j rfl (by simp;omega) ?_;rw [hgu,Zh (by omega) (by omega)];refine Br.mk (λ h3=>?_) (λ h3=>?_)
  ·refine ⟨⟨j + 1,by omega,by omega,λ k hk=>?_,?_⟩,by dsimp only;omega⟩
   ·by_cases hkj:k=j
    ·rw [hkj,ZcU,h3];simp;omega
    ·exact hn k (by omega)
   ·rw [h3,Bool.or_true,if_pos rfl] at hw
    rw [Zd7,ZcU,h3];simp only [if_true,List.append_nil];exact hw
  ·refine Zbn Zo6 hw (by rw [List.length_map];omega) λ sf' w hw=>?_
   have hrun:(if z j||u j then [] else Zkh j (Zfw u z j))++[j]=Zkh (j + 1) (Zfw u z (j + 1)):=by
    rw [ZcU,h3,Bool.or_false];simp only [Bool.false_eq_true,if_false];cases hzz:z j with
    |true=>simp [Zkh]
    |false=>
     simp only [Bool.false_eq_true,if_false];exact (ZpA hrl).symm
   have hrl2:=Zl6 (u:=u) (z:=z) (j + 1);refine Zbn Zo6 hw.swap (by rw [List.length_map];split<;>simp [Zgy]<;>omega) λ sr' w hw=>?_;have hw:Sat R (Own sr' 3 (ZiD (Zkh (j + 1) (Zfw u z (j + 1))))::Own sf' 3 (ZiD (Zat u (j + 1)))::Own su 4 (((List.range N).map u).map Value.bool)::pts p (ZeH n s)::Hs) w:=by
    have e1:ZiD (Zat u (j + 1))=(((Zat u j).map λ (j:Nat)=>(j:Int))++[(j:Int)]).map (Value.int .i64):=by rw [Zd7,h3];simp [ZiD]
    have e2:ZiD (Zkh (j + 1) (Zfw u z (j + 1)))=(((if z j||u j then [] else Zkh j (Zfw u z j)).map λ (j:Nat)=>(j:Int))++[(j:Int)]).map (Value.int .i64):=by rw [<-hrun];simp only [ZiD,List.map_append,List.map_cons,List.map_nil]
    rw [e1,e2];exact hw
   have hrlen:=Own.len hw;rw [ZjH,Zgy] at hrlen;refine Br.e (λ h4=>?_) (λ h4=>?_)
   ·have hbs:=Zsh (u:=u) (z:=z) (many:=m) (N:=N) (by omega) hjN (by omega) hn
    rw [hbs];refine ⟨sr',rfl,?_⟩;have:=Own.reads hw;rw [show Zfw u z (j + 1)=m by omega] at this;exact Sat.cons (λ R' h=>h.drop.drop.drop) this
   ·refine ⟨⟨j + 1,by omega,by omega,λ k hk hr=>?_,hw.swap⟩,by dsimp only;omega⟩
    by_cases hkj:k=j
    ·subst hkj
     have:Zfw u z (k + 1)<=Zfw u z k + 1:=by rw [ZcU];split<;>(try split)<;>omega
     have:Zfw u z k<m:=by
      by_cases hk0:k=0
      ·rw [hk0];simp only [Zfw];omega
      ·have:=hn (k - 1) (by omega)
       rw [show k - 1 + 1=k by omega] at this;omega
     omega
    ·exact hn k (by omega) hr
 ·obtain rfl:j=N:=by omega
  have hbn:=Zsi (u:=u) (z:=z) (many:=m) (N:=j) (by omega) hn;have hfl2:=Own.len hw;have hcap:=Own.cap hw;rw [ZjH] at hfl2;rw [hbn];refine Br.d (λ h4=>?_) (λ h4=>?_)
  ·rw [if_pos (by omega)]
   exact ⟨⟨none,0,0⟩,rfl,Own.reads (T:=0) (Own.nil hw.drop.drop.drop.drop)⟩
  ·rw [if_neg (by omega)]
   refine ⟨by omega,by omega,⟨sf.a,m,sf.cap⟩,rfl,?_⟩;have:=Own.reads (Zta (k:=m) (by rw [ZjH];omega) hw);rw [show (ZiD (Zat u j)).take m=ZiD ((Zat u j).take m) by simp [ZiD,List.map_take]] at this;exact Sat.cons (λ R' h=>h.drop.drop.drop) this
end
section
open Go Go.VC Tryz
variable {R:Cx} {Hs Rest:List HP} {w:World}
theorem _root_.Go.VC.Sat.imp {A B:HP} (h:∀ m,A m->B m) (hw:Sat R (A::Hs) w):Sat R (B::Hs) w:=let ⟨m,a,b,c⟩:=hw;⟨m,h m a,b,c⟩
end
end Go.Proofs.YtfgbbckfikiomaaGreatDoor
