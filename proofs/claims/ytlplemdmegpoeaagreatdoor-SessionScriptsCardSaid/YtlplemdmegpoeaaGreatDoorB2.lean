/- SL, part 10: slices whose elements are structs of n cells: one's own, or only read; elements, stores, append. No condition but bounds on lengths. -/
import Derived.Test.YtlplemdmegpoeaaGreatDoorB1
import Derived.Laws.BitsAllLaws
import Derived.Lib.AppendZeros
import Derived.Laws.MakeOwn
import GoSem.Core.Float
import Derived.KernelRfl
import Derived.ProofKit
import Derived.OpenShut
import Derived.ShutString
import Derived.ChangeOld
import Derived.Below
import Derived.Lib.SmallJoins
import Derived.SizedLaws
import Derived.Maps.RangeRun
import GoSem.Instr.MapEntry
import Derived.Test.YtlplemdmegpoeaaGreatDoorProg
set_option linter.unusedVariables false
set_option linter.defProp false
set_option linter.unusedSimpArgs false
set_option maxHeartbeats 8000000
namespace Go.VC
section
open Go Go.RowKit
variable {P:Program} {R:Cx} {Hs Rest:List HP} {w:World} {s:Sl} {T:TypeId} {n:Nat}
def Wid (n:Nat) (rows:List (List Value)):Prop:=∀ x∈rows,x.length=n
def Wid.nil {n:Nat}:Wid n []:=λ _ h=>by cases h
def Wid.app {n:Nat} {a b:List (List Value)} (h:Wid n a) (d:Wid n b):Wid n (a++b):=λ x o=>(qt.1 o).elim (h x) (d x)
def Wid.one {n:Nat} {x:List Value} (h:x.length=n):Wid n [x]:=λ y a=>by simp at a;rw [a];exact h
def Wid.len {n:Nat}:∀ {rows:List (List Value)},Wid n rows->rows.flatten.length=rows.length * n
 |[],_=>by simp
 |x::rows,h=>by
  rw [jt,qb,h x qq,Wid.len (rows:=rows) (λ y a=>h y (qj _ a)),qr,jA];omega
def Wid.drop_flat {n:Nat}:∀ {rows:List (List Value)} (k:Nat),Wid n rows->rows.flatten.drop (k * n)=(rows.drop k).flatten
 |rows,0,_=>by simp
 |[],k + 1,_=>by simp
 |x::rows,k + 1,h=>by
  have a:=h x qq;rw [jt,um,<-Wid.drop_flat (rows:=rows) k (λ y d=>h y (qj _ d)),zG];have e1:x.drop ((k + 1) * n)=[]:=jg (by rw [a,jA];omega);have e2:(k + 1) * n - x.length=k * n:=by rw [a,jA];omega
  rw [e1,e2,jr]
def Wid.take_flat {n:Nat} {rows:List (List Value)} (k:Nat) (h:Wid n rows):rows.flatten.take (k * n)=(rows.take k).flatten:=by
 by_cases hk:k<=rows.length
 ·have e:rows.flatten=(rows.take k).flatten++(rows.drop k).flatten:=by rw [<-ja,qD]
  rw [e,j7];rw [Wid.len (λ x a=>h x (qw a)),qd,q7 hk]
 ·rw [qg (by rw [h.len];exact qL _ (by omega)),qg (by omega)]
def Wid.take {n k:Nat} {rows:List (List Value)} (h:Wid n rows):Wid n (rows.take k):=λ x a=>h x (qw a)
def Wid.drop {n k:Nat} {rows:List (List Value)} (h:Wid n rows):Wid n (rows.drop k):=λ x a=>h x (jn a)
def Wid.set {n k:Nat} {rows:List (List Value)} {x:List Value} (h:Wid n rows) (d:x.length=n):Wid n (rows.set k x):=λ y a=>by
 rcases List.mem_or_eq_of_mem_set a with a|rfl
 ·exact h y a
 ·exact d
def Pre.app:∀ {vs a:List Value} (b:List Value),Pre vs a->Pre vs (a++b)
 |[],_,_,_=>trivial
 |_::_,_::_,b,h=>⟨h.1,Pre.app b h.2⟩
 |_::_,[],_,h=>h.elim
def Pre.len:∀ {vs a:List Value},Pre vs a->vs.length<=a.length
 |[],_,_=>jB _
 |_::_,_::_,h=>by simp only [qr];exact Nat.succ_le_succ (Pre.len h.2)
 |_::_,[],h=>h.elim
def Wid.pre {n k j:Nat} {rows:List (List Value)} (rest:List Value) (h:Wid n rows) (hk:k<rows.length) {vs:List Value} (d:Pre vs (rows[k].drop j)):Pre vs ((rows.flatten++rest).drop (k * n + j)):=by
 cases vs with
 |nil=>trivial
 |cons v vs=>
  have hj:j<rows[k].length:=by
   have:=Pre.len d;simp only [qr,qx] at this;omega
  have o:rows[k].length=n:=h _ (qh _);have a:k * n + j<=rows.flatten.length:=by
   rw [h.len];have:(k + 1) * n<=rows.length * n:=qL _ (by omega);rw [jA] at this;omega
  rw [uh a,uw (k * n) j,<-jE];rw [uw] at a;rw [jE,uw j,<-jE,h.drop_flat,qv hk,jt,uh (by omega),qn];exact d.app _
def Zjn {n:Nat}:∀ {rows:List (List Value)} {k j:Nat} (v:Value),Wid n rows->(hk:k<rows.length)->j<n->rows.flatten.set (k * n + j) v=(rows.set k (rows[k].set j v)).flatten
 |[],k,j,v,_,hk,_=>by simp at hk
 |x::rows,0,j,v,h,_,hj=>by
  have a:=h x qq;simp only [zA,jb,jt,vh,List.set_cons_zero];rw [vw _ _ (by omega)]
 |x::rows,k + 1,j,v,h,hk,hj=>by
  have a:=h x qq;have d:k<rows.length:=by simpa using hk
  simp only [jt,vT,zu];rw [List.set_append_right _ _ (by rw [a,jA];omega)];have e:(k + 1) * n + j - x.length=k * n + j:=by rw [a,jA];omega
  rw [e,Zjn v (λ y o=>h y (qj _ o)) d hj]
def ZgT {n:Nat} {rest:List Value}:∀ (vs:List Value) {rows:List (List Value)} {k j:Nat},Wid n rows->(hk:k<rows.length)->j + vs.length<=n->
  Vz (rows.flatten++rest) (k * n + j) vs=(rows.set k (Vz rows[k] j vs)).flatten++rest
 |[],rows,k,j,_,hk,_=>by simp [Vz]
 |v::vs,rows,k,j,h,hk,hj=>by
  simp only [qr] at hj;have a:k * n + j<rows.flatten.length:=by
   rw [h.len];have:(k + 1) * n<=rows.length * n:=qL _ (by omega);rw [jA] at this;omega
  rw [Vz,vw _ _ a,Zjn v h hk (by omega),jL,ZgT vs (h.set (by rw [jd];exact h _ (qh _))) (by simpa using hk) (by omega)];simp [Vz]
def Zn (n:Nat) (s:Sl) (T:TypeId) (rows:List (List Value)):HP:=λ h=>
 Wid n rows/\((s=⟨none,0,0⟩/\rows=[]/\h=Z0.none)\/
  ∃ b rest fr cap,s=⟨some ⟨b,0,none⟩,rows.length,cap⟩/\(rows.flatten++rest).length=cap * n/\Zio (cap * n) fr/\h=Z0.one b (.cells (rows.flatten++rest).toArray T fr))
def Zn.nil (h:Sat R Hs w):Sat R (Zn n ⟨none,0,0⟩ T []::Hs) w:=
 ⟨Z0.none,⟨Wid.nil,.inl ⟨rfl,rfl,rfl⟩⟩,λ i hi=>absurd rfl hi,by rw [Cx.add_none];exact h⟩
def Zn.of_pts {b cap:Nat} {fr:Nat × Nat} {rows:List (List Value)} {rest:List Value} (d:Wid n rows) (hl:(rows.flatten++rest).length=cap * n) (h:Sat R (pts b (.cells (rows.flatten++rest).toArray T fr)::Hs) w)
  (o:Zio (cap * n) fr:=by first|assumption|exact zT rfl):Sat R (Zn n ⟨some ⟨b,0,none⟩,rows.length,cap⟩ T rows::Hs) w:=
 let ⟨a,i,hd,hs⟩:=h;⟨a,⟨d,.inr ⟨b,rest,fr,cap,rfl,hl,o,i⟩⟩,hd,hs⟩
def Zn.cases {rows:List (List Value)} (h:Sat R (Zn n s T rows::Hs) w):Wid n rows/\
  ((s=⟨none,0,0⟩/\rows=[]/\Sat R Hs w)\/∃ b rest fr cap,s=⟨some ⟨b,0,none⟩,rows.length,cap⟩/\(rows.flatten++rest).length=cap * n/\Zio (cap * n) fr/\Sat R (pts b (.cells (rows.flatten++rest).toArray T fr)::Hs) w):=by
 obtain ⟨a,⟨d,i⟩,hd,hs⟩:=h;refine ⟨d,?_⟩;rcases i with ⟨o,u,rfl⟩|⟨b,rest,fr,cap,o,v,y,rfl⟩
 ·rw [Cx.add_none] at hs;exact .inl ⟨o,u,hs⟩
 ·exact .inr ⟨b,rest,fr,cap,o,v,y,_,rfl,hd,hs⟩
def Zn.wid {rows:List (List Value)} (h:Sat R (Zn n s T rows::Hs) w):Wid n rows:=(Zn.cases h).1
def Zn.len {rows:List (List Value)} (h:Sat R (Zn n s T rows::Hs) w):s.len=rows.length:=by
 rcases (Zn.cases h).2 with ⟨rfl,rfl,_⟩|⟨b,rest,fr,cap,rfl,_,_⟩<;>rfl
def Zn.cap {rows:List (List Value)} (d:0<n) (h:Sat R (Zn n s T rows::Hs) w):s.len<=s.cap:=by
 have a:=(Zn.cases h).1;rcases (Zn.cases h).2 with ⟨rfl,rfl,_⟩|⟨b,rest,fr,cap,rfl,hl,_⟩
 ·exact jc _
 ·rw [qb,a.len] at hl
  simp only;have:rows.length * n<=cap * n:=by omega
  exact uy this d
def VG (n:Nat) (s:Sl) (rows:List (List Value)) (S:World->Prop):Prop:=
 s.len=rows.length/\∀ k (hk:k<rows.length),∃ b off,s.a=some ⟨b,off,none⟩/\∀ j vs,Pre vs (rows[k].drop j)->At S ⟨b,off + (k * n + j),none⟩ vs
def Zn.reads {rows:List (List Value)} (o:Sat R (Zn n s T rows::Hs) w) {S:World->Prop} {Hs'} (hS:∀ w,S w->Sat R (Zn n s T rows::Hs') w):VG n s rows S:=by
 refine ⟨Zn.len o,λ k hk=>?_⟩;obtain ⟨d,⟨_,rfl,_⟩|⟨b,rest,fr,cap,rfl,hl,_,_⟩⟩:=Zn.cases o
 ·simp at hk
 ·refine ⟨b,0,rfl,λ j vs z w o i v g=>?_⟩
  obtain ⟨_,⟨l,_,_⟩|⟨b',a,m,u,y,_,_,h⟩⟩:=Zn.cases (hS w o)
  ·cases l
  ·simp only [Sl.mk.injEq,qM,Addr.mk.injEq,vv] at y
   obtain ⟨rfl,_⟩:=y;have:=(Wid.pre a d hk z).get i v g;rw [List.getElem?_drop] at this;rw [Zs,jb,Yy h.at,this]
def Zn.readsT {rows:List (List Value)} {S:World->Prop} {Hs':List HP} (d:Sat R Hs w) (t:ZaN (Zn n s T rows) Hs Rest) {a:List HP} (hS:∀ w,S w->Sat R Hs' w) (t':ZaN (Zn n s T rows) Hs' a):VG n s rows S:=
 Zn.reads (d.perm t.perm) λ w h=>(hS w h).perm t'.perm
def VG.rng {S:World->Prop} {rows:List (List Value)} (h:VG n s rows S) {k:Nat} (hk:k<rows.length) {F:Addr->Prop} (f:∀ b off,s.a=some ⟨b,off,none⟩->(∀ j vs,Pre vs (rows[k].drop j)->At S ⟨b,off + (k * n + j),none⟩ vs)->F ⟨b,off,none⟩):
  Rng (k:Int) s.len (Zb s.a F):=by
 obtain ⟨b,off,o,d⟩:=h.2 k hk;have:=h.1;exact Rng.mk (by omega) (by omega) (Zb.mk o (f b off o d))
def ZfA (b off k n j:Nat):(⟨(Addr.add ⟨b,off,none⟩ (YQ k n)).block,(Addr.add ⟨b,off,none⟩ (YQ k n)).off + j,none⟩:Addr)=⟨b,off + (k * n + j),none⟩:=by
 rw [Zs,Za4];simp only [Addr.mk.injEq,vv,zi];omega
def Zc8 (b off k n:Nat):Addr.add ⟨b,off,none⟩ (YQ k n)=⟨b,off + (k * n + 0),none⟩:=by
 rw [Zs,Za4];rfl
def Zn.store {rows:List (List Value)} {t:TypeId} {v:Value} {k j b off:Nat} {K:World->Prop} (l:Sat R (Zn n s T rows::Hs) w) (i:s.a=some ⟨b,off,none⟩) (u:(P.info? t).map (·.size)=some v.cells.toList.length) (m:ZN v.cells.toList=true)
  (hk:k<rows.length) (hj:j + v.cells.toList.length<=n) (h:∀ w',Sat R (Zn n s T (rows.set k (Vz rows[k] j v.cells.toList))::Hs) w'->K w'):
  ∃ w',(Instr.storeAt t (.pointer (some ⟨b,off + (k * n + j),none⟩)) v).run P w=.ok () w'/\K w':=by
 obtain ⟨d,⟨rfl,_,_⟩|⟨b',rest,fr,cap,rfl,hl,p,q⟩⟩:=Zn.cases l
 ·cases i
 ·simp only [qM,Addr.mk.injEq,vv] at i
  obtain ⟨rfl,rfl⟩:=i;have y:(k + 1) * n<=rows.length * n:=qL _ (by omega);rw [jA] at y;have z:=hl;rw [qb,d.len] at z;rw [jb];refine ZO q u m (by rw [qb,d.len];omega) (λ w' g=>h w' ?_) (by rw [hl];exact p);rw [ZgT _ d hk hj] at g;have o:(Vz rows[k] j v.cells.toList).length=n:=by rw [XR];exact d _ (qh _)
  have:=Zn.of_pts (cap:=cap) (d.set o) (by rw [<-hl,qb,qb,(d.set o).len,jd,d.len]) g;rw [jd] at this;exact this
structure RoN (n:Nat) (R:Cx) (s:Sl) (rows:List (List Value)):Prop where
 wid:Wid n rows
 len:s.len=rows.length
 mem:rows≠[]->∃ b off l T fr,s.a=some ⟨b,off,none⟩/\R.m b=some (.cells l T fr)/\∀ (i:Nat) v,rows.flatten[i]? =some v->l[off + i]? =some v
def RoN.reads {rows:List (List Value)} (a:RoN n R s rows) {S:World->Prop} {Hs'} (hS:∀ w,S w->Sat R Hs' w):VG n s rows S:=by
 refine ⟨a.len,λ k hk=>?_⟩;obtain ⟨b,off,l,T,fr,o,u,hl⟩:=a.mem (λ h=>by rw [h] at hk;simp at hk);refine ⟨b,off,o,λ j vs y w z i v g=>?_⟩;have d:=(Wid.pre [] a.wid hk y).get i v g;rw [jl,List.getElem?_drop] at d;have:=(hS w z).of_ro u;rw [Zs];simp only [World.cell?,this,jN,qy,jq];rw [jL];exact hl _ _ d
def Zn.lend {rows:List (List Value)} (h:Sat R (Zn n s T rows::Hs) w):
  ∃ R':Cx,RoN n R' s rows/\(∃ x,R'=R.add x)/\Sat R' Hs w/\∀ {Hs' w'},Sat R' Hs' w'->Sat R (Zn n s T rows::Hs') w':=by
 obtain ⟨a,⟨rfl,rfl,d⟩|⟨b,rest,fr,cap,rfl,hl,z,d⟩⟩:=Zn.cases h
 ·exact ⟨R,⟨a,rfl,λ h=>absurd rfl h⟩,⟨Z0.none,(Cx.add_none R).symm⟩,d,λ h=>Zn.nil h⟩
 ·obtain ⟨o,u⟩:=Sat.lend.1 d
  refine ⟨_,⟨a,rfl,λ _=>⟨b,0,_,T,fr,rfl,Cx.lent o,λ i v y=>?_⟩⟩,⟨_,rfl⟩,u,λ h=>Zn.of_pts a hl (Sat.lend.2 ⟨o,h⟩)⟩;obtain ⟨hi,rfl⟩:=List.getElem?_eq_some_iff.1 y;simp [List.getElem?_append_left hi]
def RoN.sub {rows:List (List Value)} (u:RoN n R s rows) {l h m:Nat} (g:l<=h) (z:h<=rows.length) (hm:m=l->h=l):RoN n R ⟨X4 s.a l m n,h - l,m - l⟩ ((rows.take h).drop l):=by
 have d:Wid n ((rows.take h).drop l):=u.wid.take.drop;refine ⟨d,by simp;omega,λ y=>?_⟩;have j:l<h:=by
  have:0<((rows.take h).drop l).length:=ve.2 y;simp at this;omega
 obtain ⟨b,off,k,T,fr,p,q,hl⟩:=u.mem (λ r=>by rw [r] at z;simp at z;omega);refine ⟨b,off + l * n,k,T,fr,?_,q,λ i v o=>?_⟩
 ·unfold X4
  rw [qc (λ e=>by have:=hm e;omega),p];simp [Zs]
 ·rw [jL]
  refine hl _ _ ?_;have e1:((rows.take h).drop l).flatten=(rows.flatten.take (h * n)).drop (l * n):=by
   rw [u.wid.take_flat,u.wid.take.drop_flat]
  rw [e1,List.getElem?_drop] at o;rw [List.getElem?_take] at o;split at o
  ·exact o
  ·cases o
def RoN.take {rows:List (List Value)} (o:RoN n R s rows) {h:Nat} (k:h<=rows.length) (c:Nat):RoN n R ⟨s.a,h,c⟩ (rows.take h):=
 ⟨o.wid.take,by simp;omega,λ u=>by
  obtain ⟨b,off,y,T,fr,z,g,hl⟩:=o.mem (λ j=>u (by rw [j];simp));refine ⟨b,off,y,T,fr,z,g,λ i v d=>hl _ _ ?_⟩;rw [<-o.wid.take_flat,List.getElem?_take] at d;split at d
  ·exact d
  ·cases d⟩
def Zva (P:Program) (T:TypeId) (n bytes:Nat):Bool:=
 match P.info? T with
 |some i=>match i.zero with
  |some z=>i.size==n && i.bytes==bytes && z.cells.size==n
  |none=>false
 |none=>false
structure ElN (P:Program) (t1 t2 T:TypeId) (n bytes:Nat):Prop where
 ht:P.underlying t1=some (.slice T)
 hk:∃ e',P.underlying t2=some (.slice e')
 hi:Zva P T n bytes=true
def ZfB {P:Program} {T:TypeId} {n bytes:Nat} (h:Zva P T n bytes=true):∃ i z,P.info? T=some i/\i.zero=some z/\i.size=n/\i.bytes=bytes/\z.cells.size=n:=by
 unfold Zva at h;split at h
 ·rename_i i hi
  split at h
  ·rename_i z hz
   simp only [ql,jh] at h;exact ⟨i,z,hi,hz,h.1.1,h.1.2,h.2⟩
  ·cases h
 ·cases h
def ZY {t1 t2 ty:TypeId} {bytes:Nat} (E:ElN P t1 t2 T n bytes) {rows ys:List (List Value)} {v:Value} {K:Sl->World->Prop}
  (x:Sat R (Zn n s T rows::Hs) w) (hs:Src P n t2 v ys.length ys.flatten w) (C:Wid n ys) (hb:2 * (rows.length + ys.length) * bytes<=281474976710656) (h1:rows.length + ys.length<=9223372036854775807)
  (k:∀ B w',Sat R (Zn n B T (rows++ys)::Hs) w'->K B w'):
  ∃ w',∃ t:Sl,(Builtin.append_ #[t1,t2] ty #[.slice s.a s.len s.cap,v]).run P w=.ok (.slice t.a t.len t.cap) w'/\K t w':=by
 obtain ⟨i,z,hi,hz,h,l,L⟩:=ZfB E.hi;have m:Src P i.size t2 v ys.length ys.flatten w:=by rw [h];exact hs
 have h0:=Zn.len x;have o:=Zn.wid x;have d:=o.app C;generalize y:ys.length=c at *;have fit:∀ cap,cap<rows.length + c->Builtin.nextslicecap (rows.length + c) cap * i.bytes<=281474976710656:=λ cap H=>by
  have I:Builtin.nextslicecap (rows.length + c) cap<=2 * (rows.length + c):=by
   unfold Builtin.nextslicecap;split
   ·omega
   ·split
    ·omega
    ·have:=nextslicecap_le_wide H
     unfold Builtin.nextslicecap at this;rw [qc (by assumption),qc (by assumption)] at this;omega
  rw [l];exact jf (qL _ I) hb
 -- a new row
 have grow:∀ (base:Option Addr) (cap:Nat),cap<rows.length + c->(Builtin.firstCells i.size rows.length (.slice base rows.length cap)).run P w.drew=.ok rows.flatten.toArray w.drew->Sat R Hs w->
   ∃ w',∃ t:Sl,(Builtin.append_ #[t1,t2] ty #[.slice base rows.length cap,v]).run P w=.ok (.slice t.a t.len t.cap) w'/\K t w':=λ base cap H hold x=>by
  have M:=run_append_grow_src w t1 t2 ty T i z E.ht hi hz base rows.length cap rows.flatten hold v c ys.flatten m H (by omega) (fit cap H);refine ⟨_,⟨some ⟨w.heap.size,0,none⟩,rows.length + c,grownCap w (rows.length + c) cap T⟩,M,k _ _ ?_⟩;have N:(Builtin.zeroCells z.cells (grownCap w (rows.length + c) cap T - (rows.length + c))).size=(grownCap w (rows.length + c) cap T - (rows.length + c)) * n:=by
   simp [Builtin.zeroCells,L]
  have hg:=grownCap_ge w (rows.length + c) cap T;generalize hG:grownCap w (rows.length + c) cap T=G at *;have O:Obj.cells ((rows.flatten++ys.flatten).toArray++Builtin.zeroCells z.cells (G - (rows.length + c))) T=.cells ((rows++ys).flatten++(Builtin.zeroCells z.cells (G - (rows.length + c))).toList).toArray T (0,0):=by
   congr 1
   apply vd;simp
  have:=Sat.alloc (Obj.cells ((rows.flatten++ys.flatten).toArray++Builtin.zeroCells z.cells (G - (rows.length + c))) T) (Sat.drew x);rw [O] at this ⊢;have q:((rows++ys).flatten++(Builtin.zeroCells z.cells (G - (rows.length + c))).toList).length=G * n:=by
   have Q:(Builtin.zeroCells z.cells (G - (rows.length + c))).toList.length=(G - (rows.length + c)) * n:=by rw [jw];exact N
   rw [qb,Q,d.len,qb,y,<-jA]
   congr 1;omega
  have f:=Zn.of_pts (cap:=G) d q this;have e:(⟨some ⟨w.drew.heap.size,0,none⟩,(rows++ys).length,G⟩:Sl)=⟨some ⟨w.heap.size,0,none⟩,rows.length + c,G⟩:=by
   simp only [qb,World.size_drew,y]
  rw [e] at f;exact f
 obtain ⟨_,⟨rfl,rfl,A⟩|⟨b,rest,fr,cap,rfl,hl,U,J⟩⟩:=Zn.cases x
 ·by_cases V:c=0
  ·subst V
   have W:ys=[]:=jO.1 y;subst W;obtain ⟨e',X⟩:=E.hk;refine ⟨w,⟨none,0,0⟩,?_,k _ _ (by simpa using Zn.nil A)⟩;have Y:=m.cells;simp [Builtin.append_,run_underlying E.ht,run_underlying X,sizeOf,typeInfo,hi,m.len,Y]
  ·exact grow none 0 (by simp;omega) (run_firstCells_none w.drew i.size 0 0 0) A
 ·have D:=hl
  rw [qb,o.len] at hl;by_cases g:rows.length + c<=cap
  ·have p:=J.at
   have r:(rows.length + c) * n<=cap * n:=qL _ g;rw [jA] at r;have F:ys.flatten.length=c * n:=by rw [C.len,y]
   have M:=run_append_room_src w t1 t2 ty T i E.ht hi b 0 rows.length cap v c ys.flatten m g
    (λ j hj=>by
     rw [Yy p,h,List.getElem?_eq_getElem (by rw [D];omega)];rfl) (λ j hj=>Vi p U (by rw [h];omega))
   refine ⟨_,⟨some ⟨b,0,none⟩,rows.length + c,cap⟩,M,k _ _ ?_⟩;have I:=Y7 ys.flatten (rows.flatten++rest) (rows.length * n) w J;have e1:Vz (rows.flatten++rest) (rows.length * n) ys.flatten=(rows++ys).flatten++rest.drop (c * n):=by
    rw [GF _ _ _ (by rw [F,D];omega),j7 o.len,F,<-jE,uj o.len];simp
   rw [e1] at I;rw [h,jb];have f:=Zn.of_pts (cap:=cap) d (by rw [qb,d.len,qb,y,qx,jA];omega) I;rw [qb,y] at f;exact f
  ·have p:=J.at
   refine grow (some ⟨b,0,none⟩) cap (by omega) ?_ J.drop;refine run_firstCells_some w.drew i.size rows.length ⟨b,0,none⟩ rows.length _ rows.flatten (by rw [h,o.len]) ?_;intro j u hj;rw [World.cell?_drew,Zs,Yy p,jb];obtain ⟨S,rfl⟩:=List.getElem?_eq_some_iff.1 hj;simp [List.getElem?_append_left S]
def Gh {t2:TypeId} (hk:∃ e',P.underlying t2=some (.slice e')) {b:Nat} {x:List Value} {fr:Nat × Nat} (c:Nat)
  (d:Sat R Hs w) [t:VM b Hs (.cells x.toArray T fr) Rest] (o:x.length=n) (i:ZN x=true):Src P n t2 (.slice (some ⟨b,0,none⟩) 1 c) [x].length [x].flatten w:=by
 obtain ⟨e',h⟩:=hk;refine Go.Src.ofSlice w h _ 1 c _ (by simp [o]) ?_ ?_
 ·intro j u hj
  have:=d.look b;rw [Zs,Yy this];simpa using hj
 ·intro u a;simp at a;exact qW.1 i u a
def Vv {t2:TypeId} (ht:∃ e',P.underlying t2=some (.slice e')) {rows:List (List Value)} (v:Sat R Hs w) (hs:RoN n R s rows) (y:ZN rows.flatten=true):Src P n t2 (.slice s.a s.len s.cap) rows.length rows.flatten w:=by
 obtain ⟨e',ht⟩:=ht;have hl:s.len=rows.length:=hs.len;by_cases o:rows=[]
 ·subst o
  obtain ⟨a,n,c⟩:=s;simp only [qN] at hl;subst hl;cases a with
  |none=>exact Go.Src.ofNil _ ht _
  |some a=>exact Go.Src.ofSlice w ht _ 0 _ [] (by simp) (λ j u hj=>by simp at hj) (λ u h=>by cases h)
 ·obtain ⟨b,off,l,T,fr,i,z,d⟩:=hs.mem o
  obtain ⟨a,n,c⟩:=s;simp only at i hl;subst i hl;refine Go.Src.ofSlice w ht _ _ _ _ (by rw [hs.wid.len]) (λ j u hj=>?_) (λ u h=>qW.1 y u h);rw [Zs];have:=v.of_ro z;simp only [World.cell?,this,jN,qy,jq];exact d j u hj
def UX {t1 t2 ty u:TypeId} {bytes:Nat} (E:ElN P t1 t2 T n bytes) {rows:List (List Value)} {x:List Value} {K:Sl->World->Prop}
  (d:Sat R (Zn n s T rows::Hs) w) (v:x.length=n) (y:ZN x=true) (z:2 * (rows.length + 1) * bytes<=281474976710656) (i:rows.length + 1<=9223372036854775807)
  (k:∀ o w',Sat R (Zn n o T (rows++[x])::Hs) w'->K o w'):
  New (.cells x.toArray u (0,0)) (λ b w=>∃ w',∃ t:Sl,(Builtin.append_ #[t1,t2] ty #[.slice s.a s.len s.cap,.slice (some ⟨b,0,none⟩) 1 1]).run P w=.ok (.slice t.a t.len t.cap) w'/\K t w') w:=by
 refine Za d λ b w d=>?_;have d:Sat R (pts b (.cells x.toArray u (0,0))::Zn n s T rows::Hs) w:=d;exact ZY E d.swap (Gh E.hk 1 d v y) (Wid.one v) z i λ o w' h=>k o w' h.swap.drop
def Zn.empty {b:Nat} {fr:Nat × Nat} (h:Sat R (pts b (.cells #[] T fr)::Hs) w):Sat R (Zn n ⟨some ⟨b,0,none⟩,0,0⟩ T []::Hs) w:=
 Zn.of_pts (rows:=[]) (rest:=[]) (cap:=0) Wid.nil (by simp) h (.inr (by simp))
def Xd {t1 t2 ty:TypeId} {bytes b:Nat} {fr:Nat × Nat} (E:ElN P t1 t2 T n bytes) {ys:List (List Value)} {h:Value} {K:Sl->World->Prop}
  (i:Sat R Hs w) [tk:VM b Hs (.cells ([]:List Value).toArray T fr) Rest] (hs:Src P n t2 h ys.length ys.flatten w) (u:Wid n ys) (v:2 * ys.length * bytes<=281474976710656) (d:ys.length<=9223372036854775807)
  (k:∀ o w',Sat R (Zn n o T ys::Rest) w'->K o w'):
  ∃ w',∃ t:Sl,(Builtin.append_ #[t1,t2] ty #[.slice (some ⟨b,0,none⟩) 0 0,h]).run P w=.ok (.slice t.a t.len t.cap) w'/\K t w':=by
 have y:=ZY (ty:=ty) (s:=⟨some ⟨b,0,none⟩,0,0⟩) (K:=K) E (Zn.empty (i.takeP tk)) hs u (by simpa using v) (by simpa using d) (by simpa using k);exact y
def Zbx {t1 t2 ty:TypeId} {bytes b:Nat} {fr:Nat × Nat} (E:El P t1 t2 T bytes) {ys:List Value} {h:Value} {m:Nat} {K:Sl->World->Prop}
  (i:Sat R Hs w) [tk:VM b Hs (.cells ([]:List Value).toArray T fr) Rest] (hs:Src P 1 t2 h m ys w) (u:2 * m * bytes<=281474976710656) (d:m<=9223372036854775807)
  (k:∀ o w',Sat R (Own o T ys::Rest) w'->K o w'):
  ∃ w',∃ t:Sl,(Builtin.append_ #[t1,t2] ty #[.slice (some ⟨b,0,none⟩) 0 0,h]).run P w=.ok (.slice t.a t.len t.cap) w'/\K t w':=by
 have v:Sat R (Own ⟨some ⟨b,0,none⟩,0,0⟩ T []::Rest) w:=Own.of_pts (xs:=[]) (rest:=[]) (i.takeP tk) (.inr (by simp));have y:=XV (ty:=ty) (s:=⟨some ⟨b,0,none⟩,0,0⟩) (K:=K) E v hs rfl (by simpa using u) (by simpa using d) (by simpa using k);exact y
structure Elt (n:Nat) (S:World->Prop) (a:Addr) (k:Nat) (row:List Value):Prop where
 f:∀ (j:Nat) {vs:List Value},Pre vs (row.drop j)->At S ⟨(Addr.add a (YQ (k:Int).toNat n)).block,(Addr.add a (YQ (k:Int).toNat n)).off + j,none⟩ vs
 z:∀ {vs:List Value},Pre vs row->At S (Addr.add a (YQ (k:Int).toNat n)) vs
 zz:∀ {vs:List Value},Pre vs row->At S (Addr.add (Addr.add a (YQ (k:Int).toNat n)) 0) vs
def Zlt (b off k n:Nat):Addr.add (Addr.add ⟨b,off,none⟩ (YQ k n)) 0=⟨b,off + (k * n + 0),none⟩:=by
 rw [Zc8,Zs];rfl
def VG.rngM {α:Type} {E:List α} {g:α->List Value} {S:World->Prop} (h:VG n s (E.map g) S) {k:Nat} (hk:k<E.length) {F:Addr->Prop} (f:∀ a,s.a=some a->Elt n S a k (g E[k])->F a):Rng (k:Int) s.len (Zb s.a F):=by
 have i:(E.map g)[k]'(by simpa using hk)=g E[k]:=by simp
 refine h.rng (k:=k) (by simpa using hk) λ b off u d=>f _ u ⟨λ j vs o=>?_,λ o=>?_,λ o=>?_⟩
 ·rw [qo,ZfA];exact d j _ (by rw [i];exact o)
 ·rw [qo,Zc8];exact d 0 _ (by rw [i];exact o)
 ·rw [qo,Zlt];exact d 0 _ (by rw [i];exact o)
def Zn.readsM {rows:List (List Value)} (a:Sat R Hs w) [t:ZaN (Zn n s T rows) Hs Rest] {S:World->Prop} (hS:∀ w,S w->Sat R Hs w):VG n s rows S:=
 Zn.reads (a.perm t.perm) λ w h=>(hS w h).perm t.perm
def Zn.storeM {α:Type} {E:List α} {g:α->List Value} {t:TypeId} {v:Value} {k:Nat} {a:Addr} {K:World->Prop} (j:Nat) (e':α) (d:Sat R Hs w) [tk:ZaN (Zn n s T (E.map g)) Hs Rest] (o:s.a=some a) (hk:k<E.length)
  (i:(P.info? t).map (·.size)=some v.cells.toList.length) (y:ZN v.cells.toList=true) (hj:j + v.cells.toList.length<=n) (z:Vz (g E[k]) j v.cells.toList=g e')
  (h:∀ w',Sat R (Zn n s T ((E.set k e').map g)::Rest) w'->K w'):
  ∃ w',(Instr.storeAt t (.pointer (some ⟨(Addr.add a (YQ (k:Int).toNat n)).block,(Addr.add a (YQ (k:Int).toNat n)).off + j,none⟩)) v).run P w=.ok () w'/\K w':=by
 have d:=d.perm tk.perm;have l:(E.map g)[k]'(by simpa using hk)=g E[k]:=by simp
 have m:∃ b off,a=⟨b,off,none⟩:=by
  obtain ⟨_,⟨rfl,_,_⟩|⟨b',rest,fr,cap,rfl,hl,p,q⟩⟩:=Zn.cases d
  ·cases o
  ·simp only [qM] at o;exact ⟨b',0,o.symm⟩
 obtain ⟨b,off,rfl⟩:=m;rw [qo,ZfA];refine Zn.store d o i y (by simpa using hk) hj λ w' u=>h w' ?_;rw [l,z] at u;rw [uv];exact u
class Arr (Hs Hs':List HP):Prop where
 perm:Hs.Perm Hs'
instance (priority:=2000) Arr.refl {Hs:List HP}:Arr Hs Hs:=⟨jD _⟩
instance Arr.cons {A:HP} {Hs Rest Hs':List HP} [t:ZaN A Hs Rest] [r:Arr Rest Hs']:Arr Hs (A::Hs'):=⟨t.perm.trans (r.perm.cons A)⟩
def Sat.arr {Hs':List HP} (h:Sat R Hs w) [a:Arr Hs Hs']:Sat R Hs' w:=h.perm a.perm
def Sat.b2 {a d o:HP} (h:Sat R (a::d::o::Hs) w):Sat R (d::o::a::Hs) w:=h.arr
def Sat.b3 {a d o i:HP} (h:Sat R (a::d::o::i::Hs) w):Sat R (d::o::i::a::Hs) w:=h.arr
def Sat.b4 {a d o i u:HP} (h:Sat R (a::d::o::i::u::Hs) w):Sat R (d::o::i::u::a::Hs) w:=h.arr
def Sat.b5 {a d o i u v:HP} (h:Sat R (a::d::o::i::u::v::Hs) w):Sat R (d::o::i::u::v::a::Hs) w:=h.arr
def Sat.b6 {a d o i u v y:HP} (h:Sat R (a::d::o::i::u::v::y::Hs) w):Sat R (d::o::i::u::v::y::a::Hs) w:=h.arr
def Sat.b7 {a d o i u v y z:HP} (h:Sat R (a::d::o::i::u::v::y::z::Hs) w):Sat R (d::o::i::u::v::y::z::a::Hs) w:=h.arr
def Sat.b8 {a d o i u v y z g:HP} (h:Sat R (a::d::o::i::u::v::y::z::g::Hs) w):Sat R (d::o::i::u::v::y::z::g::a::Hs) w:=h.arr
def Sat.m1 {a d:HP} (h:Sat R (a::d::Hs) w):Sat R (d::a::Hs) w:=h.arr
def Sat.m10 {d o i u v y z g j k a:HP} (h:Sat R (d::o::i::u::v::y::z::g::j::k::a::Hs) w):Sat R (a::d::o::i::u::v::y::z::g::j::k::Hs) w:=h.arr
def Sat.m11 {o i u v y z g j k l a d:HP} (h:Sat R (o::i::u::v::y::z::g::j::k::l::a::d::Hs) w):Sat R (d::o::i::u::v::y::z::g::j::k::l::a::Hs) w:=h.arr
def Sat.m12 {i u v y z g j k l m a d o:HP} (h:Sat R (i::u::v::y::z::g::j::k::l::m::a::d::o::Hs) w):Sat R (o::i::u::v::y::z::g::j::k::l::m::a::d::Hs) w:=h.arr
def Sat.m2 {a d o:HP} (h:Sat R (a::d::o::Hs) w):Sat R (o::a::d::Hs) w:=h.arr
def Sat.m3 {a d o i:HP} (h:Sat R (a::d::o::i::Hs) w):Sat R (i::a::d::o::Hs) w:=h.arr
def Sat.m4 {a d o i u:HP} (h:Sat R (a::d::o::i::u::Hs) w):Sat R (u::a::d::o::i::Hs) w:=h.arr
def Sat.m5 {a d o i u v:HP} (h:Sat R (a::d::o::i::u::v::Hs) w):Sat R (v::a::d::o::i::u::Hs) w:=h.arr
def Sat.m6 {a d o i u v y:HP} (h:Sat R (a::d::o::i::u::v::y::Hs) w):Sat R (y::a::d::o::i::u::v::Hs) w:=h.arr
def Sat.m7 {a d o i u v y z:HP} (h:Sat R (a::d::o::i::u::v::y::z::Hs) w):Sat R (z::a::d::o::i::u::v::y::Hs) w:=h.arr
def Sat.m8 {a d o i u v y z g:HP} (h:Sat R (a::d::o::i::u::v::y::z::g::Hs) w):Sat R (g::a::d::o::i::u::v::y::z::Hs) w:=h.arr
def Sat.m9 {a d o i u v y z g j:HP} (h:Sat R (a::d::o::i::u::v::y::z::g::j::Hs) w):Sat R (j::a::d::o::i::u::v::y::z::g::Hs) w:=h.arr
def Br.d {p:Prop} {a:Decidable p} {A B:Prop} (h:p->A) (h':¬ p->B):Br (@decide p a) A B:=Br.mk (λ e=>h (qF e)) (λ e=>h' (qQ e))
def Br.nd {p:Prop} {a:Decidable p} {A B:Prop} (h:¬ p->A) (h':p->B):Br (!@decide p a) A B:=Br.mk (λ e=>h (by simpa using e)) (λ e=>h' (by simpa using e))
def Br.e {x y:Int} {A B:Prop} (h:x=y->A) (h':¬ x=y->B):Br (x==y) A B:=Br.mk (λ e=>h (by simpa using e)) (λ e=>h' (by simpa using e))
def Br.ne {x y:Int} {A B:Prop} (h:¬ x=y->A) (h':x=y->B):Br (x !=y) A B:=Br.mk (λ e=>h (by simpa using e)) (λ e=>h' (by simpa using e))
def Br.nb {b:Bool} {A B:Prop} (h:b=false->A) (h':b=true->B):Br (!b) A B:=Br.mk (λ e=>h (by simpa using e)) (λ e=>h' (by simpa using e))
def ZhY (a b:ByteArray):(a.toList==b.toList)=decide (a=b):=by
 rw [ByteArray.toList_eq,ByteArray.toList_eq];by_cases h:a=b
 ·simp [h]
 ·have:a.data≠b.data:=λ d=>h (by cases a;cases b;simp_all)
  simp [h,this]
def Br.se {x y:ByteArray} {A B:Prop} (h:x=y->A) (h':¬ x=y->B):Br (x.toList==y.toList) A B:=by rw [ZhY];exact Br.d h h'
def Br.sne {x y:ByteArray} {A B:Prop} (h:¬ x=y->A) (h':x=y->B):Br (!(x.toList==y.toList)) A B:=by rw [ZhY];exact Br.nd h h'
end
def Zf3 {x:Int} (h:0<=x) (a:x<256):IntKind.u8.wrap x=x:=by rw [IntKind.wrap_u8'];omega
def Zq2 (x:Int):IntKind.u8.wrap x=x % 256:=IntKind.wrap_u8' x
def ZM {x:Int} (h : 0<=x := by omega) (h1 : x<18446744073709551616 := by omega):IntKind.u64.wrap x=x:=by rw [IntKind.wrap_u64];omega
def Ge (n x:Nat) (h:x<2 ^ n):(BitVec.ofInt n (x:Int)).toNat=x:=by
 rw [BitVec.toNat_ofInt];have:((x:Int) % (2 ^ n:Nat))=x:=vU (by omega) (by exact_mod_cast h);rw [this];rfl
def ZuS {x y:Nat} (h:x<18446744073709551616) (a:y<18446744073709551616):ZaH .or .u64 x y=((x|||y:Nat):Int):=by
 have e:(BitVec.ofInt 64 (x:Int)|||BitVec.ofInt 64 (y:Int)).toNat=x|||y:=by rw [BitVec.toNat_or,Ge 64 x h,Ge 64 y a]
 show IntKind.u64.wrap (((BitVec.ofInt 64 (x:Int)|||BitVec.ofInt 64 (y:Int)).toNat:Nat):Int)=_;rw [e];have:x|||y<18446744073709551616:=Nat.or_lt_two_pow (n:=64) h a
 exact ZM
def ZqU {x y:Nat} (a:x<18446744073709551616) (h:y<18446744073709551616):ZaH .and .u64 x y=((x &&& y:Nat):Int):=by
 have e:(BitVec.ofInt 64 (x:Int) &&& BitVec.ofInt 64 (y:Int)).toNat=x &&& y:=by rw [zH,Ge 64 x a,Ge 64 y h]
 show IntKind.u64.wrap (((BitVec.ofInt 64 (x:Int) &&& BitVec.ofInt 64 (y:Int)).toNat:Nat):Int)=_;rw [e];have:x &&& y<18446744073709551616:=Nat.and_lt_two_pow (n:=64) x h;exact ZM
def Zrx (x y:Nat) (h:y<256):x * 256|||y=x * 256 + y:=by
 have:=ux (i:=8) (b:=y) (by omega) x;rw [jX] at this;exact this.symm
section
variable {P:Program} {R:Cx} {Hs Rest:List HP} {w:World} {s:Sl}
structure SlR (h:Z0) (s:Sl) (xs:List Value):Prop where
 len:s.len=xs.length
 cap:s.len<=s.cap
 mem:xs≠[]->∃ b off l T fr,s.a=some ⟨b,off,none⟩/\h b=some (.cells l T fr)/\∀ (i:Nat) v,xs[i]? =some v->l[off + i]? =some v
def Zv (s:Sl) (xs:List Value):HP:=λ h=>SlR h s xs
def SlR.addR {h h':Z0} {xs:List Value} (hd:h'.dis h) (a:SlR h s xs):SlR (h'.add h) s xs:=
 ⟨a.len,a.cap,λ o=>let ⟨b,off,l,T,fr,i,d,hl⟩:=a.mem o;⟨b,off,l,T,fr,i,by
  simp only [Z0.add,hd b (by rw [d];simp)];exact d,hl⟩⟩
def SlR.ro {xs:List Value} (a:SlR R.m s xs) (h:xs.length<=9223372036854775807 := by rw [qa];omega):Ro R s xs:=
 ⟨a.len,h,a.mem⟩
def SlR.take {h:Z0} {xs:List Value} (a:SlR h s xs) {k:Nat} (hk:k<=xs.length):SlR h ⟨s.a,k,s.cap⟩ (xs.take k):=
 ⟨by simp;omega,by have:=a.len;have:=a.cap;simp only;omega,λ o=>by
  obtain ⟨b,off,l,T,fr,u,y,hl⟩:=a.mem (λ z=>o (by rw [z];simp));refine ⟨b,off,l,T,fr,u,y,λ i v d=>hl i v ?_⟩;rw [List.getElem?_take] at d;split at d
  ·exact d
  ·cases d⟩
def SlR.drop {h:Z0} {xs:List Value} (a:SlR h s xs) {k:Nat} (hk:k<=xs.length):SlR h ⟨X4 s.a k s.cap 1,s.len - k,s.cap - k⟩ (xs.drop k):=by
 have o:=a.len;have u:=a.cap;refine ⟨by simp;omega,by simp only;omega,λ y=>?_⟩;obtain ⟨b,off,l,T,fr,g,j,hl⟩:=a.mem (λ m=>y (by rw [m];simp));have d:0<(xs.drop k).length:=ve.2 y;rw [qx] at d;refine ⟨b,off + k,l,T,fr,?_,j,λ i v z=>?_⟩
 ·unfold X4
  rw [qc (by omega),g];simp [Zs]
 ·rw [List.getElem?_drop] at z
  rw [jL];exact hl _ _ z
def Zv.lend {xs:List Value} (h:Sat R (Zv s xs::Hs) w):∃ x:Z0,R.dis x/\SlR (R.add x).m s xs/\Sat (R.add x) Hs w/\SlR x s xs:=by
 obtain ⟨x,a,hd,hs⟩:=h;exact ⟨x,hd,SlR.addR hd a,hs,a⟩
def Zv.back {xs:List Value} {x:Z0} (hd:R.dis x) (a:SlR x s xs) (h:Sat (R.add x) Hs w):Sat R (Zv s xs::Hs) w:=⟨x,a,hd,h⟩
def Own.reads {T:TypeId} {xs:List Value} (h:Sat R (Own s T xs::Hs) w):Sat R (Zv s xs::Hs) w:=by
 rcases Own.cases h with ⟨rfl,rfl,d⟩|⟨b,rest,fr,rfl,y,d⟩
 ·exact ⟨Z0.none,⟨rfl,jc _,λ h=>absurd rfl h⟩,λ i hi=>absurd rfl hi,by rw [Cx.add_none];exact d⟩
 ·obtain ⟨a,o,hd,hs⟩:=d
  refine ⟨a,⟨rfl,by simp,λ _=>⟨b,0,(xs++rest).toArray,T,fr,rfl,by rw [o];simp [Z0.one],λ i v u=>?_⟩⟩,hd,hs⟩;obtain ⟨hi,rfl⟩:=List.getElem?_eq_some_iff.1 u;simp [List.getElem?_append_left hi]
def SlR.idxK {u:IntKind} {xs:List Int} {S:World->Prop} (y:SlR R.m s (xs.map (Value.int u))) (hS:∀ w,S w->Sat R Hs w) {k:Nat} (hk:k<xs.length) {F:Int->Prop} (h:F xs[k]):
  Rng (k:Int) s.len (Zb s.a λ a=>∃ t:Int,(At S (a.add (k:Int).toNat) [.int u t])/\F t):=by
 have hl:s.len=xs.length:=by have:=y.len;simpa using this
 obtain ⟨b,off,l,T,fr,g,j,d⟩:=y.mem (by intro z;rw [List.map_eq_nil_iff] at z;rw [z] at hk;simp at hk);refine Rng.mk (by omega) (by omega) (Zb.mk g ⟨xs[k],λ w n i v o=>?_,h⟩);have hi:i=0:=by
  cases i with
  |zero=>rfl
  |succ i=>simp at o
 subst hi;simp only [List.getElem?_cons_zero,qM] at o;subst o;rw [qo,Zs,Zs];have:=(hS w n).of_ro j;simp only [World.cell?,this,jN,qy,jq];exact d k _ (by simp [hk])
end
end Go.VC

namespace Go.VC
section
variable {P:Program} {R:Cx} {Hs Rest:List HP} {w:World} {s t:Sl} {T T2:TypeId}
def U1 (k:IntKind) (xs:List Int):ZN (xs.map (Value.int k))=true:=by
 induction xs with
 |nil=>rfl
 |cons x xs ih=>simp only [qi,ZN,List.all_cons,ql];exact ⟨rfl,ih⟩
def YL {b n:Nat} {l:List Value} {fr:Nat × Nat} (h:Sat R (pts b (.cells l.toArray T fr)::Hs) w) (a:n=l.length:=by rfl) (d:Zio l.length fr:=by first|assumption|exact zT rfl):Sat R (Own ⟨some ⟨b,0,none⟩,n,n⟩ T l::Hs) w:=by
 subst a;have:=Own.of_pts (xs:=l) (rest:=[]) (by simpa using h) (by simpa using d);simpa using this
def Ul {t1 t2 ty e':TypeId} {bytes n:Nat} {k:IntKind} (E:El P t1 t2 T bytes) {xs ys:List Int} {K:Sl->World->Prop} (i:P.underlying t2=some (.slice e'))
  (d:Sat R (Own s T (xs.map (Value.int k))::Hs) w) (u:Ro R t (ys.map (Value.int k))) (g:xs.length + ys.length<=n) (j:2 * n * bytes<=281474976710656) (v:n<=9223372036854775807)
  (y:∀ o w',Sat R (Own o T ((xs++ys).map (Value.int k))::Hs) w'->K o w'):
  ∃ w',∃ t':Sl,(Builtin.append_ #[t1,t2] ty #[.slice s.a s.len s.cap,.slice t.a t.len t.cap]).run P w=.ok (.slice t'.a t'.len t'.cap) w'/\K t' w':=by
 have h:Src P 1 t2 (.slice t.a t.len t.cap) ys.length (ys.map (Value.int k)) w:=by
  have:=Zmg i d u (U1 _ _);simpa using this
 refine XV E (s:=s) d h (U1 _ _) ?_ (by rw [qa];omega) λ z w d=>y z w (by simpa using d);rw [qa];have:2 * (xs.length + ys.length) * bytes<=2 * n * bytes:=qL _ (by omega);omega
def YI {t1 t2 ty e':TypeId} {bytes n:Nat} {k:IntKind} (E:El P t1 t2 T bytes) {xs ys:List Int} {K:Sl->World->Prop} (i:P.underlying t2=some (.slice e'))
  (h:Sat R (Own s T (xs.map (Value.int k))::Own t T2 (ys.map (Value.int k))::Hs) w) (u:xs.length + ys.length<=n) (v:2 * n * bytes<=281474976710656) (o:n<=9223372036854775807)
  (y:∀ d w',Sat R (Own d T ((xs++ys).map (Value.int k))::Own t T2 (ys.map (Value.int k))::Hs) w'->K d w'):
  ∃ w',∃ t':Sl,(Builtin.append_ #[t1,t2] ty #[.slice s.a s.len s.cap,.slice t.a t.len t.cap]).run P w=.ok (.slice t'.a t'.len t'.cap) w'/\K t' w':=by
 obtain ⟨R',z,_,h,back⟩:=Own.lend h.swap (by rw [qa];omega);exact Ul E i h z u v o λ d w' h=>y d w' (back h).swap
def Ro.ix {k:IntKind} {xs:List Int} {S:World->Prop} {i:Int} (d:Ro R s (xs.map (Value.int k))) (hS:∀ w,S w->Sat R Hs w) (j:Nat) (hi:i=j) (hj:j<xs.length) {F:Int->Prop} (h:F xs[j]):
  Rng i s.len (Zb s.a λ a=>∃ t:Int,(At S (a.add i.toNat) [.int k t])/\F t):=by
 subst hi;exact d.idxK hS hj h
def SlR.ix {k:IntKind} {xs:List Int} {S:World->Prop} {i:Int} (d:SlR R.m s (xs.map (Value.int k))) (hS:∀ w,S w->Sat R Hs w) (j:Nat) (hi:i=j) (hj:j<xs.length) {F:Int->Prop} (h:F xs[j]):
  Rng i s.len (Zb s.a λ a=>∃ t:Int,(At S (a.add i.toNat) [.int k t])/\F t):=by
 subst hi;exact d.idxK hS hj h
end
section
variable {P:Program} {R R' R'':Cx} {Hs Rest:List HP} {w:World} {s:Sl} {T:TypeId}
structure Cx.Ext (R R':Cx):Prop where
 m:∀ b o,R.m b=some o->R'.m b=some o
 like:R'.like R
def Cx.Ext.refl:R.Ext R:=⟨λ _ _ h=>h,rfl,rfl,rfl⟩
def Cx.Ext.trans (h:R.Ext R') (h':R'.Ext R''):R.Ext R'':=
 ⟨λ b o a=>h'.m b o (h.m b o a),h.like.1.trans h'.like.1,h.like.2.1.trans h'.like.2.1,h.like.2.2.trans h'.like.2.2⟩
def Cx.Ext.add {h:Z0}:R.Ext (R.add h):=⟨λ b o a=>by simp only [Cx.add,Z0.add,a],rfl,rfl,rfl⟩
def Cx.Ext.back (h:R.Ext R') (a:Sat R' Hs w):Sat R Hs w:=Sat.ro_of h.m h.like a
def Cx.Ext.ro {xs:List Value} (h:R.Ext R') (a:Ro R s xs):Ro R' s xs:=
 ⟨a.len,a.bound,λ d=>let ⟨b,off,l,T,fr,o,i,u⟩:=a.mem d;⟨b,off,l,T,fr,o,h.m _ _ i,u⟩⟩
def Cx.Ext.roN {n:Nat} {xs:List (List Value)} (h:R.Ext R') (a:RoN n R s xs):RoN n R' s xs:=
 ⟨a.wid,a.len,λ d=>let ⟨b,off,l,T,fr,o,i,u⟩:=a.mem d;⟨b,off,l,T,fr,o,h.m _ _ i,u⟩⟩
def Cx.Ext.slR {xs:List Value} (h:R.Ext R') (a:SlR R.m s xs):SlR R'.m s xs:=
 ⟨a.len,a.cap,λ d=>let ⟨b,off,l,T,fr,o,i,u⟩:=a.mem d;⟨b,off,l,T,fr,o,h.m _ _ i,u⟩⟩
def Zv.leak {xs:List Value} (h:Sat R (Zv s xs::Hs) w):∃ R':Cx,R.Ext R'/\SlR R'.m s xs/\Sat R' Hs w:=by
 obtain ⟨x,_,a,d,_⟩:=Zv.lend h;exact ⟨_,.add,a,d⟩
def Own.leak {xs:List Value} (h:Sat R (Own s T xs::Hs) w):∃ R':Cx,R.Ext R'/\SlR R'.m s xs/\Sat R' Hs w:=Zv.leak (Own.reads h)
def Zn.leak {n:Nat} {rows:List (List Value)} (h:Sat R (Zn n s T rows::Hs) w):∃ R':Cx,R.Ext R'/\RoN n R' s rows/\Sat R' Hs w:=by
 obtain ⟨R',a,⟨x,rfl⟩,d,_⟩:=Zn.lend h;exact ⟨_,.add,a,d⟩
end
section
variable {P:Program} {R:Cx} {Hs Rest:List HP} {w:World} {s:Sl} {T:TypeId}
def ZcM {t:TypeId} {bytes n:Nat} {v y:IntKind} {z:Value} {K:Sl->World->Prop} (ht:P.underlying t=some (.slice T)) (hi:elB P T bytes=true) (p:∀ w,(zeroValue T).run P w=.ok z w) (g:z.cells=#[z])
  (x:bytes * n<=281474976710656) (q:n<=9223372036854775807) (r:Sat R Hs w) (k:∀ l w',Sat R (Own l T (List.replicate n z)::Hs) w'->K l w'):
  ∃ w',∃ t':Sl,(Instr.makeSlice t (.int v (n:Int)) (.int y (n:Int))).run P w=.ok (.slice t'.a t'.len t'.cap) w'/\K t' w':=by
 obtain ⟨i,d,hi,hz,hs,s,f⟩:=ZiR hi;have o:d=z:=by
  have:=p w;simp [zeroValue,hi,hz,typeInfo] at this;exact this
 subst o;have u:(i.bytes:Int) * (n:Int)<=281474976710656:=by
  rw [s];have h:((bytes * n:Nat):Int)<=281474976710656:=by omega
  rwa [vD] at h
 have m:=run_make (P:=P) w t T i d ht hi hz v y n n (by omega) (qG _) u (by omega);simp only [qo,hs,va,g] at m;refine ⟨_,⟨some ⟨w.heap.size,0,none⟩,n,n⟩,m,k _ _ ?_⟩;have e:madeCells #[d] n=(List.replicate n d).toArray:=by
  apply Array.ext
  ·simp [size_madeCells]
  ·intro j g b
   simp [madeCells,Nat.mod_one]
 rw [e];exact YL (r.alloc _) (by simp)
def Own.idxB {xs:List Bool} {S:World->Prop} {Hs':List HP} {i:Int} (o:Sat R (Own s T (xs.map Value.bool)::Hs) w) (hS:∀ w,S w->Sat R (Own s T (xs.map Value.bool)::Hs') w) (k:Nat) (hi:i=k) (hk:k<xs.length) {F:Bool->Prop} (h:F xs[k]):
  Rng i s.len (Zb s.a λ a=>∃ t:Bool,(At S (a.add i.toNat) [.bool t])/\F t):=by
 subst hi;obtain ⟨b,u,d⟩:=Own.addr o (k:=k) (by simpa using hk);have hl:=Own.len o;rw [qa] at hl;refine Rng.mk (by omega) (by omega) (Zb.mk u ⟨xs[k],?_,h⟩);have:=d hS;simpa using this
def Own.storeV {t:TypeId} {xs:List Value} {v:Value} {i:Int} (o:(P.info? t).map (·.size)=some 1) (d:v.cells=#[v]) (g:v.oneCell'=true) (y:Sat R (Own s T xs::Hs) w) (k:Nat) (hi:i=k) (hk:k<xs.length) {K:World->Prop}
  (h:∀ w',Sat R (Own s T (xs.set k v)::Hs) w'->K w'):
  Rng i s.len (Zb s.a λ a=>∃ w',(Instr.storeAt t (.pointer (some (Addr.add a i.toNat))) v).run P w=.ok () w'/\K w'):=by
 subst hi;have hl:=Own.len y;rcases Own.cases y with ⟨_,j,_⟩|⟨b,rest,fr,rfl,u,l⟩
 ·subst j;simp at hk
 ·refine Rng.mk (by omega) (by simp only at hl ⊢;omega) (Zb.mk rfl ?_)
  rw [Zs];refine ZO l (by rw [o,d];rfl) (by rw [d];simp [ZN,g]) (by rw [d];simp;omega) λ w' z=>h w' ?_;have e:Vz (xs++rest) (0 + (k:Int).toNat) v.cells.toList=xs.set k v++rest:=by
   rw [d];simp only [Vz,jb,qo];rw [vw _ _ hk]
  rw [e] at z;have m:=Own.of_pts z (u.le (by simp));simpa using m
def Own.ix {d:IntKind} {xs:List Int} {S:World->Prop} {Hs':List HP} {i:Int} (o:Sat R (Own s T (xs.map (Value.int d))::Hs) w) (hS:∀ w,S w->Sat R (Own s T (xs.map (Value.int d))::Hs') w) (k:Nat) (hi:i=k) (hk:k<xs.length) {F:Int->Prop} (h:F xs[k]):
  Rng i s.len (Zb s.a λ a=>∃ t:Int,(At S (a.add i.toNat) [.int d t])/\F t):=by
 subst hi;exact Own.idx o hS hk h
def ZaB {m sT ty h:TypeId} {b o d u i y:Nat} {a:Addr} {cs l:List Value} {fr:Nat × Nat} {K:Int->World->Prop} (r:P.underlying m=some (.slice h)) (hs:(P.info? h).map (·.size)=some 1)
  (p:Sat R (pts b (.cells l.toArray T fr)::Hs) w) (n:Zio l.length fr) (s:cs.length=Nat.min i d) (q:o + cs.length<=l.length) (z:∀ j v,cs[j]? =some v->w.cell? (a.add j)=some v) (x:ZN cs=true)
  (k:∀ t w',Sat R (pts b (.cells (Vz l o cs).toArray T fr)::Hs) w'->K t w'):
  ∃ w',∃ t:Int,(Builtin.copy_ #[m,sT] ty #[.slice (some ⟨b,o,none⟩) d u,.slice (some a) i y]).run P w=.ok (.int .i64 t) w'/\K t w':=by
 have g:=p.at;have e:=run_copy_cells (P:=P) w m sT ty h b o d u a i y cs r hs s z (λ j hj=>by rw [Yy g];simp;omega) (λ j hj=>Vi g n (by omega)) (λ v f=>qW.1 x v f);exact ⟨_,_,e,k _ _ (Y7 cs l o w p)⟩
def Zdo {t1 t2 ty:TypeId} {bytes k n:Nat} {E M:IntKind} {z:Value} {xs:List Value} {K:Sl->World->Prop} (ht:P.underlying t1=some (.slice T)) (q:P.underlying t2=some (.int M)) (hi:elB P T bytes=true)
  (S:0<n) (hk:k<xs.length) (F:s.cap<k + n) (N:2 * (k + n) * bytes<=281474976710656) (O:k + n<=9223372036854775807) (Q:Sat R (Own s T xs::Hs) w)
  (h:∀ t w' ys,ys.length=n->Sat R (Own t T (xs.take k++ys)::Own s T xs::Hs) w'->K t w'):
  ∃ w',∃ t:Sl,(Builtin.append_ #[t1,t2] ty #[.slice s.a k s.cap,.int E n]).run P w=.ok (.slice t.a t.len t.cap) w'/\K t w':=by
 obtain ⟨i,z,hi,hz,o,d,r⟩:=ZiR hi;rcases Own.cases Q with ⟨_,rfl,_⟩|⟨b,rest,fr,rfl,x,G⟩
 ·simp at hk
 have f:=G.at;dsimp only at F ⊢;have H:Builtin.nextslicecap (k + n) (xs++rest).length * i.bytes<=281474976710656:=by
  have U:Builtin.nextslicecap (k + n) (xs++rest).length<=2 * (k + n):=by
   unfold Builtin.nextslicecap;split
   ·omega
   ·split
    ·omega
    ·have:=nextslicecap_le_wide F
     unfold Builtin.nextslicecap at this;rw [qc (by assumption),qc (by assumption)] at this;omega
  rw [d];exact jf (qL _ U) N
 have hold:(Builtin.firstCells i.size k (.slice (some ⟨b,0,none⟩) k (xs++rest).length)).run P w.drew=.ok (xs.take k).toArray w.drew:=by
  refine run_firstCells_some w.drew i.size k ⟨b,0,none⟩ k _ (xs.take k) (by rw [o,qd];omega) ?_;intro j u hj;rw [World.cell?_drew,Zs,Yy f,jb];obtain ⟨c,rfl⟩:=List.getElem?_eq_some_iff.1 hj;rw [qd] at c;rw [List.getElem?_append_left (by omega),List.getElem?_eq_getElem (by omega),jJ]
 have A:IntKind.i64.wrap (n:Int)=n:=by rw [IntKind.wrap_i64];omega
 have I:¬ (k + n<=(xs++rest).length):=by omega
 have y:¬ (9223372036854775807<((k:Int) + (n:Int))):=by omega
 have v:¬ (281474976710656<Builtin.nextslicecap (k + n) (xs++rest).length * i.bytes):=by omega
 have g:¬ (281474976710656<(n:Int) * (i.bytes:Int)):=by
  rw [<-vD,d];have:n * bytes<=2 * (k + n) * bytes:=qL _ (by omega);omega
 have l:¬ ((n:Int)<0):=by omega
 have V:n≠0:=by omega
 have D:¬ (n * i.size=0):=by rw [o];omega
 have W:=grownCap_ge w (k + n) (xs++rest).length T;have X:(Builtin.append_ #[t1,t2] ty #[.slice (some ⟨b,0,none⟩) k (xs++rest).length,.int E n]).run P w=
   .ok (.slice (some ⟨w.heap.size,0,none⟩) (k + n) (grownCap w (k + n) (xs++rest).length T)) (w.drew.alloc (.cells ((xs.take k).toArray++Builtin.zeroCells z.cells n++Builtin.zeroCells z.cells (grownCap w (k + n) (xs++rest).length T - (k + n))) T)):=by
  simp only [qb] at I v hold ⊢;simp [Builtin.append_,run_underlying ht,run_underlying q,sizeOf,typeInfo,zeroValue,hi,hz,asInt,asIntOf,A,I,l,D,y,v,g,Question.forced,hold,newRow,grownCap]
 have p:∀ m,(Builtin.zeroCells z.cells m).size=m:=λ m=>by simp [Builtin.zeroCells,r]
 refine ⟨_,⟨some ⟨w.heap.size,0,none⟩,k + n,grownCap w (k + n) (xs++rest).length T⟩,X,h _ _ (Builtin.zeroCells z.cells n).toList (by rw [jw,p]) ?_⟩;have J:=Sat.alloc (Obj.cells ((xs.take k).toArray++Builtin.zeroCells z.cells n++Builtin.zeroCells z.cells (grownCap w (k + n) (xs++rest).length T - (k + n))) T) (Sat.drew G);have e:Obj.cells ((xs.take k).toArray++Builtin.zeroCells z.cells n++Builtin.zeroCells z.cells (grownCap w (k + n) (xs++rest).length T - (k + n))) T=.cells ((xs.take k++(Builtin.zeroCells z.cells n).toList)++(Builtin.zeroCells z.cells (grownCap w (k + n) (xs++rest).length T - (k + n))).toList).toArray T (0,0):=by
  congr 1
  apply vd;simp
 rw [e] at J ⊢;have Y:=Own.of_pts (Sat.swap J) x;have L:=Own.of_pts (Sat.swap Y);have e2:(⟨some ⟨w.drew.heap.size,0,none⟩,(xs.take k++(Builtin.zeroCells z.cells n).toList).length,((xs.take k++(Builtin.zeroCells z.cells n).toList)++(Builtin.zeroCells z.cells (grownCap w (k + n) (xs++rest).length T - (k + n))).toList).length⟩:Sl)=⟨some ⟨w.heap.size,0,none⟩,k + n,grownCap w (k + n) (xs++rest).length T⟩:=by
  have:(xs.take k).length=k:=by rw [qd];omega
  simp only [qb,jw,p,World.size_drew,this] at W ⊢
  congr 1
  omega
 rw [e2] at L;exact L
end
section
open Ieee
abbrev fw (n:Nat):Nat:=double.nearest false n 0
def fwOk (n:Nat):Bool:=match double.read (fw n) with
 | .number false m e=>decide (e<=0) && (m==n<<<(-e).toNat)
 |_=>false
set_option maxRecDepth 100000 in
def Zu6:(List.range 10002).all fwOk=true:=by kernel_rfl
def ZrU {n:Nat} (h:n<=10001):∃ d:Nat,double.read (fw n)=.number false (n * 2 ^ d) (-(d:Int)):=by
 have:=qW.1 Zu6 n (jC.2 (by omega));unfold fwOk at this;split at this
 ·rename_i m e a
  simp only [ql,qV,jh] at this;refine ⟨(-e).toNat,?_⟩;rw [a,this.2,jI,show (-((-e).toNat:Int))=e by omega]
 ·cases this
def Zog {n drop B:Nat} (h:n<B * 2 ^ drop):Toward.even.cut false n drop<=B:=by
 unfold Toward.cut;simp only;generalize a:1<<<min drop (n.log2 + 2)=gap;rw [jI,uH] at a;have o:∀ b:Bool,b.toNat<=1:=λ b=>by cases b<;>simp
 by_cases hd:drop<=n.log2 + 2
 ·rw [q7 hd] at a
  subst a;have d:n / 2 ^ drop<B:=(uZ (jM drop)).2 h;have:=o (decide (2 ^ drop<2 * (n % 2 ^ drop))||(2 ^ drop==2 * (n % 2 ^ drop) && n / 2 ^ drop % 2==1));omega
 ·rw [uO (by omega)] at a
  have u:n<2 ^ (n.log2 + 1):=uP;have v:2 ^ (n.log2 + 2)=2 * 2 ^ (n.log2 + 1):=by rw [zx];omega
  subst a;have i:n / 2 ^ (n.log2 + 2)=0:=uc (by omega);have d:n % 2 ^ (n.log2 + 2)=n:=zJ (by omega);rw [i,d];have e1:decide (2 ^ (n.log2 + 2)<2 * n)=false:=qz (by omega);have e2:(2 ^ (n.log2 + 2)==2 * n)=false:=by
   rw [jW];omega
  rw [e1,e2];simp
def Zda:double.leastPlace=-1074:=by decide
def Zbe:double.binade=4503599627370496:=by decide
def ZiU:double.infRung=2047 * 4503599627370496:=by decide
def Zj4:double.signWeight=9223372036854775808:=by decide
def Zp3:(double.fractionBits:Nat)=52:=rfl
def Zj5 {n drop:Nat}:Toward.down.cut false n drop=n / 2 ^ drop:=by
 unfold Toward.cut;simp only;rw [jI,uH];have e:(false && n % 2 ^ min drop (n.log2 + 2) !=0).toNat=0:=by simp
 rw [e,vQ];by_cases hd:drop<=n.log2 + 2
 ·rw [q7 hd]
 ·rw [uO (by omega)]
  have h:n<2 ^ (n.log2 + 1):=uP;have a:2 ^ (n.log2 + 1)<=2 ^ (n.log2 + 2):=jm (by omega) (by omega);have d:2 ^ (n.log2 + 2)<=2 ^ drop:=jm (by omega) (by omega);rw [uc (by omega),uc (by omega)]
def ZqL {n drop:Nat} (h:drop<=n.log2 + 2):n / 2 ^ drop<=Toward.even.cut false n drop/\Toward.even.cut false n drop<=n / 2 ^ drop + 1:=by
 unfold Toward.cut;simp only;rw [jI,uH,q7 h];have a:∀ b:Bool,b.toNat<=1:=λ b=>by cases b<;>simp
 have:=a (decide (2 ^ drop<2 * (n % 2 ^ drop))||(2 ^ drop==2 * (n % 2 ^ drop) && n / 2 ^ drop % 2==1));omega
def ZmJ {i kept:Nat} (hi:i<=1074) (hk:kept<=9007199254740992) (h:0<i->4503599627370496<=kept):
  ∃ a:Nat,∃ j:Nat,double.read (i * 4503599627370496 + kept)=.number false a (-1074 + (j:Int))/\((a=kept/\j=i)\/(a=4503599627370496/\kept=9007199254740992/\j=i + 1)):=by
 have o:i * 4503599627370496 + kept<9223372036854775808:=by omega
 unfold Format.read;simp only;rw [Zj4,Zbe,ZiU,Zda];rw [zJ o,uc o];have e0:(0 % 2==1)=false:=by decide
 rw [e0];by_cases u:i * 4503599627370496 + kept<4503599627370496
 ·rw [qf u]
  have:i=0:=by omega
  subst this;exact ⟨_,0,rfl,.inl ⟨by omega,rfl⟩⟩
 rw [qc u,qf (by omega)];by_cases v:kept<9007199254740992
 ·have y:4503599627370496<=kept:=by
   by_cases d:0<i
   ·exact h d
   ·omega
  have d1:(i * 4503599627370496 + kept) / 4503599627370496=i + 1:=by omega
  have d2:(i * 4503599627370496 + kept) % 4503599627370496=kept - 4503599627370496:=by omega
  rw [d1,d2];refine ⟨_,i,?_,.inl ⟨rfl,rfl⟩⟩;rw [show 4503599627370496 + (kept - 4503599627370496)=kept by omega,show i + 1 - 1=i by omega]
 ·have:kept=9007199254740992:=by omega
  subst this;have d1:(i * 4503599627370496 + 9007199254740992) / 4503599627370496=i + 2:=by omega
  have d2:(i * 4503599627370496 + 9007199254740992) % 4503599627370496=0:=by omega
  rw [d1,d2];exact ⟨_,i + 1,rfl,.inr ⟨by omega,rfl,rfl⟩⟩
def plc1 {j L:Nat} (h:j=1074 - L) (a:L<=1074): -1074 + (j:Int)=-(L:Int):=by omega
def plc2 {j L:Nat} (h:j=1074 - L + 1) (a:L<=1074) (d:39<=L): -1074 + (j:Int)=-((L - 1:Nat):Int):=by omega
def ZrS {B L kept:Nat} (a:kept<=B * 2 ^ L) (d:kept=9007199254740992) (o:39<=L):4503599627370496<=B * 2 ^ (L - 1):=by
 have h:2 ^ L=2 * 2 ^ (L - 1):=by rw [<-Nat.pow_succ'];congr 1;omega
 rw [h,zB] at a;clear h;generalize B * 2 ^ (L - 1)=y at *;omega
def Znj {M d B:Nat} (U:B<=10000) (y:M<B * 2 ^ d):
  ∃ z E:Nat,double.read (double.nearest false M (-(d:Int)))=.number false z (-(E:Int))/\z<=B * 2 ^ E:=by
 by_cases s:M=0
 ·subst s
  refine ⟨0,1074,?_,by omega⟩;unfold Format.nearest;rw [qf rfl];decide
 unfold Format.nearest;rw [qc s,Zda,Zbe,ZiU,Zp3];have g:2 ^ M.log2<=M:=Nat.log2_self_le s;have a:M<2 ^ (M.log2 + 1):=uP;have F:M.log2<14 + d:=by
  have:2 ^ M.log2<2 ^ (14 + d):=by
   rw [jV];have:B * 2 ^ d<=2 ^ 14 * 2 ^ d:=qL _ (by omega);omega
  exact (Nat.pow_lt_pow_iff_right (by omega)).1 this
 simp only;generalize t:max (-(d:Int) + (M.log2:Int) - ((52:Nat):Int)) (-1074)=last;obtain ⟨L,G⟩:∃ L:Nat,last=-(L:Int):=⟨(-last).toNat,by omega⟩;have k:39<=L:=by omega
 have l:L<=1074:=by omega
 subst G;have hi:(-(L:Int) - -1074).toNat=1074 - L:=by omega
 rw [hi]
 -- what is kept
 obtain ⟨kept,x,m,e,f⟩:∃ kept,Toward.even.cut false (M<<<(-(d:Int) - -(L:Int)).toNat) (-(L:Int) - -(d:Int)).toNat=kept/\kept<=B * 2 ^ L/\kept<=9007199254740992/\(0<1074 - L->4503599627370496<=kept):=by
  refine ⟨_,rfl,?_⟩;by_cases H:d<=L
  ·have e1:(-(d:Int) - -(L:Int)).toNat=L - d:=by omega
   have e2:(-(L:Int) - -(d:Int)).toNat=0:=by omega
   rw [e1,e2,jI];have b:2 ^ L=2 ^ d * 2 ^ (L - d):=by rw [<-jV];congr 1;omega
   have p:M * 2 ^ (L - d)<B * 2 ^ L:=by
    rw [b,<-vC];exact jv y (jM _)
   have c1:=Zog (n:=M * 2 ^ (L - d)) (drop:=0) (B:=B * 2 ^ L) (by simpa using p);have c2:=ZqL (n:=M * 2 ^ (L - d)) (drop:=0) (by omega);rw [vV,Nat.div_one] at c2
   -- no rest, so it is the number itself
   have c3:Toward.even.cut false (M * 2 ^ (L - d)) 0=M * 2 ^ (L - d):=by
    unfold Toward.cut;simp [Nat.mod_one]
   rw [c3] at c1 ⊢;have q:M * 2 ^ (L - d)<2 ^ (M.log2 + 1) * 2 ^ (L - d):=jv a (jM _);rw [<-jV] at q;have c:M.log2 + 1 + (L - d)<=53:=by omega
   have I:2 ^ (M.log2 + 1 + (L - d))<=2 ^ 53:=jm (by omega) c;refine ⟨c1,by omega,λ h=>?_⟩;have o:2 ^ M.log2 * 2 ^ (L - d)<=M * 2 ^ (L - d):=qL _ g;rw [<-jV] at o;have J:M.log2 + (L - d)=52:=by omega
   rw [J] at o;omega
  ·have e1:(-(d:Int) - -(L:Int)).toNat=0:=by omega
   have e2:(-(L:Int) - -(d:Int)).toNat=d - L:=by omega
   rw [e1,e2,uz];have b:2 ^ d=2 ^ L * 2 ^ (d - L):=by rw [<-jV];congr 1;omega
   have c1:=Zog (n:=M) (drop:=d - L) (B:=B * 2 ^ L) (by rw [vC,<-b];exact y);by_cases A:d - L<=M.log2 + 2
   ·have c2:=ZqL A
    have q:M / 2 ^ (d - L)<2 ^ 53:=by
     rw [uZ (jM _),<-jV];have:2 ^ (M.log2 + 1)<=2 ^ (53 + (d - L)):=jm (by omega) (by omega);omega
    refine ⟨c1,by omega,λ h=>?_⟩;have o:2 ^ 52<=M / 2 ^ (d - L):=by
     rw [u9 (jM _),<-jV];have:2 ^ (52 + (d - L))<=2 ^ M.log2:=jm (by omega) (by omega);omega
    omega
   ·-- all of it is dropped
    have N:L=1074:=by omega
    have c0:Toward.even.cut false M (d - L)<=1:=Zog (by
     have V:2 ^ (M.log2 + 1)<=2 ^ (d - L):=jm (by omega) (by omega);omega)
    exact ⟨c1,by omega,λ h=>by omega⟩
 rw [x];obtain ⟨z,j,O,Q⟩:=ZmJ (i:=1074 - L) (by omega) e f;have r:min ((1074 - L) * 4503599627370496 + kept) (2047 * 4503599627370496)=(1074 - L) * 4503599627370496 + kept:=q7 (by omega);have u:double.word false (min ((1074 - L) * 4503599627370496 + kept) (2047 * 4503599627370496))=(1074 - L) * 4503599627370496 + kept:=by rw [r];unfold Format.word;rw [qc (by simp)]
 rw [u,O];rcases Q with ⟨v,hj⟩|⟨v,D,hj⟩
 ·exact ⟨z,L,by rw [plc1 hj l],by rw [v];exact m⟩
 ·exact ⟨z,L - 1,by rw [plc2 hj l k],by rw [v];exact ZrS m D k⟩
def ZcB {a b:Nat} (h:b<=a):2 ^ a=2 ^ b * 2 ^ (a - b):=by rw [<-jV];congr 1;omega
def Zrv {m n d e:Nat}:Datum.order (.number false m (-(d:Int))) (.number false n (-(e:Int)))=some (compare ((m * 2 ^ e:Nat):Int) ((n * 2 ^ d:Nat):Int)):=by
 unfold Datum.order signed;simp only [qy,jq,jI]
 congr 1
 have key:∀ (x y k:Nat),compare ((x * 2 ^ k:Nat):Int) ((y * 2 ^ k:Nat):Int)=compare (x:Int) (y:Int):=λ x y k=>by
  have o:=jM k;rcases zC x y with h|h|h
  ·rw [uI.2 (vi.2 h),uI.2 (vi.2 (jv h o))]
  ·subst h;rw [vW.2 rfl,vW.2 rfl]
  ·rw [vr.2 (vi.2 h),vr.2 (vi.2 (jv h o))]
 by_cases a:d<=e
 ·have e1:(-(d:Int) - min (-(d:Int)) (-(e:Int))).toNat=e - d:=by omega
  have e2:(-(e:Int) - min (-(d:Int)) (-(e:Int))).toNat=0:=by omega
  rw [e1,e2,vV,va,<-key (m * 2 ^ (e - d)) n d,vC,jX (2 ^ (e - d)),<-ZcB a]
 ·have e1:(-(d:Int) - min (-(d:Int)) (-(e:Int))).toNat=0:=by omega
  have e2:(-(e:Int) - min (-(d:Int)) (-(e:Int))).toNat=d - e:=by omega
  rw [e1,e2,vV,va,<-key m (n * 2 ^ (d - e)) e,vC,jX (2 ^ (d - e)),<-ZcB (show e<=d by omega)]
def Zkj (p mp dp:Nat):Prop:=double.read p=.number false mp (-(dp:Int))
def Zm7 {p q m n d e:Nat} (h:Zkj p m d) (a:Zkj q n e):double.order p q=some (compare ((m * 2 ^ e:Nat):Int) ((n * 2 ^ d:Nat):Int)):=by
 unfold Format.order;rw [h,a,Zrv]
def ZnW {n:Nat} (h:n<=10001):∃ d,Zkj (fw n) (n * 2 ^ d) d:=ZrU h
def Zx3 {k p o a:Nat} (hk:k<=10001) (v:Zkj p o a):(double.order (fw k) p==some .lt||double.order (fw k) p==some .eq)=decide (k<=o / 2 ^ a):=by
 obtain ⟨d,hd⟩:=ZnW hk;rw [Zm7 hd v];have u:=jM d;have e:k * 2 ^ d * 2 ^ a=k * 2 ^ a * 2 ^ d:=by rw [vC,jX (2 ^ d),<-vC]
 rw [e];have h:k<=o / 2 ^ a↔k * 2 ^ a<=o:=u9 (jM a);rcases zC (k * 2 ^ a) o with i|i|i
 ·rw [uI.2 (vi.2 (jv i u)),qE (h.2 (by omega))];rfl
 ·rw [i,vW.2 rfl,qE (h.2 (by omega))];rfl
 ·rw [vr.2 (vi.2 (jv i u)),qz (λ y=>by have:=h.1 y;omega)];rfl
def Zo3:Zkj 0 0 1074:=by unfold Zkj;decide
def Zpq {x:Nat} (o:double.order x 0=some .gt) (i:double.order x 4607182418800017408≠some .gt) (u:double.order x 4607182418800017408≠some .eq):∃ m d,Zkj x m d/\0<m/\m<2 ^ d:=by
 have e0:double.read 0=.number false 0 (-1074):=by decide
 have e1:double.read 4607182418800017408=.number false 4503599627370496 (-52):=by decide
 unfold Format.order at o i u;rw [e0] at o;rw [e1] at i u;generalize g:double.read x=dx at o i u;cases dx with
 |nan s f=>simp [Datum.order] at o
 |infinity s=>
  cases s
  ·exact absurd rfl i
  ·simp [Datum.order] at o
 |number s m e=>
  unfold Datum.order at o i u;simp only [ne_eq,qM] at o i u;have v:=vr.1 o;have hz:signed false 0 (-1074 - min e (-1074)).toNat=0:=by simp [signed]
  rw [hz] at v;cases s with
  |true=>
   exfalso;unfold signed at v;rw [qf rfl] at v;generalize m<<<(e - min e (-1074)).toNat=y at v;omega
  |false=>
   have hm:0<m:=by
    rcases zv m with h|h
    ·subst h;simp [signed] at v
    ·exact h
   have a:signed false m (e - min e (-52)).toNat<signed false 4503599627370496 (-52 - min e (-52)).toNat:=by
    rcases Int.lt_trichotomy (signed false m (e - min e (-52)).toNat) (signed false 4503599627370496 (-52 - min e (-52)).toNat) with h|h|h
    ·exact h
    ·exact absurd (vW.2 h) u
    ·exact absurd (vr.2 h) i
   unfold signed at a;rw [qc (by simp),qc (by simp),jI,jI] at a;have a:m * 2 ^ (e - min e (-52)).toNat<4503599627370496 * 2 ^ (-52 - min e (-52)).toNat:=vi.1 a;have z:e<0:=by
    by_cases k:0<=e
    ·exfalso
     have a1:min e (-52)=-52:=by omega
     rw [a1,show (-52 - (-52):Int).toNat=0 from rfl,vV,va] at a
     have:2 ^ 52<=2 ^ (e - -52).toNat:=jm (by omega) (by omega);have:1 * 2 ^ (e - -52).toNat<=m * 2 ^ (e - -52).toNat:=qL _ hm;omega
    ·omega
   refine ⟨m,(-e).toNat,?_,hm,?_⟩
   ·unfold Zkj;rw [g,show (-((-e).toNat:Int))=e by omega]
   ·by_cases j: -52<=e
    ·have a1:min e (-52)=-52:=by omega
     rw [a1,show (-52 - (-52):Int).toNat=0 from rfl,vV,va] at a
     have a2:(2:Nat) ^ 52=2 ^ (-e).toNat * 2 ^ (e - -52).toNat:=by rw [<-jV];congr 1;omega
     have a3:m * 2 ^ (e - -52).toNat<2 ^ (-e).toNat * 2 ^ (e - -52).toNat:=by rw [<-a2];omega
     exact Nat.lt_of_mul_lt_mul_right a3
    ·have a1:min e (-52)=e:=by omega
     rw [a1,show (e - e).toNat=0 by omega,vV,va] at a;have a2:2 ^ (-e).toNat=2 ^ 52 * 2 ^ (-52 - e).toNat:=by rw [<-jV];congr 1;omega
     rw [a2];exact a
def Zpr {x m d s:Nat} (y:Zkj x m d) (i:m<2 ^ d) (hs:s<=10000):∃ p a o,double.mul x (fw s)=some p/\Zkj p a o/\a<=s * 2 ^ o:=by
 obtain ⟨ds,hd⟩:=ZnW (n:=s) (by omega);have h:double.mul x (fw s)=some (double.nearest false (m * (s * 2 ^ ds)) (-((d + ds:Nat):Int))):=by
  unfold Format.mul;rw [y,hd];show some (double.write (.number (false ^^ false) (m * (s * 2 ^ ds)) (-(d:Int) + -(ds:Int))))=_;rw [show (-(d:Int) + -(ds:Int))=-((d + ds:Nat):Int) by omega];rfl
 rcases zv s with u|u
 ·subst u
  refine ⟨_,0,1074,h,?_,by omega⟩;rw [zA,Nat.mul_zero];unfold Format.nearest;rw [qf rfl];exact Zo3
 ·have z:m * (s * 2 ^ ds)<s * 2 ^ (d + ds):=by
   have a1:s * 2 ^ (d + ds)=2 ^ d * (s * 2 ^ ds):=by rw [jV,zB]
   rw [a1];exact jv i (Nat.mul_pos u (jM _))
  obtain ⟨a,o,g,v⟩:=Znj hs z;exact ⟨_,a,o,h,g,v⟩
def Zlq {p a h:Nat} (d:Zkj p a h):double.write ((double.read p).integral .down)=fw (a / 2 ^ h):=by
 rw [d];unfold Datum.integral;simp only;rw [show (-(h:Int)).toNat=0 by omega,uz,show (- -(h:Int)).toNat=h by omega,Zj5];rfl
def Zu5 {n:Nat} (h:n<=10001):(double.read (fw n)).toInt .zero=some (n:Int):=by
 obtain ⟨d,hd⟩:=ZnW h;unfold Datum.toInt;rw [hd];unfold Datum.integral;simp only;rw [show (-(d:Int)).toNat=0 by omega,uz,show (- -(d:Int)).toNat=d by omega];have:Toward.zero.cut false (n * 2 ^ d) d=n:=by
  have:Toward.zero.cut false (n * 2 ^ d) d=Toward.down.cut false (n * 2 ^ d) d:=by
   unfold Toward.cut;simp
  rw [this,Zj5,Nat.mul_div_cancel _ (jM d)]
 rw [this];simp [signed]
def Zbf:Int:=2 ^ 2200
def Zpa:Datum->Option Int
 | .nan ..=>none
 | .infinity s=>some (if s then -Zbf else Zbf)
 | .number s m i=>some (signed s m (i + 1074).toNat)
def Zgk (s:Bool) (m k:Nat):signed s m k=(if s then -1 else 1) * ((m:Int) * 2 ^ k):=by
 unfold signed;cases s<;>simp [jI]
def Zol {a b c:Int} (h:0<c):compare (a * c) (b * c)=compare a b:=by
 simp only [compare,compareOfLessAndEq];have i:a * c<b * c↔a<b:=⟨λ d=>Int.lt_of_mul_lt_mul_right d (by omega),λ d=>Int.mul_lt_mul_of_pos_right d h⟩;have d:a * c=b * c↔a=b:=⟨λ o=>Int.eq_of_mul_eq_mul_right (by omega) o,λ o=>by rw [o]⟩;simp only [i,d]
def Zgj (s:Bool) (m k c:Nat):signed s m (k + c)=signed s m k * 2 ^ c:=by
 rw [Zgk,Zgk,Int.pow_add];rw [zr,zr]
def Zia {x:Nat} {s:Bool} {m:Nat} {i:Int} (h:double.read x=.number s m i):(-1074<=i/\i<=971)/\m<2 ^ 53:=by
 unfold Format.read at h;simp only [Zbe,ZiU,Zda,Zj4] at h;split at h
 ·rename_i a
  simp only [Datum.number.injEq] at h;obtain ⟨_,rfl,rfl⟩:=h;exact ⟨⟨by omega,by omega⟩,by omega⟩
 ·split at h
  ·rename_i a
   simp only [Datum.number.injEq] at h;obtain ⟨_,rfl,rfl⟩:=h;refine ⟨⟨by omega,?_⟩,by omega⟩;have:x % 9223372036854775808 / 4503599627370496<=2046:=by omega
   omega
  ·split at h<;>cases h
def ZrO (n:Nat):(2:Int) ^ n=((2 ^ n:Nat):Int):=by rw [vl];rfl
def Zi1 (n:Nat):(0:Int)<2 ^ n:=zg (by omega)
def ZuQ {m k n N:Nat} (hm:m<2 ^ 53) (hk:k<=n) (a:53 + n<N):m * 2 ^ k<2 ^ N:=by
 have h:m * 2 ^ k<=2 ^ 53 * 2 ^ n:=Nat.mul_le_mul (by omega) (jm (by omega) hk);rw [<-jV] at h;exact zw h (Nat.pow_lt_pow_right (by omega) a)
def ZlW {x:Nat} {s:Bool} {m:Nat} {i:Int} (h:double.read x=.number s m i): -Zbf<signed s m (i + 1074).toNat/\signed s m (i + 1074).toNat<Zbf:=by
 obtain ⟨⟨u,v⟩,a⟩:=Zia h;have hk:(i + 1074).toNat<=2045:=by omega
 have d:m * 2 ^ (i + 1074).toNat<2 ^ 2200:=ZuQ (N:=2200) (n:=2045) a hk (by omega);have o:((m * 2 ^ (i + 1074).toNat:Nat):Int)<Zbf:=by
  unfold Zbf;rw [ZrO];exact vi.2 d
 have y:(0:Int)<Zbf:=by unfold Zbf;exact Zi1 2200
 have e:signed s m (i + 1074).toNat=if s then -((m * 2 ^ (i + 1074).toNat:Nat):Int) else ((m * 2 ^ (i + 1074).toNat:Nat):Int):=by
  unfold signed;rw [jI]
 rw [e];generalize m * 2 ^ (i + 1074).toNat=n at *;cases s<;>simp<;>omega
def Zm8 (x y:Nat):double.order x y=match Zpa (double.read x),Zpa (double.read y) with
  |some a,some b=>some (compare a b)
  |_,_=>none:=by
 have u:(0:Int)<Zbf:=by unfold Zbf;exact Zi1 2200
 have lt_cmp:∀ a b:Int,a<b->compare a b=.lt:=λ a b h=>by simp only [compare,compareOfLessAndEq,qf h]
 have gt_cmp:∀ a b:Int,b<a->compare a b=.gt:=λ a b h=>by simp only [compare,compareOfLessAndEq];rw [qc (by omega),qc (by omega)]
 have eq_cmp:∀ a:Int,compare a a=.eq:=λ a=>by simp [compare,compareOfLessAndEq]
 unfold Format.order;cases o:double.read x with
 |nan s t=>cases double.read y<;>rfl
 |infinity s=>
  cases d:double.read y with
  |nan=>rfl
  |infinity t=>
   show some (compare t.toNat s.toNat)=some (compare (if s then -Zbf else Zbf) (if t then -Zbf else Zbf))
   cases s<;>cases t
   ·simp only [qy,jq];rw [eq_cmp];rfl
   ·simp only [qy,jq,vp];rw [gt_cmp _ _ (by omega)];rfl
   ·simp only [qy,jq,vp];rw [lt_cmp _ _ (by omega)];rfl
   ·simp only [vp];rw [eq_cmp];rfl
  |number t n j=>
   have:=ZlW d;show some (if s then Ordering.lt else .gt)=some (compare (if s then -Zbf else Zbf) (signed t n (j + 1074).toNat))
   cases s
   ·simp only [qy,jq];rw [gt_cmp _ _ (by omega)]
   ·simp only [vp];rw [lt_cmp _ _ (by omega)]
 |number s m i=>
  cases d:double.read y with
  |nan=>rfl
  |infinity t=>
   have:=ZlW o;show some (if t then Ordering.gt else .lt)=some (compare (signed s m (i + 1074).toNat) (if t then -Zbf else Zbf))
   cases t
   ·simp only [qy,jq];rw [lt_cmp _ _ (by omega)]
   ·simp only [vp];rw [gt_cmp _ _ (by omega)]
  |number t n j=>
   obtain ⟨⟨v,z⟩,_⟩:=Zia o;obtain ⟨⟨g,k⟩,_⟩:=Zia d;show some (compare (signed s m (i - min i j).toNat) (signed t n (j - min i j).toNat))=some (compare (signed s m (i + 1074).toNat) (signed t n (j + 1074).toNat));have e1:(i + 1074).toNat=(i - min i j).toNat + (min i j + 1074).toNat:=by omega
   have e2:(j + 1074).toNat=(j - min i j).toNat + (min i j + 1074).toNat:=by omega
   rw [e1,e2,Zgj,Zgj,Zol (zg (by omega))]
def kvF (x:Nat):Int:=match Zpa (double.read x) with|none=>-Zbf - 1|some v=>v
def ZhN (x:Nat):Bool:=(Zpa (double.read x)).isNone
def ZpL {x:Nat} (h:ZhN x=false): -Zbf<=kvF x:=by
 have d:(0:Int)<Zbf:=by unfold Zbf;exact Zi1 2200
 unfold ZhN at h;unfold kvF;cases a:double.read x with
 |nan s t=>rw [a] at h;cases h
 |infinity s=>
  show -Zbf<=if s then -Zbf else Zbf
  split<;>omega
 |number s m i=>have:=(ZlW a).1;show -Zbf<=signed s m (i + 1074).toNat;omega
def Zbu {x:Nat} (h:ZhN x=true):kvF x=-Zbf - 1:=by
 unfold ZhN at h;unfold kvF;cases a:Zpa (double.read x) with
 |none=>rfl
 |some v=>rw [a] at h;cases h
def Zna {x y:Nat} (o:ZhN x=false) (i:ZhN y=false):(double.order x y==some .lt)=decide (kvF x<kvF y)/\(double.order x y==some .eq)=decide (kvF x=kvF y)/\(double.order x y==some .gt)=decide (kvF y<kvF x):=by
 rw [Zm8];unfold ZhN at o i;unfold kvF;cases u:Zpa (double.read x) with
 |none=>rw [u] at o;cases o
 |some a=>
  cases v:Zpa (double.read y) with
  |none=>rw [v] at i;cases i
  |some b=>
   dsimp only;simp only [compare,compareOfLessAndEq];by_cases h:a<b
   ·rw [qf h]
    refine ⟨by rw [qE h];rfl,by rw [qz (by omega)];rfl,by rw [qz (by omega)];rfl⟩
   ·rw [qc h]
    by_cases d:a=b
    ·rw [qf d]
     refine ⟨by rw [qz h];rfl,by rw [qE d];rfl,by rw [qz (by omega)];rfl⟩
    ·rw [qc d]
     refine ⟨by rw [qz h];rfl,by rw [qz d];rfl,by rw [qE (by omega)];rfl⟩
def ZbN {x y:Nat} (h:ZhN x=true\/ZhN y=true):double.order x y=none:=by
 rw [Zm8];unfold ZhN at h;cases d:Zpa (double.read x) with
 |none=>rfl
 |some a=>
  cases o:Zpa (double.read y) with
  |none=>rfl
  |some b=>rw [d,o] at h;simp at h
def ZjB (x:Nat):(double.order x x==some .eq)=!ZhN x:=by
 cases h:ZhN x with
 |true=>rw [ZbN (.inl h)];rfl
 |false=>rw [(Zna h h).2.1];simp
def GE (a b:Nat):Int:=if kvF a<kvF b then -1 else if kvF a=kvF b then 0 else 1
end
section
variable {P:Program} {R R' R'':Cx} {Hs Rest:List HP} {w:World} {s:Sl} {T:TypeId}
instance:XW Int where
 enc:=Value.int .i64
 desc:=.int .i64
 same a b:=by
  show (if IntKind.i64=IntKind.i64 then some (a==b) else none)=some (a==b)
  rw [qf rfl]
 bits a:=by
  have:∀ n,Instr.sameBits n (.int .i64 a) (.int .i64 a)=(IntKind.i64==IntKind.i64 && a==a):=λ n=>by cases n<;>rfl
  rw [this];simp
 eq a b h:=jh.1 h
 check P em K a w h:=by
  show (Instr.checkKey em (9999 + 1) K (.int .i64 a)).run P w=_;unfold Instr.checkKey;simp [run_underlying h]
def Zv.out {xs:List Value} (h:Sat R (Zv s xs::Hs) w):∃ R',R.Ext R'/\SlR R'.m s xs/\Sat R' Hs w/\∀ Hs' w',Sat R' Hs' w'->Sat R (Zv s xs::Hs') w':=by
 obtain ⟨x,hd,hs,a,d⟩:=Zv.lend h;exact ⟨R.add x,Cx.Ext.add,hs,a,λ Hs' w' h=>Zv.back hd d h⟩
end
def ZnD (b:Nat):Nat:=if b<9223372036854775808 then b + 9223372036854775808 else 18446744073709551615 - b
def ofF (k:Nat):Nat:=if 9223372036854775808<=k then k - 9223372036854775808 else 18446744073709551615 - k
def Zqx {b:Nat} (h:b<18446744073709551616):ZnD b<18446744073709551616:=by
 unfold ZnD;split<;>omega
def ZxZ {k:Nat} (h:k<18446744073709551616):ofF k<18446744073709551616:=by
 unfold ofF;split<;>omega
structure Wt where
 id:Int
 cls:Int
 many:Int
 time:Int
 sc:Nat
deriving DecidableEq
def Wt.Ok (w:Wt):Prop:=(1<=w.id/\w.id<=28629151)/\(0<=w.cls/\w.cls<=7)/\(1<=w.many/\w.many<=600)/\(0<=w.time/\w.time<=1099511627776)
instance (w:Wt):Decidable w.Ok:=by unfold Wt.Ok;infer_instance
def Wt.ahead (a b:Wt):Bool:=if kvF a.sc=kvF b.sc then (if a.time=b.time then decide (a.id<b.id) else decide (a.time<b.time)) else decide (kvF b.sc<kvF a.sc)
def ZaL {a b:Wt}:a.ahead b=true↔kvF b.sc<kvF a.sc\/kvF a.sc=kvF b.sc/\(a.time<b.time\/a.time=b.time/\a.id<b.id):=by
 unfold Wt.ahead;split
 ·split
  ·simp;omega
  ·simp;omega
 ·simp;omega
def Um {a b c:Wt} (h:a.ahead b=true) (d:b.ahead c=true):a.ahead c=true:=by
 rw [ZaL] at *;omega
def ZoS {a b:Wt} (h:a.id≠b.id) (d:a.ahead b=false):b.ahead a=true:=by
 rw [ZaL];have:¬ a.ahead b=true:=by rw [d];simp
 rw [ZaL] at this;omega
def Wt.ord (a b:Wt):Int:=if GE b.sc a.sc≠0 then GE b.sc a.sc else if a.time<b.time then -1 else if b.time<a.time then 1 else if a.id<b.id then -1 else if b.id<a.id then 1 else 0
def Zm9 {a b:Wt}:a.ord b<0↔a.ahead b=true:=by
 rw [ZaL];unfold Wt.ord GE
 repeat' split
 all_goals first|omega|(simp at *;omega)
def QSt (q:List Wt):Prop:=q.Pairwise λ a b=>a.ahead b=true
def Zwz (q:List Wt):Prop:=q.Pairwise λ a b=>a.id≠b.id
structure QOk (q:List Wt):Prop where
 st:QSt q
 ids:Zwz q
 ok:∀ w∈q,w.Ok
 fl:∀ w∈q,w.sc<18446744073709551616
 len:q.length<=200
def QOk.nil:QOk []:=⟨ju,ju,λ _ h=>(by cases h),λ _ h=>(by cases h),by simp⟩
def Zee (w:Wt) (q:List Wt):List Wt:=q.takeWhile (λ a=>a.ahead w)++w::q.dropWhile (λ a=>a.ahead w)
def Vg (w a:Wt) (q:List Wt):Zee w (a::q)=if a.ahead w then a::Zee w q else w::a::q:=by
 unfold Zee;rw [zn,zo];split<;>rfl
def VB {w x:Wt}:∀ {q:List Wt},x∈Zee w q↔x=w\/x∈q
 |[]=>by simp [Zee]
 |a::q=>by
  rw [Vg];split
  ·rw [qk,VB,qk]
   constructor
   ·rintro (h|h|h)<;>simp [h]
   ·rintro (h|h|h)<;>simp [h]
  ·rw [qk]
def ZjP {w:Wt}:∀ {q:List Wt},(Zee w q).length=q.length + 1
 |[]=>rfl
 |a::q=>by
  rw [Vg];split
  ·rw [qr,ZjP,qr]
  ·rfl
def ZnP {w:Wt}:∀ {q:List Wt},QSt q->(∀ x∈q,x.id≠w.id)->QSt (Zee w q)
 |[],_,_=>jF (λ _ h=>(by cases h)) ju
 |a::q,h,o=>by
  have u:=qC.1 h;rw [Vg];split
  ·rename_i v
   refine jF (λ x d=>?_) (ZnP u.2 λ x d=>o x (by simp [d]));rcases VB.1 d with rfl|d
   ·exact v
   ·exact u.1 x d
  ·rename_i v
   have i:w.ahead a=true:=ZoS (o a (by simp)) (by simpa using v);refine jF (λ x d=>?_) h;rcases qk.1 d with rfl|d
   ·exact i
   ·exact Um i (u.1 x d)
def ZjQ {w:Wt}:∀ {q:List Wt},Zwz q->(∀ x∈q,x.id≠w.id)->Zwz (Zee w q)
 |[],_,_=>jF (λ _ h=>(by cases h)) ju
 |a::q,h,d=>by
  have i:=qC.1 h;rw [Vg];split
  ·refine jF (λ x o=>?_) (ZjQ i.2 λ x o=>d x (by simp [o]))
   rcases VB.1 o with rfl|o
   ·exact d a (by simp)
   ·exact i.1 x o
  ·refine jF (λ x o=>?_) h
   exact λ e=>d x o e.symm
def ZrP {w:Wt} {q:List Wt} {i:Nat} (o:QSt q) (d:i=0\/∃ h:i - 1<q.length,q[i - 1].ahead w=true) (u:∀ h:i<q.length,q[i].ahead w=false) (hi:i<=q.length):Zee w q=q.take i++w::q.drop i:=by
 induction q generalizing i with
 |nil=>cases i with
  |zero=>rfl
  |succ n=>simp at hi
 |cons a q ih=>
  have v:=qC.1 o;rw [Vg];cases i with
  |zero=>rw [qc (by have:=u (by simp);simp at this;simp [this])];rfl
  |succ n=>
   have y:a.ahead w=true:=by
    rcases d with d|⟨hl,d⟩
    ·omega
    ·cases n with
     |zero=>simpa using d
     |succ m=>
      have hm:m<q.length:=by simp at hl;omega
      exact Um (v.1 q[m] (qh hm)) (by simpa using d)
   rw [qf y,ih v.2 ?_ (λ hl=>by have:=u (by simp;omega);simpa using this) (by simp at hi;exact hi)]
   ·rfl
   ·cases n with
    |zero=>exact .inl rfl
    |succ m=>
     refine .inr ⟨by simp at hi;omega,?_⟩;rcases d with d|⟨hl,d⟩
     ·omega
     ·simpa using d
def UC (id:Int) (q:List Wt):Bool:=q.any λ w=>decide (w.id=id)
def WW (q:List Wt) (w:Wt):List Wt × Int:=
 if ¬ w.Ok then (q,1) else if UC w.id q then (q,7) else if 200<=q.length then (q,3) else (Zee w q,0)
def Zbd (id:Int):List Wt->List Wt
 |[]=>[]
 |w::q=>if w.id=id then q else w::Zbd id q
def ZfV (q:List Wt) (id:Int):List Wt × Int:=if UC id q then (Zbd id q,0) else (q,2)
def Zao {id:Int} {q:List Wt}:UC id q=true↔∃ w∈q,w.id=id:=by
 unfold UC;simp
def ZrR {id:Int} {q:List Wt}:UC id q=false↔∀ w∈q,w.id≠id:=by
 unfold UC;simp
def U9 {id:Int}:∀ {q:List Wt},(Zbd id q).Sublist q
 |[]=>uG _
 |w::q=>by
  show (if w.id=id then q else w::Zbd id q).Sublist _
  split
  ·exact vR _ _
  ·exact U9.cons_cons _
def Zes {id:Int}:∀ {q:List Wt},UC id q=true->∃ A w C,q=A++w::C/\w.id=id/\(∀ x∈A,x.id≠id)/\Zbd id q=A++C
 |[],h=>by cases h
 |w::q,h=>by
  by_cases e:w.id=id
  ·exact ⟨[],w,q,rfl,e,λ _ h=>(by cases h),by show (if w.id=id then q else _)=_;rw [qf e];rfl⟩
  ·have o:UC id q=true:=by
    rw [Zao] at *;obtain ⟨x,a,hi⟩:=h;rcases qk.1 a with rfl|a
    ·exact absurd hi e
    ·exact ⟨x,a,hi⟩
   obtain ⟨A,x,C,rfl,a,i,hd⟩:=Zes o;refine ⟨w::A,x,C,rfl,a,λ y d=>?_,?_⟩
   ·rcases qk.1 d with rfl|d
    ·exact e
    ·exact i y d
   ·show (if w.id=id then _ else w::Zbd id _)=_
    rw [qc e,hd];rfl
def ZfD {id:Int} {q:List Wt} (h:Zwz q) {x:Wt}:x∈Zbd id q↔x∈q/\x.id≠id:=by
 induction q with
 |nil=>simp [Zbd]
 |cons w q ih=>
  have i:=qC.1 h;show x∈(if w.id=id then q else w::Zbd id q)↔_
  split
  ·rename_i e
   constructor
   ·exact λ a=>⟨by simp [a],λ u=>i.1 x a (by rw [e,u])⟩
   ·rintro ⟨a,v⟩
    rcases qk.1 a with rfl|a
    ·exact absurd e v
    ·exact a
  ·rename_i e
   rw [qk,ih i.2,qk];constructor
   ·rintro (rfl|⟨d,o⟩)
    ·exact ⟨.inl rfl,e⟩
    ·exact ⟨.inr d,o⟩
   ·rintro ⟨rfl|d,o⟩
    ·exact .inl rfl
    ·exact .inr ⟨d,o⟩
def QOk.del {q:List Wt} (h:QOk q) (id:Int):QOk (Zbd id q):=
 ⟨h.st.sublist U9,h.ids.sublist U9,λ w a=>h.ok w (U9.subset a),λ w a=>h.fl w (U9.subset a),jf U9.length_le h.len⟩
def QOk.ins {q:List Wt} (h:QOk q) {w:Wt} (o:w.Ok) (i:w.sc<18446744073709551616) (u:UC w.id q=false) (hl:q.length<200):QOk (Zee w q):=by
 have d:=ZrR.1 u;refine ⟨ZnP h.st d,ZjQ h.ids d,λ x a=>?_,λ x a=>?_,by rw [ZjP];omega⟩
 ·rcases VB.1 a with rfl|a
  ·exact o
  ·exact h.ok x a
 ·rcases VB.1 a with rfl|a
  ·exact i
  ·exact h.fl x a
def WZ (left:List Int) (w:Wt):Bool:=decide (w.cls<left.length) && decide (w.many<=left.getD w.cls.toNat 0)
def Ys (q:List Wt) (left:List Int):Option Wt:=q.find? (WZ left)
def ZkX {q:List Wt} {left:List Int} {w:Wt} (h:Ys q left=some w):w∈q/\WZ left w=true:=
 ⟨List.mem_of_find?_eq_some h,List.find?_some h⟩
def G2:List Int:=[65,66,67,68,69,70,71,72,74,75,76,77,78,80,81,82,84,85,86,87,88,89,90,50,51,52,53,54,55,56,57]
def Zgl:G2.length=31:=rfl
def Xt (c:Int):Nat->List Int->Int
 |_,[]=>-1
 |i,x::l=>if x=c then i else Xt c (i + 1) l
def ZA (c:Int):Int:=Xt c 0 G2
def Zbi (c:Int):∀ (i:Nat) (l:List Int),Xt c i l=-1\/(i<=Xt c i l/\Xt c i l<i + l.length)
 |_,[]=>.inl rfl
 |i,x::l=>by
  unfold Xt;split
  ·right;simp;omega
  ·rcases Zbi c (i + 1) l with h|h
   ·exact .inl h
   ·right;simp;omega
def ZeD (c:Int):ZA c=-1\/(0<=ZA c/\ZA c<31):=by
 have:=Zbi c 0 G2;rw [Zgl] at this;unfold ZA;omega
def UO (c:Int):∀ (i:Nat) (l:List Int),(∀ k (hk:k<l.length),(∀ j (hj:j<k),l[j]'(by omega)≠c)->l[k]=c->Xt c i l=(i + k:Nat))/\((∀ x∈l,x≠c)->Xt c i l=-1)
 |i,[]=>⟨λ k hk=>(by simp at hk),λ _=>rfl⟩
 |i,x::l=>by
  refine ⟨λ k hk hj a=>?_,λ h=>?_⟩
  ·cases k with
   |zero=>unfold Xt;rw [qf (by simpa using a)];simp
   |succ n=>
    have d:x≠c:=by simpa using hj 0 (by omega)
    unfold Xt;rw [qc d,(UO c (i + 1) l).1 n (by simp at hk;omega) (λ j o=>by simpa using hj (j + 1) (by omega)) (by simpa using a)];omega
  ·unfold Xt
   rw [qc (h x (by simp)),(UO c (i + 1) l).2 λ y u=>h y (by simp [u])]
def Ze9 (l:List Int):Int:=l.foldl (λ n d=>n * 31 + d) 0
def Vp:Int->List Int->Int
 |_,[]=>0
 |k,d::l=>k * d + Vp (k + 1) l
def Zo5 (k:Int) (a b:List Int):Vp k (a++b)=Vp k a + Vp (k + a.length) b:=by
 induction a generalizing k with
 |nil=>simp [Vp]
 |cons x a ih=>simp only [qU,Vp,ih,qr];rw [show k + 1 + (a.length:Int)=k + ((a.length + 1:Nat):Int) by omega];omega
def ZjL (a:List Int) (d:Int):Ze9 (a++[d])=Ze9 a * 31 + d:=by simp [Ze9]
def WG (n:Int):List Int:=[n / 923521 % 31,n / 29791 % 31,n / 961 % 31,n / 31 % 31,n % 31]
def Zoa (n:Int):∀ d∈WG n,0<=d/\d<31:=by
 intro d hd;simp only [WG,qk,qO,jP] at hd;omega
def ZlS (n:Int):Int:=(31 - Vp 2 (WG n) % 31) % 31
def Vw (d:Int):Int:=G2.getD d.toNat 0
def ZpK (n:Int):List Int:=(WG n++[ZlS n]).map Vw
def Xj (bs:List Int):Int × Int:=
 if bs.length≠6\/(∃ c∈bs,ZA c<0) then (0,6)
 else if (Vp 2 ((bs.take 5).map ZA) + ZA (bs.getD 5 0)) % 31≠0 then (0,6)
 else (Ze9 ((bs.take 5).map ZA),0)
def Zfa (n:Int):(ZpK n).length=6:=rfl
def Zos (n:Int):0<=ZlS n/\ZlS n<31:=by unfold ZlS;omega
def Zns:∀ {l:List Int} {a:Int} {k:Nat},(∀ d∈l,0<=d/\d<31)->(0<=a/\a<31 ^ k)->0<=l.foldl (λ n d=>n * 31 + d) a/\l.foldl (λ n d=>n * 31 + d) a<31 ^ (k + l.length)
 |[],_,_,_,h=>h
 |d::l,a,k,hd,h=>by
  have u:=hd d (by simp);have o:=Zns (l:=l) (a:=a * 31 + d) (k:=k + 1) (λ x i=>hd x (by simp [i])) (by rw [Int.pow_succ];omega);rw [qr,show k + (l.length + 1)=k + 1 + l.length by omega];exact o
def Znr {l:List Int} (h:∀ d∈l,0<=d/\d<31):0<=Ze9 l/\Ze9 l<31 ^ l.length:=by
 have:=Zns (a:=0) (k:=0) h ⟨by omega,by simp⟩;rw [jb] at this;exact this
section
section
variable {α:Type} {k:α->Int}
def X8 (k:α->Int) (l:List α):Prop:=l.Pairwise λ a b=>k a<k b
def ZrJ (k:α->Int) (n:Int) (l:List α):Option α:=l.find? λ x=>decide (k x=n)
def V5 (k:α->Int) (n:Int) (f:α->α) (l:List α):List α:=l.map λ x=>if k x=n then f x else x
def Zfi (k:α->Int) (n:Int) (l:List α):List α:=l.filter λ x=>!decide (k x=n)
def ZiA (k:α->Int) (x:α) (l:List α):List α:=l.takeWhile (λ y=>decide (k y<k x))++x::l.dropWhile (λ y=>decide (k y<k x))
def X8.uniq {l:List α} (h:X8 k l) {a b:α} (i:a∈l) (u:b∈l) (e:k a=k b):a=b:=by
 induction l with
 |nil=>cases i
 |cons x l ih=>
  have d:=qC.1 h;rcases qk.1 i with e1|v
  ·rcases qk.1 u with e2|o
   ·rw [e1,e2]
   ·have:=d.1 b o;rw [e1] at e;omega
  ·rcases qk.1 u with e2|o
   ·have:=d.1 a v;rw [e2] at e;omega
   ·exact ih d.2 v o
def Uz {n:Int} {l:List α} {x:α} (h:ZrJ k n l=some x):x∈l/\k x=n:=
 ⟨List.mem_of_find?_eq_some h,by have:=List.find?_some h;simpa using this⟩
def UA {n:Int} {l:List α}:ZrJ k n l=none↔∀ x∈l,k x≠n:=by
 unfold ZrJ;rw [List.find?_eq_none];simp
def Zfh {n:Int} {l:List α} (h:X8 k l) {x:α}:ZrJ k n l=some x↔x∈l/\k x=n:=by
 refine ⟨Uz,λ⟨a,o⟩=>?_⟩;cases d:ZrJ k n l with
 |none=>exact absurd o (UA.1 d x a)
 |some y=>
  have:=Uz d;rw [h.uniq this.1 a (by omega)]
def Yj {n:Int} {f:α->α} {l:List α} {y:α}:y∈V5 k n f l↔∃ x∈l,y=if k x=n then f x else x:=by
 unfold V5;rw [qm];exact ⟨λ⟨x,h,a⟩=>⟨x,h,a.symm⟩,λ⟨x,h,a⟩=>⟨x,h,a.symm⟩⟩
def WY {n:Int} {l:List α} {y:α}:y∈Zfi k n l↔y∈l/\k y≠n:=by
 unfold Zfi;rw [vE];simp
def Zfg {n:Int} {f:α->α} {l:List α}:(V5 k n f l).length=l.length:=qa _
def Zaj {n:Int} {f:α->α} {l:List α} (h:X8 k l) (o:∀ x∈l,k x=n->k (f x)=n):X8 k (V5 k n f l):=by
 unfold X8 V5;rw [vt];refine List.Pairwise.imp_of_mem (λ {a b} i u d=>?_) h;have v:k (if k a=n then f a else a)=k a:=by
  split
  ·rename_i e;rw [o a i e,e]
  ·rfl
 have y:k (if k b=n then f b else b)=k b:=by
  split
  ·rename_i e;rw [o b u e,e]
  ·rfl
 rw [v,y];exact d
def ZnF {n:Int} {l:List α} (h:X8 k l):X8 k (Zfi k n l):=h.sublist vf
def ZnB {n:Int} {f:α->α} {l:List α} (h:∀ x∈l,k x≠n):V5 k n f l=l:=by
 induction l with
 |nil=>rfl
 |cons a l ih=>
  show (if k a=n then f a else a)::V5 k n f l=_
  rw [qc (h a (by simp)),ih λ x d=>h x (by simp [d])]
def ZnG {n:Int} {l:List α} (h:∀ x∈l,k x≠n):Zfi k n l=l:=by
 unfold Zfi;rw [jS];intro x a;simpa using h x a
def Zff {n:Int} {f:α->α} {A C:List α} {x:α} (o:k x=n) (h:X8 k (A++x::C)):V5 k n f (A++x::C)=A++f x::C:=by
 have d:=ji.1 h;have i:=qC.1 d.2.1;have e1:V5 k n f A=A:=ZnB λ y a=>by have:=d.2.2 y a x (by simp);omega
 have e2:V5 k n f C=C:=ZnB λ y a=>by have:=i.1 y a;omega
 show List.map _ (A++x::C)=_;rw [qe,qi,qf o];show V5 k n f A++f x::V5 k n f C=_;rw [e1,e2]
def ZpN {n:Int} {A C:List α} {x:α} (o:k x=n) (h:X8 k (A++x::C)):Zfi k n (A++x::C)=A++C:=by
 have d:=ji.1 h;have i:=qC.1 d.2.1;have e1:Zfi k n A=A:=ZnG λ y a=>by have:=d.2.2 y a x (by simp);omega
 have e2:Zfi k n C=C:=ZnG λ y a=>by have:=i.1 y a;omega
 show List.filter _ (A++x::C)=_;rw [j4,vy,qc (by simpa using o)];show Zfi k n A++Zfi k n C=_;rw [e1,e2]
def VU (x a:α) (l:List α):ZiA k x (a::l)=if k a<k x then a::ZiA k x l else x::a::l:=by
 unfold ZiA;rw [zn,zo];by_cases h:k a<k x
 ·rw [qE h,qf h];rfl
 ·rw [qz h,qc h];rfl
def Ud {x y:α}:∀ {l:List α},y∈ZiA k x l↔y=x\/y∈l
 |[]=>by simp [ZiA]
 |a::l=>by
  rw [VU];split
  ·rw [qk,Ud,qk]
   constructor
   ·rintro (h|h|h)<;>simp [h]
   ·rintro (h|h|h)<;>simp [h]
  ·rw [qk]
def ZjN {x:α}:∀ {l:List α},(ZiA k x l).length=l.length + 1
 |[]=>rfl
 |a::l=>by
  rw [VU];split
  ·rw [qr,ZjN,qr]
  ·rfl
def Zhc {x:α}:∀ {l:List α},X8 k l->(∀ y∈l,k y≠k x)->X8 k (ZiA k x l)
 |[],_,_=>jF (λ _ h=>(by cases h)) ju
 |a::l,h,i=>by
  have o:=qC.1 h;rw [VU];split
  ·rename_i u
   refine jF (λ y d=>?_) (Zhc o.2 λ y d=>i y (by simp [d]));rcases Ud.1 d with rfl|d
   ·exact u
   ·exact o.1 y d
  ·rename_i u
   have:=i a (by simp);refine jF (λ y d=>?_) h;rcases qk.1 d with rfl|d
   ·omega
   ·have:=o.1 y d;omega
def Zhd {x:α}:∀ {l:List α},(ZiA k x l).Perm (x::l)
 |[]=>jD _
 |a::l=>by
  rw [VU];split
  ·exact (Zhd.cons a).trans (List.Perm.swap x a l)
  ·exact jD _
def Zlk {l:List α} {x:α} (h:X8 k l) (d:∀ y∈l,k y<k x):X8 k (l++[x]):=by
 refine ji.2 ⟨h,List.pairwise_singleton _ _,λ a o b i=>?_⟩;rw [qK.1 i];exact d a o
def X8.ne {l:List α} (h:X8 k l):l.Pairwise λ a b=>k a≠k b:=h.imp λ d e=>by omega
end
def ZpD {l m:List Int} (h:l.Nodup) (hs:∀ x∈l,x∈m):l.length<=m.length:=by
 induction l generalizing m with
 |nil=>simp
 |cons a l ih=>
  have d:=j8.1 h;have o:=hs a (by simp);have u:=ih (m:=m.erase a) d.2 λ x i=>by
   refine (List.mem_erase_of_ne ?_).2 (hs x (by simp [i]));rintro rfl;exact d.1 i
  have v:=uM o;have y:0<m.length:=uV o;rw [qr];omega
end
end Go.VC

namespace Go.VC
def ZoR {x:Nat} (h:x<18446744073709551616):x &&& 9223372036854775808=if x<9223372036854775808 then 0 else 9223372036854775808:=by
 have e:(9223372036854775808:Nat)=2 ^ 63:=by decide
 apply Nat.eq_of_testBit_eq;intro i;rw [Nat.testBit_and];by_cases hi:63=i
 ·subst hi
  have d:x.testBit 63=decide (¬ x<9223372036854775808):=by
   rw [Nat.testBit_eq_decide_div_mod_eq,<-e];exact qJ.2 (by omega)
  have a:Nat.testBit 9223372036854775808 63=true:=by rw [e,zp];simp
  rw [d,a];split
  ·rw [qz (by omega)];simp
  ·rw [qE (by assumption)];simp [a]
 ·have a:Nat.testBit 9223372036854775808 i=false:=by rw [e,zp];simp [hi]
  rw [a];split<;>simp [a]
def ZuR {x:Nat} (h:x<9223372036854775808):x|||9223372036854775808=x + 9223372036854775808:=by
 have:=ux (i:=63) (b:=x) (by simpa using h) 1;rw [Nat.or_comm];simp only [va] at this;have e:(2:Nat) ^ 63=9223372036854775808:=by decide
 rw [e] at this;omega
def Znf {x:Nat} (h:x<18446744073709551616):IntKind.u64.wrap ((BitVec.ofInt IntKind.u64.bits (if IntKind.u64.signed=true then -1 else IntKind.u64.max) ^^^ BitVec.ofInt IntKind.u64.bits (x:Int)).toNat:Int)=((18446744073709551615 - x:Nat):Int):=by
 have e1:BitVec.ofInt IntKind.u64.bits (if IntKind.u64.signed=true then -1 else IntKind.u64.max)=BitVec.allOnes 64:=by
  show BitVec.ofInt 64 18446744073709551615=BitVec.allOnes 64;decide
 have e2:(BitVec.ofInt 64 (x:Int)).toNat=x:=Ge 64 x (by simpa using h);rw [e1];show IntKind.u64.wrap (((BitVec.allOnes 64 ^^^ BitVec.ofInt 64 (x:Int)).toNat:Nat):Int)=_;rw [BitVec.xor_comm,BitVec.xor_allOnes,zK,e2];have e3:(2:Nat) ^ 64 - 1 - x=18446744073709551615 - x:=by
  have:(2:Nat) ^ 64=18446744073709551616:=by decide
  rw [this]
 rw [e3];exact ZM
def ZlM {k:Nat} (h:k<18446744073709551616) (a:9223372036854775808<=k):ZaH .andNot .u64 (k:Int) 9223372036854775808=((k - 9223372036854775808:Nat):Int):=by
 have e1:(BitVec.ofInt 64 (k:Int)).toNat=k:=Ge 64 k (by simpa using h);have e2:(BitVec.ofInt 64 9223372036854775808).toNat=9223372036854775808:=by decide
 have e3:(BitVec.ofInt 64 (k:Int) &&& ~~~ BitVec.ofInt 64 9223372036854775808).toNat=k - 9223372036854775808:=by
  rw [zH,zK,e1,e2];have e4:(2:Nat) ^ 64 - 1 - 9223372036854775808=2 ^ 63 - 1:=by decide
  rw [e4,Nat.and_two_pow_sub_one_eq_mod];have e5:(2:Nat) ^ 63=9223372036854775808:=by decide
  rw [e5];omega
 show IntKind.u64.wrap (((BitVec.ofInt 64 (k:Int) &&& ~~~ BitVec.ofInt 64 9223372036854775808).toNat:Nat):Int)=_;rw [e3];exact ZM
section
open Go.ChangeShapes Go.WideShapes Go.ChangeAt Go.RowKit
def Zqe {W a:World} {Hs:List HP} (h:Sat (Cx.of W) Hs a):Below W.heap.size W a:=by
 obtain ⟨o,i,u⟩:=h.streams;have d:∀ k,k<W.heap.size->a.heap[k]? =W.heap[k]?:=λ k hk=>by
  have:(Cx.of W).m k=some W.heap[k]:=by simp [Cx.of,hk]
  rw [h.of_ro this];simp [hk]
 refine ⟨o,i,u,?_,d⟩;rcases vO a.heap.size W.heap.size with hl|hl
 ·have:=d a.heap.size hl
  rw [Array.getElem?_eq_none (jc _)] at this;simp [hl] at this
 ·exact hl
def ZfO {w:World} {a:Addr} {v:Value} (h:w.cell? a=some v):a.spot=none/\∃ l T fr,w.heap[a.block]? =some (.cells l T fr)/\l[a.off]? =some v:=by
 unfold World.cell? at h;split at h
 ·rename_i c T fr d
  split at h
  ·cases h
  ·rename_i hs
   exact ⟨by simpa using hs,c,T,fr,d,h⟩
 ·cases h
section
variable {H:Type} {enc:TypeId × Value->H} {P:Program} {W:World} {base:Nat} {spare:Nat->Bool} {held:Bool}
end
end
end Go.VC

namespace Go.VC
section
open Go.ChangeShapes Go.WideShapes Go.ChangeAt Go.RowKit
inductive Tr where
 |int (k:IntKind) (n:Int)|bool (b:Bool)|flt (n:Nat)|str (s:ByteArray)|sl (s:Sl) (xs:List Tr)|st (xs:List Tr)
mutual
def Tr.cells:Tr->List Value
 | .int k n=>[.int k n]
 | .bool b=>[.bool b]
 | .flt n=>[.float .f64 n]
 | .str s=>[.string s]
 | .sl s _=>[.slice s.a s.len s.cap]
 | .st xs=>Tr.cellsL xs
def Tr.cellsL:List Tr->List Value
 |[]=>[]
 |x::xs=>x.cells++Tr.cellsL xs
end
inductive U where
 |int (k:IntKind)|bool|flt|str|sl (u:U)|st (us:List U)
mutual
def U.size:U->Nat
 | .st us=>U.sizeL us
 |_=>1
def U.sizeL:List U->Nat
 |[]=>0
 |u::us=>u.size + U.sizeL us
end
mutual
def Tr.Ok (R:Cx):U->Tr->Prop
 | .int k,.int k' n=>k'=k/\(Lit.int k n).wf=true
 | .bool,.bool _=>True
 | .flt,.flt n=>(Lit.float .f64 n).wf=true
 | .str,.str s=>s.size<=maxLen
 | .sl u,.sl s xs=>(RoN u.size R s (xs.map Tr.cells)/\s.len<=s.cap)/\xs.length<=maxLen/\Tr.OkA R u xs
 | .st us,.st xs=>Tr.OkL R us xs
 |_,_=>False
def Tr.OkA (R:Cx) (u:U):List Tr->Prop
 |[]=>True
 |x::xs=>Tr.Ok R u x/\Tr.OkA R u xs
def Tr.OkL (R:Cx):List U->List Tr->Prop
 |[],[]=>True
 |u::us,x::xs=>Tr.Ok R u x/\Tr.OkL R us xs
 |_,_=>False
end
def Tr.okA {R:Cx} {u:U}:∀ {xs:List Tr},Tr.OkA R u xs->∀ x∈xs,Tr.Ok R u x
 |[],_,x,a=>by cases a
 |y::ys,h,x,a=>by
  unfold Tr.OkA at h;rcases qk.1 a with rfl|a
  ·exact h.1
  ·exact Tr.okA h.2 x a
def Tr.okA_mk {R:Cx} {u:U}:∀ {xs:List Tr},(∀ x∈xs,Tr.Ok R u x)->Tr.OkA R u xs
 |[],_=>by unfold Tr.OkA;trivial
 |y::ys,h=>by
  unfold Tr.OkA;exact ⟨h y qq,Tr.okA_mk λ x a=>h x (qj _ a)⟩
def Zc5 (P:Program) (f:TypeId->Option U):Nat->List Field->Option (List U)
 |_,[]=>some []
 |off,x::xs=>match Nat.beq x.offset off with
  |false=>none
  |true=>match f x.type with
   |none=>none
   |some u=>match Nat.beq (P.cellsOf x.type) u.size with
    |false=>none
    |true=>match Zc5 P f (off + u.size) xs with
     |none=>none
     |some us=>some (u::us)
def uOf (P:Program):Nat->TypeId->Option U
 |0,_=>none
 |d + 1,t=>match P.underlying t with
  |some (.int k)=>some (.int k)
  |some .bool=>some .bool
  |some (.float .f64)=>some .flt
  |some .string=>some .str
  |some (.slice e)=>match uOf P d e with
   |some u=>(match Nat.beq (P.cellsOf e) u.size && Nat.blt 0 u.size with|true=>some (.sl u)|false=>none)
   |none=>none
  |some (.struct fs)=>match Zc5 P (uOf P d) 0 fs.toList with
   |some us=>(match Nat.beq (P.cellsOf t) (U.sizeL us) with|true=>some (.st us)|false=>none)
   |none=>none
  |some (.array n e)=>match uOf P d e with
   |some u=>(match Nat.beq (P.cellsOf e) u.size && Nat.beq (P.cellsOf t) (n * u.size) with|true=>some (.st (List.replicate n u))|false=>none)
   |none=>none
  |_=>none
section
variable {H:Type} {enc:TypeId × Value->H} {P:Program} {W:World} {base:Nat} {spare:Nat->Bool} {held:Bool}
def ZwM (R:Cx) (u:U) (cs:List Value):Prop:=∃ x:Tr,x.cells=cs/\x.Ok R u
def GQ {w:World} {base:Nat} {a:Addr} {n:Nat} {cs:List Value} (h:w.cells? base a n=some cs):cs.length=n/\∀ i,i<n->w.cell? (a.add i)=cs[i]?:=by
 unfold World.cells? at h;split at h
 ·refine ⟨by have:=mapM_some_length h;simpa using this,λ i hi=>mapM_some_get h i i (by simp [hi])⟩
 ·cases h
def Zuz (a:Addr) (i j:Nat) (hs:a.spot=none):(a.add i).add j=⟨a.block,a.off + (i + j),none⟩:=by
 obtain ⟨b,o,s⟩:=a;simp only at hs;subst hs;rw [Zs,Zs,jL]
def Zc4 {d:Nat} (m:∀ {o:Nat} {t:TypeId} {cs:List Value} {y:DataW H × List MemPlace} {u:U},uOf P d t=some u->DataW.trod enc P W base spare held o t cs=some y->ZwM (Cx.of W) u cs) {n:Nat} {cs:List Value} {xs:List (DataW H × List MemPlace)}:
  ∀ (fs:List Field) (off:Nat) (us:List U),Zc5 P (uOf P d) off fs=some us->(∀ (i:Nat) (f:Field),fs[i]? =some f->∃ y,DataW.trod enc P W base spare held n f.type ((cs.drop f.offset).take (P.cellsOf f.type))=some y)->
   off + U.sizeL us<=cs.length->∃ ts:List Tr,Tr.cellsL ts=(cs.drop off).take (U.sizeL us)/\Tr.OkL (Cx.of W) us ts
 |[],off,us,h,_,_=>by
  simp only [Zc5,qM] at h;subst h;exact ⟨[],by simp [Tr.cellsL,U.sizeL],by unfold Tr.OkL;trivial⟩
 |f::fs,off,us,h,p,hl=>by
  unfold Zc5 at h;split at h
  ·cases h
  rename_i a;have a:=qA a;split at h
  ·cases h
  rename_i u q;split at h
  ·cases h
  rename_i z;have z:=qA z;split at h
  ·cases h
  rename_i us' j;cases h;simp only [U.sizeL] at hl ⊢;obtain ⟨y,r⟩:=p 0 f rfl;obtain ⟨x,s,k⟩:=m q r;obtain ⟨ts,l,v⟩:=Zc4 m (n:=n) (xs:=xs) fs (off + u.size) us' j (λ i g e=>p (i + 1) g (by simpa using e)) (by omega);refine ⟨x::ts,?_,by unfold Tr.OkL;exact ⟨k,v⟩⟩;simp only [Tr.cellsL];rw [s,l,a,z,List.take_add,jE]
def ZgH {u:U} {n s:Nat}:∀ {m:Nat} {cs:List Value},cs.length=m * s->u.size=s->(∀ i,i<m->ZwM (Cx.of W) u ((cs.drop (i * s)).take s))->∃ ts:List Tr,Tr.cellsL ts=cs/\Tr.OkL (Cx.of W) (List.replicate m u) ts
 |0,cs,hl,_,_=>by
  have:cs=[]:=jO.1 (by simpa using hl);subst this;exact ⟨[],rfl,by unfold Tr.OkL;trivial⟩
 |m + 1,cs,hl,hs,h=>by
  obtain ⟨x,v,d⟩:=h 0 (by omega);obtain ⟨ts,o,a⟩:=ZgH (n:=n) (m:=m) (cs:=cs.drop s) (by rw [qx,hl,jA];omega) hs (λ i hi=>by
   have:=h (i + 1) (by omega);rw [jA,uH,uw,<-jE] at this;exact this)
  refine ⟨x::ts,?_,by rw [List.replicate_succ];unfold Tr.OkL;exact ⟨d,a⟩⟩;simp only [Tr.cellsL];rw [v,o];simp
def Zdf {α β:Type} {p:Nat->α->Prop}:∀ {n:Nat},(∀ i,i<n->∃ x:α,p i x)->∃ xs:List α,xs.length=n/\∀ i (hi:i<xs.length),p i xs[i]
 |0,_=>⟨[],rfl,λ i hi=>by simp at hi⟩
 |n + 1,h=>by
  obtain ⟨xs,hl,d⟩:=Zdf (β:=β) (n:=n) λ i hi=>h i (by omega);obtain ⟨x,o⟩:=h n (by omega);refine ⟨xs++[x],by simp [hl],λ i hi=>?_⟩;by_cases a:i<xs.length
  ·rw [List.getElem_append_left a];exact d i a
  ·have:i=n:=by simp at hi;omega
   subst this;rw [List.getElem_append_right (by omega)];simpa using o
def Zpb {a:Nat} {t:TypeId} {cs:List Value} {x:DataW H × List MemPlace} (ht:P.underlying t=some (.float .f64)) (h:DataW.trod enc P W base spare held a t cs=some x):∃ n,cs=[.float .f64 n]/\(Lit.float .f64 n).wf=true:=by
 cases a with
 |zero=>simp [DataW.trod] at h
 |succ n=>
  unfold DataW.trod at h;rw [ht] at h;split at h<;>simp_all
def ZeH:∀ {d D:Nat} {t:TypeId} {cs:List Value} {y:DataW H × List MemPlace} {u:U},uOf P d t=some u->DataW.trod enc P W base spare held D t cs=some y->ZwM (Cx.of W) u cs
 |0,_,_,_,_,_,h,_=>by cases h
 |d + 1,D,t,cs,y,u,h,I=>by
  unfold uOf at h;split at h
  ·rename_i k ht
   cases h;obtain ⟨n,rfl,_,hw⟩:=DataW.trod_int ht I;exact ⟨.int k n,rfl,rfl,hw⟩
  ·rename_i ht
   cases h;obtain ⟨b,rfl,_⟩:=DataW.trod_bool ht I;exact ⟨.bool b,rfl,by unfold Tr.Ok;trivial⟩
  ·rename_i ht
   cases h;obtain ⟨n,rfl,hn⟩:=Zpb ht I;exact ⟨.flt n,rfl,by unfold Tr.Ok;exact hn⟩
  ·rename_i ht
   cases h;obtain ⟨s,rfl,_,hs⟩:=DataW.trod_string ht I;exact ⟨.str s,rfl,hs⟩
  ·rename_i e ht
   split at h
   case h_2=>cases h
   rename_i ue J;split at h
   case h_2=>cases h
   rename_i o;simp only [ql] at o;have h7:0<ue.size:=ub.mp o.2;have o:=qA o.1;cases h;rcases DataW.trod_slice ht I with ⟨rfl,_⟩|⟨a,len,cap,X,rest,n,_,rfl,_,_,Y,h8,h9,L,_,_⟩
   ·refine ⟨.sl ⟨none,0,0⟩ [],rfl,?_⟩
    unfold Tr.Ok;exact ⟨⟨⟨Wid.nil,rfl,λ h=>absurd rfl h⟩,jc _⟩,jB _,by unfold Tr.OkA;trivial⟩
   ·obtain ⟨xs,q,c⟩:=Zdf (β:=Unit) (p:=λ i (x:Tr)=>W.cells? base (a.add (i * P.cellsOf e)) (P.cellsOf e)=some x.cells/\x.Ok (Cx.of W) ue) (n:=len) λ i hi=>by
     have V:=L i hi;rw [List.getElem?_eq_getElem (by omega)] at V;obtain ⟨ce,S,C⟩:=Option.bind_eq_some_iff.1 V;obtain ⟨x,rfl,Q⟩:=ZeH J C;exact ⟨x,S,Q⟩
    refine ⟨.sl ⟨some a,len,cap⟩ xs,rfl,?_⟩;unfold Tr.Ok;have z:Wid ue.size (xs.map Tr.cells):=λ r hr=>by
     obtain ⟨x,Q,rfl⟩:=qm.1 hr;obtain ⟨i,hi,rfl⟩:=je Q;have:=(GQ (c i hi).1).1;rw [this,o]
    refine ⟨⟨⟨z,by simp [q],λ B=>?_⟩,Y⟩,by omega,Tr.okA_mk λ x Q=>by obtain ⟨i,hi,rfl⟩:=je Q;exact (c i hi).2⟩
    -- the block
    have h0:0<xs.length:=by
     have:0<(xs.map Tr.cells).length:=ve.2 B;simpa using this
    have g:∀ i (hi:i<xs.length) j,j<ue.size->W.cell? ((a.add (i * ue.size)).add j)=(xs[i].cells)[j]?:=λ i hi j hj=>by
     have:=(GQ (c i hi).1).2 j (by rw [o];exact hj);rw [o] at this;exact this
    have E:∀ i (hi:i<xs.length),(xs[i].cells).length=ue.size:=λ i hi=>by rw [(GQ (c i hi).1).1,o]
    have M:=g 0 h0 0 (by omega);rw [List.getElem?_eq_getElem (by rw [E 0 h0];omega)] at M;have K:(a.add (0 * ue.size)).add 0=a:=by rw [zA];simp [Addr.add]
    rw [K] at M;obtain ⟨hs,l,T,fr,hl,_⟩:=ZfO M;refine ⟨a.block,a.off,l,T,fr,by cases a;simp_all,hl,λ i v hv=>?_⟩
    -- which row, which place
    have F:=z.len;rw [qa] at F;have hi:i<(xs.map Tr.cells).flatten.length:=(List.getElem?_eq_some_iff.1 hv).1;have R:i / ue.size<xs.length:=by
     rw [F] at hi;exact zh (by rwa [jX])
    have hm:i % ue.size<ue.size:=zR _ (by omega);have A:=g (i / ue.size) R (i % ue.size) hm;rw [Zuz a _ _ hs,show i / ue.size * ue.size + i % ue.size=i by rw [jX];exact Nat.div_add_mod _ _] at A;have e1:(xs.map Tr.cells).flatten[i]? =(xs[i / ue.size].cells)[i % ue.size]?:=by
     have V:i=i / ue.size * ue.size + i % ue.size:=by rw [jX];exact (Nat.div_add_mod _ _).symm
     conv=>lhs;rw [V]
     rw [<-List.getElem?_drop,z.drop_flat,qv (by simpa using R),jt,List.getElem?_append_left (by rw [qX,E _ R];exact hm),qX]
    rw [<-e1,hv] at A;simp only [World.cell?,hl,jN,qy,jq] at A;exact A
  ·rename_i fs ht
   split at h
   case h_2=>cases h
   rename_i us w;split at h
   case h_2=>cases h
   rename_i o;have o:=qA o;cases h;obtain ⟨xs,n,_,_,hl,q,hf⟩:=DataW.trod_struct ht I;obtain ⟨ts,N,O⟩:=Zc4 (d:=d) (λ h h2=>ZeH h h2) (n:=n) (cs:=cs) (xs:=xs) fs.toList 0 us w (λ i f h3=>by
    have G:fs[i]? =some f:=by simpa using h3
    have h4:i<xs.length:=by rw [q];exact (Array.getElem?_eq_some_iff.1 G).1
    exact ⟨xs[i],by rw [hf i f G];exact List.getElem?_eq_getElem h4⟩) (by omega)
   refine ⟨.st ts,?_,by unfold Tr.Ok;exact O⟩;unfold Tr.cells;rw [N,zk,qg (by omega)]
  ·rename_i m e ht
   split at h
   case h_2=>cases h
   rename_i ue J;split at h
   case h_2=>cases h
   rename_i o;simp only [ql] at o;have h5:=qA o.1;have h6:=qA o.2;cases h;obtain ⟨xs,n,_,_,hl,q,hf⟩:=DataW.trod_array ht I;obtain ⟨ts,N,O⟩:=ZgH (n:=n) (u:=ue) (s:=ue.size) (m:=m) (cs:=cs) (by rw [hl,h6]) rfl (λ i hi=>by
    have:=hf i hi;rw [h5,List.getElem?_eq_getElem (by omega)] at this;exact ZeH J this)
   exact ⟨.st ts,by unfold Tr.cells;exact N,by unfold Tr.Ok;exact O⟩
  ·cases h
def ZuK {d:Nat} {t:TypeId} {v:Value} {o:DataW H} {p:List MemPlace} {u:U} (i:uOf P d t=some u) (h:DataW.Trod enc P W base spare held t v o p):ZwM (Cx.of W) u v.cells.toList:=by
 obtain ⟨a,y⟩:=h;exact ZeH i y
def Zml {α:Type} {R:Cx} {u:U} {s:Sl} {xs:List Tr} (g:α->List Value) (Q:α->Prop) (i:Tr.Ok R (.sl u) (.sl s xs)) (h:∀ x:Tr,x.Ok R u->∃ e:α,x.cells=g e/\Q e):
  ∃ es:List α,RoN u.size R s (es.map g)/\es.length<=maxLen/\∀ e∈es,Q e:=by
 unfold Tr.Ok at i;obtain ⟨⟨d,_⟩,v,o⟩:=i;have key:∀ l:List Tr,(∀ x∈l,x.Ok R u)->∃ es:List α,l.map Tr.cells=es.map g/\es.length=l.length/\∀ e∈es,Q e:=λ l=>by
  induction l with
  |nil=>exact λ _=>⟨[],rfl,rfl,λ _ h=>by cases h⟩
  |cons x l ih=>
   intro hl;obtain ⟨es,d,v,o⟩:=ih λ y a=>hl y (qj _ a);obtain ⟨e,z,j⟩:=h x (hl x qq);exact ⟨e::es,by rw [qi,qi,z,d],by simp [v],λ y a=>by
    rcases qk.1 a with rfl|a
    ·exact j
    ·exact o y a⟩
 obtain ⟨es,k,n,m⟩:=key xs (Tr.okA o);rw [k] at d;exact ⟨es,d,by omega,m⟩
def ZuN {R:Cx} {u:U} {s:Sl} {xs:List Tr} (h:Tr.Ok R (.sl u) (.sl s xs)):s.len<=s.cap:=by
 unfold Tr.Ok at h;exact h.1.2
def RoN.one {R:Cx} {s:Sl} {vs:List Value} (h:RoN 1 R s (vs.map λ v=>[v])) (d:vs.length<=maxLen):Ro R s vs:=by
 refine ⟨by have:=h.len;simpa using this,by unfold maxLen at d;omega,λ a=>?_⟩;obtain ⟨b,off,l,T,fr,y,z,o⟩:=h.mem (by simpa using a);refine ⟨b,off,l,T,fr,y,z,λ i v u=>o i v ?_⟩;have:(vs.map λ v=>[v]).flatten=vs:=by
  clear o h d a u
  induction vs with
  |nil=>rfl
  |cons v vs ih=>simp [ih]
 rw [this];exact u
def ZnN {R:Cx} {k:IntKind} {s:Sl} {xs:List Tr} (o:Tr.Ok R (.sl (.int k)) (.sl s xs)):∃ h:List Int,Ro R s (h.map (Value.int k))/\h.length<=maxLen/\∀ z∈h,(Lit.int k z).wf=true:=by
 obtain ⟨h,i,a,u⟩:=Zml (λ z:Int=>[Value.int k z]) (λ z=>(Lit.int k z).wf=true) o λ x d=>by
  cases x<;>simp only [Tr.Ok] at d;rename_i k' z;obtain ⟨rfl,v⟩:=d;exact ⟨z,rfl,v⟩
 refine ⟨h,RoN.one ?_ (by simpa using a),a,u⟩;rw [qZ];exact i
end
end
end Go.VC

namespace Go.VC
section
def ZiP {α:Type} {l:List (En α)} {d:Array Nat} {a b:List (En α)} {x:En α} (u:(l.map (·.2.2)).Nodup) (h:l.filter (λ e=>!d.contains e.2.2)=a++x::b):l.filter (λ e=>!(d.push x.2.2).contains e.2.2)=a++b:=by
 have e1:l.filter (λ e=>!(d.push x.2.2).contains e.2.2)=(l.filter λ e=>!d.contains e.2.2).filter λ e=>!decide (e.2.2=x.2.2):=by
  rw [List.filter_filter];refine List.filter_congr λ y _=>?_;rw [Array.contains_push,Bool.not_or,Bool.and_comm]
  congr 1
 rw [e1,h,j4,vy];have o:((a++x::b).map (·.2.2)).Nodup:=by
  rw [<-h];exact ((vf.map _).nodup u)
 rw [qe,qi,jQ,j8] at o;rw [qc (by simp)];rw [jS.2,jS.2]
 ·intro y i
  have:¬ y.2.2=x.2.2:=λ e=>o.2.1.1 (by rw [<-e];exact qm.2 ⟨y,i,rfl⟩);simpa using this
 ·intro y i
  have:¬ y.2.2=x.2.2:=λ e=>o.2.2 _ (qm.2 ⟨y,i,rfl⟩) x.2.2 (by simp) e;simpa using this
def ZnJ (r m:Nat) (w:World):Nat:=match w.heap[r]? with
 |some (.mapIter _ _ seen _)=>(match w.heap[m]? with
  |some (.map es _)=>(leftOf es seen).size
  |_=>0)
 |_=>0
section
variable {α:Type} [BEq α] [XW α] {P:Program} {R:Cx} {Hs:List HP} {w:World}
def ZfS (r m:Nat) (es left:List (α × Value)):HP:=exs λ l:List (En α)=>exs λ c:Nat=>exs λ seen:Array Nat=>
 XS [pur (Wj l=es/\Wx l c/\Wj (l.filter λ e=>!seen.contains e.2.2)=left),pts r (.mapIter (some m) c seen c),pts m (.map (l.map mkE).toArray c)]
def ZfS.iff {r m:Nat} {es left:List (α × Value)}:Sat R (ZfS r m es left::Hs) w↔∃ (l:List (En α)) (c:Nat) (a:Array Nat),(Wj l=es/\Wx l c/\Wj (l.filter λ e=>!a.contains e.2.2)=left)/\
  Sat R (pts r (.mapIter (some m) c a c)::pts m (.map (l.map (mkE (α:=α))).toArray c)::Hs) w:=by
 unfold ZfS;simp only [Sat.exs];constructor
 ·rintro ⟨l,c,a,h⟩
  obtain ⟨d,o⟩:=Sat.pur.1 (Sat.star.1 h);exact ⟨l,c,a,d,o⟩
 ·rintro ⟨l,c,a,d,o⟩
  exact ⟨l,c,a,Sat.star.2 (Sat.pur.2 ⟨d,o⟩)⟩
def ZfS.map {r m:Nat} {es left:List (α × Value)} (h:Sat R (ZfS r m es left::Hs) w):Sat R (MapAt m es::Hs) w:=by
 obtain ⟨l,c,seen,⟨a,d,_⟩,h⟩:=ZfS.iff.1 h;exact MapAt.iff.2 ⟨l,c,a,d,h.drop⟩
def ZkW {T K E:TypeId} {m:Nat} {es:List (α × Value)} {Q:Option Addr->World->Prop} (hT:P.underlying T=some (.map K E)) (h:Sat R (MapAt m es::Hs) w) (k:∀ r w',Sat R (ZfS r m es es::Hs) w'->Q (some ⟨r,0,none⟩) w'):
  ∃ w':World,∃ t:Option Addr,((Instr.range T (.map (some m))).run P w=.ok (.pointer t) w')/\Q t w':=by
 obtain ⟨l,c,d,o,h⟩:=MapAt.iff.1 h;have a:=h.at;refine ⟨w.alloc (.mapIter (some m) c #[] c),some ⟨w.heap.size,0,none⟩,?_,k _ _ (ZfS.iff.2 ⟨l,c,#[],⟨d,o,?_⟩,Sat.alloc _ h⟩)⟩
 ·simp [Instr.range,run_underlying hT,getObj,Sem.run_bind,Sem.run,a,Result.andThen]
 ·rw [show (l.filter λ e=>!(#[]:Array Nat).contains e.2.2)=l from jS.2 (λ x _=>by simp)]
  exact d
def Zhf {r m:Nat} {es left:List (α × Value)} (h:Sat R (ZfS r m es left::Hs) w):ZnJ r m w=left.length:=by
 obtain ⟨l,c,seen,⟨o,i,a⟩,h⟩:=ZfS.iff.1 h;have d:=h.at;have hm:=h.swap.at;unfold ZnJ;rw [d];dsimp only;rw [hm];dsimp only;rw [<-a,<-jw];unfold leftOf Wj;rw [uo,qa];have:∀ l:List (En α),((l.map mkE).filter λ e=>!seen.contains e.born).length=(l.filter λ e=>!seen.contains e.2.2).length:=λ l=>by
  rw [List.filter_map,qa];rfl
 exact this l
def Zk7 {r m:Nat} {T:TypeId} {es left:List (α × Value)} (i:Sat R (ZfS r m es left::Hs) w):
  (left=[]/\(Instr.next (.pointer (some ⟨r,0,none⟩)) false T).run P w=.ok (.tuple #[.bool false]) w)\/
  ∃ a k v b w',left=a++(k,v)::b/\(Instr.next (.pointer (some ⟨r,0,none⟩)) false T).run P w=.ok (.tuple #[.bool true,XW.enc k,v]) w'/\(Instr.entry (.pointer (some ⟨r,0,none⟩))).run P w'=.ok (.tuple #[XW.enc k,v]) w'/\Sat R (ZfS r m es (a++b)::Hs) w':=by
 obtain ⟨l,c,seen,⟨t,n,s⟩,i⟩:=ZfS.iff.1 i;have f:=i.at;have hm:=i.swap.at;rcases run_next_at (P:=P) w T r m c c seen (l.map mkE).toArray c f hm (λ x d=>by
   obtain ⟨e,u,rfl⟩:=qm.1 (show x∈l.map mkE from d)
   exact n.1 e u) (jc _) with ⟨A,h⟩|⟨e,u,w1,p,h⟩
 ·left
  refine ⟨?_,h⟩;rw [<-s];have:(l.filter λ e=>!seen.contains e.2.2)=[]:=by
   rw [List.filter_eq_nil_iff];intro x d y;have z:mkE x∈(leftOf (l.map mkE).toArray seen).toList:=by
    unfold leftOf;simp only [uo,vE,qm];exact ⟨⟨x,d,rfl⟩,y⟩
   have:0<(leftOf (l.map mkE).toArray seen).toList.length:=uV z;rw [jw] at this;omega
  rw [this];rfl
 ·right
  have d:∃ x∈l,e=mkE x/\(!seen.contains x.2.2)=true:=by
   unfold leftOf at u;simp only [uo,vE,qm] at u;obtain ⟨⟨x,d,rfl⟩,y⟩:=u;exact ⟨x,d,rfl,y⟩
  obtain ⟨x,g,rfl,y⟩:=d;obtain ⟨a,b,j⟩:=j5 (vE.2 ⟨g,y⟩:x∈l.filter λ e=>!seen.contains e.2.2);have q:Sat R (pts r (.mapIter (some m) c seen c)::pts m (.map (l.map (mkE (α:=α))).toArray c)::Hs) w1:=by
   rcases p with rfl|rfl
   ·exact i
   ·exact i.drew
  have o:=q.setPts (.mapIter (some m) c (seen.push x.2.2) c);refine ⟨Wj a,x.1,x.2.1,Wj b,_,?_,h,?_,?_⟩
  ·rw [<-s,j]
   unfold Wj;rw [qe,qi]
  ·exact run_entry_at (P:=P) _ r m c seen (l.map mkE).toArray c (mkE x) o.at o.swap.at (show mkE x∈l.map mkE from qm.2 ⟨x,g,rfl⟩) (by
    have e:((l.map mkE).map λ e:MapEntry=>e.born)=l.map (·.2.2):=by rw [qZ];rfl
    show ((l.map mkE).map λ e:MapEntry=>e.born).Nodup;rw [e];exact n.2)
  ·refine ZfS.iff.2 ⟨l,c,seen.push x.2.2,⟨t,n,?_⟩,o⟩
   rw [ZiP n.2 j];unfold Wj;rw [qe]
end
end
section
open Go Go.RowKit
def ZkD {P:Program} {n:Nat} (w:World) (m sT ty h:TypeId) (b o d y:Nat) (a:Addr) (u z:Nat) (cs:List Value)
  (p:P.underlying m=some (.slice h)) (hs:(P.info? h).map (·.size)=some n) (q:cs.length=Nat.min u d * n)
  (g:∀ j v,cs[j]? =some v->w.cell? (a.add j)=some v) (r:∀ j,j<cs.length->(w.cell? ⟨b,o + j,none⟩).isSome=true) (s:∀ j,j<cs.length->w.frozen? ⟨b,o + j,none⟩=false) (t:∀ v∈cs,v.oneCell'=true):
  (Builtin.copy_ #[m,sT] ty #[.slice (some ⟨b,o,none⟩) d y,.slice (some a) u z]).run P w=.ok (goInt (Nat.min u d)) (w.setCells b o cs):=by
 have hl:=run_loadCells_list (P:=P) w a cs g;have k:=run_storeCells_cells (P:=P) b o cs 0 w (by simpa using r) (by simpa using s) t;cases l:P.info? h with
 |none=>simp [l] at hs
 |some i=>
  have hi:i.size=n:=by simpa [l] using hs
  simp [Builtin.copy_,run_underlying p,Builtin.lenOf,Builtin.firstCells,sizeOf,typeInfo,l,hi,<-q,hl,k]
def Zh3 {P:Program} {n m:Nat} (w:World) (t e ty:TypeId) (z:Value) (ht:P.underlying t=some (.slice e)) (a:∀ w,(zeroValue e).run P w=.ok z w) (hz:z.cells.size=n) (d:∀ v∈(Builtin.zeroCells z.cells m).toList,v.oneCell'=true) (b o c:Nat) (hm:0<m)
  (i:∀ j,j<m * n->(w.cell? ⟨b,o + j,none⟩).isSome=true) (u:∀ j,j<m * n->w.frozen? ⟨b,o + j,none⟩=false):
  (Builtin.clear_ #[t] ty #[.slice (some ⟨b,o,none⟩) m c]).run P w=.ok (.tuple #[]) (w.setCells b o (Builtin.zeroCells z.cells m).toList):=by
 have hl:(Builtin.zeroCells z.cells m).toList.length=m * n:=by simp [Builtin.zeroCells,hz]
 have h:=run_storeCells_cells (P:=P) b o (Builtin.zeroCells z.cells m).toList 0 w (by rw [hl];simpa using i) (by rw [hl];simpa using u) d;simp only [vQ] at h;obtain ⟨k,rfl⟩:∃ k,m=k + 1:=⟨m - 1,by omega⟩;simp [Builtin.clear_,run_underlying ht,a,h]
def Zmx {n:Nat}:∀ (m:Nat) (l:List Value),l.length=m * n->∃ ys:List (List Value),ys.length=m/\Wid n ys/\ys.flatten=l
 |0,l,h=>⟨[],rfl,Wid.nil,by have:l=[]:=jO.1 (by omega);rw [this];rfl⟩
 |m + 1,l,h=>by
  rw [jA,uH] at h;obtain ⟨ys,d,o,i⟩:=Zmx (n:=n) m (l.drop n) (by rw [qx];omega);refine ⟨l.take n::ys,by simp [d],λ x a=>?_,by simp [i]⟩;rcases qk.1 a with rfl|a
  ·rw [qd];omega
  ·exact o x a
def Zab {A B C V:List Value} {p:Nat} (h:A.length=p) (a:B.length=V.length):Vz (A++B++C) p V=A++V++C:=by
 rw [GF _ _ _ (by simp only [qb];omega)];have e1:(A++B++C).take p=A:=by rw [qn,j7 h]
 have e2:(A++B++C).drop (p + V.length)=C:=by rw [uj (by rw [qb];omega)]
 rw [e1,e2]
def putN {A Y D X rest:List Value} {p:Nat} (h:A.length=p) (o:Y.length=X.length + D.length):Vz (Vz ((A++Y)++rest) p X) (p + X.length) D=(A++X++D)++rest:=by
 have a:Vz ((A++Y)++rest) p X=A++X++(Y.drop X.length++rest):=by
  have:=Zab (A:=A) (B:=Y.take X.length) (C:=Y.drop X.length++rest) (V:=X) h (by rw [qd];omega);rw [<-this]
  congr 1
  rw [qn,qn,<-qn (Y.take _),qD]
 have d:=Zab (A:=A++X) (B:=Y.drop X.length) (C:=rest) (V:=D) (p:=p + X.length) (by simp [h]) (by rw [qx];omega);rw [a,<-qn,d]
def ZxX {A D X rest:List Value} {p:Nat} (h:A.length=p) (d:X.length<=rest.length):Vz (Vz ((A++D)++rest) (p + X.length) D) p X=(A++X++D)++rest.drop X.length:=by
 have e:(A++D)++rest=(A++(D++rest).take X.length)++((D++rest).drop X.length).take D.length++rest.drop X.length:=by
  have a:rest.drop X.length=(D++rest).drop (X.length + D.length):=by
   rw [uw,<-jE,vX]
  rw [a,<-jE,qn,qn,qn,qD,qD]
 have hl:((D++rest).take X.length).length=X.length:=by rw [qd,qb];omega
 rw [e,Zab (p:=p + X.length) (by rw [qb,hl,h]) (by rw [qd,qx,qb];omega)];have:=Zab (A:=A) (B:=(D++rest).take X.length) (C:=D++rest.drop X.length) (V:=X) h (by rw [hl]);rw [show (A++(D++rest).take X.length)++D++rest.drop X.length=A++(D++rest).take X.length++(D++rest.drop X.length) by simp,this];simp
section
variable {P:Program} {R:Cx} {Hs Rest:List HP} {w:World} {s:Sl} {T:TypeId} {n:Nat}
def Gb {m sT ty h:TypeId} {b o d u i y:Nat} {a:Addr} {cs l:List Value} {fr:Nat × Nat} {K:Int->World->Prop} (s:P.underlying m=some (.slice h)) (hs:(P.info? h).map (·.size)=some n)
  (q:Sat R (pts b (.cells l.toArray T fr)::Hs) w) (p:Zio l.length fr) (x:cs.length=Nat.min i d * n) (r:o + cs.length<=l.length) (z:∀ j v,cs[j]? =some v->w.cell? (a.add j)=some v) (e:ZN cs=true)
  (k:∀ t w',Sat R (pts b (.cells (Vz l o cs).toArray T fr)::Hs) w'->K t w'):
  ∃ w',∃ t:Int,(Builtin.copy_ #[m,sT] ty #[.slice (some ⟨b,o,none⟩) d u,.slice (some a) i y]).run P w=.ok (.int .i64 t) w'/\K t w':=by
 have g:=q.at;have f:=ZkD (P:=P) w m sT ty h b o d u a i y cs s hs x z (λ j hj=>by rw [Yy g];simp;omega) (λ j hj=>Vi g p (by omega)) (λ v c=>qW.1 e v c);exact ⟨_,_,f,k _ _ (Y7 cs l o w q)⟩
def Zb0 {t1 t2 ty:TypeId} {bytes k m:Nat} {N X:IntKind} {rows:List (List Value)} {K:Sl->World->Prop} (ht:P.underlying t1=some (.slice T)) (D:P.underlying t2=some (.int X)) (hi:Zva P T n bytes=true) (E:0<n)
  (Y:0<m) (hk:k<rows.length) (O:s.cap<k + m) (S:2 * (k + m) * bytes<=281474976710656) (C:k + m<=9223372036854775807) (B:Sat R (Zn n s T rows::Hs) w)
  (h:∀ t w' ys,ys.length=m->Sat R (Zn n t T (rows.take k++ys)::Zn n s T rows::Hs) w'->K t w'):
  ∃ w',∃ t:Sl,(Builtin.append_ #[t1,t2] ty #[.slice s.a k s.cap,.int N m]).run P w=.ok (.slice t.a t.len t.cap) w'/\K t w':=by
 obtain ⟨i,z,hi,hz,v,o,F⟩:=ZfB hi;obtain ⟨d,⟨_,rfl,_⟩|⟨b,rest,fr,cap,rfl,hl,G,Q⟩⟩:=Zn.cases B
 ·simp at hk
 have H:=Q.at;dsimp only at O ⊢;have U:Builtin.nextslicecap (k + m) cap * i.bytes<=281474976710656:=by
  have h2:Builtin.nextslicecap (k + m) cap<=2 * (k + m):=by
   unfold Builtin.nextslicecap;split
   ·omega
   ·split
    ·omega
    ·have:=nextslicecap_le_wide O
     unfold Builtin.nextslicecap at this;rw [qc (by assumption),qc (by assumption)] at this;omega
  rw [o];exact jf (qL _ h2) S
 have g:(rows.take k).flatten.length=k * n:=by rw [d.take.len,qd,q7 (by omega)]
 have hold:(Builtin.firstCells i.size k (.slice (some ⟨b,0,none⟩) k cap)).run P w.drew=.ok (rows.take k).flatten.toArray w.drew:=by
  refine run_firstCells_some w.drew i.size k ⟨b,0,none⟩ k _ (rows.take k).flatten (by rw [v,g]) ?_;intro j u hj;rw [World.cell?_drew,Zs,Yy H,jb];obtain ⟨l,rfl⟩:=List.getElem?_eq_some_iff.1 hj;rw [g] at l;rw [<-hj,<-d.take_flat,List.getElem?_take,qf l];have:k * n<=rows.length * n:=qL _ (by omega);rw [List.getElem?_append_left (by rw [d.len];omega)]
 have I:IntKind.i64.wrap (m:Int)=m:=by rw [IntKind.wrap_i64];omega
 have hn:¬ (k + m<=cap):=by omega
 have p:¬ (9223372036854775807<((k:Int) + (m:Int))):=by omega
 have q:¬ (281474976710656<Builtin.nextslicecap (k + m) cap * i.bytes):=by omega
 have r:¬ (281474976710656<(m:Int) * (i.bytes:Int)):=by
  rw [<-vD,o];have:m * bytes<=2 * (k + m) * bytes:=qL _ (by omega);omega
 have x:¬ ((m:Int)<0):=by omega
 have h1:m≠0:=by omega
 have J:¬ (m * i.size=0):=by
  rw [v];have:=Nat.mul_pos Y E;omega
 have hg:=grownCap_ge w (k + m) cap T;have hr:(Builtin.append_ #[t1,t2] ty #[.slice (some ⟨b,0,none⟩) k cap,.int N m]).run P w=
   .ok (.slice (some ⟨w.heap.size,0,none⟩) (k + m) (grownCap w (k + m) cap T)) (w.drew.alloc (.cells ((rows.take k).flatten.toArray++Builtin.zeroCells z.cells m++Builtin.zeroCells z.cells (grownCap w (k + m) cap T - (k + m))) T)):=by
  simp [Builtin.append_,run_underlying ht,run_underlying D,sizeOf,typeInfo,zeroValue,hi,hz,asInt,asIntOf,I,hn,x,J,p,q,r,Question.forced,hold,newRow,grownCap]
 have f:∀ m,(Builtin.zeroCells z.cells m).size=m * n:=λ m=>by simp [Builtin.zeroCells,F]
 obtain ⟨ys,c,L,M⟩:=Zmx m (Builtin.zeroCells z.cells m).toList (by rw [jw,f]);refine ⟨_,⟨some ⟨w.heap.size,0,none⟩,k + m,grownCap w (k + m) cap T⟩,hr,h _ _ ys c ?_⟩;have V:=Sat.alloc (Obj.cells ((rows.take k).flatten.toArray++Builtin.zeroCells z.cells m++Builtin.zeroCells z.cells (grownCap w (k + m) cap T - (k + m))) T) (Sat.drew Q);have e:Obj.cells ((rows.take k).flatten.toArray++Builtin.zeroCells z.cells m++Builtin.zeroCells z.cells (grownCap w (k + m) cap T - (k + m))) T=.cells ((rows.take k++ys).flatten++(Builtin.zeroCells z.cells (grownCap w (k + m) cap T - (k + m))).toList).toArray T (0,0):=by
  congr 1
  apply vd;rw [ja,M];simp
 rw [e] at V ⊢;have h4:=Zn.of_pts d hl (Sat.swap V) G;have y:Wid n (rows.take k++ys):=d.take.app L;have A:(rows.take k++ys).length=k + m:=by rw [qb,qd,c,q7 (by omega)]
 have W:=Zn.of_pts (cap:=grownCap w (k + m) cap T) y (by rw [qb,y.len,A,jw,f,<-jA];congr 1;omega) (Sat.swap h4);have e2:(⟨some ⟨w.drew.heap.size,0,none⟩,(rows.take k++ys).length,grownCap w (k + m) cap T⟩:Sl)=⟨some ⟨w.heap.size,0,none⟩,k + m,grownCap w (k + m) cap T⟩:=by
  rw [A,World.size_drew]
 rw [e2] at W;exact W
def Zoe {t1 ty E:TypeId} {bytes i j:Nat} {z:Value} {rows:List (List Value)} {K:Sl->World->Prop} (ht:P.underlying t1=some (.slice T)) (hi:Zva P T n bytes=true) (O:∀ w,(zeroValue T).run P w=.ok z w) (F:z.cells.size=n)
  (Q:∀ m,∀ v∈(Builtin.zeroCells z.cells m).toList,v.oneCell'=true) (ho:ZN rows.flatten=true)
  (U:0<n) (h0:i<j) (hj:j<=rows.length) (hw:Sat R (Zn n s T rows::Hs) w) (k:∀ t w',Sat R (Zn n t T (rows.take i++rows.drop j)::Hs) w'->K t w'):
  ∃ w',∃ t:Sl,(Builtin.append_ #[t1,t1] ty #[.slice s.a i s.cap,.slice (X4 s.a j s.cap n) (s.len - j) (s.cap - j)]).run P w=.ok (.slice t.a t.len t.cap) w'/\
   (0:Int)<=(s.len:Int)/\(s.len:Int)<=(t.cap:Int)/\(0:Int)<=(t.len:Int)/\(t.len:Int)<=(((s.len:Int).toNat:Nat):Int)/\
   ∃ G,(Builtin.clear_ #[t1] E #[.slice (X4 t.a (t.len:Int).toNat t.cap n) ((s.len:Int).toNat - (t.len:Int).toNat) (t.cap - (t.len:Int).toNat)]).run P w'=.ok (.tuple #[]) G/\K t G:=by
 obtain ⟨Y,z',hi,h5,d,M,S⟩:=ZfB hi;obtain ⟨h,⟨_,rfl,_⟩|⟨b,rest,fr,cap,rfl,hl,r,C⟩⟩:=Zn.cases hw
 ·simp at hj;omega
 have e:=C.at;have f:=hl;rw [qb,h.len] at hl;have B:rows.length<=cap:=uy (by omega:rows.length * n<=cap * n) U;have h6:j * n<=rows.length * n:=qL _ hj;have h7:i * n + (rows.length - j) * n + (j - i) * n=rows.length * n:=by
  rw [<-jA,<-jA]
  congr 1;omega
 have c:(rows.drop j).flatten.length=(rows.length - j) * n:=by rw [h.drop.len,qx]
 have V:∀ v∈(rows.drop j).flatten,v.oneCell'=true:=λ v O=>qW.1 ho v (by
  obtain ⟨l,h1,H⟩:=jZ.1 O;exact jZ.2 ⟨l,jn h1,H⟩)
 have I:Src P Y.size t1 (.slice (X4 (some ⟨b,0,none⟩) j cap n) (rows.length - j) (cap - j)) (rows.length - j) (rows.drop j).flatten w:=by
  rw [d];by_cases J:cap=j
  ·have N:rows.length - j=0:=by omega
   have hd:rows.drop j=[]:=jg (by omega);rw [N,hd];unfold X4;rw [qf J];exact Go.Src.ofSlice w ht _ 0 _ [] (by simp) (λ j u hj=>by simp at hj) (λ u hu=>by cases hu)
  ·unfold X4
   rw [qc J];refine Go.Src.ofSlice w ht _ _ _ _ (by rw [c]) (λ x u A=>?_) V;show w.cell? (Addr.add (Addr.add ⟨b,0,none⟩ (j * n)) x)=some u;rw [Zs,Zs,jb,Yy e];rw [<-h.drop_flat,List.getElem?_drop] at A;have h8:=(List.getElem?_eq_some_iff.1 A).1;rw [List.getElem?_append_left (by omega)];exact A
 have D:i + (rows.length - j)<=cap:=by omega
 have N:=run_append_room_src w t1 t1 ty T Y ht hi b 0 i cap _ (rows.length - j) (rows.drop j).flatten I D
  (λ x A=>by
   rw [Yy e,d,List.getElem?_eq_getElem (by rw [f];omega)];rfl) (λ x A=>Vi e r (by rw [d];omega))
 have H:=Y7 (rows.drop j).flatten (rows.flatten++rest) (i * n) w C;rw [d,jb] at N;have e1:Vz (rows.flatten++rest) (i * n) (rows.drop j).flatten=(rows.take i++rows.drop j).flatten++(rows.flatten++rest).drop (i * n + (rows.length - j) * n):=by
  rw [GF _ _ _ (by rw [c,f];omega),c,uf (by rw [h.len];omega),h.take_flat,ja]
 rw [e1] at H;have o:Wid n (rows.take i++rows.drop j):=h.take.app h.drop;have g:(rows.take i++rows.drop j).length=i + (rows.length - j):=by rw [qb,qd,qx,q7 (by omega)]
 refine ⟨_,⟨some ⟨b,0,none⟩,i + (rows.length - j),cap⟩,N,by dsimp only;omega,by dsimp only;omega,by dsimp only;omega,by dsimp only;omega,?_⟩;dsimp only;rw [qo,qo];have W:X4 (some ⟨b,0,none⟩) (i + (rows.length - j)) cap n=some ⟨b,(i + (rows.length - j)) * n,none⟩:=by
  unfold X4;rw [qc (by omega)];simp [Zs]
 rw [W];have p:=H.at;have X:(rows.length - (i + (rows.length - j))) * n=(j - i) * n:=by congr 1;omega
 have q:(i + (rows.length - j)) * n=i * n + (rows.length - j) * n:=jA _ _ _;have y:((rows.take i++rows.drop j).flatten++(rows.flatten++rest).drop (i * n + (rows.length - j) * n)).length=cap * n:=by
  rw [qb,o.len,g,qx,f,q];omega
 refine ⟨_,Zh3 _ t1 T E z ht O F (Q _) b ((i + (rows.length - j)) * n) _ (by omega) (λ x A=>?_) (λ x A=>?_),k _ _ ?_⟩
 ·rw [Yy p,List.getElem?_eq_getElem (by rw [y];omega)];rfl
 ·exact Vi p r (by omega)
 ·have h3:=Y7 (Builtin.zeroCells z.cells (rows.length - (i + (rows.length - j)))).toList _ ((i + (rows.length - j)) * n) _ H
  have L:(Builtin.zeroCells z.cells (rows.length - (i + (rows.length - j)))).toList.length=(j - i) * n:=by simp [Builtin.zeroCells,F,X]
  rw [GF _ _ _ (by rw [L,y,q];omega),j7 (by rw [o.len,g]),qn] at h3;have h4:=Zn.of_pts (cap:=cap) o (by
   rw [qb,qb,o.len,g,L,qx,y];omega) h3 r
  rw [g] at h4;exact h4
end
end
section
variable {R:Cx} {Hs:List HP} {w:World}
def Zvd {s:ByteArray} {i:Nat} (h:(s.get! i).toNat<128):Utf8.decode s i=((s.get! i).toNat,1):=by
 unfold Utf8.decode;simp only [vQ];rw [qf h]
def Zve {s:ByteArray} {i:Nat} (h:¬ (s.get! i).toNat<128):128<=(Utf8.decode s i).1:=by
 unfold Utf8.decode;simp only [vQ];rw [qc h];have d:128<=Utf8.runeError:=by decide
 repeat' split
 all_goals first|exact d|(rename_i a;simp only [ql,qV] at a;dsimp only;omega)|(rename_i a;dsimp only;omega)
def ZhA {s:ByteArray} {i:Nat} (h:i<s.size):((s.get! i).toNat:Int)=(ZE s)[i]'(by rw [Yf];exact h):=by
 have a:i<s.data.toList.length:=by simpa using h
 have e:s.get! i=s.data.toList[i]:=by
  show s.data[i]! =_;rw [getElem!_pos s.data i (by simpa using a)];simp
 rw [e];simp [ZE]
def Zk8 {b:Nat} {s:ByteArray} {pos:Nat} {A:Int->Int->World->Prop} {B:World->Prop} (a:Sat R (pts b (.stringIter s pos)::Hs) w)
  (d:pos<s.size->∀ w',Sat R (pts b (.stringIter s (pos + (Utf8.decode s pos).2))::Hs) w'->A (pos:Int) ((Utf8.decode s pos).1:Int) w') (o:¬ pos<s.size->B w):Zqg (some ⟨b,0,none⟩) A B w:=
 ⟨b,s,pos,rfl,a.at,λ h=>d h _ (a.setPts (.stringIter s (pos + (Utf8.decode s pos).2))),o⟩
def ZeK (b:Nat) (w:World):Nat:=match w.heap[b]? with
 |some (.stringIter s pos)=>s.size - pos
 |_=>0
def ZaP {b:Nat} {s:ByteArray} {pos:Nat} (h:Sat R (pts b (.stringIter s pos)::Hs) w):ZeK b w=s.size - pos:=by
 unfold ZeK;rw [h.at]
end
end Go.VC

namespace Go.Proofs.YtlplemdmegpoeaaGreatDoor
section
open Go Go.VC Tryz
set_option maxRecDepth 10000
def ZqP:List Nat:=[3,4,5,6,7,8,9,10,11,12,13,14,15,16,17,18,19,20,21,22,23,24,25,26,27,28,29,30,31,32,33,34,35,36,37,38,39,40,41,42,43,44,45,46,47,48,49,50,51,52,53,54,55,56,57,58,59,60,61,62,63,64,65,66,67,68,69,70,71,72,73,74,75,76,77,78,79,80,81,82,83,84,85,86,87,88,89,90,91,92,93,94,95,96,97,98,99,100,101,102,103,104,105,106,107,108,109,110,111,112,113,114,115,116,117,118,119,120,121,122,123,124,125,126,127,128,129,130,131,132,133,134,135,136,137,138,139,140,141,142,143,144,145,146,147,148,149,150,151,152,153,154,155,156,157,158,159,160,161,162,163,164,165,166,167,168,169,170,171,172,173,174,175,176,177,178,179,180,181,182,183,184,185,186,187,188,189,190,191,192,193,194,195,196,197,198,199,200,201,202,203,204,205,206,207,208,209,211,212,213,214,215,216,217,218,219,220,221,223,224,225,226,227,228,229,230,231,232,233,234,235,236,237,238,239,240,241,242,243,244,246,247,248,249,250,251,252,253,254,255,256,257,258,259,260,261,262,263,264,265,266,267,268,269,270,271,272,273,274,275,276,277,278,279,280,281,283,284,286,287,288,289,290,292,293,294,295,296,297,298,299,300,301,302,303,304,305,306,307,308,309,311,312,313,314,315,316,317]
def cl:FuncId->Bool:=λ g=>Zg5 g ZqP
def Zor:ZqP.all (ZS prog)=true:=by kernel_rfl
def ZiX (g:FuncId) (h:cl g=true):ZS prog g=true:=by
  have key:∀ l:List Nat,Zg5 g l=true->l.all (ZS prog)=true->ZS prog g=true:=λ l=>by
    induction l with
    |nil=>intro h;cases h
    |cons x l ih=>
      intro h a;simp only [List.all_cons,ql] at a;simp only [Zg5] at h;split at h
      · rename_i d;rw [qA d];exact a.1
      · exact ih h a.2
  exact key _ h Zor
def mixed:prog.follows .mixedOrders=true:=by kernel_rfl
abbrev _root_.nC (f : FuncId) (a : Array Value) (w:nW) (Q : Ending -> World -> Prop) : Prop := Calls prog f a w Q
abbrev Aw (w:nW) (a:Addr) (l:List Value):Prop:=At (λ w'=>w'=w) a l
abbrev St (t:TypeId) (a:Addr) (v:Value) (w w':World):Prop:=(Instr.storeAt t (xP (some a)) v).run prog w=.ok () w'
abbrev _root_.nR (p:Nat) (v:Value) (w:nW) (K:Value->xE):Prop:=∃ o,(St 33 ⟨p,0,none⟩ v w o)/\∃ a b c d e f g,∃ i j:Sl,(Aw o ⟨p,0,none⟩ [nI a,xZ b,nI c,nI d,nI e,nI f,nI g,i.v,j.v])/\K (.agg #[nI a,xZ b,nI c,nI d,nI e,nI f,nI g,i.v,j.v]) o
abbrev _root_.nQ (p:Nat) (x:Ending) (w:nW) (K:Value->xE):Prop:=∃ a b c d e f g,∃ i j:Sl,(x=xR (.agg #[nI a,xZ b,nI c,nI d,nI e,nI f,nI g,i.v,j.v]))/\nR p (.agg #[nI a,xZ b,nI c,nI d,nI e,nI f,nI g,i.v,j.v]) w K
abbrev _root_.nT (p:Nat) (v:Value) (w:nW) (K:Value->xE):Prop:=∃ o,(St 54 ⟨p,0,none⟩ v w o)/\∃ a b c,∃ i:Sl,(Aw o ⟨p,0,none⟩ [nI a,nI b,nI c,i.v])/\K (.agg #[nI a,nI b,nI c,i.v]) o
abbrev _root_.nU (p:Nat) (x:Ending) (w:nW) (K:Value->xE):Prop:=∃ a b c,∃ i:Sl,(x=xR (.agg #[nI a,nI b,nI c,i.v]))/\nT p (.agg #[nI a,nI b,nI c,i.v]) w K
abbrev _root_.nM (w:nW) (p:Addr) (G:Value->Prop):Prop:=∃ a b c d e f g h k,∃ i j:Sl,(Aw w p [nI a,xZ b,nI c,nI d,nI e,nI f,xF g,xZ h,nI k,i.v,j.v])/\G (.agg #[nI a,xZ b,nI c,nI d,nI e,nI f,xF g,xZ h,nI k,i.v,j.v])
abbrev _root_.nM2 (S:xE) (p:Addr) (G:Value->Prop):Prop:=∃ a b c d e f g h k,∃ i j:Sl,(At S p [nI a,xZ b,nI c,nI d,nI e,nI f,xF g,xZ h,nI k,i.v,j.v])/\G (.agg #[nI a,xZ b,nI c,nI d,nI e,nI f,xF g,xZ h,nI k,i.v,j.v])
abbrev _root_.nA (w:nW) (p:Addr) (G:Value->Prop):Prop:=∃ a b c d e f g,∃ i j:Sl,(Aw w p [nI a,xZ b,nI c,nI d,nI e,nI f,nI g,i.v,j.v])/\G (.agg #[nI a,xZ b,nI c,nI d,nI e,nI f,nI g,i.v,j.v])
abbrev _root_.yS (w:nW) (b k:Nat) (t:Sl):Prop:=Aw w ⟨b,0 + k,none⟩ [t.v]
abbrev _root_.hS (w:xE) (b k:Nat) (t:Sl):Prop:=At w ⟨b,0 + k,none⟩ [t.v]
abbrev _root_.zS (w:nW) (p:Addr) (t:Sl):Prop:=Aw w p [t.v]
abbrev _root_.kS (w:xE) (p:Addr) (t:Sl):Prop:=At w p [t.v]
abbrev _root_.gS (w:nW) (p:Addr) (k:Nat) (t:Sl):Prop:=Aw w ⟨p.block,p.off + k,none⟩ [t.v]
abbrev _root_.fS (w:xE) (p:Addr) (k:Nat) (t:Sl):Prop:=At w ⟨p.block,p.off + k,none⟩ [t.v]
abbrev _root_.yI (w:nW) (b k:Nat) (t:Int):Prop:=Aw w ⟨b,0 + k,none⟩ [nI t]
abbrev _root_.hI (w:xE) (b k:Nat) (t:Int):Prop:=At w ⟨b,0 + k,none⟩ [nI t]
abbrev _root_.zI (w:nW) (p:Addr) (t:Int):Prop:=Aw w p [nI t]
abbrev _root_.kI (w:xE) (p:Addr) (t:Int):Prop:=At w p [nI t]
abbrev _root_.gI (w:nW) (p:Addr) (k:Nat) (t:Int):Prop:=Aw w ⟨p.block,p.off + k,none⟩ [nI t]
abbrev _root_.fI (w:xE) (p:Addr) (k:Nat) (t:Int):Prop:=At w ⟨p.block,p.off + k,none⟩ [nI t]
abbrev _root_.yP (w:nW) (b k:Nat) (t:xA):Prop:=Aw w ⟨b,0 + k,none⟩ [xP t]
abbrev _root_.hP (w:xE) (b k:Nat) (t:xA):Prop:=At w ⟨b,0 + k,none⟩ [xP t]
abbrev _root_.zP (w:nW) (p:Addr) (t:xA):Prop:=Aw w p [xP t]
abbrev _root_.kP (w:xE) (p:Addr) (t:xA):Prop:=At w p [xP t]
abbrev _root_.gP (w:nW) (p:Addr) (k:Nat) (t:xA):Prop:=Aw w ⟨p.block,p.off + k,none⟩ [xP t]
abbrev _root_.fP (w:xE) (p:Addr) (k:Nat) (t:xA):Prop:=At w ⟨p.block,p.off + k,none⟩ [xP t]
abbrev _root_.yZ (w:nW) (b k:Nat) (t:ByteArray):Prop:=Aw w ⟨b,0 + k,none⟩ [xZ t]
abbrev _root_.hZ (w:xE) (b k:Nat) (t:ByteArray):Prop:=At w ⟨b,0 + k,none⟩ [xZ t]
abbrev _root_.zZ (w:nW) (p:Addr) (t:ByteArray):Prop:=Aw w p [xZ t]
abbrev _root_.kZ (w:xE) (p:Addr) (t:ByteArray):Prop:=At w p [xZ t]
abbrev _root_.gZ (w:nW) (p:Addr) (k:Nat) (t:ByteArray):Prop:=Aw w ⟨p.block,p.off + k,none⟩ [xZ t]
abbrev _root_.fZ (w:xE) (p:Addr) (k:Nat) (t:ByteArray):Prop:=At w ⟨p.block,p.off + k,none⟩ [xZ t]
abbrev _root_.eS (e:Ending) (t:Sl):Prop:=e=xR (t.v)
abbrev _root_.eI (e:Ending) (t:Int):Prop:=e=xR (nI t)
abbrev _root_.eB (e:Ending) (t:Bool):Prop:=e=xR (.bool t)
abbrev _root_.eU (e:Ending):Prop:=e=xR (.tuple #[])
abbrev _root_.rN (i:Int) (s:Sl) (F:Addr->Prop):Prop:=Rng i s.len (Zb s.a F)
abbrev _root_.aP (t:TypeId) (x y:Value) (w o:World) (d:Sl):Prop:=(Builtin.append_ #[t,t] t #[x,y]).run prog w=.ok (d.v) o
abbrev _root_.sT (t:TypeId) (p:Nat) (v:Value) (w o:World):Prop:=St t ⟨p,0,none⟩ v w o
abbrev _root_.lI:=Int->xE
abbrev _root_.lJ:=Int->World->Nat
abbrev _root_.lK:=Sl->Int->xE
abbrev _root_.lL:=Sl->Int->World->Nat
abbrev _root_.nB:ByteArray:=ByteArray.mk #[]
abbrev _root_.nV:Value:=.slice none 0 0
def _root_.nS:Nat->Sk->Sk|0,k=>k|n+1,k=>.seq .leaf (nS n k)
def _root_.ng:Nat->Nat->List Nat|_,0=>[]|a,n+1=>a::ng (a+1) n
def _root_.xx {α:Sort _} (a:α):∃ x,x=a:=⟨a,rfl⟩
def cq {f:FuncId} {fn:Func} {sk:Sk} {args:List Value} {K:Value->xE} {w:World} {B:Prop} (h:B) (d:prog.funcs[f]? =some fn) (a:Zx5 prog fn.ntmps fn sk=true:=by kernel_rfl) (o:Nat.ble args.length fn.ntmps=true:=by kernel_rfl) (i:fnF prog cl fn sk args K w=B:=by kernel_rfl):Zg prog f args.toArray w K:=Zp8 ZiX mixed d a (jK o) (Eq.mpr i h)
def cqx {f:FuncId} {fn:Func} {sk:Sk} {args:List Value} {X:List PanicEntry->xE} {K:Value->xE} {w:World} {B:Prop} (h:B) (d:prog.funcs[f]? =some fn) (a:ZrV prog fn.ntmps fn sk []=true:=by kernel_rfl) (o:Nat.ble args.length fn.ntmps=true:=by kernel_rfl) (i:Zx6 prog cl X fn sk args K w=B:=by kernel_rfl):XG prog f args.toArray w X K:=Zou ZiX mixed d a (jK o) (Eq.mpr i h)
def cqd {f:FuncId} {fn:Func} {sk:Sk} {args:List Value} {K:Value->xE} {w:World} {B:Prop} (h:B) (d:prog.funcs[f]? =some fn) (a:Zse prog cl fn sk=true:=by kernel_rfl) (o:Nat.ble args.length fn.ntmps=true:=by kernel_rfl) (i:Zyb prog cl fn sk args K w=B:=by kernel_rfl):Zg prog f args.toArray w K:=Zov ZiX mixed d a (jK o) (Eq.mpr i h)
def B75 (c:Sl) (K:Value->xE) (w:nW):Prop:=Br c.a.isNone
 (K (.slice none 0 0) w) (New (.cells #[] 5 (0,0)) (λ e f=>∃ d b,aP 47 (.slice (some ⟨e,0,none⟩) 0 0) c.v f d b/\K (b.v) d) w)
def ZvB (b K w) (h:B75 b K w):Zg prog 75 #[b.v] w K:=cq (sk:=.leaf) h func75
def B128 (j:Int) (K:Value->xE) (w:nW):Prop:=nC 205 #[.int .u64 j] w λ n o=>∃ g,eI n g/\New (.cells #[.int .u8 (IntKind.u8.wrap (wI ((wI (g + 7)).tdiv 8)))] 5 (0,0)) (λ l p=>∃ (f:Int->Sl->xE) (k:Int->Sl->World->Nat),(f (wI ((wI (g + 7)).tdiv 8)) ⟨(some ⟨l,0,none⟩),1,1⟩ p)/\∀ (r:Env) (c:Int) (b:Sl) (e:World),f c b e->Br (decide (c>0)) (Ge0 (wI (8 * wI (c - 1))) (New (.cells #[.int .u8 (IntKind.u8.wrap (Zbl IntKind.u64 j (wI (8 * wI (c - 1)))))] 5 (0,0)) (λ m q=>∃ i d,aP 47 b.v (.slice (some ⟨m,0,none⟩) 1 1) q i d/\ (f (wI (c - 1)) d i)/\k (wI (c - 1)) d i<k c b e) e)) (K (b.v) e)) o
def ZxA:Sk:=(nS 3 (.seq (.block (.loop [3,4] [(.int .i64),.sl] (3::4::ng 12 12) .leaf)) .leaf))
def Zt3 (a K w) (h:B128 a K w):Zg prog 128 #[.int .u64 a] w K:=cq (sk:=ZxA) h func128
def B91 (c:Sl) (K:Value->xE) (w:nW):Prop:=nC 75 #[c.v] w λ e f=>∃ b,eS e b/\New (.cells #[b.v,.bool false] 207 (0,0)) (λ d g=>K (nP d) g) f
def Zvn (b K w) (h:B91 b K w):Zg prog 91 #[b.v] w K:=cq (sk:=.leaf) h func91
def B93 (i:xA) (g:Int) (K:Value->xE) (w:nW):Prop:=New (.cells #[.int .u64 g] 141 (0,0)) (λ e k=>New (.cells #[.int .u64 0] 141 (0,0)) (λ a l=>∃ c,sT 141 a (.int .u64 0) l c/\nC 149 #[xP i,.func (.func 150) #[] #[nP e,nP a]] c λ f d=>eU f/\∃ b,(Aw d ⟨a,0,none⟩ [.int .u64 b])/\K (.int .u64 b) d) k) w
def Zvl (b a K w) (h:B93 b a K w):Zg prog 93 #[xP b,.int .u64 a] w K:=cq (sk:=.leaf) h func93
def B96 (e:xA) (K:Value->xE) (w:nW):Prop:=Zb e λ d=>∃ f,(Aw w (nO d 1) [.bool f])/\Br (!f) (Zb e λ g=>∃ b,zS w (g.add 0) b/\K (.bool ((↑b.len:Int)==0)) w) (K (.bool false) w)
def Zvj (a K w) (h:B96 a K w):Zg prog 96 #[xP a] w K:=cq (sk:=.leaf) h func96
def B149 (z:xA) (y:Value) (K:Value->xE) (w:nW):Prop:=New (.cells #[xP z] 153 (0,0)) (λ c j=>∃ r,zP j ⟨c,0,none⟩ r/\Zb r λ k=>∃ s,(Aw j (nO k 1) [.bool s])/\nC 152 #[.bool (!s)] j λ n f=> (eU n/\∃ p,zP f ⟨c,0,none⟩ p/\Zb p λ v=>∃ d,zS f (v.add 0) d/\New (.cells #[nV] 47 (0,0)) (λ i A=>∃ t,sT 47 i (d.v) A t/\XP prog cl y [nP i] t λ o g=> (eU o/\∃ q,zP g ⟨c,0,none⟩ q/\∃ e,zS g ⟨i,0,none⟩ e/\Zb q λ x=>∃ u,(St 47 (x.add 0) (e.v) g u)/\Z3 prog 223 [nP c] .returning (λ C=>K (.tuple #[]) C) u)\/(∃ m:List PanicEntry,(o=.panicked m)/\Z3 prog 223 [nP c] (.panicking m) (λ D=>K (.tuple #[]) D) g)) f)\/(∃ l:List PanicEntry,(n=.panicked l)/\Z3 prog 223 [nP c] (.panicking l) (λ E=>K (.tuple #[]) E) f)) w
def ZtQ (b:xA) (a:Value) (K:Value->xE) (w:nW) (h:B149 b a K w):Zg prog 149 #[xP b,a] w K:=cqd (sk:=.leaf) h func149
def B150 (t s d:xA) (c:List PanicEntry->xE) (K:Value->xE) (w:nW):Prop:=nC 151 #[xP t] w λ i b=> (∃ a m,(i=xR (.tuple #[.int .u64 a,.bool m]))/\Br (!m) (Zb s λ r=>∃ l,(Aw b r [.int .u64 l])/\nC 152 #[.bool (decide (a<=l))] b λ j n=> (eU j/\∃ o:World,((Instr.storeAt 141 (xP d) (.int .u64 a)).run prog n=.ok () o)/\K (.tuple #[]) o)\/(∃ f:List PanicEntry,(j=.panicked f)/\c f n)) (nC 152 #[.bool false] b λ k p=> (eU k/\∃ q:World,((Instr.storeAt 141 (xP d) (.int .u64 a)).run prog p=.ok () q)/\K (.tuple #[]) q)\/(∃ g:List PanicEntry,(k=.panicked g)/\c g p)))\/(∃ e:List PanicEntry,(i=.panicked e)/\c e b)
def ZtP (d b c:xA) (a:List PanicEntry->xE) (K:Value->xE) (w:nW) (h:B150 d b c a K w):XG prog 150 #[xP d,xP b,xP c] w a K:=cqx (sk:=.leaf) h func150
def B151 (J:xA) (c:List PanicEntry->xE) (K:Value->xE) (w:nW):Prop:=nC 154 #[xP J,nI 1] w λ A j=> (∃ l,eS A l/\ (rN 0 l λ U=>∃ e,(Aw j (U.add 0) [.int .u8 e])/\∃ (k:xE),(Br (decide (e<32)) (Br (decide (wI (ZaH BinOp.andNot IntKind.u8 e 16)<=8)) (Br (decide (wI (ZaH BinOp.andNot IntKind.u8 e 16)>0)) (nC 152 #[.bool true] j λ C L=> (eU C/\k  L)\/(∃ s:List PanicEntry,(C=.panicked s)/\c s L)) (nC 152 #[.bool (!decide (e >= 16))] j λ D M=> (eU D/\k  M)\/(∃ t:List PanicEntry,(D=.panicked t)/\c t M))) (nC 152 #[.bool false] j λ E N=> (eU E/\k  N)\/(∃ u:List PanicEntry,(E=.panicked u)/\c u N))) (nC 152 #[.bool false] j λ F O=> (eU F/\k  O)\/(∃ v:List PanicEntry,(F=.panicked v)/\c v O)))/\∀ (X:Env) Q,k Q->nC 154 #[xP J,nI (wI (ZaH BinOp.andNot IntKind.u8 e 16))] Q λ G T=> (∃ g,eS G g/\∃ (m:Int->Int->xE) (n:Int->Int->World->Nat),(m 0 0 T)/\∀ (Y:Env) (d:Int) (b:Int) (f:World),m d b f->Br (decide (b<(↑g.len:Int))) ((rN b g λ V=>∃ i,(Aw f (V.add b.toNat) [.int .u8 i])/\Br (decide (b>0)) (nC 152 #[.bool true] f λ H q=> (eU H/\ (m (ZaH BinOp.or IntKind.u64 (Zqj IntKind.u64 d 8) (IntKind.u64.wrap i)) (wI (b + 1)) q)/\n (ZaH BinOp.or IntKind.u64 (Zqj IntKind.u64 d 8) (IntKind.u64.wrap i)) (wI (b + 1)) q<n d b f)\/(∃ y:List PanicEntry,(H=.panicked y)/\c y q)) (nC 152 #[.bool (decide (i>0))] f λ I p=> (eU I/\ (m (ZaH BinOp.or IntKind.u64 (Zqj IntKind.u64 d 8) (IntKind.u64.wrap i)) (wI (b + 1)) p)/\n (ZaH BinOp.or IntKind.u64 (Zqj IntKind.u64 d 8) (IntKind.u64.wrap i)) (wI (b + 1)) p<n d b f)\/(∃ z:List PanicEntry,(I=.panicked z)/\c z p)))) (K (.tuple #[.int .u64 d,.bool (decide (e >= 16))]) f))\/(∃ x:List PanicEntry,(G=.panicked x)/\c x T)))\/(∃ r:List PanicEntry,(A=.panicked r)/\c r j)
def Zxr:Sk:=(nS 4 (.cut [] [] (ng 19 15) .leaf (nS 1 (.seq (nS 1 (.block (.loop [7,38] [(.int .u64),(.int .i64)] (7::8::9::ng 38 18) .leaf))) .leaf))))
def ZtO (b:xA) (a:List PanicEntry->xE) (K:Value->xE) (w:nW) (h:B151 b a K w):XG prog 151 #[xP b] w a K:=cqx (sk:=Zxr) h func151
def B152 (b:Bool) (a:List PanicEntry->xE) (K:Value->xE) (w:nW):Prop:=Br (!b) (a [⟨.iface 274 (.agg #[]),false,false⟩] w) (K (.tuple #[]) w)
def ZtN (b:Bool) (a:List PanicEntry->xE) (K:Value->xE) (w:nW) (h:B152 b a K w):XG prog 152 #[.bool b] w a K:=cqx (sk:=.leaf) h func152
def B223 (i:xA) (f:Value) (K:xE) (w:nW):Prop:=∃ c:Bool,(∀ a,(λ a=>a=w) a->((do eqGuard BinOp.neq 20 (Operand.tmp 3) (Operand.const Value.nilIface) f .nilIface;binOp BinOp.neq 20 f .nilIface:Sem Value)).run prog a=.ok (.bool c) a)/\Br c
 (Zb i λ g=>∃ d,(Aw w g [xP d])/\Zb d λ b=>∃ e,(St 4 (nO b 1) (.bool true) w e)/\K e) (K w)
def Zqa (b:xA) (a:Value) (K:xE) (w:nW) (h:B223 b a K w):CallsD prog 223 #[xP b] (.panicking [⟨a,false,false⟩]) w λ c d e=>(∃ f,c=xR f)/\d=.panicking [⟨a,true,false⟩]/\K e:=
 ZgJ (sk:=.leaf) ZiX mixed func223 (by kernel_rfl) (jK (by kernel_rfl)) (cast (by kernel_rfl) h)
def Zp9 (a:xA) (K:xE) (w:nW) (h:B223 a .nilIface K w):CallsD prog 223 #[xP a] .returning w λ b c d=>(∃ e,b=xR e)/\c=.returning/\K d:=
 ZdY (sk:=.leaf) ZiX mixed func223 (by kernel_rfl) (jK (by kernel_rfl)) (cast (by kernel_rfl) h)
def B154 (f:xA) (b:Int) (m:List PanicEntry->xE) (K:Value->xE) (w:nW):Prop:=Zb f λ q=>∃ g:Sl,(Aw w q [g.v])/\nC 152 #[.bool (decide (b<=(↑g.len:Int)))] w λ k i=> (eU k/\Zb f λ n=>∃ d:Sl,(Aw i n [d.v])/\ ((0:Int)<=b)/\ ((b:Int)<=(↑d.cap:Int))/\Zb f λ o=>∃ c:Sl,(Aw i o [c.v])/\ ((0:Int)<=b)/\ ((b:Int)<=(↑c.len:Int))/\Zb f λ p=>∃ l,(St 47 (p) (.slice (X4 c.a b.toNat c.cap 1) (c.len - b.toNat) (c.cap - b.toNat)) i l)/\K (.slice d.a b.toNat d.cap) l)\/(∃ j:List PanicEntry,(k=.panicked j)/\m j i)
def ZtL (b:xA) (c:Int) (a:List PanicEntry->xE) (K:Value->xE) (w:nW) (h:B154 b c a K w):XG prog 154 #[xP b,nI c] w a K:=cqx (sk:=.leaf) h func154
def B205 (j:Int) (K:Value->xE) (w:nW):Prop:=∃ (c:Int->Int->xE),(Br (decide (j >= 4294967296)) (c (Zbl IntKind.u64 j 32) 32 w) (c j 0 w))/\∀ (m:Env) (b:Int) (e:Int) (g:World),c b e g->∃ (d:Int->Int->xE),(Br (decide (b >= 65536)) (d (Zbl IntKind.u64 b 16) (wI (e + 16)) g) (d b e g))/\∀ (n:Env) (a:Int) (f:Int) (i:World),d a f i->Br (decide (a >= 256)) (∃ k:UInt8,((0:Int)<=IntKind.u8.wrap (Zbl IntKind.u64 a 8))/\ ((ByteArray.mk (([0,1,2,2,3,3,3,3,4,4,4,4,4,4,4,4,5,5,5,5,5,5,5,5,5,5,5,5,5,5,5,5,6,6,6,6,6,6,6,6,6,6,6,6,6,6,6,6,6,6,6,6,6,6,6,6,6,6,6,6,6,6,6,6].append [7,7,7,7,7,7,7,7,7,7,7,7,7,7,7,7,7,7,7,7,7,7,7,7,7,7,7,7,7,7,7,7,7,7,7,7,7,7,7,7,7,7,7,7,7,7,7,7,7,7,7,7,7,7,7,7,7,7,7,7,7,7,7,7]).append ([8,8,8,8,8,8,8,8,8,8,8,8,8,8,8,8,8,8,8,8,8,8,8,8,8,8,8,8,8,8,8,8,8,8,8,8,8,8,8,8,8,8,8,8,8,8,8,8,8,8,8,8,8,8,8,8,8,8,8,8,8,8,8,8].append [8,8,8,8,8,8,8,8,8,8,8,8,8,8,8,8,8,8,8,8,8,8,8,8,8,8,8,8,8,8,8,8,8,8,8,8,8,8,8,8,8,8,8,8,8,8,8,8,8,8,8,8,8,8,8,8,8,8,8,8,8,8,8,8])).toArray)[(IntKind.u8.wrap (Zbl IntKind.u64 a 8)).toNat]? =some k)/\K (nI (wI (wI (f + 8) + wI (↑k.toNat:Int)))) i) (∃ l:UInt8,((0:Int)<=IntKind.u8.wrap a)/\ ((ByteArray.mk (([0,1,2,2,3,3,3,3,4,4,4,4,4,4,4,4,5,5,5,5,5,5,5,5,5,5,5,5,5,5,5,5,6,6,6,6,6,6,6,6,6,6,6,6,6,6,6,6,6,6,6,6,6,6,6,6,6,6,6,6,6,6,6,6].append [7,7,7,7,7,7,7,7,7,7,7,7,7,7,7,7,7,7,7,7,7,7,7,7,7,7,7,7,7,7,7,7,7,7,7,7,7,7,7,7,7,7,7,7,7,7,7,7,7,7,7,7,7,7,7,7,7,7,7,7,7,7,7,7]).append ([8,8,8,8,8,8,8,8,8,8,8,8,8,8,8,8,8,8,8,8,8,8,8,8,8,8,8,8,8,8,8,8,8,8,8,8,8,8,8,8,8,8,8,8,8,8,8,8,8,8,8,8,8,8,8,8,8,8,8,8,8,8,8,8].append [8,8,8,8,8,8,8,8,8,8,8,8,8,8,8,8,8,8,8,8,8,8,8,8,8,8,8,8,8,8,8,8,8,8,8,8,8,8,8,8,8,8,8,8,8,8,8,8,8,8,8,8,8,8,8,8,8,8,8,8,8,8,8,8])).toArray)[(IntKind.u8.wrap a).toNat]? =some l)/\K (nI (wI (f + wI (↑l.toNat:Int)))) i)
def Zw5:Sk:=(nS 1 (.cut [0,2] [(.int .u64),(.int .i64)] (0::ng 2 5) .leaf (.cut [0,2] [(.int .u64),(.int .i64)] (0::2::ng 7 6) .leaf .leaf)))
def Zs5 (a K w) (h:B205 a K w):Zg prog 205 #[.int .u64 a] w K:=cq (sk:=Zw5) h func205
def B83 (d:Sl) (K:Value->xE) (w:nW):Prop:=nC 128 #[.int .u64 (IntKind.u64.wrap (↑d.len:Int))] w λ f g=>∃ b:Sl,(f=xR (.slice b.a b.len b.cap))/\∃ e:World,∃ c:Sl,((Builtin.append_ #[47,47] 47 #[.slice b.a b.len b.cap,.slice d.a d.len d.cap]).run prog g=.ok (.slice c.a c.len c.cap) e)/\K (.slice c.a c.len c.cap) e
def Zvv (b K w) (h:B83 b K w):Zg prog 83 #[.slice b.a b.len b.cap] w K:=cq (sk:=.leaf) h func83
def B94 (i:xA) (g:Int) (K:Value->xE) (w:nW):Prop:=New (.cells #[nI g] 3 (0,0)) (λ e k=>New (.cells #[nV] 47 (0,0)) (λ c l=>nC 149 #[xP i,.func (.func 153) #[] #[nP e,nP c]] l λ f d=>eU f/\∃ b,zS d ⟨c,0,none⟩ b/\K (b.v) d) k) w
def Zvk (b a K w) (h:B94 b a K w):Zg prog 94 #[xP b,nI a] w K:=cq (sk:=.leaf) h func94
def B153 (e r p:xA) (b:List PanicEntry->xE) (K:Value->xE) (w:nW):Prop:=nC 151 #[xP e] w λ H c=> (∃ d ab,(H=xR (.tuple #[.int .u64 d,.bool ab]))/\Br (!ab) (Zb r λ au=>∃ Z,(Aw c au [nI Z])/\Br (decide (Z >= 0)) (Zb r λ av=>∃ aa,(Aw c av [nI aa])/\Br (decide (d<=IntKind.u64.wrap aa)) (Zb e λ aw=>∃ q:Sl,(Aw c aw [q.v])/\nC 152 #[.bool (decide (d<=IntKind.u64.wrap (↑q.len:Int)))] c λ I ak=> (eU I/\nC 154 #[xP e,nI (wI d)] ak λ N al=> (∃ f,eS N f/\nC 75 #[f.v] al λ O am=> (∃ k,eS O k/\∃ an:World,((Instr.storeAt 47 (xP p) (k.v)).run prog am=.ok () an)/\K (.tuple #[]) an)\/(∃ z:List PanicEntry,(O=.panicked z)/\b z am))\/(∃ y:List PanicEntry,(N=.panicked y)/\b y al))\/(∃ t:List PanicEntry,(I=.panicked t)/\b t ak)) (nC 152 #[.bool false] c λ Q ao=> (eU Q/\nC 154 #[xP e,nI (wI d)] ao λ T ap=> (∃ g,eS T g/\nC 75 #[g.v] ap λ U aq=> (∃ l,eS U l/\∃ ar:World,((Instr.storeAt 47 (xP p) (l.v)).run prog aq=.ok () ar)/\K (.tuple #[]) ar)\/(∃ D:List PanicEntry,(U=.panicked D)/\b D aq))\/(∃ C:List PanicEntry,(T=.panicked C)/\b C ap))\/(∃ A:List PanicEntry,(Q=.panicked A)/\b A ao))) (nC 152 #[.bool false] c λ V ac=> (eU V/\nC 154 #[xP e,nI (wI d)] ac λ X ad=> (∃ i,eS X i/\nC 75 #[i.v] ad λ Y ae=> (∃ m,eS Y m/\∃ af:World,((Instr.storeAt 47 (xP p) (m.v)).run prog ae=.ok () af)/\K (.tuple #[]) af)\/(∃ G:List PanicEntry,(Y=.panicked G)/\b G ae))\/(∃ F:List PanicEntry,(X=.panicked F)/\b F ad))\/(∃ E:List PanicEntry,(V=.panicked E)/\b E ac))) (nC 152 #[.bool false] c λ J ag=> (eU J/\nC 154 #[xP e,nI (wI d)] ag λ L ah=> (∃ j,eS L j/\nC 75 #[j.v] ah λ M ai=> (∃ n,eS M n/\∃ aj:World,((Instr.storeAt 47 (xP p) (n.v)).run prog ai=.ok () aj)/\K (.tuple #[]) aj)\/(∃ x:List PanicEntry,(M=.panicked x)/\b x ai))\/(∃ v:List PanicEntry,(L=.panicked v)/\b v ah))\/(∃ u:List PanicEntry,(J=.panicked u)/\b u ag)))\/(∃ s:List PanicEntry,(H=.panicked s)/\b s c)
def ZtM (d b c:xA) (a:List PanicEntry->xE) (K:Value->xE) (w:nW) (h:B153 d b c a K w):XG prog 153 #[xP d,xP b,xP c] w a K:=cqx (sk:=.leaf) h func153
set_option maxRecDepth 10000
def B166 (c:Sl) (K:Value->xE) (w:nW):Prop:=Br c.a.isNone
 (K (.slice none 0 0) w) (New (.cells #[] 3 (0,0)) (λ e f=>∃ d b,aP 30 (.slice (some ⟨e,0,none⟩) 0 0) c.v f d b/\K (b.v) d) w)
def ZtG (b K w) (h:B166 b K w):Zg prog 166 #[b.v] w K:=cq (sk:=.leaf) h func166
def B212 (b:Sl) (e:Value) (K:Value->xE) (w:nW):Prop:=nC 272 #[b.v,e] w λ d f=>∃ c,eI d c/\K (.bool (decide (c >= 0))) f
def Zs3 (b c K w) (h:B212 b c K w):Zg prog 212 #[b.v,c] w K:=cq (sk:=.leaf) h func212
def B272 (e:Sl) (m:Value) (K:Value->xE) (w:nW):Prop:=∃ (d:lI) (j:lJ),(d 0 w)/\∀ (o:Env) b c,d b c->Br (decide (b<(↑e.len:Int))) ((rN b e λ k=>∃ g,zI c (k.add b.toNat) g/\XP prog cl m [nI g] c λ l f=>∃ i,eB l i/\Br i
 (K (nI b) f) ((d (wI (b + 1)) f)/\j (wI (b + 1)) f<j b c))) (K (nI ((-1))) c)
def ZwR:Sk:=(nS 1 (.seq (nS 1 (.block (.loop [8] [(.int .i64)] (4::5::ng 8 11) .leaf))) .leaf))
def Zsw (b c K w) (h:B272 b c K w):Zg prog 272 #[b.v,c] w K:=cq (sk:=ZwR) h func272
def B249 (b:Sl) (d:Int) (c:Sl) (K:Value->xE) (w:nW):Prop:=((0:Int)<=d)/\ ((d:Int)<=(↑b.len:Int))/\Br ((↑c.len:Int)==0) (K (.slice b.a b.len b.cap) w) (Br (d==(↑b.len:Int)) (∃ i:World,∃ f:Sl,((Builtin.append_ #[30,30] 30 #[.slice b.a b.len b.cap,.slice c.a c.len c.cap]).run prog w=.ok (.slice f.a f.len f.cap) i)/\K (.slice f.a f.len f.cap) i) (Br (decide (wI ((↑b.len:Int) + (↑c.len:Int))>(↑b.cap:Int))) (((0:Int)<=d)/\ ((d:Int)<=(↑b.cap:Int))/\∃ k:World,∃ e:Sl,((Builtin.append_ #[30,3] 30 #[.slice b.a d.toNat b.cap,nI (wI (wI ((↑b.len:Int) + (↑c.len:Int)) - d))]).run prog w=.ok (.slice e.a e.len e.cap) k)/\ ((0:Int)<=d)/\ ((d:Int)<=(↑e.len:Int))/\∃ l:World,∃ s:Int,((Builtin.copy_ #[30,30] 3 #[.slice (X4 e.a d.toNat e.cap 1) (e.len - d.toNat) (e.cap - d.toNat),.slice c.a c.len c.cap]).run prog k=.ok (nI s) l)/\Drw l λ C z=> ((0:Int)<=wI (d + (↑c.len:Int)))/\ ((wI (d + (↑c.len:Int)):Int)<=(↑e.len:Int))/\ ((0:Int)<=d)/\ ((d:Int)<=(↑b.len:Int))/\∃ m:World,∃ t:Int,((Builtin.copy_ #[30,30] 3 #[.slice (X4 e.a (wI (d + (↑c.len:Int))).toNat e.cap 1) (e.len - (wI (d + (↑c.len:Int))).toNat) (e.cap - (wI (d + (↑c.len:Int))).toNat),.slice (X4 b.a d.toNat b.cap 1) (b.len - d.toNat) (b.cap - d.toNat)]).run prog z=.ok (nI t) m)/\K (.slice e.a e.len e.cap) m) (((0:Int)<=wI ((↑b.len:Int) + (↑c.len:Int)))/\ ((wI ((↑b.len:Int) + (↑c.len:Int)):Int)<=(↑b.cap:Int))/\ ((0:Int)<=wI (d + (↑c.len:Int)))/\ ((wI (d + (↑c.len:Int)):Int)<=(↑(wI ((↑b.len:Int) + (↑c.len:Int))).toNat:Int))/\Ext prog 282 #[.slice c.a c.len c.cap,.slice (X4 b.a (wI (d + (↑c.len:Int))).toNat b.cap 1) ((wI ((↑b.len:Int) + (↑c.len:Int))).toNat - (wI (d + (↑c.len:Int))).toNat) (b.cap - (wI (d + (↑c.len:Int))).toNat)] w λ q n=>∃ g,eB q g/\Br (!g) (Drw n λ D A=> ((0:Int)<=wI (d + (↑c.len:Int)))/\ ((wI (d + (↑c.len:Int)):Int)<=(↑(wI ((↑b.len:Int) + (↑c.len:Int))).toNat:Int))/\ ((0:Int)<=d)/\ ((d:Int)<=(↑(wI ((↑b.len:Int) + (↑c.len:Int))).toNat:Int))/\∃ o:World,∃ u:Int,((Builtin.copy_ #[30,30] 3 #[.slice (X4 b.a (wI (d + (↑c.len:Int))).toNat b.cap 1) ((wI ((↑b.len:Int) + (↑c.len:Int))).toNat - (wI (d + (↑c.len:Int))).toNat) (b.cap - (wI (d + (↑c.len:Int))).toNat),.slice (X4 b.a d.toNat b.cap 1) ((wI ((↑b.len:Int) + (↑c.len:Int))).toNat - d.toNat) (b.cap - d.toNat)]).run prog A=.ok (nI u) o)/\ ((0:Int)<=d)/\ ((d:Int)<=(↑(wI ((↑b.len:Int) + (↑c.len:Int))).toNat:Int))/\∃ p:World,∃ v:Int,((Builtin.copy_ #[30,30] 3 #[.slice (X4 b.a d.toNat b.cap 1) ((wI ((↑b.len:Int) + (↑c.len:Int))).toNat - d.toNat) (b.cap - d.toNat),.slice c.a c.len c.cap]).run prog o=.ok (nI v) p)/\K (.slice b.a ((wI ((↑b.len:Int) + (↑c.len:Int))).toNat) b.cap) p) (((0:Int)<=(↑b.len:Int))/\ (((↑b.len:Int):Int)<=(↑(wI ((↑b.len:Int) + (↑c.len:Int))).toNat:Int))/\∃ j:World,∃ x:Int,((Builtin.copy_ #[30,30] 3 #[.slice (X4 b.a (↑b.len:Int).toNat b.cap 1) ((wI ((↑b.len:Int) + (↑c.len:Int))).toNat - (↑b.len:Int).toNat) (b.cap - (↑b.len:Int).toNat),.slice c.a c.len c.cap]).run prog n=.ok (nI x) j)/\ ((0:Int)<=d)/\ ((d:Int)<=(↑(wI ((↑b.len:Int) + (↑c.len:Int))).toNat:Int))/\nC 283 #[.slice (X4 b.a d.toNat b.cap 1) ((wI ((↑b.len:Int) + (↑c.len:Int))).toNat - d.toNat) (b.cap - d.toNat),nI ((↑c.len:Int))] j λ r y=>eU r/\K (.slice b.a ((wI ((↑b.len:Int) + (↑c.len:Int))).toNat) b.cap) y))))
def ZsI (b d c K w) (h:B249 b d c K w):Zg prog 249 #[.slice b.a b.len b.cap,nI d,.slice c.a c.len c.cap] w K:=cq (sk:=.leaf) h func249
def B248 (e:Sl) (k:Int) (K:Value->xE) (w:nW):Prop:=∃ (g:Int->Int->xE) (j:Int->Int->World->Nat),(g 0 ((↑e.len:Int)) w)/\∀ (A:Env) (b:Int) (c:Int) (d:World),g b c d->Br (decide (b<c)) (Rng (wI (Zbl IntKind.u64 (IntKind.u64.wrap (wI (b + c))) 1)) e.len (Zb e.a λ s=>∃ l,(Aw d (s.add ((wI (Zbl IntKind.u64 (IntKind.u64.wrap (wI (b + c))) 1)).toNat)) [nI l])/\nC 267 #[nI l,nI k] d λ v i=>∃ m,eB v m/\Br m
 ((g (wI (wI (Zbl IntKind.u64 (IntKind.u64.wrap (wI (b + c))) 1) + 1)) c i)/\j (wI (wI (Zbl IntKind.u64 (IntKind.u64.wrap (wI (b + c))) 1) + 1)) c i<j b c d) ((g b (wI (Zbl IntKind.u64 (IntKind.u64.wrap (wI (b + c))) 1)) i)/\j b (wI (Zbl IntKind.u64 (IntKind.u64.wrap (wI (b + c))) 1)) i<j b c d))) (Br (decide (b<(↑e.len:Int))) ((rN b e λ t=>∃ n,zI d (t.add b.toNat) n/\Br (n==k) (K (.tuple #[nI b,.bool true]) d) ((rN b e λ u=>∃ o,zI d (u.add b.toNat) o/\nC 281 #[nI o] d λ x r=>∃ p,eB x p/\Br p
 (nC 281 #[nI k] r λ y z=>∃ q,eB y q/\K (.tuple #[nI b,.bool q]) z) (K (.tuple #[nI b,.bool false]) r))))) (K (.tuple #[nI b,.bool false]) d))
def ZwX:Sk:=(nS 3 (.seq (.block (.loop [7,8] [(.int .i64),(.int .i64)] (7::8::9::ng 13 18) .leaf)) .leaf))
def ZsJ (b c K w) (h:B248 b c K w):Zg prog 248 #[b.v,nI c] w K:=cq (sk:=ZwX) h func248
def B267 (a b:Int) (K:Value->xE) (w:nW):Prop:=nC 278 #[nI a] w λ g e=>∃ c,eB g c/\Br c
 (nC 278 #[nI b] e λ i f=>∃ d,eB i d/\Br (!d) (K (.bool true) f) (K (.bool (decide (a<b))) f)) (K (.bool (decide (a<b))) e)
def Zsx (a b K w) (h:B267 a b K w):Zg prog 267 #[nI a,nI b] w K:=cq (sk:=.leaf) h func267
def B281 (a:Int) (K:Value->xE) (w:nW):Prop:=K (.bool (a !=a)) w
def Zss (a K w) (h:B281 a K w):Zg prog 281 #[nI a] w K:=cq (sk:=.leaf) h func281
def B278 (a:Int) (K:Value->xE) (w:nW):Prop:=K (.bool (a !=a)) w
def Zow (a K w) (h:B278 a K w):Zg prog 278 #[nI a] w K:=cq (sk:=.leaf) h func278
def B165 (s:Int) (j:Sl) (K:Value->xE) (w:nW):Prop:=New (.cells #[nI s,j.v] 37 (0,0)) (λ d c=>∃ o,zI c ⟨d,0,none⟩ o/\Br (decide (o<1)) (K (.bool false) c) (∃ p,zI c ⟨d,0,none⟩ p/\Br (decide (p>60)) (K (.bool false) c) (∃ g,yS c d 1 g/\Br (decide ((↑g.len:Int)<1)) (K (.bool false) c) (∃ i,yS c d 1 i/\Br (decide ((↑i.len:Int)>4)) (K (.bool false) c) (∃ e,yS c d 1 e/\nC 212 #[e.v,.func (.func 237) #[] #[]] c λ q k=>∃ l,eB q l/\Br l
 (K (.bool false) k) (∃ m,∃ f:Sl,(Aw k ⟨d,0,none⟩ [nI m,f.v])/\nC 236 #[.agg #[nI m,f.v]] k λ r t=>∃ n,eI r n/\K (.bool (decide (n<=10))) t)))))) w
def ZtH (c b K w) (h:B165 c b K w):Zg prog 165 #[.agg #[nI c,b.v]] w K:=cq (sk:=.leaf) h func165
def B237 (a:Int) (K:Value->xE) (w:nW):Prop:=Br (decide (a<1)) (K (.bool true) w) (K (.bool (decide (a>10))) w)
def ZsS (a K w) (h:B237 a K w):Zg prog 237 #[nI a] w K:=cq (sk:=.leaf) h func237
def B236 (o:Int) (g:Sl) (K:Value->xE) (w:nW):Prop:=New (.cells #[nI o,g.v] 37 (0,0)) (λ n k=>∃ c,yS k n 1 c/\∃ (f:Int->Int->xE) (l:Int->Int->World->Nat),(f 0 0 k)/\∀ (p:Env) (e:Int) (b:Int) (d:World),f e b d->Br (decide (b<(↑c.len:Int))) ((rN b c λ m=>∃ i,zI d (m.add b.toNat) i/\ (f (wI (e + i)) (wI (b + 1)) d)/\l (wI (e + i)) (wI (b + 1)) d<l e b d)) (K (nI e) d)) w
def Zw1:Sk:=(nS 2 (.seq (nS 1 (.block (.loop [3,9] [(.int .i64),(.int .i64)] (3::5::ng 9 8) .leaf))) .leaf))
def ZsT (c b K w) (h:B236 c b K w):Zg prog 236 #[.agg #[nI c,b.v]] w K:=cq (sk:=Zw1) h func236
def B164 (r:Int) (f:Sl) (K:Value->xE) (w:nW):Prop:=New (.cells #[nI r,f.v] 37 (0,0)) (λ e m=>∃ g,∃ b:Sl,(Aw m ⟨e,0,none⟩ [nI g,b.v])/\nC 165 #[.agg #[nI g,b.v]] m λ p n=>∃ i,eB p i/\Br (!i) (K (nI 0) n) (Drw n λ d t=>∃ j,kI d ⟨e,0,none⟩ j/\∃ k,∃ c:Sl,(At d ⟨e,0,none⟩ [nI k,c.v])/\nC 236 #[.agg #[nI k,c.v]] t λ q o=>∃ l,eI q l/\ (d o)/\K (nI (wI (j * l))) o)) w
def ZtI (c b K w) (h:B164 c b K w):Zg prog 164 #[.agg #[nI c,b.v]] w K:=cq (sk:=.leaf) h func164
def B250 (k:Int) (c:Sl) (e:Int) (K:Value->xE) (w:nW):Prop:=New (.cells #[nI k,c.v] 37 (0,0)) (λ i d=>Br (decide (e >= 0)) (∃ g,∃ b:Sl,(Aw d ⟨i,0,none⟩ [nI g,b.v])/\nC 164 #[.agg #[nI g,b.v]] d λ j m=>∃ f,eI j f/\K (.bool (decide (e<f))) m) (K (.bool false) d)) w
def ZsH (c b d K w) (h:B250 c b d K w):Zg prog 250 #[.agg #[nI c,b.v],nI d] w K:=cq (sk:=.leaf) h func250
def B253 (s:Int) (f:Sl) (c:Int) (K:Value->xE) (w:nW):Prop:=New (.cells #[nI s,f.v] 37 (0,0)) (λ k o=>∃ m,∃ e:Sl,(Aw o ⟨k,0,none⟩ [nI m,e.v])/\nC 250 #[.agg #[nI m,e.v],nI c] o λ p j=>∃ n,eB p n/\Br (!n) (K (.tuple #[xZ nB,nI 1]) j) (∃ l,∃ d:Sl,(Aw j ⟨k,0,none⟩ [nI l,d.v])/\nC 236 #[.agg #[nI l,d.v]] j λ q t=>∃ b,eI q b/\Drw t λ x u=>Nz b (Nz b (Nz b (((0:Int)<=wI (c.tmod b + 1))/\ ((wI (c.tmod b + 1):Int)<=10)/\ ((0:Int)<=c.tmod b)/\ ((c.tmod b:Int)<=(↑(wI (c.tmod b + 1)).toNat:Int))/\nC 284 #[nI (wI (wI (c.tdiv b) + 1))] u λ r v=>∃ g,(r=xR (xZ g))/\ (((↑(g.size + ((ByteArray.mk #[65,66,67,68,69,70,71,72,74,75]).extract (c.tmod b).toNat (wI (c.tmod b + 1)).toNat).size):Int):Int)<=9223372036854775807)/\K (.tuple #[xZ (g++(ByteArray.mk #[65,66,67,68,69,70,71,72,74,75]).extract (c.tmod b).toNat (wI (c.tmod b + 1)).toNat),nI 0]) v))))) w
def ZsF (c b d K w) (h:B253 c b d K w):Zg prog 253 #[.agg #[nI c,b.v],nI d] w K:=cq (sk:=.leaf) h func253
def B247 (U:Int) (u:Sl) (V:ByteArray) (K:Value->xE) (w:nW):Prop:=New (.cells #[nI U,u.v] 37 (0,0)) (λ m I=>∃ y,∃ f:Sl,(Aw I ⟨m,0,none⟩ [nI y,f.v])/\nC 165 #[.agg #[nI y,f.v]] I λ M J=>∃ z,eB M z/\Br (!z) (K (.tuple #[nI 0,nI 1]) J) (New (.stringIter V 0) (λ L Y=>∃ (l:Int->Int->xE) (s:Int->Int->World->Nat),(l 0 ((-1)) Y)/\∀ (Z:Env) (b:Int) (c:Int) (o:World),l b c o->Zqg (some ⟨L,0,none⟩) (λ T e p=>∃ (k:Bool->xE),(Br (decide (c >= 0)) (k true p) (Br (T==0) (Br (e==48) (k true p) (k (decide (b>60)) p)) (k (decide (b>60)) p)))/\∀ (aa:Env) (A:Bool) (q:World),k A q->Br A
 (K (.tuple #[nI 0,nI 2]) q) (∃ (t:Bool->xE),(Br (decide (e >= 48)) (t (decide (e<=57)) q) (t false q))/\∀ (ab:Env) (C:Bool) (r:World),t C r->Br C
 ((l (wI (wI (10 * b) + wI (IntKind.i32.wrap (e - 48)))) c r)/\s (wI (wI (10 * b) + wI (IntKind.i32.wrap (e - 48)))) c r<s b c o) (nC 280 #[.int .i32 e] r λ N x=>∃ n,eI N n/\Br (decide (n<0)) (K (.tuple #[nI 0,nI 2]) x) ((l b n x)/\s b n x<s b c o)))) (λ j=>Br (decide (b<1)) (K (.tuple #[nI 0,nI 2]) j) (∃ D,zI j ⟨m,0,none⟩ D/\Br (decide (b>D)) (K (.tuple #[nI 0,nI 2]) j) (Br (decide (c<0)) (K (.tuple #[nI 0,nI 2]) j) (∃ E,∃ g:Sl,(Aw j ⟨m,0,none⟩ [nI E,g.v])/\nC 236 #[.agg #[nI E,g.v]] j λ O v=>∃ F,eI O F/\Br (decide (c >= F)) (K (.tuple #[nI 0,nI 2]) v) (∃ G,∃ i:Sl,(Aw v ⟨m,0,none⟩ [nI G,i.v])/\nC 236 #[.agg #[nI G,i.v]] v λ Q X=>∃ H,eI Q H/\K (.tuple #[nI (wI (wI (wI (b - 1) * H) + c)),nI 0]) X))))) o) J)) w
def ZwY:Sk:=(nS 3 (.seq (nS 1 (.block (.loop [6,7] [(.int .i64),(.int .i64)] (4::5::6::7::8::9::ng 15 36) (nS 2 (.block (nS 1 (.block (.cut [23] [.bool] (ng 23 15) .leaf (.cond .leaf (.cut [38] [.bool] (ng 38 7) .leaf .leaf)))))))))) .leaf))
def ZsK (c b d K w) (h:B247 c b d K w):Zg prog 247 #[.agg #[nI c,b.v],xZ d] w K:=cq (sk:=ZwY) h func247
def B280 (f:Int) (K:Value->xE) (w:nW):Prop:=∃ (c:lI) (e:lJ),(c 0 w)/\∀ (g:Env) a b,c a b->Br (decide (a<10)) (∃ d:UInt8,((0:Int)<=a)/\ ((ByteArray.mk #[65,66,67,68,69,70,71,72,74,75])[a.toNat]? =some d)/\Br (IntKind.i32.wrap (↑d.toNat:Int)==f) (K (nI a) b) ((c (wI (a + 1)) b)/\e (wI (a + 1)) b<e a b)) (K (nI ((-1))) b)
def ZwQ:Sk:=(nS 1 (.seq (nS 1 (.block (.loop [4] [(.int .i64)] (ng 2 12) .leaf))) .leaf))
def Zst (a K w) (h:B280 a K w):Zg prog 280 #[.int .i32 a] w K:=cq (sk:=ZwQ) h func280
def B251 (t:Int) (k:Sl) (u:Int) (K:Value->xE) (w:nW):Prop:=New (.cells #[nI t,k.v] 37 (0,0)) (λ m o=>∃ n,∃ e:Sl,(Aw o ⟨m,0,none⟩ [nI n,e.v])/\nC 236 #[.agg #[nI n,e.v]] o λ s p=>∃ l,eI s l/\Nz l (∃ f,yS p m 1 f/\∃ (j:Int->Int->xE) (q:Int->Int->World->Nat),(j (u.tmod l) 0 p)/\∀ (v:Env) (b:Int) (c:Int) (d:World),j b c d->Br (decide (c<(↑f.len:Int))) ((rN c f λ r=>∃ g,zI d (r.add c.toNat) g/\Br (decide (b<g)) (K (.tuple #[nI b,nI (wI (wI (g - 1) - b))]) d) ((j (wI (b - g)) (wI (c + 1)) d)/\q (wI (b - g)) (wI (c + 1)) d<q b c d))) (K (.tuple #[nI 0,nI 0]) d))) w
def ZwW:Sk:=(nS 2 (.seq (nS 1 (.block (.loop [6,16] [(.int .i64),(.int .i64)] (4::5::6::8::ng 16 16) .leaf))) .leaf))
def ZsG (c b d K w) (h:B251 c b d K w):Zg prog 251 #[.agg #[nI c,b.v],nI d] w K:=cq (sk:=ZwW) h func251
def B179 (ar:Int) (F H:Sl) (j:Int) (K:Value->xE) (w:nW):Prop:=New (.cells #[nI ar,F.v] 37 (0,0)) (λ r I=>∃ (N:xE),(Br (decide (j<1)) (K (.tuple #[nV,nI 1]) I) (∃ O,∃ m:Sl,(Aw I ⟨r,0,none⟩ [nI O,m.v])/\nC 164 #[.agg #[nI O,m.v]] I λ am ae=>∃ Q,eI am Q/\Br (decide (j>Q)) (K (.tuple #[nV,nI 1]) ae) (N  ae)))/\∀ (az:Env) J,N J->∃ T,∃ n:Sl,(Aw J ⟨r,0,none⟩ [nI T,n.v])/\nC 164 #[.agg #[nI T,n.v]] J λ an ax=>∃ G,eI an G/\∃ af:World,∃ f:Sl,((Instr.makeSlice 291 (nI G) (nI G)).run prog ax=.ok (f.v) af)/\∃ (u:lI) (D:lJ),(u 0 af)/\∀ (a0:Env) e i,u e i->Br (decide (e<(↑H.len:Int))) ((rN e H λ ag=>∃ z,zI i (ag.add e.toNat) z/\∃ U,∃ o:Sl,(Aw i ⟨r,0,none⟩ [nI U,o.v])/\nC 250 #[.agg #[nI U,o.v],nI z] i λ ao L=>∃ V,eB ao V/\Br V
 ((rN z f λ ah=>∃ M,(St 4 (ah.add z.toNat) (.bool true) L M)/\ (u (wI (e + 1)) M)/\D (wI (e + 1)) M<D e i)) ((u (wI (e + 1)) L)/\D (wI (e + 1)) L<D e i))) (∃ X,∃ p:Sl,(Aw i ⟨r,0,none⟩ [nI X,p.v])/\nC 164 #[.agg #[nI X,p.v]] i λ ap ay=>∃ Y,eI ap Y/\∃ (v:Sl->Sl->Int->xE) (E:Sl->Sl->Int->World->Nat),(v ⟨none,0,0⟩ ⟨none,0,0⟩ 0 ay)/\∀ (a1:Env) (d:Sl) (y:Sl) (b:Int) (k:World),v d y b k->Br (decide (b<Y)) (∃ (x:Sl->xE),(∃ Z,∃ q:Sl,(Aw k ⟨r,0,none⟩ [nI Z,q.v])/\nC 251 #[.agg #[nI Z,q.v],nI b] k λ aq A=>∃ aa au,(aq=xR (.tuple #[nI aa,nI au]))/\Br (aa==0) (x ⟨none,0,0⟩ A) ((rN b f λ ai=>∃ ab,(Aw A (ai.add b.toNat) [.bool ab])/\Br ab
 (x ⟨none,0,0⟩ A) (x y A))))/\∀ (a2:Env) (l:Sl) (t:World),x l t-> (rN b f λ aj=>∃ ac,(Aw t (aj.add b.toNat) [.bool ac])/\Br ac
 ((v d l (wI (b + 1)) t)/\E d l (wI (b + 1)) t<E d y b k) (New (.cells #[nI b] 3 (0,0)) (λ ak av=>∃ ad s,aP 30 d.v (.slice (some ⟨ak,0,none⟩) 1 1) av ad s/\New (.cells #[nI b] 3 (0,0)) (λ al aw=>∃ C g,aP 30 l.v (.slice (some ⟨al,0,none⟩) 1 1) aw C g/\Br ((↑g.len:Int)==j) (K (.tuple #[g.v,nI 0]) C) ((v s g (wI (b + 1)) C)/\E s g (wI (b + 1)) C<E d y b k)) ad) t))) (Br (decide ((↑d.len:Int)<j)) (K (.tuple #[nV,nI 3]) k) (((0:Int)<=j)/\ ((j:Int)<=(↑d.cap:Int))/\K (.tuple #[.slice d.a j.toNat d.cap,nI 0]) k)))) w
def Zxn:Sk:=(nS 1 (.cut [] [] (6::7::ng 16 8) .leaf (nS 1 (.seq (nS 1 (.block (.loop [29] [(.int .i64)] (10::ng 29 11) .leaf))) (nS 1 (.seq (nS 1 (.block (.loop [11,12,42] [.sl,.sl,(.int .i64)] (6::7::11::12::13::14::15::ng 42 35) (nS 2 (.seq (.block (nS 1 (.cut [12] [.sl] (12::14::15::ng 45 14) .leaf .leaf))) .leaf))))) .leaf))))))
def Ztt (d b c e K w) (h:B179 d b c e K w):Zg prog 179 #[.agg #[nI d,b.v],c.v,nI e] w K:=cq (sk:=Zxn) h func179
def B234 (a:Int) (K:Value->xE) (w:nW):Prop:=Br (decide (a >= 0)) (K (.bool (decide (a<=10000))) w) (K (.bool false) w)
def ZsV (a K w) (h:B234 a K w):Zg prog 234 #[nI a] w K:=cq (sk:=.leaf) h func234
def B201 (c k:Sl) (t:Value) (K:Value->xE) (w:nW):Prop:=∃ (s:xE),(Br (decide ((↑c.len:Int)<1)) (K (.bool false) w) (Br (decide ((↑c.len:Int)>8)) (K (.bool false) w) (Br ((↑k.len:Int) !=(↑c.len:Int)) (K (.bool false) w) (s  w))))/\∀ (Z:Env) E,s E->∃ (n:Int->Bool->Int->xE) (o:Int->Bool->Int->World->Nat),(n 0 true (wI ((↑c.len:Int) - 1)) E)/\∀ (aa:Env) (d:Int) (j:Bool) (b:Int) (l:World),n d j b l->Br (decide (b >= 0)) (∃ (p:xE),(Drw l λ i Y=> (rN b c λ H=>∃ u,kI i (H.add b.toNat) u/\nC 234 #[nI u] Y λ T r=>∃ v,eB T v/\ (i r)/\Br (!v) (K (.bool false) r) ((rN b k λ I=>∃ x,kI i (I.add b.toNat) x/\nC 234 #[nI x] r λ U m=>∃ y,eB U y/\ (i m)/\Br (!y) (K (.bool false) m) (Br (decide (b>0)) ((rN b c λ J=>∃ z,kI i (J.add b.toNat) z/\Rng (wI (b - 1)) c.len (Zb c.a λ L=>∃ A,kI i (L.add ((wI (b - 1)).toNat)) A/\Br (decide (z>A)) (K (.bool false) m) (p  m)))) (p  m))))))/\∀ (ab:Env) g,p g-> (rN b k λ M=>∃ e,zI g (M.add b.toNat) e/\Br j
 ((rN b c λ N=>∃ q,zI g (N.add b.toNat) q/\ (rN b c λ O=>∃ C,zI g (O.add b.toNat) C/\XP prog cl t [nI b,nI (wI (C - wI (d + e)))] g λ V F=>eU V/\ (n (wI (d + e)) (decide (wI (d + e)<=q)) (wI (b - 1)) F)/\o (wI (d + e)) (decide (wI (d + e)<=q)) (wI (b - 1)) F<o d j b l))) ((rN b c λ Q=>∃ D,zI g (Q.add b.toNat) D/\XP prog cl t [nI b,nI (wI (D - wI (d + e)))] g λ X G=>eU X/\ (n (wI (d + e)) false (wI (b - 1)) G)/\o (wI (d + e)) false (wI (b - 1)) G<o d j b l)))) (K (.bool j) l)
def Zw8:Sk:=(nS 1 (.cut [] [] (6::ng 10 15) .leaf (nS 1 (.seq (nS 1 (.block (.loop [7,8,9] [(.int .i64),.bool,(.int .i64)] (6::7::8::9::ng 28 58) (nS 1 (.seq (.block (.cut [] [] (6::ng 32 30) .leaf .leaf)) .leaf))))) .leaf))))
def Zs8 (b c d K w) (h:B201 b c d K w):Zg prog 201 #[b.v,c.v,d] w K:=cq (sk:=Zw8) h func201
def B123 (d g:Sl) (n:Int) (K:Value->xE) (w:nW):Prop:=New (.cells #[nI n] 3 (0,0)) (λ e p=>New (.cells #[nI 0] 3 (0,0)) (λ f q=>∃ m,sT 3 f (nI 10000) q m/\nC 201 #[d.v,g.v,.func (.func 202) #[] #[nP e,nP f]] m λ o b=>∃ i,eB o i/\Br (!i) (K (.tuple #[nI 0,nI 1]) b) (∃ j,zI b ⟨e,0,none⟩ j/\Br (decide (j<0)) (K (.tuple #[nI 0,nI 1]) b) (∃ k,zI b ⟨e,0,none⟩ k/\Br (decide (k >= (↑d.len:Int))) (K (.tuple #[nI 0,nI 1]) b) (∃ l,zI b ⟨f,0,none⟩ l/\K (.tuple #[nI l,nI 0]) b)))) p) w
def Zt8 (b c d K w) (h:B123 b c d K w):Zg prog 123 #[b.v,c.v,nI d] w K:=cq (sk:=.leaf) h func123
def B202 (k d:Int) (j c:xA) (K:Value->xE) (w:nW):Prop:=Zb j λ g=>∃ e,(Aw w g [nI e])/\Br (decide (k<=e)) (Zb c λ i=>∃ a,(Aw w i [nI a])/\∃ f:World,((Instr.storeAt 3 (xP c) (nI (if d<a then d else a))).run prog w=.ok () f)/\K (.tuple #[]) f) (K (.tuple #[]) w)
def Zox (c d a b K w) (h:B202 c d a b K w):Zg prog 202 #[nI c,nI d,xP a,xP b] w K:=cq (sk:=.leaf) h func202
def B168 (f b:Sl) (g e:Int) (K:Value->xE) (w:nW):Prop:=nC 123 #[f.v,b.v,nI g] w λ k d=>∃ i j,(k=xR (.tuple #[nI i,nI j]))/\Br (j !=0) (K (.tuple #[nV,nI 1]) d) (Br (decide (e<1)) (K (.tuple #[nV,nI 1]) d) (Br (decide (e>10000)) (K (.tuple #[nV,nI 1]) d) (Br (decide (e>i)) (K (.tuple #[nV,nI 3]) d) (nC 238 #[b.v,nI g,nI e] d λ l m=>∃ c,eS l c/\K (.tuple #[c.v,nI 0]) m))))
def ZtE (b c d e K w) (h:B168 b c d e K w):Zg prog 168 #[b.v,c.v,nI d,nI e] w K:=cq (sk:=.leaf) h func168
def B175 (f b:Sl) (e g:Int) (K:Value->xE) (w:nW):Prop:=nC 123 #[f.v,b.v,nI e] w λ l d=>∃ n i,(l=xR (.tuple #[nI n,nI i]))/\Br (i !=0) (K (.tuple #[nV,nI 1]) d) (Br (decide (g<1)) (K (.tuple #[nV,nI 1]) d) ((rN e b λ k=>∃ j,zI d (k.add e.toNat) j/\Br (decide (g>j)) (K (.tuple #[nV,nI 1]) d) (nC 238 #[b.v,nI e,nI (wI (0 - g))] d λ m p=>∃ c,eS m c/\K (.tuple #[c.v,nI 0]) p))))
def Ztx (b c d e K w) (h:B175 b c d e K w):Zg prog 175 #[b.v,c.v,nI d,nI e] w K:=cq (sk:=.leaf) h func175
def B238 (d:Sl) (c l:Int) (K:Value->xE) (w:nW):Prop:=nC 166 #[d.v] w λ k f=>∃ b,eS k b/\ (rN c b λ i=>∃ e,zI f (i.add c.toNat) e/\ (rN c b λ j=>∃ g,(St 3 (j.add c.toNat) (nI (wI (e + l))) f g)/\K (b.v) g))
def ZsR (b c d K w) (h:B238 b c d K w):Zg prog 238 #[b.v,nI c,nI d] w K:=cq (sk:=.leaf) h func238
def B163 (j:Int) (d:Sl) (K:Value->xE) (w:nW):Prop:=∃ (o:xE),(nC 234 #[nI j] w λ z g=>∃ p,eB z p/\Br (!p) (K (.tuple #[nV,nI 1]) g) (Br (decide ((↑d.len:Int)<1)) (K (.tuple #[nV,nI 1]) g) (Br (decide ((↑d.len:Int)>8)) (K (.tuple #[nV,nI 1]) g) (o  g))))/\∀ (F:Env) r,o r->New (.cells #[nI j] 3 (0,0)) (λ x D=> ((0:Int)<=1)/\ ((1:Int)<=(↑d.len:Int))/\∃ (i:lK) (t:lL),(i ⟨(some ⟨x,0,none⟩),1,1⟩ 0 D)/\∀ (G:Env) b c f,i b c f->Br (decide (c<(↑(d.len - Int.toNat 1):Int))) (Rng c (d.len - Int.toNat 1) (Zb (X4 d.a (Int.toNat 1) d.cap 1) λ u=>∃ q,(Aw f (u.add c.toNat) [xF q])/\nC 235 #[xF q,nI j] f λ A s=>∃ k C,(A=xR (.tuple #[nI k,nI C]))/\ (rN c b λ v=>∃ l,zI s (v.add c.toNat) l/\New (.cells #[nI (if l<k then l else k)] 3 (0,0)) (λ y E=>∃ n e,aP 30 b.v (.slice (some ⟨y,0,none⟩) 1 1) E n e/\ (i e (wI (c + 1)) n)/\t e (wI (c + 1)) n<t b c f) s))) (K (.tuple #[b.v,nI 0]) f)) r
def Zxq:Sk:=(nS 1 (.cut [] [] (4::5::ng 11 13) .leaf (nS 1 (.seq (nS 1 (.block (.loop [6,29] [.sl,(.int .i64)] (6::7::8::9::10::ng 29 21) .leaf))) .leaf))))
def ZtJ (c b K w) (h:B163 c b K w):Zg prog 163 #[nI c,b.v] w K:=cq (sk:=Zxq) h func163
def B235 (c:Nat) (d:Int) (K:Value->xE) (w:nW):Prop:=∃ (e:Bool->xE),(Br (decide (d<0)) (e true w) (e (decide (d>10000)) w))/\∀ (q:Env) (n:Bool) (b:World),e n b->Br n
 (K (.tuple #[nI 0,nI 1]) b) (∃ i:Bool,(∀ a,(λ a=>a=b) a->((do eqGuard BinOp.gtr 35 (Operand.tmp 14) (Operand.const (xF 0)) (xF c) (xF 0);binOp BinOp.gtr 35 (xF c) (xF 0):Sem Value)).run prog a=.ok (.bool i) a)/\Br (!i) (K (.tuple #[nI 0,nI 0]) b) (∃ j:Bool,(∀ a,(λ a=>a=b) a->((do eqGuard BinOp.geq 35 (Operand.tmp 18) (Operand.const (xF 4607182418800017408)) (xF c) (xF 4607182418800017408);binOp BinOp.geq 35 (xF c) (xF 4607182418800017408):Sem Value)).run prog a=.ok (.bool j) a)/\Br j
 (K (.tuple #[nI d,nI 0]) b) (∃ g:World,∃ f:Nat,((convert 3 35 (nI d)).run prog b=.ok (xF f) g)/\∃ k:Nat,(∀ a,(λ a=>a=g) a->((do eqGuard BinOp.mul 35 (Operand.tmp 21) (Operand.tmp 23) (xF c) (xF f);binOp BinOp.mul 35 (xF c) (xF f):Sem Value)).run prog a=.ok (xF k) a)/\nC 276 #[xF k] g λ p o=>∃ l,(p=xR (xF l))/\∃ m:Int,(∀ a,(λ a=>a=o) a->((convert 35 3 (xF l))).run prog a=.ok (nI m) a)/\K (.tuple #[nI m,nI 0]) o)))
def Zw2:Sk:=(nS 1 (.seq (.block (.cut [6] [.bool] (ng 6 7) .leaf .leaf)) .leaf))
def ZsU (a b K w) (h:B235 a b K w):Zg prog 235 #[xF a,nI b] w K:=cq (sk:=Zw2) h func235
def B276 (d:Nat) (K:Value->xE) (w:nW):Prop:=Ext prog 291 #[xF d] w λ b c=>∃ a,(b=xR (xF a))/\K (xF a) c
def Zsv (a K w) (h:B276 a K w):Zg prog 276 #[xF a] w K:=cq (sk:=.leaf) h func276
def B284 (c:Int) (K:Value->xE) (w:nW):Prop:=nC 296 #[nI c] w λ b d=>∃ a,(b=xR (xZ a))/\K (xZ a) d
def Zsr (a K w) (h:B284 a K w):Zg prog 284 #[nI a] w K:=cq (sk:=.leaf) h func284
set_option maxRecDepth 10000
def B98 (n F:Int) (m o:Sl) (K:Value->xE) (w:nW):Prop:=New (.cells #[nI F,m.v] 37 (0,0)) (λ j y=>∃ q,∃ c:Sl,(Aw y ⟨j,0,none⟩ [nI q,c.v])/\nC 164 #[.agg #[nI q,c.v]] y λ z G=>∃ r,eI z r/\nC 163 #[nI r,o.v] G λ A k=>∃ d:Sl,∃ s,(A=xR (.tuple #[d.v,nI s]))/\Br (decide (n<1)) (K (.tuple #[xP none,nI 1]) k) (Br (decide (n>9999)) (K (.tuple #[xP none,nI 1]) k) (∃ t,∃ e:Sl,(Aw k ⟨j,0,none⟩ [nI t,e.v])/\nC 165 #[.agg #[nI t,e.v]] k λ C l=>∃ u,eB C u/\Br (!u) (K (.tuple #[xP none,nI 1]) l) (Br (s !=0) (K (.tuple #[xP none,nI 1]) l) (∃ f,yS l j 1 f/\nC 166 #[f.v] l λ D H=>∃ g,eS D g/\∃ p,(St 30 ⟨j,0 + 1,none⟩ (g.v) H p)/\∃ v,∃ i:Sl,(Aw p ⟨j,0,none⟩ [nI v,i.v])/\nC 167 #[nI n,.agg #[nI v,i.v],d.v] p λ E I=>∃ x,(E=xR (xP x))/\K (.tuple #[xP x,nI 0]) I))))) w
def Zvh (e d b c K w) (h:B98 e d b c K w):Zg prog 98 #[nI e,.agg #[nI d,b.v],c.v] w K:=cq (sk:=.leaf) h func98
def B167 (g ah:Int) (n b:Sl) (K:Value->xE) (w:nW):Prop:=New (.cells #[nI ah,.slice n.a n.len n.cap] 37 (0,0)) (λ O ai=>Drw ai λ c t=>∃ f,∃ d:Sl,(At c ⟨O,0,none⟩ [nI f,.slice d.a d.len d.cap])/\ (∃ m:World,∃ e:Sl,((Instr.makeSlice 30 (nI ((↑b.len:Int))) (nI ((↑b.len:Int)))).run prog t=.ok (.slice e.a e.len e.cap) m)/\ (c m)/\ (New (.map #[] 0) (λ Q H=> (c H)/\New (.map #[] 0) (λ X I=> (c I)/\New (.cells #[nI g,nI f,.slice d.a d.len d.cap,.slice b.a b.len b.cap,.slice e.a e.len e.cap,.map ((some Q)),.map ((some X))] 186 (0,0)) (λ ab J=> (c J)/\K (nP ab) J) I) H) m)/\New (.map #[] 0) (λ Y L=> (c L)/\New (.map #[] 0) (λ T M=> (c M)/\New (.cells #[nI g,nI f,.slice d.a d.len d.cap,.slice b.a b.len b.cap,.slice e.a e.len e.cap,.map ((some T)),.map ((some Y))] 186 (0,0)) (λ ac N=> (c N)/\K (nP ac) N) M) L) m)/\ (New (.map #[] 0) (λ v o=> (c o)/\ (∃ p:World,∃ i:Sl,((Instr.makeSlice 30 (nI ((↑b.len:Int))) (nI ((↑b.len:Int)))).run prog o=.ok (.slice i.a i.len i.cap) p)/\ (c p)/\New (.map #[] 0) (λ Z y=> (c y)/\New (.cells #[nI g,nI f,.slice d.a d.len d.cap,.slice b.a b.len b.cap,.slice i.a i.len i.cap,.map ((some v)),.map ((some Z))] 186 (0,0)) (λ ad z=> (c z)/\K (nP ad) z) y) p)/\New (.map #[] 0) (λ aa A=> (c A)/\∃ q:World,∃ j:Sl,((Instr.makeSlice 30 (nI ((↑b.len:Int))) (nI ((↑b.len:Int)))).run prog A=.ok (.slice j.a j.len j.cap) q)/\ (c q)/\New (.cells #[nI g,nI f,.slice d.a d.len d.cap,.slice b.a b.len b.cap,.slice j.a j.len j.cap,.map ((some v)),.map ((some aa))] 186 (0,0)) (λ ae C=> (c C)/\K (nP ae) C) q) o) t)/\New (.map #[] 0) (λ x r=> (c r)/\ (∃ s:World,∃ k:Sl,((Instr.makeSlice 30 (nI ((↑b.len:Int))) (nI ((↑b.len:Int)))).run prog r=.ok (.slice k.a k.len k.cap) s)/\ (c s)/\New (.map #[] 0) (λ U D=> (c D)/\New (.cells #[nI g,nI f,.slice d.a d.len d.cap,.slice b.a b.len b.cap,.slice k.a k.len k.cap,.map ((some U)),.map ((some x))] 186 (0,0)) (λ af E=> (c E)/\K (nP af) E) D) s)/\New (.map #[] 0) (λ V F=> (c F)/\∃ u:World,∃ l:Sl,((Instr.makeSlice 30 (nI ((↑b.len:Int))) (nI ((↑b.len:Int)))).run prog F=.ok (.slice l.a l.len l.cap) u)/\ (c u)/\New (.cells #[nI g,nI f,.slice d.a d.len d.cap,.slice b.a b.len b.cap,.slice l.a l.len l.cap,.map ((some V)),.map ((some x))] 186 (0,0)) (λ ag G=> (c G)/\K (nP ag) G) u) r) t) w
def ZtF (e d b c K w) (h:B167 e d b c K w):Zg prog 167 #[nI e,.agg #[nI d,.slice b.a b.len b.cap],.slice c.a c.len c.cap] w K:=cq (sk:=.leaf) h func167
def B101 (f:xA) (g r s:Int) (K:Value->xE) (w:nW):Prop:=Zb f λ m=>∃ t:Option Nat,(Aw w (nO m 5) [.map t])/\∃ D:xA,∃ u:Bool,(∀ b,(λ b=>b=w) b->((Instr.lookup 183 (.map t) (nI g) true)).run prog b=.ok (.tuple #[xP D,.bool u]) b)/\∃ (k:xE),(Br (decide (g<1)) (K (nI 1) w) (Br (decide (g>28629151)) (K (nI 1) w) (Br u
 (K (nI 7) w) (k  w))))/\∀ (G:Env) x,k x->Drw x λ l E=>Zb f λ n=>∃ c,fS l n 3 c/\Zb f λ o=>∃ d,fS l o 4 d/\nC 168 #[c.v,d.v,nI r,nI s] E λ C y=>∃ e:Sl,∃ i,(C=xR (.tuple #[e.v,nI i]))/\Br (i==0) (Zb f λ p=>∃ j,(St 30 (nO p 4) (e.v) y j)/\Zb f λ q=>∃ v:Option Nat,(Aw j (nO q 5) [.map v])/\New (.cells #[nI g,nI r,nI s,nV] 197 (0,0)) (λ A F=>∃ z:World,((Instr.mapUpdate 183 (.map v) (nI g) (nP A)).run prog F=.ok () z)/\K (nI i) z) j) (K (nI i) y)
def ZxS:Sk:=(nS 2 (.cut [] [] (8::ng 22 9) .leaf .leaf))
def Zuu (b d a c K w) (h:B101 b d a c K w):Zg prog 101 #[xP b,nI d,nI a,nI c] w K:=cq (sk:=ZxS) h func101
def B104 (d:xA) (z:Int) (K:Value->xE) (w:nW):Prop:=Zb d λ p=>∃ A:Option Nat,(Aw w (nO p 5) [.map A])/\∃ l:xA,∃ C:Bool,(∀ b,(λ b=>b=w) b->((Instr.lookup 183 (.map A) (nI z) true)).run prog b=.ok (.tuple #[xP l,.bool C]) b)/\Br (!C) (K (nI 2) w) (Zb l λ q=>∃ e,gS w q 3 e/\∃ (m:lI) (J:lJ),(m 0 w)/\∀ (T:Env) c j,m c j->Br (decide (c<(↑e.len:Int))) ((rN c e λ L=>∃ D,zI j (L.add c.toNat) D/\Zb d λ r=>∃ E:Option Nat,(Aw j (nO r 6) [.map E])/\∃ n:World,((Builtin.delete_ #[184,3] 0 #[.map E,nI D]).run prog j=.ok (.tuple #[]) n)/\ (m (wI (c + 1)) n)/\J (wI (c + 1)) n<J c j)) (Drw j λ k O=>Zb d λ s=>∃ f,fS k s 3 f/\Zb d λ t=>∃ g,fS k t 4 g/\Zb l λ u=>∃ F,fI k u 1 F/\Zb l λ v=>∃ G,fI k v 2 G/\nC 175 #[f.v,g.v,nI F,nI G] O λ M Q=>∃ i:Sl,∃ N,(M=xR (.tuple #[i.v,nI N]))/\Zb d λ x=>∃ o,(St 30 (nO x 4) (i.v) Q o)/\Zb d λ y=>∃ H:Option Nat,(Aw o (nO y 5) [.map H])/\∃ I:World,((Builtin.delete_ #[183,3] 0 #[.map H,nI z]).run prog o=.ok (.tuple #[]) I)/\K (nI 0) I))
def ZxQ:Sk:=(nS 3 (.seq (nS 1 (.block (.loop [25] [(.int .i64)] (8::ng 25 10) .leaf))) .leaf))
def Zur (a b K w) (h:B104 a b K w):Zg prog 104 #[xP a,nI b] w K:=cq (sk:=ZxQ) h func104
def B177 (i:xA) (q:Int) (p:ByteArray) (K:Value->xE) (w:nW):Prop:=Zb i λ f=>∃ j:Option Nat,(Aw w (nO f 5) [.map j])/\∃ d:xA,∃ k:Bool,(∀ b,(λ b=>b=w) b->((Instr.lookup 183 (.map j) (nI q) true)).run prog b=.ok (.tuple #[xP d,.bool k]) b)/\Zb i λ g=>∃ l,∃ c:Sl,(Aw w (nO g 1) [nI l,c.v])/\nC 247 #[.agg #[nI l,c.v],xZ p] w λ o n=>∃ e m,(o=xR (.tuple #[nI e,nI m]))/\Br k
 (K (.tuple #[xP d,nI e,.bool (m==0)]) n) (K (.tuple #[xP d,nI e,.bool false]) n)
def Ztv (a c b K w) (h:B177 a c b K w):Zg prog 177 #[xP a,nI c,xZ b] w K:=cq (sk:=.leaf) h func177
def B178 (y e:xA) (f:Int) (K:Value->xE) (w:nW):Prop:=Zb e λ j=>∃ b,gS w j 3 b/\nC 248 #[b.v,nI f] w λ v q=>∃ n z,(v=xR (.tuple #[nI n,.bool z]))/\Zb e λ k=>∃ c,gS q k 3 c/\New (.cells #[nI f] 3 (0,0)) (λ u A=>nC 249 #[c.v,nI n,.slice (some ⟨u,0,none⟩) 1 1] A λ x C=>∃ d,eS x d/\Zb e λ l=>∃ r,(St 30 (nO l 3) (d.v) C r)/\Drw r λ i D=>Zb y λ m=>∃ o:Option Nat,(At i (nO m 6) [.map o])/\Zb e λ t=>∃ p,kI i (t.add 0) p/\∃ s:World,((Instr.mapUpdate 184 (.map o) (nI f) (nI p)).run prog D=.ok () s)/\K (.tuple #[]) s) q
def Ztu (a b c K w) (h:B178 a b c K w):Zg prog 178 #[xP a,xP b,nI c] w K:=cq (sk:=.leaf) h func178
def B106 (f:xA) (u:Int) (t:ByteArray) (K:Value->xE) (w:nW):Prop:=nC 177 #[xP f,nI u,xZ t] w λ r e=>∃ c g n,(r=xR (.tuple #[xP c,nI g,.bool n]))/\Zb f λ k=>∃ o:Option Nat,(Aw e (nO k 6) [.map o])/\∃ v:Int,∃ p:Bool,(∀ b,(λ b=>b=e) b->((Instr.lookup 184 (.map o) (nI g) true)).run prog b=.ok (.tuple #[nI v,.bool p]) b)/\Br (!n) (K (nI 2) e) (Drw e λ j i=>Zb c λ l=>∃ d,fS j l 3 d/\Zb c λ m=>∃ q,fI j m 2 q/\Br (decide ((↑d.len:Int) >= q)) (K (nI 7) i) (Br p
 (K (nI 3) i) (nC 178 #[xP f,xP c,nI g] i λ s x=>eU s/\K (nI 0) x)))
def Zup (a c b K w) (h:B106 a c b K w):Zg prog 106 #[xP a,nI c,xZ b] w K:=cq (sk:=.leaf) h func106
def B107 (j:xA) (Q:Int) (K:Value->xE) (w:nW):Prop:=Zb j λ o=>∃ t:Option Nat,(Aw w (nO o 5) [.map t])/\∃ l:xA,∃ u:Bool,(∀ b,(λ b=>b=w) b->((Instr.lookup 183 (.map t) (nI Q) true)).run prog b=.ok (.tuple #[xP l,.bool u]) b)/\Br (!u) (K (.tuple #[nV,nI 2]) w) (Zb l λ p=>∃ m,gS w p 3 m/\Br (decide ((↑m.len:Int)>0)) (K (.tuple #[nV,nI 7]) w) (Drw w λ e T=>Zb j λ q=>∃ v,∃ f:Sl,(At e (nO q 1) [nI v,f.v])/\Zb j λ r=>∃ x:Option Nat,(At e (nO r 6) [.map x])/\Zb l λ s=>∃ z,fI e s 2 z/\nC 180 #[.map x] T λ J D=>∃ y:Value,(J=xR (y))/\ (e D)/\nC 129 #[y] D λ L E=>∃ g,eS L g/\ (e E)/\nC 179 #[.agg #[nI v,f.v],g.v,nI z] E λ M F=>∃ c:Sl,∃ A,(M=xR (.tuple #[c.v,nI A]))/\ (e F)/\∃ (n:lI) (H:lJ),(n 0 F)/\∀ (V:Env) d k,n d k->Br (decide (d<(↑c.len:Int))) ((rN d c λ I=>∃ C,zI k (I.add d.toNat) C/\nC 178 #[xP j,xP l,nI C] k λ N G=>eU N/\ (n (wI (d + 1)) G)/\H (wI (d + 1)) G<H d k)) (nC 181 #[xP j,c.v] k λ O U=>∃ i,eS O i/\K (.tuple #[i.v,nI A]) U)))
def ZxP:Sk:=(nS 4 (.seq (nS 1 (.block (.loop [51] [(.int .i64)] (11::ng 51 9) .leaf))) .leaf))
def Zuo (a b K w) (h:B107 a b K w):Zg prog 107 #[xP a,nI b] w K:=cq (sk:=ZxP) h func107
def B55 (j:xA) (K:Value->xE) (w:nW):Prop:=Zb j λ o=>∃ f,gS w o 3 f/\∃ q:World,∃ b:Sl,((Instr.makeSlice 30 (nI ((↑f.len:Int))) (nI ((↑f.len:Int)))).run prog w=.ok (b.v) q)/\∃ (i:lI) (r:lJ),(i 0 q)/\∀ (z:Env) c g,i c g->Br (decide (c<(↑b.len:Int))) (Drw g λ l x=>Zb j λ m=>∃ d,fS l m 3 d/\Zb j λ n=>∃ e,fS l n 4 e/\nC 123 #[d.v,e.v,nI c] x λ t y=>∃ p u,(t=xR (.tuple #[nI p,nI u]))/\ (rN c b λ s=>∃ k,(St 3 (s.add c.toNat) (nI p) y k)/\ (i (wI (c + 1)) k)/\r (wI (c + 1)) k<r c g)) (K (b.v) g)
def sk55:Sk:=(nS 2 (.seq (nS 1 (.block (.loop [13] [(.int .i64)] (4::ng 13 20) .leaf))) .leaf))
def ZvR (a K w) (h:B55 a K w):Zg prog 55 #[xP a] w K:=cq (sk:=sk55) h func55
def B134 (t:xA) (K:Value->xE) (w:nW):Prop:=Zb t λ s=>∃ u:Option Nat,(Aw w (nO s 5) [.map u])/\nC 209 #[.map u] w λ M Q=>∃ v:Value,(M=xR (v))/\nC 61 #[v] Q λ N T=>∃ f,eS N f/\∃ (n:lK) (H:lL),(n ⟨none,0,0⟩ 0 T)/\∀ (Y:Env) c e d,n c e d->Br (decide (e<(↑f.len:Int))) ((rN e f λ I=>∃ x,zI d (I.add e.toNat) x/\Zb t λ r=>∃ y:Option Nat,(Aw d (nO r 5) [.map y])/\∃ z:xA,(∀ b,(λ b=>b=d) b->((Instr.lookup 183 (.map y) (nI x) false)).run prog b=.ok (xP z) b)/\Zb z λ J=>∃ A C D,∃ g:Sl,(Aw d J [nI A,nI C,nI D,g.v])/\New (.cells #[nI 0,nI 0,nI 0,nV] 197 (0,0)) (λ m U=>∃ o,sT 197 m (.agg #[nI A,nI C,nI D,g.v]) U o/\∃ i,yS o m 3 i/\nC 166 #[i.v] o λ O V=>∃ j,eS O j/\∃ p,(St 30 ⟨m,0 + 3,none⟩ (j.v) V p)/\∃ E F G,∃ k:Sl,(Aw p ⟨m,0,none⟩ [nI E,nI F,nI G,k.v])/\New (.cells #[nI E,nI F,nI G,k.v] 197 (0,0)) (λ L X=>∃ q l,aP 177 c.v (.slice (some ⟨L,0,none⟩) 1 1) X q l/\ (n l (wI (e + 1)) q)/\H l (wI (e + 1)) q<H c e d) p) d)) (K (c.v) d)
def Zxy:Sk:=(nS 2 (.seq (nS 1 (.block (.loop [3,14] [.sl,(.int .i64)] (3::5::6::ng 14 21) .leaf))) .leaf))
def Zt0 (a K w) (h:B134 a K w):Zg prog 134 #[xP a] w K:=cq (sk:=Zxy) h func134
def B122 (g:xA) (m:Int) (K:Value->xE) (w:nW):Prop:=Zb g λ f=>∃ i:Option Nat,(Aw w (nO f 5) [.map i])/\∃ j:xA,∃ k:Bool,(∀ b,(λ b=>b=w) b->((Instr.lookup 183 (.map i) (nI m) true)).run prog b=.ok (.tuple #[xP j,.bool k]) b)/\Br (!k) (K (.slice none 0 0) w) (Zb j λ e=>∃ c,gS w e 3 c/\nC 181 #[xP g,c.v] w λ l n=>∃ d,eS l d/\K (d.v) n)
def Zt9 (a b K w) (h:B122 a b K w):Zg prog 122 #[xP a,nI b] w K:=cq (sk:=.leaf) h func122
def B181 (t:xA) (i:Sl) (K:Value->xE) (w:nW):Prop:=∃ (g:lK) (p:lL),(g ⟨none,0,0⟩ 0 w)/\∀ (y:Env) b c e,g b c e->Br (decide (c<(↑i.len:Int))) ((rN c i λ q=>∃ m,zI e (q.add c.toNat) m/\Zb t λ l=>∃ n,∃ d:Sl,(Aw e (nO l 1) [nI n,d.v])/\nC 253 #[.agg #[nI n,d.v],nI m] e λ s v=>∃ o u,(s=xR (.tuple #[xZ o,nI u]))/\New (.cells #[xZ o] 9 (0,0)) (λ r x=>∃ k f,aP 31 b.v (.slice (some ⟨r,0,none⟩) 1 1) x k f/\ (g f (wI (c + 1)) k)/\p f (wI (c + 1)) k<p b c e) v)) (K (b.v) e)
def Zxm:Sk:=(nS 2 (.seq (nS 1 (.block (.loop [5,12] [.sl,(.int .i64)] (5::7::8::9::ng 12 18) .leaf))) .leaf))
def Zts (c b K w) (h:B181 c b K w):Zg prog 181 #[xP c,b.v] w K:=cq (sk:=Zxm) h func181
def B64 (e:xA) (K:Value->xE) (w:nW):Prop:=New (.cells #[nV] 47 (0,0)) (λ y am=>New (.cells #[.nilFunc] 113 (0,0)) (λ c aq=>∃ V,sT 113 c (.func (.func 132) #[] #[nP y]) aq V/\Drw V λ o ar=>∃ z:Value,(At o ⟨c,0,none⟩ [z])/\Zb e λ aa=>∃ A,kI o (aa.add 0) A/\Zb e λ t=>∃ C,fI o t 1 C/\New (.cells #[nI A,nI C] 3 (0,0)) (λ ac X=> (o X)/\XP prog cl z [.slice (some ⟨ac,0,none⟩) 2 2] X λ af s=>eU af/\ (o s)/\Zb e λ u=>∃ f,zS s ⟨u.block,u.off + 1 + 1,none⟩ f/\nC 133 #[f.v,nP c] s λ ag Y=>eU ag/\Zb e λ v=>∃ g,gS Y v 3 g/\nC 133 #[g.v,nP c] Y λ ah au=>eU ah/\Drw au λ p av=>∃ D:Value,(At p ⟨c,0,none⟩ [D])/\Zb e λ x=>∃ E:Option Nat,(At p (nO x 5) [.map E])/\∃ F:Int,(∀ b,p b->((Builtin.len_ #[183] 3 #[.map E])).run prog b=.ok (nI F) b)/\New (.cells #[nI F] 3 (0,0)) (λ ad O=> (p O)/\XP prog cl D [.slice (some ⟨ad,0,none⟩) 1 1] O λ ai Q=>eU ai/\ (p Q)/\nC 134 #[xP e] Q λ aj an=>∃ i,eS aj i/\∃ (r:lI) (Z:lJ),(r 0 an)/\∀ (aw:Env) d m,r d m->Br (decide (d<(↑i.len:Int))) ((rN d i λ ab=>∃ G H I,∃ j:Sl,(Aw m (ab.add (YQ d.toNat 4)) [nI G,nI H,nI I,j.v])/\New (.cells #[nI 0,nI 0,nI 0,nV] 197 (0,0)) (λ q ao=>∃ n,sT 197 q (.agg #[nI G,nI H,nI I,j.v]) ao n/\∃ J:Value,(Aw n ⟨c,0,none⟩ [J])/\∃ L,zI n ⟨q,0,none⟩ L/\∃ M,yI n q 1 M/\∃ N,yI n q 2 N/\New (.cells #[nI L,nI M,nI N] 3 (0,0)) (λ ae ap=>XP prog cl J [.slice (some ⟨ae,0,none⟩) 3 3] ap λ ak T=>eU ak/\∃ k,yS T q 3 k/\nC 133 #[k.v,nP c] T λ al U=>eU al/\ (r (wI (d + 1)) U)/\Z (wI (d + 1)) U<Z d m) n) m)) (∃ l,zS m ⟨y,0,none⟩ l/\K (l.v) m)) av) ar) am) w
def sk64:Sk:=(nS 8 (.seq (nS 1 (.block (.loop [46] [(.int .i64)] (7::ng 46 18) .leaf))) .leaf))
def ZvK (a K w) (h:B64 a K w):Zg prog 64 #[xP a] w K:=cq (sk:=sk64) h func64
def B132 (i:Sl) (l:xA) (K:Value->xE) (w:nW):Prop:=∃ (g:lI) (p:lJ),(g 0 w)/\∀ (v:Env) b f,g b f->Br (decide (b<(↑i.len:Int))) ((rN b i λ r=>∃ m,zI f (r.add b.toNat) m/\Drw f λ k u=>Zb l λ q=>∃ c:Sl,(At k q [c.v])/\nC 128 #[.int .u64 (IntKind.u64.wrap m)] u λ s n=>∃ d,eS s d/\ (k n)/\∃ o e,aP 47 c.v d.v n o e/\∃ j:World,((Instr.storeAt 47 (xP l) (e.v)).run prog o=.ok () j)/\ (g (wI (b + 1)) j)/\p (wI (b + 1)) j<p b f)) (K (.tuple #[]) f)
def Zxz:Sk:=(nS 1 (.block (.loop [7] [(.int .i64)] (4::ng 7 10) .leaf)))
def Zt2 (b c K w) (h:B132 b c K w):Zg prog 132 #[b.v,xP c] w K:=cq (sk:=Zxz) h func132
def B133 (b:Sl) (d:xA) (K:Value->xE) (w:nW):Prop:=Zb d λ i=>∃ e:Value,(Aw w i [e])/\New (.cells #[nI ((↑b.len:Int))] 3 (0,0)) (λ k n=>XP prog cl e [.slice (some ⟨k,0,none⟩) 1 1] n λ l g=>eU l/\Zb d λ j=>∃ f:Value,(Aw g j [f])/\XP prog cl f [.slice b.a b.len b.cap] g λ m o=>eU m/\K (.tuple #[]) o) w
def Zt1 (b c K w) (h:B133 b c K w):Zg prog 133 #[.slice b.a b.len b.cap,xP c] w K:=cq (sk:=.leaf) h func133
set_option maxRecDepth 10000
def B256 (o:Int) (j:Sl) (K:Value->xE) (w:nW):Prop:=New (.cells #[nI o,j.v] 37 (0,0)) (λ l p=>∃ (i:Int->Int->xE) (m:Int->Int->World->Nat),(i 0 0 p)/\∀ (q:Env) (d:Int) (c:Int) (b:World),i d c b->∃ g,yS b l 1 g/\Br (decide (c<(↑g.len:Int))) (∃ e,yS b l 1 e/\ (rN c e λ n=>∃ k,zI b (n.add c.toNat) k/\ (i (wI (d + k)) (wI (c + 1)) b)/\m (wI (d + k)) (wI (c + 1)) b<m d c b)) (K (nI d) b)) w
def ZwV:Sk:=(nS 2 (.seq (nS 1 (.block (.loop [3,4] [(.int .i64),(.int .i64)] (ng 3 16) .leaf))) .leaf))
def ZsC (c b K w) (h:B256 c b K w):Zg prog 256 #[.agg #[nI c,b.v]] w K:=cq (sk:=ZwV) h func256
def B184 (D:Int) (o:Sl) (K:Value->xE) (w:nW):Prop:=New (.cells #[nI D,o.v] 37 (0,0)) (λ f e=>∃ (p:xE),(∃ u,zI e ⟨f,0,none⟩ u/\Br (decide (u<1)) (K (.bool false) e) (∃ v,zI e ⟨f,0,none⟩ v/\Br (decide (v>60)) (K (.bool false) e) (∃ k,yS e f 1 k/\Br (decide ((↑k.len:Int)<1)) (K (.bool false) e) (∃ l,yS e f 1 l/\Br (decide ((↑l.len:Int)>4)) (K (.bool false) e) (p  e)))))/\∀ (F:Env) x,p x->∃ (n:lI) (y:lJ),(n 0 x)/\∀ (G:Env) d c,n d c->∃ m,yS c f 1 m/\Br (decide (d<(↑m.len:Int))) (∃ i,yS c f 1 i/\ (rN d i λ z=>∃ q,zI c (z.add d.toNat) q/\Br (decide (q<1)) (K (.bool false) c) (∃ j,yS c f 1 j/\ (rN d j λ A=>∃ r,zI c (A.add d.toNat) r/\Br (decide (r>10)) (K (.bool false) c) ((n (wI (d + 1)) c)/\y (wI (d + 1)) c<y d c))))) (∃ s,∃ g:Sl,(Aw c ⟨f,0,none⟩ [nI s,g.v])/\nC 256 #[.agg #[nI s,g.v]] c λ C E=>∃ t,eI C t/\K (.bool (decide (t<=10))) E)) w
def Zxl:Sk:=(nS 1 (.cut [] [] (2::ng 4 20) .leaf (.seq (nS 1 (.block (.loop [3] [(.int .i64)] (2::3::ng 24 21) .leaf))) .leaf)))
def Ztp (c b K w) (h:B184 c b K w):Zg prog 184 #[.agg #[nI c,b.v]] w K:=cq (sk:=Zxl) h func184
def B186 (r:Int) (f:Sl) (K:Value->xE) (w:nW):Prop:=New (.cells #[nI r,f.v] 37 (0,0)) (λ e m=>∃ j,∃ c:Sl,(Aw m ⟨e,0,none⟩ [nI j,c.v])/\nC 184 #[.agg #[nI j,c.v]] m λ p n=>∃ k,eB p k/\Br (!k) (K (nI 0) n) (Drw n λ d t=>∃ l,kI d ⟨e,0,none⟩ l/\∃ g,∃ b:Sl,(At d ⟨e,0,none⟩ [nI g,b.v])/\nC 256 #[.agg #[nI g,b.v]] t λ q o=>∃ i,eI q i/\ (d o)/\K (nI (wI (l * i))) o)) w
def Ztn (c b K w) (h:B186 c b K w):Zg prog 186 #[.agg #[nI c,b.v]] w K:=cq (sk:=.leaf) h func186
def B200 (L:Int) (o:Sl) (c:Int) (K:Value->xE) (w:nW):Prop:=New (.cells #[nI L,o.v] 37 (0,0)) (λ n p=>∃ (t:xE),(Br (decide (c<0)) (K (.tuple #[xZ nB,nI 1]) p) (∃ u,∃ d:Sl,(Aw p ⟨n,0,none⟩ [nI u,d.v])/\nC 186 #[.agg #[nI u,d.v]] p λ H C=>∃ v,eI H v/\Br (decide (c >= v)) (K (.tuple #[xZ nB,nI 1]) C) (t  C)))/\∀ (Q:Env) r,t r->∃ x,∃ e:Sl,(Aw r ⟨n,0,none⟩ [nI x,e.v])/\nC 256 #[.agg #[nI x,e.v]] r λ I D=>∃ i,eI I i/\Nz i (∃ (m:Sl->xE),(Br (decide (wI (wI (c.tdiv i) + 1) >= 10)) (New (.cells #[.int .u8 (IntKind.u8.wrap (wI (48 + wI ((wI (wI (c.tdiv i) + 1)).tdiv 10))))] 5 (0,0)) (λ F M=>∃ E k,aP 47 (.slice none 0 0) (.slice (some ⟨F,0,none⟩) 1 1) M E k/\m k E) D) (m ⟨none,0,0⟩ D))/\∀ (T:Env) (j:Sl) (s:World),m j s->∃ y,∃ f:Sl,(Aw s ⟨n,0,none⟩ [nI y,f.v])/\nC 256 #[.agg #[nI y,f.v]] s λ J N=>∃ l,eI J l/\Nz l (∃ z:UInt8,((0:Int)<=c.tmod l)/\ ((ByteArray.mk #[65,66,67,68,69,70,71,72,74,75])[(c.tmod l).toNat]? =some z)/\New (.cells #[.int .u8 (IntKind.u8.wrap (wI (48 + (wI (wI (c.tdiv i) + 1)).tmod 10))),.int .u8 ((↑z.toNat:Int))] 5 (0,0)) (λ G O=>∃ q g,aP 47 j.v (.slice (some ⟨G,0,none⟩) 2 2) O q g/\∃ A:ByteArray,(∀ b,(λ b=>b=q) b->((convert 47 9 (g.v))).run prog b=.ok (xZ A) b)/\K (.tuple #[xZ A,nI 0]) q) N))) w
def Zw9:Sk:=(nS 1 (.cut [] [] (4::5::ng 8 8) .leaf (nS 2 (.cut [7] [.sl] (7::ng 21 9) .leaf .leaf))))
def Zs9 (c b d K w) (h:B200 c b d K w):Zg prog 200 #[.agg #[nI c,b.v],nI d] w K:=cq (sk:=Zw9) h func200
def B195 (A:Int) (k:Sl) (C:ByteArray) (K:Value->xE) (w:nW):Prop:=New (.cells #[nI A,k.v] 37 (0,0)) (λ j t=>∃ n,∃ c:Sl,(Aw t ⟨j,0,none⟩ [nI n,c.v])/\nC 184 #[.agg #[nI n,c.v]] t λ x u=>∃ o,eB x o/\Br (!o) (K (.tuple #[nI 0,nI 1]) u) (∃ (i:lI) (v:lJ),(i 0 u)/\∀ (E:Env) b g,i b g->∃ p,∃ d:Sl,(Aw g ⟨j,0,none⟩ [nI p,d.v])/\nC 186 #[.agg #[nI p,d.v]] g λ y l=>∃ q,eI y q/\Br (decide (b<q)) (∃ r,∃ e:Sl,(Aw l ⟨j,0,none⟩ [nI r,e.v])/\nC 200 #[.agg #[nI r,e.v],nI b] l λ z m=>∃ s D,(z=xR (.tuple #[xZ s,nI D]))/\Br (s.toList==C.toList) (K (.tuple #[nI b,nI 0]) m) ((i (wI (b + 1)) m)/\v (wI (b + 1)) m<v b g)) (K (.tuple #[nI 0,nI 2]) l))) w
def Zxe:Sk:=(nS 3 (.seq (nS 1 (.block (.loop [7] [(.int .i64)] (4::5::7::8::9::ng 14 16) .leaf))) .leaf))
def Zte (c b d K w) (h:B195 c b d K w):Zg prog 195 #[.agg #[nI c,b.v],xZ d] w K:=cq (sk:=Zxe) h func195
def B259 (F:Int) (o:Sl) (s:Int) (K:Value->xE) (w:nW):Prop:=New (.cells #[nI F,o.v] 37 (0,0)) (λ i x=>∃ v,∃ f:Sl,(Aw x ⟨i,0,none⟩ [nI v,f.v])/\nC 256 #[.agg #[nI v,f.v]] x λ D G=>∃ r,eI D r/\Nz r (∃ (m:Int->Int->xE) (z:Int->Int->World->Nat),(m (s.tmod r) 0 G)/\∀ (I:Env) (g:Int) (b:Int) (d:World),m g b d->∃ j,yS d i 1 j/\ (rN b j λ A=>∃ t,zI d (A.add b.toNat) t/\Br (decide (g >= t)) (∃ k,yS d i 1 k/\ (rN b k λ C=>∃ p,zI d (C.add b.toNat) p/\ (m (wI (g - p)) (wI (b + 1)) d)/\z (wI (g - p)) (wI (b + 1)) d<z g b d)) (Drw d λ n H=>∃ u,∃ e:Sl,(At n ⟨i,0,none⟩ [nI u,e.v])/\∃ l,hS n i 1 l/\nC 256 #[.agg #[nI u,e.v]] H λ E y=>∃ q,eI E q/\ (n y)/\Nz q (K (nI (wI (wI (wI (s.tdiv q) * (↑l.len:Int)) + b))) y))))) w
def ZwT:Sk:=(nS 3 (.seq (.block (.loop [5,6] [(.int .i64),(.int .i64)] (5::6::ng 11 16) .leaf)) .leaf))
def Zsz (c b d K w) (h:B259 c b d K w):Zg prog 259 #[.agg #[nI c,b.v],nI d] w K:=cq (sk:=ZwT) h func259
def B199 (ai:Int) (v y:Sl) (d:Int) (K:Value->xE) (w:nW):Prop:=New (.cells #[nI ai,v.v] 37 (0,0)) (λ r z=>∃ (F:xE),(Br (decide (d<1)) (K (.tuple #[nV,nI 1]) z) (∃ G,∃ g:Sl,(Aw z ⟨r,0,none⟩ [nI G,g.v])/\nC 186 #[.agg #[nI G,g.v]] z λ ad X=>∃ H,eI ad H/\Br (decide (d>H)) (K (.tuple #[nV,nI 1]) X) (F  X)))/\∀ (ak:Env) Y,F Y->∃ (p:lK) (t:lL),(p ⟨none,0,0⟩ 0 Y)/\∀ (al:Env) b e o,p b e o->∃ I,∃ i:Sl,(Aw o ⟨r,0,none⟩ [nI I,i.v])/\nC 186 #[.agg #[nI I,i.v]] o λ ae C=>∃ J,eI ae J/\Br (decide (e<J)) (nC 196 #[y.v,nI e] C λ af D=>∃ L,eB af L/\Br (!L) (New (.cells #[nI e] 3 (0,0)) (λ ac aj=>∃ E m,aP 30 b.v (.slice (some ⟨ac,0,none⟩) 1 1) aj E m/\ (p m (wI (e + 1)) E)/\t m (wI (e + 1)) E<t b e o) D) ((p b (wI (e + 1)) D)/\t b (wI (e + 1)) D<t b e o)) (Br (decide ((↑b.len:Int)<d)) (K (.tuple #[nV,nI 3]) C) (∃ (q:lI) (u:lJ),(q 0 C)/\∀ (am:Env) c l,q c l->Br (decide (wI (c + d)<=(↑b.len:Int))) (Rng (wI (wI (c + d) - 1)) b.len (Zb b.a λ Z=>∃ x,(Aw l (Z.add ((wI (wI (c + d) - 1)).toNat)) [nI x])/\Drw l λ f A=> (rN c b λ aa=>∃ M,kI f (aa.add c.toNat) M/\Br (wI (x - M)==wI (d - 1)) (∃ N,∃ j:Sl,(At f ⟨r,0,none⟩ [nI N,j.v])/\ (rN c b λ ab=>∃ O,kI f (ab.add c.toNat) O/\∃ T,∃ k:Sl,(At f ⟨r,0,none⟩ [nI T,k.v])/\nC 259 #[.agg #[nI N,j.v],nI O] A λ ag V=>∃ Q,eI ag Q/\ (f V)/\nC 259 #[.agg #[nI T,k.v],nI x] V λ ah s=>∃ U,eI ah U/\ (f s)/\Br (Q==U) (((0:Int)<=wI (c + d))/\ ((wI (c + d):Int)<=(↑b.cap:Int))/\ ((0:Int)<=c)/\ ((c:Int)<=(↑(wI (c + d)).toNat:Int))/\K (.tuple #[.slice (X4 b.a c.toNat b.cap 1) ((wI (c + d)).toNat - c.toNat) (b.cap - c.toNat),nI 0]) s) ((q (wI (c + 1)) s)/\u (wI (c + 1)) s<u c l))) ((q (wI (c + 1)) A)/\u (wI (c + 1)) A<u c l)))) (((0:Int)<=d)/\ ((d:Int)<=(↑b.cap:Int))/\K (.tuple #[.slice b.a d.toNat b.cap,nI 0]) l)))) w
def Zxa:Sk:=(nS 1 (.cut [] [] (6::7::ng 13 8) .leaf (nS 1 (.seq (nS 1 (.block (.loop [8,9] [.sl,(.int .i64)] (8::9::10::ng 21 15) .leaf))) (nS 1 (.seq (nS 1 (.block (.loop [11] [(.int .i64)] (6::7::11::12::ng 40 42) .leaf))) .leaf))))))
def Zta (d b c e K w) (h:B199 d b c e K w):Zg prog 199 #[.agg #[nI d,b.v],c.v,nI e] w K:=cq (sk:=Zxa) h func199
def B260 (c:Sl) (K:Value->xE) (w:nW):Prop:=∃ (j:xE),(Br (decide ((↑c.len:Int)<1)) (K (.bool false) w) (Br (decide ((↑c.len:Int)>8)) (K (.bool false) w) (j  w)))/\∀ (t:Env) o,j o->∃ (f:lI) (i:lJ),(f 0 o)/\∀ (u:Env) b e,f b e->Br (decide (b<(↑c.len:Int))) (Drw e λ g d=> (rN b c λ p=>∃ k,kI g (p.add b.toNat) k/\Br (decide (k<0)) (K (.bool false) d) ((rN b c λ q=>∃ l,kI g (q.add b.toNat) l/\Br (decide (l>10000)) (K (.bool false) d) (Br (decide (b>0)) ((rN b c λ r=>∃ m,kI g (r.add b.toNat) m/\Rng (wI (b - 1)) c.len (Zb c.a λ s=>∃ n,kI g (s.add ((wI (b - 1)).toNat)) n/\Br (decide (m>n)) (K (.bool false) d) ((f (wI (b + 1)) d)/\i (wI (b + 1)) d<i b e)))) ((f (wI (b + 1)) d)/\i (wI (b + 1)) d<i b e)))))) (K (.bool true) e)
def ZwS:Sk:=(nS 1 (.cut [] [] (2::ng 4 8) .leaf (.seq (nS 1 (.block (.loop [3] [(.int .i64)] (2::3::ng 12 34) .leaf))) .leaf)))
def Zsy (b K w) (h:B260 b K w):Zg prog 260 #[b.v] w K:=cq (sk:=ZwS) h func260
def B204 (f:Sl) (k:Int) (K:Value->xE) (w:nW):Prop:=∃ (e:Int->Int->xE) (i:Int->Int->World->Nat),(e 0 k w)/\∀ (m:Env) (d:Int) (b:Int) (c:World),e d b c->Br (decide (b<(↑f.len:Int))) ((rN b f λ j=>∃ g,zI c (j.add b.toNat) g/\ (e (wI (d + g)) (wI (b + 1)) c)/\i (wI (d + g)) (wI (b + 1)) c<i d b c)) (K (nI d) c)
def Zw6:Sk:=(nS 2 (.seq (nS 1 (.block (.loop [5,6] [(.int .i64),(.int .i64)] (5::6::ng 8 12) .leaf))) .leaf))
def Zs6 (b c K w) (h:B204 b c K w):Zg prog 204 #[b.v,nI c] w K:=cq (sk:=Zw6) h func204
def B185 (g:Int) (d:Sl) (K:Value->xE) (w:nW):Prop:=∃ (n:xE),(Br (decide (g<0)) (K (.tuple #[nV,nI 1]) w) (Br (decide (g>10000)) (K (.tuple #[nV,nI 1]) w) (Br (decide ((↑d.len:Int)<1)) (K (.tuple #[nV,nI 1]) w) (Br (decide ((↑d.len:Int)>8)) (K (.tuple #[nV,nI 1]) w) (n  w)))))/\∀ (C:Env) p,n p->New (.cells #[nI g] 3 (0,0)) (λ u z=>∃ (i:lK) (r:lL),(i ⟨(some ⟨u,0,none⟩),1,1⟩ 1 z)/\∀ (D:Env) b c f,i b c f->Br (decide (c<(↑d.len:Int))) ((rN c d λ s=>∃ o,(Aw f (s.add c.toNat) [xF o])/\nC 257 #[xF o,nI g] f λ x q=>∃ j y,(x=xR (.tuple #[nI j,nI y]))/\Rng (wI (c - 1)) b.len (Zb b.a λ t=>∃ k,zI q (t.add ((wI (c - 1)).toNat)) k/\New (.cells #[nI (if k<j then k else j)] 3 (0,0)) (λ v A=>∃ m e,aP 30 b.v (.slice (some ⟨v,0,none⟩) 1 1) A m e/\ (i e (wI (c + 1)) m)/\r e (wI (c + 1)) m<r b c f) q))) (K (.tuple #[b.v,nI 0]) f)) p
def Zxk:Sk:=(nS 1 (.cut [] [] (4::5::ng 10 16) .leaf (nS 1 (.seq (nS 1 (.block (.loop [6,7] [.sl,(.int .i64)] (6::7::8::9::ng 28 25) .leaf))) .leaf))))
def Zto (c b K w) (h:B185 c b K w):Zg prog 185 #[nI c,b.v] w K:=cq (sk:=Zxk) h func185
def B203 (f c:Sl) (K:Value->xE) (w:nW):Prop:=nC 260 #[f.v] w λ C m=>∃ t,eB C t/\∃ (n:xE),(Br (!t) (K (.bool false) m) (Br ((↑c.len:Int) !=(↑f.len:Int)) (K (.bool false) m) (n  m)))/\∀ (F:Env) u,n u->∃ (j:lI) (v:lJ),(j 0 u)/\∀ (G:Env) b d,j b d->Br (decide (b<(↑c.len:Int))) ((rN b c λ y=>∃ p,zI d (y.add b.toNat) p/\Br (decide (p<0)) (K (.bool false) d) ((rN b c λ z=>∃ q,zI d (z.add b.toNat) q/\Br (decide (q>10000)) (K (.bool false) d) ((j (wI (b + 1)) d)/\v (wI (b + 1)) d<v b d))))) (∃ (k:lI) (x:lJ),(k 0 d)/\∀ (H:Env) e g,k e g->Br (decide (e<(↑f.len:Int))) (Drw g λ o E=> (rN e f λ A=>∃ s,kI o (A.add e.toNat) s/\nC 204 #[c.v,nI e] E λ D i=>∃ r,eI D r/\ (o i)/\Br (decide (r>s)) (K (.bool false) i) ((k (wI (e + 1)) i)/\x (wI (e + 1)) i<x e g))) (K (.bool true) g))
def Zw7:Sk:=(nS 2 (.cut [] [] (4::ng 10 9) .leaf (.seq (nS 1 (.block (.loop [6] [(.int .i64)] (4::6::ng 19 18) .leaf))) (.seq (nS 1 (.block (.loop [7] [(.int .i64)] (4::7::ng 37 14) .leaf))) .leaf))))
def Zs7 (b c K w) (h:B203 b c K w):Zg prog 203 #[b.v,c.v] w K:=cq (sk:=Zw7) h func203
def B126 (d e:Sl) (l:Int) (K:Value->xE) (w:nW):Prop:=nC 203 #[d.v,e.v] w λ t i=>∃ p,eB t p/\∃ (n:xE),(Br (!p) (K (.tuple #[nI 0,nI 1]) i) (Br (decide (l<0)) (K (.tuple #[nI 0,nI 1]) i) (Br (decide (l >= (↑d.len:Int))) (K (.tuple #[nI 0,nI 1]) i) (n  i))))/\∀ (x:Env) q,n q->∃ (k:Int->Int->xE) (r:Int->Int->World->Nat),(k 10000 0 q)/\∀ (y:Env) (c:Int) (b:Int) (j:World),k c b j->Br (decide (b<=l)) (Drw j λ o v=> (rN b d λ s=>∃ f,kI o (s.add b.toNat) f/\nC 204 #[e.v,nI b] v λ u m=>∃ g,eI u g/\ (o m)/\ (k (if wI (f - g)<c then wI (f - g) else c) (wI (b + 1)) m)/\r (if wI (f - g)<c then wI (f - g) else c) (wI (b + 1)) m<r c b j)) (K (.tuple #[nI c,nI 0]) j)
def ZxC:Sk:=(nS 2 (.cut [] [] (6::7::ng 14 12) .leaf (nS 1 (.seq (nS 1 (.block (.loop [9,10] [(.int .i64),(.int .i64)] (9::10::ng 26 15) .leaf))) .leaf))))
def Zt5 (b c d K w) (h:B126 b c d K w):Zg prog 126 #[b.v,c.v,nI d] w K:=cq (sk:=ZxC) h func126
def B188 (g c:Sl) (d e:Int) (K:Value->xE) (w:nW):Prop:=nC 126 #[g.v,c.v,nI d] w λ s f=>∃ l m,(s=xR (.tuple #[nI l,nI m]))/\∃ (k:xE),(Br (m !=0) (K (.tuple #[nV,nI 1]) f) (Br (decide (e<1)) (K (.tuple #[nV,nI 1]) f) (Br (decide (e>10000)) (K (.tuple #[nV,nI 1]) f) (k  f))))/\∀ (v:Env) i,k i->Br (decide (e>l)) (K (.tuple #[nV,nI 3]) i) (New (.cells #[] 3 (0,0)) (λ r u=>∃ j b,aP 30 (.slice (some ⟨r,0,none⟩) 0 0) c.v u j b/\ (rN d b λ p=>∃ n,zI j (p.add d.toNat) n/\ (rN d b λ q=>∃ o,(St 3 (q.add d.toNat) (nI (wI (n + e))) j o)/\K (.tuple #[b.v,nI 0]) o))) i)
def Zxi:Sk:=(nS 2 (.cut [] [] (8::9::ng 20 10) .leaf .leaf))
def Ztl (b c d e K w) (h:B188 b c d e K w):Zg prog 188 #[b.v,c.v,nI d,nI e] w K:=cq (sk:=Zxi) h func188
def B257 (b:Nat) (e:Int) (K:Value->xE) (w:nW):Prop:=∃ (o:xE),(Br (decide (e<0)) (K (.tuple #[nI 0,nI 1]) w) (Br (decide (e>10000)) (K (.tuple #[nI 0,nI 1]) w) (o  w)))/\∀ (v:Env) d,o d->∃ (p:xE),(∃ q:Bool,(∀ a,(λ a=>a=d) a->((do eqGuard BinOp.neq 35 (Operand.tmp 14) (Operand.tmp 15) (xF b) (xF b);binOp BinOp.neq 35 (xF b) (xF b):Sem Value)).run prog a=.ok (.bool q) a)/\Br q
 (K (.tuple #[nI 0,nI 0]) d) (∃ r:Bool,(∀ a,(λ a=>a=d) a->((do eqGuard BinOp.leq 35 (Operand.tmp 18) (Operand.const (xF 0)) (xF b) (xF 0);binOp BinOp.leq 35 (xF b) (xF 0):Sem Value)).run prog a=.ok (.bool r) a)/\Br r
 (K (.tuple #[nI 0,nI 0]) d) (p  d)))/\∀ (x:Env) g,p g->∃ s:Bool,(∀ a,(λ a=>a=g) a->((do eqGuard BinOp.geq 35 (Operand.tmp 21) (Operand.const (xF 4607182418800017408)) (xF b) (xF 4607182418800017408);binOp BinOp.geq 35 (xF b) (xF 4607182418800017408):Sem Value)).run prog a=.ok (.bool s) a)/\Br s
 (K (.tuple #[nI e,nI 0]) g) (∃ n:World,∃ k:Nat,((convert 3 35 (nI e)).run prog g=.ok (xF k) n)/\∃ l:Nat,(∀ a,(λ a=>a=n) a->((do eqGuard BinOp.mul 35 (Operand.tmp 24) (Operand.tmp 26) (xF b) (xF k);binOp BinOp.mul 35 (xF b) (xF k):Sem Value)).run prog a=.ok (xF l) a)/\∃ (j:lI) (u:lJ),(j 0 n)/\∀ (y:Env) c i,j c i->Br (decide (c<e)) (∃ f:World,∃ m:Nat,((convert 3 35 (nI (wI (c + 1)))).run prog i=.ok (xF m) f)/\∃ t:Bool,(∀ a,(λ a=>a=f) a->((do eqGuard BinOp.leq 35 (Operand.tmp 34) (Operand.tmp 35) (xF m) (xF l);binOp BinOp.leq 35 (xF m) (xF l):Sem Value)).run prog a=.ok (.bool t) a)/\Br t
 ((j (wI (c + 1)) f)/\u (wI (c + 1)) f<u c i) (K (.tuple #[nI c,nI 0]) f)) (K (.tuple #[nI c,nI 0]) i))
def ZwU:Sk:=(nS 1 (.cut [] [] (4::5::ng 8 6) .leaf (.cut [] [] (4::5::ng 14 7) .leaf (nS 3 (.seq (.block (.loop [7] [(.int .i64)] (7::ng 28 12) .leaf)) .leaf)))))
def ZsB (a b K w) (h:B257 a b K w):Zg prog 257 #[xF a,nI b] w K:=cq (sk:=ZwU) h func257
def B196 (e:Sl) (j:Int) (K:Value->xE) (w:nW):Prop:=∃ (d:lI) (g:lJ),(d 0 w)/\∀ (l:Env) b c,d b c->Br (decide (b<(↑e.len:Int))) ((rN b e λ i=>∃ f,zI c (i.add b.toNat) f/\Br (f==j) (K (.bool true) c) ((d (wI (b + 1)) c)/\g (wI (b + 1)) c<g b c))) (K (.bool false) c)
def Zxd:Sk:=(nS 1 (.seq (nS 1 (.block (.loop [5] [(.int .i64)] (ng 4 14) .leaf))) .leaf))
def Ztd (b c K w) (h:B196 b c K w):Zg prog 196 #[b.v,nI c] w K:=cq (sk:=Zxd) h func196
def B137 (n:Int) (K:Value->xE) (w:nW):Prop:=∃ (g:Int->Sl->xE) (k:Int->Sl->World->Nat),(g n ⟨none,0,0⟩ w)/\∀ (q:Env) (c:Int) (b:Sl) (f:World),g c b f->Br (decide (c>0)) (New (.cells #[.int .u8 (IntKind.u8.wrap (c.tmod 256))] 5 (0,0)) (λ m o=>∃ i e,aP 47 (.slice (some ⟨m,0,none⟩) 1 1) b.v o i e/\ (g (IntKind.u64.wrap (c.tdiv 256)) e i)/\k (IntKind.u64.wrap (c.tdiv 256)) e i<k c b f) f) (New (.cells #[.int .u8 (IntKind.u8.wrap (↑b.len:Int))] 5 (0,0)) (λ l p=>∃ j d,aP 47 (.slice (some ⟨l,0,none⟩) 1 1) b.v p j d/\K (d.v) j) f)
def Zxx:Sk:=(nS 2 (.seq (.block (.loop [0,3] [(.int .u64),.sl] (0::ng 3 11) .leaf)) .leaf))
def ZtY (a K w) (h:B137 a K w):Zg prog 137 #[.int .u64 a] w K:=cq (sk:=Zxx) h func137
def B143 (b:xA) (K:Value->xE) (w:nW):Prop:=∃ (E:xE),(Drw w λ t D=>Zb b λ F=>∃ N,(At t (nO F 2) [.bool N])/\Br N
 (K (.tuple #[.int .u64 0,.bool false,nI 0]) D) (Zb b λ G=>∃ O,fI t G 1 O/\Zb b λ ad=>∃ o,kS t (ad.add 0) o/\Br (decide (O >= (↑o.len:Int))) (K (.tuple #[.int .u64 0,.bool false,nI 0]) D) (E  D)))/\∀ (am:Env) V,E V->Drw V λ u X=>Zb b λ ae=>∃ k,kS u (ae.add 0) k/\Zb b λ H=>∃ y,fI u H 1 y/\ (rN y k λ af=>∃ g,(At u (af.add y.toNat) [.int .u8 g])/\∃ (s:Int->xE),(Br (decide (wI g >= 16)) (s (wI (wI g - 16)) X) (s (wI g) X))/\∀ (an:Env) e Y,s e Y->∃ (i:xE),(Drw Y λ d c=>Br (decide (e>8)) (K (.tuple #[.int .u64 0,.bool false,nI 0]) c) (Zb b λ I=>∃ Q,fI d I 1 Q/\Zb b λ ag=>∃ p,kS d (ag.add 0) p/\Br (decide (wI (wI (Q + 1) + e)>(↑p.len:Int))) (K (.tuple #[.int .u64 0,.bool false,nI 0]) c) (Br (decide (wI g >= 16)) (Br (e==0) (K (.tuple #[.int .u64 0,.bool false,nI 0]) c) (Br (decide (e>0)) (Zb b λ ah=>∃ l,kS d (ah.add 0) l/\Zb b λ J=>∃ z,fI d J 1 z/\Rng (wI (z + 1)) l.len (Zb l.a λ aj=>∃ T,(At d (aj.add ((wI (z + 1)).toNat)) [.int .u8 T])/\Br (T==0) (K (.tuple #[.int .u64 0,.bool false,nI 0]) c) (i  c))) (i  c))) (Br (decide (e>0)) (Zb b λ ai=>∃ m,kS d (ai.add 0) m/\Zb b λ L=>∃ A,fI d L 1 A/\Rng (wI (A + 1)) m.len (Zb m.a λ ak=>∃ U,(At d (ak.add ((wI (A + 1)).toNat)) [.int .u8 U])/\Br (U==0) (K (.tuple #[.int .u64 0,.bool false,nI 0]) c) (i  c))) (i  c)))))/\∀ (ao:Env) Z,i Z->∃ (r:Int->Int->xE) (ab:Int->Int->World->Nat),(r 0 0 Z)/\∀ (ap:Env) (j:Int) (f:Int) (q:World),r j f q->Br (decide (f<e)) (Drw q λ v aa=>Zb b λ al=>∃ n,kS v (al.add 0) n/\Zb b λ M=>∃ C,fI v M 1 C/\Rng (wI (wI (C + 1) + f)) n.len (Zb n.a λ ac=>∃ x,(At v (ac.add ((wI (wI (C + 1) + f)).toNat)) [.int .u8 x])/\ (r (IntKind.u64.wrap (IntKind.u64.wrap (j * 256) + IntKind.u64.wrap x)) (wI (f + 1)) aa)/\ab (IntKind.u64.wrap (IntKind.u64.wrap (j * 256) + IntKind.u64.wrap x)) (wI (f + 1)) aa<ab j f q)) (K (.tuple #[.int .u64 j,.bool (decide (wI g >= 16)),nI (wI (e + 1))]) q))
def Zxs:Sk:=(nS 1 (.cut [] [] (2::3::4::ng 9 16) .leaf (nS 2 (.cut [5] [(.int .i64)] [5,38,39,40] .leaf (.cut [] [] (2::3::4::ng 41 42) .leaf (nS 1 (.seq (nS 1 (.block (.loop [7,8] [(.int .u64),(.int .i64)] (7::8::ng 83 22) .leaf))) .leaf)))))))
def ZtS (a K w) (h:B143 a K w):Zg prog 143 #[xP a] w K:=cq (sk:=Zxs) h func143
def B77 (a:xA) (t:Int) (K:Value->xE) (w:nW):Prop:=nC 143 #[xP a] w λ s b=>∃ c m d,(s=xR (.tuple #[.int .u64 c,.bool m,nI d]))/\∃ (f:xE),(Br (d==0) (Zb a λ g=>∃ o,(St 4 (nO g 2) (.bool true) b o)/\K (.int .u64 0) o) (Br m
 (Zb a λ i=>∃ p,(St 4 (nO i 2) (.bool true) b p)/\K (.int .u64 0) p) (Br (decide (c>t)) (Zb a λ j=>∃ q,(St 4 (nO j 2) (.bool true) b q)/\K (.int .u64 0) q) (f  b))))/\∀ (v:Env) e,f e->Zb a λ k=>∃ n,gI e k 1 n/\Zb a λ l=>∃ r,(St 3 (nO l 1) (nI (wI (n + d))) e r)/\K (.int .u64 c) r
def sk77:Sk:=(nS 2 (.cut [] [] (4::ng 14 13) .leaf .leaf))
def Zvz (b a K w) (h:B77 b a K w):Zg prog 77 #[xP b,.int .u64 a] w K:=cq (sk:=sk77) h func77
def B80 (d:xA) (K:Value->xE) (w:nW):Prop:=Drw w λ c j=>Zb d λ f=>∃ i,(At c (nO f 2) [.bool i])/\Br (!i) (Zb d λ e=>∃ g,fI c e 1 g/\Zb d λ k=>∃ b,kS c (k.add 0) b/\K (.bool (g==(↑b.len:Int))) j) (K (.bool false) j)
def Zvx (a K w) (h:B80 a K w):Zg prog 80 #[xP a] w K:=cq (sk:=.leaf) h func80
set_option maxRecDepth 10000
def B109 (m I:Int) (l n:Sl) (K:Value->xE) (w:nW):Prop:=New (.cells #[nI I,l.v] 37 (0,0)) (λ j y=>∃ r,∃ c:Sl,(Aw y ⟨j,0,none⟩ [nI r,c.v])/\nC 184 #[.agg #[nI r,c.v]] y λ F k=>∃ s,eB F s/\∃ (q:xE),(Br (decide (m<1)) (K (.tuple #[xP none,nI 1]) k) (Br (decide (m>9999)) (K (.tuple #[xP none,nI 1]) k) (Br (!s) (K (.tuple #[xP none,nI 1]) k) (q  k))))/\∀ (M:Env) o,q o->∃ t,∃ d:Sl,(Aw o ⟨j,0,none⟩ [nI t,d.v])/\nC 186 #[.agg #[nI t,d.v]] o λ G J=>∃ u,eI G u/\nC 185 #[nI u,n.v] J λ H z=>∃ e:Sl,∃ v,(H=xR (.tuple #[e.v,nI v]))/\Br (v !=0) (K (.tuple #[xP none,nI 1]) z) (New (.cells #[] 3 (0,0)) (λ D A=>∃ f,yS A j 1 f/\∃ C g,aP 30 (.slice (some ⟨D,0,none⟩) 0 0) f.v A C g/\∃ p,(St 30 ⟨j,0 + 1,none⟩ (g.v) C p)/\∃ x,∃ i:Sl,(Aw p ⟨j,0,none⟩ [nI x,i.v])/\New (.cells #[nI m,nI x,i.v,e.v,nV] 179 (0,0)) (λ E L=>K (.tuple #[nP E,nI 0]) L) p) z)) w
def ZxN:Sk:=(nS 2 (.cut [] [] (6::7::ng 13 10) .leaf .leaf))
def Zum (e d b c K w) (h:B109 e d b c K w):Zg prog 109 #[nI e,.agg #[nI d,b.v],c.v] w K:=cq (sk:=ZxN) h func109
def B127 (e:xA) (K:Value->xE) (w:nW):Prop:=Zb e λ z=>∃ j,gS w z 3 j/\∃ D:World,∃ c:Sl,((Instr.makeSlice 30 (nI ((↑j.len:Int))) (nI ((↑j.len:Int)))).run prog w=.ok (c.v) D)/\∃ (m:lI) (E:lJ),(m 0 D)/\∀ (I:Env) b k,m b k->Zb e λ r=>∃ l,gS k r 4 l/\Br (decide (b<(↑l.len:Int))) (Drw k λ d H=>Zb e λ s=>∃ f,fS d s 4 f/\ (rN b f λ t=>∃ n,kI d (nO (t.add (YQ b.toNat 4)) 1) n/\Zb e λ u=>∃ g,fS d u 4 g/\ (rN b g λ v=>∃ o,kI d (nO (v.add (YQ b.toNat 4)) 1) o/\ (rN o c λ F=>∃ A,kI d (F.add o.toNat) A/\Zb e λ x=>∃ i,fS d x 4 i/\ (rN b i λ y=>∃ C,kI d (nO (y.add (YQ b.toNat 4)) 2) C/\ (rN n c λ G=>∃ q,(St 3 (G.add n.toNat) (nI (wI (A + C))) H q)/\ (m (wI (b + 1)) q)/\E (wI (b + 1)) q<E b k)))))) (K (c.v) k)
def ZxB:Sk:=(nS 2 (.seq (nS 1 (.block (.loop [4] [(.int .i64)] (4::ng 11 39) .leaf))) .leaf))
def Zt4 (a K w) (h:B127 a K w):Zg prog 127 #[xP a] w K:=cq (sk:=ZxB) h func127
def B59 (k:xA) (K:Value->xE) (w:nW):Prop:=∃ (j:lK) (r:lL),(j ⟨none,0,0⟩ 0 w)/\∀ (C:Env) b c g,j b c g->Zb k λ o=>∃ i,gS g o 3 i/\Br (decide (c<(↑i.len:Int))) (Drw g λ m y=>Zb k λ n=>∃ d,fS m n 3 d/\nC 127 #[xP k] y λ t q=>∃ e,eS t e/\ (m q)/\nC 126 #[d.v,e.v,nI c] q λ u z=>∃ p v,(u=xR (.tuple #[nI p,nI v]))/\New (.cells #[nI p] 3 (0,0)) (λ s A=>∃ l f,aP 30 b.v (.slice (some ⟨s,0,none⟩) 1 1) A l f/\ (j f (wI (c + 1)) l)/\r f (wI (c + 1)) l<r b c g) z) (K (b.v) g)
def sk59:Sk:=(nS 2 (.seq (nS 1 (.block (.loop [3,4] [.sl,(.int .i64)] (ng 3 28) .leaf))) .leaf))
def ZvN (a K w) (h:B59 a K w):Zg prog 59 #[xP a] w K:=cq (sk:=sk59) h func59
def B187 (k:xA) (o:Int) (K:Value->xE) (w:nW):Prop:=∃ (g:lI) (m:lJ),(g 0 w)/\∀ (p:Env) c b,g c b->Zb k λ j=>∃ f,gS b j 4 f/\Br (decide (c<(↑f.len:Int))) (Zb k λ i=>∃ d,gS b i 4 d/\ (rN c d λ n=>∃ l,zI b ((n.add (YQ c.toNat 4)).add 0) l/\Br (l==o) (K (nI c) b) ((g (wI (c + 1)) b)/\m (wI (c + 1)) b<m c b))) (K (nI ((-1))) b)
def Zxj:Sk:=(nS 1 (.seq (nS 1 (.block (.loop [5] [(.int .i64)] (ng 4 22) .leaf))) .leaf))
def Ztm (a b K w) (h:B187 a b K w):Zg prog 187 #[xP a,nI b] w K:=cq (sk:=Zxj) h func187
def B111 (f:xA) (o G H:Int) (K:Value->xE) (w:nW):Prop:=∃ (x:xE),(Br (decide (o<1)) (K (nI 1) w) (Br (decide (o>28629151)) (K (nI 1) w) (x  w)))/\∀ (ah:Env) L,x L->nC 187 #[xP f,nI o] L λ ac O=>∃ I,eI ac I/\Br (decide (I >= 0)) (K (nI 7) O) (Drw O λ y ag=>Zb f λ z=>∃ i,fS y z 3 i/\nC 127 #[xP f] ag λ ad Q=>∃ j,eS ad j/\ (y Q)/\nC 188 #[i.v,j.v,nI G,nI H] Q λ ae T=>∃ t:Sl,∃ u,(ae=xR (.tuple #[t.v,nI u]))/\Br (u !=0) (K (nI u) T) (∃ (s:Int->xE),(∃ (r:lI) (Y:lJ),(r 0 T)/\∀ (ai:Env) b e,r b e->Zb f λ A=>∃ q,gS e A 4 q/\Br (decide (b<(↑q.len:Int))) (Zb f λ C=>∃ p,gS e C 4 p/\ (rN b p λ Z=>∃ J,zI e ((Z.add (YQ b.toNat 4)).add 0) J/\Br (decide (J<o)) ((r (wI (b + 1)) e)/\Y (wI (b + 1)) e<Y b e) (s b e))) (s b e))/\∀ (aj:Env) c U,s c U->New (.cells #[] 197 (0,0)) (λ aa V=>Zb f λ D=>∃ k,gS V D 4 k/\ ((0:Int)<=c)/\ ((c:Int)<=(↑k.cap:Int))/\∃ X l,aP 177 (.slice (some ⟨aa,0,none⟩) 0 0) (.slice k.a c.toNat k.cap) V X l/\New (.cells #[nI o,nI G,nI H,nV] 197 (0,0)) (λ ab af=>∃ v m,aP 177 l.v (.slice (some ⟨ab,0,none⟩) 1 1) af v m/\Zb f λ E=>∃ g,gS v E 4 g/\ ((0:Int)<=c)/\ ((c:Int)<=(↑g.len:Int))/\∃ M n,aP 177 m.v (.slice (X4 g.a c.toNat g.cap 4) (g.len - c.toNat) (g.cap - c.toNat)) v M n/\Zb f λ F=>∃ N,(St 177 (nO F 4) (n.v) M N)/\K (nI 0) N) X) U))
def ZxM:Sk:=(nS 1 (.cut [] [] (8::ng 13 6) .leaf (nS 4 (.cut [11] [(.int .i64)] (11::ng 38 21) (.block (.loop [11] [(.int .i64)] (11::ng 38 21) .leaf)) .leaf))))
def Zuk (b d a c K w) (h:B111 b d a c K w):Zg prog 111 #[xP b,nI d,nI a,nI c] w K:=cq (sk:=ZxM) h func111
def B114 (i:xA) (t:Int) (K:Value->xE) (w:nW):Prop:=nC 187 #[xP i,nI t] w λ s o=>∃ b,eI s b/\Br (decide (b<0)) (K (nI 2) o) (Drw o λ g u=>Zb i λ l=>∃ d,fS g l 4 d/\ ((0:Int)<=b)/\ ((b:Int)<=(↑d.cap:Int))/\Zb i λ m=>∃ c,fS g m 4 c/\ ((0:Int)<=wI (b + 1))/\ ((wI (b + 1):Int)<=(↑c.len:Int))/\New (.cells #[] 197 (0,0)) (λ r p=> (g p)/\∃ j e,aP 177 (.slice (some ⟨r,0,none⟩) 0 0) (.slice d.a b.toNat d.cap) p j e/\ (g j)/\∃ k f,aP 177 e.v (.slice (X4 c.a (wI (b + 1)).toNat c.cap 4) (c.len - (wI (b + 1)).toNat) (c.cap - (wI (b + 1)).toNat)) j k f/\ (g k)/\Zb i λ n=>∃ q,(St 177 (nO n 4) (f.v) k q)/\K (nI 0) q) u)
def Zuh (a b K w) (h:B114 a b K w):Zg prog 114 #[xP a,nI b] w K:=cq (sk:=.leaf) h func114
def B197 (p:xA) (K:Value->xE) (w:nW):Prop:=∃ (k:lK) (q:lL),(k ⟨none,0,0⟩ 0 w)/\∀ (r:Env) c b d,k c b d->Zb p λ o=>∃ j,gS d o 4 j/\Br (decide (b<(↑j.len:Int))) (Zb p λ m=>∃ f,gS d m 4 f/\ (rN b f λ n=>∃ e,zS d (nO (n.add (YQ b.toNat 4)) 3) e/\∃ l g,aP 30 c.v e.v d l g/\ (k g (wI (b + 1)) l)/\q g (wI (b + 1)) l<q c b d)) (K (c.v) d)
def Zxc:Sk:=(nS 2 (.seq (nS 1 (.block (.loop [3,4] [.sl,(.int .i64)] (ng 3 21) .leaf))) .leaf))
def Ztc (a K w) (h:B197 a K w):Zg prog 197 #[xP a] w K:=cq (sk:=Zxc) h func197
def B198 (f:Sl) (p:Int) (K:Value->xE) (w:nW):Prop:=∃ (l:Sl->Bool->Int->xE) (k:Sl->Bool->Int->World->Nat),(l ⟨none,0,0⟩ false 0 w)/\∀ (T:Env) (c:Sl) (e:Bool) (b:Int) (d:World),l c e b d->Br (decide (b<(↑f.len:Int))) (Br (!e) ((rN b f λ A=>∃ u,zI d (A.add b.toNat) u/\Br (decide (u>p)) (New (.cells #[nI p] 3 (0,0)) (λ F M=>∃ q i,aP 30 c.v (.slice (some ⟨F,0,none⟩) 1 1) M q i/\ (rN b f λ C=>∃ v,zI q (C.add b.toNat) v/\New (.cells #[nI v] 3 (0,0)) (λ G N=>∃ r m,aP 30 i.v (.slice (some ⟨G,0,none⟩) 1 1) N r m/\ (l m true (wI (b + 1)) r)/\k m true (wI (b + 1)) r<k c e b d) q)) d) ((rN b f λ D=>∃ x,zI d (D.add b.toNat) x/\New (.cells #[nI x] 3 (0,0)) (λ H O=>∃ s n,aP 30 c.v (.slice (some ⟨H,0,none⟩) 1 1) O s n/\ (l n e (wI (b + 1)) s)/\k n e (wI (b + 1)) s<k c e b d) d)))) ((rN b f λ E=>∃ y,zI d (E.add b.toNat) y/\New (.cells #[nI y] 3 (0,0)) (λ I Q=>∃ t o,aP 30 c.v (.slice (some ⟨I,0,none⟩) 1 1) Q t o/\ (l o e (wI (b + 1)) t)/\k o e (wI (b + 1)) t<k c e b d) d))) (Br (!e) (New (.cells #[nI p] 3 (0,0)) (λ J L=>∃ z j,aP 30 c.v (.slice (some ⟨J,0,none⟩) 1 1) L z j/\K (j.v) z) d) (K (c.v) d))
def Zxb:Sk:=(nS 3 (.seq (nS 1 (.block (.loop [5,6,7] [.sl,.bool,(.int .i64)] (ng 5 30) .leaf))) .leaf))
def Ztb (b c K w) (h:B198 b c K w):Zg prog 198 #[b.v,nI c] w K:=cq (sk:=Zxb) h func198
def B119 (c:xA) (Y:Int) (X:ByteArray) (K:Value->xE) (w:nW):Prop:=nC 187 #[xP c,nI Y] w λ O H=>∃ b,eI O b/\Zb c λ s=>∃ D,∃ d:Sl,(Aw H (nO s 1) [nI D,d.v])/\nC 195 #[.agg #[nI D,d.v],xZ X] H λ Q q=>∃ p E,(Q=xR (.tuple #[nI p,nI E]))/\∃ (r:xE),(Br (decide (b<0)) (K (nI 2) q) (Br (E !=0) (K (nI 2) q) (r  q)))/\∀ (ac:Env) I,r I->Drw I λ m J=>Zb c λ t=>∃ i,fS m t 4 i/\ (rN b i λ u=>∃ o,kS m (nO (u.add (YQ b.toNat 4)) 3) o/\Zb c λ v=>∃ j,fS m v 4 j/\ (rN b j λ x=>∃ F,kI m (nO (x.add (YQ b.toNat 4)) 2) F/\Br (decide ((↑o.len:Int) >= F)) (K (nI 7) J) (nC 197 #[xP c] J λ T aa=>∃ e,eS T e/\nC 196 #[e.v,nI p] aa λ U L=>∃ G,eB U G/\Br G
 (K (nI 3) L) (Drw L λ n ab=>Zb c λ y=>∃ k,fS n y 4 k/\Zb c λ z=>∃ l,fS n z 4 l/\ (rN b l λ A=>∃ f,kS n (nO (A.add (YQ b.toNat 4)) 3) f/\nC 198 #[f.v,nI p] ab λ V M=>∃ g,eS V g/\ (n M)/\ (rN b k λ C=>∃ N,(St 30 (nO (C.add (YQ b.toNat 4)) 3) (g.v) M N)/\K (nI 0) N))))))
def ZxH:Sk:=(nS 3 (.cut [] [] (6::ng 23 6) .leaf .leaf))
def Zuc (a c b K w) (h:B119 a c b K w):Zg prog 119 #[xP a,nI c,xZ b] w K:=cq (sk:=ZxH) h func119
def B120 (e:xA) (ag:Int) (K:Value->xE) (w:nW):Prop:=nC 187 #[xP e,nI ag] w λ ac q=>∃ b,eI ac b/\Br (decide (b<0)) (K (.tuple #[nV,nI 2]) q) (Zb e λ D=>∃ m,gS q D 4 m/\ (rN b m λ E=>∃ r,zS q (nO (E.add (YQ b.toNat 4)) 3) r/\Br (decide ((↑r.len:Int)>0)) (K (.tuple #[nV,nI 7]) q) (Drw q λ l aj=>Zb e λ F=>∃ M,∃ g:Sl,(At l (nO F 1) [nI M,g.v])/\Zb e λ G=>∃ n,fS l G 4 n/\ (rN b n λ H=>∃ N,kI l (nO (H.add (YQ b.toNat 4)) 2) N/\nC 197 #[xP e] aj λ ad X=>∃ i,eS ad i/\ (l X)/\nC 199 #[.agg #[nI M,g.v],i.v,nI N] X λ ae z=>∃ c:Sl,∃ v,(ae=xR (.tuple #[c.v,nI v]))/\ (l z)/\Br (v !=0) (K (.tuple #[nV,nI v]) z) (∃ (t:lK) (Y:lL),(t ⟨none,0,0⟩ 0 z)/\∀ (an:Env) d f s,t d f s->Br (decide (f<(↑c.len:Int))) (Drw s λ C ak=>Zb e λ I=>∃ O,∃ j:Sl,(At C (nO I 1) [nI O,j.v])/\ (rN f c λ Z=>∃ Q,kI C (Z.add f.toNat) Q/\nC 200 #[.agg #[nI O,j.v],nI Q] ak λ af al=>∃ T ah,(af=xR (.tuple #[xZ T,nI ah]))/\New (.cells #[xZ T] 9 (0,0)) (λ aa am=>∃ A o,aP 31 d.v (.slice (some ⟨aa,0,none⟩) 1 1) am A o/\ (t o (wI (f + 1)) A)/\Y o (wI (f + 1)) A<Y d f s) al)) (Drw s λ u ai=>Zb e λ J=>∃ p,fS u J 4 p/\New (.cells #[] 3 (0,0)) (λ ab U=> (u U)/\∃ y k,aP 30 (.slice (some ⟨ab,0,none⟩) 0 0) c.v U y k/\ (u y)/\ (rN b p λ L=>∃ V,(St 30 (nO (L.add (YQ b.toNat 4)) 3) (k.v) y V)/\K (.tuple #[d.v,nI 0]) V)) ai))))))
def ZxG:Sk:=(nS 7 (.seq (nS 1 (.block (.loop [9,10] [.sl,(.int .i64)] (9::10::11::12::ng 49 22) .leaf))) .leaf))
def Zub (a b K w) (h:B120 a b K w):Zg prog 120 #[xP a,nI b] w K:=cq (sk:=ZxG) h func120
def B125 (m:xA) (J:Int) (K:Value->xE) (w:nW):Prop:=nC 187 #[xP m,nI J] w λ H M=>∃ c,eI H c/\∃ (o:lK) (E:lL),(o ⟨none,0,0⟩ 0 M)/\∀ (Q:Env) b d e,o b d e->∃ (r:xE),(Br (decide (c >= 0)) (Zb m λ s=>∃ i,gS e s 4 i/\ (rN c i λ t=>∃ n,zS e (nO (t.add (YQ c.toNat 4)) 3) n/\Br (decide (d<(↑n.len:Int))) (r  e) (K (b.v) e))) (K (b.v) e))/\∀ (T:Env) C,r C->Drw C λ g N=>Zb m λ u=>∃ y,∃ f:Sl,(At g (nO u 1) [nI y,f.v])/\Zb m λ v=>∃ j,fS g v 4 j/\ (rN c j λ x=>∃ k,kS g (nO (x.add (YQ c.toNat 4)) 3) k/\ (rN d k λ F=>∃ z,kI g (F.add d.toNat) z/\nC 200 #[.agg #[nI y,f.v],nI z] N λ I D=>∃ A L,(I=xR (.tuple #[xZ A,nI L]))/\ (g D)/\New (.cells #[xZ A] 9 (0,0)) (λ G O=>∃ q l,aP 31 b.v (.slice (some ⟨G,0,none⟩) 1 1) O q l/\ (o l (wI (d + 1)) q)/\E l (wI (d + 1)) q<E b d e) D))
def ZxD:Sk:=(nS 3 (.seq (nS 1 (.block (.loop [6,7] [.sl,(.int .i64)] (6::7::8::9::ng 13 40) (.cut [] [] (ng 13 15) .leaf .leaf)))) .leaf))
def Zt6 (a b K w) (h:B125 a b K w):Zg prog 125 #[xP a,nI b] w K:=cq (sk:=ZxD) h func125
def B138 (i:Sl) (K:Value->xE) (w:nW):Prop:=∃ (g:lK) (l:lL),(g ⟨none,0,0⟩ 0 w)/\∀ (q:Env) b c f,g b c f->Br (decide (c<(↑i.len:Int))) ((rN c i λ m=>∃ k,zI f (m.add c.toNat) k/\nC 137 #[.int .u64 (IntKind.u64.wrap k)] f λ n p=>∃ d,eS n d/\∃ j e,aP 47 b.v d.v p j e/\ (g e (wI (c + 1)) j)/\l e (wI (c + 1)) j<l b c f)) (K (b.v) f)
def Zxw:Sk:=(nS 2 (.seq (nS 1 (.block (.loop [3,4] [.sl,(.int .i64)] (ng 3 16) .leaf))) .leaf))
def ZtX (b K w) (h:B138 b K w):Zg prog 138 #[b.v] w K:=cq (sk:=Zxw) h func138
def B69 (c:xA) (K:Value->xE) (w:nW):Prop:=Drw w λ z a3=>Zb c λ ao=>∃ ak,kI z (ao.add 0) ak/\Zb c λ U=>∃ ad,fI z U 1 ad/\Zb c λ V=>∃ D,kS z ⟨V.block,V.off + 1 + 1,none⟩ D/\New (.cells #[nI ak,nI ad,nI ((↑D.len:Int))] 3 (0,0)) (λ aq am=> (z am)/\nC 138 #[.slice (some ⟨aq,0,none⟩) 3 3] am λ aw O=>∃ i,eS aw i/\ (z O)/\Zb c λ X=>∃ j,zS O ⟨X.block,X.off + 1 + 1,none⟩ j/\nC 138 #[j.v] O λ ax ba=>∃ k,eS ax k/\∃ Q l,aP 47 i.v k.v ba Q l/\Zb c λ Y=>∃ E,gS Q Y 3 E/\New (.cells #[nI ((↑E.len:Int))] 3 (0,0)) (λ ar bb=>nC 138 #[.slice (some ⟨ar,0,none⟩) 1 1] bb λ ay bc=>∃ m,eS ay m/\∃ T n,aP 47 l.v m.v bc T n/\Zb c λ Z=>∃ o,gS T Z 3 o/\nC 138 #[o.v] T λ az bd=>∃ p,eS az p/\∃ L q,aP 47 n.v p.v bd L q/\Zb c λ aa=>∃ F,gS L aa 4 F/\New (.cells #[nI ((↑F.len:Int))] 3 (0,0)) (λ au a4=>nC 138 #[.slice (some ⟨au,0,none⟩) 1 1] a4 λ a0 a5=>∃ r,eS a0 r/\∃ al G,aP 47 q.v r.v a5 al G/\∃ (J:lK) (an:lL),(J G 0 al)/\∀ (be:Env) d e f,J d e f->Zb c λ ab=>∃ H,gS f ab 4 H/\Br (decide (e<(↑H.len:Int))) (Zb c λ ac=>∃ A,gS f ac 4 A/\ (rN e A λ ap=>∃ ae af ag,∃ s:Sl,(Aw f (ap.add (YQ e.toNat 4)) [nI ae,nI af,nI ag,s.v])/\New (.cells #[nI 0,nI 0,nI 0,nV] 197 (0,0)) (λ g a6=>∃ y,sT 197 g (.agg #[nI ae,nI af,nI ag,s.v]) a6 y/\∃ ah,zI y ⟨g,0,none⟩ ah/\∃ ai,yI y g 1 ai/\∃ aj,yI y g 2 aj/\∃ I,yS y g 3 I/\New (.cells #[nI ah,nI ai,nI aj,nI ((↑I.len:Int))] 3 (0,0)) (λ av a7=>nC 138 #[.slice (some ⟨av,0,none⟩) 4 4] a7 λ a1 a8=>∃ t,eS a1 t/\∃ M u,aP 47 d.v t.v a8 M u/\∃ v,yS M g 3 v/\nC 138 #[v.v] M λ a2 a9=>∃ x,eS a2 x/\∃ N C,aP 47 u.v x.v a9 N C/\ (J C (wI (e + 1)) N)/\an C (wI (e + 1)) N<an d e f) y) f)) (K (d.v) f)) L) Q) a3
def sk69:Sk:=(nS 6 (.seq (nS 1 (.block (.loop [3,4] [.sl,(.int .i64)] (3::4::5::ng 56 34) .leaf))) .leaf))
def ZvG (a K w) (h:B69 a K w):Zg prog 69 #[xP a] w K:=cq (sk:=sk69) h func69
set_option maxRecDepth 10000
def B68 (d:Sl) (K:Value->xE) (w:nW):Prop:=nC 137 #[.int .u64 (IntKind.u64.wrap (↑d.len:Int))] w λ f g=>∃ b:Sl,(f=xR (.slice b.a b.len b.cap))/\∃ e:World,∃ c:Sl,((Builtin.append_ #[47,47] 47 #[.slice b.a b.len b.cap,.slice d.a d.len d.cap]).run prog g=.ok (.slice c.a c.len c.cap) e)/\K (.slice c.a c.len c.cap) e
def ZvH (b K w) (h:B68 b K w):Zg prog 68 #[.slice b.a b.len b.cap] w K:=cq (sk:=.leaf) h func68
def B78 (b:xA) (A:Int) (K:Value->xE) (w:nW):Prop:=nC 143 #[xP b] w λ Q U=>∃ k C c,(Q=xR (.tuple #[.int .u64 k,.bool C,nI c]))/\∃ (o:xE),(Drw U λ p g=>Br (c==0) (Zb b λ r=>∃ F,(St 4 (nO r 2) (.bool true) g F)/\K (.slice none 0 0) F) (Br C
 (Zb b λ s=>∃ G,(St 4 (nO s 2) (.bool true) g G)/\K (.slice none 0 0) G) (Br (decide (A<0)) (Zb b λ t=>∃ H,(St 4 (nO t 2) (.bool true) g H)/\K (.slice none 0 0) H) (Br (decide (k>IntKind.u64.wrap A)) (Zb b λ u=>∃ I,(St 4 (nO u 2) (.bool true) g I)/\K (.slice none 0 0) I) (Zb b λ M=>∃ l,kS p (M.add 0) l/\Zb b λ q=>∃ D,fI p q 1 D/\Br (decide (k>IntKind.u64.wrap (wI (wI ((↑l.len:Int) - D) - c)))) (Zb b λ v=>∃ J,(St 4 (nO v 2) (.bool true) g J)/\K (.slice none 0 0) J) (o  g))))))/\∀ (X:Env) n,o n->Zb b λ x=>∃ d,gI n x 1 d/\Zb b λ y=>∃ L,(St 3 (nO y 1) (nI (wI (wI (d + c) + wI k))) n L)/\Drw L λ j V=>Zb b λ N=>∃ e,kS j (N.add 0) e/\Zb b λ z=>∃ i,fI j z 1 i/\ ((0:Int)<=i)/\ ((i:Int)<=(↑e.cap:Int))/\ ((0:Int)<=wI (d + c))/\ ((wI (d + c):Int)<=(↑i.toNat:Int))/\New (.cells #[] 5 (0,0)) (λ O E=> (j E)/\∃ m f,aP 47 (.slice (some ⟨O,0,none⟩) 0 0) (.slice (X4 e.a (wI (d + c)).toNat e.cap 1) (i.toNat - (wI (d + c)).toNat) (e.cap - (wI (d + c)).toNat)) E m f/\ (j m)/\K (f.v) m) V
def sk78:Sk:=(nS 2 (.cut [] [] (4::ng 15 35) .leaf .leaf))
def Zvy (b a K w) (h:B78 b a K w):Zg prog 78 #[xP b,nI a] w K:=cq (sk:=sk78) h func78
end
end Go.Proofs.YtlplemdmegpoeaaGreatDoor
