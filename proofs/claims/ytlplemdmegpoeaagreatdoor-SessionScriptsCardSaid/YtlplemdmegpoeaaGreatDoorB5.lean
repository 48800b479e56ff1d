/- Reference 15's flight in memory: opened, closed; place, Sold, taken, Left, Labels. Condition: bounds. -/
import Derived.Test.YtlplemdmegpoeaaGreatDoorB4
import Derived.Test.YtlplemdmegpoeaaGreatDoorB3
import Derived.Test.YtlplemdmegpoeaaGreatDoorB2
set_option linter.unusedVariables false
set_option linter.defProp false
set_option linter.unusedSimpArgs false
set_option maxHeartbeats 8000000
namespace Go.Proofs.YtlplemdmegpoeaaGreatDoor
section
open Go Go.VC Tryz
variable {R R':Cx} {Hs Rest:List HP} {w:World}
def YM (L:List Zw) (ts:List Sl):HP:=XS (Z6 L ts)
structure RX where
 sg:Sl
 sl:Sl
 s:Sl
 ts:List Sl
def WJ (q:Nat) (r:RF):HP:=exs λ x:RX=>
 XS [pur (x.ts.length=r.L.length),Zv x.sg (Zd r.grps),Zv x.sl (Zd r.lims),pts q (ZD r x.sg x.sl x.s),Zn 4 x.s 197 (XT r.L x.ts),YM r.L x.ts]
abbrev RO (q:Nat) (r:RF) (sg sl s:Sl) (ts:List Sl) (Hs:List HP):List HP:=Zv sg (Zd r.grps)::Zv sl (Zd r.lims)::pts q (ZD r sg sl s)::Zn 4 s 197 (XT r.L ts)::YM r.L ts::Hs
def Sat.rf {q:Nat} {r:RF}:Sat R (WJ q r::Hs) w↔∃ sg sl s ts,ts.length=r.L.length/\Sat R (RO q r sg sl s ts Hs) w:=by
 unfold WJ;rw [Sat.exs];constructor
 ·rintro ⟨⟨sg,sl,s,ts⟩,h⟩
  obtain ⟨a,d⟩:=Sat.pur.1 (Sat.star.1 h);exact ⟨sg,sl,s,ts,a,d⟩
 ·rintro ⟨sg,sl,s,ts,a,d⟩
  exact ⟨⟨sg,sl,s,ts⟩,Sat.star.2 (Sat.pur.2 ⟨a,d⟩)⟩
def Zgp:∀ {L:List Zw} {ts:List Sl} {R:Cx},ts.length=L.length->Sat R (Z6 L ts++Hs) w->∃ R':Cx,R.Ext R'/\(∀ i (h:i<L.length) (h':i<ts.length),SlR R'.m ts[i] (Zd L[i].seats))/\Sat R' Hs w/\∀ Hs' w',Sat R' Hs' w'->Sat R (Z6 L ts++Hs') w'
 |[],_,R,_,a=>⟨R,Cx.Ext.refl,λ i h=>by simp at h,by simpa [Z6] using a,λ Hs' w' h=>by simpa [Z6] using h⟩
 |h::L,[],R,hl,_=>by simp at hl
 |h::L,t::ts,R,hl,a=>by
  have a:Sat R (Zv t (Zd h.seats)::(Z6 L ts++Hs)) w:=a;obtain ⟨g,o,u,a,v⟩:=Zv.out a;obtain ⟨y,d,z,a,b2⟩:=Zgp (by simpa using hl) a;refine ⟨y,o.trans d,λ i h h'=>?_,a,λ Hs' w' h=>v _ _ (b2 _ _ h)⟩;rcases i with _|i
  ·exact d.slR u
  ·exact z i (by simpa using h) (by simpa using h')
structure RfR (R:Cx) (r:RF) (sg sl s:Sl) (ts:List Sl):Prop where
 grps:SlR R.m sg (Zd r.grps)
 lims:SlR R.m sl (Zd r.lims)
 hs:HsR R s r.L ts
 cap:s.len<=s.cap
def RfR.len {r:RF} {sg sl s:Sl} {ts:List Sl} (h:RfR R r sg sl s ts):s.len=r.L.length:=by
 have:=h.hs.rows.len;rwa [W7 h.hs.len] at this
def RO.out {q:Nat} {r:RF} {sg sl s:Sl} {ts:List Sl} (hl:ts.length=r.L.length) (a:Sat R (RO q r sg sl s ts Hs) w):∃ R',R.Ext R'/\RfR R' r sg sl s ts/\Sat R' (pts q (ZD r sg sl s)::Hs) w/\∀ Hs' w',Sat R' (pts q (ZD r sg sl s)::Hs') w'->Sat R (RO q r sg sl s ts Hs') w':=by
 obtain ⟨n,u,v,a,y⟩:=Zv.out a;obtain ⟨o,i,z,a,b2⟩:=Zv.out a;have a:=a.b2;have g:=Zn.cap (by omega) a;obtain ⟨R3,g3,⟨x,j⟩,a,b3⟩:=Zn.lend a;have e3:o.Ext R3:=by rw [j];exact Cx.Ext.add
 obtain ⟨k,d,l,a,b4⟩:=Zgp hl (Sat.star.1 a);refine ⟨k,u.trans (i.trans (e3.trans d)),⟨d.slR (e3.slR (i.slR v)),d.slR (e3.slR z),⟨hl,d.roN g3,l⟩,g⟩,a,λ Hs' w' h=>y _ _ (b2 _ _ ?_)⟩;have m:Sat o (Zn 4 s 197 (XT r.L ts)::YM r.L ts::pts q (ZD r sg sl s)::Hs') w':=b3 (Sat.star.2 (b4 _ _ h));exact m.arr
def Sat.rfO {q:Nat} {r:RF} (a:Sat R (WJ q r::Hs) w):∃ sg sl s ts R',R.Ext R'/\RfR R' r sg sl s ts/\Sat R' (pts q (ZD r sg sl s)::Hs) w/\
  (∀ Hs' w',Sat R' (pts q (ZD r sg sl s)::Hs') w'->Sat R (RO q r sg sl s ts Hs') w')/\ts.length=r.L.length:=by
 obtain ⟨sg,sl,s,ts,hl,a⟩:=Sat.rf.1 a;obtain ⟨R',e,h,a,b⟩:=RO.out hl a;exact ⟨sg,sl,s,ts,R',e,h,a,b,hl⟩
def W5 {q:Nat} {r:RF} {sg sl s:Sl} {ts:List Sl} {owner:Int} (h:RfR R r sg sl s ts) (y:r.L.length<=1000000) (a:Sat R (pts q (ZD r sg sl s)::Hs) w):
  Zg prog 187 #[nP q,nI owner] w λ v w'=>v=nI (Va owner r.L 0)/\Sat R (pts q (ZD r sg sl s)::Hs) w':=by
 have z:=h.len;have hl:=h.hs.len;apply Ztm;refine ⟨λ i w=>∃ j:Nat,i=j/\j<=r.L.length/\Va owner (r.L.drop j) j=Va owner r.L 0/\Sat R (pts q (ZD r sg sl s)::Hs) w,λ i _=>r.L.length - i.toNat,⟨0,rfl,by omega,rfl,a⟩,?_⟩;clear a;rintro _ _ w ⟨j,rfl,hj,o,a⟩;refine Zb.mk rfl ⟨s,oA a,Br.d (λ g=>?_) (λ g=>?_)⟩
 ·have j1:j<r.L.length:=by omega
  rw [qv j1,Uc] at o;refine Zb.mk rfl ⟨s,oA a,?_⟩;refine h.hs.fld (j:=0) (eqS a) j1 (by omega) rfl λ x nx k=>⟨r.L[j].owner,by rw [Zby _ _ nx];exact k,?_⟩;refine Br.e (λ u=>⟨?_,a⟩) (λ u=>?_)
  ·rw [qf u] at o;rw [o]
  ·rw [qc u] at o
   rw [Zc];exact ⟨⟨j + 1,by omega,by omega,o,a⟩,by dsimp only;omega⟩
 ·rw [jg (by omega)] at o
  exact ⟨by rw [<-o];rfl,a⟩
structure ZwB (n:Nat) (h:Zw):Prop where
 c:0<=h.cls/\h.cls<n
 m:0<=h.many/\h.many<=10000
def Zok {k:Int} {n:Nat}:∀ {L:List Zw},(∀ h∈L,ZwB n h)->0<=Gq k L/\Gq k L<=10000 * L.length
 |[],_=>⟨qG _,qG _⟩
 |h::L,a=>by
  obtain ⟨o,i⟩:=Zok (k:=k) λ x d=>a x (qj _ d);have:=(a h qq).m;rw [V2,qr];split<;>omega
def Zo4 {n:Nat} {K:Sl->xE} (d:n<=1000) (h:Sat R Hs w) (k:∀ s w',Sat R (Own s 3 (Zd (Ya n []))::Hs) w'->K s w'):
  ∃ w',∃ t:Sl,(Instr.makeSlice 30 (nI (n:Int)) (nI (n:Int))).run prog w=.ok (.slice t.a t.len t.cap) w'/\K t w':=
 ZcM (bytes:=8) (z:=nI 0) underlying30 (by kernel_rfl) zeroValue3 rfl (by omega) (by omega) h λ s w h=>k s w (by
  have e:Zd (Ya n [])=List.replicate n (nI 0):=by
   apply j0
   ·simp [Ya]
   ·intro i o u;simp [Ya,Gq]
  rw [e];exact h)
def ZdO {q:Nat} {r:RF} {sg sl s:Sl} {ts:List Sl} (h:RfR R r sg sl s ts) (I:r.L.length<=1000000) (b:r.lims.length<=1000) (G:∀ x∈r.L,ZwB r.lims.length x) (o:Sat R (pts q (ZD r sg sl s)::Hs) w):
  Zg prog 127 #[nP q] w λ v w'=>∃ t:Sl,v=.slice t.a t.len t.cap/\Sat R (Own t 3 (Zd r.sold)::pts q (ZD r sg sl s)::Hs) w':=by
 have J:=h.len;have hl:=h.hs.len;have g:sl.len=r.lims.length:=by have:=h.lims.len;rwa [qa] at this
 apply Zt4;refine Zb.mk rfl ⟨sl,oA o,?_⟩;rw [g];refine Zo4 b o λ t w o=>?_;refine ⟨λ i w=>∃ j:Nat,i=j/\j<=r.L.length/\Sat R (Own t 3 (Zd (Ya r.lims.length (r.L.take j)))::pts q (ZD r sg sl s)::Hs) w,λ i _=>r.L.length - i.toNat,⟨0,rfl,by omega,o⟩,?_⟩;clear o;rintro _ _ w ⟨j,rfl,hj,o⟩;refine Zb.mk rfl ⟨s,oA o,Br.d (λ A=>?_) (λ A=>?_)⟩
 ·have j1:j<r.L.length:=by omega
  have z:=G r.L[j] (qh _);obtain ⟨c,l⟩:=qs z.c.1;have p:c<r.lims.length:=by have:=z.c;omega
  have D:=Zok (k:=(c:Int)) (n:=r.lims.length) (L:=r.L.take j) λ x z=>G x (qw z);rw [qd,q7 hj] at D;have u:=YX r.lims.length (r.L.take j);have E:(Ya r.lims.length (r.L.take j))[c]'(by rw [u];exact p)=Gq (c:Int) (r.L.take j):=VP _;have e:(Ya r.lims.length (r.L.take j)).set c (Gq (c:Int) (r.L.take j) + r.L[j].many)=Ya r.lims.length (r.L.take (j + 1)):=by
   have H:=Ur (h:=r.L[j]) (L:=r.L.take j) (L':=r.L.take (j + 1)) (by
    rw [qp,List.getElem?_eq_getElem j1];exact v8) z.c.1 z.c.2
   rw [l,qo,XX p] at H;exact H
  have y:∀ {S:xE} {Hs:List HP} {i:Nat} {v:Value},(∀ w,S w->Sat R Hs w)->(Zdl r.L[j] (ts[j]'(by omega)))[i]? =some v->∀ {F:Addr->Prop},(∀ a:Addr,a.spot=none->At S ⟨(a.add (YQ j 4)).block,(a.add (YQ j 4)).off + i,none⟩ [v]->F a)->Rng (j:Int) s.len (Zb s.a F):=λ {S Hs i v} hS M {F} f=>h.hs.fld hS j1 (by omega) M f;refine Zi o λ w o=>?_;refine Zb.mk rfl ⟨s,oS,y (i:=1) Wk rfl λ Q _ A=>⟨r.L[j].cls,A,Zb.mk rfl ⟨s,oS,y (i:=1) Wk rfl λ U _ N=>⟨r.L[j].cls,N,?_⟩⟩⟩⟩;rw [l];refine Own.ix o Wk c rfl (by rw [u];omega) ?_;refine Zb.mk rfl ⟨s,oS,y (i:=2) Wk rfl λ V _ O=>⟨r.L[j].many,O,?_⟩⟩;rw [E,Zc (by have:=z.m;omega) (by have:=z.m;omega)];refine Own.store (by kernel_rfl) o (by rw [u];omega) λ w o=>?_;rw [e] at o;rw [Zc];exact ⟨⟨j + 1,by omega,by omega,o⟩,by dsimp only;omega⟩
 ·rw [qg (by omega)] at o
  exact ⟨t,rfl,o⟩
def ZhV {L:List Zw} {j:Nat} (h:j<L.length):Zz (L.take (j + 1))=Zz (L.take j)++L[j].seats:=by
 unfold Zz;rw [qp,List.getElem?_eq_getElem h,uq];simp only [q9,zE,List.flatMap_nil,jl]
def UP:∀ {L:List Zw},(∀ h∈L,h.seats.length<=1000)->(Zz L).length<=1000 * L.length
 |[],_=>jc _
 |h::L,a=>by
  have o:=a h qq;have i:=UP λ x d=>a x (qj _ d);show (h.seats++Zz L).length<=_;rw [qb,qr];omega
def Zck {q:Nat} {r:RF} {sg sl s:Sl} {ts:List Sl} (h:RfR R r sg sl s ts) (g:r.L.length<=1000000) (y:∀ x∈r.L,x.seats.length<=1000) (o:Sat R (pts q (ZD r sg sl s)::Hs) w):
  Zg prog 197 #[nP q] w λ v w'=>∃ t:Sl,v=.slice t.a t.len t.cap/\Sat R (Own t 3 (Zd (Zz r.L))::pts q (ZD r sg sl s)::Hs) w':=by
 have k:=h.len;have hl:=h.hs.len;apply Ztc;refine ⟨λ out i w=>∃ j:Nat,i=j/\j<=r.L.length/\Sat R (Own out 3 (Zd (Zz (r.L.take j)))::pts q (ZD r sg sl s)::Hs) w,λ _ i _=>r.L.length - i.toNat,⟨0,rfl,by omega,Own.nil o⟩,?_⟩;clear o;rintro _ out _ w ⟨j,rfl,hj,o⟩;refine Zb.mk rfl ⟨s,oA o,Br.d (λ l=>?_) (λ l=>?_)⟩
 ·have j1:j<r.L.length:=by omega
  have j2:j<ts.length:=by omega
  have z:=y r.L[j] (qh _);have u:=UP (L:=r.L.take j) λ x z=>y x (qw z);rw [qd,q7 hj] at u;refine Zb.mk rfl ⟨s,oA o,h.hs.fld (j:=3) (eqS o) j1 j2 rfl λ a _ m=>⟨ts[j],m,?_⟩⟩;refine Ul Zdn (n:=2000000000) underlying30 o ((h.hs.seats j j1 j2).ro) (by omega) (by omega) (by omega) λ p w o=>?_;rw [<-ZhV j1] at o;rw [Zc];exact ⟨⟨j + 1,by omega,by omega,o⟩,by dsimp only;omega⟩
 ·rw [qg (by omega)] at o
  exact ⟨out,rfl,o⟩
def Zh8 {q:Nat} {r:RF} (g:r.L.length<=1000000) (l:r.lims.length<=1000) (p:∀ x∈r.L,ZwB r.lims.length x) (o:Sat R (WJ q r::Hs) w):
  Zg prog 59 #[nP q] w λ v w'=>∃ t:Sl,v=.slice t.a t.len t.cap/\Sat R (Own t 3 (Zd (Zr r))::WJ q r::Hs) w':=by
 obtain ⟨sg,sl,s,ts,R',e,h,o,back,hl⟩:=Sat.rfO o;have n:sl.len=r.lims.length:=by have:=h.lims.len;rwa [qa] at this
 apply ZvN;refine ⟨λ out i w=>∃ j:Nat,i=j/\j<=r.lims.length/\Sat R' (Own out 3 (Zd ((List.range j).map λ (k:Nat)=>(Xb r.lims r.sold k).1))::pts q (ZD r sg sl s)::Hs) w,λ _ i _=>r.lims.length - i.toNat,⟨0,rfl,by omega,Own.nil o⟩,?_⟩;clear o;rintro _ out _ w ⟨j,rfl,hj,o⟩;refine Zb.mk rfl ⟨sl,oA o,Br.d (λ f=>?_) (λ f=>?_)⟩
 ·have j1:j<r.lims.length:=by omega
  refine Zi o λ w o=>?_;refine Zb.mk rfl ⟨sl,oS,?_⟩;refine (ZdO h g l p o.swap).u1 λ t w o=>?_;refine ⟨t,rfl,o.drop.swap,?_⟩;obtain ⟨b,m,z,o,y⟩:=Own.lendI o (by show (Ya _ _).length<=_;rw [YX];omega);refine (ZdU (z _ _ (h.lims.ro)) m o).u λ w o=>?_;refine ⟨_,_,rfl,?_⟩;have o:=(y o).drop.swap;refine YA Zdn o (by simp;omega) λ c w o=>?_;rw [Zc];refine ⟨⟨j + 1,by omega,by omega,?_⟩,by dsimp only;omega⟩;rw [List.range_succ,qe];exact o
 ·obtain rfl:j=r.lims.length:=by omega
  refine ⟨out,rfl,?_⟩;have o:=back _ _ o.swap;have o:Sat R (RO q r sg sl s ts (Own out 3 (Zd (Zr r))::Hs)) w:=o;exact (Sat.rf.2 ⟨sg,sl,s,ts,hl,o⟩:Sat R (WJ q r::Own out 3 (Zd (Zr r))::Hs) w).swap
def ZeR {q:Nat} {r:RF} {owner:Int} (D:r.L.length<=1000000) (Q:r.grps.length<=1000) (H:∀ x∈r.L,x.seats.length<=1000) (o:Sat R (WJ q r::Hs) w):
  Zg prog 125 #[nP q,nI owner] w λ v w'=>∃ t:Sl,v=.slice t.a t.len t.cap/\Sat R (Own t 9 ((YD r owner).map Value.string)::WJ q r::Hs) w':=by
 obtain ⟨sg,sl,s,ts,R',e,h,o,back,hl⟩:=Sat.rfO o;have close:∀ {out:Sl} {l:List ByteArray} {w},Sat R' (Own out 9 (l.map Value.string)::pts q (ZD r sg sl s)::Hs) w->Sat R (Own out 9 (l.map Value.string)::WJ q r::Hs) w:=λ {out l w} o=>
  (Sat.rf.2 ⟨sg,sl,s,ts,hl,back _ _ o.swap⟩:Sat R (WJ q r::Own out 9 (l.map Value.string)::Hs) w).swap
 apply Zt6;refine (W5 h D o).u λ w o=>?_;refine ⟨_,rfl,?_⟩;cases y:Wc owner r.L with
 |none=>
  rw [Wn 0 y];have el:YD r owner=[]:=by unfold YD;rw [y]
  rw [el];refine ⟨λ out i w=>i=0/\out=⟨none,0,0⟩/\Sat R' (pts q (ZD r sg sl s)::Hs) w,λ _ _ _=>0,⟨rfl,rfl,o⟩,?_⟩;rintro _ _ _ w ⟨rfl,rfl,o⟩;refine ⟨λ _=>False,Br.f rfl ⟨_,rfl,close (l:=[]) (Own.nil o)⟩,?_⟩;rintro _ w I;exact absurd I id
 |some hd=>
  obtain ⟨A,C,c,J,k⟩:=YB y;have E:Va owner r.L 0=(A.length:Int):=by rw [c,X2 k 0 J,jb]
  have i1:A.length<r.L.length:=by rw [c];simp
  have i2:A.length<ts.length:=by omega
  have m:r.L[A.length]=hd:=by simp [c]
  have n:=h.hs.seats A.length i1 i2;rw [m] at n;have U:=H hd (by rw [c];simp);have p:RoI R' ts[A.length] hd.seats:=n.ro;have M:=p.len;have el:YD r owner=XD r.rows r.grps hd.seats:=by unfold YD;rw [y]
  have z:∀ {S:xE} {Hs:List HP} {i:Nat} {v:Value},(∀ w,S w->Sat R' Hs w)->(Zdl hd ts[A.length])[i]? =some v->∀ {F:Addr->Prop},(∀ a:Addr,a.spot=none->At S ⟨(a.add (YQ A.length 4)).block,(a.add (YQ A.length 4)).off + i,none⟩ [v]->F a)->Rng (A.length:Int) s.len (Zb s.a F):=λ {S Hs i v} hS N {F} f=>h.hs.fld hS i1 i2 (by rw [m];exact N) f;rw [E,el];refine ⟨λ out i w=>∃ j:Nat,i=j/\j<=hd.seats.length/\Sat R' (Own out 9 ((XD r.rows r.grps (hd.seats.take j)).map Value.string)::pts q (ZD r sg sl s)::Hs) w,λ _ i _=>hd.seats.length - i.toNat,⟨0,rfl,by omega,Own.nil o⟩,?_⟩;clear o;rintro _ out _ w ⟨j,rfl,hj,o⟩;refine ⟨λ w=>j<hd.seats.length/\Sat R' (Own out 9 ((XD r.rows r.grps (hd.seats.take j)).map Value.string)::pts q (ZD r sg sl s)::Hs) w,?_,?_⟩
  ·refine Br.t (by simp) (Zb.mk rfl ⟨s,oA o,z (i:=3) (eqS o) rfl λ a _ G=>⟨ts[A.length],G,Br.d (λ O=>⟨by omega,o⟩) (λ O=>?_)⟩⟩)
   rw [qg (by omega)] at o;exact ⟨_,rfl,close o⟩
  clear o;rintro _ w ⟨b,o⟩;refine Zi o λ w o=>?_;refine Zb.mk rfl ⟨r.rows,sg,oS,Zb.mk rfl ⟨s,oS,z (i:=3) Wk rfl λ a _ G=>⟨ts[A.length],G,?_⟩⟩⟩;refine Ro.ix p Wk j rfl b ?_;refine (GC (h.grps.ro) o).u λ w o=>?_;have g:(XD r.rows r.grps (hd.seats.take j)).length=j:=by unfold XD;rw [qa,qd];omega
  refine ⟨_,_,rfl,o,?_⟩;refine Wz Zsa o (Za2 _) rfl (by rw [qa,g];omega) (by rw [qa,g];omega) λ t w o=>?_;rw [Zc];refine ⟨⟨j + 1,by omega,by omega,?_⟩,by dsimp only;omega⟩;have e:(XD r.rows r.grps (hd.seats.take (j + 1))).map Value.string=(XD r.rows r.grps (hd.seats.take j)).map Value.string++[xZ (Zfe r.rows r.grps hd.seats[j]).1]:=by
   unfold XD;rw [qp,List.getElem?_eq_getElem b,q9,qe,qe];rfl
  rw [e];exact o
end
section
open Go Go.VC Tryz
section
variable {β:Type}
def Y0 (k:Int) (e:Int × β) (l:List (Int × β)):ZL k (e::l)=if k=e.1 then some e.2 else ZL k l:=by
 show (if k==e.1 then some e.2 else ZL k l)=_
 by_cases h:k=e.1
 ·rw [qf h,qf (jh.2 h)]
 ·rw [qc h,qc (λ h'=>h (jh.1 h'))]
def Zat {k:Int}:∀ {l:List (Int × β)},(ZL k l).isSome=true↔k∈l.map (·.1)
 |[]=>by simp [ZL]
 |e::l=>by
  rw [Y0,qi,qk];split
  ·rename_i h;simp [h]
  ·rename_i h;rw [Zat (l:=l)];simp [h]
def ZiL {k:Int} {l:List (Int × β)}:ZL k l=none↔k ∉ l.map (·.1):=by
 rw [<-Zat,Option.isSome_iff_ne_none];simp
def Zhm (k:Int):∀ (a b:List (Int × β)),ZL k (a++b)=if k∈a.map (·.1) then ZL k a else ZL k b
 |[],b=>by simp
 |e::a,b=>by
  show ZL k (e::(a++b))=_;rw [Y0,Y0,Zhm k a b,qi];by_cases h:k=e.1
  ·rw [qf h,qf (by rw [h];exact qq),qf h]
  ·rw [qc h,qc h]
   by_cases o:k∈a.map (·.1)
   ·rw [qf o,qf (qj _ o)]
   ·rw [qc o,qc]
    intro d;rcases qk.1 d with d|d
    ·exact h d
    ·exact o d
def Zgo {k:Int} {v:β}:∀ {l:List (Int × β)},(Zbm k v l).map (·.1)=l.map (·.1)
 |[]=>rfl
 |e::l=>by
  show List.map _ (if k==e.1 then (e.1,v)::l else e::Zbm k v l)=_
  split
  ·rfl
  ·rw [qi,Zgo];rfl
def Zhk {k a:Int} {v:β}:∀ {l:List (Int × β)},(ZL k l).isSome=true->ZL a (Zbm k v l)=if a=k then some v else ZL a l
 |[],h=>by cases h
 |e::l,h=>by
  show ZL a (if k==e.1 then (e.1,v)::l else e::Zbm k v l)=_
  rw [Y0] at h;by_cases d:k=e.1
  ·rw [qf (jh.2 d),Y0,Y0,d]
   split<;>rfl
  ·rw [qc d] at h
   rw [qc (λ h'=>d (jh.1 h')),Y0,Y0,Zhk h];by_cases o:a=e.1
   ·rw [qf o,qf o,qc (λ i=>d (i.symm.trans o))]
   ·rw [qc o,qc o]
def Zc0 (k a:Int) (v:β) (l:List (Int × β)):ZL a (Gl k v l)=if a=k then some v else ZL a l:=by
 unfold Gl;split
 ·rename_i h;exact Zhk h
 ·rename_i h
  rw [Zhm];have hk:ZL k l=none:=by cases i:ZL k l with|none=>rfl|some x=>rw [i] at h;simp at h
  by_cases d:a=k
  ·rw [qf d,qc (by rw [d];exact ZiL.1 hk),Y0,qf d]
  ·rw [qc d]
   by_cases o:a∈l.map (·.1)
   ·rw [qf o]
   ·rw [qc o,Y0,qc d,ZiL.2 o];rfl
def Za0 {k:Int} {v:β} {l:List (Int × β)} (h:(l.map (·.1)).Nodup):((Gl k v l).map (·.1)).Nodup:=by
 unfold Gl;split
 ·rw [Zgo];exact h
 ·rename_i hk
  rw [qe,jQ];refine ⟨h,by simp,λ a d b o=>?_⟩;rw [qi,jR,qK] at o;rintro rfl;rw [o] at d;exact hk (Zat.2 d)
def ZfF (k:Int):∀ l:List (Int × β),(GT k l).Sublist l
 |[]=>uG _
 |e::l=>by
  show (if k==e.1 then l else e::GT k l).Sublist _
  split
  ·exact vR _ _
  ·exact (ZfF k l).cons_cons e
def Zlw {k:Int} {l:List (Int × β)} (h:(l.map (·.1)).Nodup):((GT k l).map (·.1)).Nodup:=h.sublist ((ZfF k l).map _)
def Zhl {k d:Int}:∀ {l:List (Int × β)},(l.map (·.1)).Nodup->ZL d (GT k l)=if d=k then none else ZL d l
 |[],_=>by simp [ZL,GT]
 |e::l,h=>by
  rw [qi,j8] at h;show ZL d (if k==e.1 then l else e::GT k l)=_
  by_cases o:k=e.1
  ·rw [qf (jh.2 o),Y0]
   by_cases a:d=k
   ·rw [qf a,ZiL];rw [a,o];exact h.1
   ·rw [qc a,qc (λ i=>a (i.trans o.symm))]
  ·rw [qc (λ h'=>o (jh.1 h')),Y0,Y0,Zhl h.2]
   by_cases a:d=e.1
   ·rw [qf a,qf a,qc (λ i=>o (i.symm.trans a))]
   ·rw [qc a,qc a]
def Zlx {l:List Int}:∀ {own:List (Int × Int)},(own.map (·.1)).Nodup->((WR l own).map (·.1)).Nodup/\∀ n,ZL n (WR l own)=if n∈l then none else ZL n own:=by
 induction l with
 |nil=>exact λ h=>⟨h,λ n=>by simp [WR]⟩
 |cons x l ih=>
  intro own h;obtain ⟨i,u⟩:=ih (own:=GT x own) (Zlw h);refine ⟨i,λ n=>?_⟩;have e:WR (x::l) own=WR l (GT x own):=rfl;rw [e,u,Zhl h];by_cases d:n∈l
  ·rw [qf d,qf (qj _ d)]
  ·rw [qc d]
   by_cases o:n=x
   ·rw [qf o,qf (by rw [o];exact qq)]
   ·rw [qc o,qc]
    intro a;rcases qk.1 a with a|a
    ·exact o a
    ·exact d a
def Zk0 {o:Int} {l:List Int}:∀ {own:List (Int × Int)},(own.map (·.1)).Nodup->((Ut o l own).map (·.1)).Nodup/\∀ n,ZL n (Ut o l own)=if n∈l then some o else ZL n own:=by
 induction l with
 |nil=>exact λ h=>⟨h,λ n=>by simp [Ut]⟩
 |cons x l ih=>
  intro own h;obtain ⟨u,v⟩:=ih (own:=Gl x o own) (Za0 h);refine ⟨u,λ n=>?_⟩;have e:Ut o (x::l) own=Ut o l (Gl x o own):=rfl;rw [e,v,Zc0];by_cases d:n∈l
  ·rw [qf d,qf (qj _ d)]
  ·rw [qc d]
   by_cases i:n=x
   ·rw [qf i,qf (by rw [i];exact qq)]
   ·rw [qc i,qc]
    intro a;rcases qk.1 a with a|a
    ·exact i a
    ·exact d a
end
def Wu {n x:Int}:∀ {l:List Int},x∈Up n l↔x=n\/x∈l
 |[]=>by simp [Up]
 |y::l=>by
  unfold Up;split
  ·rw [qk,Wu,qk]
   constructor
   ·rintro (h|h|h)
    ·exact .inr (.inl h)
    ·exact .inl h
    ·exact .inr (.inr h)
   ·rintro (h|h|h)
    ·exact .inr (.inl h)
    ·exact .inl h
    ·exact .inr (.inr h)
  ·rw [qk]
def G8 {l:List Int}:ZlO l↔l.Pairwise (·<·):=by
 rw [jU];exact ⟨λ h i j hi hj a=>h i j hj a,λ h i j hj a=>h i j (by omega) hj a⟩
def ZiE {n:Int}:∀ {l:List Int},l.Pairwise (·<·)->n ∉ l->(Up n l).Pairwise (·<·)
 |[],_,_=>by simp [Up]
 |x::l,d,o=>by
  obtain ⟨i,u⟩:=qC.1 d;have v:n≠x:=λ e=>o (by rw [e];exact qq);unfold Up;split
  ·refine qC.2 ⟨λ y a=>?_,ZiE u λ h=>o (qj _ h)⟩
   rcases Wu.1 a with rfl|a
   ·assumption
   ·exact i y a
  ·refine qC.2 ⟨λ y a=>?_,d⟩
   rcases qk.1 a with rfl|a
   ·omega
   ·have:=i y a;omega
def UD {sold:List Int} {c:Nat} {m:Int} (a:c<sold.length):∀ (t k:Nat),k + t=sold.length->Y1 (sold.set c (sold.getD c 0 + m)) k=Y1 sold k + (if k<=c then m else 0)
 |0,k,h=>by
  rw [WF (by rw [jd];omega),WF (by omega),qc (by omega)];rfl
 |t + 1,k,h=>by
  have ih:=UD (m:=m) a t (k + 1) (by omega);rw [XF (k:=k) (by rw [jd];omega),XF (sold:=sold) (k:=k) (by omega),ih,vz];by_cases e:c=k
  ·subst e
   rw [qf rfl,qc (by omega),qf (jc _),ZX a];omega
  ·rw [qc e]
   by_cases d:k<=c
   ·rw [qf (by omega),qf d];omega
   ·rw [qc (by omega),qc d];omega
def ZhM:List Zw->Int
 |[]=>0
 |h::L=>h.many + ZhM L
def G0 (n:Nat):Ya n []=List.replicate n 0:=by
 apply j0
 ·simp [Ya]
 ·intro i h a;rw [VP];simp [Gq]
def Za9 (n:Nat):∀ t k:Nat,k + t=n->Y1 (List.replicate n (0:Int)) k=0
 |0,k,h=>WF (by rw [vo];omega)
 |t + 1,k,h=>by rw [XF (by rw [vo];omega),Za9 n t (k + 1) (by omega)];simp
def Zf7 {n:Nat}:∀ {L:List Zw},(∀ h∈L,0<=h.cls/\h.cls<n)->Y1 (Ya n L) 0=ZhM L
 |[],_=>by rw [G0,Za9 n n 0 (by omega)];rfl
 |h::L,a=>by
  have d:=a h qq;have ih:=Zf7 λ x o=>a x (qj _ o);rw [<-Ur (jD (h::L)) d.1 d.2,UD (by rw [YX];omega) n 0 (by rw [YX];omega),qf (by omega),ih];show _=h.many + ZhM L;omega
def Zde {k:Int}:∀ {L:List Zw},(∀ h∈L,1<=h.many)->0<=Gq k L
 |[],_=>qG _
 |h::L,hm=>by
  have ih:=Zde (k:=k) λ x a=>hm x (qj _ a);have d:=hm h qq;rw [V2];split<;>omega
def Zni {lim a b:List Int} (h:Yc lim a=true) (hl:b.length=a.length) (d:∀ k,k<lim.length->0<=b.getD k 0/\b.getD k 0<=a.getD k 0):Yc lim b=true:=by
 obtain ⟨i,u,o⟩:=ZP.1 h;refine ZP.2 ⟨i,hl.trans u,λ k hk=>⟨⟨(d k hk).1,uu (d k hk).2 (o k hk).1.2⟩,?_⟩⟩;refine uu ?_ (o k hk).2;have key:∀ t k:Nat,k + t=lim.length->Y1 b k<=Y1 a k:=by
  intro t
  induction t with
  |zero=>intro k hk;rw [WF (by omega),WF (by omega)];exact qG _
  |succ t ih=>
   intro k hk;rw [XF (sold:=b) (by omega),XF (sold:=a) (by omega)];have e1:=ih (k + 1) (by omega);have e2:=(d k (by omega)).2;rw [ZX (by omega),ZX (by omega)] at e2;omega
 exact key (lim.length - k) k (by omega)
def ZcG {lim:List Int} (h:Zah lim=true):Yc lim (List.replicate lim.length 0)=true:=by
 refine ZP.2 ⟨h,by simp,λ k hk=>?_⟩;rw [Za9 lim.length (lim.length - k) k (by omega),List.getD_eq_getElem?_getD];have:=(Yu.1 h).2 k hk;rw [ZX hk];simp [hk];omega
def ZjU {a:List Int} (h:∀ k,k<a.length->0<=a.getD k 0):∀ t k:Nat,k + t=a.length->0<=Y1 a k
 |0,k,e=>by rw [WF (by omega)];exact qG _
 |t + 1,k,e=>by
  have o:=ZjU h t (k + 1) (by omega);have d:=h k (by omega);rw [ZX (by omega)] at d;rw [XF (by omega)];omega
def ZcH {lim sold:List Int} {c many:Int} (h:(YP lim sold c many).2=0):
  (YP lim sold c many).1=sold.set c.toNat (sold.getD c.toNat 0 + many)/\Yc lim (YP lim sold c many).1=true/\0<=c/\c<lim.length/\1<=many:=by
 unfold YP at h ⊢;split at h
 ·cases h
 split at h
 ·cases h
 rename_i y z;rw [qc y,qc z];have n:(Xb lim sold c).2=0:=qI λ e=>y (.inl e);obtain ⟨g,a,d⟩:=Zfd n;have hl:(Xb lim sold c).1=mnF (VI lim sold) (c.toNat + 1):=by unfold Xb;rw [qf ⟨g,a,d⟩]
 rw [hl] at z;obtain ⟨l,p,u⟩:=ZP.1 g;have hm:=ZjI (VI lim sold) (c.toNat + 1)
 suffices key:Yc lim (sold.set c.toNat (sold.getD c.toNat 0 + many))=true from ⟨rfl,key,a,d,by omega⟩
 refine ZP.2 ⟨l,by rw [jd];exact p,λ k hk=>?_⟩;have q:=UD (sold:=sold) (c:=c.toNat) (m:=many) (by omega) (lim.length - k) k (by omega);have r:=u k hk;have o:Y1 (sold.set c.toNat (sold.getD c.toNat 0 + many)) k<=lim.getD k 0:=by
  rw [q];split
  ·have x:mnF (VI lim sold) (c.toNat + 1)<=lim.getD k 0 - Y1 sold k:=hm.2.1 k (by omega) (by omega)
   omega
  ·omega
 refine ⟨?_,o⟩;have i:∀ j,j<(sold.set c.toNat (sold.getD c.toNat 0 + many)).length->0<=(sold.set c.toNat (sold.getD c.toNat 0 + many)).getD j 0:=λ j hj=>by
  rw [jd] at hj;rw [ZX (by rw [jd];exact hj),vz];have v:=u j (by omega);rw [ZX hj] at v;split
  ·rename_i e
   have f:=u c.toNat (by omega);omega
  ·omega
 have s:=i k (by rw [jd];omega);refine ⟨s,?_⟩;have hs:=XF (sold:=sold.set c.toNat (sold.getD c.toNat 0 + many)) (k:=k) (by rw [jd];omega);have b:=ZjU i (lim.length - (k + 1)) (k + 1) (by rw [jd];omega);have t:=((Yu.1 l).2 k hk).1.2;rw [ZX (by rw [jd];omega)];rw [ZX hk] at o;omega
variable {f:PF} {r:RF}
def WC {L:List Zw} {x:Int}:x∈Zz L↔∃ h∈L,x∈h.seats:=zO
def ZeI (t:Tie f r) (g:Y5 r) (o c m:Int):(Uq f o c m).2=(Zy r o c m).2/\Tie (Uq f o c m).1 (Zy r o c m).1/\Y5 (Zy r o c m).1:=by
 unfold Uq Zy;rw [t.get g.rise,t.lims,t.sold];split
 ·exact ⟨rfl,t,g⟩
 rename_i E;split
 ·exact ⟨rfl,t,g⟩
 rename_i p;have k:Wc o r.L=none:=by cases e:Wc o r.L with|none=>rfl|some x=>rw [e] at p;simp at p
 split
 ·rename_i hs
  obtain ⟨A,D,q,s,hm⟩:=ZcH hs;have d:(YP r.lims r.sold c m).1=Ya r.lims.length (ZcU ⟨o,c,m,[]⟩ r.L):=by
   rw [A];exact Ur (h:=⟨o,c,m,[]⟩) (Wb _ _) q s
  refine ⟨rfl,⟨t.num,t.rows,t.grps,rfl,d,?_,?_,?_,t.nod⟩,⟨g.num,g.lay,?_,g.l0,Zhh g.rise k,?_,?_⟩⟩
  ·show ((f.hs++[(o,(⟨o,c,m,[]⟩:Zw))]).map (·.2)).Perm _
   rw [qe];refine (v8.trans ?_).trans (Wb _ _).symm;exact t.hs.cons _
  ·intro e v
   rcases qt.1 v with v|v
   ·exact t.key e v
   ·rw [qK.1 v]
  ·intro n o'
   show ZL n f.own=some o'↔_;rw [t.own];constructor
   ·rintro ⟨h,u,e,hs⟩;exact ⟨h,(Wb _ _).mem_iff.2 (qj _ u),e,hs⟩
   ·rintro ⟨h,u,e,hs⟩
    rcases qk.1 ((Wb _ _).mem_iff.1 u) with rfl|u
    ·cases hs
    ·exact ⟨h,u,e,hs⟩
  ·show Yc r.lims (Ya r.lims.length (ZcU ⟨o,c,m,[]⟩ r.L))=true
   rw [<-d];exact D
  ·intro h u
   rcases qk.1 ((Wb _ _).mem_iff.1 u) with rfl|u
   ·exact ⟨by dsimp only;omega,⟨q,s⟩,hm,λ i j hj=>by simp at hj,by simp;omega,λ x z=>by cases z⟩
   ·exact g.each h u
  ·show (ZcU ⟨o,c,m,[]⟩ r.L).Pairwise _
   refine ((Wb _ _).pairwise_iff λ {a b} h x z l=>h x l z).2 (qC.2 ⟨λ y _ x z=>(by cases z),g.apart⟩)
 ·exact ⟨rfl,t,g⟩
def Zgg {n:Nat} {A C:List Zw} {h h':Zw} (a:h'.cls=h.cls) (d:h'.many=h.many):Ya n (A++h'::C)=Ya n (A++h::C):=by
 unfold Ya;refine qP λ k _=>?_;rw [Gc,Gc];simp only [Gq,a,d]
def Zdj {A C:List Zw} {h:Zw} (g:(A++h::C).Pairwise λ a b=>∀ x∈a.seats,x ∉ b.seats):(∀ y∈A++C,∀ x∈h.seats,x ∉ y.seats)/\(A++C).Pairwise λ a b=>∀ x∈a.seats,x ∉ b.seats:=by
 have p:(A++h::C).Perm (h::(A++C)):=qY;have:=(p.pairwise_iff λ {a b} h x o d=>h x d o).1 g;exact qC.1 this
def Ze7 {A C:List Zw} {h y:Zw} (a:y∈A++C):y∈A++h::C:=by
 rw [qt] at a;rw [qt,qk];rcases a with a|a
 ·exact .inl a
 ·exact .inr (.inr a)
def Zfn {A C:List Zw} {h h':Zw} (g:Y5 r) (i:r.L=A++h::C) (l:h'.owner=h.owner) (m:h'.cls=h.cls) (z:h'.many=h.many) (n:ZlO h'.seats) (p:(h'.seats.length:Int)<=h.many)
  (hs:∀ x∈h'.seats,x∈h.seats\/(x ∉ Zz r.L/\0<=x/\x<YN r.rows r.grps)):Y5 { r with L:=A++h'::C }:=by
 have v:=g.each h (by rw [i];simp);have u:=g.apart;rw [i] at u;obtain ⟨q,s⟩:=Zdj u;refine ⟨g.num,g.lay,?_,g.l0,?_,?_,?_⟩
 ·show Yc r.lims (Ya r.lims.length (A++h'::C))=true
  rw [Zgg m z,<-i];exact g.nest
 ·have:=g.rise;rw [i] at this;exact Zro l this
 ·intro x d
  show ZqX r.lims.length (YN r.rows r.grps) x;have d:x∈A++h'::C:=d;rw [qt,qk] at d;rcases d with d|rfl|d
  ·exact g.each x (by rw [i];simp [d])
  ·exact ⟨by rw [l];exact v.owner,by rw [m];exact v.cls,by rw [z];exact v.many,n,by rw [z];exact p,λ y o=>by
    rcases hs y o with o|o
    ·exact v.seats y o
    ·exact o.2⟩
  ·exact g.each x (by rw [i];simp [d])
 ·show (A++h'::C).Pairwise _
  refine ((qY (a:=h') (l₁:=A) (l₂:=C)).pairwise_iff λ {a b} h x d j=>h x j d).2 (qC.2 ⟨λ y o x d=>?_,s⟩);rcases hs x d with d|d
  ·exact q y o x d
  ·exact λ k=>d.1 (WC.2 ⟨y,by rw [i];exact Ze7 o,k⟩)
def ZhU {A C:List Zw} {h h':Zw} {u:List (Int × Int)} (t:Tie f r) (g:Y5 r) (k:r.L=A++h::C) (E:Wc h.owner A=none) (s:h'.owner=h.owner) (F:h'.cls=h.cls) (G:h'.many=h.many)
  (hs:∀ x∈h'.seats,x∈h.seats\/x ∉ Zz r.L) (H:(u.map (·.1)).Nodup) (I:∀ n,ZL n u=if n∈h'.seats then some h.owner else if n∈h.seats then none else ZL n f.own):
  Tie { f with hs:=Zbm h.owner h' f.hs,own:=u } { r with L:=A++h'::C }:=by
 have m:=g.apart;rw [k] at m;obtain ⟨J,O⟩:=Zdj m;have M:ZL h.owner f.hs=some h:=by rw [t.get g.rise,k];exact Zfq rfl E
 obtain ⟨a,c,y,b⟩:=YZ M;have z:Zbm h.owner h' f.hs=a++(h.owner,h')::c:=by rw [y];exact ZbK b (Za7 _)
 refine ⟨t.num,t.rows,t.grps,t.lims,?_,?_,?_,?_,H⟩
 ·show f.sold=Ya r.lims.length (A++h'::C)
  rw [Zgg F G,<-k];exact t.sold
 ·show ((Zbm h.owner h' f.hs).map (·.2)).Perm (A++h'::C)
  have p:=t.hs;rw [y,k,qe,qi] at p;rw [z,qe,qi];have p2:=(qY.symm.trans p).trans qY;exact (qY.trans (p2.cons_inv.cons h')).trans qY.symm
 ·show ∀ e∈Zbm h.owner h' f.hs,e.2.owner=e.1
  rw [z];intro e l;rw [qt,qk] at l;rcases l with l|rfl|l
  ·exact t.key e (by rw [y];simp [l])
  ·exact s
  ·exact t.key e (by rw [y];simp [l])
 ·intro n o
  show ZL n u=some o↔∃ x∈A++h'::C,x.owner=o/\n∈x.seats;rw [I];constructor
  ·intro e
   split at e
   ·rename_i D;cases e
    exact ⟨h',by simp,s,D⟩
   ·split at e
    ·cases e
    ·rename_i Q N
     obtain ⟨x,i,v,d⟩:=(t.own n o).1 e;rw [k,qt,qk] at i;rcases i with i|rfl|i
     ·exact ⟨x,by simp [i],v,d⟩
     ·exact absurd d N
     ·exact ⟨x,by simp [i],v,d⟩
  ·rintro ⟨x,i,v,d⟩
   rw [qt,qk] at i;have other:x∈A++C->(if n∈h'.seats then some h.owner else if n∈h.seats then none else ZL n f.own)=some o:=λ i=>by
    have q:x∈r.L:=by rw [k];exact Ze7 i
    have n1:n ∉ h.seats:=λ j=>J x i n j d;have n2:n ∉ h'.seats:=λ j=>by
     rcases hs n j with j|j
     ·exact n1 j
     ·exact j (WC.2 ⟨x,q,d⟩)
    rw [qc n2,qc n1];exact (t.own n o).2 ⟨x,q,v,d⟩
   rcases i with i|rfl|i
   ·exact other (by simp [i])
   ·rw [qf d,<-v,s]
   ·exact other (by simp [i])
def Zje (t:Tie f r) (g:Y5 r) (o:Int) (lab:ByteArray) (l:∀ k,YG r.rows r.grps lab=(k,0)->0<=k/\k<YN r.rows r.grps):
  (Gx f o lab).2=(ZR r o lab).2/\Tie (Gx f o lab).1 (ZR r o lab).1/\Y5 (ZR r o lab).1:=by
 unfold Gx ZR;rw [t.get g.rise];cases m:Wc o r.L with
 |none=>exact ⟨rfl,t,g⟩
 |some h=>
  obtain ⟨A,C,i,j,rfl⟩:=YB m;have p:=g.each h (by rw [i];simp);dsimp only;rw [show YG f.rows f.grps lab=YG r.rows r.grps lab by rw [t.rows,t.grps]];split
  ·exact ⟨rfl,t,g⟩
  rename_i q;split
  ·exact ⟨rfl,t,g⟩
  rename_i b;have y:(YG r.rows r.grps lab).2=0:=qI q;have s:=l (YG r.rows r.grps lab).1 (by rw [<-y]);by_cases u:(YG r.rows r.grps lab).1∈Zz r.L
  ·rw [qf ((t.taken _).2 u),qf u];exact ⟨rfl,t,g⟩
  ·rw [qc (λ e=>u ((t.taken _).1 e)),qc u]
   generalize (YG r.rows r.grps lab).1=n at *;have v:ZkA h.owner (h.put n) r.L=A++h.put n::C:=by rw [i];exact V9 rfl j
   rw [v];have z:n ∉ h.seats:=λ e=>u (WC.2 ⟨h,by rw [i];simp,e⟩);have hs:∀ x∈(h.put n).seats,x∈h.seats\/(x ∉ Zz r.L/\0<=x/\x<YN r.rows r.grps):=λ x a=>by
    rcases Wu.1 a with rfl|a
    ·exact .inr ⟨u,s⟩
    ·exact .inl a
   refine ⟨rfl,ZhU (h':=h.put n) t g i j rfl rfl rfl (λ x a=>(hs x a).imp id (·.1)) (Za0 t.nod) λ x=>?_,Zfn (h':=h.put n) g i rfl rfl rfl ?_ ?_ hs⟩
   ·rw [Zc0]
    show _=if x∈Up n h.seats then some h.owner else _
    by_cases a:x=n
    ·rw [qf a,qf (Wu.2 (.inl a))]
    ·rw [qc a]
     by_cases d:x∈h.seats
     ·rw [qf (Wu.2 (.inr d))]
      exact (t.own x h.owner).2 ⟨h,by rw [i];simp,rfl,d⟩
     ·rw [qc (λ e=>(Wu.1 e).elim a d),qc d]
   ·exact G8.2 (ZiE (G8.1 p.rise) z)
   ·show ((Up n h.seats).length:Int)<=_
    rw [ZbR];omega
def Zjg (t:Tie f r) (g:Y5 r) (o:Int):(Zfp f o).2=(Xg r o).2/\Tie (Zfp f o).1 (Xg r o).1/\Y5 (Xg r o).1:=by
 unfold Zfp Xg;rw [t.get g.rise];cases G:Wc o r.L with
 |none=>exact ⟨rfl,t,g⟩
 |some h=>
  obtain ⟨A,C,y,H,rfl⟩:=YB G;have v:=g.each h (by rw [y];simp);have i:∀ x∈r.L,1<=x.many:=λ x d=>(g.each x d).many;have m:=g.apart;rw [y] at m;obtain ⟨I,J⟩:=Zdj m;dsimp only;have q:ZqE h.owner r.L=A++C:=by rw [y];exact ZbY rfl H
  rw [q];have p:r.L.Perm (h::(A++C)):=by rw [y];exact qY
  have s:r.sold.set h.cls.toNat (r.sold.getD h.cls.toNat 0 - h.many)=Ya r.lims.length (A++C):=Zmh p v.cls.1 v.cls.2;have M:h.many<=r.sold.getD h.cls.toNat 0:=by
   show _<=(Ya r.lims.length r.L).getD _ 0;have N:=v.cls;rw [XX (by omega),V1 p,show ((h.cls.toNat:Nat):Int)=h.cls by omega];have:=Zde (k:=h.cls) (L:=A++C) λ x d=>i x (by rw [y];exact Ze7 d);show h.many<=(if h.cls=h.cls then h.many else 0) + _
   rw [qf rfl];omega
  have z:ZaJ f.lims f.sold h.cls h.many=(Ya r.lims.length (A++C),0):=by
   rw [t.lims,t.sold];unfold ZaJ;have hl:(Xb r.lims r.sold h.cls).2=0:=by unfold Xb;rw [qf ⟨g.nest,v.cls.1,v.cls.2⟩]
   rw [qc (by rw [hl];have:=v.many;omega),s]
  rw [z];have D:ZL h.owner f.hs=some h:=by rw [t.get g.rise];exact G
  obtain ⟨a,c,b,E⟩:=YZ D;have F:GT h.owner f.hs=a++c:=by rw [b];exact Ga E (Za7 _)
  obtain ⟨O,Q⟩:=Zlx (l:=h.seats) t.nod;refine ⟨rfl,⟨t.num,t.rows,t.grps,t.lims,rfl,?_,?_,?_,O⟩,⟨g.num,g.lay,?_,g.l0,?_,?_,J⟩⟩
  ·show ((GT h.owner f.hs).map (·.2)).Perm (A++C)
   have p:=t.hs;rw [b,y,qe,qi] at p;rw [F,qe];exact ((qY.symm.trans p).trans qY).cons_inv
  ·show ∀ e∈GT h.owner f.hs,e.2.owner=e.1
   intro e U;exact t.key e ((ZfF _ _).subset U)
  ·intro n o'
   show ZL n (WR h.seats f.own)=some o'↔∃ x∈A++C,x.owner=o'/\n∈x.seats;rw [Q];constructor
   ·intro e
    split at e
    ·cases e
    ·rename_i V
     obtain ⟨x,d,j,u⟩:=(t.own n o').1 e;rcases qk.1 (p.mem_iff.1 d) with rfl|d
     ·exact absurd u V
     ·exact ⟨x,d,j,u⟩
   ·rintro ⟨x,d,j,u⟩
    rw [qc (λ v=>I x d n v u)];exact (t.own n o').2 ⟨x,p.mem_iff.2 (qj _ d),j,u⟩
  ·refine Zni g.nest (by show (Ya _ _).length=(Ya _ _).length;rw [YX,YX]) λ k hk=>?_
   show 0<=(Ya r.lims.length (A++C)).getD k 0/\(Ya r.lims.length (A++C)).getD k 0<=(Ya r.lims.length r.L).getD k 0;have hk:k<r.lims.length:=hk;rw [XX hk,XX hk,V1 p];refine ⟨Zde λ x d=>i x (p.mem_iff.2 (qj _ d)),?_⟩;rw [V2];have:=v.many;split<;>omega
  ·have:=g.rise;rw [y] at this;exact Zrp this
  ·intro x d
   exact g.each x (p.mem_iff.2 (qj _ d))
end
section
open Go Go.VC Tryz
def ZjV {u u':Nat->Bool} {x:Int} (h:∀ j:Nat,u' j=true->u j=true\/(j:Int)=x):∀ N:Nat,(ZJ u N).length<=(ZJ u' N).length + (if x<N/\0<=x then 1 else 0)
 |0=>by simp [ZJ]
 |N + 1=>by
  have ih:=ZjV h N;rw [We,We];by_cases e:u N=true
  ·rw [qf e]
   split at ih<;>split<;>split<;>omega
  ·rw [qc e]
   by_cases e2:u' N=true
   ·rw [qf e2]
    have e3:(N:Int)=x:=(h N e2).resolve_left e;rw [qc (by omega)] at ih;rw [qf (by omega)];omega
   ·rw [qc e2]
    split at ih<;>split<;>omega
def ZjW:∀ (T:List Int) (N:Nat),N<=(ZJ (Xu T) N).length + T.length
 |[],N=>by
  have key:∀ N:Nat,(ZJ (Xu []) N).length=N:=λ N=>by
   induction N with
   |zero=>rfl
   |succ N ih=>rw [We,ih];simp [Xu]
  rw [key];omega
 |x::T,N=>by
  have ih:=ZjW T N;have a:=ZjV (u:=Xu T) (u':=Xu (x::T)) (x:=x) (λ j hj=>by
   unfold Xu at hj ⊢;rw [qV] at hj ⊢;rcases qk.1 hj with h|h
   ·exact .inr h
   ·exact .inl h) N
  rw [qr];split at a<;>omega
def Zuy {n:Int} {g taken:List Int} {many:Int}:∀ x∈(Z8 n g taken many).1,(0<=x/\x<YN n g)/\x ∉ taken:=by
 intro x d;have y:=Wq n g;have nat:∀ j:Nat,j<(YN n g).toNat->Xu taken j=false->(0<=(j:Int)/\(j:Int)<YN n g)/\(j:Int) ∉ taken:=λ j o h=>by
  refine ⟨by omega,?_⟩;unfold Xu at h;exact qQ h
 unfold Z8 at d;split at d
 ·cases d
 rename_i hm;obtain ⟨j,hj,rfl⟩:=qm.1 d;unfold V3 at hj;split at hj
 ·rename_i i a
  have o:=List.find?_some a;have h:=jC.1 (List.mem_of_find?_eq_some a);have u:many.toNat<=UR (Xu taken) (zF g) (i + 1):=by rw [jh.1 o];exact jc _
  obtain ⟨z,v⟩:=ZeP.1 u;unfold Zdq at hj;obtain ⟨t,ht,rfl⟩:=qm.1 hj;have ht:=jC.1 ht;exact nat _ (by omega) (v _ (by omega) (by omega)).1
 ·split at hj
  ·cases hj
  ·obtain ⟨i,hi⟩:=List.getElem?_of_mem (qw hj)
   obtain ⟨o,h,_⟩:=Vj hi;exact nat j o h
def Zqd {n:Int} {g taken:List Int} {many:Int} (h:(Z8 n g taken many).2=0):((Z8 n g taken many).1.length:Int)=many:=by
 unfold Z8 at h ⊢;split at h
 ·cases h
 rename_i hm;rw [qc hm];rw [qa];dsimp only at h;unfold V3 at h ⊢;generalize (List.range (YN n g).toNat).find? (λ j=>UR (Xu taken) (zF g) (j + 1)==many.toNat)=o at h ⊢;cases o with
 |some i=>
  dsimp only;rw [ZbH];omega
 |none=>
  dsimp only at h ⊢;split at h
  ·cases h
  ·rename_i a
   rw [qc a,qd];omega
def Zux {n:Int} {g taken:List Int} {many:Int} (h:1<=many) (a:many + taken.length<=YN n g):(Z8 n g taken many).2=0:=by
 have d:=Wq n g;unfold Z8;rw [qc (by omega)];dsimp only;unfold V3;split
 ·rfl
 ·rw [qc]
  have:=ZjW taken (YN n g).toNat;omega
def ZoG {n:Int} {g a b:List Int} {many:Int} (h:∀ x,x∈a↔x∈b):Z8 n g a many=Z8 n g b many:=by
 have:Xu a=Xu b:=by
  funext j
  unfold Xu;rw [qJ];exact h _
 unfold Z8;rw [this]
variable {f:PF} {r:RF}
def Zga:∀ {L:List Zw},(∀ h∈L,(h.seats.length:Int)<=h.many)->((Zz L).length:Int)<=ZhM L
 |[],_=>qG _
 |h::L,a=>by
  have ih:=Zga λ x d=>a x (qj _ d);have o:=a h qq;show ((h.seats++Zz L).length:Int)<=h.many + ZhM L;rw [qb];omega
def ZlZ {A B:List Zw} (h:A.Perm B):ZhM A=ZhM B:=by
 induction h with
 |nil=>rfl
 |cons x _ ih=>simp only [ZhM,ih]
 |swap x y l=>simp only [ZhM];exact zD _ _ _
 |trans _ _ a b=>exact a.trans b
def Y5.tot (g:Y5 r):ZhM r.L<=YN r.rows r.grps:=by
 rw [<-Zf7 (n:=r.lims.length) λ h a=>(g.each h a).cls,<-g.l0];have hl:=(Yu.1 (ZP.1 g.nest).1).1.1;exact ((ZP.1 g.nest).2.2 0 (by omega)).2
def Znw:∀ {L:List Zw},(∀ h∈L,1<=h.many)->(L.length:Int)<=ZhM L/\∀ h∈L,h.many<=ZhM L
 |[],_=>⟨qG _,by simp⟩
 |h::L,hm=>by
  obtain ⟨o,d⟩:=Znw λ x a=>hm x (qj _ a);have i:=hm h qq;have e:ZhM (h::L)=h.many + ZhM L:=rfl;rw [e,qr];refine ⟨by omega,λ x a=>?_⟩;rcases qk.1 a with rfl|a
  ·omega
  ·have:=d x a;omega
def Y5.len (g:Y5 r):(r.L.length:Int)<=600/\∀ h∈r.L,h.many<=600:=by
 obtain ⟨o,d⟩:=Znw λ h a=>(g.each h a).many;have i:=g.tot;have u:=(Wq r.rows r.grps).2;exact ⟨by omega,λ h a=>by have:=d h a;omega⟩
def Y5.best (g:Y5 r) {A C:List Zw} {h:Zw} (a:r.L=A++h::C) (hs:h.seats=[]):(Z8 r.rows r.grps (Zz r.L) h.many).2=0:=by
 have d:=g.each h (by rw [a];simp);refine Zux d.many ?_;have o:=g.tot;have p:r.L.Perm (h::(A++C)):=by rw [a];exact qY
 rw [ZlZ p] at o;have e1:ZhM (h::(A++C))=h.many + ZhM (A++C):=rfl;have e2:(Zz r.L).length=(Zz (A++C)).length:=by
  rw [a];unfold Zz;rw [uq,zE,hs,jr,<-uq]
 have e3:=Zga (L:=A++C) λ x i=>(g.each x (by rw [a];exact Ze7 i)).few;omega
def ZeJ (t:Tie f r) (g:Y5 r) (o:Int):
  (ZbF f o).2=(ZQ r o).2/\Tie (ZbF f o).1 (ZQ r o).1/\Y5 (ZQ r o).1/\((ZQ r o).2.2=0\/(ZQ r o).2.2=2\/(ZQ r o).2.2=7):=by
 unfold ZbF ZQ;rw [t.get g.rise];cases j:Wc o r.L with
 |none=>exact ⟨rfl,t,g,.inr (.inl rfl)⟩
 |some h=>
  obtain ⟨A,C,d,z,rfl⟩:=YB j;have q:=g.each h (by rw [d];simp);dsimp only;split
  ·exact ⟨rfl,t,g,.inr (.inr rfl)⟩
  rename_i hs;have hs:h.seats=[]:=jO.1 (by omega);have e:Z8 f.rows f.grps (f.own.map (·.1)) h.many=Z8 r.rows r.grps (Zz r.L) h.many:=by
   rw [t.rows,t.grps];exact ZoG λ x=>by rw [<-t.taken,Zat]
  have v:=g.best d hs;have a:=Zuy (n:=r.rows) (g:=r.grps) (taken:=Zz r.L) (many:=h.many);have y:=ZhH (n:=r.rows) (g:=r.grps) (taken:=Zz r.L) (many:=h.many);have k:=Zqd v;rw [qf v,e,show XD f.rows f.grps=XD r.rows r.grps by rw [t.rows,t.grps]];have i:ZkA h.owner { h with seats:=(Z8 r.rows r.grps (Zz r.L) h.many).1 } r.L=A++{ h with seats:=(Z8 r.rows r.grps (Zz r.L) h.many).1 }::C:=by rw [d];exact V9 rfl z
  rw [i,v];generalize (Z8 r.rows r.grps (Zz r.L) h.many).1=l at *;obtain ⟨m,p⟩:=Zk0 (o:=h.owner) (l:=l) t.nod;refine ⟨rfl,ZhU (h':={ h with seats:=l }) t g d z rfl rfl rfl (λ x u=>.inr (a x u).2) m λ x=>?_,Zfn (h':={ h with seats:=l }) g d rfl rfl rfl y ?_ λ x u=>.inr ⟨(a x u).2,(a x u).1⟩,.inl rfl⟩
  ·rw [p,hs]
   rw [qc (by simp:¬ x∈([]:List Int))]
  ·show (l.length:Int)<=h.many
   omega
def Zjf (t:Tie f r) (g:OwR r.L):(f.hs.map (·.1)).Perm (r.L.map Zw.owner):=by
 have e:f.hs.map (·.1)=(f.hs.map (·.2)).map Zw.owner:=by
  rw [qZ];exact qP λ e h=>(t.key e h).symm
 rw [e];exact t.hs.map _
def Zpd (t:Tie f r) (g:OwR r.L):ZbC (f.hs.map (·.1))=r.L.map Zw.owner:=by
 rw [VO (Zjf t g)];unfold ZbC;refine List.mergeSort_of_pairwise ?_;rw [vt];exact g.imp λ h=>by simp only [qV];omega
def Zf8 (t:Tie f r) (g:OwR r.L):Gn f=r.L:=by
 unfold Gn;rw [Zpd t g,qZ];have key:∀ h∈r.L,(Gp f ∘ Zw.owner) h=h:=λ h a=>by
  show (ZL h.owner f.hs).getD Zu4=h;rw [t.get g,(Zas g.ne).2 ⟨a,rfl⟩];rfl
 rw [qP key,List.map_id']
def Zpe (t:Tie f r):Zeb f=Zr r:=by
 unfold Zeb Zr;rw [t.lims,t.sold]
def Zkn (t:Tie f r) (g:OwR r.L) (o:Int):GK f o=YD r o:=by
 unfold GK YD;rw [t.get g,t.rows,t.grps]
 try (cases Wc o r.L<;>rfl)
def Tie.nodK (t:Tie f r) (g:OwR r.L):(f.hs.map (·.1)).Nodup:=by
 refine ((Zjf t g).nodup_iff).2 ?_;rw [uD,vt];exact g.ne
def Tie.mem (t:Tie f r) {e:Int × Zw} (h:e∈f.hs):e.2∈r.L:=t.hs.mem_iff.1 (qm.2 ⟨e,h,rfl⟩)
def Tie.ownIn (t:Tie f r) (g:Y5 r):∀ k∈f.own.map (·.1),0<=k/\k<YN r.rows r.grps:=λ k hk=>by
 obtain ⟨o,a⟩:=qS.1 (Zat.2 hk);obtain ⟨h,d,_,hs⟩:=(t.own k o).1 a;exact (g.each h d).seats k hs
def Ze2:∀ (N:Nat) {l:List Int},l.Nodup->(∀ x∈l,0<=x/\x<N)->l.length<=N
 |0,[],_,_=>jc _
 |0,x::l,_,a=>by have:=a x qq;omega
 |N + 1,l,h,a=>by
  by_cases hm:(N:Int)∈l
  ·have o:=Ze2 N (h.erase (N:Int)) λ x d=>by
    have i:=(h.mem_erase_iff).1 d;have:=a x i.2;have:=i.1;omega
   rw [uM hm] at o;omega
  ·have o:=Ze2 N h λ x d=>by
    have:=a x d;have:x≠N:=λ e=>hm (by rw [<-e];exact d);omega
   omega
def Tie.bounds (t:Tie f r) (g:Y5 r):f.hs.length<=600/\f.own.length<=600/\f.lims.length<=8/\f.sold.length<=8/\f.grps.length<=4/\(∀ e∈f.hs,ZlO e.2.seats/\e.2.seats.length<=600)/\(∀ k∈f.hs.map (·.1),1<=k/\k<=28629151):=by
 have hl:=g.len;have o:=t.hs.length_eq;rw [qa] at o;have i:=Ze2 (YN r.rows r.grps).toNat t.nod λ x u=>by have:=t.ownIn g x u;omega
 rw [qa] at i;have v:=Wq r.rows r.grps;have d:=(Yu.1 (ZP.1 g.nest).1).1.2;have y:=(Z7.1 g.lay).1;refine ⟨by omega,by omega,by rw [t.lims];exact d,by rw [t.sold];show (Ya _ _).length<=8;rw [YX];exact d,by rw [t.grps];omega,λ e h=>?_,λ k hk=>?_⟩
 ·have a:=g.each _ (t.mem h)
  have:=hl.2 _ (t.mem h);exact ⟨a.rise,by have:=a.few;omega⟩
 ·obtain ⟨e,h,rfl⟩:=qm.1 hk
  have a:=g.each _ (t.mem h);have:=a.owner;rw [t.key e h] at this;exact this
def GB (num rows:Int) (grps lims:List Int):RF:=⟨num,rows,grps,lims,[]⟩
def ZbT {num rows:Int} {grps:List Int} {parts:List Nat} (h:Zae num rows grps parts):Y5 (GB num rows grps (ZB (YN rows grps) parts).1):=by
 obtain ⟨a,d,o,i⟩:=h;obtain ⟨u,v⟩:=Znt i;refine ⟨⟨a,d⟩,o,?_,v,ju,λ h y=>(by cases y),ju⟩;show Yc _ (Ya _ [])=true;rw [G0];exact ZcG u
def Zl3 {num rows:Int} {grps lims:List Int}:Tie (UF num rows grps lims) (GB num rows grps lims):=by
 refine ⟨rfl,rfl,rfl,rfl,?_,jD _,λ e a=>(by cases a),λ n o=>?_,vS⟩
 ·show List.replicate _ 0=Ya _ []
  rw [G0];rfl
 ·constructor
  ·intro h;cases h
  ·rintro ⟨h,d,_⟩;cases d
end
section
open Go Go.VC Tryz
variable {R R':Cx} {Hs Rest:List HP} {w:World}
section
variable {γ:Type} (f:Zw × Sl->γ)
def Zez (h:Zw) (t:Sl):∀ (k:Nat) (L:List Zw) (ts:List Sl),ts.length=L.length->k<=L.length->((L.take k++h::L.drop k).zip (ts.take k++t::ts.drop k)).map f=((L.zip ts).map f).take k++f (h,t)::((L.zip ts).map f).drop k
 |0,L,ts,_,_=>by simp
 |k + 1,[],ts,_,hk=>by simp at hk
 |k + 1,x::L,[],hl,_=>by simp at hl
 |k + 1,x::L,y::ts,hl,hk=>by
  have ih:=Zez h t k L ts (by simpa using hl) (by simpa using hk);simp only [ur,um,qU,uE,qi,ih]
def ZeA:∀ (k:Nat) (L:List Zw) (ts:List Sl),ts.length=L.length->k<L.length->((L.take k++L.drop (k + 1)).zip (ts.take k++ts.drop (k + 1))).map f=((L.zip ts).map f).take k++((L.zip ts).map f).drop (k + 1)
 |k,[],ts,_,hk=>by simp at hk
 |k,x::L,[],hl,_=>by simp at hl
 |0,x::L,y::ts,_,_=>by simp
 |k + 1,x::L,y::ts,hl,hk=>by
  have ih:=ZeA k L ts (by simpa using hl) (by simpa using hk);simp only [ur,um,qU,uE,qi,ih]
def Zey (h:Zw) (t:Sl):∀ (k:Nat) (L:List Zw) (ts:List Sl),((L.set k h).zip (ts.set k t))=(L.zip ts).set k (h,t)
 |k,[],ts=>by simp
 |k,x::L,[]=>by simp
 |0,x::L,y::ts=>by simp
 |k + 1,x::L,y::ts=>by
  have ih:=Zey h t k L ts;simp only [zu,uE,ih]
end
def Zmy {L:List Zw} {ts:List Sl} {k:Nat} (hl:ts.length=L.length) (hk:k<=L.length) (h:Zw) (t:Sl):XT (L.take k++h::L.drop k) (ts.take k++t::ts.drop k)=(XT L ts).take k++[Zdl h t]++(XT L ts).drop k:=by
 rw [qn];exact Zez (λ x=>Zdl x.1 x.2) h t k L ts hl hk
def Zmz {L:List Zw} {ts:List Sl} {k:Nat} (hl:ts.length=L.length) (hk:k<L.length):XT (L.take k++L.drop (k + 1)) (ts.take k++ts.drop (k + 1))=(XT L ts).take k++(XT L ts).drop (k + 1):=ZeA (λ x=>Zdl x.1 x.2) k L ts hl hk
def YM.ins {L:List Zw} {ts:List Sl} {k:Nat} {h:Zw} {t:Sl} (hl:ts.length=L.length) (hk:k<=L.length) (a:Sat R (Zv t (Zd h.seats)::YM L ts::Hs) w):Sat R (YM (L.take k++h::L.drop k) (ts.take k++t::ts.drop k)::Hs) w:=by
 refine Sat.star.2 ?_;rw [show Z6 (L.take k++h::L.drop k) (ts.take k++t::ts.drop k)=(Z6 L ts).take k++Zv t (Zd h.seats)::(Z6 L ts).drop k from Zez (λ x=>Zv x.2 (Zd x.1.seats)) h t k L ts hl hk]
 have a:Sat R (Zv t (Zd h.seats)::(Z6 L ts++Hs)) w:=a.cons λ _ h=>Sat.star.1 h;refine a.perm ?_;rw [qn,qU];refine (uX ?_ qY.symm);rw [<-qn,qD]
def YM.pick {L:List Zw} {ts:List Sl} {k:Nat} (hk:k<L.length) (d:k<ts.length) (h:Sat R (YM L ts::Hs) w):Sat R (Zv ts[k] (Zd L[k].seats)::((Z6 L ts).take k++(Z6 L ts).drop (k + 1)++Hs)) w:=by
 have h:=Sat.star.1 h;have a:k<(Z6 L ts).length:=by simp [Z6];omega
 have e:Z6 L ts=(Z6 L ts).take k++Zv ts[k] (Zd L[k].seats)::(Z6 L ts).drop (k + 1):=by
  have o:(Z6 L ts)[k]=Zv ts[k] (Zd L[k].seats):=by simp [Z6]
  rw [<-o,<-qv a,qD]
 rw [e,qn,qU] at h;rw [qn];exact h.perm qY
def YM.del {L:List Zw} {ts:List Sl} {k:Nat} (hl:ts.length=L.length) (hk:k<L.length) (h:Sat R (YM L ts::Hs) w):Sat R (YM (L.take k++L.drop (k + 1)) (ts.take k++ts.drop (k + 1))::Hs) w:=by
 have h:=(YM.pick hk (by omega) h).drop;refine Sat.star.2 ?_;rw [show Z6 (L.take k++L.drop (k + 1)) (ts.take k++ts.drop (k + 1))=(Z6 L ts).take k++(Z6 L ts).drop (k + 1) from ZeA (λ x=>Zv x.2 (Zd x.1.seats)) k L ts hl hk]
 exact h
def YM.set {L:List Zw} {ts:List Sl} {k:Nat} {h:Zw} {t:Sl} (hl:ts.length=L.length) (hk:k<L.length) (d:Sat R (Zv t (Zd h.seats)::YM L ts::Hs) w):Sat R (YM (L.set k h) (ts.set k t)::Hs) w:=by
 have d:Sat R (Zv t (Zd h.seats)::((Z6 L ts).take k++(Z6 L ts).drop (k + 1)++Hs)) w:=d.cons λ _ o=>(YM.pick hk (by omega) o).drop;refine Sat.star.2 ?_;have a:k<(Z6 L ts).length:=by simp [Z6];omega
 rw [show Z6 (L.set k h) (ts.set k t)=(Z6 L ts).take k++Zv t (Zd h.seats)::(Z6 L ts).drop (k + 1) by
  unfold Z6 at a ⊢;rw [Zey,uv,vL,qf a]]
 refine d.perm ?_;rw [qn,qn,qU];exact qY.symm
def RfR.row {A C:List Zw} {hd:Zw} {r:RF} {sg sl s:Sl} {ts:List Sl} (h:RfR R r sg sl s ts) (u:r.L=A++hd::C):∃ (t:Sl) (ht:A.length<ts.length),ts[A.length]=t/\SlR R.m t (Zd hd.seats)/\
  ∀ {S:xE} {Hs:List HP} {i:Nat} {v:Value},(∀ w,S w->Sat R Hs w)->(Zdl hd t)[i]? =some v->∀ {F:Addr->Prop},(∀ a:Addr,a.spot=none->At S ⟨(a.add (YQ A.length 4)).block,(a.add (YQ A.length 4)).off + i,none⟩ [v]->F a)->Rng (A.length:Int) s.len (Zb s.a F):=by
 have hl:=h.hs.len;have i1:A.length<r.L.length:=by rw [u];simp
 have i2:A.length<ts.length:=by omega
 have d:r.L[A.length]=hd:=by simp [u]
 have o:=h.hs.seats A.length i1 i2;rw [d] at o;exact ⟨_,i2,rfl,o,λ {S Hs i v} hS y {F} f=>h.hs.fld hS i1 i2 (by rw [d];exact y) f⟩
def ZpF {A C:List Zw} {hd:Zw}:(A++hd::C).take A.length++(A++hd::C).drop (A.length + 1)=A++C:=by simp
def ZrG {A C:List Zw} {hd h':Zw}:(A++hd::C).set A.length h'=A++h'::C:=by simp
def ZbL (L:List Zw) (ts:List Sl):ZN (XT L ts).flatten=true:=by
 have key:∀ E:List (Zw × Sl),ZN ((E.map λ x=>Zdl x.1 x.2).flatten)=true:=λ E=>by
  induction E with
  |nil=>rfl
  |cons x E ih=>
   show ZN (Zdl x.1 x.2++_)=true;unfold ZN at ih ⊢;rw [uY,ih];rfl
 exact key _
def ZcC {l:List (List Value)} (k:Nat) (h:ZN l.flatten=true):ZN (l.take k).flatten=true:=by
 have e:l.flatten=(l.take k).flatten++(l.drop k).flatten:=by rw [<-ja,qD]
 unfold ZN at *;rw [e,uY,ql] at h;exact h.1
def ZcE {l:List (List Value)} (k:Nat) (h:ZN l.flatten=true):ZN (l.drop k).flatten=true:=by
 have e:l.flatten=(l.take k).flatten++(l.drop k).flatten:=by rw [<-ja,qD]
 unfold ZN at *;rw [e,uY,ql] at h;exact h.2
def ZkO {num rows:Int} {sg sp:Sl} {grps:List Int} {parts:List Nat} (g:RoI R sg grps) (r:SlR R.m sp (GM parts)) (o:Sat R Hs w):
  Zg prog 109 #[nI num,.agg #[nI rows,.slice sg.a sg.len sg.cap],.slice sp.a sp.len sp.cap] w λ v w'=>
   (¬ Zae num rows grps parts/\v=.tuple #[xP none,nI 1]/\Sat R Hs w')\/
   (Zae num rows grps parts/\∃ p,v=.tuple #[nP p,nI 0]/\Sat R (WJ p (GB num rows grps (ZB (YN rows grps) parts).1)::Hs) w'):=by
 apply Zum
 suffices H:∀ K:Value->xE,(¬ Zae num rows grps parts->∀ w',Sat R Hs w'->K (.tuple #[xP none,nI 1]) w')->(Zae num rows grps parts->∀ p w',Sat R (WJ p (GB num rows grps (ZB (YN rows grps) parts).1)::Hs) w'->K (.tuple #[nP p,nI 0]) w')->B109 num rows sg sp K w from
  H _ (λ h w' h'=>.inl ⟨h,rfl,h'⟩) λ h p w' h'=>.inr ⟨h,p,rfl,h'⟩
 intro K y k;refine Za o λ b4 w o=>?_;have o:Sat R (pts b4 (WQ rows sg)::Hs) w:=o;refine ⟨rows,sg,oA o,?_⟩;refine (GA g o).u λ w o=>?_;refine ⟨_,rfl,λ w=>(¬ num<1/\¬ num>9999/\VK rows grps=true)/\Sat R (pts b4 (WQ rows sg)::Hs) w,?_,?_⟩
 ·refine Br.d (λ h=>y (λ z=>by have:=z.1;omega) _ o.drop) (λ n=>Br.d (λ h=>y (λ z=>by have:=z.2.1;omega) _ o.drop) (λ z=>Br.nb (λ h=>y (λ l=>by have q:=l.2.2.1;rw [h] at q;cases q) _ o.drop) (λ j=>⟨⟨n,z,j⟩,o⟩)))
 clear o;rintro _ w ⟨⟨n,z,j⟩,o⟩;refine ⟨rows,sg,oA o,?_⟩;refine (W9 g o).u λ w o=>?_;refine ⟨_,rfl,?_⟩;refine (ZgC r o).u1 λ t w o=>?_;refine ⟨_,_,rfl,Br.ne (λ h=>y (λ l=>h l.2.2.2) _ o.drop.drop) (λ s=>?_)⟩;obtain ⟨e,_,_⟩:=Z7.1 j;have x:=g.len;refine Za o λ b5 w o=>?_;refine ⟨sg,oA o,?_⟩;refine Zbx (b:=b5) Zdn o (Zmg underlying30 o g (ZcD grps)) (by rw [qa];omega) (by rw [qa];omega) λ i w o=>?_;have o:=o.m2;refine sRu o λ w o=>?_;have o:Sat R (pts b4 (WQ rows i)::Own i 3 (Zd grps)::Own t 3 (Zd (ZB (YN rows grps) parts).1)::Hs) w:=o;refine ⟨rows,i,oA o,?_⟩;refine Za o λ p w o=>?_;have o:Sat R (pts p (ZD (GB num rows grps (ZB (YN rows grps) parts).1) i t ⟨none,0,0⟩)::pts b4 (WQ rows i)::Own i 3 (Zd grps)::Own t 3 (Zd (ZB (YN rows grps) parts).1)::Hs) w:=o;refine k ⟨by omega,by omega,j,s⟩ p w (Sat.rf.2 ⟨i,t,⟨none,0,0⟩,[],rfl,?_⟩);have o:Sat R (Own i 3 (Zd grps)::Own t 3 (Zd (ZB (YN rows grps) parts).1)::pts p (ZD (GB num rows grps (ZB (YN rows grps) parts).1) i t ⟨none,0,0⟩)::Hs) w:=(o.arr:Sat R (pts b4 (WQ rows i)::Own i 3 (Zd grps)::Own t 3 (Zd (ZB (YN rows grps) parts).1)::pts p (ZD (GB num rows grps (ZB (YN rows grps) parts).1) i t ⟨none,0,0⟩)::Hs) w).drop;exact Own.reads (o.cons λ _ h=>Own.reads (h.cons λ _ h=>h.cons λ _ h=>Zn.nil (Sat.star.2 h)))
def ZiF {h:Zw}:∀ {L:List Zw} {k:Nat},k<=L.length->(∀ i (hi:i<L.length),i<k->L[i].owner<h.owner)->(∀ hk:k<L.length,¬ L[k].owner<h.owner)->ZcU h L=L.take k++h::L.drop k
 |[],k,_,_,_=>by simp [ZcU]
 |x::L,0,_,_,a=>by
  have:¬ x.owner<h.owner:=a (by simp);unfold ZcU;rw [qc this];rfl
 |x::L,k + 1,hk,o,a=>by
  have u:x.owner<h.owner:=o 0 (by simp) (by omega);unfold ZcU;rw [qf u,ZiF (by simpa using hk) (λ i hi v=>o (i + 1) (by simpa using hi) (by omega)) (λ d=>a (by simpa using d))];rfl
def Zei {o:Int} {L:List Zw}:(0<=Va o L 0)↔(Wc o L).isSome=true:=by
 cases a:Wc o L with
 |none=>rw [Wn 0 a];simp
 |some h=>
  obtain ⟨A,C,rfl,d,i⟩:=YB a;rw [X2 i 0 d];simp
def Zcl {q:Nat} {r:RF} {owner cls many:Int} (p:r.L.length<=1000000) (A:r.lims.length<=1000) (Q:∀ x∈r.L,ZwB r.lims.length x) (a:Sat R (WJ q r::Hs) w):
  Zg prog 111 #[nP q,nI owner,nI cls,nI many] w λ v w'=>v=nI (Zy r owner cls many).2/\Sat R (WJ q (Zy r owner cls many).1::Hs) w':=by
 apply Zuk
 suffices H:∀ K:Value->xE,(∀ w',Sat R (WJ q (Zy r owner cls many).1::Hs) w'->K (nI (Zy r owner cls many).2) w')->B111 (some ⟨q,0,none⟩) owner cls many K w from H _ λ w' h=>⟨rfl,h⟩
 intro K hK;refine ⟨λ w=>(1<=owner/\owner<=28629151)/\Sat R (WJ q r::Hs) w,?_,?_⟩
 ·refine Br.d (λ h=>?_) (λ U=>Br.d (λ h=>?_) (λ V=>⟨⟨by omega,by omega⟩,a⟩))
  ·rw [show Zy r owner cls many=(r,1) by unfold Zy;rw [qf (.inl h)]] at hK;exact hK _ a
  ·rw [show Zy r owner cls many=(r,1) by unfold Zy;rw [qf (.inr h)]] at hK;exact hK _ a
 clear a;rintro _ w ⟨⟨U,V⟩,a⟩;obtain ⟨sg,sl,s,ts,R',B,h,a,back,hl⟩:=Sat.rfO a;have W:=h.len;have same:∀ {w},Sat R' (pts q (ZD r sg sl s)::Hs) w->Sat R (WJ q r::Hs) w:=λ a=>Sat.rf.2 ⟨sg,sl,s,ts,hl,back _ _ a⟩;have D:(Ya r.lims.length r.L).length=r.lims.length:=YX _ _;refine (W5 h p a).u λ w a=>?_;refine ⟨_,rfl,Br.d (λ E=>?_) (λ E=>?_)⟩
 ·rw [show Zy r owner cls many=(r,7) by unfold Zy;rw [qc (by omega),qf (Zei.1 E)]] at hK;exact hK _ (same a)
 have F:¬ (Wc owner r.L).isSome=true:=λ e=>E (Zei.2 e);have er:Zy r owner cls many=if (YP r.lims r.sold cls many).2=0 then ({ r with L:=ZcU ⟨owner,cls,many,[]⟩ r.L },0) else (r,(YP r.lims r.sold cls many).2):=by
  unfold Zy;rw [qc (by omega),qc F]
 rw [er] at hK;refine Zi a λ w a=>?_;refine Zb.mk rfl ⟨sl,oS,?_⟩;refine (ZdO h p A Q a).u1 λ t w a=>?_;refine ⟨t,rfl,a.drop,?_⟩;obtain ⟨P,G,f,a,g⟩:=Own.lendI a (by show (Ya _ _).length<=_;rw [YX];omega);refine (ZkE (f _ _ (h.lims.ro)) G a).u1 λ t2 w a=>?_;have a:=(g a).drop.drop;refine ⟨_,_,rfl,Br.ne (λ I=>?_) (λ I=>?_)⟩
 ·rw [qc I] at hK;exact hK _ (same a)
 rw [qf I] at hK;refine ⟨λ o w=>(∃ k:Nat,o=k/\k<=r.L.length/\ZcU ⟨owner,cls,many,[]⟩ r.L=r.L.take k++⟨owner,cls,many,[]⟩::r.L.drop k)/\Sat R' (pts q (ZD r sg sl s)::Hs) w,?_,?_⟩
 ·refine ⟨λ o w=>∃ k:Nat,o=k/\k<=r.L.length/\(∀ i (hi:i<r.L.length),i<k->r.L[i].owner<owner)/\Sat R' (pts q (ZD r sg sl s)::Hs) w,λ o _=>r.L.length - o.toNat,⟨0,rfl,by omega,λ i _ hi=>by omega,a⟩,?_⟩
  clear a;rintro _ _ w ⟨k,rfl,hk,n,a⟩;refine Zb.mk rfl ⟨s,oA a,Br.d (λ J=>?_) (λ J=>?_)⟩
  ·have k1:k<r.L.length:=by omega
   refine Zb.mk rfl ⟨s,oA a,?_⟩;refine h.hs.fld (j:=0) (eqS a) k1 (by omega) rfl λ x nx X=>⟨r.L[k].owner,by rw [Zby _ _ nx];exact X,?_⟩;refine Br.d (λ M=>?_) (λ M=>?_)
   ·rw [Zc]
    refine ⟨⟨k + 1,by omega,by omega,λ i hi Y=>?_,a⟩,by dsimp only;omega⟩;by_cases c:i=k
    ·subst c;exact M
    ·exact n i hi (by omega)
   ·exact ⟨⟨k,rfl,hk,ZiF hk n λ _=>M⟩,a⟩
  ·exact ⟨⟨k,rfl,hk,ZiF hk n λ S=>by omega⟩,a⟩
 clear a;rintro _ _ w ⟨⟨k,rfl,hk,y⟩,a⟩;have N:=h.cap;have C:=W7 hl;refine Za a λ b5 w a=>Zb.mk rfl ⟨s,oA a,by omega,by omega,?_⟩;refine Xd (b:=b5) (ys:=(XT r.L ts).take k) elH a (Vv ⟨_,underlying177⟩ a (h.hs.rows.take (h:=k) (by omega) s.cap) (ZcC k (ZbL _ _))) (h.hs.rows.wid.take) (by rw [qd];omega) (by rw [qd];omega) λ s1 w a=>?_;refine UX (x:=Zdl ⟨owner,cls,many,[]⟩ ⟨none,0,0⟩) elH a rfl rfl (by rw [qd];omega) (by rw [qd];omega) λ s2 w a=>?_;refine Zb.mk rfl ⟨s,oA a,by omega,by omega,?_⟩;have z:=h.hs.rows.sub (l:=k) (h:=s.len) (m:=s.cap) (by omega) (by omega) (by omega);rw [qg (show (XT r.L ts).length<=s.len by omega)] at z;refine ZY (ys:=(XT r.L ts).drop k) elH a (Vv ⟨_,underlying177⟩ a z (ZcE k (ZbL _ _))) (h.hs.rows.wid.drop) (by simp only [qb,qd,qx,qT];omega) (by simp only [qb,qd,qx,qT];omega) λ O w a=>Zb.mk rfl ?_;have a:=back _ _ a.swap;have a:=a.m5.m4.m4;refine sRu a λ w a=>?_;have a:=a.re (pts q (ZD r sg sl O));refine hK _ (Sat.rf.2 ⟨sg,sl,O,ts.take k++⟨none,0,0⟩::ts.drop k,by rw [y];simp;omega,?_⟩);rw [y];have a:=a.b4.b5.b3;rw [<-Zmy hl hk] at a;refine a.cons λ _ h=>h.cons λ _ h=>h.cons λ _ h=>h.cons λ _ h=>?_;refine YM.ins (k:=k) (h:=⟨owner,cls,many,[]⟩) (t:=⟨none,0,0⟩) hl hk ?_;have J:=h.cons λ _ h=>h.drop;exact Own.reads (T:=3) (Own.nil J)
def Zcs {q:Nat} {r:RF} {owner:Int} (g:r.L.length<=1000000) (a:Sat R (WJ q r::Hs) w):
  Zg prog 114 #[nP q,nI owner] w λ v w'=>v=nI (Xg r owner).2/\Sat R (WJ q (Xg r owner).1::Hs) w':=by
 apply Zuh
 suffices H:∀ K:Value->xE,(∀ w',Sat R (WJ q (Xg r owner).1::Hs) w'->K (nI (Xg r owner).2) w')->B114 (some ⟨q,0,none⟩) owner K w from H _ λ w' h=>⟨rfl,h⟩
 intro K hK;obtain ⟨sg,sl,s,ts,R',f,h,a,back,hl⟩:=Sat.rfO a;have x:=h.len;have same:∀ {w},Sat R' (pts q (ZD r sg sl s)::Hs) w->Sat R (WJ q r::Hs) w:=λ a=>Sat.rf.2 ⟨sg,sl,s,ts,hl,back _ _ a⟩;refine (W5 h g a).u λ w a=>?_;refine ⟨_,rfl,?_⟩;cases o:Wc owner r.L with
 |none=>
  rw [show Xg r owner=(r,2) by unfold Xg;rw [o]] at hK;refine Br.d (λ z=>hK _ (same a)) (λ z=>?_);rw [Wn 0 o] at z;omega
 |some hd=>
  obtain ⟨A,C,j,n,i⟩:=YB o;have k:Va owner r.L 0=(A.length:Int):=by rw [j,X2 i 0 n,jb]
  have i1:A.length<r.L.length:=by rw [j];simp
  rw [k];have er:Xg r owner=({ r with L:=r.L.take A.length++r.L.drop (A.length + 1) },0):=by
   unfold Xg;rw [o];dsimp only;rw [j,ZpF,ZbY i n]
  rw [er] at hK;refine Br.d (λ z=>by omega) (λ z=>?_);have p:=h.cap;have e:=W7 hl;refine Zj (Sat R' [pts q (ZD r sg sl s),VC.tru]) a (λ w a=>a.restTru2) λ w a=>?_;refine Zb.mk rfl ⟨s,oS,by omega,by omega,Zb.mk rfl ⟨s,oS,?_⟩⟩;rw [Zc];have e1:((A.length:Int) + 1).toNat=A.length + 1:=by omega
  rw [e1];refine ⟨by omega,by omega,?_⟩;refine Za a λ b5 w a=>⟨a.drop.restTru2,?_⟩;refine Xd (b:=b5) (ys:=(XT r.L ts).take A.length) elH a (Vv ⟨_,underlying177⟩ a (h.hs.rows.take (h:=A.length) (by omega) s.cap) (ZcC _ (ZbL _ _))) (h.hs.rows.wid.take) (by rw [qd];omega) (by rw [qd];omega) λ c w a=>⟨a.drop.restTru2,?_⟩;have y:=h.hs.rows.sub (l:=A.length + 1) (h:=s.len) (m:=s.cap) (by omega) (by omega) (by omega);rw [qg (show (XT r.L ts).length<=s.len by omega)] at y;refine ZY (ys:=(XT r.L ts).drop (A.length + 1)) elH a (Vv ⟨_,underlying177⟩ a y (ZcE _ (ZbL _ _))) (h.hs.rows.wid.drop) (by simp only [qd,qx];omega) (by simp only [qd,qx];omega) λ t w a=>⟨a.drop.restTru2,Zb.mk rfl ?_⟩;have a:=back _ _ a.swap;have a:=a.m5.m4.m4;refine sRu a λ w a=>?_;have a:=a.re (pts q (ZD r sg sl t));refine hK _ (Sat.rf.2 ⟨sg,sl,t,ts.take A.length++ts.drop (A.length + 1),by simp;omega,?_⟩);have a:=a.b4.b5.b3;rw [<-Zmz hl i1] at a;refine a.cons λ _ h=>h.cons λ _ h=>h.cons λ _ h=>h.cons λ _ h=>YM.del hl i1 ?_;exact h.cons λ _ h=>h.drop
def RO.setSeats {q:Nat} {r:RF} {sg sl s:Sl} {ts:List Sl} {A C:List Zw} {hd:Zw} {t:Sl} {l:List Int} {K:xE} (hl:ts.length=r.L.length) (o:r.L=A++hd::C)
  (d:Sat R (RO q r sg sl s ts (Zv t (Zd l)::Hs)) w) (k:∀ w',Sat R (WJ q { r with L:=A++{ hd with seats:=l }::C }::Hs) w'->K w'):
  Rng (A.length:Int) s.len (Zb s.a λ a=>∃ w',((Instr.storeAt 30 (xP ((some (nO (a.add (YQ (A.length:Int).toNat 4)) 3)))) (.slice t.a t.len t.cap)).run prog w=.ok () w')/\K w'):=by
 have i1:A.length<r.L.length:=by rw [o];simp
 have i2:A.length<ts.length:=by omega
 have i:r.L[A.length]=hd:=by simp [o]
 have d:=d.m3.m4.b5;have d:Sat R (Zn 4 s 197 ((r.L.zip ts).map λ x=>Zdl x.1 x.2)::Zv sg (Zd r.grps)::Zv sl (Zd r.lims)::pts q (ZD r sg sl s)::Zv t (Zd l)::YM r.L ts::Hs) w:=d;have hz:A.length<(r.L.zip ts).length:=by rw [List.length_zip];omega
 refine (Zn.readsM (n:=4) (s:=s) (T:=197) (rows:=(r.L.zip ts).map λ x=>Zdl x.1 x.2) d (eqS d)).rngM (E:=r.L.zip ts) (g:=λ x=>Zdl x.1 x.2) hz λ a v _=>?_;refine Zn.storeM (n:=4) (s:=s) (T:=197) (E:=r.L.zip ts) (g:=λ x=>Zdl x.1 x.2) 3 ({ hd with seats:=l },t) d v hz (by kernel_rfl) rfl (by simp [Value.cells]) ?_ λ w d=>k w ?_
 ·rw [List.getElem_zip,i];rfl
 ·rw [<-Zey] at d
  have u:r.L.set A.length { hd with seats:=l }=A++{ hd with seats:=l }::C:=by rw [o];exact ZrG
  rw [<-u];refine Sat.rf.2 ⟨sg,sl,s,ts.set A.length t,by simp [hl],?_⟩;have d:Sat R (Zn 4 s 197 (XT (r.L.set A.length { hd with seats:=l }) (ts.set A.length t))::Zv sg (Zd r.grps)::Zv sl (Zd r.lims)::pts q (ZD r sg sl s)::Zv t (Zd l)::YM r.L ts::Hs) w:=d;have d:=d.b3;exact d.cons λ _ h=>h.cons λ _ h=>h.cons λ _ h=>h.cons λ _ h=>YM.set (h:={ hd with seats:=l }) hl i1 h
def Zh5 {q:Nat} {r:RF} {owner:Int} {lab:ByteArray} (k:r.L.length<=1000000) (Q:r.grps.length<=1000) (f:∀ x∈r.L,x.seats.length<=1000) (o:Sat R (WJ q r::Hs) w):
  Zg prog 119 #[nP q,nI owner,xZ lab] w λ v w'=>v=nI (ZR r owner lab).2/\Sat R (WJ q (ZR r owner lab).1::Hs) w':=by
 apply Zuc
 suffices H:∀ K:Value->xE,(∀ w',Sat R (WJ q (ZR r owner lab).1::Hs) w'->K (nI (ZR r owner lab).2) w')->B119 (some ⟨q,0,none⟩) owner lab K w from H _ λ w' h=>⟨rfl,h⟩
 intro K hK;obtain ⟨sg,sl,s,ts,R',U,h,o,back,hl⟩:=Sat.rfO o;have same:∀ {w},Sat R' (pts q (ZD r sg sl s)::Hs) w->Sat R (WJ q r::Hs) w:=λ o=>Sat.rf.2 ⟨sg,sl,s,ts,hl,back _ _ o⟩;refine (W5 h k o).use ?_;clear o;rintro _ w ⟨rfl,o⟩;refine ⟨_,rfl,Zb.mk rfl ⟨r.rows,sg,oA o,?_⟩⟩;refine (ZkQ (h.grps.ro) o).use ?_;clear o;rintro _ w ⟨rfl,o⟩;refine ⟨_,_,rfl,?_⟩;cases u:Wc owner r.L with
 |none=>
  rw [show ZR r owner lab=(r,2) by unfold ZR;rw [u]] at hK;refine ⟨λ _=>False,Br.d (λ y=>hK _ (same o)) (λ y=>?_),λ _ _ J=>absurd J id⟩;rw [Wn 0 u] at y;omega
 |some hd=>
  obtain ⟨A,C,j,G,z⟩:=YB u;have b:Va owner r.L 0=(A.length:Int):=by rw [j,X2 z 0 G,jb]
  have V:=f hd (by rw [j];simp);obtain ⟨t,W,M,c,row⟩:=h.row j;have m:RoI R' t hd.seats:=c.ro;have D:=m.len;have er:ZR r owner lab=if (YG r.rows r.grps lab).2≠0 then (r,2) else if (hd.seats.length:Int) >= hd.many then (r,7)
   else if (YG r.rows r.grps lab).1∈Zz r.L then (r,3) else ({ r with L:=A++hd.put (YG r.rows r.grps lab).1::C },0):=by
   unfold ZR;rw [u];dsimp only;rw [show ZkA owner (hd.put (YG r.rows r.grps lab).1) r.L=A++hd.put (YG r.rows r.grps lab).1::C by rw [j];exact V9 z G]
  rw [er] at hK;rw [b];generalize (YG r.rows r.grps lab).1=n at *;refine ⟨λ w=>(YG r.rows r.grps lab).2=0/\Sat R' (pts q (ZD r sg sl s)::Hs) w,Br.d (λ y=>by omega) (λ _=>Br.ne (λ y=>?_) (λ y=>⟨y,o⟩)),?_⟩
  ·rw [qf y] at hK;exact hK _ (same o)
  clear o;rintro _ w ⟨y,o⟩;rw [qc (by rw [y];simp)] at hK;refine Zi o λ w o=>?_;refine Zb.mk rfl ⟨s,oS,row (i:=3) Wk rfl λ a _ p=>⟨t,p,Zb.mk rfl ⟨s,oS,row (i:=2) Wk rfl λ a _ p=>⟨hd.many,p,?_⟩⟩⟩⟩;rw [D];refine Br.d (λ E=>?_) (λ E=>?_)
  ·rw [qf E] at hK;exact hK _ (same o)
  rw [qc E] at hK;refine (Zck h k f o).use ?_;clear o;rintro _ w ⟨tk,rfl,o⟩;have N:=UP f;obtain ⟨X,F,I,o,g⟩:=Own.lendI o (by omega);refine ⟨tk,rfl,(ZjS F o).use ?_⟩;clear o;rintro _ w ⟨rfl,o⟩;have o:=(g o).drop;refine ⟨_,rfl,Br.d (λ e=>?_) (λ e=>?_)⟩
  ·rw [qf e] at hK;exact hK _ (same o)
  rw [qc e] at hK;refine Zi o λ w o=>?_;refine Zb.mk rfl ⟨s,oS,Zb.mk rfl ⟨s,oS,row (i:=3) Wk rfl λ a _ p=>⟨t,p,?_⟩⟩⟩;refine (Zmv m (by omega) (λ O=>e (WC.2 ⟨hd,by rw [j];simp,O⟩)) o).use ?_;clear o;rintro _ w ⟨t2,rfl,o⟩;refine ⟨t2,rfl,o.drop,?_⟩;have o:=back _ _ o.swap;refine RO.setSeats (q:=q) (r:=r) (sg:=sg) (sl:=sl) (s:=s) (ts:=ts) (l:=Up n hd.seats) hl j (Hs:=Hs) ?_ hK;have o:=o.m5;exact (Own.reads o).arr
def Zid {q:Nat} {r:RF} {owner:Int} (p:r.L.length<=1000000) (hg:r.grps.length<=1000) (G:∀ x∈r.L,x.seats.length<=1000) (o:Sat R (WJ q r::Hs) w):
  Zg prog 120 #[nP q,nI owner] w λ v w'=>∃ t:Sl,v=.tuple #[.slice t.a t.len t.cap,nI (ZQ r owner).2.2]/\Sat R (Own t 9 ((ZQ r owner).2.1.map Value.string)::WJ q (ZQ r owner).1::Hs) w':=by
 apply Zub
 suffices H:∀ K:Value->xE,(∀ (t:Sl) w',Sat R (Own t 9 ((ZQ r owner).2.1.map Value.string)::WJ q (ZQ r owner).1::Hs) w'->K (.tuple #[.slice t.a t.len t.cap,nI (ZQ r owner).2.2]) w')->B120 (some ⟨q,0,none⟩) owner K w from H _ λ t w' h=>⟨t,rfl,h⟩
 intro K hK;obtain ⟨sg,sl,s,ts,R',ee,h,o,back,hl⟩:=Sat.rfO o;have same:∀ {w},Sat R' (pts q (ZD r sg sl s)::Hs) w->Sat R (Own ⟨none,0,0⟩ 9 []::WJ q r::Hs) w:=λ o=>Own.nil (Sat.rf.2 ⟨sg,sl,s,ts,hl,back _ _ o⟩);refine (W5 h p o).use ?_;clear o;rintro _ w ⟨rfl,o⟩;refine ⟨_,rfl,?_⟩;cases u:Wc owner r.L with
 |none=>
  rw [show ZQ r owner=(r,[],2) by unfold ZQ;rw [u]] at hK;refine Br.d (λ f=>hK _ _ (same o)) (λ f=>?_);rw [Wn 0 u] at f;omega
 |some hd=>
  obtain ⟨A,C,c,Y,y⟩:=YB u;have I:Va owner r.L 0=(A.length:Int):=by rw [c,X2 y 0 Y,jb]
  have hx:=G hd (by rw [c];simp);obtain ⟨t,it,B,J,row⟩:=h.row c;have M:RoI R' t hd.seats:=J.ro;have N:=M.len;have D:=h.grps.ro (R:=R') (by rw [qa];omega);rw [I];refine Br.d (λ f=>by omega) (λ _=>Zb.mk rfl ⟨s,oA o,row (i:=3) (eqS o) rfl λ a _ O=>⟨t,O,?_⟩⟩);rw [N];refine Br.d (λ f=>?_) (λ f=>?_)
  ·rw [show ZQ r owner=(r,[],7) by unfold ZQ;rw [u];dsimp only;rw [qf (by omega)]] at hK
   exact hK _ _ (same o)
  have er:ZQ r owner=if (Z8 r.rows r.grps (Zz r.L) hd.many).2=0 then ({ r with L:=A++{ hd with seats:=(Z8 r.rows r.grps (Zz r.L) hd.many).1 }::C },XD r.rows r.grps (Z8 r.rows r.grps (Zz r.L) hd.many).1,0) else (r,[],(Z8 r.rows r.grps (Zz r.L) hd.many).2):=by
   unfold ZQ;rw [u];dsimp only;rw [qc (by omega),show ZkA owner { hd with seats:=(Z8 r.rows r.grps (Zz r.L) hd.many).1 } r.L=A++{ hd with seats:=(Z8 r.rows r.grps (Zz r.L) hd.many).1 }::C by rw [c];exact V9 y Y]
  rw [er] at hK;refine Zj (Sat R' [pts q (ZD r sg sl s),VC.tru]) o (λ w o=>o.restTru2) λ w o=>?_;refine Zb.mk rfl ⟨r.rows,sg,oS,Zb.mk rfl ⟨s,oS,row (i:=2) Wk rfl λ a _ O=>⟨hd.many,O,?_⟩⟩⟩;refine (Zck h p G o).use ?_;clear o;rintro _ w ⟨tk,rfl,o⟩;have Q:=UP G;refine ⟨tk,rfl,o.drop.restTru2,?_⟩;obtain ⟨R2,U,E,o,k⟩:=Own.lendI o (by omega);refine (ZkU (E _ _ D) U o).use ?_;clear o;rintro _ w ⟨tb,rfl,o⟩;have o:=(k o).drop;have T:=Zkf (n:=r.rows) (g:=r.grps) (taken:=Zz r.L) (many:=hd.many);generalize Z8 r.rows r.grps (Zz r.L) hd.many=bt at *;refine ⟨_,_,rfl,o.drop.restTru2,Br.ne (λ V=>?_) (λ V=>?_)⟩
  ·rw [qc V] at hK;exact hK _ _ (same o.drop)
  rw [qf V] at hK;obtain ⟨W,S,ht,o⟩:=Zv.leak o;have m:RoI W tb bt.1:=ht.ro;have Q:=m.len;refine ⟨λ out i w=>∃ j:Nat,i=j/\j<=bt.1.length/\Sat W (Own out 9 ((XD r.rows r.grps (bt.1.take j)).map Value.string)::pts q (ZD r sg sl s)::Hs) w,λ _ i _=>bt.1.length - i.toNat,⟨0,rfl,by omega,Own.nil o⟩,?_⟩;clear o;rintro _ out _ w ⟨j,rfl,hj,o⟩;refine Br.d (λ P=>?_) (λ P=>?_)
  ·have F:j<bt.1.length:=by omega
   refine Zi o λ w o=>?_;refine Zb.mk rfl ⟨r.rows,sg,oS,?_⟩;refine Ro.ix m Wk j rfl F ?_;refine (GC (S.ro D) o).use ?_;clear o;rintro _ w ⟨rfl,o⟩;have z:(XD r.rows r.grps (bt.1.take j)).length=j:=by unfold XD;rw [qa,qd];omega
   refine ⟨_,_,rfl,?_⟩;refine Wz Zsa o (Za2 _) rfl (by rw [qa,z];omega) (by rw [qa,z];omega) λ t w o=>?_;rw [Zc];refine ⟨⟨j + 1,by omega,by omega,?_⟩,by dsimp only;omega⟩;have e:(XD r.rows r.grps (bt.1.take (j + 1))).map Value.string=(XD r.rows r.grps (bt.1.take j)).map Value.string++[xZ (Zfe r.rows r.grps bt.1[j]).1]:=by
    unfold XD;rw [qp,List.getElem?_eq_getElem F,q9,qe,qe];rfl
   rw [e];exact o
  ·rw [qg (by omega)] at o
   refine Zj (Sat W [pts q (ZD r sg sl s),VC.tru]) o (λ w o=>o.drop.restTru2) λ w o=>?_;refine Zb.mk rfl ⟨s,oS,?_⟩;refine Za o λ b5 w o=>⟨o.drop.drop.restTru2,?_⟩;refine Zbx (b:=b5) Zdn o (Zmg underlying30 o m (ZcD _)) (by rw [qa];omega) (by rw [qa];omega) λ tn w o=>⟨o.drop.drop.restTru2,?_⟩;have o:=S.back o;have o:=o.m2;have o:=back _ _ o;refine RO.setSeats (q:=q) (r:=r) (sg:=sg) (sl:=sl) (s:=s) (ts:=ts) (l:=bt.1) hl c (Hs:=Own out 9 ((XD r.rows r.grps bt.1).map Value.string)::Hs) ?_ λ w' X=>hK _ _ X.swap;have o:=o.m5;exact (Own.reads o).arr
end
section
open Go Go.VC Tryz
variable {R:Cx} {Hs Rest:List HP} {w:World}
def ZcK:Nat->Int->Rd->List Int × Rd
 |0,_,r=>([],r)
 |k + 1,most,r=>((Zh most r).1::(ZcK k most (Zh most r).2).1,(ZcK k most (Zh most r).2).2)
def Zg2:∀ (k:Nat) (most:Int) (r:Rd),(ZcK k most r).1.length=k
 |0,_,_=>rfl
 |k + 1,most,r=>by show (_::(ZcK k most (Zh most r).2).1).length=_;rw [qr,Zg2 k]
def ZjG:∀ (k:Nat) (most:Int) {r:Rd},(∀ x∈r.bs,0<=x/\x<256)->∀ x∈(ZcK k most r).2.bs,0<=x/\x<256
 |0,_,_,h=>h
 |k + 1,most,_,h=>ZjG k most (Zo h)
def Zg1:∀ (k:Nat) {most:Int} {r:Rd},0<=most->(∀ x∈r.bs,0<=x/\x<256)->∀ x∈(ZcK k most r).1,0<=x/\x<=most
 |0,_,_,_,_=>by simp [ZcK]
 |k + 1,most,r,hm,h=>λ x a=>by
  rcases qk.1 a with rfl|a
  ·exact ZG h hm
  ·exact Zg1 k hm (Zo h) x a
def ZcL (most each:Int) (r:Rd):List Int × Rd:=ZcK (Zh most r).1.toNat each (Zh most r).2
def Ze5 {most each:Int} {r:Rd} (h:∀ x∈r.bs,0<=x/\x<256):∀ x∈(ZcL most each r).2.bs,0<=x/\x<256:=ZjG _ _ (Zo h)
def Znk {most each:Int} {r:Rd} (h:∀ x∈r.bs,0<=x/\x<256) (hm:0<=most) (a:0<=each):(∀ x∈(ZcL most each r).1,0<=x/\x<=each)/\((ZcL most each r).1.length:Int)<=most:=by
 refine ⟨Zg1 _ a (Zo h),?_⟩;unfold ZcL;rw [Zg2];have:=ZG h hm;omega
def Zl5 (f:PF) (o n:Int):PF:=
 match ZL o f.hs with
 |none=>f
 |some h=>{ f with hs:=Zbm o (h.put n) f.hs,own:=Gl n h.owner f.own }
def Zh9 (o N:Int):List Int->Int->PF->PF × Bool
 |[],_,f=>(f,true)
 |n::l,last,f=>if (ZL n f.own).isSome then (f,false) else if n<=last then (f,false) else if n >= N then (f,false) else Zh9 o N l n (Zl5 f o n)
def ZkR (o N n last:Int) (l:List Int) (f:PF):Zh9 o N (n::l) last f=if (ZL n f.own).isSome then (f,false) else if n<=last then (f,false) else if n >= N then (f,false) else Zh9 o N l n (Zl5 f o n):=rfl
def UT (f:PF) (h:Zw):PF × Bool:=
 if (Uq f h.owner h.cls h.many).2≠0 then ((Uq f h.owner h.cls h.many).1,false)
 else if (h.seats.length:Int)>h.many then ((Uq f h.owner h.cls h.many).1,false)
 else Zh9 h.owner (YN f.rows f.grps) h.seats (-1) (Uq f h.owner h.cls h.many).1
def ZaX (rd:Rd):Zw × Rd:=
 (⟨(Zh 28629151 rd).1,(Zh 8 (Zh 28629151 rd).2).1,(Zh 600 (Zh 8 (Zh 28629151 rd).2).2).1,(ZcL 600 600 (Zh 600 (Zh 8 (Zh 28629151 rd).2).2).2).1⟩,(ZcL 600 600 (Zh 600 (Zh 8 (Zh 28629151 rd).2).2).2).2)
def G9:Nat->Rd->List Zw × Rd
 |0,rd=>([],rd)
 |k + 1,rd=>((ZaX rd).1::(G9 k (ZaX rd).2).1,(G9 k (ZaX rd).2).2)
def Zpl {rd:Rd} (h:∀ x∈rd.bs,0<=x/\x<256):∀ x∈(ZaX rd).2.bs,0<=x/\x<256:=Ze5 (Zo (Zo (Zo h)))
structure ZbA (h:Zw):Prop where
 o:0<=h.owner/\h.owner<=28629151
 c:0<=h.cls/\h.cls<=8
 m:0<=h.many/\h.many<=600
 s:∀ x∈h.seats,0<=x/\x<=600
 n:h.seats.length<=600
def ZmK {rd:Rd} (h:∀ x∈rd.bs,0<=x/\x<256):ZbA (ZaX rd).1:=by
 have a:=Zo (most:=28629151) h;have d:=Zo (most:=8) a;have o:=Zo (most:=600) d;have hl:=Znk (most:=600) (each:=600) o (by omega) (by omega);exact ⟨ZG h (by omega),ZG a (by omega),ZG d (by omega),hl.1,by have:=hl.2;show (ZcL _ _ _).1.length<=600;omega⟩
def ZdZ:∀ (k:Nat) {rd:Rd},(∀ x∈rd.bs,0<=x/\x<256)->(∀ h∈(G9 k rd).1,ZbA h)/\(G9 k rd).1.length=k
 |0,_,_=>⟨λ h d=>(by cases d),rfl⟩
 |k + 1,rd,h=>by
  obtain ⟨o,i⟩:=ZdZ k (Zpl h);refine ⟨λ x a=>?_,by show ((ZaX rd).1::_).length=_;rw [qr,i]⟩;have a:x∈(ZaX rd).1::(G9 k (ZaX rd).2).1:=a;rcases qk.1 a with rfl|a
  ·exact ZmK h
  ·exact o x a
abbrev PS:=PF × Bool × Int
def Zmd (x:PS) (h:Zw):PS:=if x.2.1=true/\h.owner>x.2.2 then ((UT x.1 h).1,(UT x.1 h).2,h.owner) else (x.1,false,h.owner)
def ZpW (num rows:Int) (grps lims:List Int):Bool:=decide (num>0) && (VK rows grps && (Yc lims (List.replicate lims.length 0) && (lims.getD 0 0==YN rows grps)))
structure Raw where
 num:Int
 rows:Int
 grps:List Int
 lims:List Int
 L:List Zw
 rd:Rd
def Zqn (bs:List Int):Raw:=
 let a:=Zh 9999 ⟨bs,false⟩
 let b:=Zh 60 a.2
 let g:=ZcL 4 10 b.2
 let l:=ZcL 8 10000 g.2
 let n:=Zh 600 l.2
 let x:=G9 n.1.toNat n.2
 ⟨a.1,b.1,g.1,l.1,x.1,x.2⟩
def Raw.run (x:Raw):PS:=x.L.foldl Zmd (UF x.num x.rows x.grps x.lims,ZpW x.num x.rows x.grps x.lims,0)
def decF (bs:List Int):Option PF:=if Xw (Zqn bs).rd=true/\(Zqn bs).run.2.1=true then some (Zqn bs).run.1 else none
structure KeepF (f f':PF):Prop where
 lims:f'.lims=f.lims
 grps:f'.grps=f.grps
 rows:f'.rows=f.rows
 num:f'.num=f.num
 sold:f'.sold.length=f.sold.length
abbrev emH:Obj:=YO ⟨0,0,0,[]⟩ ⟨none,0,0⟩
end
section
open Go Go.VC Tryz
variable {R R':Cx} {Hs Rest:List HP} {w:World}
def WA (x:Int) (l:List Int):Zf (x::l)=Zf [x]++Zf l:=by rw [show x::l=[x]++l from rfl,Vd]
def WL (r:RF):List Int:=ZqD r.num r.rows r.grps r.lims r.L
structure ZqV (r:RF):Prop where
 num:0<=r.num/\r.num<9223372036854775808
 rows:0<=r.rows/\r.rows<9223372036854775808
 grps:VH r.grps
 lims:VH r.lims
 gl:r.grps.length<=1000
 ll:r.lims.length<=1000
 hs:∀ h∈r.L,ZbB h
 hl:r.L.length<=10000
def ZbO {b n:Nat} {xs:List Int} (y:n=xs.length) (o:VH xs) (hl:xs.length<=100) (h:Sat R (pts b (.cells (xs.map (Value.int .i64)).toArray 3 (0,0))::Hs) w):
  Zg prog 138 #[.slice (some ⟨b,0,none⟩) n n] w λ v w'=>∃ t:Sl,v=.slice t.a t.len t.cap/\Sat R (Own t 5 (b8 (Zf xs))::Hs) w':=by
 have h:=YL (n:=n) h (by rw [qa];exact y);obtain ⟨z,i,u,h,d⟩:=Own.lendI h (by omega);refine (WV (s:=⟨some ⟨b,0,none⟩,n,n⟩) o (by omega) i h).u1 λ t w h=>?_;exact ⟨_,rfl,t,rfl,(d h).drop⟩
def ZeU {q:Nat} {r:RF} (g:ZqV r) (u:Sat R (WJ q r::Hs) w):
  Zg prog 69 #[nP q] w λ v w'=>∃ t:Sl,v=.slice t.a t.len t.cap/\Sat R (Own t 5 (b8 (WL r))::WJ q r::Hs) w':=by
 obtain ⟨sg,sl,s,ts,R',e,h,u,back,hl⟩:=Sat.rfO u;have A:=h.len;have:=g.gl;have:=g.ll;have:=g.hl;have D:=h.grps.ro (R:=R') (by rw [qa];omega);have E:=h.lims.ro (R:=R') (by rw [qa];omega);have F:sg.len=r.grps.length:=by have:=h.grps.len;rwa [qa] at this
 have G:sl.len=r.lims.length:=by have:=h.lims.len;rwa [qa] at this
 have u3:VH [r.num,r.rows,(r.grps.length:Int)]:=by intro y k;have:=g.num;have:=g.rows;simp at k;omega
 have u1:VH [(r.lims.length:Int)]:=by intro y k;simp at k;omega
 have u2:VH [(r.L.length:Int)]:=by intro y k;simp at k;omega
 have n3:=Zx (Y9 u3);have ng:=Zx (Y9 g.grps);have n1:=Zx (Y9 u1);have nl:=Zx (Y9 g.lims);have n2:=Zx (Y9 u2);have l:Zf [r.num,r.rows,(r.grps.length:Int)]++Zf r.grps++Zf [(r.lims.length:Int)]++Zf r.lims++Zf [(r.L.length:Int)]++Yi r.L=WL r:=by
  unfold WL ZqD Vr;rw [show [r.num,r.rows,(r.grps.length:Int)]=[r.num,r.rows]++[(r.grps.length:Int)] from rfl,Vd]
  simp only [qn]
 simp only [qr,qN] at n3 n1 n2;apply ZvG;refine Zj (Sat R' [pts q (ZD r sg sl s),VC.tru]) u (λ w u=>u.restTru2) λ w u=>?_;refine Zb.mk rfl ⟨r.num,by rw [Zs];exact oS,Zb.mk rfl ⟨r.rows,oS,Zb.mk rfl ⟨sg,oS,?_⟩⟩⟩;rw [F];refine Za u λ b w u=>⟨u.drop.restTru2,?_⟩;have u:Sat R' (pts b (.cells ([r.num,r.rows,(r.grps.length:Int)].map (Value.int .i64)).toArray 3 (0,0))::pts q (ZD r sg sl s)::Hs) w:=u;refine (ZbO (n:=3) (by rfl) u3 (by simp) u).use ?_;clear u;rintro _ w ⟨t1,rfl,u⟩;refine ⟨t1,rfl,u.drop.restTru2,Zb.mk rfl ⟨sg,oA u,?_⟩⟩;refine (WV g.grps (by omega) D u).use ?_;clear u;rintro _ w ⟨t2,rfl,u⟩;refine ⟨t2,rfl,?_⟩;refine YI ZbX (s:=t1) (n:=1099511627790) underlying47 u.swap (by omega) (by omega) (by omega) λ H w u=>?_;have u:Sat R' (Own H 5 (b8 (Zf [r.num,r.rows,(r.grps.length:Int)]++Zf r.grps))::pts q (ZD r sg sl s)::Hs) w:=u.swap.drop;refine Zb.mk rfl ⟨sl,oA u,?_⟩;rw [G];refine Za u λ b w u=>?_;have u:Sat R' (pts b (.cells ([(r.lims.length:Int)].map (Value.int .i64)).toArray 3 (0,0))::Own H 5 (b8 (Zf [r.num,r.rows,(r.grps.length:Int)]++Zf r.grps))::pts q (ZD r sg sl s)::Hs) w:=u;refine (ZbO (n:=1) (by rfl) u1 (by simp) u).use ?_;clear u;rintro _ w ⟨V,rfl,u⟩;refine ⟨V,rfl,?_⟩;refine YI ZbX (s:=H) (n:=1099511627790) underlying47 u.swap (by rw [qb];omega) (by omega) (by omega) λ O w u=>?_;have u:Sat R' (Own O 5 (b8 (Zf [r.num,r.rows,(r.grps.length:Int)]++Zf r.grps++Zf [(r.lims.length:Int)]))::pts q (ZD r sg sl s)::Hs) w:=u.swap.drop;refine Zb.mk rfl ⟨sl,oA u,?_⟩;refine (WV g.lims (by omega) E u).use ?_;clear u;rintro _ w ⟨W,rfl,u⟩;refine ⟨W,rfl,?_⟩;refine YI ZbX (s:=O) (n:=1099511627790) underlying47 u.swap (by rw [qb,qb];omega) (by omega) (by omega) λ I w u=>?_;have u:Sat R' (Own I 5 (b8 (Zf [r.num,r.rows,(r.grps.length:Int)]++Zf r.grps++Zf [(r.lims.length:Int)]++Zf r.lims))::pts q (ZD r sg sl s)::Hs) w:=u.swap.drop;refine Zb.mk rfl ⟨s,oA u,?_⟩;rw [A];refine Za u λ b w u=>?_;have u:Sat R' (pts b (.cells ([(r.L.length:Int)].map (Value.int .i64)).toArray 3 (0,0))::Own I 5 (b8 (Zf [r.num,r.rows,(r.grps.length:Int)]++Zf r.grps++Zf [(r.lims.length:Int)]++Zf r.lims))::pts q (ZD r sg sl s)::Hs) w:=u;refine (ZbO (n:=1) (by rfl) u2 (by simp) u).use ?_;clear u;rintro _ w ⟨X,rfl,u⟩;refine ⟨X,rfl,?_⟩;refine YI ZbX (s:=I) (n:=1099511627790) underlying47 u.swap (by rw [qb,qb,qb];omega) (by omega) (by omega) λ Y w u=>?_;have u:Sat R' (Own Y 5 (b8 (Zf [r.num,r.rows,(r.grps.length:Int)]++Zf r.grps++Zf [(r.lims.length:Int)]++Zf r.lims++Zf [(r.L.length:Int)]))::pts q (ZD r sg sl s)::Hs) w:=u.swap.drop;have hb:(Zf [r.num,r.rows,(r.grps.length:Int)]++Zf r.grps++Zf [(r.lims.length:Int)]++Zf r.lims++Zf [(r.L.length:Int)]).length<=20000:=by simp only [qb];omega
 generalize Zf [r.num,r.rows,(r.grps.length:Int)]++Zf r.grps++Zf [(r.lims.length:Int)]++Zf r.lims++Zf [(r.L.length:Int)]=pre at *;have S:=h.hs.len;refine ⟨λ out i w=>∃ j:Nat,i=j/\j<=r.L.length/\Sat R' (Own out 5 (b8 (pre++Yi (r.L.take j)))::pts q (ZD r sg sl s)::Hs) w,λ _ i _=>r.L.length - i.toNat,⟨0,rfl,by omega,by rw [show pre++Yi (r.L.take 0)=pre by simp [Yi]];exact u⟩,?_⟩;clear u;rintro _ out _ w ⟨j,rfl,hj,u⟩;refine Zb.mk rfl ⟨s,oA u,Br.d (λ Q=>?_) (λ Q=>?_)⟩
 ·have j1:j<r.L.length:=by omega
  have j2:j<ts.length:=by omega
  have z:=g.hs r.L[j] (qh _);have C:(Yi (r.L.take j)).length<=9036 * 10000:=by
   have:=U3 (L:=r.L.take j) λ x B=>g.hs x (qw B);rw [qd] at this;have:min j r.L.length<=10000:=by omega
   omega
  have T:=z.n;have u4:VH [r.L[j].owner,r.L[j].cls,r.L[j].many,(r.L[j].seats.length:Int)]:=by
   intro y k;have Q:=z.o;have h2:=z.c;have h3:=z.m;simp at k;omega
  have n4:=Zx (Y9 u4);simp only [qr,qN] at n4;have ns:=Zx (Y9 z.s);have p:RoI R' ts[j] r.L[j].seats:=(h.hs.seats j j1 j2).ro;have J:=p.len;refine Zb.mk rfl ⟨s,oA u,?_⟩;refine h.hs.row (eqS u) j1 j2 λ a P=>⟨r.L[j].owner,r.L[j].cls,r.L[j].many,ts[j],P,?_⟩;refine Za u λ f w u=>?_;have u:Sat R' (pts f emH::Own out 5 (b8 (pre++Yi (r.L.take j)))::pts q (ZD r sg sl s)::Hs) w:=u;refine sRu u λ w u=>?_;have u:=u.re (pts f (YO r.L[j] ts[j]));refine ⟨r.L[j].owner,oA u,r.L[j].cls,oA u,r.L[j].many,oA u,ts[j],oA u,?_⟩;rw [J];refine Za u λ K w u=>?_;have u:Sat R' (pts K (.cells ([r.L[j].owner,r.L[j].cls,r.L[j].many,(r.L[j].seats.length:Int)].map (Value.int .i64)).toArray 3 (0,0))::pts f (YO r.L[j] ts[j])::Own out 5 (b8 (pre++Yi (r.L.take j)))::pts q (ZD r sg sl s)::Hs) w:=u;refine (ZbO (n:=4) (by rfl) u4 (by simp) u).use ?_;clear u;rintro _ w ⟨U,rfl,u⟩;refine ⟨U,rfl,?_⟩;have u:=u.m2;refine YI ZbX (s:=out) (n:=1099511627790) underlying47 u (by rw [qb];omega) (by omega) (by omega) λ M w u=>?_;refine ⟨ts[j],oA u,?_⟩;refine (WV z.s (by omega) p u).use ?_;clear u;rintro _ w ⟨N,rfl,u⟩;refine ⟨N,rfl,?_⟩;have u:Sat R' (Own M 5 (b8 (pre++Yi (r.L.take j)++Zf [r.L[j].owner,r.L[j].cls,r.L[j].many,(r.L[j].seats.length:Int)]))::Own N 5 (b8 (Zf r.L[j].seats))::pts q (ZD r sg sl s)::Hs) w:=by
   have h5:Sat R' (Own U 5 (b8 (Zf [r.L[j].owner,r.L[j].cls,r.L[j].many,(r.L[j].seats.length:Int)]))::pts f (YO r.L[j] ts[j])::Own M 5 (b8 (pre++Yi (r.L.take j)++Zf [r.L[j].owner,r.L[j].cls,r.L[j].many,(r.L[j].seats.length:Int)]))::Own N 5 (b8 (Zf r.L[j].seats))::pts q (ZD r sg sl s)::Hs) w:=u.arr;exact h5.drop.drop
  refine YI ZbX (s:=M) (n:=1099511627790) underlying47 u (by rw [qb,qb];omega) (by omega) (by omega) λ s6 w u=>?_;rw [Zc];refine ⟨⟨j + 1,by omega,by omega,?_⟩,by dsimp only;omega⟩;have eB:pre++Yi (r.L.take (j + 1))=pre++Yi (r.L.take j)++Zf [r.L[j].owner,r.L[j].cls,r.L[j].many,(r.L[j].seats.length:Int)]++Zf r.L[j].seats:=by
   rw [ZcW j1];unfold UB Vr;rw [show [r.L[j].owner,r.L[j].cls,r.L[j].many,(r.L[j].seats.length:Int)]=[r.L[j].owner,r.L[j].cls,r.L[j].many]++[(r.L[j].seats.length:Int)] from rfl,Vd [r.L[j].owner,r.L[j].cls,r.L[j].many]]
   simp only [qn]
  rw [eB];exact u.swap.drop
 ·rw [qg (by omega),l] at u
  refine ⟨out,rfl,?_⟩;exact (Sat.rf.2 ⟨sg,sl,s,ts,hl,back _ _ u.swap⟩:Sat R (WJ q r::Own out 5 (b8 (WL r))::Hs) w).swap
structure Zyi (r:RF) (j:Nat) (hj:j<r.L.length):Prop where
 o:1<=r.L[j].owner
 p:∀ h:0<j,r.L[j - 1].owner<r.L[j].owner
 c:r.L[j].cls<r.lims.length
 m:1<=r.L[j].many
 n:(r.L[j].seats.length:Int)<=r.L[j].many
 s:∀ k (hk:k<r.L[j].seats.length),r.L[j].seats[k] ∉ Zz (r.L.take j)++r.L[j].seats.take k/\r.L[j].seats[k]<YN r.rows r.grps/\∀ h:0<k,r.L[j].seats[k - 1]<r.L[j].seats[k]
structure Zyj (r:RF):Prop where
 num:1<=r.num
 lay:VK r.rows r.grps=true
 lim:Zah r.lims=true
 l0:r.lims.getD 0 0=YN r.rows r.grps
 each:∀ j (hj:j<r.L.length),Zyi r j hj
 nest:Yc r.lims r.sold=true
def Raw.rf (x:Raw):RF:=⟨x.num,x.rows,x.grps,x.lims,x.L⟩
end
section
open Go Go.VC Tryz
def Ze3 {lim sold:List Int} {c many:Int} (a:Yc lim sold=true) (d:0<=c) (o:c<lim.length) (y:1<=many) (m1:many<=10000) (h:Yc lim (sold.set c.toNat (sold.getD c.toNat 0 + many))=true):(YP lim sold c many).2=0:=by
 obtain ⟨z,g,j⟩:=ZP.1 a;obtain ⟨_,_,i⟩:=ZP.1 h;have hl:Xb lim sold c=(mnF (VI lim sold) (c.toNat + 1),0):=by unfold Xb;rw [qf ⟨a,d,o⟩]
 have hm:=ZjI (VI lim sold) (c.toNat + 1);have u:many<=mnF (VI lim sold) (c.toNat + 1):=by
  rcases hm.2.2 with e|⟨k,_,hk,e⟩
  ·omega
  ·rw [e]
   have v:=UD (sold:=sold) (c:=c.toNat) (m:=many) (by omega) (lim.length - k) k (by omega);rw [qf (by omega)] at v;have:=(i k (by omega)).2;unfold VI;omega
 unfold YP;rw [hl];dsimp only;rw [qc (by omega),qc (by omega)]
variable {f:PF} {r:RF}
def Zpc {A C:List Zw} {h:Zw} {n:Int} (t:Tie f r) (g:Y5 r) (o:r.L=A++h::C) (u:Wc h.owner A=none) (v:n ∉ Zz r.L) (y:0<=n/\n<YN r.rows r.grps) (hm:(h.seats.length:Int)<h.many):
  Tie (Zl5 f h.owner n) { r with L:=A++h.put n::C }/\Y5 { r with L:=A++h.put n::C }:=by
 have z:=g.each h (by rw [o];simp);have j:ZL h.owner f.hs=some h:=by rw [t.get g.rise,o];exact Zfq rfl u
 have e:Zl5 f h.owner n={ f with hs:=Zbm h.owner (h.put n) f.hs,own:=Gl n h.owner f.own }:=by unfold Zl5;rw [j]
 rw [e];have i:n ∉ h.seats:=λ e=>v (WC.2 ⟨h,by rw [o];simp,e⟩);have hs:∀ x∈(h.put n).seats,x∈h.seats\/(x ∉ Zz r.L/\0<=x/\x<YN r.rows r.grps):=λ x a=>by
  rcases Wu.1 a with rfl|a
  ·exact .inr ⟨v,y⟩
  ·exact .inl a
 refine ⟨ZhU (h':=h.put n) t g o u rfl rfl rfl (λ x a=>(hs x a).imp id (·.1)) (Za0 t.nod) λ x=>?_,Zfn (h':=h.put n) g o rfl rfl rfl ?_ ?_ hs⟩
 ·rw [Zc0]
  show _=if x∈Up n h.seats then some h.owner else _
  by_cases a:x=n
  ·rw [qf a,qf (Wu.2 (.inl a))]
  ·rw [qc a]
   by_cases d:x∈h.seats
   ·rw [qf (Wu.2 (.inr d))]
    exact (t.own x h.owner).2 ⟨h,by rw [o];simp,rfl,d⟩
   ·rw [qc (λ e=>(Wu.1 e).elim a d),qc d]
 ·exact G8.2 (ZiE (G8.1 z.rise) i)
 ·show ((Up n h.seats).length:Int)<=_
  rw [ZbR];omega
def SOk (N:Int) (T:List Int):List Int->Int->Prop
 |[],_=>True
 |n::l,last=>n ∉ T/\last<n/\n<N/\SOk N T l n
def ZhW (P:List Zw) (h:Zw):Zz (P++[h])=Zz P++h.seats:=by simp [Zz]
def Zl2 {P:List Zw} {h:Zw}:∀ (l acc:List Int) (last:Int) {f:PF} {r:RF},Tie f r->Y5 r->r.L=P++[{ h with seats:=acc }]->(acc.length + l.length:Int)<=h.many->(∀ x∈acc,x<=last)->-1<=last->
  ((Zh9 h.owner (YN r.rows r.grps) l last f).2=true↔SOk (YN r.rows r.grps) (Zz P) l last)/\
  ((Zh9 h.owner (YN r.rows r.grps) l last f).2=true->Tie (Zh9 h.owner (YN r.rows r.grps) l last f).1 { r with L:=P++[{ h with seats:=acc++l }] }/\Y5 { r with L:=P++[{ h with seats:=acc++l }] })
 |[],acc,last,f,r,t,g,i,_,_,_=>by
  refine ⟨⟨λ _=>trivial,λ _=>rfl⟩,λ _=>?_⟩;rw [jl,<-i];exact ⟨t,g⟩
 |n::l,acc,last,f,r,t,g,i,hm,a,hlast=>by
  rw [ZkR];have u:Wc h.owner P=none:=by
   have m:=g.rise;rw [i] at m;refine Vh.2 λ x d e=>?_;have:=(ji.1 m).2.2 x d _ (qK.2 rfl);dsimp only at this;omega
  have v:Zz r.L=Zz P++acc:=by rw [i,ZhW]
  rw [qr] at hm;show _/\_;by_cases j:(ZL n f.own).isSome=true
  ·rw [qf j]
   refine ⟨⟨λ e=>(by cases e),λ e=>?_⟩,λ e=>by cases e⟩;have o:=(t.taken n).1 j;rw [v] at o;rcases qt.1 o with o|o
   ·exact absurd o e.1
   ·have:=a n o;have:=e.2.1;omega
  rw [qc j];have y:n ∉ Zz r.L:=λ e=>j ((t.taken n).2 e);by_cases o:n<=last
  ·rw [qf o]
   exact ⟨⟨λ e=>(by cases e),λ e=>by have:=e.2.1;omega⟩,λ e=>by cases e⟩
  rw [qc o];by_cases p:n >= YN r.rows r.grps
  ·rw [qf p]
   exact ⟨⟨λ e=>(by cases e),λ e=>by have:=e.2.2.1;omega⟩,λ e=>by cases e⟩
  rw [qc p];have k:r.L=P++{ h with seats:=acc }::[]:=i;have z:Up n acc=acc++[n]:=ZbS λ x d=>by have:=a x d;omega
  obtain ⟨t2,q⟩:=Zpc (h:={ h with seats:=acc }) t g k u y ⟨by omega,by omega⟩ (by show (acc.length:Int)<h.many;omega);have e2:(Zw.put { h with seats:=acc } n)={ h with seats:=acc++[n] }:=by unfold Zw.put;rw [z]
  rw [e2] at t2 q;have ih:=Zl2 l (acc++[n]) n t2 q rfl (by rw [qb];simp;omega) (λ x d=>by
   rcases qt.1 d with d|d
   ·have:=a x d;omega
   ·rw [qK.1 d];exact qG _) (by omega)
  refine ⟨ih.1.trans ⟨λ e=>⟨λ b=>y (by rw [v];exact ui _ b),by omega,by omega,e⟩,λ e=>e.2.2.2⟩,λ e=>?_⟩;have s:=ih.2 e;rw [qn] at s;exact s
def ZjR {h:Zw}:∀ {P:List Zw},(∀ x∈P,x.owner<h.owner)->ZcU h P=P++[h]
 |[],_=>rfl
 |x::P,a=>by
  unfold ZcU;rw [qf (a x qq),ZjR λ y d=>a y (qj _ d)];rfl
structure Zym (r:RF) (h:Zw):Prop where
 c:h.cls<r.lims.length
 m:1<=h.many
 n:(h.seats.length:Int)<=h.many
 s:SOk (YN r.rows r.grps) (Zz r.L) h.seats (-1)
 nest:Yc r.lims (Ya r.lims.length (r.L++[h]))=true
def Zb4 {h:Zw} (t:Tie f r) (g:Y5 r) (a:ZbA h) (G:1<=h.owner) (d:∀ x∈r.L,x.owner<h.owner):
  ((UT f h).2=true↔Zym r h)/\((UT f h).2=true->Tie (UT f h).1 { r with L:=r.L++[h] }/\Y5 { r with L:=r.L++[h] }):=by
 obtain ⟨t1,t2,j⟩:=ZeI t g h.owner h.cls h.many;have y:¬ (Wc h.owner r.L).isSome=true:=by
  rw [Vh.2 λ x z e=>by have:=d x z;omega];simp
 have b:=a.o;have er:Zy r h.owner h.cls h.many=if (YP r.lims r.sold h.cls h.many).2=0 then ({ r with L:=ZcU ⟨h.owner,h.cls,h.many,[]⟩ r.L },0) else (r,(YP r.lims r.sold h.cls h.many).2):=by
  unfold Zy;rw [qc (by omega),qc y]
 have i:ZcU ⟨h.owner,h.cls,h.many,[]⟩ r.L=r.L++[⟨h.owner,h.cls,h.many,[]⟩]:=ZjR d;have u:∀ {L:List Zw},h.cls<r.lims.length->r.sold.set h.cls.toNat (r.sold.getD h.cls.toNat 0 + h.many)=Ya r.lims.length (r.L++[h]):=λ A=>Ur (v8) a.c.1 A;unfold UT;rw [t1,er];by_cases hs:(YP r.lims r.sold h.cls h.many).2=0
 ·rw [qf hs]
  rw [er,qf hs,i] at t2 j;obtain ⟨D,k,H,l,hm⟩:=ZcH hs;rw [D,u (L:=r.L) l] at k;rw [qc (by simp)];by_cases p:(h.seats.length:Int)>h.many
  ·rw [qf p]
   exact ⟨⟨λ e=>(by cases e),λ e=>by have:=e.n;omega⟩,λ e=>by cases e⟩
  rw [qc p];have v:YN f.rows f.grps=YN r.rows r.grps:=by rw [t.rows,t.grps]
  rw [v];obtain ⟨E,F⟩:=Zl2 (P:=r.L) (h:=h) h.seats [] (-1) t2 j rfl (by simp;omega) (λ x z=>by cases z) (by omega);refine ⟨E.trans ⟨λ e=>⟨l,hm,by omega,e,k⟩,λ e=>e.s⟩,λ e=>?_⟩;have q:=F e;rw [jr] at q;exact q
 ·rw [qc hs,qf hs]
  refine ⟨⟨λ e=>(by cases e),λ e=>?_⟩,λ e=>by cases e⟩;exact absurd (Ze3 g.nest a.c.1 e.c e.m (by have:=a.m.2;omega) (by rw [u (L:=r.L) e.c];exact e.nest)) hs
def Zhq {num rows:Int} {grps lims:List Int}:ZpW num rows grps lims=true↔1<=num/\VK rows grps=true/\Zah lims=true/\lims.getD 0 0=YN rows grps:=by
 unfold ZpW;simp only [ql,qV,jh];constructor
 ·rintro ⟨o,h,a,d⟩
  exact ⟨by omega,h,(ZP.1 a).1,d⟩
 ·rintro ⟨o,h,a,d⟩
  exact ⟨by omega,h,ZcG a,d⟩
def Zmi {N:Int} {T:List Int}:∀ {l:List Int} {last:Int},SOk N T l last↔∀ k (hk:k<l.length),l[k] ∉ T/\l[k]<N/\(if h:0<k then l[k - 1]<l[k] else last<l[k])
 |[],_=>by simp [SOk]
 |n::l,last=>by
  unfold SOk;rw [Zmi (l:=l) (last:=n)];constructor
  ·rintro ⟨i,u,v,y⟩ k hk
   rcases k with _|k
   ·exact ⟨i,v,u⟩
   ·have a:=y k (by simpa using hk)
    refine ⟨a.1,a.2.1,?_⟩;rw [uK (by omega)];have d:=a.2.2;rcases k with _|k
    ·exact d
    ·rw [uK (by omega)] at d;exact d
  ·intro h
   have o:=h 0 (by simp);refine ⟨o.1,o.2.2,o.2.1,λ k hk=>?_⟩;have a:=h (k + 1) (by simpa using hk);refine ⟨a.1,a.2.1,?_⟩;have d:=a.2.2;rw [uK (by omega)] at d;rcases k with _|k
   ·exact d
   ·rw [uK (by omega)];exact d
structure ZoT (x:Raw):Prop where
 num:x.num<=9999
 hs:∀ h∈x.L,ZbA h
def Raw.at (x:Raw) (j:Nat):PS:=(x.L.take j).foldl Zmd (UF x.num x.rows x.grps x.lims,ZpW x.num x.rows x.grps x.lims,0)
def Raw.pre (x:Raw) (j:Nat):RF:=⟨x.num,x.rows,x.grps,x.lims,x.L.take j⟩
def Ziy (x:Raw) (j:Nat):Int:=if h:0<j/\j<=x.L.length then x.L[j - 1].owner else 0
def ZoO {x:Raw} {j:Nat} (h:j<x.L.length):x.at (j + 1)=Zmd (x.at j) x.L[j]:=by
 unfold Raw.at;rw [qp,List.getElem?_eq_getElem h,vM];rfl
def Zqr {L:List Zw} {o:Int} (h:OwR L):∀ (hl:0<L.length),L[L.length - 1].owner<o->∀ x∈L,x.owner<o:=λ hl a x d=>by
 obtain ⟨i,hi,rfl⟩:=je d;by_cases e:i=L.length - 1
 ·subst e;exact a
 ·have:=jU.1 h i (L.length - 1) hi (by omega) (by omega)
  omega
def ZjE {x:Raw} (f:ZoT x) {j:Nat} (hj:j<x.L.length) (G:∀ y∈x.L.take j,y.owner<x.L[j].owner):
  Zyi x.rf j hj↔(1<=x.L[j].owner/\(∀ h:0<j,x.L[j - 1].owner<x.L[j].owner)/\x.L[j].cls<x.lims.length/\1<=x.L[j].many/\(x.L[j].seats.length:Int)<=x.L[j].many/\SOk (YN x.rows x.grps) (Zz (x.L.take j)) x.L[j].seats (-1)):=by
 have v:=f.hs x.L[j] (qh _);rw [Zmi];constructor
 ·intro h
  refine ⟨h.o,h.p,h.c,h.m,h.n,λ k hk=>?_⟩;have u:=h.s k hk;refine ⟨λ hm=>u.1 (ui _ hm),u.2.1,?_⟩;split
  ·exact u.2.2 (by assumption)
  ·have:=v.s x.L[j].seats[k] (qh _);omega
 ·rintro ⟨u,b,A,D,E,l⟩
  refine ⟨u,b,A,D,E,λ k hk=>?_⟩;have z:=l k hk;have a:∀ (t i:Nat) (hi:i + t<x.L[j].seats.length),0<t->x.L[j].seats[i]'(by omega)<x.L[j].seats[i + t]:=λ t=>by
   induction t with
   |zero=>intro i hi q;omega
   |succ t ih=>
    intro i hi _;have d:=(l (i + (t + 1)) hi).2.2;rw [uK (by omega)] at d;by_cases ht:t=0
    ·subst ht;exact d
    ·have r:=ih i (by omega) (by omega)
     have d:x.L[j].seats[i + t]'(by omega)<x.L[j].seats[i + (t + 1)]:=d;omega
  refine ⟨λ hm=>?_,z.2.1,λ q=>by have d:=z.2.2;rw [uK q] at d;exact d⟩;rcases qt.1 hm with hm|hm
  ·exact z.1 hm
  ·obtain ⟨i,hi,g⟩:=je hm
   rw [qd] at hi;rw [jJ] at g;have F:k<x.L[j].seats.length:=hk;have hi:i<min k x.L[j].seats.length:=hi;have g:x.L[j].seats[i]'(by omega)=x.L[j].seats[k]:=g;have r:=a (k - i) i (by omega) (by omega);have e:i + (k - i)=k:=by omega
   simp only [e] at r;omega
def Zi5 {x:Raw} (z:ZoT x):∀ j,j<=x.L.length->(x.at j).2.2=Ziy x j/\((x.at j).2.1=true->Tie (x.at j).1 (x.pre j)/\Y5 (x.pre j)/\∀ i (hi:i<x.L.length),i<j->Zyi x.rf i hi)
 |0,_=>by
  refine ⟨rfl,λ h=>?_⟩;obtain ⟨F,a,q,G⟩:=Zhq.1 h;refine ⟨Zl3,⟨⟨F,z.num⟩,a,?_,G,ju,λ h H=>(by cases H),ju⟩,λ i _ hi=>by omega⟩;show Yc _ (Ya _ [])=true;rw [G0];exact ZcG q
 |j + 1,hj=>by
  have d:j<x.L.length:=by omega
  obtain ⟨I,J⟩:=Zi5 z j (by omega);have u:Ziy x (j + 1)=x.L[j].owner:=by unfold Ziy;rw [uK ⟨by omega,hj⟩];rfl
  rw [ZoO d,u];unfold Zmd;by_cases v:(x.at j).2.1=true/\x.L[j].owner>(x.at j).2.2
  ·rw [qf v]
   refine ⟨rfl,λ h=>?_⟩;obtain ⟨t,g,r⟩:=J v.1;rw [I] at v;have f:=z.hs x.L[j] (qh _);have k:∀ y∈(x.pre j).L,y.owner<x.L[j].owner:=λ y b=>by
    have A:0<(x.pre j).L.length:=ve.2 λ e=>by rw [e] at b;cases b
    refine Zqr g.rise A ?_ y b;have hl:(x.pre j).L.length=j:=by show (x.L.take j).length=j;rw [qd];omega
    have a:=v.2;unfold Ziy at a;rw [uK ⟨by omega,by omega⟩] at a;have q:(x.pre j).L[(x.pre j).L.length - 1]=x.L[j - 1]:=by
     show (x.L.take j)[(x.L.take j).length - 1]'(by rw [qd];omega)=_;rw [jJ]
     congr 1
     rw [qd];omega
    rw [q];exact a
   have l:1<=x.L[j].owner:=by
    have a:=v.2;unfold Ziy at a;split at a
    ·have:=(z.hs x.L[j - 1] (qh _)).o;omega
    ·omega
   obtain ⟨M,N⟩:=Zb4 t g f l k;have e:{ x.pre j with L:=(x.pre j).L++[x.L[j]] }=x.pre (j + 1):=by
    unfold Raw.pre;rw [qp,List.getElem?_eq_getElem d];rfl
   have D:=N h;rw [e] at D;refine ⟨D.1,D.2,λ i hi O=>?_⟩;by_cases E:i=j
   ·subst E
    have p:=M.1 h;refine (ZjE z d k).2 ⟨l,λ Q=>?_,p.c,p.m,p.n,p.s⟩;have a:=v.2;unfold Ziy at a;rw [uK ⟨by omega,by omega⟩] at a;exact a
   ·exact r i hi (by omega)
  ·rw [qc v]
   exact ⟨rfl,λ h=>by cases h⟩
def Zqu {x:Raw} (z:ZoT x) (m:Zyj x.rf):∀ j,j<=x.L.length->(x.at j).2.1=true
 |0,_=>Zhq.2 ⟨m.num,m.lay,m.lim,m.l0⟩
 |j + 1,hj=>by
  have a:j<x.L.length:=by omega
  have ih:=Zqu z m j (by omega);obtain ⟨s,f⟩:=Zi5 z j (by omega);obtain ⟨t,g,b⟩:=f ih;have n:=z.hs x.L[j] (qh _);have ok:=m.each j a;rw [ZoO a];have q:x.L[j].owner>(x.at j).2.2:=by
   rw [s];unfold Ziy;split
   ·rename_i h;exact ok.p h.1
   ·have:=ok.o;show 0<x.L[j].owner;exact this
  have u:∀ y∈(x.pre j).L,y.owner<x.L[j].owner:=λ y d=>by
   have r:0<(x.pre j).L.length:=ve.2 λ e=>by rw [e] at d;cases d
   refine Zqr g.rise r ?_ y d;have hl:(x.pre j).L.length=j:=by show (x.L.take j).length=j;rw [qd];omega
   have c:(x.pre j).L[(x.pre j).L.length - 1]=x.L[j - 1]:=by
    show (x.L.take j)[(x.L.take j).length - 1]'(by rw [qd];omega)=_;rw [jJ]
    congr 1
    rw [qd];omega
   rw [c];exact ok.p (by omega)
  unfold Zmd;rw [qf ⟨ih,q⟩];refine (Zb4 t g n ok.o u).1.2 ?_;have l:=(ZjE z a u).1 ok;refine ⟨l.2.2.1,l.2.2.2.1,l.2.2.2.2.1,l.2.2.2.2.2,?_⟩;have e:(x.pre j).L++[x.L[j]]=x.L.take (j + 1):=by
   show x.L.take j++_=_;rw [qp,List.getElem?_eq_getElem a];rfl
  rw [e];show Yc x.lims (Ya x.lims.length (x.L.take (j + 1)))=true;refine Zni m.nest (by show (Ya _ _).length=(Ya _ _).length;rw [YX,YX];rfl) λ k hk=>?_;have hk:k<x.lims.length:=hk;show 0<=(Ya x.lims.length (x.L.take (j + 1))).getD k 0/\(Ya x.lims.length (x.L.take (j + 1))).getD k 0<=(Ya x.lims.length x.L).getD k 0;rw [XX hk,XX hk];have v:∀ y∈x.L,1<=y.many:=λ y d=>by
   obtain ⟨i,hi,rfl⟩:=je d;exact (m.each i hi).m
  refine ⟨Zde λ y d=>v y (qw d),?_⟩;have A:Gq (k:Int) x.L=Gq (k:Int) (x.L.take (j + 1)) + Gq (k:Int) (x.L.drop (j + 1)):=by rw [<-Gc,qD]
  have D:=Zde (k:=(k:Int)) (L:=x.L.drop (j + 1)) λ y d=>v y (jn d);omega
def ZuO (x:Raw):x.run=x.at x.L.length/\x.rf=x.pre x.L.length:=by
 constructor
 ·unfold Raw.run Raw.at;rw [jz]
 ·unfold Raw.rf Raw.pre;rw [jz]
def Zrc {x:Raw} (o:ZoT x):(x.run.2.1=true↔Zyj x.rf)/\(x.run.2.1=true->Tie x.run.1 x.rf/\Y5 x.rf):=by
 obtain ⟨i,u⟩:=ZuO x;have h:=(Zi5 o x.L.length (jc _)).2;rw [<-i,<-u] at h;refine ⟨⟨λ a=>?_,λ m=>by rw [i];exact Zqu o m _ (jc _)⟩,λ a=>⟨(h a).1,(h a).2.1⟩⟩;obtain ⟨t,g,d⟩:=h a;exact ⟨g.num.1,g.lay,(ZP.1 g.nest).1,g.l0,λ j hj=>d j hj hj,g.nest⟩
def Zri {bs:List Int} (a:∀ y∈bs,0<=y/\y<256):ZoT (Zqn bs):=by
 have h:∀ y∈(⟨bs,false⟩:Rd).bs,0<=y/\y<256:=a;have d:=Zo (most:=600) (Ze5 (most:=8) (each:=10000) (Ze5 (most:=4) (each:=10) (Zo (most:=60) (Zo (most:=9999) h))));exact ⟨(ZG (most:=9999) h (by omega)).2,(ZdZ _ d).1⟩
end
section
open Go Go.VC Tryz
def ZkT {n:Nat} {most:Int} {rest:List Int} (h:n<18446744073709551616) (hm:(n:Int)<=most):Zh most ⟨GS n++rest,false⟩=((n:Int),⟨rest,false⟩):=by
 unfold Zh;rw [qc (by simp)];dsimp only;rw [ZgV h];dsimp only;rw [qf ⟨rfl,hm⟩,vX]
def Yz {x most:Int} {rest:List Int} (h:0<=x) (a:x<=most) (d:x<18446744073709551616):Zh most ⟨Zf [x]++rest,false⟩=(x,⟨rest,false⟩):=by
 obtain ⟨n,rfl⟩:=qs h;have e:Zf [(n:Int)]=GS n:=by simp [Zf]
 rw [e];exact ZkT (by omega) a
def Zd9 {each:Int} (d:each<18446744073709551616) {rest:List Int}:∀ {l:List Int},(∀ x∈l,0<=x/\x<=each)->ZcK l.length each ⟨Zf l++rest,false⟩=(l,⟨rest,false⟩)
 |[],_=>rfl
 |x::l,h=>by
  have a:=h x qq;rw [WA,qn];show ((Zh each _).1::(ZcK l.length each (Zh each _).2).1,(ZcK l.length each (Zh each _).2).2)=_;rw [Yz a.1 a.2 (by omega)];dsimp only;rw [Zd9 d λ y o=>h y (qj _ o)]
def Za3 {most each:Int} (a:each<18446744073709551616) {rest l:List Int} (hl:(l.length:Int)<=most) (hm:most<18446744073709551616) (h:∀ x∈l,0<=x/\x<=each):ZcL most each ⟨Vr l++rest,false⟩=(l,⟨rest,false⟩):=by
 unfold ZcL Vr;rw [qn,Yz (by omega) hl (by omega)];exact Zd9 a h
def ZkS {h:Zw} (a:ZbA h) (rest:List Int):ZaX ⟨UB h++rest,false⟩=(h,⟨rest,false⟩):=by
 have e:UB h++rest=Zf [h.owner]++(Zf [h.cls]++(Zf [h.many]++(Vr h.seats++rest))):=by
  unfold UB;rw [WA h.owner,WA h.cls];simp only [qn]
 have:=a.o;have:=a.c;have:=a.m;have:=a.n;unfold ZaX;rw [e,Yz (by omega) (by omega) (by omega)];dsimp only;rw [Yz (by omega) (by omega) (by omega)];dsimp only;rw [Yz (by omega) (by omega) (by omega)];dsimp only;rw [Za3 (by omega) (by omega) (by omega) a.s]
def Zbr {rest:List Int}:∀ {L:List Zw},(∀ h∈L,ZbA h)->G9 L.length ⟨Yi L++rest,false⟩=(L,⟨rest,false⟩)
 |[],_=>rfl
 |h::L,a=>by
  have e:Yi (h::L)++rest=UB h++(Yi L++rest):=by simp [Yi]
  rw [e];show ((ZaX _).1::(G9 L.length (ZaX _).2).1,(G9 L.length (ZaX _).2).2)=_;rw [ZkS (a h qq)];dsimp only;rw [Zbr λ x d=>a x (qj _ d)]
variable {f:PF} {r:RF}
def Zfo (g:Y5 r):∀ h∈r.L,ZbA h:=λ h d=>by
 have a:=g.each h d;have i:=g.len.2 h d;have u:=(Yu.1 (ZP.1 g.nest).1).1.2;have v:=(Wq r.rows r.grps).2;have:=a.owner;have:=a.cls;have:=a.many;have:=a.few;exact ⟨by omega,by omega,by omega,λ x o=>by have:=a.seats x o;omega,by omega⟩
def WE (g:Y5 r):(∀ x∈r.lims,0<=x/\x<=10000)/\1<=r.lims.length/\r.lims.length<=8:=by
 obtain ⟨h,a⟩:=Yu.1 (ZP.1 g.nest).1;refine ⟨λ x d=>?_,h⟩;obtain ⟨i,hi,rfl⟩:=je d;exact (a i hi).1
def Zpm (g:Y5 r):Zqn (WL r)=⟨r.num,r.rows,r.grps,r.lims,r.L,⟨[],false⟩⟩:=by
 obtain ⟨i,d,u⟩:=Z7.1 g.lay;obtain ⟨m1,m2,m3⟩:=WE g;have h:=g.len.1;have a:=g.num;have e:WL r=Zf [r.num]++(Zf [r.rows]++(Vr r.grps++(Vr r.lims++(Zf [(r.L.length:Int)]++(Yi r.L++[]))))):=by
  unfold WL ZqD;rw [WA r.num];simp only [qn,jl]
 unfold Zqn;rw [e];dsimp only;rw [Yz (by omega) (by omega) (by omega)];dsimp only;rw [Yz (by omega) (by omega) (by omega)];dsimp only;rw [Za3 (by omega) (by omega) (by omega) (λ x o=>by have:=d x o;omega)];dsimp only;rw [Za3 (by omega) (by omega) (by omega) m1];dsimp only;rw [Yz (by omega) (by omega) (by omega)];dsimp only;rw [show ((r.L.length:Int)).toNat=r.L.length from rfl,Zbr (Zfo g)]
def ZpQ (g:Y5 r):Zyj r:=by
 refine ⟨g.num.1,g.lay,(ZP.1 g.nest).1,g.l0,λ j hj=>?_,g.nest⟩;have h:=g.each r.L[j] (qh _);refine ⟨h.owner.1,λ d=>jU.1 g.rise (j - 1) j (by omega) hj (by omega),h.cls.2,h.many,h.few,λ k hk=>⟨λ hm=>?_,(h.seats _ (qh _)).2,λ d=>h.rise (k - 1) k hk (by omega)⟩⟩;rcases qt.1 hm with hm|hm
 ·obtain ⟨x,o,a⟩:=WC.1 hm
  obtain ⟨i,hi,rfl⟩:=je o;rw [qd] at hi;rw [jJ] at a;exact jU.1 g.apart i j (by omega) hj (by omega) _ a (qh _)
 ·obtain ⟨i,hi,u⟩:=je hm
  rw [qd] at hi;rw [jJ] at u;have:=h.rise i k hk (by omega);omega
def U5 (g:Y5 r):ZqV r:=by
 obtain ⟨z,v,j⟩:=Z7.1 g.lay;obtain ⟨m1,m2,m3⟩:=WE g;have i:=g.len.1;have u:=g.num;refine ⟨by omega,by omega,λ x d=>by have:=v x d;omega,λ x d=>by have:=m1 x d;omega,by omega,by omega,λ h y=>?_,by omega⟩;have a:=Zfo g h y;have:=a.o;have:=a.c;have:=a.m;have:=a.n;exact ⟨by omega,by omega,by omega,λ x d=>by have:=a.s x d;omega,by omega⟩
def Zl1 (t:Tie f r) (g:Y5 r):ZqY f:=by
 have s:=U5 g;have b:=t.bounds g;refine ⟨by rw [t.num];exact s.num,by rw [t.rows];exact s.rows,by rw [t.grps];exact s.grps,by rw [t.lims];exact s.lims,by omega,by omega,by rw [Zf8 t g.rise];exact s.hs,by omega⟩
def Zq7 (t:Tie f r) (g:Y5 r):ZuE f=WL r:=by
 unfold ZuE WL;rw [t.num,t.rows,t.grps,t.lims,Zf8 t g.rise]
def Zrg (g:Y5 r):(∀ y∈WL r,0<=y/\y<256)/\(WL r).length<=6000000:=by
 have s:=U5 g;obtain ⟨i,u,v⟩:=Z7.1 g.lay;obtain ⟨m1,m2,m3⟩:=WE g;have a:=g.len.1;have u2:VH [r.num,r.rows]:=by intro y h;have:=s.num;have:=s.rows;simp at h;omega
 have u1:VH [(r.L.length:Int)]:=by intro y h;simp at h;omega
 constructor
 ·intro y h
  unfold WL ZqD at h;simp only [qt] at h;rcases h with (((h|h)|h)|h)|h
  ·exact WX (Y9 u2) y h
  ·exact Zfc s.grps (by omega) y h
  ·exact Zfc s.lims (by omega) y h
  ·exact WX (Y9 u1) y h
  ·exact Zhi s.hs y h
 ·have d:=Zx (Y9 u2)
  have z:=WD s.grps (by omega);have j:=WD s.lims (by omega);have o:=Zx (Y9 u1);have k:=U3 s.hs;simp only [qr,qN] at d o;unfold WL ZqD;simp only [qb];omega
def Zc9 (g:Y5 r):∃ f',decF (WL r)=some f'/\Tie f' r:=by
 have e:=Zpm g;have i:Xw (Zqn (WL r)).rd=true:=by rw [e];rfl
 have h:(Zqn (WL r)).rf=r:=by rw [e];rfl
 obtain ⟨a,d⟩:=Zrc (Zri (Zrg g).1);rw [h] at a d;have o:=a.2 (ZpQ g);exact ⟨_,by unfold decF;rw [qf ⟨i,o⟩],(d o).1⟩
end
section
open Go Go.VC Tryz
def ZW {α:Type} (one:Rd->α × Rd):Nat->Rd->List α × Rd
 |0,r=>([],r)
 |n + 1,r=>((one r).1::(ZW one n (one r).2).1,(ZW one n (one r).2).2)
def Zcu {α:Type} (one:Rd->α × Rd) (n:Nat) (r:Rd):ZW one (n + 1) r=((one r).1::(ZW one n (one r).2).1,(ZW one n (one r).2).2):=rfl
def XB {α:Type} (one:Rd->α × Rd):∀ (n:Nat) (r:Rd),(ZW one n r).1.length=n
 |0,_=>rfl
 |n + 1,r=>by rw [Zcu,qr,XB one n]
def W8 {α:Type} (one:Rd->α × Rd):∀ (k:Nat) (r:Rd),ZW one (k + 1) r=((ZW one k r).1++[(one (ZW one k r).2).1],(one (ZW one k r).2).2)
 |0,_=>rfl
 |k + 1,r=>by
  rw [Zcu,W8 one k (one r).2];rfl
def XZ {α:Type} {one:Rd->α × Rd} {P:Rd->Prop} {Q:α->Prop} (h:∀ r,P r->Q (one r).1/\P (one r).2):∀ (n:Nat) {r:Rd},P r->(∀ x∈(ZW one n r).1,Q x)/\P (ZW one n r).2
 |0,_,d=>⟨λ _ a=>(by cases a),d⟩
 |n + 1,r,d=>by
  have o:=h r d;have i:=XZ h n o.2;refine ⟨λ x a=>?_,i.2⟩;rcases qk.1 a with rfl|a
  ·exact o.1
  ·exact i.1 x a
def ZV (l:List Int):Prop:=∀ x∈l,0<=x/\x<256
def Xq (most:Int) (r:Rd):ByteArray × Rd:=(VC.strOf (Yn most r).1,(Yn most r).2)
def Xm (r:Rd):Nat × Rd:=(ofF (Zh 18446744073709551615 r).1.toNat,(Zh 18446744073709551615 r).2)
def ZhZ (s:ByteArray):List Int:=XI (ZE s)
def Zx7 (x:Nat):List Int:=GS (ZnD x)
def Zib {d rest:List Int} {most:Int} (hl:d.length<1000000) (hm:(d.length:Int)<=most):Yn most ⟨XI d++rest,false⟩=(d,⟨rest,false⟩):=by
 unfold Yn XI;rw [qc (by simp)];dsimp only;rw [qn,ZgV (by omega)];dsimp only;have h:=YS (n:=d.length) (by omega);rw [qf ⟨rfl,by omega,hm,by simp only [qb];omega⟩,vX,qo,List.take_left,<-jE,vX,vX]
def Vu {most:Int} {rd:Rd} (h:ZV rd.bs):ZV (Xq most rd).2.bs:=(ZgK h).2
def ZdG (l:List Int):(VC.strOf l).size=l.length:=by
 show (l.map λ n=>UInt8.ofNat n.toNat).toArray.size=_;rw [vP,qa]
def U7 {rd:Rd} (h:ZV rd.bs):ZV (Xm rd).2.bs:=Zo h
def ZjX {rd:Rd} (h:ZV rd.bs):(Xm rd).1<18446744073709551616:=by
 have:=ZG (most:=18446744073709551615) h (by omega);exact ZxZ (by omega)
structure Cm where
 kind:Int
 pnr:ByteArray
 flt:Int
 cls:Int
 many:Int
 time:Int
 sc:Nat
 lab:ByteArray
 rows:Int
 grps:List Int
 parts:List Nat
def Vq (n:Int):Prop:=0<=n/\n<=9999
structure Z9 (c:Cm):Prop where
 flt:Vq c.flt
 cls:Vq c.cls
 many:Vq c.many
 rows:Vq c.rows
 grps:∀ n∈c.grps,Vq n
 pnr:c.pnr.size<=16
 lab:c.lab.size<=16
 gl:c.grps.length<=16
 pl:c.parts.length<=16
 kind:1<=c.kind/\c.kind<=9
 time:0<=c.time/\c.time<=1099511627776
structure FltC (c:Cm):Prop where
 sc:c.sc<18446744073709551616
 parts:∀ x∈c.parts,x<18446744073709551616
def Zsi (r:Rd):Cm × Rd:=
 let k:=Zh 9 r
 let p:=Xq 16 k.2
 let f:=Zh 9999 p.2
 let c:=Zh 9999 f.2
 let m:=Zh 9999 c.2
 let t:=Zh 1099511627776 m.2
 let s:=Xm t.2
 let l:=Xq 16 s.2
 let w:=Zh 9999 l.2
 let n:=Zh 16 w.2
 let g:=ZW (Zh 9999) n.1.toNat n.2
 let q:=Zh 16 g.2
 let x:=ZW Xm q.1.toNat q.2
 (⟨k.1,p.1,f.1,c.1,m.1,t.1,s.1,l.1,w.1,g.1,x.1⟩,x.2)
structure Rp where
 code:Int
 pnr:ByteArray
 state:Int
 flt:Int
 cls:Int
 many:Int
 time:Int
 left:List Int
 labs:List ByteArray
def nn (n:Int):Int:=max n 0
def rpB (r:Rp):List Int:=
 Zf [nn r.code]++(ZhZ r.pnr++(Zf [nn r.state]++(Zf [nn r.flt]++(Zf [nn r.cls]++(Zf [nn r.many]++(Zf [nn r.time]++(Zf [(r.left.length:Int)]++(Zf (r.left.map nn)++(Zf [(r.labs.length:Int)]++(r.labs.map ZhZ).flatten)))))))))
structure Zkh (r:Rp):Prop where
 code:0<=r.code/\r.code<=1099511627776
 pnr:r.pnr.size<=16
 state:0<=r.state/\r.state<=1099511627776
 flt:0<=r.flt/\r.flt<=1099511627776
 cls:0<=r.cls/\r.cls<=1099511627776
 many:0<=r.many/\r.many<=1099511627776
 time:0<=r.time/\r.time<=1099511627776
 ll:r.left.length<=8
 left:∀ n∈r.left,0<=n/\n<=1099511627776
 bl:r.labs.length<=600
 labs:∀ s∈r.labs,s.size<=16
def Ve {n:Int} (h:0<=n):nn n=n:=by unfold nn;omega
def ZuX {l:List Int} (h:∀ n∈l,0<=n):l.map nn=l:=by
 induction l with
 |nil=>rfl
 |cons x l ih=>rw [qi,Ve (h x (by simp)),ih λ y a=>h y (by simp [a])]
def wtB (w:Wt):List Int:=Zf [w.id]++(Zf [w.cls]++(Zf [w.many]++(Zf [w.time]++Zx7 w.sc)))
def qB (q:List Wt):List Int:=Zf [(q.length:Int)]++(q.map wtB).flatten
end
section
open Go Go.VC Tryz
variable {R R':Cx} {Hs Rest:List HP} {w:World}
def Y5.hcls {r:RF} (g:Y5 r):∀ x∈r.L,ZwB r.lims.length x:=λ x h=>by
 have a:=g.each x h;have d:=g.len.2 x h;exact ⟨a.cls,by have:=a.many;omega⟩
def Y5.hseats {r:RF} (g:Y5 r):∀ x∈r.L,x.seats.length<=1000:=λ x h=>by have:=(Zfo g x h).n;omega
def Y5.hgrps {r:RF} (g:Y5 r):r.grps.length<=1000:=by have:=(Z7.1 g.lay).1;omega
def Zn5 {n:Int} {g:List Int} {lab:ByteArray} {k:Int} (h:YG n g lab=(k,0)):0<=k/\k<YN n g:=by
 unfold YG at h;split at h
 ·rename_i hl
  obtain ⟨a,d,o⟩:=Z7.1 hl;have:=(Zfx (n:=n) (w:=g.sum) (k:=k) (lab:=lab) (by omega) (Gu d a.2.2.1) o).1 h;rw [ZcS hl];exact ⟨this.1,this.2.1⟩
 ·cases h
end
section
open Go Go.VC Tryz
variable {R R':Cx} {Hs Rest:List HP} {w:World}
def Zm (p:Nat) (r:RF):HP:=exs λ f:PF=>XS [pur (Tie f r/\Y5 r),ZI p f]
def Sat.lone {p:Nat} {r:RF}:Sat R (Zm p r::Hs) w↔∃ f,(Tie f r/\Y5 r)/\Sat R (ZI p f::Hs) w:=by
 unfold Zm;rw [Sat.exs];constructor
 ·rintro ⟨f,h⟩
  obtain ⟨a,d⟩:=Sat.pur.1 (Sat.star.1 h);exact ⟨f,a,d⟩
 ·rintro ⟨f,a,d⟩
  exact ⟨f,Sat.star.2 (Sat.pur.2 ⟨a,d⟩)⟩
section
variable {p:Nat} {r:RF}
def Zg6 {o c m:Int} (h:Sat R (Zm p r::Hs) w):Zg prog 101 #[nP p,nI o,nI c,nI m] w λ v w'=>v=nI (Zy r o c m).2/\Sat R (Zm p (Zy r o c m).1::Hs) w':=by
 obtain ⟨f,⟨t,g⟩,h⟩:=Sat.lone.1 h;have b:=t.bounds g;obtain ⟨e,t',a⟩:=ZeI t g o c m;refine (Zkp (by omega) (by omega) h).u λ w h=>?_;exact ⟨_,rfl,by rw [e],Sat.lone.2 ⟨_,⟨t',a⟩,h⟩⟩
def Zg7 {o:Int} (h:Sat R (Zm p r::Hs) w):Zg prog 104 #[nP p,nI o] w λ v w'=>v=nI (Xg r o).2/\Sat R (Zm p (Xg r o).1::Hs) w':=by
 obtain ⟨f,⟨t,g⟩,h⟩:=Sat.lone.1 h;have b:=t.bounds g;obtain ⟨e,t',a⟩:=Zjg t g o;refine (Zln (by omega) (by omega) (λ e d=>by have:=b.2.2.2.2.2.1 e d;omega) h).u λ w h=>?_;exact ⟨_,rfl,by rw [e],Sat.lone.2 ⟨_,⟨t',a⟩,h⟩⟩
def Znn {o:Int} {lab:ByteArray} (hl:lab.size<=9223372036854775807) (h:Sat R (Zm p r::Hs) w):Zg prog 106 #[nP p,nI o,xZ lab] w λ v w'=>v=nI (ZR r o lab).2/\Sat R (Zm p (ZR r o lab).1::Hs) w':=by
 obtain ⟨f,⟨t,g⟩,h⟩:=Sat.lone.1 h;have b:=t.bounds g;obtain ⟨e,t',a⟩:=Zje t g o lab λ k hk=>Zn5 hk;refine (ZkB (by omega) hl (λ e d=>by have:=b.2.2.2.2.2.1 e d;exact ⟨this.1,by omega⟩) h).u λ w h=>?_;exact ⟨_,rfl,by rw [e],Sat.lone.2 ⟨_,⟨t',a⟩,h⟩⟩
def Zno {o:Int} (d:Sat R (Zm p r::Hs) w):Zg prog 107 #[nP p,nI o] w λ v w'=>∃ t:Sl,v=.tuple #[.slice t.a t.len t.cap,nI (ZQ r o).2.2]/\Sat R (Own t 9 ((ZQ r o).2.1.map Value.string)::Zm p (ZQ r o).1::Hs) w':=by
 obtain ⟨f,⟨t,g⟩,d⟩:=Sat.lone.1 d;have b:=t.bounds g;obtain ⟨e,t',i,_⟩:=ZeJ t g o;refine (ZlG (by omega) t.nod (λ k hk=>by have:=t.ownIn g k hk;have:=Wq r.rows r.grps;omega) (by omega) d).u1 λ s w d=>?_;rw [e] at d;exact ⟨_,rfl,s,by rw [e],d.cons λ _ h=>Sat.lone.2 ⟨_,⟨t',i⟩,h⟩⟩
def Vf (d:Sat R (Zm p r::Hs) w):Zg prog 55 #[nP p] w λ v w'=>∃ t:Sl,v=.slice t.a t.len t.cap/\Sat R (Own t 3 (Zd (Zr r))::Zm p r::Hs) w':=by
 obtain ⟨f,⟨t,g⟩,d⟩:=Sat.lone.1 d;have b:=t.bounds g;refine (Zlg (by omega) (by omega) d).u1 λ s w d=>?_;rw [Zpe t] at d;exact ⟨_,rfl,s,rfl,d.cons λ _ h=>Sat.lone.2 ⟨_,⟨t,g⟩,h⟩⟩
def Ziu {o:Int} (d:Sat R (Zm p r::Hs) w):Zg prog 122 #[nP p,nI o] w λ v w'=>∃ t:Sl,v=.slice t.a t.len t.cap/\Sat R (Own t 9 ((YD r o).map Value.string)::Zm p r::Hs) w':=by
 obtain ⟨f,⟨t,g⟩,d⟩:=Sat.lone.1 d;have b:=t.bounds g;refine (Zha (by omega) (λ e i=>by have:=b.2.2.2.2.2.1 e i;omega) d).u1 λ s w d=>?_;rw [Zkn t g.rise] at d;exact ⟨_,rfl,s,rfl,d.cons λ _ h=>Sat.lone.2 ⟨_,⟨t,g⟩,h⟩⟩
def Ziv (d:Sat R (Zm p r::Hs) w):Zg prog 64 #[nP p] w λ v w'=>∃ t:Sl,v=.slice t.a t.len t.cap/\Sat R (Own t 5 (b8 (WL r))::Zm p r::Hs) w':=by
 obtain ⟨f,⟨t,g⟩,d⟩:=Sat.lone.1 d;have b:=t.bounds g;refine (Zhu (Zl1 t g) (t.nodK g.rise) (λ k hk=>by have:=b.2.2.2.2.2.2 k hk;omega) (λ e o=>by have:=b.2.2.2.2.2.1 e o;omega) d).u1 λ s w d=>?_;rw [Zq7 t g] at d;exact ⟨_,rfl,s,rfl,d.cons λ _ h=>Sat.lone.2 ⟨_,⟨t,g⟩,h⟩⟩
end
end
end Go.Proofs.YtlplemdmegpoeaaGreatDoor


namespace Go.Proofs.YtlplemdmegpoeaaGreatDoor
section
open Go Go.VC Tryz
variable {R R':Cx} {Hs Rest:List HP} {w:World}
def Zpf {r:RF} (g:Y5 r):(Zz r.L).Nodup:=by
 have key:∀ L:List Zw,(L.Pairwise λ a b=>∀ x∈a.seats,x ∉ b.seats)->(∀ h∈L,ZlO h.seats)->(Zz L).Nodup:=λ L=>by
  induction L with
  |nil=>exact λ _ _=>vS
  |cons h L ih=>
   intro i o;obtain ⟨u,v⟩:=qC.1 i;show (h.seats++Zz L).Nodup;rw [jQ];refine ⟨?_,ih v λ x z=>o x (qj _ z),λ a j b k e=>?_⟩
   ·rw [uD]
    exact (G8.1 (o h qq)).imp λ h=>by omega
   ·subst e
    obtain ⟨y,l,d⟩:=WC.1 k;exact u y l a j d
 exact key r.L g.apart λ h m=>(g.each h m).rise
def Zrb {r:RF} (g:Y5 r) {o:Int} {lab:ByteArray} (h:(ZR r o lab).2=0):∃ A hd C n,YG r.rows r.grps lab=(n,0)/\r.L=A++hd::C/\hd.owner=o/\Wc o A=none/\n ∉ Zz r.L/\ZR r o lab=({ r with L:=A++hd.put n::C },0):=by
 unfold ZR at h ⊢;cases a:Wc o r.L with
 |none=>rw [a] at h;cases h
 |some hd=>
  rw [a] at h;obtain ⟨A,C,d,i,u⟩:=YB a;dsimp only at h ⊢;split at h
  ·cases h
  rename_i v;split at h
  ·cases h
  rename_i z;split at h
  ·cases h
  rename_i y;rw [qc v,qc z,qc y];refine ⟨A,hd,C,(YG r.rows r.grps lab).1,?_,d,u,i,y,?_⟩
  ·have:(YG r.rows r.grps lab).2=0:=qI v
   rw [<-this]
  ·rw [d,V9 u i]
def Zmo {r:RF} {o:Int} {lab:ByteArray} (h:(ZR r o lab).2≠0):(ZR r o lab).1=r/\((ZR r o lab).2=2\/(ZR r o lab).2=7\/(ZR r o lab).2=3):=by
 unfold ZR at h ⊢;split at h
 ·exact ⟨rfl,.inl rfl⟩
 ·split at h
  ·rename_i a;rw [qf a];exact ⟨rfl,.inl rfl⟩
  rename_i a;rw [qc a];split at h
  ·rename_i d;rw [qf d];exact ⟨rfl,.inr (.inl rfl)⟩
  rename_i d;rw [qc d];split at h
  ·rename_i i;rw [qf i];exact ⟨rfl,.inr (.inr rfl)⟩
  ·exact absurd rfl h
def Zef {h:Zw}:∀ {L:List Zw},Wc h.owner L=none->∃ A C,ZcU h L=A++h::C/\L=A++C/\Wc h.owner A=none
 |[],_=>⟨[],[],rfl,rfl,rfl⟩
 |x::L,a=>by
  rw [Yv] at a;split at a
  ·cases a
  rename_i d;unfold ZcU;split
  ·obtain ⟨A,C,o,i,u⟩:=Zef a
   exact ⟨x::A,C,by rw [o];rfl,by rw [i];rfl,by rw [Yv,qc d];exact u⟩
  ·exact ⟨[],x::L,rfl,rfl,rfl⟩
def Zl8 {r:RF} {o c m:Int} (h:(Zy r o c m).2=0):∃ A C,Zy r o c m=({ r with L:=A++⟨o,c,m,[]⟩::C },0)/\r.L=A++C/\Wc o A=none:=by
 unfold Zy at h ⊢;split at h
 ·cases h
 rename_i u;split at h
 ·cases h
 rename_i a;rw [qc u,qc a];split at h
 ·rename_i d
  rw [qf d];have i:Wc o r.L=none:=by cases e:Wc o r.L with|none=>rfl|some x=>rw [e] at a;simp at a
  obtain ⟨A,C,v,y,z⟩:=Zef (h:=⟨o,c,m,[]⟩) i;exact ⟨A,C,by rw [v],y,z⟩
 ·rename_i d;exact absurd h d
def ZhX {r:RF} {o c m:Int} (h:(Zy r o c m).2≠0):(Zy r o c m).1=r:=by
 unfold Zy at h ⊢;split at h
 ·rename_i a;rw [qf a]
 rename_i a;rw [qc a];split at h
 ·rename_i d;rw [qf d]
 rename_i d;rw [qc d];split at h
 ·exact absurd rfl h
 ·rename_i i;rw [qc i]
end
section
open Go Go.VC Tryz
open Classical
noncomputable section
structure Pl where
 r:RF
 q:List Wt
abbrev Pl.n (p:Pl):Int:=p.r.num
structure Bk where
 id:Int
 flt:Int
 cls:Int
 many:Int
 state:Int
 till:Int
structure ZF where
 now:Int
 next:Int
 fl:List Pl
 L:List Bk
def ZF.at (b:ZF) (n:Int):Option Pl:=ZrJ Pl.n n b.fl
def ZF.bk (b:ZF) (id:Int):Option Bk:=ZrJ Bk.id id b.L
def ZF.put (b:ZF) (n:Int) (f:Pl->Pl) (L:List Bk):ZF:={ b with fl:=V5 Pl.n n f b.fl,L:=L }
def Uv:ZF:=⟨0,1,[],[]⟩
def emS:ByteArray:=ByteArray.empty
def Z4 (e:Int):Rp:=⟨e,emS,0,0,0,0,0,[],[]⟩
def ZrH (id:Int):ByteArray:=VC.strOf (ZpK id)
def Xp (p:Pl) (x:Bk):Rp:=⟨0,ZrH x.id,x.state,x.flt,x.cls,x.many,x.till,Zr p.r,YD p.r x.id⟩
def YW (b:ZF) (x:Bk):Rp:=match b.at x.flt with
 |none=>Z4 0
 |some p=>Xp p x
def GY (w:Wt) (p:Pl):Pl:=⟨(Zy p.r w.id w.cls w.many).1,Zbd w.id p.q⟩
def Gj (x:Bk):Bk:={ x with state:=2 }
def Za5 (b:ZF) (n:Int) (w:Wt):ZF:=b.put n (GY w) (V5 Bk.id w.id Gj b.L)
def ZcA:Nat->Int->ZF->ZF
 |0,_,b=>b
 |k + 1,n,b=>match b.at n with
  |none=>b
  |some p=>match Ys p.q (Zr p.r) with
   |none=>b
   |some w=>ZcA k n (Za5 b n w)
def ZH (n:Int) (b:ZF):ZF:=ZcA 201 n b
def Wi (b:ZF) (c:Cm):ZF × Rp:=
 if (b.at c.flt).isSome then (b,Z4 7) else if 8<=b.fl.length then (b,Z4 3)
 else if ¬ Zae c.flt c.rows c.grps c.parts then (b,Z4 1)
 else ({ b with fl:=ZiA Pl.n ⟨GB c.flt c.rows c.grps (ZB (YN c.rows c.grps) c.parts).1,[]⟩ b.fl },
  ⟨0,emS,0,c.flt,0,0,0,Zr (GB c.flt c.rows c.grps (ZB (YN c.rows c.grps) c.parts).1),[]⟩)
def ZF.full (b:ZF):Prop:=300<=b.L.length\/28629151<=b.next
def takeP (id cls many:Int) (p:Pl):Pl:={ p with r:=(Zy p.r id cls many).1 }
def Xc (b:ZF) (c:Cm):Bk:=⟨b.next,c.flt,c.cls,c.many,1,c.time⟩
def XE (b:ZF) (c:Cm):ZF × Rp:=
 match b.at c.flt with
 |none=>(b,Z4 2)
 |some p=>
  if c.time<=b.now then (b,Z4 1) else if b.full then (b,Z4 3)
  else if (Zy p.r b.next c.cls c.many).2≠0 then (b,Z4 (Zy p.r b.next c.cls c.many).2)
  else ({ b.put c.flt (takeP b.next c.cls c.many) (b.L++[Xc b c]) with next:=b.next + 1 },Xp (takeP b.next c.cls c.many p) (Xc b c))
def WK (b:ZF) (c:Cm):Wt:=⟨b.next,c.cls,c.many,b.now,c.sc⟩
def V7 (b:ZF) (c:Cm):Bk:=⟨b.next,c.flt,c.cls,c.many,3,0⟩
def Zo7 (w:Wt) (p:Pl):Pl:={ p with q:=Zee w p.q }
def XL (b:ZF) (c:Cm):ZF:={ b.put c.flt (Zo7 (WK b c)) (b.L++[V7 b c]) with next:=b.next + 1 }
def YU (b:ZF) (c:Cm):ZF × Rp:=
 match b.at c.flt with
 |none=>(b,Z4 2)
 |some p=>
  if (p.r.lims.length:Int)<=c.cls then (b,Z4 1) else if b.full then (b,Z4 3)
  else if (WW p.q (WK b c)).2≠0 then (b,Z4 (WW p.q (WK b c)).2)
  else (ZH c.flt (XL b c),match (ZH c.flt (XL b c)).bk b.next with
   |none=>Z4 0
   |some x=>YW (ZH c.flt (XL b c)) x)
def old (now:Int) (x:Bk):Bool:=decide (x.state=1) && decide (x.till<=now)
def Zar (id:Int) (p:Pl):Pl:={ p with r:=(Xg p.r id).1 }
def Uh (b:ZF) (x:Bk):ZF:=b.put x.flt (Zar x.id) (Zfi Bk.id x.id b.L)
def VY:List Bk->ZF->ZF
 |[],b=>b
 |x::l,b=>VY l (if old b.now x then Uh b x else b)
def XU (l:List Int) (b:ZF):ZF:=l.foldl (λ b n=>ZH n b) b
def WO (b:ZF) (t:Int):ZF:=VY b.L { b with now:=t }
def YH (b:ZF) (c:Cm):ZF × Rp:=
 if c.time<b.now then (b,Z4 7)
 else (XU (b.fl.map Pl.n) (WO b c.time),⟨0,emS,0,0,0,0,c.time,[],[]⟩)
def Xi (b:ZF) (pnr:ByteArray):Option Bk × Int:=
 if (Xj (ZE pnr)).2≠0 then (none,(Xj (ZE pnr)).2) else match b.bk (Xj (ZE pnr)).1 with
  |none=>(none,2)
  |some x=>(some x,0)
def X6 (x:Bk):Bk:={ x with state:=2,till:=0 }
def ZmP (id:Int) (p:Pl):Pl:={ p with q:=Zbd id p.q }
def ZbU (b:ZF) (x:Bk):ZF:=if x.state=3 then b.put x.flt (ZmP x.id) (Zfi Bk.id x.id b.L) else Uh b x
def Xe (r:RF) (p:Pl):Pl:={ p with r:=r }
def Gm (b:ZF) (x:Bk) (c:Cm):ZF × Rp:=
 match b.at x.flt with
 |none=>(b,Z4 0)
 |some p=>
  if c.kind=3 then (if x.state≠1 then (b,Z4 7) else ({ b with L:=V5 Bk.id x.id X6 b.L },Xp p (X6 x)))
  else if c.kind=4 then (ZH x.flt (ZbU b x),⟨0,c.pnr,0,0,0,0,0,[],[]⟩)
  else if x.state=3 then (b,Z4 7)
  else if c.kind=5 then
   (if (ZR p.r x.id c.lab).2≠0 then (b,Z4 (ZR p.r x.id c.lab).2)
    else (b.put x.flt (Xe (ZR p.r x.id c.lab).1) b.L,Xp (Xe (ZR p.r x.id c.lab).1 p) x))
  else (if (ZQ p.r x.id).2.2≠0 then (b,Z4 (ZQ p.r x.id).2.2)
    else (b.put x.flt (Xe (ZQ p.r x.id).1) b.L,Xp (Xe (ZQ p.r x.id).1 p) x))
def Xv (b:ZF) (c:Cm):Rp:=
 if ¬ Z9 c\/c.kind≠9 then Z4 1
 else if c.pnr≠emS then (match Xi b c.pnr with
  |(none,e)=>Z4 e
  |(some x,_)=>YW b x)
 else match b.at c.flt with
  |none=>Z4 2
  |some p=>⟨0,emS,0,c.flt,0,(p.q.length:Int),0,Zr p.r,[]⟩
def ZT (b:ZF) (c:Cm):ZF × Rp:=
 if ¬ Z9 c then (b,Z4 1)
 else if c.kind=1 then Wi b c
 else if c.kind=2 then XE b c
 else if c.kind=7 then YU b c
 else if c.kind=8 then YH b c
 else if c.kind=9 then (b,Xv b c)
 else match Xi b c.pnr with
  |(none,e)=>(b,Z4 e)
  |(some x,_)=>Gm b x c
def plB (p:Pl):List Int:=XI (WL p.r)++XI (qB p.q)
def bkB (x:Bk):List Int:=Zf [x.id]++(Zf [x.flt]++(Zf [x.cls]++(Zf [x.many]++(Zf [x.state]++Zf [x.till]))))
def Gi (b:ZF):List Int:=
 Zf [b.now]++(Zf [b.next]++(Zf [(b.fl.length:Int)]++((b.fl.map plB).flatten++(Zf [(b.L.length:Int)]++(b.L.map bkB).flatten))))
def ZoV (p:Pl) (x:Bk):Prop:=
 if x.state=3 then (∃ w∈p.q,w.id=x.id/\w.cls=x.cls/\w.many=x.many)/\x.cls<p.r.lims.length
 else ∃ h∈p.r.L,h.owner=x.id/\h.cls=x.cls/\h.many=x.many
structure Zq0 (next:Int) (x:Bk):Prop where
 id:1<=x.id/\x.id<next
 flt:0<=x.flt/\x.flt<=9999
 cls:0<=x.cls/\x.cls<=9999
 many:0<=x.many/\x.many<=9999
 state:1<=x.state/\x.state<=3
 till:0<=x.till/\x.till<=1099511627776
 free:x.state≠1->x.till=0
structure Zyk (L:List Bk) (p:Pl):Prop where
 has:∀ x∈L,x.flt=p.n->ZoV p x
 backQ:∀ w∈p.q,∃ x∈L,x.id=w.id/\x.flt=p.n/\x.state=3
 backH:∀ h∈p.r.L,∃ x∈L,x.id=h.owner/\x.flt=p.n/\x.state≠3
structure Core (b:ZF):Prop where
 now:0<=b.now/\b.now<=1099511627776
 next:1<=b.next/\b.next<=28629151
 good:∀ p∈b.fl,Y5 p.r
 qok:∀ p∈b.fl,QOk p.q
 nums:X8 Pl.n b.fl
 few:b.fl.length<=8
 ids:X8 Bk.id b.L
 each:∀ x∈b.L,Zq0 b.next x
 many:b.L.length<=300
 there:∀ x∈b.L,∃ p∈b.fl,p.n=x.flt
 loc:∀ p∈b.fl,Zyk b.L p
def Vn (b:ZF):Prop:=∀ x∈b.L,x.state=1->b.now<x.till
def Zbh (p:Pl):Prop:=Ys p.q (Zr p.r)=none
structure YK (b:ZF):Prop where
 core:Core b
 time:Vn b
 nofit:∀ p∈b.fl,Zbh p
def Zp4:Core Uv:=
 ⟨⟨by decide,by decide⟩,⟨by decide,by decide⟩,λ _ h=>(by cases h),λ _ h=>(by cases h),ju,by decide,ju,λ _ h=>(by cases h),by decide,λ _ h=>(by cases h),λ _ h=>(by cases h)⟩
def ZuV:YK Uv:=⟨Zp4,λ _ h=>(by cases h),λ _ h=>(by cases h)⟩
def Core.swap {b:ZF} (c:Core b) {n:Int} {f:Pl->Pl} {L:List Bk} {next:Int} (m:b.next<=next/\next<=28629151)
  (z:∀ p∈b.fl,p.n=n->(f p).n=n/\Y5 (f p).r/\QOk (f p).q/\Zyk L (f p))
  (ids:X8 Bk.id L) (each:∀ x∈L,Zq0 next x) (many:L.length<=300)
  (out:∀ x,x.flt≠n->(x∈L↔x∈b.L)) (here:∀ x∈L,x.flt=n->∃ p∈b.fl,p.n=n):Core { b.put n f L with next:=next }:=by
 have i:∀ {p},p∈V5 Pl.n n f b.fl->∃ q∈b.fl,q.n=p.n/\((q.n=n/\p=f q)\/(q.n≠n/\p=q)):=λ {p} d=>by
  obtain ⟨q,a,e⟩:=Yj.1 d;by_cases h:q.n=n
  ·rw [qf h] at e
   exact ⟨q,a,by rw [e,(z q a h).1,h],.inl ⟨h,e⟩⟩
  ·rw [qc h] at e
   exact ⟨q,a,by rw [e],.inr ⟨h,e⟩⟩
 have u:∀ {q},q∈b.fl->∃ p∈V5 Pl.n n f b.fl,p.n=q.n:=λ {q} a=>by
  by_cases h:q.n=n
  ·exact ⟨f q,Yj.2 ⟨q,a,by rw [qf h]⟩,by rw [(z q a h).1,h]⟩
  ·exact ⟨q,Yj.2 ⟨q,a,by rw [qc h]⟩,rfl⟩
 refine ⟨c.now,⟨uu c.next.1 m.1,m.2⟩,λ p d=>?_,λ p d=>?_,Zaj c.nums λ p d e=>(z p d e).1,by show (V5 Pl.n n f b.fl).length<=8;rw [Zfg];exact c.few,ids,each,many,λ x v=>?_,λ p d=>?_⟩
 ·obtain ⟨q,a,_,⟨h,rfl⟩|⟨h,rfl⟩⟩:=i d
  ·exact (z q a h).2.1
  ·exact c.good p a
 ·obtain ⟨q,a,_,⟨h,rfl⟩|⟨h,rfl⟩⟩:=i d
  ·exact (z q a h).2.2.1
  ·exact c.qok p a
 ·by_cases h:x.flt=n
  ·obtain ⟨p,d,e⟩:=here x v h
   obtain ⟨j,y,e'⟩:=u d;exact ⟨j,y,by rw [e',e,h]⟩
  ·obtain ⟨p,d,e⟩:=c.there x ((out x h).1 v)
   obtain ⟨j,y,e'⟩:=u d;exact ⟨j,y,by rw [e',e]⟩
 ·obtain ⟨q,a,_,⟨h,rfl⟩|⟨h,rfl⟩⟩:=i d
  ·exact (z q a h).2.2.2
  ·have hl:=c.loc p a
   refine ⟨λ x v e=>hl.has x ((out x (by rw [e];exact h)).1 v) e,λ w s=>?_,λ o t=>?_⟩
   ·obtain ⟨x,v,k,g,l⟩:=hl.backQ w s
    exact ⟨x,(out x (by rw [g];exact h)).2 v,k,g,l⟩
   ·obtain ⟨x,v,k,g,l⟩:=hl.backH o t
    exact ⟨x,(out x (by rw [g];exact h)).2 v,k,g,l⟩
def Zq0.le {n m:Int} {x:Bk} (h:Zq0 n x) (hl:n<=m):Zq0 m x:=⟨⟨h.id.1,vI h.id.2 hl⟩,h.flt,h.cls,h.many,h.state,h.till,h.free⟩
def Yg {b:ZF} {n:Int} {p:Pl} (h:b.at n=some p):p∈b.fl/\p.n=n:=Uz h
def UL {b:ZF} (c:Core b) {n:Int} {p:Pl}:b.at n=some p↔p∈b.fl/\p.n=n:=Zfh c.nums
def Zew {b:ZF} (c:Core b) {n:Int} {x:Bk}:b.bk n=some x↔x∈b.L/\x.id=n:=Zfh c.ids
def Core.at_of {b:ZF} (c:Core b) {x:Bk} (h:x∈b.L):∃ p,b.at x.flt=some p:=by
 obtain ⟨p,a,e⟩:=c.there x h;exact ⟨p,(UL c).2 ⟨a,e⟩⟩
def Zwv {b:ZF} {n:Int} {f:Pl->Pl} {L:List Bk} {p:Pl} (d:(f p).n=n) (c:Core b) (h:b.at n=some p) (o:X8 Pl.n (V5 Pl.n n f b.fl)):(b.put n f L).at n=some (f p):=by
 have a:=Yg h;exact (Zfh o).2 ⟨Yj.2 ⟨p,a.1,by rw [qf a.2]⟩,d⟩
end
end
section
open Go Go.VC Tryz
variable {r:RF} {o c m:Int}
def Zaq (g:Y5 r) (o c m:Int):Y5 (Zy r o c m).1:=by
 obtain ⟨f,_,t⟩:=Zc9 g;exact (ZeI t g o c m).2.2
def ZnU (g:Y5 r) (o:Int):Y5 (Xg r o).1:=by
 obtain ⟨f,_,t⟩:=Zc9 g;exact (Zjg t g o).2.2
def ZcY (g:Y5 r) (o:Int) (lab:ByteArray):Y5 (ZR r o lab).1:=by
 obtain ⟨f,_,t⟩:=Zc9 g;exact (Zje t g o lab λ k h=>Zn5 h).2.2
def ZcZ (g:Y5 r) (o:Int):Y5 (ZQ r o).1:=by
 obtain ⟨f,_,t⟩:=Zc9 g;exact (ZeJ t g o).2.2.1
def WT:(Zy r o c m).1.num=r.num/\(Zy r o c m).1.lims=r.lims:=by
 by_cases h:(Zy r o c m).2=0
 ·obtain ⟨A,C,e,_,_⟩:=Zl8 h
  rw [e];exact ⟨rfl,rfl⟩
 ·rw [ZhX h]
  exact ⟨rfl,rfl⟩
def UQ (h:(Zy r o c m).2=0) {x:Zw}:x∈(Zy r o c m).1.L↔x=⟨o,c,m,[]⟩\/x∈r.L:=by
 obtain ⟨A,C,e,a,_⟩:=Zl8 h;rw [e,a];dsimp only;rw [qt,qk,qt];constructor
 ·rintro (h|h|h)<;>simp [h]
 ·rintro (h|h|h)<;>simp [h]
def Zkq (h:(Zy r o c m).2=0):(1<=o/\o<=28629151)/\Wc o r.L=none/\(YP r.lims r.sold c m).2=0/\Zy r o c m=({ r with L:=ZcU ⟨o,c,m,[]⟩ r.L },0):=by
 unfold Zy at h ⊢;split at h
 ·cases h
 rename_i i;split at h
 ·cases h
 rename_i d;rw [qc i,qc d];split at h
 ·rename_i a
  rw [qf a];exact ⟨by omega,by cases e:Wc o r.L with|none=>rfl|some x=>rw [e] at d;simp at d,a,rfl⟩
 ·rename_i a;exact absurd h a
def Zl7 (h:(Zy r o c m).2=0):(Zy r o c m).1.sold=r.sold.set c.toNat (r.sold.getD c.toNat 0 + m)/\0<=c/\c<r.lims.length/\1<=m:=by
 obtain ⟨_,_,i,e⟩:=Zkq h;obtain ⟨_,_,a,d,u⟩:=ZcH i;refine ⟨?_,a,d,u⟩;rw [e];exact (Ur (n:=r.lims.length) (Wb ⟨o,c,m,[]⟩ r.L) a d).symm
def ZjH {x y:Nat->Int}:∀ {k:Nat},(∀ i,i<k->x i<=y i)->mnF x k<=mnF y k
 |0,_=>qG _
 |k + 1,h=>by
  have a:=ZjH (k:=k) λ i hi=>h i (by omega);have d:=h k (by omega);unfold mnF;split<;>split<;>omega
def Zai (r:RF):(Zr r).length=r.lims.length:=by simp [Zr]
def ZcP {k:Nat} (h:k<r.lims.length):(Zr r).getD k 0=(Xb r.lims r.sold k).1:=by
 unfold Zr;rw [List.getD_eq_getElem?_getD];simp [h]
def ZbQ (g:Y5 r) {k:Nat} (h:k<r.lims.length):(Xb r.lims r.sold k).1=mnF (VI r.lims r.sold) (k + 1)/\(Xb r.lims r.sold k).2=0:=by
 unfold Xb;rw [qf ⟨g.nest,by omega,by omega⟩];exact ⟨by rw [qo],rfl⟩
def take_left (g:Y5 r) (h:(Zy r o c m).2=0) {k:Nat} (hk:k<r.lims.length):(Zr (Zy r o c m).1).getD k 0<=(Zr r).getD k 0:=by
 obtain ⟨hs,d,u,v⟩:=Zl7 h;have hl:=(WT (r:=r) (o:=o) (c:=c) (m:=m)).2;have g':=Zaq g o c m;rw [ZcP hk,ZcP (by rw [hl];exact hk),(ZbQ g hk).1,(ZbQ g' (by rw [hl];exact hk)).1,hl,hs];refine ZjH λ i hi=>?_;unfold VI;have a:r.sold.length=r.lims.length:=YX _ _;have:=UD (sold:=r.sold) (c:=c.toNat) (m:=m) (by omega) (r.lims.length - i) i (by omega);rw [this];split<;>omega
def Zl9 (g:Y5 r) {w:Wt} (d:w.Ok) (h:WZ (Zr r) w=true) (o:Wc w.id r.L=none):(Zy r w.id w.cls w.many).2=0:=by
 obtain ⟨⟨i,u⟩,⟨v,b2⟩,⟨y,z⟩,_⟩:=d;unfold WZ at h;simp only [ql,qV] at h;rw [Zai] at h;rw [ZcP (by omega)] at h;have a:=ZbQ g (k:=w.cls.toNat) (by omega);have e:((w.cls.toNat:Nat):Int)=w.cls:=by omega
 rw [e] at h a;have hs:(YP r.lims r.sold w.cls w.many).2=0:=by
  unfold YP;rw [qc (by rw [a.2];omega),qc (by omega)]
 unfold Zy;rw [qc (by omega),o,qc (by simp),qf hs]
def Zn2 (g:Y5 r) (h:(Zy r o c m).2=0) {w:Wt} (d:0<=w.cls) (a:WZ (Zr (Zy r o c m).1) w=true):WZ (Zr r) w=true:=by
 unfold WZ at *;simp only [ql,qV] at *;rw [Zai] at *;rw [(WT (r:=r) (o:=o) (c:=c) (m:=m)).2] at a;have:=take_left g h (k:=w.cls.toNat) (by omega);omega
def Uf:(Xg r o).1.num=r.num/\(Xg r o).1.lims=r.lims:=by
 unfold Xg;split<;>exact ⟨rfl,rfl⟩
def ZpR (g:Y5 r) {x:Zw}:x∈(Xg r o).1.L↔x∈r.L/\x.owner≠o:=by
 unfold Xg;cases a:Wc o r.L with
 |none=>
  dsimp only;exact ⟨λ h=>⟨h,Vh.1 a x h⟩,λ h=>h.1⟩
 |some hd=>
  obtain ⟨A,C,v,d,i⟩:=YB a;have u:=g.rise;dsimp only;rw [v] at u ⊢;rw [ZbY i d];have y:=ji.1 u;have z:=qC.1 y.2.1;rw [qt,qt,qk];constructor
  ·rintro (h|h)
   ·exact ⟨.inl h,Vh.1 d x h⟩
   ·exact ⟨.inr (.inr h),by have:=z.1 x h;omega⟩
  ·rintro ⟨h|rfl|h,j⟩
   ·exact .inl h
   ·exact absurd i j
   ·exact .inr h
structure Vo (r r':RF):Prop where
 num:r'.num=r.num
 lims:r'.lims=r.lims
 rows:r'.rows=r.rows
 grps:r'.grps=r.grps
 each:∃ A hd hd' C,r.L=A++hd::C/\r'.L=A++hd'::C/\hd'.owner=hd.owner/\hd'.cls=hd.cls/\hd'.many=hd.many
def Vo.sold {r':RF} (h:Vo r r'):r'.sold=r.sold:=by
 obtain ⟨A,hd,hd',C,a,d,_,o,i⟩:=h.each;unfold RF.sold Ya;rw [h.lims];apply qP;intro k _;rw [a,d,Gc,Gc,V2,V2,o,i]
def Vo.lefts {r':RF} (h:Vo r r'):Zr r'=Zr r:=by
 unfold Zr;rw [h.lims,h.sold]
def Vo.mem {r':RF} (h:Vo r r') {x:Zw} (a:x∈r.L):∃ y∈r'.L,y.owner=x.owner/\y.cls=x.cls/\y.many=x.many:=by
 obtain ⟨A,hd,hd',C,d,o,i,u,v⟩:=h.each;rw [d,qt,qk] at a;rw [o];rcases a with a|rfl|a
 ·exact ⟨x,by simp [a],rfl,rfl,rfl⟩
 ·exact ⟨hd',by simp,i,u,v⟩
 ·exact ⟨x,by simp [a],rfl,rfl,rfl⟩
def Vo.symm {r':RF} (h:Vo r r'):Vo r' r:=by
 obtain ⟨A,hd,hd',C,a,d,o,i,u⟩:=h.each;exact ⟨h.num.symm,h.lims.symm,h.rows.symm,h.grps.symm,A,hd',hd,C,d,a,o.symm,i.symm,u.symm⟩
def Zh1 (g:Y5 r) {lab:ByteArray} (h:(ZR r o lab).2=0):Vo r (ZR r o lab).1:=by
 obtain ⟨A,hd,C,n,_,a,_,_,_,e⟩:=Zrb g h;rw [e];exact ⟨rfl,rfl,rfl,rfl,A,hd,hd.put n,C,a,rfl,rfl,rfl,rfl⟩
def Zi4 (h:(ZQ r o).2.2=0):Vo r (ZQ r o).1:=by
 unfold ZQ at *;cases a:Wc o r.L with
 |none=>rw [a] at h;cases h
 |some hd=>
  obtain ⟨A,C,i,u,v⟩:=YB a;rw [a] at h;dsimp only at h ⊢;split at h
  ·cases h
  ·rename_i y
   rw [qc y];split at h
   ·rename_i d
    rw [qf d];refine ⟨rfl,rfl,rfl,rfl,A,hd,{ hd with seats:=(Z8 r.rows r.grps (Zz r.L) hd.many).1 },C,i,?_,rfl,rfl,rfl⟩;show ZkA o _ r.L=_;rw [i];exact V9 v u
   ·rename_i d;exact absurd h d
def Zjp {lab:ByteArray} (h:(ZR r o lab).2≠0):(ZR r o lab).1=r:=(Zmo h).1
def ZoM (h:(ZQ r o).2.2≠0):(ZQ r o).1=r:=by
 unfold ZQ at *;cases a:Wc o r.L with
 |none=>rfl
 |some hd=>
  rw [a] at h;dsimp only at h ⊢;split
  ·rfl
  ·rename_i d
   rw [qc d] at h;split
   ·rename_i i;rw [qf i] at h;exact absurd rfl h
   ·rfl
end
section
open Go Go.VC Tryz
variable {b:ZF} {n:Int} {p:Pl} {w:Wt} {x:Bk}
def Core.uniq (c:Core b) {x y:Bk} (h:x∈b.L) (a:y∈b.L) (e:x.id=y.id):x=y:=c.ids.uniq h a e
def Core.uniqP (c:Core b) {p q:Pl} (h:p∈b.fl) (a:q∈b.fl) (e:p.n=q.n):p=q:=c.nums.uniq h a e
def Core.waits (c:Core b) (d:p∈b.fl) (g:w∈p.q):∃ x∈b.L,x.id=w.id/\x.flt=p.n/\x.state=3/\x.cls=w.cls/\x.many=w.many:=by
 obtain ⟨x,j,i,o,k⟩:=(c.loc p d).backQ w g;have h:=(c.loc p d).has x j o;unfold ZoV at h;rw [qf k] at h;obtain ⟨⟨w',u,f,l,m⟩,_⟩:=h;have:w'=w:=by
  have t:=(c.qok p d).ids;have key:∀ {q:List Wt},Zwz q->∀ {a b:Wt},a∈q->b∈q->a.id=b.id->a=b:=by
   intro q
   induction q with
   |nil=>intro _ a b v;cases v
   |cons y q ih=>
    intro h a b v r e;have d:=qC.1 h;rcases qk.1 v with i|s
    ·rcases qk.1 r with o|z
     ·rw [i,o]
     ·rw [i] at e;exact absurd e (d.1 b z)
    ·rcases qk.1 r with o|z
     ·rw [o] at e;exact absurd e.symm (d.1 a s)
     ·exact ih d.2 s z e
  exact key t u g (by omega)
 rw [this] at l m;exact ⟨x,j,i,o,k,l.symm,m.symm⟩
def Core.noHold (c:Core b) (a:p∈b.fl) (o:w∈p.q):Wc w.id p.r.L=none:=by
 rw [Vh];intro h i e;obtain ⟨x,u,g,j,d,_⟩:=c.waits a o;obtain ⟨y,v,k,l,z⟩:=(c.loc p a).backH h i;have:=c.uniq u v (by omega);rw [this] at d;exact z d
def V8:(GY w p).n=p.n:=WT.1
def ZbW (c:Core b) (h:p∈b.fl) (o:Ys p.q (Zr p.r)=some w):w∈p.q/\WZ (Zr p.r) w=true/\(Zy p.r w.id w.cls w.many).2=0:=by
 obtain ⟨a,d⟩:=ZkX o;exact ⟨a,d,Zl9 (c.good p h) ((c.qok p h).ok w a) d (c.noHold h a)⟩
def Zdc (c:Core b) (g:p∈b.fl) (t:p.n=n) (J:Ys p.q (Zr p.r)=some w):Core (Za5 b n w):=by
 obtain ⟨M,G,d⟩:=ZbW c g J;obtain ⟨x,m,H,f,N,O,Q⟩:=c.waits g M;have A:=c.qok p g;refine c.swap (next:=b.next) ⟨qG _,c.next.2⟩ (λ U D V=>?_) (Zaj c.ids λ y _ e=>e) (λ y o=>?_) (by show (V5 Bk.id w.id Gj b.L).length<=300;rw [Zfg];exact c.many) (λ y o=>?_) λ y _ _=>⟨p,g,t⟩
 ·obtain rfl:U=p:=c.uniqP D g (by omega)
  refine ⟨by rw [V8];exact t,Zaq (c.good _ g) _ _ _,A.del _,?_⟩;have hl:=c.loc _ g;refine ⟨λ y o e=>?_,λ v E=>?_,λ h s=>?_⟩
  ·obtain ⟨z,hz,rfl⟩:=Yj.1 o
   by_cases a:z.id=w.id
   ·rw [qf a]
    obtain rfl:z=x:=c.uniq hz m (by omega);unfold ZoV;rw [qc (by show (2:Int)≠3;omega)];exact ⟨⟨w.id,w.cls,w.many,[]⟩,(UQ d).2 (.inl rfl),a.symm,O.symm,Q.symm⟩
   ·rw [qc a] at e ⊢
    have i:=hl.has z hz (by rw [e,V8]);unfold ZoV at *;by_cases I:z.state=3
    ·rw [qf I] at i ⊢
     obtain ⟨⟨v,E,j,k,u⟩,a4⟩:=i;refine ⟨⟨v,(ZfD A.ids).2 ⟨E,by omega⟩,j,k,u⟩,?_⟩;show z.cls<((Zy _ _ _ _).1.lims.length:Int);rw [WT.2];exact a4
    ·rw [qc I] at i ⊢
     obtain ⟨h,s,j,k,u⟩:=i;exact ⟨h,(UQ d).2 (.inr s),j,k,u⟩
  ·obtain ⟨F,W⟩:=(ZfD A.ids).1 E
   obtain ⟨y,o,j,k,u⟩:=hl.backQ v F;exact ⟨y,Yj.2 ⟨y,o,by rw [qc (by omega)]⟩,j,by rw [k,V8],u⟩
  ·rcases (UQ d).1 s with rfl|s
   ·exact ⟨Gj x,Yj.2 ⟨x,m,by rw [qf H]⟩,H,by show x.flt=_;rw [f,V8],by show (2:Int)≠3;omega⟩
   ·obtain ⟨y,o,j,k,u⟩:=hl.backH h s
    refine ⟨y,Yj.2 ⟨y,o,?_⟩,j,by rw [k,V8],u⟩;rw [qc λ e=>?_];obtain rfl:y=x:=c.uniq o m (by omega);exact u N
 ·obtain ⟨z,hz,rfl⟩:=Yj.1 o
  have l:=c.each z hz;by_cases a:z.id=w.id
  ·rw [qf a]
   obtain rfl:z=x:=c.uniq hz m (by omega);exact ⟨l.id,l.flt,l.cls,l.many,⟨by show (1:Int)<=2;omega,by show (2:Int)<=3;omega⟩,l.till,λ _=>l.free (by omega)⟩
  ·rw [qc a];exact l
 ·constructor
  ·intro h
   obtain ⟨z,hz,rfl⟩:=Yj.1 h;by_cases a:z.id=w.id
   ·rw [qf a] at o
    obtain rfl:z=x:=c.uniq hz m (by omega);exact absurd (f.trans t) o
   ·rw [qc a];exact hz
  ·intro h
   refine Yj.2 ⟨y,h,?_⟩;rw [qc λ e=>?_];obtain rfl:y=x:=c.uniq h m (by omega);exact o (f.trans t)
def Zit (c:Core b) (h:b.at n=some p):(Za5 b n w).at n=some (GY w p):=
 Zwv (by rw [V8];exact (Yg h).2) c h (Zaj c.nums λ q _ e=>by rw [V8];exact e)
def ZrF {q:Pl} (h:q∈(Za5 b n w).fl):q.n=n\/q∈b.fl:=by
 obtain ⟨z,hz,rfl⟩:=Yj.1 h;by_cases e:z.n=n
 ·rw [qf e];exact .inl (by rw [V8];exact e)
 ·rw [qc e];exact .inr hz
def Zis (t:Vn b):Vn (Za5 b n w):=by
 intro x h hs;obtain ⟨z,hz,rfl⟩:=Yj.1 h;by_cases e:z.id=w.id
 ·rw [qf e] at hs;exact absurd hs (by show (2:Int)≠1;omega)
 ·rw [qc e] at hs ⊢;exact t z hz hs
def ZfE {id:Int} {q:List Wt} (h:UC id q=true):(Zbd id q).length + 1=q.length:=by
 obtain ⟨A,w,C,e,_,_,a⟩:=Zes h;rw [a,e];simp;omega
structure W2 (n:Int) (b b':ZF):Prop where
 now:b'.now=b.now
 next:b'.next=b.next
 keys:b'.fl.map Pl.n=b.fl.map Pl.n
 others:∀ q∈b'.fl,q.n=n\/q∈b.fl
 ids:b'.L.map Bk.id=b.L.map Bk.id
 bk:∀ y∈b'.L,∃ x∈b.L,y.id=x.id/\y.flt=x.flt/\y.cls=x.cls/\y.many=x.many/\y.till=x.till
def W2.refl (n:Int) (b:ZF):W2 n b b:=⟨rfl,rfl,rfl,λ _ h=>.inr h,rfl,λ y a=>⟨y,a,rfl,rfl,rfl,rfl,rfl⟩⟩
def W2.trans {o b2 b3:ZF} (a:W2 n o b2) (d:W2 n b2 b3):W2 n o b3:=
 ⟨d.now.trans a.now,d.next.trans a.next,d.keys.trans a.keys,λ q i=>by
  rcases d.others q i with h|h
  ·exact .inl h
  ·exact a.others q h,d.ids.trans a.ids,λ y u=>by
  obtain ⟨x,v,g,j,k,l,m⟩:=d.bk y u;obtain ⟨z,hz,p,r,s,t,e⟩:=a.bk x v;exact ⟨z,hz,by omega,by omega,by omega,by omega,by omega⟩⟩
def Zak {α:Type} {k:α->Int} {n:Int} {f:α->α} (h:∀ x,k x=n->k (f x)=n):∀ l:List α,(V5 k n f l).map k=l.map k
 |[]=>rfl
 |a::l=>by
  show k (if k a=n then f a else a)::(V5 k n f l).map k=_
  rw [Zak h l,qi];split
  ·rename_i e;rw [h a e,e]
  ·rfl
def ZnE:W2 n b (Za5 b n w):=by
 refine ⟨rfl,rfl,Zak (λ q e=>by rw [V8];exact e) _,λ q h=>ZrF h,Zak (k:=Bk.id) (f:=Gj) (λ y e=>e) b.L,λ y a=>?_⟩;obtain ⟨z,hz,rfl⟩:=Yj.1 a;refine ⟨z,hz,?_⟩;split<;>exact ⟨rfl,rfl,rfl,rfl,rfl⟩
def Zm1:∀ (k:Nat) {b:ZF},Core b->Core (ZcA k n b)/\W2 n b (ZcA k n b)/\(Vn b->Vn (ZcA k n b))/\((∀ p,b.at n=some p->p.q.length<k)->∀ p∈(ZcA k n b).fl,p.n=n->Zbh p)
 |0,b,c=>⟨c,W2.refl n b,λ t=>t,λ h p a e=>absurd (h p ((UL c).2 ⟨a,e⟩)) (by omega)⟩
 |k + 1,b,c=>by
  unfold ZcA;cases o:b.at n with
  |none=>
   refine ⟨c,W2.refl n b,λ t=>t,λ _ p a e=>?_⟩;rw [(UL c).2 ⟨a,e⟩] at o;cases o
  |some p=>
   dsimp only;have a:=Yg o;cases i:Ys p.q (Zr p.r) with
   |none=>
    refine ⟨c,W2.refl n b,λ t=>t,λ _ u d e=>?_⟩;obtain rfl:u=p:=c.uniqP d a.1 (by rw [e,a.2]);exact i
   |some w=>
    dsimp only;have c':=Zdc c a.1 a.2 i;obtain ⟨v,y,z,g⟩:=Zm1 k c';refine ⟨v,ZnE.trans y,λ t=>z (Zis t),λ h=>g λ u d=>?_⟩;rw [Zit c o] at d;cases d;have j:=h p rfl;have hm:=(ZbW c a.1 i).1;have l:=ZfE (Zao.2 ⟨w,hm,rfl⟩);show (Zbd w.id p.q).length<k;omega
def XC (c:Core b):Core (ZH n b)/\W2 n b (ZH n b)/\(Vn b->Vn (ZH n b))/\∀ p∈(ZH n b).fl,p.n=n->Zbh p:=by
 obtain ⟨h,a,d,o⟩:=Zm1 (n:=n) 201 c;exact ⟨h,a,d,o λ p i=>by have:=(c.qok p (Yg i).1).len;omega⟩
def Zoi (c:Core b) {r:RF} (g:Y5 r) (u:r.L=[]) (v:b.at r.num=none) (j:b.fl.length<8):Core { b with fl:=ZiA Pl.n ⟨r,[]⟩ b.fl }:=by
 have d:=UA.1 v;refine ⟨c.now,c.next,λ p a=>?_,λ p a=>?_,Zhc c.nums d,by show (ZiA Pl.n _ b.fl).length<=8;rw [ZjN];omega,c.ids,c.each,c.many,λ x o=>?_,λ p a=>?_⟩
 ·rcases Ud.1 a with rfl|a
  ·exact g
  ·exact c.good p a
 ·rcases Ud.1 a with rfl|a
  ·exact QOk.nil
  ·exact c.qok p a
 ·obtain ⟨p,a,e⟩:=c.there x o
  exact ⟨p,Ud.2 (.inr a),e⟩
 ·rcases Ud.1 a with rfl|a
  ·refine ⟨λ x o e=>?_,λ w y=>(by cases y),λ h i=>?_⟩
   ·obtain ⟨p,a,z⟩:=c.there x o
    exact absurd (z.trans e) (d p a)
   ·rw [show (Pl.mk r []).r.L=r.L from rfl,u] at i;cases i
  ·exact c.loc p a
def Zj6 (c:Core b) (m:x∈b.L) {f:Pl->Pl} (E:∀ p∈b.fl,p.n=x.flt->(f p).n=x.flt/\Y5 (f p).r/\QOk (f p).q/\(f p).r.lims=p.r.lims/\(∀ w,w∈(f p).q↔w∈p.q/\w.id≠x.id)/\∀ h,h∈(f p).r.L↔h∈p.r.L/\h.owner≠x.id):
  Core (b.put x.flt f (Zfi Bk.id x.id b.L)):=by
 refine c.swap (next:=b.next) ⟨qG _,c.next.2⟩ (λ p s u=>?_) (ZnF c.ids) (λ y a=>c.each y (WY.1 a).1) (jf (ze _ _) c.many) (λ y a=>?_) λ y _ _=>c.there x m
 ·obtain ⟨v,F,G,H,t,A⟩:=E p s u
  have hl:=c.loc p s;refine ⟨v,F,G,λ y a e=>?_,λ w z=>?_,λ h g=>?_⟩
  ·obtain ⟨j,I⟩:=WY.1 a
   have h:=hl.has y j (by rw [e,v,u]);unfold ZoV at *;by_cases D:y.state=3
   ·rw [qf D] at h ⊢
    obtain ⟨⟨w,z,d,o,i⟩,a4⟩:=h;exact ⟨⟨w,(t w).2 ⟨z,by omega⟩,d,o,i⟩,by rw [H];exact a4⟩
   ·rw [qc D] at h ⊢
    obtain ⟨h,g,d,o,i⟩:=h;exact ⟨h,(A h).2 ⟨g,by omega⟩,d,o,i⟩
  ·obtain ⟨k,J⟩:=(t w).1 z
   obtain ⟨y,a,d,o,i⟩:=hl.backQ w k;exact ⟨y,WY.2 ⟨a,by omega⟩,d,by rw [o,v,u],i⟩
  ·obtain ⟨l,M⟩:=(A h).1 g
   obtain ⟨y,a,d,o,i⟩:=hl.backH h l;exact ⟨y,WY.2 ⟨a,by omega⟩,d,by rw [o,v,u],i⟩
 ·refine WY.trans ⟨λ h=>h.1,λ h=>⟨h,λ e=>a ?_⟩⟩
  rw [c.uniq h m e]
def ZaA (c:Core b) (d:x∈b.L) (hs:x.state≠3):Core (Uh b x):=by
 refine Zj6 c d λ p a u=>⟨by show (Xg _ _).1.num=_;rw [Uf.1];exact u,ZnU (c.good p a) _,c.qok p a,Uf.2,λ w=>⟨λ o=>⟨o,λ e=>?_⟩,λ h=>h.1⟩,λ h=>ZpR (c.good p a)⟩;obtain ⟨y,v,z,_,i,_⟩:=c.waits a o;rw [c.uniq v d (by omega)] at i;exact hs i
def Zdd (c:Core b) (o:x∈b.L):Core (ZbU b x):=by
 unfold ZbU;split
 ·rename_i hs
  refine Zj6 c o λ p a u=>⟨u,c.good p a,(c.qok p a).del _,rfl,λ w=>ZfD (c.qok p a).ids,λ h=>⟨λ d=>⟨d,λ e=>?_⟩,λ d=>d.1⟩⟩;obtain ⟨y,v,z,g,i⟩:=(c.loc p a).backH h d;rw [c.uniq v o (by omega)] at i;exact i hs
 ·rename_i hs
  exact ZaA c o hs
def ZkY {f:Pl->Pl} {L:List Bk} (t:Vn b) (h:∀ y∈L,y.state=1->y∈b.L):Vn (b.put n f L):=λ y a hs=>t y (h y a hs) hs
def ZiK (t:Vn b):Vn (ZbU b x):=by
 unfold ZbU Uh;split<;>exact ZkY t λ y h _=>(WY.1 h).1
def ZrT {q:Pl} (h:q∈(ZbU b x).fl):q.n=x.flt\/q∈b.fl:=by
 unfold ZbU Uh at h;split at h<;>
 ·obtain ⟨z,hz,rfl⟩:=Yj.1 h
  by_cases e:z.n=x.flt
  ·rw [qf e]
   exact .inl (by first|exact e|(show (Xg _ _).1.num=_;rw [Uf.1];exact e))
  ·rw [qc e];exact .inr hz
end
section
open Go Go.VC Tryz
variable {b:ZF} {n:Int} {p:Pl} {w:Wt} {x:Bk} {c:Cm}
def Xa {α:Type} {l:List α} {a y:α}:y∈l++[a]↔y∈l\/y=a:=by simp
def Core.fresh (k:Core b) {y:Bk} (h:y∈b.L):y.id<b.next:=(k.each y h).id.2
def Zj7 (k:Core b) (v:Zq0 (b.next + 1) x) (d:x.id=b.next) (z:¬ b.full) (i:p∈b.fl) (u:p.n=x.flt) {f:Pl->Pl} (hl:(f p).n=p.n/\Y5 (f p).r/\QOk (f p).q/\Zyk (b.L++[x]) (f p)):
  Core { b.put x.flt f (b.L++[x]) with next:=b.next + 1 }:=by
 unfold ZF.full at z;refine k.swap (next:=b.next + 1) ⟨by omega,by omega⟩ (λ g o j=>?_) (Zlk k.ids λ y a=>by rw [d];exact k.fresh a) (λ y a=>?_) (by rw [qb,qT];omega) (λ y a=>?_) λ y _ _=>⟨p,i,u⟩
 ·obtain rfl:g=p:=k.uniqP o i (by omega)
  exact ⟨by rw [hl.1];exact u,hl.2.1,hl.2.2.1,hl.2.2.2⟩
 ·rcases Xa.1 a with a|rfl
  ·exact (k.each y a).le (by omega)
  ·exact v
 ·refine Xa.trans ⟨λ h=>?_,λ h=>.inl h⟩
  rcases h with h|rfl
  ·exact h
  ·exact absurd rfl a
def Zaz (k:Core b) (g:Z9 c) (t:b.at c.flt=some p) (f:¬ b.full) (ht:(Zy p.r b.next c.cls c.many).2=0):
  Core { b.put c.flt (takeP b.next c.cls c.many) (b.L++[Xc b c]) with next:=b.next + 1 }:=by
 obtain ⟨o,u⟩:=Yg t;have j:=k.next;refine Zj7 k (x:=Xc b c) ⟨⟨j.1,by show b.next<b.next + 1;omega⟩,g.flt,g.cls,g.many,⟨by show (1:Int)<=1;omega,by show (1:Int)<=3;omega⟩,g.time,λ h=>absurd rfl h⟩ rfl f o u ?_;refine ⟨WT.1,Zaq (k.good p o) _ _ _,k.qok p o,?_⟩;have hl:=k.loc p o;have d:(takeP b.next c.cls c.many p).n=p.n:=WT.1;refine ⟨λ y i e=>?_,λ v A=>?_,λ h z=>?_⟩
 ·rcases Xa.1 i with i|rfl
  ·have h:=hl.has y i (by rw [e,d])
   unfold ZoV at *;by_cases s:y.state=3
   ·rw [qf s] at h ⊢
    exact ⟨h.1,by show y.cls<((Zy _ _ _ _).1.lims.length:Int);rw [WT.2];exact h.2⟩
   ·rw [qc s] at h ⊢
    obtain ⟨h,z,a⟩:=h;exact ⟨h,(UQ ht).2 (.inr z),a⟩
  ·unfold ZoV
   rw [qc (by show (1:Int)≠3;omega)];exact ⟨⟨b.next,c.cls,c.many,[]⟩,(UQ ht).2 (.inl rfl),rfl,rfl,rfl⟩
 ·obtain ⟨y,i,l,m,q⟩:=hl.backQ v A
  exact ⟨y,Xa.2 (.inl i),l,by rw [m,d],q⟩
 ·rcases (UQ ht).1 z with rfl|z
  ·exact ⟨Xc b c,Xa.2 (.inr rfl),rfl,by show c.flt=_;rw [d];exact u.symm,by show (1:Int)≠3;omega⟩
  ·obtain ⟨y,i,l,m,q⟩:=hl.backH h z
   exact ⟨y,Xa.2 (.inl i),l,by rw [m,d],q⟩
def Zd1 {q:List Wt} (h:(WW q w).2=0):w.Ok/\UC w.id q=false/\q.length<200/\WW q w=(Zee w q,0):=by
 unfold WW at *;split at h
 ·cases h
 rename_i a;split at h
 ·cases h
 rename_i d;split at h
 ·cases h
 rename_i o;rw [qc a,qc d,qc o];exact ⟨by simpa using a,by simpa using d,by omega,rfl⟩
def Zay (k:Core b) (z:Z9 c) (hs:c.sc<18446744073709551616) (l:b.at c.flt=some p) (m:¬ (p.r.lims.length:Int)<=c.cls) (n:¬ b.full) (s:(WW p.q (WK b c)).2=0):Core (XL b c):=by
 obtain ⟨d,i⟩:=Yg l;obtain ⟨t,f,A,_⟩:=Zd1 s;have g:=k.next;refine Zj7 k (x:=V7 b c) ⟨⟨g.1,by show b.next<b.next + 1;omega⟩,z.flt,z.cls,z.many,⟨by show (1:Int)<=3;omega,by show (3:Int)<=3;omega⟩,⟨qG _,by show (0:Int)<=_;omega⟩,λ _=>rfl⟩ rfl n d i ?_;refine ⟨rfl,k.good p d,(k.qok p d).ins t hs f A,?_⟩;have hl:=k.loc p d;refine ⟨λ y o e=>?_,λ v u=>?_,λ h D=>?_⟩
 ·rcases Xa.1 o with o|rfl
  ·have h:=hl.has y o e
   unfold ZoV at *;by_cases j:y.state=3
   ·rw [qf j] at h ⊢
    obtain ⟨⟨v,u,a⟩,a4⟩:=h;exact ⟨⟨v,VB.2 (.inr u),a⟩,a4⟩
   ·rw [qc j] at h ⊢
    exact h
  ·unfold ZoV
   rw [qf (by rfl)];exact ⟨⟨WK b c,VB.2 (.inl rfl),rfl,rfl,rfl⟩,by show c.cls<(p.r.lims.length:Int);omega⟩
 ·rcases VB.1 u with rfl|u
  ·exact ⟨V7 b c,Xa.2 (.inr rfl),rfl,i.symm,rfl⟩
  ·obtain ⟨y,o,a⟩:=hl.backQ v u
   exact ⟨y,Xa.2 (.inl o),a⟩
 ·obtain ⟨y,o,a⟩:=hl.backH h D
  exact ⟨y,Xa.2 (.inl o),a⟩
def Zdb (k:Core b) (i:x∈b.L) (hs:x.state=1):Core { b with L:=V5 Bk.id x.id X6 b.L }:=by
 have d:∀ {y},y∈V5 Bk.id x.id X6 b.L->y=X6 x\/(y∈b.L/\y.id≠x.id):=λ {y} a=>by
  obtain ⟨z,hz,rfl⟩:=Yj.1 a;by_cases e:z.id=x.id
  ·rw [qf e,k.uniq hz i e];exact .inl rfl
  ·rw [qc e];exact .inr ⟨hz,e⟩
 have o:∀ {y},y∈b.L->y.id≠x.id->y∈V5 Bk.id x.id X6 b.L:=λ {y} a e=>Yj.2 ⟨y,a,by rw [qc e]⟩;have u:X6 x∈V5 Bk.id x.id X6 b.L:=Yj.2 ⟨x,i,by rw [qf rfl]⟩;refine ⟨k.now,k.next,k.good,k.qok,k.nums,k.few,Zaj k.ids λ _ _ e=>e,λ y a=>?_,by show (V5 Bk.id _ _ b.L).length<=_;rw [Zfg];exact k.many,λ y a=>?_,λ p m=>?_⟩
 ·rcases d a with rfl|⟨a,_⟩
  ·have j:=k.each x i
   exact ⟨j.id,j.flt,j.cls,j.many,⟨by show (1:Int)<=2;omega,by show (2:Int)<=3;omega⟩,⟨qG _,by show (0:Int)<=_;omega⟩,λ _=>rfl⟩
  ·exact k.each y a
 ·rcases d a with rfl|⟨a,_⟩
  ·exact k.there x i
  ·exact k.there y a
 ·have hl:=k.loc p m
  refine ⟨λ y a e=>?_,λ w n=>?_,λ h q=>?_⟩
  ·rcases d a with rfl|⟨a,_⟩
   ·have h:=hl.has x i e
    unfold ZoV at *;rw [qc (by omega)] at h;rw [qc (by show (2:Int)≠3;omega)];exact h
   ·exact hl.has y a e
  ·obtain ⟨y,a,v,g,l⟩:=hl.backQ w n
   refine ⟨y,o a λ e=>?_,v,g,l⟩;rw [k.uniq a i e] at l;omega
  ·obtain ⟨y,a,v,g,l⟩:=hl.backH h q
   by_cases e:y.id=x.id
   ·rw [k.uniq a i e] at v g
    exact ⟨X6 x,u,v,g,by show (2:Int)≠3;omega⟩
   ·exact ⟨y,o a e,v,g,l⟩
def Zhx (k:Core b) {r:RF} (c:b.at n=some p) (g:Y5 r) (h:Vo p.r r):Core (b.put n (Xe r) b.L):=by
 obtain ⟨d,u⟩:=Yg c;refine k.swap (next:=b.next) ⟨qG _,k.next.2⟩ (λ j q A=>?_) k.ids k.each k.many (λ y _=>zU) λ y _ _=>⟨p,d,u⟩;obtain rfl:j=p:=k.uniqP q d (by omega);have hl:=k.loc _ d;have a:(Xe r j).n=j.n:=h.num;refine ⟨by rw [a];exact u,g,k.qok j d,λ y v e=>?_,λ w D=>?_,λ o s=>?_⟩
 ·have z:=hl.has y v (by rw [e,a])
  unfold ZoV at *;by_cases f:y.state=3
  ·rw [qf f] at z ⊢
   exact ⟨z.1,by show y.cls<(r.lims.length:Int);rw [h.lims];exact z.2⟩
  ·rw [qc f] at z ⊢
   obtain ⟨o,s,t,l,m⟩:=z;obtain ⟨x,i,E,F,G⟩:=h.mem s;exact ⟨x,i,by omega,by omega,by omega⟩
 ·obtain ⟨y,v,t,l,m⟩:=hl.backQ w D
  exact ⟨y,v,t,by rw [l,a],m⟩
 ·obtain ⟨x,i,E,_,_⟩:=h.symm.mem s
  obtain ⟨y,v,t,l,m⟩:=hl.backH x i;exact ⟨y,v,by omega,by rw [l,a],m⟩
def ZfH (k:Core b) {t:Int} (h:0<=t/\t<=1099511627776):Core { b with now:=t }:=⟨h,k.next,k.good,k.qok,k.nums,k.few,k.ids,k.each,k.many,k.there,k.loc⟩
def ZpZ:(Uh b x).now=b.now:=rfl
def Zn7:∀ (l:List Bk) {b:ZF},Core b->(∀ x∈l,x∈b.L)->X8 Bk.id l->
  Core (VY l b)/\(VY l b).now=b.now/\(VY l b).next=b.next/\((VY l b).fl.map Pl.n=b.fl.map Pl.n)/\∀ y,y∈(VY l b).L↔y∈b.L/\¬ (y∈l/\old b.now y=true)
 |[],b,k,_,_=>⟨k,rfl,rfl,rfl,λ y=>by simp [VY]⟩
 |x::l,b,k,hl,t=>by
  have v:=qC.1 t;have z:=hl x (by simp);unfold VY;by_cases i:old b.now x=true
  ·rw [qf i]
   have hs:x.state=1:=by unfold old at i;simp at i;exact i.1
   have k':=ZaA k z (by omega);have g:∀ y∈l,y∈(Uh b x).L:=λ y u=>WY.2 ⟨hl y (by simp [u]),by have:=v.1 y u;omega⟩;obtain ⟨j,m,p,r,s⟩:=Zn7 l k' g v.2;refine ⟨j,m,p,r.trans (Zak (λ q e=>by show (Xg _ _).1.num=_;rw [Uf.1];exact e) _),λ y=>?_⟩;rw [s,ZpZ];have hm:y∈(Uh b x).L↔y∈b.L/\y.id≠x.id:=WY;rw [hm,qk];constructor
   ·rintro ⟨⟨a,d⟩,f⟩
    refine ⟨a,λ⟨h,o⟩=>?_⟩;rcases h with rfl|h
    ·exact d rfl
    ·exact f ⟨h,o⟩
   ·rintro ⟨a,d⟩
    refine ⟨⟨a,λ e=>d ⟨.inl (k.uniq a z e),?_⟩⟩,λ⟨h,o⟩=>d ⟨.inr h,o⟩⟩;rw [k.uniq a z e];exact i
  ·rw [qc i]
   obtain ⟨j,m,p,r,s⟩:=Zn7 l k (λ y u=>hl y (by simp [u])) v.2;refine ⟨j,m,p,r,λ y=>?_⟩;rw [s,qk];constructor
   ·rintro ⟨a,d⟩
    refine ⟨a,λ⟨h,o⟩=>?_⟩;rcases h with rfl|h
    ·exact i o
    ·exact d ⟨h,o⟩
   ·rintro ⟨a,d⟩
    exact ⟨a,λ⟨h,o⟩=>d ⟨.inr h,o⟩⟩
def Zb5 (k:Core b) {t:Int} (h:0<=t/\t<=1099511627776):Core (WO b t)/\Vn (WO b t)/\(WO b t).now=t/\(WO b t).next=b.next/\(WO b t).fl.map Pl.n=b.fl.map Pl.n:=by
 obtain ⟨d,a,o,i,u⟩:=Zn7 b.L (ZfH k h) (λ x v=>v) k.ids;refine ⟨d,λ y z hs=>?_,a,o,i⟩;obtain ⟨g,j⟩:=(u y).1 z;show (WO b t).now<_;rw [show (WO b t).now=t from a]
 refine Int.not_le.1 λ l=>j ⟨g,?_⟩;unfold old;simp [hs];exact l
def Zd3:∀ (l:List Int) {b:ZF},Core b->Vn b->∀ S:Int->Prop,(∀ p∈b.fl,S p.n->Zbh p)->
  Core (XU l b)/\Vn (XU l b)/\(XU l b).now=b.now/\(XU l b).next=b.next/\(XU l b).fl.map Pl.n=b.fl.map Pl.n/\∀ p∈(XU l b).fl,(S p.n\/p.n∈l)->Zbh p
 |[],b,k,t,S,h=>⟨k,t,rfl,rfl,rfl,λ p a e=>h p a (by simpa using e)⟩
 |n::l,b,k,t,S,h=>by
  obtain ⟨u,d,v,y⟩:=XC (n:=n) k;obtain ⟨z,g,j,m,q,r⟩:=Zd3 l u (v t) (λ k=>S k\/k=n) λ p a e=>by
   by_cases o:p.n=n
   ·exact y p a o
   ·rcases d.others p a with i|i
    ·exact absurd i o
    ·exact h p i (e.resolve_right o)
  refine ⟨z,g,j.trans d.now,m.trans d.next,q.trans d.keys,λ p a e=>r p a ?_⟩;rcases e with e|e
  ·exact .inl (.inl e)
  ·rcases qk.1 e with e|e
   ·exact .inl (.inr e)
   ·exact .inr e
def YK.promoted (k:Core b) (t:Vn b) (h:∀ p∈b.fl,p.n=n\/Zbh p):YK (ZH n b):=by
 obtain ⟨o,i,u,v⟩:=XC (n:=n) k;refine ⟨o,u t,λ p d=>?_⟩;by_cases e:p.n=n
 ·exact v p d e
 ·rcases i.others p d with a|a
  ·exact absurd a e
  ·exact (h p a).resolve_left e
def Zng {r:RF}:Zbh ⟨r,[]⟩:=rfl
def Zk5 (g:Y5 p.r) (d:QOk p.q) (h:Zbh p) {id cls many:Int} (ht:(Zy p.r id cls many).2=0):Zbh (takeP id cls many p):=by
 unfold Zbh Ys at *;rw [List.find?_eq_none] at *;intro w a o;exact h w a (Zn2 g ht (d.ok w a).2.1.1 o)
def Zk6 {r:RF} (h:Zbh p) (hs:Vo p.r r):Zbh (Xe r p):=by
 unfold Zbh at *;show Ys p.q (Zr r)=none;rw [hs.lefts];exact h
def ZmY {f:Pl->Pl} {L:List Bk} {q:Pl} (h:q∈(b.put n f L).fl):(∃ p∈b.fl,p.n=n/\q=f p)\/(q∈b.fl/\q.n≠n):=by
 obtain ⟨z,hz,rfl⟩:=Yj.1 h;by_cases e:z.n=n
 ·rw [qf e];exact .inl ⟨z,hz,e,rfl⟩
 ·rw [qc e];exact .inr ⟨hz,e⟩
def Zrz (k:YK b):YK (Wi b c).1:=by
 unfold Wi;split
 ·exact k
 rename_i d;split
 ·exact k
 rename_i i;split
 ·exact k
 rename_i h;have o:b.at c.flt=none:=by cases e:b.at c.flt with|none=>rfl|some p=>rw [e] at d;simp at d
 have h:Zae c.flt c.rows c.grps c.parts:=qI h;refine ⟨Zoi k.core (ZbT h) rfl o (by omega),k.time,λ p a=>?_⟩;rcases Ud.1 a with rfl|a
 ·exact Zng
 ·exact k.nofit p a
def ZrA (k:YK b) (u:Z9 c):YK (XE b c).1:=by
 unfold XE;cases i:b.at c.flt with
 |none=>exact k
 |some p=>
  dsimp only;split
  ·exact k
  rename_i j;split
  ·exact k
  rename_i v;split
  ·exact k
  rename_i h;have h:(Zy p.r b.next c.cls c.many).2=0:=qI h;obtain ⟨a,g⟩:=Yg i;refine ⟨Zaz k.core u i v h,λ y d hs=>?_,λ q o=>?_⟩
  ·rcases Xa.1 d with d|rfl
   ·exact k.time y d hs
   ·show b.now<c.time;omega
  ·rcases ZmY (b:=b) (L:=b.L) o with ⟨z,hz,e,rfl⟩|⟨o,_⟩
   ·obtain rfl:z=p:=k.core.uniqP hz a (by omega)
    exact Zk5 (k.core.good _ hz) (k.core.qok _ hz) (k.nofit _ hz) h
   ·exact k.nofit q o
def Zry (k:YK b) (o:Z9 c) (hs:c.sc<18446744073709551616):YK (YU b c).1:=by
 unfold YU;cases i:b.at c.flt with
 |none=>exact k
 |some p=>
  dsimp only;split
  ·exact k
  rename_i u;split
  ·exact k
  rename_i v;split
  ·exact k
  rename_i h;have h:(WW p.q (WK b c)).2=0:=qI h;refine YK.promoted (Zay k.core o hs i u v h) (λ y a hs=>?_) λ q d=>?_
  ·rcases Xa.1 a with a|rfl
   ·exact k.time y a hs
   ·exact absurd hs (by show (3:Int)≠1;omega)
  ·rcases ZmY (b:=b) (L:=b.L) d with ⟨z,hz,e,rfl⟩|⟨d,_⟩
   ·exact .inl e
   ·exact .inr (k.nofit q d)
def ZpB (k:YK b) (d:Z9 c):YK (YH b c).1:=by
 unfold YH;split
 ·exact k
 obtain ⟨t1,t2,z,g,o⟩:=Zb5 k.core d.time;obtain ⟨i,u,j,l,v,y⟩:=Zd3 (b.fl.map Pl.n) t1 t2 (λ _=>False) λ p _ h=>h.elim;refine ⟨i,u,λ p a=>y p a (.inr ?_)⟩;rw [<-o,<-v];exact ul a
def ZuU (k:YK b) (i:x∈b.L):YK (Gm b x c).1:=by
 unfold Gm;cases u:b.at x.flt with
 |none=>exact k
 |some p=>
  obtain ⟨a,v⟩:=Yg u;dsimp only;split
  ·split
   ·exact k
   ·rename_i h
    have h:x.state=1:=qI h;refine ⟨Zdb k.core i h,λ y o hs=>?_,k.nofit⟩;obtain ⟨z,hz,rfl⟩:=Yj.1 o;by_cases e:z.id=x.id
    ·rw [qf e] at hs;exact absurd hs (by show (2:Int)≠1;omega)
    ·rw [qc e] at hs ⊢;exact k.time z hz hs
  ·split
   ·exact YK.promoted (Zdd k.core i) (ZiK k.time) λ q d=>(ZrT d).imp_right (k.nofit q)
   ·split
    ·exact k
    ·have seat:∀ r,Y5 r->Vo p.r r->YK (b.put x.flt (Xe r) b.L):=λ r g hs=>by
      refine ⟨Zhx k.core u g hs,λ y o=>k.time y o,λ q d=>?_⟩;rcases ZmY (b:=b) (L:=b.L) d with ⟨z,hz,e,rfl⟩|⟨d,_⟩
      ·obtain rfl:z=p:=k.core.uniqP hz a (by omega)
       exact Zk6 (k.nofit _ hz) hs
      ·exact k.nofit q d
     split
     ·split
      ·exact k
      ·rename_i h
       exact seat _ (ZcY (k.core.good p a) _ _) (Zh1 (k.core.good p a) (qI h))
     ·split
      ·exact k
      ·rename_i h
       exact seat _ (ZcZ (k.core.good p a) _) (Zi4 (qI h))
def ZcJ {s:ByteArray} {e:Int} (h:Xi b s=(some x,e)):x∈b.L:=by
 unfold Xi at h;split at h
 ·cases h
 ·split at h
  ·cases h
  ·rename_i y a
   cases h;exact (Uz a).1
def ZjD (k:YK b) (hs:c.sc<18446744073709551616):YK (ZT b c).1:=by
 unfold ZT;split
 ·exact k
 rename_i h;have h:Z9 c:=qI h;split
 ·exact Zrz k
 split
 ·exact ZrA k h
 split
 ·exact Zry k h hs
 split
 ·exact ZpB k h
 split
 ·exact k
 split
 ·exact k
 ·rename_i a
  exact ZuU k (ZcJ a)
def Zb7 {b:ZF} {x:Bk}:(YW b x).code=0:=by
 unfold YW;split<;>rfl
def ZpX (h:(YU b c).2.code≠0):YU b c=(b,Z4 (YU b c).2.code):=by
 unfold YU at *;cases a:b.at c.flt with
 |none=>rfl
 |some p=>
  rw [a] at h;dsimp only at h ⊢;split
  ·rfl
  rename_i d;rw [qc d] at h;split
  ·rfl
  rename_i o;rw [qc o] at h;split
  ·rfl
  rename_i i;rw [qc i] at h;refine absurd ?_ h;dsimp only;split
  ·rfl
  ·exact Zb7
def ZdD (k:YK b) (j:Z9 c) (hs:c.sc<18446744073709551616):
  ((YU b c).2.code≠0/\(YU b c).1=b)\/
  (∃ p y,b.at c.flt=some p/\¬ (p.r.lims.length:Int)<=c.cls/\¬ b.full/\(WW p.q (WK b c)).2=0/\Core (XL b c)/\
   y∈(ZH c.flt (XL b c)).L/\y.id=b.next/\y.flt=c.flt/\y.cls=c.cls/\y.many=c.many/\y.till=0/\
   YU b c=(ZH c.flt (XL b c),YW (ZH c.flt (XL b c)) y)):=by
 unfold YU;cases l:b.at c.flt with
 |none=>exact .inl ⟨by show (2:Int)≠0;omega,rfl⟩
 |some p=>
  dsimp only;split
  ·exact .inl ⟨by show (1:Int)≠0;omega,rfl⟩
  rename_i i;split
  ·exact .inl ⟨by show (3:Int)≠0;omega,rfl⟩
  rename_i u;split
  ·rename_i h;exact .inl ⟨h,rfl⟩
  rename_i h;have h:(WW p.q (WK b c)).2=0:=qI h;have kc:=Zay k.core j hs l i u h;obtain ⟨m,v,_,_⟩:=XC (n:=c.flt) kc;have a:b.next∈(ZH c.flt (XL b c)).L.map Bk.id:=by
   rw [v.ids];exact qm.2 ⟨V7 b c,Xa.2 (.inr rfl),rfl⟩
  obtain ⟨y,d,g⟩:=qm.1 a;obtain ⟨z,hz,f,s,t,x,e⟩:=v.bk y d;have o:z=V7 b c:=by
   rcases Xa.1 hz with hz|rfl
   ·have:=k.core.fresh hz;omega
   ·rfl
  subst o;refine .inr ⟨p,y,rfl,i,u,h,kc,d,g,s,t,x,e,?_⟩;rw [(Zew m).2 ⟨d,g⟩]
end
section
open Go Go.VC Tryz
variable {b:ZF} {n:Int} {p:Pl} {w:Wt} {x:Bk} {c:Cm} {r:RF}
def Zqt {f:Nat->Int}:∀ {k:Nat},(∀ i,i<k->0<=f i)->0<=mnF f k/\mnF f k<=10000
 |0,_=>by show (0:Int)<=10000/\(10000:Int)<=10000;omega
 |k + 1,h=>by
  have a:=Zqt (k:=k) λ i hi=>h i (by omega);have d:=h k (by omega);unfold mnF;split<;>omega
def ZbP (g:Y5 r):(Zr r).length<=8/\∀ y∈Zr r,0<=y/\y<=10000:=by
 have a:=(WE g).2.2;refine ⟨by rw [Zai];exact a,λ y d=>?_⟩;obtain ⟨k,hk,rfl⟩:=qm.1 d;have hk:=jC.1 hk;rw [(ZbQ g hk).1];refine Zqt λ i hi=>?_;have h:=(ZP.1 g.nest).2.2 i (by omega);unfold VI;omega
def ZrI {q:Fin 60} {m:Fin 10}:(Uy (q.1 + 1) m.1).length<=3:=by
 have:∀ q:Fin 60,∀ m:Fin 10,(Uy (q.1 + 1) m.1).length<=3:=by decide +kernel
 exact this q m
def ZnA {n:Int} {g:List Int} {k:Int}:(Zfe n g k).1.size<=3:=by
 unfold Zfe;split
 ·rename_i h
  obtain ⟨a,b,q,m,_,_,o,b2,d,hm,e,_⟩:=Ziz h;dsimp only;rw [e,ZdG];exact ZrI (q:=⟨q,d⟩) (m:=⟨m,by omega⟩)
 ·exact jB _
def Zny (g:Y5 r) (o:Int):(YD r o).length<=600/\∀ s∈YD r o,s.size<=3:=by
 unfold YD;cases h:Wc o r.L with
 |none=>exact ⟨by simp,λ s hs=>(by cases hs)⟩
 |some hd=>
  obtain ⟨hm,_⟩:=(Zas g.rise.ne).1 h;have a:=(g.each hd hm).few;have d:=g.len.2 hd hm;dsimp only;unfold XD;refine ⟨by rw [qa];omega,λ s hs=>?_⟩;obtain ⟨k,_,rfl⟩:=qm.1 hs;exact ZnA
def Znp (id:Int):(ZrH id).size=6:=by
 unfold ZrH;rw [ZdG,Zfa]
def Us {n:Int} (g:Y5 p.r) (h:Zq0 n x):Zkh (Xp p x):=by
 obtain ⟨a,d⟩:=ZbP g;obtain ⟨o,b2⟩:=Zny g x.id;have u:=h.flt;have v:=h.cls;have z:=h.many;have j:=h.state;have k:=h.till;refine ⟨by show (0:Int)<=0/\(0:Int)<=_;omega,by show (ZrH x.id).size<=16;rw [Znp];omega,?_,?_,?_,?_,?_,a,λ y i=>?_,o,λ s hs=>?_⟩
 ·show 0<=x.state/\x.state<=_;omega
 ·show 0<=x.flt/\x.flt<=_;omega
 ·show 0<=x.cls/\x.cls<=_;omega
 ·show 0<=x.many/\x.many<=_;omega
 ·show 0<=x.till/\x.till<=_;omega
 ·have:=d y i;omega
 ·have:=b2 s hs;omega
def G7 {e f m t:Int} {s:ByteArray} {l:List Int} (a:0<=e/\e<=1099511627776) (d:0<=f/\f<=1099511627776) (hm:0<=m/\m<=1099511627776) (ht:0<=t/\t<=1099511627776) (hs:s.size<=16) (hl:l.length<=8/\∀ y∈l,0<=y/\y<=10000):Zkh ⟨e,s,0,f,0,m,t,l,[]⟩:=
 ⟨a,hs,by show (0:Int)<=0/\(0:Int)<=_;omega,d,by show (0:Int)<=0/\(0:Int)<=_;omega,hm,ht,hl.1,λ y h=>by have:=hl.2 y h;omega,by show ([]:List ByteArray).length<=_;simp,λ y h=>(by cases h)⟩
def Yb {e:Int} (h:0<=e/\e<=1099511627776):Zkh (Z4 e):=
 G7 h (by omega) (by omega) (by omega) (by show emS.size<=16;decide) ⟨by simp,λ y a=>(by cases a)⟩
def ZdS (k:Core b) (h:x∈b.L):Zkh (YW b x):=by
 obtain ⟨p,a⟩:=k.at_of h;unfold YW;rw [a];exact Us (k.good p (Yg a).1) (k.each x h)
def Zma {o c m:Int}:0<=(Zy r o c m).2/\(Zy r o c m).2<=7:=by
 unfold Zy;split
 ·(dsimp only;omega)
 ·split
  ·(dsimp only;omega)
  ·split
   ·(dsimp only;omega)
   ·dsimp only
    unfold YP;split
    ·(dsimp only;omega)
    ·split<;>(dsimp only;omega)
def ZmV {q:List Wt}:0<=(WW q w).2/\(WW q w).2<=7:=by
 unfold WW;split
 ·(dsimp only;omega)
 ·split
  ·(dsimp only;omega)
  ·split<;>(dsimp only;omega)
def Zmp {o:Int} {lab:ByteArray}:0<=(ZR r o lab).2/\(ZR r o lab).2<=7:=by
 by_cases h:(ZR r o lab).2=0
 ·omega
 ·have:=(Zmo h).2;omega
def ZoN (g:Y5 r) {o:Int}:0<=(ZQ r o).2.2/\(ZQ r o).2.2<=7:=by
 obtain ⟨f,_,t⟩:=Zc9 g;have:=(ZeJ t g o).2.2.2;omega
def ZpJ {l:List Int}:0<=(Xj l).2/\(Xj l).2<=7:=by
 unfold Xj;split
 ·(dsimp only;omega)
 ·split<;>(dsimp only;omega)
def Zd7 {s:ByteArray}:0<=(Xi b s).2/\(Xi b s).2<=7:=by
 unfold Xi;split
 ·exact ZpJ
 ·split<;>(dsimp only;omega)
def Zfz:emS.size<=16:=by decide
def Zgz (k:YK b):Zkh (Xv b c):=by
 unfold Xv;split
 ·exact Yb (by omega)
 rename_i d;split
 ·split
  ·rename_i e h
   have:=Zd7 (b:=b) (s:=c.pnr);rw [h] at this;exact Yb (by dsimp only at this;omega)
  ·rename_i h
   exact ZdS k.core (ZcJ h)
 ·split
  ·exact Yb (by omega)
  ·rename_i p a
   have a:=Yg a;have o:Z9 c:=qI λ h=>d (.inl h);have i:=o.flt;have u:=(k.core.qok p a.1).len;unfold Vq at i;exact G7 (by omega) (by omega) (by omega) (by omega) Zfz (ZbP (k.core.good p a.1))
def ZaT (k:YK b) (hs:c.sc<18446744073709551616):Zkh (ZT b c).2:=by
 have k':=ZjD k hs;unfold ZT at *;split
 ·exact Yb (by omega)
 rename_i d;have d:Z9 c:=qI d;have l:=d.flt;unfold Vq at l;split
 ·unfold Wi
  split
  ·exact Yb (by omega)
  ·split
   ·exact Yb (by omega)
   ·split
    ·exact Yb (by omega)
    ·rename_i h
     have h:Zae c.flt c.rows c.grps c.parts:=qI h;exact G7 (by omega) (by omega) (by omega) (by omega) Zfz (ZbP (ZbT h))
 split
 ·unfold XE
  cases i:b.at c.flt with
  |none=>exact Yb (by omega)
  |some p=>
   obtain ⟨u,t⟩:=Yg i;have:=Zma (r:=p.r) (o:=b.next) (c:=c.cls) (m:=c.many);dsimp only;split
   ·exact Yb (by omega)
   rename_i f;split
   ·exact Yb (by omega)
   rename_i z;split
   ·exact Yb (by omega)
   ·rename_i a
    have k2:=Zaz k.core d i z (qI a);exact Us (n:=b.next + 1) (Zaq (k.core.good p u) _ _ _) (k2.each (Xc b c) (Xa.2 (.inr rfl)))
 split
 ·rcases ZdD k d hs with ⟨h,h'⟩|⟨_,y,_,_,_,_,D,v,_,_,_,_,_,e⟩
  ·rw [ZpX h]
   refine Yb ?_;unfold YU at h ⊢;cases i:b.at c.flt with
   |none=>show (0:Int)<=2/\(2:Int)<=_;omega
   |some p=>
    have:=ZmV (w:=WK b c) (q:=p.q);rw [i] at h;dsimp only at h ⊢;by_cases f:(p.r.lims.length:Int)<=c.cls
    ·rw [qf f];show (0:Int)<=1/\(1:Int)<=_;omega
    rw [qc f] at h ⊢;by_cases z:b.full
    ·rw [qf z];show (0:Int)<=3/\(3:Int)<=_;omega
    rw [qc z] at h ⊢;by_cases a:(WW p.q (WK b c)).2≠0
    ·rw [qf a];show 0<=(WW p.q (WK b c)).2/\(WW p.q (WK b c)).2<=_;omega
    ·rw [qc a] at h
     refine absurd ?_ h;dsimp only;split
     ·rfl
     ·exact Zb7
  ·rw [e]
   exact ZdS (XC (n:=c.flt) D).1 v
 split
 ·unfold YH
  split
  ·exact Yb (by omega)
  ·exact G7 (by omega) (by omega) (by omega) d.time Zfz ⟨by simp,λ y v=>(by cases v)⟩
 split
 ·exact Zgz k
 split
 ·rename_i e h
  have:=Zd7 (b:=b) (s:=c.pnr);rw [h] at this;exact Yb (by dsimp only at this;omega)
 ·rename_i x e h
  have j:=ZcJ h;obtain ⟨p,i⟩:=k.core.at_of j;obtain ⟨u,t⟩:=Yg i;have g:=k.core.good p u;have A:=k.core.each x j;have s1:=Zmp (r:=p.r) (o:=x.id) (lab:=c.lab);have s2:=ZoN g (o:=x.id);unfold Gm;rw [i];dsimp only;split
  ·split
   ·exact Yb (by omega)
   ·rename_i a
    have a:x.state=1:=qI a;exact Us (n:=b.next) g ((Zdb k.core j a).each (X6 x) (Yj.2 ⟨x,j,by rw [qf rfl]⟩))
  ·split
   ·exact G7 (by omega) (by omega) (by omega) (by omega) d.pnr ⟨by simp,λ y v=>(by cases v)⟩
   ·split
    ·exact Yb (by omega)
    ·split
     ·split
      ·exact Yb (by omega)
      ·exact Us (p:=Xe _ p) (ZcY g _ _) A
     ·split
      ·exact Yb (by omega)
      ·exact Us (p:=Xe _ p) (ZcZ g _) A
end
section
open Go Go.VC Tryz
open Classical
noncomputable section
variable {b:ZF} {n:Int} {p:Pl} {w:Wt} {x:Bk} {r:RF}
def Zl6 (g:Y5 r):(Zz r.L).length<=600:=by
 have o:=Zpf g;have u:=(Wq r.rows r.grps).2;have d:=ZpD (m:=(List.range 600).map λ (k:Nat)=>(k:Int)) o λ x a=>by
  obtain ⟨h,i,a⟩:=WC.1 a;have:=(g.each h i).seats x a;exact qm.2 ⟨x.toNat,jC.2 (by omega),by omega⟩
 rw [qa,vu] at d;exact d
def Zbv:∀ {L:List Zw},(∀ h∈L,ZbA h)->(Yi L).length<=36 * L.length + 9 * (Zz L).length
 |[],_=>by simp [Yi,Zz]
 |h::L,a=>by
  have ih:=Zbv λ x u=>a x (qj h u);have d:=a h qq;have s3:VH [h.owner,h.cls,h.many]:=by
   intro y i;have:=d.o;have:=d.c;have:=d.m;simp at i;omega
  have v:=Zx (Y9 s3);have z:=WD (l:=h.seats) (λ y i=>by have:=d.s y i;omega) (by have:=d.n;omega);have e1:Yi (h::L)=UB h++Yi L:=by simp [Yi]
  have e2:Zz (h::L)=h.seats++Zz L:=by simp [Zz]
  have e3:(UB h).length=(Zf [h.owner,h.cls,h.many]).length + (Vr h.seats).length:=by unfold UB;rw [qb]
  rw [e1,e2,qb,qb,qr,e3];simp only [qr,qN] at v;omega
def ZaW (g:Y5 r):(WL r).length<=28000:=by
 have s:=U5 g;obtain ⟨i,u,v⟩:=Z7.1 g.lay;obtain ⟨m1,m2,m3⟩:=WE g;have a:=g.len.1;have ht:=Zl6 g;have u2:VH [r.num,r.rows]:=by intro y h;have:=s.num;have:=s.rows;simp at h;omega
 have u1:VH [(r.L.length:Int)]:=by intro y h;simp at h;omega
 have d:=Zx (Y9 u2);have z:=WD s.grps (by omega);have j:=WD s.lims (by omega);have o:=Zx (Y9 u1);have k:=Zbv (Zfo g);simp only [qr,qN] at d o;unfold WL ZqD;simp only [qb];omega
def ZpU {x:Nat} (h:x<18446744073709551616):(Zx7 x).length<=9:=YS (Zqx h)
def Zl {x:Int} (h:0<=x/\x<18446744073709551616):(Zf [x]).length<=9:=by
 have:=Zx (l:=[x]) λ y a=>by rw [qK.1 a];exact h
 simpa using this
def ZhQ (h:w.Ok) (a:w.sc<18446744073709551616):(wtB w).length<=45:=by
 obtain ⟨d,o,i,u⟩:=h;have a1:=Zl (x:=w.id) (by omega);have a2:=Zl (x:=w.cls) (by omega);have a3:=Zl (x:=w.many) (by omega);have a4:=Zl (x:=w.time) (by omega);have a5:=ZpU a;unfold wtB;simp only [qb];omega
def YT {α:Type} {code:α->List Int} {m:Nat}:∀ {l:List α},(∀ x∈l,(code x).length<=m)->((l.map code).flatten).length<=m * l.length
 |[],_=>by simp
 |a::l,h=>by
  have o:=h a (by simp);have i:=YT (l:=l) λ x d=>h x (by simp [d]);rw [qi,jt,qb,qr,Nat.mul_succ];omega
def ZmW {q:List Wt} (h:QOk q):(qB q).length<=9009:=by
 have d:=Zl (x:=(q.length:Int)) (by have:=h.len;omega);have o:=YT (l:=q) (code:=wtB) (m:=45) λ w a=>ZhQ (h.ok w a) (h.fl w a);have:=h.len;unfold qB;rw [qb];omega
def Yr {d:List Int} (h:d.length<1000000):(XI d).length<=d.length + 9:=by
 have:=YS (n:=d.length) (by omega);unfold XI;rw [qb];omega
def Zim (g:Y5 p.r) (h:QOk p.q):(plB p).length<=38000:=by
 have a:=ZaW g;have o:=ZmW h;have i:=Yr (d:=WL p.r) (by omega);have u:=Yr (d:=qB p.q) (by omega);unfold plB;rw [qb];omega
def ZfP {n:Int} (a:n<=28629151) (h:Zq0 n x):(bkB x).length<=54:=by
 have:=h.id;have:=h.flt;have:=h.cls;have:=h.many;have:=h.state;have:=h.till;have a0:=Zl (x:=x.id) (by omega);have a1:=Zl (x:=x.flt) (by omega);have a2:=Zl (x:=x.cls) (by omega);have a3:=Zl (x:=x.many) (by omega);have a4:=Zl (x:=x.state) (by omega);have a5:=Zl (x:=x.till) (by omega);unfold bkB;simp only [qb];omega
def Zcf (k:Core b):(Gi b).length<=400000:=by
 have o:=k.now;have a:=k.next;have i:=k.few;have u:=k.many;have a1:=Zl (x:=b.now) (by omega);have a2:=Zl (x:=b.next) (by omega);have a3:=Zl (x:=(b.fl.length:Int)) (by omega);have a4:=Zl (x:=(b.L.length:Int)) (by omega);have a5:=YT (l:=b.fl) (code:=plB) (m:=38000) λ p h=>Zim (k.good p h) (k.qok p h);have a6:=YT (l:=b.L) (code:=bkB) (m:=54) λ x d=>ZfP a.2 (k.each x d);unfold Gi;simp only [qb];omega
end
end
section
open Go Go.VC Ieee Tryz
variable {R:Cx} {Hs Rest:List HP} {w:World}
theorem Zr7 : (f210.name == "runtime.NumGoroutine") = false := by kernel_rfl
def Zr9:f210.body.isNone=true:=by kernel_rfl
def Zr6:Extern.findNext f210=none:=by kernel_rfl
def Zr8:Extern.find f210=some Extern.MathFloatBits.float64bits:=by kernel_rfl
theorem Zr3 : (f222.name == "runtime.NumGoroutine") = false := by kernel_rfl
def Zr5:f222.body.isNone=true:=by kernel_rfl
def Zr2:Extern.findNext f222=none:=by kernel_rfl
def Zr4:Extern.find f222=some Extern.MathFloatBits.float64frombits:=by kernel_rfl
def Zkd (x:Nat) (w:nW):(callFunc 210 #[xF x]).run prog w=.ok (.value (.int .u64 x)) w:=by
 rw [run_callFunc_extern func210 Zr7 Zr9 Zr6 Zr8];rfl
def ZbV (n:Nat) (w:nW):(callFunc 222 #[.int .u64 n]).run prog w=.ok (.value (xF n)) w:=by
 rw [run_callFunc_extern func222 Zr3 Zr5 Zr2 Zr4];rfl
def ZpM {x:Nat} (a:x<18446744073709551616) (o:Sat R Hs w):Zg prog 135 #[xF x] w λ v w'=>v=.int .u64 (ZnD x:Nat)/\Sat R Hs w':=by
 apply ZtZ;refine ⟨_,w,Zkd x w,_,rfl,?_⟩;have e1:ZaH BinOp.and IntKind.u64 (x:Int) 9223372036854775808=((x &&& 9223372036854775808:Nat):Int):=ZqU (y:=9223372036854775808) a (by decide);have e2:ZaH BinOp.or IntKind.u64 (x:Int) 9223372036854775808=((x|||9223372036854775808:Nat):Int):=ZuS (y:=9223372036854775808) a (by decide);rw [e1,e2,ZoR a];refine Br.mk (λ h=>⟨?_,o⟩) (λ h=>⟨?_,o⟩)
 ·rw [Znf a]
  unfold ZnD;split at h
  ·simp at h
  ·rename_i d;rw [qc d]
 ·split at h
  ·rename_i d
   rw [ZuR d];unfold ZnD;rw [qf d]
  ·simp at h
def ZrD {k:Nat} (hk:k<18446744073709551616) (d:Sat R Hs w):Zg prog 229 #[.int .u64 k] w λ v w'=>v=xF (ofF k)/\Sat R Hs w':=by
 apply ZsW;have e1:ZaH BinOp.and IntKind.u64 (k:Int) 9223372036854775808=((k &&& 9223372036854775808:Nat):Int):=ZqU (y:=9223372036854775808) hk (by decide);unfold B229;rw [e1,ZoR hk];refine Br.mk (λ h=>?_) (λ h=>?_)
 ·rw [Znf hk]
  refine ⟨_,w,ZbV _ w,_,rfl,?_,d⟩;unfold ofF;split at h
  ·rename_i a;rw [qc (by omega)]
  ·simp at h
 ·have a:¬ k<9223372036854775808:=by
   intro a;rw [qf a] at h;simp at h
  have e2:=ZlM hk (by omega);rw [e2];refine ⟨_,w,ZbV _ w,_,rfl,?_,d⟩;unfold ofF;rw [qf (by omega)]
def ZiW (t1 t2:Operand) (T:TypeId) (x y:Nat) (w:nW):((do eqGuard BinOp.lss T t1 t2 (xF x) (xF y);binOp BinOp.lss T (xF x) (xF y):Sem Value)).run prog w=.ok (.bool (double.order x y==some .lt)) w:=by
 simp [eqGuard,binOp,Op.floatCmp,FloatKind.format]
def Zom (t1 t2:Operand) (T:TypeId) (x y:Nat) (w:nW):((do eqGuard BinOp.eql T t1 t2 (xF x) (xF y);binOp BinOp.eql T (xF x) (xF y):Sem Value)).run prog w=.ok (.bool (double.order x y==some .eq)) w:=by
 simp [eqGuard,binOp,Op.floatCmp,FloatKind.format]
def ZjF {x:Nat} (a:Sat R Hs w):Zg prog 293 #[xF x] w λ v w'=>v=.bool (ZhN x)/\Sat R Hs w':=by
 apply Zsq;refine ⟨_,λ w' _=>Zj8 _ _ _ _ _ w',?_,a⟩;have h:=ZjB x;rw [bne,h,Bool.not_not]
def ZfJ {x y:Nat} (a:Sat R Hs w):Zg prog 277 #[xF x,xF y] w λ v w'=>v=nI (GE x y)/\Sat R Hs w':=by
 apply Zsu;refine (ZjF a).u λ w a=>?_;refine ⟨_,rfl,?_⟩;refine (ZjF a).u λ w a=>?_;refine ⟨_,rfl,?_⟩;unfold GE;refine Br.mk (λ i=>?_) (λ i=>?_)
 ·refine Br.mk (λ o=>⟨?_,a⟩) (λ o=>⟨?_,a⟩)
  ·rw [Zbu i,Zbu o,qc (by omega),qf rfl]
  ·have:=ZpL o
   rw [Zbu i,qf (by omega)]
 ·refine Br.mk (λ o=>⟨?_,a⟩) (λ o=>?_)
  ·have:=ZpL i
   rw [Zbu o,qc (by omega),qc (by omega)]
  ·obtain ⟨z,k,g⟩:=Zna i o
   refine ⟨_,λ w' _=>ZiW _ _ _ _ _ w',?_⟩;rw [z];refine Br.d (λ h=>⟨by rw [qf h],a⟩) (λ h=>?_);refine ⟨_,λ w' _=>ZqN _ _ _ _ _ w',?_⟩;rw [g];refine Br.d (λ j=>⟨by rw [qc h,qc (by omega)],a⟩) (λ j=>⟨by rw [qc h,qf (by omega)],a⟩)
def ZmM {x y:Nat} (h:Sat R Hs w):Zg prog 243 #[xF x,xF y] w λ v w'=>v=nI (GE x y)/\Sat R Hs w':=by
 apply ZsM;refine (ZfJ h).u λ w h=>?_;exact ⟨_,rfl,rfl,h⟩
def Zp5 (x y:Int):Int:=if x<y then -1 else if y<x then 1 else 0
def ZaC {x y:Int} (a:Sat R Hs w):Zg prog 244 #[nI x,nI y] w λ v w'=>v=nI (Zp5 x y)/\Sat R Hs w':=by
 apply ZsL;have nan:∀ {z:Int} {w:World},Sat R Hs w->Zg prog 278 #[nI z] w λ v w'=>v=.bool false/\Sat R Hs w':=λ {z w} a=>by
  apply Zow;exact ⟨by simp,a⟩
 refine (nan a).u λ w a=>?_;refine ⟨_,rfl,?_⟩;refine (nan a).u λ w a=>?_;refine ⟨_,rfl,Br.f rfl (Br.f rfl ?_)⟩;unfold Zp5;refine Br.d (λ h=>⟨by rw [qf h],a⟩) (λ h=>Br.d (λ o=>⟨by rw [qc h,qf (by omega)],a⟩) (λ o=>⟨by rw [qc h,qc (by omega)],a⟩))
def ZmC {x:Nat} (i:x<18446744073709551616) (o:Sat R Hs w):Zg prog 139 #[xF x] w λ v w'=>v=.int .u64 (ZnD x:Nat)/\Sat R Hs w':=by
 apply ZtW;refine ⟨_,w,Zkd x w,_,rfl,?_⟩;unfold ZnD
 with_reducible refine Br.d (λ h=>?_) (λ h=>?_)
 ·refine ⟨?_,o⟩
  have e1:IntKind.u64.wrap ((x:Int) + 9223372036854775808)=((x + 9223372036854775808:Nat):Int):=by rw [ZM];omega
  have a:x<9223372036854775808:=by omega
  rw [qf a];exact qH (Value.int .u64) e1
 ·refine ⟨?_,o⟩
  have e1:IntKind.u64.wrap (18446744073709551615 - (x:Int))=((18446744073709551615 - x:Nat):Int):=by rw [ZM];omega
  have a:¬ x<9223372036854775808:=by omega
  rw [qc a];exact qH (Value.int .u64) e1
def Zjr {k:Nat} (hk:k<18446744073709551616) (a:Sat R Hs w):Zg prog 148 #[.int .u64 k] w λ v w'=>v=xF (ofF k)/\Sat R Hs w':=by
 apply ZtR;unfold B148 ofF
 with_reducible refine Br.d (λ h=>?_) (λ h=>?_)
 ·rw [ZM,show (k:Int) - 9223372036854775808=((k - 9223372036854775808:Nat):Int) by omega]
  exact ⟨_,w,ZbV _ w,_,rfl,by rw [qf (by omega)],a⟩
 ·rw [ZM,show 18446744073709551615 - (k:Int)=((18446744073709551615 - k:Nat):Int) by omega]
  exact ⟨_,w,ZbV _ w,_,rfl,by rw [qc (by omega)],a⟩
def ZkG {x y:Nat} (i:Sat R Hs w):Zg prog 258 #[xF x,xF y] w λ v w'=>v=nI (GE x y)/\Sat R Hs w':=by
 apply ZsA;have ne:∀ z:Nat,(double.order z z !=some .eq)=ZhN z:=λ z=>by rw [bne,ZjB z,Bool.not_not]
 refine ⟨_,λ w' _=>Zj8 _ _ _ _ _ w',_,λ w' _=>Zj8 _ _ _ _ _ w',?_⟩;rw [ne x,ne y];unfold GE;refine Br.mk (λ o=>?_) (λ o=>?_)
 ·refine Br.mk (λ a=>⟨by rw [Zbu o,Zbu a,qc (by omega),qf rfl],i⟩) (λ a=>?_)
  refine ⟨_,λ w' _=>Zom _ _ _ _ _ w',?_⟩;rw [ZbN (.inl o)];refine Br.f rfl (Br.t o ⟨?_,i⟩);have:=ZpL a;rw [Zbu o,qf (by omega)]
 ·refine ⟨_,λ w' _=>Zom _ _ _ _ _ w',?_⟩
  by_cases a:ZhN y=true
  ·rw [ZbN (.inr a)]
   refine Br.f rfl (Br.f o ⟨_,λ w' _=>ZiW _ _ _ _ _ w',?_⟩);rw [ZbN (.inr a)];have:=ZpL o;exact Br.f rfl ⟨by rw [Zbu a,qc (by omega),qc (by omega)],i⟩
  ·have a:ZhN y=false:=by simpa using a
   obtain ⟨g,j,k⟩:=Zna o a;rw [j];refine Br.d (λ h=>⟨by rw [qc (by omega),qf h],i⟩) (λ h=>Br.f o ⟨_,λ w' _=>ZiW _ _ _ _ _ w',?_⟩);rw [g];exact Br.d (λ u=>⟨by rw [qf u],i⟩) (λ u=>⟨by rw [qc u,qc h],i⟩)
end
section
open Go Go.VC Tryz
variable {R:Cx} {Hs Rest:List HP} {w:World}
abbrev wrp (p:Nat) (s:Sl):HP:=pts p (.cells [.slice s.a s.len s.cap].toArray 112 (0,0))
def WrB (p:Nat) (bs:List Int):HP:=exs λ s:Sl=>XS [wrp p s,Own s 5 (b8 bs)]
def Sat.wrB {p:Nat} {bs:List Int}:Sat R (WrB p bs::Hs) w↔∃ s:Sl,Sat R (wrp p s::Own s 5 (b8 bs)::Hs) w:=by
 unfold WrB;rw [Sat.exs];exact ⟨λ⟨s,h⟩=>⟨s,Sat.star.1 h⟩,λ⟨s,h⟩=>⟨s,Sat.star.2 h⟩⟩
def ZcF {n:Int} (h:n<9223372036854775808):0<=nn n/\nn n<9223372036854775808:=by unfold nn;omega
def ZpE (n:Int):(if 0>n then 0 else n)=nn n:=by unfold nn;split<;>omega
def ZdB {p:Nat} {s:Sl} {xs bs:List Int} (u:∀ x∈xs,x<9223372036854775808) (hl:bs.length + 9 * xs.length<=1099511627776) (hs:RoI R s xs) (o:Sat R (WrB p bs::Hs) w):
  Zg prog 60 #[nP p,.slice s.a s.len s.cap] w λ v w'=>v=.tuple #[]/\Sat R (WrB p (bs++Zf (xs.map nn))::Hs) w':=by
 have r:=hs.len;apply ZvM;refine ⟨λ i w=>∃ k:Nat,i=k/\k<=xs.length/\Sat R (WrB p (bs++Zf ((xs.take k).map nn))::Hs) w,λ i _=>xs.length - i.toNat,⟨0,rfl,by omega,by simpa [Zf] using o⟩,?_⟩;clear o;rintro _ _ w ⟨k,rfl,hk,o⟩;refine Br.d (λ h=>?_) (λ h=>?_)
 ·have z:k<xs.length:=by omega
  have l:=ZcF (u xs[k] (qh _));have m:∀ x∈(xs.take k).map nn,0<=x/\x<18446744073709551616:=λ x l=>by
   obtain ⟨y,b,rfl⟩:=qm.1 l;have:=ZcF (u y (qw b));omega
  have q:=Zx m;rw [qa,qd] at q;refine Ro.ix hs (eqS o) k rfl z ?_;obtain ⟨g,o⟩:=Sat.wrB.1 o;refine Xk o λ w o=>?_;refine Zb.mk rfl ⟨g,oS,?_⟩;rw [ZpE];obtain ⟨n,f⟩:=qs l.1;rw [f,ZM];refine (Wo (by omega) o).u1 λ t w o=>?_;refine ⟨t,rfl,o.absorb,?_⟩;have o:=o.m1.b2.m3;have c:=YS (n:=n) (by omega);refine YI ZbX (s:=g) (n:=1099511627790) underlying47 o (by rw [qb];omega) (by omega) (by omega) λ j w o=>?_;have o:Sat R (wrp p g::Own j 5 (b8 (bs++Zf ((xs.take k).map nn)++GS n))::Hs) w:=by
   have h:Sat R (Own t 5 (b8 (GS n))::VC.tru::wrp p g::Own j 5 (b8 (bs++Zf ((xs.take k).map nn)++GS n))::Hs) w:=o.arr;exact h.drop.drop
  refine Zb.mk rfl ?_;refine sRu o λ w o=>?_;have o:=o.re (wrp p j);rw [Zc];refine ⟨⟨k + 1,by omega,by omega,Sat.wrB.2 ⟨j,?_⟩⟩,by dsimp only;omega⟩;have e:(xs.take (k + 1)).map nn=(xs.take k).map nn++[nn xs[k]]:=by rw [qp,List.getElem?_eq_getElem z,qe];rfl
  rw [e,Vd,show Zf [nn xs[k]]=GS (nn xs[k]).toNat by simp [Zf],f,qo,<-qn];exact o
 ·have:k=xs.length:=by omega
  subst this;rw [jz] at o;exact ⟨rfl,o⟩
def ZdA {p:Nat} {s:Sl} {d bs:List Int} (hl:bs.length + d.length<=1099511627776) (hd:d.length<=1099511627776) (hs:Ro R s (b8 d)) (o:Sat R (WrB p bs::Hs) w):
  Zg prog 63 #[nP p,.slice s.a s.len s.cap] w λ v w'=>v=.tuple #[]/\Sat R (WrB p (bs++XI d)::Hs) w':=by
 apply ZvL;obtain ⟨i,o⟩:=Sat.wrB.1 o;refine Xk o λ w o=>?_;refine Zb.mk rfl ⟨i,oS,?_⟩;refine (U6 hs hd o).u1 λ t w o=>?_;refine ⟨t,rfl,o.absorb,?_⟩;have o:=o.m1.b2.m3;have y:=YS (n:=d.length) (by omega);have z:(XI d).length<=d.length + 9:=by unfold XI;rw [qb];omega
 refine YI ZbX (s:=i) (n:=1099511627800) underlying47 o (by omega) (by omega) (by omega) λ u w o=>?_;have o:Sat R (wrp p i::Own u 5 (b8 (bs++XI d))::Hs) w:=by
  have h:Sat R (Own t 5 (b8 (XI d))::VC.tru::wrp p i::Own u 5 (b8 (bs++XI d))::Hs) w:=o.arr;exact h.drop.drop
 refine Zb.mk rfl ?_;refine sRu o λ w o=>?_;have o:=o.re (wrp p u);exact ⟨rfl,Sat.wrB.2 ⟨u,o⟩⟩
end
section
open Go Go.VC Tryz
open Classical
variable {R:Cx} {Hs Rest:List HP} {w:World}
abbrev cmV (c:Cm) (sg sp:Sl):List Value:=[nI c.kind,xZ c.pnr,nI c.flt,nI c.cls,nI c.many,nI c.time,xF c.sc,xZ c.lab,nI c.rows,.slice sg.a sg.len sg.cap,.slice sp.a sp.len sp.cap]
abbrev cmC (b:Nat) (c:Cm) (sg sp:Sl):HP:=pts b (.cells (cmV c sg sp).toArray 40 (0,0))
def Wa {c:Cm}:Z9 c↔(∀ n∈[c.flt,c.cls,c.many,c.rows]++c.grps,Vq n)/\(c.pnr.size<=16/\c.lab.size<=16)/\(c.grps.length<=16/\c.parts.length<=16)/\1<=c.kind/\c.kind<=9/\0<=c.time/\c.time<=1099511627776:=by
 constructor
 ·intro h
  refine ⟨λ n a=>?_,⟨h.pnr,h.lab⟩,⟨h.gl,h.pl⟩,h.kind.1,h.kind.2,h.time.1,h.time.2⟩;simp only [qU,jr,qk] at a;rcases a with rfl|rfl|rfl|rfl|a
  ·exact h.flt
  ·exact h.cls
  ·exact h.many
  ·exact h.rows
  ·exact h.grps n a
 ·rintro ⟨d,⟨o,i⟩,⟨u,v⟩,y,z,g,j⟩
  exact ⟨d _ (by simp),d _ (by simp),d _ (by simp),d _ (by simp),λ n a=>d n (by simp [a]),o,i,u,v,⟨y,z⟩,g,j⟩
def ZoA {n:Int}:Zg prog 97 #[nI n] w λ v w'=>v=.bool (decide (n<0\/n>9999))/\w'=w:=by
 apply Zvi;refine Br.d (λ h=>⟨by rw [qE (by omega)],rfl⟩) (λ h=>⟨?_,rfl⟩)
 congr 1
 exact qJ.2 (by omega)
def GR {c:Cm} {sg sp:Sl} (A:RoI R sg c.grps) (D:c.grps.length<=17592186043904) (I:sp.len=c.parts.length) (o:Sat R Hs w):
  Zg prog 38 #[.agg #[nI c.kind,xZ c.pnr,nI c.flt,nI c.cls,nI c.many,nI c.time,xF c.sc,xZ c.lab,nI c.rows,.slice sg.a sg.len sg.cap,.slice sp.a sp.len sp.cap]] w λ v w'=>v=.bool (decide (Z9 c))/\Sat R Hs w':=by
 have r:=A.len;apply Zv5;refine Za o λ b w o=>?_;have o:Sat R (cmC b c sg sp::Hs) w:=o
 repeat (first|refine Zb.mk rfl ?_|refine ⟨_,oS,?_⟩|refine ⟨_,oA o,?_⟩|refine ⟨_,(by rw [Zs];exact oS),?_⟩|refine ⟨_,(by rw [Zs];exact oA o),?_⟩)
 refine Za o λ b2 w o=>?_;have o:Sat R (Own ⟨some ⟨b2,0,none⟩,4,4⟩ 3 (Zd [c.flt,c.cls,c.many,c.rows])::cmC b c sg sp::Hs) w:=YL o;refine ⟨sg,oA o,?_⟩;refine Ul (n:=17592186044416) (s:=⟨some ⟨b2,0,none⟩,4,4⟩) (ty:=30) Zdn underlying30 o A (by simp;omega) (by omega) (by omega) λ t w o=>?_;obtain ⟨L,q⟩:=xx ([c.flt,c.cls,c.many,c.rows]++c.grps);have E:L.length=4 + c.grps.length:=by rw [q];simp;omega
 rw [<-q] at o;have F:t.len=L.length:=by have:=Own.len o;simpa using this
 refine ⟨λ i w=>∃ k:Nat,i=k/\k<=L.length/\(∀ n∈L.take k,Vq n)/\Sat R (Own t 3 (Zd L)::cmC b c sg sp::Hs) w,λ i _=>L.length - i.toNat,⟨0,rfl,by omega,by simp,o⟩,?_⟩;clear o;rintro _ _ w ⟨k,rfl,hk,y,o⟩;have no:¬ Z9 c->∀ {w},Sat R (Own t 3 (Zd L)::cmC b c sg sp::Hs) w->(Value.bool false=.bool (decide (Z9 c))/\Sat R Hs w):=λ h w o=>⟨by rw [qz h],o.drop.drop⟩;refine Br.d (λ h=>?_) (λ h=>?_)
 ·have z:k<L.length:=by omega
  refine Own.ix o (eqS o) k rfl z ?_;refine ZoA.use ?_;rintro _ w2 ⟨rfl,rfl⟩;refine ⟨_,rfl,Br.mk (λ g=>no (λ u=>?_) o) (λ g=>?_)⟩
  ·have l:=(Wa.1 u).1 L[k] (by rw [<-q];exact qh z)
   have m:=qF g;unfold Vq at l;omega
  ·rw [Zc]
   refine ⟨⟨k + 1,by omega,by omega,λ n j=>?_,o⟩,by dsimp only;omega⟩;rw [qp,List.getElem?_eq_getElem z] at j;rcases qt.1 j with j|j
   ·exact y n j
   ·rw [show n=L[k] by simpa using j]
    have m:=qQ g;unfold Vq;omega
 ·have p:∀ n∈L,Vq n:=by rw [qg (by omega)] at y;exact y
  refine ⟨λ G w=>G=decide (c.pnr.size<=16/\c.lab.size<=16)/\Sat R (Own t 3 (Zd L)::cmC b c sg sp::Hs) w,⟨c.pnr,oA o,Br.d (λ h=>?_) (λ h=>?_)⟩,?_⟩
  ·refine ⟨c.lab,oA o,?_,o⟩
   exact qJ.2 (by omega)
  ·exact ⟨by rw [qz (by omega)],o⟩
  clear o;rintro _ _ w ⟨rfl,o⟩;refine ⟨λ H w=>H=decide (c.grps.length<=16/\c.parts.length<=16)/\Sat R (Own t 3 (Zd L)::cmC b c sg sp::Hs) w,⟨sg,oA o,Br.d (λ h=>?_) (λ h=>?_)⟩,?_⟩
  ·refine ⟨sp,oA o,?_,o⟩
   exact qJ.2 (by omega)
  ·exact ⟨by rw [qz (by omega)],o⟩
  clear o;rintro _ _ w ⟨rfl,o⟩;have no2:¬ Z9 c->(Value.bool false=.bool (decide (Z9 c))/\Sat R Hs w):=λ h=>no h o;refine Br.d (λ x=>?_) (λ x=>no2 λ u=>x (Wa.1 u).2.1);refine Br.d (λ g=>?_) (λ g=>no2 λ u=>g (Wa.1 u).2.2.1);refine ⟨c.kind,oA o,Br.d (λ l=>?_) (λ l=>no2 λ u=>l (Wa.1 u).2.2.2.1)⟩;refine ⟨c.kind,oA o,Br.d (λ m=>?_) (λ m=>no2 λ u=>m (Wa.1 u).2.2.2.2.1)⟩;refine ⟨c.time,oA o,Br.d (λ e=>?_) (λ e=>no2 λ u=>e (Wa.1 u).2.2.2.2.2.1)⟩;refine ⟨c.time,oA o,?_,o.drop.drop⟩
  congr 1
  refine qJ.2 ?_;rw [Wa,<-q];exact ⟨λ f=>⟨p,x,g,l,m,e,f⟩,λ f=>f.2.2.2.2.2.2⟩
end
section
open Go Go.VC Tryz
variable {R:Cx} {Hs Rest:List HP} {w:World}
def W3 {p b n:Nat} {xs bs:List Int} (d:n=xs.length) (a:∀ x∈xs,x<9223372036854775808) (hl:bs.length + 9 * xs.length<=1099511627776) (h:Sat R (pts b (.cells (Zd xs).toArray 3 (0,0))::WrB p bs::Hs) w):
  Zg prog 60 #[nP p,.slice (some ⟨b,0,none⟩) n n] w λ v w'=>v=.tuple #[]/\Sat R (WrB p (bs++Zf (xs.map nn))::Hs) w':=by
 have h:Sat R (Own ⟨some ⟨b,0,none⟩,n,n⟩ 3 (Zd xs)::WrB p bs::Hs) w:=YL h (by rw [qa];exact d);obtain ⟨R',o,_,h,back⟩:=Own.lendI h (by omega);refine (ZdB a hl o h).u λ w h=>?_;exact ⟨_,rfl,rfl,(back h).drop⟩
def Zf2 {p:Nat} {s:ByteArray} {bs:List Int} {K:xE} (hl:bs.length + s.size<=1099511627776) (h:Sat R (WrB p bs::Hs) w) (k:∀ w',Sat R (WrB p (bs++ZhZ s)::Hs) w'->K w'):
  ∃ d:World,∃ t:Sl,((convert 9 47 (xZ s)).run prog w=.ok (.slice t.a t.len t.cap) d)/\
   nC 63 #[nP p,.slice t.a t.len t.cap] d λ e o=>(e=xR (.tuple #[]))/\K o:=by
 refine Zeu underlying9 underlying47 underlying5 h λ t w h=>?_;have i:=Yf s;obtain ⟨R',v,_,h,back⟩:=Own.lend h (by rw [qa];omega);refine (ZdA (by omega) (by omega) v h).u λ w h=>?_;exact ⟨rfl,k _ (back h).drop⟩
end
section
open Go Go.VC Tryz
open Classical
variable {R:Cx} {Hs Rest:List HP} {w:World}
def GZ {s:ByteArray} (h:s.size<=100000):(ZhZ s).length<=s.size + 9:=by
 have:=Yr (d:=ZE s) (by rw [Yf];omega);rw [Yf] at this;exact this
def YR (a:Int) (l:List Int):Zf (a::l)=Zf [a]++Zf l:=WA a l
def nn1 {a:Int} (h:0<=a):Zf ([a].map nn)=Zf [a]:=by
 show Zf [nn a]=_;rw [Ve h]
def Zkl {p:Nat} {s:Sl} {xs bs:List Int} (d:∀ x∈xs,x<9223372036854775808) (i:xs.length<=100000) (hl:bs.length<=1000000) (hs:RoI R s xs) (h:Sat R (WrB p bs::Hs) w):
  Zg prog 218 #[nP p,.slice s.a s.len s.cap] w λ v w'=>v=.tuple #[]/\Sat R (WrB p (bs++Zf [(xs.length:Int)]++Zf (xs.map nn))::Hs) w':=by
 have o:=hs.len;have l1:=Zl (x:=(xs.length:Int)) (by omega);apply ZsX;refine Za h λ b w h=>?_;refine (W3 (xs:=[(s.len:Int)]) rfl (by simp;omega) (by simp only [qr,qN];omega) h).u λ w h=>?_;refine ⟨rfl,?_⟩;rw [nn1 (by omega),show ((s.len:Nat):Int)=(xs.length:Int) by omega] at h;refine (ZdB d (by simp only [qb];omega) hs h).u λ w h=>?_;exact ⟨rfl,rfl,h⟩
end
section
open Go Go.VC Tryz
variable {R:Cx} {Hs Rest:List HP} {w:World}
def _root_.Go.VC.Ro.ixStr {xs:List ByteArray} {s:Sl} {S:xE} {i:Int} (o:Ro R s (xs.map Value.string)) (hS:∀ w,S w->Sat R Hs w) (j:Nat) (hi:i=j) (hj:j<xs.length) {F:ByteArray->Prop} (h:F xs[j]):
  Rng i s.len (Zb s.a λ a=>∃ t:ByteArray,(At S (a.add i.toNat) [xZ t])/\F t):=by
 subst hi;obtain ⟨a,u,d⟩:=o.addr (k:=j) (by rw [qa];exact hj);have hl:=o.len;rw [qa] at hl;exact Rng.mk (by omega) (by omega) (Zb.mk u ⟨_,by have:=d hS;rw [qX] at this;exact this,h⟩)
abbrev rpV (r:Rp) (sl sb:Sl):List Value:=[nI r.code,xZ r.pnr,nI r.state,nI r.flt,nI r.cls,nI r.many,nI r.time,.slice sl.a sl.len sl.cap,.slice sb.a sb.len sb.cap]
abbrev rpC (b:Nat) (r:Rp) (sl sb:Sl):HP:=pts b (.cells (rpV r sl sb).toArray 33 (0,0))
structure RpW (r:Rp):Prop where
 ints:∀ x∈[r.code,r.state,r.flt,r.cls,r.many,r.time]++r.left,x<9223372036854775808
 pnr:r.pnr.size<=100000
 ll:r.left.length<=100000
 bl:r.labs.length<=100000
 labs:∀ s∈r.labs,s.size<=100000
def nn5 {a b c d e:Int}:Zf ([a,b,c,d,e].map nn)=Zf [nn a]++(Zf [nn b]++(Zf [nn c]++(Zf [nn d]++Zf [nn e]))):=by
 show Zf [nn a,nn b,nn c,nn d,nn e]=_;rw [YR (nn a),YR (nn b),YR (nn c),YR (nn d)]
def VF {r:Rp} {sl sb:Sl} (hi:RpW r) (c:RoI R sl r.left) (f:SlR R.m sb (r.labs.map Value.string)) (o:Sat R Hs w):
  Zg prog 142 #[.agg #[nI r.code,xZ r.pnr,nI r.state,nI r.flt,nI r.cls,nI r.many,nI r.time,.slice sl.a sl.len sl.cap,.slice sb.a sb.len sb.cap]] w λ v w'=>
   ∃ t:Sl,v=.slice t.a t.len t.cap/\Sat R (Own t 5 (b8 (rpB r))::Hs) w':=by
 have j:sb.len=r.labs.length:=by have:=f.len;simpa using this
 have i1:=hi.ints;have i2:=hi.pnr;have i3:=hi.ll;have i4:=hi.bl;have q:∀ x∈[r.code,r.state,r.flt,r.cls,r.many,r.time]++r.left,0<=nn x/\nn x<18446744073709551616:=λ x z=>by have:=ZcF (i1 x z);omega
 have l1:=Zl (q r.code (by simp));have l2:=GZ (s:=r.pnr) i2;have l3:=Zl (q r.state (by simp));have l4:=Zl (q r.flt (by simp));have l5:=Zl (q r.cls (by simp));have l6:=Zl (q r.many (by simp));have l7:=Zl (q r.time (by simp));have l10:=Zl (x:=(r.left.length:Int)) (by omega);have l11:=Zx (l:=r.left.map nn) λ y n=>by obtain ⟨x,z,rfl⟩:=qm.1 n;exact q x (by simp [z])
 rw [qa] at l11;have l12:=Zl (x:=(r.labs.length:Int)) (by omega);apply ZtT;refine Za o λ b w o=>?_;have o:Sat R (rpC b r sl sb::Hs) w:=o;refine Za o λ p w o=>?_;have o:Sat R (WrB p []::rpC b r sl sb::Hs) w:=Sat.wrB.2 ⟨⟨none,0,0⟩,(Own.nil o).swap⟩;refine ⟨r.code,oA o,?_⟩;refine Za o λ A w o=>?_;refine (W3 (xs:=[r.code]) rfl (λ x z=>i1 x (by rw [qK.1 z];simp)) (by simp) o).u λ w o=>?_;refine ⟨rfl,?_⟩;rw [show [r.code].map nn=[nn r.code] from rfl,jr] at o
 refine ⟨r.pnr,oA o,?_⟩;refine Zf2 (by omega) o λ w o=>?_;refine ⟨r.state,oA o,r.flt,oA o,r.cls,oA o,r.many,oA o,r.time,oA o,?_⟩;refine Za o λ D w o=>?_;refine (W3 (xs:=[r.state,r.flt,r.cls,r.many,r.time]) rfl (λ x z=>i1 x (by simp only [qk,qO,jP] at z;simp only [qU,qk];rcases z with h|h|h|h|h<;>simp [h])) (by simp only [qb,qr,qN];omega) o).u λ w o=>?_;refine ⟨rfl,?_⟩;rw [nn5] at o;refine ⟨sl,oA o,?_⟩;refine (Zkl (xs:=r.left) (λ y n=>i1 y (by simp [n])) i3 (by simp only [qb];omega) c o).u λ w o=>?_;refine ⟨rfl,?_⟩;refine ⟨sb,oA o,?_⟩;refine Za o λ E w o=>?_;refine (W3 (xs:=[(sb.len:Int)]) rfl (by simp;omega) (by simp only [qb,qr,qN];omega) o).u λ w o=>?_;refine ⟨rfl,?_⟩;rw [nn1 (by omega),show ((sb.len:Nat):Int)=(r.labs.length:Int) by omega] at o;refine ⟨sb,oA o,?_⟩;obtain ⟨B,F,G,o⟩:∃ B:List Int,B.length<=2000000/\B++(r.labs.map ZhZ).flatten=rpB r/\Sat R (WrB p B::rpC b r sl sb::Hs) w:=
  ⟨_,by simp only [qb];omega,by unfold rpB;simp only [qn],o⟩
 refine ⟨λ i w=>∃ k:Nat,i=k/\k<=r.labs.length/\Sat R (WrB p (B++((r.labs.take k).map ZhZ).flatten)::rpC b r sl sb::Hs) w,λ i _=>r.labs.length - i.toNat,⟨0,rfl,by omega,by simpa using o⟩,?_⟩;clear o;rintro _ _ w ⟨k,rfl,hk,o⟩;refine Br.d (λ h=>?_) (λ h=>?_)
 ·have g:k<r.labs.length:=by omega
  have e:=YT (l:=r.labs.take k) (code:=ZhZ) (m:=100009) λ x z=>by have:=hi.labs x (qw z);have:=GZ this;omega
  rw [qd] at e;have H:=hi.labs _ (qh g);refine Ro.ixStr (f.ro) (eqS o) k rfl g ?_;refine Zf2 (by rw [qb];omega) o λ w o=>?_;rw [Zc];refine ⟨⟨k + 1,by omega,by omega,?_⟩,by dsimp only;omega⟩;rw [qp,List.getElem?_eq_getElem g,qe,ja,<-qn];simpa using o
 ·rw [qg (l:=r.labs) (by omega),G] at o
  obtain ⟨s,o⟩:=Sat.wrB.1 o;refine ⟨s,oA o,s,rfl,?_⟩;exact (o.drop.swap).drop
def Vl {r:Nat} {rd:Rd} {most:Int} (a:ZV rd.bs) (d:0<=most) (o:most<9223372036854775808) (h:Sat R (Xl r rd::Hs) w):
  Zg prog 157 #[.agg #[nP r],nI most] w λ v w'=>v=nI (Zh most rd).1/\Sat R (Xl r (Zh most rd).2::Hs) w':=by
 have i:=ZG a d;apply ZtK;refine Za h λ b w h=>?_;refine ⟨_,oA h,?_⟩;rw [ZM];refine (Zcp a h.drop).u λ w h=>?_;refine ⟨_,rfl,?_,h⟩;rw [Zc]
def Zdg {r:Nat} {rd:Rd} {most:Int} (o:ZV rd.bs) (hl:rd.bs.length<=1099511627776) (i:most<9223372036854775808) (h:Sat R (Xl r rd::Hs) w):
  Zg prog 214 #[.agg #[nP r],nI most] w λ v w'=>v=xZ (Xq most rd).1/\Sat R (Xl r (Xq most rd).2::Hs) w':=by
 apply Zs1;refine Za h λ b w h=>?_;refine ⟨_,oA h,?_⟩;refine (ZdN i hl o h.drop).u1 λ t w h=>?_;have d:=UW (most:=most) (rd:=rd);obtain ⟨R',u,_,a,back⟩:=Own.lend h (by rw [qa];omega);refine ⟨t,rfl,VC.strOf (Yn most rd).1,λ w' e=>?_,rfl,h.drop⟩;rw [show w'=w from e]
 exact Uk underlying47 underlying5 underlying9 a u
def ZhF {r:Nat} {rd:Rd} (a:ZV rd.bs) (h:Sat R (Xl r rd::Hs) w):
  Zg prog 215 #[.agg #[nP r]] w λ v w'=>v=xF (Xm rd).1/\Sat R (Xl r (Xm rd).2::Hs) w':=by
 have o:=ZG (most:=18446744073709551615) a (by omega);apply Zs0;refine Za h λ b w h=>?_;refine ⟨_,oA h,?_⟩;refine (Zcp a h.drop).u λ w h=>?_;refine ⟨_,rfl,?_⟩;obtain ⟨n,d⟩:=qs o.1;rw [d];refine (ZrD (k:=n) (by omega) h).u λ w h=>?_;refine ⟨_,rfl,?_,h⟩;show _=xF (ofF (Zh 18446744073709551615 rd).1.toNat);rw [d,qo]
def ZhS {r n:Nat} {rd:Rd} {f:Value} {one:Rd->Int × Rd} {I:Rd->Prop} (hI:∀ rd,I rd->I (one rd).2) (j:n<=100000) (z:I rd)
  (u:∀ (T:HP) (rd:Rd) (w:nW),I rd->Sat R (Xl r rd::T::Hs) w->XP prog cl f [] w λ e w'=>e=xR (nI (one rd).1)/\Sat R (Xl r (one rd).2::T::Hs) w')
  (o:Sat R (Xl r rd::Hs) w):
  Zg prog 216 #[nI n,f] w λ v w'=>∃ t:Sl,v=.slice t.a t.len t.cap/\Sat R (Own t 3 (Zd (ZW one n rd).1)::Xl r (ZW one n rd).2::Hs) w':=by
 apply ZsZ;have inv:∀ k,I (ZW one k rd).2:=λ k=>(XZ (one:=one) (P:=I) (Q:=λ _=>True) (λ r g=>⟨trivial,hI r g⟩) k z).2;refine ⟨λ out i w=>∃ k:Nat,i=k/\k<=n/\Sat R (Own out 3 (Zd (ZW one k rd).1)::Xl r (ZW one k rd).2::Hs) w,λ _ i _=>n - i.toNat,⟨0,rfl,by omega,Own.nil o⟩,?_⟩;clear o;rintro _ out _ w ⟨k,rfl,hk,o⟩;refine Br.d (λ h=>?_) (λ h=>?_)
 ·refine (u _ _ _ (inv k) o.swap).mono ?_
  rintro _ w ⟨rfl,o⟩;refine ⟨_,rfl,?_⟩;have hl:=XB one k rd;refine YA Zdn o.swap (by rw [hl];omega) λ y w o=>?_;rw [Zc];refine ⟨⟨k + 1,by omega,by omega,?_⟩,by dsimp only;omega⟩;rw [W8];exact o
 ·have:k=n:=by omega
  subst this;exact ⟨out,rfl,o⟩
def elFl:El prog 38 38 35 8:=⟨underlying38,⟨_,underlying38⟩,by kernel_rfl⟩
def ZgY (l:List Nat):ZN (GM l)=true:=by unfold ZN GM;simp [Value.oneCell']
def ZhT {r n:Nat} {rd:Rd} {f:Value} {one:Rd->Nat × Rd} {I:Rd->Prop} (hI:∀ rd,I rd->I (one rd).2) (j:n<=100000) (z:I rd)
  (u:∀ (T:HP) (rd:Rd) (w:nW),I rd->Sat R (Xl r rd::T::Hs) w->XP prog cl f [] w λ e w'=>e=xR (xF (one rd).1)/\Sat R (Xl r (one rd).2::T::Hs) w')
  (o:Sat R (Xl r rd::Hs) w):
  Zg prog 217 #[nI n,f] w λ v w'=>∃ t:Sl,v=.slice t.a t.len t.cap/\Sat R (Own t 35 (GM (ZW one n rd).1)::Xl r (ZW one n rd).2::Hs) w':=by
 apply ZsY;have inv:∀ k,I (ZW one k rd).2:=λ k=>(XZ (one:=one) (P:=I) (Q:=λ _=>True) (λ r g=>⟨trivial,hI r g⟩) k z).2;refine ⟨λ out i w=>∃ k:Nat,i=k/\k<=n/\Sat R (Own out 35 (GM (ZW one k rd).1)::Xl r (ZW one k rd).2::Hs) w,λ _ i _=>n - i.toNat,⟨0,rfl,by omega,Own.nil o⟩,?_⟩;clear o;rintro _ out _ w ⟨k,rfl,hk,o⟩;refine Br.d (λ h=>?_) (λ h=>?_)
 ·refine (u _ _ _ (inv k) o.swap).mono ?_
  rintro _ w ⟨rfl,o⟩;refine ⟨_,rfl,?_⟩;have hl:=XB one k rd;refine Wz elFl o.swap (ZgY _) rfl (by rw [qa,hl];omega) (by rw [qa,hl];omega) λ y w o=>?_;rw [Zc];refine ⟨⟨k + 1,by omega,by omega,?_⟩,by dsimp only;omega⟩;rw [W8];simpa using o
 ·have:k=n:=by omega
  subst this;exact ⟨out,rfl,o⟩
def Zbs {s:Sl} {xs:List Int} (u:∀ x∈xs,x<9223372036854775808) (hl:9 * xs.length<=1099511627776) (hs:RoI R s xs) (o:Sat R Hs w):
  Zg prog 67 #[.slice s.a s.len s.cap] w λ v w'=>∃ t:Sl,v=.slice t.a t.len t.cap/\Sat R (Own t 5 (b8 (Zf (xs.map nn)))::Hs) w':=by
 have p:=hs.len;apply ZvI;refine ⟨λ out i w=>∃ k:Nat,i=k/\k<=xs.length/\Sat R (Own out 5 (b8 (Zf ((xs.take k).map nn)))::Hs) w,λ _ i _=>xs.length - i.toNat,⟨0,rfl,by omega,Own.nil o⟩,?_⟩;clear o;rintro _ out _ w ⟨k,rfl,hk,o⟩;refine Br.d (λ h=>?_) (λ h=>?_)
 ·have z:k<xs.length:=by omega
  have g:=ZcF (u xs[k] (qh _));have j:∀ x∈(xs.take k).map nn,0<=x/\x<18446744073709551616:=λ x g=>by
   obtain ⟨y,r,rfl⟩:=qm.1 g;have:=ZcF (u y (qw r));omega
  have m:=Zx j;rw [qa,qd] at m;refine Ro.ix hs (eqS o) k rfl z ?_;rw [ZpE];obtain ⟨n,q⟩:=qs g.1;rw [q,ZM];refine (XY (by omega) o).u1 λ t w o=>?_;refine ⟨t,rfl,?_⟩;have f:=YS (n:=n) (by omega);refine YI ZbX (s:=out) (n:=1099511627790) underlying47 o.swap (by omega) (by omega) (by omega) λ b w o=>?_;rw [Zc];refine ⟨⟨k + 1,by omega,by omega,?_⟩,by dsimp only;omega⟩;have e:(xs.take (k + 1)).map nn=(xs.take k).map nn++[nn xs[k]]:=by rw [qp,List.getElem?_eq_getElem z,qe];rfl
  rw [e,Vd,show Zf [nn xs[k]]=GS (nn xs[k]).toNat by simp [Zf],q,qo];exact o.swap.drop
 ·rw [qg (l:=xs) (by omega)] at o
  exact ⟨out,rfl,o⟩
def _root_.Go.VC.SlR.b8take {h:Z0} {s:Sl} {xs:List Int} (a:SlR h s (b8 xs)) {k:Nat} (hk:k<=xs.length):SlR h ⟨s.a,k,s.cap⟩ (b8 (xs.take k)):=by
 have:=a.take (k:=k) (by simpa using hk);simpa using this
def _root_.Go.VC.SlR.b8drop {h:Z0} {s:Sl} {xs:List Int} (a:SlR h s (b8 xs)) {k:Nat} (hk:k<=xs.length):SlR h (WU s k) (b8 (xs.drop k)):=by
 have:=a.drop (k:=k) (by simpa using hk);simpa using this
def Zcn {r:Nat} {s:Sl} {bs:List Int} {rd:Rd} {most:Int} (hm:most<9223372036854775808) (hl:bs.length<=1099511627776) (F:∀ x∈bs,0<=x/\x<256) (hs:SlR R.m s (b8 bs)) (o:Sat R (Xn r s bs rd::Hs) w):
  Zg prog 78 #[nP r,nI most] w λ v w'=>∃ t:Sl,v=.slice t.a t.len t.cap/\Sat R (Own t 5 (b8 (Yn most rd).1)::Xn r s bs (Yn most rd).2::Hs) w':=by
 have M:s.len=bs.length:=by have:=hs.len;simpa using this
 have f:=hs.cap;obtain ⟨n,⟨G,hd⟩,o⟩:=Sat.rrd.1 o;have H:rd.bs.length=bs.length - n:=by rw [<-hd,qx]
 have g:∀ x∈rd.bs,0<=x/\x<256:=λ x I=>F x (by rw [<-hd] at I;exact jn I);apply Zvy;refine (ZdT hl F hs G o).u λ w o=>?_;refine ⟨_,_,_,rfl,?_⟩;rw [hd];have bad:Yn most rd=([],⟨rd.bs,true⟩)->∀ {w},Sat R (pts r (Yk s n rd.bad)::Hs) w->Zb (some ⟨r,0,none⟩) λ z=>
   ∃ j:World,((Instr.storeAt 4 (xP ((some (nO z 2)))) (.bool true)).run prog w=.ok () j)/\
   (∃ t:Sl,Value.slice none 0 0=.slice t.a t.len t.cap/\Sat R (Own t 5 (b8 (Yn most rd).1)::Xn r s bs (Yn most rd).2::Hs) j):=λ e w o=>by
  refine Zb.mk rfl ?_;refine sRu o λ w o=>?_;have o:=o.re (pts r (Yk s n true));rw [e];exact ⟨⟨none,0,0⟩,rfl,Own.nil (Sat.rrd.2 ⟨n,⟨G,hd⟩,o⟩)⟩
 refine ⟨λ w=>(∃ x k,rd.bad=false/\Xr rd.bs=some (x,false,k)/\0<=most/\x<=most/\x<=(rd.bs.length:Int) - k)/\Sat R (pts r (Yk s n rd.bad)::Hs) w,Zi o λ w o=>?_,?_⟩
 ·by_cases i:rd.bad=true
  ·have e:XM ⟨rd.bs,rd.bad⟩=(0,false,0):=by unfold XM;rw [qf i]
   rw [e];dsimp only;refine Br.mk (λ h=>bad ?_ o) (λ h=>by simp at h);unfold Yn;rw [qf i];rw [show rd=⟨rd.bs,rd.bad⟩ from rfl,i]
  ·have i:rd.bad=false:=by simpa using i
   cases y:Xr rd.bs with
   |none=>
    have e:XM ⟨rd.bs,rd.bad⟩=(0,false,0):=by unfold XM;simp [y]
    rw [e];dsimp only;refine Br.mk (λ h=>bad ?_ o) (λ h=>by simp at h);unfold Yn;rw [qc (by rw [i];simp),y]
   |some p=>
    obtain ⟨x,l,k⟩:=p;have e:XM ⟨rd.bs,rd.bad⟩=(x,l,(k:Int)):=by unfold XM;simp [y,i]
    rw [e];dsimp only;obtain ⟨J,N,O,Q,U⟩:=UZ g y;have e2:Yn most rd=if l=false/\0<=most/\x<=most/\x<=((rd.bs.length:Int) - k) then (((rd.bs.drop k).take x.toNat),⟨rd.bs.drop (k + x.toNat),false⟩) else ([],⟨rd.bs,true⟩):=by
     unfold Yn;rw [qc (by rw [i];simp),y]
    refine Br.e (λ h=>by omega) (λ _=>Br.mk (λ h=>bad ?_ o) (λ h=>Br.d (λ V=>bad ?_ o) (λ V=>?_)))
    ·rw [e2,qc (by rintro ⟨q,_⟩;rw [q] at h;cases h)]
    ·rw [e2,qc (by rintro ⟨_,q,_⟩;omega)]
    ·rw [ZM (x:=most)]
     refine Br.d (λ q=>bad ?_ o) (λ q=>?_)
     ·rw [e2,qc (by rintro ⟨_,_,L,_⟩;omega)]
     ·refine Zb.mk rfl ⟨s,oS,Zb.mk rfl ⟨n,oS,?_⟩⟩
      have e3:IntKind.u64.wrap (wI (wI ((s.len:Int) - (n:Int)) - (k:Int)))=(rd.bs.length:Int) - k:=by
       rw [Zc (x:=(s.len:Int) - (n:Int)),Zc,ZM];omega
      rw [e3];refine Br.d (λ L=>bad ?_ o) (λ L=>⟨⟨x,k,i,by rw [h],by omega,by omega,by omega⟩,o⟩);rw [e2,qc (by rintro ⟨_,_,_,X⟩;omega)]
 clear bad o;rintro _ w ⟨⟨x,k,i,y,c,A,D⟩,o⟩;obtain ⟨J,N,O,Q,U⟩:=UZ g y;have e:XM ⟨rd.bs,rd.bad⟩=(x,false,(k:Int)):=by unfold XM;simp [y,i]
 have e2:Yn most rd=(((rd.bs.drop k).take x.toNat),⟨rd.bs.drop (k + x.toNat),false⟩):=by
  unfold Yn;rw [qc (by rw [i];simp),y];dsimp only;rw [qf ⟨rfl,c,A,D⟩]
 rw [e,e2];dsimp only;obtain ⟨m,rfl⟩:=qs J;refine Zb.mk rfl ⟨n,oA o,Zb.mk rfl ?_⟩;have e3:wI ((n:Int) + (k:Int))=((n + k:Nat):Int):=by rw [Zc];omega
 have e4:wI (((n + k:Nat):Int) + wI (m:Int))=((n + k + m:Nat):Int):=by rw [Zc (x:=(m:Int)),Zc];omega
 try dsimp only
 rw [e3,e4];refine sRu o λ w o=>?_;rw [i] at o;have o:=o.re (pts r (Yk s (n + k + m) false));refine Xk o λ w o=>?_;refine Zb.mk rfl ⟨s,oS,Zb.mk rfl ⟨((n + k + m:Nat):Int),oS,by omega,by omega,by omega,by omega,?_⟩⟩;rw [qo,qo,qo];refine Za o λ b w o=>?_;have e5:n + k + m - (n + k)=m:=by omega
 rw [e5];have E:SlR R.m ⟨(WU s (n + k)).a,m,(WU s (n + k)).cap⟩ (b8 ((rd.bs.drop k).take m)):=by
  have:=(hs.b8drop (k:=n + k) (by omega)).b8take (k:=m) (by simp;omega);rw [<-jE,hd] at this;exact this
 have W:((rd.bs.drop k).take m).length<=1099511627776:=by simp;omega
 refine ⟨o.absorb,?_⟩;have o:Sat R (Own ⟨some ⟨b,0,none⟩,0,0⟩ 5 (([]:List Int).map (Value.int .u8))::VC.tru::pts r (Yk s (n + k + m) false)::Hs) w:=YL o;refine Ul ZbX (s:=⟨some ⟨b,0,none⟩,0,0⟩) (t:=⟨(WU s (n + k)).a,m,(WU s (n + k)).cap⟩) (n:=1099511627776) underlying47 o (E.ro (by simp;omega)) (by simp;omega) (by omega) (by omega) λ t w o=>?_;refine ⟨o.absorb,t,rfl,?_⟩;rw [jr] at o;refine o.cons λ _ h=>Sat.rrd.2 ⟨n + k + m,⟨by omega,?_⟩,h.drop⟩;show bs.drop (n + k + m)=rd.bs.drop (k + m);rw [<-hd,jE,jL]
end
section
open Go Go.VC Tryz
open Classical
variable {R:Cx} {Hs Rest:List HP} {w:World}
abbrev brC (b r:Nat):HP:=pts b (.cells [nP r].toArray 216 (0,0))
abbrev Ze:Sl:=⟨none,0,0⟩
abbrev ZC (k:Int) (p:ByteArray) (f c m t:Int):Cm:=⟨k,p,f,c,m,t,0,ByteArray.mk #[],0,[],[]⟩
abbrev Z2 (b:Nat):HP:=cmC b (ZC 0 (ByteArray.mk #[]) 0 0 0 0) Ze Ze
def VE {b r:Nat} {rd:Rd} (d:ZV rd.bs) (h:Sat R (Xl r rd::brC b r::Hs) w):
  Zg prog 213 #[nP b] w λ v w'=>v=nI (Zh 9999 rd).1/\Sat R (Xl r (Zh 9999 rd).2::brC b r::Hs) w':=by
 apply Zs2;have a:Sat R (brC b r::Xl r rd::Hs) w:=h.swap;refine Zb.mk rfl ⟨some ⟨r,0,none⟩,At.own (eqS a) (by exact ⟨rfl,trivial⟩),?_⟩;refine (Vl (most:=9999) d (by omega) (by omega) h).u λ w h=>?_;exact ⟨_,rfl,rfl,h⟩
def Zdr {A B:HP} (h:Sat R (A::B::Hs) w):Sat R [B,VC.tru] w:=h.swap.restTru2
def Zq5 {A B C:HP} (h:Sat R (C::A::B::Hs) w):Sat R [B,VC.tru] w:=(h.arr (Hs':=B::C::A::Hs)).restTru2
section
variable (S:xE) (J:xA->xE) (b4 b:Nat) (r:xA)
def dT6 (k:Int) (p:ByteArray) (f c m t:Int) (w:nW):Prop:=
 ∃ w':World,((Instr.storeAt 40 (nP b) (.agg #[nI k,xZ p,nI f,nI c,nI m,nI t,xF 0,xZ (ByteArray.mk #[]),nI 0,.slice none 0 0,.slice none 0 0])).run prog w=.ok () w')/\J (some ⟨b,0,none⟩) w'
def dT5 (k:Int) (p:ByteArray) (f c m:Int) (w:nW):Prop:=
 nC 157 #[.agg #[xP r],nI 1099511627776] w λ e w'=>∃ t:Int,(e=xR (nI t))/\S w'/\dT6 J b k p f c m t w'
def dT4 (k:Int) (p:ByteArray) (f c:Int) (w:nW):Prop:=
 nC 213 #[nP b4] w λ e w'=>∃ t:Int,(e=xR (nI t))/\S w'/\dT5 S J b r k p f c t w'
def dT3 (k:Int) (p:ByteArray) (f:Int) (w:nW):Prop:=
 nC 213 #[nP b4] w λ e w'=>∃ t:Int,(e=xR (nI t))/\S w'/\dT4 S J b4 b r k p f t w'
def dT2 (k:Int) (p:ByteArray) (w:nW):Prop:=
 nC 213 #[nP b4] w λ e w'=>∃ t:Int,(e=xR (nI t))/\S w'/\dT3 S J b4 b r k p t w'
def dT1 (k:Int) (w:nW):Prop:=
 nC 214 #[.agg #[xP r],nI 16] w λ e w'=>∃ t:ByteArray,(e=xR (xZ t))/\S w'/\dT2 S J b4 b r k t w'
def dT0 (w:nW):Prop:=
 nC 157 #[.agg #[xP r],nI 9] w λ e w'=>∃ t:Int,(e=xR (nI t))/\S w'/\dT1 S J b4 b r t w'
end
section
variable {J:xA->xE} {b4 b r:Nat} {rd:Rd} {k f c m t:Int} {p:ByteArray}
def ZqF (a:∀ {w},Sat R (cmC b (ZC k p f c m t) Ze Ze::Xl r rd::brC b4 r::Hs) w->J (some ⟨b,0,none⟩) w) (h:Sat R (Xl r rd::brC b4 r::Z2 b::Hs) w):dT6 J b k p f c m t w:=by
 have h:=h.m2;refine sRu h λ w h=>?_;exact a (h.re (cmC b (ZC k p f c m t) Ze Ze))
def ZqG (a:ZV rd.bs) (d:∀ {w},Sat R (cmC b (ZC k p f c m (Zh 1099511627776 rd).1) Ze Ze::Xl r (Zh 1099511627776 rd).2::brC b4 r::Hs) w->J (some ⟨b,0,none⟩) w)
  (h:Sat R (Xl r rd::brC b4 r::Z2 b::Hs) w):dT5 (Sat R [brC b4 r,VC.tru]) J b (some ⟨r,0,none⟩) k p f c m w:=by
 refine (Vl (most:=1099511627776) a (by omega) (by omega) h).u λ w h=>?_;exact ⟨_,rfl,Zdr h,ZqF d h⟩
def ZqH (a:ZV rd.bs) (d:∀ {w},Sat R (cmC b (ZC k p f c (Zh 9999 rd).1 (Zh 1099511627776 (Zh 9999 rd).2).1) Ze Ze::Xl r (Zh 1099511627776 (Zh 9999 rd).2).2::brC b4 r::Hs) w->J (some ⟨b,0,none⟩) w)
  (h:Sat R (Xl r rd::brC b4 r::Z2 b::Hs) w):dT4 (Sat R [brC b4 r,VC.tru]) J b4 b (some ⟨r,0,none⟩) k p f c w:=by
 refine (VE a h).u λ w h=>?_;exact ⟨_,rfl,Zdr h,ZqG (Zo a) d h⟩
def ZqI (a:ZV rd.bs) (d:∀ {w},Sat R (cmC b (ZC k p f (Zh 9999 rd).1 (Zh 9999 (Zh 9999 rd).2).1 (Zh 1099511627776 (Zh 9999 (Zh 9999 rd).2).2).1) Ze Ze::Xl r (Zh 1099511627776 (Zh 9999 (Zh 9999 rd).2).2).2::brC b4 r::Hs) w->J (some ⟨b,0,none⟩) w)
  (h:Sat R (Xl r rd::brC b4 r::Z2 b::Hs) w):dT3 (Sat R [brC b4 r,VC.tru]) J b4 b (some ⟨r,0,none⟩) k p f w:=by
 refine (VE a h).u λ w h=>?_;exact ⟨_,rfl,Zdr h,ZqH (Zo a) d h⟩
def ZqJ (a:ZV rd.bs) (d:∀ {w},Sat R (cmC b (ZC k p (Zh 9999 rd).1 (Zh 9999 (Zh 9999 rd).2).1 (Zh 9999 (Zh 9999 (Zh 9999 rd).2).2).1 (Zh 1099511627776 (Zh 9999 (Zh 9999 (Zh 9999 rd).2).2).2).1) Ze Ze::Xl r (Zh 1099511627776 (Zh 9999 (Zh 9999 (Zh 9999 rd).2).2).2).2::brC b4 r::Hs) w->J (some ⟨b,0,none⟩) w)
  (h:Sat R (Xl r rd::brC b4 r::Z2 b::Hs) w):dT2 (Sat R [brC b4 r,VC.tru]) J b4 b (some ⟨r,0,none⟩) k p w:=by
 refine (VE a h).u λ w h=>?_;exact ⟨_,rfl,Zdr h,ZqI (Zo a) d h⟩
def hd2 (rd:Rd):(Int × Int × Int × Int) × Rd:=
 let f:=Zh 9999 rd
 let c:=Zh 9999 f.2
 let m:=Zh 9999 c.2
 let t:=Zh 1099511627776 m.2
 ((f.1,c.1,m.1,t.1),t.2)
abbrev JD (R:Cx) (Hs:List HP) (b4 r:Nat) (k:Int) (p:ByteArray) (x:(Int × Int × Int × Int) × Rd) (c6:xA) (w:nW):Prop:=
 ∃ b,c6=some ⟨b,0,none⟩/\Sat R (cmC b (ZC k p x.1.1 x.1.2.1 x.1.2.2.1 x.1.2.2.2) Ze Ze::Xl r x.2::brC b4 r::Hs) w
def ZqK (a:ZV rd.bs) (hl:rd.bs.length<=1099511627776) (d:∀ {w},Sat R (cmC b (ZC k (Xq 16 rd).1 (hd2 (Xq 16 rd).2).1.1 (hd2 (Xq 16 rd).2).1.2.1 (hd2 (Xq 16 rd).2).1.2.2.1 (hd2 (Xq 16 rd).2).1.2.2.2) Ze Ze::Xl r (hd2 (Xq 16 rd).2).2::brC b4 r::Hs) w->J (some ⟨b,0,none⟩) w)
  (h:Sat R (Xl r rd::brC b4 r::Z2 b::Hs) w):dT1 (Sat R [brC b4 r,VC.tru]) J b4 b (some ⟨r,0,none⟩) k w:=by
 refine (Zdg (most:=16) a hl (by omega) h).u λ w h=>?_;exact ⟨_,rfl,Zdr h,ZqJ (Vu a) d h⟩
def Zvf (a:ZV rd.bs) (hl:rd.bs.length<=1099511627776) (d:∀ {w},Sat R (cmC b (ZC (Zh 9 rd).1 (Xq 16 (Zh 9 rd).2).1 (hd2 (Xq 16 (Zh 9 rd).2).2).1.1 (hd2 (Xq 16 (Zh 9 rd).2).2).1.2.1 (hd2 (Xq 16 (Zh 9 rd).2).2).1.2.2.1 (hd2 (Xq 16 (Zh 9 rd).2).2).1.2.2.2) Ze Ze::Xl r (hd2 (Xq 16 (Zh 9 rd).2).2).2::brC b4 r::Hs) w->J (some ⟨b,0,none⟩) w)
  (h:Sat R (Xl r rd::brC b4 r::Z2 b::Hs) w):dT0 (Sat R [brC b4 r,VC.tru]) J b4 b (some ⟨r,0,none⟩) w:=by
 refine (Vl (most:=9) a (by omega) (by omega) h).u λ w h=>?_;exact ⟨_,rfl,Zdr h,ZqK (Zo a) (by have:=Xh (most:=9) (rd:=rd);omega) d h⟩
end
end
end Go.Proofs.YtlplemdmegpoeaaGreatDoor
