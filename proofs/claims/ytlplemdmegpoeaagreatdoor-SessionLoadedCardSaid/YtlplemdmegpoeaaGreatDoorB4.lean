/- A flight, plain: which bytes are one, by the program and by the document. Condition: none. -/
import Derived.Test.YtlplemdmegpoeaaGreatDoorB3
import Derived.Test.YtlplemdmegpoeaaGreatDoorB2
set_option linter.unusedVariables false
set_option linter.unusedSimpArgs false
namespace Go.Proofs.YtlplemdmegpoeaaGreatDoor
section
open Go Go.VC Tryz
theorem Zb3 {most:Int} {r:Rd} (h:r.bad=true):Zc most r=(0,r):=by unfold Zc;rw [if_pos h]
theorem ZhA {each:Int}:∀ (k:Nat) {r:Rd},r.bad=true->(Zby k each r).2.bad=true
 |0,_,h=>h
 |k + 1,r,h=>by show (Zby k each (Zc each r).2).2.bad=true;rw [Zb3 h];exact ZhA k h
theorem ZnJ {each:Int}:∀ (k:Nat) {r:Rd},(Zby k each r).2.bad=false->Zhs k each r=Zby k each r
 |0,_,_=>rfl
 |k + 1,r,h=>by
  have hr:r.bad=false:=by cases e:r.bad with|false=>rfl|true=>rw [ZhA (k + 1) e] at h;cases h
  rw [Zf0,if_neg (by rw [hr];simp),ZnJ k h];rfl
theorem Znw {each:Int}:∀ (k:Nat) {r:Rd},(Zhs k each r).2.bad=false->Zhs k each r=Zby k each r
 |0,_,_=>rfl
 |k + 1,r,h=>by
  have hr:r.bad=false:=by cases e:r.bad with|false=>rfl|true=>rw [Zq2 e (k + 1)] at h;rw [e] at h;cases h
  rw [Zf0,if_neg (by rw [hr];simp)] at h ⊢;rw [Znw k h];rfl
theorem Zln {most each:Int} {r:Rd} (h:r.bad=true):(Zck most each r).2.bad=true:=by unfold Zck;rw [Zb3 h];exact ZhA _ h
theorem Zq3 {most each:Int} {r:Rd} (h:r.bad=true):(Zjw most each r).2.bad=true:=by unfold Zjw;rw [Zb3 h];show (Zhs 0 each r).2.bad=true;exact h
theorem ZjM {most each:Int} {r:Rd} (h:(Zck most each r).2.bad=false):Zjw most each r=Zck most each r:=ZnJ _ h
theorem Zjv {most each:Int} {r:Rd} (h:(Zjw most each r).2.bad=false):Zjw most each r=Zck most each r:=Znw _ h
theorem ZqU {r:Rd} (h:r.bad=true):(ZaS r).2.bad=true:=by unfold ZaS;rw [Zb3 h,Zb3 h,Zb3 h];exact Zln h
theorem ZtQ {r:Rd} (h:(ZaS r).2.bad=false):ZcS r=ZaS r:=by unfold ZcS ZaS;rw [ZjM h]
theorem ZqT {r:Rd} (h:(ZcS r).2.bad=false):ZcS r=ZaS r:=by unfold ZcS ZaS;rw [Zjv h]
theorem Zem:∀ (k:Nat) {r:Rd},r.bad=true->(Z0 k r).2.bad=true
 |0,_,h=>h
 |k + 1,r,h=>Zem k (ZqU h)
theorem Zms {r:Rd} (h:r.bad=true):∀ k,rHs k r=([],r)
 |0=>rfl
 |k + 1=>by rw [Zjx,if_pos h]
theorem Zk3:∀ (k:Nat) {r:Rd},(Z0 k r).2.bad=false->rHs k r=Z0 k r
 |0,_,_=>rfl
 |k + 1,r,h=>by
  have hr:r.bad=false:=by cases e:r.bad with|false=>rfl|true=>rw [Zem (k + 1) e] at h;cases h
  have h:(Z0 k (ZaS r).2).2.bad=false:=h;have h2:(ZaS r).2.bad=false:=by cases e:(ZaS r).2.bad with|false=>rfl|true=>rw [Zem k e] at h;cases h
  rw [Zjx,if_neg (by rw [hr];simp),ZtQ h2,Zk3 k h];rfl
theorem Zvf:∀ (k:Nat) {r:Rd},(rHs k r).2.bad=false->rHs k r=Z0 k r
 |0,_,_=>rfl
 |k + 1,r,h=>by
  have hr:r.bad=false:=by cases e:r.bad with|false=>rfl|true=>rw [Zms e (k + 1)] at h;rw [e] at h;cases h
  rw [Zjx,if_neg (by rw [hr];simp)] at h ⊢;have h:(rHs k (ZcS r).2).2.bad=false:=h;have h2:(ZcS r).2.bad=false:=by cases e:(ZcS r).2.bad with|false=>rfl|true=>rw [Zms e k] at h;rw [e] at h;cases h
  rw [ZqT h2] at h ⊢;rw [Zvf k h];rfl
theorem Zdp {a b:Rd} (h:a.bad=true->b.bad=true) (hb:b.bad=false):a.bad=false:=by
 cases e:a.bad with
 |false=>rfl
 |true=>rw [h e] at hb;cases hb
theorem ZqY {bs:List Int} (h:(ZfZ bs).rd.bad=false):ZiG bs=ZfZ bs:=by
 unfold ZfZ at h;dsimp only at h;have h1:=Zdp (Zem _) h;have h2:=Zdp (λ e=>by rw [Zb3 e];exact e) h1;have h3:=Zdp Zln h2;unfold ZiG ZfZ;dsimp only;rw [ZjM h3,ZjM h2,Zk3 _ h]
theorem Zv6 {bs:List Int} (h:(ZiG bs).rd.bad=false):ZiG bs=ZfZ bs:=by
 unfold ZiG at h;dsimp only at h;have h1:=Zdp (λ e=>by rw [Zms e];exact e) h;have h2:=Zdp (λ e=>by rw [Zb3 e];exact e) h1;have h3:=Zdp Zq3 h2;have e3:=Zjv h3;rw [e3] at h2 h;have e4:=Zjv h2;rw [e4] at h;unfold ZiG ZfZ;dsimp only;rw [e3,e4,Zvf _ h]
theorem Zp7 {r:Rd} (h:Z5 r=true):r.bad=false:=by
 unfold Z5 at h;cases e:r.bad with
 |false=>rfl
 |true=>rw [e] at h;cases h
theorem Zk6 (bs:List Int):Z5 (ZiG bs).rd=Z5 (ZfZ bs).rd/\(Z5 (ZfZ bs).rd=true->ZiG bs=ZfZ bs):=by
 constructor
 ·cases e:(ZfZ bs).rd.bad with
  |false=>rw [ZqY e]
  |true=>
   cases e2:(ZiG bs).rd.bad with
   |false=>rw [Zv6 e2]
   |true=>unfold Z5;rw [e,e2];rfl
 ·exact λ h=>ZqY (Zp7 h)
theorem ZjJ {lim sold:List Int} {c many:Int} (hn:Zad lim sold=true) (c0:0<=c) (c1:c<lim.length) (m0:1<=many) (m1:many<=10000) (h:Zad lim (sold.set c.toNat (sold.getD c.toNat 0 + many))=true):(Za7 lim sold c many).2=0:=by
 obtain ⟨i1,i2,i3⟩:=ZS.1 hn;obtain ⟨_,_,k3⟩:=ZS.1 h;have hl:ZbA lim sold c=(mnF (ZdR lim sold) (c.toNat + 1),0):=by unfold ZbA;rw [if_pos ⟨hn,c0,c1⟩]
 have hm:=ZnL (ZdR lim sold) (c.toNat + 1);have hle:many<=mnF (ZdR lim sold) (c.toNat + 1):=by
  rcases hm.2.2 with e|⟨k,_,hk,e⟩
  ·omega
  ·rw [e]
   have hf:=Zd1 (sold:=sold) (c:=c.toNat) (m:=many) (by omega) (lim.length - k) k (by omega);rw [if_pos (by omega)] at hf;have:=(k3 k (by omega)).2;unfold ZdR;omega
 unfold Za7;rw [hl];dsimp only;rw [if_neg (by omega),if_neg (by omega)]
variable {f:PF} {r:RF}
theorem ZtE {A C:List ZJ} {h:ZJ} {n:Int} (t:Tie f r) (g:ZaK r) (hL:r.L=A++h::C) (hA:Zcg h.owner A=none) (h4:n ∉ ZV r.L) (hb:0<=n/\n<Za5 r.rows r.grps) (hm:(h.seats.length:Int)<h.many):
  Tie (Zif f h.owner n) { r with L:=A++h.put n::C }/\ZaK { r with L:=A++h.put n::C }:=by
 have hh:=g.each h (by rw [hL];simp);have hg:ZD h.owner f.hs=some h:=by rw [t.get g.rise,hL];exact Zj5 rfl hA
 have e:Zif f h.owner n={ f with hs:=ZeG h.owner (h.put n) f.hs,own:=Zci n h.owner f.own }:=by unfold Zif;rw [hg]
 rw [e];have hnh:n ∉ h.seats:=λ e=>h4 (ZcD.2 ⟨h,by rw [hL];simp,e⟩);have hs:∀ x∈(h.put n).seats,x∈h.seats\/(x ∉ ZV r.L/\0<=x/\x<Za5 r.rows r.grps):=λ x hx=>by
  rcases Zbz.1 hx with rfl|hx
  ·exact .inr ⟨h4,hb⟩
  ·exact .inl hx
 refine ⟨Zmg (h':=h.put n) t g hL hA rfl rfl rfl (λ x hx=>(hs x hx).imp id (·.1)) (Zf2 t.nod) λ x=>?_,Zj2 (h':=h.put n) g hL rfl rfl rfl ?_ ?_ hs⟩
 ·rw [ZhP]
  show _=if x∈Zga n h.seats then some h.owner else _
  by_cases hx:x=n
  ·rw [if_pos hx,if_pos (Zbz.2 (.inl hx))]
  ·rw [if_neg hx]
   by_cases hx2:x∈h.seats
   ·rw [if_pos (Zbz.2 (.inr hx2))]
    exact (t.own x h.owner).2 ⟨h,by rw [hL];simp,rfl,hx2⟩
   ·rw [if_neg (λ e=>(Zbz.1 e).elim hx hx2),if_neg hx2]
 ·exact Zeh.2 (ZmP (Zeh.1 hh.rise) hnh)
 ·show ((Zga n h.seats).length:Int)<=_
  rw [ZjZ];omega
def SOk (N:Int) (T:List Int):List Int->Int->Prop
 |[],_=>True
 |n::l,last=>n ∉ T/\last<n/\n<N/\SOk N T l n
theorem Zmh (P:List ZJ) (h:ZJ):ZV (P++[h])=ZV P++h.seats:=by simp [ZV]
theorem Zqe {P:List ZJ} {h:ZJ}:∀ (l acc:List Int) (last:Int) {f:PF} {r:RF},Tie f r->ZaK r->r.L=P++[{ h with seats:=acc }]->(acc.length + l.length:Int)<=h.many->(∀ x∈acc,x<=last)->-1<=last->
  ((ZgJ h.owner (Za5 r.rows r.grps) l last f).2=true↔SOk (Za5 r.rows r.grps) (ZV P) l last)/\
  ((ZgJ h.owner (Za5 r.rows r.grps) l last f).2=true->Tie (ZgJ h.owner (Za5 r.rows r.grps) l last f).1 { r with L:=P++[{ h with seats:=acc++l }] }/\ZaK { r with L:=P++[{ h with seats:=acc++l }] })
 |[],acc,last,f,r,t,g,hL,_,_,_=>by
  refine ⟨⟨λ _=>trivial,λ _=>rfl⟩,λ _=>?_⟩;rw [List.append_nil,<-hL];exact ⟨t,g⟩
 |n::l,acc,last,f,r,t,g,hL,hm,hacc,hlast=>by
  rw [ZfW];have hown:Zcg h.owner P=none:=by
   have h5:=g.rise;rw [hL] at h5;refine Zcb.2 λ x hx e=>?_;have:=(List.pairwise_append.1 h5).2.2 x hx _ (List.mem_singleton.2 rfl);dsimp only at this;omega
  have htk:ZV r.L=ZV P++acc:=by rw [hL,Zmh]
  rw [List.length_cons] at hm;show _/\_;by_cases h1:(ZD n f.own).isSome=true
  ·rw [if_pos h1]
   refine ⟨⟨λ e=>(by cases e),λ e=>?_⟩,λ e=>by cases e⟩;have h2:=(t.taken n).1 h1;rw [htk] at h2;rcases List.mem_append.1 h2 with h2|h2
   ·exact absurd h2 e.1
   ·have:=hacc n h2;have:=e.2.1;omega
  rw [if_neg h1];have hnt:n ∉ ZV r.L:=λ e=>h1 ((t.taken n).2 e);by_cases h2:n<=last
  ·rw [if_pos h2]
   exact ⟨⟨λ e=>(by cases e),λ e=>by have:=e.2.1;omega⟩,λ e=>by cases e⟩
  rw [if_neg h2];by_cases h3:n >= Za5 r.rows r.grps
  ·rw [if_pos h3]
   exact ⟨⟨λ e=>(by cases e),λ e=>by have:=e.2.2.1;omega⟩,λ e=>by cases e⟩
  rw [if_neg h3];have hsp:r.L=P++{ h with seats:=acc }::[]:=hL;have hins:Zga n acc=acc++[n]:=ZgW λ x hx=>by have:=hacc x hx;omega
  obtain ⟨t2,g2⟩:=ZtE (h:={ h with seats:=acc }) t g hsp hown hnt ⟨by omega,by omega⟩ (by show (acc.length:Int)<h.many;omega);have e2:(ZJ.put { h with seats:=acc } n)={ h with seats:=acc++[n] }:=by unfold ZJ.put;rw [hins]
  rw [e2] at t2 g2;have ih:=Zqe l (acc++[n]) n t2 g2 rfl (by rw [List.length_append];simp;omega) (λ x hx=>by
   rcases List.mem_append.1 hx with hx|hx
   ·have:=hacc x hx;omega
   ·rw [List.mem_singleton.1 hx];exact Int.le_refl _) (by omega)
  refine ⟨ih.1.trans ⟨λ e=>⟨λ hn=>hnt (by rw [htk];exact List.mem_append_left _ hn),by omega,by omega,e⟩,λ e=>e.2.2.2⟩,λ e=>?_⟩;have h7:=ih.2 e;rw [List.append_assoc] at h7;exact h7
theorem ZnY {h:ZJ}:∀ {P:List ZJ},(∀ x∈P,x.owner<h.owner)->ZlC h P=P++[h]
 |[],_=>rfl
 |x::P,hp=>by
  unfold ZlC;rw [if_pos (hp x List.mem_cons_self),ZnY λ y hy=>hp y (List.mem_cons_of_mem _ hy)];rfl
structure ZB5 (r:RF) (h:ZJ):Prop where
 c:h.cls<r.lims.length
 m:1<=h.many
 n:(h.seats.length:Int)<=h.many
 s:SOk (Za5 r.rows r.grps) (ZV r.L) h.seats (-1)
 nest:Zad r.lims (Zal r.lims.length (r.L++[h]))=true
theorem Zg5 {h:ZJ} (t:Tie f r) (g:ZaK r) (hin:ZgG h) (ho:1<=h.owner) (hlt:∀ x∈r.L,x.owner<h.owner):
  ((Z7 f h).2=true↔ZB5 r h)/\((Z7 f h).2=true->Tie (Z7 f h).1 { r with L:=r.L++[h] }/\ZaK { r with L:=r.L++[h] }):=by
 obtain ⟨t1,t2,t3⟩:=Zjh t g h.owner h.cls h.many;have hno:¬ (Zcg h.owner r.L).isSome=true:=by
  rw [Zcb.2 λ x hx e=>by have:=hlt x hx;omega];simp
 have hio:=hin.o;have er:ZN r h.owner h.cls h.many=if (Za7 r.lims r.sold h.cls h.many).2=0 then ({ r with L:=ZlC ⟨h.owner,h.cls,h.many,[]⟩ r.L },0) else (r,(Za7 r.lims r.sold h.cls h.many).2):=by
  unfold ZN;rw [if_neg (by omega),if_neg hno]
 have hins:ZlC ⟨h.owner,h.cls,h.many,[]⟩ r.L=r.L++[⟨h.owner,h.cls,h.many,[]⟩]:=ZnY hlt;have hsl:∀ {L:List ZJ},h.cls<r.lims.length->r.sold.set h.cls.toNat (r.sold.getD h.cls.toNat 0 + h.many)=Zal r.lims.length (r.L++[h]):=λ hc=>Zfc (List.perm_append_comm) hin.c.1 hc;unfold Z7;rw [t1,er];by_cases hs:(Za7 r.lims r.sold h.cls h.many).2=0
 ·rw [if_pos hs]
  rw [er,if_pos hs,hins] at t2 t3;obtain ⟨e1,e2,c0,c1,hm⟩:=Zfo hs;rw [e1,hsl (L:=r.L) c1] at e2;rw [if_neg (by simp)];by_cases hn:(h.seats.length:Int)>h.many
  ·rw [if_pos hn]
   exact ⟨⟨λ e=>(by cases e),λ e=>by have:=e.n;omega⟩,λ e=>by cases e⟩
  rw [if_neg hn];have hlay:Za5 f.rows f.grps=Za5 r.rows r.grps:=by rw [t.rows,t.grps]
  rw [hlay];obtain ⟨i1,i2⟩:=Zqe (P:=r.L) (h:=h) h.seats [] (-1) t2 t3 rfl (by simp;omega) (λ x hx=>by cases hx) (by omega);refine ⟨i1.trans ⟨λ e=>⟨c1,hm,by omega,e,e2⟩,λ e=>e.s⟩,λ e=>?_⟩;have h7:=i2 e;rw [List.nil_append] at h7;exact h7
 ·rw [if_neg hs,if_pos hs]
  refine ⟨⟨λ e=>(by cases e),λ e=>?_⟩,λ e=>by cases e⟩;exact absurd (ZjJ g.nest hin.c.1 e.c e.m (by have:=hin.m.2;omega) (by rw [hsl (L:=r.L) e.c];exact e.nest)) hs
theorem ZlI {num rows:Int} {grps lims:List Int}:Zim num rows grps lims=true↔1<=num/\ZeJ rows grps=true/\ZjR lims=true/\lims.getD 0 0=Za5 rows grps:=by
 unfold Zim;simp only [Bool.and_eq_true,decide_eq_true_eq,beq_iff_eq];constructor
 ·rintro ⟨h1,h2,h3,h4⟩
  exact ⟨by omega,h2,(ZS.1 h3).1,h4⟩
 ·rintro ⟨h1,h2,h3,h4⟩
  exact ⟨by omega,h2,Zhw h3,h4⟩
theorem Zqu {N:Int} {T:List Int}:∀ {l:List Int} {last:Int},SOk N T l last↔∀ k (hk:k<l.length),l[k] ∉ T/\l[k]<N/\(if h:0<k then l[k - 1]<l[k] else last<l[k])
 |[],_=>by simp [SOk]
 |n::l,last=>by
  unfold SOk;rw [Zqu (l:=l) (last:=n)];constructor
  ·rintro ⟨h1,h2,h3,h4⟩ k hk
   rcases k with _|k
   ·exact ⟨h1,h3,h2⟩
   ·have h5:=h4 k (by simpa using hk)
    refine ⟨h5.1,h5.2.1,?_⟩;rw [dif_pos (by omega)];have h6:=h5.2.2;rcases k with _|k
    ·exact h6
    ·rw [dif_pos (by omega)] at h6;exact h6
  ·intro h
   have h0:=h 0 (by simp);refine ⟨h0.1,h0.2.2,h0.2.1,λ k hk=>?_⟩;have h5:=h (k + 1) (by simpa using hk);refine ⟨h5.1,h5.2.1,?_⟩;have h6:=h5.2.2;rw [dif_pos (by omega)] at h6;rcases k with _|k
   ·exact h6
   ·rw [dif_pos (by omega)];exact h6
structure Ztm (x:Raw):Prop where
 num:x.num<=9999
 hs:∀ h∈x.L,ZgG h
def Raw.at (x:Raw) (j:Nat):PS:=(x.L.take j).foldl Zbt (Zag x.num x.rows x.grps x.lims,Zim x.num x.rows x.grps x.lims,0)
def Raw.pre (x:Raw) (j:Nat):RF:=⟨x.num,x.rows,x.grps,x.lims,x.L.take j⟩
def ZmK (x:Raw) (j:Nat):Int:=if h:0<j/\j<=x.L.length then x.L[j - 1].owner else 0
theorem Ztg {x:Raw} {j:Nat} (h:j<x.L.length):x.at (j + 1)=Zbt (x.at j) x.L[j]:=by
 unfold Raw.at;rw [List.take_add_one,List.getElem?_eq_getElem h,List.foldl_append];rfl
theorem Zvh {L:List ZJ} {o:Int} (h:OwR L):∀ (hl:0<L.length),L[L.length - 1].owner<o->∀ x∈L,x.owner<o:=λ hl hlast x hx=>by
 obtain ⟨i,hi,rfl⟩:=List.getElem_of_mem hx;by_cases e:i=L.length - 1
 ·subst e;exact hlast
 ·have:=List.pairwise_iff_getElem.1 h i (L.length - 1) hi (by omega) (by omega)
  omega
theorem ZnH {x:Raw} (xi:Ztm x) {j:Nat} (hj:j<x.L.length) (hr:∀ y∈x.L.take j,y.owner<x.L[j].owner):
  ZB3 x.rf j hj↔(1<=x.L[j].owner/\(∀ h:0<j,x.L[j - 1].owner<x.L[j].owner)/\x.L[j].cls<x.lims.length/\1<=x.L[j].many/\(x.L[j].seats.length:Int)<=x.L[j].many/\SOk (Za5 x.rows x.grps) (ZV (x.L.take j)) x.L[j].seats (-1)):=by
 have hin:=xi.hs x.L[j] (List.getElem_mem _);rw [Zqu];constructor
 ·intro h
  refine ⟨h.o,h.p,h.c,h.m,h.n,λ k hk=>?_⟩;have h1:=h.s k hk;refine ⟨λ hm=>h1.1 (List.mem_append_left _ hm),h1.2.1,?_⟩;split
  ·exact h1.2.2 (by assumption)
  ·have:=hin.s x.L[j].seats[k] (List.getElem_mem _);omega
 ·rintro ⟨h1,h2,h3,h4,h5,h6⟩
  refine ⟨h1,h2,h3,h4,h5,λ k hk=>?_⟩;have h7:=h6 k hk;have hrise:∀ (t i:Nat) (hi:i + t<x.L[j].seats.length),0<t->x.L[j].seats[i]'(by omega)<x.L[j].seats[i + t]:=λ t=>by
   induction t with
   |zero=>intro i hi h0;omega
   |succ t ih=>
    intro i hi _;have h8:=(h6 (i + (t + 1)) hi).2.2;rw [dif_pos (by omega)] at h8;by_cases ht:t=0
    ·subst ht;exact h8
    ·have h9:=ih i (by omega) (by omega)
     have h8:x.L[j].seats[i + t]'(by omega)<x.L[j].seats[i + (t + 1)]:=h8;omega
  refine ⟨λ hm=>?_,h7.2.1,λ h0=>by have h8:=h7.2.2;rw [dif_pos h0] at h8;exact h8⟩;rcases List.mem_append.1 hm with hm|hm
  ·exact h7.1 hm
  ·obtain ⟨i,hi,he⟩:=List.getElem_of_mem hm
   rw [List.length_take] at hi;rw [List.getElem_take] at he;have hk':k<x.L[j].seats.length:=hk;have hi:i<min k x.L[j].seats.length:=hi;have he:x.L[j].seats[i]'(by omega)=x.L[j].seats[k]:=he;have h9:=hrise (k - i) i (by omega) (by omega);have e:i + (k - i)=k:=by omega
   simp only [e] at h9;omega
theorem Zm6 {x:Raw} (xi:Ztm x):∀ j,j<=x.L.length->(x.at j).2.2=ZmK x j/\((x.at j).2.1=true->Tie (x.at j).1 (x.pre j)/\ZaK (x.pre j)/\∀ i (hi:i<x.L.length),i<j->ZB3 x.rf i hi)
 |0,_=>by
  refine ⟨rfl,λ h=>?_⟩;obtain ⟨h1,h2,h3,h4⟩:=ZlI.1 h;refine ⟨Zqf,⟨⟨h1,xi.num⟩,h2,?_,h4,List.Pairwise.nil,λ h hh=>(by cases hh),List.Pairwise.nil⟩,λ i _ hi=>by omega⟩;show Zad _ (Zal _ [])=true;rw [Zfd];exact Zhw h3
 |j + 1,hj=>by
  have hj1:j<x.L.length:=by omega
  obtain ⟨i1,i2⟩:=Zm6 xi j (by omega);have hlast:ZmK x (j + 1)=x.L[j].owner:=by unfold ZmK;rw [dif_pos ⟨by omega,hj⟩];rfl
  rw [Ztg hj1,hlast];unfold Zbt;by_cases hc:(x.at j).2.1=true/\x.L[j].owner>(x.at j).2.2
  ·rw [if_pos hc]
   refine ⟨rfl,λ h=>?_⟩;obtain ⟨t,g,hok⟩:=i2 hc.1;rw [i1] at hc;have hin:=xi.hs x.L[j] (List.getElem_mem _);have hlt:∀ y∈(x.pre j).L,y.owner<x.L[j].owner:=λ y hy=>by
    have hne:0<(x.pre j).L.length:=List.length_pos_iff.2 λ e=>by rw [e] at hy;cases hy
    refine Zvh g.rise hne ?_ y hy;have hl:(x.pre j).L.length=j:=by show (x.L.take j).length=j;rw [List.length_take];omega
    have h2:=hc.2;unfold ZmK at h2;rw [dif_pos ⟨by omega,by omega⟩] at h2;have h3:(x.pre j).L[(x.pre j).L.length - 1]=x.L[j - 1]:=by
     show (x.L.take j)[(x.L.take j).length - 1]'(by rw [List.length_take];omega)=_;rw [List.getElem_take]
     congr 1
     rw [List.length_take];omega
    rw [h3];exact h2
   have ho1:1<=x.L[j].owner:=by
    have h2:=hc.2;unfold ZmK at h2;split at h2
    ·have:=(xi.hs x.L[j - 1] (List.getElem_mem _)).o;omega
    ·omega
   obtain ⟨r1,r2⟩:=Zg5 t g hin ho1 hlt;have e:{ x.pre j with L:=(x.pre j).L++[x.L[j]] }=x.pre (j + 1):=by
    unfold Raw.pre;rw [List.take_add_one,List.getElem?_eq_getElem hj1];rfl
   have h5:=r2 h;rw [e] at h5;refine ⟨h5.1,h5.2,λ i hi hij=>?_⟩;by_cases hie:i=j
   ·subst hie
    have ha:=r1.1 h;refine (ZnH xi hj1 hlt).2 ⟨ho1,λ h0=>?_,ha.c,ha.m,ha.n,ha.s⟩;have h2:=hc.2;unfold ZmK at h2;rw [dif_pos ⟨by omega,by omega⟩] at h2;exact h2
   ·exact hok i hi (by omega)
  ·rw [if_neg hc]
   exact ⟨rfl,λ h=>by cases h⟩
theorem Zvl {x:Raw} (xi:Ztm x) (m:Zzj x.rf):∀ j,j<=x.L.length->(x.at j).2.1=true
 |0,_=>ZlI.2 ⟨m.num,m.lay,m.lim,m.l0⟩
 |j + 1,hj=>by
  have hj1:j<x.L.length:=by omega
  have ih:=Zvl xi m j (by omega);obtain ⟨i1,i2⟩:=Zm6 xi j (by omega);obtain ⟨t,g,hok⟩:=i2 ih;have hin:=xi.hs x.L[j] (List.getElem_mem _);have ok:=m.each j hj1;rw [Ztg hj1];have hgt:x.L[j].owner>(x.at j).2.2:=by
   rw [i1];unfold ZmK;split
   ·rename_i h;exact ok.p h.1
   ·have:=ok.o;show 0<x.L[j].owner;exact this
  have hlt:∀ y∈(x.pre j).L,y.owner<x.L[j].owner:=λ y hy=>by
   have hne:0<(x.pre j).L.length:=List.length_pos_iff.2 λ e=>by rw [e] at hy;cases hy
   refine Zvh g.rise hne ?_ y hy;have hl:(x.pre j).L.length=j:=by show (x.L.take j).length=j;rw [List.length_take];omega
   have h3:(x.pre j).L[(x.pre j).L.length - 1]=x.L[j - 1]:=by
    show (x.L.take j)[(x.L.take j).length - 1]'(by rw [List.length_take];omega)=_;rw [List.getElem_take]
    congr 1
    rw [List.length_take];omega
   rw [h3];exact ok.p (by omega)
  unfold Zbt;rw [if_pos ⟨ih,hgt⟩];refine (Zg5 t g hin ok.o hlt).1.2 ?_;have ha:=(ZnH xi hj1 hlt).1 ok;refine ⟨ha.2.2.1,ha.2.2.2.1,ha.2.2.2.2.1,ha.2.2.2.2.2,?_⟩;have e:(x.pre j).L++[x.L[j]]=x.L.take (j + 1):=by
   show x.L.take j++_=_;rw [List.take_add_one,List.getElem?_eq_getElem hj1];rfl
  rw [e];show Zad x.lims (Zal x.lims.length (x.L.take (j + 1)))=true;refine ZrA m.nest (by show (Zal _ _).length=(Zal _ _).length;rw [Zbu,Zbu];rfl) λ k hk=>?_;have hk:k<x.lims.length:=hk;show 0<=(Zal x.lims.length (x.L.take (j + 1))).getD k 0/\(Zal x.lims.length (x.L.take (j + 1))).getD k 0<=(Zal x.lims.length x.L).getD k 0;rw [ZbM hk,ZbM hk];have hmm:∀ y∈x.L,1<=y.many:=λ y hy=>by
   obtain ⟨i,hi,rfl⟩:=List.getElem_of_mem hy;exact (m.each i hi).m
  refine ⟨Zh4 λ y hy=>hmm y (List.mem_of_mem_take hy),?_⟩;have h8:Zgm (k:Int) x.L=Zgm (k:Int) (x.L.take (j + 1)) + Zgm (k:Int) (x.L.drop (j + 1)):=by rw [<-ZeA,List.take_append_drop]
  have h9:=Zh4 (k:=(k:Int)) (L:=x.L.drop (j + 1)) λ y hy=>hmm y (List.mem_of_mem_drop hy);omega
theorem Zzs (x:Raw):x.run=x.at x.L.length/\x.rf=x.pre x.L.length:=by
 constructor
 ·unfold Raw.run Raw.at;rw [List.take_length]
 ·unfold Raw.rf Raw.pre;rw [List.take_length]
theorem ZqH {x:Raw} (xi:Ztm x):(x.run.2.1=true↔Zzj x.rf)/\(x.run.2.1=true->Tie x.run.1 x.rf/\ZaK x.rf):=by
 obtain ⟨e1,e2⟩:=Zzs x;have h:=(Zm6 xi x.L.length (Nat.le_refl _)).2;rw [<-e1,<-e2] at h;refine ⟨⟨λ hr=>?_,λ m=>by rw [e1];exact Zvl xi m _ (Nat.le_refl _)⟩,λ hr=>⟨(h hr).1,(h hr).2.1⟩⟩;obtain ⟨t,g,hok⟩:=h hr;exact ⟨g.num.1,g.lay,(ZS.1 g.nest).1,g.l0,λ j hj=>hok j hj hj,g.nest⟩
theorem ZqX {bs:List Int} (hb:∀ y∈bs,0<=y/\y<256):Ztm (ZfZ bs):=by
 have hb0:∀ y∈(⟨bs,false⟩:Rd).bs,0<=y/\y<256:=hb;have h5:=Ze (most:=600) (Zfq (most:=8) (each:=10000) (Zfq (most:=4) (each:=10) (Ze (most:=60) (Ze (most:=9999) hb0))));exact ⟨(Zy (most:=9999) hb0 (by omega)).2,(ZiE _ h5).1⟩
theorem Zw5 {bs:List Int} (hb:∀ y∈bs,0<=y/\y<256):(Zpy bs=none/\¬ (Z5 (ZiG bs).rd=true/\Zzj (ZiG bs).rf))\/(∃ f,Zpy bs=some f/\Z5 (ZiG bs).rd=true/\Zzj (ZiG bs).rf/\Tie f (ZiG bs).rf/\ZaK (ZiG bs).rf):=by
 obtain ⟨w1,w2⟩:=Zk6 bs;obtain ⟨r1,r2⟩:=ZqH (ZqX hb);by_cases h:Z5 (ZfZ bs).rd=true/\(ZfZ bs).run.2.1=true
 ·right
  have e:=w2 h.1;rw [e];exact ⟨_,by unfold Zpy;rw [if_pos h],h.1,r1.1 h.2,r2 h.2⟩
 ·left
  refine ⟨by unfold Zpy;rw [if_neg h],λ h2=>h ?_⟩;rw [w1] at h2;rw [w2 h2.1] at h2;exact ⟨h2.1,r1.2 h2.2⟩
end
section
open Go Go.VC Tryz
theorem ZiF {n:Nat} {most:Int} {rest:List Int} (h:n<18446744073709551616) (hm:(n:Int)<=most):Zc most ⟨Zf4 n++rest,false⟩=((n:Int),⟨rest,false⟩):=by
 unfold Zc;rw [if_neg (by simp)];dsimp only;rw [Zlh h];dsimp only;rw [if_pos ⟨rfl,hm⟩,List.drop_left]
theorem Zt {x most:Int} {rest:List Int} (h0:0<=x) (h1:x<=most) (h2:x<18446744073709551616):Zc most ⟨Zm [x]++rest,false⟩=(x,⟨rest,false⟩):=by
 obtain ⟨n,rfl⟩:=Int.eq_ofNat_of_zero_le h0;have e:Zm [(n:Int)]=Zf4 n:=by simp [Zm]
 rw [e];exact ZiF (by omega) h1
theorem ZiS {each:Int} (he:each<18446744073709551616) {rest:List Int}:∀ {l:List Int},(∀ x∈l,0<=x/\x<=each)->Zby l.length each ⟨Zm l++rest,false⟩=(l,⟨rest,false⟩)
 |[],_=>rfl
 |x::l,h=>by
  have h1:=h x List.mem_cons_self;rw [Zb7,List.append_assoc];show ((Zc each _).1::(Zby l.length each (Zc each _).2).1,(Zby l.length each (Zc each _).2).2)=_;rw [Zt h1.1 h1.2 (by omega)];dsimp only;rw [ZiS he λ y hy=>h y (List.mem_cons_of_mem _ hy)]
theorem Zf5 {most each:Int} (he:each<18446744073709551616) {rest l:List Int} (hl:(l.length:Int)<=most) (hm:most<18446744073709551616) (h:∀ x∈l,0<=x/\x<=each):Zck most each ⟨Zc6 l++rest,false⟩=(l,⟨rest,false⟩):=by
 unfold Zck Zc6;rw [List.append_assoc,Zt (by omega) hl (by omega)];exact ZiS he h
theorem ZoP {h:ZJ} (hin:ZgG h) (rest:List Int):ZaS ⟨ZeL h++rest,false⟩=(h,⟨rest,false⟩):=by
 have e:ZeL h++rest=Zm [h.owner]++(Zm [h.cls]++(Zm [h.many]++(Zc6 h.seats++rest))):=by
  unfold ZeL;rw [Zb7 h.owner,Zb7 h.cls];simp only [List.append_assoc]
 have:=hin.o;have:=hin.c;have:=hin.m;have:=hin.n;unfold ZaS;rw [e,Zt (by omega) (by omega) (by omega)];dsimp only;rw [Zt (by omega) (by omega) (by omega)];dsimp only;rw [Zt (by omega) (by omega) (by omega)];dsimp only;rw [Zf5 (by omega) (by omega) (by omega) hin.s]
theorem Zgw {rest:List Int}:∀ {L:List ZJ},(∀ h∈L,ZgG h)->Z0 L.length ⟨ZaM L++rest,false⟩=(L,⟨rest,false⟩)
 |[],_=>rfl
 |h::L,hin=>by
  have e:ZaM (h::L)++rest=ZeL h++(ZaM L++rest):=by simp [ZaM]
  rw [e];show ((ZaS _).1::(Z0 L.length (ZaS _).2).1,(Z0 L.length (ZaS _).2).2)=_;rw [ZoP (hin h List.mem_cons_self)];dsimp only;rw [Zgw λ x hx=>hin x (List.mem_cons_of_mem _ hx)]
variable {f:PF} {r:RF}
theorem ZmR (g:ZaK r):∀ h∈r.L,ZgG h:=λ h hh=>by
 have h1:=g.each h hh;have h2:=g.len.2 h hh;have h3:=(ZaP.1 (ZS.1 g.nest).1).1.2;have h4:=(Zc7 r.rows r.grps).2;have:=h1.owner;have:=h1.cls;have:=h1.many;have:=h1.few;exact ⟨by omega,by omega,by omega,λ x hx=>by have:=h1.seats x hx;omega,by omega⟩
theorem Zdi (g:ZaK r):(∀ x∈r.lims,0<=x/\x<=10000)/\1<=r.lims.length/\r.lims.length<=8:=by
 obtain ⟨h1,h2⟩:=ZaP.1 (ZS.1 g.nest).1;refine ⟨λ x hx=>?_,h1⟩;obtain ⟨i,hi,rfl⟩:=List.getElem_of_mem hx;exact (h2 i hi).1
theorem Znv (g:ZaK r):ZfZ (ZbG r)=⟨r.num,r.rows,r.grps,r.lims,r.L,⟨[],false⟩⟩:=by
 obtain ⟨l1,l2,l3⟩:=Zan.1 g.lay;obtain ⟨m1,m2,m3⟩:=Zdi g;have hlen:=g.len.1;have hnum:=g.num;have e:ZbG r=Zm [r.num]++(Zm [r.rows]++(Zc6 r.grps++(Zc6 r.lims++(Zm [(r.L.length:Int)]++(ZaM r.L++[]))))):=by
  unfold ZbG Zvs;rw [Zb7 r.num];simp only [List.append_assoc,List.append_nil]
 unfold ZfZ;rw [e];dsimp only;rw [Zt (by omega) (by omega) (by omega)];dsimp only;rw [Zt (by omega) (by omega) (by omega)];dsimp only;rw [Zf5 (by omega) (by omega) (by omega) (λ x hx=>by have:=l2 x hx;omega)];dsimp only;rw [Zf5 (by omega) (by omega) (by omega) m1];dsimp only;rw [Zt (by omega) (by omega) (by omega)];dsimp only;rw [show ((r.L.length:Int)).toNat=r.L.length from rfl,Zgw (ZmR g)]
theorem ZnZ (g:ZaK r):Zzj r:=by
 refine ⟨g.num.1,g.lay,(ZS.1 g.nest).1,g.l0,λ j hj=>?_,g.nest⟩;have hh:=g.each r.L[j] (List.getElem_mem _);refine ⟨hh.owner.1,λ h0=>List.pairwise_iff_getElem.1 g.rise (j - 1) j (by omega) hj (by omega),hh.cls.2,hh.many,hh.few,λ k hk=>⟨λ hm=>?_,(hh.seats _ (List.getElem_mem _)).2,λ h0=>hh.rise (k - 1) k hk (by omega)⟩⟩;rcases List.mem_append.1 hm with hm|hm
 ·obtain ⟨x,hx,hxm⟩:=ZcD.1 hm
  obtain ⟨i,hi,rfl⟩:=List.getElem_of_mem hx;rw [List.length_take] at hi;rw [List.getElem_take] at hxm;exact List.pairwise_iff_getElem.1 g.apart i j (by omega) hj (by omega) _ hxm (List.getElem_mem _)
 ·obtain ⟨i,hi,he⟩:=List.getElem_of_mem hm
  rw [List.length_take] at hi;rw [List.getElem_take] at he;have:=hh.rise i k hk (by omega);omega
theorem Zeq (g:ZaK r):ZAO r:=by
 obtain ⟨l1,l2,l3⟩:=Zan.1 g.lay;obtain ⟨m1,m2,m3⟩:=Zdi g;have hlen:=g.len.1;have hnum:=g.num;refine ⟨by omega,by omega,λ x hx=>by have:=l2 x hx;omega,λ x hx=>by have:=m1 x hx;omega,by omega,by omega,λ h hh=>?_,by omega⟩;have hin:=ZmR g h hh;have:=hin.o;have:=hin.c;have:=hin.m;have:=hin.n;exact ⟨by omega,by omega,by omega,λ x hx=>by have:=hin.s x hx;omega,by omega⟩
theorem Zqd (t:Tie f r) (g:ZaK r):ZvK f:=by
 have s:=Zeq g;have b:=t.bounds g;refine ⟨by rw [t.num];exact s.num,by rw [t.rows];exact s.rows,by rw [t.grps];exact s.grps,by rw [t.lims];exact s.lims,by omega,by omega,by rw [Zg6 t g.rise];exact s.hs,by omega⟩
theorem ZvV (t:Tie f r) (g:ZaK r):ZwZ f=ZbG r:=by
 unfold ZwZ ZbG;rw [t.num,t.rows,t.grps,t.lims,Zg6 t g.rise]
theorem Zv4 (g:ZaK r):(∀ y∈ZbG r,0<=y/\y<256)/\(ZbG r).length<=6000000:=by
 have s:=Zeq g;obtain ⟨l1,l2,l3⟩:=Zan.1 g.lay;obtain ⟨m1,m2,m3⟩:=Zdi g;have hlen:=g.len.1;have u2:ZeF [r.num,r.rows]:=by intro y hy;have:=s.num;have:=s.rows;simp at hy;omega
 have u1:ZeF [(r.L.length:Int)]:=by intro y hy;simp at hy;omega
 constructor
 ·intro y hy
  unfold ZbG Zvs at hy;simp only [List.mem_append] at hy;rcases hy with (((hy|hy)|hy)|hy)|hy
  ·exact ZbW (Zcd u2) y hy
  ·exact Zfr s.grps (by omega) y hy
  ·exact Zfr s.lims (by omega) y hy
  ·exact ZbW (Zcd u1) y hy
  ·exact ZhM s.hs y hy
 ·have h1:=ZX (Zcd u2)
  have h2:=Zca s.grps (by omega);have h3:=Zca s.lims (by omega);have h4:=ZX (Zcd u1);have h5:=Zgb s.hs;simp only [List.length_cons,List.length_nil] at h1 h4;unfold ZbG Zvs;simp only [List.length_append];omega
theorem ZhZ (g:ZaK r):∃ f',Zpy (ZbG r)=some f'/\Tie f' r:=by
 have e:=Znv g;have hw:Z5 (ZfZ (ZbG r)).rd=true:=by rw [e];rfl
 have hrf:(ZfZ (ZbG r)).rf=r:=by rw [e];rfl
 obtain ⟨r1,r2⟩:=ZqH (ZqX (Zv4 g).1);rw [hrf] at r1 r2;have hr:=r1.2 (ZnZ g);exact ⟨_,by unfold Zpy;rw [if_pos ⟨hw,hr⟩],(r2 hr).1⟩
end
section
open Go Go.VC Tryz
variable {R:Cx} {Hs Rest:List HP} {w:World}
theorem Zeu {s:Sl} {bs:List Int} (hs:Ro R s (b8 bs)) (hl:bs.length<=1099511627776) (hw:Sat R Hs w):
  Zo prog 83 #[.slice s.a s.len s.cap] w λ v w'=>∃ t:Sl,v=.slice t.a t.len t.cap/\Sat R (Own t 5 (b8 (ZaX bs))::Hs) w':=by
 have hlen:s.len=bs.length:=by have:=hs.len;simpa using this
 apply ZAa;unfold B83;rw [Zax (by omega) (by omega),hlen];refine (ZbR (by omega) hw).use ?_;rintro _ w ⟨t,rfl,hw⟩;refine ⟨t,rfl,?_⟩;rw [<-hlen];have hn:=Zbx (n:=bs.length) (by omega);have hsrc:Src prog 1 47 (.slice s.a s.len s.cap) bs.length (b8 bs) w:=by
  have:=ZvY underlying47 hw hs (ZnE _);simpa using this
 refine ZcL Zvt (s:=t) hw hsrc (ZnE _) (by rw [List.length_map];omega) (by rw [List.length_map];omega) λ s2 w hw=>?_;exact ⟨s2,rfl,by simpa [b8,ZaX] using hw⟩
theorem Zow {h:Z1} {l bm bo:Nat} {s:Sl} {bs:List Int} {most:Int} (hm:most<9223372036854775808) (hl:bs.length<=1099511627776) (hb:∀ x∈bs,0<=x/\x<256) (hsub:∀ b o,h b=some o->R.m b=some o) (hr:SlR h s (b8 bs))
  (hw:Sat R (lp l s::lp bo ⟨none,0,0⟩::pts bm (.cells [.int .i64 most].toArray 3 (0,0))::Hs) w):
  ZaV prog 153 #[.pointer (some ⟨l,0,none⟩),.pointer (some ⟨bm,0,none⟩),.pointer (some ⟨bo,0,none⟩)] w
   (λ ch w'=>ch=ZeS/\(∀ n k,Zb6 bs=some (n,false,k)->¬ (0<=most/\n<=most/\n<=(bs.length:Int) - k))/\∃ s',Sat R (lp l s'::lp bo ⟨none,0,0⟩::pts bm (.cells [.int .i64 most].toArray 3 (0,0))::Hs) w')
   (λ v w'=>v=.tuple #[]/\∃ n k s' t,Zb6 bs=some (n,false,k)/\(0<=most/\n<=most/\n<=(bs.length:Int) - k)/\SlR h s' (b8 (bs.drop (k + n.toNat)))/\
    Sat R (lp l s'::lp bo t::Own t 5 (b8 ((bs.drop k).take n.toNat))::pts bm (.cells [.int .i64 most].toArray 3 (0,0))::Hs) w'):=by
 apply ZyA;refine (Zi2 hb hsub hr hw).use ?_ ?_
 rotate_left
 ·rintro _ w ⟨hp,rfl,s',hw⟩
  refine .inr ⟨_,rfl,rfl,?_,s',hw⟩;intro n k h;rw [hp] at h;cases h
 rintro _ w ⟨n,neg,k,s',hp,rfl,hs',hw⟩;obtain ⟨n0,n1,k0,k1,k2⟩:=ZnA hb hp;have no:(∀ n' k',Zb6 bs=some (n',false,k')->¬ (0<=most/\n'<=most/\n'<=(bs.length:Int) - k'))->∀ {A:Prop} {e:Ending},(e=.panicked ZeS)->(e=.returned (.tuple #[])/\A)\/∃ ch,e=.panicked ch/\ch=ZeS/\(∀ n k,Zb6 bs=some (n,false,k)->¬ (0<=most/\n<=most/\n<=(bs.length:Int) - k))/\∃ s',Sat R (lp l s'::lp bo ⟨none,0,0⟩::pts bm (.cells [.int .i64 most].toArray 3 (0,0))::Hs) w:=λ h A e he=>
  .inr ⟨_,he,rfl,h,s',hw⟩
 have same:∀ n' k',Zb6 bs=some (n',false,k')->neg=false/\n'=n/\k'=k:=λ n' k' h=>by
  rw [hp] at h;simp only [Option.some.injEq,Prod.mk.injEq] at h;exact ⟨h.2.1,h.1.symm,h.2.2.symm⟩
 refine .inl ⟨n,neg,rfl,Br.nb (λ h=>?_) (λ h=>?_)⟩
 rotate_left
 ·refine ZcW (λ h=>by cases h) (λ _=>no (λ n' k' h'=>?_) rfl)
  rw [(same n' k' h').1] at h;cases h
 subst h;have hw2:Sat R (pts bm (.cells [.int .i64 most].toArray 3 (0,0))::lp l s'::lp bo ⟨none,0,0⟩::Hs) w:=hw.arr;refine Zd.mk rfl ⟨most,At.own (eqS hw2) (by exact ⟨rfl,trivial⟩),Br.d (λ h1=>?_) (λ h1=>?_)⟩
 rotate_left
 ·refine ZcW (λ h=>by cases h) (λ _=>no (λ n' k' h' h2=>by omega) rfl)
 refine Zd.mk rfl ⟨most,At.own (eqS hw2) (by exact ⟨rfl,trivial⟩),?_⟩;rw [Zax (by omega) (by omega)];refine Br.d (λ h2=>?_) (λ h2=>?_)
 rotate_left
 ·refine ZcW (λ h=>by cases h) (λ _=>no (λ n' k' h' h3=>by have:=(same n' k' h').2.1;omega) rfl)
 have hsl:s'.len=bs.length - k:=by have:=hs'.len;simpa using this
 refine Zd.mk rfl ⟨s',oA hw,?_⟩;rw [Zax (by omega) (by omega),hsl];refine ZcW (λ h3=>.inl ⟨rfl,?_⟩) (λ h3=>?_)
 rotate_left
 ·have h3:=of_decide_eq_false h3
  refine no (λ n' k' h' h4=>?_) rfl;have:=same n' k' h';omega
 have h3:=of_decide_eq_true h3;rw [Zl (by omega) (by omega)];obtain ⟨m,rfl⟩:=Int.eq_ofNat_of_zero_le n0;have hm':SlR R.m s' (b8 (bs.drop k)):=hs'.mono hsub;refine (Zhb (k:=m) hm' hw).use ?_ ?_
 rotate_left
 ·rintro _ w ⟨h4,_⟩
  simp at h4;omega
 rintro _ w ⟨_,rfl,hw⟩;refine .inl ⟨⟨s'.a,m,s'.cap⟩,rfl,?_⟩;have ht:SlR R.m ⟨s'.a,m,s'.cap⟩ (b8 ((bs.drop k).take m)):=by
  have:=hm'.take (k:=m) (by simp;omega);rwa [<-List.map_take] at this
 refine (ZeB (s:=⟨s'.a,m,s'.cap⟩) (ht.ro (by simp;omega)) (by simp;omega) hw).use ?_;rintro _ w ⟨t,rfl,hw⟩;refine .inl ⟨t,rfl,?_⟩;have hw:Sat R (lp bo ⟨none,0,0⟩::Own t 5 (b8 ((bs.drop k).take m))::lp l (Zde s' m)::pts bm (.cells [.int .i64 most].toArray 3 (0,0))::Hs) w:=hw.arr;refine Za hw (by kernel_rfl) rfl (by simp [Value.cells]) λ w hw=>?_;have hw:=hw.re (lp bo t);refine ⟨rfl,m,k,Zde s' m,t,hp,⟨by omega,h2,by omega⟩,?_,?_⟩
 ·have:=hs'.drop (k:=m) (by simp;omega)
  rw [<-List.map_drop,List.drop_drop] at this;exact this
 ·rw [Int.toNat_natCast];exact hw.arr
theorem ZbO {r:Nat} {rd:Rd} {most:Int} (hm:most<9223372036854775808) (hl:rd.bs.length<=1099511627776) (hb:∀ x∈rd.bs,0<=x/\x<256) (hw:Sat R (ZC r rd::Hs) w):
  Zo prog 94 #[.pointer (some ⟨r,0,none⟩),.int .i64 most] w λ v w'=>∃ t:Sl,v=.slice t.a t.len t.cap/\Sat R (Own t 5 (b8 (ZL most rd).1)::ZC r (ZL most rd).2::Hs) w':=by
 apply Zz6;refine Zb hw λ bm w hw=>Zb hw λ bo w hw=>?_;have hw:Sat R (ZC r rd::lp bo ⟨none,0,0⟩::pts bm (.cells [.int .i64 most].toArray 3 (0,0))::Hs) w:=by
  have hw:Sat R (lp bo ⟨none,0,0⟩::pts bm (.cells [.int .i64 most].toArray 3 (0,0))::ZC r rd::Hs) w:=hw;exact hw.arr
 refine (Zgv (α:=(Int × Nat) × Sl) (f:=λ y=>rd.bs.drop (y.1.2 + y.1.1.toNat)) (G:=λ y=>Zb6 rd.bs=some (y.1.1,false,y.1.2)/\(0<=most/\y.1.1<=most/\y.1.1<=(rd.bs.length:Int) - y.1.2)) (N:=∀ n k,Zb6 rd.bs=some (n,false,k)->¬ (0<=most/\n<=most/\n<=(rd.bs.length:Int) - k))
  (Hs1:=λ y=>lp bo y.2::Own y.2 5 (b8 ((rd.bs.drop y.1.2).take y.1.1.toNat))::pts bm (.cells [.int .i64 most].toArray 3 (0,0))::Hs)
  (Hs2:=lp bo ⟨none,0,0⟩::pts bm (.cells [.int .i64 most].toArray 3 (0,0))::Hs) hw ?_).use ?_
 ·intro _ x l s A B w hsub hs hw
  refine Zak.mk (by kernel_rfl) ?_;have hw2:Sat (R.add x) (lp l s::lp bo ⟨none,0,0⟩::pts bm (.cells [.int .i64 most].toArray 3 (0,0))::A::B::Hs) w:=hw.arr;refine (Zow (h:=x) hm hl hb hsub hs hw2).use ?_ ?_
  ·rintro _ w ⟨rfl,n,k,s',t,hp,hn,hs',hw⟩
   exact .inl ⟨rfl,((n,k),t),s',⟨hp,hn⟩,hs',hw.arr⟩
  ·rintro _ w ⟨rfl,hn,s',hw⟩
   exact .inr ⟨rfl,hn,s',hw.arr⟩
 ·rintro _ w ⟨rfl,h⟩
  refine ⟨rfl,?_⟩;rcases h with ⟨hbad,hw⟩|⟨hbad,⟨⟨n,k⟩,t⟩,⟨hp,hn⟩,hw⟩|⟨hbad,hno,hw⟩
  ·have hw:Sat R (lp bo ⟨none,0,0⟩::ZC r rd::pts bm (.cells [.int .i64 most].toArray 3 (0,0))::Hs) w:=hw.swap
   refine ⟨⟨none,0,0⟩,oA hw,?_⟩;unfold ZL;rw [if_pos hbad];exact ⟨_,rfl,Own.nil (hw.drop.cons λ _ h=>h.drop)⟩
  ·have hw:Sat R (lp bo t::Own t 5 (b8 ((rd.bs.drop k).take n.toNat))::ZC r ⟨rd.bs.drop (k + n.toNat),false⟩::pts bm (.cells [.int .i64 most].toArray 3 (0,0))::Hs) w:=hw.arr
   refine ⟨t,oA hw,?_⟩;unfold ZL;rw [if_neg (by rw [hbad];simp),hp];simp only;rw [if_pos ⟨trivial,hn⟩];exact ⟨_,rfl,hw.drop.cons λ _ h=>h.cons λ _ h=>h.drop⟩
  ·have hw:Sat R (lp bo ⟨none,0,0⟩::ZC r ⟨rd.bs,true⟩::pts bm (.cells [.int .i64 most].toArray 3 (0,0))::Hs) w:=hw.swap
   refine ⟨⟨none,0,0⟩,oA hw,?_⟩;have e:ZL most rd=([],⟨rd.bs,true⟩):=by
    unfold ZL;rw [if_neg (by rw [hbad];simp)];cases hp:Zb6 rd.bs with
    |none=>rfl
    |some p=>
     obtain ⟨n,neg,k⟩:=p;simp only;rw [if_neg];rintro ⟨rfl,h⟩;exact hno n k hp h
   rw [e];exact ⟨_,rfl,Own.nil (hw.drop.cons λ _ h=>h.drop)⟩
theorem Zcx {most:Int} {rd:Rd} (hb:∀ x∈rd.bs,0<=x/\x<256):(∀ x∈(ZL most rd).1,0<=x/\x<256)/\(∀ x∈(ZL most rd).2.bs,0<=x/\x<256):=by
 unfold ZL;split
 ·exact ⟨by simp,hb⟩
 ·split
  ·split
   ·exact ⟨λ x hx=>hb x (List.mem_of_mem_drop (List.mem_of_mem_take hx)),λ x hx=>hb x (List.mem_of_mem_drop hx)⟩
   ·exact ⟨by simp,hb⟩
  ·exact ⟨by simp,hb⟩
theorem ZbP {most:Int} {rd:Rd}:(ZL most rd).1.length<=rd.bs.length/\(ZL most rd).2.bs.length<=rd.bs.length:=by
 unfold ZL;split
 ·simp
 ·split
  ·split
   ·simp;omega
   ·simp
  ·simp
theorem Z4 {most:Int} {rd:Rd}:(Zc most rd).2.bs.length<=rd.bs.length:=by
 unfold Zc;split
 ·simp
 ·split
  ·split
   ·simp
   ·simp
  ·simp
end
end Go.Proofs.YtlplemdmegpoeaaGreatDoor
namespace Go.VC
section
open Ieee
def Zgn:Int:=2 ^ 2200
def ZtC:Datum->Option Int
 | .nan ..=>none
 | .infinity s=>some (if s then -Zgn else Zgn)
 | .number s m i=>some (signed s m (i + 1074).toNat)
theorem ZkT (s:Bool) (m k:Nat):signed s m k=(if s then -1 else 1) * ((m:Int) * 2 ^ k):=by
 unfold signed;cases s<;>simp [Nat.shiftLeft_eq]
theorem ZsH {a b:Int} {c:Int} (h:0<c):compare (a * c) (b * c)=compare a b:=by
 simp only [compare,compareOfLessAndEq];have h1:a * c<b * c↔a<b:=⟨λ h2=>Int.lt_of_mul_lt_mul_right h2 (by omega),λ h2=>Int.mul_lt_mul_of_pos_right h2 h⟩;have h2:a * c=b * c↔a=b:=⟨λ h3=>Int.eq_of_mul_eq_mul_right (by omega) h3,λ h3=>by rw [h3]⟩;simp only [h1,h2]
theorem ZkS (s:Bool) (m k c:Nat):signed s m (k + c)=signed s m k * 2 ^ c:=by
 rw [ZkT,ZkT,Int.pow_add];rw [Int.mul_assoc,Int.mul_assoc]
theorem Zmq {x:Nat} {s:Bool} {m:Nat} {i:Int} (h:double.read x=.number s m i):(-1074<=i/\i<=971)/\m<2 ^ 53:=by
 unfold Format.read at h;simp only [Zgl,ZmY,Zh0,Zoe] at h;split at h
 ·rename_i hr
  simp only [Datum.number.injEq] at h;obtain ⟨_,rfl,rfl⟩:=h;exact ⟨⟨by omega,by omega⟩,by omega⟩
 ·split at h
  ·rename_i hr
   simp only [Datum.number.injEq] at h;obtain ⟨_,rfl,rfl⟩:=h;refine ⟨⟨by omega,?_⟩,by omega⟩;have:x % 9223372036854775808 / 4503599627370496<=2046:=by omega
   omega
  ·split at h<;>cases h
theorem ZwE (n:Nat):(2:Int) ^ n=((2 ^ n:Nat):Int):=by rw [Int.natCast_pow];rfl
theorem Zm4 (n:Nat):(0:Int)<2 ^ n:=Int.pow_pos (by omega)
theorem Zzu {m k n N:Nat} (hm:m<2 ^ 53) (hk:k<=n) (hN:53 + n<N):m * 2 ^ k<2 ^ N:=by
 have h1:m * 2 ^ k<=2 ^ 53 * 2 ^ n:=Nat.mul_le_mul (by omega) (Nat.pow_le_pow_right (by omega) hk);rw [<-Nat.pow_add] at h1;exact Nat.lt_of_le_of_lt h1 (Nat.pow_lt_pow_right (by omega) hN)
theorem Zp8 {x:Nat} {s:Bool} {m:Nat} {i:Int} (h:double.read x=.number s m i): -Zgn<signed s m (i + 1074).toNat/\signed s m (i + 1074).toNat<Zgn:=by
 obtain ⟨⟨h1,h2⟩,h3⟩:=Zmq h;have hk:(i + 1074).toNat<=2045:=by omega
 have hp:m * 2 ^ (i + 1074).toNat<2 ^ 2200:=Zzu (N:=2200) (n:=2045) h3 hk (by omega);have hp2:((m * 2 ^ (i + 1074).toNat:Nat):Int)<Zgn:=by
  unfold Zgn;rw [ZwE];exact Int.ofNat_lt.2 hp
 have hb:(0:Int)<Zgn:=by unfold Zgn;exact Zm4 2200
 have e:signed s m (i + 1074).toNat=if s then -((m * 2 ^ (i + 1074).toNat:Nat):Int) else ((m * 2 ^ (i + 1074).toNat:Nat):Int):=by
  unfold signed;rw [Nat.shiftLeft_eq]
 rw [e];generalize m * 2 ^ (i + 1074).toNat=n at *;cases s<;>simp<;>omega
theorem Zrl (x y:Nat):double.order x y=match ZtC (double.read x),ZtC (double.read y) with
  |some a,some b=>some (compare a b)
  |_,_=>none:=by
 have hb:(0:Int)<Zgn:=by unfold Zgn;exact Zm4 2200
 have lt_cmp:∀ a b:Int,a<b->compare a b=.lt:=λ a b h=>by simp only [compare,compareOfLessAndEq,if_pos h]
 have gt_cmp:∀ a b:Int,b<a->compare a b=.gt:=λ a b h=>by simp only [compare,compareOfLessAndEq];rw [if_neg (by omega),if_neg (by omega)]
 have eq_cmp:∀ a:Int,compare a a=.eq:=λ a=>by simp [compare,compareOfLessAndEq]
 unfold Format.order;cases hx:double.read x with
 |nan s t=>cases double.read y<;>rfl
 |infinity s=>
  cases hy:double.read y with
  |nan=>rfl
  |infinity t=>
   show some (compare t.toNat s.toNat)=some (compare (if s then -Zgn else Zgn) (if t then -Zgn else Zgn))
   cases s<;>cases t
   ·simp only [Bool.false_eq_true,if_false];rw [eq_cmp];rfl
   ·simp only [Bool.false_eq_true,if_false,if_true];rw [gt_cmp _ _ (by omega)];rfl
   ·simp only [Bool.false_eq_true,if_false,if_true];rw [lt_cmp _ _ (by omega)];rfl
   ·simp only [if_true];rw [eq_cmp];rfl
  |number t n j=>
   have:=Zp8 hy;show some (if s then Ordering.lt else .gt)=some (compare (if s then -Zgn else Zgn) (signed t n (j + 1074).toNat))
   cases s
   ·simp only [Bool.false_eq_true,if_false];rw [gt_cmp _ _ (by omega)]
   ·simp only [if_true];rw [lt_cmp _ _ (by omega)]
 |number s m i=>
  cases hy:double.read y with
  |nan=>rfl
  |infinity t=>
   have:=Zp8 hx;show some (if t then Ordering.gt else .lt)=some (compare (signed s m (i + 1074).toNat) (if t then -Zgn else Zgn))
   cases t
   ·simp only [Bool.false_eq_true,if_false];rw [lt_cmp _ _ (by omega)]
   ·simp only [if_true];rw [gt_cmp _ _ (by omega)]
  |number t n j=>
   obtain ⟨⟨i1,i2⟩,_⟩:=Zmq hx;obtain ⟨⟨j1,j2⟩,_⟩:=Zmq hy;show some (compare (signed s m (i - min i j).toNat) (signed t n (j - min i j).toNat))=some (compare (signed s m (i + 1074).toNat) (signed t n (j + 1074).toNat));have e1:(i + 1074).toNat=(i - min i j).toNat + (min i j + 1074).toNat:=by omega
   have e2:(j + 1074).toNat=(j - min i j).toNat + (min i j + 1074).toNat:=by omega
   rw [e1,e2,ZkS,ZkS,ZsH (Int.pow_pos (by omega))]
def kvF (x:Nat):Int:=match ZtC (double.read x) with|none=>-Zgn - 1|some v=>v
def Zo7 (x:Nat):Bool:=(ZtC (double.read x)).isNone
theorem ZzK {x:Nat} (h:Zo7 x=false): -Zgn<=kvF x:=by
 have hb:(0:Int)<Zgn:=by unfold Zgn;exact Zm4 2200
 unfold Zo7 at h;unfold kvF;cases hr:double.read x with
 |nan s t=>rw [hr] at h;cases h
 |infinity s=>
  show -Zgn<=if s then -Zgn else Zgn
  split<;>omega
 |number s m i=>have:=(Zp8 hr).1;show -Zgn<=signed s m (i + 1074).toNat;omega
theorem ZnR {x:Nat} (h:Zo7 x=true):kvF x=-Zgn - 1:=by
 unfold Zo7 at h;unfold kvF;cases hv:ZtC (double.read x) with
 |none=>rfl
 |some v=>rw [hv] at h;cases h
theorem Zvi {x y:Nat} (hx:Zo7 x=false) (hy:Zo7 y=false):(double.order x y==some .lt)=decide (kvF x<kvF y)/\(double.order x y==some .eq)=decide (kvF x=kvF y)/\(double.order x y==some .gt)=decide (kvF y<kvF x):=by
 rw [Zrl];unfold Zo7 at hx hy;unfold kvF;cases hvx:ZtC (double.read x) with
 |none=>rw [hvx] at hx;cases hx
 |some a=>
  cases hvy:ZtC (double.read y) with
  |none=>rw [hvy] at hy;cases hy
  |some b=>
   dsimp only;simp only [compare,compareOfLessAndEq];by_cases h1:a<b
   ·rw [if_pos h1]
    refine ⟨by rw [decide_eq_true h1];rfl,by rw [decide_eq_false (by omega)];rfl,by rw [decide_eq_false (by omega)];rfl⟩
   ·rw [if_neg h1]
    by_cases h2:a=b
    ·rw [if_pos h2]
     refine ⟨by rw [decide_eq_false h1];rfl,by rw [decide_eq_true h2];rfl,by rw [decide_eq_false (by omega)];rfl⟩
    ·rw [if_neg h2]
     refine ⟨by rw [decide_eq_false h1];rfl,by rw [decide_eq_false h2];rfl,by rw [decide_eq_true (by omega)];rfl⟩
theorem Zt9 {x y:Nat} (h:Zo7 x=true\/Zo7 y=true):double.order x y=none:=by
 rw [Zrl];unfold Zo7 at h;cases hvx:ZtC (double.read x) with
 |none=>rfl
 |some a=>
  cases hvy:ZtC (double.read y) with
  |none=>rfl
  |some b=>rw [hvx,hvy] at h;simp at h
theorem Zt8 (x:Nat):(double.order x x==some .eq)=!Zo7 x:=by
 cases h:Zo7 x with
 |true=>rw [Zt9 (.inl h)];rfl
 |false=>rw [(Zvi h h).2.1];simp
def Zhr (a b:Nat):Int:=if kvF a<kvF b then -1 else if kvF a=kvF b then 0 else 1
end
def Zts (b:Nat):Nat:=if b<9223372036854775808 then b + 9223372036854775808 else 18446744073709551615 - b
def ofF (k:Nat):Nat:=if 9223372036854775808<=k then k - 9223372036854775808 else 18446744073709551615 - k
theorem ZzA {b:Nat} (h:b<18446744073709551616):ofF (Zts b)=b:=by
 unfold ofF Zts;split<;>split<;>omega
theorem ZnT {b:Nat} (h:b<18446744073709551616):Zts b<18446744073709551616:=by
 unfold Zts;split<;>omega
theorem ZBN {k:Nat} (h:k<18446744073709551616):ofF k<18446744073709551616:=by
 unfold ofF;split<;>omega
structure Wt where
 id:Int
 cls:Int
 many:Int
 time:Int
 sc:Nat
deriving DecidableEq
def Wt.Ok (w:Wt):Prop:=(1<=w.id/\w.id<=28629151)/\(0<=w.cls/\w.cls<=7)/\(1<=w.many/\w.many<=600)/\(0<=w.time/\w.time<=1099511627776)
instance (w:Wt):Decidable w.Ok:=by unfold Wt.Ok;infer_instance
def Wt.ahead (a b:Wt):Bool:=if kvF a.sc=kvF b.sc then (if a.time=b.time then decide (a.id<b.id) else decide (a.time<b.time)) else decide (kvF b.sc<kvF a.sc)
theorem Zdr {a b:Wt}:a.ahead b=true↔kvF b.sc<kvF a.sc\/kvF a.sc=kvF b.sc/\(a.time<b.time\/a.time=b.time/\a.id<b.id):=by
 unfold Wt.ahead;split
 ·split
  ·simp;omega
  ·simp;omega
 ·simp;omega
theorem ZcM {a b c:Wt} (h1:a.ahead b=true) (h2:b.ahead c=true):a.ahead c=true:=by
 rw [Zdr] at *;omega
theorem ZpR {a b:Wt} (h:a.ahead b=true):b.ahead a=false:=by
 cases h2:b.ahead a with
 |false=>rfl
 |true=>rw [Zdr] at h h2;omega
theorem Zl3 {a b:Wt} (h:a.id≠b.id) (h1:a.ahead b=false):b.ahead a=true:=by
 rw [Zdr];have:¬ a.ahead b=true:=by rw [h1];simp
 rw [Zdr] at this;omega
def Wt.ord (a b:Wt):Int:=if Zhr b.sc a.sc≠0 then Zhr b.sc a.sc else if a.time<b.time then -1 else if b.time<a.time then 1 else if a.id<b.id then -1 else if b.id<a.id then 1 else 0
theorem Zrn {a b:Wt}:a.ord b<0↔a.ahead b=true:=by
 rw [Zdr];unfold Wt.ord Zhr
 repeat' split
 all_goals first|omega|(simp at *;omega)
theorem Zrm {a b:Wt}:0<a.ord b↔b.ahead a=true:=by
 rw [Zdr];unfold Wt.ord Zhr
 repeat' split
 all_goals first|omega|(simp at *;omega)
def QSt (q:List Wt):Prop:=q.Pairwise λ a b=>a.ahead b=true
def Zzi (q:List Wt):Prop:=q.Pairwise λ a b=>a.id≠b.id
structure QOk (q:List Wt):Prop where
 st:QSt q
 ids:Zzi q
 ok:∀ w∈q,w.Ok
 fl:∀ w∈q,w.sc<18446744073709551616
 len:q.length<=200
theorem QOk.nil:QOk []:=⟨List.Pairwise.nil,List.Pairwise.nil,λ _ h=>(by cases h),λ _ h=>(by cases h),by simp⟩
def Zl8 (w:Wt) (q:List Wt):List Wt:=q.takeWhile (λ a=>a.ahead w)++w::q.dropWhile (λ a=>a.ahead w)
theorem Zdh (w a:Wt) (q:List Wt):Zl8 w (a::q)=if a.ahead w then a::Zl8 w q else w::a::q:=by
 unfold Zl8;rw [List.takeWhile_cons,List.dropWhile_cons];split<;>rfl
theorem ZcY {w x:Wt}:∀ {q:List Wt},x∈Zl8 w q↔x=w\/x∈q
 |[]=>by simp [Zl8]
 |a::q=>by
  rw [Zdh];split
  ·rw [List.mem_cons,ZcY,List.mem_cons]
   constructor
   ·rintro (h|h|h)<;>simp [h]
   ·rintro (h|h|h)<;>simp [h]
  ·rw [List.mem_cons]
theorem ZnV {w:Wt}:∀ {q:List Wt},(Zl8 w q).length=q.length + 1
 |[]=>rfl
 |a::q=>by
  rw [Zdh];split
  ·rw [List.length_cons,ZnV,List.length_cons]
  ·rfl
theorem Zr7 {w:Wt}:∀ {q:List Wt},QSt q->(∀ x∈q,x.id≠w.id)->QSt (Zl8 w q)
 |[],_,_=>List.Pairwise.cons (λ _ h=>(by cases h)) List.Pairwise.nil
 |a::q,h,hid=>by
  have h1:=List.pairwise_cons.1 h;rw [Zdh];split
  ·rename_i ha
   refine List.Pairwise.cons (λ x hx=>?_) (Zr7 h1.2 λ x hx=>hid x (by simp [hx]));rcases ZcY.1 hx with rfl|hx
   ·exact ha
   ·exact h1.1 x hx
  ·rename_i ha
   have hwa:w.ahead a=true:=Zl3 (hid a (by simp)) (by simpa using ha);refine List.Pairwise.cons (λ x hx=>?_) h;rcases List.mem_cons.1 hx with rfl|hx
   ·exact hwa
   ·exact ZcM hwa (h1.1 x hx)
theorem ZnW {w:Wt}:∀ {q:List Wt},Zzi q->(∀ x∈q,x.id≠w.id)->Zzi (Zl8 w q)
 |[],_,_=>List.Pairwise.cons (λ _ h=>(by cases h)) List.Pairwise.nil
 |a::q,h,hid=>by
  have h1:=List.pairwise_cons.1 h;rw [Zdh];split
  ·refine List.Pairwise.cons (λ x hx=>?_) (ZnW h1.2 λ x hx=>hid x (by simp [hx]))
   rcases ZcY.1 hx with rfl|hx
   ·exact hid a (by simp)
   ·exact h1.1 x hx
  ·refine List.Pairwise.cons (λ x hx=>?_) h
   exact λ e=>hid x hx e.symm
theorem ZnX {w:Wt}:∀ {q:List Wt},(∀ x∈q,x.ahead w=true)->Zl8 w q=q++[w]
 |[],_=>rfl
 |a::q,h=>by rw [Zdh,if_pos (h a (by simp)),ZnX λ x hx=>h x (by simp [hx])];rfl
theorem ZwF {w:Wt} {q:List Wt} {i:Nat} (hst:QSt q) (h1:i=0\/∃ h:i - 1<q.length,q[i - 1].ahead w=true) (h2:∀ h:i<q.length,q[i].ahead w=false) (hi:i<=q.length):Zl8 w q=q.take i++w::q.drop i:=by
 induction q generalizing i with
 |nil=>cases i with
  |zero=>rfl
  |succ n=>simp at hi
 |cons a q ih=>
  have hp:=List.pairwise_cons.1 hst;rw [Zdh];cases i with
  |zero=>rw [if_neg (by have:=h2 (by simp);simp at this;simp [this])];rfl
  |succ n=>
   have ha:a.ahead w=true:=by
    rcases h1 with h1|⟨hl,h1⟩
    ·omega
    ·cases n with
     |zero=>simpa using h1
     |succ m=>
      have hm:m<q.length:=by simp at hl;omega
      exact ZcM (hp.1 q[m] (List.getElem_mem hm)) (by simpa using h1)
   rw [if_pos ha,ih hp.2 ?_ (λ hl=>by have:=h2 (by simp;omega);simpa using this) (by simp at hi;exact hi)]
   ·rfl
   ·cases n with
    |zero=>exact .inl rfl
    |succ m=>
     refine .inr ⟨by simp at hi;omega,?_⟩;rcases h1 with h1|⟨hl,h1⟩
     ·omega
     ·simpa using h1
def ZgA (id:Int) (q:List Wt):Bool:=q.any λ w=>decide (w.id=id)
def ZeH (q:List Wt) (w:Wt):List Wt × Int:=
 if ¬ w.Ok then (q,1) else if ZgA w.id q then (q,7) else if 200<=q.length then (q,3) else (Zl8 w q,0)
def ZhY (id:Int):List Wt->List Wt
 |[]=>[]
 |w::q=>if w.id=id then q else w::ZhY id q
def Zvg (q:List Wt) (id:Int):List Wt × Int:=if ZgA id q then (ZhY id q,0) else (q,2)
theorem ZgY {id:Int} {q:List Wt}:ZgA id q=true↔∃ w∈q,w.id=id:=by
 unfold ZgA;simp
theorem Zsd {id:Int} {q:List Wt}:ZgA id q=false↔∀ w∈q,w.id≠id:=by
 unfold ZgA;simp
theorem Zex {id:Int}:∀ {q:List Wt},(ZhY id q).Sublist q
 |[]=>List.Sublist.refl _
 |w::q=>by
  show (if w.id=id then q else w::ZhY id q).Sublist _
  split
  ·exact List.sublist_cons_self _ _
  ·exact Zex.cons_cons _
theorem Zjb {id:Int}:∀ {q:List Wt},ZgA id q=true->∃ A w C,q=A++w::C/\w.id=id/\(∀ x∈A,x.id≠id)/\ZhY id q=A++C
 |[],h=>by cases h
 |w::q,h=>by
  by_cases e:w.id=id
  ·exact ⟨[],w,q,rfl,e,λ _ h=>(by cases h),by show (if w.id=id then q else _)=_;rw [if_pos e];rfl⟩
  ·have h2:ZgA id q=true:=by
    rw [ZgY] at *;obtain ⟨x,hx,hi⟩:=h;rcases List.mem_cons.1 hx with rfl|hx
    ·exact absurd hi e
    ·exact ⟨x,hx,hi⟩
   obtain ⟨A,x,C,rfl,hx,hA,hd⟩:=Zjb h2;refine ⟨w::A,x,C,rfl,hx,λ y hy=>?_,?_⟩
   ·rcases List.mem_cons.1 hy with rfl|hy
    ·exact e
    ·exact hA y hy
   ·show (if w.id=id then _ else w::ZhY id _)=_
    rw [if_neg e,hd];rfl
theorem Zki {id:Int} {q:List Wt} (h:Zzi q) {x:Wt}:x∈ZhY id q↔x∈q/\x.id≠id:=by
 induction q with
 |nil=>simp [ZhY]
 |cons w q ih=>
  have hp:=List.pairwise_cons.1 h;show x∈(if w.id=id then q else w::ZhY id q)↔_
  split
  ·rename_i e
   constructor
   ·exact λ hx=>⟨by simp [hx],λ e2=>hp.1 x hx (by rw [e,e2])⟩
   ·rintro ⟨hx,hn⟩
    rcases List.mem_cons.1 hx with rfl|hx
    ·exact absurd e hn
    ·exact hx
  ·rename_i e
   rw [List.mem_cons,ih hp.2,List.mem_cons];constructor
   ·rintro (rfl|⟨h1,h2⟩)
    ·exact ⟨.inl rfl,e⟩
    ·exact ⟨.inr h1,h2⟩
   ·rintro ⟨rfl|h1,h2⟩
    ·exact .inl rfl
    ·exact .inr ⟨h1,h2⟩
theorem QOk.del {q:List Wt} (h:QOk q) (id:Int):QOk (ZhY id q):=
 ⟨h.st.sublist Zex,h.ids.sublist Zex,λ w hw=>h.ok w (Zex.subset hw),λ w hw=>h.fl w (Zex.subset hw),Nat.le_trans Zex.length_le h.len⟩
theorem QOk.ins {q:List Wt} (h:QOk q) {w:Wt} (hw:w.Ok) (hf:w.sc<18446744073709551616) (hn:ZgA w.id q=false) (hl:q.length<200):QOk (Zl8 w q):=by
 have hn':=Zsd.1 hn;refine ⟨Zr7 h.st hn',ZnW h.ids hn',λ x hx=>?_,λ x hx=>?_,by rw [ZnV];omega⟩
 ·rcases ZcY.1 hx with rfl|hx
  ·exact hw
  ·exact h.ok x hx
 ·rcases ZcY.1 hx with rfl|hx
  ·exact hf
  ·exact h.fl x hx
def ZdE (left:List Int) (w:Wt):Bool:=decide (w.cls<left.length) && decide (w.many<=left.getD w.cls.toNat 0)
def ZaE (q:List Wt) (left:List Int):Option Wt:=q.find? (ZdE left)
theorem ZoT {q:List Wt} {left:List Int} {w:Wt} (h:ZaE q left=some w):w∈q/\ZdE left w=true:=
 ⟨List.mem_of_find?_eq_some h,List.find?_some h⟩
def Zmk:List Int:=[65,66,67,68,69,70,71,72,74,75,76,77,78,80,81,82,84,85,86,87,88,89,90,50,51,52,53,54,55,56,57]
theorem Zqy:Zmk.length=31:=rfl
def Zdb (c:Int):Nat->List Int->Int
 |_,[]=>-1
 |i,x::l=>if x=c then i else Zdb c (i + 1) l
def ZK (c:Int):Int:=Zdb c 0 Zmk
theorem Zgr (c:Int):∀ (i:Nat) (l:List Int),Zdb c i l=-1\/(i<=Zdb c i l/\Zdb c i l<i + l.length)
 |_,[]=>.inl rfl
 |i,x::l=>by
  unfold Zdb;split
  ·right;simp;omega
  ·rcases Zgr c (i + 1) l with h|h
   ·exact .inl h
   ·right;simp;omega
theorem Znd (c:Int):ZK c=-1\/(0<=ZK c/\ZK c<31):=by
 have:=Zgr c 0 Zmk;rw [Zqy] at this;unfold ZK;omega
def Zuj (l:List Int):Int:=l.foldl (λ n d=>n * 31 + d) 0
def Zdv:Int->List Int->Int
 |_,[]=>0
 |k,d::l=>k * d + Zdv (k + 1) l
theorem Ztz (k:Int) (a b:List Int):Zdv k (a++b)=Zdv k a + Zdv (k + a.length) b:=by
 induction a generalizing k with
 |nil=>simp [Zdv]
 |cons x a ih=>simp only [List.cons_append,Zdv,ih,List.length_cons];rw [show k + 1 + (a.length:Int)=k + ((a.length + 1:Nat):Int) by omega];omega
theorem Zui (a:List Int) (d:Int):Zuj (a++[d])=Zuj a * 31 + d:=by simp [Zuj]
def ZdI (n:Int):List Int:=[n / 923521 % 31,n / 29791 % 31,n / 961 % 31,n / 31 % 31,n % 31]
theorem Zw1 (n:Int):∀ d∈ZdI n,0<=d/\d<31:=by
 intro d hd;simp only [ZdI,List.mem_cons,List.not_mem_nil,or_false] at hd;omega
def Zze (n:Int):Int:=(31 - Zdv 2 (ZdI n) % 31) % 31
def Zhh (d:Int):Int:=Zmk.getD d.toNat 0
def Zww (n:Int):List Int:=(ZdI n++[Zze n]).map Zhh
def Zb9 (bs:List Int):Int × Int:=
 if bs.length≠6\/(∃ c∈bs,ZK c<0) then (0,6)
 else if (Zdv 2 ((bs.take 5).map ZK) + ZK (bs.getD 5 0)) % 31≠0 then (0,6)
 else (Zuj ((bs.take 5).map ZK),0)
theorem ZnN (n:Int):(Zww n).length=6:=rfl
theorem Zxe (n:Int):0<=Zze n/\Zze n<31:=by unfold Zze;omega
theorem ZrI:∀ {l:List Int} {a:Int} {k:Nat},(∀ d∈l,0<=d/\d<31)->(0<=a/\a<31 ^ k)->0<=l.foldl (λ n d=>n * 31 + d) a/\l.foldl (λ n d=>n * 31 + d) a<31 ^ (k + l.length)
 |[],_,_,_,h=>h
 |d::l,a,k,hd,h=>by
  have h2:=hd d (by simp);have h3:=ZrI (l:=l) (a:=a * 31 + d) (k:=k + 1) (λ x hx=>hd x (by simp [hx])) (by rw [Int.pow_succ];omega);rw [List.length_cons,show k + (l.length + 1)=k + 1 + l.length by omega];exact h3
theorem Zwv {l:List Int} (h:∀ d∈l,0<=d/\d<31):0<=Zuj l/\Zuj l<31 ^ l.length:=by
 have:=ZrI (a:=0) (k:=0) h ⟨by omega,by simp⟩;rw [Nat.zero_add] at this;exact this
end Go.VC
namespace Go.Proofs.YtlplemdmegpoeaaGreatDoor
section
open Go Go.VC Tryz
def ZG {α:Type} (one:Rd->α × Rd):Nat->Rd->List α × Rd
 |0,r=>([],r)
 |n + 1,r=>((one r).1::(ZG one n (one r).2).1,(ZG one n (one r).2).2)
theorem Zcy {α:Type} (one:Rd->α × Rd) (n:Nat) (r:Rd):ZG one (n + 1) r=((one r).1::(ZG one n (one r).2).1,(ZG one n (one r).2).2):=rfl
theorem Zbl {α:Type} (one:Rd->α × Rd):∀ (n:Nat) (r:Rd),(ZG one n r).1.length=n
 |0,_=>rfl
 |n + 1,r=>by rw [Zcy,List.length_cons,Zbl one n]
theorem ZbQ {α:Type} (one:Rd->α × Rd):∀ (k:Nat) (r:Rd),ZG one (k + 1) r=((ZG one k r).1++[(one (ZG one k r).2).1],(one (ZG one k r).2).2)
 |0,_=>rfl
 |k + 1,r=>by
  rw [Zcy,ZbQ one k (one r).2];rfl
theorem Za9 {α:Type} {one:Rd->α × Rd} {P:Rd->Prop} {Q:α->Prop} (h:∀ r,P r->Q (one r).1/\P (one r).2):∀ (n:Nat) {r:Rd},P r->(∀ x∈(ZG one n r).1,Q x)/\P (ZG one n r).2
 |0,_,hr=>⟨λ _ hx=>(by cases hx),hr⟩
 |n + 1,r,hr=>by
  have h1:=h r hr;have h2:=Za9 h n h1.2;refine ⟨λ x hx=>?_,h2.2⟩;rcases List.mem_cons.1 hx with rfl|hx
  ·exact h1.1
  ·exact h2.1 x hx
theorem ZdB {α:Type} {one:Rd->α × Rd} {code:α->List Int} {rest:List Int}:∀ {l:List α},(∀ x∈l,∀ more,one ⟨code x++more,false⟩=(x,⟨more,false⟩))->ZG one l.length ⟨(l.map code).flatten++rest,false⟩=(l,⟨rest,false⟩)
 |[],_=>rfl
 |x::l,h=>by
  rw [List.length_cons,Zcy,List.map_cons,List.flatten_cons,List.append_assoc,h x (by simp)];dsimp only;rw [ZdB λ y hy=>h y (by simp [hy])]
def Zv (l:List Int):Prop:=∀ x∈l,0<=x/\x<256
def Zbq (most:Int) (r:Rd):ByteArray × Rd:=(VC.strOf (ZL most r).1,(ZL most r).2)
def ZdD (r:Rd):Nat × Rd:=(ofF (Zc 18446744073709551615 r).1.toNat,(Zc 18446744073709551615 r).2)
def Zqr (s:ByteArray):List Int:=ZaX (ZY s)
def Zzd (x:Nat):List Int:=Zf4 (Zts x)
theorem Zcw {d rest:List Int} {most:Int} (hl:d.length<1000000) (hm:(d.length:Int)<=most):ZL most ⟨ZaX d++rest,false⟩=(d,⟨rest,false⟩):=by
 unfold ZL ZaX;rw [if_neg (by simp)];dsimp only;rw [List.append_assoc,Zlh (by omega)];dsimp only;have hn:=Zbx (n:=d.length) (by omega);rw [if_pos ⟨rfl,by omega,hm,by simp only [List.length_append];omega⟩,List.drop_left,Int.toNat_natCast,List.take_left,<-List.drop_drop,List.drop_left,List.drop_left]
theorem Zpq {x:Nat} (hx:x<18446744073709551616) {rest:List Int}:ZdD ⟨Zzd x++rest,false⟩=(x,⟨rest,false⟩):=by
 have:=ZnT hx;unfold ZdD Zzd;rw [ZiF this (by omega)];dsimp only;rw [Int.toNat_natCast,ZzA hx]
theorem Zef {most:Int} {rd:Rd} (hb:Zv rd.bs):Zv (Zbq most rd).2.bs:=(Zcx hb).2
theorem Zmr {most:Int} {rd:Rd} (hb:Zv rd.bs):(ZL most rd).1.length<=most.toNat:=by
 unfold ZL;split
 ·simp
 ·split
  ·split
   ·rename_i h;rw [List.length_take];omega
   ·simp
  ·simp
theorem Zis (l:List Int):(VC.strOf l).size=l.length:=by
 show (l.map λ n=>UInt8.ofNat n.toNat).toArray.size=_;rw [List.size_toArray,List.length_map]
theorem ZfE {rd:Rd} (hb:Zv rd.bs):Zv (ZdD rd).2.bs:=Ze hb
theorem Zj9 {rd:Rd} (hb:Zv rd.bs):(ZdD rd).1<18446744073709551616:=by
 have:=Zy (most:=18446744073709551615) hb (by omega);exact ZBN (by omega)
structure Cm where
 kind:Int
 pnr:ByteArray
 flt:Int
 cls:Int
 many:Int
 time:Int
 sc:Nat
 lab:ByteArray
 rows:Int
 grps:List Int
 parts:List Nat
def ZgK (n:Int):Prop:=0<=n/\n<=9999
structure ZaJ (c:Cm):Prop where
 flt:ZgK c.flt
 cls:ZgK c.cls
 many:ZgK c.many
 rows:ZgK c.rows
 grps:∀ n∈c.grps,ZgK n
 pnr:c.pnr.size<=16
 lab:c.lab.size<=16
 gl:c.grps.length<=16
 pl:c.parts.length<=16
 kind:1<=c.kind/\c.kind<=9
 time:0<=c.time/\c.time<=1099511627776
structure FltC (c:Cm):Prop where
 sc:c.sc<18446744073709551616
 parts:∀ x∈c.parts,x<18446744073709551616
def ZzZ (r:Rd):Cm × Rd:=
 let k:=Zc 9 r
 let p:=Zbq 16 k.2
 let f:=Zc 9999 p.2
 let c:=Zc 9999 f.2
 let m:=Zc 9999 c.2
 let t:=Zc 1099511627776 m.2
 let s:=ZdD t.2
 let l:=Zbq 16 s.2
 let w:=Zc 9999 l.2
 let n:=Zc 16 w.2
 let g:=ZG (Zc 9999) n.1.toNat n.2
 let q:=Zc 16 g.2
 let x:=ZG ZdD q.1.toNat q.2
 (⟨k.1,p.1,f.1,c.1,m.1,t.1,s.1,l.1,w.1,g.1,x.1⟩,x.2)
structure Rp where
 code:Int
 pnr:ByteArray
 state:Int
 flt:Int
 cls:Int
 many:Int
 time:Int
 left:List Int
 labs:List ByteArray
def nn (n:Int):Int:=max n 0
def rpB (r:Rp):List Int:=
 Zm [nn r.code]++(Zqr r.pnr++(Zm [nn r.state]++(Zm [nn r.flt]++(Zm [nn r.cls]++(Zm [nn r.many]++(Zm [nn r.time]++(Zm [(r.left.length:Int)]++(Zm (r.left.map nn)++(Zm [(r.labs.length:Int)]++(r.labs.map Zqr).flatten)))))))))
structure Ztl (r:Rp):Prop where
 code:0<=r.code/\r.code<=1099511627776
 pnr:r.pnr.size<=16
 state:0<=r.state/\r.state<=1099511627776
 flt:0<=r.flt/\r.flt<=1099511627776
 cls:0<=r.cls/\r.cls<=1099511627776
 many:0<=r.many/\r.many<=1099511627776
 time:0<=r.time/\r.time<=1099511627776
 ll:r.left.length<=8
 left:∀ n∈r.left,0<=n/\n<=1099511627776
 bl:r.labs.length<=600
 labs:∀ s∈r.labs,s.size<=16
theorem Zcj {n:Int} (h:0<=n):nn n=n:=by unfold nn;omega
theorem ZzC {l:List Int} (h:∀ n∈l,0<=n):l.map nn=l:=by
 induction l with
 |nil=>rfl
 |cons x l ih=>rw [List.map_cons,Zcj (h x (by simp)),ih λ y hy=>h y (by simp [hy])]
end
end Go.Proofs.YtlplemdmegpoeaaGreatDoor
namespace Go.VC
section
section
variable {α:Type} {k:α->Int}
def Zav (k:α->Int) (l:List α):Prop:=l.Pairwise λ a b=>k a<k b
def Zwz (k:α->Int) (n:Int) (l:List α):Option α:=l.find? λ x=>decide (k x=n)
def ZeK (k:α->Int) (n:Int) (f:α->α) (l:List α):List α:=l.map λ x=>if k x=n then f x else x
def ZnU (k:α->Int) (n:Int) (l:List α):List α:=l.filter λ x=>!decide (k x=n)
def ZpW (k:α->Int) (x:α) (l:List α):List α:=l.takeWhile (λ y=>decide (k y<k x))++x::l.dropWhile (λ y=>decide (k y<k x))
theorem Zav.uniq {l:List α} (h:Zav k l) {a b:α} (ha:a∈l) (hb:b∈l) (e:k a=k b):a=b:=by
 induction l with
 |nil=>cases ha
 |cons x l ih=>
  have hp:=List.pairwise_cons.1 h;rcases List.mem_cons.1 ha with e1|h1
  ·rcases List.mem_cons.1 hb with e2|h2
   ·rw [e1,e2]
   ·have:=hp.1 b h2;rw [e1] at e;omega
  ·rcases List.mem_cons.1 hb with e2|h2
   ·have:=hp.1 a h1;rw [e2] at e;omega
   ·exact ih hp.2 h1 h2
theorem ZdX {n:Int} {l:List α} {x:α} (h:Zwz k n l=some x):x∈l/\k x=n:=
 ⟨List.mem_of_find?_eq_some h,by have:=List.find?_some h;simpa using this⟩
theorem ZdY {n:Int} {l:List α}:Zwz k n l=none↔∀ x∈l,k x≠n:=by
 unfold Zwz;rw [List.find?_eq_none];simp
theorem ZjW {n:Int} {l:List α} (h:Zav k l) {x:α}:Zwz k n l=some x↔x∈l/\k x=n:=by
 refine ⟨ZdX,λ⟨h1,h2⟩=>?_⟩;cases hg:Zwz k n l with
 |none=>exact absurd h2 (ZdY.1 hg x h1)
 |some y=>
  have:=ZdX hg;rw [h.uniq this.1 h1 (by omega)]
theorem Z8 {n:Int} {f:α->α} {l:List α} {y:α}:y∈ZeK k n f l↔∃ x∈l,y=if k x=n then f x else x:=by
 unfold ZeK;rw [List.mem_map];exact ⟨λ⟨x,h1,h2⟩=>⟨x,h1,h2.symm⟩,λ⟨x,h1,h2⟩=>⟨x,h1,h2.symm⟩⟩
theorem Zcl {n:Int} {l:List α} {y:α}:y∈ZnU k n l↔y∈l/\k y≠n:=by
 unfold ZnU;rw [List.mem_filter];simp
theorem ZjV {n:Int} {f:α->α} {l:List α}:(ZeK k n f l).length=l.length:=List.length_map _
theorem Zfv {n:Int} {f:α->α} {l:List α} (h:Zav k l) (hf:∀ x∈l,k x=n->k (f x)=n):Zav k (ZeK k n f l):=by
 unfold Zav ZeK;rw [List.pairwise_map];refine List.Pairwise.imp_of_mem (λ {a b} ha hb hab=>?_) h;have h1:k (if k a=n then f a else a)=k a:=by
  split
  ·rename_i e;rw [hf a ha e,e]
  ·rfl
 have h2:k (if k b=n then f b else b)=k b:=by
  split
  ·rename_i e;rw [hf b hb e,e]
  ·rfl
 rw [h1,h2];exact hab
theorem ZrZ {n:Int} {l:List α} (h:Zav k l):Zav k (ZnU k n l):=h.sublist List.filter_sublist
theorem ZrX {n:Int} {f:α->α} {l:List α} (h:∀ x∈l,k x≠n):ZeK k n f l=l:=by
 induction l with
 |nil=>rfl
 |cons a l ih=>
  show (if k a=n then f a else a)::ZeK k n f l=_
  rw [if_neg (h a (by simp)),ih λ x hx=>h x (by simp [hx])]
theorem Zr0 {n:Int} {l:List α} (h:∀ x∈l,k x≠n):ZnU k n l=l:=by
 unfold ZnU;rw [List.filter_eq_self];intro x hx;simpa using h x hx
theorem Zup {n:Int} {f:α->α} {A C:List α} {x:α} (hx:k x=n) (h:Zav k (A++x::C)):ZeK k n f (A++x::C)=A++f x::C:=by
 have hp:=List.pairwise_append.1 h;have hc:=List.pairwise_cons.1 hp.2.1;have e1:ZeK k n f A=A:=ZrX λ y hy=>by have:=hp.2.2 y hy x (by simp);omega
 have e2:ZeK k n f C=C:=ZrX λ y hy=>by have:=hc.1 y hy;omega
 show List.map _ (A++x::C)=_;rw [List.map_append,List.map_cons,if_pos hx];show ZeK k n f A++f x::ZeK k n f C=_;rw [e1,e2]
theorem Zur {n:Int} {A C:List α} {x:α} (hx:k x=n) (h:Zav k (A++x::C)):ZnU k n (A++x::C)=A++C:=by
 have hp:=List.pairwise_append.1 h;have hc:=List.pairwise_cons.1 hp.2.1;have e1:ZnU k n A=A:=Zr0 λ y hy=>by have:=hp.2.2 y hy x (by simp);omega
 have e2:ZnU k n C=C:=Zr0 λ y hy=>by have:=hc.1 y hy;omega
 show List.filter _ (A++x::C)=_;rw [List.filter_append,List.filter_cons,if_neg (by simpa using hx)];show ZnU k n A++ZnU k n C=_;rw [e1,e2]
theorem Zfx (x a:α) (l:List α):ZpW k x (a::l)=if k a<k x then a::ZpW k x l else x::a::l:=by
 unfold ZpW;rw [List.takeWhile_cons,List.dropWhile_cons];by_cases h:k a<k x
 ·rw [decide_eq_true h,if_pos h];rfl
 ·rw [decide_eq_false h,if_neg h];rfl
theorem ZdC {x y:α}:∀ {l:List α},y∈ZpW k x l↔y=x\/y∈l
 |[]=>by simp [ZpW]
 |a::l=>by
  rw [Zfx];split
  ·rw [List.mem_cons,ZdC,List.mem_cons]
   constructor
   ·rintro (h|h|h)<;>simp [h]
   ·rintro (h|h|h)<;>simp [h]
  ·rw [List.mem_cons]
theorem ZnS {x:α}:∀ {l:List α},(ZpW k x l).length=l.length + 1
 |[]=>rfl
 |a::l=>by
  rw [Zfx];split
  ·rw [List.length_cons,ZnS,List.length_cons]
  ·rfl
theorem Zlx {x:α}:∀ {l:List α},Zav k l->(∀ y∈l,k y≠k x)->Zav k (ZpW k x l)
 |[],_,_=>List.Pairwise.cons (λ _ h=>(by cases h)) List.Pairwise.nil
 |a::l,h,hn=>by
  have hp:=List.pairwise_cons.1 h;rw [Zfx];split
  ·rename_i ha
   refine List.Pairwise.cons (λ y hy=>?_) (Zlx hp.2 λ y hy=>hn y (by simp [hy]));rcases ZdC.1 hy with rfl|hy
   ·exact ha
   ·exact hp.1 y hy
  ·rename_i ha
   have:=hn a (by simp);refine List.Pairwise.cons (λ y hy=>?_) h;rcases List.mem_cons.1 hy with rfl|hy
   ·omega
   ·have:=hp.1 y hy;omega
theorem Zly {x:α}:∀ {l:List α},(ZpW k x l).Perm (x::l)
 |[]=>List.Perm.refl _
 |a::l=>by
  rw [Zfx];split
  ·exact (Zly.cons a).trans (List.Perm.swap x a l)
  ·exact List.Perm.refl _
theorem Zf9 {l:List α} {x:α} (h:Zav k l) (hx:∀ y∈l,k y<k x):Zav k (l++[x]):=by
 refine List.pairwise_append.2 ⟨h,List.pairwise_singleton _ _,λ a ha b hb=>?_⟩;rw [List.mem_singleton.1 hb];exact hx a ha
theorem Zav.ne {l:List α} (h:Zav k l):l.Pairwise λ a b=>k a≠k b:=h.imp λ hab e=>by omega
end
theorem ZjG {l m:List Int} (h:l.Nodup) (hs:∀ x∈l,x∈m):l.length<=m.length:=by
 induction l generalizing m with
 |nil=>simp
 |cons a l ih=>
  have hp:=List.nodup_cons.1 h;have ha:=hs a (by simp);have h2:=ih (m:=m.erase a) hp.2 λ x hx=>by
   refine (List.mem_erase_of_ne ?_).2 (hs x (by simp [hx]));rintro rfl;exact hp.1 hx
  have h3:=List.length_erase_of_mem ha;have h4:0<m.length:=List.length_pos_of_mem ha;rw [List.length_cons];omega
theorem Zry {l m:List Int} (hl:l.Nodup) (hm:m.Nodup) (h:∀ x,x∈l↔x∈m):l.length=m.length:=by
 have h1:=ZjG hl λ x hx=>(h x).1 hx;have h2:=ZjG hm λ x hx=>(h x).2 hx;omega
end
end Go.VC

namespace Go.Proofs.YtlplemdmegpoeaaGreatDoor
section
open Go Go.VC Tryz
def wtB (w:Wt):List Int:=Zm [w.id]++(Zm [w.cls]++(Zm [w.many]++(Zm [w.time]++Zzd w.sc)))
def qB (q:List Wt):List Int:=Zm [(q.length:Int)]++(q.map wtB).flatten
def Zgq (r:Rd):Wt × Rd:=
 let a:=Zc 28629151 r
 let b:=Zc 7 a.2
 let c:=Zc 600 b.2
 let d:=Zc 1099511627776 c.2
 let e:=ZdD d.2
 (⟨a.1,b.1,c.1,d.1,e.1⟩,e.2)
theorem ZvM {w:Wt} (h:w.Ok) (hf:w.sc<18446744073709551616) (more:List Int):Zgq ⟨wtB w++more,false⟩=(w,⟨more,false⟩):=by
 obtain ⟨⟨a1,a2⟩,⟨b1,b2⟩,⟨c1,c2⟩,d1,d2⟩:=h;unfold Zgq wtB;simp only [List.append_assoc];rw [Zt (by omega) (by omega) (by omega)];dsimp only;rw [Zt (by omega) (by omega) (by omega)];dsimp only;rw [Zt (by omega) (by omega) (by omega)];dsimp only;rw [Zt (by omega) (by omega) (by omega)];dsimp only;rw [Zpq hf]
theorem Zp3 {r:Rd} (hb:Zv r.bs):Zv (Zgq r).2.bs:=ZfE (Ze (Ze (Ze (Ze hb))))
theorem Zmb {r:Rd} (hb:Zv r.bs):(Zgq r).1.sc<18446744073709551616:=Zj9 (Ze (Ze (Ze (Ze hb))))
structure ZbF (q:List Wt):Prop where
 st:QSt q
 ids:Zzi q
 ok:∀ w∈q,w.Ok
theorem ZbF.pre {a b:List Wt} (h:ZbF (a++b)):ZbF a:=
 ⟨(List.pairwise_append.1 h.st).1,(List.pairwise_append.1 h.ids).1,λ w hw=>h.ok w (by simp [hw])⟩
theorem ZbF.nil:ZbF []:=⟨List.Pairwise.nil,List.Pairwise.nil,λ _ h=>(by cases h)⟩
theorem ZbF.snoc {q:List Wt} {w:Wt} (h:ZbF q) (hw:w.Ok) (hi:∀ x∈q,x.id≠w.id) (ha:∀ x∈q,x.ahead w=true):ZbF (q++[w]):=by
 refine ⟨List.pairwise_append.2 ⟨h.st,List.pairwise_singleton _ _,λ a ha' b hb=>?_⟩,List.pairwise_append.2 ⟨h.ids,List.pairwise_singleton _ _,λ a ha' b hb=>?_⟩,λ x hx=>?_⟩
 ·rw [List.mem_singleton.1 hb];exact ha a ha'
 ·rw [List.mem_singleton.1 hb];exact hi a ha'
 ·rcases List.mem_append.1 hx with hx|hx
  ·exact h.ok x hx
  ·rw [List.mem_singleton.1 hx];exact hw
theorem ZbF.last {q:List Wt} {w:Wt} (h:ZbF (q++[w])):w.Ok/\(∀ x∈q,x.id≠w.id)/\∀ x∈q,x.ahead w=true:=
 ⟨h.ok w (by simp),λ x hx=>(List.pairwise_append.1 h.ids).2.2 x hx w (by simp),λ x hx=>(List.pairwise_append.1 h.st).2.2 x hx w (by simp)⟩
def Zmw (bs:List Int):List Wt × Rd:=ZG Zgq (Zc 200 ⟨bs,false⟩).1.toNat (Zc 200 ⟨bs,false⟩).2
def ZAP (bs:List Int):Prop:=Z5 (Zmw bs).2=true/\ZbF (Zmw bs).1
theorem Zv8 {bs:List Int} (hb:Zv bs):(∀ w∈(Zmw bs).1,w.sc<18446744073709551616)/\Zv (Zmw bs).2.bs:=
 Za9 (one:=Zgq) (P:=λ r=>Zv r.bs) (Q:=λ w=>w.sc<18446744073709551616) (λ _ hr=>⟨Zmb hr,Zp3 hr⟩) (Zc 200 ⟨bs,false⟩).1.toNat (r:=(Zc 200 ⟨bs,false⟩).2) (Ze (rd:=⟨bs,false⟩) hb)
theorem ZtS {bs:List Int} (hb:Zv bs):(Zmw bs).1.length<=200:=by
 have:=Zy (most:=200) (rd:=⟨bs,false⟩) hb (by omega);show (ZG Zgq _ _).1.length<=200;rw [Zbl];omega
theorem ZAP.ok {bs:List Int} (hb:Zv bs) (h:ZAP bs):QOk (Zmw bs).1:=⟨h.2.st,h.2.ids,h.2.ok,(Zv8 hb).1,ZtS hb⟩
theorem Zv9 {q:List Wt} (hl:q.length<=200) (ok:∀ w∈q,w.Ok) (fl:∀ w∈q,w.sc<18446744073709551616):Zmw (qB q)=(q,⟨[],false⟩):=by
 have e0:Zc 200 ⟨qB q,false⟩=((q.length:Int),⟨(q.map wtB).flatten,false⟩):=Zt (by omega) (by omega) (by omega);have e:=ZdB (one:=Zgq) (code:=wtB) (l:=q) (rest:=[]) λ w hw more=>ZvM (ok w hw) (fl w hw) more;rw [List.append_nil] at e;unfold Zmw;rw [e0];dsimp only;rw [Int.toNat_natCast,e]
theorem Zq7 {q:List Wt} (h:QOk q):ZAP (qB q)/\(Zmw (qB q)).1=q:=by
 have e:=Zv9 h.len h.ok h.fl;unfold ZAP;rw [e];exact ⟨⟨rfl,h.st,h.ids,h.ok⟩,rfl⟩
end
section
open Go Go.VC Tryz
variable {R R':Cx} {Hs Rest:List HP} {w:World}
theorem Zsp {n:Int} {g:List Int} {lab:ByteArray} {k:Int} (h:Zbe n g lab=(k,0)):0<=k/\k<Za5 n g:=by
 unfold Zbe at h;split at h
 ·rename_i hl
  obtain ⟨l1,l2,l3⟩:=Zan.1 hl;have:=(ZuB (n:=n) (w:=g.sum) (k:=k) (lab:=lab) (by omega) (Zjk l2 l1.2.2.1) l3).1 h;rw [ZmJ hl];exact ⟨this.1,this.2.1⟩
 ·cases h
end
section
open Go Go.VC Tryz
variable {R R':Cx} {Hs Rest:List HP} {w:World}
def Zf (p:Nat) (r:RF):HP:=exs λ f:PF=>ZaI [pur (Tie f r/\ZaK r),Zn p f]
theorem Sat.lone {p:Nat} {r:RF}:Sat R (Zf p r::Hs) w↔∃ f,(Tie f r/\ZaK r)/\Sat R (Zn p f::Hs) w:=by
 unfold Zf;rw [Sat.exs];constructor
 ·rintro ⟨f,h⟩
  obtain ⟨h1,h2⟩:=Sat.pur.1 (Sat.star.1 h);exact ⟨f,h1,h2⟩
 ·rintro ⟨f,h1,h2⟩
  exact ⟨f,Sat.star.2 (Sat.pur.2 ⟨h1,h2⟩)⟩
section
variable {p:Nat} {r:RF}
theorem Zls {o c m:Int} (hw:Sat R (Zf p r::Hs) w):Zo prog 101 #[.pointer (some ⟨p,0,none⟩),.int .i64 o,.int .i64 c,.int .i64 m] w λ v w'=>v=.int .i64 (ZN r o c m).2/\Sat R (Zf p (ZN r o c m).1::Hs) w':=by
 obtain ⟨f,⟨t,g⟩,hw⟩:=Sat.lone.1 hw;have b:=t.bounds g;obtain ⟨e,t',g'⟩:=Zjh t g o c m;refine (Zir (by omega) (by omega) hw).use ?_;rintro _ w ⟨rfl,hw⟩;exact ⟨_,rfl,by rw [e],Sat.lone.2 ⟨_,⟨t',g'⟩,hw⟩⟩
theorem Zlt {o:Int} (hw:Sat R (Zf p r::Hs) w):Zo prog 104 #[.pointer (some ⟨p,0,none⟩),.int .i64 o] w λ v w'=>v=.int .i64 (Zb1 r o).2/\Sat R (Zf p (Zb1 r o).1::Hs) w':=by
 obtain ⟨f,⟨t,g⟩,hw⟩:=Sat.lone.1 hw;have b:=t.bounds g;obtain ⟨e,t',g'⟩:=Zng t g o;refine (Zpn (by omega) (by omega) (λ e he=>by have:=b.2.2.2.2.2.1 e he;omega) hw).use ?_;rintro _ w ⟨rfl,hw⟩;exact ⟨_,rfl,by rw [e],Sat.lone.2 ⟨_,⟨t',g'⟩,hw⟩⟩
theorem ZrF {o:Int} {lab:ByteArray} (hl:lab.size<=9223372036854775807) (hw:Sat R (Zf p r::Hs) w):Zo prog 106 #[.pointer (some ⟨p,0,none⟩),.int .i64 o,.string lab] w λ v w'=>v=.int .i64 (Z6 r o lab).2/\Sat R (Zf p (Z6 r o lab).1::Hs) w':=by
 obtain ⟨f,⟨t,g⟩,hw⟩:=Sat.lone.1 hw;have b:=t.bounds g;obtain ⟨e,t',g'⟩:=Zne t g o lab λ k hk=>Zsp hk;refine (ZoK (by omega) hl (λ e he=>by have:=b.2.2.2.2.2.1 e he;exact ⟨this.1,by omega⟩) hw).use ?_;rintro _ w ⟨rfl,hw⟩;exact ⟨_,rfl,by rw [e],Sat.lone.2 ⟨_,⟨t',g'⟩,hw⟩⟩
theorem ZrG {o:Int} (hw:Sat R (Zf p r::Hs) w):Zo prog 107 #[.pointer (some ⟨p,0,none⟩),.int .i64 o] w λ v w'=>∃ t:Sl,v=.tuple #[.slice t.a t.len t.cap,.int .i64 (Zam r o).2.2]/\Sat R (Own t 9 ((Zam r o).2.1.map Value.string)::Zf p (Zam r o).1::Hs) w':=by
 obtain ⟨f,⟨t,g⟩,hw⟩:=Sat.lone.1 hw;have b:=t.bounds g;obtain ⟨e,t',g',_⟩:=Zji t g o;refine (ZpK (by omega) t.nod (λ k hk=>by have:=t.ownIn g k hk;have:=Zc7 r.rows r.grps;omega) (by omega) hw).use ?_;rintro _ w ⟨s,rfl,hw⟩;rw [e] at hw;exact ⟨_,rfl,s,by rw [e],hw.cons λ _ h=>Sat.lone.2 ⟨_,⟨t',g'⟩,h⟩⟩
theorem ZiU (hw:Sat R (Zf p r::Hs) w):Zo prog 134 #[.pointer (some ⟨p,0,none⟩)] w λ v w'=>∃ t:Sl,v=.slice t.a t.len t.cap/\Sat R (ZaU t r.L::Zf p r::Hs) w':=by
 obtain ⟨f,⟨t,g⟩,hw⟩:=Sat.lone.1 hw;have b:=t.bounds g;refine (ZhL (t.nodK g.rise) (λ k hk=>by have:=b.2.2.2.2.2.2 k hk;omega) (by omega) (λ e he=>by have:=b.2.2.2.2.2.1 e he;omega) hw).use ?_;rintro _ w ⟨s,rfl,hw⟩;rw [Zg6 t g.rise] at hw;exact ⟨_,rfl,s,rfl,hw.cons λ _ h=>Sat.lone.2 ⟨_,⟨t,g⟩,h⟩⟩
theorem Zb8 (hw:Sat R (Zf p r::Hs) w):Zo prog 55 #[.pointer (some ⟨p,0,none⟩)] w λ v w'=>∃ t:Sl,v=.slice t.a t.len t.cap/\Sat R (Own t 3 (Zg (Zr r))::Zf p r::Hs) w':=by
 obtain ⟨f,⟨t,g⟩,hw⟩:=Sat.lone.1 hw;have b:=t.bounds g;refine (Zpf (by omega) (by omega) hw).use ?_;rintro _ w ⟨s,rfl,hw⟩;rw [ZtG t] at hw;exact ⟨_,rfl,s,rfl,hw.cons λ _ h=>Sat.lone.2 ⟨_,⟨t,g⟩,h⟩⟩
theorem ZmD {o:Int} (hw:Sat R (Zf p r::Hs) w):Zo prog 122 #[.pointer (some ⟨p,0,none⟩),.int .i64 o] w λ v w'=>∃ t:Sl,v=.slice t.a t.len t.cap/\Sat R (Own t 9 ((ZaT r o).map Value.string)::Zf p r::Hs) w':=by
 obtain ⟨f,⟨t,g⟩,hw⟩:=Sat.lone.1 hw;have b:=t.bounds g;refine (Zlv (by omega) (λ e he=>by have:=b.2.2.2.2.2.1 e he;omega) hw).use ?_;rintro _ w ⟨s,rfl,hw⟩;rw [Zou t g.rise] at hw;exact ⟨_,rfl,s,rfl,hw.cons λ _ h=>Sat.lone.2 ⟨_,⟨t,g⟩,h⟩⟩
theorem ZhE (hw:Sat R (Zf p r::Hs) w):Zo prog 160 #[.pointer (some ⟨p,0,none⟩)] w λ v w'=>v=.int .i64 r.num/\Sat R (Zf p r::Hs) w':=by
 obtain ⟨f,⟨t,g⟩,hw⟩:=Sat.lone.1 hw;refine (ZlH hw).use ?_;rintro _ w ⟨rfl,hw⟩;exact ⟨_,rfl,by rw [t.num],Sat.lone.2 ⟨_,⟨t,g⟩,hw⟩⟩
theorem ZmE (hw:Sat R (Zf p r::Hs) w):Zo prog 64 #[.pointer (some ⟨p,0,none⟩)] w λ v w'=>∃ t:Sl,v=.slice t.a t.len t.cap/\Sat R (Own t 5 (b8 (ZbG r))::Zf p r::Hs) w':=by
 obtain ⟨f,⟨t,g⟩,hw⟩:=Sat.lone.1 hw;have b:=t.bounds g;refine (ZlM (Zqd t g) (t.nodK g.rise) (λ k hk=>by have:=b.2.2.2.2.2.2 k hk;omega) (λ e he=>by have:=b.2.2.2.2.2.1 e he;omega) hw).use ?_;rintro _ w ⟨s,rfl,hw⟩;rw [ZvV t g] at hw;exact ⟨_,rfl,s,rfl,hw.cons λ _ h=>Sat.lone.2 ⟨_,⟨t,g⟩,h⟩⟩
end
end
end Go.Proofs.YtlplemdmegpoeaaGreatDoor


namespace Go.Proofs.YtlplemdmegpoeaaGreatDoor
section
open Go Go.VC Tryz
variable {R R':Cx} {Hs Rest:List HP} {w:World}
theorem ZtH {r:RF} (g:ZaK r):(ZV r.L).Nodup:=by
 have key:∀ L:List ZJ,(L.Pairwise λ a b=>∀ x∈a.seats,x ∉ b.seats)->(∀ h∈L,ZpS h.seats)->(ZV L).Nodup:=λ L=>by
  induction L with
  |nil=>exact λ _ _=>List.nodup_nil
  |cons h L ih=>
   intro hp hr;obtain ⟨h1,h2⟩:=List.pairwise_cons.1 hp;show (h.seats++ZV L).Nodup;rw [List.nodup_append];refine ⟨?_,ih h2 λ x hx=>hr x (List.mem_cons_of_mem _ hx),λ a ha b hb e=>?_⟩
   ·rw [List.nodup_iff_pairwise_ne]
    exact (Zeh.1 (hr h List.mem_cons_self)).imp λ h=>by omega
   ·subst e
    obtain ⟨y,hy,hyb⟩:=ZcD.1 hb;exact h1 y hy a ha hyb
 exact key r.L g.apart λ h hh=>(g.each h hh).rise
theorem Zv0 {r:RF} (g:ZaK r) {o:Int} {lab:ByteArray} (h:(Z6 r o lab).2=0):∃ A hd C n,Zbe r.rows r.grps lab=(n,0)/\r.L=A++hd::C/\hd.owner=o/\Zcg o A=none/\n ∉ ZV r.L/\Z6 r o lab=({ r with L:=A++hd.put n::C },0):=by
 unfold Z6 at h ⊢;cases hg:Zcg o r.L with
 |none=>rw [hg] at h;cases h
 |some hd=>
  rw [hg] at h;obtain ⟨A,C,hL,hA,ho⟩:=ZbT hg;dsimp only at h ⊢;split at h
  ·cases h
  rename_i h1;split at h
  ·cases h
  rename_i h2;split at h
  ·cases h
  rename_i h3;rw [if_neg h1,if_neg h2,if_neg h3];refine ⟨A,hd,C,(Zbe r.rows r.grps lab).1,?_,hL,ho,hA,h3,?_⟩
  ·have:(Zbe r.rows r.grps lab).2=0:=Classical.byContradiction h1
   rw [<-this]
  ·rw [hL,Zfe ho hA]
theorem ZqD {r:RF} {o:Int} {lab:ByteArray} (h:(Z6 r o lab).2≠0):(Z6 r o lab).1=r/\((Z6 r o lab).2=2\/(Z6 r o lab).2=7\/(Z6 r o lab).2=3):=by
 unfold Z6 at h ⊢;split at h
 ·exact ⟨rfl,.inl rfl⟩
 ·split at h
  ·rename_i h1;rw [if_pos h1];exact ⟨rfl,.inl rfl⟩
  rename_i h1;rw [if_neg h1];split at h
  ·rename_i h2;rw [if_pos h2];exact ⟨rfl,.inr (.inl rfl)⟩
  rename_i h2;rw [if_neg h2];split at h
  ·rename_i h3;rw [if_pos h3];exact ⟨rfl,.inr (.inr rfl)⟩
  ·exact absurd rfl h
theorem Zi0 {h:ZJ}:∀ {L:List ZJ},Zcg h.owner L=none->∃ A C,ZlC h L=A++h::C/\L=A++C/\Zcg h.owner A=none
 |[],_=>⟨[],[],rfl,rfl,rfl⟩
 |x::L,hn=>by
  rw [ZaF] at hn;split at hn
  ·cases hn
  rename_i hx;unfold ZlC;split
  ·obtain ⟨A,C,h1,h2,h3⟩:=Zi0 hn
   exact ⟨x::A,C,by rw [h1];rfl,by rw [h2];rfl,by rw [ZaF,if_neg hx];exact h3⟩
  ·exact ⟨[],x::L,rfl,rfl,rfl⟩
theorem Zqk {r:RF} {o c m:Int} (h:(ZN r o c m).2=0):∃ A C,ZN r o c m=({ r with L:=A++⟨o,c,m,[]⟩::C },0)/\r.L=A++C/\Zcg o A=none:=by
 unfold ZN at h ⊢;split at h
 ·cases h
 rename_i h1;split at h
 ·cases h
 rename_i h2;rw [if_neg h1,if_neg h2];split at h
 ·rename_i h3
  rw [if_pos h3];have hno:Zcg o r.L=none:=by cases e:Zcg o r.L with|none=>rfl|some x=>rw [e] at h2;simp at h2
  obtain ⟨A,C,e1,e2,e3⟩:=Zi0 (h:=⟨o,c,m,[]⟩) hno;exact ⟨A,C,by rw [e1],e2,e3⟩
 ·rename_i h3;exact absurd h h3
theorem Zql {r:RF} {o c m:Int} (h:(ZN r o c m).2≠0):(ZN r o c m).1=r:=by
 unfold ZN at h ⊢;split at h
 ·rename_i h1;rw [if_pos h1]
 rename_i h1;rw [if_neg h1];split at h
 ·rename_i h2;rw [if_pos h2]
 rename_i h2;rw [if_neg h2];split at h
 ·exact absurd rfl h
 ·rename_i h3;rw [if_neg h3]
end
section
open Go Go.VC Tryz
open Classical
noncomputable section
structure Pl where
 r:RF
 q:List Wt
abbrev Pl.n (p:Pl):Int:=p.r.num
structure Bk where
 id:Int
 flt:Int
 cls:Int
 many:Int
 state:Int
 till:Int
structure ZR where
 now:Int
 next:Int
 fl:List Pl
 L:List Bk
def ZR.at (b:ZR) (n:Int):Option Pl:=Zwz Pl.n n b.fl
def ZR.bk (b:ZR) (id:Int):Option Bk:=Zwz Bk.id id b.L
def ZR.put (b:ZR) (n:Int) (f:Pl->Pl) (L:List Bk):ZR:={ b with fl:=ZeK Pl.n n f b.fl,L:=L }
def Z3:ZR:=⟨0,1,[],[]⟩
def emS:ByteArray:=ByteArray.empty
def Zbn (e:Int):Rp:=⟨e,emS,0,0,0,0,0,[],[]⟩
def Zzc (id:Int):ByteArray:=VC.strOf (Zww id)
def Zdw (p:Pl) (x:Bk):Rp:=⟨0,Zzc x.id,x.state,x.flt,x.cls,x.many,x.till,Zr p.r,ZaT p.r x.id⟩
def Zdx (b:ZR) (x:Bk):Rp:=match b.at x.flt with
 |none=>Zbn 0
 |some p=>Zdw p x
def Zmi (w:Wt) (p:Pl):Pl:=⟨(ZN p.r w.id w.cls w.many).1,ZhY w.id p.q⟩
def ZeM (x:Bk):Bk:={ x with state:=2 }
def ZjN (b:ZR) (n:Int) (w:Wt):ZR:=b.put n (Zmi w) (ZeK Bk.id w.id ZeM b.L)
def ZjB:Nat->Int->ZR->ZR
 |0,_,b=>b
 |k + 1,n,b=>match b.at n with
  |none=>b
  |some p=>match ZaE p.q (Zr p.r) with
   |none=>b
   |some w=>ZjB k n (ZjN b n w)
def ZW (n:Int) (b:ZR):ZR:=ZjB 201 n b
def ZdK (b:ZR) (c:Cm):ZR × Rp:=
 if (b.at c.flt).isSome then (b,Zbn 7) else if 8<=b.fl.length then (b,Zbn 3)
 else if ¬ ZjI c.flt c.rows c.grps c.parts then (b,Zbn 1)
 else ({ b with fl:=ZpW Pl.n ⟨Zmp c.flt c.rows c.grps (Zac (Za5 c.rows c.grps) c.parts).1,[]⟩ b.fl },
  ⟨0,emS,0,c.flt,0,0,0,Zr (Zmp c.flt c.rows c.grps (Zac (Za5 c.rows c.grps) c.parts).1),[]⟩)
def ZR.full (b:ZR):Prop:=300<=b.L.length\/28629151<=b.next
def takeP (id cls many:Int) (p:Pl):Pl:={ p with r:=(ZN p.r id cls many).1 }
def Zat (b:ZR) (c:Cm):Bk:=⟨b.next,c.flt,c.cls,c.many,1,c.time⟩
def Zc8 (b:ZR) (c:Cm):ZR × Rp:=
 match b.at c.flt with
 |none=>(b,Zbn 2)
 |some p=>
  if c.time<=b.now then (b,Zbn 1) else if b.full then (b,Zbn 3)
  else if (ZN p.r b.next c.cls c.many).2≠0 then (b,Zbn (ZN p.r b.next c.cls c.many).2)
  else ({ b.put c.flt (takeP b.next c.cls c.many) (b.L++[Zat b c]) with next:=b.next + 1 },Zdw (takeP b.next c.cls c.many p) (Zat b c))
def Zc2 (b:ZR) (c:Cm):Wt:=⟨b.next,c.cls,c.many,b.now,c.sc⟩
def ZbL (b:ZR) (c:Cm):Bk:=⟨b.next,c.flt,c.cls,c.many,3,0⟩
def ZvP (w:Wt) (p:Pl):Pl:={ p with q:=Zl8 w p.q }
def Zb4 (b:ZR) (c:Cm):ZR:={ b.put c.flt (ZvP (Zc2 b c)) (b.L++[ZbL b c]) with next:=b.next + 1 }
def Zbs (b:ZR) (c:Cm):ZR × Rp:=
 match b.at c.flt with
 |none=>(b,Zbn 2)
 |some p=>
  if (p.r.lims.length:Int)<=c.cls then (b,Zbn 1) else if b.full then (b,Zbn 3)
  else if (ZeH p.q (Zc2 b c)).2≠0 then (b,Zbn (ZeH p.q (Zc2 b c)).2)
  else (ZW c.flt (Zb4 b c),match (ZW c.flt (Zb4 b c)).bk b.next with
   |none=>Zbn 0
   |some x=>Zdx (ZW c.flt (Zb4 b c)) x)
def old (now:Int) (x:Bk):Bool:=decide (x.state=1) && decide (x.till<=now)
def Zgd (id:Int) (p:Pl):Pl:={ p with r:=(Zb1 p.r id).1 }
def ZfG (b:ZR) (x:Bk):ZR:=b.put x.flt (Zgd x.id) (ZnU Bk.id x.id b.L)
def Zd4:List Bk->ZR->ZR
 |[],b=>b
 |x::l,b=>Zd4 l (if old b.now x then ZfG b x else b)
def Zcz (l:List Int) (b:ZR):ZR:=l.foldl (λ b n=>ZW n b) b
def ZdF (b:ZR) (t:Int):ZR:=Zd4 b.L { b with now:=t }
def ZbE (b:ZR) (c:Cm):ZR × Rp:=
 if c.time<b.now then (b,Zbn 7)
 else (Zcz (b.fl.map Pl.n) (ZdF b c.time),⟨0,emS,0,0,0,0,c.time,[],[]⟩)
def ZcV (b:ZR) (pnr:ByteArray):Option Bk × Int:=
 if (Zb9 (ZY pnr)).2≠0 then (none,(Zb9 (ZY pnr)).2) else match b.bk (Zb9 (ZY pnr)).1 with
  |none=>(none,2)
  |some x=>(some x,0)
def Zdc (x:Bk):Bk:={ x with state:=2,till:=0 }
def Zv7 (id:Int) (p:Pl):Pl:={ p with q:=ZhY id p.q }
def ZkA (b:ZR) (x:Bk):ZR:=if x.state=3 then b.put x.flt (Zv7 x.id) (ZnU Bk.id x.id b.L) else ZfG b x
def ZcO (r:RF) (p:Pl):Pl:={ p with r:=r }
def ZgT (b:ZR) (x:Bk) (c:Cm):ZR × Rp:=
 match b.at x.flt with
 |none=>(b,Zbn 0)
 |some p=>
  if c.kind=3 then (if x.state≠1 then (b,Zbn 7) else ({ b with L:=ZeK Bk.id x.id Zdc b.L },Zdw p (Zdc x)))
  else if c.kind=4 then (ZW x.flt (ZkA b x),⟨0,c.pnr,0,0,0,0,0,[],[]⟩)
  else if x.state=3 then (b,Zbn 7)
  else if c.kind=5 then
   (if (Z6 p.r x.id c.lab).2≠0 then (b,Zbn (Z6 p.r x.id c.lab).2)
    else (b.put x.flt (ZcO (Z6 p.r x.id c.lab).1) b.L,Zdw (ZcO (Z6 p.r x.id c.lab).1 p) x))
  else (if (Zam p.r x.id).2.2≠0 then (b,Zbn (Zam p.r x.id).2.2)
    else (b.put x.flt (ZcO (Zam p.r x.id).1) b.L,Zdw (ZcO (Zam p.r x.id).1 p) x))
def ZdJ (b:ZR) (c:Cm):Rp:=
 if ¬ ZaJ c\/c.kind≠9 then Zbn 1
 else if c.pnr≠emS then (match ZcV b c.pnr with
  |(none,e)=>Zbn e
  |(some x,_)=>Zdx b x)
 else match b.at c.flt with
  |none=>Zbn 2
  |some p=>⟨0,emS,0,c.flt,0,(p.q.length:Int),0,Zr p.r,[]⟩
def Zah (b:ZR) (c:Cm):ZR × Rp:=
 if ¬ ZaJ c then (b,Zbn 1)
 else if c.kind=1 then ZdK b c
 else if c.kind=2 then Zc8 b c
 else if c.kind=7 then Zbs b c
 else if c.kind=8 then ZbE b c
 else if c.kind=9 then (b,ZdJ b c)
 else match ZcV b c.pnr with
  |(none,e)=>(b,Zbn e)
  |(some x,_)=>ZgT b x c
def plB (p:Pl):List Int:=ZaX (ZbG p.r)++ZaX (qB p.q)
def bkB (x:Bk):List Int:=Zm [x.id]++(Zm [x.flt]++(Zm [x.cls]++(Zm [x.many]++(Zm [x.state]++Zm [x.till]))))
def Zc3 (b:ZR):List Int:=
 Zm [b.now]++(Zm [b.next]++(Zm [(b.fl.length:Int)]++((b.fl.map plB).flatten++(Zm [(b.L.length:Int)]++(b.L.map bkB).flatten))))
def Zic (p:Pl) (x:Bk):Prop:=
 if x.state=3 then (∃ w∈p.q,w.id=x.id/\w.cls=x.cls/\w.many=x.many)/\x.cls<p.r.lims.length
 else ∃ h∈p.r.L,h.owner=x.id/\h.cls=x.cls/\h.many=x.many
structure Ztw (next:Int) (x:Bk):Prop where
 id:1<=x.id/\x.id<next
 flt:0<=x.flt/\x.flt<=9999
 cls:0<=x.cls/\x.cls<=9999
 many:0<=x.many/\x.many<=9999
 state:1<=x.state/\x.state<=3
 till:0<=x.till/\x.till<=1099511627776
 free:x.state≠1->x.till=0
structure ZB4 (L:List Bk) (p:Pl):Prop where
 has:∀ x∈L,x.flt=p.n->Zic p x
 backQ:∀ w∈p.q,∃ x∈L,x.id=w.id/\x.flt=p.n/\x.state=3
 backH:∀ h∈p.r.L,∃ x∈L,x.id=h.owner/\x.flt=p.n/\x.state≠3
structure Core (b:ZR):Prop where
 now:0<=b.now/\b.now<=1099511627776
 next:1<=b.next/\b.next<=28629151
 good:∀ p∈b.fl,ZaK p.r
 qok:∀ p∈b.fl,QOk p.q
 nums:Zav Pl.n b.fl
 few:b.fl.length<=8
 ids:Zav Bk.id b.L
 each:∀ x∈b.L,Ztw b.next x
 many:b.L.length<=300
 there:∀ x∈b.L,∃ p∈b.fl,p.n=x.flt
 loc:∀ p∈b.fl,ZB4 b.L p
def ZcN (b:ZR):Prop:=∀ x∈b.L,x.state=1->b.now<x.till
def Zgp (p:Pl):Prop:=ZaE p.q (Zr p.r)=none
structure Zaw (b:ZR):Prop where
 core:Core b
 time:ZcN b
 nofit:∀ p∈b.fl,Zgp p
theorem ZuN:Core Z3:=
 ⟨⟨by decide,by decide⟩,⟨by decide,by decide⟩,λ _ h=>(by cases h),λ _ h=>(by cases h),List.Pairwise.nil,by decide,List.Pairwise.nil,λ _ h=>(by cases h),by decide,λ _ h=>(by cases h),λ _ h=>(by cases h)⟩
theorem Zzz:Zaw Z3:=⟨ZuN,λ _ h=>(by cases h),λ _ h=>(by cases h)⟩
theorem Core.swap {b:ZR} (c:Core b) {n:Int} {f:Pl->Pl} {L:List Bk} {next:Int} (hn:b.next<=next/\next<=28629151)
  (hf:∀ p∈b.fl,p.n=n->(f p).n=n/\ZaK (f p).r/\QOk (f p).q/\ZB4 L (f p))
  (ids:Zav Bk.id L) (each:∀ x∈L,Ztw next x) (many:L.length<=300)
  (out:∀ x,x.flt≠n->(x∈L↔x∈b.L)) (here:∀ x∈L,x.flt=n->∃ p∈b.fl,p.n=n):Core { b.put n f L with next:=next }:=by
 have hmem:∀ {p},p∈ZeK Pl.n n f b.fl->∃ q∈b.fl,q.n=p.n/\((q.n=n/\p=f q)\/(q.n≠n/\p=q)):=λ {p} hp=>by
  obtain ⟨q,hq,e⟩:=Z8.1 hp;by_cases h:q.n=n
  ·rw [if_pos h] at e
   exact ⟨q,hq,by rw [e,(hf q hq h).1,h],.inl ⟨h,e⟩⟩
  ·rw [if_neg h] at e
   exact ⟨q,hq,by rw [e],.inr ⟨h,e⟩⟩
 have hput:∀ {q},q∈b.fl->∃ p∈ZeK Pl.n n f b.fl,p.n=q.n:=λ {q} hq=>by
  by_cases h:q.n=n
  ·exact ⟨f q,Z8.2 ⟨q,hq,by rw [if_pos h]⟩,by rw [(hf q hq h).1,h]⟩
  ·exact ⟨q,Z8.2 ⟨q,hq,by rw [if_neg h]⟩,rfl⟩
 refine ⟨c.now,⟨Int.le_trans c.next.1 hn.1,hn.2⟩,λ p hp=>?_,λ p hp=>?_,Zfv c.nums λ p hp e=>(hf p hp e).1,by show (ZeK Pl.n n f b.fl).length<=8;rw [ZjV];exact c.few,ids,each,many,λ x hx=>?_,λ p hp=>?_⟩
 ·obtain ⟨q,hq,_,⟨h,rfl⟩|⟨h,rfl⟩⟩:=hmem hp
  ·exact (hf q hq h).2.1
  ·exact c.good p hq
 ·obtain ⟨q,hq,_,⟨h,rfl⟩|⟨h,rfl⟩⟩:=hmem hp
  ·exact (hf q hq h).2.2.1
  ·exact c.qok p hq
 ·by_cases h:x.flt=n
  ·obtain ⟨p,hp,e⟩:=here x hx h
   obtain ⟨p',hp',e'⟩:=hput hp;exact ⟨p',hp',by rw [e',e,h]⟩
  ·obtain ⟨p,hp,e⟩:=c.there x ((out x h).1 hx)
   obtain ⟨p',hp',e'⟩:=hput hp;exact ⟨p',hp',by rw [e',e]⟩
 ·obtain ⟨q,hq,_,⟨h,rfl⟩|⟨h,rfl⟩⟩:=hmem hp
  ·exact (hf q hq h).2.2.2
  ·have hl:=c.loc p hq
   refine ⟨λ x hx e=>hl.has x ((out x (by rw [e];exact h)).1 hx) e,λ w hw=>?_,λ o ho=>?_⟩
   ·obtain ⟨x,hx,a1,a2,a3⟩:=hl.backQ w hw
    exact ⟨x,(out x (by rw [a2];exact h)).2 hx,a1,a2,a3⟩
   ·obtain ⟨x,hx,a1,a2,a3⟩:=hl.backH o ho
    exact ⟨x,(out x (by rw [a2];exact h)).2 hx,a1,a2,a3⟩
theorem Ztw.le {n m:Int} {x:Bk} (h:Ztw n x) (hl:n<=m):Ztw m x:=⟨⟨h.id.1,Int.lt_of_lt_of_le h.id.2 hl⟩,h.flt,h.cls,h.many,h.state,h.till,h.free⟩
theorem ZaA {b:ZR} {n:Int} {p:Pl} (h:b.at n=some p):p∈b.fl/\p.n=n:=ZdX h
theorem Zh7 {b:ZR} (c:Core b) {n:Int} {p:Pl}:b.at n=some p↔p∈b.fl/\p.n=n:=ZjW c.nums
theorem ZvH {b:ZR} (c:Core b) {n:Int} {x:Bk}:b.bk n=some x↔x∈b.L/\x.id=n:=ZjW c.ids
theorem Core.at_of {b:ZR} (c:Core b) {x:Bk} (hx:x∈b.L):∃ p,b.at x.flt=some p:=by
 obtain ⟨p,hp,e⟩:=c.there x hx;exact ⟨p,(Zh7 c).2 ⟨hp,e⟩⟩
theorem ZAK {b:ZR} {n:Int} {f:Pl->Pl} {L:List Bk} {p:Pl} (hf:(f p).n=n) (c:Core b) (h:b.at n=some p) (c':Zav Pl.n (ZeK Pl.n n f b.fl)):(b.put n f L).at n=some (f p):=by
 have h1:=ZaA h;exact (ZjW c').2 ⟨Z8.2 ⟨p,h1.1,by rw [if_pos h1.2]⟩,hf⟩
end
end
section
open Go Go.VC Tryz
variable {r:RF} {o c m:Int}
theorem ZfB (g:ZaK r) (o c m:Int):ZaK (ZN r o c m).1:=by
 obtain ⟨f,_,t⟩:=ZhZ g;exact (Zjh t g o c m).2.2
theorem Zsf (g:ZaK r) (o:Int):ZaK (Zb1 r o).1:=by
 obtain ⟨f,_,t⟩:=ZhZ g;exact (Zng t g o).2.2
theorem ZlD (g:ZaK r) (o:Int) (lab:ByteArray):ZaK (Z6 r o lab).1:=by
 obtain ⟨f,_,t⟩:=ZhZ g;exact (Zne t g o lab λ k h=>Zsp h).2.2
theorem ZlE (g:ZaK r) (o:Int):ZaK (Zam r o).1:=by
 obtain ⟨f,_,t⟩:=ZhZ g;exact (Zji t g o).2.2.1
theorem ZcR:(ZN r o c m).1.num=r.num/\(ZN r o c m).1.lims=r.lims:=by
 by_cases h:(ZN r o c m).2=0
 ·obtain ⟨A,C,e,_,_⟩:=Zqk h
  rw [e];exact ⟨rfl,rfl⟩
 ·rw [Zql h]
  exact ⟨rfl,rfl⟩
theorem Zee (h:(ZN r o c m).2=0) {x:ZJ}:x∈(ZN r o c m).1.L↔x=⟨o,c,m,[]⟩\/x∈r.L:=by
 obtain ⟨A,C,e,hL,_⟩:=Zqk h;rw [e,hL];dsimp only;rw [List.mem_append,List.mem_cons,List.mem_append];constructor
 ·rintro (h|h|h)<;>simp [h]
 ·rintro (h|h|h)<;>simp [h]
theorem Zoy (h:(ZN r o c m).2=0):(1<=o/\o<=28629151)/\Zcg o r.L=none/\(Za7 r.lims r.sold c m).2=0/\ZN r o c m=({ r with L:=ZlC ⟨o,c,m,[]⟩ r.L },0):=by
 unfold ZN at h ⊢;split at h
 ·cases h
 rename_i h1;split at h
 ·cases h
 rename_i h2;rw [if_neg h1,if_neg h2];split at h
 ·rename_i h3
  rw [if_pos h3];exact ⟨by omega,by cases e:Zcg o r.L with|none=>rfl|some x=>rw [e] at h2;simp at h2,h3,rfl⟩
 ·rename_i h3;exact absurd h h3
theorem Zqj (h:(ZN r o c m).2=0):(ZN r o c m).1.sold=r.sold.set c.toNat (r.sold.getD c.toNat 0 + m)/\0<=c/\c<r.lims.length/\1<=m:=by
 obtain ⟨_,_,h3,e⟩:=Zoy h;obtain ⟨_,_,c0,c1,m0⟩:=Zfo h3;refine ⟨?_,c0,c1,m0⟩;rw [e];exact (Zfc (n:=r.lims.length) (ZbB ⟨o,c,m,[]⟩ r.L) c0 c1).symm
theorem ZnK {x y:Nat->Int}:∀ {k:Nat},(∀ i,i<k->x i<=y i)->mnF x k<=mnF y k
 |0,_=>Int.le_refl _
 |k + 1,h=>by
  have h1:=ZnK (k:=k) λ i hi=>h i (by omega);have h2:=h k (by omega);unfold mnF;split<;>split<;>omega
theorem ZdW (r:RF):(Zr r).length=r.lims.length:=by simp [Zr]
theorem ZhH {k:Nat} (h:k<r.lims.length):(Zr r).getD k 0=(ZbA r.lims r.sold k).1:=by
 unfold Zr;rw [List.getD_eq_getElem?_getD];simp [h]
theorem ZgV (g:ZaK r) {k:Nat} (h:k<r.lims.length):(ZbA r.lims r.sold k).1=mnF (ZdR r.lims r.sold) (k + 1)/\(ZbA r.lims r.sold k).2=0:=by
 unfold ZbA;rw [if_pos ⟨g.nest,by omega,by omega⟩];exact ⟨by rw [Int.toNat_natCast],rfl⟩
theorem take_left (g:ZaK r) (h:(ZN r o c m).2=0) {k:Nat} (hk:k<r.lims.length):(Zr (ZN r o c m).1).getD k 0<=(Zr r).getD k 0:=by
 obtain ⟨hs,c0,c1,m0⟩:=Zqj h;have hl:=(ZcR (r:=r) (o:=o) (c:=c) (m:=m)).2;have g':=ZfB g o c m;rw [ZhH hk,ZhH (by rw [hl];exact hk),(ZgV g hk).1,(ZgV g' (by rw [hl];exact hk)).1,hl,hs];refine ZnK λ i hi=>?_;unfold ZdR;have hlen:r.sold.length=r.lims.length:=Zbu _ _;have:=Zd1 (sold:=r.sold) (c:=c.toNat) (m:=m) (by omega) (r.lims.length - i) i (by omega);rw [this];split<;>omega
theorem Zqm (g:ZaK r) {w:Wt} (hw:w.Ok) (hf:ZdE (Zr r) w=true) (hn:Zcg w.id r.L=none):(ZN r w.id w.cls w.many).2=0:=by
 obtain ⟨⟨a1,a2⟩,⟨b1,b2⟩,⟨c1,c2⟩,_⟩:=hw;unfold ZdE at hf;simp only [Bool.and_eq_true,decide_eq_true_eq] at hf;rw [ZdW] at hf;rw [ZhH (by omega)] at hf;have hv:=ZgV g (k:=w.cls.toNat) (by omega);have e:((w.cls.toNat:Nat):Int)=w.cls:=by omega
 rw [e] at hf hv;have hs:(Za7 r.lims r.sold w.cls w.many).2=0:=by
  unfold Za7;rw [if_neg (by rw [hv.2];omega),if_neg (by omega)]
 unfold ZN;rw [if_neg (by omega),hn,if_neg (by simp),if_pos hs]
theorem Zsl (g:ZaK r) (h:(ZN r o c m).2=0) {w:Wt} (hw:0<=w.cls) (hf:ZdE (Zr (ZN r o c m).1) w=true):ZdE (Zr r) w=true:=by
 unfold ZdE at *;simp only [Bool.and_eq_true,decide_eq_true_eq] at *;rw [ZdW] at *;rw [(ZcR (r:=r) (o:=o) (c:=c) (m:=m)).2] at hf;have:=take_left g h (k:=w.cls.toNat) (by omega);omega
theorem Zer:(Zb1 r o).1.num=r.num/\(Zb1 r o).1.lims=r.lims:=by
 unfold Zb1;split<;>exact ⟨rfl,rfl⟩
theorem Zuv (g:ZaK r) {x:ZJ}:x∈(Zb1 r o).1.L↔x∈r.L/\x.owner≠o:=by
 unfold Zb1;cases hg:Zcg o r.L with
 |none=>
  dsimp only;exact ⟨λ h=>⟨h,Zcb.1 hg x h⟩,λ h=>h.1⟩
 |some hd=>
  obtain ⟨A,C,hL,hA,ho⟩:=ZbT hg;have hr:=g.rise;dsimp only;rw [hL] at hr ⊢;rw [Zkj ho hA];have hp:=List.pairwise_append.1 hr;have hc:=List.pairwise_cons.1 hp.2.1;rw [List.mem_append,List.mem_append,List.mem_cons];constructor
  ·rintro (h|h)
   ·exact ⟨.inl h,Zcb.1 hA x h⟩
   ·exact ⟨.inr (.inr h),by have:=hc.1 x h;omega⟩
  ·rintro ⟨h|rfl|h,hn⟩
   ·exact .inl h
   ·exact absurd ho hn
   ·exact .inr h
structure Zc1 (r r':RF):Prop where
 num:r'.num=r.num
 lims:r'.lims=r.lims
 rows:r'.rows=r.rows
 grps:r'.grps=r.grps
 each:∃ A hd hd' C,r.L=A++hd::C/\r'.L=A++hd'::C/\hd'.owner=hd.owner/\hd'.cls=hd.cls/\hd'.many=hd.many
theorem Zc1.sold {r':RF} (h:Zc1 r r'):r'.sold=r.sold:=by
 obtain ⟨A,hd,hd',C,e1,e2,_,e4,e5⟩:=h.each;unfold RF.sold Zal;rw [h.lims];apply List.map_congr_left;intro k _;rw [e1,e2,ZeA,ZeA,Zd8,Zd8,e4,e5]
theorem Zc1.lefts {r':RF} (h:Zc1 r r'):Zr r'=Zr r:=by
 unfold Zr;rw [h.lims,h.sold]
theorem Zc1.mem {r':RF} (h:Zc1 r r') {x:ZJ} (hx:x∈r.L):∃ y∈r'.L,y.owner=x.owner/\y.cls=x.cls/\y.many=x.many:=by
 obtain ⟨A,hd,hd',C,e1,e2,e3,e4,e5⟩:=h.each;rw [e1,List.mem_append,List.mem_cons] at hx;rw [e2];rcases hx with hx|rfl|hx
 ·exact ⟨x,by simp [hx],rfl,rfl,rfl⟩
 ·exact ⟨hd',by simp,e3,e4,e5⟩
 ·exact ⟨x,by simp [hx],rfl,rfl,rfl⟩
theorem Zc1.symm {r':RF} (h:Zc1 r r'):Zc1 r' r:=by
 obtain ⟨A,hd,hd',C,e1,e2,e3,e4,e5⟩:=h.each;exact ⟨h.num.symm,h.lims.symm,h.rows.symm,h.grps.symm,A,hd',hd,C,e2,e1,e3.symm,e4.symm,e5.symm⟩
theorem ZqE (g:ZaK r) {lab:ByteArray} (h:(Z6 r o lab).2=0):Zc1 r (Z6 r o lab).1:=by
 obtain ⟨A,hd,C,n,_,hL,_,_,_,e⟩:=Zv0 g h;rw [e];exact ⟨rfl,rfl,rfl,rfl,A,hd,hd.put n,C,hL,rfl,rfl,rfl,rfl⟩
theorem Zte (h:(Zam r o).2.2=0):Zc1 r (Zam r o).1:=by
 unfold Zam at *;cases hg:Zcg o r.L with
 |none=>rw [hg] at h;cases h
 |some hd=>
  obtain ⟨A,C,hL,hA,ho⟩:=ZbT hg;rw [hg] at h;dsimp only at h ⊢;split at h
  ·cases h
  ·rename_i h1
   rw [if_neg h1];split at h
   ·rename_i h2
    rw [if_pos h2];refine ⟨rfl,rfl,rfl,rfl,A,hd,{ hd with seats:=(Zaq r.rows r.grps (ZV r.L) hd.many).1 },C,hL,?_,rfl,rfl,rfl⟩;show ZqA o _ r.L=_;rw [hL];exact Zfe ho hA
   ·rename_i h2;exact absurd h h2
theorem ZtM {lab:ByteArray} (h:(Z6 r o lab).2≠0):(Z6 r o lab).1=r:=(ZqD h).1
theorem Zy3 (h:(Zam r o).2.2≠0):(Zam r o).1=r:=by
 unfold Zam at *;cases hg:Zcg o r.L with
 |none=>rfl
 |some hd=>
  rw [hg] at h;dsimp only at h ⊢;split
  ·rfl
  ·rename_i h1
   rw [if_neg h1] at h;split
   ·rename_i h2;rw [if_pos h2] at h;exact absurd rfl h
   ·rfl
end
section
open Go Go.VC Tryz
variable {b:ZR} {n:Int} {p:Pl} {w:Wt} {x:Bk}
theorem Core.uniq (c:Core b) {x y:Bk} (hx:x∈b.L) (hy:y∈b.L) (e:x.id=y.id):x=y:=c.ids.uniq hx hy e
theorem Core.uniqP (c:Core b) {p q:Pl} (hp:p∈b.fl) (hq:q∈b.fl) (e:p.n=q.n):p=q:=c.nums.uniq hp hq e
theorem Core.waits (c:Core b) (hp:p∈b.fl) (hw:w∈p.q):∃ x∈b.L,x.id=w.id/\x.flt=p.n/\x.state=3/\x.cls=w.cls/\x.many=w.many:=by
 obtain ⟨x,hx,e1,e2,e3⟩:=(c.loc p hp).backQ w hw;have h:=(c.loc p hp).has x hx e2;unfold Zic at h;rw [if_pos e3] at h;obtain ⟨⟨w',hw',a1,a2,a3⟩,_⟩:=h;have:w'=w:=by
  have hq:=(c.qok p hp).ids;have key:∀ {q:List Wt},Zzi q->∀ {a b:Wt},a∈q->b∈q->a.id=b.id->a=b:=by
   intro q
   induction q with
   |nil=>intro _ a b ha;cases ha
   |cons y q ih=>
    intro h a b ha hb e;have hp:=List.pairwise_cons.1 h;rcases List.mem_cons.1 ha with e1|h1
    ·rcases List.mem_cons.1 hb with e2|h2
     ·rw [e1,e2]
     ·rw [e1] at e;exact absurd e (hp.1 b h2)
    ·rcases List.mem_cons.1 hb with e2|h2
     ·rw [e2] at e;exact absurd e.symm (hp.1 a h1)
     ·exact ih hp.2 h1 h2 e
  exact key hq hw' hw (by omega)
 rw [this] at a2 a3;exact ⟨x,hx,e1,e2,e3,a2.symm,a3.symm⟩
theorem Core.noHold (c:Core b) (hp:p∈b.fl) (hw:w∈p.q):Zcg w.id p.r.L=none:=by
 rw [Zcb];intro h hh e;obtain ⟨x,hx,e1,e2,e3,_⟩:=c.waits hp hw;obtain ⟨y,hy,a1,a2,a3⟩:=(c.loc p hp).backH h hh;have:=c.uniq hx hy (by omega);rw [this] at e3;exact a3 e3
theorem Zdy:(Zmi w p).n=p.n:=ZcR.1
theorem Zkb (c:Core b) (hp:p∈b.fl) (hw:ZaE p.q (Zr p.r)=some w):w∈p.q/\ZdE (Zr p.r) w=true/\(ZN p.r w.id w.cls w.many).2=0:=by
 obtain ⟨h1,h2⟩:=ZoT hw;exact ⟨h1,h2,Zqm (c.good p hp) ((c.qok p hp).ok w h1) h2 (c.noHold hp h1)⟩
theorem ZlR (c:Core b) (hp:p∈b.fl) (hn:p.n=n) (hf:ZaE p.q (Zr p.r)=some w):Core (ZjN b n w):=by
 obtain ⟨hw,hfit,htake⟩:=Zkb c hp hf;obtain ⟨x,hx,e1,e2,e3,e4,e5⟩:=c.waits hp hw;have hq:=c.qok p hp;refine c.swap (next:=b.next) ⟨Int.le_refl _,c.next.2⟩ (λ p' hp' hn'=>?_) (Zfv c.ids λ y _ e=>e) (λ y hy=>?_) (by show (ZeK Bk.id w.id ZeM b.L).length<=300;rw [ZjV];exact c.many) (λ y hy=>?_) λ y _ _=>⟨p,hp,hn⟩
 ·obtain rfl:p'=p:=c.uniqP hp' hp (by omega)
  refine ⟨by rw [Zdy];exact hn,ZfB (c.good _ hp) _ _ _,hq.del _,?_⟩;have hl:=c.loc _ hp;refine ⟨λ y hy e=>?_,λ v hv=>?_,λ h hh=>?_⟩
  ·obtain ⟨z,hz,rfl⟩:=Z8.1 hy
   by_cases hid:z.id=w.id
   ·rw [if_pos hid]
    obtain rfl:z=x:=c.uniq hz hx (by omega);unfold Zic;rw [if_neg (by show (2:Int)≠3;omega)];exact ⟨⟨w.id,w.cls,w.many,[]⟩,(Zee htake).2 (.inl rfl),hid.symm,e4.symm,e5.symm⟩
   ·rw [if_neg hid] at e ⊢
    have hz2:=hl.has z hz (by rw [e,Zdy]);unfold Zic at *;by_cases h3:z.state=3
    ·rw [if_pos h3] at hz2 ⊢
     obtain ⟨⟨v,hv,a1,a2,a3⟩,a4⟩:=hz2;refine ⟨⟨v,(Zki hq.ids).2 ⟨hv,by omega⟩,a1,a2,a3⟩,?_⟩;show z.cls<((ZN _ _ _ _).1.lims.length:Int);rw [ZcR.2];exact a4
    ·rw [if_neg h3] at hz2 ⊢
     obtain ⟨h,hh,a1,a2,a3⟩:=hz2;exact ⟨h,(Zee htake).2 (.inr hh),a1,a2,a3⟩
  ·obtain ⟨hv1,hv2⟩:=(Zki hq.ids).1 hv
   obtain ⟨y,hy,a1,a2,a3⟩:=hl.backQ v hv1;exact ⟨y,Z8.2 ⟨y,hy,by rw [if_neg (by omega)]⟩,a1,by rw [a2,Zdy],a3⟩
  ·rcases (Zee htake).1 hh with rfl|hh
   ·exact ⟨ZeM x,Z8.2 ⟨x,hx,by rw [if_pos e1]⟩,e1,by show x.flt=_;rw [e2,Zdy],by show (2:Int)≠3;omega⟩
   ·obtain ⟨y,hy,a1,a2,a3⟩:=hl.backH h hh
    refine ⟨y,Z8.2 ⟨y,hy,?_⟩,a1,by rw [a2,Zdy],a3⟩;rw [if_neg λ e=>?_];obtain rfl:y=x:=c.uniq hy hx (by omega);exact a3 e3
 ·obtain ⟨z,hz,rfl⟩:=Z8.1 hy
  have hb:=c.each z hz;by_cases hid:z.id=w.id
  ·rw [if_pos hid]
   obtain rfl:z=x:=c.uniq hz hx (by omega);exact ⟨hb.id,hb.flt,hb.cls,hb.many,⟨by show (1:Int)<=2;omega,by show (2:Int)<=3;omega⟩,hb.till,λ _=>hb.free (by omega)⟩
  ·rw [if_neg hid];exact hb
 ·constructor
  ·intro h
   obtain ⟨z,hz,rfl⟩:=Z8.1 h;by_cases hid:z.id=w.id
   ·rw [if_pos hid] at hy
    obtain rfl:z=x:=c.uniq hz hx (by omega);exact absurd (e2.trans hn) hy
   ·rw [if_neg hid];exact hz
  ·intro h
   refine Z8.2 ⟨y,h,?_⟩;rw [if_neg λ e=>?_];obtain rfl:y=x:=c.uniq h hx (by omega);exact hy (e2.trans hn)
theorem ZrC (c:Core b) (hp:b.at n=some p):(ZjN b n w).at n=some (Zmi w p):=
 ZAK (by rw [Zdy];exact (ZaA hp).2) c hp (Zfv c.nums λ q _ e=>by rw [Zdy];exact e)
theorem Zwu {q:Pl} (h:q∈(ZjN b n w).fl):q.n=n\/q∈b.fl:=by
 obtain ⟨z,hz,rfl⟩:=Z8.1 h;by_cases e:z.n=n
 ·rw [if_pos e];exact .inl (by rw [Zdy];exact e)
 ·rw [if_neg e];exact .inr hz
theorem ZmC (t:ZcN b):ZcN (ZjN b n w):=by
 intro x hx hs;obtain ⟨z,hz,rfl⟩:=Z8.1 hx;by_cases e:z.id=w.id
 ·rw [if_pos e] at hs;exact absurd hs (by show (2:Int)≠1;omega)
 ·rw [if_neg e] at hs ⊢;exact t z hz hs
theorem Zoa {id:Int} {q:List Wt} (h:ZgA id q=true):(ZhY id q).length + 1=q.length:=by
 obtain ⟨A,w,C,e,_,_,e2⟩:=Zjb h;rw [e2,e];simp;omega
structure Zcr (n:Int) (b b':ZR):Prop where
 now:b'.now=b.now
 next:b'.next=b.next
 keys:b'.fl.map Pl.n=b.fl.map Pl.n
 others:∀ q∈b'.fl,q.n=n\/q∈b.fl
 ids:b'.L.map Bk.id=b.L.map Bk.id
 bk:∀ y∈b'.L,∃ x∈b.L,y.id=x.id/\y.flt=x.flt/\y.cls=x.cls/\y.many=x.many/\y.till=x.till
theorem Zcr.refl (n:Int) (b:ZR):Zcr n b b:=⟨rfl,rfl,rfl,λ _ h=>.inr h,rfl,λ y hy=>⟨y,hy,rfl,rfl,rfl,rfl,rfl⟩⟩
theorem Zcr.trans {b1 b2 b3:ZR} (h1:Zcr n b1 b2) (h2:Zcr n b2 b3):Zcr n b1 b3:=
 ⟨h2.now.trans h1.now,h2.next.trans h1.next,h2.keys.trans h1.keys,λ q hq=>by
  rcases h2.others q hq with h|h
  ·exact .inl h
  ·exact h1.others q h,h2.ids.trans h1.ids,λ y hy=>by
  obtain ⟨x,hx,a1,a2,a3,a4,a5⟩:=h2.bk y hy;obtain ⟨z,hz,c1,c2,c3,c4,c5⟩:=h1.bk x hx;exact ⟨z,hz,by omega,by omega,by omega,by omega,by omega⟩⟩
theorem Zfw {α:Type} {k:α->Int} {n:Int} {f:α->α} (hf:∀ x,k x=n->k (f x)=n):∀ l:List α,(ZeK k n f l).map k=l.map k
 |[]=>rfl
 |a::l=>by
  show k (if k a=n then f a else a)::(ZeK k n f l).map k=_
  rw [Zfw hf l,List.map_cons];split
  ·rename_i e;rw [hf a e,e]
  ·rfl
theorem ZrY:Zcr n b (ZjN b n w):=by
 refine ⟨rfl,rfl,Zfw (λ q e=>by rw [Zdy];exact e) _,λ q hq=>Zwu hq,Zfw (k:=Bk.id) (f:=ZeM) (λ y e=>e) b.L,λ y hy=>?_⟩;obtain ⟨z,hz,rfl⟩:=Z8.1 hy;refine ⟨z,hz,?_⟩;split<;>exact ⟨rfl,rfl,rfl,rfl,rfl⟩
theorem Zrd:∀ (k:Nat) {b:ZR},Core b->Core (ZjB k n b)/\Zcr n b (ZjB k n b)/\(ZcN b->ZcN (ZjB k n b))/\((∀ p,b.at n=some p->p.q.length<k)->∀ p∈(ZjB k n b).fl,p.n=n->Zgp p)
 |0,b,c=>⟨c,Zcr.refl n b,λ t=>t,λ h p hp e=>absurd (h p ((Zh7 c).2 ⟨hp,e⟩)) (by omega)⟩
 |k + 1,b,c=>by
  unfold ZjB;cases ha:b.at n with
  |none=>
   refine ⟨c,Zcr.refl n b,λ t=>t,λ _ p hp e=>?_⟩;rw [(Zh7 c).2 ⟨hp,e⟩] at ha;cases ha
  |some p=>
   dsimp only;have hp:=ZaA ha;cases hq:ZaE p.q (Zr p.r) with
   |none=>
    refine ⟨c,Zcr.refl n b,λ t=>t,λ _ p' hp' e=>?_⟩;obtain rfl:p'=p:=c.uniqP hp' hp.1 (by rw [e,hp.2]);exact hq
   |some w=>
    dsimp only;have c':=ZlR c hp.1 hp.2 hq;obtain ⟨i1,i2,i3,i4⟩:=Zrd k c';refine ⟨i1,ZrY.trans i2,λ t=>i3 (ZmC t),λ h=>i4 λ p' hp'=>?_⟩;rw [ZrC c ha] at hp';cases hp';have h1:=h p rfl;have hm:=(Zkb c hp.1 hq).1;have h2:=Zoa (ZgY.2 ⟨w,hm,rfl⟩);show (ZhY w.id p.q).length<k;omega
theorem Zcp (c:Core b):Core (ZW n b)/\Zcr n b (ZW n b)/\(ZcN b->ZcN (ZW n b))/\∀ p∈(ZW n b).fl,p.n=n->Zgp p:=by
 obtain ⟨h1,h2,h3,h4⟩:=Zrd (n:=n) 201 c;exact ⟨h1,h2,h3,h4 λ p hp=>by have:=(c.qok p (ZaA hp).1).len;omega⟩
theorem ZsF (c:Core b) {r:RF} (g:ZaK r) (hL:r.L=[]) (hn:b.at r.num=none) (hf:b.fl.length<8):Core { b with fl:=ZpW Pl.n ⟨r,[]⟩ b.fl }:=by
 have hno:=ZdY.1 hn;refine ⟨c.now,c.next,λ p hp=>?_,λ p hp=>?_,Zlx c.nums hno,by show (ZpW Pl.n _ b.fl).length<=8;rw [ZnS];omega,c.ids,c.each,c.many,λ x hx=>?_,λ p hp=>?_⟩
 ·rcases ZdC.1 hp with rfl|hp
  ·exact g
  ·exact c.good p hp
 ·rcases ZdC.1 hp with rfl|hp
  ·exact QOk.nil
  ·exact c.qok p hp
 ·obtain ⟨p,hp,e⟩:=c.there x hx
  exact ⟨p,ZdC.2 (.inr hp),e⟩
 ·rcases ZdC.1 hp with rfl|hp
  ·refine ⟨λ x hx e=>?_,λ w hw=>(by cases hw),λ h hh=>?_⟩
   ·obtain ⟨p,hp,e2⟩:=c.there x hx
    exact absurd (e2.trans e) (hno p hp)
   ·rw [show (Pl.mk r []).r.L=r.L from rfl,hL] at hh;cases hh
  ·exact c.loc p hp
theorem Zog (c:Core b) (hx:x∈b.L) {f:Pl->Pl} (hf:∀ p∈b.fl,p.n=x.flt->(f p).n=x.flt/\ZaK (f p).r/\QOk (f p).q/\(f p).r.lims=p.r.lims/\(∀ w,w∈(f p).q↔w∈p.q/\w.id≠x.id)/\∀ h,h∈(f p).r.L↔h∈p.r.L/\h.owner≠x.id):
  Core (b.put x.flt f (ZnU Bk.id x.id b.L)):=by
 refine c.swap (next:=b.next) ⟨Int.le_refl _,c.next.2⟩ (λ p hp hn=>?_) (ZrZ c.ids) (λ y hy=>c.each y (Zcl.1 hy).1) (Nat.le_trans (List.length_filter_le _ _) c.many) (λ y hy=>?_) λ y _ _=>c.there x hx
 ·obtain ⟨f1,f2,f3,f6,f4,f5⟩:=hf p hp hn
  have hl:=c.loc p hp;refine ⟨f1,f2,f3,λ y hy e=>?_,λ w hw=>?_,λ h hh=>?_⟩
  ·obtain ⟨hy1,hy2⟩:=Zcl.1 hy
   have h:=hl.has y hy1 (by rw [e,f1,hn]);unfold Zic at *;by_cases h3:y.state=3
   ·rw [if_pos h3] at h ⊢
    obtain ⟨⟨w,hw,a1,a2,a3⟩,a4⟩:=h;exact ⟨⟨w,(f4 w).2 ⟨hw,by omega⟩,a1,a2,a3⟩,by rw [f6];exact a4⟩
   ·rw [if_neg h3] at h ⊢
    obtain ⟨h,hh,a1,a2,a3⟩:=h;exact ⟨h,(f5 h).2 ⟨hh,by omega⟩,a1,a2,a3⟩
  ·obtain ⟨hw1,hw2⟩:=(f4 w).1 hw
   obtain ⟨y,hy,a1,a2,a3⟩:=hl.backQ w hw1;exact ⟨y,Zcl.2 ⟨hy,by omega⟩,a1,by rw [a2,f1,hn],a3⟩
  ·obtain ⟨hh1,hh2⟩:=(f5 h).1 hh
   obtain ⟨y,hy,a1,a2,a3⟩:=hl.backH h hh1;exact ⟨y,Zcl.2 ⟨hy,by omega⟩,a1,by rw [a2,f1,hn],a3⟩
 ·refine Zcl.trans ⟨λ h=>h.1,λ h=>⟨h,λ e=>hy ?_⟩⟩
  rw [c.uniq h hx e]
theorem Zh3 (c:Core b) (hx:x∈b.L) (hs:x.state≠3):Core (ZfG b x):=by
 refine Zog c hx λ p hp hn=>⟨by show (Zb1 _ _).1.num=_;rw [Zer.1];exact hn,Zsf (c.good p hp) _,c.qok p hp,Zer.2,λ w=>⟨λ hw=>⟨hw,λ e=>?_⟩,λ h=>h.1⟩,λ h=>Zuv (c.good p hp)⟩;obtain ⟨y,hy,e1,_,e3,_⟩:=c.waits hp hw;rw [c.uniq hy hx (by omega)] at e3;exact hs e3
theorem ZlS (c:Core b) (hx:x∈b.L):Core (ZkA b x):=by
 unfold ZkA;split
 ·rename_i hs
  refine Zog c hx λ p hp hn=>⟨hn,c.good p hp,(c.qok p hp).del _,rfl,λ w=>Zki (c.qok p hp).ids,λ h=>⟨λ hh=>⟨hh,λ e=>?_⟩,λ hh=>hh.1⟩⟩;obtain ⟨y,hy,a1,a2,a3⟩:=(c.loc p hp).backH h hh;rw [c.uniq hy hx (by omega)] at a3;exact a3 hs
 ·rename_i hs
  exact Zh3 c hx hs
theorem ZoV {f:Pl->Pl} {L:List Bk} (t:ZcN b) (h:∀ y∈L,y.state=1->y∈b.L):ZcN (b.put n f L):=λ y hy hs=>t y (h y hy hs) hs
theorem ZmS (t:ZcN b):ZcN (ZkA b x):=by
 unfold ZkA ZfG;split<;>exact ZoV t λ y hy _=>(Zcl.1 hy).1
theorem ZwI {q:Pl} (h:q∈(ZkA b x).fl):q.n=x.flt\/q∈b.fl:=by
 unfold ZkA ZfG at h;split at h<;>
 ·obtain ⟨z,hz,rfl⟩:=Z8.1 h
  by_cases e:z.n=x.flt
  ·rw [if_pos e]
   exact .inl (by first|exact e|(show (Zb1 _ _).1.num=_;rw [Zer.1];exact e))
  ·rw [if_neg e];exact .inr hz
end
section
open Go Go.VC Tryz
variable {b:ZR} {n:Int} {p:Pl} {w:Wt} {x:Bk} {c:Cm}
theorem ZaN {α:Type} {l:List α} {a y:α}:y∈l++[a]↔y∈l\/y=a:=by simp
theorem Core.fresh (k:Core b) {y:Bk} (hy:y∈b.L):y.id<b.next:=(k.each y hy).id.2
theorem Zoi (k:Core b) (hx:Ztw (b.next + 1) x) (hid:x.id=b.next) (hf:¬ b.full) (hp:p∈b.fl) (hn:p.n=x.flt) {f:Pl->Pl} (hl:(f p).n=p.n/\ZaK (f p).r/\QOk (f p).q/\ZB4 (b.L++[x]) (f p)):
  Core { b.put x.flt f (b.L++[x]) with next:=b.next + 1 }:=by
 unfold ZR.full at hf;refine k.swap (next:=b.next + 1) ⟨by omega,by omega⟩ (λ p' hp' hn'=>?_) (Zf9 k.ids λ y hy=>by rw [hid];exact k.fresh hy) (λ y hy=>?_) (by rw [List.length_append,List.length_singleton];omega) (λ y hy=>?_) λ y _ _=>⟨p,hp,hn⟩
 ·obtain rfl:p'=p:=k.uniqP hp' hp (by omega)
  exact ⟨by rw [hl.1];exact hn,hl.2.1,hl.2.2.1,hl.2.2.2⟩
 ·rcases ZaN.1 hy with hy|rfl
  ·exact (k.each y hy).le (by omega)
  ·exact hx
 ·refine ZaN.trans ⟨λ h=>?_,λ h=>.inl h⟩
  rcases h with h|rfl
  ·exact h
  ·exact absurd rfl hy
theorem Zh2 (k:Core b) (hc:ZaJ c) (hp:b.at c.flt=some p) (hf:¬ b.full) (ht:(ZN p.r b.next c.cls c.many).2=0):
  Core { b.put c.flt (takeP b.next c.cls c.many) (b.L++[Zat b c]) with next:=b.next + 1 }:=by
 obtain ⟨hp1,hp2⟩:=ZaA hp;have hnx:=k.next;refine Zoi k (x:=Zat b c) ⟨⟨hnx.1,by show b.next<b.next + 1;omega⟩,hc.flt,hc.cls,hc.many,⟨by show (1:Int)<=1;omega,by show (1:Int)<=3;omega⟩,hc.time,λ h=>absurd rfl h⟩ rfl hf hp1 hp2 ?_;refine ⟨ZcR.1,ZfB (k.good p hp1) _ _ _,k.qok p hp1,?_⟩;have hl:=k.loc p hp1;have hnum:(takeP b.next c.cls c.many p).n=p.n:=ZcR.1;refine ⟨λ y hy e=>?_,λ v hv=>?_,λ h hh=>?_⟩
 ·rcases ZaN.1 hy with hy|rfl
  ·have h:=hl.has y hy (by rw [e,hnum])
   unfold Zic at *;by_cases h3:y.state=3
   ·rw [if_pos h3] at h ⊢
    exact ⟨h.1,by show y.cls<((ZN _ _ _ _).1.lims.length:Int);rw [ZcR.2];exact h.2⟩
   ·rw [if_neg h3] at h ⊢
    obtain ⟨h,hh,a⟩:=h;exact ⟨h,(Zee ht).2 (.inr hh),a⟩
  ·unfold Zic
   rw [if_neg (by show (1:Int)≠3;omega)];exact ⟨⟨b.next,c.cls,c.many,[]⟩,(Zee ht).2 (.inl rfl),rfl,rfl,rfl⟩
 ·obtain ⟨y,hy,a1,a2,a3⟩:=hl.backQ v hv
  exact ⟨y,ZaN.2 (.inl hy),a1,by rw [a2,hnum],a3⟩
 ·rcases (Zee ht).1 hh with rfl|hh
  ·exact ⟨Zat b c,ZaN.2 (.inr rfl),rfl,by show c.flt=_;rw [hnum];exact hp2.symm,by show (1:Int)≠3;omega⟩
  ·obtain ⟨y,hy,a1,a2,a3⟩:=hl.backH h hh
   exact ⟨y,ZaN.2 (.inl hy),a1,by rw [a2,hnum],a3⟩
theorem ZiH {q:List Wt} (h:(ZeH q w).2=0):w.Ok/\ZgA w.id q=false/\q.length<200/\ZeH q w=(Zl8 w q,0):=by
 unfold ZeH at *;split at h
 ·cases h
 rename_i h1;split at h
 ·cases h
 rename_i h2;split at h
 ·cases h
 rename_i h3;rw [if_neg h1,if_neg h2,if_neg h3];exact ⟨by simpa using h1,by simpa using h2,by omega,rfl⟩
theorem Zh1 (k:Core b) (hc:ZaJ c) (hs:c.sc<18446744073709551616) (hp:b.at c.flt=some p) (hcl:¬ (p.r.lims.length:Int)<=c.cls) (hf:¬ b.full) (hq:(ZeH p.q (Zc2 b c)).2=0):Core (Zb4 b c):=by
 obtain ⟨hp1,hp2⟩:=ZaA hp;obtain ⟨q1,q2,q3,_⟩:=ZiH hq;have hnx:=k.next;refine Zoi k (x:=ZbL b c) ⟨⟨hnx.1,by show b.next<b.next + 1;omega⟩,hc.flt,hc.cls,hc.many,⟨by show (1:Int)<=3;omega,by show (3:Int)<=3;omega⟩,⟨Int.le_refl _,by show (0:Int)<=_;omega⟩,λ _=>rfl⟩ rfl hf hp1 hp2 ?_;refine ⟨rfl,k.good p hp1,(k.qok p hp1).ins q1 hs q2 q3,?_⟩;have hl:=k.loc p hp1;refine ⟨λ y hy e=>?_,λ v hv=>?_,λ h hh=>?_⟩
 ·rcases ZaN.1 hy with hy|rfl
  ·have h:=hl.has y hy e
   unfold Zic at *;by_cases h3:y.state=3
   ·rw [if_pos h3] at h ⊢
    obtain ⟨⟨v,hv,a⟩,a4⟩:=h;exact ⟨⟨v,ZcY.2 (.inr hv),a⟩,a4⟩
   ·rw [if_neg h3] at h ⊢
    exact h
  ·unfold Zic
   rw [if_pos (by rfl)];exact ⟨⟨Zc2 b c,ZcY.2 (.inl rfl),rfl,rfl,rfl⟩,by show c.cls<(p.r.lims.length:Int);omega⟩
 ·rcases ZcY.1 hv with rfl|hv
  ·exact ⟨ZbL b c,ZaN.2 (.inr rfl),rfl,hp2.symm,rfl⟩
  ·obtain ⟨y,hy,a⟩:=hl.backQ v hv
   exact ⟨y,ZaN.2 (.inl hy),a⟩
 ·obtain ⟨y,hy,a⟩:=hl.backH h hh
  exact ⟨y,ZaN.2 (.inl hy),a⟩
theorem ZlQ (k:Core b) (hx:x∈b.L) (hs:x.state=1):Core { b with L:=ZeK Bk.id x.id Zdc b.L }:=by
 have hmem:∀ {y},y∈ZeK Bk.id x.id Zdc b.L->y=Zdc x\/(y∈b.L/\y.id≠x.id):=λ {y} hy=>by
  obtain ⟨z,hz,rfl⟩:=Z8.1 hy;by_cases e:z.id=x.id
  ·rw [if_pos e,k.uniq hz hx e];exact .inl rfl
  ·rw [if_neg e];exact .inr ⟨hz,e⟩
 have hput:∀ {y},y∈b.L->y.id≠x.id->y∈ZeK Bk.id x.id Zdc b.L:=λ {y} hy e=>Z8.2 ⟨y,hy,by rw [if_neg e]⟩;have hnew:Zdc x∈ZeK Bk.id x.id Zdc b.L:=Z8.2 ⟨x,hx,by rw [if_pos rfl]⟩;refine ⟨k.now,k.next,k.good,k.qok,k.nums,k.few,Zfv k.ids λ _ _ e=>e,λ y hy=>?_,by show (ZeK Bk.id _ _ b.L).length<=_;rw [ZjV];exact k.many,λ y hy=>?_,λ p hp=>?_⟩
 ·rcases hmem hy with rfl|⟨hy,_⟩
  ·have hb:=k.each x hx
   exact ⟨hb.id,hb.flt,hb.cls,hb.many,⟨by show (1:Int)<=2;omega,by show (2:Int)<=3;omega⟩,⟨Int.le_refl _,by show (0:Int)<=_;omega⟩,λ _=>rfl⟩
  ·exact k.each y hy
 ·rcases hmem hy with rfl|⟨hy,_⟩
  ·exact k.there x hx
  ·exact k.there y hy
 ·have hl:=k.loc p hp
  refine ⟨λ y hy e=>?_,λ w hw=>?_,λ h hh=>?_⟩
  ·rcases hmem hy with rfl|⟨hy,_⟩
   ·have h:=hl.has x hx e
    unfold Zic at *;rw [if_neg (by omega)] at h;rw [if_neg (by show (2:Int)≠3;omega)];exact h
   ·exact hl.has y hy e
  ·obtain ⟨y,hy,a1,a2,a3⟩:=hl.backQ w hw
   refine ⟨y,hput hy λ e=>?_,a1,a2,a3⟩;rw [k.uniq hy hx e] at a3;omega
  ·obtain ⟨y,hy,a1,a2,a3⟩:=hl.backH h hh
   by_cases e:y.id=x.id
   ·rw [k.uniq hy hx e] at a1 a2
    exact ⟨Zdc x,hnew,a1,a2,by show (2:Int)≠3;omega⟩
   ·exact ⟨y,hput hy e,a1,a2,a3⟩
theorem ZsE (k:Core b) {r:RF} (hp:b.at n=some p) (g:ZaK r) (h:Zc1 p.r r):Core (b.put n (ZcO r) b.L):=by
 obtain ⟨hp1,hp2⟩:=ZaA hp;refine k.swap (next:=b.next) ⟨Int.le_refl _,k.next.2⟩ (λ p' hp' hn'=>?_) k.ids k.each k.many (λ y _=>Iff.rfl) λ y _ _=>⟨p,hp1,hp2⟩;obtain rfl:p'=p:=k.uniqP hp' hp1 (by omega);have hl:=k.loc _ hp1;have hnum:(ZcO r p').n=p'.n:=h.num;refine ⟨by rw [hnum];exact hp2,g,k.qok p' hp1,λ y hy e=>?_,λ w hw=>?_,λ o ho=>?_⟩
 ·have h2:=hl.has y hy (by rw [e,hnum])
  unfold Zic at *;by_cases h3:y.state=3
  ·rw [if_pos h3] at h2 ⊢
   exact ⟨h2.1,by show y.cls<(r.lims.length:Int);rw [h.lims];exact h2.2⟩
  ·rw [if_neg h3] at h2 ⊢
   obtain ⟨o,ho,a1,a2,a3⟩:=h2;obtain ⟨o',ho',c1,c2,c3⟩:=h.mem ho;exact ⟨o',ho',by omega,by omega,by omega⟩
 ·obtain ⟨y,hy,a1,a2,a3⟩:=hl.backQ w hw
  exact ⟨y,hy,a1,by rw [a2,hnum],a3⟩
 ·obtain ⟨o',ho',c1,_,_⟩:=h.symm.mem ho
  obtain ⟨y,hy,a1,a2,a3⟩:=hl.backH o' ho';exact ⟨y,hy,by omega,by rw [a2,hnum],a3⟩
theorem Zoh (k:Core b) {t:Int} (h:0<=t/\t<=1099511627776):Core { b with now:=t }:=⟨h,k.next,k.good,k.qok,k.nums,k.few,k.ids,k.each,k.many,k.there,k.loc⟩
theorem ZuF:(ZfG b x).now=b.now:=rfl
theorem Zsr:∀ (l:List Bk) {b:ZR},Core b->(∀ x∈l,x∈b.L)->Zav Bk.id l->
  Core (Zd4 l b)/\(Zd4 l b).now=b.now/\(Zd4 l b).next=b.next/\((Zd4 l b).fl.map Pl.n=b.fl.map Pl.n)/\∀ y,y∈(Zd4 l b).L↔y∈b.L/\¬ (y∈l/\old b.now y=true)
 |[],b,k,_,_=>⟨k,rfl,rfl,rfl,λ y=>by simp [Zd4]⟩
 |x::l,b,k,hl,hr=>by
  have hp:=List.pairwise_cons.1 hr;have hx:=hl x (by simp);unfold Zd4;by_cases ho:old b.now x=true
  ·rw [if_pos ho]
   have hs:x.state=1:=by unfold old at ho;simp at ho;exact ho.1
   have k':=Zh3 k hx (by omega);have hin:∀ y∈l,y∈(ZfG b x).L:=λ y hy=>Zcl.2 ⟨hl y (by simp [hy]),by have:=hp.1 y hy;omega⟩;obtain ⟨i1,i2,i3,i4,i5⟩:=Zsr l k' hin hp.2;refine ⟨i1,i2,i3,i4.trans (Zfw (λ q e=>by show (Zb1 _ _).1.num=_;rw [Zer.1];exact e) _),λ y=>?_⟩;rw [i5,ZuF];have hm:y∈(ZfG b x).L↔y∈b.L/\y.id≠x.id:=Zcl;rw [hm,List.mem_cons];constructor
   ·rintro ⟨⟨h1,h2⟩,h3⟩
    refine ⟨h1,λ⟨h4,h5⟩=>?_⟩;rcases h4 with rfl|h4
    ·exact h2 rfl
    ·exact h3 ⟨h4,h5⟩
   ·rintro ⟨h1,h2⟩
    refine ⟨⟨h1,λ e=>h2 ⟨.inl (k.uniq h1 hx e),?_⟩⟩,λ⟨h4,h5⟩=>h2 ⟨.inr h4,h5⟩⟩;rw [k.uniq h1 hx e];exact ho
  ·rw [if_neg ho]
   obtain ⟨i1,i2,i3,i4,i5⟩:=Zsr l k (λ y hy=>hl y (by simp [hy])) hp.2;refine ⟨i1,i2,i3,i4,λ y=>?_⟩;rw [i5,List.mem_cons];constructor
   ·rintro ⟨h1,h2⟩
    refine ⟨h1,λ⟨h4,h5⟩=>?_⟩;rcases h4 with rfl|h4
    ·exact ho h5
    ·exact h2 ⟨h4,h5⟩
   ·rintro ⟨h1,h2⟩
    exact ⟨h1,λ⟨h4,h5⟩=>h2 ⟨.inr h4,h5⟩⟩
theorem ZkJ (k:Core b) {t:Int} (h:0<=t/\t<=1099511627776):Core (ZdF b t)/\ZcN (ZdF b t)/\(ZdF b t).now=t/\(ZdF b t).next=b.next/\(ZdF b t).fl.map Pl.n=b.fl.map Pl.n:=by
 obtain ⟨i1,i2,i3,i4,i5⟩:=Zsr b.L (Zoh k h) (λ x hx=>hx) k.ids;refine ⟨i1,λ y hy hs=>?_,i2,i3,i4⟩;obtain ⟨h1,h2⟩:=(i5 y).1 hy;show (ZdF b t).now<_;rw [show (ZdF b t).now=t from i2]
 refine Int.not_le.1 λ h3=>h2 ⟨h1,?_⟩;unfold old;simp [hs];exact h3
theorem ZiK:∀ (l:List Int) {b:ZR},Core b->ZcN b->∀ S:Int->Prop,(∀ p∈b.fl,S p.n->Zgp p)->
  Core (Zcz l b)/\ZcN (Zcz l b)/\(Zcz l b).now=b.now/\(Zcz l b).next=b.next/\(Zcz l b).fl.map Pl.n=b.fl.map Pl.n/\∀ p∈(Zcz l b).fl,(S p.n\/p.n∈l)->Zgp p
 |[],b,k,t,S,h=>⟨k,t,rfl,rfl,rfl,λ p hp e=>h p hp (by simpa using e)⟩
 |n::l,b,k,t,S,h=>by
  obtain ⟨p1,p2,p3,p4⟩:=Zcp (n:=n) k;obtain ⟨i1,i2,i3,i4,i5,i6⟩:=ZiK l p1 (p3 t) (λ k=>S k\/k=n) λ p hp e=>by
   by_cases hn:p.n=n
   ·exact p4 p hp hn
   ·rcases p2.others p hp with h2|h2
    ·exact absurd h2 hn
    ·exact h p h2 (e.resolve_right hn)
  refine ⟨i1,i2,i3.trans p2.now,i4.trans p2.next,i5.trans p2.keys,λ p hp e=>i6 p hp ?_⟩;rcases e with e|e
  ·exact .inl (.inl e)
  ·rcases List.mem_cons.1 e with e|e
   ·exact .inl (.inr e)
   ·exact .inr e
theorem Zaw.promoted (k:Core b) (t:ZcN b) (h:∀ p∈b.fl,p.n=n\/Zgp p):Zaw (ZW n b):=by
 obtain ⟨p1,p2,p3,p4⟩:=Zcp (n:=n) k;refine ⟨p1,p3 t,λ p hp=>?_⟩;by_cases e:p.n=n
 ·exact p4 p hp e
 ·rcases p2.others p hp with h2|h2
  ·exact absurd h2 e
  ·exact (h p h2).resolve_left e
theorem Zrx {r:RF}:Zgp ⟨r,[]⟩:=rfl
theorem Zo2 (g:ZaK p.r) (hq:QOk p.q) (h:Zgp p) {id cls many:Int} (ht:(ZN p.r id cls many).2=0):Zgp (takeP id cls many p):=by
 unfold Zgp ZaE at *;rw [List.find?_eq_none] at *;intro w hw hf;exact h w hw (Zsl g ht (hq.ok w hw).2.1.1 hf)
theorem Zo3 {r:RF} (h:Zgp p) (hs:Zc1 p.r r):Zgp (ZcO r p):=by
 unfold Zgp at *;show ZaE p.q (Zr r)=none;rw [hs.lefts];exact h
theorem Zra {f:Pl->Pl} {L:List Bk} {q:Pl} (h:q∈(b.put n f L).fl):(∃ p∈b.fl,p.n=n/\q=f p)\/(q∈b.fl/\q.n≠n):=by
 obtain ⟨z,hz,rfl⟩:=Z8.1 h;by_cases e:z.n=n
 ·rw [if_pos e];exact .inl ⟨z,hz,e,rfl⟩
 ·rw [if_neg e];exact .inr ⟨hz,e⟩
theorem Zwo (k:Zaw b):Zaw (ZdK b c).1:=by
 unfold ZdK;split
 ·exact k
 rename_i h1;split
 ·exact k
 rename_i h2;split
 ·exact k
 rename_i h3;have hn:b.at c.flt=none:=by cases e:b.at c.flt with|none=>rfl|some p=>rw [e] at h1;simp at h1
 have h3:ZjI c.flt c.rows c.grps c.parts:=Classical.byContradiction h3;refine ⟨ZsF k.core (Zj3 h3) rfl hn (by omega),k.time,λ p hp=>?_⟩;rcases ZdC.1 hp with rfl|hp
 ·exact Zrx
 ·exact k.nofit p hp
theorem Zwp (k:Zaw b) (hc:ZaJ c):Zaw (Zc8 b c).1:=by
 unfold Zc8;cases hp:b.at c.flt with
 |none=>exact k
 |some p=>
  dsimp only;split
  ·exact k
  rename_i h1;split
  ·exact k
  rename_i h2;split
  ·exact k
  rename_i h3;have h3:(ZN p.r b.next c.cls c.many).2=0:=Classical.byContradiction h3;obtain ⟨hp1,hp2⟩:=ZaA hp;refine ⟨Zh2 k.core hc hp h2 h3,λ y hy hs=>?_,λ q hq=>?_⟩
  ·rcases ZaN.1 hy with hy|rfl
   ·exact k.time y hy hs
   ·show b.now<c.time;omega
  ·rcases Zra (b:=b) (L:=b.L) hq with ⟨z,hz,e,rfl⟩|⟨hq,_⟩
   ·obtain rfl:z=p:=k.core.uniqP hz hp1 (by omega)
    exact Zo2 (k.core.good _ hz) (k.core.qok _ hz) (k.nofit _ hz) h3
   ·exact k.nofit q hq
theorem Zwn (k:Zaw b) (hc:ZaJ c) (hs:c.sc<18446744073709551616):Zaw (Zbs b c).1:=by
 unfold Zbs;cases hp:b.at c.flt with
 |none=>exact k
 |some p=>
  dsimp only;split
  ·exact k
  rename_i h1;split
  ·exact k
  rename_i h2;split
  ·exact k
  rename_i h3;have h3:(ZeH p.q (Zc2 b c)).2=0:=Classical.byContradiction h3;refine Zaw.promoted (Zh1 k.core hc hs hp h1 h2 h3) (λ y hy hs=>?_) λ q hq=>?_
  ·rcases ZaN.1 hy with hy|rfl
   ·exact k.time y hy hs
   ·exact absurd hs (by show (3:Int)≠1;omega)
  ·rcases Zra (b:=b) (L:=b.L) hq with ⟨z,hz,e,rfl⟩|⟨hq,_⟩
   ·exact .inl e
   ·exact .inr (k.nofit q hq)
theorem Zub (k:Zaw b) (hc:ZaJ c):Zaw (ZbE b c).1:=by
 unfold ZbE;split
 ·exact k
 obtain ⟨t1,t2,t3,t4,t5⟩:=ZkJ k.core hc.time;obtain ⟨p1,p2,p3,p4,p5,p6⟩:=ZiK (b.fl.map Pl.n) t1 t2 (λ _=>False) λ p _ h=>h.elim;refine ⟨p1,p2,λ p hp=>p6 p hp (.inr ?_)⟩;rw [<-t5,<-p5];exact List.mem_map_of_mem hp
theorem Zzy (k:Zaw b) (hx:x∈b.L):Zaw (ZgT b x c).1:=by
 unfold ZgT;cases hp:b.at x.flt with
 |none=>exact k
 |some p=>
  obtain ⟨hp1,hp2⟩:=ZaA hp;dsimp only;split
  ·split
   ·exact k
   ·rename_i h
    have h:x.state=1:=Classical.byContradiction h;refine ⟨ZlQ k.core hx h,λ y hy hs=>?_,k.nofit⟩;obtain ⟨z,hz,rfl⟩:=Z8.1 hy;by_cases e:z.id=x.id
    ·rw [if_pos e] at hs;exact absurd hs (by show (2:Int)≠1;omega)
    ·rw [if_neg e] at hs ⊢;exact k.time z hz hs
  ·split
   ·exact Zaw.promoted (ZlS k.core hx) (ZmS k.time) λ q hq=>(ZwI hq).imp_right (k.nofit q)
   ·split
    ·exact k
    ·have seat:∀ r,ZaK r->Zc1 p.r r->Zaw (b.put x.flt (ZcO r) b.L):=λ r g hs=>by
      refine ⟨ZsE k.core hp g hs,λ y hy=>k.time y hy,λ q hq=>?_⟩;rcases Zra (b:=b) (L:=b.L) hq with ⟨z,hz,e,rfl⟩|⟨hq,_⟩
      ·obtain rfl:z=p:=k.core.uniqP hz hp1 (by omega)
       exact Zo3 (k.nofit _ hz) hs
      ·exact k.nofit q hq
     split
     ·split
      ·exact k
      ·rename_i h
       exact seat _ (ZlD (k.core.good p hp1) _ _) (ZqE (k.core.good p hp1) (Classical.byContradiction h))
     ·split
      ·exact k
      ·rename_i h
       exact seat _ (ZlE (k.core.good p hp1) _) (Zte (Classical.byContradiction h))
theorem Zhy {s:ByteArray} {e:Int} (h:ZcV b s=(some x,e)):x∈b.L:=by
 unfold ZcV at h;split at h
 ·cases h
 ·split at h
  ·cases h
  ·rename_i y hy
   cases h;exact (ZdX hy).1
theorem ZnF (k:Zaw b) (hs:c.sc<18446744073709551616):Zaw (Zah b c).1:=by
 unfold Zah;split
 ·exact k
 rename_i hc;have hc:ZaJ c:=Classical.byContradiction hc;split
 ·exact Zwo k
 split
 ·exact Zwp k hc
 split
 ·exact Zwn k hc hs
 split
 ·exact Zub k hc
 split
 ·exact k
 split
 ·exact k
 ·rename_i hnm
  exact Zzy k (Zhy hnm)
end
section
open Go Go.VC Tryz
variable {b:ZR} {n:Int} {p:Pl} {w:Wt} {x:Bk} {c:Cm}
theorem Zha {b:ZR} {x:Bk}:(Zdx b x).code=0:=by
 unfold Zdx;split<;>rfl
theorem ZuC (h:(Zbs b c).2.code≠0):Zbs b c=(b,Zbn (Zbs b c).2.code):=by
 unfold Zbs at *;cases hp:b.at c.flt with
 |none=>rfl
 |some p=>
  rw [hp] at h;dsimp only at h ⊢;split
  ·rfl
  rename_i h1;rw [if_neg h1] at h;split
  ·rfl
  rename_i h2;rw [if_neg h2] at h;split
  ·rfl
  rename_i h3;rw [if_neg h3] at h;refine absurd ?_ h;dsimp only;split
  ·rfl
  ·exact Zha
theorem Ziq (k:Zaw b) (hc:ZaJ c) (hs:c.sc<18446744073709551616):
  ((Zbs b c).2.code≠0/\(Zbs b c).1=b)\/
  (∃ p y,b.at c.flt=some p/\¬ (p.r.lims.length:Int)<=c.cls/\¬ b.full/\(ZeH p.q (Zc2 b c)).2=0/\Core (Zb4 b c)/\
   y∈(ZW c.flt (Zb4 b c)).L/\y.id=b.next/\y.flt=c.flt/\y.cls=c.cls/\y.many=c.many/\y.till=0/\
   Zbs b c=(ZW c.flt (Zb4 b c),Zdx (ZW c.flt (Zb4 b c)) y)):=by
 unfold Zbs;cases hp:b.at c.flt with
 |none=>exact .inl ⟨by show (2:Int)≠0;omega,rfl⟩
 |some p=>
  dsimp only;split
  ·exact .inl ⟨by show (1:Int)≠0;omega,rfl⟩
  rename_i h1;split
  ·exact .inl ⟨by show (3:Int)≠0;omega,rfl⟩
  rename_i h2;split
  ·rename_i h3;exact .inl ⟨h3,rfl⟩
  rename_i h3;have h3:(ZeH p.q (Zc2 b c)).2=0:=Classical.byContradiction h3;have kc:=Zh1 k.core hc hs hp h1 h2 h3;obtain ⟨p1,p2,_,_⟩:=Zcp (n:=c.flt) kc;have hid:b.next∈(ZW c.flt (Zb4 b c)).L.map Bk.id:=by
   rw [p2.ids];exact List.mem_map.2 ⟨ZbL b c,ZaN.2 (.inr rfl),rfl⟩
  obtain ⟨y,hy,he⟩:=List.mem_map.1 hid;obtain ⟨z,hz,a1,a2,a3,a4,a5⟩:=p2.bk y hy;have hzx:z=ZbL b c:=by
   rcases ZaN.1 hz with hz|rfl
   ·have:=k.core.fresh hz;omega
   ·rfl
  subst hzx;refine .inr ⟨p,y,rfl,h1,h2,h3,kc,hy,he,a2,a3,a4,a5,?_⟩;rw [(ZvH p1).2 ⟨hy,he⟩]
end
section
open Go Go.VC Tryz
variable {b:ZR} {n:Int} {p:Pl} {w:Wt} {x:Bk} {c:Cm} {r:RF}
theorem Zvk {f:Nat->Int}:∀ {k:Nat},(∀ i,i<k->0<=f i)->0<=mnF f k/\mnF f k<=10000
 |0,_=>by show (0:Int)<=10000/\(10000:Int)<=10000;omega
 |k + 1,h=>by
  have h1:=Zvk (k:=k) λ i hi=>h i (by omega);have h2:=h k (by omega);unfold mnF;split<;>omega
theorem ZgU (g:ZaK r):(Zr r).length<=8/\∀ y∈Zr r,0<=y/\y<=10000:=by
 have h8:=(Zdi g).2.2;refine ⟨by rw [ZdW];exact h8,λ y hy=>?_⟩;obtain ⟨k,hk,rfl⟩:=List.mem_map.1 hy;have hk:=List.mem_range.1 hk;rw [(ZgV g hk).1];refine Zvk λ i hi=>?_;have h:=(ZS.1 g.nest).2.2 i (by omega);unfold ZdR;omega
theorem Zwx {q:Fin 60} {m:Fin 10}:(Zfu (q.1 + 1) m.1).length<=3:=by
 have:∀ q:Fin 60,∀ m:Fin 10,(Zfu (q.1 + 1) m.1).length<=3:=by decide +kernel
 exact this q m
theorem ZrV {n:Int} {g:List Int} {k:Int}:(Zuo n g k).1.size<=3:=by
 unfold Zuo;split
 ·rename_i h
  obtain ⟨a,b,q,m,_,_,b1,b2,hq,hm,e,_⟩:=ZrW h;dsimp only;rw [e,Zis];exact Zwx (q:=⟨q,hq⟩) (m:=⟨m,by omega⟩)
 ·exact Nat.zero_le _
theorem ZrT (g:ZaK r) (o:Int):(ZaT r o).length<=600/\∀ s∈ZaT r o,s.size<=3:=by
 unfold ZaT;cases h:Zcg o r.L with
 |none=>exact ⟨by simp,λ s hs=>(by cases hs)⟩
 |some hd=>
  obtain ⟨hm,_⟩:=(ZfC g.rise.ne).1 h;have h1:=(g.each hd hm).few;have h2:=g.len.2 hd hm;dsimp only;unfold ZdM;refine ⟨by rw [List.length_map];omega,λ s hs=>?_⟩;obtain ⟨k,_,rfl⟩:=List.mem_map.1 hs;exact ZrV
theorem ZrH (id:Int):(Zzc id).size=6:=by
 unfold Zzc;rw [Zis,ZnN]
theorem ZdP {n:Int} (g:ZaK p.r) (h:Ztw n x):Ztl (Zdw p x):=by
 obtain ⟨l1,l2⟩:=ZgU g;obtain ⟨b1,b2⟩:=ZrT g x.id;have h1:=h.flt;have h2:=h.cls;have h3:=h.many;have h4:=h.state;have h5:=h.till;refine ⟨by show (0:Int)<=0/\(0:Int)<=_;omega,by show (Zzc x.id).size<=16;rw [ZrH];omega,?_,?_,?_,?_,?_,l1,λ y hy=>?_,b1,λ s hs=>?_⟩
 ·show 0<=x.state/\x.state<=_;omega
 ·show 0<=x.flt/\x.flt<=_;omega
 ·show 0<=x.cls/\x.cls<=_;omega
 ·show 0<=x.many/\x.many<=_;omega
 ·show 0<=x.till/\x.till<=_;omega
 ·have:=l2 y hy;omega
 ·have:=b2 s hs;omega
theorem Zfh {e f m t:Int} {s:ByteArray} {l:List Int} (he:0<=e/\e<=1099511627776) (hf:0<=f/\f<=1099511627776) (hm:0<=m/\m<=1099511627776) (ht:0<=t/\t<=1099511627776) (hs:s.size<=16) (hl:l.length<=8/\∀ y∈l,0<=y/\y<=10000):Ztl ⟨e,s,0,f,0,m,t,l,[]⟩:=
 ⟨he,hs,by show (0:Int)<=0/\(0:Int)<=_;omega,hf,by show (0:Int)<=0/\(0:Int)<=_;omega,hm,ht,hl.1,λ y hy=>by have:=hl.2 y hy;omega,by show ([]:List ByteArray).length<=_;simp,λ y hy=>(by cases hy)⟩
theorem Zab {e:Int} (he:0<=e/\e<=1099511627776):Ztl (Zbn e):=
 Zfh he (by omega) (by omega) (by omega) (by show emS.size<=16;decide) ⟨by simp,λ y hy=>(by cases hy)⟩
theorem ZiA (k:Core b) (hx:x∈b.L):Ztl (Zdx b x):=by
 obtain ⟨p,hp⟩:=k.at_of hx;unfold Zdx;rw [hp];exact ZdP (k.good p (ZaA hp).1) (k.each x hx)
theorem Zqn {o c m:Int}:0<=(ZN r o c m).2/\(ZN r o c m).2<=7:=by
 unfold ZN;split
 ·(dsimp only;omega)
 ·split
  ·(dsimp only;omega)
  ·split
   ·(dsimp only;omega)
   ·dsimp only
    unfold Za7;split
    ·(dsimp only;omega)
    ·split<;>(dsimp only;omega)
theorem Zq8 {q:List Wt}:0<=(ZeH q w).2/\(ZeH q w).2<=7:=by
 unfold ZeH;split
 ·(dsimp only;omega)
 ·split
  ·(dsimp only;omega)
  ·split<;>(dsimp only;omega)
theorem ZqF {o:Int} {lab:ByteArray}:0<=(Z6 r o lab).2/\(Z6 r o lab).2<=7:=by
 by_cases h:(Z6 r o lab).2=0
 ·omega
 ·have:=(ZqD h).2;omega
theorem Ztf (g:ZaK r) {o:Int}:0<=(Zam r o).2.2/\(Zam r o).2.2<=7:=by
 obtain ⟨f,_,t⟩:=ZhZ g;have:=(Zji t g o).2.2.2;omega
theorem Zug {l:List Int}:0<=(Zb9 l).2/\(Zb9 l).2<=7:=by
 unfold Zb9;split
 ·(dsimp only;omega)
 ·split<;>(dsimp only;omega)
theorem ZiP {s:ByteArray}:0<=(ZcV b s).2/\(ZcV b s).2<=7:=by
 unfold ZcV;split
 ·exact Zug
 ·split<;>(dsimp only;omega)
theorem Zkf:emS.size<=16:=by decide
theorem ZqL (k:Zaw b):Ztl (ZdJ b c):=by
 unfold ZdJ;split
 ·exact Zab (by omega)
 rename_i h1;split
 ·split
  ·rename_i e h
   have:=ZiP (b:=b) (s:=c.pnr);rw [h] at this;exact Zab (by dsimp only at this;omega)
  ·rename_i h
   exact ZiA k.core (Zhy h)
 ·split
  ·exact Zab (by omega)
  ·rename_i p hp
   have hp:=ZaA hp;have hc:ZaJ c:=Classical.byContradiction λ h=>h1 (.inl h);have h2:=hc.flt;have h3:=(k.core.qok p hp.1).len;unfold ZgK at h2;exact Zfh (by omega) (by omega) (by omega) (by omega) Zkf (ZgU (k.core.good p hp.1))
theorem ZiB (k:Zaw b) (hs:c.sc<18446744073709551616):Ztl (Zah b c).2:=by
 have k':=ZnF k hs;unfold Zah at *;split
 ·exact Zab (by omega)
 rename_i hc;have hc:ZaJ c:=Classical.byContradiction hc;have hcf:=hc.flt;unfold ZgK at hcf;split
 ·unfold ZdK
  split
  ·exact Zab (by omega)
  ·split
   ·exact Zab (by omega)
   ·split
    ·exact Zab (by omega)
    ·rename_i h
     have h:ZjI c.flt c.rows c.grps c.parts:=Classical.byContradiction h;exact Zfh (by omega) (by omega) (by omega) (by omega) Zkf (ZgU (Zj3 h))
 split
 ·unfold Zc8
  cases hp:b.at c.flt with
  |none=>exact Zab (by omega)
  |some p=>
   obtain ⟨hp1,hp2⟩:=ZaA hp;have:=Zqn (r:=p.r) (o:=b.next) (c:=c.cls) (m:=c.many);dsimp only;split
   ·exact Zab (by omega)
   rename_i h1;split
   ·exact Zab (by omega)
   rename_i h2;split
   ·exact Zab (by omega)
   ·rename_i h3
    have k2:=Zh2 k.core hc hp h2 (Classical.byContradiction h3);exact ZdP (n:=b.next + 1) (ZfB (k.core.good p hp1) _ _ _) (k2.each (Zat b c) (ZaN.2 (.inr rfl)))
 split
 ·rcases Ziq k hc hs with ⟨h,h'⟩|⟨_,y,_,_,_,_,kc,hy,_,_,_,_,_,e⟩
  ·rw [ZuC h]
   refine Zab ?_;unfold Zbs at h ⊢;cases hp:b.at c.flt with
   |none=>show (0:Int)<=2/\(2:Int)<=_;omega
   |some p=>
    have:=Zq8 (w:=Zc2 b c) (q:=p.q);rw [hp] at h;dsimp only at h ⊢;by_cases h1:(p.r.lims.length:Int)<=c.cls
    ·rw [if_pos h1];show (0:Int)<=1/\(1:Int)<=_;omega
    rw [if_neg h1] at h ⊢;by_cases h2:b.full
    ·rw [if_pos h2];show (0:Int)<=3/\(3:Int)<=_;omega
    rw [if_neg h2] at h ⊢;by_cases h3:(ZeH p.q (Zc2 b c)).2≠0
    ·rw [if_pos h3];show 0<=(ZeH p.q (Zc2 b c)).2/\(ZeH p.q (Zc2 b c)).2<=_;omega
    ·rw [if_neg h3] at h
     refine absurd ?_ h;dsimp only;split
     ·rfl
     ·exact Zha
  ·rw [e]
   exact ZiA (Zcp (n:=c.flt) kc).1 hy
 split
 ·unfold ZbE
  split
  ·exact Zab (by omega)
  ·exact Zfh (by omega) (by omega) (by omega) hc.time Zkf ⟨by simp,λ y hy=>(by cases hy)⟩
 split
 ·exact ZqL k
 split
 ·rename_i e h
  have:=ZiP (b:=b) (s:=c.pnr);rw [h] at this;exact Zab (by dsimp only at this;omega)
 ·rename_i x e h
  have hx:=Zhy h;obtain ⟨p,hp⟩:=k.core.at_of hx;obtain ⟨hp1,hp2⟩:=ZaA hp;have g:=k.core.good p hp1;have hb:=k.core.each x hx;have s1:=ZqF (r:=p.r) (o:=x.id) (lab:=c.lab);have s2:=Ztf g (o:=x.id);unfold ZgT;rw [hp];dsimp only;split
  ·split
   ·exact Zab (by omega)
   ·rename_i h3
    have h3:x.state=1:=Classical.byContradiction h3;exact ZdP (n:=b.next) g ((ZlQ k.core hx h3).each (Zdc x) (Z8.2 ⟨x,hx,by rw [if_pos rfl]⟩))
  ·split
   ·exact Zfh (by omega) (by omega) (by omega) (by omega) hc.pnr ⟨by simp,λ y hy=>(by cases hy)⟩
   ·split
    ·exact Zab (by omega)
    ·split
     ·split
      ·exact Zab (by omega)
      ·exact ZdP (p:=ZcO _ p) (ZlD g _ _) hb
     ·split
      ·exact Zab (by omega)
      ·exact ZdP (p:=ZcO _ p) (ZlE g _) hb
end
section
open Go Go.VC Tryz
open Classical
noncomputable section
variable {b:ZR} {n:Int} {p:Pl} {w:Wt} {x:Bk} {r:RF}
def ZuK (bs:List Int):Option RF:=if Z5 (ZiG bs).rd=true/\Zzj (ZiG bs).rf then some (ZiG bs).rf else none
def Zod (bs:List Int):Option (List Wt):=if ZAP bs then some (Zmw bs).1 else none
def Zpx (f q:List Int):Option Pl:=match ZuK f,Zod q with
 |some r,some l=>some ⟨r,l⟩
 |_,_=>none
def ZiM (r:Rd):Option Pl × Rd:=(Zpx (ZL 65536 r).1 (ZL 65536 (ZL 65536 r).2).1,(ZL 65536 (ZL 65536 r).2).2)
def Zb5:Nat->Rd->Option (List Pl × Rd)
 |0,r=>some ([],r)
 |n + 1,r=>match (ZiM r).1 with
  |none=>none
  |some p=>(Zb5 n (ZiM r).2).map λ x=>(p::x.1,x.2)
def Zl0 (r:Rd):Bk × Rd:=
 let a:=Zc 28629151 r
 let f:=Zc 9999 a.2
 let c:=Zc 9999 f.2
 let m:=Zc 9999 c.2
 let s:=Zc 3 m.2
 let t:=Zc 1099511627776 s.2
 (⟨a.1,f.1,c.1,m.1,s.1,t.1⟩,t.2)
def things (l:List Pl):Nat:=(l.map λ p=>p.r.L.length + p.q.length).sum
structure Zy8 (b:ZR) (x:Bk):Prop where
 id:1<=x.id/\x.id<b.next
 state:1<=x.state
 held:x.state=1->b.now<x.till
 free:x.state≠1->x.till=0
 has:∃ p,b.at x.flt=some p/\Zic p x
structure Zy7 (b:ZR):Prop where
 next:1<=b.next
 nums:Zav Pl.n b.fl
 ids:Zav Bk.id b.L
 each:∀ x∈b.L,Zy8 b x
 things:things b.fl=b.L.length
def ZAV (bs:List Int):Option (ZR × Rd):=
 let a:=Zc 1099511627776 ⟨bs,false⟩
 let n:=Zc 28629151 a.2
 let k:=Zc 8 n.2
 match Zb5 k.1.toNat k.2 with
 |none=>none
 |some y=>
  let m:=Zc 300 y.2
  let z:=ZG Zl0 m.1.toNat m.2
  some (⟨a.1,n.1,y.1,z.1⟩,z.2)
def ZcE (bs:List Int):Option ZR:=match ZAV bs with
 |none=>none
 |some y=>if Z5 y.2=true/\Zy7 y.1 then some y.1 else none
theorem Zqi (g:ZaK r):(ZV r.L).length<=600:=by
 have h1:=ZtH g;have h4:=(Zc7 r.rows r.grps).2;have h2:=ZjG (m:=(List.range 600).map λ (k:Nat)=>(k:Int)) h1 λ x hx=>by
  obtain ⟨h,hh,hx⟩:=ZcD.1 hx;have:=(g.each h hh).seats x hx;exact List.mem_map.2 ⟨x.toNat,List.mem_range.2 (by omega),by omega⟩
 rw [List.length_map,List.length_range] at h2;exact h2
theorem Zgz:∀ {L:List ZJ},(∀ h∈L,ZgG h)->(ZaM L).length<=36 * L.length + 9 * (ZV L).length
 |[],_=>by simp [ZaM,ZV]
 |h::L,hin=>by
  have ih:=Zgz λ x hx=>hin x (List.mem_cons_of_mem h hx);have hh:=hin h List.mem_cons_self;have s3:ZeF [h.owner,h.cls,h.many]:=by
   intro y hy;have:=hh.o;have:=hh.c;have:=hh.m;simp at hy;omega
  have h1:=ZX (Zcd s3);have h2:=Zca (l:=h.seats) (λ y hy=>by have:=hh.s y hy;omega) (by have:=hh.n;omega);have e1:ZaM (h::L)=ZeL h++ZaM L:=by simp [ZaM]
  have e2:ZV (h::L)=h.seats++ZV L:=by simp [ZV]
  have e3:(ZeL h).length=(Zm [h.owner,h.cls,h.many]).length + (Zc6 h.seats).length:=by unfold ZeL;rw [List.length_append]
  rw [e1,e2,List.length_append,List.length_append,List.length_cons,e3];simp only [List.length_cons,List.length_nil] at h1;omega
theorem Zek (g:ZaK r):(ZbG r).length<=28000:=by
 have s:=Zeq g;obtain ⟨l1,l2,l3⟩:=Zan.1 g.lay;obtain ⟨m1,m2,m3⟩:=Zdi g;have hlen:=g.len.1;have ht:=Zqi g;have u2:ZeF [r.num,r.rows]:=by intro y hy;have:=s.num;have:=s.rows;simp at hy;omega
 have u1:ZeF [(r.L.length:Int)]:=by intro y hy;simp at hy;omega
 have h1:=ZX (Zcd u2);have h2:=Zca s.grps (by omega);have h3:=Zca s.lims (by omega);have h4:=ZX (Zcd u1);have h5:=Zgz (ZmR g);simp only [List.length_cons,List.length_nil] at h1 h4;unfold ZbG Zvs;simp only [List.length_append];omega
theorem Zuy {x:Nat} (h:x<18446744073709551616):(Zzd x).length<=9:=Zbx (ZnT h)
theorem Zw {x:Int} (h:0<=x/\x<18446744073709551616):(Zm [x]).length<=9:=by
 have:=ZX (l:=[x]) λ y hy=>by rw [List.mem_singleton.1 hy];exact h
 simpa using this
theorem Zp4 (h:w.Ok) (hf:w.sc<18446744073709551616):(wtB w).length<=45:=by
 obtain ⟨h1,h2,h3,h4⟩:=h;have a1:=Zw (x:=w.id) (by omega);have a2:=Zw (x:=w.cls) (by omega);have a3:=Zw (x:=w.many) (by omega);have a4:=Zw (x:=w.time) (by omega);have a5:=Zuy hf;unfold wtB;simp only [List.length_append];omega
theorem ZbC {α:Type} {code:α->List Int} {m:Nat}:∀ {l:List α},(∀ x∈l,(code x).length<=m)->((l.map code).flatten).length<=m * l.length
 |[],_=>by simp
 |a::l,h=>by
  have h1:=h a (by simp);have h2:=ZbC (l:=l) λ x hx=>h x (by simp [hx]);rw [List.map_cons,List.flatten_cons,List.length_append,List.length_cons,Nat.mul_succ];omega
theorem Zny {q:List Wt} (h:QOk q):(qB q).length<=9009:=by
 have h1:=Zw (x:=(q.length:Int)) (by have:=h.len;omega);have h2:=ZbC (l:=q) (code:=wtB) (m:=45) λ w hw=>Zp4 (h.ok w hw) (h.fl w hw);have:=h.len;unfold qB;rw [List.length_append];omega
theorem ZaO {d:List Int} (h:d.length<1000000):(ZaX d).length<=d.length + 9:=by
 have:=Zbx (n:=d.length) (by omega);unfold ZaX;rw [List.length_append];omega
theorem Zri (g:ZaK p.r) (h:QOk p.q):(plB p).length<=38000:=by
 have h1:=Zek g;have h2:=Zny h;have h3:=ZaO (d:=ZbG p.r) (by omega);have h4:=ZaO (d:=qB p.q) (by omega);unfold plB;rw [List.length_append];omega
theorem Zs3 {n:Int} (hn:n<=28629151) (h:Ztw n x):(bkB x).length<=54:=by
 have:=h.id;have:=h.flt;have:=h.cls;have:=h.many;have:=h.state;have:=h.till;have a0:=Zw (x:=x.id) (by omega);have a1:=Zw (x:=x.flt) (by omega);have a2:=Zw (x:=x.cls) (by omega);have a3:=Zw (x:=x.many) (by omega);have a4:=Zw (x:=x.state) (by omega);have a5:=Zw (x:=x.till) (by omega);unfold bkB;simp only [List.length_append];omega
theorem Zfg (k:Core b):(Zc3 b).length<=400000:=by
 have h1:=k.now;have h2:=k.next;have h3:=k.few;have h4:=k.many;have a1:=Zw (x:=b.now) (by omega);have a2:=Zw (x:=b.next) (by omega);have a3:=Zw (x:=(b.fl.length:Int)) (by omega);have a4:=Zw (x:=(b.L.length:Int)) (by omega);have a5:=ZbC (l:=b.fl) (code:=plB) (m:=38000) λ p hp=>Zri (k.good p hp) (k.qok p hp);have a6:=ZbC (l:=b.L) (code:=bkB) (m:=54) λ x hx=>Zs3 h2.2 (k.each x hx);unfold Zc3;simp only [List.length_append];omega
theorem ZuJ (g:ZaK r):ZuK (ZbG r)=some r:=by
 have hw:=Zk6 (ZbG r);have e:=Znv g;have hd:Z5 (ZfZ (ZbG r)).rd=true:=by rw [e];rfl
 have hr:ZiG (ZbG r)=ZfZ (ZbG r):=hw.2 hd;unfold ZuK;rw [hr,e];have h2:Z5 (Raw.mk r.num r.rows r.grps r.lims r.L ⟨[],false⟩).rd=true:=rfl;have h3:(Raw.mk r.num r.rows r.grps r.lims r.L ⟨[],false⟩).rf=r:=rfl;rw [h3,if_pos ⟨h2,ZnZ g⟩]
theorem ZuL {q:List Wt} (h:QOk q):Zod (qB q)=some q:=by
 obtain ⟨h1,h2⟩:=Zq7 h;unfold Zod;rw [if_pos h1,h2]
theorem Zrh (g:ZaK p.r) (h:QOk p.q) (more:List Int):ZiM ⟨plB p++more,false⟩=(some p,⟨more,false⟩):=by
 have h1:=Zek g;have h2:=Zny h;unfold ZiM plB;rw [List.append_assoc,Zcw (by omega) (by omega)];dsimp only;rw [Zcw (by omega) (by omega)];dsimp only;unfold Zpx;rw [ZuJ g,ZuL h]
theorem ZiL {rest:List Int}:∀ {l:List Pl},(∀ p∈l,ZaK p.r/\QOk p.q)->Zb5 l.length ⟨(l.map plB).flatten++rest,false⟩=some (l,⟨rest,false⟩)
 |[],_=>rfl
 |p::l,h=>by
  have hp:=h p (by simp);rw [List.map_cons,List.flatten_cons,List.append_assoc,List.length_cons];unfold Zb5;rw [Zrh hp.1 hp.2];dsimp only;rw [ZiL λ q hq=>h q (by simp [hq])];rfl
theorem Zs2 {n:Int} (hn:n<=28629151) (h:Ztw n x) (more:List Int):Zl0 ⟨bkB x++more,false⟩=(x,⟨more,false⟩):=by
 have:=h.id;have:=h.flt;have:=h.cls;have:=h.many;have:=h.state;have:=h.till;unfold Zl0 bkB;simp only [List.append_assoc];rw [Zt (by omega) (by omega) (by omega)];dsimp only;rw [Zt (by omega) (by omega) (by omega)];dsimp only;rw [Zt (by omega) (by omega) (by omega)];dsimp only;rw [Zt (by omega) (by omega) (by omega)];dsimp only;rw [Zt (by omega) (by omega) (by omega)];dsimp only;rw [Zt (by omega) (by omega) (by omega)]
theorem ZqZ (k:Core b):ZAV (Zc3 b)=some (b,⟨[],false⟩):=by
 have h1:=k.now;have h2:=k.next;have h3:=k.few;have h4:=k.many;have e0:ZG Zl0 b.L.length ⟨(b.L.map bkB).flatten,false⟩=(b.L,⟨[],false⟩):=by
  have e:=ZdB (one:=Zl0) (code:=bkB) (l:=b.L) (rest:=[]) λ x hx more=>Zs2 h2.2 (k.each x hx) more;rw [List.append_nil] at e;exact e
 unfold ZAV Zc3;rw [Zt (by omega) (by omega) (by omega)];dsimp only;rw [Zt (by omega) (by omega) (by omega)];dsimp only;rw [Zt (by omega) (by omega) (by omega)];dsimp only;rw [Int.toNat_natCast,ZiL λ p hp=>⟨k.good p hp,k.qok p hp⟩];dsimp only;rw [Zt (by omega) (by omega) (by omega)];dsimp only;rw [Int.toNat_natCast,e0]
def Zfb (p:Pl):List Int:=p.r.L.map ZJ.owner++p.q.map Wt.id
theorem Zov (l:List Pl):(l.flatMap Zfb).length=things l:=by
 induction l with
 |nil=>rfl
 |cons p l ih=>
  rw [List.flatMap_cons,List.length_append,ih];unfold Zfb things;rw [List.length_append,List.length_map,List.length_map,List.map_cons,List.sum_cons]
theorem Zjj (k:Core b) (hp:p∈b.fl) {i:Int} (hi:i∈Zfb p):∃ x∈b.L,x.id=i/\x.flt=p.n:=by
 rcases List.mem_append.1 hi with h|h
 ·obtain ⟨o,ho,rfl⟩:=List.mem_map.1 h
  obtain ⟨x,hx,e1,e2,_⟩:=(k.loc p hp).backH o ho;exact ⟨x,hx,e1,e2⟩
 ·obtain ⟨v,hv,rfl⟩:=List.mem_map.1 h
  obtain ⟨x,hx,e1,e2,_⟩:=(k.loc p hp).backQ v hv;exact ⟨x,hx,e1,e2⟩
theorem Zqg (k:Core b):(b.fl.flatMap Zfb).Nodup:=by
 have key:∀ l:List Pl,(∀ p∈l,p∈b.fl)->Zav Pl.n l->(l.flatMap Zfb).Nodup:=by
  intro l
  induction l with
  |nil=>intro _ _;exact List.nodup_nil
  |cons p l ih=>
   intro hl hr;have hc:=List.pairwise_cons.1 hr;have hp:=hl p (by simp);rw [List.flatMap_cons];refine List.nodup_append.2 ⟨?_,ih (λ q hq=>hl q (by simp [hq])) hc.2,λ a ha c hc2 e=>?_⟩
   ·refine List.nodup_append.2 ⟨?_,?_,λ a ha c hc2 e=>?_⟩
    ·exact List.pairwise_map.2 ((k.good p hp).rise.ne)
    ·exact List.pairwise_map.2 ((k.qok p hp).ids)
    ·obtain ⟨o,ho,rfl⟩:=List.mem_map.1 ha
     obtain ⟨v,hv,rfl⟩:=List.mem_map.1 hc2;have:=Zcb.1 (k.noHold hp hv) o ho;exact this e
   ·obtain ⟨q,hq,hcq⟩:=List.mem_flatMap.1 hc2
    obtain ⟨x,hx,e1,e2⟩:=Zjj k hp ha;obtain ⟨y,hy,e3,e4⟩:=Zjj k (hl q (by simp [hq])) hcq;have hxy:=k.uniq hx hy (by omega);have:=hc.1 q hq;rw [hxy] at e2;omega
 exact key b.fl (λ _ h=>h) k.nums
theorem Zqh (k:Core b):things b.fl=b.L.length:=by
 have e0:b.L.length=(b.L.map Bk.id).length:=(List.length_map Bk.id).symm;rw [<-Zov,e0];refine Zry (Zqg k) (List.pairwise_map.2 k.ids.ne) λ i=>?_;constructor
 ·intro h
  obtain ⟨p,hp,hi⟩:=List.mem_flatMap.1 h;obtain ⟨x,hx,e,_⟩:=Zjj k hp hi;exact List.mem_map.2 ⟨x,hx,e⟩
 ·intro h
  obtain ⟨x,hx,rfl⟩:=List.mem_map.1 h;obtain ⟨p,hp,e⟩:=k.there x hx;have hh:=(k.loc p hp).has x hx e.symm;refine List.mem_flatMap.2 ⟨p,hp,List.mem_append.2 ?_⟩;unfold Zic at hh;split at hh
  ·obtain ⟨⟨w,hw,e1,_⟩,_⟩:=hh
   exact .inr (List.mem_map.2 ⟨w,hw,e1⟩)
  ·obtain ⟨o,ho,e1,_⟩:=hh
   exact .inl (List.mem_map.2 ⟨o,ho,e1⟩)
theorem ZzG (k:Zaw b):Zy7 b:=by
 refine ⟨k.core.next.1,k.core.nums,k.core.ids,λ x hx=>?_,Zqh k.core⟩;have hb:=k.core.each x hx;obtain ⟨p,hp⟩:=k.core.at_of hx;obtain ⟨hp1,hp2⟩:=ZaA hp;exact ⟨hb.id,hb.state.1,k.time x hx,hb.free,p,hp,(k.core.loc p hp1).has x hx hp2.symm⟩
theorem ZrJ (k:Zaw b):ZcE (Zc3 b)=some b:=by
 unfold ZcE;rw [ZqZ k.core];dsimp only;rw [if_pos ⟨rfl,ZzG k⟩]
end
end
section
open Go Go.VC Tryz
set_option maxRecDepth 10000
def B135 (d:Nat) (K:Value->World->Prop) (w:World):Prop:=
 Ext prog 210 #[.float .f64 d] w λ c b=>
 ∃ a,(c=.returned (.int .u64 a))/\
 Br (ZfM BinOp.and IntKind.u64 a 9223372036854775808 !=0)
 (K (.int .u64 (IntKind.u64.wrap (↑(BitVec.ofInt IntKind.u64.bits (if IntKind.u64.signed=true then -1 else IntKind.u64.max) ^^^ BitVec.ofInt IntKind.u64.bits a).toNat:Int))) b)
 (K (.int .u64 (ZfM BinOp.or IntKind.u64 a 9223372036854775808)) b)
theorem ZyI (a:Nat) (K:Value->World->Prop) (w:World) (h:B135 a K w):Zo prog 135 #[.float .f64 a] w K:=cq (sk:=.leaf) h func135
def B229 (a:Int) (K:Value->World->Prop) (w:World):Prop:=
 Br (ZfM BinOp.and IntKind.u64 a 9223372036854775808==0)
 (Ext prog 222 #[.int .u64 (IntKind.u64.wrap (↑(BitVec.ofInt IntKind.u64.bits (if IntKind.u64.signed=true then -1 else IntKind.u64.max) ^^^ BitVec.ofInt IntKind.u64.bits a).toNat:Int))] w λ d f=>
 ∃ c,(d=.returned (.float .f64 c))/\
 K (.float .f64 c) f)
 (Ext prog 222 #[.int .u64 (ZfM BinOp.andNot IntKind.u64 a 9223372036854775808)] w λ e g=>
 ∃ b,(e=.returned (.float .f64 b))/\
 K (.float .f64 b) g)
theorem ZxT (a:Int) (K:Value->World->Prop) (w:World) (h:B229 a K w):Zo prog 229 #[.int .u64 a] w K:=cq (sk:=.leaf) h func229
def B243 (b:Nat) (c:Nat) (K:Value->World->Prop) (w:World):Prop:=
 Calls prog 277 #[.float .f64 b,.float .f64 c] w λ d e=>
 ∃ a,(d=.returned (.int .i64 a))/\
 K (.int .i64 a) e
theorem ZxF (a:Nat) (b:Nat) (K:Value->World->Prop) (w:World) (h:B243 a b K w):Zo prog 243 #[.float .f64 a,.float .f64 b] w K:=cq (sk:=.leaf) h func243
def B277 (c:Nat) (d:Nat) (K:Value->World->Prop) (w:World):Prop:=
 Calls prog 293 #[.float .f64 c] w λ j l=>
 ∃ i,(j=.returned (.bool i))/\
 Calls prog 293 #[.float .f64 d] l λ k b=>
 ∃ e,(k=.returned (.bool e))/\
 Br i
 (Br e
 (K (.int .i64 0) b)
 (K (.int .i64 ((-1))) b))
 (Br e
 (K (.int .i64 1) b)
 (∃ f:Bool,(∀ a,(λ a=>a=b) a->((do eqGuard BinOp.lss 35 (Operand.tmp 14) (Operand.tmp 15) (.float .f64 c) (.float .f64 d);binOp BinOp.lss 35 (.float .f64 c) (.float .f64 d):Sem Value)).run prog a=.ok (.bool f) a)/\
 Br f
 (K (.int .i64 ((-1))) b)
 (∃ g:Bool,(∀ a,(λ a=>a=b) a->((do eqGuard BinOp.gtr 35 (Operand.tmp 17) (Operand.tmp 18) (.float .f64 c) (.float .f64 d);binOp BinOp.gtr 35 (.float .f64 c) (.float .f64 d):Sem Value)).run prog a=.ok (.bool g) a)/\
 Br g
 (K (.int .i64 1) b)
 (K (.int .i64 0) b))))
theorem Zxp (a:Nat) (b:Nat) (K:Value->World->Prop) (w:World) (h:B277 a b K w):Zo prog 277 #[.float .f64 a,.float .f64 b] w K:=cq (sk:=.leaf) h func277
def B293 (b:Nat) (K:Value->World->Prop) (w:World):Prop:=
 ∃ c:Bool,(∀ a,(λ a=>a=w) a->((do eqGuard BinOp.neq 35 (Operand.tmp 3) (Operand.tmp 4) (.float .f64 b) (.float .f64 b);binOp BinOp.neq 35 (.float .f64 b) (.float .f64 b):Sem Value)).run prog a=.ok (.bool c) a)/\
 K (.bool c) w
theorem Zxl (a:Nat) (K:Value->World->Prop) (w:World) (h:B293 a K w):Zo prog 293 #[.float .f64 a] w K:=cq (sk:=.leaf) h func293
def B244 (c:Int) (d:Int) (K:Value->World->Prop) (w:World):Prop:=
 Calls prog 278 #[.int .i64 c] w λ f i=>
 ∃ e,(f=.returned (.bool e))/\
 Calls prog 278 #[.int .i64 d] i λ g a=>
 ∃ b,(g=.returned (.bool b))/\
 Br e
 (Br b
 (K (.int .i64 0) a)
 (K (.int .i64 ((-1))) a))
 (Br b
 (K (.int .i64 1) a)
 (Br (decide (c<d))
 (K (.int .i64 ((-1))) a)
 (Br (decide (c>d))
 (K (.int .i64 1) a)
 (K (.int .i64 0) a))))
theorem ZxE (a:Int) (b:Int) (K:Value->World->Prop) (w:World) (h:B244 a b K w):Zo prog 244 #[.int .i64 a,.int .i64 b] w K:=cq (sk:=.leaf) h func244
def B242 (f:Sl) (K:Value->World->Prop) (w:World):Prop:=
 ∃ (d:Int->World->Prop) (g:Int->World->Nat),(d 0 w)/\∀ (k:Env) (b:Int) (c:World),d b c->
 Br (decide (b<(↑f.len:Int)))
 (Rng b f.len (Zd f.a λ i=>
 ∃ e,(Aw c (Addr.add i b.toNat) [.int .i64 e])/\
 Br (e !=0)
 (K (.int .i64 e) c)
 ((d (IntKind.i64.wrap (b + 1)) c)/\g (IntKind.i64.wrap (b + 1)) c<g b c)))
 (K (.int .i64 0) c)
def ZBd:Sk:=(.seq .leaf (.seq .leaf (.seq (.seq .leaf (.block (.loop [8] [(.int .i64)] [2,5,8,9,10,11,12,13,14,15,16] .leaf))) .leaf)))
theorem ZxG (b:Sl) (K:Value->World->Prop) (w:World) (h:B242 b K w):Zo prog 242 #[b.v] w K:=cq (sk:=ZBd) h func242
def B100  (K:Value->World->Prop) (w:World):Prop:=
 New (.cells #[.slice none 0 0] 190 (0,0)) (λ a b=>
 K (.pointer ((some ⟨a,0,none⟩))) b) w
theorem ZyY  (K:Value->World->Prop) (w:World) (h:B100  K w):Zo prog 100 #[] w K:=cq (sk:=.leaf) h func100
def B172 (z:Int) (A:Int) (C:Int) (D:Int) (E:Nat) (I:Int) (J:Int) (L:Int) (M:Int) (N:Nat) (K:Value->World->Prop) (w:World):Prop:=
 New (.cells #[.int .i64 z,.int .i64 A,.int .i64 C,.int .i64 D,.float .f64 E] 192 (0,0)) (λ b F=>
 New (.cells #[.int .i64 I,.int .i64 J,.int .i64 L,.int .i64 M,.float .f64 N] 192 (0,0)) (λ c G=>
 Drw G λ a H=>
 ∃ n,(At a ⟨c,0 + 4,none⟩ [.float .f64 n])/\
 ∃ d,(At a ⟨b,0 + 4,none⟩ [.float .f64 d])/\
 ∃ f,(At a ⟨b,0 + 3,none⟩ [.int .i64 f])/\
 ∃ g,(At a ⟨c,0 + 3,none⟩ [.int .i64 g])/\
 ∃ j,(At a ⟨b,0,none⟩ [.int .i64 j])/\
 ∃ k,(At a ⟨c,0,none⟩ [.int .i64 k])/\
 Calls prog 243 #[.float .f64 n,.float .f64 d] H λ u o=>
 ∃ e,(u=.returned (.int .i64 e))/\
 (a o)/\
 Calls prog 244 #[.int .i64 f,.int .i64 g] o λ v p=>
 ∃ i,(v=.returned (.int .i64 i))/\
 (a p)/\
 Calls prog 244 #[.int .i64 j,.int .i64 k] p λ x q=>
 ∃ l,(x=.returned (.int .i64 l))/\
 (a q)/\
 New (.cells #[.int .i64 e,.int .i64 i,.int .i64 l] 3 (0,0)) (λ t r=>
 (a r)/\
 Calls prog 242 #[.slice ((some ⟨t,0,none⟩)) 3 3] r λ y s=>
 ∃ m,(y=.returned (.int .i64 m))/\
 (a s)/\
 K (.int .i64 m) s) q) F) w
theorem Zyj (a:Int) (b:Int) (c:Int) (d:Int) (e:Nat) (f:Int) (g:Int) (i:Int) (j:Int) (k:Nat) (K:Value->World->Prop) (w:World) (h:B172 a b c d e f g i j k K w):Zo prog 172 #[.agg #[.int .i64 a,.int .i64 b,.int .i64 c,.int .i64 d,.float .f64 e],.agg #[.int .i64 f,.int .i64 g,.int .i64 i,.int .i64 j,.float .f64 k]] w K:=cq (sk:=.leaf) h func172
def B169 (t:Int) (u:Int) (v:Int) (x:Int) (y:Nat) (K:Value->World->Prop) (w:World):Prop:=
 New (.cells #[.int .i64 t,.int .i64 u,.int .i64 v,.int .i64 x,.float .f64 y] 192 (0,0)) (λ b o=>
 ∃ m,(Aw o ⟨b,0,none⟩ [.int .i64 m])/\
 Calls prog 239 #[.int .i64 m,.int .i64 1,.int .i64 28629151] o λ p c=>
 ∃ n,(p=.returned (.bool n))/\
 Br n
 (∃ f,(Aw c ⟨b,0 + 1,none⟩ [.int .i64 f])/\
 Calls prog 239 #[.int .i64 f,.int .i64 0,.int .i64 7] c λ q d=>
 ∃ g,(q=.returned (.bool g))/\
 Br g
 (∃ i,(Aw d ⟨b,0 + 2,none⟩ [.int .i64 i])/\
 Calls prog 239 #[.int .i64 i,.int .i64 1,.int .i64 600] d λ r e=>
 ∃ j,(r=.returned (.bool j))/\
 Br j
 (∃ k,(Aw e ⟨b,0 + 3,none⟩ [.int .i64 k])/\
 Calls prog 239 #[.int .i64 k,.int .i64 0,.int .i64 1099511627776] e λ s z=>
 ∃ l,(s=.returned (.bool l))/\
 K (.bool l) z)
 (K (.bool false) e))
 (K (.bool false) d))
 (K (.bool false) c)) w
theorem Zym (a:Int) (b:Int) (c:Int) (d:Int) (e:Nat) (K:Value->World->Prop) (w:World) (h:B169 a b c d e K w):Zo prog 169 #[.agg #[.int .i64 a,.int .i64 b,.int .i64 c,.int .i64 d,.float .f64 e]] w K:=cq (sk:=.leaf) h func169
def B239 (a:Int) (c:Int) (b:Int) (K:Value->World->Prop) (w:World):Prop:=
 Br (decide (a >= c))
 (K (.bool (decide (a<=b))) w)
 (K (.bool false) w)
theorem ZxJ (c:Int) (b:Int) (a:Int) (K:Value->World->Prop) (w:World) (h:B239 c b a K w):Zo prog 239 #[.int .i64 c,.int .i64 b,.int .i64 a] w K:=cq (sk:=.leaf) h func239
def B170 (j:Option Addr) (i:Int) (K:Value->World->Prop) (w:World):Prop:=
 New (.cells #[.int .i64 i] 3 (0,0)) (λ f d=>
 Zd j λ e=>
 ∃ b:Sl,(Aw d (Addr.add e 0) [b.v])/\
 Calls prog 240 #[b.v,.func (.func 241) #[] #[.pointer ((some ⟨f,0,none⟩))]] d λ g l=>
 ∃ c,(g=.returned (.int .i64 c))/\
 K (.int .i64 c) l) w
theorem Zyl (b:Option Addr) (a:Int) (K:Value->World->Prop) (w:World) (h:B170 b a K w):Zo prog 170 #[.pointer b,.int .i64 a] w K:=cq (sk:=.leaf) h func170
def B241 (i:Int) (j:Int) (k:Int) (l:Int) (m:Nat) (g:Option Addr) (K:Value->World->Prop) (w:World):Prop:=
 New (.cells #[.int .i64 i,.int .i64 j,.int .i64 k,.int .i64 l,.float .f64 m] 192 (0,0)) (λ f b=>
 ∃ c,(Aw b ⟨f,0,none⟩ [.int .i64 c])/\
 Zd g λ e=>
 ∃ d,(Aw b e [.int .i64 d])/\
 K (.bool (c==d)) b) w
theorem ZxH (b:Int) (c:Int) (d:Int) (e:Int) (f:Nat) (a:Option Addr) (K:Value->World->Prop) (w:World) (h:B241 b c d e f a K w):Zo prog 241 #[.agg #[.int .i64 b,.int .i64 c,.int .i64 d,.int .i64 e,.float .f64 f],.pointer a] w K:=cq (sk:=.leaf) h func241
def B102 (f:Option Addr) (ai:Int) (aj:Int) (ak:Int) (al:Int) (am:Nat) (K:Value->World->Prop) (w:World):Prop:=
 New (.cells #[.int .i64 ai,.int .i64 aj,.int .i64 ak,.int .i64 al,.float .f64 am] 168 (0,0)) (λ o T=>
 ∃ L M N O Q,(Aw T ⟨o,0,none⟩ [.int .i64 L,.int .i64 M,.int .i64 N,.int .i64 O,.float .f64 Q])/\
 New (.cells #[.int .i64 0,.int .i64 0,.int .i64 0,.int .i64 0,.float .f64 0] 192 (0,0)) (λ i an=>
 ∃ l:World,(St 192 ⟨i,0,none⟩ (.agg #[.int .i64 L,.int .i64 M,.int .i64 N,.int .i64 O,.float .f64 Q]) an l)/\
 ∃ p q r s t,(Aw l ⟨i,0,none⟩ [.int .i64 p,.int .i64 q,.int .i64 r,.int .i64 s,.float .f64 t])/\
 Calls prog 169 #[.agg #[.int .i64 p,.int .i64 q,.int .i64 r,.int .i64 s,.float .f64 t]] l λ ad m=>
 ∃ u,(ad=.returned (.bool u))/\
 Br (!u)
 (K (.int .i64 1) m)
 (∃ v,(Aw m ⟨o,0,none⟩ [.int .i64 v])/\
 Calls prog 170 #[.pointer f,.int .i64 v] m λ ae k=>
 ∃ x,(ae=.returned (.int .i64 x))/\
 Br (decide (x >= 0))
 (K (.int .i64 7) k)
 (Zd f λ Y=>
 ∃ j:Sl,(Aw k (Addr.add Y 0) [j.v])/\
 Br (decide ((↑j.len:Int) >= 200))
 (K (.int .i64 3) k)
 (Drw k λ n ao=>
 Zd f λ Z=>
 ∃ c:Sl,(At n (Addr.add Z 0) [c.v])/\
 ∃ y z A C D,(At n ⟨i,0,none⟩ [.int .i64 y,.int .i64 z,.int .i64 A,.int .i64 C,.float .f64 D])/\
 Calls prog 171 #[c.v,.agg #[.int .i64 y,.int .i64 z,.int .i64 A,.int .i64 C,.float .f64 D],.func (.func 172) #[] #[]] ao λ af ap=>
 ∃ E ah,(af=.returned (.tuple #[.int .i64 E,.bool ah]))/\
 Drw ap λ g aq=>
 Zd f λ aa=>
 ∃ d:Sl,(At g (Addr.add aa 0) [d.v])/\
 ∃ F G H I J,(At g ⟨i,0,none⟩ [.int .i64 F,.int .i64 G,.int .i64 H,.int .i64 I,.float .f64 J])/\
 New (.cells #[.int .i64 F,.int .i64 G,.int .i64 H,.int .i64 I,.float .f64 J] 192 (0,0)) (λ ac X=>
 (g X)/\
 Calls prog 173 #[d.v,.int .i64 E,.slice ((some ⟨ac,0,none⟩)) 1 1] X λ ag U=>
 ∃ e:Sl,(ag=.returned (e.v))/\
 (g U)/\
 Zd f λ ab=>
 ∃ V:World,(St 188 (Addr.add ab 0) (e.v) U V)/\
 K (.int .i64 0) V) aq)))) T) w
theorem ZyW (a:Option Addr) (b:Int) (c:Int) (d:Int) (e:Int) (f:Nat) (K:Value->World->Prop) (w:World) (h:B102 a b c d e f K w):Zo prog 102 #[.pointer a,.agg #[.int .i64 b,.int .i64 c,.int .i64 d,.int .i64 e,.float .f64 f]] w K:=cq (sk:=.leaf) h func102
def B105 (e:Option Addr) (m:Int) (K:Value->World->Prop) (w:World):Prop:=
 Calls prog 170 #[.pointer e,.int .i64 m] w λ k f=>
 ∃ d,(k=.returned (.int .i64 d))/\
 Br (decide (d<0))
 (K (.int .i64 2) f)
 (Zd e λ i=>
 ∃ b:Sl,(Aw f (Addr.add i 0) [b.v])/\
 Calls prog 176 #[b.v,.int .i64 d,.int .i64 (IntKind.i64.wrap (d + 1))] f λ l o=>
 ∃ c:Sl,(l=.returned (c.v))/\
 Zd e λ j=>
 ∃ g:World,(St 188 (Addr.add j 0) (c.v) o g)/\
 K (.int .i64 0) g)
theorem ZyT (b:Option Addr) (a:Int) (K:Value->World->Prop) (w:World) (h:B105 b a K w):Zo prog 105 #[.pointer b,.int .i64 a] w K:=cq (sk:=.leaf) h func105
def B56 (C:Option Addr) (K:Value->World->Prop) (w:World):Prop:=
 Zd C λ z=>
 ∃ d:Sl,(Aw w (Addr.add z 0) [d.v])/\
 ∃ (i:Sl->Int->World->Prop) (x:Sl->Int->World->Nat),(i ⟨none,0,0⟩ 0 w)/\∀ (F:Env) (b:Sl) (c:Int) (g:World),i b c g->
 Br (decide (c<(↑d.len:Int)))
 (Rng c d.len (Zd d.a λ y=>
 ∃ m n o p q,(Aw g (Addr.add y (ZgL c.toNat 5)) [.int .i64 m,.int .i64 n,.int .i64 o,.int .i64 p,.float .f64 q])/\
 New (.cells #[.int .i64 0,.int .i64 0,.int .i64 0,.int .i64 0,.float .f64 0] 192 (0,0)) (λ l D=>
 ∃ j:World,(St 192 ⟨l,0,none⟩ (.agg #[.int .i64 m,.int .i64 n,.int .i64 o,.int .i64 p,.float .f64 q]) D j)/\
 ∃ r s t u v,(Aw j ⟨l,0,none⟩ [.int .i64 r,.int .i64 s,.int .i64 t,.int .i64 u,.float .f64 v])/\
 New (.cells #[.int .i64 r,.int .i64 s,.int .i64 t,.int .i64 u,.float .f64 v] 168 (0,0)) (λ A E=>
 ∃ k:World,∃ e:Sl,((Builtin.append_ #[100,100] 100 #[b.v,.slice ((some ⟨A,0,none⟩)) 1 1]).run prog E=.ok (e.v) k)/\
 (i e (IntKind.i64.wrap (c + 1)) k)/\x e (IntKind.i64.wrap (c + 1)) k<x b c g) j) g))
 (K (b.v) g)
def sk56:Sk:=(.seq .leaf (.seq .leaf (.seq (.seq .leaf (.block (.loop [3,11] [.sl,(.int .i64)] [3,5,11,12,13,14,15,16,17,18,19,20] .leaf))) .leaf)))
theorem ZAm (a:Option Addr) (K:Value->World->Prop) (w:World) (h:B56 a K w):Zo prog 56 #[.pointer a] w K:=cq (sk:=sk56) h func56
def B174 (Z:Option Addr) (m:Sl) (K:Value->World->Prop) (w:World):Prop:=
 New (.cells #[.int .i64 0,.int .i64 0,.int .i64 0,.int .i64 0,.float .f64 0] 168 (0,0)) (λ k T=>
 Zd Z λ Y=>
 ∃ d:Sl,(Aw T (Addr.add Y 0) [d.v])/\
 ∃ (i:Int->World->Prop) (l:Int->World->Nat),(i 0 T)/\∀ (ab:Env) (b:Int) (e:World),i b e->
 Br (decide (b<(↑d.len:Int)))
 (Rng b d.len (Zd d.a λ V=>
 ∃ q r s t u,(Aw e (Addr.add V (ZgL b.toNat 5)) [.int .i64 q,.int .i64 r,.int .i64 s,.int .i64 t,.float .f64 u])/\
 New (.cells #[.int .i64 0,.int .i64 0,.int .i64 0,.int .i64 0,.float .f64 0] 192 (0,0)) (λ g aa=>
 ∃ U:World,(St 192 ⟨g,0,none⟩ (.agg #[.int .i64 q,.int .i64 r,.int .i64 s,.int .i64 t,.float .f64 u]) aa U)/\
 Drw U λ j f=>
 ∃ v,(At j ⟨g,0 + 1,none⟩ [.int .i64 v])/\
 Br (decide (v<(↑m.len:Int)))
 (∃ x,(At j ⟨g,0 + 2,none⟩ [.int .i64 x])/\
 ∃ n,(At j ⟨g,0 + 1,none⟩ [.int .i64 n])/\
 Rng n m.len (Zd m.a λ X=>
 ∃ y,(At j (Addr.add X n.toNat) [.int .i64 y])/\
 Br (decide (x<=y))
 (∃ z A C D E,(Aw f ⟨g,0,none⟩ [.int .i64 z,.int .i64 A,.int .i64 C,.int .i64 D,.float .f64 E])/\
 ∃ o:World,(St 168 ⟨k,0,none⟩ (.agg #[.int .i64 z,.int .i64 A,.int .i64 C,.int .i64 D,.float .f64 E]) f o)/\
 ∃ F G H I J,(Aw o ⟨k,0,none⟩ [.int .i64 F,.int .i64 G,.int .i64 H,.int .i64 I,.float .f64 J])/\
 K (.tuple #[.agg #[.int .i64 F,.int .i64 G,.int .i64 H,.int .i64 I,.float .f64 J],.bool true]) o)
 ((i (IntKind.i64.wrap (b + 1)) f)/\l (IntKind.i64.wrap (b + 1)) f<l b e)))
 ((i (IntKind.i64.wrap (b + 1)) f)/\l (IntKind.i64.wrap (b + 1)) f<l b e)) e))
 (∃ p:World,(St 168 ⟨k,0,none⟩ (.agg #[.int .i64 0,.int .i64 0,.int .i64 0,.int .i64 0,.float .f64 0]) e p)/\
 ∃ L M N O Q,(Aw p ⟨k,0,none⟩ [.int .i64 L,.int .i64 M,.int .i64 N,.int .i64 O,.float .f64 Q])/\
 K (.tuple #[.agg #[.int .i64 L,.int .i64 M,.int .i64 N,.int .i64 O,.float .f64 Q],.bool false]) p)) w
def ZBp:Sk:=(.seq .leaf (.seq (.seq .leaf (.block (.loop [13] [(.int .i64)] [5,7,13,14,15,16,17,18,19,20,21,22,23,24,25,26,27,28,29,30,31,32,33,34,35,36,37] .leaf))) .leaf))
theorem Zyh (c:Option Addr) (b:Sl) (K:Value->World->Prop) (w:World) (h:B174 c b K w):Zo prog 174 #[.pointer c,b.v] w K:=cq (sk:=ZBp) h func174
def B65 (t:Option Addr) (K:Value->World->Prop) (w:World):Prop:=
 Zd t λ U=>
 ∃ o:Sl,(Aw w (Addr.add U 0) [o.v])/\
 Calls prog 128 #[.int .u64 (IntKind.u64.wrap (↑o.len:Int))] w λ X I=>
 ∃ p:Sl,(X=.returned (p.v))/\
 Zd t λ Q=>
 ∃ j:Sl,(Aw I (Addr.add Q 0) [j.v])/\
 ∃ (q:Sl->Int->World->Prop) (N:Sl->Int->World->Nat),(q p 0 I)/\∀ (ad:Env) (g:Sl) (d:Int) (n:World),q g d n->
 Br (decide (d<(↑j.len:Int)))
 (Rng d j.len (Zd j.a λ T=>
 ∃ u v x y z,(Aw n (Addr.add T (ZgL d.toNat 5)) [.int .i64 u,.int .i64 v,.int .i64 x,.int .i64 y,.float .f64 z])/\
 New (.cells #[.int .i64 0,.int .i64 0,.int .i64 0,.int .i64 0,.float .f64 0] 192 (0,0)) (λ i aa=>
 ∃ J:World,(St 192 ⟨i,0,none⟩ (.agg #[.int .i64 u,.int .i64 v,.int .i64 x,.int .i64 y,.float .f64 z]) aa J)/\
 Drw J λ b ab=>
 ∃ A,(At b ⟨i,0,none⟩ [.int .i64 A])/\
 ∃ C,(At b ⟨i,0 + 1,none⟩ [.int .i64 C])/\
 ∃ D,(At b ⟨i,0 + 2,none⟩ [.int .i64 D])/\
 ∃ E,(At b ⟨i,0 + 3,none⟩ [.int .i64 E])/\
 ∃ F,(At b ⟨i,0 + 4,none⟩ [.float .f64 F])/\
 Calls prog 135 #[.float .f64 F] ab λ Y L=>
 ∃ G,(Y=.returned (.int .u64 G))/\
 (b L)/\
 New (.cells #[.int .u64 (IntKind.u64.wrap A),.int .u64 (IntKind.u64.wrap C),.int .u64 (IntKind.u64.wrap D),.int .u64 (IntKind.u64.wrap E),.int .u64 G] 141 (0,0)) (λ V M=>
 (b M)/\
 ∃ (r:Sl->Int->World->Prop) (O:Sl->Int->World->Nat),(r g 0 M)/\∀ (ae:Env) (c:Sl) (e:Int) (l:World),r c e l->
 Br (decide (e<(↑5:Int)))
 (Rng e 5 (∃ H,(Aw l (Addr.add ⟨V,0,none⟩ e.toNat) [.int .u64 H])/\
 Calls prog 128 #[.int .u64 H] l λ Z ac=>
 ∃ k:Sl,(Z=.returned (k.v))/\
 ∃ s:World,∃ m:Sl,((Builtin.append_ #[47,47] 47 #[c.v,k.v]).run prog ac=.ok (m.v) s)/\
 (r m (IntKind.i64.wrap (e + 1)) s)/\O m (IntKind.i64.wrap (e + 1)) s<O c e l))
 ((q c (IntKind.i64.wrap (d + 1)) l)/\N c (IntKind.i64.wrap (d + 1)) l<N g d n)) L) n))
 (K (g.v) n)
def sk65:Sk:=(.seq .leaf (.seq .leaf (.seq (.seq .leaf (.block (.loop [3,20] [.sl,(.int .i64)] [3,5,7,20,21,22,23,24,25,26,27,28,29,30,31,32,33,34,35,36,37,38,39,40,41,42,43,44,45,46,47,48,49,50,51,52,53,54,55] (.seq .leaf (.seq .leaf (.seq (.block (.seq .leaf (.seq .leaf (.block (.loop [3,46] [.sl,(.int .i64)] [3,7,46,47,48,49,50,51,52,53,54] .leaf))))) .leaf)))))) .leaf)))
theorem ZAi (a:Option Addr) (K:Value->World->Prop) (w:World) (h:B65 a K w):Zo prog 65 #[.pointer a] w K:=cq (sk:=sk65) h func65
def B159 (r:Sl) (K:Value->World->Prop) (w:World):Prop:=
 Calls prog 91 #[r.v] w λ ao a3=>
 ∃ u,(ao=.returned (.pointer u))/\
 New (.cells #[.pointer none] 153 (0,0)) (λ c a8=>
 ∃ ak:World,(St 153 ⟨c,0,none⟩ (.pointer u) a8 ak)/\
 Calls prog 100 #[] ak λ ap a9=>
 ∃ e,(ap=.returned (.pointer e))/\
 Calls prog 228 #[.int .i64 200,.pointer ((some ⟨c,0,none⟩))] a9 λ av ba=>
 ∃ v,(av=.returned (.int .i64 v))/\
 ∃ (l:Int->World->Prop) (p:Int->World->Nat),(l 0 ba)/\∀ (be:Env) (d:Int) (i:World),l d i->
 Br (decide (d<v))
 (Calls prog 228 #[.int .i64 28629151,.pointer ((some ⟨c,0,none⟩))] i λ aw bb=>
 ∃ x,(aw=.returned (.int .i64 x))/\
 Calls prog 228 #[.int .i64 7,.pointer ((some ⟨c,0,none⟩))] bb λ ax bc=>
 ∃ y,(ax=.returned (.int .i64 y))/\
 Calls prog 228 #[.int .i64 600,.pointer ((some ⟨c,0,none⟩))] bc λ ay bd=>
 ∃ z,(ay=.returned (.int .i64 z))/\
 Calls prog 228 #[.int .i64 1099511627776,.pointer ((some ⟨c,0,none⟩))] bd λ az a4=>
 ∃ A,(az=.returned (.int .i64 A))/\
 New (.cells #[.int .i64 0,.int .i64 0,.int .i64 0,.int .i64 0,.float .f64 0] 168 (0,0)) (λ j a5=>
 ∃ s:World,(St 168 ⟨j,0,none⟩ (.agg #[.int .i64 x,.int .i64 y,.int .i64 z,.int .i64 A,.float .f64 0]) a5 s)/\
 ∃ C,(Aw s ⟨c,0,none⟩ [.pointer C])/\
 Calls prog 93 #[.pointer C,.int .u64 18446744073709551615] s λ a0 a6=>
 ∃ D,(a0=.returned (.int .u64 D))/\
 Calls prog 229 #[.int .u64 D] a6 λ a1 a7=>
 ∃ E,(a1=.returned (.float .f64 E))/\
 ∃ t:World,(St 35 ⟨j,0 + 4,none⟩ (.float .f64 E) a7 t)/\
 Zd e λ al=>
 ∃ f:Sl,(Aw t (Addr.add al 0) [f.v])/\
 Drw t λ q g=>
 Br (decide ((↑f.len:Int)>0))
 (Zd e λ am=>
 ∃ k:Sl,(Aw g (Addr.add am 0) [k.v])/\
 Rng (IntKind.i64.wrap ((↑f.len:Int) - 1)) k.len (Zd k.a λ an=>
 ∃ F G H I J,(Aw g (Addr.add an (ZgL (IntKind.i64.wrap ((↑f.len:Int) - 1)).toNat 5)) [.int .i64 F,.int .i64 G,.int .i64 H,.int .i64 I,.float .f64 J])/\
 ∃ L M N O Q,(Aw g ⟨j,0,none⟩ [.int .i64 L,.int .i64 M,.int .i64 N,.int .i64 O,.float .f64 Q])/\
 Calls prog 172 #[.agg #[.int .i64 F,.int .i64 G,.int .i64 H,.int .i64 I,.float .f64 J],.agg #[.int .i64 L,.int .i64 M,.int .i64 N,.int .i64 O,.float .f64 Q]] g λ a2 m=>
 ∃ T,(a2=.returned (.int .i64 T))/\
 (q m)/\
 Br (decide (T>0))
 (K (.tuple #[.pointer none,.int .i64 6]) m)
 (∃ U V X Y Z,(Aw m ⟨j,0,none⟩ [.int .i64 U,.int .i64 V,.int .i64 X,.int .i64 Y,.float .f64 Z])/\
 Calls prog 102 #[.pointer e,.agg #[.int .i64 U,.int .i64 V,.int .i64 X,.int .i64 Y,.float .f64 Z]] m λ aq n=>
 ∃ af,(aq=.returned (.int .i64 af))/\
 (q n)/\
 Br (af !=0)
 (K (.tuple #[.pointer none,.int .i64 6]) n)
 ((l (IntKind.i64.wrap (d + 1)) n)/\p (IntKind.i64.wrap (d + 1)) n<p d i))))
 (∃ aa ab ac ad ae,(Aw g ⟨j,0,none⟩ [.int .i64 aa,.int .i64 ab,.int .i64 ac,.int .i64 ad,.float .f64 ae])/\
 Calls prog 102 #[.pointer e,.agg #[.int .i64 aa,.int .i64 ab,.int .i64 ac,.int .i64 ad,.float .f64 ae]] g λ ar o=>
 ∃ ag,(ar=.returned (.int .i64 ag))/\
 (q o)/\
 Br (ag !=0)
 (K (.tuple #[.pointer none,.int .i64 6]) o)
 ((l (IntKind.i64.wrap (d + 1)) o)/\p (IntKind.i64.wrap (d + 1)) o<p d i))) a4)
 (∃ ah,(Aw i ⟨c,0,none⟩ [.pointer ah])/\
 Calls prog 96 #[.pointer ah] i λ au aj=>
 ∃ ai,(au=.returned (.bool ai))/\
 Br (!ai)
 (K (.tuple #[.pointer none,.int .i64 6]) aj)
 (K (.tuple #[.pointer e,.int .i64 0]) aj))) a3
def ZBs:Sk:=(.seq .leaf (.seq .leaf (.seq .leaf (.seq .leaf (.seq (.seq .leaf (.block (.loop [15] [(.int .i64)] [2,3,7,8,15,16,17,18,19,20,21,22,23,24,25,26,27,28,29,30,31,32,33,34,35,36,37,38,39,40,41,42,43,44,45,46,47,48,49,50,51,52,53,54,55,56,57] (.seq .leaf (.seq .leaf (.seq (.block (.seq .leaf (.seq .leaf (.seq .leaf (.seq (.block .leaf) .leaf))))) .leaf)))))) .leaf)))))
theorem Zyv (b:Sl) (K:Value->World->Prop) (w:World) (h:B159 b K w):Zo prog 159 #[b.v] w K:=cq (sk:=ZBs) h func159
def B228 (f:Int) (d:Option Addr) (K:Value->World->Prop) (w:World):Prop:=
 Zd d λ c=>
 ∃ a,(Aw w c [.pointer a])/\
 Calls prog 93 #[.pointer a,.int .u64 (IntKind.u64.wrap f)] w λ e i=>
 ∃ b,(e=.returned (.int .u64 b))/\
 K (.int .i64 (IntKind.i64.wrap b)) i
theorem ZxU (b:Int) (a:Option Addr) (K:Value->World->Prop) (w:World) (h:B228 b a K w):Zo prog 228 #[.int .i64 b,.pointer a] w K:=cq (sk:=.leaf) h func228
def B240 (e:Sl) (q:Value) (K:Value->World->Prop) (w:World):Prop:=
 ∃ (d:Int->World->Prop) (n:Int->World->Nat),(d 0 w)/\∀ (s:Env) (b:Int) (c:World),d b c->
 Br (decide (b<(↑e.len:Int)))
 (Rng b e.len (Zd e.a λ o=>
 ∃ g i j k l,(Aw c (Addr.add o (ZgL b.toNat 5)) [.int .i64 g,.int .i64 i,.int .i64 j,.int .i64 k,.float .f64 l])/\
 Zak prog cl q [.agg #[.int .i64 g,.int .i64 i,.int .i64 j,.int .i64 k,.float .f64 l]] c λ p f=>
 ∃ m,(p=.returned (.bool m))/\
 Br m
 (K (.int .i64 b) f)
 ((d (IntKind.i64.wrap (b + 1)) f)/\n (IntKind.i64.wrap (b + 1)) f<n b c)))
 (K (.int .i64 ((-1))) c)
def ZBe:Sk:=(.seq .leaf (.seq (.seq .leaf (.block (.loop [8] [(.int .i64)] [4,5,8,9,10,11,12,13,14,15,16,17,18] .leaf))) .leaf))
theorem ZxI (b:Sl) (c:Value) (K:Value->World->Prop) (w:World) (h:B240 b c K w):Zo prog 240 #[b.v,c] w K:=cq (sk:=ZBe) h func240
def B171 (d:Sl) (U:Int) (V:Int) (X:Int) (Y:Int) (Z:Nat) (m:Value) (K:Value->World->Prop) (w:World):Prop:=
 New (.cells #[.int .i64 U,.int .i64 V,.int .i64 X,.int .i64 Y,.float .f64 Z] 192 (0,0)) (λ l aa=>
 ∃ (f:Int->Int->World->Prop) (i:Int->Int->World->Nat),(f 0 ((↑d.len:Int)) aa)/\∀ (ad:Env) (b:Int) (c:Int) (e:World),f b c e->
 Br (decide (b<c))
 (Drw e λ j ab=>
 Rng (IntKind.i64.wrap (Zgu IntKind.u64 (IntKind.u64.wrap (IntKind.i64.wrap (b + c))) 1)) d.len (Zd d.a λ N=>
 ∃ n o p q r,(At j (Addr.add N (ZgL (IntKind.i64.wrap (Zgu IntKind.u64 (IntKind.u64.wrap (IntKind.i64.wrap (b + c))) 1)).toNat 5)) [.int .i64 n,.int .i64 o,.int .i64 p,.int .i64 q,.float .f64 r])/\
 ∃ s t u v x,(At j ⟨l,0,none⟩ [.int .i64 s,.int .i64 t,.int .i64 u,.int .i64 v,.float .f64 x])/\
 Zak prog cl m [.agg #[.int .i64 n,.int .i64 o,.int .i64 p,.int .i64 q,.float .f64 r],.agg #[.int .i64 s,.int .i64 t,.int .i64 u,.int .i64 v,.float .f64 x]] ab λ Q g=>
 ∃ y,(Q=.returned (.int .i64 y))/\
 Br (decide (y<0))
 ((f (IntKind.i64.wrap (IntKind.i64.wrap (Zgu IntKind.u64 (IntKind.u64.wrap (IntKind.i64.wrap (b + c))) 1) + 1)) c g)/\i (IntKind.i64.wrap (IntKind.i64.wrap (Zgu IntKind.u64 (IntKind.u64.wrap (IntKind.i64.wrap (b + c))) 1) + 1)) c g<i b c e)
 ((f b (IntKind.i64.wrap (Zgu IntKind.u64 (IntKind.u64.wrap (IntKind.i64.wrap (b + c))) 1)) g)/\i b (IntKind.i64.wrap (Zgu IntKind.u64 (IntKind.u64.wrap (IntKind.i64.wrap (b + c))) 1)) g<i b c e)))
 (Drw e λ k M=>
 Br (decide (b<(↑d.len:Int)))
 (Rng b d.len (Zd d.a λ O=>
 ∃ z A C D E,(At k (Addr.add O (ZgL b.toNat 5)) [.int .i64 z,.int .i64 A,.int .i64 C,.int .i64 D,.float .f64 E])/\
 ∃ F G H I J,(At k ⟨l,0,none⟩ [.int .i64 F,.int .i64 G,.int .i64 H,.int .i64 I,.float .f64 J])/\
 Zak prog cl m [.agg #[.int .i64 z,.int .i64 A,.int .i64 C,.int .i64 D,.float .f64 E],.agg #[.int .i64 F,.int .i64 G,.int .i64 H,.int .i64 I,.float .f64 J]] M λ T ac=>
 ∃ L,(T=.returned (.int .i64 L))/\
 K (.tuple #[.int .i64 b,.bool (L==0)]) ac))
 (K (.tuple #[.int .i64 b,.bool false]) M))) w
def ZBq:Sk:=(.seq .leaf (.seq .leaf (.seq .leaf (.seq (.block (.loop [9,10] [(.int .i64),(.int .i64)] [9,10,11,15,16,17,18,19,20,21,22,23,24,25,26,27,28,29,30,31,32,33,34] .leaf)) .leaf))))
theorem Zyk (b:Sl) (d:Int) (e:Int) (f:Int) (g:Int) (i:Nat) (c:Value) (K:Value->World->Prop) (w:World) (h:B171 b d e f g i c K w):Zo prog 171 #[b.v,.agg #[.int .i64 d,.int .i64 e,.int .i64 f,.int .i64 g,.float .f64 i],c] w K:=cq (sk:=ZBq) h func171
def B173 (b:Sl) (d:Int) (c:Sl) (K:Value->World->Prop) (w:World):Prop:=
 ((0:Int)<=d)/\
 ((d:Int)<=(↑b.len:Int))/\
 Br ((↑c.len:Int)==0)
 (K (b.v) w)
 (Br (d==(↑b.len:Int))
 (∃ i:World,∃ f:Sl,((Builtin.append_ #[188,188] 188 #[b.v,c.v]).run prog w=.ok (f.v) i)/\
 K (f.v) i)
 (Br (decide (IntKind.i64.wrap ((↑b.len:Int) + (↑c.len:Int))>(↑b.cap:Int)))
 (((0:Int)<=d)/\
 ((d:Int)<=(↑b.cap:Int))/\
 ∃ k:World,∃ e:Sl,((Builtin.append_ #[188,3] 188 #[.slice b.a d.toNat b.cap,.int .i64 (IntKind.i64.wrap (IntKind.i64.wrap ((↑b.len:Int) + (↑c.len:Int)) - d))]).run prog w=.ok (e.v) k)/\
 ((0:Int)<=d)/\
 ((d:Int)<=(↑e.len:Int))/\
 ∃ l:World,∃ s:Int,((Builtin.copy_ #[188,188] 3 #[.slice (Zcn e.a d.toNat e.cap 5) (e.len - d.toNat) (e.cap - d.toNat),c.v]).run prog k=.ok (.int .i64 s) l)/\
 Drw l λ C z=>
 ((0:Int)<=IntKind.i64.wrap (d + (↑c.len:Int)))/\
 ((IntKind.i64.wrap (d + (↑c.len:Int)):Int)<=(↑e.len:Int))/\
 ((0:Int)<=d)/\
 ((d:Int)<=(↑b.len:Int))/\
 ∃ m:World,∃ t:Int,((Builtin.copy_ #[188,188] 3 #[.slice (Zcn e.a (IntKind.i64.wrap (d + (↑c.len:Int))).toNat e.cap 5) (e.len - (IntKind.i64.wrap (d + (↑c.len:Int))).toNat) (e.cap - (IntKind.i64.wrap (d + (↑c.len:Int))).toNat),.slice (Zcn b.a d.toNat b.cap 5) (b.len - d.toNat) (b.cap - d.toNat)]).run prog z=.ok (.int .i64 t) m)/\
 K (e.v) m)
 (((0:Int)<=IntKind.i64.wrap ((↑b.len:Int) + (↑c.len:Int)))/\
 ((IntKind.i64.wrap ((↑b.len:Int) + (↑c.len:Int)):Int)<=(↑b.cap:Int))/\
 ((0:Int)<=IntKind.i64.wrap (d + (↑c.len:Int)))/\
 ((IntKind.i64.wrap (d + (↑c.len:Int)):Int)<=(↑(IntKind.i64.wrap ((↑b.len:Int) + (↑c.len:Int))).toNat:Int))/\
 Ext prog 245 #[c.v,.slice (Zcn b.a (IntKind.i64.wrap (d + (↑c.len:Int))).toNat b.cap 5) ((IntKind.i64.wrap ((↑b.len:Int) + (↑c.len:Int))).toNat - (IntKind.i64.wrap (d + (↑c.len:Int))).toNat) (b.cap - (IntKind.i64.wrap (d + (↑c.len:Int))).toNat)] w λ q n=>
 ∃ g,(q=.returned (.bool g))/\
 Br (!g)
 (Drw n λ D A=>
 ((0:Int)<=IntKind.i64.wrap (d + (↑c.len:Int)))/\
 ((IntKind.i64.wrap (d + (↑c.len:Int)):Int)<=(↑(IntKind.i64.wrap ((↑b.len:Int) + (↑c.len:Int))).toNat:Int))/\
 ((0:Int)<=d)/\
 ((d:Int)<=(↑(IntKind.i64.wrap ((↑b.len:Int) + (↑c.len:Int))).toNat:Int))/\
 ∃ o:World,∃ u:Int,((Builtin.copy_ #[188,188] 3 #[.slice (Zcn b.a (IntKind.i64.wrap (d + (↑c.len:Int))).toNat b.cap 5) ((IntKind.i64.wrap ((↑b.len:Int) + (↑c.len:Int))).toNat - (IntKind.i64.wrap (d + (↑c.len:Int))).toNat) (b.cap - (IntKind.i64.wrap (d + (↑c.len:Int))).toNat),.slice (Zcn b.a d.toNat b.cap 5) ((IntKind.i64.wrap ((↑b.len:Int) + (↑c.len:Int))).toNat - d.toNat) (b.cap - d.toNat)]).run prog A=.ok (.int .i64 u) o)/\
 ((0:Int)<=d)/\
 ((d:Int)<=(↑(IntKind.i64.wrap ((↑b.len:Int) + (↑c.len:Int))).toNat:Int))/\
 ∃ p:World,∃ v:Int,((Builtin.copy_ #[188,188] 3 #[.slice (Zcn b.a d.toNat b.cap 5) ((IntKind.i64.wrap ((↑b.len:Int) + (↑c.len:Int))).toNat - d.toNat) (b.cap - d.toNat),c.v]).run prog o=.ok (.int .i64 v) p)/\
 K (.slice b.a ((IntKind.i64.wrap ((↑b.len:Int) + (↑c.len:Int))).toNat) b.cap) p)
 (((0:Int)<=(↑b.len:Int))/\
 (((↑b.len:Int):Int)<=(↑(IntKind.i64.wrap ((↑b.len:Int) + (↑c.len:Int))).toNat:Int))/\
 ∃ j:World,∃ x:Int,((Builtin.copy_ #[188,188] 3 #[.slice (Zcn b.a (↑b.len:Int).toNat b.cap 5) ((IntKind.i64.wrap ((↑b.len:Int) + (↑c.len:Int))).toNat - (↑b.len:Int).toNat) (b.cap - (↑b.len:Int).toNat),c.v]).run prog n=.ok (.int .i64 x) j)/\
 ((0:Int)<=d)/\
 ((d:Int)<=(↑(IntKind.i64.wrap ((↑b.len:Int) + (↑c.len:Int))).toNat:Int))/\
 Calls prog 246 #[.slice (Zcn b.a d.toNat b.cap 5) ((IntKind.i64.wrap ((↑b.len:Int) + (↑c.len:Int))).toNat - d.toNat) (b.cap - d.toNat),.int .i64 ((↑c.len:Int))] j λ r y=>
 (r=.returned (.tuple #[]))/\
 K (.slice b.a ((IntKind.i64.wrap ((↑b.len:Int) + (↑c.len:Int))).toNat) b.cap) y))))
theorem Zyi (b:Sl) (d:Int) (c:Sl) (K:Value->World->Prop) (w:World) (h:B173 b d c K w):Zo prog 173 #[b.v,.int .i64 d,c.v] w K:=cq (sk:=.leaf) h func173
def B176 (b:Sl) (e:Int) (d:Int) (K:Value->World->Prop) (w:World):Prop:=
 ((0:Int)<=(↑b.len:Int))/\
 (((↑b.len:Int):Int)<=(↑b.cap:Int))/\
 ((0:Int)<=d)/\
 ((d:Int)<=(↑(↑b.len:Int).toNat:Int))/\
 ((0:Int)<=e)/\
 ((e:Int)<=(↑d.toNat:Int))/\
 Br (e==d)
 (K (b.v) w)
 (Drw w λ j i=>
 ((0:Int)<=e)/\
 ((e:Int)<=(↑b.cap:Int))/\
 ((0:Int)<=d)/\
 ((d:Int)<=(↑b.len:Int))/\
 ∃ f:World,∃ c:Sl,((Builtin.append_ #[188,188] 188 #[.slice b.a e.toNat b.cap,.slice (Zcn b.a d.toNat b.cap 5) (b.len - d.toNat) (b.cap - d.toNat)]).run prog i=.ok (c.v) f)/\
 ((0:Int)<=(↑b.len:Int))/\
 (((↑b.len:Int):Int)<=(↑c.cap:Int))/\
 ((0:Int)<=(↑c.len:Int))/\
 (((↑c.len:Int):Int)<=(↑(↑b.len:Int).toNat:Int))/\
 ∃ g:World,((Builtin.clear_ #[188] 0 #[.slice (Zcn c.a (↑c.len:Int).toNat c.cap 5) ((↑b.len:Int).toNat - (↑c.len:Int).toNat) (c.cap - (↑c.len:Int).toNat)]).run prog f=.ok (.tuple #[]) g)/\
 K (c.v) g)
theorem Zyf (b:Sl) (c:Int) (d:Int) (K:Value->World->Prop) (w:World) (h:B176 b c d K w):Zo prog 176 #[b.v,.int .i64 c,.int .i64 d] w K:=cq (sk:=.leaf) h func176
def B230 (b:Sl) (e:Value) (K:Value->World->Prop) (w:World):Prop:=
 Calls prog 274 #[b.v,e] w λ d f=>
 ∃ c,(d=.returned (.int .i64 c))/\
 K (.bool (decide (c >= 0))) f
theorem ZxS (b:Sl) (c:Value) (K:Value->World->Prop) (w:World) (h:B230 b c K w):Zo prog 230 #[b.v,c] w K:=cq (sk:=.leaf) h func230
def B274 (e:Sl) (q:Value) (K:Value->World->Prop) (w:World):Prop:=
 ∃ (d:Int->World->Prop) (n:Int->World->Nat),(d 0 w)/\∀ (s:Env) (b:Int) (c:World),d b c->
 Br (decide (b<(↑e.len:Int)))
 (Rng b e.len (Zd e.a λ o=>
 ∃ g i j k l,(Aw c (Addr.add o (ZgL b.toNat 5)) [.int .i64 g,.int .i64 i,.int .i64 j,.int .i64 k,.float .f64 l])/\
 Zak prog cl q [.agg #[.int .i64 g,.int .i64 i,.int .i64 j,.int .i64 k,.float .f64 l]] c λ p f=>
 ∃ m,(p=.returned (.bool m))/\
 Br m
 (K (.int .i64 b) f)
 ((d (IntKind.i64.wrap (b + 1)) f)/\n (IntKind.i64.wrap (b + 1)) f<n b c)))
 (K (.int .i64 ((-1))) c)
def ZA8:Sk:=(.seq .leaf (.seq (.seq .leaf (.block (.loop [8] [(.int .i64)] [4,5,8,9,10,11,12,13,14,15,16,17,18] .leaf))) .leaf))
theorem Zxs (b:Sl) (c:Value) (K:Value->World->Prop) (w:World) (h:B274 b c K w):Zo prog 274 #[b.v,c] w K:=cq (sk:=ZA8) h func274
def B232 (b:Sl) (e:Value) (K:Value->World->Prop) (w:World):Prop:=
 Calls prog 275 #[b.v,e] w λ d f=>
 ∃ c,(d=.returned (.int .i64 c))/\
 K (.bool (decide (c >= 0))) f
theorem ZxQ (b:Sl) (c:Value) (K:Value->World->Prop) (w:World) (h:B232 b c K w):Zo prog 232 #[b.v,c] w K:=cq (sk:=.leaf) h func232
def B275 (f:Sl) (p:Value) (K:Value->World->Prop) (w:World):Prop:=
 ∃ (e:Int->World->Prop) (m:Int->World->Nat),(e 0 w)/\∀ (r:Env) (b:Int) (d:World),e b d->
 Br (decide (b<(↑f.len:Int)))
 (Rng b f.len (Zd f.a λ n=>
 ∃ i j k,∃ c:Sl,(Aw d (Addr.add n (ZgL b.toNat 4)) [.int .i64 i,.int .i64 j,.int .i64 k,c.v])/\
 Zak prog cl p [.agg #[.int .i64 i,.int .i64 j,.int .i64 k,c.v]] d λ o g=>
 ∃ l,(o=.returned (.bool l))/\
 Br l
 (K (.int .i64 b) g)
 ((e (IntKind.i64.wrap (b + 1)) g)/\m (IntKind.i64.wrap (b + 1)) g<m b d)))
 (K (.int .i64 ((-1))) d)
def ZA7:Sk:=(.seq .leaf (.seq (.seq .leaf (.block (.loop [8] [(.int .i64)] [4,5,8,9,10,11,12,13,14,15,16,17,18] .leaf))) .leaf))
theorem Zxr (b:Sl) (c:Value) (K:Value->World->Prop) (w:World) (h:B275 b c K w):Zo prog 275 #[b.v,c] w K:=cq (sk:=ZA7) h func275
def B182  (K:Value->World->Prop) (w:World):Prop:=
 New (.cells #[.int .i64 0] 3 (0,0)) (λ a e=>
 New (.cells #[.int .i64 0] 3 (0,0)) (λ b f=>
 ∃ c:World,(St 3 ⟨a,0,none⟩ (.int .i64 0) f c)/\
 ∃ d:World,(St 3 ⟨b,0,none⟩ (.int .i64 2) c d)/\
 K (.func (.func 254) #[] #[.pointer ((some ⟨a,0,none⟩)),.pointer ((some ⟨b,0,none⟩))]) d) e) w
theorem Zya  (K:Value->World->Prop) (w:World) (h:B182  K w):Zo prog 182 #[] w K:=cq (sk:=.leaf) h func182
def B254 (o:Int) (b:Option Addr) (c:Option Addr) (K:Value->World->Prop) (w:World):Prop:=
 Zd b λ m=>
 ∃ i,(Aw w m [.int .i64 i])/\
 Zd c λ n=>
 ∃ j,(Aw w n [.int .i64 j])/\
 ∃ d:World,((Instr.storeAt 3 (.pointer b) (.int .i64 ((IntKind.i64.wrap (i + IntKind.i64.wrap (j * o))).tmod 31))).run prog w=.ok () d)/\
 Zd c λ k=>
 ∃ f,(Aw d k [.int .i64 f])/\
 ∃ e:World,((Instr.storeAt 3 (.pointer c) (.int .i64 (IntKind.i64.wrap (f + 1)))).run prog d=.ok () e)/\
 Zd b λ l=>
 ∃ g,(Aw e l [.int .i64 g])/\
 K (.int .i64 g) e
theorem Zxx (c:Int) (a:Option Addr) (b:Option Addr) (K:Value->World->Prop) (w:World) (h:B254 c a b K w):Zo prog 254 #[.int .i64 c,.pointer a,.pointer b] w K:=cq (sk:=.leaf) h func254
def B121 (m:Int) (K:Value->World->Prop) (w:World):Prop:=
 ∃ (r:World->Prop),(Br (decide (m<0))
 (K (.tuple #[.string (ByteArray.mk #[]),.int .i64 1]) w)
 (Br (decide (m >= 28629151))
 (K (.tuple #[.string (ByteArray.mk #[]),.int .i64 1]) w)
 (r  w)))/\
 ∀ (L:Env)  (z:World),r  z->
 New (.cells #[.int .u8 0,.int .u8 0,.int .u8 0,.int .u8 0,.int .u8 0,.int .u8 0] 255 (0,0)) (λ l I=>
 New (.cells #[.int .i64 0,.int .i64 0,.int .i64 0,.int .i64 0,.int .i64 0] 256 (0,0)) (λ s J=>
 ∃ (j:Int->Int->World->Prop) (E:Int->Int->World->Nat),(j m 4 J)/\∀ (M:Env) (d:Int) (b:Int) (g:World),j d b g->
 Br (decide (b >= 0))
 (Rng b 5 (∃ q:World,(St 3 (Addr.add ⟨s,0,none⟩ b.toNat) (.int .i64 (d.tmod 31)) g q)/\
 (j (IntKind.i64.wrap (d.tdiv 31)) (IntKind.i64.wrap (b - 1)) q)/\E (IntKind.i64.wrap (d.tdiv 31)) (IntKind.i64.wrap (b - 1)) q<E d b g))
 (Calls prog 182 #[] g λ G A=>
 ∃ t:Value,(G=.returned (t))/\
 ∃ n:List Value,(n.length=5)/\
 (Aw A ⟨s,0,none⟩ n)/\
 ∃ (k:Int->Int->World->Prop) (F:Int->Int->World->Nat),(k 0 0 A)/\∀ (N:Env) (e:Int) (a:Int) (i:World),k e a i->
 Br (decide (a<5))
 (Rng a 5 (∃ f:Int,(n.toArray[a.toNat]? =some (Value.int IntKind.i64 f))/\
 ∃ u:UInt8,((0:Int)<=f)/\
 ((ByteArray.mk #[65,66,67,68,69,70,71,72,74,75,76,77,78,80,81,82,84,85,86,87,88,89,90,50,51,52,53,54,55,56,57])[f.toNat]? =some u)/\
 Rng a 6 (∃ C:World,(St 5 (Addr.add ⟨l,0,none⟩ a.toNat) (.int .u8 ((↑u.toNat:Int))) i C)/\
 Zak prog cl t [.int .i64 f] C λ H D=>
 ∃ o,(H=.returned (.int .i64 o))/\
 (k o (IntKind.i64.wrap (a + 1)) D)/\F o (IntKind.i64.wrap (a + 1)) D<F e a i)))
 (∃ v:UInt8,((0:Int)<=(IntKind.i64.wrap (31 - e)).tmod 31)/\
 ((ByteArray.mk #[65,66,67,68,69,70,71,72,74,75,76,77,78,80,81,82,84,85,86,87,88,89,90,50,51,52,53,54,55,56,57])[((IntKind.i64.wrap (31 - e)).tmod 31).toNat]? =some v)/\
 ∃ p:World,(St 5 (Addr.add ⟨l,0,none⟩ 5) (.int .u8 ((↑v.toNat:Int))) i p)/\
 ∃ x:Addr,(some (Addr.mk l 0 none)=some x)/\
 ∃ y:ByteArray,(∀ c,(λ c=>c=p) c->((convert 47 9 (.slice ((some (x))) 6 6))).run prog c=.ok (.string y) c)/\
 K (.tuple #[.string y,.int .i64 0]) p))) I) z
def ZBB:Sk:=(.seq .leaf (.cut [] [] [2,3,11,12,13,14,15,16] .leaf (.seq .leaf (.seq .leaf (.seq (.seq .leaf (.block (.loop [0,6] [(.int .i64),(.int .i64)] [0,6,17,18,19,20,21,22,23,24,25,26] .leaf))) (.seq .leaf (.seq (.seq .leaf (.block (.loop [8,29] [(.int .i64),(.int .i64)] [8,9,10,29,30,31,32,33,34,35,36,37,38,39,40] .leaf))) .leaf)))))))
theorem ZyP (a:Int) (K:Value->World->Prop) (w:World) (h:B121 a K w):Zo prog 121 #[.int .i64 a] w K:=cq (sk:=ZBB) h func121
def B108 (l:ByteArray) (K:Value->World->Prop) (w:World):Prop:=
 Br ((↑l.size:Int) !=6)
 (K (.tuple #[.int .i64 0,.int .i64 6]) w)
 (Calls prog 182 #[] w λ r v=>
 ∃ m:Value,(r=.returned (m))/\
 New (.stringIter l 0) (λ q x=>
 ∃ (e:Int->Int->World->Prop) (g:Int->Int->World->Nat),(e 0 0 x)/\∀ (A:Env) (a:Int) (b:Int) (f:World),e a b f->
 Zu8 ((some ⟨q,0,none⟩)) (λ u k y=>
 Calls prog 183 #[.string (ByteArray.mk #[65,66,67,68,69,70,71,72,74,75,76,77,78,80,81,82,84,85,86,87,88,89,90,50,51,52,53,54,55,56,57]),.int .u8 (IntKind.u8.wrap k)] y λ s o=>
 ∃ c,(s=.returned (.int .i64 c))/\
 ∃ (i:Bool->World->Prop),(Br (decide (c<0))
 (i true o)
 (i (decide (k>90)) o))/\
 ∀ (C:Env) (n:Bool) (d:World),i n d->
 Br n
 (K (.tuple #[.int .i64 0,.int .i64 6]) d)
 (Br (decide (u<5))
 (Zak prog cl m [.int .i64 c] d λ t p=>
 ∃ j,(t=.returned (.int .i64 j))/\
 (e (IntKind.i64.wrap (IntKind.i64.wrap (a * 31) + c)) j p)/\g (IntKind.i64.wrap (IntKind.i64.wrap (a * 31) + c)) j p<g a b f)
 (Br ((IntKind.i64.wrap (b + c)).tmod 31 !=0)
 (K (.tuple #[.int .i64 0,.int .i64 6]) d)
 ((e a b d)/\g a b d<g a b f))))
 (λ z=>
 K (.tuple #[.int .i64 a,.int .i64 0]) z) f) v)
def ZBC:Sk:=(.seq .leaf (.seq .leaf (.seq .leaf (.seq (.seq .leaf (.block (.loop [5,6] [(.int .i64),(.int .i64)] [2,3,5,6,7,8,9,16,17,18,19,20,21,22,23,24,25,26,27,28,29,30,31,32,33,34,35,36,37,38,39,40,41,42,43,44,45] (.seq .leaf (.seq .leaf (.block (.seq .leaf (.seq .leaf (.block (.cut [23] [.bool] [23,24,25,26,27,28,29] .leaf .leaf)))))))))) .leaf))))
theorem ZyQ (a:ByteArray) (K:Value->World->Prop) (w:World) (h:B108 a K w):Zo prog 108 #[.string a] w K:=cq (sk:=ZBC) h func108
def B183 (d:ByteArray) (b:Int) (K:Value->World->Prop) (w:World):Prop:=
 Calls prog 255 #[.string d,.int .u8 b] w λ c e=>
 ∃ a,(c=.returned (.int .i64 a))/\
 K (.int .i64 a) e
theorem Zx9 (b:ByteArray) (a:Int) (K:Value->World->Prop) (w:World) (h:B183 b a K w):Zo prog 183 #[.string b,.int .u8 a] w K:=cq (sk:=.leaf) h func183
def B255 (d:ByteArray) (b:Int) (K:Value->World->Prop) (w:World):Prop:=
 Ext prog 285 #[.string d,.int .u8 b] w λ c e=>
 ∃ a,(c=.returned (.int .i64 a))/\
 K (.int .i64 a) e
theorem Zxw (b:ByteArray) (a:Int) (K:Value->World->Prop) (w:World) (h:B255 b a K w):Zo prog 255 #[.string b,.int .u8 a] w K:=cq (sk:=.leaf) h func255
end
end Go.Proofs.YtlplemdmegpoeaaGreatDoor
