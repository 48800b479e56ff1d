/- A flight, plain: which bytes are one, by the program and by the document. Condition: none. -/
import Derived.Test.YtflgboncpbmikaaGreatDoorB3
import Derived.Test.YtflgboncpbmikaaGreatDoorB2
namespace Go.Proofs.YtflgboncpbmikaaGreatDoor
set_option linter.unusedVariables false
set_option linter.unusedSimpArgs false
open Go Go.VC
theorem nest_sell_iff {lim sold:List Int} {c many:Int} (hn:nestOk lim sold=true) (c0:0≤c) (c1:c<lim.length) (m0:1≤many) (m1:many≤10000) (h:nestOk lim (sold.set c.toNat (sold.getD c.toNat 0 + many))=true):(sellT lim sold c many).2=0:=by
 obtain ⟨i1,i2,i3⟩:=nestOk_iff.1 hn
 obtain ⟨_,_,k3⟩:=nestOk_iff.1 h
 have hl:leftT lim sold c=(mnF (roomF lim sold) (c.toNat + 1),0):=by unfold leftT;rw [if_pos ⟨hn,c0,c1⟩]
 have hm:=mnF_is (roomF lim sold) (c.toNat + 1)
 have hle:many≤mnF (roomF lim sold) (c.toNat + 1):=by
  rcases hm.2.2 with e|⟨k,_,hk,e⟩
  ·omega
  ·rw [e]
   have hf:=fromN_add (sold:=sold) (c:=c.toNat) (m:=many) (by omega) (lim.length - k) k (by omega)
   rw [if_pos (by omega)] at hf
   have:=(k3 k (by omega)).2
   unfold roomF
   omega
 unfold sellT
 rw [hl]
 dsimp only
 rw [if_neg (by omega),if_neg (by omega)]
variable {f:PF} {r:RF}
theorem tie_tell {A C:List Hold} {h:Hold} {n:Int} (t:Tie f r) (g:Good r) (hL:r.L=A++h::C) (hA:getO h.owner A=none) (h4:n ∉ takenL r.L) (hb:0≤n∧n<layN r.rows r.grps) (hm:(h.seats.length:Int)<h.many):
  Tie (tellF f h.owner n) { r with L:=A++h.put n::C }∧Good { r with L:=A++h.put n::C }:=by
 have hh:=g.each h (by rw [hL];simp)
 have hg:getM h.owner f.hs=some h:=by rw [t.get g.rise,hL];exact getO_app rfl hA
 have e:tellF f h.owner n={ f with hs:=setM h.owner (h.put n) f.hs,own:=putM n h.owner f.own }:=by unfold tellF;rw [hg]
 rw [e]
 have hnh:n ∉ h.seats:=fun e=>h4 (mem_taken.2 ⟨h,by rw [hL];simp,e⟩)
 have hs:∀ x∈(h.put n).seats,x∈h.seats∨(x ∉ takenL r.L∧0≤x∧x<layN r.rows r.grps):=fun x hx=>by
  rcases mem_insS.1 hx with rfl|hx
  ·exact .inr ⟨h4,hb⟩
  ·exact .inl hx
 refine ⟨tie_set (h':=h.put n) t g hL hA rfl rfl rfl (fun x hx=>(hs x hx).imp id (·.1)) (putM_nodup t.nod) fun x=>?_,good_set (h':=h.put n) g hL rfl rfl rfl ?_ ?_ hs⟩
 ·rw [getM_putM]
  show _=if x∈insS n h.seats then some h.owner else _
  by_cases hx:x=n
  ·rw [if_pos hx,if_pos (mem_insS.2 (.inl hx))]
  ·rw [if_neg hx]
   by_cases hx2:x∈h.seats
   ·rw [if_pos (mem_insS.2 (.inr hx2))]
    exact (t.own x h.owner).2 ⟨h,by rw [hL];simp,rfl,hx2⟩
   ·rw [if_neg (fun e=>(mem_insS.1 e).elim hx hx2),if_neg hx2]
 ·exact rise_iff.2 (insS_pw (rise_iff.1 hh.rise) hnh)
 ·show ((insS n h.seats).length:Int)≤_
  rw [insS_len];omega
def SOk (N:Int) (T:List Int):List Int→Int→Prop
 |[],_=>True
 |n::l,last=>n ∉ T∧last<n∧n<N∧SOk N T l n
theorem takenL_snoc (P:List Hold) (h:Hold):takenL (P++[h])=takenL P++h.seats:=by simp [takenL]
theorem tie_res {P:List Hold} {h:Hold}:∀ (l acc:List Int) (last:Int) {f:PF} {r:RF},Tie f r→Good r→r.L=P++[{ h with seats:=acc }]→(acc.length + l.length:Int)≤h.many→(∀ x∈acc,x≤last)→-1≤last→
  ((resGo h.owner (layN r.rows r.grps) l last f).2=true↔SOk (layN r.rows r.grps) (takenL P) l last)∧
  ((resGo h.owner (layN r.rows r.grps) l last f).2=true→Tie (resGo h.owner (layN r.rows r.grps) l last f).1 { r with L:=P++[{ h with seats:=acc++l }] }∧Good { r with L:=P++[{ h with seats:=acc++l }] })
 |[],acc,last,f,r,t,g,hL,_,_,_=>by
  refine ⟨⟨fun _=>trivial,fun _=>rfl⟩,fun _=>?_⟩
  rw [List.append_nil,←hL]
  exact ⟨t,g⟩
 |n::l,acc,last,f,r,t,g,hL,hm,hacc,hlast=>by
  rw [resGo_cons]
  have hown:getO h.owner P=none:=by
   have h5:=g.rise
   rw [hL] at h5
   refine getO_none.2 fun x hx e=>?_
   have:=(List.pairwise_append.1 h5).2.2 x hx _ (List.mem_singleton.2 rfl)
   dsimp only at this
   omega
  have htk:takenL r.L=takenL P++acc:=by rw [hL,takenL_snoc]
  rw [List.length_cons] at hm
  show _∧_
  by_cases h1:(getM n f.own).isSome=true
  ·rw [if_pos h1]
   refine ⟨⟨fun e=>(by cases e),fun e=>?_⟩,fun e=>by cases e⟩
   have h2:=(t.taken n).1 h1
   rw [htk] at h2
   rcases List.mem_append.1 h2 with h2|h2
   ·exact absurd h2 e.1
   ·have:=hacc n h2;have:=e.2.1;omega
  rw [if_neg h1]
  have hnt:n ∉ takenL r.L:=fun e=>h1 ((t.taken n).2 e)
  by_cases h2:n≤last
  ·rw [if_pos h2]
   exact ⟨⟨fun e=>(by cases e),fun e=>by have:=e.2.1;omega⟩,fun e=>by cases e⟩
  rw [if_neg h2]
  by_cases h3:n ≥ layN r.rows r.grps
  ·rw [if_pos h3]
   exact ⟨⟨fun e=>(by cases e),fun e=>by have:=e.2.2.1;omega⟩,fun e=>by cases e⟩
  rw [if_neg h3]
  have hsp:r.L=P++{ h with seats:=acc }::[]:=hL
  have hins:insS n acc=acc++[n]:=insS_end fun x hx=>by have:=hacc x hx;omega
  obtain ⟨t2,g2⟩:=tie_tell (h:={ h with seats:=acc }) t g hsp hown hnt ⟨by omega,by omega⟩ (by show (acc.length:Int)<h.many;omega)
  have e2:(Hold.put { h with seats:=acc } n)={ h with seats:=acc++[n] }:=by unfold Hold.put;rw [hins]
  rw [e2] at t2 g2
  have ih:=tie_res l (acc++[n]) n t2 g2 rfl (by rw [List.length_append];simp;omega) (fun x hx=>by
   rcases List.mem_append.1 hx with hx|hx
   ·have:=hacc x hx;omega
   ·rw [List.mem_singleton.1 hx];exact Int.le_refl _) (by omega)
  refine ⟨ih.1.trans ⟨fun e=>⟨fun hn=>hnt (by rw [htk];exact List.mem_append_left _ hn),by omega,by omega,e⟩,fun e=>e.2.2.2⟩,fun e=>?_⟩
  have h7:=ih.2 e
  rw [List.append_assoc] at h7
  exact h7
theorem insH_end {h:Hold}:∀ {P:List Hold},(∀ x∈P,x.owner<h.owner)→insH h P=P++[h]
 |[],_=>rfl
 |x::P,hp=>by
  unfold insH
  rw [if_pos (hp x List.mem_cons_self),insH_end fun y hy=>hp y (List.mem_cons_of_mem _ hy)];rfl
structure AddOk (r:RF) (h:Hold):Prop where
 c:h.cls<r.lims.length
 m:1≤h.many
 n:(h.seats.length:Int)≤h.many
 s:SOk (layN r.rows r.grps) (takenL r.L) h.seats (-1)
 nest:nestOk r.lims (soldL r.lims.length (r.L++[h]))=true
theorem tie_restore {h:Hold} (t:Tie f r) (g:Good r) (hin:HoldIn h) (ho:1≤h.owner) (hlt:∀ x∈r.L,x.owner<h.owner):
  ((restoreF f h).2=true↔AddOk r h)∧((restoreF f h).2=true→Tie (restoreF f h).1 { r with L:=r.L++[h] }∧Good { r with L:=r.L++[h] }):=by
 obtain ⟨t1,t2,t3⟩:=tie_take t g h.owner h.cls h.many
 have hno:¬ (getO h.owner r.L).isSome=true:=by
  rw [getO_none.2 fun x hx e=>by have:=hlt x hx;omega];simp
 have hio:=hin.o
 have er:rtakeF r h.owner h.cls h.many=if (sellT r.lims r.sold h.cls h.many).2=0 then ({ r with L:=insH ⟨h.owner,h.cls,h.many,[]⟩ r.L },0) else (r,(sellT r.lims r.sold h.cls h.many).2):=by
  unfold rtakeF;rw [if_neg (by omega),if_neg hno]
 have hins:insH ⟨h.owner,h.cls,h.many,[]⟩ r.L=r.L++[⟨h.owner,h.cls,h.many,[]⟩]:=insH_end hlt
 have hsl:∀ {L:List Hold},h.cls<r.lims.length→r.sold.set h.cls.toNat (r.sold.getD h.cls.toNat 0 + h.many)=soldL r.lims.length (r.L++[h]):=fun hc=>soldL_put (List.perm_append_comm) hin.c.1 hc
 unfold restoreF
 rw [t1,er]
 by_cases hs:(sellT r.lims r.sold h.cls h.many).2=0
 ·rw [if_pos hs]
  rw [er,if_pos hs,hins] at t2 t3
  obtain ⟨e1,e2,c0,c1,hm⟩:=nest_sell hs
  rw [e1,hsl (L:=r.L) c1] at e2
  rw [if_neg (by simp)]
  by_cases hn:(h.seats.length:Int)>h.many
  ·rw [if_pos hn]
   exact ⟨⟨fun e=>(by cases e),fun e=>by have:=e.n;omega⟩,fun e=>by cases e⟩
  rw [if_neg hn]
  have hlay:layN f.rows f.grps=layN r.rows r.grps:=by rw [t.rows,t.grps]
  rw [hlay]
  obtain ⟨i1,i2⟩:=tie_res (P:=r.L) (h:=h) h.seats [] (-1) t2 t3 rfl (by simp;omega) (fun x hx=>by cases hx) (by omega)
  refine ⟨i1.trans ⟨fun e=>⟨c1,hm,by omega,e,e2⟩,fun e=>e.s⟩,fun e=>?_⟩
  have h7:=i2 e
  rw [List.nil_append] at h7
  exact h7
 ·rw [if_neg hs,if_pos hs]
  refine ⟨⟨fun e=>(by cases e),fun e=>?_⟩,fun e=>by cases e⟩
  exact absurd (nest_sell_iff g.nest hin.c.1 e.c e.m (by have:=hin.m.2;omega) (by rw [hsl (L:=r.L) e.c];exact e.nest)) hs
theorem fine0_iff {num rows:Int} {grps lims:List Int}:fine0 num rows grps lims=true↔1≤num∧layOk rows grps=true∧limOk lims=true∧lims.getD 0 0=layN rows grps:=by
 unfold fine0
 simp only [Bool.and_eq_true,decide_eq_true_eq,beq_iff_eq]
 constructor
 ·rintro ⟨h1,h2,h3,h4⟩
  exact ⟨by omega,h2,(nestOk_iff.1 h3).1,h4⟩
 ·rintro ⟨h1,h2,h3,h4⟩
  exact ⟨by omega,h2,nest_zero h3,h4⟩
theorem sok_iff {N:Int} {T:List Int}:∀ {l:List Int} {last:Int},SOk N T l last↔∀ k (hk:k<l.length),l[k] ∉ T∧l[k]<N∧(if h:0<k then l[k - 1]<l[k] else last<l[k])
 |[],_=>by simp [SOk]
 |n::l,last=>by
  unfold SOk
  rw [sok_iff (l:=l) (last:=n)]
  constructor
  ·rintro ⟨h1,h2,h3,h4⟩ k hk
   rcases k with _|k
   ·exact ⟨h1,h3,h2⟩
   ·have h5:=h4 k (by simpa using hk)
    refine ⟨h5.1,h5.2.1,?_⟩
    rw [dif_pos (by omega)]
    have h6:=h5.2.2
    rcases k with _|k
    ·exact h6
    ·rw [dif_pos (by omega)] at h6;exact h6
  ·intro h
   have h0:=h 0 (by simp)
   refine ⟨h0.1,h0.2.2,h0.2.1,fun k hk=>?_⟩
   have h5:=h (k + 1) (by simpa using hk)
   refine ⟨h5.1,h5.2.1,?_⟩
   have h6:=h5.2.2
   rw [dif_pos (by omega)] at h6
   rcases k with _|k
   ·exact h6
   ·rw [dif_pos (by omega)];exact h6
structure RawIn (x:Raw):Prop where
 num:x.num≤9999
 hs:∀ h∈x.L,HoldIn h
def Raw.at (x:Raw) (j:Nat):PS:=(x.L.take j).foldl stepD (emptyF x.num x.rows x.grps x.lims,fine0 x.num x.rows x.grps x.lims,0)
def Raw.pre (x:Raw) (j:Nat):RF:=⟨x.num,x.rows,x.grps,x.lims,x.L.take j⟩
def lastO (x:Raw) (j:Nat):Int:=if h:0<j∧j≤x.L.length then x.L[j - 1].owner else 0
theorem at_succ {x:Raw} {j:Nat} (h:j<x.L.length):x.at (j + 1)=stepD (x.at j) x.L[j]:=by
 unfold Raw.at
 rw [List.take_add_one,List.getElem?_eq_getElem h,List.foldl_append];rfl
theorem owR_lt {L:List Hold} {o:Int} (h:OwR L):∀ (hl:0<L.length),L[L.length - 1].owner<o→∀ x∈L,x.owner<o:=fun hl hlast x hx=>by
 obtain ⟨i,hi,rfl⟩:=List.getElem_of_mem hx
 by_cases e:i=L.length - 1
 ·subst e;exact hlast
 ·have:=List.pairwise_iff_getElem.1 h i (L.length - 1) hi (by omega) (by omega)
  omega
theorem okAt_add {x:Raw} (xi:RawIn x) {j:Nat} (hj:j<x.L.length) (hr:∀ y∈x.L.take j,y.owner<x.L[j].owner):
  OkAt x.rf j hj↔(1≤x.L[j].owner∧(∀ h:0<j,x.L[j - 1].owner<x.L[j].owner)∧x.L[j].cls<x.lims.length∧1≤x.L[j].many∧(x.L[j].seats.length:Int)≤x.L[j].many∧SOk (layN x.rows x.grps) (takenL (x.L.take j)) x.L[j].seats (-1)):=by
 have hin:=xi.hs x.L[j] (List.getElem_mem _)
 rw [sok_iff]
 constructor
 ·intro h
  refine ⟨h.o,h.p,h.c,h.m,h.n,fun k hk=>?_⟩
  have h1:=h.s k hk
  refine ⟨fun hm=>h1.1 (List.mem_append_left _ hm),h1.2.1,?_⟩
  split
  ·exact h1.2.2 (by assumption)
  ·have:=hin.s x.L[j].seats[k] (List.getElem_mem _);omega
 ·rintro ⟨h1,h2,h3,h4,h5,h6⟩
  refine ⟨h1,h2,h3,h4,h5,fun k hk=>?_⟩
  have h7:=h6 k hk
  have hrise:∀ (t i:Nat) (hi:i + t<x.L[j].seats.length),0<t→x.L[j].seats[i]'(by omega)<x.L[j].seats[i + t]:=fun t=>by
   induction t with
   |zero=>intro i hi h0;omega
   |succ t ih=>
    intro i hi _
    have h8:=(h6 (i + (t + 1)) hi).2.2
    rw [dif_pos (by omega)] at h8
    by_cases ht:t=0
    ·subst ht;exact h8
    ·have h9:=ih i (by omega) (by omega)
     have h8:x.L[j].seats[i + t]'(by omega)<x.L[j].seats[i + (t + 1)]:=h8
     omega
  refine ⟨fun hm=>?_,h7.2.1,fun h0=>by have h8:=h7.2.2;rw [dif_pos h0] at h8;exact h8⟩
  rcases List.mem_append.1 hm with hm|hm
  ·exact h7.1 hm
  ·obtain ⟨i,hi,he⟩:=List.getElem_of_mem hm
   rw [List.length_take] at hi
   rw [List.getElem_take] at he
   have hk':k<x.L[j].seats.length:=hk
   have hi:i<min k x.L[j].seats.length:=hi
   have he:x.L[j].seats[i]'(by omega)=x.L[j].seats[k]:=he
   have h9:=hrise (k - i) i (by omega) (by omega)
   have e:i + (k - i)=k:=by omega
   simp only [e] at h9
   omega
theorem at_good {x:Raw} (xi:RawIn x):∀ j,j≤x.L.length→(x.at j).2.2=lastO x j∧((x.at j).2.1=true→Tie (x.at j).1 (x.pre j)∧Good (x.pre j)∧∀ i (hi:i<x.L.length),i<j→OkAt x.rf i hi)
 |0,_=>by
  refine ⟨rfl,fun h=>?_⟩
  obtain ⟨h1,h2,h3,h4⟩:=fine0_iff.1 h
  refine ⟨tie_new,⟨⟨h1,xi.num⟩,h2,?_,h4,List.Pairwise.nil,fun h hh=>(by cases hh),List.Pairwise.nil⟩,fun i _ hi=>by omega⟩
  show nestOk _ (soldL _ [])=true
  rw [soldL_nil];exact nest_zero h3
 |j + 1,hj=>by
  have hj1:j<x.L.length:=by omega
  obtain ⟨i1,i2⟩:=at_good xi j (by omega)
  have hlast:lastO x (j + 1)=x.L[j].owner:=by unfold lastO;rw [dif_pos ⟨by omega,hj⟩];rfl
  rw [at_succ hj1,hlast]
  unfold stepD
  by_cases hc:(x.at j).2.1=true∧x.L[j].owner>(x.at j).2.2
  ·rw [if_pos hc]
   refine ⟨rfl,fun h=>?_⟩
   obtain ⟨t,g,hok⟩:=i2 hc.1
   rw [i1] at hc
   have hin:=xi.hs x.L[j] (List.getElem_mem _)
   have hlt:∀ y∈(x.pre j).L,y.owner<x.L[j].owner:=fun y hy=>by
    have hne:0<(x.pre j).L.length:=List.length_pos_iff.2 fun e=>by rw [e] at hy;cases hy
    refine owR_lt g.rise hne ?_ y hy
    have hl:(x.pre j).L.length=j:=by show (x.L.take j).length=j;rw [List.length_take];omega
    have h2:=hc.2
    unfold lastO at h2
    rw [dif_pos ⟨by omega,by omega⟩] at h2
    have h3:(x.pre j).L[(x.pre j).L.length - 1]=x.L[j - 1]:=by
     show (x.L.take j)[(x.L.take j).length - 1]'(by rw [List.length_take];omega)=_
     rw [List.getElem_take]
     congr 1
     rw [List.length_take];omega
    rw [h3];exact h2
   have ho1:1≤x.L[j].owner:=by
    have h2:=hc.2
    unfold lastO at h2
    split at h2
    ·have:=(xi.hs x.L[j - 1] (List.getElem_mem _)).o;omega
    ·omega
   obtain ⟨r1,r2⟩:=tie_restore t g hin ho1 hlt
   have e:{ x.pre j with L:=(x.pre j).L++[x.L[j]] }=x.pre (j + 1):=by
    unfold Raw.pre
    rw [List.take_add_one,List.getElem?_eq_getElem hj1];rfl
   have h5:=r2 h
   rw [e] at h5
   refine ⟨h5.1,h5.2,fun i hi hij=>?_⟩
   by_cases hie:i=j
   ·subst hie
    have ha:=r1.1 h
    refine (okAt_add xi hj1 hlt).2 ⟨ho1,fun h0=>?_,ha.c,ha.m,ha.n,ha.s⟩
    have h2:=hc.2
    unfold lastO at h2
    rw [dif_pos ⟨by omega,by omega⟩] at h2
    exact h2
   ·exact hok i hi (by omega)
  ·rw [if_neg hc]
   exact ⟨rfl,fun h=>by cases h⟩
theorem may_at {x:Raw} (xi:RawIn x) (m:MayP x.rf):∀ j,j≤x.L.length→(x.at j).2.1=true
 |0,_=>fine0_iff.2 ⟨m.num,m.lay,m.lim,m.l0⟩
 |j + 1,hj=>by
  have hj1:j<x.L.length:=by omega
  have ih:=may_at xi m j (by omega)
  obtain ⟨i1,i2⟩:=at_good xi j (by omega)
  obtain ⟨t,g,hok⟩:=i2 ih
  have hin:=xi.hs x.L[j] (List.getElem_mem _)
  have ok:=m.each j hj1
  rw [at_succ hj1]
  have hgt:x.L[j].owner>(x.at j).2.2:=by
   rw [i1]
   unfold lastO
   split
   ·rename_i h;exact ok.p h.1
   ·have:=ok.o;show 0<x.L[j].owner;exact this
  have hlt:∀ y∈(x.pre j).L,y.owner<x.L[j].owner:=fun y hy=>by
   have hne:0<(x.pre j).L.length:=List.length_pos_iff.2 fun e=>by rw [e] at hy;cases hy
   refine owR_lt g.rise hne ?_ y hy
   have hl:(x.pre j).L.length=j:=by show (x.L.take j).length=j;rw [List.length_take];omega
   have h3:(x.pre j).L[(x.pre j).L.length - 1]=x.L[j - 1]:=by
    show (x.L.take j)[(x.L.take j).length - 1]'(by rw [List.length_take];omega)=_
    rw [List.getElem_take]
    congr 1
    rw [List.length_take];omega
   rw [h3];exact ok.p (by omega)
  unfold stepD
  rw [if_pos ⟨ih,hgt⟩]
  refine (tie_restore t g hin ok.o hlt).1.2 ?_
  have ha:=(okAt_add xi hj1 hlt).1 ok
  refine ⟨ha.2.2.1,ha.2.2.2.1,ha.2.2.2.2.1,ha.2.2.2.2.2,?_⟩
  have e:(x.pre j).L++[x.L[j]]=x.L.take (j + 1):=by
   show x.L.take j++_=_
   rw [List.take_add_one,List.getElem?_eq_getElem hj1];rfl
  rw [e]
  show nestOk x.lims (soldL x.lims.length (x.L.take (j + 1)))=true
  refine nest_le m.nest (by show (soldL _ _).length=(soldL _ _).length;rw [soldL_len,soldL_len];rfl) fun k hk=>?_
  have hk:k<x.lims.length:=hk
  show 0≤(soldL x.lims.length (x.L.take (j + 1))).getD k 0∧(soldL x.lims.length (x.L.take (j + 1))).getD k 0≤(soldL x.lims.length x.L).getD k 0
  rw [soldL_getD hk,soldL_getD hk]
  have hmm:∀ y∈x.L,1≤y.many:=fun y hy=>by
   obtain ⟨i,hi,rfl⟩:=List.getElem_of_mem hy
   exact (m.each i hi).m
  refine ⟨cntL_nn fun y hy=>hmm y (List.mem_of_mem_take hy),?_⟩
  have h8:cntL (k:Int) x.L=cntL (k:Int) (x.L.take (j + 1)) + cntL (k:Int) (x.L.drop (j + 1)):=by rw [←cntL_app,List.take_append_drop]
  have h9:=cntL_nn (k:=(k:Int)) (L:=x.L.drop (j + 1)) fun y hy=>hmm y (List.mem_of_mem_drop hy)
  omega
theorem run_at (x:Raw):x.run=x.at x.L.length∧x.rf=x.pre x.L.length:=by
 constructor
 ·unfold Raw.run Raw.at;rw [List.take_length]
 ·unfold Raw.rf Raw.pre;rw [List.take_length]
theorem run_iff {x:Raw} (xi:RawIn x):(x.run.2.1=true↔MayP x.rf)∧(x.run.2.1=true→Tie x.run.1 x.rf∧Good x.rf):=by
 obtain ⟨e1,e2⟩:=run_at x
 have h:=(at_good xi x.L.length (Nat.le_refl _)).2
 rw [←e1,←e2] at h
 refine ⟨⟨fun hr=>?_,fun m=>by rw [e1];exact may_at xi m _ (Nat.le_refl _)⟩,fun hr=>⟨(h hr).1,(h hr).2.1⟩⟩
 obtain ⟨t,g,hok⟩:=h hr
 exact ⟨g.num.1,g.lay,(nestOk_iff.1 g.nest).1,g.l0,fun j hj=>hok j hj hj,g.nest⟩
theorem rawD_in {bs:List Int} (hb:∀ y∈bs,0≤y∧y<256):RawIn (rawD bs):=by
 have hb0:∀ y∈(⟨bs,false⟩:Rd).bs,0≤y∧y<256:=hb
 have h5:=rdNum_bd (most:=600) (nList_bd (most:=8) (each:=10000) (nList_bd (most:=4) (each:=10) (rdNum_bd (most:=60) (rdNum_bd (most:=9999) hb0))))
 exact ⟨(rdNum_val (most:=9999) hb0 (by omega)).2,(readHs_val _ h5).1⟩
end Go.Proofs.YtflgboncpbmikaaGreatDoor
/- A flight, plain: its bytes are it again. Condition: none. -/
namespace Go.Proofs.YtflgboncpbmikaaGreatDoor
set_option linter.unusedVariables false
set_option linter.unusedSimpArgs false
open Go Go.VC
theorem rdNum_code {n:Nat} {most:Int} {rest:List Int} (h:n<18446744073709551616) (hm:(n:Int)≤most):rdNum most ⟨numB n++rest,false⟩=((n:Int),⟨rest,false⟩):=by
 unfold rdNum
 rw [if_neg (by simp)]
 dsimp only
 rw [parse_num h]
 dsimp only
 rw [if_pos ⟨rfl,hm⟩,List.drop_left]
theorem rdNum_nums {x most:Int} {rest:List Int} (h0:0≤x) (h1:x≤most) (h2:x<18446744073709551616):rdNum most ⟨numsB [x]++rest,false⟩=(x,⟨rest,false⟩):=by
 obtain ⟨n,rfl⟩:=Int.eq_ofNat_of_zero_le h0
 have e:numsB [(n:Int)]=numB n:=by simp [numsB]
 rw [e]
 exact rdNum_code (by omega) h1
theorem nMany_nums {each:Int} (he:each<18446744073709551616) {rest:List Int}:∀ {l:List Int},(∀ x∈l,0≤x∧x≤each)→nMany l.length each ⟨numsB l++rest,false⟩=(l,⟨rest,false⟩)
 |[],_=>rfl
 |x::l,h=>by
  have h1:=h x List.mem_cons_self
  rw [numsB_one,List.append_assoc]
  show ((rdNum each _).1::(nMany l.length each (rdNum each _).2).1,(nMany l.length each (rdNum each _).2).2)=_
  rw [rdNum_nums h1.1 h1.2 (by omega)]
  dsimp only
  rw [nMany_nums he fun y hy=>h y (List.mem_cons_of_mem _ hy)]
theorem nList_list {most each:Int} (he:each<18446744073709551616) {rest l:List Int} (hl:(l.length:Int)≤most) (hm:most<18446744073709551616) (h:∀ x∈l,0≤x∧x≤each):nList most each ⟨listB l++rest,false⟩=(l,⟨rest,false⟩):=by
 unfold nList listB
 rw [List.append_assoc,rdNum_nums (by omega) hl (by omega)]
 exact nMany_nums he h
theorem readH_hold {h:Hold} (hin:HoldIn h) (rest:List Int):readH ⟨holdB h++rest,false⟩=(h,⟨rest,false⟩):=by
 have e:holdB h++rest=numsB [h.owner]++(numsB [h.cls]++(numsB [h.many]++(listB h.seats++rest))):=by
  unfold holdB
  rw [numsB_one h.owner,numsB_one h.cls]
  simp only [List.append_assoc]
 have:=hin.o
 have:=hin.c
 have:=hin.m
 have:=hin.n
 unfold readH
 rw [e,rdNum_nums (by omega) (by omega) (by omega)]
 dsimp only
 rw [rdNum_nums (by omega) (by omega) (by omega)]
 dsimp only
 rw [rdNum_nums (by omega) (by omega) (by omega)]
 dsimp only
 rw [nList_list (by omega) (by omega) (by omega) hin.s]
theorem readHs_holds {rest:List Int}:∀ {L:List Hold},(∀ h∈L,HoldIn h)→readHs L.length ⟨holdsB L++rest,false⟩=(L,⟨rest,false⟩)
 |[],_=>rfl
 |h::L,hin=>by
  have e:holdsB (h::L)++rest=holdB h++(holdsB L++rest):=by simp [holdsB]
  rw [e]
  show ((readH _).1::(readHs L.length (readH _).2).1,(readHs L.length (readH _).2).2)=_
  rw [readH_hold (hin h List.mem_cons_self)]
  dsimp only
  rw [readHs_holds fun x hx=>hin x (List.mem_cons_of_mem _ hx)]
variable {f:PF} {r:RF}
theorem good_in (g:Good r):∀ h∈r.L,HoldIn h:=fun h hh=>by
 have h1:=g.each h hh
 have h2:=g.len.2 h hh
 have h3:=(limOk_iff.1 (nestOk_iff.1 g.nest).1).1.2
 have h4:=(layN_bd r.rows r.grps).2
 have:=h1.owner
 have:=h1.cls
 have:=h1.many
 have:=h1.few
 exact ⟨by omega,by omega,by omega,fun x hx=>by have:=h1.seats x hx;omega,by omega⟩
theorem good_lims (g:Good r):(∀ x∈r.lims,0≤x∧x≤10000)∧1≤r.lims.length∧r.lims.length≤8:=by
 obtain ⟨h1,h2⟩:=limOk_iff.1 (nestOk_iff.1 g.nest).1
 refine ⟨fun x hx=>?_,h1⟩
 obtain ⟨i,hi,rfl⟩:=List.getElem_of_mem hx
 exact (h2 i hi).1
theorem rawD_enc (g:Good r):rawD (rencB r)=⟨r.num,r.rows,r.grps,r.lims,r.L,⟨[],false⟩⟩:=by
 obtain ⟨l1,l2,l3⟩:=layOk_iff.1 g.lay
 obtain ⟨m1,m2,m3⟩:=good_lims g
 have hlen:=g.len.1
 have hnum:=g.num
 have e:rencB r=numsB [r.num]++(numsB [r.rows]++(listB r.grps++(listB r.lims++(numsB [(r.L.length:Int)]++(holdsB r.L++[]))))):=by
  unfold rencB encB
  rw [numsB_one r.num]
  simp only [List.append_assoc,List.append_nil]
 unfold rawD
 rw [e]
 dsimp only
 rw [rdNum_nums (by omega) (by omega) (by omega)]
 dsimp only
 rw [rdNum_nums (by omega) (by omega) (by omega)]
 dsimp only
 rw [nList_list (by omega) (by omega) (by omega) (fun x hx=>by have:=l2 x hx;omega)]
 dsimp only
 rw [nList_list (by omega) (by omega) (by omega) m1]
 dsimp only
 rw [rdNum_nums (by omega) (by omega) (by omega)]
 dsimp only
 rw [show ((r.L.length:Int)).toNat=r.L.length from rfl,readHs_holds (good_in g)]
theorem good_may (g:Good r):MayP r:=by
 refine ⟨g.num.1,g.lay,(nestOk_iff.1 g.nest).1,g.l0,fun j hj=>?_,g.nest⟩
 have hh:=g.each r.L[j] (List.getElem_mem _)
 refine ⟨hh.owner.1,fun h0=>List.pairwise_iff_getElem.1 g.rise (j - 1) j (by omega) hj (by omega),hh.cls.2,hh.many,hh.few,fun k hk=>⟨fun hm=>?_,(hh.seats _ (List.getElem_mem _)).2,fun h0=>hh.rise (k - 1) k hk (by omega)⟩⟩
 rcases List.mem_append.1 hm with hm|hm
 ·obtain ⟨x,hx,hxm⟩:=mem_taken.1 hm
  obtain ⟨i,hi,rfl⟩:=List.getElem_of_mem hx
  rw [List.length_take] at hi
  rw [List.getElem_take] at hxm
  exact List.pairwise_iff_getElem.1 g.apart i j (by omega) hj (by omega) _ hxm (List.getElem_mem _)
 ·obtain ⟨i,hi,he⟩:=List.getElem_of_mem hm
  rw [List.length_take] at hi
  rw [List.getElem_take] at he
  have:=hh.rise i k hk (by omega)
  omega
theorem good_small (g:Good r):RSmall r:=by
 obtain ⟨l1,l2,l3⟩:=layOk_iff.1 g.lay
 obtain ⟨m1,m2,m3⟩:=good_lims g
 have hlen:=g.len.1
 have hnum:=g.num
 refine ⟨by omega,by omega,fun x hx=>by have:=l2 x hx;omega,fun x hx=>by have:=m1 x hx;omega,by omega,by omega,fun h hh=>?_,by omega⟩
 have hin:=good_in g h hh
 have:=hin.o
 have:=hin.c
 have:=hin.m
 have:=hin.n
 exact ⟨by omega,by omega,by omega,fun x hx=>by have:=hin.s x hx;omega,by omega⟩
theorem tie_small (t:Tie f r) (g:Good r):FSmall f:=by
 have s:=good_small g
 have b:=t.bounds g
 refine ⟨by rw [t.num];exact s.num,by rw [t.rows];exact s.rows,by rw [t.grps];exact s.grps,by rw [t.lims];exact s.lims,by omega,by omega,by rw [tie_holds t g.rise];exact s.hs,by omega⟩
theorem tie_enc (t:Tie f r) (g:Good r):encF f=rencB r:=by
 unfold encF rencB
 rw [t.num,t.rows,t.grps,t.lims,tie_holds t g.rise]
theorem renc_bd (g:Good r):(∀ y∈rencB r,0≤y∧y<256)∧(rencB r).length≤6000000:=by
 have s:=good_small g
 obtain ⟨l1,l2,l3⟩:=layOk_iff.1 g.lay
 obtain ⟨m1,m2,m3⟩:=good_lims g
 have hlen:=g.len.1
 have u2:small [r.num,r.rows]:=by intro y hy;have:=s.num;have:=s.rows;simp at hy;omega
 have u1:small [(r.L.length:Int)]:=by intro y hy;simp at hy;omega
 constructor
 ·intro y hy
  unfold rencB encB at hy
  simp only [List.mem_append] at hy
  rcases hy with (((hy|hy)|hy)|hy)|hy
  ·exact numsB_bd (small_u u2) y hy
  ·exact listB_bd s.grps (by omega) y hy
  ·exact listB_bd s.lims (by omega) y hy
  ·exact numsB_bd (small_u u1) y hy
  ·exact holdsB_bd s.hs y hy
 ·have h1:=numsB_len (small_u u2)
  have h2:=listB_len s.grps (by omega)
  have h3:=listB_len s.lims (by omega)
  have h4:=numsB_len (small_u u1)
  have h5:=holdsB_len s.hs
  simp only [List.length_cons,List.length_nil] at h1 h4
  unfold rencB encB
  simp only [List.length_append]
  omega
theorem dec_enc (g:Good r):∃ f',decF (rencB r)=some f'∧Tie f' r:=by
 have e:=rawD_enc g
 have hw:rdWhole (rawD (rencB r)).rd=true:=by rw [e];rfl
 have hrf:(rawD (rencB r)).rf=r:=by rw [e];rfl
 obtain ⟨r1,r2⟩:=run_iff (rawD_in (renc_bd g).1)
 rw [hrf] at r1 r2
 have hr:=r1.2 (good_may g)
 exact ⟨_,by unfold decF;rw [if_pos ⟨hw,hr⟩],(r2 hr).1⟩
end Go.Proofs.YtflgboncpbmikaaGreatDoor
/- Package field: bytes with their length; a reader's Text. Condition: bounds on lengths. -/
namespace Go.Proofs.YtflgboncpbmikaaGreatDoor
set_option linter.unusedVariables false
set_option linter.unusedSimpArgs false
open Go Go.VC
variable {R:Cx} {Hs Rest:List HP} {w:World}
theorem ftext_spec {s:Sl} {bs:List Int} (hs:Ro R s (b8 bs)) (hl:bs.length≤1099511627776) (hw:Sat R Hs w):
  Gets Tryz.prog 19 #[.slice s.a s.len s.cap] w fun v w'=>∃ t:Sl,v=.slice t.a t.len t.cap∧Sat R (Own t 5 (b8 (textB bs))::Hs) w':=by
 have hlen:s.len=bs.length:=by have:=hs.len;simpa using this
 apply call19
 unfold B19
 rw [wrapU64 (by omega) (by omega),hlen]
 refine (number_spec (by omega) hw).use ?_
 rintro _ w ⟨t,rfl,hw⟩
 refine ⟨t,rfl,?_⟩
 rw [←hlen]
 have hn:=numB_len (n:=bs.length) (by omega)
 have hsrc:Src Tryz.prog 1 22 (.slice s.a s.len s.cap) bs.length (b8 bs) w:=by
  have:=srcRo Tryz.underlying22 hw hs (one_b8 _)
  simpa using this
 refine append_rule elB8 (s:=t) hw hsrc (one_b8 _) (by rw [List.length_map];omega) (by rw [List.length_map];omega) fun s2 w hw=>?_
 exact ⟨s2,rfl,by simpa [b8,textB] using hw⟩
theorem text1_spec {h:Heap} {l bm bo:Nat} {s:Sl} {bs:List Int} {most:Int} (hm:most<9223372036854775808) (hl:bs.length≤1099511627776) (hb:∀ x∈bs,0≤x∧x<256) (hsub:∀ b o,h b=some o→R.m b=some o) (hr:SlR h s (b8 bs))
  (hw:Sat R (lp l s::lp bo ⟨none,0,0⟩::pts bm (.cells [.int .i64 most].toArray 3 (0,0))::Hs) w):
  GetsX Tryz.prog 38 #[.pointer (some ⟨l,0,none⟩),.pointer (some ⟨bm,0,none⟩),.pointer (some ⟨bo,0,none⟩)] w
   (fun ch w'=>ch=amissP∧(∀ n k,parse bs=some (n,false,k)→¬ (0≤most∧n≤most∧n≤(bs.length:Int) - k))∧∃ s',Sat R (lp l s'::lp bo ⟨none,0,0⟩::pts bm (.cells [.int .i64 most].toArray 3 (0,0))::Hs) w')
   (fun v w'=>v=.tuple #[]∧∃ n k s' t,parse bs=some (n,false,k)∧(0≤most∧n≤most∧n≤(bs.length:Int) - k)∧SlR h s' (b8 (bs.drop (k + n.toNat)))∧
    Sat R (lp l s'::lp bo t::Own t 5 (b8 ((bs.drop k).take n.toNat))::pts bm (.cells [.int .i64 most].toArray 3 (0,0))::Hs) w'):=by
 apply call38
 refine (fsize_spec hb hsub hr hw).use ?_ ?_
 rotate_left
 ·rintro _ w ⟨hp,rfl,s',hw⟩
  refine .inr ⟨_,rfl,rfl,?_,s',hw⟩
  intro n k h;rw [hp] at h;cases h
 rintro _ w ⟨n,neg,k,s',hp,rfl,hs',hw⟩
 obtain ⟨n0,n1,k0,k1,k2⟩:=parse_bd hb hp
 have no:(∀ n' k',parse bs=some (n',false,k')→¬ (0≤most∧n'≤most∧n'≤(bs.length:Int) - k'))→∀ {A:Prop} {e:Ending},(e=.panicked amissP)→(e=.returned (.tuple #[])∧A)∨∃ ch,e=.panicked ch∧ch=amissP∧(∀ n k,parse bs=some (n,false,k)→¬ (0≤most∧n≤most∧n≤(bs.length:Int) - k))∧∃ s',Sat R (lp l s'::lp bo ⟨none,0,0⟩::pts bm (.cells [.int .i64 most].toArray 3 (0,0))::Hs) w:=fun h A e he=>
  .inr ⟨_,he,rfl,h,s',hw⟩
 have same:∀ n' k',parse bs=some (n',false,k')→neg=false∧n'=n∧k'=k:=fun n' k' h=>by
  rw [hp] at h
  simp only [Option.some.injEq,Prod.mk.injEq] at h
  exact ⟨h.2.1,h.1.symm,h.2.2.symm⟩
 refine .inl ⟨n,neg,rfl,Br.nb (fun h=>?_) (fun h=>?_)⟩
 rotate_left
 ·refine must_c (fun h=>by cases h) (fun _=>no (fun n' k' h'=>?_) rfl)
  rw [(same n' k' h').1] at h;cases h
 subst h
 have hw2:Sat R (pts bm (.cells [.int .i64 most].toArray 3 (0,0))::lp l s'::lp bo ⟨none,0,0⟩::Hs) w:=hw.arr
 refine NilP.mk rfl ⟨most,At.own (eqS hw2) (by exact ⟨rfl,trivial⟩),Br.d (fun h1=>?_) (fun h1=>?_)⟩
 rotate_left
 ·refine must_c (fun h=>by cases h) (fun _=>no (fun n' k' h' h2=>by omega) rfl)
 refine NilP.mk rfl ⟨most,At.own (eqS hw2) (by exact ⟨rfl,trivial⟩),?_⟩
 rw [wrapU64 (by omega) (by omega)]
 refine Br.d (fun h2=>?_) (fun h2=>?_)
 rotate_left
 ·refine must_c (fun h=>by cases h) (fun _=>no (fun n' k' h' h3=>by have:=(same n' k' h').2.1;omega) rfl)
 have hsl:s'.len=bs.length - k:=by have:=hs'.len;simpa using this
 refine NilP.mk rfl ⟨s',At.own (eqS hw) (by exact ⟨rfl,trivial⟩),?_⟩
 rw [wrapU64 (by omega) (by omega),hsl]
 refine must_c (fun h3=>.inl ⟨rfl,?_⟩) (fun h3=>?_)
 rotate_left
 ·have h3:=of_decide_eq_false h3
  refine no (fun n' k' h' h4=>?_) rfl
  have:=same n' k' h'
  omega
 have h3:=of_decide_eq_true h3
 rw [wrap64 (by omega) (by omega)]
 obtain ⟨m,rfl⟩:=Int.eq_ofNat_of_zero_le n0
 have hm':SlR R.m s' (b8 (bs.drop k)):=hs'.mono hsub
 refine (take_spec (k:=m) hm' hw).use ?_ ?_
 rotate_left
 ·rintro _ w ⟨h4,_⟩
  simp at h4;omega
 rintro _ w ⟨_,rfl,hw⟩
 refine .inl ⟨⟨s'.a,m,s'.cap⟩,rfl,?_⟩
 have ht:SlR R.m ⟨s'.a,m,s'.cap⟩ (b8 ((bs.drop k).take m)):=by
  have:=hm'.take (k:=m) (by simp;omega)
  rwa [←List.map_take] at this
 refine (clone_spec (s:=⟨s'.a,m,s'.cap⟩) (ht.ro (by simp;omega)) (by simp;omega) hw).use ?_
 rintro _ w ⟨t,rfl,hw⟩
 refine .inl ⟨t,rfl,?_⟩
 have hw:Sat R (lp bo ⟨none,0,0⟩::Own t 5 (b8 ((bs.drop k).take m))::lp l (sdrop s' m)::pts bm (.cells [.int .i64 most].toArray 3 (0,0))::Hs) w:=hw.arr
 refine store_rule hw (by kernel_rfl) rfl (by simp [Value.cells]) fun w hw=>?_
 have hw:=hw.re (lp bo t)
 refine ⟨rfl,m,k,sdrop s' m,t,hp,⟨by omega,h2,by omega⟩,?_,?_⟩
 ·have:=hs'.drop (k:=m) (by simp;omega)
  rw [←List.map_drop,List.drop_drop] at this
  exact this
 ·rw [Int.toNat_natCast];exact hw.arr
theorem rtext_spec {r:Nat} {rd:Rd} {most:Int} (hm:most<9223372036854775808) (hl:rd.bs.length≤1099511627776) (hb:∀ x∈rd.bs,0≤x∧x<256) (hw:Sat R (RdAt r rd::Hs) w):
  Gets Tryz.prog 22 #[.pointer (some ⟨r,0,none⟩),.int .i64 most] w fun v w'=>∃ t:Sl,v=.slice t.a t.len t.cap∧Sat R (Own t 5 (b8 (rdText most rd).1)::RdAt r (rdText most rd).2::Hs) w':=by
 apply call22
 refine new_rule hw fun bm w hw=>new_rule hw fun bo w hw=>?_
 have hw:Sat R (RdAt r rd::lp bo ⟨none,0,0⟩::pts bm (.cells [.int .i64 most].toArray 3 (0,0))::Hs) w:=by
  have hw:Sat R (lp bo ⟨none,0,0⟩::pts bm (.cells [.int .i64 most].toArray 3 (0,0))::RdAt r rd::Hs) w:=hw
  exact hw.arr
 refine (reading_spec (α:=(Int × Nat) × Sl) (f:=fun y=>rd.bs.drop (y.1.2 + y.1.1.toNat)) (G:=fun y=>parse rd.bs=some (y.1.1,false,y.1.2)∧(0≤most∧y.1.1≤most∧y.1.1≤(rd.bs.length:Int) - y.1.2)) (N:=∀ n k,parse rd.bs=some (n,false,k)→¬ (0≤most∧n≤most∧n≤(rd.bs.length:Int) - k))
  (Hs1:=fun y=>lp bo y.2::Own y.2 5 (b8 ((rd.bs.drop y.1.2).take y.1.1.toNat))::pts bm (.cells [.int .i64 most].toArray 3 (0,0))::Hs)
  (Hs2:=lp bo ⟨none,0,0⟩::pts bm (.cells [.int .i64 most].toArray 3 (0,0))::Hs) hw ?_).use ?_
 ·intro _ x l s A B w hsub hs hw
  refine CalW.mk (by kernel_rfl) ?_
  have hw2:Sat (R.add x) (lp l s::lp bo ⟨none,0,0⟩::pts bm (.cells [.int .i64 most].toArray 3 (0,0))::A::B::Hs) w:=hw.arr
  refine (text1_spec (h:=x) hm hl hb hsub hs hw2).use ?_ ?_
  ·rintro _ w ⟨rfl,n,k,s',t,hp,hn,hs',hw⟩
   exact .inl ⟨rfl,((n,k),t),s',⟨hp,hn⟩,hs',hw.arr⟩
  ·rintro _ w ⟨rfl,hn,s',hw⟩
   exact .inr ⟨rfl,hn,s',hw.arr⟩
 ·rintro _ w ⟨rfl,h⟩
  refine ⟨rfl,?_⟩
  rcases h with ⟨hbad,hw⟩|⟨hbad,⟨⟨n,k⟩,t⟩,⟨hp,hn⟩,hw⟩|⟨hbad,hno,hw⟩
  ·have hw:Sat R (lp bo ⟨none,0,0⟩::RdAt r rd::pts bm (.cells [.int .i64 most].toArray 3 (0,0))::Hs) w:=hw.swap
   refine ⟨⟨none,0,0⟩,At.own (eqS hw) (by exact ⟨rfl,trivial⟩),?_⟩
   unfold rdText
   rw [if_pos hbad]
   exact ⟨_,rfl,Own.nil (hw.drop.cons fun _ h=>h.drop)⟩
  ·have hw:Sat R (lp bo t::Own t 5 (b8 ((rd.bs.drop k).take n.toNat))::RdAt r ⟨rd.bs.drop (k + n.toNat),false⟩::pts bm (.cells [.int .i64 most].toArray 3 (0,0))::Hs) w:=hw.arr
   refine ⟨t,At.own (eqS hw) (by exact ⟨rfl,trivial⟩),?_⟩
   unfold rdText
   rw [if_neg (by rw [hbad];simp),hp]
   simp only
   rw [if_pos ⟨trivial,hn⟩]
   exact ⟨_,rfl,hw.drop.cons fun _ h=>h.cons fun _ h=>h.drop⟩
  ·have hw:Sat R (lp bo ⟨none,0,0⟩::RdAt r ⟨rd.bs,true⟩::pts bm (.cells [.int .i64 most].toArray 3 (0,0))::Hs) w:=hw.swap
   refine ⟨⟨none,0,0⟩,At.own (eqS hw) (by exact ⟨rfl,trivial⟩),?_⟩
   have e:rdText most rd=([],⟨rd.bs,true⟩):=by
    unfold rdText
    rw [if_neg (by rw [hbad];simp)]
    cases hp:parse rd.bs with
    |none=>rfl
    |some p=>
     obtain ⟨n,neg,k⟩:=p
     simp only
     rw [if_neg]
     rintro ⟨rfl,h⟩
     exact hno n k hp h
   rw [e]
   exact ⟨_,rfl,Own.nil (hw.drop.cons fun _ h=>h.drop)⟩
theorem rdText_bd {most:Int} {rd:Rd} (hb:∀ x∈rd.bs,0≤x∧x<256):(∀ x∈(rdText most rd).1,0≤x∧x<256)∧(∀ x∈(rdText most rd).2.bs,0≤x∧x<256):=by
 unfold rdText
 split
 ·exact ⟨by simp,hb⟩
 ·split
  ·split
   ·exact ⟨fun x hx=>hb x (List.mem_of_mem_drop (List.mem_of_mem_take hx)),fun x hx=>hb x (List.mem_of_mem_drop hx)⟩
   ·exact ⟨by simp,hb⟩
  ·exact ⟨by simp,hb⟩
theorem rdText_len {most:Int} {rd:Rd}:(rdText most rd).1.length≤rd.bs.length∧(rdText most rd).2.bs.length≤rd.bs.length:=by
 unfold rdText
 split
 ·simp
 ·split
  ·split
   ·simp;omega
   ·simp
  ·simp
theorem rdNum_len {most:Int} {rd:Rd}:(rdNum most rd).2.bs.length≤rd.bs.length:=by
 unfold rdNum
 split
 ·simp
 ·split
  ·split
   ·simp
   ·simp
  ·simp
end Go.Proofs.YtflgboncpbmikaaGreatDoor
/- Floats, plain, part 4: how any two stand to each other, by one integer each. No program. No condition. -/
namespace Go.VC
set_option linter.unusedVariables false
set_option linter.unusedSimpArgs false
open Ieee
def bigF:Int:=2 ^ 2200
def valD:Datum→Option Int
 | .nan ..=>none
 | .infinity s=>some (if s then -bigF else bigF)
 | .number s m i=>some (signed s m (i + 1074).toNat)
theorem signed_eq (s:Bool) (m k:Nat):signed s m k=(if s then -1 else 1) * ((m:Int) * 2 ^ k):=by
 unfold signed
 cases s<;>simp [Nat.shiftLeft_eq]
theorem cmp_scale {a b:Int} {c:Int} (h:0<c):compare (a * c) (b * c)=compare a b:=by
 simp only [compare,compareOfLessAndEq]
 have h1:a * c<b * c↔a<b:=⟨fun h2=>Int.lt_of_mul_lt_mul_right h2 (by omega),fun h2=>Int.mul_lt_mul_of_pos_right h2 h⟩
 have h2:a * c=b * c↔a=b:=⟨fun h3=>Int.eq_of_mul_eq_mul_right (by omega) h3,fun h3=>by rw [h3]⟩
 simp only [h1,h2]
theorem signed_up (s:Bool) (m k c:Nat):signed s m (k + c)=signed s m k * 2 ^ c:=by
 rw [signed_eq,signed_eq,Int.pow_add]
 rw [Int.mul_assoc,Int.mul_assoc]
theorem read_bd {x:Nat} {s:Bool} {m:Nat} {i:Int} (h:double.read x=.number s m i):(-1074≤i∧i≤971)∧m<2 ^ 53:=by
 unfold Format.read at h
 simp only [dbl_binade,dbl_inf,dbl_least,dbl_sign] at h
 split at h
 ·rename_i hr
  simp only [Datum.number.injEq] at h
  obtain ⟨_,rfl,rfl⟩:=h
  exact ⟨⟨by omega,by omega⟩,by omega⟩
 ·split at h
  ·rename_i hr
   simp only [Datum.number.injEq] at h
   obtain ⟨_,rfl,rfl⟩:=h
   refine ⟨⟨by omega,?_⟩,by omega⟩
   have:x % 9223372036854775808 / 4503599627370496≤2046:=by omega
   omega
  ·split at h<;>cases h
theorem int_pow (n:Nat):(2:Int) ^ n=((2 ^ n:Nat):Int):=by rw [Int.natCast_pow];rfl
theorem big_pos (n:Nat):(0:Int)<2 ^ n:=Int.pow_pos (by omega)
theorem pow_bd {m k n N:Nat} (hm:m<2 ^ 53) (hk:k≤n) (hN:53 + n<N):m * 2 ^ k<2 ^ N:=by
 have h1:m * 2 ^ k≤2 ^ 53 * 2 ^ n:=Nat.mul_le_mul (by omega) (Nat.pow_le_pow_right (by omega) hk)
 rw [←Nat.pow_add] at h1
 exact Nat.lt_of_le_of_lt h1 (Nat.pow_lt_pow_right (by omega) hN)
theorem val_bd {x:Nat} {s:Bool} {m:Nat} {i:Int} (h:double.read x=.number s m i): -bigF<signed s m (i + 1074).toNat∧signed s m (i + 1074).toNat<bigF:=by
 obtain ⟨⟨h1,h2⟩,h3⟩:=read_bd h
 have hk:(i + 1074).toNat≤2045:=by omega
 have hp:m * 2 ^ (i + 1074).toNat<2 ^ 2200:=pow_bd (N:=2200) (n:=2045) h3 hk (by omega)
 have hp2:((m * 2 ^ (i + 1074).toNat:Nat):Int)<bigF:=by
  unfold bigF
  rw [int_pow]
  exact Int.ofNat_lt.2 hp
 have hb:(0:Int)<bigF:=by unfold bigF;exact big_pos 2200
 have e:signed s m (i + 1074).toNat=if s then -((m * 2 ^ (i + 1074).toNat:Nat):Int) else ((m * 2 ^ (i + 1074).toNat:Nat):Int):=by
  unfold signed;rw [Nat.shiftLeft_eq]
 rw [e]
 generalize m * 2 ^ (i + 1074).toNat=n at *
 cases s<;>simp<;>omega
theorem ord_val (x y:Nat):double.order x y=match valD (double.read x),valD (double.read y) with
  |some a,some b=>some (compare a b)
  |_,_=>none:=by
 have hb:(0:Int)<bigF:=by unfold bigF;exact big_pos 2200
 have lt_cmp:∀ a b:Int,a<b→compare a b=.lt:=fun a b h=>by simp only [compare,compareOfLessAndEq,if_pos h]
 have gt_cmp:∀ a b:Int,b<a→compare a b=.gt:=fun a b h=>by simp only [compare,compareOfLessAndEq];rw [if_neg (by omega),if_neg (by omega)]
 have eq_cmp:∀ a:Int,compare a a=.eq:=fun a=>by simp [compare,compareOfLessAndEq]
 unfold Format.order
 cases hx:double.read x with
 |nan s t=>cases double.read y<;>rfl
 |infinity s=>
  cases hy:double.read y with
  |nan=>rfl
  |infinity t=>
   show some (compare t.toNat s.toNat)=some (compare (if s then -bigF else bigF) (if t then -bigF else bigF))
   cases s<;>cases t
   ·simp only [Bool.false_eq_true,if_false];rw [eq_cmp];rfl
   ·simp only [Bool.false_eq_true,if_false,if_true];rw [gt_cmp _ _ (by omega)];rfl
   ·simp only [Bool.false_eq_true,if_false,if_true];rw [lt_cmp _ _ (by omega)];rfl
   ·simp only [if_true];rw [eq_cmp];rfl
  |number t n j=>
   have:=val_bd hy
   show some (if s then Ordering.lt else .gt)=some (compare (if s then -bigF else bigF) (signed t n (j + 1074).toNat))
   cases s
   ·simp only [Bool.false_eq_true,if_false];rw [gt_cmp _ _ (by omega)]
   ·simp only [if_true];rw [lt_cmp _ _ (by omega)]
 |number s m i=>
  cases hy:double.read y with
  |nan=>rfl
  |infinity t=>
   have:=val_bd hx
   show some (if t then Ordering.gt else .lt)=some (compare (signed s m (i + 1074).toNat) (if t then -bigF else bigF))
   cases t
   ·simp only [Bool.false_eq_true,if_false];rw [lt_cmp _ _ (by omega)]
   ·simp only [if_true];rw [gt_cmp _ _ (by omega)]
  |number t n j=>
   obtain ⟨⟨i1,i2⟩,_⟩:=read_bd hx
   obtain ⟨⟨j1,j2⟩,_⟩:=read_bd hy
   show some (compare (signed s m (i - min i j).toNat) (signed t n (j - min i j).toNat))=some (compare (signed s m (i + 1074).toNat) (signed t n (j + 1074).toNat))
   have e1:(i + 1074).toNat=(i - min i j).toNat + (min i j + 1074).toNat:=by omega
   have e2:(j + 1074).toNat=(j - min i j).toNat + (min i j + 1074).toNat:=by omega
   rw [e1,e2,signed_up,signed_up,cmp_scale (Int.pow_pos (by omega))]
def kvF (x:Nat):Int:=match valD (double.read x) with|none=>-bigF - 1|some v=>v
def nanF (x:Nat):Bool:=(valD (double.read x)).isNone
theorem kv_bd {x:Nat} (h:nanF x=false): -bigF≤kvF x:=by
 have hb:(0:Int)<bigF:=by unfold bigF;exact big_pos 2200
 unfold nanF at h
 unfold kvF
 cases hr:double.read x with
 |nan s t=>rw [hr] at h;cases h
 |infinity s=>
  show -bigF≤if s then -bigF else bigF
  split<;>omega
 |number s m i=>have:=(val_bd hr).1;show -bigF≤signed s m (i + 1074).toNat;omega
theorem kv_nan {x:Nat} (h:nanF x=true):kvF x=-bigF - 1:=by
 unfold nanF at h
 unfold kvF
 cases hv:valD (double.read x) with
 |none=>rfl
 |some v=>rw [hv] at h;cases h
theorem ord_lt {x y:Nat} (hx:nanF x=false) (hy:nanF y=false):(double.order x y==some .lt)=decide (kvF x<kvF y)∧(double.order x y==some .eq)=decide (kvF x=kvF y)∧(double.order x y==some .gt)=decide (kvF y<kvF x):=by
 rw [ord_val]
 unfold nanF at hx hy
 unfold kvF
 cases hvx:valD (double.read x) with
 |none=>rw [hvx] at hx;cases hx
 |some a=>
  cases hvy:valD (double.read y) with
  |none=>rw [hvy] at hy;cases hy
  |some b=>
   dsimp only
   simp only [compare,compareOfLessAndEq]
   by_cases h1:a<b
   ·rw [if_pos h1]
    refine ⟨by rw [decide_eq_true h1];rfl,by rw [decide_eq_false (by omega)];rfl,by rw [decide_eq_false (by omega)];rfl⟩
   ·rw [if_neg h1]
    by_cases h2:a=b
    ·rw [if_pos h2]
     refine ⟨by rw [decide_eq_false h1];rfl,by rw [decide_eq_true h2];rfl,by rw [decide_eq_false (by omega)];rfl⟩
    ·rw [if_neg h2]
     refine ⟨by rw [decide_eq_false h1];rfl,by rw [decide_eq_false h2];rfl,by rw [decide_eq_true (by omega)];rfl⟩
theorem ord_none {x y:Nat} (h:nanF x=true∨nanF y=true):double.order x y=none:=by
 rw [ord_val]
 unfold nanF at h
 cases hvx:valD (double.read x) with
 |none=>rfl
 |some a=>
  cases hvy:valD (double.read y) with
  |none=>rfl
  |some b=>rw [hvx,hvy] at h;simp at h
theorem ord_self (x:Nat):(double.order x x==some .eq)=!nanF x:=by
 cases h:nanF x with
 |true=>rw [ord_none (.inl h)];rfl
 |false=>rw [(ord_lt h h).2.1];simp
def rankF (a b:Nat):Int:=if kvF a<kvF b then -1 else if kvF a=kvF b then 0 else 1
end Go.VC
/- Who waits, plainly: their order, putting in, taking out, the first that fits. No condition. -/
namespace Go.VC
set_option linter.unusedVariables false
set_option linter.unusedSimpArgs false
def keyF (b:Nat):Nat:=if b<9223372036854775808 then b + 9223372036854775808 else 18446744073709551615 - b
def ofF (k:Nat):Nat:=if 9223372036854775808≤k then k - 9223372036854775808 else 18446744073709551615 - k
theorem key_lt {b:Nat} (h:b<18446744073709551616):keyF b<18446744073709551616:=by
 unfold keyF
 split<;>omega
theorem of_lt {k:Nat} (h:k<18446744073709551616):ofF k<18446744073709551616:=by
 unfold ofF
 split<;>omega
structure Wt where
 id:Int
 cls:Int
 many:Int
 time:Int
 sc:Nat
deriving DecidableEq
def Wt.Ok (w:Wt):Prop:=(1≤w.id∧w.id≤28629151)∧(0≤w.cls∧w.cls≤7)∧(1≤w.many∧w.many≤600)∧(0≤w.time∧w.time≤1099511627776)
instance (w:Wt):Decidable w.Ok:=by unfold Wt.Ok;infer_instance
def Wt.ahead (a b:Wt):Bool:=if kvF a.sc=kvF b.sc then (if a.time=b.time then decide (a.id<b.id) else decide (a.time<b.time)) else decide (kvF b.sc<kvF a.sc)
theorem ahead_iff {a b:Wt}:a.ahead b=true↔kvF b.sc<kvF a.sc∨kvF a.sc=kvF b.sc∧(a.time<b.time∨a.time=b.time∧a.id<b.id):=by
 unfold Wt.ahead
 split
 ·split
  ·simp;omega
  ·simp;omega
 ·simp;omega
theorem ahead_trans {a b c:Wt} (h1:a.ahead b=true) (h2:b.ahead c=true):a.ahead c=true:=by
 rw [ahead_iff] at *;omega
theorem ahead_tot {a b:Wt} (h:a.id≠b.id) (h1:a.ahead b=false):b.ahead a=true:=by
 rw [ahead_iff]
 have:¬ a.ahead b=true:=by rw [h1];simp
 rw [ahead_iff] at this
 omega
def Wt.ord (a b:Wt):Int:=if rankF b.sc a.sc≠0 then rankF b.sc a.sc else if a.time<b.time then -1 else if b.time<a.time then 1 else if a.id<b.id then -1 else if b.id<a.id then 1 else 0
theorem ord_neg {a b:Wt}:a.ord b<0↔a.ahead b=true:=by
 rw [ahead_iff]
 unfold Wt.ord rankF
 repeat' split
 all_goals first|omega|(simp at *;omega)
def QSt (q:List Wt):Prop:=q.Pairwise fun a b=>a.ahead b=true
def QIds (q:List Wt):Prop:=q.Pairwise fun a b=>a.id≠b.id
structure QOk (q:List Wt):Prop where
 st:QSt q
 ids:QIds q
 ok:∀ w∈q,w.Ok
 fl:∀ w∈q,w.sc<18446744073709551616
 len:q.length≤200
theorem QOk.nil:QOk []:=⟨List.Pairwise.nil,List.Pairwise.nil,fun _ h=>(by cases h),fun _ h=>(by cases h),by simp⟩
def insQ (w:Wt) (q:List Wt):List Wt:=q.takeWhile (fun a=>a.ahead w)++w::q.dropWhile (fun a=>a.ahead w)
theorem insQ_cons (w a:Wt) (q:List Wt):insQ w (a::q)=if a.ahead w then a::insQ w q else w::a::q:=by
 unfold insQ
 rw [List.takeWhile_cons,List.dropWhile_cons]
 split<;>rfl
theorem insQ_mem {w x:Wt}:∀ {q:List Wt},x∈insQ w q↔x=w∨x∈q
 |[]=>by simp [insQ]
 |a::q=>by
  rw [insQ_cons]
  split
  ·rw [List.mem_cons,insQ_mem,List.mem_cons]
   constructor
   ·rintro (h|h|h)<;>simp [h]
   ·rintro (h|h|h)<;>simp [h]
  ·rw [List.mem_cons]
theorem insQ_len {w:Wt}:∀ {q:List Wt},(insQ w q).length=q.length + 1
 |[]=>rfl
 |a::q=>by
  rw [insQ_cons]
  split
  ·rw [List.length_cons,insQ_len,List.length_cons]
  ·rfl
theorem insQ_st {w:Wt}:∀ {q:List Wt},QSt q→(∀ x∈q,x.id≠w.id)→QSt (insQ w q)
 |[],_,_=>List.Pairwise.cons (fun _ h=>(by cases h)) List.Pairwise.nil
 |a::q,h,hid=>by
  have h1:=List.pairwise_cons.1 h
  rw [insQ_cons]
  split
  ·rename_i ha
   refine List.Pairwise.cons (fun x hx=>?_) (insQ_st h1.2 fun x hx=>hid x (by simp [hx]))
   rcases insQ_mem.1 hx with rfl|hx
   ·exact ha
   ·exact h1.1 x hx
  ·rename_i ha
   have hwa:w.ahead a=true:=ahead_tot (hid a (by simp)) (by simpa using ha)
   refine List.Pairwise.cons (fun x hx=>?_) h
   rcases List.mem_cons.1 hx with rfl|hx
   ·exact hwa
   ·exact ahead_trans hwa (h1.1 x hx)
theorem insQ_ids {w:Wt}:∀ {q:List Wt},QIds q→(∀ x∈q,x.id≠w.id)→QIds (insQ w q)
 |[],_,_=>List.Pairwise.cons (fun _ h=>(by cases h)) List.Pairwise.nil
 |a::q,h,hid=>by
  have h1:=List.pairwise_cons.1 h
  rw [insQ_cons]
  split
  ·refine List.Pairwise.cons (fun x hx=>?_) (insQ_ids h1.2 fun x hx=>hid x (by simp [hx]))
   rcases insQ_mem.1 hx with rfl|hx
   ·exact hid a (by simp)
   ·exact h1.1 x hx
  ·refine List.Pairwise.cons (fun x hx=>?_) h
   exact fun e=>hid x hx e.symm
theorem insQ_at {w:Wt} {q:List Wt} {i:Nat} (hst:QSt q) (h1:i=0∨∃ h:i - 1<q.length,q[i - 1].ahead w=true) (h2:∀ h:i<q.length,q[i].ahead w=false) (hi:i≤q.length):insQ w q=q.take i++w::q.drop i:=by
 induction q generalizing i with
 |nil=>cases i with
  |zero=>rfl
  |succ n=>simp at hi
 |cons a q ih=>
  have hp:=List.pairwise_cons.1 hst
  rw [insQ_cons]
  cases i with
  |zero=>rw [if_neg (by have:=h2 (by simp);simp at this;simp [this])];rfl
  |succ n=>
   have ha:a.ahead w=true:=by
    rcases h1 with h1|⟨hl,h1⟩
    ·omega
    ·cases n with
     |zero=>simpa using h1
     |succ m=>
      have hm:m<q.length:=by simp at hl;omega
      exact ahead_trans (hp.1 q[m] (List.getElem_mem hm)) (by simpa using h1)
   rw [if_pos ha,ih hp.2 ?_ (fun hl=>by have:=h2 (by simp;omega);simpa using this) (by simp at hi;exact hi)]
   ·rfl
   ·cases n with
    |zero=>exact .inl rfl
    |succ m=>
     refine .inr ⟨by simp at hi;omega,?_⟩
     rcases h1 with h1|⟨hl,h1⟩
     ·omega
     ·simpa using h1
def hasQ (id:Int) (q:List Wt):Bool:=q.any fun w=>decide (w.id=id)
def qadd (q:List Wt) (w:Wt):List Wt × Int:=
 if ¬ w.Ok then (q,1) else if hasQ w.id q then (q,7) else if 200≤q.length then (q,3) else (insQ w q,0)
def delQ (id:Int):List Wt→List Wt
 |[]=>[]
 |w::q=>if w.id=id then q else w::delQ id q
def qrem (q:List Wt) (id:Int):List Wt × Int:=if hasQ id q then (delQ id q,0) else (q,2)
theorem hasQ_iff {id:Int} {q:List Wt}:hasQ id q=true↔∃ w∈q,w.id=id:=by
 unfold hasQ
 simp
theorem hasQ_no {id:Int} {q:List Wt}:hasQ id q=false↔∀ w∈q,w.id≠id:=by
 unfold hasQ
 simp
theorem delQ_sub {id:Int}:∀ {q:List Wt},(delQ id q).Sublist q
 |[]=>List.Sublist.refl _
 |w::q=>by
  show (if w.id=id then q else w::delQ id q).Sublist _
  split
  ·exact List.sublist_cons_self _ _
  ·exact delQ_sub.cons_cons _
theorem delQ_split {id:Int}:∀ {q:List Wt},hasQ id q=true→∃ A w C,q=A++w::C∧w.id=id∧(∀ x∈A,x.id≠id)∧delQ id q=A++C
 |[],h=>by cases h
 |w::q,h=>by
  by_cases e:w.id=id
  ·exact ⟨[],w,q,rfl,e,fun _ h=>(by cases h),by show (if w.id=id then q else _)=_;rw [if_pos e];rfl⟩
  ·have h2:hasQ id q=true:=by
    rw [hasQ_iff] at *
    obtain ⟨x,hx,hi⟩:=h
    rcases List.mem_cons.1 hx with rfl|hx
    ·exact absurd hi e
    ·exact ⟨x,hx,hi⟩
   obtain ⟨A,x,C,rfl,hx,hA,hd⟩:=delQ_split h2
   refine ⟨w::A,x,C,rfl,hx,fun y hy=>?_,?_⟩
   ·rcases List.mem_cons.1 hy with rfl|hy
    ·exact e
    ·exact hA y hy
   ·show (if w.id=id then _ else w::delQ id _)=_
    rw [if_neg e,hd];rfl
theorem delQ_mem {id:Int} {q:List Wt} (h:QIds q) {x:Wt}:x∈delQ id q↔x∈q∧x.id≠id:=by
 induction q with
 |nil=>simp [delQ]
 |cons w q ih=>
  have hp:=List.pairwise_cons.1 h
  show x∈(if w.id=id then q else w::delQ id q)↔_
  split
  ·rename_i e
   constructor
   ·exact fun hx=>⟨by simp [hx],fun e2=>hp.1 x hx (by rw [e,e2])⟩
   ·rintro ⟨hx,hn⟩
    rcases List.mem_cons.1 hx with rfl|hx
    ·exact absurd e hn
    ·exact hx
  ·rename_i e
   rw [List.mem_cons,ih hp.2,List.mem_cons]
   constructor
   ·rintro (rfl|⟨h1,h2⟩)
    ·exact ⟨.inl rfl,e⟩
    ·exact ⟨.inr h1,h2⟩
   ·rintro ⟨rfl|h1,h2⟩
    ·exact .inl rfl
    ·exact .inr ⟨h1,h2⟩
theorem QOk.del {q:List Wt} (h:QOk q) (id:Int):QOk (delQ id q):=
 ⟨h.st.sublist delQ_sub,h.ids.sublist delQ_sub,fun w hw=>h.ok w (delQ_sub.subset hw),fun w hw=>h.fl w (delQ_sub.subset hw),Nat.le_trans delQ_sub.length_le h.len⟩
theorem QOk.ins {q:List Wt} (h:QOk q) {w:Wt} (hw:w.Ok) (hf:w.sc<18446744073709551616) (hn:hasQ w.id q=false) (hl:q.length<200):QOk (insQ w q):=by
 have hn':=hasQ_no.1 hn
 refine ⟨insQ_st h.st hn',insQ_ids h.ids hn',fun x hx=>?_,fun x hx=>?_,by rw [insQ_len];omega⟩
 ·rcases insQ_mem.1 hx with rfl|hx
  ·exact hw
  ·exact h.ok x hx
 ·rcases insQ_mem.1 hx with rfl|hx
  ·exact hf
  ·exact h.fl x hx
def fitsQ (left:List Int) (w:Wt):Bool:=decide (w.cls<left.length) && decide (w.many≤left.getD w.cls.toNat 0)
def qfirst (q:List Wt) (left:List Int):Option Wt:=q.find? (fitsQ left)
theorem qfirst_mem {q:List Wt} {left:List Int} {w:Wt} (h:qfirst q left=some w):w∈q∧fitsQ left w=true:=
 ⟨List.mem_of_find?_eq_some h,List.find?_some h⟩
end Go.VC
/- A locator, plainly. No condition. -/
namespace Go.VC
set_option linter.unusedVariables false
set_option linter.unusedSimpArgs false
def signB:List Int:=[65,66,67,68,69,70,71,72,74,75,76,77,78,80,81,82,84,85,86,87,88,89,90,50,51,52,53,54,55,56,57]
theorem signB_len:signB.length=31:=rfl
def worthFrom (c:Int):Nat→List Int→Int
 |_,[]=>-1
 |i,x::l=>if x=c then i else worthFrom c (i + 1) l
def worthT (c:Int):Int:=worthFrom c 0 signB
theorem worthFrom_bd (c:Int):∀ (i:Nat) (l:List Int),worthFrom c i l=-1∨(i≤worthFrom c i l∧worthFrom c i l<i + l.length)
 |_,[]=>.inl rfl
 |i,x::l=>by
  unfold worthFrom
  split
  ·right;simp;omega
  ·rcases worthFrom_bd c (i + 1) l with h|h
   ·exact .inl h
   ·right;simp;omega
theorem worth_bd (c:Int):worthT c=-1∨(0≤worthT c∧worthT c<31):=by
 have:=worthFrom_bd c 0 signB
 rw [signB_len] at this
 unfold worthT
 omega
def locN (l:List Int):Int:=l.foldl (fun n d=>n * 31 + d) 0
def wsum:Int→List Int→Int
 |_,[]=>0
 |k,d::l=>k * d + wsum (k + 1) l
theorem wsum_app (k:Int) (a b:List Int):wsum k (a++b)=wsum k a + wsum (k + a.length) b:=by
 induction a generalizing k with
 |nil=>simp [wsum]
 |cons x a ih=>simp only [List.cons_append,wsum,ih,List.length_cons];rw [show k + 1 + (a.length:Int)=k + ((a.length + 1:Nat):Int) by omega];omega
theorem locN_app (a:List Int) (d:Int):locN (a++[d])=locN a * 31 + d:=by simp [locN]
def digs (n:Int):List Int:=[n / 923521 % 31,n / 29791 % 31,n / 961 % 31,n / 31 % 31,n % 31]
theorem digs_bd (n:Int):∀ d∈digs n,0≤d∧d<31:=by
 intro d hd
 simp only [digs,List.mem_cons,List.not_mem_nil,or_false] at hd
 omega
def chkD (n:Int):Int:=(31 - wsum 2 (digs n) % 31) % 31
def signAt (d:Int):Int:=signB.getD d.toNat 0
def locB (n:Int):List Int:=(digs n++[chkD n]).map signAt
def locRd (bs:List Int):Int × Int:=
 if bs.length≠6∨(∃ c∈bs,worthT c<0) then (0,6)
 else if (wsum 2 ((bs.take 5).map worthT) + worthT (bs.getD 5 0)) % 31≠0 then (0,6)
 else (locN ((bs.take 5).map worthT),0)
theorem locB_len (n:Int):(locB n).length=6:=rfl
theorem chkD_bd (n:Int):0≤chkD n∧chkD n<31:=by unfold chkD;omega
theorem locF_bd:∀ {l:List Int} {a:Int} {k:Nat},(∀ d∈l,0≤d∧d<31)→(0≤a∧a<31 ^ k)→0≤l.foldl (fun n d=>n * 31 + d) a∧l.foldl (fun n d=>n * 31 + d) a<31 ^ (k + l.length)
 |[],_,_,_,h=>h
 |d::l,a,k,hd,h=>by
  have h2:=hd d (by simp)
  have h3:=locF_bd (l:=l) (a:=a * 31 + d) (k:=k + 1) (fun x hx=>hd x (by simp [hx])) (by rw [Int.pow_succ];omega)
  rw [List.length_cons,show k + (l.length + 1)=k + 1 + l.length by omega]
  exact h3
theorem locN_bd {l:List Int} (h:∀ d∈l,0≤d∧d<31):0≤locN l∧locN l<31 ^ l.length:=by
 have:=locF_bd (a:=0) (k:=0) h ⟨by omega,by simp⟩
 rw [Nat.zero_add] at this
 exact this
end Go.VC
/- Commands and replies as bytes, plainly: there and back. No condition. -/
namespace Go.Proofs.YtflgboncpbmikaaGreatDoor
set_option linter.unusedVariables false
set_option linter.unusedSimpArgs false
open Go Go.VC
def rdEach {α:Type} (one:Rd→α × Rd):Nat→Rd→List α × Rd
 |0,r=>([],r)
 |n + 1,r=>((one r).1::(rdEach one n (one r).2).1,(rdEach one n (one r).2).2)
theorem rdEach_succ {α:Type} (one:Rd→α × Rd) (n:Nat) (r:Rd):rdEach one (n + 1) r=((one r).1::(rdEach one n (one r).2).1,(rdEach one n (one r).2).2):=rfl
theorem rdEach_len {α:Type} (one:Rd→α × Rd):∀ (n:Nat) (r:Rd),(rdEach one n r).1.length=n
 |0,_=>rfl
 |n + 1,r=>by rw [rdEach_succ,List.length_cons,rdEach_len one n]
theorem rdEach_snoc {α:Type} (one:Rd→α × Rd):∀ (k:Nat) (r:Rd),rdEach one (k + 1) r=((rdEach one k r).1++[(one (rdEach one k r).2).1],(one (rdEach one k r).2).2)
 |0,_=>rfl
 |k + 1,r=>by
  rw [rdEach_succ,rdEach_snoc one k (one r).2]
  rfl
theorem rdEach_inv {α:Type} {one:Rd→α × Rd} {P:Rd→Prop} {Q:α→Prop} (h:∀ r,P r→Q (one r).1∧P (one r).2):∀ (n:Nat) {r:Rd},P r→(∀ x∈(rdEach one n r).1,Q x)∧P (rdEach one n r).2
 |0,_,hr=>⟨fun _ hx=>(by cases hx),hr⟩
 |n + 1,r,hr=>by
  have h1:=h r hr
  have h2:=rdEach_inv h n h1.2
  refine ⟨fun x hx=>?_,h2.2⟩
  rcases List.mem_cons.1 hx with rfl|hx
  ·exact h1.1
  ·exact h2.1 x hx
def Bytes (l:List Int):Prop:=∀ x∈l,0≤x∧x<256
def strRd (most:Int) (r:Rd):ByteArray × Rd:=(VC.strOf (rdText most r).1,(rdText most r).2)
def fltRd (r:Rd):Nat × Rd:=(ofF (rdNum 18446744073709551615 r).1.toNat,(rdNum 18446744073709551615 r).2)
def strB (s:ByteArray):List Int:=textB (bytesL s)
def fltB (x:Nat):List Int:=numB (keyF x)
theorem rdText_code {d rest:List Int} {most:Int} (hl:d.length<1000000) (hm:(d.length:Int)≤most):rdText most ⟨textB d++rest,false⟩=(d,⟨rest,false⟩):=by
 unfold rdText textB
 rw [if_neg (by simp)]
 dsimp only
 rw [List.append_assoc,parse_num (by omega)]
 dsimp only
 have hn:=numB_len (n:=d.length) (by omega)
 rw [if_pos ⟨rfl,by omega,hm,by simp only [List.length_append];omega⟩,List.drop_left,Int.toNat_natCast,List.take_left,←List.drop_drop,List.drop_left,List.drop_left]
theorem strRd_bd {most:Int} {rd:Rd} (hb:Bytes rd.bs):Bytes (strRd most rd).2.bs:=(rdText_bd hb).2
theorem strOf_size (l:List Int):(VC.strOf l).size=l.length:=by
 show (l.map fun n=>UInt8.ofNat n.toNat).toArray.size=_
 rw [List.size_toArray,List.length_map]
theorem fltRd_bd {rd:Rd} (hb:Bytes rd.bs):Bytes (fltRd rd).2.bs:=rdNum_bd hb
theorem fltRd_lt {rd:Rd} (hb:Bytes rd.bs):(fltRd rd).1<18446744073709551616:=by
 have:=rdNum_val (most:=18446744073709551615) hb (by omega)
 exact of_lt (by omega)
structure Cm where
 kind:Int
 pnr:ByteArray
 flt:Int
 cls:Int
 many:Int
 time:Int
 sc:Nat
 lab:ByteArray
 rows:Int
 grps:List Int
 parts:List Nat
def numOk (n:Int):Prop:=0≤n∧n≤9999
structure RightC (c:Cm):Prop where
 flt:numOk c.flt
 cls:numOk c.cls
 many:numOk c.many
 rows:numOk c.rows
 grps:∀ n∈c.grps,numOk n
 pnr:c.pnr.size≤16
 lab:c.lab.size≤16
 gl:c.grps.length≤16
 pl:c.parts.length≤16
 kind:1≤c.kind∧c.kind≤9
 time:0≤c.time∧c.time≤1099511627776
structure FltC (c:Cm):Prop where
 sc:c.sc<18446744073709551616
 parts:∀ x∈c.parts,x<18446744073709551616
def cmRd (r:Rd):Cm × Rd:=
 let k:=rdNum 9 r
 let p:=strRd 16 k.2
 let f:=rdNum 9999 p.2
 let c:=rdNum 9999 f.2
 let m:=rdNum 9999 c.2
 let t:=rdNum 1099511627776 m.2
 let s:=fltRd t.2
 let l:=strRd 16 s.2
 let w:=rdNum 9999 l.2
 let n:=rdNum 16 w.2
 let g:=rdEach (rdNum 9999) n.1.toNat n.2
 let q:=rdNum 16 g.2
 let x:=rdEach fltRd q.1.toNat q.2
 (⟨k.1,p.1,f.1,c.1,m.1,t.1,s.1,l.1,w.1,g.1,x.1⟩,x.2)
structure Rp where
 code:Int
 pnr:ByteArray
 state:Int
 flt:Int
 cls:Int
 many:Int
 time:Int
 left:List Int
 labs:List ByteArray
def nn (n:Int):Int:=max n 0
def rpB (r:Rp):List Int:=
 numsB [nn r.code]++(strB r.pnr++(numsB [nn r.state]++(numsB [nn r.flt]++(numsB [nn r.cls]++(numsB [nn r.many]++(numsB [nn r.time]++(numsB [(r.left.length:Int)]++(numsB (r.left.map nn)++(numsB [(r.labs.length:Int)]++(r.labs.map strB).flatten)))))))))
structure RpIn (r:Rp):Prop where
 code:0≤r.code∧r.code≤1099511627776
 pnr:r.pnr.size≤16
 state:0≤r.state∧r.state≤1099511627776
 flt:0≤r.flt∧r.flt≤1099511627776
 cls:0≤r.cls∧r.cls≤1099511627776
 many:0≤r.many∧r.many≤1099511627776
 time:0≤r.time∧r.time≤1099511627776
 ll:r.left.length≤8
 left:∀ n∈r.left,0≤n∧n≤1099511627776
 bl:r.labs.length≤600
 labs:∀ s∈r.labs,s.size≤16
theorem nn_id {n:Int} (h:0≤n):nn n=n:=by unfold nn;omega
theorem nn_map {l:List Int} (h:∀ n∈l,0≤n):l.map nn=l:=by
 induction l with
 |nil=>rfl
 |cons x l ih=>rw [List.map_cons,nn_id (h x (by simp)),ih fun y hy=>h y (by simp [hy])]
end Go.Proofs.YtflgboncpbmikaaGreatDoor
/- Lists by keys. No condition. -/
namespace Go.VC
set_option linter.unusedVariables false
set_option linter.unusedSimpArgs false
section
variable {α:Type} {k:α→Int}
def KRise (k:α→Int) (l:List α):Prop:=l.Pairwise fun a b=>k a<k b
def kget (k:α→Int) (n:Int) (l:List α):Option α:=l.find? fun x=>decide (k x=n)
def kset (k:α→Int) (n:Int) (f:α→α) (l:List α):List α:=l.map fun x=>if k x=n then f x else x
def kdel (k:α→Int) (n:Int) (l:List α):List α:=l.filter fun x=>!decide (k x=n)
def kins (k:α→Int) (x:α) (l:List α):List α:=l.takeWhile (fun y=>decide (k y<k x))++x::l.dropWhile (fun y=>decide (k y<k x))
theorem KRise.uniq {l:List α} (h:KRise k l) {a b:α} (ha:a∈l) (hb:b∈l) (e:k a=k b):a=b:=by
 induction l with
 |nil=>cases ha
 |cons x l ih=>
  have hp:=List.pairwise_cons.1 h
  rcases List.mem_cons.1 ha with e1|h1
  ·rcases List.mem_cons.1 hb with e2|h2
   ·rw [e1,e2]
   ·have:=hp.1 b h2;rw [e1] at e;omega
  ·rcases List.mem_cons.1 hb with e2|h2
   ·have:=hp.1 a h1;rw [e2] at e;omega
   ·exact ih hp.2 h1 h2
theorem kget_some {n:Int} {l:List α} {x:α} (h:kget k n l=some x):x∈l∧k x=n:=
 ⟨List.mem_of_find?_eq_some h,by have:=List.find?_some h;simpa using this⟩
theorem kget_none {n:Int} {l:List α}:kget k n l=none↔∀ x∈l,k x≠n:=by
 unfold kget
 rw [List.find?_eq_none]
 simp
theorem kget_iff {n:Int} {l:List α} (h:KRise k l) {x:α}:kget k n l=some x↔x∈l∧k x=n:=by
 refine ⟨kget_some,fun ⟨h1,h2⟩=>?_⟩
 cases hg:kget k n l with
 |none=>exact absurd h2 (kget_none.1 hg x h1)
 |some y=>
  have:=kget_some hg
  rw [h.uniq this.1 h1 (by omega)]
theorem mem_kset {n:Int} {f:α→α} {l:List α} {y:α}:y∈kset k n f l↔∃ x∈l,y=if k x=n then f x else x:=by
 unfold kset
 rw [List.mem_map]
 exact ⟨fun ⟨x,h1,h2⟩=>⟨x,h1,h2.symm⟩,fun ⟨x,h1,h2⟩=>⟨x,h1,h2.symm⟩⟩
theorem mem_kdel {n:Int} {l:List α} {y:α}:y∈kdel k n l↔y∈l∧k y≠n:=by
 unfold kdel
 rw [List.mem_filter]
 simp
theorem kset_len {n:Int} {f:α→α} {l:List α}:(kset k n f l).length=l.length:=List.length_map _
theorem kset_rise {n:Int} {f:α→α} {l:List α} (h:KRise k l) (hf:∀ x∈l,k x=n→k (f x)=n):KRise k (kset k n f l):=by
 unfold KRise kset
 rw [List.pairwise_map]
 refine List.Pairwise.imp_of_mem (fun {a b} ha hb hab=>?_) h
 have h1:k (if k a=n then f a else a)=k a:=by
  split
  ·rename_i e;rw [hf a ha e,e]
  ·rfl
 have h2:k (if k b=n then f b else b)=k b:=by
  split
  ·rename_i e;rw [hf b hb e,e]
  ·rfl
 rw [h1,h2]
 exact hab
theorem kdel_rise {n:Int} {l:List α} (h:KRise k l):KRise k (kdel k n l):=h.sublist List.filter_sublist
theorem kset_no {n:Int} {f:α→α} {l:List α} (h:∀ x∈l,k x≠n):kset k n f l=l:=by
 induction l with
 |nil=>rfl
 |cons a l ih=>
  show (if k a=n then f a else a)::kset k n f l=_
  rw [if_neg (h a (by simp)),ih fun x hx=>h x (by simp [hx])]
theorem kdel_no {n:Int} {l:List α} (h:∀ x∈l,k x≠n):kdel k n l=l:=by
 unfold kdel
 rw [List.filter_eq_self]
 intro x hx
 simpa using h x hx
theorem kset_mid {n:Int} {f:α→α} {A C:List α} {x:α} (hx:k x=n) (h:KRise k (A++x::C)):kset k n f (A++x::C)=A++f x::C:=by
 have hp:=List.pairwise_append.1 h
 have hc:=List.pairwise_cons.1 hp.2.1
 have e1:kset k n f A=A:=kset_no fun y hy=>by have:=hp.2.2 y hy x (by simp);omega
 have e2:kset k n f C=C:=kset_no fun y hy=>by have:=hc.1 y hy;omega
 show List.map _ (A++x::C)=_
 rw [List.map_append,List.map_cons,if_pos hx]
 show kset k n f A++f x::kset k n f C=_
 rw [e1,e2]
theorem kdel_mid {n:Int} {A C:List α} {x:α} (hx:k x=n) (h:KRise k (A++x::C)):kdel k n (A++x::C)=A++C:=by
 have hp:=List.pairwise_append.1 h
 have hc:=List.pairwise_cons.1 hp.2.1
 have e1:kdel k n A=A:=kdel_no fun y hy=>by have:=hp.2.2 y hy x (by simp);omega
 have e2:kdel k n C=C:=kdel_no fun y hy=>by have:=hc.1 y hy;omega
 show List.filter _ (A++x::C)=_
 rw [List.filter_append,List.filter_cons,if_neg (by simpa using hx)]
 show kdel k n A++kdel k n C=_
 rw [e1,e2]
theorem kins_cons (x a:α) (l:List α):kins k x (a::l)=if k a<k x then a::kins k x l else x::a::l:=by
 unfold kins
 rw [List.takeWhile_cons,List.dropWhile_cons]
 by_cases h:k a<k x
 ·rw [decide_eq_true h,if_pos h];rfl
 ·rw [decide_eq_false h,if_neg h];rfl
theorem mem_kins {x y:α}:∀ {l:List α},y∈kins k x l↔y=x∨y∈l
 |[]=>by simp [kins]
 |a::l=>by
  rw [kins_cons]
  split
  ·rw [List.mem_cons,mem_kins,List.mem_cons]
   constructor
   ·rintro (h|h|h)<;>simp [h]
   ·rintro (h|h|h)<;>simp [h]
  ·rw [List.mem_cons]
theorem kins_len {x:α}:∀ {l:List α},(kins k x l).length=l.length + 1
 |[]=>rfl
 |a::l=>by
  rw [kins_cons]
  split
  ·rw [List.length_cons,kins_len,List.length_cons]
  ·rfl
theorem kins_rise {x:α}:∀ {l:List α},KRise k l→(∀ y∈l,k y≠k x)→KRise k (kins k x l)
 |[],_,_=>List.Pairwise.cons (fun _ h=>(by cases h)) List.Pairwise.nil
 |a::l,h,hn=>by
  have hp:=List.pairwise_cons.1 h
  rw [kins_cons]
  split
  ·rename_i ha
   refine List.Pairwise.cons (fun y hy=>?_) (kins_rise hp.2 fun y hy=>hn y (by simp [hy]))
   rcases mem_kins.1 hy with rfl|hy
   ·exact ha
   ·exact hp.1 y hy
  ·rename_i ha
   have:=hn a (by simp)
   refine List.Pairwise.cons (fun y hy=>?_) h
   rcases List.mem_cons.1 hy with rfl|hy
   ·omega
   ·have:=hp.1 y hy;omega
theorem kins_perm {x:α}:∀ {l:List α},(kins k x l).Perm (x::l)
 |[]=>List.Perm.refl _
 |a::l=>by
  rw [kins_cons]
  split
  ·exact (kins_perm.cons a).trans (List.Perm.swap x a l)
  ·exact List.Perm.refl _
theorem krise_snoc {l:List α} {x:α} (h:KRise k l) (hx:∀ y∈l,k y<k x):KRise k (l++[x]):=by
 refine List.pairwise_append.2 ⟨h,List.pairwise_singleton _ _,fun a ha b hb=>?_⟩
 rw [List.mem_singleton.1 hb]
 exact hx a ha
theorem KRise.ne {l:List α} (h:KRise k l):l.Pairwise fun a b=>k a≠k b:=h.imp fun hab e=>by omega
end
theorem nodup_le {l m:List Int} (h:l.Nodup) (hs:∀ x∈l,x∈m):l.length≤m.length:=by
 induction l generalizing m with
 |nil=>simp
 |cons a l ih=>
  have hp:=List.nodup_cons.1 h
  have ha:=hs a (by simp)
  have h2:=ih (m:=m.erase a) hp.2 fun x hx=>by
   refine (List.mem_erase_of_ne ?_).2 (hs x (by simp [hx]))
   rintro rfl
   exact hp.1 hx
  have h3:=List.length_erase_of_mem ha
  have h4:0<m.length:=List.length_pos_of_mem ha
  rw [List.length_cons]
  omega
end Go.VC

/- Who waits, as bytes: there and back; what Decode tells. No condition. -/
namespace Go.Proofs.YtflgboncpbmikaaGreatDoor
set_option linter.unusedVariables false
set_option linter.unusedSimpArgs false
open Go Go.VC
def wtB (w:Wt):List Int:=numsB [w.id]++(numsB [w.cls]++(numsB [w.many]++(numsB [w.time]++fltB w.sc)))
def qB (q:List Wt):List Int:=numsB [(q.length:Int)]++(q.map wtB).flatten
end Go.Proofs.YtflgboncpbmikaaGreatDoor
/- Both flights side by side: fresh, awake, few, do, alike. Condition: bounds. -/
namespace Go.Proofs.YtflgboncpbmikaaGreatDoor
set_option linter.unusedVariables false
set_option linter.unusedSimpArgs false
open Go Go.VC
variable {R R':Cx} {Hs Rest:List HP} {w:World}
theorem find_in {n:Int} {g:List Int} {lab:ByteArray} {k:Int} (h:findT n g lab=(k,0)):0≤k∧k<layN n g:=by
 unfold findT at h
 split at h
 ·rename_i hl
  obtain ⟨l1,l2,l3⟩:=layOk_iff.1 hl
  have:=(find_iff (n:=n) (w:=g.sum) (k:=k) (lab:=lab) (by omega) (sum_pos l2 l1.2.2.1) l3).1 h
  rw [layN_ok hl]
  exact ⟨this.1,this.2.1⟩
 ·cases h
end Go.Proofs.YtflgboncpbmikaaGreatDoor
/- The program's flight alone, told by the document's; alike; how the laws begin. Condition: bounds. -/
namespace Go.Proofs.YtflgboncpbmikaaGreatDoor
set_option linter.unusedVariables false
set_option linter.unusedSimpArgs false
open Go Go.VC
variable {R R':Cx} {Hs Rest:List HP} {w:World}
def LoneAt (p:Nat) (r:RF):HP:=exs fun f:PF=>Star [pur (Tie f r∧Good r),FlightAt p f]
theorem Sat.lone {p:Nat} {r:RF}:Sat R (LoneAt p r::Hs) w↔∃ f,(Tie f r∧Good r)∧Sat R (FlightAt p f::Hs) w:=by
 unfold LoneAt
 rw [Sat.exs]
 constructor
 ·rintro ⟨f,h⟩
  obtain ⟨h1,h2⟩:=Sat.pur.1 (Sat.star.1 h)
  exact ⟨f,h1,h2⟩
 ·rintro ⟨f,h1,h2⟩
  exact ⟨f,Sat.star.2 (Sat.pur.2 ⟨h1,h2⟩)⟩
section
variable {p:Nat} {r:RF}
theorem lone_take {o c m:Int} (hw:Sat R (LoneAt p r::Hs) w):Gets Tryz.prog 79 #[.pointer (some ⟨p,0,none⟩),.int .i64 o,.int .i64 c,.int .i64 m] w fun v w'=>v=.int .i64 (rtakeF r o c m).2∧Sat R (LoneAt p (rtakeF r o c m).1::Hs) w':=by
 obtain ⟨f,⟨t,g⟩,hw⟩:=Sat.lone.1 hw
 have b:=t.bounds g
 obtain ⟨e,t',g'⟩:=tie_take t g o c m
 refine (take_fspec (by omega) (by omega) hw).use ?_
 rintro _ w ⟨rfl,hw⟩
 exact ⟨_,rfl,by rw [e],Sat.lone.2 ⟨_,⟨t',g'⟩,hw⟩⟩
theorem lone_give {o:Int} (hw:Sat R (LoneAt p r::Hs) w):Gets Tryz.prog 83 #[.pointer (some ⟨p,0,none⟩),.int .i64 o] w fun v w'=>v=.int .i64 (rgiveF r o).2∧Sat R (LoneAt p (rgiveF r o).1::Hs) w':=by
 obtain ⟨f,⟨t,g⟩,hw⟩:=Sat.lone.1 hw
 have b:=t.bounds g
 obtain ⟨e,t',g'⟩:=tie_give t g o
 refine (give_fspec (by omega) (by omega) (fun e he=>by have:=b.2.2.2.2.2.1 e he;omega) hw).use ?_
 rintro _ w ⟨rfl,hw⟩
 exact ⟨_,rfl,by rw [e],Sat.lone.2 ⟨_,⟨t',g'⟩,hw⟩⟩
theorem lone_seat {o:Int} {lab:ByteArray} (hl:lab.size≤9223372036854775807) (hw:Sat R (LoneAt p r::Hs) w):Gets Tryz.prog 86 #[.pointer (some ⟨p,0,none⟩),.int .i64 o,.string lab] w fun v w'=>v=.int .i64 (rseatF r o lab).2∧Sat R (LoneAt p (rseatF r o lab).1::Hs) w':=by
 obtain ⟨f,⟨t,g⟩,hw⟩:=Sat.lone.1 hw
 have b:=t.bounds g
 obtain ⟨e,t',g'⟩:=tie_seat t g o lab fun k hk=>find_in hk
 refine (seat_fspec (by omega) hl (fun e he=>by have:=b.2.2.2.2.2.1 e he;exact ⟨this.1,by omega⟩) hw).use ?_
 rintro _ w ⟨rfl,hw⟩
 exact ⟨_,rfl,by rw [e],Sat.lone.2 ⟨_,⟨t',g'⟩,hw⟩⟩
theorem lone_auto {o:Int} (hw:Sat R (LoneAt p r::Hs) w):Gets Tryz.prog 87 #[.pointer (some ⟨p,0,none⟩),.int .i64 o] w fun v w'=>∃ t:Sl,v=.tuple #[.slice t.a t.len t.cap,.int .i64 (rautoF r o).2.2]∧Sat R (Own t 9 ((rautoF r o).2.1.map Value.string)::LoneAt p (rautoF r o).1::Hs) w':=by
 obtain ⟨f,⟨t,g⟩,hw⟩:=Sat.lone.1 hw
 have b:=t.bounds g
 obtain ⟨e,t',g',_⟩:=tie_auto t g o
 refine (auto_fspec (by omega) t.nod (fun k hk=>by have:=t.ownIn g k hk;have:=layN_bd r.rows r.grps;omega) (by omega) hw).use ?_
 rintro _ w ⟨s,rfl,hw⟩
 rw [e] at hw
 exact ⟨_,rfl,s,by rw [e],hw.cons fun _ h=>Sat.lone.2 ⟨_,⟨t',g'⟩,h⟩⟩
theorem lone_left (hw:Sat R (LoneAt p r::Hs) w):Gets Tryz.prog 77 #[.pointer (some ⟨p,0,none⟩)] w fun v w'=>∃ t:Sl,v=.slice t.a t.len t.cap∧Sat R (Own t 3 (intsI (rleftsF r))::LoneAt p r::Hs) w':=by
 obtain ⟨f,⟨t,g⟩,hw⟩:=Sat.lone.1 hw
 have b:=t.bounds g
 refine (left_fspec (by omega) (by omega) hw).use ?_
 rintro _ w ⟨s,rfl,hw⟩
 rw [tie_left t] at hw
 exact ⟨_,rfl,s,rfl,hw.cons fun _ h=>Sat.lone.2 ⟨_,⟨t,g⟩,h⟩⟩
theorem lone_labels {o:Int} (hw:Sat R (LoneAt p r::Hs) w):Gets Tryz.prog 113 #[.pointer (some ⟨p,0,none⟩),.int .i64 o] w fun v w'=>∃ t:Sl,v=.slice t.a t.len t.cap∧Sat R (Own t 9 ((rlabelsF r o).map Value.string)::LoneAt p r::Hs) w':=by
 obtain ⟨f,⟨t,g⟩,hw⟩:=Sat.lone.1 hw
 have b:=t.bounds g
 refine (labels_fspec (by omega) (fun e he=>by have:=b.2.2.2.2.2.1 e he;omega) hw).use ?_
 rintro _ w ⟨s,rfl,hw⟩
 rw [tie_labels t g.rise] at hw
 exact ⟨_,rfl,s,rfl,hw.cons fun _ h=>Sat.lone.2 ⟨_,⟨t,g⟩,h⟩⟩
theorem lone_encode (hw:Sat R (LoneAt p r::Hs) w):Gets Tryz.prog 59 #[.pointer (some ⟨p,0,none⟩)] w fun v w'=>∃ t:Sl,v=.slice t.a t.len t.cap∧Sat R (Own t 5 (b8 (rencB r))::LoneAt p r::Hs) w':=by
 obtain ⟨f,⟨t,g⟩,hw⟩:=Sat.lone.1 hw
 have b:=t.bounds g
 refine (encode_fspec (tie_small t g) (t.nodK g.rise) (fun k hk=>by have:=b.2.2.2.2.2.2 k hk;omega) (fun e he=>by have:=b.2.2.2.2.2.1 e he;omega) hw).use ?_
 rintro _ w ⟨s,rfl,hw⟩
 rw [tie_enc t g] at hw
 exact ⟨_,rfl,s,rfl,hw.cons fun _ h=>Sat.lone.2 ⟨_,⟨t,g⟩,h⟩⟩
end
end Go.Proofs.YtflgboncpbmikaaGreatDoor


/- FlightUnseats, FlightBack. Condition: bounds. -/
namespace Go.Proofs.YtflgboncpbmikaaGreatDoor
set_option linter.unusedVariables false
set_option linter.unusedSimpArgs false
open Go Go.VC
variable {R R':Cx} {Hs Rest:List HP} {w:World}
theorem taken_nd {r:RF} (g:Good r):(takenL r.L).Nodup:=by
 have key:∀ L:List Hold,(L.Pairwise fun a b=>∀ x∈a.seats,x ∉ b.seats)→(∀ h∈L,Rise h.seats)→(takenL L).Nodup:=fun L=>by
  induction L with
  |nil=>exact fun _ _=>List.nodup_nil
  |cons h L ih=>
   intro hp hr
   obtain ⟨h1,h2⟩:=List.pairwise_cons.1 hp
   show (h.seats++takenL L).Nodup
   rw [List.nodup_append]
   refine ⟨?_,ih h2 fun x hx=>hr x (List.mem_cons_of_mem _ hx),fun a ha b hb e=>?_⟩
   ·rw [List.nodup_iff_pairwise_ne]
    exact (rise_iff.1 (hr h List.mem_cons_self)).imp fun h=>by omega
   ·subst e
    obtain ⟨y,hy,hyb⟩:=mem_taken.1 hb
    exact h1 y hy a ha hyb
 exact key r.L g.apart fun h hh=>(g.each h hh).rise
theorem seat_ok {r:RF} (g:Good r) {o:Int} {lab:ByteArray} (h:(rseatF r o lab).2=0):∃ A hd C n,findT r.rows r.grps lab=(n,0)∧r.L=A++hd::C∧hd.owner=o∧getO o A=none∧n ∉ takenL r.L∧rseatF r o lab=({ r with L:=A++hd.put n::C },0):=by
 unfold rseatF at h ⊢
 cases hg:getO o r.L with
 |none=>rw [hg] at h;cases h
 |some hd=>
  rw [hg] at h
  obtain ⟨A,C,hL,hA,ho⟩:=getO_split hg
  dsimp only at h ⊢
  split at h
  ·cases h
  rename_i h1
  split at h
  ·cases h
  rename_i h2
  split at h
  ·cases h
  rename_i h3
  rw [if_neg h1,if_neg h2,if_neg h3]
  refine ⟨A,hd,C,(findT r.rows r.grps lab).1,?_,hL,ho,hA,h3,?_⟩
  ·have:(findT r.rows r.grps lab).2=0:=Classical.byContradiction h1
   rw [←this]
  ·rw [hL,setO_app ho hA]
theorem seat_no {r:RF} {o:Int} {lab:ByteArray} (h:(rseatF r o lab).2≠0):(rseatF r o lab).1=r∧((rseatF r o lab).2=2∨(rseatF r o lab).2=7∨(rseatF r o lab).2=3):=by
 unfold rseatF at h ⊢
 split at h
 ·exact ⟨rfl,.inl rfl⟩
 ·split at h
  ·rename_i h1;rw [if_pos h1];exact ⟨rfl,.inl rfl⟩
  rename_i h1
  rw [if_neg h1]
  split at h
  ·rename_i h2;rw [if_pos h2];exact ⟨rfl,.inr (.inl rfl)⟩
  rename_i h2
  rw [if_neg h2]
  split at h
  ·rename_i h3;rw [if_pos h3];exact ⟨rfl,.inr (.inr rfl)⟩
  ·exact absurd rfl h
theorem insH_split {h:Hold}:∀ {L:List Hold},getO h.owner L=none→∃ A C,insH h L=A++h::C∧L=A++C∧getO h.owner A=none
 |[],_=>⟨[],[],rfl,rfl,rfl⟩
 |x::L,hn=>by
  rw [getO_cons] at hn
  split at hn
  ·cases hn
  rename_i hx
  unfold insH
  split
  ·obtain ⟨A,C,h1,h2,h3⟩:=insH_split hn
   exact ⟨x::A,C,by rw [h1];rfl,by rw [h2];rfl,by rw [getO_cons,if_neg hx];exact h3⟩
  ·exact ⟨[],x::L,rfl,rfl,rfl⟩
theorem take_ok {r:RF} {o c m:Int} (h:(rtakeF r o c m).2=0):∃ A C,rtakeF r o c m=({ r with L:=A++⟨o,c,m,[]⟩::C },0)∧r.L=A++C∧getO o A=none:=by
 unfold rtakeF at h ⊢
 split at h
 ·cases h
 rename_i h1
 split at h
 ·cases h
 rename_i h2
 rw [if_neg h1,if_neg h2]
 split at h
 ·rename_i h3
  rw [if_pos h3]
  have hno:getO o r.L=none:=by cases e:getO o r.L with|none=>rfl|some x=>rw [e] at h2;simp at h2
  obtain ⟨A,C,e1,e2,e3⟩:=insH_split (h:=⟨o,c,m,[]⟩) hno
  exact ⟨A,C,by rw [e1],e2,e3⟩
 ·rename_i h3;exact absurd h h3
theorem take_no {r:RF} {o c m:Int} (h:(rtakeF r o c m).2≠0):(rtakeF r o c m).1=r:=by
 unfold rtakeF at h ⊢
 split at h
 ·rename_i h1;rw [if_pos h1]
 rename_i h1
 rw [if_neg h1]
 split at h
 ·rename_i h2;rw [if_pos h2]
 rename_i h2
 rw [if_neg h2]
 split at h
 ·exact absurd rfl h
 ·rename_i h3;rw [if_neg h3]
end Go.Proofs.YtflgboncpbmikaaGreatDoor
/- The book, plainly: what each command does. No condition. -/
namespace Go.Proofs.YtflgboncpbmikaaGreatDoor
set_option linter.unusedVariables false
set_option linter.unusedSimpArgs false
open Go Go.VC
open Classical
noncomputable section
structure Pl where
 r:RF
 q:List Wt
abbrev Pl.n (p:Pl):Int:=p.r.num
structure Bk where
 id:Int
 flt:Int
 cls:Int
 many:Int
 state:Int
 till:Int
structure Book where
 now:Int
 next:Int
 fl:List Pl
 L:List Bk
def Book.at (b:Book) (n:Int):Option Pl:=kget Pl.n n b.fl
def Book.bk (b:Book) (id:Int):Option Bk:=kget Bk.id id b.L
def Book.put (b:Book) (n:Int) (f:Pl→Pl) (L:List Bk):Book:={ b with fl:=kset Pl.n n f b.fl,L:=L }
def newBook:Book:=⟨0,1,[],[]⟩
def emS:ByteArray:=ByteArray.empty
def errR (e:Int):Rp:=⟨e,emS,0,0,0,0,0,[],[]⟩
def locS (id:Int):ByteArray:=VC.strOf (locB id)
def tellP (p:Pl) (x:Bk):Rp:=⟨0,locS x.id,x.state,x.flt,x.cls,x.many,x.till,rleftsF p.r,rlabelsF p.r x.id⟩
def tellB (b:Book) (x:Bk):Rp:=match b.at x.flt with
 |none=>errR 0
 |some p=>tellP p x
def takeW (w:Wt) (p:Pl):Pl:=⟨(rtakeF p.r w.id w.cls w.many).1,delQ w.id p.q⟩
def bookX (x:Bk):Bk:={ x with state:=2 }
def moveB (b:Book) (n:Int) (w:Wt):Book:=b.put n (takeW w) (kset Bk.id w.id bookX b.L)
def promB:Nat→Int→Book→Book
 |0,_,b=>b
 |k + 1,n,b=>match b.at n with
  |none=>b
  |some p=>match qfirst p.q (rleftsF p.r) with
   |none=>b
   |some w=>promB k n (moveB b n w)
def promote (n:Int) (b:Book):Book:=promB 201 n b
def openB (b:Book) (c:Cm):Book × Rp:=
 if (b.at c.flt).isSome then (b,errR 7) else if 8≤b.fl.length then (b,errR 3)
 else if ¬ newOk c.flt c.rows c.grps c.parts then (b,errR 1)
 else ({ b with fl:=kins Pl.n ⟨rnewF c.flt c.rows c.grps (limitsT (layN c.rows c.grps) c.parts).1,[]⟩ b.fl },
  ⟨0,emS,0,c.flt,0,0,0,rleftsF (rnewF c.flt c.rows c.grps (limitsT (layN c.rows c.grps) c.parts).1),[]⟩)
def Book.full (b:Book):Prop:=300≤b.L.length∨28629151≤b.next
def takeP (id cls many:Int) (p:Pl):Pl:={ p with r:=(rtakeF p.r id cls many).1 }
def heldX (b:Book) (c:Cm):Bk:=⟨b.next,c.flt,c.cls,c.many,1,c.time⟩
def heldB (b:Book) (c:Cm):Book × Rp:=
 match b.at c.flt with
 |none=>(b,errR 2)
 |some p=>
  if c.time≤b.now then (b,errR 1) else if b.full then (b,errR 3)
  else if (rtakeF p.r b.next c.cls c.many).2≠0 then (b,errR (rtakeF p.r b.next c.cls c.many).2)
  else ({ b.put c.flt (takeP b.next c.cls c.many) (b.L++[heldX b c]) with next:=b.next + 1 },tellP (takeP b.next c.cls c.many p) (heldX b c))
def waitW (b:Book) (c:Cm):Wt:=⟨b.next,c.cls,c.many,b.now,c.sc⟩
def waitX (b:Book) (c:Cm):Bk:=⟨b.next,c.flt,c.cls,c.many,3,0⟩
def waitP (w:Wt) (p:Pl):Pl:={ p with q:=insQ w p.q }
def queued (b:Book) (c:Cm):Book:={ b.put c.flt (waitP (waitW b c)) (b.L++[waitX b c]) with next:=b.next + 1 }
def waitB (b:Book) (c:Cm):Book × Rp:=
 match b.at c.flt with
 |none=>(b,errR 2)
 |some p=>
  if (p.r.lims.length:Int)≤c.cls then (b,errR 1) else if b.full then (b,errR 3)
  else if (qadd p.q (waitW b c)).2≠0 then (b,errR (qadd p.q (waitW b c)).2)
  else (promote c.flt (queued b c),match (promote c.flt (queued b c)).bk b.next with
   |none=>errR 0
   |some x=>tellB (promote c.flt (queued b c)) x)
def old (now:Int) (x:Bk):Bool:=decide (x.state=1) && decide (x.till≤now)
def giveP (id:Int) (p:Pl):Pl:={ p with r:=(rgiveF p.r id).1 }
def dropB (b:Book) (x:Bk):Book:=b.put x.flt (giveP x.id) (kdel Bk.id x.id b.L)
def expAll:List Bk→Book→Book
 |[],b=>b
 |x::l,b=>expAll l (if old b.now x then dropB b x else b)
def promAll (l:List Int) (b:Book):Book:=l.foldl (fun b n=>promote n b) b
def ticked (b:Book) (t:Int):Book:=expAll b.L { b with now:=t }
def clockB (b:Book) (c:Cm):Book × Rp:=
 if c.time<b.now then (b,errR 7)
 else (promAll (b.fl.map Pl.n) (ticked b c.time),⟨0,emS,0,0,0,0,c.time,[],[]⟩)
def namedB (b:Book) (pnr:ByteArray):Option Bk × Int:=
 if (locRd (bytesL pnr)).2≠0 then (none,(locRd (bytesL pnr)).2) else match b.bk (locRd (bytesL pnr)).1 with
  |none=>(none,2)
  |some x=>(some x,0)
def sureX (x:Bk):Bk:={ x with state:=2,till:=0 }
def quitP (id:Int) (p:Pl):Pl:={ p with q:=delQ id p.q }
def gone (b:Book) (x:Bk):Book:=if x.state=3 then b.put x.flt (quitP x.id) (kdel Bk.id x.id b.L) else dropB b x
def seatP (r:RF) (p:Pl):Pl:={ p with r:=r }
def oneB (b:Book) (x:Bk) (c:Cm):Book × Rp:=
 match b.at x.flt with
 |none=>(b,errR 0)
 |some p=>
  if c.kind=3 then (if x.state≠1 then (b,errR 7) else ({ b with L:=kset Bk.id x.id sureX b.L },tellP p (sureX x)))
  else if c.kind=4 then (promote x.flt (gone b x),⟨0,c.pnr,0,0,0,0,0,[],[]⟩)
  else if x.state=3 then (b,errR 7)
  else if c.kind=5 then
   (if (rseatF p.r x.id c.lab).2≠0 then (b,errR (rseatF p.r x.id c.lab).2)
    else (b.put x.flt (seatP (rseatF p.r x.id c.lab).1) b.L,tellP (seatP (rseatF p.r x.id c.lab).1 p) x))
  else (if (rautoF p.r x.id).2.2≠0 then (b,errR (rautoF p.r x.id).2.2)
    else (b.put x.flt (seatP (rautoF p.r x.id).1) b.L,tellP (seatP (rautoF p.r x.id).1 p) x))
def showB (b:Book) (c:Cm):Rp:=
 if ¬ RightC c∨c.kind≠9 then errR 1
 else if c.pnr≠emS then (match namedB b c.pnr with
  |(none,e)=>errR e
  |(some x,_)=>tellB b x)
 else match b.at c.flt with
  |none=>errR 2
  |some p=>⟨0,emS,0,c.flt,0,(p.q.length:Int),0,rleftsF p.r,[]⟩
def applyB (b:Book) (c:Cm):Book × Rp:=
 if ¬ RightC c then (b,errR 1)
 else if c.kind=1 then openB b c
 else if c.kind=2 then heldB b c
 else if c.kind=7 then waitB b c
 else if c.kind=8 then clockB b c
 else if c.kind=9 then (b,showB b c)
 else match namedB b c.pnr with
  |(none,e)=>(b,errR e)
  |(some x,_)=>oneB b x c
def plB (p:Pl):List Int:=textB (rencB p.r)++textB (qB p.q)
def bkB (x:Bk):List Int:=numsB [x.id]++(numsB [x.flt]++(numsB [x.cls]++(numsB [x.many]++(numsB [x.state]++numsB [x.till]))))
def saveB (b:Book):List Int:=
 numsB [b.now]++(numsB [b.next]++(numsB [(b.fl.length:Int)]++((b.fl.map plB).flatten++(numsB [(b.L.length:Int)]++(b.L.map bkB).flatten))))
def HasP (p:Pl) (x:Bk):Prop:=
 if x.state=3 then (∃ w∈p.q,w.id=x.id∧w.cls=x.cls∧w.many=x.many)∧x.cls<p.r.lims.length
 else ∃ h∈p.r.L,h.owner=x.id∧h.cls=x.cls∧h.many=x.many
structure BkOk (next:Int) (x:Bk):Prop where
 id:1≤x.id∧x.id<next
 flt:0≤x.flt∧x.flt≤9999
 cls:0≤x.cls∧x.cls≤9999
 many:0≤x.many∧x.many≤9999
 state:1≤x.state∧x.state≤3
 till:0≤x.till∧x.till≤1099511627776
 free:x.state≠1→x.till=0
structure LocP (L:List Bk) (p:Pl):Prop where
 has:∀ x∈L,x.flt=p.n→HasP p x
 backQ:∀ w∈p.q,∃ x∈L,x.id=w.id∧x.flt=p.n∧x.state=3
 backH:∀ h∈p.r.L,∃ x∈L,x.id=h.owner∧x.flt=p.n∧x.state≠3
structure Core (b:Book):Prop where
 now:0≤b.now∧b.now≤1099511627776
 next:1≤b.next∧b.next≤28629151
 good:∀ p∈b.fl,Good p.r
 qok:∀ p∈b.fl,QOk p.q
 nums:KRise Pl.n b.fl
 few:b.fl.length≤8
 ids:KRise Bk.id b.L
 each:∀ x∈b.L,BkOk b.next x
 many:b.L.length≤300
 there:∀ x∈b.L,∃ p∈b.fl,p.n=x.flt
 loc:∀ p∈b.fl,LocP b.L p
def Timely (b:Book):Prop:=∀ x∈b.L,x.state=1→b.now<x.till
def NoFit (p:Pl):Prop:=qfirst p.q (rleftsF p.r)=none
structure BookOk (b:Book):Prop where
 core:Core b
 time:Timely b
 nofit:∀ p∈b.fl,NoFit p
theorem core_new:Core newBook:=
 ⟨⟨by decide,by decide⟩,⟨by decide,by decide⟩,fun _ h=>(by cases h),fun _ h=>(by cases h),List.Pairwise.nil,by decide,List.Pairwise.nil,fun _ h=>(by cases h),by decide,fun _ h=>(by cases h),fun _ h=>(by cases h)⟩
theorem ok_new:BookOk newBook:=⟨core_new,fun _ h=>(by cases h),fun _ h=>(by cases h)⟩
theorem Core.swap {b:Book} (c:Core b) {n:Int} {f:Pl→Pl} {L:List Bk} {next:Int} (hn:b.next≤next∧next≤28629151)
  (hf:∀ p∈b.fl,p.n=n→(f p).n=n∧Good (f p).r∧QOk (f p).q∧LocP L (f p))
  (ids:KRise Bk.id L) (each:∀ x∈L,BkOk next x) (many:L.length≤300)
  (out:∀ x,x.flt≠n→(x∈L↔x∈b.L)) (here:∀ x∈L,x.flt=n→∃ p∈b.fl,p.n=n):Core { b.put n f L with next:=next }:=by
 have hmem:∀ {p},p∈kset Pl.n n f b.fl→∃ q∈b.fl,q.n=p.n∧((q.n=n∧p=f q)∨(q.n≠n∧p=q)):=fun {p} hp=>by
  obtain ⟨q,hq,e⟩:=mem_kset.1 hp
  by_cases h:q.n=n
  ·rw [if_pos h] at e
   exact ⟨q,hq,by rw [e,(hf q hq h).1,h],.inl ⟨h,e⟩⟩
  ·rw [if_neg h] at e
   exact ⟨q,hq,by rw [e],.inr ⟨h,e⟩⟩
 have hput:∀ {q},q∈b.fl→∃ p∈kset Pl.n n f b.fl,p.n=q.n:=fun {q} hq=>by
  by_cases h:q.n=n
  ·exact ⟨f q,mem_kset.2 ⟨q,hq,by rw [if_pos h]⟩,by rw [(hf q hq h).1,h]⟩
  ·exact ⟨q,mem_kset.2 ⟨q,hq,by rw [if_neg h]⟩,rfl⟩
 refine ⟨c.now,⟨Int.le_trans c.next.1 hn.1,hn.2⟩,fun p hp=>?_,fun p hp=>?_,kset_rise c.nums fun p hp e=>(hf p hp e).1,by show (kset Pl.n n f b.fl).length≤8;rw [kset_len];exact c.few,ids,each,many,fun x hx=>?_,fun p hp=>?_⟩
 ·obtain ⟨q,hq,_,⟨h,rfl⟩|⟨h,rfl⟩⟩:=hmem hp
  ·exact (hf q hq h).2.1
  ·exact c.good p hq
 ·obtain ⟨q,hq,_,⟨h,rfl⟩|⟨h,rfl⟩⟩:=hmem hp
  ·exact (hf q hq h).2.2.1
  ·exact c.qok p hq
 ·by_cases h:x.flt=n
  ·obtain ⟨p,hp,e⟩:=here x hx h
   obtain ⟨p',hp',e'⟩:=hput hp
   exact ⟨p',hp',by rw [e',e,h]⟩
  ·obtain ⟨p,hp,e⟩:=c.there x ((out x h).1 hx)
   obtain ⟨p',hp',e'⟩:=hput hp
   exact ⟨p',hp',by rw [e',e]⟩
 ·obtain ⟨q,hq,_,⟨h,rfl⟩|⟨h,rfl⟩⟩:=hmem hp
  ·exact (hf q hq h).2.2.2
  ·have hl:=c.loc p hq
   refine ⟨fun x hx e=>hl.has x ((out x (by rw [e];exact h)).1 hx) e,fun w hw=>?_,fun o ho=>?_⟩
   ·obtain ⟨x,hx,a1,a2,a3⟩:=hl.backQ w hw
    exact ⟨x,(out x (by rw [a2];exact h)).2 hx,a1,a2,a3⟩
   ·obtain ⟨x,hx,a1,a2,a3⟩:=hl.backH o ho
    exact ⟨x,(out x (by rw [a2];exact h)).2 hx,a1,a2,a3⟩
theorem BkOk.le {n m:Int} {x:Bk} (h:BkOk n x) (hl:n≤m):BkOk m x:=⟨⟨h.id.1,Int.lt_of_lt_of_le h.id.2 hl⟩,h.flt,h.cls,h.many,h.state,h.till,h.free⟩
theorem at_some {b:Book} {n:Int} {p:Pl} (h:b.at n=some p):p∈b.fl∧p.n=n:=kget_some h
theorem at_iff {b:Book} (c:Core b) {n:Int} {p:Pl}:b.at n=some p↔p∈b.fl∧p.n=n:=kget_iff c.nums
theorem bk_iff {b:Book} (c:Core b) {n:Int} {x:Bk}:b.bk n=some x↔x∈b.L∧x.id=n:=kget_iff c.ids
theorem Core.at_of {b:Book} (c:Core b) {x:Bk} (hx:x∈b.L):∃ p,b.at x.flt=some p:=by
 obtain ⟨p,hp,e⟩:=c.there x hx
 exact ⟨p,(at_iff c).2 ⟨hp,e⟩⟩
theorem at_put {b:Book} {n:Int} {f:Pl→Pl} {L:List Bk} {p:Pl} (hf:(f p).n=n) (c:Core b) (h:b.at n=some p) (c':KRise Pl.n (kset Pl.n n f b.fl)):(b.put n f L).at n=some (f p):=by
 have h1:=at_some h
 exact (kget_iff c').2 ⟨mem_kset.2 ⟨p,h1.1,by rw [if_pos h1.2]⟩,hf⟩
end
end Go.Proofs.YtflgboncpbmikaaGreatDoor
/- What a flight's steps do to what is left, and to who has what. No condition. -/
namespace Go.Proofs.YtflgboncpbmikaaGreatDoor
set_option linter.unusedVariables false
set_option linter.unusedSimpArgs false
open Go Go.VC
variable {r:RF} {o c m:Int}
theorem good_take (g:Good r) (o c m:Int):Good (rtakeF r o c m).1:=by
 obtain ⟨f,_,t⟩:=dec_enc g
 exact (tie_take t g o c m).2.2
theorem good_give (g:Good r) (o:Int):Good (rgiveF r o).1:=by
 obtain ⟨f,_,t⟩:=dec_enc g
 exact (tie_give t g o).2.2
theorem good_seat (g:Good r) (o:Int) (lab:ByteArray):Good (rseatF r o lab).1:=by
 obtain ⟨f,_,t⟩:=dec_enc g
 exact (tie_seat t g o lab fun k h=>find_in h).2.2
theorem good_auto (g:Good r) (o:Int):Good (rautoF r o).1:=by
 obtain ⟨f,_,t⟩:=dec_enc g
 exact (tie_auto t g o).2.2.1
theorem take_num:(rtakeF r o c m).1.num=r.num∧(rtakeF r o c m).1.lims=r.lims:=by
 by_cases h:(rtakeF r o c m).2=0
 ·obtain ⟨A,C,e,_,_⟩:=take_ok h
  rw [e]
  exact ⟨rfl,rfl⟩
 ·rw [take_no h]
  exact ⟨rfl,rfl⟩
theorem take_mem (h:(rtakeF r o c m).2=0) {x:Hold}:x∈(rtakeF r o c m).1.L↔x=⟨o,c,m,[]⟩∨x∈r.L:=by
 obtain ⟨A,C,e,hL,_⟩:=take_ok h
 rw [e,hL]
 dsimp only
 rw [List.mem_append,List.mem_cons,List.mem_append]
 constructor
 ·rintro (h|h|h)<;>simp [h]
 ·rintro (h|h|h)<;>simp [h]
theorem take_facts (h:(rtakeF r o c m).2=0):(1≤o∧o≤28629151)∧getO o r.L=none∧(sellT r.lims r.sold c m).2=0∧rtakeF r o c m=({ r with L:=insH ⟨o,c,m,[]⟩ r.L },0):=by
 unfold rtakeF at h ⊢
 split at h
 ·cases h
 rename_i h1
 split at h
 ·cases h
 rename_i h2
 rw [if_neg h1,if_neg h2]
 split at h
 ·rename_i h3
  rw [if_pos h3]
  exact ⟨by omega,by cases e:getO o r.L with|none=>rfl|some x=>rw [e] at h2;simp at h2,h3,rfl⟩
 ·rename_i h3;exact absurd h h3
theorem take_sold (h:(rtakeF r o c m).2=0):(rtakeF r o c m).1.sold=r.sold.set c.toNat (r.sold.getD c.toNat 0 + m)∧0≤c∧c<r.lims.length∧1≤m:=by
 obtain ⟨_,_,h3,e⟩:=take_facts h
 obtain ⟨_,_,c0,c1,m0⟩:=nest_sell h3
 refine ⟨?_,c0,c1,m0⟩
 rw [e]
 exact (soldL_put (n:=r.lims.length) (insH_perm ⟨o,c,m,[]⟩ r.L) c0 c1).symm
theorem mnF_mono {x y:Nat→Int}:∀ {k:Nat},(∀ i,i<k→x i≤y i)→mnF x k≤mnF y k
 |0,_=>Int.le_refl _
 |k + 1,h=>by
  have h1:=mnF_mono (k:=k) fun i hi=>h i (by omega)
  have h2:=h k (by omega)
  unfold mnF
  split<;>split<;>omega
theorem lefts_len (r:RF):(rleftsF r).length=r.lims.length:=by simp [rleftsF]
theorem lefts_get {k:Nat} (h:k<r.lims.length):(rleftsF r).getD k 0=(leftT r.lims r.sold k).1:=by
 unfold rleftsF
 rw [List.getD_eq_getElem?_getD]
 simp [h]
theorem left_val (g:Good r) {k:Nat} (h:k<r.lims.length):(leftT r.lims r.sold k).1=mnF (roomF r.lims r.sold) (k + 1)∧(leftT r.lims r.sold k).2=0:=by
 unfold leftT
 rw [if_pos ⟨g.nest,by omega,by omega⟩]
 exact ⟨by rw [Int.toNat_natCast],rfl⟩
theorem take_left (g:Good r) (h:(rtakeF r o c m).2=0) {k:Nat} (hk:k<r.lims.length):(rleftsF (rtakeF r o c m).1).getD k 0≤(rleftsF r).getD k 0:=by
 obtain ⟨hs,c0,c1,m0⟩:=take_sold h
 have hl:=(take_num (r:=r) (o:=o) (c:=c) (m:=m)).2
 have g':=good_take g o c m
 rw [lefts_get hk,lefts_get (by rw [hl];exact hk),(left_val g hk).1,(left_val g' (by rw [hl];exact hk)).1,hl,hs]
 refine mnF_mono fun i hi=>?_
 unfold roomF
 have hlen:r.sold.length=r.lims.length:=soldL_len _ _
 have:=fromN_add (sold:=r.sold) (c:=c.toNat) (m:=m) (by omega) (r.lims.length - i) i (by omega)
 rw [this]
 split<;>omega
theorem take_fits (g:Good r) {w:Wt} (hw:w.Ok) (hf:fitsQ (rleftsF r) w=true) (hn:getO w.id r.L=none):(rtakeF r w.id w.cls w.many).2=0:=by
 obtain ⟨⟨a1,a2⟩,⟨b1,b2⟩,⟨c1,c2⟩,_⟩:=hw
 unfold fitsQ at hf
 simp only [Bool.and_eq_true,decide_eq_true_eq] at hf
 rw [lefts_len] at hf
 rw [lefts_get (by omega)] at hf
 have hv:=left_val g (k:=w.cls.toNat) (by omega)
 have e:((w.cls.toNat:Nat):Int)=w.cls:=by omega
 rw [e] at hf hv
 have hs:(sellT r.lims r.sold w.cls w.many).2=0:=by
  unfold sellT
  rw [if_neg (by rw [hv.2];omega),if_neg (by omega)]
 unfold rtakeF
 rw [if_neg (by omega),hn,if_neg (by simp),if_pos hs]
theorem fits_take (g:Good r) (h:(rtakeF r o c m).2=0) {w:Wt} (hw:0≤w.cls) (hf:fitsQ (rleftsF (rtakeF r o c m).1) w=true):fitsQ (rleftsF r) w=true:=by
 unfold fitsQ at *
 simp only [Bool.and_eq_true,decide_eq_true_eq] at *
 rw [lefts_len] at *
 rw [(take_num (r:=r) (o:=o) (c:=c) (m:=m)).2] at hf
 have:=take_left g h (k:=w.cls.toNat) (by omega)
 omega
theorem give_num:(rgiveF r o).1.num=r.num∧(rgiveF r o).1.lims=r.lims:=by
 unfold rgiveF
 split<;>exact ⟨rfl,rfl⟩
theorem give_mem (g:Good r) {x:Hold}:x∈(rgiveF r o).1.L↔x∈r.L∧x.owner≠o:=by
 unfold rgiveF
 cases hg:getO o r.L with
 |none=>
  dsimp only
  exact ⟨fun h=>⟨h,getO_none.1 hg x h⟩,fun h=>h.1⟩
 |some hd=>
  obtain ⟨A,C,hL,hA,ho⟩:=getO_split hg
  have hr:=g.rise
  dsimp only
  rw [hL] at hr ⊢
  rw [delO_app ho hA]
  have hp:=List.pairwise_append.1 hr
  have hc:=List.pairwise_cons.1 hp.2.1
  rw [List.mem_append,List.mem_append,List.mem_cons]
  constructor
  ·rintro (h|h)
   ·exact ⟨.inl h,getO_none.1 hA x h⟩
   ·exact ⟨.inr (.inr h),by have:=hc.1 x h;omega⟩
  ·rintro ⟨h|rfl|h,hn⟩
   ·exact .inl h
   ·exact absurd ho hn
   ·exact .inr h
structure Seatly (r r':RF):Prop where
 num:r'.num=r.num
 lims:r'.lims=r.lims
 rows:r'.rows=r.rows
 grps:r'.grps=r.grps
 each:∃ A hd hd' C,r.L=A++hd::C∧r'.L=A++hd'::C∧hd'.owner=hd.owner∧hd'.cls=hd.cls∧hd'.many=hd.many
theorem Seatly.sold {r':RF} (h:Seatly r r'):r'.sold=r.sold:=by
 obtain ⟨A,hd,hd',C,e1,e2,_,e4,e5⟩:=h.each
 unfold RF.sold soldL
 rw [h.lims]
 apply List.map_congr_left
 intro k _
 rw [e1,e2,cntL_app,cntL_app,cntL_cons,cntL_cons,e4,e5]
theorem Seatly.lefts {r':RF} (h:Seatly r r'):rleftsF r'=rleftsF r:=by
 unfold rleftsF
 rw [h.lims,h.sold]
theorem Seatly.mem {r':RF} (h:Seatly r r') {x:Hold} (hx:x∈r.L):∃ y∈r'.L,y.owner=x.owner∧y.cls=x.cls∧y.many=x.many:=by
 obtain ⟨A,hd,hd',C,e1,e2,e3,e4,e5⟩:=h.each
 rw [e1,List.mem_append,List.mem_cons] at hx
 rw [e2]
 rcases hx with hx|rfl|hx
 ·exact ⟨x,by simp [hx],rfl,rfl,rfl⟩
 ·exact ⟨hd',by simp,e3,e4,e5⟩
 ·exact ⟨x,by simp [hx],rfl,rfl,rfl⟩
theorem Seatly.symm {r':RF} (h:Seatly r r'):Seatly r' r:=by
 obtain ⟨A,hd,hd',C,e1,e2,e3,e4,e5⟩:=h.each
 exact ⟨h.num.symm,h.lims.symm,h.rows.symm,h.grps.symm,A,hd',hd,C,e2,e1,e3.symm,e4.symm,e5.symm⟩
theorem seat_ly (g:Good r) {lab:ByteArray} (h:(rseatF r o lab).2=0):Seatly r (rseatF r o lab).1:=by
 obtain ⟨A,hd,C,n,_,hL,_,_,_,e⟩:=seat_ok g h
 rw [e]
 exact ⟨rfl,rfl,rfl,rfl,A,hd,hd.put n,C,hL,rfl,rfl,rfl,rfl⟩
theorem auto_ly (h:(rautoF r o).2.2=0):Seatly r (rautoF r o).1:=by
 unfold rautoF at *
 cases hg:getO o r.L with
 |none=>rw [hg] at h;cases h
 |some hd=>
  obtain ⟨A,C,hL,hA,ho⟩:=getO_split hg
  rw [hg] at h
  dsimp only at h ⊢
  split at h
  ·cases h
  ·rename_i h1
   rw [if_neg h1]
   split at h
   ·rename_i h2
    rw [if_pos h2]
    refine ⟨rfl,rfl,rfl,rfl,A,hd,{ hd with seats:=(bestT r.rows r.grps (takenL r.L) hd.many).1 },C,hL,?_,rfl,rfl,rfl⟩
    show setO o _ r.L=_
    rw [hL]
    exact setO_app ho hA
   ·rename_i h2;exact absurd h h2
theorem seat_no' {lab:ByteArray} (h:(rseatF r o lab).2≠0):(rseatF r o lab).1=r:=(seat_no h).1
theorem auto_no (h:(rautoF r o).2.2≠0):(rautoF r o).1=r:=by
 unfold rautoF at *
 cases hg:getO o r.L with
 |none=>rfl
 |some hd=>
  rw [hg] at h
  dsimp only at h ⊢
  split
  ·rfl
  ·rename_i h1
   rw [if_neg h1] at h
   split
   ·rename_i h2;rw [if_pos h2] at h;exact absurd rfl h
   ·rfl
end Go.Proofs.YtflgboncpbmikaaGreatDoor
/- The book, plainly: what holds of it, behind each step. No condition. -/
namespace Go.Proofs.YtflgboncpbmikaaGreatDoor
set_option linter.unusedVariables false
set_option linter.unusedSimpArgs false
open Go Go.VC
variable {b:Book} {n:Int} {p:Pl} {w:Wt} {x:Bk}
theorem Core.uniq (c:Core b) {x y:Bk} (hx:x∈b.L) (hy:y∈b.L) (e:x.id=y.id):x=y:=c.ids.uniq hx hy e
theorem Core.uniqP (c:Core b) {p q:Pl} (hp:p∈b.fl) (hq:q∈b.fl) (e:p.n=q.n):p=q:=c.nums.uniq hp hq e
theorem Core.waits (c:Core b) (hp:p∈b.fl) (hw:w∈p.q):∃ x∈b.L,x.id=w.id∧x.flt=p.n∧x.state=3∧x.cls=w.cls∧x.many=w.many:=by
 obtain ⟨x,hx,e1,e2,e3⟩:=(c.loc p hp).backQ w hw
 have h:=(c.loc p hp).has x hx e2
 unfold HasP at h
 rw [if_pos e3] at h
 obtain ⟨⟨w',hw',a1,a2,a3⟩,_⟩:=h
 have:w'=w:=by
  have hq:=(c.qok p hp).ids
  have key:∀ {q:List Wt},QIds q→∀ {a b:Wt},a∈q→b∈q→a.id=b.id→a=b:=by
   intro q
   induction q with
   |nil=>intro _ a b ha;cases ha
   |cons y q ih=>
    intro h a b ha hb e
    have hp:=List.pairwise_cons.1 h
    rcases List.mem_cons.1 ha with e1|h1
    ·rcases List.mem_cons.1 hb with e2|h2
     ·rw [e1,e2]
     ·rw [e1] at e;exact absurd e (hp.1 b h2)
    ·rcases List.mem_cons.1 hb with e2|h2
     ·rw [e2] at e;exact absurd e.symm (hp.1 a h1)
     ·exact ih hp.2 h1 h2 e
  exact key hq hw' hw (by omega)
 rw [this] at a2 a3
 exact ⟨x,hx,e1,e2,e3,a2.symm,a3.symm⟩
theorem Core.noHold (c:Core b) (hp:p∈b.fl) (hw:w∈p.q):getO w.id p.r.L=none:=by
 rw [getO_none]
 intro h hh e
 obtain ⟨x,hx,e1,e2,e3,_⟩:=c.waits hp hw
 obtain ⟨y,hy,a1,a2,a3⟩:=(c.loc p hp).backH h hh
 have:=c.uniq hx hy (by omega)
 rw [this] at e3
 exact a3 e3
theorem takeW_n:(takeW w p).n=p.n:=take_num.1
theorem fit_take (c:Core b) (hp:p∈b.fl) (hw:qfirst p.q (rleftsF p.r)=some w):w∈p.q∧fitsQ (rleftsF p.r) w=true∧(rtakeF p.r w.id w.cls w.many).2=0:=by
 obtain ⟨h1,h2⟩:=qfirst_mem hw
 exact ⟨h1,h2,take_fits (c.good p hp) ((c.qok p hp).ok w h1) h2 (c.noHold hp h1)⟩
theorem core_move (c:Core b) (hp:p∈b.fl) (hn:p.n=n) (hf:qfirst p.q (rleftsF p.r)=some w):Core (moveB b n w):=by
 obtain ⟨hw,hfit,htake⟩:=fit_take c hp hf
 obtain ⟨x,hx,e1,e2,e3,e4,e5⟩:=c.waits hp hw
 have hq:=c.qok p hp
 refine c.swap (next:=b.next) ⟨Int.le_refl _,c.next.2⟩ (fun p' hp' hn'=>?_) (kset_rise c.ids fun y _ e=>e) (fun y hy=>?_) (by show (kset Bk.id w.id bookX b.L).length≤300;rw [kset_len];exact c.many) (fun y hy=>?_) fun y _ _=>⟨p,hp,hn⟩
 ·obtain rfl:p'=p:=c.uniqP hp' hp (by omega)
  refine ⟨by rw [takeW_n];exact hn,good_take (c.good _ hp) _ _ _,hq.del _,?_⟩
  have hl:=c.loc _ hp
  refine ⟨fun y hy e=>?_,fun v hv=>?_,fun h hh=>?_⟩
  ·obtain ⟨z,hz,rfl⟩:=mem_kset.1 hy
   by_cases hid:z.id=w.id
   ·rw [if_pos hid]
    obtain rfl:z=x:=c.uniq hz hx (by omega)
    unfold HasP
    rw [if_neg (by show (2:Int)≠3;omega)]
    exact ⟨⟨w.id,w.cls,w.many,[]⟩,(take_mem htake).2 (.inl rfl),hid.symm,e4.symm,e5.symm⟩
   ·rw [if_neg hid] at e ⊢
    have hz2:=hl.has z hz (by rw [e,takeW_n])
    unfold HasP at *
    by_cases h3:z.state=3
    ·rw [if_pos h3] at hz2 ⊢
     obtain ⟨⟨v,hv,a1,a2,a3⟩,a4⟩:=hz2
     refine ⟨⟨v,(delQ_mem hq.ids).2 ⟨hv,by omega⟩,a1,a2,a3⟩,?_⟩
     show z.cls<((rtakeF _ _ _ _).1.lims.length:Int)
     rw [take_num.2];exact a4
    ·rw [if_neg h3] at hz2 ⊢
     obtain ⟨h,hh,a1,a2,a3⟩:=hz2
     exact ⟨h,(take_mem htake).2 (.inr hh),a1,a2,a3⟩
  ·obtain ⟨hv1,hv2⟩:=(delQ_mem hq.ids).1 hv
   obtain ⟨y,hy,a1,a2,a3⟩:=hl.backQ v hv1
   exact ⟨y,mem_kset.2 ⟨y,hy,by rw [if_neg (by omega)]⟩,a1,by rw [a2,takeW_n],a3⟩
  ·rcases (take_mem htake).1 hh with rfl|hh
   ·exact ⟨bookX x,mem_kset.2 ⟨x,hx,by rw [if_pos e1]⟩,e1,by show x.flt=_;rw [e2,takeW_n],by show (2:Int)≠3;omega⟩
   ·obtain ⟨y,hy,a1,a2,a3⟩:=hl.backH h hh
    refine ⟨y,mem_kset.2 ⟨y,hy,?_⟩,a1,by rw [a2,takeW_n],a3⟩
    rw [if_neg fun e=>?_]
    obtain rfl:y=x:=c.uniq hy hx (by omega)
    exact a3 e3
 ·obtain ⟨z,hz,rfl⟩:=mem_kset.1 hy
  have hb:=c.each z hz
  by_cases hid:z.id=w.id
  ·rw [if_pos hid]
   obtain rfl:z=x:=c.uniq hz hx (by omega)
   exact ⟨hb.id,hb.flt,hb.cls,hb.many,⟨by show (1:Int)≤2;omega,by show (2:Int)≤3;omega⟩,hb.till,fun _=>hb.free (by omega)⟩
  ·rw [if_neg hid];exact hb
 ·constructor
  ·intro h
   obtain ⟨z,hz,rfl⟩:=mem_kset.1 h
   by_cases hid:z.id=w.id
   ·rw [if_pos hid] at hy
    obtain rfl:z=x:=c.uniq hz hx (by omega)
    exact absurd (e2.trans hn) hy
   ·rw [if_neg hid];exact hz
  ·intro h
   refine mem_kset.2 ⟨y,h,?_⟩
   rw [if_neg fun e=>?_]
   obtain rfl:y=x:=c.uniq h hx (by omega)
   exact hy (e2.trans hn)
theorem move_at (c:Core b) (hp:b.at n=some p):(moveB b n w).at n=some (takeW w p):=
 at_put (by rw [takeW_n];exact (at_some hp).2) c hp (kset_rise c.nums fun q _ e=>by rw [takeW_n];exact e)
theorem move_fl {q:Pl} (h:q∈(moveB b n w).fl):q.n=n∨q∈b.fl:=by
 obtain ⟨z,hz,rfl⟩:=mem_kset.1 h
 by_cases e:z.n=n
 ·rw [if_pos e];exact .inl (by rw [takeW_n];exact e)
 ·rw [if_neg e];exact .inr hz
theorem move_timely (t:Timely b):Timely (moveB b n w):=by
 intro x hx hs
 obtain ⟨z,hz,rfl⟩:=mem_kset.1 hx
 by_cases e:z.id=w.id
 ·rw [if_pos e] at hs;exact absurd hs (by show (2:Int)≠1;omega)
 ·rw [if_neg e] at hs ⊢;exact t z hz hs
theorem delQ_len {id:Int} {q:List Wt} (h:hasQ id q=true):(delQ id q).length + 1=q.length:=by
 obtain ⟨A,w,C,e,_,_,e2⟩:=delQ_split h
 rw [e2,e]
 simp
 omega
structure Kept (n:Int) (b b':Book):Prop where
 now:b'.now=b.now
 next:b'.next=b.next
 keys:b'.fl.map Pl.n=b.fl.map Pl.n
 others:∀ q∈b'.fl,q.n=n∨q∈b.fl
 ids:b'.L.map Bk.id=b.L.map Bk.id
 bk:∀ y∈b'.L,∃ x∈b.L,y.id=x.id∧y.flt=x.flt∧y.cls=x.cls∧y.many=x.many∧y.till=x.till
theorem Kept.refl (n:Int) (b:Book):Kept n b b:=⟨rfl,rfl,rfl,fun _ h=>.inr h,rfl,fun y hy=>⟨y,hy,rfl,rfl,rfl,rfl,rfl⟩⟩
theorem Kept.trans {b1 b2 b3:Book} (h1:Kept n b1 b2) (h2:Kept n b2 b3):Kept n b1 b3:=
 ⟨h2.now.trans h1.now,h2.next.trans h1.next,h2.keys.trans h1.keys,fun q hq=>by
  rcases h2.others q hq with h|h
  ·exact .inl h
  ·exact h1.others q h,h2.ids.trans h1.ids,fun y hy=>by
  obtain ⟨x,hx,a1,a2,a3,a4,a5⟩:=h2.bk y hy
  obtain ⟨z,hz,c1,c2,c3,c4,c5⟩:=h1.bk x hx
  exact ⟨z,hz,by omega,by omega,by omega,by omega,by omega⟩⟩
theorem kset_keys {α:Type} {k:α→Int} {n:Int} {f:α→α} (hf:∀ x,k x=n→k (f x)=n):∀ l:List α,(kset k n f l).map k=l.map k
 |[]=>rfl
 |a::l=>by
  show k (if k a=n then f a else a)::(kset k n f l).map k=_
  rw [kset_keys hf l,List.map_cons]
  split
  ·rename_i e;rw [hf a e,e]
  ·rfl
theorem kept_move:Kept n b (moveB b n w):=by
 refine ⟨rfl,rfl,kset_keys (fun q e=>by rw [takeW_n];exact e) _,fun q hq=>move_fl hq,kset_keys (k:=Bk.id) (f:=bookX) (fun y e=>e) b.L,fun y hy=>?_⟩
 obtain ⟨z,hz,rfl⟩:=mem_kset.1 hy
 refine ⟨z,hz,?_⟩
 split<;>exact ⟨rfl,rfl,rfl,rfl,rfl⟩
theorem prom_ok:∀ (k:Nat) {b:Book},Core b→Core (promB k n b)∧Kept n b (promB k n b)∧(Timely b→Timely (promB k n b))∧((∀ p,b.at n=some p→p.q.length<k)→∀ p∈(promB k n b).fl,p.n=n→NoFit p)
 |0,b,c=>⟨c,Kept.refl n b,fun t=>t,fun h p hp e=>absurd (h p ((at_iff c).2 ⟨hp,e⟩)) (by omega)⟩
 |k + 1,b,c=>by
  unfold promB
  cases ha:b.at n with
  |none=>
   refine ⟨c,Kept.refl n b,fun t=>t,fun _ p hp e=>?_⟩
   rw [(at_iff c).2 ⟨hp,e⟩] at ha
   cases ha
  |some p=>
   dsimp only
   have hp:=at_some ha
   cases hq:qfirst p.q (rleftsF p.r) with
   |none=>
    refine ⟨c,Kept.refl n b,fun t=>t,fun _ p' hp' e=>?_⟩
    obtain rfl:p'=p:=c.uniqP hp' hp.1 (by rw [e,hp.2])
    exact hq
   |some w=>
    dsimp only
    have c':=core_move c hp.1 hp.2 hq
    obtain ⟨i1,i2,i3,i4⟩:=prom_ok k c'
    refine ⟨i1,kept_move.trans i2,fun t=>i3 (move_timely t),fun h=>i4 fun p' hp'=>?_⟩
    rw [move_at c ha] at hp'
    cases hp'
    have h1:=h p rfl
    have hm:=(fit_take c hp.1 hq).1
    have h2:=delQ_len (hasQ_iff.2 ⟨w,hm,rfl⟩)
    show (delQ w.id p.q).length<k
    omega
theorem promote_ok (c:Core b):Core (promote n b)∧Kept n b (promote n b)∧(Timely b→Timely (promote n b))∧∀ p∈(promote n b).fl,p.n=n→NoFit p:=by
 obtain ⟨h1,h2,h3,h4⟩:=prom_ok (n:=n) 201 c
 exact ⟨h1,h2,h3,h4 fun p hp=>by have:=(c.qok p (at_some hp).1).len;omega⟩
theorem core_open (c:Core b) {r:RF} (g:Good r) (hL:r.L=[]) (hn:b.at r.num=none) (hf:b.fl.length<8):Core { b with fl:=kins Pl.n ⟨r,[]⟩ b.fl }:=by
 have hno:=kget_none.1 hn
 refine ⟨c.now,c.next,fun p hp=>?_,fun p hp=>?_,kins_rise c.nums hno,by show (kins Pl.n _ b.fl).length≤8;rw [kins_len];omega,c.ids,c.each,c.many,fun x hx=>?_,fun p hp=>?_⟩
 ·rcases mem_kins.1 hp with rfl|hp
  ·exact g
  ·exact c.good p hp
 ·rcases mem_kins.1 hp with rfl|hp
  ·exact QOk.nil
  ·exact c.qok p hp
 ·obtain ⟨p,hp,e⟩:=c.there x hx
  exact ⟨p,mem_kins.2 (.inr hp),e⟩
 ·rcases mem_kins.1 hp with rfl|hp
  ·refine ⟨fun x hx e=>?_,fun w hw=>(by cases hw),fun h hh=>?_⟩
   ·obtain ⟨p,hp,e2⟩:=c.there x hx
    exact absurd (e2.trans e) (hno p hp)
   ·rw [show (Pl.mk r []).r.L=r.L from rfl,hL] at hh;cases hh
  ·exact c.loc p hp
theorem core_out (c:Core b) (hx:x∈b.L) {f:Pl→Pl} (hf:∀ p∈b.fl,p.n=x.flt→(f p).n=x.flt∧Good (f p).r∧QOk (f p).q∧(f p).r.lims=p.r.lims∧(∀ w,w∈(f p).q↔w∈p.q∧w.id≠x.id)∧∀ h,h∈(f p).r.L↔h∈p.r.L∧h.owner≠x.id):
  Core (b.put x.flt f (kdel Bk.id x.id b.L)):=by
 refine c.swap (next:=b.next) ⟨Int.le_refl _,c.next.2⟩ (fun p hp hn=>?_) (kdel_rise c.ids) (fun y hy=>c.each y (mem_kdel.1 hy).1) (Nat.le_trans (List.length_filter_le _ _) c.many) (fun y hy=>?_) fun y _ _=>c.there x hx
 ·obtain ⟨f1,f2,f3,f6,f4,f5⟩:=hf p hp hn
  have hl:=c.loc p hp
  refine ⟨f1,f2,f3,fun y hy e=>?_,fun w hw=>?_,fun h hh=>?_⟩
  ·obtain ⟨hy1,hy2⟩:=mem_kdel.1 hy
   have h:=hl.has y hy1 (by rw [e,f1,hn])
   unfold HasP at *
   by_cases h3:y.state=3
   ·rw [if_pos h3] at h ⊢
    obtain ⟨⟨w,hw,a1,a2,a3⟩,a4⟩:=h
    exact ⟨⟨w,(f4 w).2 ⟨hw,by omega⟩,a1,a2,a3⟩,by rw [f6];exact a4⟩
   ·rw [if_neg h3] at h ⊢
    obtain ⟨h,hh,a1,a2,a3⟩:=h
    exact ⟨h,(f5 h).2 ⟨hh,by omega⟩,a1,a2,a3⟩
  ·obtain ⟨hw1,hw2⟩:=(f4 w).1 hw
   obtain ⟨y,hy,a1,a2,a3⟩:=hl.backQ w hw1
   exact ⟨y,mem_kdel.2 ⟨hy,by omega⟩,a1,by rw [a2,f1,hn],a3⟩
  ·obtain ⟨hh1,hh2⟩:=(f5 h).1 hh
   obtain ⟨y,hy,a1,a2,a3⟩:=hl.backH h hh1
   exact ⟨y,mem_kdel.2 ⟨hy,by omega⟩,a1,by rw [a2,f1,hn],a3⟩
 ·refine mem_kdel.trans ⟨fun h=>h.1,fun h=>⟨h,fun e=>hy ?_⟩⟩
  rw [c.uniq h hx e]
theorem core_drop (c:Core b) (hx:x∈b.L) (hs:x.state≠3):Core (dropB b x):=by
 refine core_out c hx fun p hp hn=>⟨by show (rgiveF _ _).1.num=_;rw [give_num.1];exact hn,good_give (c.good p hp) _,c.qok p hp,give_num.2,fun w=>⟨fun hw=>⟨hw,fun e=>?_⟩,fun h=>h.1⟩,fun h=>give_mem (c.good p hp)⟩
 obtain ⟨y,hy,e1,_,e3,_⟩:=c.waits hp hw
 rw [c.uniq hy hx (by omega)] at e3
 exact hs e3
theorem core_gone (c:Core b) (hx:x∈b.L):Core (gone b x):=by
 unfold gone
 split
 ·rename_i hs
  refine core_out c hx fun p hp hn=>⟨hn,c.good p hp,(c.qok p hp).del _,rfl,fun w=>delQ_mem (c.qok p hp).ids,fun h=>⟨fun hh=>⟨hh,fun e=>?_⟩,fun hh=>hh.1⟩⟩
  obtain ⟨y,hy,a1,a2,a3⟩:=(c.loc p hp).backH h hh
  rw [c.uniq hy hx (by omega)] at a3
  exact a3 hs
 ·rename_i hs
  exact core_drop c hx hs
theorem put_timely {f:Pl→Pl} {L:List Bk} (t:Timely b) (h:∀ y∈L,y.state=1→y∈b.L):Timely (b.put n f L):=fun y hy hs=>t y (h y hy hs) hs
theorem gone_timely (t:Timely b):Timely (gone b x):=by
 unfold gone dropB
 split<;>exact put_timely t fun y hy _=>(mem_kdel.1 hy).1
theorem gone_fl {q:Pl} (h:q∈(gone b x).fl):q.n=x.flt∨q∈b.fl:=by
 unfold gone dropB at h
 split at h<;>
 ·obtain ⟨z,hz,rfl⟩:=mem_kset.1 h
  by_cases e:z.n=x.flt
  ·rw [if_pos e]
   exact .inl (by first|exact e|(show (rgiveF _ _).1.num=_;rw [give_num.1];exact e))
  ·rw [if_neg e];exact .inr hz
end Go.Proofs.YtflgboncpbmikaaGreatDoor
/- The book, plainly: each command. No condition. -/
namespace Go.Proofs.YtflgboncpbmikaaGreatDoor
set_option linter.unusedVariables false
set_option linter.unusedSimpArgs false
open Go Go.VC
variable {b:Book} {n:Int} {p:Pl} {w:Wt} {x:Bk} {c:Cm}
theorem mem_snoc {α:Type} {l:List α} {a y:α}:y∈l++[a]↔y∈l∨y=a:=by simp
theorem Core.fresh (k:Core b) {y:Bk} (hy:y∈b.L):y.id<b.next:=(k.each y hy).id.2
theorem core_add (k:Core b) (hx:BkOk (b.next + 1) x) (hid:x.id=b.next) (hf:¬ b.full) (hp:p∈b.fl) (hn:p.n=x.flt) {f:Pl→Pl} (hl:(f p).n=p.n∧Good (f p).r∧QOk (f p).q∧LocP (b.L++[x]) (f p)):
  Core { b.put x.flt f (b.L++[x]) with next:=b.next + 1 }:=by
 unfold Book.full at hf
 refine k.swap (next:=b.next + 1) ⟨by omega,by omega⟩ (fun p' hp' hn'=>?_) (krise_snoc k.ids fun y hy=>by rw [hid];exact k.fresh hy) (fun y hy=>?_) (by rw [List.length_append,List.length_singleton];omega) (fun y hy=>?_) fun y _ _=>⟨p,hp,hn⟩
 ·obtain rfl:p'=p:=k.uniqP hp' hp (by omega)
  exact ⟨by rw [hl.1];exact hn,hl.2.1,hl.2.2.1,hl.2.2.2⟩
 ·rcases mem_snoc.1 hy with hy|rfl
  ·exact (k.each y hy).le (by omega)
  ·exact hx
 ·refine mem_snoc.trans ⟨fun h=>?_,fun h=>.inl h⟩
  rcases h with h|rfl
  ·exact h
  ·exact absurd rfl hy
theorem core_hold (k:Core b) (hc:RightC c) (hp:b.at c.flt=some p) (hf:¬ b.full) (ht:(rtakeF p.r b.next c.cls c.many).2=0):
  Core { b.put c.flt (takeP b.next c.cls c.many) (b.L++[heldX b c]) with next:=b.next + 1 }:=by
 obtain ⟨hp1,hp2⟩:=at_some hp
 have hnx:=k.next
 refine core_add k (x:=heldX b c) ⟨⟨hnx.1,by show b.next<b.next + 1;omega⟩,hc.flt,hc.cls,hc.many,⟨by show (1:Int)≤1;omega,by show (1:Int)≤3;omega⟩,hc.time,fun h=>absurd rfl h⟩ rfl hf hp1 hp2 ?_
 refine ⟨take_num.1,good_take (k.good p hp1) _ _ _,k.qok p hp1,?_⟩
 have hl:=k.loc p hp1
 have hnum:(takeP b.next c.cls c.many p).n=p.n:=take_num.1
 refine ⟨fun y hy e=>?_,fun v hv=>?_,fun h hh=>?_⟩
 ·rcases mem_snoc.1 hy with hy|rfl
  ·have h:=hl.has y hy (by rw [e,hnum])
   unfold HasP at *
   by_cases h3:y.state=3
   ·rw [if_pos h3] at h ⊢
    exact ⟨h.1,by show y.cls<((rtakeF _ _ _ _).1.lims.length:Int);rw [take_num.2];exact h.2⟩
   ·rw [if_neg h3] at h ⊢
    obtain ⟨h,hh,a⟩:=h
    exact ⟨h,(take_mem ht).2 (.inr hh),a⟩
  ·unfold HasP
   rw [if_neg (by show (1:Int)≠3;omega)]
   exact ⟨⟨b.next,c.cls,c.many,[]⟩,(take_mem ht).2 (.inl rfl),rfl,rfl,rfl⟩
 ·obtain ⟨y,hy,a1,a2,a3⟩:=hl.backQ v hv
  exact ⟨y,mem_snoc.2 (.inl hy),a1,by rw [a2,hnum],a3⟩
 ·rcases (take_mem ht).1 hh with rfl|hh
  ·exact ⟨heldX b c,mem_snoc.2 (.inr rfl),rfl,by show c.flt=_;rw [hnum];exact hp2.symm,by show (1:Int)≠3;omega⟩
  ·obtain ⟨y,hy,a1,a2,a3⟩:=hl.backH h hh
   exact ⟨y,mem_snoc.2 (.inl hy),a1,by rw [a2,hnum],a3⟩
theorem qadd_facts {q:List Wt} (h:(qadd q w).2=0):w.Ok∧hasQ w.id q=false∧q.length<200∧qadd q w=(insQ w q,0):=by
 unfold qadd at *
 split at h
 ·cases h
 rename_i h1
 split at h
 ·cases h
 rename_i h2
 split at h
 ·cases h
 rename_i h3
 rw [if_neg h1,if_neg h2,if_neg h3]
 exact ⟨by simpa using h1,by simpa using h2,by omega,rfl⟩
theorem core_wait (k:Core b) (hc:RightC c) (hs:c.sc<18446744073709551616) (hp:b.at c.flt=some p) (hcl:¬ (p.r.lims.length:Int)≤c.cls) (hf:¬ b.full) (hq:(qadd p.q (waitW b c)).2=0):Core (queued b c):=by
 obtain ⟨hp1,hp2⟩:=at_some hp
 obtain ⟨q1,q2,q3,_⟩:=qadd_facts hq
 have hnx:=k.next
 refine core_add k (x:=waitX b c) ⟨⟨hnx.1,by show b.next<b.next + 1;omega⟩,hc.flt,hc.cls,hc.many,⟨by show (1:Int)≤3;omega,by show (3:Int)≤3;omega⟩,⟨Int.le_refl _,by show (0:Int)≤_;omega⟩,fun _=>rfl⟩ rfl hf hp1 hp2 ?_
 refine ⟨rfl,k.good p hp1,(k.qok p hp1).ins q1 hs q2 q3,?_⟩
 have hl:=k.loc p hp1
 refine ⟨fun y hy e=>?_,fun v hv=>?_,fun h hh=>?_⟩
 ·rcases mem_snoc.1 hy with hy|rfl
  ·have h:=hl.has y hy e
   unfold HasP at *
   by_cases h3:y.state=3
   ·rw [if_pos h3] at h ⊢
    obtain ⟨⟨v,hv,a⟩,a4⟩:=h
    exact ⟨⟨v,insQ_mem.2 (.inr hv),a⟩,a4⟩
   ·rw [if_neg h3] at h ⊢
    exact h
  ·unfold HasP
   rw [if_pos (by rfl)]
   exact ⟨⟨waitW b c,insQ_mem.2 (.inl rfl),rfl,rfl,rfl⟩,by show c.cls<(p.r.lims.length:Int);omega⟩
 ·rcases insQ_mem.1 hv with rfl|hv
  ·exact ⟨waitX b c,mem_snoc.2 (.inr rfl),rfl,hp2.symm,rfl⟩
  ·obtain ⟨y,hy,a⟩:=hl.backQ v hv
   exact ⟨y,mem_snoc.2 (.inl hy),a⟩
 ·obtain ⟨y,hy,a⟩:=hl.backH h hh
  exact ⟨y,mem_snoc.2 (.inl hy),a⟩
theorem core_sure (k:Core b) (hx:x∈b.L) (hs:x.state=1):Core { b with L:=kset Bk.id x.id sureX b.L }:=by
 have hmem:∀ {y},y∈kset Bk.id x.id sureX b.L→y=sureX x∨(y∈b.L∧y.id≠x.id):=fun {y} hy=>by
  obtain ⟨z,hz,rfl⟩:=mem_kset.1 hy
  by_cases e:z.id=x.id
  ·rw [if_pos e,k.uniq hz hx e];exact .inl rfl
  ·rw [if_neg e];exact .inr ⟨hz,e⟩
 have hput:∀ {y},y∈b.L→y.id≠x.id→y∈kset Bk.id x.id sureX b.L:=fun {y} hy e=>mem_kset.2 ⟨y,hy,by rw [if_neg e]⟩
 have hnew:sureX x∈kset Bk.id x.id sureX b.L:=mem_kset.2 ⟨x,hx,by rw [if_pos rfl]⟩
 refine ⟨k.now,k.next,k.good,k.qok,k.nums,k.few,kset_rise k.ids fun _ _ e=>e,fun y hy=>?_,by show (kset Bk.id _ _ b.L).length≤_;rw [kset_len];exact k.many,fun y hy=>?_,fun p hp=>?_⟩
 ·rcases hmem hy with rfl|⟨hy,_⟩
  ·have hb:=k.each x hx
   exact ⟨hb.id,hb.flt,hb.cls,hb.many,⟨by show (1:Int)≤2;omega,by show (2:Int)≤3;omega⟩,⟨Int.le_refl _,by show (0:Int)≤_;omega⟩,fun _=>rfl⟩
  ·exact k.each y hy
 ·rcases hmem hy with rfl|⟨hy,_⟩
  ·exact k.there x hx
  ·exact k.there y hy
 ·have hl:=k.loc p hp
  refine ⟨fun y hy e=>?_,fun w hw=>?_,fun h hh=>?_⟩
  ·rcases hmem hy with rfl|⟨hy,_⟩
   ·have h:=hl.has x hx e
    unfold HasP at *
    rw [if_neg (by omega)] at h
    rw [if_neg (by show (2:Int)≠3;omega)]
    exact h
   ·exact hl.has y hy e
  ·obtain ⟨y,hy,a1,a2,a3⟩:=hl.backQ w hw
   refine ⟨y,hput hy fun e=>?_,a1,a2,a3⟩
   rw [k.uniq hy hx e] at a3
   omega
  ·obtain ⟨y,hy,a1,a2,a3⟩:=hl.backH h hh
   by_cases e:y.id=x.id
   ·rw [k.uniq hy hx e] at a1 a2
    exact ⟨sureX x,hnew,a1,a2,by show (2:Int)≠3;omega⟩
   ·exact ⟨y,hput hy e,a1,a2,a3⟩
theorem core_seat (k:Core b) {r:RF} (hp:b.at n=some p) (g:Good r) (h:Seatly p.r r):Core (b.put n (seatP r) b.L):=by
 obtain ⟨hp1,hp2⟩:=at_some hp
 refine k.swap (next:=b.next) ⟨Int.le_refl _,k.next.2⟩ (fun p' hp' hn'=>?_) k.ids k.each k.many (fun y _=>Iff.rfl) fun y _ _=>⟨p,hp1,hp2⟩
 obtain rfl:p'=p:=k.uniqP hp' hp1 (by omega)
 have hl:=k.loc _ hp1
 have hnum:(seatP r p').n=p'.n:=h.num
 refine ⟨by rw [hnum];exact hp2,g,k.qok p' hp1,fun y hy e=>?_,fun w hw=>?_,fun o ho=>?_⟩
 ·have h2:=hl.has y hy (by rw [e,hnum])
  unfold HasP at *
  by_cases h3:y.state=3
  ·rw [if_pos h3] at h2 ⊢
   exact ⟨h2.1,by show y.cls<(r.lims.length:Int);rw [h.lims];exact h2.2⟩
  ·rw [if_neg h3] at h2 ⊢
   obtain ⟨o,ho,a1,a2,a3⟩:=h2
   obtain ⟨o',ho',c1,c2,c3⟩:=h.mem ho
   exact ⟨o',ho',by omega,by omega,by omega⟩
 ·obtain ⟨y,hy,a1,a2,a3⟩:=hl.backQ w hw
  exact ⟨y,hy,a1,by rw [a2,hnum],a3⟩
 ·obtain ⟨o',ho',c1,_,_⟩:=h.symm.mem ho
  obtain ⟨y,hy,a1,a2,a3⟩:=hl.backH o' ho'
  exact ⟨y,hy,by omega,by rw [a2,hnum],a3⟩
theorem core_now (k:Core b) {t:Int} (h:0≤t∧t≤1099511627776):Core { b with now:=t }:=⟨h,k.next,k.good,k.qok,k.nums,k.few,k.ids,k.each,k.many,k.there,k.loc⟩
theorem drop_now:(dropB b x).now=b.now:=rfl
theorem exp_ok:∀ (l:List Bk) {b:Book},Core b→(∀ x∈l,x∈b.L)→KRise Bk.id l→
  Core (expAll l b)∧(expAll l b).now=b.now∧(expAll l b).next=b.next∧((expAll l b).fl.map Pl.n=b.fl.map Pl.n)∧∀ y,y∈(expAll l b).L↔y∈b.L∧¬ (y∈l∧old b.now y=true)
 |[],b,k,_,_=>⟨k,rfl,rfl,rfl,fun y=>by simp [expAll]⟩
 |x::l,b,k,hl,hr=>by
  have hp:=List.pairwise_cons.1 hr
  have hx:=hl x (by simp)
  unfold expAll
  by_cases ho:old b.now x=true
  ·rw [if_pos ho]
   have hs:x.state=1:=by unfold old at ho;simp at ho;exact ho.1
   have k':=core_drop k hx (by omega)
   have hin:∀ y∈l,y∈(dropB b x).L:=fun y hy=>mem_kdel.2 ⟨hl y (by simp [hy]),by have:=hp.1 y hy;omega⟩
   obtain ⟨i1,i2,i3,i4,i5⟩:=exp_ok l k' hin hp.2
   refine ⟨i1,i2,i3,i4.trans (kset_keys (fun q e=>by show (rgiveF _ _).1.num=_;rw [give_num.1];exact e) _),fun y=>?_⟩
   rw [i5,drop_now]
   have hm:y∈(dropB b x).L↔y∈b.L∧y.id≠x.id:=mem_kdel
   rw [hm,List.mem_cons]
   constructor
   ·rintro ⟨⟨h1,h2⟩,h3⟩
    refine ⟨h1,fun ⟨h4,h5⟩=>?_⟩
    rcases h4 with rfl|h4
    ·exact h2 rfl
    ·exact h3 ⟨h4,h5⟩
   ·rintro ⟨h1,h2⟩
    refine ⟨⟨h1,fun e=>h2 ⟨.inl (k.uniq h1 hx e),?_⟩⟩,fun ⟨h4,h5⟩=>h2 ⟨.inr h4,h5⟩⟩
    rw [k.uniq h1 hx e];exact ho
  ·rw [if_neg ho]
   obtain ⟨i1,i2,i3,i4,i5⟩:=exp_ok l k (fun y hy=>hl y (by simp [hy])) hp.2
   refine ⟨i1,i2,i3,i4,fun y=>?_⟩
   rw [i5,List.mem_cons]
   constructor
   ·rintro ⟨h1,h2⟩
    refine ⟨h1,fun ⟨h4,h5⟩=>?_⟩
    rcases h4 with rfl|h4
    ·exact ho h5
    ·exact h2 ⟨h4,h5⟩
   ·rintro ⟨h1,h2⟩
    exact ⟨h1,fun ⟨h4,h5⟩=>h2 ⟨.inr h4,h5⟩⟩
theorem ticked_ok (k:Core b) {t:Int} (h:0≤t∧t≤1099511627776):Core (ticked b t)∧Timely (ticked b t)∧(ticked b t).now=t∧(ticked b t).next=b.next∧(ticked b t).fl.map Pl.n=b.fl.map Pl.n:=by
 obtain ⟨i1,i2,i3,i4,i5⟩:=exp_ok b.L (core_now k h) (fun x hx=>hx) k.ids
 refine ⟨i1,fun y hy hs=>?_,i2,i3,i4⟩
 obtain ⟨h1,h2⟩:=(i5 y).1 hy
 show (ticked b t).now<_
 rw [show (ticked b t).now=t from i2]
 refine Int.not_le.1 fun h3=>h2 ⟨h1,?_⟩
 unfold old
 simp [hs]
 exact h3
theorem promAll_ok:∀ (l:List Int) {b:Book},Core b→Timely b→∀ S:Int→Prop,(∀ p∈b.fl,S p.n→NoFit p)→
  Core (promAll l b)∧Timely (promAll l b)∧(promAll l b).now=b.now∧(promAll l b).next=b.next∧(promAll l b).fl.map Pl.n=b.fl.map Pl.n∧∀ p∈(promAll l b).fl,(S p.n∨p.n∈l)→NoFit p
 |[],b,k,t,S,h=>⟨k,t,rfl,rfl,rfl,fun p hp e=>h p hp (by simpa using e)⟩
 |n::l,b,k,t,S,h=>by
  obtain ⟨p1,p2,p3,p4⟩:=promote_ok (n:=n) k
  obtain ⟨i1,i2,i3,i4,i5,i6⟩:=promAll_ok l p1 (p3 t) (fun k=>S k∨k=n) fun p hp e=>by
   by_cases hn:p.n=n
   ·exact p4 p hp hn
   ·rcases p2.others p hp with h2|h2
    ·exact absurd h2 hn
    ·exact h p h2 (e.resolve_right hn)
  refine ⟨i1,i2,i3.trans p2.now,i4.trans p2.next,i5.trans p2.keys,fun p hp e=>i6 p hp ?_⟩
  rcases e with e|e
  ·exact .inl (.inl e)
  ·rcases List.mem_cons.1 e with e|e
   ·exact .inl (.inr e)
   ·exact .inr e
theorem BookOk.promoted (k:Core b) (t:Timely b) (h:∀ p∈b.fl,p.n=n∨NoFit p):BookOk (promote n b):=by
 obtain ⟨p1,p2,p3,p4⟩:=promote_ok (n:=n) k
 refine ⟨p1,p3 t,fun p hp=>?_⟩
 by_cases e:p.n=n
 ·exact p4 p hp e
 ·rcases p2.others p hp with h2|h2
  ·exact absurd h2 e
  ·exact (h p h2).resolve_left e
theorem nofit_nil {r:RF}:NoFit ⟨r,[]⟩:=rfl
theorem nofit_take (g:Good p.r) (hq:QOk p.q) (h:NoFit p) {id cls many:Int} (ht:(rtakeF p.r id cls many).2=0):NoFit (takeP id cls many p):=by
 unfold NoFit qfirst at *
 rw [List.find?_eq_none] at *
 intro w hw hf
 exact h w hw (fits_take g ht (hq.ok w hw).2.1.1 hf)
theorem nofit_seat {r:RF} (h:NoFit p) (hs:Seatly p.r r):NoFit (seatP r p):=by
 unfold NoFit at *
 show qfirst p.q (rleftsF r)=none
 rw [hs.lefts]
 exact h
theorem put_fl {f:Pl→Pl} {L:List Bk} {q:Pl} (h:q∈(b.put n f L).fl):(∃ p∈b.fl,p.n=n∧q=f p)∨(q∈b.fl∧q.n≠n):=by
 obtain ⟨z,hz,rfl⟩:=mem_kset.1 h
 by_cases e:z.n=n
 ·rw [if_pos e];exact .inl ⟨z,hz,e,rfl⟩
 ·rw [if_neg e];exact .inr ⟨hz,e⟩
theorem ok_open (k:BookOk b):BookOk (openB b c).1:=by
 unfold openB
 split
 ·exact k
 rename_i h1
 split
 ·exact k
 rename_i h2
 split
 ·exact k
 rename_i h3
 have hn:b.at c.flt=none:=by cases e:b.at c.flt with|none=>rfl|some p=>rw [e] at h1;simp at h1
 have h3:newOk c.flt c.rows c.grps c.parts:=Classical.byContradiction h3
 refine ⟨core_open k.core (good_new h3) rfl hn (by omega),k.time,fun p hp=>?_⟩
 rcases mem_kins.1 hp with rfl|hp
 ·exact nofit_nil
 ·exact k.nofit p hp
theorem ok_hold (k:BookOk b) (hc:RightC c):BookOk (heldB b c).1:=by
 unfold heldB
 cases hp:b.at c.flt with
 |none=>exact k
 |some p=>
  dsimp only
  split
  ·exact k
  rename_i h1
  split
  ·exact k
  rename_i h2
  split
  ·exact k
  rename_i h3
  have h3:(rtakeF p.r b.next c.cls c.many).2=0:=Classical.byContradiction h3
  obtain ⟨hp1,hp2⟩:=at_some hp
  refine ⟨core_hold k.core hc hp h2 h3,fun y hy hs=>?_,fun q hq=>?_⟩
  ·rcases mem_snoc.1 hy with hy|rfl
   ·exact k.time y hy hs
   ·show b.now<c.time;omega
  ·rcases put_fl (b:=b) (L:=b.L) hq with ⟨z,hz,e,rfl⟩|⟨hq,_⟩
   ·obtain rfl:z=p:=k.core.uniqP hz hp1 (by omega)
    exact nofit_take (k.core.good _ hz) (k.core.qok _ hz) (k.nofit _ hz) h3
   ·exact k.nofit q hq
theorem ok_wait (k:BookOk b) (hc:RightC c) (hs:c.sc<18446744073709551616):BookOk (waitB b c).1:=by
 unfold waitB
 cases hp:b.at c.flt with
 |none=>exact k
 |some p=>
  dsimp only
  split
  ·exact k
  rename_i h1
  split
  ·exact k
  rename_i h2
  split
  ·exact k
  rename_i h3
  have h3:(qadd p.q (waitW b c)).2=0:=Classical.byContradiction h3
  refine BookOk.promoted (core_wait k.core hc hs hp h1 h2 h3) (fun y hy hs=>?_) fun q hq=>?_
  ·rcases mem_snoc.1 hy with hy|rfl
   ·exact k.time y hy hs
   ·exact absurd hs (by show (3:Int)≠1;omega)
  ·rcases put_fl (b:=b) (L:=b.L) hq with ⟨z,hz,e,rfl⟩|⟨hq,_⟩
   ·exact .inl e
   ·exact .inr (k.nofit q hq)
theorem ok_clock (k:BookOk b) (hc:RightC c):BookOk (clockB b c).1:=by
 unfold clockB
 split
 ·exact k
 obtain ⟨t1,t2,t3,t4,t5⟩:=ticked_ok k.core hc.time
 obtain ⟨p1,p2,p3,p4,p5,p6⟩:=promAll_ok (b.fl.map Pl.n) t1 t2 (fun _=>False) fun p _ h=>h.elim
 refine ⟨p1,p2,fun p hp=>p6 p hp (.inr ?_)⟩
 rw [←t5,←p5]
 exact List.mem_map_of_mem hp
theorem ok_one (k:BookOk b) (hx:x∈b.L):BookOk (oneB b x c).1:=by
 unfold oneB
 cases hp:b.at x.flt with
 |none=>exact k
 |some p=>
  obtain ⟨hp1,hp2⟩:=at_some hp
  dsimp only
  split
  ·split
   ·exact k
   ·rename_i h
    have h:x.state=1:=Classical.byContradiction h
    refine ⟨core_sure k.core hx h,fun y hy hs=>?_,k.nofit⟩
    obtain ⟨z,hz,rfl⟩:=mem_kset.1 hy
    by_cases e:z.id=x.id
    ·rw [if_pos e] at hs;exact absurd hs (by show (2:Int)≠1;omega)
    ·rw [if_neg e] at hs ⊢;exact k.time z hz hs
  ·split
   ·exact BookOk.promoted (core_gone k.core hx) (gone_timely k.time) fun q hq=>(gone_fl hq).imp_right (k.nofit q)
   ·split
    ·exact k
    ·have seat:∀ r,Good r→Seatly p.r r→BookOk (b.put x.flt (seatP r) b.L):=fun r g hs=>by
      refine ⟨core_seat k.core hp g hs,fun y hy=>k.time y hy,fun q hq=>?_⟩
      rcases put_fl (b:=b) (L:=b.L) hq with ⟨z,hz,e,rfl⟩|⟨hq,_⟩
      ·obtain rfl:z=p:=k.core.uniqP hz hp1 (by omega)
       exact nofit_seat (k.nofit _ hz) hs
      ·exact k.nofit q hq
     split
     ·split
      ·exact k
      ·rename_i h
       exact seat _ (good_seat (k.core.good p hp1) _ _) (seat_ly (k.core.good p hp1) (Classical.byContradiction h))
     ·split
      ·exact k
      ·rename_i h
       exact seat _ (good_auto (k.core.good p hp1) _) (auto_ly (Classical.byContradiction h))
theorem named_mem {s:ByteArray} {e:Int} (h:namedB b s=(some x,e)):x∈b.L:=by
 unfold namedB at h
 split at h
 ·cases h
 ·split at h
  ·cases h
  ·rename_i y hy
   cases h
   exact (kget_some hy).1
theorem ok_apply (k:BookOk b) (hs:c.sc<18446744073709551616):BookOk (applyB b c).1:=by
 unfold applyB
 split
 ·exact k
 rename_i hc
 have hc:RightC c:=Classical.byContradiction hc
 split
 ·exact ok_open k
 split
 ·exact ok_hold k hc
 split
 ·exact ok_wait k hc hs
 split
 ·exact ok_clock k hc
 split
 ·exact k
 split
 ·exact k
 ·rename_i hnm
  exact ok_one k (named_mem hnm)
end Go.Proofs.YtflgboncpbmikaaGreatDoor
/- The book, plainly: errors, the time, names, what a reply may be. No condition. -/
namespace Go.Proofs.YtflgboncpbmikaaGreatDoor
set_option linter.unusedVariables false
set_option linter.unusedSimpArgs false
open Go Go.VC
variable {b:Book} {n:Int} {p:Pl} {w:Wt} {x:Bk} {c:Cm}
theorem tell_code {b:Book} {x:Bk}:(tellB b x).code=0:=by
 unfold tellB
 split<;>rfl
theorem err_wait (h:(waitB b c).2.code≠0):waitB b c=(b,errR (waitB b c).2.code):=by
 unfold waitB at *
 cases hp:b.at c.flt with
 |none=>rfl
 |some p=>
  rw [hp] at h
  dsimp only at h ⊢
  split
  ·rfl
  rename_i h1
  rw [if_neg h1] at h
  split
  ·rfl
  rename_i h2
  rw [if_neg h2] at h
  split
  ·rfl
  rename_i h3
  rw [if_neg h3] at h
  refine absurd ?_ h
  dsimp only
  split
  ·rfl
  ·exact tell_code
theorem wait_cases (k:BookOk b) (hc:RightC c) (hs:c.sc<18446744073709551616):
  ((waitB b c).2.code≠0∧(waitB b c).1=b)∨
  (∃ p y,b.at c.flt=some p∧¬ (p.r.lims.length:Int)≤c.cls∧¬ b.full∧(qadd p.q (waitW b c)).2=0∧Core (queued b c)∧
   y∈(promote c.flt (queued b c)).L∧y.id=b.next∧y.flt=c.flt∧y.cls=c.cls∧y.many=c.many∧y.till=0∧
   waitB b c=(promote c.flt (queued b c),tellB (promote c.flt (queued b c)) y)):=by
 unfold waitB
 cases hp:b.at c.flt with
 |none=>exact .inl ⟨by show (2:Int)≠0;omega,rfl⟩
 |some p=>
  dsimp only
  split
  ·exact .inl ⟨by show (1:Int)≠0;omega,rfl⟩
  rename_i h1
  split
  ·exact .inl ⟨by show (3:Int)≠0;omega,rfl⟩
  rename_i h2
  split
  ·rename_i h3;exact .inl ⟨h3,rfl⟩
  rename_i h3
  have h3:(qadd p.q (waitW b c)).2=0:=Classical.byContradiction h3
  have kc:=core_wait k.core hc hs hp h1 h2 h3
  obtain ⟨p1,p2,_,_⟩:=promote_ok (n:=c.flt) kc
  have hid:b.next∈(promote c.flt (queued b c)).L.map Bk.id:=by
   rw [p2.ids]
   exact List.mem_map.2 ⟨waitX b c,mem_snoc.2 (.inr rfl),rfl⟩
  obtain ⟨y,hy,he⟩:=List.mem_map.1 hid
  obtain ⟨z,hz,a1,a2,a3,a4,a5⟩:=p2.bk y hy
  have hzx:z=waitX b c:=by
   rcases mem_snoc.1 hz with hz|rfl
   ·have:=k.core.fresh hz;omega
   ·rfl
  subst hzx
  refine .inr ⟨p,y,rfl,h1,h2,h3,kc,hy,he,a2,a3,a4,a5,?_⟩
  rw [(bk_iff p1).2 ⟨hy,he⟩]
end Go.Proofs.YtflgboncpbmikaaGreatDoor
/- The book, plainly: what a reply may be. No condition. -/
namespace Go.Proofs.YtflgboncpbmikaaGreatDoor
set_option linter.unusedVariables false
set_option linter.unusedSimpArgs false
open Go Go.VC
variable {b:Book} {n:Int} {p:Pl} {w:Wt} {x:Bk} {c:Cm} {r:RF}
theorem mnF_bd {f:Nat→Int}:∀ {k:Nat},(∀ i,i<k→0≤f i)→0≤mnF f k∧mnF f k≤10000
 |0,_=>by show (0:Int)≤10000∧(10000:Int)≤10000;omega
 |k + 1,h=>by
  have h1:=mnF_bd (k:=k) fun i hi=>h i (by omega)
  have h2:=h k (by omega)
  unfold mnF
  split<;>omega
theorem lefts_bd (g:Good r):(rleftsF r).length≤8∧∀ y∈rleftsF r,0≤y∧y≤10000:=by
 have h8:=(good_lims g).2.2
 refine ⟨by rw [lefts_len];exact h8,fun y hy=>?_⟩
 obtain ⟨k,hk,rfl⟩:=List.mem_map.1 hy
 have hk:=List.mem_range.1 hk
 rw [(left_val g hk).1]
 refine mnF_bd fun i hi=>?_
 have h:=(nestOk_iff.1 g.nest).2.2 i (by omega)
 unfold roomF
 omega
theorem lab_len {q:Fin 60} {m:Fin 10}:(labelL (q.1 + 1) m.1).length≤3:=by
 have:∀ q:Fin 60,∀ m:Fin 10,(labelL (q.1 + 1) m.1).length≤3:=by decide +kernel
 exact this q m
theorem labT_size {n:Int} {g:List Int} {k:Int}:(labT n g k).1.size≤3:=by
 unfold labT
 split
 ·rename_i h
  obtain ⟨a,b,q,m,_,_,b1,b2,hq,hm,e,_⟩:=labT_in h
  dsimp only
  rw [e,strOf_size]
  exact lab_len (q:=⟨q,hq⟩) (m:=⟨m,by omega⟩)
 ·exact Nat.zero_le _
theorem labels_bd (g:Good r) (o:Int):(rlabelsF r o).length≤600∧∀ s∈rlabelsF r o,s.size≤3:=by
 unfold rlabelsF
 cases h:getO o r.L with
 |none=>exact ⟨by simp,fun s hs=>(by cases hs)⟩
 |some hd=>
  obtain ⟨hm,_⟩:=(getO_iff g.rise.ne).1 h
  have h1:=(g.each hd hm).few
  have h2:=g.len.2 hd hm
  dsimp only
  unfold labsF
  refine ⟨by rw [List.length_map];omega,fun s hs=>?_⟩
  obtain ⟨k,_,rfl⟩:=List.mem_map.1 hs
  exact labT_size
theorem locS_size (id:Int):(locS id).size=6:=by
 unfold locS
 rw [strOf_size,locB_len]
theorem rpin_tell {n:Int} (g:Good p.r) (h:BkOk n x):RpIn (tellP p x):=by
 obtain ⟨l1,l2⟩:=lefts_bd g
 obtain ⟨b1,b2⟩:=labels_bd g x.id
 have h1:=h.flt
 have h2:=h.cls
 have h3:=h.many
 have h4:=h.state
 have h5:=h.till
 refine ⟨by show (0:Int)≤0∧(0:Int)≤_;omega,by show (locS x.id).size≤16;rw [locS_size];omega,?_,?_,?_,?_,?_,l1,fun y hy=>?_,b1,fun s hs=>?_⟩
 ·show 0≤x.state∧x.state≤_;omega
 ·show 0≤x.flt∧x.flt≤_;omega
 ·show 0≤x.cls∧x.cls≤_;omega
 ·show 0≤x.many∧x.many≤_;omega
 ·show 0≤x.till∧x.till≤_;omega
 ·have:=l2 y hy;omega
 ·have:=b2 s hs;omega
theorem rpin_few {e f m t:Int} {s:ByteArray} {l:List Int} (he:0≤e∧e≤1099511627776) (hf:0≤f∧f≤1099511627776) (hm:0≤m∧m≤1099511627776) (ht:0≤t∧t≤1099511627776) (hs:s.size≤16) (hl:l.length≤8∧∀ y∈l,0≤y∧y≤10000):RpIn ⟨e,s,0,f,0,m,t,l,[]⟩:=
 ⟨he,hs,by show (0:Int)≤0∧(0:Int)≤_;omega,hf,by show (0:Int)≤0∧(0:Int)≤_;omega,hm,ht,hl.1,fun y hy=>by have:=hl.2 y hy;omega,by show ([]:List ByteArray).length≤_;simp,fun y hy=>(by cases hy)⟩
theorem rpin_err {e:Int} (he:0≤e∧e≤1099511627776):RpIn (errR e):=
 rpin_few he (by omega) (by omega) (by omega) (by show emS.size≤16;decide) ⟨by simp,fun y hy=>(by cases hy)⟩
theorem rpin_tellB (k:Core b) (hx:x∈b.L):RpIn (tellB b x):=by
 obtain ⟨p,hp⟩:=k.at_of hx
 unfold tellB
 rw [hp]
 exact rpin_tell (k.good p (at_some hp).1) (k.each x hx)
theorem take_code {o c m:Int}:0≤(rtakeF r o c m).2∧(rtakeF r o c m).2≤7:=by
 unfold rtakeF
 split
 ·(dsimp only;omega)
 ·split
  ·(dsimp only;omega)
  ·split
   ·(dsimp only;omega)
   ·dsimp only
    unfold sellT
    split
    ·(dsimp only;omega)
    ·split<;>(dsimp only;omega)
theorem qadd_code {q:List Wt}:0≤(qadd q w).2∧(qadd q w).2≤7:=by
 unfold qadd
 split
 ·(dsimp only;omega)
 ·split
  ·(dsimp only;omega)
  ·split<;>(dsimp only;omega)
theorem seat_code {o:Int} {lab:ByteArray}:0≤(rseatF r o lab).2∧(rseatF r o lab).2≤7:=by
 by_cases h:(rseatF r o lab).2=0
 ·omega
 ·have:=(seat_no h).2;omega
theorem auto_code (g:Good r) {o:Int}:0≤(rautoF r o).2.2∧(rautoF r o).2.2≤7:=by
 obtain ⟨f,_,t⟩:=dec_enc g
 have:=(tie_auto t g o).2.2.2
 omega
theorem loc_code {l:List Int}:0≤(locRd l).2∧(locRd l).2≤7:=by
 unfold locRd
 split
 ·(dsimp only;omega)
 ·split<;>(dsimp only;omega)
theorem named_code {s:ByteArray}:0≤(namedB b s).2∧(namedB b s).2≤7:=by
 unfold namedB
 split
 ·exact loc_code
 ·split<;>(dsimp only;omega)
theorem emS_size:emS.size≤16:=by decide
theorem rpin_show (k:BookOk b):RpIn (showB b c):=by
 unfold showB
 split
 ·exact rpin_err (by omega)
 rename_i h1
 split
 ·split
  ·rename_i e h
   have:=named_code (b:=b) (s:=c.pnr)
   rw [h] at this
   exact rpin_err (by dsimp only at this;omega)
  ·rename_i h
   exact rpin_tellB k.core (named_mem h)
 ·split
  ·exact rpin_err (by omega)
  ·rename_i p hp
   have hp:=at_some hp
   have hc:RightC c:=Classical.byContradiction fun h=>h1 (.inl h)
   have h2:=hc.flt
   have h3:=(k.core.qok p hp.1).len
   unfold numOk at h2
   exact rpin_few (by omega) (by omega) (by omega) (by omega) emS_size (lefts_bd (k.core.good p hp.1))
theorem rpin_apply (k:BookOk b) (hs:c.sc<18446744073709551616):RpIn (applyB b c).2:=by
 have k':=ok_apply k hs
 unfold applyB at *
 split
 ·exact rpin_err (by omega)
 rename_i hc
 have hc:RightC c:=Classical.byContradiction hc
 have hcf:=hc.flt
 unfold numOk at hcf
 split
 ·unfold openB
  split
  ·exact rpin_err (by omega)
  ·split
   ·exact rpin_err (by omega)
   ·split
    ·exact rpin_err (by omega)
    ·rename_i h
     have h:newOk c.flt c.rows c.grps c.parts:=Classical.byContradiction h
     exact rpin_few (by omega) (by omega) (by omega) (by omega) emS_size (lefts_bd (good_new h))
 split
 ·unfold heldB
  cases hp:b.at c.flt with
  |none=>exact rpin_err (by omega)
  |some p=>
   obtain ⟨hp1,hp2⟩:=at_some hp
   have:=take_code (r:=p.r) (o:=b.next) (c:=c.cls) (m:=c.many)
   dsimp only
   split
   ·exact rpin_err (by omega)
   rename_i h1
   split
   ·exact rpin_err (by omega)
   rename_i h2
   split
   ·exact rpin_err (by omega)
   ·rename_i h3
    have k2:=core_hold k.core hc hp h2 (Classical.byContradiction h3)
    exact rpin_tell (n:=b.next + 1) (good_take (k.core.good p hp1) _ _ _) (k2.each (heldX b c) (mem_snoc.2 (.inr rfl)))
 split
 ·rcases wait_cases k hc hs with ⟨h,h'⟩|⟨_,y,_,_,_,_,kc,hy,_,_,_,_,_,e⟩
  ·rw [err_wait h]
   refine rpin_err ?_
   unfold waitB at h ⊢
   cases hp:b.at c.flt with
   |none=>show (0:Int)≤2∧(2:Int)≤_;omega
   |some p=>
    have:=qadd_code (w:=waitW b c) (q:=p.q)
    rw [hp] at h
    dsimp only at h ⊢
    by_cases h1:(p.r.lims.length:Int)≤c.cls
    ·rw [if_pos h1];show (0:Int)≤1∧(1:Int)≤_;omega
    rw [if_neg h1] at h ⊢
    by_cases h2:b.full
    ·rw [if_pos h2];show (0:Int)≤3∧(3:Int)≤_;omega
    rw [if_neg h2] at h ⊢
    by_cases h3:(qadd p.q (waitW b c)).2≠0
    ·rw [if_pos h3];show 0≤(qadd p.q (waitW b c)).2∧(qadd p.q (waitW b c)).2≤_;omega
    ·rw [if_neg h3] at h
     refine absurd ?_ h
     dsimp only
     split
     ·rfl
     ·exact tell_code
  ·rw [e]
   exact rpin_tellB (promote_ok (n:=c.flt) kc).1 hy
 split
 ·unfold clockB
  split
  ·exact rpin_err (by omega)
  ·exact rpin_few (by omega) (by omega) (by omega) hc.time emS_size ⟨by simp,fun y hy=>(by cases hy)⟩
 split
 ·exact rpin_show k
 split
 ·rename_i e h
  have:=named_code (b:=b) (s:=c.pnr)
  rw [h] at this
  exact rpin_err (by dsimp only at this;omega)
 ·rename_i x e h
  have hx:=named_mem h
  obtain ⟨p,hp⟩:=k.core.at_of hx
  obtain ⟨hp1,hp2⟩:=at_some hp
  have g:=k.core.good p hp1
  have hb:=k.core.each x hx
  have s1:=seat_code (r:=p.r) (o:=x.id) (lab:=c.lab)
  have s2:=auto_code g (o:=x.id)
  unfold oneB
  rw [hp]
  dsimp only
  split
  ·split
   ·exact rpin_err (by omega)
   ·rename_i h3
    have h3:x.state=1:=Classical.byContradiction h3
    exact rpin_tell (n:=b.next) g ((core_sure k.core hx h3).each (sureX x) (mem_kset.2 ⟨x,hx,by rw [if_pos rfl]⟩))
  ·split
   ·exact rpin_few (by omega) (by omega) (by omega) (by omega) hc.pnr ⟨by simp,fun y hy=>(by cases hy)⟩
   ·split
    ·exact rpin_err (by omega)
    ·split
     ·split
      ·exact rpin_err (by omega)
      ·exact rpin_tell (p:=seatP _ p) (good_seat g _ _) hb
     ·split
      ·exact rpin_err (by omega)
      ·exact rpin_tell (p:=seatP _ p) (good_auto g _) hb
end Go.Proofs.YtflgboncpbmikaaGreatDoor
/- The book, plainly: its bytes, and what is loaded of them. No condition. -/
namespace Go.Proofs.YtflgboncpbmikaaGreatDoor
set_option linter.unusedVariables false
set_option linter.unusedSimpArgs false
open Go Go.VC
open Classical
noncomputable section
variable {b:Book} {n:Int} {p:Pl} {w:Wt} {x:Bk} {r:RF}
theorem taken_few (g:Good r):(takenL r.L).length≤600:=by
 have h1:=taken_nd g
 have h4:=(layN_bd r.rows r.grps).2
 have h2:=nodup_le (m:=(List.range 600).map fun (k:Nat)=>(k:Int)) h1 fun x hx=>by
  obtain ⟨h,hh,hx⟩:=mem_taken.1 hx
  have:=(g.each h hh).seats x hx
  exact List.mem_map.2 ⟨x.toNat,List.mem_range.2 (by omega),by omega⟩
 rw [List.length_map,List.length_range] at h2
 exact h2
theorem holdsB_tight:∀ {L:List Hold},(∀ h∈L,HoldIn h)→(holdsB L).length≤36 * L.length + 9 * (takenL L).length
 |[],_=>by simp [holdsB,takenL]
 |h::L,hin=>by
  have ih:=holdsB_tight fun x hx=>hin x (List.mem_cons_of_mem h hx)
  have hh:=hin h List.mem_cons_self
  have s3:small [h.owner,h.cls,h.many]:=by
   intro y hy
   have:=hh.o
   have:=hh.c
   have:=hh.m
   simp at hy
   omega
  have h1:=numsB_len (small_u s3)
  have h2:=listB_len (l:=h.seats) (fun y hy=>by have:=hh.s y hy;omega) (by have:=hh.n;omega)
  have e1:holdsB (h::L)=holdB h++holdsB L:=by simp [holdsB]
  have e2:takenL (h::L)=h.seats++takenL L:=by simp [takenL]
  have e3:(holdB h).length=(numsB [h.owner,h.cls,h.many]).length + (listB h.seats).length:=by unfold holdB;rw [List.length_append]
  rw [e1,e2,List.length_append,List.length_append,List.length_cons,e3]
  simp only [List.length_cons,List.length_nil] at h1
  omega
theorem renc_tight (g:Good r):(rencB r).length≤28000:=by
 have s:=good_small g
 obtain ⟨l1,l2,l3⟩:=layOk_iff.1 g.lay
 obtain ⟨m1,m2,m3⟩:=good_lims g
 have hlen:=g.len.1
 have ht:=taken_few g
 have u2:small [r.num,r.rows]:=by intro y hy;have:=s.num;have:=s.rows;simp at hy;omega
 have u1:small [(r.L.length:Int)]:=by intro y hy;simp at hy;omega
 have h1:=numsB_len (small_u u2)
 have h2:=listB_len s.grps (by omega)
 have h3:=listB_len s.lims (by omega)
 have h4:=numsB_len (small_u u1)
 have h5:=holdsB_tight (good_in g)
 simp only [List.length_cons,List.length_nil] at h1 h4
 unfold rencB encB
 simp only [List.length_append]
 omega
theorem fltB_len {x:Nat} (h:x<18446744073709551616):(fltB x).length≤9:=numB_len (key_lt h)
theorem nums1_len {x:Int} (h:0≤x∧x<18446744073709551616):(numsB [x]).length≤9:=by
 have:=numsB_len (l:=[x]) fun y hy=>by rw [List.mem_singleton.1 hy];exact h
 simpa using this
theorem wtB_len (h:w.Ok) (hf:w.sc<18446744073709551616):(wtB w).length≤45:=by
 obtain ⟨h1,h2,h3,h4⟩:=h
 have a1:=nums1_len (x:=w.id) (by omega)
 have a2:=nums1_len (x:=w.cls) (by omega)
 have a3:=nums1_len (x:=w.many) (by omega)
 have a4:=nums1_len (x:=w.time) (by omega)
 have a5:=fltB_len hf
 unfold wtB
 simp only [List.length_append]
 omega
theorem flat_len {α:Type} {code:α→List Int} {m:Nat}:∀ {l:List α},(∀ x∈l,(code x).length≤m)→((l.map code).flatten).length≤m * l.length
 |[],_=>by simp
 |a::l,h=>by
  have h1:=h a (by simp)
  have h2:=flat_len (l:=l) fun x hx=>h x (by simp [hx])
  rw [List.map_cons,List.flatten_cons,List.length_append,List.length_cons,Nat.mul_succ]
  omega
theorem qB_len {q:List Wt} (h:QOk q):(qB q).length≤9009:=by
 have h1:=nums1_len (x:=(q.length:Int)) (by have:=h.len;omega)
 have h2:=flat_len (l:=q) (code:=wtB) (m:=45) fun w hw=>wtB_len (h.ok w hw) (h.fl w hw)
 have:=h.len
 unfold qB
 rw [List.length_append]
 omega
theorem textB_len {d:List Int} (h:d.length<1000000):(textB d).length≤d.length + 9:=by
 have:=numB_len (n:=d.length) (by omega)
 unfold textB
 rw [List.length_append]
 omega
theorem plB_len (g:Good p.r) (h:QOk p.q):(plB p).length≤38000:=by
 have h1:=renc_tight g
 have h2:=qB_len h
 have h3:=textB_len (d:=rencB p.r) (by omega)
 have h4:=textB_len (d:=qB p.q) (by omega)
 unfold plB
 rw [List.length_append]
 omega
theorem bkB_len {n:Int} (hn:n≤28629151) (h:BkOk n x):(bkB x).length≤54:=by
 have:=h.id
 have:=h.flt
 have:=h.cls
 have:=h.many
 have:=h.state
 have:=h.till
 have a0:=nums1_len (x:=x.id) (by omega)
 have a1:=nums1_len (x:=x.flt) (by omega)
 have a2:=nums1_len (x:=x.cls) (by omega)
 have a3:=nums1_len (x:=x.many) (by omega)
 have a4:=nums1_len (x:=x.state) (by omega)
 have a5:=nums1_len (x:=x.till) (by omega)
 unfold bkB
 simp only [List.length_append]
 omega
theorem saveB_len (k:Core b):(saveB b).length≤400000:=by
 have h1:=k.now
 have h2:=k.next
 have h3:=k.few
 have h4:=k.many
 have a1:=nums1_len (x:=b.now) (by omega)
 have a2:=nums1_len (x:=b.next) (by omega)
 have a3:=nums1_len (x:=(b.fl.length:Int)) (by omega)
 have a4:=nums1_len (x:=(b.L.length:Int)) (by omega)
 have a5:=flat_len (l:=b.fl) (code:=plB) (m:=38000) fun p hp=>plB_len (k.good p hp) (k.qok p hp)
 have a6:=flat_len (l:=b.L) (code:=bkB) (m:=54) fun x hx=>bkB_len h2.2 (k.each x hx)
 unfold saveB
 simp only [List.length_append]
 omega
end
end Go.Proofs.YtflgboncpbmikaaGreatDoor
/- The formulas of functions of this seat's translation, printed by a program of mine off the translation; each is proved equal to 'fnF' of the function's body, so it is enough for the call. No condition. -/
namespace Go.Proofs.YtflgboncpbmikaaGreatDoor
open Go Go.VC
set_option linter.unusedVariables false
set_option maxRecDepth 10000
def B96 (d:Nat) (K:Value→World→Prop) (w:World):Prop:=
 Ext Tryz.prog 134 #[.float .f64 d] w fun c b=>
 ∃ a:Int,(c=.returned (.int .u64 a))∧
 Br (bitI BinOp.and IntKind.u64 a 9223372036854775808 !=0)
 (K (.int .u64 (IntKind.u64.wrap (↑(BitVec.ofInt IntKind.u64.bits (if IntKind.u64.signed=true then -1 else IntKind.u64.max) ^^^ BitVec.ofInt IntKind.u64.bits a).toNat:Int))) b)
 (K (.int .u64 (bitI BinOp.or IntKind.u64 a 9223372036854775808)) b)
theorem call96 (a:Nat) (K:Value→World→Prop) (w:World) (h:B96 a K w):Gets Tryz.prog 96 #[.float .f64 a] w K:=cq (sk:=.leaf) Tryz.func96 (by kernel_rfl) (by kernel_rfl) (by kernel_rfl) h
def B98 (a:Int) (K:Value→World→Prop) (w:World):Prop:=
 Br (bitI BinOp.and IntKind.u64 a 9223372036854775808==0)
 (Ext Tryz.prog 135 #[.int .u64 (IntKind.u64.wrap (↑(BitVec.ofInt IntKind.u64.bits (if IntKind.u64.signed=true then -1 else IntKind.u64.max) ^^^ BitVec.ofInt IntKind.u64.bits a).toNat:Int))] w fun d f=>
 ∃ c:Nat,(d=.returned (.float .f64 c))∧
 K (.float .f64 c) f)
 (Ext Tryz.prog 135 #[.int .u64 (bitI BinOp.andNot IntKind.u64 a 9223372036854775808)] w fun e g=>
 ∃ b:Nat,(e=.returned (.float .f64 b))∧
 K (.float .f64 b) g)
theorem call98 (a:Int) (K:Value→World→Prop) (w:World) (h:B98 a K w):Gets Tryz.prog 98 #[.int .u64 a] w K:=cq (sk:=.leaf) Tryz.func98 (by kernel_rfl) (by kernel_rfl) (by kernel_rfl) h
def B147 (b:Nat) (c:Nat) (K:Value→World→Prop) (w:World):Prop:=
 Calls Tryz.prog 168 #[.float .f64 b,.float .f64 c] w fun d e=>
 ∃ a:Int,(d=.returned (.int .i64 a))∧
 K (.int .i64 a) e
theorem call147 (a:Nat) (b:Nat) (K:Value→World→Prop) (w:World) (h:B147 a b K w):Gets Tryz.prog 147 #[.float .f64 a,.float .f64 b] w K:=cq (sk:=.leaf) Tryz.func147 (by kernel_rfl) (by kernel_rfl) (by kernel_rfl) h
def B168 (c:Nat) (d:Nat) (K:Value→World→Prop) (w:World):Prop:=
 Calls Tryz.prog 179 #[.float .f64 c] w fun j l=>
 ∃ i:Bool,(j=.returned (.bool i))∧
 Calls Tryz.prog 179 #[.float .f64 d] l fun k b=>
 ∃ e:Bool,(k=.returned (.bool e))∧
 Br i
 (Br e
 (K (.int .i64 0) b)
 (K (.int .i64 ((-1))) b))
 (Br e
 (K (.int .i64 1) b)
 (∃ f:Bool,(∀ a,(fun a=>a=b) a→((do eqGuard BinOp.lss 91 (Operand.tmp 14) (Operand.tmp 15) (.float .f64 c) (.float .f64 d);binOp BinOp.lss 91 (.float .f64 c) (.float .f64 d):Sem Value)).run Tryz.prog a=.ok (.bool f) a)∧
 Br f
 (K (.int .i64 ((-1))) b)
 (∃ g:Bool,(∀ a,(fun a=>a=b) a→((do eqGuard BinOp.gtr 91 (Operand.tmp 17) (Operand.tmp 18) (.float .f64 c) (.float .f64 d);binOp BinOp.gtr 91 (.float .f64 c) (.float .f64 d):Sem Value)).run Tryz.prog a=.ok (.bool g) a)∧
 Br g
 (K (.int .i64 1) b)
 (K (.int .i64 0) b))))
theorem call168 (a:Nat) (b:Nat) (K:Value→World→Prop) (w:World) (h:B168 a b K w):Gets Tryz.prog 168 #[.float .f64 a,.float .f64 b] w K:=cq (sk:=.leaf) Tryz.func168 (by kernel_rfl) (by kernel_rfl) (by kernel_rfl) h
def B179 (b:Nat) (K:Value→World→Prop) (w:World):Prop:=
 ∃ c:Bool,(∀ a,(fun a=>a=w) a→((do eqGuard BinOp.neq 91 (Operand.tmp 3) (Operand.tmp 4) (.float .f64 b) (.float .f64 b);binOp BinOp.neq 91 (.float .f64 b) (.float .f64 b):Sem Value)).run Tryz.prog a=.ok (.bool c) a)∧
 K (.bool c) w
theorem call179 (a:Nat) (K:Value→World→Prop) (w:World) (h:B179 a K w):Gets Tryz.prog 179 #[.float .f64 a] w K:=cq (sk:=.leaf) Tryz.func179 (by kernel_rfl) (by kernel_rfl) (by kernel_rfl) h
def B148 (c:Int) (d:Int) (K:Value→World→Prop) (w:World):Prop:=
 Calls Tryz.prog 165 #[.int .i64 c] w fun f i=>
 ∃ e:Bool,(f=.returned (.bool e))∧
 Calls Tryz.prog 165 #[.int .i64 d] i fun g a=>
 ∃ b:Bool,(g=.returned (.bool b))∧
 Br e
 (Br b
 (K (.int .i64 0) a)
 (K (.int .i64 ((-1))) a))
 (Br b
 (K (.int .i64 1) a)
 (Br (decide (c<d))
 (K (.int .i64 ((-1))) a)
 (Br (decide (c>d))
 (K (.int .i64 1) a)
 (K (.int .i64 0) a))))
theorem call148 (a:Int) (b:Int) (K:Value→World→Prop) (w:World) (h:B148 a b K w):Gets Tryz.prog 148 #[.int .i64 a,.int .i64 b] w K:=cq (sk:=.leaf) Tryz.func148 (by kernel_rfl) (by kernel_rfl) (by kernel_rfl) h
def B146 (f:Sl) (K:Value→World→Prop) (w:World):Prop:=
 ∃ (d:Int→World→Prop) (g:Int→World→Nat),(d 0 w)∧∀ (k:Env) (b:Int) (c:World),d b c→
 Br (decide (b<(↑f.len:Int)))
 (Rng b f.len (NilP f.a fun i=>
 ∃ e:Int,(At (fun j=>j=c) (Addr.add i b.toNat) [.int .i64 e])∧
 Br (e !=0)
 (K (.int .i64 e) c)
 ((d (IntKind.i64.wrap (b + 1)) c)∧g (IntKind.i64.wrap (b + 1)) c<g b c)))
 (K (.int .i64 0) c)
def sk146:Sk:=(.seq .leaf (.seq .leaf (.seq (.seq .leaf (.block (.loop [8] [(.int .i64)] [2,5,8,9,10,11,12,13,14,15,16] .leaf))) .leaf)))
theorem call146 (b:Sl) (K:Value→World→Prop) (w:World) (h:B146 b K w):Gets Tryz.prog 146 #[.slice b.a b.len b.cap] w K:=cq (sk:=sk146) Tryz.func146 (by kernel_rfl) (by kernel_rfl) (by kernel_rfl) h
def B76  (K:Value→World→Prop) (w:World):Prop:=
 New (.cells #[.slice none 0 0] 172 (0,0)) (fun a b=>
 K (.pointer ((some ⟨a,0,none⟩))) b) w
theorem call76  (K:Value→World→Prop) (w:World) (h:B76  K w):Gets Tryz.prog 76 #[] w K:=cq (sk:=.leaf) Tryz.func76 (by kernel_rfl) (by kernel_rfl) (by kernel_rfl) h
def B109 (z:Int) (A:Int) (C:Int) (D:Int) (E:Nat) (I:Int) (J:Int) (L:Int) (M:Int) (N:Nat) (K:Value→World→Prop) (w:World):Prop:=
 New (.cells #[.int .i64 z,.int .i64 A,.int .i64 C,.int .i64 D,.float .f64 E] 174 (0,0)) (fun b F=>
 New (.cells #[.int .i64 I,.int .i64 J,.int .i64 L,.int .i64 M,.float .f64 N] 174 (0,0)) (fun c G=>
 Drw G fun a H=>
 ∃ n:Nat,(At a ⟨c,0 + 4,none⟩ [.float .f64 n])∧
 ∃ d:Nat,(At a ⟨b,0 + 4,none⟩ [.float .f64 d])∧
 ∃ f:Int,(At a ⟨b,0 + 3,none⟩ [.int .i64 f])∧
 ∃ g:Int,(At a ⟨c,0 + 3,none⟩ [.int .i64 g])∧
 ∃ j:Int,(At a ⟨b,0,none⟩ [.int .i64 j])∧
 ∃ k:Int,(At a ⟨c,0,none⟩ [.int .i64 k])∧
 Calls Tryz.prog 147 #[.float .f64 n,.float .f64 d] H fun u o=>
 ∃ e:Int,(u=.returned (.int .i64 e))∧
 (a o)∧
 Calls Tryz.prog 148 #[.int .i64 f,.int .i64 g] o fun v p=>
 ∃ i:Int,(v=.returned (.int .i64 i))∧
 (a p)∧
 Calls Tryz.prog 148 #[.int .i64 j,.int .i64 k] p fun x q=>
 ∃ l:Int,(x=.returned (.int .i64 l))∧
 (a q)∧
 New (.cells #[.int .i64 e,.int .i64 i,.int .i64 l] 3 (0,0)) (fun t r=>
 (a r)∧
 Calls Tryz.prog 146 #[.slice ((some ⟨t,0,none⟩)) 3 3] r fun y s=>
 ∃ m:Int,(y=.returned (.int .i64 m))∧
 (a s)∧
 K (.int .i64 m) s) q) F) w
theorem call109 (a:Int) (b:Int) (c:Int) (d:Int) (e:Nat) (f:Int) (g:Int) (i:Int) (j:Int) (k:Nat) (K:Value→World→Prop) (w:World) (h:B109 a b c d e f g i j k K w):Gets Tryz.prog 109 #[.agg #[.int .i64 a,.int .i64 b,.int .i64 c,.int .i64 d,.float .f64 e],.agg #[.int .i64 f,.int .i64 g,.int .i64 i,.int .i64 j,.float .f64 k]] w K:=cq (sk:=.leaf) Tryz.func109 (by kernel_rfl) (by kernel_rfl) (by kernel_rfl) h
def B106 (t:Int) (u:Int) (v:Int) (x:Int) (y:Nat) (K:Value→World→Prop) (w:World):Prop:=
 New (.cells #[.int .i64 t,.int .i64 u,.int .i64 v,.int .i64 x,.float .f64 y] 174 (0,0)) (fun b o=>
 ∃ m:Int,(At (fun a=>a=o) ⟨b,0,none⟩ [.int .i64 m])∧
 Calls Tryz.prog 143 #[.int .i64 m,.int .i64 1,.int .i64 28629151] o fun p c=>
 ∃ n:Bool,(p=.returned (.bool n))∧
 Br n
 (∃ f:Int,(At (fun a=>a=c) ⟨b,0 + 1,none⟩ [.int .i64 f])∧
 Calls Tryz.prog 143 #[.int .i64 f,.int .i64 0,.int .i64 7] c fun q d=>
 ∃ g:Bool,(q=.returned (.bool g))∧
 Br g
 (∃ i:Int,(At (fun a=>a=d) ⟨b,0 + 2,none⟩ [.int .i64 i])∧
 Calls Tryz.prog 143 #[.int .i64 i,.int .i64 1,.int .i64 600] d fun r e=>
 ∃ j:Bool,(r=.returned (.bool j))∧
 Br j
 (∃ k:Int,(At (fun a=>a=e) ⟨b,0 + 3,none⟩ [.int .i64 k])∧
 Calls Tryz.prog 143 #[.int .i64 k,.int .i64 0,.int .i64 1099511627776] e fun s z=>
 ∃ l:Bool,(s=.returned (.bool l))∧
 K (.bool l) z)
 (K (.bool false) e))
 (K (.bool false) d))
 (K (.bool false) c)) w
theorem call106 (a:Int) (b:Int) (c:Int) (d:Int) (e:Nat) (K:Value→World→Prop) (w:World) (h:B106 a b c d e K w):Gets Tryz.prog 106 #[.agg #[.int .i64 a,.int .i64 b,.int .i64 c,.int .i64 d,.float .f64 e]] w K:=cq (sk:=.leaf) Tryz.func106 (by kernel_rfl) (by kernel_rfl) (by kernel_rfl) h
def B143 (a:Int) (c:Int) (b:Int) (K:Value→World→Prop) (w:World):Prop:=
 Br (decide (a ≥ c))
 (K (.bool (decide (a≤b))) w)
 (K (.bool false) w)
theorem call143 (c:Int) (b:Int) (a:Int) (K:Value→World→Prop) (w:World) (h:B143 c b a K w):Gets Tryz.prog 143 #[.int .i64 c,.int .i64 b,.int .i64 a] w K:=cq (sk:=.leaf) Tryz.func143 (by kernel_rfl) (by kernel_rfl) (by kernel_rfl) h
def B107 (j:Option Addr) (i:Int) (K:Value→World→Prop) (w:World):Prop:=
 New (.cells #[.int .i64 i] 3 (0,0)) (fun f d=>
 NilP j fun e=>
 ∃ b:Sl,(At (fun k=>k=d) (Addr.add e 0) [.slice b.a b.len b.cap])∧
 Calls Tryz.prog 144 #[.slice b.a b.len b.cap,.func (.func 145) #[] #[.pointer ((some ⟨f,0,none⟩))]] d fun g l=>
 ∃ c:Int,(g=.returned (.int .i64 c))∧
 K (.int .i64 c) l) w
theorem call107 (b:Option Addr) (a:Int) (K:Value→World→Prop) (w:World) (h:B107 b a K w):Gets Tryz.prog 107 #[.pointer b,.int .i64 a] w K:=cq (sk:=.leaf) Tryz.func107 (by kernel_rfl) (by kernel_rfl) (by kernel_rfl) h
def B145 (i:Int) (j:Int) (k:Int) (l:Int) (m:Nat) (g:Option Addr) (K:Value→World→Prop) (w:World):Prop:=
 New (.cells #[.int .i64 i,.int .i64 j,.int .i64 k,.int .i64 l,.float .f64 m] 174 (0,0)) (fun f b=>
 ∃ c:Int,(At (fun a=>a=b) ⟨f,0,none⟩ [.int .i64 c])∧
 NilP g fun e=>
 ∃ d:Int,(At (fun a=>a=b) e [.int .i64 d])∧
 K (.bool (c==d)) b) w
theorem call145 (b:Int) (c:Int) (d:Int) (e:Int) (f:Nat) (a:Option Addr) (K:Value→World→Prop) (w:World) (h:B145 b c d e f a K w):Gets Tryz.prog 145 #[.agg #[.int .i64 b,.int .i64 c,.int .i64 d,.int .i64 e,.float .f64 f],.pointer a] w K:=cq (sk:=.leaf) Tryz.func145 (by kernel_rfl) (by kernel_rfl) (by kernel_rfl) h
def B80 (f:Option Addr) (ai:Int) (aj:Int) (ak:Int) (al:Int) (am:Nat) (K:Value→World→Prop) (w:World):Prop:=
 New (.cells #[.int .i64 ai,.int .i64 aj,.int .i64 ak,.int .i64 al,.float .f64 am] 147 (0,0)) (fun o T=>
 ∃ L:Int,∃ M:Int,∃ N:Int,∃ O:Int,∃ Q:Nat,(At (fun b=>b=T) ⟨o,0,none⟩ [.int .i64 L,.int .i64 M,.int .i64 N,.int .i64 O,.float .f64 Q])∧
 New (.cells #[.int .i64 0,.int .i64 0,.int .i64 0,.int .i64 0,.float .f64 0] 174 (0,0)) (fun i an=>
 ∃ l:World,((Instr.storeAt 174 (.pointer ((some ⟨i,0,none⟩))) (.agg #[.int .i64 L,.int .i64 M,.int .i64 N,.int .i64 O,.float .f64 Q])).run Tryz.prog an=.ok () l)∧
 ∃ p:Int,∃ q:Int,∃ r:Int,∃ s:Int,∃ t:Nat,(At (fun b=>b=l) ⟨i,0,none⟩ [.int .i64 p,.int .i64 q,.int .i64 r,.int .i64 s,.float .f64 t])∧
 Calls Tryz.prog 106 #[.agg #[.int .i64 p,.int .i64 q,.int .i64 r,.int .i64 s,.float .f64 t]] l fun ad m=>
 ∃ u:Bool,(ad=.returned (.bool u))∧
 Br (!u)
 (K (.int .i64 1) m)
 (∃ v:Int,(At (fun b=>b=m) ⟨o,0,none⟩ [.int .i64 v])∧
 Calls Tryz.prog 107 #[.pointer f,.int .i64 v] m fun ae k=>
 ∃ x:Int,(ae=.returned (.int .i64 x))∧
 Br (decide (x ≥ 0))
 (K (.int .i64 7) k)
 (NilP f fun Y=>
 ∃ j:Sl,(At (fun b=>b=k) (Addr.add Y 0) [.slice j.a j.len j.cap])∧
 Br (decide ((↑j.len:Int) ≥ 200))
 (K (.int .i64 3) k)
 (Drw k fun n ao=>
 NilP f fun Z=>
 ∃ c:Sl,(At n (Addr.add Z 0) [.slice c.a c.len c.cap])∧
 ∃ y:Int,∃ z:Int,∃ A:Int,∃ C:Int,∃ D:Nat,(At n ⟨i,0,none⟩ [.int .i64 y,.int .i64 z,.int .i64 A,.int .i64 C,.float .f64 D])∧
 Calls Tryz.prog 108 #[.slice c.a c.len c.cap,.agg #[.int .i64 y,.int .i64 z,.int .i64 A,.int .i64 C,.float .f64 D],.func (.func 109) #[] #[]] ao fun af ap=>
 ∃ E:Int,∃ ah:Bool,(af=.returned (.tuple #[.int .i64 E,.bool ah]))∧
 Drw ap fun g aq=>
 NilP f fun aa=>
 ∃ d:Sl,(At g (Addr.add aa 0) [.slice d.a d.len d.cap])∧
 ∃ F:Int,∃ G:Int,∃ H:Int,∃ I:Int,∃ J:Nat,(At g ⟨i,0,none⟩ [.int .i64 F,.int .i64 G,.int .i64 H,.int .i64 I,.float .f64 J])∧
 New (.cells #[.int .i64 F,.int .i64 G,.int .i64 H,.int .i64 I,.float .f64 J] 174 (0,0)) (fun ac X=>
 (g X)∧
 Calls Tryz.prog 110 #[.slice d.a d.len d.cap,.int .i64 E,.slice ((some ⟨ac,0,none⟩)) 1 1] X fun ag U=>
 ∃ e:Sl,(ag=.returned (.slice e.a e.len e.cap))∧
 (g U)∧
 NilP f fun ab=>
 ∃ V:World,((Instr.storeAt 170 (.pointer ((some (Addr.add ab 0)))) (.slice e.a e.len e.cap)).run Tryz.prog U=.ok () V)∧
 K (.int .i64 0) V) aq)))) T) w
theorem call80 (a:Option Addr) (b:Int) (c:Int) (d:Int) (e:Int) (f:Nat) (K:Value→World→Prop) (w:World) (h:B80 a b c d e f K w):Gets Tryz.prog 80 #[.pointer a,.agg #[.int .i64 b,.int .i64 c,.int .i64 d,.int .i64 e,.float .f64 f]] w K:=cq (sk:=.leaf) Tryz.func80 (by kernel_rfl) (by kernel_rfl) (by kernel_rfl) h
def B85 (e:Option Addr) (m:Int) (K:Value→World→Prop) (w:World):Prop:=
 Calls Tryz.prog 107 #[.pointer e,.int .i64 m] w fun k f=>
 ∃ d:Int,(k=.returned (.int .i64 d))∧
 Br (decide (d<0))
 (K (.int .i64 2) f)
 (NilP e fun i=>
 ∃ b:Sl,(At (fun n=>n=f) (Addr.add i 0) [.slice b.a b.len b.cap])∧
 Calls Tryz.prog 115 #[.slice b.a b.len b.cap,.int .i64 d,.int .i64 (IntKind.i64.wrap (d + 1))] f fun l o=>
 ∃ c:Sl,(l=.returned (.slice c.a c.len c.cap))∧
 NilP e fun j=>
 ∃ g:World,((Instr.storeAt 170 (.pointer ((some (Addr.add j 0)))) (.slice c.a c.len c.cap)).run Tryz.prog o=.ok () g)∧
 K (.int .i64 0) g)
theorem call85 (b:Option Addr) (a:Int) (K:Value→World→Prop) (w:World) (h:B85 b a K w):Gets Tryz.prog 85 #[.pointer b,.int .i64 a] w K:=cq (sk:=.leaf) Tryz.func85 (by kernel_rfl) (by kernel_rfl) (by kernel_rfl) h
def B84 (C:Option Addr) (K:Value→World→Prop) (w:World):Prop:=
 NilP C fun z=>
 ∃ d:Sl,(At (fun f=>f=w) (Addr.add z 0) [.slice d.a d.len d.cap])∧
 ∃ (i:Sl→Int→World→Prop) (x:Sl→Int→World→Nat),(i ⟨none,0,0⟩ 0 w)∧∀ (F:Env) (b:Sl) (c:Int) (g:World),i b c g→
 Br (decide (c<(↑d.len:Int)))
 (Rng c d.len (NilP d.a fun y=>
 ∃ m:Int,∃ n:Int,∃ o:Int,∃ p:Int,∃ q:Nat,(At (fun f=>f=g) (Addr.add y (mulS c.toNat 5)) [.int .i64 m,.int .i64 n,.int .i64 o,.int .i64 p,.float .f64 q])∧
 New (.cells #[.int .i64 0,.int .i64 0,.int .i64 0,.int .i64 0,.float .f64 0] 174 (0,0)) (fun l D=>
 ∃ j:World,((Instr.storeAt 174 (.pointer ((some ⟨l,0,none⟩))) (.agg #[.int .i64 m,.int .i64 n,.int .i64 o,.int .i64 p,.float .f64 q])).run Tryz.prog D=.ok () j)∧
 ∃ r:Int,∃ s:Int,∃ t:Int,∃ u:Int,∃ v:Nat,(At (fun f=>f=j) ⟨l,0,none⟩ [.int .i64 r,.int .i64 s,.int .i64 t,.int .i64 u,.float .f64 v])∧
 New (.cells #[.int .i64 r,.int .i64 s,.int .i64 t,.int .i64 u,.float .f64 v] 147 (0,0)) (fun A E=>
 ∃ k:World,∃ e:Sl,((Builtin.append_ #[151,151] 151 #[.slice b.a b.len b.cap,.slice ((some ⟨A,0,none⟩)) 1 1]).run Tryz.prog E=.ok (.slice e.a e.len e.cap) k)∧
 (i e (IntKind.i64.wrap (c + 1)) k)∧x e (IntKind.i64.wrap (c + 1)) k<x b c g) j) g))
 (K (.slice b.a b.len b.cap) g)
def sk84:Sk:=(.seq .leaf (.seq .leaf (.seq (.seq .leaf (.block (.loop [3,11] [.sl,(.int .i64)] [3,5,11,12,13,14,15,16,17,18,19,20] .leaf))) .leaf)))
theorem call84 (a:Option Addr) (K:Value→World→Prop) (w:World) (h:B84 a K w):Gets Tryz.prog 84 #[.pointer a] w K:=cq (sk:=sk84) Tryz.func84 (by kernel_rfl) (by kernel_rfl) (by kernel_rfl) h
def B111 (Z:Option Addr) (m:Sl) (K:Value→World→Prop) (w:World):Prop:=
 New (.cells #[.int .i64 0,.int .i64 0,.int .i64 0,.int .i64 0,.float .f64 0] 147 (0,0)) (fun k T=>
 NilP Z fun Y=>
 ∃ d:Sl,(At (fun c=>c=T) (Addr.add Y 0) [.slice d.a d.len d.cap])∧
 ∃ (i:Int→World→Prop) (l:Int→World→Nat),(i 0 T)∧∀ (ab:Env) (b:Int) (e:World),i b e→
 Br (decide (b<(↑d.len:Int)))
 (Rng b d.len (NilP d.a fun V=>
 ∃ q:Int,∃ r:Int,∃ s:Int,∃ t:Int,∃ u:Nat,(At (fun c=>c=e) (Addr.add V (mulS b.toNat 5)) [.int .i64 q,.int .i64 r,.int .i64 s,.int .i64 t,.float .f64 u])∧
 New (.cells #[.int .i64 0,.int .i64 0,.int .i64 0,.int .i64 0,.float .f64 0] 174 (0,0)) (fun g aa=>
 ∃ U:World,((Instr.storeAt 174 (.pointer ((some ⟨g,0,none⟩))) (.agg #[.int .i64 q,.int .i64 r,.int .i64 s,.int .i64 t,.float .f64 u])).run Tryz.prog aa=.ok () U)∧
 Drw U fun j f=>
 ∃ v:Int,(At j ⟨g,0 + 1,none⟩ [.int .i64 v])∧
 Br (decide (v<(↑m.len:Int)))
 (∃ x:Int,(At j ⟨g,0 + 2,none⟩ [.int .i64 x])∧
 ∃ n:Int,(At j ⟨g,0 + 1,none⟩ [.int .i64 n])∧
 Rng n m.len (NilP m.a fun X=>
 ∃ y:Int,(At j (Addr.add X n.toNat) [.int .i64 y])∧
 Br (decide (x≤y))
 (∃ z:Int,∃ A:Int,∃ C:Int,∃ D:Int,∃ E:Nat,(At (fun c=>c=f) ⟨g,0,none⟩ [.int .i64 z,.int .i64 A,.int .i64 C,.int .i64 D,.float .f64 E])∧
 ∃ o:World,((Instr.storeAt 147 (.pointer ((some ⟨k,0,none⟩))) (.agg #[.int .i64 z,.int .i64 A,.int .i64 C,.int .i64 D,.float .f64 E])).run Tryz.prog f=.ok () o)∧
 ∃ F:Int,∃ G:Int,∃ H:Int,∃ I:Int,∃ J:Nat,(At (fun c=>c=o) ⟨k,0,none⟩ [.int .i64 F,.int .i64 G,.int .i64 H,.int .i64 I,.float .f64 J])∧
 K (.tuple #[.agg #[.int .i64 F,.int .i64 G,.int .i64 H,.int .i64 I,.float .f64 J],.bool true]) o)
 ((i (IntKind.i64.wrap (b + 1)) f)∧l (IntKind.i64.wrap (b + 1)) f<l b e)))
 ((i (IntKind.i64.wrap (b + 1)) f)∧l (IntKind.i64.wrap (b + 1)) f<l b e)) e))
 (∃ p:World,((Instr.storeAt 147 (.pointer ((some ⟨k,0,none⟩))) (.agg #[.int .i64 0,.int .i64 0,.int .i64 0,.int .i64 0,.float .f64 0])).run Tryz.prog e=.ok () p)∧
 ∃ L:Int,∃ M:Int,∃ N:Int,∃ O:Int,∃ Q:Nat,(At (fun c=>c=p) ⟨k,0,none⟩ [.int .i64 L,.int .i64 M,.int .i64 N,.int .i64 O,.float .f64 Q])∧
 K (.tuple #[.agg #[.int .i64 L,.int .i64 M,.int .i64 N,.int .i64 O,.float .f64 Q],.bool false]) p)) w
def sk111:Sk:=(.seq .leaf (.seq (.seq .leaf (.block (.loop [13] [(.int .i64)] [5,7,13,14,15,16,17,18,19,20,21,22,23,24,25,26,27,28,29,30,31,32,33,34,35,36,37] .leaf))) .leaf))
theorem call111 (c:Option Addr) (b:Sl) (K:Value→World→Prop) (w:World) (h:B111 c b K w):Gets Tryz.prog 111 #[.pointer c,.slice b.a b.len b.cap] w K:=cq (sk:=sk111) Tryz.func111 (by kernel_rfl) (by kernel_rfl) (by kernel_rfl) h
def B60 (t:Option Addr) (K:Value→World→Prop) (w:World):Prop:=
 NilP t fun U=>
 ∃ o:Sl,(At (fun f=>f=w) (Addr.add U 0) [.slice o.a o.len o.cap])∧
 Calls Tryz.prog 35 #[.int .u64 (IntKind.u64.wrap (↑o.len:Int))] w fun X I=>
 ∃ p:Sl,(X=.returned (.slice p.a p.len p.cap))∧
 NilP t fun Q=>
 ∃ j:Sl,(At (fun f=>f=I) (Addr.add Q 0) [.slice j.a j.len j.cap])∧
 ∃ (q:Sl→Int→World→Prop) (N:Sl→Int→World→Nat),(q p 0 I)∧∀ (ad:Env) (g:Sl) (d:Int) (n:World),q g d n→
 Br (decide (d<(↑j.len:Int)))
 (Rng d j.len (NilP j.a fun T=>
 ∃ u:Int,∃ v:Int,∃ x:Int,∃ y:Int,∃ z:Nat,(At (fun f=>f=n) (Addr.add T (mulS d.toNat 5)) [.int .i64 u,.int .i64 v,.int .i64 x,.int .i64 y,.float .f64 z])∧
 New (.cells #[.int .i64 0,.int .i64 0,.int .i64 0,.int .i64 0,.float .f64 0] 174 (0,0)) (fun i aa=>
 ∃ J:World,((Instr.storeAt 174 (.pointer ((some ⟨i,0,none⟩))) (.agg #[.int .i64 u,.int .i64 v,.int .i64 x,.int .i64 y,.float .f64 z])).run Tryz.prog aa=.ok () J)∧
 Drw J fun b ab=>
 ∃ A:Int,(At b ⟨i,0,none⟩ [.int .i64 A])∧
 ∃ C:Int,(At b ⟨i,0 + 1,none⟩ [.int .i64 C])∧
 ∃ D:Int,(At b ⟨i,0 + 2,none⟩ [.int .i64 D])∧
 ∃ E:Int,(At b ⟨i,0 + 3,none⟩ [.int .i64 E])∧
 ∃ F:Nat,(At b ⟨i,0 + 4,none⟩ [.float .f64 F])∧
 Calls Tryz.prog 96 #[.float .f64 F] ab fun Y L=>
 ∃ G:Int,(Y=.returned (.int .u64 G))∧
 (b L)∧
 New (.cells #[.int .u64 (IntKind.u64.wrap A),.int .u64 (IntKind.u64.wrap C),.int .u64 (IntKind.u64.wrap D),.int .u64 (IntKind.u64.wrap E),.int .u64 G] 76 (0,0)) (fun V M=>
 (b M)∧
 ∃ (r:Sl→Int→World→Prop) (O:Sl→Int→World→Nat),(r g 0 M)∧∀ (ae:Env) (c:Sl) (e:Int) (l:World),r c e l→
 Br (decide (e<(↑5:Int)))
 (Rng e 5 (∃ H:Int,(At (fun f=>f=l) (Addr.add ⟨V,0,none⟩ e.toNat) [.int .u64 H])∧
 Calls Tryz.prog 35 #[.int .u64 H] l fun Z ac=>
 ∃ k:Sl,(Z=.returned (.slice k.a k.len k.cap))∧
 ∃ s:World,∃ m:Sl,((Builtin.append_ #[22,22] 22 #[.slice c.a c.len c.cap,.slice k.a k.len k.cap]).run Tryz.prog ac=.ok (.slice m.a m.len m.cap) s)∧
 (r m (IntKind.i64.wrap (e + 1)) s)∧O m (IntKind.i64.wrap (e + 1)) s<O c e l))
 ((q c (IntKind.i64.wrap (d + 1)) l)∧N c (IntKind.i64.wrap (d + 1)) l<N g d n)) L) n))
 (K (.slice g.a g.len g.cap) n)
def sk60:Sk:=(.seq .leaf (.seq .leaf (.seq (.seq .leaf (.block (.loop [3,20] [.sl,(.int .i64)] [3,5,7,20,21,22,23,24,25,26,27,28,29,30,31,32,33,34,35,36,37,38,39,40,41,42,43,44,45,46,47,48,49,50,51,52,53,54,55] (.seq .leaf (.seq .leaf (.seq (.block (.seq .leaf (.seq .leaf (.block (.loop [3,46] [.sl,(.int .i64)] [3,7,46,47,48,49,50,51,52,53,54] .leaf))))) .leaf)))))) .leaf)))
theorem call60 (a:Option Addr) (K:Value→World→Prop) (w:World) (h:B60 a K w):Gets Tryz.prog 60 #[.pointer a] w K:=cq (sk:=sk60) Tryz.func60 (by kernel_rfl) (by kernel_rfl) (by kernel_rfl) h
def B144 (e:Sl) (q:Value) (K:Value→World→Prop) (w:World):Prop:=
 ∃ (d:Int→World→Prop) (n:Int→World→Nat),(d 0 w)∧∀ (s:Env) (b:Int) (c:World),d b c→
 Br (decide (b<(↑e.len:Int)))
 (Rng b e.len (NilP e.a fun o=>
 ∃ g:Int,∃ i:Int,∃ j:Int,∃ k:Int,∃ l:Nat,(At (fun r=>r=c) (Addr.add o (mulS b.toNat 5)) [.int .i64 g,.int .i64 i,.int .i64 j,.int .i64 k,.float .f64 l])∧
 CalW Tryz.prog cl q [.agg #[.int .i64 g,.int .i64 i,.int .i64 j,.int .i64 k,.float .f64 l]] c fun p f=>
 ∃ m:Bool,(p=.returned (.bool m))∧
 Br m
 (K (.int .i64 b) f)
 ((d (IntKind.i64.wrap (b + 1)) f)∧n (IntKind.i64.wrap (b + 1)) f<n b c)))
 (K (.int .i64 ((-1))) c)
def sk144:Sk:=(.seq .leaf (.seq (.seq .leaf (.block (.loop [8] [(.int .i64)] [4,5,8,9,10,11,12,13,14,15,16,17,18] .leaf))) .leaf))
theorem call144 (b:Sl) (c:Value) (K:Value→World→Prop) (w:World) (h:B144 b c K w):Gets Tryz.prog 144 #[.slice b.a b.len b.cap,c] w K:=cq (sk:=sk144) Tryz.func144 (by kernel_rfl) (by kernel_rfl) (by kernel_rfl) h
def B108 (d:Sl) (U:Int) (V:Int) (X:Int) (Y:Int) (Z:Nat) (m:Value) (K:Value→World→Prop) (w:World):Prop:=
 New (.cells #[.int .i64 U,.int .i64 V,.int .i64 X,.int .i64 Y,.float .f64 Z] 174 (0,0)) (fun l aa=>
 ∃ (f:Int→Int→World→Prop) (i:Int→Int→World→Nat),(f 0 ((↑d.len:Int)) aa)∧∀ (ad:Env) (b:Int) (c:Int) (e:World),f b c e→
 Br (decide (b<c))
 (Drw e fun j ab=>
 Rng (IntKind.i64.wrap (shrI IntKind.u64 (IntKind.u64.wrap (IntKind.i64.wrap (b + c))) 1)) d.len (NilP d.a fun N=>
 ∃ n:Int,∃ o:Int,∃ p:Int,∃ q:Int,∃ r:Nat,(At j (Addr.add N (mulS (IntKind.i64.wrap (shrI IntKind.u64 (IntKind.u64.wrap (IntKind.i64.wrap (b + c))) 1)).toNat 5)) [.int .i64 n,.int .i64 o,.int .i64 p,.int .i64 q,.float .f64 r])∧
 ∃ s:Int,∃ t:Int,∃ u:Int,∃ v:Int,∃ x:Nat,(At j ⟨l,0,none⟩ [.int .i64 s,.int .i64 t,.int .i64 u,.int .i64 v,.float .f64 x])∧
 CalW Tryz.prog cl m [.agg #[.int .i64 n,.int .i64 o,.int .i64 p,.int .i64 q,.float .f64 r],.agg #[.int .i64 s,.int .i64 t,.int .i64 u,.int .i64 v,.float .f64 x]] ab fun Q g=>
 ∃ y:Int,(Q=.returned (.int .i64 y))∧
 Br (decide (y<0))
 ((f (IntKind.i64.wrap (IntKind.i64.wrap (shrI IntKind.u64 (IntKind.u64.wrap (IntKind.i64.wrap (b + c))) 1) + 1)) c g)∧i (IntKind.i64.wrap (IntKind.i64.wrap (shrI IntKind.u64 (IntKind.u64.wrap (IntKind.i64.wrap (b + c))) 1) + 1)) c g<i b c e)
 ((f b (IntKind.i64.wrap (shrI IntKind.u64 (IntKind.u64.wrap (IntKind.i64.wrap (b + c))) 1)) g)∧i b (IntKind.i64.wrap (shrI IntKind.u64 (IntKind.u64.wrap (IntKind.i64.wrap (b + c))) 1)) g<i b c e)))
 (Drw e fun k M=>
 Br (decide (b<(↑d.len:Int)))
 (Rng b d.len (NilP d.a fun O=>
 ∃ z:Int,∃ A:Int,∃ C:Int,∃ D:Int,∃ E:Nat,(At k (Addr.add O (mulS b.toNat 5)) [.int .i64 z,.int .i64 A,.int .i64 C,.int .i64 D,.float .f64 E])∧
 ∃ F:Int,∃ G:Int,∃ H:Int,∃ I:Int,∃ J:Nat,(At k ⟨l,0,none⟩ [.int .i64 F,.int .i64 G,.int .i64 H,.int .i64 I,.float .f64 J])∧
 CalW Tryz.prog cl m [.agg #[.int .i64 z,.int .i64 A,.int .i64 C,.int .i64 D,.float .f64 E],.agg #[.int .i64 F,.int .i64 G,.int .i64 H,.int .i64 I,.float .f64 J]] M fun T ac=>
 ∃ L:Int,(T=.returned (.int .i64 L))∧
 K (.tuple #[.int .i64 b,.bool (L==0)]) ac))
 (K (.tuple #[.int .i64 b,.bool false]) M))) w
def sk108:Sk:=(.seq .leaf (.seq .leaf (.seq .leaf (.seq (.block (.loop [9,10] [(.int .i64),(.int .i64)] [9,10,11,15,16,17,18,19,20,21,22,23,24,25,26,27,28,29,30,31,32,33,34] .leaf)) .leaf))))
theorem call108 (b:Sl) (d:Int) (e:Int) (f:Int) (g:Int) (i:Nat) (c:Value) (K:Value→World→Prop) (w:World) (h:B108 b d e f g i c K w):Gets Tryz.prog 108 #[.slice b.a b.len b.cap,.agg #[.int .i64 d,.int .i64 e,.int .i64 f,.int .i64 g,.float .f64 i],c] w K:=cq (sk:=sk108) Tryz.func108 (by kernel_rfl) (by kernel_rfl) (by kernel_rfl) h
def B110 (b:Sl) (d:Int) (c:Sl) (K:Value→World→Prop) (w:World):Prop:=
 ((0:Int)≤d)∧
 ((d:Int)≤(↑b.len:Int))∧
 Br ((↑c.len:Int)==0)
 (K (.slice b.a b.len b.cap) w)
 (Br (d==(↑b.len:Int))
 (∃ i:World,∃ f:Sl,((Builtin.append_ #[170,170] 170 #[.slice b.a b.len b.cap,.slice c.a c.len c.cap]).run Tryz.prog w=.ok (.slice f.a f.len f.cap) i)∧
 K (.slice f.a f.len f.cap) i)
 (Br (decide (IntKind.i64.wrap ((↑b.len:Int) + (↑c.len:Int))>(↑b.cap:Int)))
 (((0:Int)≤d)∧
 ((d:Int)≤(↑b.cap:Int))∧
 ∃ k:World,∃ e:Sl,((Builtin.append_ #[170,3] 170 #[.slice b.a d.toNat b.cap,.int .i64 (IntKind.i64.wrap (IntKind.i64.wrap ((↑b.len:Int) + (↑c.len:Int)) - d))]).run Tryz.prog w=.ok (.slice e.a e.len e.cap) k)∧
 ((0:Int)≤d)∧
 ((d:Int)≤(↑e.len:Int))∧
 ∃ l:World,∃ s:Int,((Builtin.copy_ #[170,170] 3 #[.slice (cutA e.a d.toNat e.cap 5) (e.len - d.toNat) (e.cap - d.toNat),.slice c.a c.len c.cap]).run Tryz.prog k=.ok (.int .i64 s) l)∧
 Drw l fun C z=>
 ((0:Int)≤IntKind.i64.wrap (d + (↑c.len:Int)))∧
 ((IntKind.i64.wrap (d + (↑c.len:Int)):Int)≤(↑e.len:Int))∧
 ((0:Int)≤d)∧
 ((d:Int)≤(↑b.len:Int))∧
 ∃ m:World,∃ t:Int,((Builtin.copy_ #[170,170] 3 #[.slice (cutA e.a (IntKind.i64.wrap (d + (↑c.len:Int))).toNat e.cap 5) (e.len - (IntKind.i64.wrap (d + (↑c.len:Int))).toNat) (e.cap - (IntKind.i64.wrap (d + (↑c.len:Int))).toNat),.slice (cutA b.a d.toNat b.cap 5) (b.len - d.toNat) (b.cap - d.toNat)]).run Tryz.prog z=.ok (.int .i64 t) m)∧
 K (.slice e.a e.len e.cap) m)
 (((0:Int)≤IntKind.i64.wrap ((↑b.len:Int) + (↑c.len:Int)))∧
 ((IntKind.i64.wrap ((↑b.len:Int) + (↑c.len:Int)):Int)≤(↑b.cap:Int))∧
 ((0:Int)≤IntKind.i64.wrap (d + (↑c.len:Int)))∧
 ((IntKind.i64.wrap (d + (↑c.len:Int)):Int)≤(↑(IntKind.i64.wrap ((↑b.len:Int) + (↑c.len:Int))).toNat:Int))∧
 Ext Tryz.prog 149 #[.slice c.a c.len c.cap,.slice (cutA b.a (IntKind.i64.wrap (d + (↑c.len:Int))).toNat b.cap 5) ((IntKind.i64.wrap ((↑b.len:Int) + (↑c.len:Int))).toNat - (IntKind.i64.wrap (d + (↑c.len:Int))).toNat) (b.cap - (IntKind.i64.wrap (d + (↑c.len:Int))).toNat)] w fun q n=>
 ∃ g:Bool,(q=.returned (.bool g))∧
 Br (!g)
 (Drw n fun D A=>
 ((0:Int)≤IntKind.i64.wrap (d + (↑c.len:Int)))∧
 ((IntKind.i64.wrap (d + (↑c.len:Int)):Int)≤(↑(IntKind.i64.wrap ((↑b.len:Int) + (↑c.len:Int))).toNat:Int))∧
 ((0:Int)≤d)∧
 ((d:Int)≤(↑(IntKind.i64.wrap ((↑b.len:Int) + (↑c.len:Int))).toNat:Int))∧
 ∃ o:World,∃ u:Int,((Builtin.copy_ #[170,170] 3 #[.slice (cutA b.a (IntKind.i64.wrap (d + (↑c.len:Int))).toNat b.cap 5) ((IntKind.i64.wrap ((↑b.len:Int) + (↑c.len:Int))).toNat - (IntKind.i64.wrap (d + (↑c.len:Int))).toNat) (b.cap - (IntKind.i64.wrap (d + (↑c.len:Int))).toNat),.slice (cutA b.a d.toNat b.cap 5) ((IntKind.i64.wrap ((↑b.len:Int) + (↑c.len:Int))).toNat - d.toNat) (b.cap - d.toNat)]).run Tryz.prog A=.ok (.int .i64 u) o)∧
 ((0:Int)≤d)∧
 ((d:Int)≤(↑(IntKind.i64.wrap ((↑b.len:Int) + (↑c.len:Int))).toNat:Int))∧
 ∃ p:World,∃ v:Int,((Builtin.copy_ #[170,170] 3 #[.slice (cutA b.a d.toNat b.cap 5) ((IntKind.i64.wrap ((↑b.len:Int) + (↑c.len:Int))).toNat - d.toNat) (b.cap - d.toNat),.slice c.a c.len c.cap]).run Tryz.prog o=.ok (.int .i64 v) p)∧
 K (.slice b.a ((IntKind.i64.wrap ((↑b.len:Int) + (↑c.len:Int))).toNat) b.cap) p)
 (((0:Int)≤(↑b.len:Int))∧
 (((↑b.len:Int):Int)≤(↑(IntKind.i64.wrap ((↑b.len:Int) + (↑c.len:Int))).toNat:Int))∧
 ∃ j:World,∃ x:Int,((Builtin.copy_ #[170,170] 3 #[.slice (cutA b.a (↑b.len:Int).toNat b.cap 5) ((IntKind.i64.wrap ((↑b.len:Int) + (↑c.len:Int))).toNat - (↑b.len:Int).toNat) (b.cap - (↑b.len:Int).toNat),.slice c.a c.len c.cap]).run Tryz.prog n=.ok (.int .i64 x) j)∧
 ((0:Int)≤d)∧
 ((d:Int)≤(↑(IntKind.i64.wrap ((↑b.len:Int) + (↑c.len:Int))).toNat:Int))∧
 Calls Tryz.prog 150 #[.slice (cutA b.a d.toNat b.cap 5) ((IntKind.i64.wrap ((↑b.len:Int) + (↑c.len:Int))).toNat - d.toNat) (b.cap - d.toNat),.int .i64 ((↑c.len:Int))] j fun r y=>
 (r=.returned (.tuple #[]))∧
 K (.slice b.a ((IntKind.i64.wrap ((↑b.len:Int) + (↑c.len:Int))).toNat) b.cap) y))))
theorem call110 (b:Sl) (d:Int) (c:Sl) (K:Value→World→Prop) (w:World) (h:B110 b d c K w):Gets Tryz.prog 110 #[.slice b.a b.len b.cap,.int .i64 d,.slice c.a c.len c.cap] w K:=cq (sk:=.leaf) Tryz.func110 (by kernel_rfl) (by kernel_rfl) (by kernel_rfl) h
def B115 (b:Sl) (e:Int) (d:Int) (K:Value→World→Prop) (w:World):Prop:=
 ((0:Int)≤(↑b.len:Int))∧
 (((↑b.len:Int):Int)≤(↑b.cap:Int))∧
 ((0:Int)≤d)∧
 ((d:Int)≤(↑(↑b.len:Int).toNat:Int))∧
 ((0:Int)≤e)∧
 ((e:Int)≤(↑d.toNat:Int))∧
 Br (e==d)
 (K (.slice b.a b.len b.cap) w)
 (Drw w fun j i=>
 ((0:Int)≤e)∧
 ((e:Int)≤(↑b.cap:Int))∧
 ((0:Int)≤d)∧
 ((d:Int)≤(↑b.len:Int))∧
 ∃ f:World,∃ c:Sl,((Builtin.append_ #[170,170] 170 #[.slice b.a e.toNat b.cap,.slice (cutA b.a d.toNat b.cap 5) (b.len - d.toNat) (b.cap - d.toNat)]).run Tryz.prog i=.ok (.slice c.a c.len c.cap) f)∧
 ((0:Int)≤(↑b.len:Int))∧
 (((↑b.len:Int):Int)≤(↑c.cap:Int))∧
 ((0:Int)≤(↑c.len:Int))∧
 (((↑c.len:Int):Int)≤(↑(↑b.len:Int).toNat:Int))∧
 ∃ g:World,((Builtin.clear_ #[170] 0 #[.slice (cutA c.a (↑c.len:Int).toNat c.cap 5) ((↑b.len:Int).toNat - (↑c.len:Int).toNat) (c.cap - (↑c.len:Int).toNat)]).run Tryz.prog f=.ok (.tuple #[]) g)∧
 K (.slice c.a c.len c.cap) g)
theorem call115 (b:Sl) (c:Int) (d:Int) (K:Value→World→Prop) (w:World) (h:B115 b c d K w):Gets Tryz.prog 115 #[.slice b.a b.len b.cap,.int .i64 c,.int .i64 d] w K:=cq (sk:=.leaf) Tryz.func115 (by kernel_rfl) (by kernel_rfl) (by kernel_rfl) h
def B121  (K:Value→World→Prop) (w:World):Prop:=
 New (.cells #[.int .i64 0] 3 (0,0)) (fun a e=>
 New (.cells #[.int .i64 0] 3 (0,0)) (fun b f=>
 ∃ c:World,((Instr.storeAt 3 (.pointer ((some ⟨a,0,none⟩))) (.int .i64 0)).run Tryz.prog f=.ok () c)∧
 ∃ d:World,((Instr.storeAt 3 (.pointer ((some ⟨b,0,none⟩))) (.int .i64 2)).run Tryz.prog c=.ok () d)∧
 K (.func (.func 158) #[] #[.pointer ((some ⟨a,0,none⟩)),.pointer ((some ⟨b,0,none⟩))]) d) e) w
theorem call121  (K:Value→World→Prop) (w:World) (h:B121  K w):Gets Tryz.prog 121 #[] w K:=cq (sk:=.leaf) Tryz.func121 (by kernel_rfl) (by kernel_rfl) (by kernel_rfl) h
def B158 (o:Int) (b:Option Addr) (c:Option Addr) (K:Value→World→Prop) (w:World):Prop:=
 NilP b fun m=>
 ∃ i:Int,(At (fun a=>a=w) m [.int .i64 i])∧
 NilP c fun n=>
 ∃ j:Int,(At (fun a=>a=w) n [.int .i64 j])∧
 ∃ d:World,((Instr.storeAt 3 (.pointer b) (.int .i64 ((IntKind.i64.wrap (i + IntKind.i64.wrap (j * o))).tmod 31))).run Tryz.prog w=.ok () d)∧
 NilP c fun k=>
 ∃ f:Int,(At (fun a=>a=d) k [.int .i64 f])∧
 ∃ e:World,((Instr.storeAt 3 (.pointer c) (.int .i64 (IntKind.i64.wrap (f + 1)))).run Tryz.prog d=.ok () e)∧
 NilP b fun l=>
 ∃ g:Int,(At (fun a=>a=e) l [.int .i64 g])∧
 K (.int .i64 g) e
theorem call158 (c:Int) (a:Option Addr) (b:Option Addr) (K:Value→World→Prop) (w:World) (h:B158 c a b K w):Gets Tryz.prog 158 #[.int .i64 c,.pointer a,.pointer b] w K:=cq (sk:=.leaf) Tryz.func158 (by kernel_rfl) (by kernel_rfl) (by kernel_rfl) h
def B112 (m:Int) (K:Value→World→Prop) (w:World):Prop:=
 ∃ (r:World→Prop),(Br (decide (m<0))
 (K (.tuple #[.string (ByteArray.mk #[]),.int .i64 1]) w)
 (Br (decide (m ≥ 28629151))
 (K (.tuple #[.string (ByteArray.mk #[]),.int .i64 1]) w)
 (r  w)))∧
 ∀ (L:Env)  (z:World),r  z→
 New (.cells #[.int .u8 0,.int .u8 0,.int .u8 0,.int .u8 0,.int .u8 0,.int .u8 0] 230 (0,0)) (fun l I=>
 New (.cells #[.int .i64 0,.int .i64 0,.int .i64 0,.int .i64 0,.int .i64 0] 231 (0,0)) (fun s J=>
 ∃ (j:Int→Int→World→Prop) (E:Int→Int→World→Nat),(j m 4 J)∧∀ (M:Env) (d:Int) (b:Int) (g:World),j d b g→
 Br (decide (b ≥ 0))
 (Rng b 5 (∃ q:World,((Instr.storeAt 3 (.pointer ((some (Addr.add ⟨s,0,none⟩ b.toNat)))) (.int .i64 (d.tmod 31))).run Tryz.prog g=.ok () q)∧
 (j (IntKind.i64.wrap (d.tdiv 31)) (IntKind.i64.wrap (b - 1)) q)∧E (IntKind.i64.wrap (d.tdiv 31)) (IntKind.i64.wrap (b - 1)) q<E d b g))
 (Calls Tryz.prog 121 #[] g fun G A=>
 ∃ t:Value,(G=.returned (t))∧
 ∃ n:List Value,(n.length=5)∧
 (At (fun c=>c=A) ⟨s,0,none⟩ n)∧
 ∃ (k:Int→Int→World→Prop) (F:Int→Int→World→Nat),(k 0 0 A)∧∀ (N:Env) (e:Int) (a:Int) (i:World),k e a i→
 Br (decide (a<5))
 (Rng a 5 (∃ f:Int,(n.toArray[a.toNat]? =some (Value.int IntKind.i64 f))∧
 ∃ u:UInt8,((0:Int)≤f)∧
 ((ByteArray.mk #[65,66,67,68,69,70,71,72,74,75,76,77,78,80,81,82,84,85,86,87,88,89,90,50,51,52,53,54,55,56,57])[f.toNat]? =some u)∧
 Rng a 6 (∃ C:World,((Instr.storeAt 5 (.pointer ((some (Addr.add ⟨l,0,none⟩ a.toNat)))) (.int .u8 ((↑u.toNat:Int)))).run Tryz.prog i=.ok () C)∧
 CalW Tryz.prog cl t [.int .i64 f] C fun H D=>
 ∃ o:Int,(H=.returned (.int .i64 o))∧
 (k o (IntKind.i64.wrap (a + 1)) D)∧F o (IntKind.i64.wrap (a + 1)) D<F e a i)))
 (∃ v:UInt8,((0:Int)≤(IntKind.i64.wrap (31 - e)).tmod 31)∧
 ((ByteArray.mk #[65,66,67,68,69,70,71,72,74,75,76,77,78,80,81,82,84,85,86,87,88,89,90,50,51,52,53,54,55,56,57])[((IntKind.i64.wrap (31 - e)).tmod 31).toNat]? =some v)∧
 ∃ p:World,((Instr.storeAt 5 (.pointer ((some (Addr.add ⟨l,0,none⟩ 5)))) (.int .u8 ((↑v.toNat:Int)))).run Tryz.prog i=.ok () p)∧
 ∃ x:Addr,(some (Addr.mk l 0 none)=some x)∧
 ∃ y:ByteArray,(∀ c,(fun c=>c=p) c→((convert 22 9 (.slice ((some (x))) 6 6))).run Tryz.prog c=.ok (.string y) c)∧
 K (.tuple #[.string y,.int .i64 0]) p))) I) z
def sk112:Sk:=(.seq .leaf (.cut [] [] [2,3,11,12,13,14,15,16] .leaf (.seq .leaf (.seq .leaf (.seq (.seq .leaf (.block (.loop [0,6] [(.int .i64),(.int .i64)] [0,6,17,18,19,20,21,22,23,24,25,26] .leaf))) (.seq .leaf (.seq (.seq .leaf (.block (.loop [8,29] [(.int .i64),(.int .i64)] [8,9,10,29,30,31,32,33,34,35,36,37,38,39,40] .leaf))) .leaf)))))))
theorem call112 (a:Int) (K:Value→World→Prop) (w:World) (h:B112 a K w):Gets Tryz.prog 112 #[.int .i64 a] w K:=cq (sk:=sk112) Tryz.func112 (by kernel_rfl) (by kernel_rfl) (by kernel_rfl) h
def B88 (l:ByteArray) (K:Value→World→Prop) (w:World):Prop:=
 Br ((↑l.size:Int) !=6)
 (K (.tuple #[.int .i64 0,.int .i64 6]) w)
 (Calls Tryz.prog 121 #[] w fun r v=>
 ∃ m:Value,(r=.returned (m))∧
 New (.stringIter l 0) (fun q x=>
 ∃ (e:Int→Int→World→Prop) (g:Int→Int→World→Nat),(e 0 0 x)∧∀ (A:Env) (a:Int) (b:Int) (f:World),e a b f→
 NextS ((some ⟨q,0,none⟩)) (fun u k y=>
 Calls Tryz.prog 122 #[.string (ByteArray.mk #[65,66,67,68,69,70,71,72,74,75,76,77,78,80,81,82,84,85,86,87,88,89,90,50,51,52,53,54,55,56,57]),.int .u8 (IntKind.u8.wrap k)] y fun s o=>
 ∃ c:Int,(s=.returned (.int .i64 c))∧
 ∃ (i:Bool→World→Prop),(Br (decide (c<0))
 (i true o)
 (i (decide (k>90)) o))∧
 ∀ (C:Env) (n:Bool) (d:World),i n d→
 Br n
 (K (.tuple #[.int .i64 0,.int .i64 6]) d)
 (Br (decide (u<5))
 (CalW Tryz.prog cl m [.int .i64 c] d fun t p=>
 ∃ j:Int,(t=.returned (.int .i64 j))∧
 (e (IntKind.i64.wrap (IntKind.i64.wrap (a * 31) + c)) j p)∧g (IntKind.i64.wrap (IntKind.i64.wrap (a * 31) + c)) j p<g a b f)
 (Br ((IntKind.i64.wrap (b + c)).tmod 31 !=0)
 (K (.tuple #[.int .i64 0,.int .i64 6]) d)
 ((e a b d)∧g a b d<g a b f))))
 (fun z=>
 K (.tuple #[.int .i64 a,.int .i64 0]) z) f) v)
def sk88:Sk:=(.seq .leaf (.seq .leaf (.seq .leaf (.seq (.seq .leaf (.block (.loop [5,6] [(.int .i64),(.int .i64)] [2,3,5,6,7,8,9,16,17,18,19,20,21,22,23,24,25,26,27,28,29,30,31,32,33,34,35,36,37,38,39,40,41,42,43,44,45] (.seq .leaf (.seq .leaf (.block (.seq .leaf (.seq .leaf (.block (.cut [23] [.bool] [23,24,25,26,27,28,29] .leaf .leaf)))))))))) .leaf))))
theorem call88 (a:ByteArray) (K:Value→World→Prop) (w:World) (h:B88 a K w):Gets Tryz.prog 88 #[.string a] w K:=cq (sk:=sk88) Tryz.func88 (by kernel_rfl) (by kernel_rfl) (by kernel_rfl) h
def B122 (d:ByteArray) (b:Int) (K:Value→World→Prop) (w:World):Prop:=
 Calls Tryz.prog 159 #[.string d,.int .u8 b] w fun c e=>
 ∃ a:Int,(c=.returned (.int .i64 a))∧
 K (.int .i64 a) e
theorem call122 (b:ByteArray) (a:Int) (K:Value→World→Prop) (w:World) (h:B122 b a K w):Gets Tryz.prog 122 #[.string b,.int .u8 a] w K:=cq (sk:=.leaf) Tryz.func122 (by kernel_rfl) (by kernel_rfl) (by kernel_rfl) h
def B159 (d:ByteArray) (b:Int) (K:Value→World→Prop) (w:World):Prop:=
 Ext Tryz.prog 175 #[.string d,.int .u8 b] w fun c e=>
 ∃ a:Int,(c=.returned (.int .i64 a))∧
 K (.int .i64 a) e
theorem call159 (b:ByteArray) (a:Int) (K:Value→World→Prop) (w:World) (h:B159 b a K w):Gets Tryz.prog 159 #[.string b,.int .u8 a] w K:=cq (sk:=.leaf) Tryz.func159 (by kernel_rfl) (by kernel_rfl) (by kernel_rfl) h
end Go.Proofs.YtflgboncpbmikaaGreatDoor
