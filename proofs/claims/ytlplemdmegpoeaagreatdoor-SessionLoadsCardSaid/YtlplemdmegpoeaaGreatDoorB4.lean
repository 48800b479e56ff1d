/- A flight, plain: which bytes are one, by the program and by the document. Condition: none. -/
import Derived.Test.YtlplemdmegpoeaaGreatDoorB3
import Derived.Test.YtlplemdmegpoeaaGreatDoorB2
import Derived.Test.YtlplemdmegpoeaaGreatDoorB1
import Derived.ProofKit
import Derived.OpenShut
import Derived.ShutString
import Derived.ChangeOld
import Derived.Below
import Derived.Lib.SmallJoins
namespace Go.Proofs.YtlplemdmegpoeaaGreatDoor
set_option linter.unusedVariables false
set_option linter.unusedSimpArgs false
open Go Go.VC
theorem rdNum_bad {most:Int} {r:Rd} (h:r.bad=true):rdNum most r=(0,r):=by unfold rdNum;rw [if_pos h]
theorem nMany_bad {each:Int}:∀ (k:Nat) {r:Rd},r.bad=true→(nMany k each r).2.bad=true
 |0,_,h=>h
 |k + 1,r,h=>by show (nMany k each (rdNum each r).2).2.bad=true;rw [rdNum_bad h];exact nMany_bad k h
theorem nMany_eq {each:Int}:∀ (k:Nat) {r:Rd},(nMany k each r).2.bad=false→rMany k each r=nMany k each r
 |0,_,_=>rfl
 |k + 1,r,h=>by
  have hr:r.bad=false:=by cases e:r.bad with|false=>rfl|true=>rw [nMany_bad (k + 1) e] at h;cases h
  rw [rMany_succ,if_neg (by rw [hr];simp),nMany_eq k h];rfl
theorem rMany_eq {each:Int}:∀ (k:Nat) {r:Rd},(rMany k each r).2.bad=false→rMany k each r=nMany k each r
 |0,_,_=>rfl
 |k + 1,r,h=>by
  have hr:r.bad=false:=by cases e:r.bad with|false=>rfl|true=>rw [rMany_bad e (k + 1)] at h;rw [e] at h;cases h
  rw [rMany_succ,if_neg (by rw [hr];simp)] at h ⊢
  rw [rMany_eq k h];rfl
theorem nList_bad {most each:Int} {r:Rd} (h:r.bad=true):(nList most each r).2.bad=true:=by unfold nList;rw [rdNum_bad h];exact nMany_bad _ h
theorem rList_bad {most each:Int} {r:Rd} (h:r.bad=true):(rList most each r).2.bad=true:=by unfold rList;rw [rdNum_bad h];show (rMany 0 each r).2.bad=true;exact h
theorem nList_eq {most each:Int} {r:Rd} (h:(nList most each r).2.bad=false):rList most each r=nList most each r:=nMany_eq _ h
theorem rList_eq {most each:Int} {r:Rd} (h:(rList most each r).2.bad=false):rList most each r=nList most each r:=rMany_eq _ h
theorem readH_bad {r:Rd} (h:r.bad=true):(readH r).2.bad=true:=by unfold readH;rw [rdNum_bad h,rdNum_bad h,rdNum_bad h];exact nList_bad h
theorem readH_eq {r:Rd} (h:(readH r).2.bad=false):readHr r=readH r:=by unfold readHr readH;rw [nList_eq h]
theorem readHr_eq {r:Rd} (h:(readHr r).2.bad=false):readHr r=readH r:=by unfold readHr readH;rw [rList_eq h]
theorem readHs_bad:∀ (k:Nat) {r:Rd},r.bad=true→(readHs k r).2.bad=true
 |0,_,h=>h
 |k + 1,r,h=>readHs_bad k (readH_bad h)
theorem rHs_bad {r:Rd} (h:r.bad=true):∀ k,rHs k r=([],r)
 |0=>rfl
 |k + 1=>by rw [rHs_succ,if_pos h]
theorem readHs_eq:∀ (k:Nat) {r:Rd},(readHs k r).2.bad=false→rHs k r=readHs k r
 |0,_,_=>rfl
 |k + 1,r,h=>by
  have hr:r.bad=false:=by cases e:r.bad with|false=>rfl|true=>rw [readHs_bad (k + 1) e] at h;cases h
  have h:(readHs k (readH r).2).2.bad=false:=h
  have h2:(readH r).2.bad=false:=by cases e:(readH r).2.bad with|false=>rfl|true=>rw [readHs_bad k e] at h;cases h
  rw [rHs_succ,if_neg (by rw [hr];simp),readH_eq h2,readHs_eq k h];rfl
theorem rHs_eq:∀ (k:Nat) {r:Rd},(rHs k r).2.bad=false→rHs k r=readHs k r
 |0,_,_=>rfl
 |k + 1,r,h=>by
  have hr:r.bad=false:=by cases e:r.bad with|false=>rfl|true=>rw [rHs_bad e (k + 1)] at h;rw [e] at h;cases h
  rw [rHs_succ,if_neg (by rw [hr];simp)] at h ⊢
  have h:(rHs k (readHr r).2).2.bad=false:=h
  have h2:(readHr r).2.bad=false:=by cases e:(readHr r).2.bad with|false=>rfl|true=>rw [rHs_bad e k] at h;rw [e] at h;cases h
  rw [readHr_eq h2] at h ⊢
  rw [rHs_eq k h];rfl
theorem bad_cases {a b:Rd} (h:a.bad=true→b.bad=true) (hb:b.bad=false):a.bad=false:=by
 cases e:a.bad with
 |false=>rfl
 |true=>rw [h e] at hb;cases hb
theorem rawD_eq {bs:List Int} (h:(rawD bs).rd.bad=false):rawR bs=rawD bs:=by
 unfold rawD at h
 dsimp only at h
 have h1:=bad_cases (readHs_bad _) h
 have h2:=bad_cases (fun e=>by rw [rdNum_bad e];exact e) h1
 have h3:=bad_cases nList_bad h2
 unfold rawR rawD
 dsimp only
 rw [nList_eq h3,nList_eq h2,readHs_eq _ h]
theorem rawR_eq {bs:List Int} (h:(rawR bs).rd.bad=false):rawR bs=rawD bs:=by
 unfold rawR at h
 dsimp only at h
 have h1:=bad_cases (fun e=>by rw [rHs_bad e];exact e) h
 have h2:=bad_cases (fun e=>by rw [rdNum_bad e];exact e) h1
 have h3:=bad_cases rList_bad h2
 have e3:=rList_eq h3
 rw [e3] at h2 h
 have e4:=rList_eq h2
 rw [e4] at h
 unfold rawR rawD
 dsimp only
 rw [e3,e4,rHs_eq _ h]
theorem whole_bad {r:Rd} (h:rdWhole r=true):r.bad=false:=by
 unfold rdWhole at h
 cases e:r.bad with
 |false=>rfl
 |true=>rw [e] at h;cases h
theorem raw_whole (bs:List Int):rdWhole (rawR bs).rd=rdWhole (rawD bs).rd∧(rdWhole (rawD bs).rd=true→rawR bs=rawD bs):=by
 constructor
 ·cases e:(rawD bs).rd.bad with
  |false=>rw [rawD_eq e]
  |true=>
   cases e2:(rawR bs).rd.bad with
   |false=>rw [rawR_eq e2]
   |true=>unfold rdWhole;rw [e,e2];rfl
 ·exact fun h=>rawD_eq (whole_bad h)
theorem nest_sell_iff {lim sold:List Int} {c many:Int} (hn:nestOk lim sold=true) (c0:0≤c) (c1:c<lim.length) (m0:1≤many) (m1:many≤10000) (h:nestOk lim (sold.set c.toNat (sold.getD c.toNat 0 + many))=true):(sellT lim sold c many).2=0:=by
 obtain ⟨i1,i2,i3⟩:=nestOk_iff.1 hn
 obtain ⟨_,_,k3⟩:=nestOk_iff.1 h
 have hl:leftT lim sold c=(mnF (roomF lim sold) (c.toNat + 1),0):=by unfold leftT;rw [if_pos ⟨hn,c0,c1⟩]
 have hm:=mnF_is (roomF lim sold) (c.toNat + 1)
 have hle:many≤mnF (roomF lim sold) (c.toNat + 1):=by
  rcases hm.2.2 with e|⟨k,_,hk,e⟩
  ·omega
  ·rw [e]
   have hf:=fromN_add (sold:=sold) (c:=c.toNat) (m:=many) (by omega) (lim.length - k) k (by omega)
   rw [if_pos (by omega)] at hf
   have:=(k3 k (by omega)).2
   unfold roomF
   omega
 unfold sellT
 rw [hl]
 dsimp only
 rw [if_neg (by omega),if_neg (by omega)]
variable {f:PF} {r:RF}
theorem tie_tell {A C:List Hold} {h:Hold} {n:Int} (t:Tie f r) (g:Good r) (hL:r.L=A++h::C) (hA:getO h.owner A=none) (h4:n ∉ takenL r.L) (hb:0≤n∧n<layN r.rows r.grps) (hm:(h.seats.length:Int)<h.many):
  Tie (tellF f h.owner n) { r with L:=A++h.put n::C }∧Good { r with L:=A++h.put n::C }:=by
 have hh:=g.each h (by rw [hL];simp)
 have hg:getM h.owner f.hs=some h:=by rw [t.get g.rise,hL];exact getO_app rfl hA
 have e:tellF f h.owner n={ f with hs:=setM h.owner (h.put n) f.hs,own:=putM n h.owner f.own }:=by unfold tellF;rw [hg]
 rw [e]
 have hnh:n ∉ h.seats:=fun e=>h4 (mem_taken.2 ⟨h,by rw [hL];simp,e⟩)
 have hs:∀ x∈(h.put n).seats,x∈h.seats∨(x ∉ takenL r.L∧0≤x∧x<layN r.rows r.grps):=fun x hx=>by
  rcases mem_insS.1 hx with rfl|hx
  ·exact .inr ⟨h4,hb⟩
  ·exact .inl hx
 refine ⟨tie_set (h':=h.put n) t g hL hA rfl rfl rfl (fun x hx=>(hs x hx).imp id (·.1)) (putM_nodup t.nod) fun x=>?_,good_set (h':=h.put n) g hL rfl rfl rfl ?_ ?_ hs⟩
 ·rw [getM_putM]
  show _=if x∈insS n h.seats then some h.owner else _
  by_cases hx:x=n
  ·rw [if_pos hx,if_pos (mem_insS.2 (.inl hx))]
  ·rw [if_neg hx]
   by_cases hx2:x∈h.seats
   ·rw [if_pos (mem_insS.2 (.inr hx2))]
    exact (t.own x h.owner).2 ⟨h,by rw [hL];simp,rfl,hx2⟩
   ·rw [if_neg (fun e=>(mem_insS.1 e).elim hx hx2),if_neg hx2]
 ·exact rise_iff.2 (insS_pw (rise_iff.1 hh.rise) hnh)
 ·show ((insS n h.seats).length:Int)≤_
  rw [insS_len];omega
def SOk (N:Int) (T:List Int):List Int→Int→Prop
 |[],_=>True
 |n::l,last=>n ∉ T∧last<n∧n<N∧SOk N T l n
theorem takenL_snoc (P:List Hold) (h:Hold):takenL (P++[h])=takenL P++h.seats:=by simp [takenL]
theorem tie_res {P:List Hold} {h:Hold}:∀ (l acc:List Int) (last:Int) {f:PF} {r:RF},Tie f r→Good r→r.L=P++[{ h with seats:=acc }]→(acc.length + l.length:Int)≤h.many→(∀ x∈acc,x≤last)→-1≤last→
  ((resGo h.owner (layN r.rows r.grps) l last f).2=true↔SOk (layN r.rows r.grps) (takenL P) l last)∧
  ((resGo h.owner (layN r.rows r.grps) l last f).2=true→Tie (resGo h.owner (layN r.rows r.grps) l last f).1 { r with L:=P++[{ h with seats:=acc++l }] }∧Good { r with L:=P++[{ h with seats:=acc++l }] })
 |[],acc,last,f,r,t,g,hL,_,_,_=>by
  refine ⟨⟨fun _=>trivial,fun _=>rfl⟩,fun _=>?_⟩
  rw [List.append_nil,←hL]
  exact ⟨t,g⟩
 |n::l,acc,last,f,r,t,g,hL,hm,hacc,hlast=>by
  rw [resGo_cons]
  have hown:getO h.owner P=none:=by
   have h5:=g.rise
   rw [hL] at h5
   refine getO_none.2 fun x hx e=>?_
   have:=(List.pairwise_append.1 h5).2.2 x hx _ (List.mem_singleton.2 rfl)
   dsimp only at this
   omega
  have htk:takenL r.L=takenL P++acc:=by rw [hL,takenL_snoc]
  rw [List.length_cons] at hm
  show _∧_
  by_cases h1:(getM n f.own).isSome=true
  ·rw [if_pos h1]
   refine ⟨⟨fun e=>(by cases e),fun e=>?_⟩,fun e=>by cases e⟩
   have h2:=(t.taken n).1 h1
   rw [htk] at h2
   rcases List.mem_append.1 h2 with h2|h2
   ·exact absurd h2 e.1
   ·have:=hacc n h2;have:=e.2.1;omega
  rw [if_neg h1]
  have hnt:n ∉ takenL r.L:=fun e=>h1 ((t.taken n).2 e)
  by_cases h2:n≤last
  ·rw [if_pos h2]
   exact ⟨⟨fun e=>(by cases e),fun e=>by have:=e.2.1;omega⟩,fun e=>by cases e⟩
  rw [if_neg h2]
  by_cases h3:n ≥ layN r.rows r.grps
  ·rw [if_pos h3]
   exact ⟨⟨fun e=>(by cases e),fun e=>by have:=e.2.2.1;omega⟩,fun e=>by cases e⟩
  rw [if_neg h3]
  have hsp:r.L=P++{ h with seats:=acc }::[]:=hL
  have hins:insS n acc=acc++[n]:=insS_end fun x hx=>by have:=hacc x hx;omega
  obtain ⟨t2,g2⟩:=tie_tell (h:={ h with seats:=acc }) t g hsp hown hnt ⟨by omega,by omega⟩ (by show (acc.length:Int)<h.many;omega)
  have e2:(Hold.put { h with seats:=acc } n)={ h with seats:=acc++[n] }:=by unfold Hold.put;rw [hins]
  rw [e2] at t2 g2
  have ih:=tie_res l (acc++[n]) n t2 g2 rfl (by rw [List.length_append];simp;omega) (fun x hx=>by
   rcases List.mem_append.1 hx with hx|hx
   ·have:=hacc x hx;omega
   ·rw [List.mem_singleton.1 hx];exact Int.le_refl _) (by omega)
  refine ⟨ih.1.trans ⟨fun e=>⟨fun hn=>hnt (by rw [htk];exact List.mem_append_left _ hn),by omega,by omega,e⟩,fun e=>e.2.2.2⟩,fun e=>?_⟩
  have h7:=ih.2 e
  rw [List.append_assoc] at h7
  exact h7
theorem insH_end {h:Hold}:∀ {P:List Hold},(∀ x∈P,x.owner<h.owner)→insH h P=P++[h]
 |[],_=>rfl
 |x::P,hp=>by
  unfold insH
  rw [if_pos (hp x List.mem_cons_self),insH_end fun y hy=>hp y (List.mem_cons_of_mem _ hy)];rfl
structure AddOk (r:RF) (h:Hold):Prop where
 c:h.cls<r.lims.length
 m:1≤h.many
 n:(h.seats.length:Int)≤h.many
 s:SOk (layN r.rows r.grps) (takenL r.L) h.seats (-1)
 nest:nestOk r.lims (soldL r.lims.length (r.L++[h]))=true
theorem tie_restore {h:Hold} (t:Tie f r) (g:Good r) (hin:HoldIn h) (ho:1≤h.owner) (hlt:∀ x∈r.L,x.owner<h.owner):
  ((restoreF f h).2=true↔AddOk r h)∧((restoreF f h).2=true→Tie (restoreF f h).1 { r with L:=r.L++[h] }∧Good { r with L:=r.L++[h] }):=by
 obtain ⟨t1,t2,t3⟩:=tie_take t g h.owner h.cls h.many
 have hno:¬ (getO h.owner r.L).isSome=true:=by
  rw [getO_none.2 fun x hx e=>by have:=hlt x hx;omega];simp
 have hio:=hin.o
 have er:rtakeF r h.owner h.cls h.many=if (sellT r.lims r.sold h.cls h.many).2=0 then ({ r with L:=insH ⟨h.owner,h.cls,h.many,[]⟩ r.L },0) else (r,(sellT r.lims r.sold h.cls h.many).2):=by
  unfold rtakeF;rw [if_neg (by omega),if_neg hno]
 have hins:insH ⟨h.owner,h.cls,h.many,[]⟩ r.L=r.L++[⟨h.owner,h.cls,h.many,[]⟩]:=insH_end hlt
 have hsl:∀ {L:List Hold},h.cls<r.lims.length→r.sold.set h.cls.toNat (r.sold.getD h.cls.toNat 0 + h.many)=soldL r.lims.length (r.L++[h]):=fun hc=>soldL_put (List.perm_append_comm) hin.c.1 hc
 unfold restoreF
 rw [t1,er]
 by_cases hs:(sellT r.lims r.sold h.cls h.many).2=0
 ·rw [if_pos hs]
  rw [er,if_pos hs,hins] at t2 t3
  obtain ⟨e1,e2,c0,c1,hm⟩:=nest_sell hs
  rw [e1,hsl (L:=r.L) c1] at e2
  rw [if_neg (by simp)]
  by_cases hn:(h.seats.length:Int)>h.many
  ·rw [if_pos hn]
   exact ⟨⟨fun e=>(by cases e),fun e=>by have:=e.n;omega⟩,fun e=>by cases e⟩
  rw [if_neg hn]
  have hlay:layN f.rows f.grps=layN r.rows r.grps:=by rw [t.rows,t.grps]
  rw [hlay]
  obtain ⟨i1,i2⟩:=tie_res (P:=r.L) (h:=h) h.seats [] (-1) t2 t3 rfl (by simp;omega) (fun x hx=>by cases hx) (by omega)
  refine ⟨i1.trans ⟨fun e=>⟨c1,hm,by omega,e,e2⟩,fun e=>e.s⟩,fun e=>?_⟩
  have h7:=i2 e
  rw [List.nil_append] at h7
  exact h7
 ·rw [if_neg hs,if_pos hs]
  refine ⟨⟨fun e=>(by cases e),fun e=>?_⟩,fun e=>by cases e⟩
  exact absurd (nest_sell_iff g.nest hin.c.1 e.c e.m (by have:=hin.m.2;omega) (by rw [hsl (L:=r.L) e.c];exact e.nest)) hs
theorem fine0_iff {num rows:Int} {grps lims:List Int}:fine0 num rows grps lims=true↔1≤num∧layOk rows grps=true∧limOk lims=true∧lims.getD 0 0=layN rows grps:=by
 unfold fine0
 simp only [Bool.and_eq_true,decide_eq_true_eq,beq_iff_eq]
 constructor
 ·rintro ⟨h1,h2,h3,h4⟩
  exact ⟨by omega,h2,(nestOk_iff.1 h3).1,h4⟩
 ·rintro ⟨h1,h2,h3,h4⟩
  exact ⟨by omega,h2,nest_zero h3,h4⟩
theorem sok_iff {N:Int} {T:List Int}:∀ {l:List Int} {last:Int},SOk N T l last↔∀ k (hk:k<l.length),l[k] ∉ T∧l[k]<N∧(if h:0<k then l[k - 1]<l[k] else last<l[k])
 |[],_=>by simp [SOk]
 |n::l,last=>by
  unfold SOk
  rw [sok_iff (l:=l) (last:=n)]
  constructor
  ·rintro ⟨h1,h2,h3,h4⟩ k hk
   rcases k with _|k
   ·exact ⟨h1,h3,h2⟩
   ·have h5:=h4 k (by simpa using hk)
    refine ⟨h5.1,h5.2.1,?_⟩
    rw [dif_pos (by omega)]
    have h6:=h5.2.2
    rcases k with _|k
    ·exact h6
    ·rw [dif_pos (by omega)] at h6;exact h6
  ·intro h
   have h0:=h 0 (by simp)
   refine ⟨h0.1,h0.2.2,h0.2.1,fun k hk=>?_⟩
   have h5:=h (k + 1) (by simpa using hk)
   refine ⟨h5.1,h5.2.1,?_⟩
   have h6:=h5.2.2
   rw [dif_pos (by omega)] at h6
   rcases k with _|k
   ·exact h6
   ·rw [dif_pos (by omega)];exact h6
structure RawIn (x:Raw):Prop where
 num:x.num≤9999
 hs:∀ h∈x.L,HoldIn h
def Raw.at (x:Raw) (j:Nat):PS:=(x.L.take j).foldl stepD (emptyF x.num x.rows x.grps x.lims,fine0 x.num x.rows x.grps x.lims,0)
def Raw.pre (x:Raw) (j:Nat):RF:=⟨x.num,x.rows,x.grps,x.lims,x.L.take j⟩
def lastO (x:Raw) (j:Nat):Int:=if h:0<j∧j≤x.L.length then x.L[j - 1].owner else 0
theorem at_succ {x:Raw} {j:Nat} (h:j<x.L.length):x.at (j + 1)=stepD (x.at j) x.L[j]:=by
 unfold Raw.at
 rw [List.take_add_one,List.getElem?_eq_getElem h,List.foldl_append];rfl
theorem owR_lt {L:List Hold} {o:Int} (h:OwR L):∀ (hl:0<L.length),L[L.length - 1].owner<o→∀ x∈L,x.owner<o:=fun hl hlast x hx=>by
 obtain ⟨i,hi,rfl⟩:=List.getElem_of_mem hx
 by_cases e:i=L.length - 1
 ·subst e;exact hlast
 ·have:=List.pairwise_iff_getElem.1 h i (L.length - 1) hi (by omega) (by omega)
  omega
theorem okAt_add {x:Raw} (xi:RawIn x) {j:Nat} (hj:j<x.L.length) (hr:∀ y∈x.L.take j,y.owner<x.L[j].owner):
  OkAt x.rf j hj↔(1≤x.L[j].owner∧(∀ h:0<j,x.L[j - 1].owner<x.L[j].owner)∧x.L[j].cls<x.lims.length∧1≤x.L[j].many∧(x.L[j].seats.length:Int)≤x.L[j].many∧SOk (layN x.rows x.grps) (takenL (x.L.take j)) x.L[j].seats (-1)):=by
 have hin:=xi.hs x.L[j] (List.getElem_mem _)
 rw [sok_iff]
 constructor
 ·intro h
  refine ⟨h.o,h.p,h.c,h.m,h.n,fun k hk=>?_⟩
  have h1:=h.s k hk
  refine ⟨fun hm=>h1.1 (List.mem_append_left _ hm),h1.2.1,?_⟩
  split
  ·exact h1.2.2 (by assumption)
  ·have:=hin.s x.L[j].seats[k] (List.getElem_mem _);omega
 ·rintro ⟨h1,h2,h3,h4,h5,h6⟩
  refine ⟨h1,h2,h3,h4,h5,fun k hk=>?_⟩
  have h7:=h6 k hk
  have hrise:∀ (t i:Nat) (hi:i + t<x.L[j].seats.length),0<t→x.L[j].seats[i]'(by omega)<x.L[j].seats[i + t]:=fun t=>by
   induction t with
   |zero=>intro i hi h0;omega
   |succ t ih=>
    intro i hi _
    have h8:=(h6 (i + (t + 1)) hi).2.2
    rw [dif_pos (by omega)] at h8
    by_cases ht:t=0
    ·subst ht;exact h8
    ·have h9:=ih i (by omega) (by omega)
     have h8:x.L[j].seats[i + t]'(by omega)<x.L[j].seats[i + (t + 1)]:=h8
     omega
  refine ⟨fun hm=>?_,h7.2.1,fun h0=>by have h8:=h7.2.2;rw [dif_pos h0] at h8;exact h8⟩
  rcases List.mem_append.1 hm with hm|hm
  ·exact h7.1 hm
  ·obtain ⟨i,hi,he⟩:=List.getElem_of_mem hm
   rw [List.length_take] at hi
   rw [List.getElem_take] at he
   have hk':k<x.L[j].seats.length:=hk
   have hi:i<min k x.L[j].seats.length:=hi
   have he:x.L[j].seats[i]'(by omega)=x.L[j].seats[k]:=he
   have h9:=hrise (k - i) i (by omega) (by omega)
   have e:i + (k - i)=k:=by omega
   simp only [e] at h9
   omega
theorem at_good {x:Raw} (xi:RawIn x):∀ j,j≤x.L.length→(x.at j).2.2=lastO x j∧((x.at j).2.1=true→Tie (x.at j).1 (x.pre j)∧Good (x.pre j)∧∀ i (hi:i<x.L.length),i<j→OkAt x.rf i hi)
 |0,_=>by
  refine ⟨rfl,fun h=>?_⟩
  obtain ⟨h1,h2,h3,h4⟩:=fine0_iff.1 h
  refine ⟨tie_new,⟨⟨h1,xi.num⟩,h2,?_,h4,List.Pairwise.nil,fun h hh=>(by cases hh),List.Pairwise.nil⟩,fun i _ hi=>by omega⟩
  show nestOk _ (soldL _ [])=true
  rw [soldL_nil];exact nest_zero h3
 |j + 1,hj=>by
  have hj1:j<x.L.length:=by omega
  obtain ⟨i1,i2⟩:=at_good xi j (by omega)
  have hlast:lastO x (j + 1)=x.L[j].owner:=by unfold lastO;rw [dif_pos ⟨by omega,hj⟩];rfl
  rw [at_succ hj1,hlast]
  unfold stepD
  by_cases hc:(x.at j).2.1=true∧x.L[j].owner>(x.at j).2.2
  ·rw [if_pos hc]
   refine ⟨rfl,fun h=>?_⟩
   obtain ⟨t,g,hok⟩:=i2 hc.1
   rw [i1] at hc
   have hin:=xi.hs x.L[j] (List.getElem_mem _)
   have hlt:∀ y∈(x.pre j).L,y.owner<x.L[j].owner:=fun y hy=>by
    have hne:0<(x.pre j).L.length:=List.length_pos_iff.2 fun e=>by rw [e] at hy;cases hy
    refine owR_lt g.rise hne ?_ y hy
    have hl:(x.pre j).L.length=j:=by show (x.L.take j).length=j;rw [List.length_take];omega
    have h2:=hc.2
    unfold lastO at h2
    rw [dif_pos ⟨by omega,by omega⟩] at h2
    have h3:(x.pre j).L[(x.pre j).L.length - 1]=x.L[j - 1]:=by
     show (x.L.take j)[(x.L.take j).length - 1]'(by rw [List.length_take];omega)=_
     rw [List.getElem_take]
     congr 1
     rw [List.length_take];omega
    rw [h3];exact h2
   have ho1:1≤x.L[j].owner:=by
    have h2:=hc.2
    unfold lastO at h2
    split at h2
    ·have:=(xi.hs x.L[j - 1] (List.getElem_mem _)).o;omega
    ·omega
   obtain ⟨r1,r2⟩:=tie_restore t g hin ho1 hlt
   have e:{ x.pre j with L:=(x.pre j).L++[x.L[j]] }=x.pre (j + 1):=by
    unfold Raw.pre
    rw [List.take_add_one,List.getElem?_eq_getElem hj1];rfl
   have h5:=r2 h
   rw [e] at h5
   refine ⟨h5.1,h5.2,fun i hi hij=>?_⟩
   by_cases hie:i=j
   ·subst hie
    have ha:=r1.1 h
    refine (okAt_add xi hj1 hlt).2 ⟨ho1,fun h0=>?_,ha.c,ha.m,ha.n,ha.s⟩
    have h2:=hc.2
    unfold lastO at h2
    rw [dif_pos ⟨by omega,by omega⟩] at h2
    exact h2
   ·exact hok i hi (by omega)
  ·rw [if_neg hc]
   exact ⟨rfl,fun h=>by cases h⟩
theorem may_at {x:Raw} (xi:RawIn x) (m:MayP x.rf):∀ j,j≤x.L.length→(x.at j).2.1=true
 |0,_=>fine0_iff.2 ⟨m.num,m.lay,m.lim,m.l0⟩
 |j + 1,hj=>by
  have hj1:j<x.L.length:=by omega
  have ih:=may_at xi m j (by omega)
  obtain ⟨i1,i2⟩:=at_good xi j (by omega)
  obtain ⟨t,g,hok⟩:=i2 ih
  have hin:=xi.hs x.L[j] (List.getElem_mem _)
  have ok:=m.each j hj1
  rw [at_succ hj1]
  have hgt:x.L[j].owner>(x.at j).2.2:=by
   rw [i1]
   unfold lastO
   split
   ·rename_i h;exact ok.p h.1
   ·have:=ok.o;show 0<x.L[j].owner;exact this
  have hlt:∀ y∈(x.pre j).L,y.owner<x.L[j].owner:=fun y hy=>by
   have hne:0<(x.pre j).L.length:=List.length_pos_iff.2 fun e=>by rw [e] at hy;cases hy
   refine owR_lt g.rise hne ?_ y hy
   have hl:(x.pre j).L.length=j:=by show (x.L.take j).length=j;rw [List.length_take];omega
   have h3:(x.pre j).L[(x.pre j).L.length - 1]=x.L[j - 1]:=by
    show (x.L.take j)[(x.L.take j).length - 1]'(by rw [List.length_take];omega)=_
    rw [List.getElem_take]
    congr 1
    rw [List.length_take];omega
   rw [h3];exact ok.p (by omega)
  unfold stepD
  rw [if_pos ⟨ih,hgt⟩]
  refine (tie_restore t g hin ok.o hlt).1.2 ?_
  have ha:=(okAt_add xi hj1 hlt).1 ok
  refine ⟨ha.2.2.1,ha.2.2.2.1,ha.2.2.2.2.1,ha.2.2.2.2.2,?_⟩
  have e:(x.pre j).L++[x.L[j]]=x.L.take (j + 1):=by
   show x.L.take j++_=_
   rw [List.take_add_one,List.getElem?_eq_getElem hj1];rfl
  rw [e]
  show nestOk x.lims (soldL x.lims.length (x.L.take (j + 1)))=true
  refine nest_le m.nest (by show (soldL _ _).length=(soldL _ _).length;rw [soldL_len,soldL_len];rfl) fun k hk=>?_
  have hk:k<x.lims.length:=hk
  show 0≤(soldL x.lims.length (x.L.take (j + 1))).getD k 0∧(soldL x.lims.length (x.L.take (j + 1))).getD k 0≤(soldL x.lims.length x.L).getD k 0
  rw [soldL_getD hk,soldL_getD hk]
  have hmm:∀ y∈x.L,1≤y.many:=fun y hy=>by
   obtain ⟨i,hi,rfl⟩:=List.getElem_of_mem hy
   exact (m.each i hi).m
  refine ⟨cntL_nn fun y hy=>hmm y (List.mem_of_mem_take hy),?_⟩
  have h8:cntL (k:Int) x.L=cntL (k:Int) (x.L.take (j + 1)) + cntL (k:Int) (x.L.drop (j + 1)):=by rw [←cntL_app,List.take_append_drop]
  have h9:=cntL_nn (k:=(k:Int)) (L:=x.L.drop (j + 1)) fun y hy=>hmm y (List.mem_of_mem_drop hy)
  omega
theorem run_at (x:Raw):x.run=x.at x.L.length∧x.rf=x.pre x.L.length:=by
 constructor
 ·unfold Raw.run Raw.at;rw [List.take_length]
 ·unfold Raw.rf Raw.pre;rw [List.take_length]
theorem run_iff {x:Raw} (xi:RawIn x):(x.run.2.1=true↔MayP x.rf)∧(x.run.2.1=true→Tie x.run.1 x.rf∧Good x.rf):=by
 obtain ⟨e1,e2⟩:=run_at x
 have h:=(at_good xi x.L.length (Nat.le_refl _)).2
 rw [←e1,←e2] at h
 refine ⟨⟨fun hr=>?_,fun m=>by rw [e1];exact may_at xi m _ (Nat.le_refl _)⟩,fun hr=>⟨(h hr).1,(h hr).2.1⟩⟩
 obtain ⟨t,g,hok⟩:=h hr
 exact ⟨g.num.1,g.lay,(nestOk_iff.1 g.nest).1,g.l0,fun j hj=>hok j hj hj,g.nest⟩
theorem rawD_in {bs:List Int} (hb:∀ y∈bs,0≤y∧y<256):RawIn (rawD bs):=by
 have hb0:∀ y∈(⟨bs,false⟩:Rd).bs,0≤y∧y<256:=hb
 have h5:=rdNum_bd (most:=600) (nList_bd (most:=8) (each:=10000) (nList_bd (most:=4) (each:=10) (rdNum_bd (most:=60) (rdNum_bd (most:=9999) hb0))))
 exact ⟨(rdNum_val (most:=9999) hb0 (by omega)).2,(readHs_val _ h5).1⟩
theorem dec_tie {bs:List Int} (hb:∀ y∈bs,0≤y∧y<256):(decF bs=none∧¬ (rdWhole (rawR bs).rd=true∧MayP (rawR bs).rf))∨(∃ f,decF bs=some f∧rdWhole (rawR bs).rd=true∧MayP (rawR bs).rf∧Tie f (rawR bs).rf∧Good (rawR bs).rf):=by
 obtain ⟨w1,w2⟩:=raw_whole bs
 obtain ⟨r1,r2⟩:=run_iff (rawD_in hb)
 by_cases h:rdWhole (rawD bs).rd=true∧(rawD bs).run.2.1=true
 ·right
  have e:=w2 h.1
  rw [e]
  exact ⟨_,by unfold decF;rw [if_pos h],h.1,r1.1 h.2,r2 h.2⟩
 ·left
  refine ⟨by unfold decF;rw [if_neg h],fun h2=>h ?_⟩
  rw [w1] at h2
  rw [w2 h2.1] at h2
  exact ⟨h2.1,r1.2 h2.2⟩
end Go.Proofs.YtlplemdmegpoeaaGreatDoor
/- A flight, plain: its bytes are it again. Condition: none. -/
namespace Go.Proofs.YtlplemdmegpoeaaGreatDoor
set_option linter.unusedVariables false
set_option linter.unusedSimpArgs false
open Go Go.VC
theorem rdNum_code {n:Nat} {most:Int} {rest:List Int} (h:n<18446744073709551616) (hm:(n:Int)≤most):rdNum most ⟨numB n++rest,false⟩=((n:Int),⟨rest,false⟩):=by
 unfold rdNum
 rw [if_neg (by simp)]
 dsimp only
 rw [parse_num h]
 dsimp only
 rw [if_pos ⟨rfl,hm⟩,List.drop_left]
theorem rdNum_nums {x most:Int} {rest:List Int} (h0:0≤x) (h1:x≤most) (h2:x<18446744073709551616):rdNum most ⟨numsB [x]++rest,false⟩=(x,⟨rest,false⟩):=by
 obtain ⟨n,rfl⟩:=Int.eq_ofNat_of_zero_le h0
 have e:numsB [(n:Int)]=numB n:=by simp [numsB]
 rw [e]
 exact rdNum_code (by omega) h1
variable {f:PF} {r:RF}
theorem good_in (g:Good r):∀ h∈r.L,HoldIn h:=fun h hh=>by
 have h1:=g.each h hh
 have h2:=g.len.2 h hh
 have h3:=(limOk_iff.1 (nestOk_iff.1 g.nest).1).1.2
 have h4:=(layN_bd r.rows r.grps).2
 have:=h1.owner
 have:=h1.cls
 have:=h1.many
 have:=h1.few
 exact ⟨by omega,by omega,by omega,fun x hx=>by have:=h1.seats x hx;omega,by omega⟩
theorem good_lims (g:Good r):(∀ x∈r.lims,0≤x∧x≤10000)∧1≤r.lims.length∧r.lims.length≤8:=by
 obtain ⟨h1,h2⟩:=limOk_iff.1 (nestOk_iff.1 g.nest).1
 refine ⟨fun x hx=>?_,h1⟩
 obtain ⟨i,hi,rfl⟩:=List.getElem_of_mem hx
 exact (h2 i hi).1
theorem good_small (g:Good r):RSmall r:=by
 obtain ⟨l1,l2,l3⟩:=layOk_iff.1 g.lay
 obtain ⟨m1,m2,m3⟩:=good_lims g
 have hlen:=g.len.1
 have hnum:=g.num
 refine ⟨by omega,by omega,fun x hx=>by have:=l2 x hx;omega,fun x hx=>by have:=m1 x hx;omega,by omega,by omega,fun h hh=>?_,by omega⟩
 have hin:=good_in g h hh
 have:=hin.o
 have:=hin.c
 have:=hin.m
 have:=hin.n
 exact ⟨by omega,by omega,by omega,fun x hx=>by have:=hin.s x hx;omega,by omega⟩
theorem tie_small (t:Tie f r) (g:Good r):FSmall f:=by
 have s:=good_small g
 have b:=t.bounds g
 refine ⟨by rw [t.num];exact s.num,by rw [t.rows];exact s.rows,by rw [t.grps];exact s.grps,by rw [t.lims];exact s.lims,by omega,by omega,by rw [tie_holds t g.rise];exact s.hs,by omega⟩
theorem tie_enc (t:Tie f r) (g:Good r):encF f=rencB r:=by
 unfold encF rencB
 rw [t.num,t.rows,t.grps,t.lims,tie_holds t g.rise]
end Go.Proofs.YtlplemdmegpoeaaGreatDoor
/- Package field: bytes with their length; a reader's Text. Condition: bounds on lengths. -/
namespace Go.Proofs.YtlplemdmegpoeaaGreatDoor
set_option linter.unusedVariables false
set_option linter.unusedSimpArgs false
open Go Go.VC
variable {R:Cx} {Hs Rest:List HP} {w:World}
theorem ftext_spec {s:Sl} {bs:List Int} (hs:Ro R s (b8 bs)) (hl:bs.length≤1099511627776) (hw:Sat R Hs w):
  Gets Tryz.prog 83 #[.slice s.a s.len s.cap] w fun v w'=>∃ t:Sl,v=.slice t.a t.len t.cap∧Sat R (Own t 5 (b8 (textB bs))::Hs) w':=by
 have hlen:s.len=bs.length:=by have:=hs.len;simpa using this
 apply call83
 unfold B83
 rw [wrapU64 (by omega) (by omega),hlen]
 refine (number_spec (by omega) hw).use ?_
 rintro _ w ⟨t,rfl,hw⟩
 refine ⟨t,rfl,?_⟩
 rw [←hlen]
 have hn:=numB_len (n:=bs.length) (by omega)
 have hsrc:Src Tryz.prog 1 47 (.slice s.a s.len s.cap) bs.length (b8 bs) w:=by
  have:=srcRo Tryz.underlying47 hw hs (one_b8 _)
  simpa using this
 refine append_rule elB8 (s:=t) hw hsrc (one_b8 _) (by rw [List.length_map];omega) (by rw [List.length_map];omega) fun s2 w hw=>?_
 exact ⟨s2,rfl,by simpa [b8,textB] using hw⟩
theorem text1_spec {h:Heap} {l bm bo:Nat} {s:Sl} {bs:List Int} {most:Int} (hm:most<9223372036854775808) (hl:bs.length≤1099511627776) (hb:∀ x∈bs,0≤x∧x<256) (hsub:∀ b o,h b=some o→R.m b=some o) (hr:SlR h s (b8 bs))
  (hw:Sat R (lp l s::lp bo ⟨none,0,0⟩::pts bm (.cells [.int .i64 most].toArray 3 (0,0))::Hs) w):
  GetsX Tryz.prog 153 #[.pointer (some ⟨l,0,none⟩),.pointer (some ⟨bm,0,none⟩),.pointer (some ⟨bo,0,none⟩)] w
   (fun ch w'=>ch=amissP∧(∀ n k,parse bs=some (n,false,k)→¬ (0≤most∧n≤most∧n≤(bs.length:Int) - k))∧∃ s',Sat R (lp l s'::lp bo ⟨none,0,0⟩::pts bm (.cells [.int .i64 most].toArray 3 (0,0))::Hs) w')
   (fun v w'=>v=.tuple #[]∧∃ n k s' t,parse bs=some (n,false,k)∧(0≤most∧n≤most∧n≤(bs.length:Int) - k)∧SlR h s' (b8 (bs.drop (k + n.toNat)))∧
    Sat R (lp l s'::lp bo t::Own t 5 (b8 ((bs.drop k).take n.toNat))::pts bm (.cells [.int .i64 most].toArray 3 (0,0))::Hs) w'):=by
 apply call153
 refine (fsize_spec hb hsub hr hw).use ?_ ?_
 rotate_left
 ·rintro _ w ⟨hp,rfl,s',hw⟩
  refine .inr ⟨_,rfl,rfl,?_,s',hw⟩
  intro n k h;rw [hp] at h;cases h
 rintro _ w ⟨n,neg,k,s',hp,rfl,hs',hw⟩
 obtain ⟨n0,n1,k0,k1,k2⟩:=parse_bd hb hp
 have no:(∀ n' k',parse bs=some (n',false,k')→¬ (0≤most∧n'≤most∧n'≤(bs.length:Int) - k'))→∀ {A:Prop} {e:Ending},(e=.panicked amissP)→(e=.returned (.tuple #[])∧A)∨∃ ch,e=.panicked ch∧ch=amissP∧(∀ n k,parse bs=some (n,false,k)→¬ (0≤most∧n≤most∧n≤(bs.length:Int) - k))∧∃ s',Sat R (lp l s'::lp bo ⟨none,0,0⟩::pts bm (.cells [.int .i64 most].toArray 3 (0,0))::Hs) w:=fun h A e he=>
  .inr ⟨_,he,rfl,h,s',hw⟩
 have same:∀ n' k',parse bs=some (n',false,k')→neg=false∧n'=n∧k'=k:=fun n' k' h=>by
  rw [hp] at h
  simp only [Option.some.injEq,Prod.mk.injEq] at h
  exact ⟨h.2.1,h.1.symm,h.2.2.symm⟩
 refine .inl ⟨n,neg,rfl,Br.nb (fun h=>?_) (fun h=>?_)⟩
 rotate_left
 ·refine must_c (fun h=>by cases h) (fun _=>no (fun n' k' h'=>?_) rfl)
  rw [(same n' k' h').1] at h;cases h
 subst h
 have hw2:Sat R (pts bm (.cells [.int .i64 most].toArray 3 (0,0))::lp l s'::lp bo ⟨none,0,0⟩::Hs) w:=hw.arr
 refine NilP.mk rfl ⟨most,At.own (eqS hw2) (by exact ⟨rfl,trivial⟩),Br.d (fun h1=>?_) (fun h1=>?_)⟩
 rotate_left
 ·refine must_c (fun h=>by cases h) (fun _=>no (fun n' k' h' h2=>by omega) rfl)
 refine NilP.mk rfl ⟨most,At.own (eqS hw2) (by exact ⟨rfl,trivial⟩),?_⟩
 rw [wrapU64 (by omega) (by omega)]
 refine Br.d (fun h2=>?_) (fun h2=>?_)
 rotate_left
 ·refine must_c (fun h=>by cases h) (fun _=>no (fun n' k' h' h3=>by have:=(same n' k' h').2.1;omega) rfl)
 have hsl:s'.len=bs.length - k:=by have:=hs'.len;simpa using this
 refine NilP.mk rfl ⟨s',At.own (eqS hw) (by exact ⟨rfl,trivial⟩),?_⟩
 rw [wrapU64 (by omega) (by omega),hsl]
 refine must_c (fun h3=>.inl ⟨rfl,?_⟩) (fun h3=>?_)
 rotate_left
 ·have h3:=of_decide_eq_false h3
  refine no (fun n' k' h' h4=>?_) rfl
  have:=same n' k' h'
  omega
 have h3:=of_decide_eq_true h3
 rw [wrap64 (by omega) (by omega)]
 obtain ⟨m,rfl⟩:=Int.eq_ofNat_of_zero_le n0
 have hm':SlR R.m s' (b8 (bs.drop k)):=hs'.mono hsub
 refine (take_spec (k:=m) hm' hw).use ?_ ?_
 rotate_left
 ·rintro _ w ⟨h4,_⟩
  simp at h4;omega
 rintro _ w ⟨_,rfl,hw⟩
 refine .inl ⟨⟨s'.a,m,s'.cap⟩,rfl,?_⟩
 have ht:SlR R.m ⟨s'.a,m,s'.cap⟩ (b8 ((bs.drop k).take m)):=by
  have:=hm'.take (k:=m) (by simp;omega)
  rwa [←List.map_take] at this
 refine (clone_spec (s:=⟨s'.a,m,s'.cap⟩) (ht.ro (by simp;omega)) (by simp;omega) hw).use ?_
 rintro _ w ⟨t,rfl,hw⟩
 refine .inl ⟨t,rfl,?_⟩
 have hw:Sat R (lp bo ⟨none,0,0⟩::Own t 5 (b8 ((bs.drop k).take m))::lp l (sdrop s' m)::pts bm (.cells [.int .i64 most].toArray 3 (0,0))::Hs) w:=hw.arr
 refine store_rule hw (by kernel_rfl) rfl (by simp [Value.cells]) fun w hw=>?_
 have hw:=hw.re (lp bo t)
 refine ⟨rfl,m,k,sdrop s' m,t,hp,⟨by omega,h2,by omega⟩,?_,?_⟩
 ·have:=hs'.drop (k:=m) (by simp;omega)
  rw [←List.map_drop,List.drop_drop] at this
  exact this
 ·rw [Int.toNat_natCast];exact hw.arr
theorem rtext_spec {r:Nat} {rd:Rd} {most:Int} (hm:most<9223372036854775808) (hl:rd.bs.length≤1099511627776) (hb:∀ x∈rd.bs,0≤x∧x<256) (hw:Sat R (RdAt r rd::Hs) w):
  Gets Tryz.prog 94 #[.pointer (some ⟨r,0,none⟩),.int .i64 most] w fun v w'=>∃ t:Sl,v=.slice t.a t.len t.cap∧Sat R (Own t 5 (b8 (rdText most rd).1)::RdAt r (rdText most rd).2::Hs) w':=by
 apply call94
 refine new_rule hw fun bm w hw=>new_rule hw fun bo w hw=>?_
 have hw:Sat R (RdAt r rd::lp bo ⟨none,0,0⟩::pts bm (.cells [.int .i64 most].toArray 3 (0,0))::Hs) w:=by
  have hw:Sat R (lp bo ⟨none,0,0⟩::pts bm (.cells [.int .i64 most].toArray 3 (0,0))::RdAt r rd::Hs) w:=hw
  exact hw.arr
 refine (reading_spec (α:=(Int × Nat) × Sl) (f:=fun y=>rd.bs.drop (y.1.2 + y.1.1.toNat)) (G:=fun y=>parse rd.bs=some (y.1.1,false,y.1.2)∧(0≤most∧y.1.1≤most∧y.1.1≤(rd.bs.length:Int) - y.1.2)) (N:=∀ n k,parse rd.bs=some (n,false,k)→¬ (0≤most∧n≤most∧n≤(rd.bs.length:Int) - k))
  (Hs1:=fun y=>lp bo y.2::Own y.2 5 (b8 ((rd.bs.drop y.1.2).take y.1.1.toNat))::pts bm (.cells [.int .i64 most].toArray 3 (0,0))::Hs)
  (Hs2:=lp bo ⟨none,0,0⟩::pts bm (.cells [.int .i64 most].toArray 3 (0,0))::Hs) hw ?_).use ?_
 ·intro _ x l s A B w hsub hs hw
  refine CalW.mk (by kernel_rfl) ?_
  have hw2:Sat (R.add x) (lp l s::lp bo ⟨none,0,0⟩::pts bm (.cells [.int .i64 most].toArray 3 (0,0))::A::B::Hs) w:=hw.arr
  refine (text1_spec (h:=x) hm hl hb hsub hs hw2).use ?_ ?_
  ·rintro _ w ⟨rfl,n,k,s',t,hp,hn,hs',hw⟩
   exact .inl ⟨rfl,((n,k),t),s',⟨hp,hn⟩,hs',hw.arr⟩
  ·rintro _ w ⟨rfl,hn,s',hw⟩
   exact .inr ⟨rfl,hn,s',hw.arr⟩
 ·rintro _ w ⟨rfl,h⟩
  refine ⟨rfl,?_⟩
  rcases h with ⟨hbad,hw⟩|⟨hbad,⟨⟨n,k⟩,t⟩,⟨hp,hn⟩,hw⟩|⟨hbad,hno,hw⟩
  ·have hw:Sat R (lp bo ⟨none,0,0⟩::RdAt r rd::pts bm (.cells [.int .i64 most].toArray 3 (0,0))::Hs) w:=hw.swap
   refine ⟨⟨none,0,0⟩,At.own (eqS hw) (by exact ⟨rfl,trivial⟩),?_⟩
   unfold rdText
   rw [if_pos hbad]
   exact ⟨_,rfl,Own.nil (hw.drop.cons fun _ h=>h.drop)⟩
  ·have hw:Sat R (lp bo t::Own t 5 (b8 ((rd.bs.drop k).take n.toNat))::RdAt r ⟨rd.bs.drop (k + n.toNat),false⟩::pts bm (.cells [.int .i64 most].toArray 3 (0,0))::Hs) w:=hw.arr
   refine ⟨t,At.own (eqS hw) (by exact ⟨rfl,trivial⟩),?_⟩
   unfold rdText
   rw [if_neg (by rw [hbad];simp),hp]
   simp only
   rw [if_pos ⟨trivial,hn⟩]
   exact ⟨_,rfl,hw.drop.cons fun _ h=>h.cons fun _ h=>h.drop⟩
  ·have hw:Sat R (lp bo ⟨none,0,0⟩::RdAt r ⟨rd.bs,true⟩::pts bm (.cells [.int .i64 most].toArray 3 (0,0))::Hs) w:=hw.swap
   refine ⟨⟨none,0,0⟩,At.own (eqS hw) (by exact ⟨rfl,trivial⟩),?_⟩
   have e:rdText most rd=([],⟨rd.bs,true⟩):=by
    unfold rdText
    rw [if_neg (by rw [hbad];simp)]
    cases hp:parse rd.bs with
    |none=>rfl
    |some p=>
     obtain ⟨n,neg,k⟩:=p
     simp only
     rw [if_neg]
     rintro ⟨rfl,h⟩
     exact hno n k hp h
   rw [e]
   exact ⟨_,rfl,Own.nil (hw.drop.cons fun _ h=>h.drop)⟩
theorem rdText_bd {most:Int} {rd:Rd} (hb:∀ x∈rd.bs,0≤x∧x<256):(∀ x∈(rdText most rd).1,0≤x∧x<256)∧(∀ x∈(rdText most rd).2.bs,0≤x∧x<256):=by
 unfold rdText
 split
 ·exact ⟨by simp,hb⟩
 ·split
  ·split
   ·exact ⟨fun x hx=>hb x (List.mem_of_mem_drop (List.mem_of_mem_take hx)),fun x hx=>hb x (List.mem_of_mem_drop hx)⟩
   ·exact ⟨by simp,hb⟩
  ·exact ⟨by simp,hb⟩
theorem rdText_len {most:Int} {rd:Rd}:(rdText most rd).1.length≤rd.bs.length∧(rdText most rd).2.bs.length≤rd.bs.length:=by
 unfold rdText
 split
 ·simp
 ·split
  ·split
   ·simp;omega
   ·simp
  ·simp
theorem rdNum_len {most:Int} {rd:Rd}:(rdNum most rd).2.bs.length≤rd.bs.length:=by
 unfold rdNum
 split
 ·simp
 ·split
  ·split
   ·simp
   ·simp
  ·simp
end Go.Proofs.YtlplemdmegpoeaaGreatDoor
/- Floats, plain, part 4: how any two stand to each other, by one integer each. No program. No condition. -/
namespace Go.VC
set_option linter.unusedVariables false
set_option linter.unusedSimpArgs false
open Ieee
def bigF:Int:=2 ^ 2200
def valD:Datum→Option Int
 | .nan ..=>none
 | .infinity s=>some (if s then -bigF else bigF)
 | .number s m i=>some (signed s m (i + 1074).toNat)
theorem signed_eq (s:Bool) (m k:Nat):signed s m k=(if s then -1 else 1) * ((m:Int) * 2 ^ k):=by
 unfold signed
 cases s<;>simp [Nat.shiftLeft_eq]
theorem cmp_scale {a b:Int} {c:Int} (h:0<c):compare (a * c) (b * c)=compare a b:=by
 simp only [compare,compareOfLessAndEq]
 have h1:a * c<b * c↔a<b:=⟨fun h2=>Int.lt_of_mul_lt_mul_right h2 (by omega),fun h2=>Int.mul_lt_mul_of_pos_right h2 h⟩
 have h2:a * c=b * c↔a=b:=⟨fun h3=>Int.eq_of_mul_eq_mul_right (by omega) h3,fun h3=>by rw [h3]⟩
 simp only [h1,h2]
theorem signed_up (s:Bool) (m k c:Nat):signed s m (k + c)=signed s m k * 2 ^ c:=by
 rw [signed_eq,signed_eq,Int.pow_add]
 rw [Int.mul_assoc,Int.mul_assoc]
theorem read_bd {x:Nat} {s:Bool} {m:Nat} {i:Int} (h:double.read x=.number s m i):(-1074≤i∧i≤971)∧m<2 ^ 53:=by
 unfold Format.read at h
 simp only [dbl_binade,dbl_inf,dbl_least,dbl_sign] at h
 split at h
 ·rename_i hr
  simp only [Datum.number.injEq] at h
  obtain ⟨_,rfl,rfl⟩:=h
  exact ⟨⟨by omega,by omega⟩,by omega⟩
 ·split at h
  ·rename_i hr
   simp only [Datum.number.injEq] at h
   obtain ⟨_,rfl,rfl⟩:=h
   refine ⟨⟨by omega,?_⟩,by omega⟩
   have:x % 9223372036854775808 / 4503599627370496≤2046:=by omega
   omega
  ·split at h<;>cases h
theorem int_pow (n:Nat):(2:Int) ^ n=((2 ^ n:Nat):Int):=by rw [Int.natCast_pow];rfl
theorem big_pos (n:Nat):(0:Int)<2 ^ n:=Int.pow_pos (by omega)
theorem pow_bd {m k n N:Nat} (hm:m<2 ^ 53) (hk:k≤n) (hN:53 + n<N):m * 2 ^ k<2 ^ N:=by
 have h1:m * 2 ^ k≤2 ^ 53 * 2 ^ n:=Nat.mul_le_mul (by omega) (Nat.pow_le_pow_right (by omega) hk)
 rw [←Nat.pow_add] at h1
 exact Nat.lt_of_le_of_lt h1 (Nat.pow_lt_pow_right (by omega) hN)
theorem val_bd {x:Nat} {s:Bool} {m:Nat} {i:Int} (h:double.read x=.number s m i): -bigF<signed s m (i + 1074).toNat∧signed s m (i + 1074).toNat<bigF:=by
 obtain ⟨⟨h1,h2⟩,h3⟩:=read_bd h
 have hk:(i + 1074).toNat≤2045:=by omega
 have hp:m * 2 ^ (i + 1074).toNat<2 ^ 2200:=pow_bd (N:=2200) (n:=2045) h3 hk (by omega)
 have hp2:((m * 2 ^ (i + 1074).toNat:Nat):Int)<bigF:=by
  unfold bigF
  rw [int_pow]
  exact Int.ofNat_lt.2 hp
 have hb:(0:Int)<bigF:=by unfold bigF;exact big_pos 2200
 have e:signed s m (i + 1074).toNat=if s then -((m * 2 ^ (i + 1074).toNat:Nat):Int) else ((m * 2 ^ (i + 1074).toNat:Nat):Int):=by
  unfold signed;rw [Nat.shiftLeft_eq]
 rw [e]
 generalize m * 2 ^ (i + 1074).toNat=n at *
 cases s<;>simp<;>omega
theorem ord_val (x y:Nat):double.order x y=match valD (double.read x),valD (double.read y) with
  |some a,some b=>some (compare a b)
  |_,_=>none:=by
 have hb:(0:Int)<bigF:=by unfold bigF;exact big_pos 2200
 have lt_cmp:∀ a b:Int,a<b→compare a b=.lt:=fun a b h=>by simp only [compare,compareOfLessAndEq,if_pos h]
 have gt_cmp:∀ a b:Int,b<a→compare a b=.gt:=fun a b h=>by simp only [compare,compareOfLessAndEq];rw [if_neg (by omega),if_neg (by omega)]
 have eq_cmp:∀ a:Int,compare a a=.eq:=fun a=>by simp [compare,compareOfLessAndEq]
 unfold Format.order
 cases hx:double.read x with
 |nan s t=>cases double.read y<;>rfl
 |infinity s=>
  cases hy:double.read y with
  |nan=>rfl
  |infinity t=>
   show some (compare t.toNat s.toNat)=some (compare (if s then -bigF else bigF) (if t then -bigF else bigF))
   cases s<;>cases t
   ·simp only [Bool.false_eq_true,if_false];rw [eq_cmp];rfl
   ·simp only [Bool.false_eq_true,if_false,if_true];rw [gt_cmp _ _ (by omega)];rfl
   ·simp only [Bool.false_eq_true,if_false,if_true];rw [lt_cmp _ _ (by omega)];rfl
   ·simp only [if_true];rw [eq_cmp];rfl
  |number t n j=>
   have:=val_bd hy
   show some (if s then Ordering.lt else .gt)=some (compare (if s then -bigF else bigF) (signed t n (j + 1074).toNat))
   cases s
   ·simp only [Bool.false_eq_true,if_false];rw [gt_cmp _ _ (by omega)]
   ·simp only [if_true];rw [lt_cmp _ _ (by omega)]
 |number s m i=>
  cases hy:double.read y with
  |nan=>rfl
  |infinity t=>
   have:=val_bd hx
   show some (if t then Ordering.gt else .lt)=some (compare (signed s m (i + 1074).toNat) (if t then -bigF else bigF))
   cases t
   ·simp only [Bool.false_eq_true,if_false];rw [lt_cmp _ _ (by omega)]
   ·simp only [if_true];rw [gt_cmp _ _ (by omega)]
  |number t n j=>
   obtain ⟨⟨i1,i2⟩,_⟩:=read_bd hx
   obtain ⟨⟨j1,j2⟩,_⟩:=read_bd hy
   show some (compare (signed s m (i - min i j).toNat) (signed t n (j - min i j).toNat))=some (compare (signed s m (i + 1074).toNat) (signed t n (j + 1074).toNat))
   have e1:(i + 1074).toNat=(i - min i j).toNat + (min i j + 1074).toNat:=by omega
   have e2:(j + 1074).toNat=(j - min i j).toNat + (min i j + 1074).toNat:=by omega
   rw [e1,e2,signed_up,signed_up,cmp_scale (Int.pow_pos (by omega))]
def kvF (x:Nat):Int:=match valD (double.read x) with|none=>-bigF - 1|some v=>v
def nanF (x:Nat):Bool:=(valD (double.read x)).isNone
theorem kv_bd {x:Nat} (h:nanF x=false): -bigF≤kvF x:=by
 have hb:(0:Int)<bigF:=by unfold bigF;exact big_pos 2200
 unfold nanF at h
 unfold kvF
 cases hr:double.read x with
 |nan s t=>rw [hr] at h;cases h
 |infinity s=>
  show -bigF≤if s then -bigF else bigF
  split<;>omega
 |number s m i=>have:=(val_bd hr).1;show -bigF≤signed s m (i + 1074).toNat;omega
theorem kv_nan {x:Nat} (h:nanF x=true):kvF x=-bigF - 1:=by
 unfold nanF at h
 unfold kvF
 cases hv:valD (double.read x) with
 |none=>rfl
 |some v=>rw [hv] at h;cases h
theorem ord_lt {x y:Nat} (hx:nanF x=false) (hy:nanF y=false):(double.order x y==some .lt)=decide (kvF x<kvF y)∧(double.order x y==some .eq)=decide (kvF x=kvF y)∧(double.order x y==some .gt)=decide (kvF y<kvF x):=by
 rw [ord_val]
 unfold nanF at hx hy
 unfold kvF
 cases hvx:valD (double.read x) with
 |none=>rw [hvx] at hx;cases hx
 |some a=>
  cases hvy:valD (double.read y) with
  |none=>rw [hvy] at hy;cases hy
  |some b=>
   dsimp only
   simp only [compare,compareOfLessAndEq]
   by_cases h1:a<b
   ·rw [if_pos h1]
    refine ⟨by rw [decide_eq_true h1];rfl,by rw [decide_eq_false (by omega)];rfl,by rw [decide_eq_false (by omega)];rfl⟩
   ·rw [if_neg h1]
    by_cases h2:a=b
    ·rw [if_pos h2]
     refine ⟨by rw [decide_eq_false h1];rfl,by rw [decide_eq_true h2];rfl,by rw [decide_eq_false (by omega)];rfl⟩
    ·rw [if_neg h2]
     refine ⟨by rw [decide_eq_false h1];rfl,by rw [decide_eq_false h2];rfl,by rw [decide_eq_true (by omega)];rfl⟩
theorem ord_none {x y:Nat} (h:nanF x=true∨nanF y=true):double.order x y=none:=by
 rw [ord_val]
 unfold nanF at h
 cases hvx:valD (double.read x) with
 |none=>rfl
 |some a=>
  cases hvy:valD (double.read y) with
  |none=>rfl
  |some b=>rw [hvx,hvy] at h;simp at h
theorem ord_self (x:Nat):(double.order x x==some .eq)=!nanF x:=by
 cases h:nanF x with
 |true=>rw [ord_none (.inl h)];rfl
 |false=>rw [(ord_lt h h).2.1];simp
def rankF (a b:Nat):Int:=if kvF a<kvF b then -1 else if kvF a=kvF b then 0 else 1
end Go.VC
/- Who waits, plainly: their order, putting in, taking out, the first that fits. No condition. -/
namespace Go.VC
set_option linter.unusedVariables false
set_option linter.unusedSimpArgs false
def keyF (b:Nat):Nat:=if b<9223372036854775808 then b + 9223372036854775808 else 18446744073709551615 - b
def ofF (k:Nat):Nat:=if 9223372036854775808≤k then k - 9223372036854775808 else 18446744073709551615 - k
theorem of_key {b:Nat} (h:b<18446744073709551616):ofF (keyF b)=b:=by
 unfold ofF keyF
 split<;>split<;>omega
theorem key_of {k:Nat} (h:k<18446744073709551616):keyF (ofF k)=k:=by
 unfold ofF keyF
 split<;>split<;>omega
theorem key_lt {b:Nat} (h:b<18446744073709551616):keyF b<18446744073709551616:=by
 unfold keyF
 split<;>omega
theorem of_lt {k:Nat} (h:k<18446744073709551616):ofF k<18446744073709551616:=by
 unfold ofF
 split<;>omega
structure Wt where
 id:Int
 cls:Int
 many:Int
 time:Int
 sc:Nat
deriving DecidableEq
def Wt.Ok (w:Wt):Prop:=(1≤w.id∧w.id≤28629151)∧(0≤w.cls∧w.cls≤7)∧(1≤w.many∧w.many≤600)∧(0≤w.time∧w.time≤1099511627776)
instance (w:Wt):Decidable w.Ok:=by unfold Wt.Ok;infer_instance
def Wt.ahead (a b:Wt):Bool:=if kvF a.sc=kvF b.sc then (if a.time=b.time then decide (a.id<b.id) else decide (a.time<b.time)) else decide (kvF b.sc<kvF a.sc)
theorem ahead_iff {a b:Wt}:a.ahead b=true↔kvF b.sc<kvF a.sc∨kvF a.sc=kvF b.sc∧(a.time<b.time∨a.time=b.time∧a.id<b.id):=by
 unfold Wt.ahead
 split
 ·split
  ·simp;omega
  ·simp;omega
 ·simp;omega
theorem ahead_trans {a b c:Wt} (h1:a.ahead b=true) (h2:b.ahead c=true):a.ahead c=true:=by
 rw [ahead_iff] at *;omega
theorem ahead_asym {a b:Wt} (h:a.ahead b=true):b.ahead a=false:=by
 cases h2:b.ahead a with
 |false=>rfl
 |true=>rw [ahead_iff] at h h2;omega
theorem ahead_tot {a b:Wt} (h:a.id≠b.id) (h1:a.ahead b=false):b.ahead a=true:=by
 rw [ahead_iff]
 have:¬ a.ahead b=true:=by rw [h1];simp
 rw [ahead_iff] at this
 omega
def Wt.ord (a b:Wt):Int:=if rankF b.sc a.sc≠0 then rankF b.sc a.sc else if a.time<b.time then -1 else if b.time<a.time then 1 else if a.id<b.id then -1 else if b.id<a.id then 1 else 0
theorem ord_neg {a b:Wt}:a.ord b<0↔a.ahead b=true:=by
 rw [ahead_iff]
 unfold Wt.ord rankF
 repeat' split
 all_goals first|omega|(simp at *;omega)
theorem ord_pos {a b:Wt}:0<a.ord b↔b.ahead a=true:=by
 rw [ahead_iff]
 unfold Wt.ord rankF
 repeat' split
 all_goals first|omega|(simp at *;omega)
def QSt (q:List Wt):Prop:=q.Pairwise fun a b=>a.ahead b=true
def QIds (q:List Wt):Prop:=q.Pairwise fun a b=>a.id≠b.id
structure QOk (q:List Wt):Prop where
 st:QSt q
 ids:QIds q
 ok:∀ w∈q,w.Ok
 fl:∀ w∈q,w.sc<18446744073709551616
 len:q.length≤200
def insQ (w:Wt) (q:List Wt):List Wt:=q.takeWhile (fun a=>a.ahead w)++w::q.dropWhile (fun a=>a.ahead w)
theorem insQ_cons (w a:Wt) (q:List Wt):insQ w (a::q)=if a.ahead w then a::insQ w q else w::a::q:=by
 unfold insQ
 rw [List.takeWhile_cons,List.dropWhile_cons]
 split<;>rfl
theorem insQ_mem {w x:Wt}:∀ {q:List Wt},x∈insQ w q↔x=w∨x∈q
 |[]=>by simp [insQ]
 |a::q=>by
  rw [insQ_cons]
  split
  ·rw [List.mem_cons,insQ_mem,List.mem_cons]
   constructor
   ·rintro (h|h|h)<;>simp [h]
   ·rintro (h|h|h)<;>simp [h]
  ·rw [List.mem_cons]
theorem insQ_len {w:Wt}:∀ {q:List Wt},(insQ w q).length=q.length + 1
 |[]=>rfl
 |a::q=>by
  rw [insQ_cons]
  split
  ·rw [List.length_cons,insQ_len,List.length_cons]
  ·rfl
theorem insQ_st {w:Wt}:∀ {q:List Wt},QSt q→(∀ x∈q,x.id≠w.id)→QSt (insQ w q)
 |[],_,_=>List.Pairwise.cons (fun _ h=>(by cases h)) List.Pairwise.nil
 |a::q,h,hid=>by
  have h1:=List.pairwise_cons.1 h
  rw [insQ_cons]
  split
  ·rename_i ha
   refine List.Pairwise.cons (fun x hx=>?_) (insQ_st h1.2 fun x hx=>hid x (by simp [hx]))
   rcases insQ_mem.1 hx with rfl|hx
   ·exact ha
   ·exact h1.1 x hx
  ·rename_i ha
   have hwa:w.ahead a=true:=ahead_tot (hid a (by simp)) (by simpa using ha)
   refine List.Pairwise.cons (fun x hx=>?_) h
   rcases List.mem_cons.1 hx with rfl|hx
   ·exact hwa
   ·exact ahead_trans hwa (h1.1 x hx)
theorem insQ_ids {w:Wt}:∀ {q:List Wt},QIds q→(∀ x∈q,x.id≠w.id)→QIds (insQ w q)
 |[],_,_=>List.Pairwise.cons (fun _ h=>(by cases h)) List.Pairwise.nil
 |a::q,h,hid=>by
  have h1:=List.pairwise_cons.1 h
  rw [insQ_cons]
  split
  ·refine List.Pairwise.cons (fun x hx=>?_) (insQ_ids h1.2 fun x hx=>hid x (by simp [hx]))
   rcases insQ_mem.1 hx with rfl|hx
   ·exact hid a (by simp)
   ·exact h1.1 x hx
  ·refine List.Pairwise.cons (fun x hx=>?_) h
   exact fun e=>hid x hx e.symm
theorem insQ_end {w:Wt}:∀ {q:List Wt},(∀ x∈q,x.ahead w=true)→insQ w q=q++[w]
 |[],_=>rfl
 |a::q,h=>by rw [insQ_cons,if_pos (h a (by simp)),insQ_end fun x hx=>h x (by simp [hx])];rfl
theorem insQ_at {w:Wt} {q:List Wt} {i:Nat} (hst:QSt q) (h1:i=0∨∃ h:i - 1<q.length,q[i - 1].ahead w=true) (h2:∀ h:i<q.length,q[i].ahead w=false) (hi:i≤q.length):insQ w q=q.take i++w::q.drop i:=by
 induction q generalizing i with
 |nil=>cases i with
  |zero=>rfl
  |succ n=>simp at hi
 |cons a q ih=>
  have hp:=List.pairwise_cons.1 hst
  rw [insQ_cons]
  cases i with
  |zero=>rw [if_neg (by have:=h2 (by simp);simp at this;simp [this])];rfl
  |succ n=>
   have ha:a.ahead w=true:=by
    rcases h1 with h1|⟨hl,h1⟩
    ·omega
    ·cases n with
     |zero=>simpa using h1
     |succ m=>
      have hm:m<q.length:=by simp at hl;omega
      exact ahead_trans (hp.1 q[m] (List.getElem_mem hm)) (by simpa using h1)
   rw [if_pos ha,ih hp.2 ?_ (fun hl=>by have:=h2 (by simp;omega);simpa using this) (by simp at hi;exact hi)]
   ·rfl
   ·cases n with
    |zero=>exact .inl rfl
    |succ m=>
     refine .inr ⟨by simp at hi;omega,?_⟩
     rcases h1 with h1|⟨hl,h1⟩
     ·omega
     ·simpa using h1
def hasQ (id:Int) (q:List Wt):Bool:=q.any fun w=>decide (w.id=id)
def qadd (q:List Wt) (w:Wt):List Wt × Int:=
 if ¬ w.Ok then (q,1) else if hasQ w.id q then (q,7) else if 200≤q.length then (q,3) else (insQ w q,0)
def delQ (id:Int):List Wt→List Wt
 |[]=>[]
 |w::q=>if w.id=id then q else w::delQ id q
theorem hasQ_iff {id:Int} {q:List Wt}:hasQ id q=true↔∃ w∈q,w.id=id:=by
 unfold hasQ
 simp
theorem hasQ_no {id:Int} {q:List Wt}:hasQ id q=false↔∀ w∈q,w.id≠id:=by
 unfold hasQ
 simp
def fitsQ (left:List Int) (w:Wt):Bool:=decide (w.cls<left.length) && decide (w.many≤left.getD w.cls.toNat 0)
def qfirst (q:List Wt) (left:List Int):Option Wt:=q.find? (fitsQ left)
end Go.VC

/- Commands and replies as bytes, plainly: there and back. No condition. -/
namespace Go.Proofs.YtlplemdmegpoeaaGreatDoor
set_option linter.unusedVariables false
set_option linter.unusedSimpArgs false
open Go Go.VC
def rdEach {α:Type} (one:Rd→α × Rd):Nat→Rd→List α × Rd
 |0,r=>([],r)
 |n + 1,r=>((one r).1::(rdEach one n (one r).2).1,(rdEach one n (one r).2).2)
theorem rdEach_succ {α:Type} (one:Rd→α × Rd) (n:Nat) (r:Rd):rdEach one (n + 1) r=((one r).1::(rdEach one n (one r).2).1,(rdEach one n (one r).2).2):=rfl
theorem rdEach_len {α:Type} (one:Rd→α × Rd):∀ (n:Nat) (r:Rd),(rdEach one n r).1.length=n
 |0,_=>rfl
 |n + 1,r=>by rw [rdEach_succ,List.length_cons,rdEach_len one n]
theorem rdEach_snoc {α:Type} (one:Rd→α × Rd):∀ (k:Nat) (r:Rd),rdEach one (k + 1) r=((rdEach one k r).1++[(one (rdEach one k r).2).1],(one (rdEach one k r).2).2)
 |0,_=>rfl
 |k + 1,r=>by
  rw [rdEach_succ,rdEach_snoc one k (one r).2]
  rfl
theorem rdEach_inv {α:Type} {one:Rd→α × Rd} {P:Rd→Prop} {Q:α→Prop} (h:∀ r,P r→Q (one r).1∧P (one r).2):∀ (n:Nat) {r:Rd},P r→(∀ x∈(rdEach one n r).1,Q x)∧P (rdEach one n r).2
 |0,_,hr=>⟨fun _ hx=>(by cases hx),hr⟩
 |n + 1,r,hr=>by
  have h1:=h r hr
  have h2:=rdEach_inv h n h1.2
  refine ⟨fun x hx=>?_,h2.2⟩
  rcases List.mem_cons.1 hx with rfl|hx
  ·exact h1.1
  ·exact h2.1 x hx
theorem rdEach_back {α:Type} {one:Rd→α × Rd} {code:α→List Int} {rest:List Int}:∀ {l:List α},(∀ x∈l,∀ more,one ⟨code x++more,false⟩=(x,⟨more,false⟩))→rdEach one l.length ⟨(l.map code).flatten++rest,false⟩=(l,⟨rest,false⟩)
 |[],_=>rfl
 |x::l,h=>by
  rw [List.length_cons,rdEach_succ,List.map_cons,List.flatten_cons,List.append_assoc,h x (by simp)]
  dsimp only
  rw [rdEach_back fun y hy=>h y (by simp [hy])]
def Bytes (l:List Int):Prop:=∀ x∈l,0≤x∧x<256
def fltRd (r:Rd):Nat × Rd:=(ofF (rdNum 18446744073709551615 r).1.toNat,(rdNum 18446744073709551615 r).2)
def fltB (x:Nat):List Int:=numB (keyF x)
theorem rdText_code {d rest:List Int} {most:Int} (hl:d.length<1000000) (hm:(d.length:Int)≤most):rdText most ⟨textB d++rest,false⟩=(d,⟨rest,false⟩):=by
 unfold rdText textB
 rw [if_neg (by simp)]
 dsimp only
 rw [List.append_assoc,parse_num (by omega)]
 dsimp only
 have hn:=numB_len (n:=d.length) (by omega)
 rw [if_pos ⟨rfl,by omega,hm,by simp only [List.length_append];omega⟩,List.drop_left,Int.toNat_natCast,List.take_left,←List.drop_drop,List.drop_left,List.drop_left]
theorem fltRd_code {x:Nat} (hx:x<18446744073709551616) {rest:List Int}:fltRd ⟨fltB x++rest,false⟩=(x,⟨rest,false⟩):=by
 have:=key_lt hx
 unfold fltRd fltB
 rw [rdNum_code this (by omega)]
 dsimp only
 rw [Int.toNat_natCast,of_key hx]
theorem rdText_most {most:Int} {rd:Rd} (hb:Bytes rd.bs):(rdText most rd).1.length≤most.toNat:=by
 unfold rdText
 split
 ·simp
 ·split
  ·split
   ·rename_i h;rw [List.length_take];omega
   ·simp
  ·simp
theorem fltRd_bd {rd:Rd} (hb:Bytes rd.bs):Bytes (fltRd rd).2.bs:=rdNum_bd hb
theorem fltRd_lt {rd:Rd} (hb:Bytes rd.bs):(fltRd rd).1<18446744073709551616:=by
 have:=rdNum_val (most:=18446744073709551615) hb (by omega)
 exact of_lt (by omega)
structure Cm where
 kind:Int
 pnr:ByteArray
 flt:Int
 cls:Int
 many:Int
 time:Int
 sc:Nat
 lab:ByteArray
 rows:Int
 grps:List Int
 parts:List Nat
def nn (n:Int):Int:=max n 0
theorem nn_id {n:Int} (h:0≤n):nn n=n:=by unfold nn;omega
end Go.Proofs.YtlplemdmegpoeaaGreatDoor
/- Lists by keys. No condition. -/
namespace Go.VC
set_option linter.unusedVariables false
set_option linter.unusedSimpArgs false
section
variable {α:Type} {k:α→Int}
def KRise (k:α→Int) (l:List α):Prop:=l.Pairwise fun a b=>k a<k b
def kget (k:α→Int) (n:Int) (l:List α):Option α:=l.find? fun x=>decide (k x=n)
theorem KRise.uniq {l:List α} (h:KRise k l) {a b:α} (ha:a∈l) (hb:b∈l) (e:k a=k b):a=b:=by
 induction l with
 |nil=>cases ha
 |cons x l ih=>
  have hp:=List.pairwise_cons.1 h
  rcases List.mem_cons.1 ha with e1|h1
  ·rcases List.mem_cons.1 hb with e2|h2
   ·rw [e1,e2]
   ·have:=hp.1 b h2;rw [e1] at e;omega
  ·rcases List.mem_cons.1 hb with e2|h2
   ·have:=hp.1 a h1;rw [e2] at e;omega
   ·exact ih hp.2 h1 h2
theorem kget_some {n:Int} {l:List α} {x:α} (h:kget k n l=some x):x∈l∧k x=n:=
 ⟨List.mem_of_find?_eq_some h,by have:=List.find?_some h;simpa using this⟩
theorem kget_none {n:Int} {l:List α}:kget k n l=none↔∀ x∈l,k x≠n:=by
 unfold kget
 rw [List.find?_eq_none]
 simp
theorem kget_iff {n:Int} {l:List α} (h:KRise k l) {x:α}:kget k n l=some x↔x∈l∧k x=n:=by
 refine ⟨kget_some,fun ⟨h1,h2⟩=>?_⟩
 cases hg:kget k n l with
 |none=>exact absurd h2 (kget_none.1 hg x h1)
 |some y=>
  have:=kget_some hg
  rw [h.uniq this.1 h1 (by omega)]
theorem krise_snoc {l:List α} {x:α} (h:KRise k l) (hx:∀ y∈l,k y<k x):KRise k (l++[x]):=by
 refine List.pairwise_append.2 ⟨h,List.pairwise_singleton _ _,fun a ha b hb=>?_⟩
 rw [List.mem_singleton.1 hb]
 exact hx a ha
theorem KRise.ne {l:List α} (h:KRise k l):l.Pairwise fun a b=>k a≠k b:=h.imp fun hab e=>by omega
end
theorem nodup_le {l m:List Int} (h:l.Nodup) (hs:∀ x∈l,x∈m):l.length≤m.length:=by
 induction l generalizing m with
 |nil=>simp
 |cons a l ih=>
  have hp:=List.nodup_cons.1 h
  have ha:=hs a (by simp)
  have h2:=ih (m:=m.erase a) hp.2 fun x hx=>by
   refine (List.mem_erase_of_ne ?_).2 (hs x (by simp [hx]))
   rintro rfl
   exact hp.1 hx
  have h3:=List.length_erase_of_mem ha
  have h4:0<m.length:=List.length_pos_of_mem ha
  rw [List.length_cons]
  omega
end Go.VC
/- Numbers and texts that were read: their bytes. No condition. -/
namespace Go.VC
set_option linter.unusedVariables false
set_option linter.unusedSimpArgs false
theorem dig_valI:∀ (k:Nat) (d:List Int),d.length=k→(∀ x∈d,0≤x∧x<256)→d.head?≠some 0→dig (valI 0 d).toNat=d
 |0,d,hl,_,_=>by
  rw [List.length_eq_zero_iff.1 hl]
  exact dig_zero
 |k + 1,d,hl,hb,hh=>by
  have hne:d≠[]:=by rintro rfl;simp at hl
  obtain ⟨d',b,rfl⟩:∃ d' b,d=d'++[b]:=⟨d.dropLast,d.getLast hne,(List.dropLast_concat_getLast hne).symm⟩
  have hb':∀ x∈d',0≤x∧x<256:=fun x hx=>hb x (by simp [hx])
  have hb0:=hb b (by simp)
  have hv:=valI_nn (acc:=0) (Int.le_refl _) hb'
  rw [valI_snoc]
  have hz:(valI 0 d' * 256 + b).toNat≠0:=by
   cases d' with
   |nil=>
    have:b≠0:=by simpa using hh
    rw [valI_nil];omega
   |cons x l=>
    have hx0:x≠0:=by simpa using hh
    have hxb:=hb' x (by simp)
    intro h0
    have hv0:valI 0 (x::l)=0:=by omega
    rw [valI_cons] at hv0
    have mono:∀ (l:List Int) (a:Int),0<a→(∀ y∈l,0≤y∧y<256)→0<valI a l:=by
     intro l
     induction l with
     |nil=>intro a ha _;exact ha
     |cons y l ih=>
      intro a ha hy
      rw [valI_cons]
      have:=hy y (by simp)
      exact ih _ (by omega) fun z hz=>hy z (by simp [hz])
    have:=mono l (0 * 256 + x) (by omega) fun y hy=>hb' y (by simp [hy])
    omega
  rw [dig_pos hz]
  have e1:(valI 0 d' * 256 + b).toNat / 256=(valI 0 d').toNat:=by omega
  have e2:(((valI 0 d' * 256 + b).toNat % 256:Nat):Int)=b:=by omega
  rw [e1,e2]
  simp at hl
  rw [dig_valI k d' hl hb' ?_]
  cases d' with
  |nil=>simp
  |cons x l=>simpa using hh
theorem parse_out {l:List Int} {n:Int} {k:Nat} (hb:∀ x∈l,0≤x∧x<256) (h:parse l=some (n,false,k)):l=numB n.toNat++l.drop k:=by
 unfold parse at h
 split at h
 ·cases h
 ·rename_i c rest
  simp only at h
  by_cases hc16:16≤c
  ·rw [if_pos hc16] at h
   generalize (c - 16).toNat=v at h
   split at h
   ·simp only [Option.some.injEq,Prod.mk.injEq] at h
    obtain ⟨_,hneg,_⟩:=h
    simp [hc16] at hneg
   ·cases h
  rw [if_neg hc16] at h
  generalize hw:c.toNat=w at h
  split at h
  ·rename_i hc
   simp only [Option.some.injEq,Prod.mk.injEq] at h
   obtain ⟨hn,_,hk⟩:=h
   obtain ⟨_,h8,hr,hz,hnz⟩:=hc
   have hc0:=hb c (by simp)
   subst hn
   subst hk
   have e:dig (valI 0 (rest.take w)).toNat=rest.take w:=by
    refine dig_valI _ _ rfl (fun x hx=>hb x (List.mem_cons_of_mem _ (List.mem_of_mem_take hx))) ?_
    cases rest with
    |nil=>simp
    |cons x r=>
     by_cases h0:w=0
     ·rw [h0];simp
     ·have:=hnz h0
      obtain ⟨v,rfl⟩:∃ v,w=v + 1:=⟨w - 1,by omega⟩
      rw [List.take_succ_cons]
      simpa using this
   unfold numB
   rw [e,List.length_take,Nat.min_eq_left hr]
   show c::rest=(((w:Nat):Int)::List.take w rest)++List.drop w rest
   rw [List.cons_append,List.take_append_drop,←hw,Int.toNat_of_nonneg hc0.1]
  ·cases h
theorem rdNum_out {most:Int} {r:Rd} (hb:∀ x∈r.bs,0≤x∧x<256) (h:(rdNum most r).2.bad=false):r.bad=false∧r.bs=numB (rdNum most r).1.toNat++(rdNum most r).2.bs:=by
 unfold rdNum at *
 split at h
 ·rename_i hr;rw [hr] at h;cases h
 ·rename_i hr
  refine ⟨by simpa using hr,?_⟩
  rw [if_neg hr]
  split at h
  ·rename_i n neg k hp
   split at h
   ·rename_i hc
    rw [if_pos hc]
    rw [hc.1] at hp
    exact parse_out hb hp
   ·cases h
  ·cases h
theorem rdText_out {most:Int} {r:Rd} (hb:∀ x∈r.bs,0≤x∧x<256) (h:(rdText most r).2.bad=false):r.bad=false∧r.bs=textB (rdText most r).1++(rdText most r).2.bs:=by
 unfold rdText at *
 split at h
 ·rename_i hr;rw [hr] at h;cases h
 ·rename_i hr
  refine ⟨by simpa using hr,?_⟩
  rw [if_neg hr]
  split at h
  ·rename_i n neg k hp
   split at h
   ·rename_i hc
    rw [if_pos hc]
    rw [hc.1] at hp
    have h1:=parse_out hb hp
    have h2:=parse_bd hb hp
    obtain ⟨_,_,_,h3⟩:=hc
    have hl:((r.bs.drop k).take n.toNat).length=n.toNat:=by
     rw [List.length_take,List.length_drop];omega
    unfold textB
    rw [hl,List.append_assoc,←List.drop_drop,List.take_append_drop]
    exact h1
   ·cases h
  ·cases h
end Go.VC
/- Who waits, as bytes: there and back; what Decode tells. No condition. -/
namespace Go.Proofs.YtlplemdmegpoeaaGreatDoor
set_option linter.unusedVariables false
set_option linter.unusedSimpArgs false
open Go Go.VC
def wtB (w:Wt):List Int:=numsB [w.id]++(numsB [w.cls]++(numsB [w.many]++(numsB [w.time]++fltB w.sc)))
def qB (q:List Wt):List Int:=numsB [(q.length:Int)]++(q.map wtB).flatten
def wtRd (r:Rd):Wt × Rd:=
 let a:=rdNum 28629151 r
 let b:=rdNum 7 a.2
 let c:=rdNum 600 b.2
 let d:=rdNum 1099511627776 c.2
 let e:=fltRd d.2
 (⟨a.1,b.1,c.1,d.1,e.1⟩,e.2)
theorem wt_back {w:Wt} (h:w.Ok) (hf:w.sc<18446744073709551616) (more:List Int):wtRd ⟨wtB w++more,false⟩=(w,⟨more,false⟩):=by
 obtain ⟨⟨a1,a2⟩,⟨b1,b2⟩,⟨c1,c2⟩,d1,d2⟩:=h
 unfold wtRd wtB
 simp only [List.append_assoc]
 rw [rdNum_nums (by omega) (by omega) (by omega)]
 dsimp only
 rw [rdNum_nums (by omega) (by omega) (by omega)]
 dsimp only
 rw [rdNum_nums (by omega) (by omega) (by omega)]
 dsimp only
 rw [rdNum_nums (by omega) (by omega) (by omega)]
 dsimp only
 rw [fltRd_code hf]
theorem wtRd_bd {r:Rd} (hb:Bytes r.bs):Bytes (wtRd r).2.bs:=fltRd_bd (rdNum_bd (rdNum_bd (rdNum_bd (rdNum_bd hb))))
theorem wtRd_fl {r:Rd} (hb:Bytes r.bs):(wtRd r).1.sc<18446744073709551616:=fltRd_lt (rdNum_bd (rdNum_bd (rdNum_bd (rdNum_bd hb))))
theorem wtRd_bad {r:Rd} (h:r.bad=true):(wtRd r).2=r:=by
 unfold wtRd fltRd
 simp only [rdNum_bad h]
theorem fltRd_out {r:Rd} (hb:Bytes r.bs) (h:(fltRd r).2.bad=false):r.bad=false∧r.bs=fltB (fltRd r).1++(fltRd r).2.bs:=by
 have h1:=rdNum_out hb h
 have h2:=rdNum_val (most:=18446744073709551615) hb (by omega)
 refine ⟨h1.1,?_⟩
 show _=numB (keyF (ofF _))++_
 rw [key_of (by omega)]
 exact h1.2
theorem numsB_out {most:Int} {r:Rd} (hb:Bytes r.bs) (h:(rdNum most r).2.bad=false):r.bad=false∧r.bs=numsB [(rdNum most r).1]++(rdNum most r).2.bs:=by
 have h1:=rdNum_out hb h
 refine ⟨h1.1,?_⟩
 rw [show numsB [(rdNum most r).1]=numB (rdNum most r).1.toNat by simp [numsB]]
 exact h1.2
theorem wtRd_out {r:Rd} (hb:Bytes r.bs) (h:(wtRd r).2.bad=false):r.bad=false∧r.bs=wtB (wtRd r).1++(wtRd r).2.bs:=by
 have b1:Bytes (rdNum 28629151 r).2.bs:=rdNum_bd hb
 have b2:Bytes (rdNum 7 (rdNum 28629151 r).2).2.bs:=rdNum_bd b1
 have b3:Bytes (rdNum 600 (rdNum 7 (rdNum 28629151 r).2).2).2.bs:=rdNum_bd b2
 have b4:Bytes (rdNum 1099511627776 (rdNum 600 (rdNum 7 (rdNum 28629151 r).2).2).2).2.bs:=rdNum_bd b3
 have h5:=fltRd_out b4 h
 have h4:=numsB_out b3 h5.1
 have h3:=numsB_out b2 h4.1
 have h2:=numsB_out b1 h3.1
 have h1:=numsB_out hb h2.1
 refine ⟨h1.1,?_⟩
 have e:r.bs=numsB [(wtRd r).1.id]++(numsB [(wtRd r).1.cls]++(numsB [(wtRd r).1.many]++(numsB [(wtRd r).1.time]++(fltB (wtRd r).1.sc++(wtRd r).2.bs)))):=by
  refine h1.2.trans ?_
  rw [h2.2,h3.2,h4.2,h5.2]
  rfl
 rw [e]
 unfold wtB
 simp only [List.append_assoc]
theorem rdEach_out {α:Type} {one:Rd→α × Rd} {code:α→List Int} (hbd:∀ r,Bytes r.bs→Bytes (one r).2.bs) (ho:∀ r,Bytes r.bs→(one r).2.bad=false→r.bad=false∧r.bs=code (one r).1++(one r).2.bs):
  ∀ (n:Nat) {r:Rd},Bytes r.bs→(rdEach one n r).2.bad=false→r.bad=false∧r.bs=((rdEach one n r).1.map code).flatten++(rdEach one n r).2.bs
 |0,r,_,h=>⟨h,rfl⟩
 |n + 1,r,hb,h=>by
  have h2:=rdEach_out hbd ho n (hbd r hb) h
  have h1:=ho r hb h2.1
  refine ⟨h1.1,?_⟩
  rw [rdEach_succ]
  dsimp only
  rw [List.map_cons,List.flatten_cons,List.append_assoc,←h2.2]
  exact h1.2
structure QRight (q:List Wt):Prop where
 st:QSt q
 ids:QIds q
 ok:∀ w∈q,w.Ok
theorem QRight.pre {a b:List Wt} (h:QRight (a++b)):QRight a:=
 ⟨(List.pairwise_append.1 h.st).1,(List.pairwise_append.1 h.ids).1,fun w hw=>h.ok w (by simp [hw])⟩
theorem QRight.nil:QRight []:=⟨List.Pairwise.nil,List.Pairwise.nil,fun _ h=>(by cases h)⟩
theorem QRight.snoc {q:List Wt} {w:Wt} (h:QRight q) (hw:w.Ok) (hi:∀ x∈q,x.id≠w.id) (ha:∀ x∈q,x.ahead w=true):QRight (q++[w]):=by
 refine ⟨List.pairwise_append.2 ⟨h.st,List.pairwise_singleton _ _,fun a ha' b hb=>?_⟩,List.pairwise_append.2 ⟨h.ids,List.pairwise_singleton _ _,fun a ha' b hb=>?_⟩,fun x hx=>?_⟩
 ·rw [List.mem_singleton.1 hb];exact ha a ha'
 ·rw [List.mem_singleton.1 hb];exact hi a ha'
 ·rcases List.mem_append.1 hx with hx|hx
  ·exact h.ok x hx
  ·rw [List.mem_singleton.1 hx];exact hw
theorem QRight.last {q:List Wt} {w:Wt} (h:QRight (q++[w])):w.Ok∧(∀ x∈q,x.id≠w.id)∧∀ x∈q,x.ahead w=true:=
 ⟨h.ok w (by simp),fun x hx=>(List.pairwise_append.1 h.ids).2.2 x hx w (by simp),fun x hx=>(List.pairwise_append.1 h.st).2.2 x hx w (by simp)⟩
def qRaw (bs:List Int):List Wt × Rd:=rdEach wtRd (rdNum 200 ⟨bs,false⟩).1.toNat (rdNum 200 ⟨bs,false⟩).2
def QDec (bs:List Int):Prop:=rdWhole (qRaw bs).2=true∧QRight (qRaw bs).1
theorem qRaw_bd {bs:List Int} (hb:Bytes bs):(∀ w∈(qRaw bs).1,w.sc<18446744073709551616)∧Bytes (qRaw bs).2.bs:=
 rdEach_inv (one:=wtRd) (P:=fun r=>Bytes r.bs) (Q:=fun w=>w.sc<18446744073709551616) (fun _ hr=>⟨wtRd_fl hr,wtRd_bd hr⟩) (rdNum 200 ⟨bs,false⟩).1.toNat (r:=(rdNum 200 ⟨bs,false⟩).2) (rdNum_bd (rd:=⟨bs,false⟩) hb)
theorem qRaw_len {bs:List Int} (hb:Bytes bs):(qRaw bs).1.length≤200:=by
 have:=rdNum_val (most:=200) (rd:=⟨bs,false⟩) hb (by omega)
 show (rdEach wtRd _ _).1.length≤200
 rw [rdEach_len]
 omega
theorem QDec.ok {bs:List Int} (hb:Bytes bs) (h:QDec bs):QOk (qRaw bs).1:=⟨h.2.st,h.2.ids,h.2.ok,(qRaw_bd hb).1,qRaw_len hb⟩
theorem whole_nil {r:Rd} (h:rdWhole r=true):r=⟨[],false⟩:=by
 unfold rdWhole at h
 cases r with
 |mk bs bad=>
  simp at h
  rw [h.1,h.2]
theorem qRaw_code {bs:List Int} (hb:Bytes bs) (h:rdWhole (qRaw bs).2=true):bs=qB (qRaw bs).1:=by
 have h0:=whole_nil h
 have h2:=rdEach_out (code:=wtB) (fun r hr=>wtRd_bd hr) (fun r hr=>wtRd_out hr) (rdNum 200 ⟨bs,false⟩).1.toNat (rdNum_bd (rd:=⟨bs,false⟩) hb) (by show (qRaw bs).2.bad=false;rw [h0])
 have h1:=numsB_out (r:=⟨bs,false⟩) hb h2.1
 have hv:=rdNum_val (most:=200) (rd:=⟨bs,false⟩) hb (by omega)
 have e:bs=numsB [(rdNum 200 ⟨bs,false⟩).1]++(((qRaw bs).1.map wtB).flatten++(qRaw bs).2.bs):=h1.2.trans (by rw [h2.2];rfl)
 rw [h0,List.append_nil] at e
 have hl:((qRaw bs).1.length:Int)=(rdNum 200 ⟨bs,false⟩).1:=by
  show ((rdEach wtRd _ _).1.length:Int)=_
  rw [rdEach_len]
  omega
 unfold qB
 rw [hl]
 exact e
theorem qB_back {q:List Wt} (hl:q.length≤200) (ok:∀ w∈q,w.Ok) (fl:∀ w∈q,w.sc<18446744073709551616):qRaw (qB q)=(q,⟨[],false⟩):=by
 have e0:rdNum 200 ⟨qB q,false⟩=((q.length:Int),⟨(q.map wtB).flatten,false⟩):=rdNum_nums (by omega) (by omega) (by omega)
 have e:=rdEach_back (one:=wtRd) (code:=wtB) (l:=q) (rest:=[]) fun w hw more=>wt_back (ok w hw) (fl w hw) more
 rw [List.append_nil] at e
 unfold qRaw
 rw [e0]
 dsimp only
 rw [Int.toNat_natCast,e]
theorem qB_inj {q q':List Wt} (h1:q.length≤200∧(∀ w∈q,w.Ok)∧∀ w∈q,w.sc<18446744073709551616) (h2:q'.length≤200∧(∀ w∈q',w.Ok)∧∀ w∈q',w.sc<18446744073709551616) (h:qB q=qB q'):q=q':=by
 have a:=qB_back h1.1 h1.2.1 h1.2.2
 have b:=qB_back h2.1 h2.2.1 h2.2.2
 rw [h,b] at a
 exact (congrArg Prod.fst a).symm
def insAll (l:List Wt):List Wt:=l.foldl (fun q w=>insQ w q) []
theorem insAll_snoc (l:List Wt) (w:Wt):insAll (l++[w])=insQ w (insAll l):=by simp [insAll]
theorem insAll_mem {l:List Wt}:∀ x,x∈insAll l↔x∈l:=by
 have:∀ (l q:List Wt) x,x∈l.foldl (fun q w=>insQ w q) q↔x∈q∨x∈l:=by
  intro l
  induction l with
  |nil=>intro q x;simp
  |cons a l ih=>
   intro q x
   rw [List.foldl_cons,ih,insQ_mem,List.mem_cons]
   constructor
   ·rintro ((h|h)|h)<;>simp [h]
   ·rintro (h|h|h)<;>simp [h]
 intro x
 unfold insAll
 rw [this]
 simp
theorem insAll_len (l:List Wt):(insAll l).length=l.length:=by
 have:∀ (l q:List Wt),(l.foldl (fun q w=>insQ w q) q).length=q.length + l.length:=by
  intro l
  induction l with
  |nil=>intro q;simp
  |cons a l ih=>intro q;rw [List.foldl_cons,ih,insQ_len,List.length_cons];omega
 unfold insAll
 rw [this]
 simp
theorem insAll_st {l:List Wt} (h:QIds l):QSt (insAll l)∧QIds (insAll l):=by
 have:∀ (l q:List Wt),QSt q→QIds q→QIds (q++l)→QSt (l.foldl (fun q w=>insQ w q) q)∧QIds (l.foldl (fun q w=>insQ w q) q):=by
  intro l
  induction l with
  |nil=>intro q h1 h2 _;exact ⟨h1,h2⟩
  |cons a l ih=>
   intro q h1 h2 h3
   have hp:=List.pairwise_append.1 h3
   have hq:∀ x∈q,x.id≠a.id:=fun x hx=>hp.2.2 x hx a (by simp)
   have hc:=List.pairwise_cons.1 hp.2.1
   rw [List.foldl_cons]
   refine ih _ (insQ_st h1 hq) (insQ_ids h2 hq) (List.pairwise_append.2 ⟨insQ_ids h2 hq,hc.2,fun x hx y hy=>?_⟩)
   rcases insQ_mem.1 hx with rfl|hx
   ·exact hc.1 y hy
   ·exact hp.2.2 x hx y (by simp [hy])
 exact this l [] List.Pairwise.nil List.Pairwise.nil h
theorem insAll_right {l:List Wt} (h:QSt l):insAll l=l:=by
 have:∀ (l q:List Wt),QSt (q++l)→l.foldl (fun q w=>insQ w q) q=q++l:=by
  intro l
  induction l with
  |nil=>intro q _;simp
  |cons a l ih=>
   intro q h
   have hp:=List.pairwise_append.1 h
   rw [List.foldl_cons,insQ_end fun x hx=>hp.2.2 x hx a (by simp),ih _ (by simpa using h)]
   simp
 exact this l [] h
end Go.Proofs.YtlplemdmegpoeaaGreatDoor

/- The program's flight alone, told by the document's; alike; how the laws begin. Condition: bounds. -/
namespace Go.Proofs.YtlplemdmegpoeaaGreatDoor
set_option linter.unusedVariables false
set_option linter.unusedSimpArgs false
open Go Go.VC
variable {R R':Cx} {Hs Rest:List HP} {w:World}
def LoneAt (p:Nat) (r:RF):HP:=exs fun f:PF=>Star [pur (Tie f r∧Good r),FlightAt p f]
theorem Sat.lone {p:Nat} {r:RF}:Sat R (LoneAt p r::Hs) w↔∃ f,(Tie f r∧Good r)∧Sat R (FlightAt p f::Hs) w:=by
 unfold LoneAt
 rw [Sat.exs]
 constructor
 ·rintro ⟨f,h⟩
  obtain ⟨h1,h2⟩:=Sat.pur.1 (Sat.star.1 h)
  exact ⟨f,h1,h2⟩
 ·rintro ⟨f,h1,h2⟩
  exact ⟨f,Sat.star.2 (Sat.pur.2 ⟨h1,h2⟩)⟩
section
variable {p:Nat} {r:RF}
theorem lone_holds (hw:Sat R (LoneAt p r::Hs) w):Gets Tryz.prog 134 #[.pointer (some ⟨p,0,none⟩)] w fun v w'=>∃ t:Sl,v=.slice t.a t.len t.cap∧Sat R (HoldsL t r.L::LoneAt p r::Hs) w':=by
 obtain ⟨f,⟨t,g⟩,hw⟩:=Sat.lone.1 hw
 have b:=t.bounds g
 refine (holds_fspec (t.nodK g.rise) (fun k hk=>by have:=b.2.2.2.2.2.2 k hk;omega) (by omega) (fun e he=>by have:=b.2.2.2.2.2.1 e he;omega) hw).use ?_
 rintro _ w ⟨s,rfl,hw⟩
 rw [tie_holds t g.rise] at hw
 exact ⟨_,rfl,s,rfl,hw.cons fun _ h=>Sat.lone.2 ⟨_,⟨t,g⟩,h⟩⟩
theorem lone_left (hw:Sat R (LoneAt p r::Hs) w):Gets Tryz.prog 55 #[.pointer (some ⟨p,0,none⟩)] w fun v w'=>∃ t:Sl,v=.slice t.a t.len t.cap∧Sat R (Own t 3 (intsI (rleftsF r))::LoneAt p r::Hs) w':=by
 obtain ⟨f,⟨t,g⟩,hw⟩:=Sat.lone.1 hw
 have b:=t.bounds g
 refine (left_fspec (by omega) (by omega) hw).use ?_
 rintro _ w ⟨s,rfl,hw⟩
 rw [tie_left t] at hw
 exact ⟨_,rfl,s,rfl,hw.cons fun _ h=>Sat.lone.2 ⟨_,⟨t,g⟩,h⟩⟩
theorem lone_number (hw:Sat R (LoneAt p r::Hs) w):Gets Tryz.prog 160 #[.pointer (some ⟨p,0,none⟩)] w fun v w'=>v=.int .i64 r.num∧Sat R (LoneAt p r::Hs) w':=by
 obtain ⟨f,⟨t,g⟩,hw⟩:=Sat.lone.1 hw
 refine (fnumber_spec hw).use ?_
 rintro _ w ⟨rfl,hw⟩
 exact ⟨_,rfl,by rw [t.num],Sat.lone.2 ⟨_,⟨t,g⟩,hw⟩⟩
theorem lone_encode (hw:Sat R (LoneAt p r::Hs) w):Gets Tryz.prog 64 #[.pointer (some ⟨p,0,none⟩)] w fun v w'=>∃ t:Sl,v=.slice t.a t.len t.cap∧Sat R (Own t 5 (b8 (rencB r))::LoneAt p r::Hs) w':=by
 obtain ⟨f,⟨t,g⟩,hw⟩:=Sat.lone.1 hw
 have b:=t.bounds g
 refine (encode_fspec (tie_small t g) (t.nodK g.rise) (fun k hk=>by have:=b.2.2.2.2.2.2 k hk;omega) (fun e he=>by have:=b.2.2.2.2.2.1 e he;omega) hw).use ?_
 rintro _ w ⟨s,rfl,hw⟩
 rw [tie_enc t g] at hw
 exact ⟨_,rfl,s,rfl,hw.cons fun _ h=>Sat.lone.2 ⟨_,⟨t,g⟩,h⟩⟩
end
theorem u8s:Tryz.prog.underlying 47=some (.slice 5):=Tryz.underlying47
end Go.Proofs.YtlplemdmegpoeaaGreatDoor


/- FlightUnseats, FlightBack. Condition: bounds. -/
namespace Go.Proofs.YtlplemdmegpoeaaGreatDoor
set_option linter.unusedVariables false
set_option linter.unusedSimpArgs false
open Go Go.VC
variable {R R':Cx} {Hs Rest:List HP} {w:World}
theorem taken_nd {r:RF} (g:Good r):(takenL r.L).Nodup:=by
 have key:∀ L:List Hold,(L.Pairwise fun a b=>∀ x∈a.seats,x ∉ b.seats)→(∀ h∈L,Rise h.seats)→(takenL L).Nodup:=fun L=>by
  induction L with
  |nil=>exact fun _ _=>List.nodup_nil
  |cons h L ih=>
   intro hp hr
   obtain ⟨h1,h2⟩:=List.pairwise_cons.1 hp
   show (h.seats++takenL L).Nodup
   rw [List.nodup_append]
   refine ⟨?_,ih h2 fun x hx=>hr x (List.mem_cons_of_mem _ hx),fun a ha b hb e=>?_⟩
   ·rw [List.nodup_iff_pairwise_ne]
    exact (rise_iff.1 (hr h List.mem_cons_self)).imp fun h=>by omega
   ·subst e
    obtain ⟨y,hy,hyb⟩:=mem_taken.1 hb
    exact h1 y hy a ha hyb
 exact key r.L g.apart fun h hh=>(g.each h hh).rise
end Go.Proofs.YtlplemdmegpoeaaGreatDoor
/- The book, plainly: what each command does. No condition. -/
namespace Go.Proofs.YtlplemdmegpoeaaGreatDoor
set_option linter.unusedVariables false
set_option linter.unusedSimpArgs false
open Go Go.VC
open Classical
noncomputable section
structure Pl where
 r:RF
 q:List Wt
abbrev Pl.n (p:Pl):Int:=p.r.num
structure Bk where
 id:Int
 flt:Int
 cls:Int
 many:Int
 state:Int
 till:Int
structure Book where
 now:Int
 next:Int
 fl:List Pl
 L:List Bk
def Book.at (b:Book) (n:Int):Option Pl:=kget Pl.n n b.fl
def newBook:Book:=⟨0,1,[],[]⟩
def old (now:Int) (x:Bk):Bool:=decide (x.state=1) && decide (x.till≤now)
def plB (p:Pl):List Int:=textB (rencB p.r)++textB (qB p.q)
def bkB (x:Bk):List Int:=numsB [x.id]++(numsB [x.flt]++(numsB [x.cls]++(numsB [x.many]++(numsB [x.state]++numsB [x.till]))))
def saveB (b:Book):List Int:=
 numsB [b.now]++(numsB [b.next]++(numsB [(b.fl.length:Int)]++((b.fl.map plB).flatten++(numsB [(b.L.length:Int)]++(b.L.map bkB).flatten))))
def HasP (p:Pl) (x:Bk):Prop:=
 if x.state=3 then (∃ w∈p.q,w.id=x.id∧w.cls=x.cls∧w.many=x.many)∧x.cls<p.r.lims.length
 else ∃ h∈p.r.L,h.owner=x.id∧h.cls=x.cls∧h.many=x.many
structure BkOk (next:Int) (x:Bk):Prop where
 id:1≤x.id∧x.id<next
 flt:0≤x.flt∧x.flt≤9999
 cls:0≤x.cls∧x.cls≤9999
 many:0≤x.many∧x.many≤9999
 state:1≤x.state∧x.state≤3
 till:0≤x.till∧x.till≤1099511627776
 free:x.state≠1→x.till=0
structure LocP (L:List Bk) (p:Pl):Prop where
 has:∀ x∈L,x.flt=p.n→HasP p x
 backQ:∀ w∈p.q,∃ x∈L,x.id=w.id∧x.flt=p.n∧x.state=3
 backH:∀ h∈p.r.L,∃ x∈L,x.id=h.owner∧x.flt=p.n∧x.state≠3
structure Core (b:Book):Prop where
 now:0≤b.now∧b.now≤1099511627776
 next:1≤b.next∧b.next≤28629151
 good:∀ p∈b.fl,Good p.r
 qok:∀ p∈b.fl,QOk p.q
 nums:KRise Pl.n b.fl
 few:b.fl.length≤8
 ids:KRise Bk.id b.L
 each:∀ x∈b.L,BkOk b.next x
 many:b.L.length≤300
 there:∀ x∈b.L,∃ p∈b.fl,p.n=x.flt
 loc:∀ p∈b.fl,LocP b.L p
def Timely (b:Book):Prop:=∀ x∈b.L,x.state=1→b.now<x.till
def NoFit (p:Pl):Prop:=qfirst p.q (rleftsF p.r)=none
structure BookOk (b:Book):Prop where
 core:Core b
 time:Timely b
 nofit:∀ p∈b.fl,NoFit p
theorem core_new:Core newBook:=
 ⟨⟨by decide,by decide⟩,⟨by decide,by decide⟩,fun _ h=>(by cases h),fun _ h=>(by cases h),List.Pairwise.nil,by decide,List.Pairwise.nil,fun _ h=>(by cases h),by decide,fun _ h=>(by cases h),fun _ h=>(by cases h)⟩
theorem ok_new:BookOk newBook:=⟨core_new,fun _ h=>(by cases h),fun _ h=>(by cases h)⟩
theorem at_some {b:Book} {n:Int} {p:Pl} (h:b.at n=some p):p∈b.fl∧p.n=n:=kget_some h
theorem at_iff {b:Book} (c:Core b) {n:Int} {p:Pl}:b.at n=some p↔p∈b.fl∧p.n=n:=kget_iff c.nums
end
end Go.Proofs.YtlplemdmegpoeaaGreatDoor
/- What a flight's steps do to what is left, and to who has what. No condition. -/
namespace Go.Proofs.YtlplemdmegpoeaaGreatDoor
set_option linter.unusedVariables false
set_option linter.unusedSimpArgs false
open Go Go.VC
variable {r:RF} {o c m:Int}
theorem lefts_len (r:RF):(rleftsF r).length=r.lims.length:=by simp [rleftsF]
end Go.Proofs.YtlplemdmegpoeaaGreatDoor
/- The book, plainly: what holds of it, behind each step. No condition. -/
namespace Go.Proofs.YtlplemdmegpoeaaGreatDoor
set_option linter.unusedVariables false
set_option linter.unusedSimpArgs false
open Go Go.VC
variable {b:Book} {n:Int} {p:Pl} {w:Wt} {x:Bk}
structure Kept (n:Int) (b b':Book):Prop where
 now:b'.now=b.now
 next:b'.next=b.next
 keys:b'.fl.map Pl.n=b.fl.map Pl.n
 others:∀ q∈b'.fl,q.n=n∨q∈b.fl
 ids:b'.L.map Bk.id=b.L.map Bk.id
 bk:∀ y∈b'.L,∃ x∈b.L,y.id=x.id∧y.flt=x.flt∧y.cls=x.cls∧y.many=x.many∧y.till=x.till
theorem Kept.refl (n:Int) (b:Book):Kept n b b:=⟨rfl,rfl,rfl,fun _ h=>.inr h,rfl,fun y hy=>⟨y,hy,rfl,rfl,rfl,rfl,rfl⟩⟩
theorem Kept.trans {b1 b2 b3:Book} (h1:Kept n b1 b2) (h2:Kept n b2 b3):Kept n b1 b3:=
 ⟨h2.now.trans h1.now,h2.next.trans h1.next,h2.keys.trans h1.keys,fun q hq=>by
  rcases h2.others q hq with h|h
  ·exact .inl h
  ·exact h1.others q h,h2.ids.trans h1.ids,fun y hy=>by
  obtain ⟨x,hx,a1,a2,a3,a4,a5⟩:=h2.bk y hy
  obtain ⟨z,hz,c1,c2,c3,c4,c5⟩:=h1.bk x hx
  exact ⟨z,hz,by omega,by omega,by omega,by omega,by omega⟩⟩
end Go.Proofs.YtlplemdmegpoeaaGreatDoor



/- The book, plainly: its bytes, and what is loaded of them. No condition. -/
namespace Go.Proofs.YtlplemdmegpoeaaGreatDoor
set_option linter.unusedVariables false
set_option linter.unusedSimpArgs false
open Go Go.VC
open Classical
noncomputable section
variable {b:Book} {n:Int} {p:Pl} {w:Wt} {x:Bk} {r:RF}
def decR (bs:List Int):Option RF:=if rdWhole (rawR bs).rd=true∧MayP (rawR bs).rf then some (rawR bs).rf else none
def decQ (bs:List Int):Option (List Wt):=if QDec bs then some (qRaw bs).1 else none
def decPl (f q:List Int):Option Pl:=match decR f,decQ q with
 |some r,some l=>some ⟨r,l⟩
 |_,_=>none
def plRd (r:Rd):Option Pl × Rd:=(decPl (rdText 65536 r).1 (rdText 65536 (rdText 65536 r).2).1,(rdText 65536 (rdText 65536 r).2).2)
def plsRd:Nat→Rd→Option (List Pl × Rd)
 |0,r=>some ([],r)
 |n + 1,r=>match (plRd r).1 with
  |none=>none
  |some p=>(plsRd n (plRd r).2).map fun x=>(p::x.1,x.2)
def bkRd (r:Rd):Bk × Rd:=
 let a:=rdNum 28629151 r
 let f:=rdNum 9999 a.2
 let c:=rdNum 9999 f.2
 let m:=rdNum 9999 c.2
 let s:=rdNum 3 m.2
 let t:=rdNum 1099511627776 s.2
 (⟨a.1,f.1,c.1,m.1,s.1,t.1⟩,t.2)
def things (l:List Pl):Nat:=(l.map fun p=>p.r.L.length + p.q.length).sum
structure BkMay (b:Book) (x:Bk):Prop where
 id:1≤x.id∧x.id<b.next
 state:1≤x.state
 held:x.state=1→b.now<x.till
 free:x.state≠1→x.till=0
 has:∃ p,b.at x.flt=some p∧HasP p x
structure MayB (b:Book):Prop where
 next:1≤b.next
 nums:KRise Pl.n b.fl
 ids:KRise Bk.id b.L
 each:∀ x∈b.L,BkMay b x
 things:things b.fl=b.L.length
def rawB (bs:List Int):Option (Book × Rd):=
 let a:=rdNum 1099511627776 ⟨bs,false⟩
 let n:=rdNum 28629151 a.2
 let k:=rdNum 8 n.2
 match plsRd k.1.toNat k.2 with
 |none=>none
 |some y=>
  let m:=rdNum 300 y.2
  let z:=rdEach bkRd m.1.toNat m.2
  some (⟨a.1,n.1,y.1,z.1⟩,z.2)
def loadB (bs:List Int):Option Book:=match rawB bs with
 |none=>none
 |some y=>if rdWhole y.2=true∧MayB y.1 then some y.1 else none
theorem taken_few (g:Good r):(takenL r.L).length≤600:=by
 have h1:=taken_nd g
 have h4:=(layN_bd r.rows r.grps).2
 have h2:=nodup_le (m:=(List.range 600).map fun (k:Nat)=>(k:Int)) h1 fun x hx=>by
  obtain ⟨h,hh,hx⟩:=mem_taken.1 hx
  have:=(g.each h hh).seats x hx
  exact List.mem_map.2 ⟨x.toNat,List.mem_range.2 (by omega),by omega⟩
 rw [List.length_map,List.length_range] at h2
 exact h2
theorem holdsB_tight:∀ {L:List Hold},(∀ h∈L,HoldIn h)→(holdsB L).length≤36 * L.length + 9 * (takenL L).length
 |[],_=>by simp [holdsB,takenL]
 |h::L,hin=>by
  have ih:=holdsB_tight fun x hx=>hin x (List.mem_cons_of_mem h hx)
  have hh:=hin h List.mem_cons_self
  have s3:small [h.owner,h.cls,h.many]:=by
   intro y hy
   have:=hh.o
   have:=hh.c
   have:=hh.m
   simp at hy
   omega
  have h1:=numsB_len (small_u s3)
  have h2:=listB_len (l:=h.seats) (fun y hy=>by have:=hh.s y hy;omega) (by have:=hh.n;omega)
  have e1:holdsB (h::L)=holdB h++holdsB L:=by simp [holdsB]
  have e2:takenL (h::L)=h.seats++takenL L:=by simp [takenL]
  have e3:(holdB h).length=(numsB [h.owner,h.cls,h.many]).length + (listB h.seats).length:=by unfold holdB;rw [List.length_append]
  rw [e1,e2,List.length_append,List.length_append,List.length_cons,e3]
  simp only [List.length_cons,List.length_nil] at h1
  omega
theorem renc_tight (g:Good r):(rencB r).length≤28000:=by
 have s:=good_small g
 obtain ⟨l1,l2,l3⟩:=layOk_iff.1 g.lay
 obtain ⟨m1,m2,m3⟩:=good_lims g
 have hlen:=g.len.1
 have ht:=taken_few g
 have u2:small [r.num,r.rows]:=by intro y hy;have:=s.num;have:=s.rows;simp at hy;omega
 have u1:small [(r.L.length:Int)]:=by intro y hy;simp at hy;omega
 have h1:=numsB_len (small_u u2)
 have h2:=listB_len s.grps (by omega)
 have h3:=listB_len s.lims (by omega)
 have h4:=numsB_len (small_u u1)
 have h5:=holdsB_tight (good_in g)
 simp only [List.length_cons,List.length_nil] at h1 h4
 unfold rencB encB
 simp only [List.length_append]
 omega
theorem fltB_len {x:Nat} (h:x<18446744073709551616):(fltB x).length≤9:=numB_len (key_lt h)
theorem nums1_len {x:Int} (h:0≤x∧x<18446744073709551616):(numsB [x]).length≤9:=by
 have:=numsB_len (l:=[x]) fun y hy=>by rw [List.mem_singleton.1 hy];exact h
 simpa using this
theorem wtB_len (h:w.Ok) (hf:w.sc<18446744073709551616):(wtB w).length≤45:=by
 obtain ⟨h1,h2,h3,h4⟩:=h
 have a1:=nums1_len (x:=w.id) (by omega)
 have a2:=nums1_len (x:=w.cls) (by omega)
 have a3:=nums1_len (x:=w.many) (by omega)
 have a4:=nums1_len (x:=w.time) (by omega)
 have a5:=fltB_len hf
 unfold wtB
 simp only [List.length_append]
 omega
theorem flat_len {α:Type} {code:α→List Int} {m:Nat}:∀ {l:List α},(∀ x∈l,(code x).length≤m)→((l.map code).flatten).length≤m * l.length
 |[],_=>by simp
 |a::l,h=>by
  have h1:=h a (by simp)
  have h2:=flat_len (l:=l) fun x hx=>h x (by simp [hx])
  rw [List.map_cons,List.flatten_cons,List.length_append,List.length_cons,Nat.mul_succ]
  omega
theorem qB_len {q:List Wt} (h:QOk q):(qB q).length≤9009:=by
 have h1:=nums1_len (x:=(q.length:Int)) (by have:=h.len;omega)
 have h2:=flat_len (l:=q) (code:=wtB) (m:=45) fun w hw=>wtB_len (h.ok w hw) (h.fl w hw)
 have:=h.len
 unfold qB
 rw [List.length_append]
 omega
theorem textB_len {d:List Int} (h:d.length<1000000):(textB d).length≤d.length + 9:=by
 have:=numB_len (n:=d.length) (by omega)
 unfold textB
 rw [List.length_append]
 omega
theorem plB_len (g:Good p.r) (h:QOk p.q):(plB p).length≤38000:=by
 have h1:=renc_tight g
 have h2:=qB_len h
 have h3:=textB_len (d:=rencB p.r) (by omega)
 have h4:=textB_len (d:=qB p.q) (by omega)
 unfold plB
 rw [List.length_append]
 omega
theorem bkB_len {n:Int} (hn:n≤28629151) (h:BkOk n x):(bkB x).length≤54:=by
 have:=h.id
 have:=h.flt
 have:=h.cls
 have:=h.many
 have:=h.state
 have:=h.till
 have a0:=nums1_len (x:=x.id) (by omega)
 have a1:=nums1_len (x:=x.flt) (by omega)
 have a2:=nums1_len (x:=x.cls) (by omega)
 have a3:=nums1_len (x:=x.many) (by omega)
 have a4:=nums1_len (x:=x.state) (by omega)
 have a5:=nums1_len (x:=x.till) (by omega)
 unfold bkB
 simp only [List.length_append]
 omega
theorem saveB_len (k:Core b):(saveB b).length≤400000:=by
 have h1:=k.now
 have h2:=k.next
 have h3:=k.few
 have h4:=k.many
 have a1:=nums1_len (x:=b.now) (by omega)
 have a2:=nums1_len (x:=b.next) (by omega)
 have a3:=nums1_len (x:=(b.fl.length:Int)) (by omega)
 have a4:=nums1_len (x:=(b.L.length:Int)) (by omega)
 have a5:=flat_len (l:=b.fl) (code:=plB) (m:=38000) fun p hp=>plB_len (k.good p hp) (k.qok p hp)
 have a6:=flat_len (l:=b.L) (code:=bkB) (m:=54) fun x hx=>bkB_len h2.2 (k.each x hx)
 unfold saveB
 simp only [List.length_append]
 omega
end
end Go.Proofs.YtlplemdmegpoeaaGreatDoor
/- The formulas of functions of this seat's translation, printed by a program of mine off the translation; each is proved equal to 'fnF' of the function's body, so it is enough for the call. No condition. -/
namespace Go.Proofs.YtlplemdmegpoeaaGreatDoor
open Go Go.VC
set_option linter.unusedVariables false
set_option maxRecDepth 10000
def B135 (d:Nat) (K:Value→World→Prop) (w:World):Prop:=
 Ext Tryz.prog 210 #[.float .f64 d] w fun c b=>
 ∃ a:Int,(c=.returned (.int .u64 a))∧
 Br (bitI BinOp.and IntKind.u64 a 9223372036854775808 !=0)
 (K (.int .u64 (IntKind.u64.wrap (↑(BitVec.ofInt IntKind.u64.bits (if IntKind.u64.signed=true then -1 else IntKind.u64.max) ^^^ BitVec.ofInt IntKind.u64.bits a).toNat:Int))) b)
 (K (.int .u64 (bitI BinOp.or IntKind.u64 a 9223372036854775808)) b)
theorem call135 (a:Nat) (K:Value→World→Prop) (w:World) (h:B135 a K w):Gets Tryz.prog 135 #[.float .f64 a] w K:=cq (sk:=.leaf) h Tryz.func135
def B229 (a:Int) (K:Value→World→Prop) (w:World):Prop:=
 Br (bitI BinOp.and IntKind.u64 a 9223372036854775808==0)
 (Ext Tryz.prog 222 #[.int .u64 (IntKind.u64.wrap (↑(BitVec.ofInt IntKind.u64.bits (if IntKind.u64.signed=true then -1 else IntKind.u64.max) ^^^ BitVec.ofInt IntKind.u64.bits a).toNat:Int))] w fun d f=>
 ∃ c:Nat,(d=.returned (.float .f64 c))∧
 K (.float .f64 c) f)
 (Ext Tryz.prog 222 #[.int .u64 (bitI BinOp.andNot IntKind.u64 a 9223372036854775808)] w fun e g=>
 ∃ b:Nat,(e=.returned (.float .f64 b))∧
 K (.float .f64 b) g)
theorem call229 (a:Int) (K:Value→World→Prop) (w:World) (h:B229 a K w):Gets Tryz.prog 229 #[.int .u64 a] w K:=cq (sk:=.leaf) h Tryz.func229
def B243 (b:Nat) (c:Nat) (K:Value→World→Prop) (w:World):Prop:=
 Calls Tryz.prog 277 #[.float .f64 b,.float .f64 c] w fun d e=>
 ∃ a:Int,(d=.returned (.int .i64 a))∧
 K (.int .i64 a) e
theorem call243 (a:Nat) (b:Nat) (K:Value→World→Prop) (w:World) (h:B243 a b K w):Gets Tryz.prog 243 #[.float .f64 a,.float .f64 b] w K:=cq (sk:=.leaf) h Tryz.func243
def B277 (c:Nat) (d:Nat) (K:Value→World→Prop) (w:World):Prop:=
 Calls Tryz.prog 293 #[.float .f64 c] w fun j l=>
 ∃ i:Bool,(j=.returned (.bool i))∧
 Calls Tryz.prog 293 #[.float .f64 d] l fun k b=>
 ∃ e:Bool,(k=.returned (.bool e))∧
 Br i
 (Br e
 (K (.int .i64 0) b)
 (K (.int .i64 ((-1))) b))
 (Br e
 (K (.int .i64 1) b)
 (∃ f:Bool,(∀ a,(fun a=>a=b) a→((do eqGuard BinOp.lss 35 (Operand.tmp 14) (Operand.tmp 15) (.float .f64 c) (.float .f64 d);binOp BinOp.lss 35 (.float .f64 c) (.float .f64 d):Sem Value)).run Tryz.prog a=.ok (.bool f) a)∧
 Br f
 (K (.int .i64 ((-1))) b)
 (∃ g:Bool,(∀ a,(fun a=>a=b) a→((do eqGuard BinOp.gtr 35 (Operand.tmp 17) (Operand.tmp 18) (.float .f64 c) (.float .f64 d);binOp BinOp.gtr 35 (.float .f64 c) (.float .f64 d):Sem Value)).run Tryz.prog a=.ok (.bool g) a)∧
 Br g
 (K (.int .i64 1) b)
 (K (.int .i64 0) b))))
theorem call277 (a:Nat) (b:Nat) (K:Value→World→Prop) (w:World) (h:B277 a b K w):Gets Tryz.prog 277 #[.float .f64 a,.float .f64 b] w K:=cq (sk:=.leaf) h Tryz.func277
def B293 (b:Nat) (K:Value→World→Prop) (w:World):Prop:=
 ∃ c:Bool,(∀ a,(fun a=>a=w) a→((do eqGuard BinOp.neq 35 (Operand.tmp 3) (Operand.tmp 4) (.float .f64 b) (.float .f64 b);binOp BinOp.neq 35 (.float .f64 b) (.float .f64 b):Sem Value)).run Tryz.prog a=.ok (.bool c) a)∧
 K (.bool c) w
theorem call293 (a:Nat) (K:Value→World→Prop) (w:World) (h:B293 a K w):Gets Tryz.prog 293 #[.float .f64 a] w K:=cq (sk:=.leaf) h Tryz.func293
def B244 (c:Int) (d:Int) (K:Value→World→Prop) (w:World):Prop:=
 Calls Tryz.prog 278 #[.int .i64 c] w fun f i=>
 ∃ e:Bool,(f=.returned (.bool e))∧
 Calls Tryz.prog 278 #[.int .i64 d] i fun g a=>
 ∃ b:Bool,(g=.returned (.bool b))∧
 Br e
 (Br b
 (K (.int .i64 0) a)
 (K (.int .i64 ((-1))) a))
 (Br b
 (K (.int .i64 1) a)
 (Br (decide (c<d))
 (K (.int .i64 ((-1))) a)
 (Br (decide (c>d))
 (K (.int .i64 1) a)
 (K (.int .i64 0) a))))
theorem call244 (a:Int) (b:Int) (K:Value→World→Prop) (w:World) (h:B244 a b K w):Gets Tryz.prog 244 #[.int .i64 a,.int .i64 b] w K:=cq (sk:=.leaf) h Tryz.func244
def B242 (f:Sl) (K:Value→World→Prop) (w:World):Prop:=
 ∃ (d:Int→World→Prop) (g:Int→World→Nat),(d 0 w)∧∀ (k:Env) (b:Int) (c:World),d b c→
 Br (decide (b<(↑f.len:Int)))
 (Rng b f.len (NilP f.a fun i=>
 ∃ e:Int,(At (fun j=>j=c) (Addr.add i b.toNat) [.int .i64 e])∧
 Br (e !=0)
 (K (.int .i64 e) c)
 ((d (IntKind.i64.wrap (b + 1)) c)∧g (IntKind.i64.wrap (b + 1)) c<g b c)))
 (K (.int .i64 0) c)
def sk242:Sk:=(.seq .leaf (.seq .leaf (.seq (.seq .leaf (.block (.loop [8] [(.int .i64)] [2,5,8,9,10,11,12,13,14,15,16] .leaf))) .leaf)))
theorem call242 (b:Sl) (K:Value→World→Prop) (w:World) (h:B242 b K w):Gets Tryz.prog 242 #[.slice b.a b.len b.cap] w K:=cq (sk:=sk242) h Tryz.func242
def B100  (K:Value→World→Prop) (w:World):Prop:=
 New (.cells #[.slice none 0 0] 190 (0,0)) (fun a b=>
 K (.pointer ((some ⟨a,0,none⟩))) b) w
theorem call100  (K:Value→World→Prop) (w:World) (h:B100  K w):Gets Tryz.prog 100 #[] w K:=cq (sk:=.leaf) h Tryz.func100
def B172 (z:Int) (A:Int) (C:Int) (D:Int) (E:Nat) (I:Int) (J:Int) (L:Int) (M:Int) (N:Nat) (K:Value→World→Prop) (w:World):Prop:=
 New (.cells #[.int .i64 z,.int .i64 A,.int .i64 C,.int .i64 D,.float .f64 E] 192 (0,0)) (fun b F=>
 New (.cells #[.int .i64 I,.int .i64 J,.int .i64 L,.int .i64 M,.float .f64 N] 192 (0,0)) (fun c G=>
 Drw G fun a H=>
 ∃ n:Nat,(At a ⟨c,0 + 4,none⟩ [.float .f64 n])∧
 ∃ d:Nat,(At a ⟨b,0 + 4,none⟩ [.float .f64 d])∧
 ∃ f:Int,(At a ⟨b,0 + 3,none⟩ [.int .i64 f])∧
 ∃ g:Int,(At a ⟨c,0 + 3,none⟩ [.int .i64 g])∧
 ∃ j:Int,(At a ⟨b,0,none⟩ [.int .i64 j])∧
 ∃ k:Int,(At a ⟨c,0,none⟩ [.int .i64 k])∧
 Calls Tryz.prog 243 #[.float .f64 n,.float .f64 d] H fun u o=>
 ∃ e:Int,(u=.returned (.int .i64 e))∧
 (a o)∧
 Calls Tryz.prog 244 #[.int .i64 f,.int .i64 g] o fun v p=>
 ∃ i:Int,(v=.returned (.int .i64 i))∧
 (a p)∧
 Calls Tryz.prog 244 #[.int .i64 j,.int .i64 k] p fun x q=>
 ∃ l:Int,(x=.returned (.int .i64 l))∧
 (a q)∧
 New (.cells #[.int .i64 e,.int .i64 i,.int .i64 l] 3 (0,0)) (fun t r=>
 (a r)∧
 Calls Tryz.prog 242 #[.slice ((some ⟨t,0,none⟩)) 3 3] r fun y s=>
 ∃ m:Int,(y=.returned (.int .i64 m))∧
 (a s)∧
 K (.int .i64 m) s) q) F) w
theorem call172 (a:Int) (b:Int) (c:Int) (d:Int) (e:Nat) (f:Int) (g:Int) (i:Int) (j:Int) (k:Nat) (K:Value→World→Prop) (w:World) (h:B172 a b c d e f g i j k K w):Gets Tryz.prog 172 #[.agg #[.int .i64 a,.int .i64 b,.int .i64 c,.int .i64 d,.float .f64 e],.agg #[.int .i64 f,.int .i64 g,.int .i64 i,.int .i64 j,.float .f64 k]] w K:=cq (sk:=.leaf) h Tryz.func172
def B169 (t:Int) (u:Int) (v:Int) (x:Int) (y:Nat) (K:Value→World→Prop) (w:World):Prop:=
 New (.cells #[.int .i64 t,.int .i64 u,.int .i64 v,.int .i64 x,.float .f64 y] 192 (0,0)) (fun b o=>
 ∃ m:Int,(At (fun a=>a=o) ⟨b,0,none⟩ [.int .i64 m])∧
 Calls Tryz.prog 239 #[.int .i64 m,.int .i64 1,.int .i64 28629151] o fun p c=>
 ∃ n:Bool,(p=.returned (.bool n))∧
 Br n
 (∃ f:Int,(At (fun a=>a=c) ⟨b,0 + 1,none⟩ [.int .i64 f])∧
 Calls Tryz.prog 239 #[.int .i64 f,.int .i64 0,.int .i64 7] c fun q d=>
 ∃ g:Bool,(q=.returned (.bool g))∧
 Br g
 (∃ i:Int,(At (fun a=>a=d) ⟨b,0 + 2,none⟩ [.int .i64 i])∧
 Calls Tryz.prog 239 #[.int .i64 i,.int .i64 1,.int .i64 600] d fun r e=>
 ∃ j:Bool,(r=.returned (.bool j))∧
 Br j
 (∃ k:Int,(At (fun a=>a=e) ⟨b,0 + 3,none⟩ [.int .i64 k])∧
 Calls Tryz.prog 239 #[.int .i64 k,.int .i64 0,.int .i64 1099511627776] e fun s z=>
 ∃ l:Bool,(s=.returned (.bool l))∧
 K (.bool l) z)
 (K (.bool false) e))
 (K (.bool false) d))
 (K (.bool false) c)) w
theorem call169 (a:Int) (b:Int) (c:Int) (d:Int) (e:Nat) (K:Value→World→Prop) (w:World) (h:B169 a b c d e K w):Gets Tryz.prog 169 #[.agg #[.int .i64 a,.int .i64 b,.int .i64 c,.int .i64 d,.float .f64 e]] w K:=cq (sk:=.leaf) h Tryz.func169
def B239 (a:Int) (c:Int) (b:Int) (K:Value→World→Prop) (w:World):Prop:=
 Br (decide (a ≥ c))
 (K (.bool (decide (a≤b))) w)
 (K (.bool false) w)
theorem call239 (c:Int) (b:Int) (a:Int) (K:Value→World→Prop) (w:World) (h:B239 c b a K w):Gets Tryz.prog 239 #[.int .i64 c,.int .i64 b,.int .i64 a] w K:=cq (sk:=.leaf) h Tryz.func239
def B170 (j:Option Addr) (i:Int) (K:Value→World→Prop) (w:World):Prop:=
 New (.cells #[.int .i64 i] 3 (0,0)) (fun f d=>
 NilP j fun e=>
 ∃ b:Sl,(At (fun k=>k=d) (Addr.add e 0) [.slice b.a b.len b.cap])∧
 Calls Tryz.prog 240 #[.slice b.a b.len b.cap,.func (.func 241) #[] #[.pointer ((some ⟨f,0,none⟩))]] d fun g l=>
 ∃ c:Int,(g=.returned (.int .i64 c))∧
 K (.int .i64 c) l) w
theorem call170 (b:Option Addr) (a:Int) (K:Value→World→Prop) (w:World) (h:B170 b a K w):Gets Tryz.prog 170 #[.pointer b,.int .i64 a] w K:=cq (sk:=.leaf) h Tryz.func170
def B241 (i:Int) (j:Int) (k:Int) (l:Int) (m:Nat) (g:Option Addr) (K:Value→World→Prop) (w:World):Prop:=
 New (.cells #[.int .i64 i,.int .i64 j,.int .i64 k,.int .i64 l,.float .f64 m] 192 (0,0)) (fun f b=>
 ∃ c:Int,(At (fun a=>a=b) ⟨f,0,none⟩ [.int .i64 c])∧
 NilP g fun e=>
 ∃ d:Int,(At (fun a=>a=b) e [.int .i64 d])∧
 K (.bool (c==d)) b) w
theorem call241 (b:Int) (c:Int) (d:Int) (e:Int) (f:Nat) (a:Option Addr) (K:Value→World→Prop) (w:World) (h:B241 b c d e f a K w):Gets Tryz.prog 241 #[.agg #[.int .i64 b,.int .i64 c,.int .i64 d,.int .i64 e,.float .f64 f],.pointer a] w K:=cq (sk:=.leaf) h Tryz.func241
def B102 (f:Option Addr) (ai:Int) (aj:Int) (ak:Int) (al:Int) (am:Nat) (K:Value→World→Prop) (w:World):Prop:=
 New (.cells #[.int .i64 ai,.int .i64 aj,.int .i64 ak,.int .i64 al,.float .f64 am] 168 (0,0)) (fun o T=>
 ∃ L:Int,∃ M:Int,∃ N:Int,∃ O:Int,∃ Q:Nat,(At (fun b=>b=T) ⟨o,0,none⟩ [.int .i64 L,.int .i64 M,.int .i64 N,.int .i64 O,.float .f64 Q])∧
 New (.cells #[.int .i64 0,.int .i64 0,.int .i64 0,.int .i64 0,.float .f64 0] 192 (0,0)) (fun i an=>
 ∃ l:World,((Instr.storeAt 192 (.pointer ((some ⟨i,0,none⟩))) (.agg #[.int .i64 L,.int .i64 M,.int .i64 N,.int .i64 O,.float .f64 Q])).run Tryz.prog an=.ok () l)∧
 ∃ p:Int,∃ q:Int,∃ r:Int,∃ s:Int,∃ t:Nat,(At (fun b=>b=l) ⟨i,0,none⟩ [.int .i64 p,.int .i64 q,.int .i64 r,.int .i64 s,.float .f64 t])∧
 Calls Tryz.prog 169 #[.agg #[.int .i64 p,.int .i64 q,.int .i64 r,.int .i64 s,.float .f64 t]] l fun ad m=>
 ∃ u:Bool,(ad=.returned (.bool u))∧
 Br (!u)
 (K (.int .i64 1) m)
 (∃ v:Int,(At (fun b=>b=m) ⟨o,0,none⟩ [.int .i64 v])∧
 Calls Tryz.prog 170 #[.pointer f,.int .i64 v] m fun ae k=>
 ∃ x:Int,(ae=.returned (.int .i64 x))∧
 Br (decide (x ≥ 0))
 (K (.int .i64 7) k)
 (NilP f fun Y=>
 ∃ j:Sl,(At (fun b=>b=k) (Addr.add Y 0) [.slice j.a j.len j.cap])∧
 Br (decide ((↑j.len:Int) ≥ 200))
 (K (.int .i64 3) k)
 (Drw k fun n ao=>
 NilP f fun Z=>
 ∃ c:Sl,(At n (Addr.add Z 0) [.slice c.a c.len c.cap])∧
 ∃ y:Int,∃ z:Int,∃ A:Int,∃ C:Int,∃ D:Nat,(At n ⟨i,0,none⟩ [.int .i64 y,.int .i64 z,.int .i64 A,.int .i64 C,.float .f64 D])∧
 Calls Tryz.prog 171 #[.slice c.a c.len c.cap,.agg #[.int .i64 y,.int .i64 z,.int .i64 A,.int .i64 C,.float .f64 D],.func (.func 172) #[] #[]] ao fun af ap=>
 ∃ E:Int,∃ ah:Bool,(af=.returned (.tuple #[.int .i64 E,.bool ah]))∧
 Drw ap fun g aq=>
 NilP f fun aa=>
 ∃ d:Sl,(At g (Addr.add aa 0) [.slice d.a d.len d.cap])∧
 ∃ F:Int,∃ G:Int,∃ H:Int,∃ I:Int,∃ J:Nat,(At g ⟨i,0,none⟩ [.int .i64 F,.int .i64 G,.int .i64 H,.int .i64 I,.float .f64 J])∧
 New (.cells #[.int .i64 F,.int .i64 G,.int .i64 H,.int .i64 I,.float .f64 J] 192 (0,0)) (fun ac X=>
 (g X)∧
 Calls Tryz.prog 173 #[.slice d.a d.len d.cap,.int .i64 E,.slice ((some ⟨ac,0,none⟩)) 1 1] X fun ag U=>
 ∃ e:Sl,(ag=.returned (.slice e.a e.len e.cap))∧
 (g U)∧
 NilP f fun ab=>
 ∃ V:World,((Instr.storeAt 188 (.pointer ((some (Addr.add ab 0)))) (.slice e.a e.len e.cap)).run Tryz.prog U=.ok () V)∧
 K (.int .i64 0) V) aq)))) T) w
theorem call102 (a:Option Addr) (b:Int) (c:Int) (d:Int) (e:Int) (f:Nat) (K:Value→World→Prop) (w:World) (h:B102 a b c d e f K w):Gets Tryz.prog 102 #[.pointer a,.agg #[.int .i64 b,.int .i64 c,.int .i64 d,.int .i64 e,.float .f64 f]] w K:=cq (sk:=.leaf) h Tryz.func102
def B56 (C:Option Addr) (K:Value→World→Prop) (w:World):Prop:=
 NilP C fun z=>
 ∃ d:Sl,(At (fun f=>f=w) (Addr.add z 0) [.slice d.a d.len d.cap])∧
 ∃ (i:Sl→Int→World→Prop) (x:Sl→Int→World→Nat),(i ⟨none,0,0⟩ 0 w)∧∀ (F:Env) (b:Sl) (c:Int) (g:World),i b c g→
 Br (decide (c<(↑d.len:Int)))
 (Rng c d.len (NilP d.a fun y=>
 ∃ m:Int,∃ n:Int,∃ o:Int,∃ p:Int,∃ q:Nat,(At (fun f=>f=g) (Addr.add y (mulS c.toNat 5)) [.int .i64 m,.int .i64 n,.int .i64 o,.int .i64 p,.float .f64 q])∧
 New (.cells #[.int .i64 0,.int .i64 0,.int .i64 0,.int .i64 0,.float .f64 0] 192 (0,0)) (fun l D=>
 ∃ j:World,((Instr.storeAt 192 (.pointer ((some ⟨l,0,none⟩))) (.agg #[.int .i64 m,.int .i64 n,.int .i64 o,.int .i64 p,.float .f64 q])).run Tryz.prog D=.ok () j)∧
 ∃ r:Int,∃ s:Int,∃ t:Int,∃ u:Int,∃ v:Nat,(At (fun f=>f=j) ⟨l,0,none⟩ [.int .i64 r,.int .i64 s,.int .i64 t,.int .i64 u,.float .f64 v])∧
 New (.cells #[.int .i64 r,.int .i64 s,.int .i64 t,.int .i64 u,.float .f64 v] 168 (0,0)) (fun A E=>
 ∃ k:World,∃ e:Sl,((Builtin.append_ #[100,100] 100 #[.slice b.a b.len b.cap,.slice ((some ⟨A,0,none⟩)) 1 1]).run Tryz.prog E=.ok (.slice e.a e.len e.cap) k)∧
 (i e (IntKind.i64.wrap (c + 1)) k)∧x e (IntKind.i64.wrap (c + 1)) k<x b c g) j) g))
 (K (.slice b.a b.len b.cap) g)
def sk56:Sk:=(.seq .leaf (.seq .leaf (.seq (.seq .leaf (.block (.loop [3,11] [.sl,(.int .i64)] [3,5,11,12,13,14,15,16,17,18,19,20] .leaf))) .leaf)))
theorem call56 (a:Option Addr) (K:Value→World→Prop) (w:World) (h:B56 a K w):Gets Tryz.prog 56 #[.pointer a] w K:=cq (sk:=sk56) h Tryz.func56
def B65 (t:Option Addr) (K:Value→World→Prop) (w:World):Prop:=
 NilP t fun U=>
 ∃ o:Sl,(At (fun f=>f=w) (Addr.add U 0) [.slice o.a o.len o.cap])∧
 Calls Tryz.prog 128 #[.int .u64 (IntKind.u64.wrap (↑o.len:Int))] w fun X I=>
 ∃ p:Sl,(X=.returned (.slice p.a p.len p.cap))∧
 NilP t fun Q=>
 ∃ j:Sl,(At (fun f=>f=I) (Addr.add Q 0) [.slice j.a j.len j.cap])∧
 ∃ (q:Sl→Int→World→Prop) (N:Sl→Int→World→Nat),(q p 0 I)∧∀ (ad:Env) (g:Sl) (d:Int) (n:World),q g d n→
 Br (decide (d<(↑j.len:Int)))
 (Rng d j.len (NilP j.a fun T=>
 ∃ u:Int,∃ v:Int,∃ x:Int,∃ y:Int,∃ z:Nat,(At (fun f=>f=n) (Addr.add T (mulS d.toNat 5)) [.int .i64 u,.int .i64 v,.int .i64 x,.int .i64 y,.float .f64 z])∧
 New (.cells #[.int .i64 0,.int .i64 0,.int .i64 0,.int .i64 0,.float .f64 0] 192 (0,0)) (fun i aa=>
 ∃ J:World,((Instr.storeAt 192 (.pointer ((some ⟨i,0,none⟩))) (.agg #[.int .i64 u,.int .i64 v,.int .i64 x,.int .i64 y,.float .f64 z])).run Tryz.prog aa=.ok () J)∧
 Drw J fun b ab=>
 ∃ A:Int,(At b ⟨i,0,none⟩ [.int .i64 A])∧
 ∃ C:Int,(At b ⟨i,0 + 1,none⟩ [.int .i64 C])∧
 ∃ D:Int,(At b ⟨i,0 + 2,none⟩ [.int .i64 D])∧
 ∃ E:Int,(At b ⟨i,0 + 3,none⟩ [.int .i64 E])∧
 ∃ F:Nat,(At b ⟨i,0 + 4,none⟩ [.float .f64 F])∧
 Calls Tryz.prog 135 #[.float .f64 F] ab fun Y L=>
 ∃ G:Int,(Y=.returned (.int .u64 G))∧
 (b L)∧
 New (.cells #[.int .u64 (IntKind.u64.wrap A),.int .u64 (IntKind.u64.wrap C),.int .u64 (IntKind.u64.wrap D),.int .u64 (IntKind.u64.wrap E),.int .u64 G] 141 (0,0)) (fun V M=>
 (b M)∧
 ∃ (r:Sl→Int→World→Prop) (O:Sl→Int→World→Nat),(r g 0 M)∧∀ (ae:Env) (c:Sl) (e:Int) (l:World),r c e l→
 Br (decide (e<(↑5:Int)))
 (Rng e 5 (∃ H:Int,(At (fun f=>f=l) (Addr.add ⟨V,0,none⟩ e.toNat) [.int .u64 H])∧
 Calls Tryz.prog 128 #[.int .u64 H] l fun Z ac=>
 ∃ k:Sl,(Z=.returned (.slice k.a k.len k.cap))∧
 ∃ s:World,∃ m:Sl,((Builtin.append_ #[47,47] 47 #[.slice c.a c.len c.cap,.slice k.a k.len k.cap]).run Tryz.prog ac=.ok (.slice m.a m.len m.cap) s)∧
 (r m (IntKind.i64.wrap (e + 1)) s)∧O m (IntKind.i64.wrap (e + 1)) s<O c e l))
 ((q c (IntKind.i64.wrap (d + 1)) l)∧N c (IntKind.i64.wrap (d + 1)) l<N g d n)) L) n))
 (K (.slice g.a g.len g.cap) n)
def sk65:Sk:=(.seq .leaf (.seq .leaf (.seq (.seq .leaf (.block (.loop [3,20] [.sl,(.int .i64)] [3,5,7,20,21,22,23,24,25,26,27,28,29,30,31,32,33,34,35,36,37,38,39,40,41,42,43,44,45,46,47,48,49,50,51,52,53,54,55] (.seq .leaf (.seq .leaf (.seq (.block (.seq .leaf (.seq .leaf (.block (.loop [3,46] [.sl,(.int .i64)] [3,7,46,47,48,49,50,51,52,53,54] .leaf))))) .leaf)))))) .leaf)))
theorem call65 (a:Option Addr) (K:Value→World→Prop) (w:World) (h:B65 a K w):Gets Tryz.prog 65 #[.pointer a] w K:=cq (sk:=sk65) h Tryz.func65
def B159 (r:Sl) (K:Value→World→Prop) (w:World):Prop:=
 Calls Tryz.prog 91 #[.slice r.a r.len r.cap] w fun ao a3=>
 ∃ u:Option Addr,(ao=.returned (.pointer u))∧
 New (.cells #[.pointer none] 153 (0,0)) (fun c a8=>
 ∃ ak:World,((Instr.storeAt 153 (.pointer ((some ⟨c,0,none⟩))) (.pointer u)).run Tryz.prog a8=.ok () ak)∧
 Calls Tryz.prog 100 #[] ak fun ap a9=>
 ∃ e:Option Addr,(ap=.returned (.pointer e))∧
 Calls Tryz.prog 228 #[.int .i64 200,.pointer ((some ⟨c,0,none⟩))] a9 fun av ba=>
 ∃ v:Int,(av=.returned (.int .i64 v))∧
 ∃ (l:Int→World→Prop) (p:Int→World→Nat),(l 0 ba)∧∀ (be:Env) (d:Int) (i:World),l d i→
 Br (decide (d<v))
 (Calls Tryz.prog 228 #[.int .i64 28629151,.pointer ((some ⟨c,0,none⟩))] i fun aw bb=>
 ∃ x:Int,(aw=.returned (.int .i64 x))∧
 Calls Tryz.prog 228 #[.int .i64 7,.pointer ((some ⟨c,0,none⟩))] bb fun ax bc=>
 ∃ y:Int,(ax=.returned (.int .i64 y))∧
 Calls Tryz.prog 228 #[.int .i64 600,.pointer ((some ⟨c,0,none⟩))] bc fun ay bd=>
 ∃ z:Int,(ay=.returned (.int .i64 z))∧
 Calls Tryz.prog 228 #[.int .i64 1099511627776,.pointer ((some ⟨c,0,none⟩))] bd fun az a4=>
 ∃ A:Int,(az=.returned (.int .i64 A))∧
 New (.cells #[.int .i64 0,.int .i64 0,.int .i64 0,.int .i64 0,.float .f64 0] 168 (0,0)) (fun j a5=>
 ∃ s:World,((Instr.storeAt 168 (.pointer ((some ⟨j,0,none⟩))) (.agg #[.int .i64 x,.int .i64 y,.int .i64 z,.int .i64 A,.float .f64 0])).run Tryz.prog a5=.ok () s)∧
 ∃ C:Option Addr,(At (fun b=>b=s) ⟨c,0,none⟩ [.pointer C])∧
 Calls Tryz.prog 93 #[.pointer C,.int .u64 18446744073709551615] s fun a0 a6=>
 ∃ D:Int,(a0=.returned (.int .u64 D))∧
 Calls Tryz.prog 229 #[.int .u64 D] a6 fun a1 a7=>
 ∃ E:Nat,(a1=.returned (.float .f64 E))∧
 ∃ t:World,((Instr.storeAt 35 (.pointer ((some ⟨j,0 + 4,none⟩))) (.float .f64 E)).run Tryz.prog a7=.ok () t)∧
 NilP e fun al=>
 ∃ f:Sl,(At (fun b=>b=t) (Addr.add al 0) [.slice f.a f.len f.cap])∧
 Drw t fun q g=>
 Br (decide ((↑f.len:Int)>0))
 (NilP e fun am=>
 ∃ k:Sl,(At (fun b=>b=g) (Addr.add am 0) [.slice k.a k.len k.cap])∧
 Rng (IntKind.i64.wrap ((↑f.len:Int) - 1)) k.len (NilP k.a fun an=>
 ∃ F:Int,∃ G:Int,∃ H:Int,∃ I:Int,∃ J:Nat,(At (fun b=>b=g) (Addr.add an (mulS (IntKind.i64.wrap ((↑f.len:Int) - 1)).toNat 5)) [.int .i64 F,.int .i64 G,.int .i64 H,.int .i64 I,.float .f64 J])∧
 ∃ L:Int,∃ M:Int,∃ N:Int,∃ O:Int,∃ Q:Nat,(At (fun b=>b=g) ⟨j,0,none⟩ [.int .i64 L,.int .i64 M,.int .i64 N,.int .i64 O,.float .f64 Q])∧
 Calls Tryz.prog 172 #[.agg #[.int .i64 F,.int .i64 G,.int .i64 H,.int .i64 I,.float .f64 J],.agg #[.int .i64 L,.int .i64 M,.int .i64 N,.int .i64 O,.float .f64 Q]] g fun a2 m=>
 ∃ T:Int,(a2=.returned (.int .i64 T))∧
 (q m)∧
 Br (decide (T>0))
 (K (.tuple #[.pointer none,.int .i64 6]) m)
 (∃ U:Int,∃ V:Int,∃ X:Int,∃ Y:Int,∃ Z:Nat,(At (fun b=>b=m) ⟨j,0,none⟩ [.int .i64 U,.int .i64 V,.int .i64 X,.int .i64 Y,.float .f64 Z])∧
 Calls Tryz.prog 102 #[.pointer e,.agg #[.int .i64 U,.int .i64 V,.int .i64 X,.int .i64 Y,.float .f64 Z]] m fun aq n=>
 ∃ af:Int,(aq=.returned (.int .i64 af))∧
 (q n)∧
 Br (af !=0)
 (K (.tuple #[.pointer none,.int .i64 6]) n)
 ((l (IntKind.i64.wrap (d + 1)) n)∧p (IntKind.i64.wrap (d + 1)) n<p d i))))
 (∃ aa:Int,∃ ab:Int,∃ ac:Int,∃ ad:Int,∃ ae:Nat,(At (fun b=>b=g) ⟨j,0,none⟩ [.int .i64 aa,.int .i64 ab,.int .i64 ac,.int .i64 ad,.float .f64 ae])∧
 Calls Tryz.prog 102 #[.pointer e,.agg #[.int .i64 aa,.int .i64 ab,.int .i64 ac,.int .i64 ad,.float .f64 ae]] g fun ar o=>
 ∃ ag:Int,(ar=.returned (.int .i64 ag))∧
 (q o)∧
 Br (ag !=0)
 (K (.tuple #[.pointer none,.int .i64 6]) o)
 ((l (IntKind.i64.wrap (d + 1)) o)∧p (IntKind.i64.wrap (d + 1)) o<p d i))) a4)
 (∃ ah:Option Addr,(At (fun b=>b=i) ⟨c,0,none⟩ [.pointer ah])∧
 Calls Tryz.prog 96 #[.pointer ah] i fun au aj=>
 ∃ ai:Bool,(au=.returned (.bool ai))∧
 Br (!ai)
 (K (.tuple #[.pointer none,.int .i64 6]) aj)
 (K (.tuple #[.pointer e,.int .i64 0]) aj))) a3
def sk159:Sk:=(.seq .leaf (.seq .leaf (.seq .leaf (.seq .leaf (.seq (.seq .leaf (.block (.loop [15] [(.int .i64)] [2,3,7,8,15,16,17,18,19,20,21,22,23,24,25,26,27,28,29,30,31,32,33,34,35,36,37,38,39,40,41,42,43,44,45,46,47,48,49,50,51,52,53,54,55,56,57] (.seq .leaf (.seq .leaf (.seq (.block (.seq .leaf (.seq .leaf (.seq .leaf (.seq (.block .leaf) .leaf))))) .leaf)))))) .leaf)))))
theorem call159 (b:Sl) (K:Value→World→Prop) (w:World) (h:B159 b K w):Gets Tryz.prog 159 #[.slice b.a b.len b.cap] w K:=cq (sk:=sk159) h Tryz.func159
def B228 (f:Int) (d:Option Addr) (K:Value→World→Prop) (w:World):Prop:=
 NilP d fun c=>
 ∃ a:Option Addr,(At (fun g=>g=w) c [.pointer a])∧
 Calls Tryz.prog 93 #[.pointer a,.int .u64 (IntKind.u64.wrap f)] w fun e i=>
 ∃ b:Int,(e=.returned (.int .u64 b))∧
 K (.int .i64 (IntKind.i64.wrap b)) i
theorem call228 (b:Int) (a:Option Addr) (K:Value→World→Prop) (w:World) (h:B228 b a K w):Gets Tryz.prog 228 #[.int .i64 b,.pointer a] w K:=cq (sk:=.leaf) h Tryz.func228
def B240 (e:Sl) (q:Value) (K:Value→World→Prop) (w:World):Prop:=
 ∃ (d:Int→World→Prop) (n:Int→World→Nat),(d 0 w)∧∀ (s:Env) (b:Int) (c:World),d b c→
 Br (decide (b<(↑e.len:Int)))
 (Rng b e.len (NilP e.a fun o=>
 ∃ g:Int,∃ i:Int,∃ j:Int,∃ k:Int,∃ l:Nat,(At (fun r=>r=c) (Addr.add o (mulS b.toNat 5)) [.int .i64 g,.int .i64 i,.int .i64 j,.int .i64 k,.float .f64 l])∧
 CalW Tryz.prog cl q [.agg #[.int .i64 g,.int .i64 i,.int .i64 j,.int .i64 k,.float .f64 l]] c fun p f=>
 ∃ m:Bool,(p=.returned (.bool m))∧
 Br m
 (K (.int .i64 b) f)
 ((d (IntKind.i64.wrap (b + 1)) f)∧n (IntKind.i64.wrap (b + 1)) f<n b c)))
 (K (.int .i64 ((-1))) c)
def sk240:Sk:=(.seq .leaf (.seq (.seq .leaf (.block (.loop [8] [(.int .i64)] [4,5,8,9,10,11,12,13,14,15,16,17,18] .leaf))) .leaf))
theorem call240 (b:Sl) (c:Value) (K:Value→World→Prop) (w:World) (h:B240 b c K w):Gets Tryz.prog 240 #[.slice b.a b.len b.cap,c] w K:=cq (sk:=sk240) h Tryz.func240
def B171 (d:Sl) (U:Int) (V:Int) (X:Int) (Y:Int) (Z:Nat) (m:Value) (K:Value→World→Prop) (w:World):Prop:=
 New (.cells #[.int .i64 U,.int .i64 V,.int .i64 X,.int .i64 Y,.float .f64 Z] 192 (0,0)) (fun l aa=>
 ∃ (f:Int→Int→World→Prop) (i:Int→Int→World→Nat),(f 0 ((↑d.len:Int)) aa)∧∀ (ad:Env) (b:Int) (c:Int) (e:World),f b c e→
 Br (decide (b<c))
 (Drw e fun j ab=>
 Rng (IntKind.i64.wrap (shrI IntKind.u64 (IntKind.u64.wrap (IntKind.i64.wrap (b + c))) 1)) d.len (NilP d.a fun N=>
 ∃ n:Int,∃ o:Int,∃ p:Int,∃ q:Int,∃ r:Nat,(At j (Addr.add N (mulS (IntKind.i64.wrap (shrI IntKind.u64 (IntKind.u64.wrap (IntKind.i64.wrap (b + c))) 1)).toNat 5)) [.int .i64 n,.int .i64 o,.int .i64 p,.int .i64 q,.float .f64 r])∧
 ∃ s:Int,∃ t:Int,∃ u:Int,∃ v:Int,∃ x:Nat,(At j ⟨l,0,none⟩ [.int .i64 s,.int .i64 t,.int .i64 u,.int .i64 v,.float .f64 x])∧
 CalW Tryz.prog cl m [.agg #[.int .i64 n,.int .i64 o,.int .i64 p,.int .i64 q,.float .f64 r],.agg #[.int .i64 s,.int .i64 t,.int .i64 u,.int .i64 v,.float .f64 x]] ab fun Q g=>
 ∃ y:Int,(Q=.returned (.int .i64 y))∧
 Br (decide (y<0))
 ((f (IntKind.i64.wrap (IntKind.i64.wrap (shrI IntKind.u64 (IntKind.u64.wrap (IntKind.i64.wrap (b + c))) 1) + 1)) c g)∧i (IntKind.i64.wrap (IntKind.i64.wrap (shrI IntKind.u64 (IntKind.u64.wrap (IntKind.i64.wrap (b + c))) 1) + 1)) c g<i b c e)
 ((f b (IntKind.i64.wrap (shrI IntKind.u64 (IntKind.u64.wrap (IntKind.i64.wrap (b + c))) 1)) g)∧i b (IntKind.i64.wrap (shrI IntKind.u64 (IntKind.u64.wrap (IntKind.i64.wrap (b + c))) 1)) g<i b c e)))
 (Drw e fun k M=>
 Br (decide (b<(↑d.len:Int)))
 (Rng b d.len (NilP d.a fun O=>
 ∃ z:Int,∃ A:Int,∃ C:Int,∃ D:Int,∃ E:Nat,(At k (Addr.add O (mulS b.toNat 5)) [.int .i64 z,.int .i64 A,.int .i64 C,.int .i64 D,.float .f64 E])∧
 ∃ F:Int,∃ G:Int,∃ H:Int,∃ I:Int,∃ J:Nat,(At k ⟨l,0,none⟩ [.int .i64 F,.int .i64 G,.int .i64 H,.int .i64 I,.float .f64 J])∧
 CalW Tryz.prog cl m [.agg #[.int .i64 z,.int .i64 A,.int .i64 C,.int .i64 D,.float .f64 E],.agg #[.int .i64 F,.int .i64 G,.int .i64 H,.int .i64 I,.float .f64 J]] M fun T ac=>
 ∃ L:Int,(T=.returned (.int .i64 L))∧
 K (.tuple #[.int .i64 b,.bool (L==0)]) ac))
 (K (.tuple #[.int .i64 b,.bool false]) M))) w
def sk171:Sk:=(.seq .leaf (.seq .leaf (.seq .leaf (.seq (.block (.loop [9,10] [(.int .i64),(.int .i64)] [9,10,11,15,16,17,18,19,20,21,22,23,24,25,26,27,28,29,30,31,32,33,34] .leaf)) .leaf))))
theorem call171 (b:Sl) (d:Int) (e:Int) (f:Int) (g:Int) (i:Nat) (c:Value) (K:Value→World→Prop) (w:World) (h:B171 b d e f g i c K w):Gets Tryz.prog 171 #[.slice b.a b.len b.cap,.agg #[.int .i64 d,.int .i64 e,.int .i64 f,.int .i64 g,.float .f64 i],c] w K:=cq (sk:=sk171) h Tryz.func171
def B173 (b:Sl) (d:Int) (c:Sl) (K:Value→World→Prop) (w:World):Prop:=
 ((0:Int)≤d)∧
 ((d:Int)≤(↑b.len:Int))∧
 Br ((↑c.len:Int)==0)
 (K (.slice b.a b.len b.cap) w)
 (Br (d==(↑b.len:Int))
 (∃ i:World,∃ f:Sl,((Builtin.append_ #[188,188] 188 #[.slice b.a b.len b.cap,.slice c.a c.len c.cap]).run Tryz.prog w=.ok (.slice f.a f.len f.cap) i)∧
 K (.slice f.a f.len f.cap) i)
 (Br (decide (IntKind.i64.wrap ((↑b.len:Int) + (↑c.len:Int))>(↑b.cap:Int)))
 (((0:Int)≤d)∧
 ((d:Int)≤(↑b.cap:Int))∧
 ∃ k:World,∃ e:Sl,((Builtin.append_ #[188,3] 188 #[.slice b.a d.toNat b.cap,.int .i64 (IntKind.i64.wrap (IntKind.i64.wrap ((↑b.len:Int) + (↑c.len:Int)) - d))]).run Tryz.prog w=.ok (.slice e.a e.len e.cap) k)∧
 ((0:Int)≤d)∧
 ((d:Int)≤(↑e.len:Int))∧
 ∃ l:World,∃ s:Int,((Builtin.copy_ #[188,188] 3 #[.slice (cutA e.a d.toNat e.cap 5) (e.len - d.toNat) (e.cap - d.toNat),.slice c.a c.len c.cap]).run Tryz.prog k=.ok (.int .i64 s) l)∧
 Drw l fun C z=>
 ((0:Int)≤IntKind.i64.wrap (d + (↑c.len:Int)))∧
 ((IntKind.i64.wrap (d + (↑c.len:Int)):Int)≤(↑e.len:Int))∧
 ((0:Int)≤d)∧
 ((d:Int)≤(↑b.len:Int))∧
 ∃ m:World,∃ t:Int,((Builtin.copy_ #[188,188] 3 #[.slice (cutA e.a (IntKind.i64.wrap (d + (↑c.len:Int))).toNat e.cap 5) (e.len - (IntKind.i64.wrap (d + (↑c.len:Int))).toNat) (e.cap - (IntKind.i64.wrap (d + (↑c.len:Int))).toNat),.slice (cutA b.a d.toNat b.cap 5) (b.len - d.toNat) (b.cap - d.toNat)]).run Tryz.prog z=.ok (.int .i64 t) m)∧
 K (.slice e.a e.len e.cap) m)
 (((0:Int)≤IntKind.i64.wrap ((↑b.len:Int) + (↑c.len:Int)))∧
 ((IntKind.i64.wrap ((↑b.len:Int) + (↑c.len:Int)):Int)≤(↑b.cap:Int))∧
 ((0:Int)≤IntKind.i64.wrap (d + (↑c.len:Int)))∧
 ((IntKind.i64.wrap (d + (↑c.len:Int)):Int)≤(↑(IntKind.i64.wrap ((↑b.len:Int) + (↑c.len:Int))).toNat:Int))∧
 Ext Tryz.prog 245 #[.slice c.a c.len c.cap,.slice (cutA b.a (IntKind.i64.wrap (d + (↑c.len:Int))).toNat b.cap 5) ((IntKind.i64.wrap ((↑b.len:Int) + (↑c.len:Int))).toNat - (IntKind.i64.wrap (d + (↑c.len:Int))).toNat) (b.cap - (IntKind.i64.wrap (d + (↑c.len:Int))).toNat)] w fun q n=>
 ∃ g:Bool,(q=.returned (.bool g))∧
 Br (!g)
 (Drw n fun D A=>
 ((0:Int)≤IntKind.i64.wrap (d + (↑c.len:Int)))∧
 ((IntKind.i64.wrap (d + (↑c.len:Int)):Int)≤(↑(IntKind.i64.wrap ((↑b.len:Int) + (↑c.len:Int))).toNat:Int))∧
 ((0:Int)≤d)∧
 ((d:Int)≤(↑(IntKind.i64.wrap ((↑b.len:Int) + (↑c.len:Int))).toNat:Int))∧
 ∃ o:World,∃ u:Int,((Builtin.copy_ #[188,188] 3 #[.slice (cutA b.a (IntKind.i64.wrap (d + (↑c.len:Int))).toNat b.cap 5) ((IntKind.i64.wrap ((↑b.len:Int) + (↑c.len:Int))).toNat - (IntKind.i64.wrap (d + (↑c.len:Int))).toNat) (b.cap - (IntKind.i64.wrap (d + (↑c.len:Int))).toNat),.slice (cutA b.a d.toNat b.cap 5) ((IntKind.i64.wrap ((↑b.len:Int) + (↑c.len:Int))).toNat - d.toNat) (b.cap - d.toNat)]).run Tryz.prog A=.ok (.int .i64 u) o)∧
 ((0:Int)≤d)∧
 ((d:Int)≤(↑(IntKind.i64.wrap ((↑b.len:Int) + (↑c.len:Int))).toNat:Int))∧
 ∃ p:World,∃ v:Int,((Builtin.copy_ #[188,188] 3 #[.slice (cutA b.a d.toNat b.cap 5) ((IntKind.i64.wrap ((↑b.len:Int) + (↑c.len:Int))).toNat - d.toNat) (b.cap - d.toNat),.slice c.a c.len c.cap]).run Tryz.prog o=.ok (.int .i64 v) p)∧
 K (.slice b.a ((IntKind.i64.wrap ((↑b.len:Int) + (↑c.len:Int))).toNat) b.cap) p)
 (((0:Int)≤(↑b.len:Int))∧
 (((↑b.len:Int):Int)≤(↑(IntKind.i64.wrap ((↑b.len:Int) + (↑c.len:Int))).toNat:Int))∧
 ∃ j:World,∃ x:Int,((Builtin.copy_ #[188,188] 3 #[.slice (cutA b.a (↑b.len:Int).toNat b.cap 5) ((IntKind.i64.wrap ((↑b.len:Int) + (↑c.len:Int))).toNat - (↑b.len:Int).toNat) (b.cap - (↑b.len:Int).toNat),.slice c.a c.len c.cap]).run Tryz.prog n=.ok (.int .i64 x) j)∧
 ((0:Int)≤d)∧
 ((d:Int)≤(↑(IntKind.i64.wrap ((↑b.len:Int) + (↑c.len:Int))).toNat:Int))∧
 Calls Tryz.prog 246 #[.slice (cutA b.a d.toNat b.cap 5) ((IntKind.i64.wrap ((↑b.len:Int) + (↑c.len:Int))).toNat - d.toNat) (b.cap - d.toNat),.int .i64 ((↑c.len:Int))] j fun r y=>
 (r=.returned (.tuple #[]))∧
 K (.slice b.a ((IntKind.i64.wrap ((↑b.len:Int) + (↑c.len:Int))).toNat) b.cap) y))))
theorem call173 (b:Sl) (d:Int) (c:Sl) (K:Value→World→Prop) (w:World) (h:B173 b d c K w):Gets Tryz.prog 173 #[.slice b.a b.len b.cap,.int .i64 d,.slice c.a c.len c.cap] w K:=cq (sk:=.leaf) h Tryz.func173
def B230 (b:Sl) (e:Value) (K:Value→World→Prop) (w:World):Prop:=
 Calls Tryz.prog 274 #[.slice b.a b.len b.cap,e] w fun d f=>
 ∃ c:Int,(d=.returned (.int .i64 c))∧
 K (.bool (decide (c ≥ 0))) f
theorem call230 (b:Sl) (c:Value) (K:Value→World→Prop) (w:World) (h:B230 b c K w):Gets Tryz.prog 230 #[.slice b.a b.len b.cap,c] w K:=cq (sk:=.leaf) h Tryz.func230
def B274 (e:Sl) (q:Value) (K:Value→World→Prop) (w:World):Prop:=
 ∃ (d:Int→World→Prop) (n:Int→World→Nat),(d 0 w)∧∀ (s:Env) (b:Int) (c:World),d b c→
 Br (decide (b<(↑e.len:Int)))
 (Rng b e.len (NilP e.a fun o=>
 ∃ g:Int,∃ i:Int,∃ j:Int,∃ k:Int,∃ l:Nat,(At (fun r=>r=c) (Addr.add o (mulS b.toNat 5)) [.int .i64 g,.int .i64 i,.int .i64 j,.int .i64 k,.float .f64 l])∧
 CalW Tryz.prog cl q [.agg #[.int .i64 g,.int .i64 i,.int .i64 j,.int .i64 k,.float .f64 l]] c fun p f=>
 ∃ m:Bool,(p=.returned (.bool m))∧
 Br m
 (K (.int .i64 b) f)
 ((d (IntKind.i64.wrap (b + 1)) f)∧n (IntKind.i64.wrap (b + 1)) f<n b c)))
 (K (.int .i64 ((-1))) c)
def sk274:Sk:=(.seq .leaf (.seq (.seq .leaf (.block (.loop [8] [(.int .i64)] [4,5,8,9,10,11,12,13,14,15,16,17,18] .leaf))) .leaf))
theorem call274 (b:Sl) (c:Value) (K:Value→World→Prop) (w:World) (h:B274 b c K w):Gets Tryz.prog 274 #[.slice b.a b.len b.cap,c] w K:=cq (sk:=sk274) h Tryz.func274
def B232 (b:Sl) (e:Value) (K:Value→World→Prop) (w:World):Prop:=
 Calls Tryz.prog 275 #[.slice b.a b.len b.cap,e] w fun d f=>
 ∃ c:Int,(d=.returned (.int .i64 c))∧
 K (.bool (decide (c ≥ 0))) f
theorem call232 (b:Sl) (c:Value) (K:Value→World→Prop) (w:World) (h:B232 b c K w):Gets Tryz.prog 232 #[.slice b.a b.len b.cap,c] w K:=cq (sk:=.leaf) h Tryz.func232
def B275 (f:Sl) (p:Value) (K:Value→World→Prop) (w:World):Prop:=
 ∃ (e:Int→World→Prop) (m:Int→World→Nat),(e 0 w)∧∀ (r:Env) (b:Int) (d:World),e b d→
 Br (decide (b<(↑f.len:Int)))
 (Rng b f.len (NilP f.a fun n=>
 ∃ i:Int,∃ j:Int,∃ k:Int,∃ c:Sl,(At (fun q=>q=d) (Addr.add n (mulS b.toNat 4)) [.int .i64 i,.int .i64 j,.int .i64 k,.slice c.a c.len c.cap])∧
 CalW Tryz.prog cl p [.agg #[.int .i64 i,.int .i64 j,.int .i64 k,.slice c.a c.len c.cap]] d fun o g=>
 ∃ l:Bool,(o=.returned (.bool l))∧
 Br l
 (K (.int .i64 b) g)
 ((e (IntKind.i64.wrap (b + 1)) g)∧m (IntKind.i64.wrap (b + 1)) g<m b d)))
 (K (.int .i64 ((-1))) d)
def sk275:Sk:=(.seq .leaf (.seq (.seq .leaf (.block (.loop [8] [(.int .i64)] [4,5,8,9,10,11,12,13,14,15,16,17,18] .leaf))) .leaf))
theorem call275 (b:Sl) (c:Value) (K:Value→World→Prop) (w:World) (h:B275 b c K w):Gets Tryz.prog 275 #[.slice b.a b.len b.cap,c] w K:=cq (sk:=sk275) h Tryz.func275
end Go.Proofs.YtlplemdmegpoeaaGreatDoor
/- The formulas of functions of this seat's translation, printed by a program of mine off the translation; each is proved equal to 'fnF' of the function's body, so it is enough for the call. No condition. -/
namespace Go.Proofs.YtlplemdmegpoeaaGreatDoor
open Go Go.VC
set_option linter.unusedVariables false
set_option maxRecDepth 10000
def B37 (c:Bool) (b:Int) (a:List PanicEntry→World→Prop) (K:Value→World→Prop) (w:World):Prop:=
 Br (!c)
 (a [⟨.iface 29 (.int .i64 b),false,false⟩] w)
 (K (.tuple #[]) w)
theorem call37 (c:Bool) (b:Int) (a:List PanicEntry→World→Prop) (K:Value→World→Prop) (w:World) (h:B37 c b a K w):GetsX Tryz.prog 37 #[.bool c,.int .i64 b] w a K:=cqx (sk:=.leaf) h Tryz.func37
def B10  (K:Value→World→Prop) (w:World):Prop:=
 New (.map #[] 0) (fun a d=>
 New (.map #[] 0) (fun b e=>
 New (.cells #[.int .i64 0,.int .i64 1,.map ((some a)),.map ((some b))] 80 (0,0)) (fun c f=>
 K (.pointer ((some ⟨c,0,none⟩))) f) e) d) w
theorem call10  (K:Value→World→Prop) (w:World) (h:B10  K w):Gets Tryz.prog 10 #[] w K:=cq (sk:=.leaf) h Tryz.func10
def B60 (m:Option Addr) (i:Sl) (K:Value→World→Prop) (w:World):Prop:=
 ∃ (g:Int→World→Prop) (p:Int→World→Nat),(g 0 w)∧∀ (x:Env) (b:Int) (f:World),g b f→
 Br (decide (b<(↑i.len:Int)))
 (Rng b i.len (NilP i.a fun q=>
 ∃ j:Int,(At (fun u=>u=f) (Addr.add q b.toNat) [.int .i64 j])∧
 Drw f fun l v=>
 NilP m fun r=>
 ∃ c:Sl,(At l (Addr.add r 0) [.slice c.a c.len c.cap])∧
 Calls Tryz.prog 128 #[.int .u64 (IntKind.u64.wrap (if 0>j then 0 else j))] v fun t n=>
 ∃ d:Sl,(t=.returned (.slice d.a d.len d.cap))∧
 (l n)∧
 ∃ o:World,∃ e:Sl,((Builtin.append_ #[47,47] 47 #[.slice c.a c.len c.cap,.slice d.a d.len d.cap]).run Tryz.prog n=.ok (.slice e.a e.len e.cap) o)∧
 NilP m fun s=>
 ∃ k:World,((Instr.storeAt 47 (.pointer ((some (Addr.add s 0)))) (.slice e.a e.len e.cap)).run Tryz.prog o=.ok () k)∧
 (g (IntKind.i64.wrap (b + 1)) k)∧p (IntKind.i64.wrap (b + 1)) k<p b f))
 (K (.tuple #[]) f)
def sk60:Sk:=(.seq .leaf (.block (.loop [8] [(.int .i64)] [5,8,9,10,11,12,13,14,15,16,17,18,19,20,21,22,23,24] .leaf)))
theorem call60 (c:Option Addr) (b:Sl) (K:Value→World→Prop) (w:World) (h:B60 c b K w):Gets Tryz.prog 60 #[.pointer c,.slice b.a b.len b.cap] w K:=cq (sk:=sk60) h Tryz.func60
def B63 (g:Option Addr) (e:Sl) (K:Value→World→Prop) (w:World):Prop:=
 Drw w fun f o=>
 NilP g fun m=>
 ∃ d:Sl,(At f (Addr.add m 0) [.slice d.a d.len d.cap])∧
 Calls Tryz.prog 83 #[.slice e.a e.len e.cap] o fun n i=>
 ∃ b:Sl,(n=.returned (.slice b.a b.len b.cap))∧
 (f i)∧
 ∃ j:World,∃ c:Sl,((Builtin.append_ #[47,47] 47 #[.slice d.a d.len d.cap,.slice b.a b.len b.cap]).run Tryz.prog i=.ok (.slice c.a c.len c.cap) j)∧
 NilP g fun l=>
 ∃ k:World,((Instr.storeAt 47 (.pointer ((some (Addr.add l 0)))) (.slice c.a c.len c.cap)).run Tryz.prog j=.ok () k)∧
 K (.tuple #[]) k
theorem call63 (c:Option Addr) (b:Sl) (K:Value→World→Prop) (w:World) (h:B63 c b K w):Gets Tryz.prog 63 #[.pointer c,.slice b.a b.len b.cap] w K:=cq (sk:=.leaf) h Tryz.func63
def B157 (g:Option Addr) (f:Int) (K:Value→World→Prop) (w:World):Prop:=
 New (.cells #[.pointer g] 216 (0,0)) (fun d c=>
 ∃ a:Option Addr,(At (fun i=>i=c) ⟨d,0,none⟩ [.pointer a])∧
 Calls Tryz.prog 93 #[.pointer a,.int .u64 (IntKind.u64.wrap f)] c fun e j=>
 ∃ b:Int,(e=.returned (.int .u64 b))∧
 K (.int .i64 (IntKind.i64.wrap b)) j) w
theorem call157 (b:Option Addr) (a:Int) (K:Value→World→Prop) (w:World) (h:B157 b a K w):Gets Tryz.prog 157 #[.agg #[.pointer b],.int .i64 a] w K:=cq (sk:=.leaf) h Tryz.func157
def B18 (d:Option Addr) (K:Value→World→Prop) (w:World):Prop:=
 New (.cells #[.slice none 0 0] 112 (0,0)) (fun k bc=>
 Drw bc fun i bj=>
 NilP d fun av=>
 ∃ O:Int,(At i (Addr.add av 0) [.int .i64 O])∧
 NilP d fun A=>
 ∃ Q:Int,(At i ⟨A.block,A.off + 1,none⟩ [.int .i64 Q])∧
 NilP d fun C=>
 ∃ T:Option Nat,(At i ⟨C.block,C.off + 2,none⟩ [.map T])∧
 ∃ U:Int,(∀ b,i b→((Builtin.len_ #[77] 3 #[.map T])).run Tryz.prog b=.ok (.int .i64 U) b)∧
 New (.cells #[.int .i64 O,.int .i64 Q,.int .i64 U] 3 (0,0)) (fun az aq=>
 (i aq)∧
 Calls Tryz.prog 60 #[.pointer ((some ⟨k,0,none⟩)),.slice ((some ⟨az,0,none⟩)) 3 3] aq fun a1 x=>
 (a1=.returned (.tuple #[]))∧
 (i x)∧
 NilP d fun D=>
 ∃ V:Option Nat,(At (fun b=>b=x) ⟨D.block,D.off + 2,none⟩ [.map V])∧
 Calls Tryz.prog 62 #[.map V] x fun a2 bl=>
 ∃ X:Value,(a2=.returned (X))∧
 Calls Tryz.prog 61 #[X] bl fun a4 bm=>
 ∃ m:Sl,(a4=.returned (.slice m.a m.len m.cap))∧
 ∃ (r:Int→World→Prop) (ar:Int→World→Nat),(r 0 bm)∧∀ (bo:Env) (f:Int) (c:World),r f c→
 Br (decide (f<(↑m.len:Int)))
 (Rng f m.len (NilP m.a fun aw=>
 ∃ Y:Int,(At (fun b=>b=c) (Addr.add aw f.toNat) [.int .i64 Y])∧
 NilP d fun E=>
 ∃ Z:Option Nat,(At (fun b=>b=c) ⟨E.block,E.off + 2,none⟩ [.map Z])∧
 ∃ aa:Option Addr,∃ ab:Option Addr,(∀ b,(fun b=>b=c) b→((Instr.lookup 77 (.map Z) (.int .i64 Y) false)).run Tryz.prog b=.ok (.agg #[.pointer aa,.pointer ab]) b)∧
 New (.cells #[.pointer none,.pointer none] 97 (0,0)) (fun t bn=>
 ∃ y:World,((Instr.storeAt 97 (.pointer ((some ⟨t,0,none⟩))) (.agg #[.pointer aa,.pointer ab])).run Tryz.prog bn=.ok () y)∧
 ∃ ac:Option Addr,(At (fun b=>b=y) ⟨t,0,none⟩ [.pointer ac])∧
 Calls Tryz.prog 64 #[.pointer ac] y fun a5 bd=>
 ∃ n:Sl,(a5=.returned (.slice n.a n.len n.cap))∧
 Calls Tryz.prog 63 #[.pointer ((some ⟨k,0,none⟩)),.slice n.a n.len n.cap] bd fun a6 an=>
 (a6=.returned (.tuple #[]))∧
 ∃ ad:Option Addr,(At (fun b=>b=an) ⟨t,0 + 1,none⟩ [.pointer ad])∧
 Calls Tryz.prog 65 #[.pointer ad] an fun a7 be=>
 ∃ o:Sl,(a7=.returned (.slice o.a o.len o.cap))∧
 Calls Tryz.prog 63 #[.pointer ((some ⟨k,0,none⟩)),.slice o.a o.len o.cap] be fun a8 ao=>
 (a8=.returned (.tuple #[]))∧
 (r (IntKind.i64.wrap (f + 1)) ao)∧ar (IntKind.i64.wrap (f + 1)) ao<ar f c) c))
 (NilP d fun F=>
 ∃ ae:Option Nat,(At (fun b=>b=c) ⟨F.block,F.off + 3,none⟩ [.map ae])∧
 ∃ af:Int,(∀ b,(fun b=>b=c) b→((Builtin.len_ #[78] 3 #[.map ae])).run Tryz.prog b=.ok (.int .i64 af) b)∧
 New (.cells #[.int .i64 af] 3 (0,0)) (fun a0 bf=>
 Calls Tryz.prog 60 #[.pointer ((some ⟨k,0,none⟩)),.slice ((some ⟨a0,0,none⟩)) 1 1] bf fun a9 ap=>
 (a9=.returned (.tuple #[]))∧
 NilP d fun G=>
 ∃ ag:Option Nat,(At (fun b=>b=ap) ⟨G.block,G.off + 3,none⟩ [.map ag])∧
 Calls Tryz.prog 66 #[.map ag] ap fun ba bg=>
 ∃ ah:Value,(ba=.returned (ah))∧
 Calls Tryz.prog 61 #[ah] bg fun bb bh=>
 ∃ p:Sl,(bb=.returned (.slice p.a p.len p.cap))∧
 ∃ (s:Int→World→Prop) (au:Int→World→Nat),(s 0 bh)∧∀ (bp:Env) (g:Int) (e:World),s g e→
 Br (decide (g<(↑p.len:Int)))
 (Rng g p.len (NilP p.a fun ax=>
 ∃ u:Int,(At (fun b=>b=e) (Addr.add ax g.toNat) [.int .i64 u])∧
 NilP d fun H=>
 ∃ ai:Option Nat,(At (fun b=>b=e) ⟨H.block,H.off + 3,none⟩ [.map ai])∧
 ∃ q:Option Addr,(∀ b,(fun b=>b=e) b→((Instr.lookup 78 (.map ai) (.int .i64 u) false)).run Tryz.prog b=.ok (.pointer q) b)∧
 Drw e fun j bi=>
 NilP q fun I=>
 ∃ aj:Int,(At j ⟨I.block,I.off + 1,none⟩ [.int .i64 aj])∧
 NilP q fun J=>
 ∃ ak:Int,(At j ⟨J.block,J.off + 2,none⟩ [.int .i64 ak])∧
 NilP q fun L=>
 ∃ al:Int,(At j ⟨L.block,L.off + 3,none⟩ [.int .i64 al])∧
 NilP q fun M=>
 ∃ am:Int,(At j ⟨M.block,M.off + 4,none⟩ [.int .i64 am])∧
 NilP q fun z=>
 ∃ N:Int,(At j ⟨z.block,z.off + 5,none⟩ [.int .i64 N])∧
 New (.cells #[.int .i64 u,.int .i64 aj,.int .i64 ak,.int .i64 al,.int .i64 am,.int .i64 N] 3 (0,0)) (fun ay bk=>
 Calls Tryz.prog 60 #[.pointer ((some ⟨k,0,none⟩)),.slice ((some ⟨ay,0,none⟩)) 6 6] bk fun a3 v=>
 (a3=.returned (.tuple #[]))∧
 (j v)∧
 (s (IntKind.i64.wrap (g + 1)) v)∧au (IntKind.i64.wrap (g + 1)) v<au g e) bi))
 (∃ l:Sl,(At (fun b=>b=e) ⟨k,0,none⟩ [.slice l.a l.len l.cap])∧
 K (.slice l.a l.len l.cap) e)) c)) bj) w
def sk18:Sk:=(.seq .leaf (.seq .leaf (.seq .leaf (.seq (.seq .leaf (.block (.loop [35] [(.int .i64)] [5,6,35,36,37,38,39,40,41,42,43,44,45,46,47,48,49,50,51,52,53,54,55] .leaf))) (.seq .leaf (.seq (.seq .leaf (.block (.loop [71] [(.int .i64)] [8,9,71,72,73,74,75,76,77,78,79,80,81,82,83,84,85,86,87,88,89,90,91,92,93,94,95,96,97,98,99,100,101,102,103,104,105] .leaf))) .leaf))))))
theorem call18 (a:Option Addr) (K:Value→World→Prop) (w:World) (h:B18 a K w):Gets Tryz.prog 18 #[.pointer a] w K:=cq (sk:=sk18) h Tryz.func18
def B162 (G:Option Addr) (H:Option Addr) (N:Option Addr) (K:Value→World→Prop) (w:World):Prop:=
 New (.cells #[.pointer G,.pointer H] 97 (0,0)) (fun g I=>
 New (.cells #[.pointer N] 86 (0,0)) (fun i d=>
 ∃ v:Option Addr,(At (fun c=>c=d) ⟨g,0,none⟩ [.pointer v])∧
 Br v.isNone
 (K (.bool false) d)
 (∃ x:Option Addr,(At (fun c=>c=d) ⟨i,0,none⟩ [.pointer x])∧
 NilP x fun m=>
 ∃ n:Int,(At (fun c=>c=d) ⟨m.block,m.off + 4,none⟩ [.int .i64 n])∧
 Br (n==3)
 (Drw d fun b J=>
 ∃ o:Option Addr,(At b ⟨i,0,none⟩ [.pointer o])∧
 NilP o fun l=>
 ∃ p:Int,(At b ⟨l.block,l.off + 2,none⟩ [.int .i64 p])∧
 ∃ q:Option Addr,(At b ⟨g,0,none⟩ [.pointer q])∧
 Calls Tryz.prog 55 #[.pointer q] J fun A k=>
 ∃ j:Sl,(A=.returned (.slice j.a j.len j.cap))∧
 (b k)∧
 Br (decide (p<(↑j.len:Int)))
 (∃ r:Option Addr,(At b ⟨g,0 + 1,none⟩ [.pointer r])∧
 Calls Tryz.prog 56 #[.pointer r] k fun C y=>
 ∃ e:Sl,(C=.returned (.slice e.a e.len e.cap))∧
 (b y)∧
 Calls Tryz.prog 230 #[.slice e.a e.len e.cap,.func (.func 231) #[] #[.pointer ((some ⟨i,0,none⟩))]] y fun D z=>
 ∃ s:Bool,(D=.returned (.bool s))∧
 (b z)∧
 K (.bool s) z)
 (K (.bool false) k))
 (∃ t:Option Addr,(At (fun c=>c=d) ⟨g,0,none⟩ [.pointer t])∧
 Calls Tryz.prog 134 #[.pointer t] d fun E L=>
 ∃ f:Sl,(E=.returned (.slice f.a f.len f.cap))∧
 Calls Tryz.prog 232 #[.slice f.a f.len f.cap,.func (.func 233) #[] #[.pointer ((some ⟨i,0,none⟩))]] L fun F M=>
 ∃ u:Bool,(F=.returned (.bool u))∧
 K (.bool u) M))) I) w
theorem call162 (a:Option Addr) (b:Option Addr) (c:Option Addr) (K:Value→World→Prop) (w:World) (h:B162 a b c K w):Gets Tryz.prog 162 #[.agg #[.pointer a,.pointer b],.pointer c] w K:=cq (sk:=.leaf) h Tryz.func162
def B231 (u:Int) (v:Int) (x:Int) (y:Int) (z:Nat) (c:Option Addr) (K:Value→World→Prop) (w:World):Prop:=
 New (.cells #[.int .i64 u,.int .i64 v,.int .i64 x,.int .i64 y,.float .f64 z] 168 (0,0)) (fun b A=>
 Drw A fun a d=>
 ∃ n:Int,(At a ⟨b,0,none⟩ [.int .i64 n])∧
 NilP c fun s=>
 ∃ o:Option Addr,(At a s [.pointer o])∧
 NilP o fun t=>
 ∃ p:Int,(At a (Addr.add t 0) [.int .i64 p])∧
 Br (n==p)
 (∃ g:Int,(At a ⟨b,0 + 1,none⟩ [.int .i64 g])∧
 NilP c fun q=>
 ∃ i:Option Addr,(At a q [.pointer i])∧
 NilP i fun e=>
 ∃ j:Int,(At a ⟨e.block,e.off + 2,none⟩ [.int .i64 j])∧
 Br (g==j)
 (∃ k:Int,(At a ⟨b,0 + 2,none⟩ [.int .i64 k])∧
 NilP c fun r=>
 ∃ l:Option Addr,(At a r [.pointer l])∧
 NilP l fun f=>
 ∃ m:Int,(At a ⟨f.block,f.off + 3,none⟩ [.int .i64 m])∧
 K (.bool (k==m)) d)
 (K (.bool false) d))
 (K (.bool false) d)) w
theorem call231 (b:Int) (c:Int) (d:Int) (e:Int) (f:Nat) (a:Option Addr) (K:Value→World→Prop) (w:World) (h:B231 b c d e f a K w):Gets Tryz.prog 231 #[.agg #[.int .i64 b,.int .i64 c,.int .i64 d,.int .i64 e,.float .f64 f],.pointer a] w K:=cq (sk:=.leaf) h Tryz.func231
def B233 (x:Int) (y:Int) (z:Int) (e:Sl) (d:Option Addr) (K:Value→World→Prop) (w:World):Prop:=
 New (.cells #[.int .i64 x,.int .i64 y,.int .i64 z,.slice e.a e.len e.cap] 197 (0,0)) (fun c A=>
 Drw A fun b f=>
 ∃ p:Int,(At b ⟨c,0,none⟩ [.int .i64 p])∧
 NilP d fun u=>
 ∃ q:Option Addr,(At b u [.pointer q])∧
 NilP q fun v=>
 ∃ r:Int,(At b (Addr.add v 0) [.int .i64 r])∧
 Br (p==r)
 (∃ j:Int,(At b ⟨c,0 + 1,none⟩ [.int .i64 j])∧
 NilP d fun s=>
 ∃ k:Option Addr,(At b s [.pointer k])∧
 NilP k fun g=>
 ∃ l:Int,(At b ⟨g.block,g.off + 2,none⟩ [.int .i64 l])∧
 Br (j==l)
 (∃ m:Int,(At b ⟨c,0 + 2,none⟩ [.int .i64 m])∧
 NilP d fun t=>
 ∃ n:Option Addr,(At b t [.pointer n])∧
 NilP n fun i=>
 ∃ o:Int,(At b ⟨i.block,i.off + 3,none⟩ [.int .i64 o])∧
 K (.bool (m==o)) f)
 (K (.bool false) f))
 (K (.bool false) f)) w
theorem call233 (d:Int) (e:Int) (f:Int) (b:Sl) (c:Option Addr) (K:Value→World→Prop) (w:World) (h:B233 d e f b c K w):Gets Tryz.prog 233 #[.agg #[.int .i64 d,.int .i64 e,.int .i64 f,.slice b.a b.len b.cap],.pointer c] w K:=cq (sk:=.leaf) h Tryz.func233
def B95 (I:Sl) (K:Value→World→Prop) (w:World):Prop:=
 New (.cells #[.pointer none] 25 (0,0)) (fun c id=>
 New (.cells #[.int .i64 0] 29 (0,0)) (fun d ie=>
 Calls Tryz.prog 91 #[.slice I.a I.len I.cap] ie fun c0 hv=>
 (∃ es:Option Addr,(c0=.returned (.pointer es))∧
 New (.cells #[.pointer none] 216 (0,0)) (fun f ig=>
 ∃ hz:World,((Instr.storeAt 216 (.pointer ((some ⟨f,0,none⟩))) (.agg #[.pointer es])).run Tryz.prog ig=.ok () hz)∧
 Calls Tryz.prog 10 #[] hz fun c1 h0=>
 (∃ ez:Option Addr,(c1=.returned (.pointer ez))∧
 ∃ h2:World,((Instr.storeAt 25 (.pointer ((some ⟨c,0,none⟩))) (.pointer ez)).run Tryz.prog h0=.ok () h2)∧
 Drw h2 fun k ik=>
 ∃ e2:Option Addr,(At k ⟨c,0,none⟩ [.pointer e2])∧
 ∃ e6:Option Addr,(At k ⟨c,0,none⟩ [.pointer e6])∧
 ∃ e7:Option Addr,(At k ⟨f,0,none⟩ [.pointer e7])∧
 ∃ e9:Option Addr,(At k ⟨f,0,none⟩ [.pointer e9])∧
 Calls Tryz.prog 157 #[.agg #[.pointer e7],.int .i64 1099511627776] ik fun dc bk=>
 (∃ e8:Int,(dc=.returned (.int .i64 e8))∧
 (k bk)∧
 Calls Tryz.prog 157 #[.agg #[.pointer e9],.int .i64 28629151] bk fun dn Q=>
 (∃ fa:Int,(dn=.returned (.int .i64 fa))∧
 (k Q)∧
 NilP e2 fun ic=>
 ∃ T:World,((Instr.storeAt 3 (.pointer ((some (Addr.add ic 0)))) (.int .i64 e8)).run Tryz.prog Q=.ok () T)∧
 (k T)∧
 NilP e6 fun bz=>
 ∃ U:World,((Instr.storeAt 3 (.pointer ((some ⟨bz.block,bz.off + 1,none⟩))) (.int .i64 fa)).run Tryz.prog T=.ok () U)∧
 ∃ fb:Option Addr,(At (fun b=>b=U) ⟨f,0,none⟩ [.pointer fb])∧
 Calls Tryz.prog 157 #[.agg #[.pointer fb],.int .i64 8] U fun du hm=>
 (∃ fc:Int,(du=.returned (.int .i64 fc))∧
 ∃ (F:Int→Int→Int→World→Prop) (h9:Int→Int→Int→World→Nat),(F 0 0 0 hm)∧∀ (il:Env) (J:Int) (x:Int) (r:Int) (o:World),F J x r o→
 Br (decide (r<fc))
 (∃ fr:Option Addr,(At (fun b=>b=o) ⟨f,0,none⟩ [.pointer fr])∧
 Calls Tryz.prog 94 #[.pointer fr,.int .i64 65536] o fun dv hn=>
 (∃ m:Sl,(dv=.returned (.slice m.a m.len m.cap))∧
 Calls Tryz.prog 158 #[.slice m.a m.len m.cap] hn fun dw V=>
 (∃ s:Option Addr,∃ fs:Int,(dw=.returned (.tuple #[.pointer s,.int .i64 fs]))∧
 ∃ ft:Option Addr,(At (fun b=>b=V) ⟨f,0,none⟩ [.pointer ft])∧
 Calls Tryz.prog 94 #[.pointer ft,.int .i64 65536] V fun dx ho=>
 (∃ n:Sl,(dx=.returned (.slice n.a n.len n.cap))∧
 Calls Tryz.prog 159 #[.slice n.a n.len n.cap] ho fun dy C=>
 (∃ N:Option Addr,∃ fu:Int,(dy=.returned (.tuple #[.pointer N,.int .i64 fu]))∧
 ∃ (z:World→Prop),(Br (fs==0)
 (Br (fu==0)
 (Calls Tryz.prog 160 #[.pointer s] C fun dz hp=>
 (∃ fv:Int,(dz=.returned (.int .i64 fv))∧
 Calls Tryz.prog 156 #[.bool (decide (fv>J))] hp fun c2 hq=>
 ((c2=.returned (.tuple #[]))∧
 z  hq)∨
 (∃ b3:List PanicEntry,(c2=.panicked b3)∧LeaveF Tryz.prog 155 [.pointer ((some ⟨c,0,none⟩)),.pointer ((some ⟨d,0,none⟩))] (.panicking b3) (fun X=>∃ fw:Option Addr,(At (fun b=>b=X) ⟨c,0,none⟩ [.pointer fw])∧
 ∃ fx:Int,(At (fun b=>b=X) ⟨d,0,none⟩ [.int .i64 fx])∧
 K (.tuple #[.pointer fw,.int .i64 fx]) X) hq))∨
 (∃ cz:List PanicEntry,(dz=.panicked cz)∧LeaveF Tryz.prog 155 [.pointer ((some ⟨c,0,none⟩)),.pointer ((some ⟨d,0,none⟩))] (.panicking cz) (fun Y=>∃ fy:Option Addr,(At (fun b=>b=Y) ⟨c,0,none⟩ [.pointer fy])∧
 ∃ fz:Int,(At (fun b=>b=Y) ⟨d,0,none⟩ [.int .i64 fz])∧
 K (.tuple #[.pointer fy,.int .i64 fz]) Y) hp))
 (Calls Tryz.prog 156 #[.bool false] C fun c3 hr=>
 ((c3=.returned (.tuple #[]))∧
 z  hr)∨
 (∃ b4:List PanicEntry,(c3=.panicked b4)∧LeaveF Tryz.prog 155 [.pointer ((some ⟨c,0,none⟩)),.pointer ((some ⟨d,0,none⟩))] (.panicking b4) (fun Z=>∃ f0:Option Addr,(At (fun b=>b=Z) ⟨c,0,none⟩ [.pointer f0])∧
 ∃ f1:Int,(At (fun b=>b=Z) ⟨d,0,none⟩ [.int .i64 f1])∧
 K (.tuple #[.pointer f0,.int .i64 f1]) Z) hr)))
 (Calls Tryz.prog 156 #[.bool false] C fun c4 hs=>
 ((c4=.returned (.tuple #[]))∧
 z  hs)∨
 (∃ b5:List PanicEntry,(c4=.panicked b5)∧LeaveF Tryz.prog 155 [.pointer ((some ⟨c,0,none⟩)),.pointer ((some ⟨d,0,none⟩))] (.panicking b5) (fun aa=>∃ f2:Option Addr,(At (fun b=>b=aa) ⟨c,0,none⟩ [.pointer f2])∧
 ∃ f3:Int,(At (fun b=>b=aa) ⟨d,0,none⟩ [.int .i64 f3])∧
 K (.tuple #[.pointer f2,.int .i64 f3]) aa) hs)))∧
 ∀ (im:Env)  (ht:World),z  ht→
 Calls Tryz.prog 160 #[.pointer s] ht fun c5 D=>
 (∃ A:Int,(c5=.returned (.int .i64 A))∧
 ∃ f4:Option Addr,(At (fun b=>b=D) ⟨c,0,none⟩ [.pointer f4])∧
 NilP f4 fun b0=>
 ∃ f5:Option Nat,(At (fun b=>b=D) ⟨b0.block,b0.off + 2,none⟩ [.map f5])∧
 ∃ hu:World,((Instr.mapUpdate 77 (.map f5) (.int .i64 A) (.agg #[.pointer s,.pointer N])).run Tryz.prog D=.ok () hu)∧
 Calls Tryz.prog 134 #[.pointer s] hu fun c6 hw=>
 (∃ t:Sl,(c6=.returned (.slice t.a t.len t.cap))∧
 Calls Tryz.prog 56 #[.pointer N] hw fun c7 ab=>
 (∃ u:Sl,(c7=.returned (.slice u.a u.len u.cap))∧
 (F A (IntKind.i64.wrap (x + IntKind.i64.wrap ((↑t.len:Int) + (↑u.len:Int)))) (IntKind.i64.wrap (r + 1)) ab)∧h9 A (IntKind.i64.wrap (x + IntKind.i64.wrap ((↑t.len:Int) + (↑u.len:Int)))) (IntKind.i64.wrap (r + 1)) ab<h9 J x r o)∨
 (∃ b8:List PanicEntry,(c7=.panicked b8)∧LeaveF Tryz.prog 155 [.pointer ((some ⟨c,0,none⟩)),.pointer ((some ⟨d,0,none⟩))] (.panicking b8) (fun ac=>∃ fd:Option Addr,(At (fun b=>b=ac) ⟨c,0,none⟩ [.pointer fd])∧
 ∃ fj:Int,(At (fun b=>b=ac) ⟨d,0,none⟩ [.int .i64 fj])∧
 K (.tuple #[.pointer fd,.int .i64 fj]) ac) ab))∨
 (∃ b7:List PanicEntry,(c6=.panicked b7)∧LeaveF Tryz.prog 155 [.pointer ((some ⟨c,0,none⟩)),.pointer ((some ⟨d,0,none⟩))] (.panicking b7) (fun ad=>∃ fk:Option Addr,(At (fun b=>b=ad) ⟨c,0,none⟩ [.pointer fk])∧
 ∃ fl:Int,(At (fun b=>b=ad) ⟨d,0,none⟩ [.int .i64 fl])∧
 K (.tuple #[.pointer fk,.int .i64 fl]) ad) hw))∨
 (∃ b6:List PanicEntry,(c5=.panicked b6)∧LeaveF Tryz.prog 155 [.pointer ((some ⟨c,0,none⟩)),.pointer ((some ⟨d,0,none⟩))] (.panicking b6) (fun ae=>∃ fm:Option Addr,(At (fun b=>b=ae) ⟨c,0,none⟩ [.pointer fm])∧
 ∃ fn:Int,(At (fun b=>b=ae) ⟨d,0,none⟩ [.int .i64 fn])∧
 K (.tuple #[.pointer fm,.int .i64 fn]) ae) D))∨
 (∃ cy:List PanicEntry,(dy=.panicked cy)∧LeaveF Tryz.prog 155 [.pointer ((some ⟨c,0,none⟩)),.pointer ((some ⟨d,0,none⟩))] (.panicking cy) (fun af=>∃ fo:Option Addr,(At (fun b=>b=af) ⟨c,0,none⟩ [.pointer fo])∧
 ∃ fp:Int,(At (fun b=>b=af) ⟨d,0,none⟩ [.int .i64 fp])∧
 K (.tuple #[.pointer fo,.int .i64 fp]) af) C))∨
 (∃ cx:List PanicEntry,(dx=.panicked cx)∧LeaveF Tryz.prog 155 [.pointer ((some ⟨c,0,none⟩)),.pointer ((some ⟨d,0,none⟩))] (.panicking cx) (fun ag=>∃ fq:Option Addr,(At (fun b=>b=ag) ⟨c,0,none⟩ [.pointer fq])∧
 ∃ fe:Int,(At (fun b=>b=ag) ⟨d,0,none⟩ [.int .i64 fe])∧
 K (.tuple #[.pointer fq,.int .i64 fe]) ag) ho))∨
 (∃ cw:List PanicEntry,(dw=.panicked cw)∧LeaveF Tryz.prog 155 [.pointer ((some ⟨c,0,none⟩)),.pointer ((some ⟨d,0,none⟩))] (.panicking cw) (fun ah=>∃ ff:Option Addr,(At (fun b=>b=ah) ⟨c,0,none⟩ [.pointer ff])∧
 ∃ fg:Int,(At (fun b=>b=ah) ⟨d,0,none⟩ [.int .i64 fg])∧
 K (.tuple #[.pointer ff,.int .i64 fg]) ah) V))∨
 (∃ cv:List PanicEntry,(dv=.panicked cv)∧LeaveF Tryz.prog 155 [.pointer ((some ⟨c,0,none⟩)),.pointer ((some ⟨d,0,none⟩))] (.panicking cv) (fun ai=>∃ fh:Option Addr,(At (fun b=>b=ai) ⟨c,0,none⟩ [.pointer fh])∧
 ∃ fi:Int,(At (fun b=>b=ai) ⟨d,0,none⟩ [.int .i64 fi])∧
 K (.tuple #[.pointer fh,.int .i64 fi]) ai) hn))
 (∃ f6:Option Addr,(At (fun b=>b=o) ⟨f,0,none⟩ [.pointer f6])∧
 Calls Tryz.prog 157 #[.agg #[.pointer f6],.int .i64 300] o fun c8 hx=>
 (∃ O:Int,(c8=.returned (.int .i64 O))∧
 ∃ (G:Int→Int→World→Prop) (ia:Int→Int→World→Nat),(G 0 0 hx)∧∀ (io:Env) (L:Int) (v:Int) (y:World),G L v y→
 Br (decide (v<O))
 (Drw y fun i ih=>
 ∃ gn:Option Addr,(At i ⟨f,0,none⟩ [.pointer gn])∧
 ∃ gs:Option Addr,(At i ⟨f,0,none⟩ [.pointer gs])∧
 ∃ gu:Option Addr,(At i ⟨f,0,none⟩ [.pointer gu])∧
 Calls Tryz.prog 157 #[.agg #[.pointer gn],.int .i64 28629151] ih fun c9 aj=>
 (∃ go:Int,(c9=.returned (.int .i64 go))∧
 (i aj)∧
 Calls Tryz.prog 161 #[.pointer ((some ⟨f,0,none⟩))] aj fun da ak=>
 (∃ gp:Int,(da=.returned (.int .i64 gp))∧
 (i ak)∧
 Calls Tryz.prog 161 #[.pointer ((some ⟨f,0,none⟩))] ak fun db al=>
 (∃ gq:Int,(db=.returned (.int .i64 gq))∧
 (i al)∧
 Calls Tryz.prog 161 #[.pointer ((some ⟨f,0,none⟩))] al fun dd am=>
 (∃ gr:Int,(dd=.returned (.int .i64 gr))∧
 (i am)∧
 Calls Tryz.prog 157 #[.agg #[.pointer gs],.int .i64 3] am fun de an=>
 (∃ gt:Int,(de=.returned (.int .i64 gt))∧
 (i an)∧
 Calls Tryz.prog 157 #[.agg #[.pointer gu],.int .i64 1099511627776] an fun df ao=>
 (∃ gv:Int,(df=.returned (.int .i64 gv))∧
 (i ao)∧
 New (.cells #[.int .i64 go,.int .i64 gp,.int .i64 gq,.int .i64 gr,.int .i64 gt,.int .i64 gv] 121 (0,0)) (fun g hy=>
 (i hy)∧
 ∃ (j:World→Prop),(Drw hy fun e p=>
 ∃ d0:Int,(At e ⟨g,0,none⟩ [.int .i64 d0])∧
 Br (decide (d0>L))
 (∃ d1:Int,(At e ⟨g,0,none⟩ [.int .i64 d1])∧
 ∃ d2:Option Addr,(At e ⟨c,0,none⟩ [.pointer d2])∧
 NilP d2 fun bu=>
 ∃ d3:Int,(At e ⟨bu.block,bu.off + 1,none⟩ [.int .i64 d3])∧
 Br (decide (d1<d3))
 (∃ d4:Int,(At e ⟨g,0 + 4,none⟩ [.int .i64 d4])∧
 Br (decide (d4 ≥ 1))
 (∃ d5:Int,(At e ⟨g,0 + 4,none⟩ [.int .i64 d5])∧
 ∃ d6:Int,(At e ⟨g,0 + 5,none⟩ [.int .i64 d6])∧
 ∃ d7:Option Addr,(At e ⟨c,0,none⟩ [.pointer d7])∧
 NilP d7 fun ib=>
 ∃ d8:Int,(At e (Addr.add ib 0) [.int .i64 d8])∧
 Br ((d5==1)==decide (d6>d8))
 (∃ d9:Int,(At e ⟨g,0 + 4,none⟩ [.int .i64 d9])∧
 Br (d9==1)
 (Calls Tryz.prog 156 #[.bool true] p fun dg ap=>
 ((dg=.returned (.tuple #[]))∧
 (e ap)∧
 j  ap)∨
 (∃ ch:List PanicEntry,(dg=.panicked ch)∧LeaveF Tryz.prog 155 [.pointer ((some ⟨c,0,none⟩)),.pointer ((some ⟨d,0,none⟩))] (.panicking ch) (fun aq=>∃ eb:Option Addr,(At (fun b=>b=aq) ⟨c,0,none⟩ [.pointer eb])∧
 ∃ ec:Int,(At (fun b=>b=aq) ⟨d,0,none⟩ [.int .i64 ec])∧
 K (.tuple #[.pointer eb,.int .i64 ec]) aq) ap))
 (∃ ea:Int,(At e ⟨g,0 + 5,none⟩ [.int .i64 ea])∧
 Calls Tryz.prog 156 #[.bool (ea==0)] p fun dh ar=>
 ((dh=.returned (.tuple #[]))∧
 (e ar)∧
 j  ar)∨
 (∃ ci:List PanicEntry,(dh=.panicked ci)∧LeaveF Tryz.prog 155 [.pointer ((some ⟨c,0,none⟩)),.pointer ((some ⟨d,0,none⟩))] (.panicking ci) (fun au=>∃ ef:Option Addr,(At (fun b=>b=au) ⟨c,0,none⟩ [.pointer ef])∧
 ∃ eg:Int,(At (fun b=>b=au) ⟨d,0,none⟩ [.int .i64 eg])∧
 K (.tuple #[.pointer ef,.int .i64 eg]) au) ar)))
 (Calls Tryz.prog 156 #[.bool false] p fun di av=>
 ((di=.returned (.tuple #[]))∧
 (e av)∧
 j  av)∨
 (∃ cj:List PanicEntry,(di=.panicked cj)∧LeaveF Tryz.prog 155 [.pointer ((some ⟨c,0,none⟩)),.pointer ((some ⟨d,0,none⟩))] (.panicking cj) (fun aw=>∃ eh:Option Addr,(At (fun b=>b=aw) ⟨c,0,none⟩ [.pointer eh])∧
 ∃ ei:Int,(At (fun b=>b=aw) ⟨d,0,none⟩ [.int .i64 ei])∧
 K (.tuple #[.pointer eh,.int .i64 ei]) aw) av)))
 (Calls Tryz.prog 156 #[.bool false] p fun dj ax=>
 ((dj=.returned (.tuple #[]))∧
 (e ax)∧
 j  ax)∨
 (∃ ck:List PanicEntry,(dj=.panicked ck)∧LeaveF Tryz.prog 155 [.pointer ((some ⟨c,0,none⟩)),.pointer ((some ⟨d,0,none⟩))] (.panicking ck) (fun ay=>∃ ej:Option Addr,(At (fun b=>b=ay) ⟨c,0,none⟩ [.pointer ej])∧
 ∃ ek:Int,(At (fun b=>b=ay) ⟨d,0,none⟩ [.int .i64 ek])∧
 K (.tuple #[.pointer ej,.int .i64 ek]) ay) ax)))
 (Calls Tryz.prog 156 #[.bool false] p fun dk az=>
 ((dk=.returned (.tuple #[]))∧
 (e az)∧
 j  az)∨
 (∃ cl:List PanicEntry,(dk=.panicked cl)∧LeaveF Tryz.prog 155 [.pointer ((some ⟨c,0,none⟩)),.pointer ((some ⟨d,0,none⟩))] (.panicking cl) (fun a0=>∃ el:Option Addr,(At (fun b=>b=a0) ⟨c,0,none⟩ [.pointer el])∧
 ∃ em:Int,(At (fun b=>b=a0) ⟨d,0,none⟩ [.int .i64 em])∧
 K (.tuple #[.pointer el,.int .i64 em]) a0) az)))
 (Calls Tryz.prog 156 #[.bool false] p fun dl a1=>
 ((dl=.returned (.tuple #[]))∧
 (e a1)∧
 j  a1)∨
 (∃ cm:List PanicEntry,(dl=.panicked cm)∧LeaveF Tryz.prog 155 [.pointer ((some ⟨c,0,none⟩)),.pointer ((some ⟨d,0,none⟩))] (.panicking cm) (fun a2=>∃ ed:Option Addr,(At (fun b=>b=a2) ⟨c,0,none⟩ [.pointer ed])∧
 ∃ ee:Int,(At (fun b=>b=a2) ⟨d,0,none⟩ [.int .i64 ee])∧
 K (.tuple #[.pointer ed,.int .i64 ee]) a2) a1)))∧
 ∀ (ip:Env)  (h1:World),j  h1→
 Drw h1 fun l ii=>
 ∃ en:Option Addr,(At l ⟨c,0,none⟩ [.pointer en])∧
 NilP en fun bv=>
 ∃ eo:Option Nat,(At l ⟨bv.block,bv.off + 2,none⟩ [.map eo])∧
 ∃ ep:Int,(At l ⟨g,0 + 1,none⟩ [.int .i64 ep])∧
 ∃ eq:Option Addr,∃ er:Option Addr,(∀ b,l b→((Instr.lookup 77 (.map eo) (.int .i64 ep) false)).run Tryz.prog b=.ok (.agg #[.pointer eq,.pointer er]) b)∧
 Calls Tryz.prog 162 #[.agg #[.pointer eq,.pointer er],.pointer ((some ⟨g,0,none⟩))] ii fun dm a3=>
 (∃ et:Bool,(dm=.returned (.bool et))∧
 (l a3)∧
 Calls Tryz.prog 156 #[.bool et] a3 fun dp E=>
 ((dp=.returned (.tuple #[]))∧
 (l E)∧
 ∃ M:Int,(At (fun b=>b=E) ⟨g,0,none⟩ [.int .i64 M])∧
 Drw E fun H ij=>
 ∃ eu:Option Addr,(At H ⟨c,0,none⟩ [.pointer eu])∧
 NilP eu fun bw=>
 ∃ ev:Option Nat,(At H ⟨bw.block,bw.off + 3,none⟩ [.map ev])∧
 ∃ ew:Int,(At H ⟨g,0,none⟩ [.int .i64 ew])∧
 ∃ a4:World,((Instr.mapUpdate 78 (.map ev) (.int .i64 ew) (.pointer ((some ⟨g,0,none⟩)))).run Tryz.prog ij=.ok () a4)∧
 (G M (IntKind.i64.wrap (v + 1)) a4)∧ia M (IntKind.i64.wrap (v + 1)) a4<ia L v y)∨
 (∃ cp:List PanicEntry,(dp=.panicked cp)∧LeaveF Tryz.prog 155 [.pointer ((some ⟨c,0,none⟩)),.pointer ((some ⟨d,0,none⟩))] (.panicking cp) (fun a5=>∃ f7:Option Addr,(At (fun b=>b=a5) ⟨c,0,none⟩ [.pointer f7])∧
 ∃ gf:Int,(At (fun b=>b=a5) ⟨d,0,none⟩ [.int .i64 gf])∧
 K (.tuple #[.pointer f7,.int .i64 gf]) a5) E))∨
 (∃ cn:List PanicEntry,(dm=.panicked cn)∧LeaveF Tryz.prog 155 [.pointer ((some ⟨c,0,none⟩)),.pointer ((some ⟨d,0,none⟩))] (.panicking cn) (fun a6=>∃ gg:Option Addr,(At (fun b=>b=a6) ⟨c,0,none⟩ [.pointer gg])∧
 ∃ gh:Int,(At (fun b=>b=a6) ⟨d,0,none⟩ [.int .i64 gh])∧
 K (.tuple #[.pointer gg,.int .i64 gh]) a6) a3)) ao)∨
 (∃ cg:List PanicEntry,(df=.panicked cg)∧LeaveF Tryz.prog 155 [.pointer ((some ⟨c,0,none⟩)),.pointer ((some ⟨d,0,none⟩))] (.panicking cg) (fun a7=>∃ gi:Option Addr,(At (fun b=>b=a7) ⟨c,0,none⟩ [.pointer gi])∧
 ∃ gj:Int,(At (fun b=>b=a7) ⟨d,0,none⟩ [.int .i64 gj])∧
 K (.tuple #[.pointer gi,.int .i64 gj]) a7) ao))∨
 (∃ cf:List PanicEntry,(de=.panicked cf)∧LeaveF Tryz.prog 155 [.pointer ((some ⟨c,0,none⟩)),.pointer ((some ⟨d,0,none⟩))] (.panicking cf) (fun a8=>∃ gk:Option Addr,(At (fun b=>b=a8) ⟨c,0,none⟩ [.pointer gk])∧
 ∃ gl:Int,(At (fun b=>b=a8) ⟨d,0,none⟩ [.int .i64 gl])∧
 K (.tuple #[.pointer gk,.int .i64 gl]) a8) an))∨
 (∃ ce:List PanicEntry,(dd=.panicked ce)∧LeaveF Tryz.prog 155 [.pointer ((some ⟨c,0,none⟩)),.pointer ((some ⟨d,0,none⟩))] (.panicking ce) (fun a9=>∃ gm:Option Addr,(At (fun b=>b=a9) ⟨c,0,none⟩ [.pointer gm])∧
 ∃ f8:Int,(At (fun b=>b=a9) ⟨d,0,none⟩ [.int .i64 f8])∧
 K (.tuple #[.pointer gm,.int .i64 f8]) a9) am))∨
 (∃ cc:List PanicEntry,(db=.panicked cc)∧LeaveF Tryz.prog 155 [.pointer ((some ⟨c,0,none⟩)),.pointer ((some ⟨d,0,none⟩))] (.panicking cc) (fun ba=>∃ f9:Option Addr,(At (fun b=>b=ba) ⟨c,0,none⟩ [.pointer f9])∧
 ∃ ga:Int,(At (fun b=>b=ba) ⟨d,0,none⟩ [.int .i64 ga])∧
 K (.tuple #[.pointer f9,.int .i64 ga]) ba) al))∨
 (∃ cb:List PanicEntry,(da=.panicked cb)∧LeaveF Tryz.prog 155 [.pointer ((some ⟨c,0,none⟩)),.pointer ((some ⟨d,0,none⟩))] (.panicking cb) (fun bb=>∃ gb:Option Addr,(At (fun b=>b=bb) ⟨c,0,none⟩ [.pointer gb])∧
 ∃ gc:Int,(At (fun b=>b=bb) ⟨d,0,none⟩ [.int .i64 gc])∧
 K (.tuple #[.pointer gb,.int .i64 gc]) bb) ak))∨
 (∃ ca:List PanicEntry,(c9=.panicked ca)∧LeaveF Tryz.prog 155 [.pointer ((some ⟨c,0,none⟩)),.pointer ((some ⟨d,0,none⟩))] (.panicking ca) (fun bc=>∃ gd:Option Addr,(At (fun b=>b=bc) ⟨c,0,none⟩ [.pointer gd])∧
 ∃ ge:Int,(At (fun b=>b=bc) ⟨d,0,none⟩ [.int .i64 ge])∧
 K (.tuple #[.pointer gd,.int .i64 ge]) bc) aj))
 (∃ ex:Option Addr,(At (fun b=>b=y) ⟨f,0,none⟩ [.pointer ex])∧
 Calls Tryz.prog 96 #[.pointer ex] y fun dq q=>
 (∃ ey:Bool,(dq=.returned (.bool ey))∧
 Br ey
 (∃ e0:Option Addr,(At (fun b=>b=q) ⟨c,0,none⟩ [.pointer e0])∧
 NilP e0 fun bx=>
 ∃ e1:Int,(At (fun b=>b=q) ⟨bx.block,bx.off + 1,none⟩ [.int .i64 e1])∧
 Br (decide (e1 ≥ 1))
 (Calls Tryz.prog 156 #[.bool (x==O)] q fun dr bd=>
 ((dr=.returned (.tuple #[]))∧
 ∃ e3:Option Addr,(At (fun b=>b=bd) ⟨c,0,none⟩ [.pointer e3])∧
 ∃ h3:World,((Instr.storeAt 25 (.pointer ((some ⟨c,0,none⟩))) (.pointer e3)).run Tryz.prog bd=.ok () h3)∧
 ∃ h4:World,((Instr.storeAt 29 (.pointer ((some ⟨d,0,none⟩))) (.int .i64 0)).run Tryz.prog h3=.ok () h4)∧
 LeaveF Tryz.prog 155 [.pointer ((some ⟨c,0,none⟩)),.pointer ((some ⟨d,0,none⟩))] .returning (fun be=>∃ gw:Option Addr,(At (fun b=>b=be) ⟨c,0,none⟩ [.pointer gw])∧
 ∃ gx:Int,(At (fun b=>b=be) ⟨d,0,none⟩ [.int .i64 gx])∧
 K (.tuple #[.pointer gw,.int .i64 gx]) be) h4)∨
 (∃ cr:List PanicEntry,(dr=.panicked cr)∧LeaveF Tryz.prog 155 [.pointer ((some ⟨c,0,none⟩)),.pointer ((some ⟨d,0,none⟩))] (.panicking cr) (fun bf=>∃ g8:Option Addr,(At (fun b=>b=bf) ⟨c,0,none⟩ [.pointer g8])∧
 ∃ hf:Int,(At (fun b=>b=bf) ⟨d,0,none⟩ [.int .i64 hf])∧
 K (.tuple #[.pointer g8,.int .i64 hf]) bf) bd))
 (Calls Tryz.prog 156 #[.bool false] q fun ds bg=>
 ((ds=.returned (.tuple #[]))∧
 ∃ e4:Option Addr,(At (fun b=>b=bg) ⟨c,0,none⟩ [.pointer e4])∧
 ∃ h5:World,((Instr.storeAt 25 (.pointer ((some ⟨c,0,none⟩))) (.pointer e4)).run Tryz.prog bg=.ok () h5)∧
 ∃ h6:World,((Instr.storeAt 29 (.pointer ((some ⟨d,0,none⟩))) (.int .i64 0)).run Tryz.prog h5=.ok () h6)∧
 LeaveF Tryz.prog 155 [.pointer ((some ⟨c,0,none⟩)),.pointer ((some ⟨d,0,none⟩))] .returning (fun bh=>∃ hg:Option Addr,(At (fun b=>b=bh) ⟨c,0,none⟩ [.pointer hg])∧
 ∃ hh:Int,(At (fun b=>b=bh) ⟨d,0,none⟩ [.int .i64 hh])∧
 K (.tuple #[.pointer hg,.int .i64 hh]) bh) h6)∨
 (∃ cs:List PanicEntry,(ds=.panicked cs)∧LeaveF Tryz.prog 155 [.pointer ((some ⟨c,0,none⟩)),.pointer ((some ⟨d,0,none⟩))] (.panicking cs) (fun bi=>∃ hi:Option Addr,(At (fun b=>b=bi) ⟨c,0,none⟩ [.pointer hi])∧
 ∃ hj:Int,(At (fun b=>b=bi) ⟨d,0,none⟩ [.int .i64 hj])∧
 K (.tuple #[.pointer hi,.int .i64 hj]) bi) bg)))
 (Calls Tryz.prog 156 #[.bool false] q fun dt bj=>
 ((dt=.returned (.tuple #[]))∧
 ∃ e5:Option Addr,(At (fun b=>b=bj) ⟨c,0,none⟩ [.pointer e5])∧
 ∃ h7:World,((Instr.storeAt 25 (.pointer ((some ⟨c,0,none⟩))) (.pointer e5)).run Tryz.prog bj=.ok () h7)∧
 ∃ h8:World,((Instr.storeAt 29 (.pointer ((some ⟨d,0,none⟩))) (.int .i64 0)).run Tryz.prog h7=.ok () h8)∧
 LeaveF Tryz.prog 155 [.pointer ((some ⟨c,0,none⟩)),.pointer ((some ⟨d,0,none⟩))] .returning (fun bl=>∃ hk:Option Addr,(At (fun b=>b=bl) ⟨c,0,none⟩ [.pointer hk])∧
 ∃ hl:Int,(At (fun b=>b=bl) ⟨d,0,none⟩ [.int .i64 hl])∧
 K (.tuple #[.pointer hk,.int .i64 hl]) bl) h8)∨
 (∃ ct:List PanicEntry,(dt=.panicked ct)∧LeaveF Tryz.prog 155 [.pointer ((some ⟨c,0,none⟩)),.pointer ((some ⟨d,0,none⟩))] (.panicking ct) (fun bm=>∃ gy:Option Addr,(At (fun b=>b=bm) ⟨c,0,none⟩ [.pointer gy])∧
 ∃ gz:Int,(At (fun b=>b=bm) ⟨d,0,none⟩ [.int .i64 gz])∧
 K (.tuple #[.pointer gy,.int .i64 gz]) bm) bj)))∨
 (∃ cq:List PanicEntry,(dq=.panicked cq)∧LeaveF Tryz.prog 155 [.pointer ((some ⟨c,0,none⟩)),.pointer ((some ⟨d,0,none⟩))] (.panicking cq) (fun bn=>∃ g0:Option Addr,(At (fun b=>b=bn) ⟨c,0,none⟩ [.pointer g0])∧
 ∃ g1:Int,(At (fun b=>b=bn) ⟨d,0,none⟩ [.int .i64 g1])∧
 K (.tuple #[.pointer g0,.int .i64 g1]) bn) q)))∨
 (∃ b9:List PanicEntry,(c8=.panicked b9)∧LeaveF Tryz.prog 155 [.pointer ((some ⟨c,0,none⟩)),.pointer ((some ⟨d,0,none⟩))] (.panicking b9) (fun bo=>∃ g2:Option Addr,(At (fun b=>b=bo) ⟨c,0,none⟩ [.pointer g2])∧
 ∃ g3:Int,(At (fun b=>b=bo) ⟨d,0,none⟩ [.int .i64 g3])∧
 K (.tuple #[.pointer g2,.int .i64 g3]) bo) hx)))∨
 (∃ cu:List PanicEntry,(du=.panicked cu)∧LeaveF Tryz.prog 155 [.pointer ((some ⟨c,0,none⟩)),.pointer ((some ⟨d,0,none⟩))] (.panicking cu) (fun bp=>∃ g4:Option Addr,(At (fun b=>b=bp) ⟨c,0,none⟩ [.pointer g4])∧
 ∃ g5:Int,(At (fun b=>b=bp) ⟨d,0,none⟩ [.int .i64 g5])∧
 K (.tuple #[.pointer g4,.int .i64 g5]) bp) hm))∨
 (∃ co:List PanicEntry,(dn=.panicked co)∧LeaveF Tryz.prog 155 [.pointer ((some ⟨c,0,none⟩)),.pointer ((some ⟨d,0,none⟩))] (.panicking co) (fun bq=>∃ g6:Option Addr,(At (fun b=>b=bq) ⟨c,0,none⟩ [.pointer g6])∧
 ∃ g7:Int,(At (fun b=>b=bq) ⟨d,0,none⟩ [.int .i64 g7])∧
 K (.tuple #[.pointer g6,.int .i64 g7]) bq) Q))∨
 (∃ cd:List PanicEntry,(dc=.panicked cd)∧LeaveF Tryz.prog 155 [.pointer ((some ⟨c,0,none⟩)),.pointer ((some ⟨d,0,none⟩))] (.panicking cd) (fun br=>∃ g9:Option Addr,(At (fun b=>b=br) ⟨c,0,none⟩ [.pointer g9])∧
 ∃ ha:Int,(At (fun b=>b=br) ⟨d,0,none⟩ [.int .i64 ha])∧
 K (.tuple #[.pointer g9,.int .i64 ha]) br) bk))∨
 (∃ b2:List PanicEntry,(c1=.panicked b2)∧LeaveF Tryz.prog 155 [.pointer ((some ⟨c,0,none⟩)),.pointer ((some ⟨d,0,none⟩))] (.panicking b2) (fun bs=>∃ hb:Option Addr,(At (fun b=>b=bs) ⟨c,0,none⟩ [.pointer hb])∧
 ∃ hc:Int,(At (fun b=>b=bs) ⟨d,0,none⟩ [.int .i64 hc])∧
 K (.tuple #[.pointer hb,.int .i64 hc]) bs) h0)) hv)∨
 (∃ b1:List PanicEntry,(c0=.panicked b1)∧LeaveF Tryz.prog 155 [.pointer ((some ⟨c,0,none⟩)),.pointer ((some ⟨d,0,none⟩))] (.panicking b1) (fun bt=>∃ hd:Option Addr,(At (fun b=>b=bt) ⟨c,0,none⟩ [.pointer hd])∧
 ∃ he:Int,(At (fun b=>b=bt) ⟨d,0,none⟩ [.int .i64 he])∧
 K (.tuple #[.pointer hd,.int .i64 he]) bt) hv)) id) w
def sk95:Sk:=(.seq .leaf (.seq .leaf (.seq .leaf (.seq .leaf (.seq .leaf (.seq (.seq .leaf (.block (.loop [6,7,32] [(.int .i64),(.int .i64),(.int .i64)] [6,7,8,9,10,11,32,33,34,35,36,37,38,39,40,41,42,43,44,45,46,47,48,49,50,51,52,53,54,55,56,57,58,59,60,61,62,63,64,65,66,67,68,69,70,71,72,73,74,75,76,77,78,79,80,81] (.seq .leaf (.seq .leaf (.seq (.block (.seq .leaf (.seq .leaf (.cut [] [] [48,49,50,51,52,53,54,55,56,57,58,59,60,61] .leaf .leaf)))) .leaf)))))) (.seq .leaf (.seq .leaf (.seq (.seq .leaf (.block (.loop [6,85] [(.int .i64),(.int .i64)] [6,13,14,85,86,87,88,89,90,91,92,93,94,95,96,97,98,99,100,101,102,103,104,105,106,107,108,109,110,111,112,113,114,115,116,117,118,119,120,121,122,123,124,125,126,127,128,129,130,131,132,133,134,135,136,137,138,139,140,141,142,143,144,145,146,147,148,149,150,151,152,153,154,155,156,157,158,159,160,161,162,163,164,165,166,167,168,169,170,171,172,173,174,175,176,177,178,179,180,181,182,183,184,185] (.seq .leaf (.seq .leaf (.seq (.block (.seq .leaf (.seq .leaf (.cut [] [] [102,103,104,105,106,107,108,109,110,111,112,113,114,115,116,117,118,119,120,121,122,123,124,125,126,127,128,129,130,131,132,133,134,135,136,137,138,139,140,141,142,143,144,145,146,147,148,149,150,151,152,153,154,155,156,157,158] .leaf .leaf)))) .leaf)))))) .leaf)))))))))
theorem call95 (b:Sl) (K:Value→World→Prop) (w:World) (h:B95 b K w):Gets Tryz.prog 95 #[.slice b.a b.len b.cap] w K:=cqd (sk:=sk95) h Tryz.func95
def B155 (i:Option Addr) (j:Option Addr) (c:Value) (K:World→Prop) (w:World):Prop:=
 ∃ e:Bool,(∀ a,(fun a=>a=w) a→((do eqGuard BinOp.neq 20 (Operand.tmp 4) (Operand.const Value.nilIface) c .nilIface;binOp BinOp.neq 20 c .nilIface:Sem Value)).run Tryz.prog a=.ok (.bool e) a)∧
 Br e
 (Drw w fun d k=>
 ∃ f:Int,(∀ a,d a→((Instr.typeAssert c 20 29 false)).run Tryz.prog a=.ok (.int .i64 f) a)∧
 ∃ b:World,((Instr.storeAt 25 (.pointer i) (.pointer none)).run Tryz.prog k=.ok () b)∧
 (d b)∧
 ∃ g:World,((Instr.storeAt 29 (.pointer j) (.int .i64 f)).run Tryz.prog b=.ok () g)∧
 K g)
 (K w)
theorem callP155 (b:Option Addr) (c:Option Addr) (a:Value) (K:World→Prop) (w:World) (h:B155 b c a K w):CallsD Tryz.prog 155 #[.pointer b,.pointer c] (.panicking [⟨a,false,false⟩]) w fun d e f=>(∃ g,d=.returned g)∧e=.panicking [⟨a,true,false⟩]∧K f:=
 rec_panic (sk:=.leaf) cl_ok mixed Tryz.func155 (by kernel_rfl) (Nat.le_of_ble_eq_true (by kernel_rfl)) (cast (by kernel_rfl) h)
theorem callR155 (a:Option Addr) (b:Option Addr) (K:World→Prop) (w:World) (h:B155 a b .nilIface K w):CallsD Tryz.prog 155 #[.pointer a,.pointer b] .returning w fun c d e=>(∃ f,c=.returned f)∧d=.returning∧K e:=
 rec_return (sk:=.leaf) cl_ok mixed Tryz.func155 (by kernel_rfl) (Nat.le_of_ble_eq_true (by kernel_rfl)) (cast (by kernel_rfl) h)
def B156 (e:Bool) (d:List PanicEntry→World→Prop) (K:Value→World→Prop) (w:World):Prop:=
 Calls Tryz.prog 37 #[.bool e,.int .i64 6] w fun b c=>
 ((b=.returned (.tuple #[]))∧
 K (.tuple #[]) c)∨
 (∃ a:List PanicEntry,(b=.panicked a)∧d a c)
theorem call156 (b:Bool) (a:List PanicEntry→World→Prop) (K:Value→World→Prop) (w:World) (h:B156 b a K w):GetsX Tryz.prog 156 #[.bool b] w a K:=cqx (sk:=.leaf) h Tryz.func156
def B161 (d:Option Addr) (K:Value→World→Prop) (w:World):Prop:=
 NilP d fun c=>
 ∃ a:Option Addr,(At (fun f=>f=w) c [.pointer a])∧
 Calls Tryz.prog 157 #[.agg #[.pointer a],.int .i64 9999] w fun e g=>
 ∃ b:Int,(e=.returned (.int .i64 b))∧
 K (.int .i64 b) g
theorem call161 (a:Option Addr) (K:Value→World→Prop) (w:World) (h:B161 a K w):Gets Tryz.prog 161 #[.pointer a] w K:=cq (sk:=.leaf) h Tryz.func161
end Go.Proofs.YtlplemdmegpoeaaGreatDoor
/- The formulas of functions of this seat's translation, printed by a program of mine off the translation; each is proved equal to 'fnF' of the function's body, so it is enough for the call. No condition. -/
namespace Go.Proofs.YtlplemdmegpoeaaGreatDoor
open Go Go.VC
set_option linter.unusedVariables false
set_option maxRecDepth 10000
def B139 (d:Nat) (K:Value→World→Prop) (w:World):Prop:=
 Ext Tryz.prog 210 #[.float .f64 d] w fun c b=>
 ∃ a:Int,(c=.returned (.int .u64 a))∧
 Br (decide (a<9223372036854775808))
 (K (.int .u64 (IntKind.u64.wrap (a + 9223372036854775808))) b)
 (K (.int .u64 (IntKind.u64.wrap (18446744073709551615 - a))) b)
theorem call139 (a:Nat) (K:Value→World→Prop) (w:World) (h:B139 a K w):Gets Tryz.prog 139 #[.float .f64 a] w K:=cq (sk:=.leaf) h Tryz.func139
def B148 (a:Int) (K:Value→World→Prop) (w:World):Prop:=
 Br (decide (a ≥ 9223372036854775808))
 (Ext Tryz.prog 222 #[.int .u64 (IntKind.u64.wrap (a - 9223372036854775808))] w fun d f=>
 ∃ c:Nat,(d=.returned (.float .f64 c))∧
 K (.float .f64 c) f)
 (Ext Tryz.prog 222 #[.int .u64 (IntKind.u64.wrap (18446744073709551615 - a))] w fun e g=>
 ∃ b:Nat,(e=.returned (.float .f64 b))∧
 K (.float .f64 b) g)
theorem call148 (a:Int) (K:Value→World→Prop) (w:World) (h:B148 a K w):Gets Tryz.prog 148 #[.int .u64 a] w K:=cq (sk:=.leaf) h Tryz.func148
def B258 (b:Nat) (c:Nat) (K:Value→World→Prop) (w:World):Prop:=
 ∃ d:Bool,(∀ a,(fun a=>a=w) a→((do eqGuard BinOp.neq 35 (Operand.tmp 7) (Operand.tmp 8) (.float .f64 b) (.float .f64 b);binOp BinOp.neq 35 (.float .f64 b) (.float .f64 b):Sem Value)).run Tryz.prog a=.ok (.bool d) a)∧
 ∃ e:Bool,(∀ a,(fun a=>a=w) a→((do eqGuard BinOp.neq 35 (Operand.tmp 10) (Operand.tmp 11) (.float .f64 c) (.float .f64 c);binOp BinOp.neq 35 (.float .f64 c) (.float .f64 c):Sem Value)).run Tryz.prog a=.ok (.bool e) a)∧
 Br d
 (Br e
 (K (.int .i64 0) w)
 (∃ f:Bool,(∀ a,(fun a=>a=w) a→((do eqGuard BinOp.eql 35 (Operand.tmp 19) (Operand.tmp 20) (.float .f64 b) (.float .f64 c);binOp BinOp.eql 35 (.float .f64 b) (.float .f64 c):Sem Value)).run Tryz.prog a=.ok (.bool f) a)∧
 Br f
 (K (.int .i64 0) w)
 (Br d
 (K (.int .i64 ((-1))) w)
 (∃ i:Bool,(∀ a,(fun a=>a=w) a→((do eqGuard BinOp.lss 35 (Operand.tmp 26) (Operand.tmp 27) (.float .f64 b) (.float .f64 c);binOp BinOp.lss 35 (.float .f64 b) (.float .f64 c):Sem Value)).run Tryz.prog a=.ok (.bool i) a)∧
 Br i
 (K (.int .i64 ((-1))) w)
 (K (.int .i64 1) w)))))
 (∃ g:Bool,(∀ a,(fun a=>a=w) a→((do eqGuard BinOp.eql 35 (Operand.tmp 19) (Operand.tmp 20) (.float .f64 b) (.float .f64 c);binOp BinOp.eql 35 (.float .f64 b) (.float .f64 c):Sem Value)).run Tryz.prog a=.ok (.bool g) a)∧
 Br g
 (K (.int .i64 0) w)
 (Br d
 (K (.int .i64 ((-1))) w)
 (∃ j:Bool,(∀ a,(fun a=>a=w) a→((do eqGuard BinOp.lss 35 (Operand.tmp 26) (Operand.tmp 27) (.float .f64 b) (.float .f64 c);binOp BinOp.lss 35 (.float .f64 b) (.float .f64 c):Sem Value)).run Tryz.prog a=.ok (.bool j) a)∧
 Br j
 (K (.int .i64 ((-1))) w)
 (K (.int .i64 1) w))))
theorem call258 (a:Nat) (b:Nat) (K:Value→World→Prop) (w:World) (h:B258 a b K w):Gets Tryz.prog 258 #[.float .f64 a,.float .f64 b] w K:=cq (sk:=.leaf) h Tryz.func258
def B189 (m:Int) (n:Int) (o:Int) (p:Int) (q:Nat) (K:Value→World→Prop) (w:World):Prop:=
 New (.cells #[.int .i64 m,.int .i64 n,.int .i64 o,.int .i64 p,.float .f64 q] 168 (0,0)) (fun c a=>
 ∃ k:Int,(At (fun b=>b=a) ⟨c,0,none⟩ [.int .i64 k])∧
 Br (decide (k ≥ 1))
 (∃ l:Int,(At (fun b=>b=a) ⟨c,0,none⟩ [.int .i64 l])∧
 Br (decide (l≤28629151))
 (∃ d:Int,(At (fun b=>b=a) ⟨c,0 + 1,none⟩ [.int .i64 d])∧
 Br (decide (d ≥ 0))
 (∃ e:Int,(At (fun b=>b=a) ⟨c,0 + 1,none⟩ [.int .i64 e])∧
 Br (decide (e≤7))
 (∃ f:Int,(At (fun b=>b=a) ⟨c,0 + 2,none⟩ [.int .i64 f])∧
 Br (decide (f ≥ 1))
 (∃ g:Int,(At (fun b=>b=a) ⟨c,0 + 2,none⟩ [.int .i64 g])∧
 Br (decide (g≤600))
 (∃ i:Int,(At (fun b=>b=a) ⟨c,0 + 3,none⟩ [.int .i64 i])∧
 Br (decide (i ≥ 0))
 (∃ j:Int,(At (fun b=>b=a) ⟨c,0 + 3,none⟩ [.int .i64 j])∧
 K (.bool (decide (j≤1099511627776))) a)
 (K (.bool false) a))
 (K (.bool false) a))
 (K (.bool false) a))
 (K (.bool false) a))
 (K (.bool false) a))
 (K (.bool false) a))
 (K (.bool false) a)) w
theorem call189 (a:Int) (b:Int) (c:Int) (d:Int) (e:Nat) (K:Value→World→Prop) (w:World) (h:B189 a b c d e K w):Gets Tryz.prog 189 #[.agg #[.int .i64 a,.int .i64 b,.int .i64 c,.int .i64 d,.float .f64 e]] w K:=cq (sk:=.leaf) h Tryz.func189
def B191 (p:Int) (q:Int) (r:Int) (s:Int) (t:Nat) (u:Int) (v:Int) (x:Int) (y:Int) (z:Nat) (K:Value→World→Prop) (w:World):Prop:=
 New (.cells #[.int .i64 p,.int .i64 q,.int .i64 r,.int .i64 s,.float .f64 t] 168 (0,0)) (fun c C=>
 New (.cells #[.int .i64 u,.int .i64 v,.int .i64 x,.int .i64 y,.float .f64 z] 168 (0,0)) (fun d f=>
 ∃ n:Nat,(At (fun a=>a=f) ⟨c,0 + 4,none⟩ [.float .f64 n])∧
 ∃ o:Nat,(At (fun a=>a=f) ⟨d,0 + 4,none⟩ [.float .f64 o])∧
 Calls Tryz.prog 258 #[.float .f64 n,.float .f64 o] f fun A b=>
 ∃ e:Int,(A=.returned (.int .i64 e))∧
 Br (e !=0)
 (K (.bool (decide (e>0))) b)
 (∃ g:Int,(At (fun a=>a=b) ⟨c,0 + 3,none⟩ [.int .i64 g])∧
 ∃ i:Int,(At (fun a=>a=b) ⟨d,0 + 3,none⟩ [.int .i64 i])∧
 Br (g !=i)
 (∃ j:Int,(At (fun a=>a=b) ⟨c,0 + 3,none⟩ [.int .i64 j])∧
 ∃ k:Int,(At (fun a=>a=b) ⟨d,0 + 3,none⟩ [.int .i64 k])∧
 K (.bool (decide (j<k))) b)
 (∃ l:Int,(At (fun a=>a=b) ⟨c,0,none⟩ [.int .i64 l])∧
 ∃ m:Int,(At (fun a=>a=b) ⟨d,0,none⟩ [.int .i64 m])∧
 K (.bool (decide (l<m))) b))) C) w
theorem call191 (a:Int) (b:Int) (c:Int) (d:Int) (e:Nat) (f:Int) (g:Int) (i:Int) (j:Int) (k:Nat) (K:Value→World→Prop) (w:World) (h:B191 a b c d e f g i j k K w):Gets Tryz.prog 191 #[.agg #[.int .i64 a,.int .i64 b,.int .i64 c,.int .i64 d,.float .f64 e],.agg #[.int .i64 f,.int .i64 g,.int .i64 i,.int .i64 j,.float .f64 k]] w K:=cq (sk:=.leaf) h Tryz.func191
def B190 (i:Option Addr) (o:Int) (K:Value→World→Prop) (w:World):Prop:=
 ∃ (g:Int→World→Prop) (k:Int→World→Nat),(g 0 w)∧∀ (p:Env) (c:Int) (b:World),g c b→
 NilP i fun n=>
 ∃ f:Sl,(At (fun e=>e=b) (Addr.add n 0) [.slice f.a f.len f.cap])∧
 Br (decide (c<(↑f.len:Int)))
 (NilP i fun l=>
 ∃ d:Sl,(At (fun e=>e=b) (Addr.add l 0) [.slice d.a d.len d.cap])∧
 Rng c d.len (NilP d.a fun m=>
 ∃ j:Int,(At (fun e=>e=b) (Addr.add (Addr.add m (mulS c.toNat 5)) 0) [.int .i64 j])∧
 Br (j==o)
 (K (.int .i64 c) b)
 ((g (IntKind.i64.wrap (c + 1)) b)∧k (IntKind.i64.wrap (c + 1)) b<k c b)))
 (K (.int .i64 ((-1))) b)
def sk190:Sk:=(.seq .leaf (.seq (.seq .leaf (.block (.loop [5] [(.int .i64)] [4,5,6,7,8,9,10,11,12,13,14,15,16,17,18,19,20,21,22,23,24,25] .leaf))) .leaf))
theorem call190 (b:Option Addr) (a:Int) (K:Value→World→Prop) (w:World) (h:B190 b a K w):Gets Tryz.prog 190 #[.pointer b,.int .i64 a] w K:=cq (sk:=sk190) h Tryz.func190
def B112 (f:Option Addr) (ay:Int) (az:Int) (a0:Int) (a1:Int) (a2:Nat) (K:Value→World→Prop) (w:World):Prop:=
 New (.cells #[.int .i64 ay,.int .i64 az,.int .i64 a0,.int .i64 a1,.float .f64 a2] 168 (0,0)) (fun n ad=>
 ∃ X:Int,∃ Y:Int,∃ Z:Int,∃ aa:Int,∃ ab:Nat,(At (fun b=>b=ad) ⟨n,0,none⟩ [.int .i64 X,.int .i64 Y,.int .i64 Z,.int .i64 aa,.float .f64 ab])∧
 Calls Tryz.prog 189 #[.agg #[.int .i64 X,.int .i64 Y,.int .i64 Z,.int .i64 aa,.float .f64 ab]] ad fun av v=>
 ∃ ac:Bool,(av=.returned (.bool ac))∧
 Br (!ac)
 (K (.int .i64 1) v)
 (∃ z:Int,(At (fun b=>b=v) ⟨n,0,none⟩ [.int .i64 z])∧
 Calls Tryz.prog 190 #[.pointer f,.int .i64 z] v fun aw q=>
 ∃ A:Int,(aw=.returned (.int .i64 A))∧
 Br (decide (A ≥ 0))
 (K (.int .i64 7) q)
 (NilP f fun ak=>
 ∃ o:Sl,(At (fun b=>b=q) (Addr.add ak 0) [.slice o.a o.len o.cap])∧
 Br (decide ((↑o.len:Int) ≥ 200))
 (K (.int .i64 3) q)
 (∃ (t:Int→World→Prop),(∃ (s:Int→World→Prop) (aj:Int→World→Nat),(s 0 q)∧∀ (a4:Env) (c:Int) (x:World),s c x→
 Drw x fun l ag=>
 NilP f fun al=>
 ∃ p:Sl,(At l (Addr.add al 0) [.slice p.a p.len p.cap])∧
 Br (decide (c<(↑p.len:Int)))
 (NilP f fun am=>
 ∃ m:Sl,(At l (Addr.add am 0) [.slice m.a m.len m.cap])∧
 Rng c m.len (NilP m.a fun an=>
 ∃ C:Int,∃ D:Int,∃ E:Int,∃ F:Int,∃ G:Nat,(At l (Addr.add an (mulS c.toNat 5)) [.int .i64 C,.int .i64 D,.int .i64 E,.int .i64 F,.float .f64 G])∧
 ∃ H:Int,∃ I:Int,∃ J:Int,∃ L:Int,∃ M:Nat,(At l ⟨n,0,none⟩ [.int .i64 H,.int .i64 I,.int .i64 J,.int .i64 L,.float .f64 M])∧
 Calls Tryz.prog 191 #[.agg #[.int .i64 C,.int .i64 D,.int .i64 E,.int .i64 F,.float .f64 G],.agg #[.int .i64 H,.int .i64 I,.int .i64 J,.int .i64 L,.float .f64 M]] ag fun ax r=>
 ∃ N:Bool,(ax=.returned (.bool N))∧
 (l r)∧
 Br N
 ((s (IntKind.i64.wrap (c + 1)) r)∧aj (IntKind.i64.wrap (c + 1)) r<aj c x)
 (t c r)))
 (t c ag))∧
 ∀ (a5:Env) (d:Int) (ah:World),t d ah→
 New (.cells #[] 168 (0,0)) (fun ar ai=>
 NilP f fun ao=>
 ∃ g:Sl,(At (fun b=>b=ai) (Addr.add ao 0) [.slice g.a g.len g.cap])∧
 ((0:Int)≤d)∧
 ((d:Int)≤(↑g.cap:Int))∧
 ∃ y:World,∃ i:Sl,((Builtin.append_ #[100,100] 100 #[.slice ((some ⟨ar,0,none⟩)) 0 0,.slice g.a d.toNat g.cap]).run Tryz.prog ai=.ok (.slice i.a i.len i.cap) y)∧
 ∃ O:Int,∃ Q:Int,∃ T:Int,∃ U:Int,∃ V:Nat,(At (fun b=>b=y) ⟨n,0,none⟩ [.int .i64 O,.int .i64 Q,.int .i64 T,.int .i64 U,.float .f64 V])∧
 New (.cells #[.int .i64 O,.int .i64 Q,.int .i64 T,.int .i64 U,.float .f64 V] 168 (0,0)) (fun au a3=>
 ∃ u:World,∃ j:Sl,((Builtin.append_ #[100,100] 100 #[.slice i.a i.len i.cap,.slice ((some ⟨au,0,none⟩)) 1 1]).run Tryz.prog a3=.ok (.slice j.a j.len j.cap) u)∧
 NilP f fun ap=>
 ∃ e:Sl,(At (fun b=>b=u) (Addr.add ap 0) [.slice e.a e.len e.cap])∧
 ((0:Int)≤d)∧
 ((d:Int)≤(↑e.len:Int))∧
 ∃ ae:World,∃ k:Sl,((Builtin.append_ #[100,100] 100 #[.slice j.a j.len j.cap,.slice (cutA e.a d.toNat e.cap 5) (e.len - d.toNat) (e.cap - d.toNat)]).run Tryz.prog u=.ok (.slice k.a k.len k.cap) ae)∧
 NilP f fun aq=>
 ∃ af:World,((Instr.storeAt 100 (.pointer ((some (Addr.add aq 0)))) (.slice k.a k.len k.cap)).run Tryz.prog ae=.ok () af)∧
 K (.int .i64 0) af) y) ah)))) w
def sk112:Sk:=(.seq .leaf (.seq .leaf (.seq .leaf (.seq .leaf (.seq .leaf (.seq .leaf (.cut [6] [(.int .i64)] [6,23,24,25,26,27,28,29,30,31,32,33,34,35,36,37,38,39,40,41,42] (.block (.loop [6] [(.int .i64)] [6,23,24,25,26,27,28,29,30,31,32,33,34,35,36,37,38,39,40,41,42] .leaf)) .leaf)))))))
theorem call112 (a:Option Addr) (b:Int) (c:Int) (d:Int) (e:Int) (f:Nat) (K:Value→World→Prop) (w:World) (h:B112 a b c d e f K w):Gets Tryz.prog 112 #[.pointer a,.agg #[.int .i64 b,.int .i64 c,.int .i64 d,.int .i64 e,.float .f64 f]] w K:=cq (sk:=sk112) h Tryz.func112
def B70 (t:Option Addr) (K:Value→World→Prop) (w:World):Prop:=
 NilP t fun V=>
 ∃ o:Sl,(At (fun b=>b=w) (Addr.add V 0) [.slice o.a o.len o.cap])∧
 Calls Tryz.prog 137 #[.int .u64 (IntKind.u64.wrap (↑o.len:Int))] w fun Y ab=>
 ∃ p:Sl,(Y=.returned (.slice p.a p.len p.cap))∧
 ∃ (r:Sl→Int→World→Prop) (N:Sl→Int→World→Nat),(r p 0 ab)∧∀ (af:Env) (i:Sl) (e:Int) (g:World),r i e g→
 NilP t fun Q=>
 ∃ q:Sl,(At (fun b=>b=g) (Addr.add Q 0) [.slice q.a q.len q.cap])∧
 Br (decide (e<(↑q.len:Int)))
 (NilP t fun T=>
 ∃ m:Sl,(At (fun b=>b=g) (Addr.add T 0) [.slice m.a m.len m.cap])∧
 Rng e m.len (NilP m.a fun U=>
 ∃ v:Int,∃ x:Int,∃ y:Int,∃ z:Int,∃ A:Nat,(At (fun b=>b=g) (Addr.add U (mulS e.toNat 5)) [.int .i64 v,.int .i64 x,.int .i64 y,.int .i64 z,.float .f64 A])∧
 New (.cells #[.int .i64 0,.int .i64 0,.int .i64 0,.int .i64 0,.float .f64 0] 168 (0,0)) (fun j ac=>
 ∃ J:World,((Instr.storeAt 168 (.pointer ((some ⟨j,0,none⟩))) (.agg #[.int .i64 v,.int .i64 x,.int .i64 y,.int .i64 z,.float .f64 A])).run Tryz.prog ac=.ok () J)∧
 Drw J fun c ad=>
 ∃ C:Int,(At c ⟨j,0,none⟩ [.int .i64 C])∧
 ∃ D:Int,(At c ⟨j,0 + 1,none⟩ [.int .i64 D])∧
 ∃ E:Int,(At c ⟨j,0 + 2,none⟩ [.int .i64 E])∧
 ∃ F:Int,(At c ⟨j,0 + 3,none⟩ [.int .i64 F])∧
 ∃ G:Nat,(At c ⟨j,0 + 4,none⟩ [.float .f64 G])∧
 Calls Tryz.prog 139 #[.float .f64 G] ad fun Z L=>
 ∃ H:Int,(Z=.returned (.int .u64 H))∧
 (c L)∧
 New (.cells #[.int .u64 (IntKind.u64.wrap C),.int .u64 (IntKind.u64.wrap D),.int .u64 (IntKind.u64.wrap E),.int .u64 (IntKind.u64.wrap F),.int .u64 H] 141 (0,0)) (fun X M=>
 (c M)∧
 ∃ (s:Sl→Int→World→Prop) (O:Sl→Int→World→Nat),(s i 0 M)∧∀ (ag:Env) (d:Sl) (f:Int) (l:World),s d f l→
 Br (decide (f<5))
 (Rng f 5 (∃ I:Int,(At (fun b=>b=l) (Addr.add ⟨X,0,none⟩ f.toNat) [.int .u64 I])∧
 Calls Tryz.prog 137 #[.int .u64 I] l fun aa ae=>
 ∃ k:Sl,(aa=.returned (.slice k.a k.len k.cap))∧
 ∃ u:World,∃ n:Sl,((Builtin.append_ #[47,47] 47 #[.slice d.a d.len d.cap,.slice k.a k.len k.cap]).run Tryz.prog ae=.ok (.slice n.a n.len n.cap) u)∧
 (s n (IntKind.i64.wrap (f + 1)) u)∧O n (IntKind.i64.wrap (f + 1)) u<O d f l))
 ((r d (IntKind.i64.wrap (e + 1)) l)∧N d (IntKind.i64.wrap (e + 1)) l<N i e g)) L) g))
 (K (.slice i.a i.len i.cap) g)
def sk70:Sk:=(.seq .leaf (.seq .leaf (.seq (.seq .leaf (.block (.loop [3,4] [.sl,(.int .i64)] [3,4,5,6,7,15,16,17,18,19,20,21,22,23,24,25,26,27,28,29,30,31,32,33,34,35,36,37,38,39,40,41,42,43,44,45,46,47,48,49,50,51,52,53,54,55,56,57] (.seq .leaf (.seq (.block (.seq .leaf (.seq .leaf (.seq .leaf (.block (.loop [3,7] [.sl,(.int .i64)] [3,7,47,48,49,50,51,52,53,54,55,56,57] .leaf)))))) .leaf))))) .leaf)))
theorem call70 (a:Option Addr) (K:Value→World→Prop) (w:World) (h:B70 a K w):Gets Tryz.prog 70 #[.pointer a] w K:=cq (sk:=sk70) h Tryz.func70
def B145 (d:Sl) (K:Value→World→Prop) (w:World):Prop:=
 New (.cells #[.slice d.a d.len d.cap,.int .i64 0,.bool false] 140 (0,0)) (fun c aa=>
 Calls Tryz.prog 77 #[.pointer ((some ⟨c,0,none⟩)),.int .u64 200] aa fun M ae=>
 ∃ p:Int,(M=.returned (.int .u64 p))∧
 New (.cells #[.slice none 0 0] 109 (0,0)) (fun l af=>
 ∃ (k:Int→World→Prop) (L:Int→World→Nat),(k 0 af)∧∀ (al:Env) (f:Int) (j:World),k f j→
 Br (decide (f<p))
 (Calls Tryz.prog 77 #[.pointer ((some ⟨c,0,none⟩)),.int .u64 28629151] j fun N ag=>
 ∃ q:Int,(N=.returned (.int .u64 q))∧
 Calls Tryz.prog 77 #[.pointer ((some ⟨c,0,none⟩)),.int .u64 7] ag fun O ah=>
 ∃ r:Int,(O=.returned (.int .u64 r))∧
 Calls Tryz.prog 77 #[.pointer ((some ⟨c,0,none⟩)),.int .u64 600] ah fun Q ai=>
 ∃ s:Int,(Q=.returned (.int .u64 s))∧
 Calls Tryz.prog 77 #[.pointer ((some ⟨c,0,none⟩)),.int .u64 1099511627776] ai fun T aj=>
 ∃ t:Int,(T=.returned (.int .u64 t))∧
 New (.cells #[.int .i64 0,.int .i64 0,.int .i64 0,.int .i64 0,.float .f64 0] 168 (0,0)) (fun m ak=>
 ∃ I:World,((Instr.storeAt 168 (.pointer ((some ⟨m,0,none⟩))) (.agg #[.int .i64 (IntKind.i64.wrap q),.int .i64 (IntKind.i64.wrap r),.int .i64 (IntKind.i64.wrap s),.int .i64 (IntKind.i64.wrap t),.float .f64 0])).run Tryz.prog ak=.ok () I)∧
 Calls Tryz.prog 77 #[.pointer ((some ⟨c,0,none⟩)),.int .u64 18446744073709551615] I fun U ab=>
 ∃ u:Int,(U=.returned (.int .u64 u))∧
 Calls Tryz.prog 148 #[.int .u64 u] ab fun V ac=>
 ∃ v:Nat,(V=.returned (.float .f64 v))∧
 ∃ n:World,((Instr.storeAt 35 (.pointer ((some ⟨m,0 + 4,none⟩))) (.float .f64 v)).run Tryz.prog ac=.ok () n)∧
 ∃ x:Int,∃ y:Int,∃ z:Int,∃ A:Int,∃ C:Nat,(At (fun b=>b=n) ⟨m,0,none⟩ [.int .i64 x,.int .i64 y,.int .i64 z,.int .i64 A,.float .f64 C])∧
 Calls Tryz.prog 112 #[.pointer ((some ⟨l,0,none⟩)),.agg #[.int .i64 x,.int .i64 y,.int .i64 z,.int .i64 A,.float .f64 C]] n fun X g=>
 ∃ D:Int,(X=.returned (.int .i64 D))∧
 ∃ E:Bool,(At (fun b=>b=g) ⟨c,0 + 2,none⟩ [.bool E])∧
 Br E
 (K (.tuple #[.pointer none,.int .i64 6]) g)
 (Br (D !=0)
 (K (.tuple #[.pointer none,.int .i64 6]) g)
 ((k (IntKind.u64.wrap (f + 1)) g)∧L (IntKind.u64.wrap (f + 1)) g<L f j))) aj)
 (Calls Tryz.prog 80 #[.pointer ((some ⟨c,0,none⟩))] j fun Y ad=>
 ∃ F:Bool,(Y=.returned (.bool F))∧
 Drw ad fun o J=>
 Br (!F)
 (K (.tuple #[.pointer none,.int .i64 6]) J)
 (∃ H:ByteArray,(∀ b,o b→((convert 47 9 (.slice d.a d.len d.cap))).run Tryz.prog b=.ok (.string H) b)∧
 Calls Tryz.prog 70 #[.pointer ((some ⟨l,0,none⟩))] J fun Z i=>
 ∃ e:Sl,(Z=.returned (.slice e.a e.len e.cap))∧
 (o i)∧
 ∃ G:ByteArray,(∀ b,(fun b=>b=i) b→((convert 47 9 (.slice e.a e.len e.cap))).run Tryz.prog b=.ok (.string G) b)∧
 Br (!G.toList==H.toList)
 (K (.tuple #[.pointer none,.int .i64 6]) i)
 (K (.tuple #[.pointer ((some ⟨l,0,none⟩)),.int .i64 0]) i)))) ae) w
def sk145:Sk:=(.seq .leaf (.seq .leaf (.seq .leaf (.seq .leaf (.seq (.seq .leaf (.block (.loop [7] [(.int .u64)] [2,3,7,8,9,18,19,20,21,22,23,24,25,26,27,28,29,30,31,32,33,34,35,36,37,38,39,40,41,42,43,44,45,46,47,48,49,50] .leaf))) (.seq .leaf (.seq (.seq (.block .leaf) .leaf) .leaf)))))))
theorem call145 (b:Sl) (K:Value→World→Prop) (w:World) (h:B145 b K w):Gets Tryz.prog 145 #[.slice b.a b.len b.cap] w K:=cq (sk:=sk145) h Tryz.func145
def B58 (k:Option Addr) (q:Int) (K:Value→World→Prop) (w:World):Prop:=
 ∃ (g:Int→World→Prop) (n:Int→World→Nat),(g 0 w)∧∀ (r:Env) (c:Int) (b:World),g c b→
 NilP k fun j=>
 ∃ f:Sl,(At (fun d=>d=b) ⟨j.block,j.off + 2,none⟩ [.slice f.a f.len f.cap])∧
 Br (decide (c<(↑f.len:Int)))
 (NilP k fun i=>
 ∃ e:Sl,(At (fun d=>d=b) ⟨i.block,i.off + 2,none⟩ [.slice e.a e.len e.cap])∧
 Rng c e.len (NilP e.a fun o=>
 ∃ l:Option Addr,(At (fun d=>d=b) (Addr.add (Addr.add o (mulS c.toNat 2)) 0) [.pointer l])∧
 NilP l fun p=>
 ∃ m:Int,(At (fun d=>d=b) (Addr.add p 0) [.int .i64 m])∧
 Br (m==q)
 (K (.int .i64 c) b)
 ((g (IntKind.i64.wrap (c + 1)) b)∧n (IntKind.i64.wrap (c + 1)) b<n c b)))
 (K (.int .i64 ((-1))) b)
def sk58:Sk:=(.seq .leaf (.seq (.seq .leaf (.block (.loop [5] [(.int .i64)] [4,5,6,7,8,9,10,11,12,13,14,15,16,17,18,19,20,21,22,23,24,25,26,27,28] .leaf))) .leaf))
theorem call58 (a:Option Addr) (b:Int) (K:Value→World→Prop) (w:World) (h:B58 a b K w):Gets Tryz.prog 58 #[.pointer a,.int .i64 b] w K:=cq (sk:=sk58) h Tryz.func58
def B79 (t:Sl) (K:Value→World→Prop) (w:World):Prop:=
 New (.cells #[.slice t.a t.len t.cap,.int .i64 0,.bool false] 140 (0,0)) (fun b a7=>
 Calls Tryz.prog 77 #[.pointer ((some ⟨b,0,none⟩)),.int .u64 1099511627776] a7 fun ap bd=>
 ∃ L:Int,(ap=.returned (.int .u64 L))∧
 Calls Tryz.prog 77 #[.pointer ((some ⟨b,0,none⟩)),.int .u64 28629151] bd fun aq bj=>
 ∃ M:Int,(aq=.returned (.int .u64 M))∧
 New (.cells #[.int .i64 (IntKind.i64.wrap L),.int .i64 (IntKind.i64.wrap M),.slice none 0 0,.slice none 0 0] 46 (0,0)) (fun c bk=>
 Calls Tryz.prog 77 #[.pointer ((some ⟨b,0,none⟩)),.int .u64 8] bk fun az bl=>
 ∃ N:Int,(az=.returned (.int .u64 N))∧
 ∃ (r:Int→World→Prop) (al:Int→World→Nat),(r 0 bl)∧∀ (bp:Env) (l:Int) (q:World),r l q→
 Br (decide (l<N))
 (Calls Tryz.prog 78 #[.pointer ((some ⟨b,0,none⟩)),.int .i64 65536] q fun a0 bm=>
 ∃ f:Sl,(a0=.returned (.slice f.a f.len f.cap))∧
 Calls Tryz.prog 144 #[.slice f.a f.len f.cap] bm fun a1 bn=>
 ∃ O:Option Addr,∃ Q:Int,(a1=.returned (.tuple #[.pointer O,.int .i64 Q]))∧
 Calls Tryz.prog 78 #[.pointer ((some ⟨b,0,none⟩)),.int .i64 65536] bn fun a2 bo=>
 ∃ g:Sl,(a2=.returned (.slice g.a g.len g.cap))∧
 Calls Tryz.prog 145 #[.slice g.a g.len g.cap] bo fun a3 m=>
 ∃ T:Option Addr,∃ U:Int,(a3=.returned (.tuple #[.pointer T,.int .i64 U]))∧
 ∃ (A:World→Prop),(∃ V:Bool,(At (fun u=>u=m) ⟨b,0 + 2,none⟩ [.bool V])∧
 Br V
 (K (.tuple #[.pointer none,.int .i64 6]) m)
 (Br (Q !=0)
 (K (.tuple #[.pointer none,.int .i64 6]) m)
 (Br (U !=0)
 (K (.tuple #[.pointer none,.int .i64 6]) m)
 (A  m))))∧
 ∀ (bq:Env)  (v:World),A  v→
 ∃ i:Sl,(At (fun u=>u=v) ⟨c,0 + 2,none⟩ [.slice i.a i.len i.cap])∧
 New (.cells #[.pointer O,.pointer T] 107 (0,0)) (fun ao a8=>
 ∃ ae:World,∃ j:Sl,((Builtin.append_ #[43,43] 43 #[.slice i.a i.len i.cap,.slice ((some ⟨ao,0,none⟩)) 1 1]).run Tryz.prog a8=.ok (.slice j.a j.len j.cap) ae)∧
 ∃ x:World,((Instr.storeAt 43 (.pointer ((some ⟨c,0 + 2,none⟩))) (.slice j.a j.len j.cap)).run Tryz.prog ae=.ok () x)∧
 (r (IntKind.u64.wrap (l + 1)) x)∧al (IntKind.u64.wrap (l + 1)) x<al l q) v)
 (Calls Tryz.prog 77 #[.pointer ((some ⟨b,0,none⟩)),.int .u64 300] q fun a4 a9=>
 ∃ X:Int,(a4=.returned (.int .u64 X))∧
 ∃ (s:Int→World→Prop) (am:Int→World→Nat),(s 0 a9)∧∀ (br:Env) (k:Int) (p:World),s k p→
 Br (decide (k<X))
 (Calls Tryz.prog 77 #[.pointer ((some ⟨b,0,none⟩)),.int .u64 28629151] p fun a5 ba=>
 ∃ Y:Int,(a5=.returned (.int .u64 Y))∧
 Calls Tryz.prog 77 #[.pointer ((some ⟨b,0,none⟩)),.int .u64 9999] ba fun a6 bb=>
 ∃ Z:Int,(a6=.returned (.int .u64 Z))∧
 Calls Tryz.prog 77 #[.pointer ((some ⟨b,0,none⟩)),.int .u64 9999] bb fun ar bc=>
 ∃ aa:Int,(ar=.returned (.int .u64 aa))∧
 Calls Tryz.prog 77 #[.pointer ((some ⟨b,0,none⟩)),.int .u64 9999] bc fun au be=>
 ∃ ab:Int,(au=.returned (.int .u64 ab))∧
 New (.cells #[.int .i64 0,.int .i64 0,.int .i64 0,.int .i64 0,.int .i64 0,.int .i64 0] 125 (0,0)) (fun o bf=>
 ∃ af:World,((Instr.storeAt 125 (.pointer ((some ⟨o,0,none⟩))) (.agg #[.int .i64 (IntKind.i64.wrap Y),.int .i64 (IntKind.i64.wrap Z),.int .i64 (IntKind.i64.wrap aa),.int .i64 (IntKind.i64.wrap ab),.int .i64 0,.int .i64 0])).run Tryz.prog bf=.ok () af)∧
 Calls Tryz.prog 77 #[.pointer ((some ⟨b,0,none⟩)),.int .u64 3] af fun av bg=>
 ∃ ac:Int,(av=.returned (.int .u64 ac))∧
 ∃ ag:World,((Instr.storeAt 3 (.pointer ((some ⟨o,0 + 4,none⟩))) (.int .i64 (IntKind.i64.wrap ac))).run Tryz.prog bg=.ok () ag)∧
 Calls Tryz.prog 77 #[.pointer ((some ⟨b,0,none⟩)),.int .u64 1099511627776] ag fun aw bh=>
 ∃ ad:Int,(aw=.returned (.int .u64 ad))∧
 ∃ ah:World,((Instr.storeAt 3 (.pointer ((some ⟨o,0 + 5,none⟩))) (.int .i64 (IntKind.i64.wrap ad))).run Tryz.prog bh=.ok () ah)∧
 Drw ah fun n bi=>
 ∃ d:Sl,(At n ⟨c,0 + 3,none⟩ [.slice d.a d.len d.cap])∧
 ∃ C:Int,∃ D:Int,∃ E:Int,∃ F:Int,∃ G:Int,∃ H:Int,(At n ⟨o,0,none⟩ [.int .i64 C,.int .i64 D,.int .i64 E,.int .i64 F,.int .i64 G,.int .i64 H])∧
 New (.cells #[.int .i64 C,.int .i64 D,.int .i64 E,.int .i64 F,.int .i64 G,.int .i64 H] 125 (0,0)) (fun an ai=>
 (n ai)∧
 ∃ y:World,∃ e:Sl,((Builtin.append_ #[44,44] 44 #[.slice d.a d.len d.cap,.slice ((some ⟨an,0,none⟩)) 1 1]).run Tryz.prog ai=.ok (.slice e.a e.len e.cap) y)∧
 (n y)∧
 ∃ z:World,((Instr.storeAt 44 (.pointer ((some ⟨c,0 + 3,none⟩))) (.slice e.a e.len e.cap)).run Tryz.prog y=.ok () z)∧
 (s (IntKind.u64.wrap (k + 1)) z)∧am (IntKind.u64.wrap (k + 1)) z<am k p) bi) be)
 (Calls Tryz.prog 80 #[.pointer ((some ⟨b,0,none⟩))] p fun ax aj=>
 ∃ I:Bool,(ax=.returned (.bool I))∧
 Br I
 (Calls Tryz.prog 146 #[.pointer ((some ⟨c,0,none⟩))] aj fun ay ak=>
 ∃ J:Bool,(ay=.returned (.bool J))∧
 Br (!J)
 (K (.tuple #[.pointer none,.int .i64 6]) ak)
 (K (.tuple #[.pointer ((some ⟨c,0,none⟩)),.int .i64 0]) ak))
 (K (.tuple #[.pointer none,.int .i64 6]) aj)))) bj) w
def sk79:Sk:=(.seq .leaf (.seq .leaf (.seq .leaf (.seq .leaf (.seq (.seq .leaf (.block (.loop [7] [(.int .u64)] [2,3,7,8,9,10,11,29,30,31,32,33,34,35,36,37,38,39,40,41,42,43,44,45,46,47,48,49,50,51,52,53,54,55,56,57,58,59,60,61,62,63,64,65,66,67,68,69] (.seq .leaf (.seq (.block (.seq .leaf (.seq .leaf (.cut [] [] [2,3,46,47,48,49,50,51,52,53,54,55,56,57] .leaf .leaf)))) .leaf))))) (.seq .leaf (.seq (.seq .leaf (.block (.loop [12] [(.int .u64)] [12,13,72,73,74,75,76,77,78,79,80,81,82,83,84,85,86,87,88,89,90,91,92,93,94,95,96,97,98,99,100,101,102,103,104,105,106,107] .leaf))) .leaf)))))))
theorem call79 (b:Sl) (K:Value→World→Prop) (w:World) (h:B79 b K w):Gets Tryz.prog 79 #[.slice b.a b.len b.cap] w K:=cq (sk:=sk79) h Tryz.func79
def B146 (c:Option Addr) (K:Value→World→Prop) (w:World):Prop:=
 NilP c fun Q=>
 ∃ ak:Int,(At (fun e=>e=w) ⟨Q.block,Q.off + 1,none⟩ [.int .i64 ak])∧
 Br (decide (ak<1))
 (K (.bool false) w)
 (∃ (I:Int→Int→World→Prop) (bo:Int→Int→World→Nat),(I 0 0 w)∧∀ (b6:Env) (A:Int) (b:Int) (C:World),I A b C→
 NilP c fun V=>
 ∃ F:Sl,(At (fun e=>e=C) ⟨V.block,V.off + 2,none⟩ [.slice F.a F.len F.cap])∧
 Br (decide (b<(↑F.len:Int)))
 (∃ (L:World→Prop),(Drw C fun m N=>
 Br (decide (b>0))
 (NilP c fun Z=>
 ∃ r:Sl,(At m ⟨Z.block,Z.off + 2,none⟩ [.slice r.a r.len r.cap])∧
 Rng b r.len (NilP r.a fun bt=>
 ∃ a6:Option Addr,(At m (Addr.add (Addr.add bt (mulS b.toNat 2)) 0) [.pointer a6])∧
 NilP a6 fun bu=>
 ∃ a7:Int,(At m (Addr.add bu 0) [.int .i64 a7])∧
 NilP c fun aa=>
 ∃ s:Sl,(At m ⟨aa.block,aa.off + 2,none⟩ [.slice s.a s.len s.cap])∧
 Rng (IntKind.i64.wrap (b - 1)) s.len (NilP s.a fun bv=>
 ∃ a8:Option Addr,(At m (Addr.add (Addr.add bv (mulS (IntKind.i64.wrap (b - 1)).toNat 2)) 0) [.pointer a8])∧
 NilP a8 fun bw=>
 ∃ a9:Int,(At m (Addr.add bw 0) [.int .i64 a9])∧
 Br (decide (a7≤a9))
 (K (.bool false) N)
 (L  N))))
 (L  N))∧
 ∀ (b7:Env)  (bm:World),L  bm→
 Drw bm fun n bn=>
 NilP c fun ab=>
 ∃ t:Sl,(At n ⟨ab.block,ab.off + 2,none⟩ [.slice t.a t.len t.cap])∧
 Rng b t.len (NilP t.a fun bx=>
 ∃ ba:Option Addr,(At n (Addr.add (Addr.add bx (mulS b.toNat 2)) 0) [.pointer ba])∧
 NilP ba fun ac=>
 ∃ u:Sl,(At n ⟨ac.block,ac.off + 4,none⟩ [.slice u.a u.len u.cap])∧
 NilP c fun ad=>
 ∃ v:Sl,(At n ⟨ad.block,ad.off + 2,none⟩ [.slice v.a v.len v.cap])∧
 Rng b v.len (NilP v.a fun ae=>
 ∃ bb:Option Addr,(At n ⟨(ae.add (mulS b.toNat 2)).block,(ae.add (mulS b.toNat 2)).off + 1,none⟩ [.pointer bb])∧
 NilP bb fun bz=>
 ∃ x:Sl,(At n (Addr.add bz 0) [.slice x.a x.len x.cap])∧
 (I (IntKind.i64.wrap (IntKind.i64.wrap (A + (↑u.len:Int)) + (↑x.len:Int))) (IntKind.i64.wrap (b + 1)) bn)∧bo (IntKind.i64.wrap (IntKind.i64.wrap (A + (↑u.len:Int)) + (↑x.len:Int))) (IntKind.i64.wrap (b + 1)) bn<bo A b C)))
 (∃ (J:Int→World→Prop) (bp:Int→World→Nat),(J 0 C)∧∀ (b8:Env) (f:Int) (j:World),J f j→
 NilP c fun af=>
 ∃ G:Sl,(At (fun e=>e=j) ⟨af.block,af.off + 3,none⟩ [.slice G.a G.len G.cap])∧
 Br (decide (f<(↑G.len:Int)))
 (NilP c fun ag=>
 ∃ y:Sl,(At (fun e=>e=j) ⟨ag.block,ag.off + 3,none⟩ [.slice y.a y.len y.cap])∧
 Rng f y.len (NilP y.a fun b0=>
 ∃ bc:Int,∃ bd:Int,∃ be:Int,∃ bf:Int,∃ bg:Int,∃ bh:Int,(At (fun e=>e=j) (Addr.add b0 (mulS f.toNat 6)) [.int .i64 bc,.int .i64 bd,.int .i64 be,.int .i64 bf,.int .i64 bg,.int .i64 bh])∧
 New (.cells #[.int .i64 0,.int .i64 0,.int .i64 0,.int .i64 0,.int .i64 0,.int .i64 0] 125 (0,0)) (fun d b4=>
 ∃ O:World,((Instr.storeAt 125 (.pointer ((some ⟨d,0,none⟩))) (.agg #[.int .i64 bc,.int .i64 bd,.int .i64 be,.int .i64 bf,.int .i64 bg,.int .i64 bh])).run Tryz.prog b4=.ok () O)∧
 ∃ bi:Int,(At (fun e=>e=O) ⟨d,0 + 1,none⟩ [.int .i64 bi])∧
 Calls Tryz.prog 58 #[.pointer c,.int .i64 bi] O fun b1 b5=>
 ∃ z:Int,(b1=.returned (.int .i64 z))∧
 ∃ (M:World→Prop),(Drw b5 fun i g=>
 ∃ bj:Int,(At i ⟨d,0,none⟩ [.int .i64 bj])∧
 Br (decide (bj<1))
 (K (.bool false) g)
 (∃ ah:Int,(At i ⟨d,0,none⟩ [.int .i64 ah])∧
 NilP c fun T=>
 ∃ ai:Int,(At i ⟨T.block,T.off + 1,none⟩ [.int .i64 ai])∧
 Br (decide (ah ≥ ai))
 (K (.bool false) g)
 (Br (decide (f>0))
 (∃ aj:Int,(At i ⟨d,0,none⟩ [.int .i64 aj])∧
 NilP c fun U=>
 ∃ p:Sl,(At i ⟨U.block,U.off + 3,none⟩ [.slice p.a p.len p.cap])∧
 Rng (IntKind.i64.wrap (f - 1)) p.len (NilP p.a fun bq=>
 ∃ al:Int,(At i (Addr.add (Addr.add bq (mulS (IntKind.i64.wrap (f - 1)).toNat 6)) 0) [.int .i64 al])∧
 Br (decide (aj≤al))
 (K (.bool false) g)
 (Br (decide (z<0))
 (K (.bool false) g)
 (∃ am:Int,(At i ⟨d,0 + 4,none⟩ [.int .i64 am])∧
 Br (decide (am<1))
 (K (.bool false) g)
 (M  g)))))
 (Br (decide (z<0))
 (K (.bool false) g)
 (∃ an:Int,(At i ⟨d,0 + 4,none⟩ [.int .i64 an])∧
 Br (decide (an<1))
 (K (.bool false) g)
 (M  g))))))∧
 ∀ (b9:Env)  (bk:World),M  bk→
 ∃ (o:World→Prop),(Drw bk fun k l=>
 ∃ ao:Int,(At k ⟨d,0 + 4,none⟩ [.int .i64 ao])∧
 Br (ao==1)
 (∃ ap:Int,(At k ⟨d,0 + 5,none⟩ [.int .i64 ap])∧
 NilP c fun br=>
 ∃ aq:Int,(At k (Addr.add br 0) [.int .i64 aq])∧
 Br (decide (ap≤aq))
 (K (.bool false) l)
 (∃ ar:Int,(At k ⟨d,0 + 4,none⟩ [.int .i64 ar])∧
 Br (ar !=1)
 (∃ av:Int,(At k ⟨d,0 + 5,none⟩ [.int .i64 av])∧
 Br (av !=0)
 (K (.bool false) l)
 (o  l))
 (o  l)))
 (∃ au:Int,(At k ⟨d,0 + 4,none⟩ [.int .i64 au])∧
 Br (au !=1)
 (∃ aw:Int,(At k ⟨d,0 + 5,none⟩ [.int .i64 aw])∧
 Br (aw !=0)
 (K (.bool false) l)
 (o  l))
 (o  l)))∧
 ∀ (ca:Env)  (bl:World),o  bl→
 Drw bl fun D b3=>
 NilP c fun X=>
 ∃ q:Sl,(At D ⟨X.block,X.off + 2,none⟩ [.slice q.a q.len q.cap])∧
 Rng z q.len (NilP q.a fun bs=>
 ∃ ax:Option Addr,∃ ay:Option Addr,(At D (Addr.add bs (mulS z.toNat 2)) [.pointer ax,.pointer ay])∧
 ∃ az:Int,∃ a0:Int,∃ a1:Int,∃ a2:Int,∃ a3:Int,∃ a4:Int,(At D ⟨d,0,none⟩ [.int .i64 az,.int .i64 a0,.int .i64 a1,.int .i64 a2,.int .i64 a3,.int .i64 a4])∧
 Calls Tryz.prog 221 #[.agg #[.pointer ax,.pointer ay],.agg #[.int .i64 az,.int .i64 a0,.int .i64 a1,.int .i64 a2,.int .i64 a3,.int .i64 a4]] b3 fun b2 H=>
 ∃ a5:Bool,(b2=.returned (.bool a5))∧
 (D H)∧
 Br (!a5)
 (K (.bool false) H)
 ((J (IntKind.i64.wrap (f + 1)) H)∧bp (IntKind.i64.wrap (f + 1)) H<bp f j))) j))
 (NilP c fun Y=>
 ∃ E:Sl,(At (fun e=>e=j) ⟨Y.block,Y.off + 3,none⟩ [.slice E.a E.len E.cap])∧
 K (.bool (A==(↑E.len:Int))) j)))
def sk146:Sk:=(.seq .leaf (.seq .leaf (.seq .leaf (.seq (.seq .leaf (.block (.loop [3,4] [(.int .i64),(.int .i64)] [2,3,4,14,15,16,17,18,19,20,21,22,23,24,25,26,27,28,29,30,31,32,33,34,35,36,37,38,39,40,41,42,43,44,45,46,47,48,49,50,51,52,53,54,55,56,57,58,59,60,61,62,63,64,65,66,67,68,69,70,71,72,73,74,75,76,77] (.seq .leaf (.seq (.block (.cut [] [] [2,23,24,25,26,27,28,29,30,31,32,33,34,35,36,37,38,39,40,41,42,43,44,45,46,47,48,49,50] .leaf .leaf)) .leaf))))) (.seq (.seq .leaf (.block (.loop [5] [(.int .i64)] [2,5,6,7,8,78,79,80,81,82,83,84,85,86,87,88,89,90,91,92,93,94,95,96,97,98,99,100,101,102,103,104,105,106,107,108,109,110,111,112,113,114,115,116,117,118,119,120,121,122,123,124,125,126,127,128,129,130,131,132,133,134,135,136,137,138,139,140,141,142,143,144,145,146,147,148,149,150,151,152,153,154,155,156,157,158,159,160,161,162,163,164,165,166,167,168,169] (.seq .leaf (.seq (.block (.seq .leaf (.seq .leaf (.cut [] [] [2,98,99,100,101,102,103,104,105,106,107,108,109,110,111,112,113,114,115,116,117,118,119,120,121,122,123,124,125,126,127,128,129,130,131,132,133,134,135,136] .leaf (.cut [] [] [2,137,138,139,140,141,142,143,144,145,146,147,148,149,150,151,152,153,154,155,156,157,158] .leaf .leaf))))) .leaf))))) .leaf)))))
theorem call146 (a:Option Addr) (K:Value→World→Prop) (w:World) (h:B146 a K w):Gets Tryz.prog 146 #[.pointer a] w K:=cq (sk:=sk146) h Tryz.func146
def B221 (ap:Option Addr) (aq:Option Addr) (aw:Int) (ax:Int) (ay:Int) (az:Int) (a0:Int) (a1:Int) (K:Value→World→Prop) (w:World):Prop:=
 New (.cells #[.pointer ap,.pointer aq] 107 (0,0)) (fun m ar=>
 New (.cells #[.int .i64 aw,.int .i64 ax,.int .i64 ay,.int .i64 az,.int .i64 a0,.int .i64 a1] 125 (0,0)) (fun f x=>
 ∃ D:Int,(At (fun b=>b=x) ⟨f,0 + 4,none⟩ [.int .i64 D])∧
 Br (D==3)
 (∃ (u:Int→World→Prop) (aj:Int→World→Nat),(u 0 x)∧∀ (a2:Env) (i:Int) (d:World),u i d→
 ∃ E:Option Addr,(At (fun b=>b=d) ⟨m,0 + 1,none⟩ [.pointer E])∧
 NilP E fun al=>
 ∃ r:Sl,(At (fun b=>b=d) (Addr.add al 0) [.slice r.a r.len r.cap])∧
 Br (decide (i<(↑r.len:Int)))
 (∃ F:Option Addr,(At (fun b=>b=d) ⟨m,0 + 1,none⟩ [.pointer F])∧
 NilP F fun am=>
 ∃ n:Sl,(At (fun b=>b=d) (Addr.add am 0) [.slice n.a n.len n.cap])∧
 Rng i n.len (NilP n.a fun an=>
 ∃ G:Int,∃ H:Int,∃ I:Int,∃ J:Int,∃ L:Nat,(At (fun b=>b=d) (Addr.add an (mulS i.toNat 5)) [.int .i64 G,.int .i64 H,.int .i64 I,.int .i64 J,.float .f64 L])∧
 New (.cells #[.int .i64 0,.int .i64 0,.int .i64 0,.int .i64 0,.float .f64 0] 168 (0,0)) (fun q au=>
 ∃ l:World,((Instr.storeAt 168 (.pointer ((some ⟨q,0,none⟩))) (.agg #[.int .i64 G,.int .i64 H,.int .i64 I,.int .i64 J,.float .f64 L])).run Tryz.prog au=.ok () l)∧
 ∃ M:Int,(At (fun b=>b=l) ⟨q,0,none⟩ [.int .i64 M])∧
 ∃ N:Int,(At (fun b=>b=l) ⟨f,0,none⟩ [.int .i64 N])∧
 Br (M==N)
 (Drw l fun g y=>
 ∃ O:Int,(At g ⟨q,0 + 1,none⟩ [.int .i64 O])∧
 ∃ Q:Int,(At g ⟨f,0 + 2,none⟩ [.int .i64 Q])∧
 Br (O==Q)
 (∃ T:Int,(At g ⟨q,0 + 2,none⟩ [.int .i64 T])∧
 ∃ U:Int,(At g ⟨f,0 + 3,none⟩ [.int .i64 U])∧
 Br (T==U)
 (∃ V:Int,(At g ⟨f,0 + 2,none⟩ [.int .i64 V])∧
 ∃ X:Option Addr,(At g ⟨m,0,none⟩ [.pointer X])∧
 NilP X fun z=>
 ∃ s:Sl,(At g ⟨z.block,z.off + 3,none⟩ [.slice s.a s.len s.cap])∧
 K (.bool (decide (V<(↑s.len:Int)))) y)
 (K (.bool false) y))
 (K (.bool false) y))
 ((u (IntKind.i64.wrap (i + 1)) l)∧aj (IntKind.i64.wrap (i + 1)) l<aj i d)) d))
 (K (.bool false) d))
 (∃ (v:Int→World→Prop) (ak:Int→World→Nat),(v 0 x)∧∀ (a3:Env) (j:Int) (e:World),v j e→
 ∃ Y:Option Addr,(At (fun b=>b=e) ⟨m,0,none⟩ [.pointer Y])∧
 NilP Y fun A=>
 ∃ t:Sl,(At (fun b=>b=e) ⟨A.block,A.off + 4,none⟩ [.slice t.a t.len t.cap])∧
 Br (decide (j<(↑t.len:Int)))
 (∃ Z:Option Addr,(At (fun b=>b=e) ⟨m,0,none⟩ [.pointer Z])∧
 NilP Z fun C=>
 ∃ o:Sl,(At (fun b=>b=e) ⟨C.block,C.off + 4,none⟩ [.slice o.a o.len o.cap])∧
 Rng j o.len (NilP o.a fun ao=>
 ∃ aa:Int,∃ ab:Int,∃ ac:Int,∃ k:Sl,(At (fun b=>b=e) (Addr.add ao (mulS j.toNat 4)) [.int .i64 aa,.int .i64 ab,.int .i64 ac,.slice k.a k.len k.cap])∧
 New (.cells #[.int .i64 0,.int .i64 0,.int .i64 0,.slice none 0 0] 197 (0,0)) (fun p av=>
 ∃ c:World,((Instr.storeAt 197 (.pointer ((some ⟨p,0,none⟩))) (.agg #[.int .i64 aa,.int .i64 ab,.int .i64 ac,.slice k.a k.len k.cap])).run Tryz.prog av=.ok () c)∧
 ∃ ad:Int,(At (fun b=>b=c) ⟨p,0,none⟩ [.int .i64 ad])∧
 ∃ ae:Int,(At (fun b=>b=c) ⟨f,0,none⟩ [.int .i64 ae])∧
 Br (ad==ae)
 (∃ af:Int,(At (fun b=>b=c) ⟨p,0 + 1,none⟩ [.int .i64 af])∧
 ∃ ag:Int,(At (fun b=>b=c) ⟨f,0 + 2,none⟩ [.int .i64 ag])∧
 Br (af==ag)
 (∃ ah:Int,(At (fun b=>b=c) ⟨p,0 + 2,none⟩ [.int .i64 ah])∧
 ∃ ai:Int,(At (fun b=>b=c) ⟨f,0 + 3,none⟩ [.int .i64 ai])∧
 K (.bool (ah==ai)) c)
 (K (.bool false) c))
 ((v (IntKind.i64.wrap (j + 1)) c)∧ak (IntKind.i64.wrap (j + 1)) c<ak j e)) e))
 (K (.bool false) e))) ar) w
def sk221:Sk:=(.seq .leaf (.seq (.seq .leaf (.cond (.seq (.seq .leaf (.block (.loop [5] [(.int .i64)] [4,5,6,12,13,14,15,16,17,18,19,20,21,22,23,24,25,26,27,28,29,30,31,32,33,34,35,36,37,38,39,40,41,42,43,44,45,46,47,48,49,50,51,52,53,54,55,56,57] .leaf))) .leaf) .leaf)) (.seq (.seq .leaf (.block (.loop [7] [(.int .i64)] [4,7,8,58,59,60,61,62,63,64,65,66,67,68,69,70,71,72,73,74,75,76,77,78,79,80,81,82,83,84,85,86,87,88,89,90,91,92] .leaf))) .leaf)))
theorem call221 (a:Option Addr) (b:Option Addr) (c:Int) (d:Int) (e:Int) (f:Int) (g:Int) (i:Int) (K:Value→World→Prop) (w:World) (h:B221 a b c d e f g i K w):Gets Tryz.prog 221 #[.agg #[.pointer a,.pointer b],.agg #[.int .i64 c,.int .i64 d,.int .i64 e,.int .i64 f,.int .i64 g,.int .i64 i]] w K:=cq (sk:=sk221) h Tryz.func221
end Go.Proofs.YtlplemdmegpoeaaGreatDoor
/- Words of 64 bits: the highest bit. No condition. -/
namespace Go.VC
set_option linter.unusedVariables false
set_option linter.unusedSimpArgs false
theorem and_top {x:Nat} (h:x<18446744073709551616):x &&& 9223372036854775808=if x<9223372036854775808 then 0 else 9223372036854775808:=by
 have e:(9223372036854775808:Nat)=2 ^ 63:=by decide
 apply Nat.eq_of_testBit_eq
 intro i
 rw [Nat.testBit_and]
 by_cases hi:63=i
 ·subst hi
  have h1:x.testBit 63=decide (¬ x<9223372036854775808):=by
   rw [Nat.testBit_eq_decide_div_mod_eq,←e]
   exact decide_eq_decide.2 (by omega)
  have h2:Nat.testBit 9223372036854775808 63=true:=by rw [e,Nat.testBit_two_pow];simp
  rw [h1,h2]
  split
  ·rw [decide_eq_false (by omega)];simp
  ·rw [decide_eq_true (by assumption)];simp [h2]
 ·have h2:Nat.testBit 9223372036854775808 i=false:=by rw [e,Nat.testBit_two_pow];simp [hi]
  rw [h2]
  split<;>simp [h2]
theorem or_top {x:Nat} (h:x<9223372036854775808):x|||9223372036854775808=x + 9223372036854775808:=by
 have:=Nat.two_pow_add_eq_or_of_lt (i:=63) (b:=x) (by simpa using h) 1
 rw [Nat.or_comm]
 simp only [Nat.mul_one] at this
 have e:(2:Nat) ^ 63=9223372036854775808:=by decide
 rw [e] at this
 omega
theorem not_u64 {x:Nat} (h:x<18446744073709551616):IntKind.u64.wrap ((BitVec.ofInt IntKind.u64.bits (if IntKind.u64.signed=true then -1 else IntKind.u64.max) ^^^ BitVec.ofInt IntKind.u64.bits (x:Int)).toNat:Int)=((18446744073709551615 - x:Nat):Int):=by
 have e1:BitVec.ofInt IntKind.u64.bits (if IntKind.u64.signed=true then -1 else IntKind.u64.max)=BitVec.allOnes 64:=by
  show BitVec.ofInt 64 18446744073709551615=BitVec.allOnes 64
  decide
 have e2:(BitVec.ofInt 64 (x:Int)).toNat=x:=bv_toNat 64 x (by simpa using h)
 rw [e1]
 show IntKind.u64.wrap (((BitVec.allOnes 64 ^^^ BitVec.ofInt 64 (x:Int)).toNat:Nat):Int)=_
 rw [BitVec.xor_comm,BitVec.xor_allOnes,BitVec.toNat_not,e2]
 have e3:(2:Nat) ^ 64 - 1 - x=18446744073709551615 - x:=by
  have:(2:Nat) ^ 64=18446744073709551616:=by decide
  rw [this]
 rw [e3]
 exact wrapU64 (by omega) (by omega)
theorem andnot_top {k:Nat} (h:k<18446744073709551616) (h1:9223372036854775808≤k):bitI .andNot .u64 (k:Int) 9223372036854775808=((k - 9223372036854775808:Nat):Int):=by
 have e1:(BitVec.ofInt 64 (k:Int)).toNat=k:=bv_toNat 64 k (by simpa using h)
 have e2:(BitVec.ofInt 64 9223372036854775808).toNat=9223372036854775808:=by decide
 have e3:(BitVec.ofInt 64 (k:Int) &&& ~~~ BitVec.ofInt 64 9223372036854775808).toNat=k - 9223372036854775808:=by
  rw [BitVec.toNat_and,BitVec.toNat_not,e1,e2]
  have e4:(2:Nat) ^ 64 - 1 - 9223372036854775808=2 ^ 63 - 1:=by decide
  rw [e4,Nat.and_two_pow_sub_one_eq_mod]
  have e5:(2:Nat) ^ 63=9223372036854775808:=by decide
  rw [e5]
  omega
 show IntKind.u64.wrap (((BitVec.ofInt 64 (k:Int) &&& ~~~ BitVec.ofInt 64 9223372036854775808).toNat:Nat):Int)=_
 rw [e3]
 exact wrapU64 (by omega) (by omega)
end Go.VC
/- Packages fare, cmp: floats in order, their places. Condition: words. -/
namespace Go.Proofs.YtlplemdmegpoeaaGreatDoor
set_option linter.unusedVariables false
set_option linter.unusedSimpArgs false
open Go Go.VC Ieee
variable {R:Cx} {Hs Rest:List HP} {w:World}
theorem fb_name : (Tryz.f210.name == "runtime.NumGoroutine") = false := by kernel_rfl
theorem fb_body:Tryz.f210.body.isNone=true:=by kernel_rfl
theorem fb_next:Extern.findNext Tryz.f210=none:=by kernel_rfl
theorem fb_find:Extern.find Tryz.f210=some Extern.MathFloatBits.float64bits:=by kernel_rfl
theorem ff_name : (Tryz.f222.name == "runtime.NumGoroutine") = false := by kernel_rfl
theorem ff_body:Tryz.f222.body.isNone=true:=by kernel_rfl
theorem ff_next:Extern.findNext Tryz.f222=none:=by kernel_rfl
theorem ff_find:Extern.find Tryz.f222=some Extern.MathFloatBits.float64frombits:=by kernel_rfl
theorem bits_run (x:Nat) (w:World):(callFunc 210 #[.float .f64 x]).run Tryz.prog w=.ok (.value (.int .u64 x)) w:=by
 rw [run_callFunc_extern Tryz.func210 fb_name fb_body fb_next fb_find]
 rfl
theorem from_run (n:Nat) (w:World):(callFunc 222 #[.int .u64 n]).run Tryz.prog w=.ok (.value (.float .f64 n)) w:=by
 rw [run_callFunc_extern Tryz.func222 ff_name ff_body ff_next ff_find]
 rfl
theorem key_spec {x:Nat} (hx:x<18446744073709551616) (hw:Sat R Hs w):Gets Tryz.prog 135 #[.float .f64 x] w fun v w'=>v=.int .u64 (keyF x:Nat)∧Sat R Hs w':=by
 apply call135
 refine ⟨_,w,bits_run x w,_,rfl,?_⟩
 have e1:bitI BinOp.and IntKind.u64 (x:Int) 9223372036854775808=((x &&& 9223372036854775808:Nat):Int):=andU64 (y:=9223372036854775808) hx (by decide)
 have e2:bitI BinOp.or IntKind.u64 (x:Int) 9223372036854775808=((x|||9223372036854775808:Nat):Int):=orU64 (y:=9223372036854775808) hx (by decide)
 rw [e1,e2,and_top hx]
 refine Br.mk (fun h=>⟨?_,hw⟩) (fun h=>⟨?_,hw⟩)
 ·rw [not_u64 hx]
  unfold keyF
  split at h
  ·simp at h
  ·rename_i h1;rw [if_neg h1]
 ·split at h
  ·rename_i h1
   rw [or_top h1]
   unfold keyF
   rw [if_pos h1]
  ·simp at h
theorem of_spec {k:Nat} (hk:k<18446744073709551616) (hw:Sat R Hs w):Gets Tryz.prog 229 #[.int .u64 k] w fun v w'=>v=.float .f64 (ofF k)∧Sat R Hs w':=by
 apply call229
 have e1:bitI BinOp.and IntKind.u64 (k:Int) 9223372036854775808=((k &&& 9223372036854775808:Nat):Int):=andU64 (y:=9223372036854775808) hk (by decide)
 unfold B229
 rw [e1,and_top hk]
 refine Br.mk (fun h=>?_) (fun h=>?_)
 ·rw [not_u64 hk]
  refine ⟨_,w,from_run _ w,_,rfl,?_,hw⟩
  unfold ofF
  split at h
  ·rename_i h1;rw [if_neg (by omega)]
  ·simp at h
 ·have h1:¬ k<9223372036854775808:=by
   intro h1
   rw [if_pos h1] at h
   simp at h
  have e2:=andnot_top hk (by omega)
  rw [e2]
  refine ⟨_,w,from_run _ w,_,rfl,?_,hw⟩
  unfold ofF
  rw [if_pos (by omega)]
theorem cmpF_lt (t1 t2:Operand) (T:TypeId) (x y:Nat) (w:World):((do eqGuard BinOp.lss T t1 t2 (.float .f64 x) (.float .f64 y);binOp BinOp.lss T (.float .f64 x) (.float .f64 y):Sem Value)).run Tryz.prog w=.ok (.bool (double.order x y==some .lt)) w:=by
 simp [eqGuard,binOp,Op.floatCmp,FloatKind.format]
theorem cmpF_eq (t1 t2:Operand) (T:TypeId) (x y:Nat) (w:World):((do eqGuard BinOp.eql T t1 t2 (.float .f64 x) (.float .f64 y);binOp BinOp.eql T (.float .f64 x) (.float .f64 y):Sem Value)).run Tryz.prog w=.ok (.bool (double.order x y==some .eq)) w:=by
 simp [eqGuard,binOp,Op.floatCmp,FloatKind.format]
theorem nan_spec {x:Nat} (hw:Sat R Hs w):Gets Tryz.prog 293 #[.float .f64 x] w fun v w'=>v=.bool (nanF x)∧Sat R Hs w':=by
 apply call293
 refine ⟨_,fun w' _=>cmp_ne _ _ _ _ _ w',?_,hw⟩
 have h:=ord_self x
 rw [bne,h,Bool.not_not]
theorem compareF_spec {x y:Nat} (hw:Sat R Hs w):Gets Tryz.prog 277 #[.float .f64 x,.float .f64 y] w fun v w'=>v=.int .i64 (rankF x y)∧Sat R Hs w':=by
 apply call277
 refine (nan_spec hw).use ?_
 clear hw
 rintro _ w ⟨rfl,hw⟩
 refine ⟨_,rfl,?_⟩
 refine (nan_spec hw).use ?_
 clear hw
 rintro _ w ⟨rfl,hw⟩
 refine ⟨_,rfl,?_⟩
 unfold rankF
 refine Br.mk (fun hx=>?_) (fun hx=>?_)
 ·refine Br.mk (fun hy=>⟨?_,hw⟩) (fun hy=>⟨?_,hw⟩)
  ·rw [kv_nan hx,kv_nan hy,if_neg (by omega),if_pos rfl]
  ·have:=kv_bd hy
   rw [kv_nan hx,if_pos (by omega)]
 ·refine Br.mk (fun hy=>⟨?_,hw⟩) (fun hy=>?_)
  ·have:=kv_bd hx
   rw [kv_nan hy,if_neg (by omega),if_neg (by omega)]
  ·obtain ⟨o1,o2,o3⟩:=ord_lt hx hy
   refine ⟨_,fun w' _=>cmpF_lt _ _ _ _ _ w',?_⟩
   rw [o1]
   refine Br.d (fun h=>⟨by rw [if_pos h],hw⟩) (fun h=>?_)
   refine ⟨_,fun w' _=>cmp_gt _ _ _ _ _ w',?_⟩
   rw [o3]
   refine Br.d (fun h2=>⟨by rw [if_neg h,if_neg (by omega)],hw⟩) (fun h2=>⟨by rw [if_neg h,if_pos (by omega)],hw⟩)
theorem rank_spec {x y:Nat} (hw:Sat R Hs w):Gets Tryz.prog 243 #[.float .f64 x,.float .f64 y] w fun v w'=>v=.int .i64 (rankF x y)∧Sat R Hs w':=by
 apply call243
 refine (compareF_spec hw).use ?_
 rintro _ w ⟨rfl,hw⟩
 exact ⟨_,rfl,rfl,hw⟩
def cmpI (x y:Int):Int:=if x<y then -1 else if y<x then 1 else 0
theorem compareI_spec {x y:Int} (hw:Sat R Hs w):Gets Tryz.prog 244 #[.int .i64 x,.int .i64 y] w fun v w'=>v=.int .i64 (cmpI x y)∧Sat R Hs w':=by
 apply call244
 have nan:∀ {z:Int} {w:World},Sat R Hs w→Gets Tryz.prog 278 #[.int .i64 z] w fun v w'=>v=.bool false∧Sat R Hs w':=fun {z w} hw=>by
  apply call278
  exact ⟨by simp,hw⟩
 refine (nan hw).use ?_
 clear hw
 rintro _ w ⟨rfl,hw⟩
 refine ⟨_,rfl,?_⟩
 refine (nan hw).use ?_
 clear hw
 rintro _ w ⟨rfl,hw⟩
 refine ⟨_,rfl,Br.f rfl (Br.f rfl ?_)⟩
 unfold cmpI
 refine Br.d (fun h=>⟨by rw [if_pos h],hw⟩) (fun h=>Br.d (fun h2=>⟨by rw [if_neg h,if_pos (by omega)],hw⟩) (fun h2=>⟨by rw [if_neg h,if_neg (by omega)],hw⟩))
theorem rkey_spec {x:Nat} (hx:x<18446744073709551616) (hw:Sat R Hs w):Gets Tryz.prog 139 #[.float .f64 x] w fun v w'=>v=.int .u64 (keyF x:Nat)∧Sat R Hs w':=by
 apply call139
 refine ⟨_,w,bits_run x w,_,rfl,?_⟩
 unfold keyF
 with_reducible refine Br.d (fun h=>?_) (fun h=>?_)
 ·refine ⟨?_,hw⟩
  have e1:IntKind.u64.wrap ((x:Int) + 9223372036854775808)=((x + 9223372036854775808:Nat):Int):=by rw [wrapU64 (by omega) (by omega)];omega
  have h1:x<9223372036854775808:=by omega
  rw [if_pos h1]
  exact congrArg (Value.int .u64) e1
 ·refine ⟨?_,hw⟩
  have e1:IntKind.u64.wrap (18446744073709551615 - (x:Int))=((18446744073709551615 - x:Nat):Int):=by rw [wrapU64 (by omega) (by omega)];omega
  have h1:¬ x<9223372036854775808:=by omega
  rw [if_neg h1]
  exact congrArg (Value.int .u64) e1
theorem rof_spec {k:Nat} (hk:k<18446744073709551616) (hw:Sat R Hs w):Gets Tryz.prog 148 #[.int .u64 k] w fun v w'=>v=.float .f64 (ofF k)∧Sat R Hs w':=by
 apply call148
 unfold B148 ofF
 with_reducible refine Br.d (fun h=>?_) (fun h=>?_)
 ·rw [wrapU64 (by omega) (by omega),show (k:Int) - 9223372036854775808=((k - 9223372036854775808:Nat):Int) by omega]
  exact ⟨_,w,from_run _ w,_,rfl,by rw [if_pos (by omega)],hw⟩
 ·rw [wrapU64 (by omega) (by omega),show 18446744073709551615 - (k:Int)=((18446744073709551615 - k:Nat):Int) by omega]
  exact ⟨_,w,from_run _ w,_,rfl,by rw [if_neg (by omega)],hw⟩
theorem rrank_spec {x y:Nat} (hw:Sat R Hs w):Gets Tryz.prog 258 #[.float .f64 x,.float .f64 y] w fun v w'=>v=.int .i64 (rankF x y)∧Sat R Hs w':=by
 apply call258
 have ne:∀ z:Nat,(double.order z z !=some .eq)=nanF z:=fun z=>by rw [bne,ord_self z,Bool.not_not]
 refine ⟨_,fun w' _=>cmp_ne _ _ _ _ _ w',_,fun w' _=>cmp_ne _ _ _ _ _ w',?_⟩
 rw [ne x,ne y]
 unfold rankF
 refine Br.mk (fun hx=>?_) (fun hx=>?_)
 ·refine Br.mk (fun hy=>⟨by rw [kv_nan hx,kv_nan hy,if_neg (by omega),if_pos rfl],hw⟩) (fun hy=>?_)
  refine ⟨_,fun w' _=>cmpF_eq _ _ _ _ _ w',?_⟩
  rw [ord_none (.inl hx)]
  refine Br.f rfl (Br.t hx ⟨?_,hw⟩)
  have:=kv_bd hy
  rw [kv_nan hx,if_pos (by omega)]
 ·refine ⟨_,fun w' _=>cmpF_eq _ _ _ _ _ w',?_⟩
  by_cases hy:nanF y=true
  ·rw [ord_none (.inr hy)]
   refine Br.f rfl (Br.f hx ⟨_,fun w' _=>cmpF_lt _ _ _ _ _ w',?_⟩)
   rw [ord_none (.inr hy)]
   have:=kv_bd hx
   exact Br.f rfl ⟨by rw [kv_nan hy,if_neg (by omega),if_neg (by omega)],hw⟩
  ·have hy:nanF y=false:=by simpa using hy
   obtain ⟨o1,o2,o3⟩:=ord_lt hx hy
   rw [o2]
   refine Br.d (fun h=>⟨by rw [if_neg (by omega),if_pos h],hw⟩) (fun h=>Br.f hx ⟨_,fun w' _=>cmpF_lt _ _ _ _ _ w',?_⟩)
   rw [o1]
   exact Br.d (fun h2=>⟨by rw [if_pos h2],hw⟩) (fun h2=>⟨by rw [if_neg h2,if_neg h],hw⟩)
end Go.Proofs.YtlplemdmegpoeaaGreatDoor
/- Package booking: a writer. Condition: bounds on lengths. -/
namespace Go.Proofs.YtlplemdmegpoeaaGreatDoor
set_option linter.unusedVariables false
set_option linter.unusedSimpArgs false
open Go Go.VC
variable {R:Cx} {Hs Rest:List HP} {w:World}
abbrev wrp (p:Nat) (s:Sl):HP:=pts p (.cells [.slice s.a s.len s.cap].toArray 112 (0,0))
def WrB (p:Nat) (bs:List Int):HP:=exs fun s:Sl=>Star [wrp p s,Own s 5 (b8 bs)]
theorem Sat.wrB {p:Nat} {bs:List Int}:Sat R (WrB p bs::Hs) w↔∃ s:Sl,Sat R (wrp p s::Own s 5 (b8 bs)::Hs) w:=by
 unfold WrB
 rw [Sat.exs]
 exact ⟨fun ⟨s,h⟩=>⟨s,Sat.star.1 h⟩,fun ⟨s,h⟩=>⟨s,Sat.star.2 h⟩⟩
theorem nn_bd {n:Int} (h:n<9223372036854775808):0≤nn n∧nn n<9223372036854775808:=by unfold nn;omega
theorem nn_if (n:Int):(if 0>n then 0 else n)=nn n:=by unfold nn;split<;>omega
theorem wnums_spec {p:Nat} {s:Sl} {xs bs:List Int} (hxs:∀ x∈xs,x<9223372036854775808) (hl:bs.length + 9 * xs.length≤1099511627776) (hs:RoI R s xs) (hw:Sat R (WrB p bs::Hs) w):
  Gets Tryz.prog 60 #[.pointer (some ⟨p,0,none⟩),.slice s.a s.len s.cap] w fun v w'=>v=.tuple #[]∧Sat R (WrB p (bs++numsB (xs.map nn))::Hs) w':=by
 have hlen:=hs.len
 apply call60
 refine ⟨fun i w=>∃ k:Nat,i=k∧k≤xs.length∧Sat R (WrB p (bs++numsB ((xs.take k).map nn))::Hs) w,fun i _=>xs.length - i.toNat,⟨0,rfl,by omega,by simpa [numsB] using hw⟩,?_⟩
 clear hw
 rintro _ _ w ⟨k,rfl,hk,hw⟩
 refine Br.d (fun h=>?_) (fun h=>?_)
 ·have hkx:k<xs.length:=by omega
  have hx:=nn_bd (hxs xs[k] (List.getElem_mem _))
  have hxt:∀ x∈(xs.take k).map nn,0≤x∧x<18446744073709551616:=fun x hx=>by
   obtain ⟨y,hy,rfl⟩:=List.mem_map.1 hx
   have:=nn_bd (hxs y (List.mem_of_mem_take hy));omega
  have hnl:=numsB_len hxt
  rw [List.length_map,List.length_take] at hnl
  refine Ro.ix hs (eqS hw) k rfl hkx ?_
  obtain ⟨s0,hw⟩:=Sat.wrB.1 hw
  refine drw_ruleT hw fun w hw=>?_
  refine NilP.mk rfl ⟨s0,At.own selfS (by exact ⟨rfl,trivial⟩),?_⟩
  rw [nn_if]
  obtain ⟨n,hn⟩:=Int.eq_ofNat_of_zero_le hx.1
  rw [hn,wrapU64 (by omega) (by omega)]
  refine (number_spec (by omega) hw).use ?_
  rintro _ w ⟨t,rfl,hw⟩
  refine ⟨t,rfl,hw.absorb,?_⟩
  have hw:Sat R (Own s0 5 (b8 (bs++numsB ((xs.take k).map nn)))::Own t 5 (b8 (numB n))::wrp p s0::VC.tru::Hs) w:=hw.arr
  have hnb:=numB_len (n:=n) (by omega)
  refine appendOO elB8 (s:=s0) (n:=1099511627790) Tryz.underlying47 hw (by rw [List.length_append];omega) (by omega) (by omega) fun s2 w hw=>?_
  have hw:Sat R (wrp p s0::Own s2 5 (b8 (bs++numsB ((xs.take k).map nn)++numB n))::Hs) w:=by
   have h:Sat R (Own t 5 (b8 (numB n))::VC.tru::wrp p s0::Own s2 5 (b8 (bs++numsB ((xs.take k).map nn)++numB n))::Hs) w:=hw.arr
   exact h.drop.drop
  refine NilP.mk rfl ?_
  refine store_rule hw (by kernel_rfl) rfl (by simp [Value.cells]) fun w hw=>?_
  have hw:=hw.re (wrp p s2)
  rw [wrap64 (by omega) (by omega)]
  refine ⟨⟨k + 1,by omega,by omega,Sat.wrB.2 ⟨s2,?_⟩⟩,by dsimp only;omega⟩
  have e:(xs.take (k + 1)).map nn=(xs.take k).map nn++[nn xs[k]]:=by rw [List.take_add_one,List.getElem?_eq_getElem hkx,List.map_append];rfl
  rw [e,numsB_app,show numsB [nn xs[k]]=numB (nn xs[k]).toNat by simp [numsB],hn,Int.toNat_natCast,←List.append_assoc]
  exact hw
 ·have:k=xs.length:=by omega
  subst this
  rw [List.take_length] at hw
  exact ⟨rfl,hw⟩
theorem wtext_spec {p:Nat} {s:Sl} {d bs:List Int} (hl:bs.length + d.length≤1099511627776) (hd:d.length≤1099511627776) (hs:Ro R s (b8 d)) (hw:Sat R (WrB p bs::Hs) w):
  Gets Tryz.prog 63 #[.pointer (some ⟨p,0,none⟩),.slice s.a s.len s.cap] w fun v w'=>v=.tuple #[]∧Sat R (WrB p (bs++textB d)::Hs) w':=by
 apply call63
 obtain ⟨s0,hw⟩:=Sat.wrB.1 hw
 refine drw_ruleT hw fun w hw=>?_
 refine NilP.mk rfl ⟨s0,At.own selfS (by exact ⟨rfl,trivial⟩),?_⟩
 refine (ftext_spec hs hd hw).use ?_
 rintro _ w ⟨t,rfl,hw⟩
 refine ⟨t,rfl,hw.absorb,?_⟩
 have hw:Sat R (Own s0 5 (b8 bs)::Own t 5 (b8 (textB d))::wrp p s0::VC.tru::Hs) w:=hw.arr
 have hnb:=numB_len (n:=d.length) (by omega)
 have htl:(textB d).length≤d.length + 9:=by unfold textB;rw [List.length_append];omega
 refine appendOO elB8 (s:=s0) (n:=1099511627800) Tryz.underlying47 hw (by omega) (by omega) (by omega) fun s2 w hw=>?_
 have hw:Sat R (wrp p s0::Own s2 5 (b8 (bs++textB d))::Hs) w:=by
  have h:Sat R (Own t 5 (b8 (textB d))::VC.tru::wrp p s0::Own s2 5 (b8 (bs++textB d))::Hs) w:=hw.arr
  exact h.drop.drop
 refine NilP.mk rfl ?_
 refine store_rule hw (by kernel_rfl) rfl (by simp [Value.cells]) fun w hw=>?_
 have hw:=hw.re (wrp p s2)
 exact ⟨rfl,Sat.wrB.2 ⟨s2,hw⟩⟩
end Go.Proofs.YtlplemdmegpoeaaGreatDoor

/- Package booking: a writer's steps, as Encode and Answer take them. Condition: bounds on lengths. -/
namespace Go.Proofs.YtlplemdmegpoeaaGreatDoor
set_option linter.unusedVariables false
set_option linter.unusedSimpArgs false
open Go Go.VC
variable {R:Cx} {Hs Rest:List HP} {w:World}
theorem wlit_spec {p b n:Nat} {xs bs:List Int} (hn:n=xs.length) (hxs:∀ x∈xs,x<9223372036854775808) (hl:bs.length + 9 * xs.length≤1099511627776) (hw:Sat R (pts b (.cells (intsI xs).toArray 3 (0,0))::WrB p bs::Hs) w):
  Gets Tryz.prog 60 #[.pointer (some ⟨p,0,none⟩),.slice (some ⟨b,0,none⟩) n n] w fun v w'=>v=.tuple #[]∧Sat R (WrB p (bs++numsB (xs.map nn))::Hs) w':=by
 have hw:Sat R (Own ⟨some ⟨b,0,none⟩,n,n⟩ 3 (intsI xs)::WrB p bs::Hs) w:=own_lit hw (by rw [List.length_map];exact hn)
 obtain ⟨R',hr,_,hw,back⟩:=Own.lendI hw (by omega)
 refine (wnums_spec hxs hl hr hw).use ?_
 rintro _ w ⟨rfl,hw⟩
 exact ⟨_,rfl,rfl,(back hw).drop⟩
end Go.Proofs.YtlplemdmegpoeaaGreatDoor
/- Package booking: Encode. Condition: bounds on lengths; words. -/
namespace Go.Proofs.YtlplemdmegpoeaaGreatDoor
set_option linter.unusedVariables false
set_option linter.unusedSimpArgs false
open Go Go.VC
open Classical
variable {R:Cx} {Hs Rest:List HP} {w:World}
theorem numsB_sp (a:Int) (l:List Int):numsB (a::l)=numsB [a]++numsB l:=numsB_one a l
theorem nn1 {a:Int} (h:0≤a):numsB ([a].map nn)=numsB [a]:=by
 show numsB [nn a]=_
 rw [nn_id h]
end Go.Proofs.YtlplemdmegpoeaaGreatDoor

/- Package booking: a reader. Condition: bounds on lengths. -/
namespace Go.Proofs.YtlplemdmegpoeaaGreatDoor
set_option linter.unusedVariables false
set_option linter.unusedSimpArgs false
open Go Go.VC
variable {R:Cx} {Hs Rest:List HP} {w:World}
theorem bnum_spec {r:Nat} {rd:Rd} {most:Int} (hb:Bytes rd.bs) (h0:0≤most) (h1:most<9223372036854775808) (hw:Sat R (RdAt r rd::Hs) w):
  Gets Tryz.prog 157 #[.agg #[.pointer (some ⟨r,0,none⟩)],.int .i64 most] w fun v w'=>v=.int .i64 (rdNum most rd).1∧Sat R (RdAt r (rdNum most rd).2::Hs) w':=by
 have hv:=rdNum_val hb h0
 apply call157
 refine new_rule hw fun b w hw=>?_
 refine ⟨_,At.own (eqS hw) (by exact ⟨rfl,trivial⟩),?_⟩
 rw [wrapU64 (by omega) (by omega)]
 refine (rnum_spec hb hw.drop).use ?_
 rintro _ w ⟨rfl,hw⟩
 refine ⟨_,rfl,?_,hw⟩
 rw [wrap64 (by omega) (by omega)]
end Go.Proofs.YtlplemdmegpoeaaGreatDoor



/- Reference 02: a reader's text, at this seat. Condition: bounds on lengths. -/
namespace Go.Proofs.YtlplemdmegpoeaaGreatDoor
set_option linter.unusedVariables false
set_option linter.unusedSimpArgs false
open Go Go.VC
variable {R:Cx} {Hs Rest:List HP} {w:World}
theorem _root_.Go.VC.SlR.b8take {h:Heap} {s:Sl} {xs:List Int} (a:SlR h s (b8 xs)) {k:Nat} (hk:k≤xs.length):SlR h ⟨s.a,k,s.cap⟩ (b8 (xs.take k)):=by
 have:=a.take (k:=k) (by simpa using hk)
 simpa using this
theorem _root_.Go.VC.SlR.b8drop {h:Heap} {s:Sl} {xs:List Int} (a:SlR h s (b8 xs)) {k:Nat} (hk:k≤xs.length):SlR h (sdrop s k) (b8 (xs.drop k)):=by
 have:=a.drop (k:=k) (by simpa using hk)
 simpa using this
theorem rrtext_spec {r:Nat} {s:Sl} {bs:List Int} {rd:Rd} {most:Int} (hm:most<9223372036854775808) (hl:bs.length≤1099511627776) (hb:∀ x∈bs,0≤x∧x<256) (hs:SlR R.m s (b8 bs)) (hw:Sat R (RRdAt r s bs rd::Hs) w):
  Gets Tryz.prog 78 #[.pointer (some ⟨r,0,none⟩),.int .i64 most] w fun v w'=>∃ t:Sl,v=.slice t.a t.len t.cap∧Sat R (Own t 5 (b8 (rdText most rd).1)::RRdAt r s bs (rdText most rd).2::Hs) w':=by
 have hsl:s.len=bs.length:=by have:=hs.len;simpa using this
 have hscap:=hs.cap
 obtain ⟨n,⟨hn,hd⟩,hw⟩:=Sat.rrd.1 hw
 have hlen:rd.bs.length=bs.length - n:=by rw [←hd,List.length_drop]
 have hb2:∀ x∈rd.bs,0≤x∧x<256:=fun x hx=>hb x (by rw [←hd] at hx;exact List.mem_of_mem_drop hx)
 apply call78
 refine (rnext_spec hl hb hs hn hw).use ?_
 rintro _ w ⟨rfl,hw⟩
 refine ⟨_,_,_,rfl,?_⟩
 rw [hd]
 have bad:rdText most rd=([],⟨rd.bs,true⟩)→∀ {w},Sat R (pts r (rrCells s n rd.bad)::Hs) w→NilP (some ⟨r,0,none⟩) fun a_t25=>
   ∃ w_2:World,((Instr.storeAt 4 (.pointer ((some ⟨a_t25.block,a_t25.off + 2,none⟩))) (.bool true)).run Tryz.prog w=.ok () w_2)∧
   (∃ t:Sl,Value.slice none 0 0=.slice t.a t.len t.cap∧Sat R (Own t 5 (b8 (rdText most rd).1)::RRdAt r s bs (rdText most rd).2::Hs) w_2):=fun e w hw=>by
  refine NilP.mk rfl ?_
  refine store_rule hw (by kernel_rfl) rfl (by simp [Value.cells]) fun w hw=>?_
  have hw:=hw.re (pts r (rrCells s n true))
  rw [e]
  exact ⟨⟨none,0,0⟩,rfl,Own.nil (Sat.rrd.2 ⟨n,⟨hn,hd⟩,hw⟩)⟩
 refine ⟨fun w=>(∃ x k,rd.bad=false∧parse rd.bs=some (x,false,k)∧0≤most∧x≤most∧x≤(rd.bs.length:Int) - k)∧Sat R (pts r (rrCells s n rd.bad)::Hs) w,drw_rule hw fun w hw=>?_,?_⟩
 ·by_cases hbd:rd.bad=true
  ·have e:nextR ⟨rd.bs,rd.bad⟩=(0,false,0):=by unfold nextR;rw [if_pos hbd]
   rw [e];dsimp only
   refine Br.mk (fun h=>bad ?_ hw) (fun h=>by simp at h)
   unfold rdText;rw [if_pos hbd];rw [show rd=⟨rd.bs,rd.bad⟩ from rfl,hbd]
  ·have hbd:rd.bad=false:=by simpa using hbd
   cases hp:parse rd.bs with
   |none=>
    have e:nextR ⟨rd.bs,rd.bad⟩=(0,false,0):=by unfold nextR;simp [hp]
    rw [e];dsimp only
    refine Br.mk (fun h=>bad ?_ hw) (fun h=>by simp at h)
    unfold rdText;rw [if_neg (by rw [hbd];simp),hp]
   |some p=>
    obtain ⟨x,neg,k⟩:=p
    have e:nextR ⟨rd.bs,rd.bad⟩=(x,neg,(k:Int)):=by unfold nextR;simp [hp,hbd]
    rw [e];dsimp only
    obtain ⟨x0,x1,k0,k1,k2⟩:=parse_bd hb2 hp
    have e2:rdText most rd=if neg=false∧0≤most∧x≤most∧x≤((rd.bs.length:Int) - k) then (((rd.bs.drop k).take x.toNat),⟨rd.bs.drop (k + x.toNat),false⟩) else ([],⟨rd.bs,true⟩):=by
     unfold rdText;rw [if_neg (by rw [hbd];simp),hp]
    refine Br.e (fun h=>by omega) (fun _=>Br.mk (fun h=>bad ?_ hw) (fun h=>Br.d (fun h2=>bad ?_ hw) (fun h2=>?_)))
    ·rw [e2,if_neg (by rintro ⟨h3,_⟩;rw [h3] at h;cases h)]
    ·rw [e2,if_neg (by rintro ⟨_,h3,_⟩;omega)]
    ·rw [wrapU64 (x:=most) (by omega) (by omega)]
     refine Br.d (fun h3=>bad ?_ hw) (fun h3=>?_)
     ·rw [e2,if_neg (by rintro ⟨_,_,h4,_⟩;omega)]
     ·refine NilP.mk rfl ⟨s,At.own selfS (by exact ⟨rfl,trivial⟩),NilP.mk rfl ⟨n,At.own selfS (by exact ⟨rfl,trivial⟩),?_⟩⟩
      have e3:IntKind.u64.wrap (IntKind.i64.wrap (IntKind.i64.wrap ((s.len:Int) - (n:Int)) - (k:Int)))=(rd.bs.length:Int) - k:=by
       rw [wrap64 (x:=(s.len:Int) - (n:Int)) (by omega) (by omega),wrap64 (by omega) (by omega),wrapU64 (by omega) (by omega)];omega
      rw [e3]
      refine Br.d (fun h4=>bad ?_ hw) (fun h4=>⟨⟨x,k,hbd,by rw [h],by omega,by omega,by omega⟩,hw⟩)
      rw [e2,if_neg (by rintro ⟨_,_,_,h5⟩;omega)]
 clear bad hw
 rintro _ w ⟨⟨x,k,hbd,hp,hm0,hxm,hxl⟩,hw⟩
 obtain ⟨x0,x1,k0,k1,k2⟩:=parse_bd hb2 hp
 have e:nextR ⟨rd.bs,rd.bad⟩=(x,false,(k:Int)):=by unfold nextR;simp [hp,hbd]
 have e2:rdText most rd=(((rd.bs.drop k).take x.toNat),⟨rd.bs.drop (k + x.toNat),false⟩):=by
  unfold rdText;rw [if_neg (by rw [hbd];simp),hp];dsimp only;rw [if_pos ⟨rfl,hm0,hxm,hxl⟩]
 rw [e,e2]
 dsimp only
 obtain ⟨m,rfl⟩:=Int.eq_ofNat_of_zero_le x0
 refine NilP.mk rfl ⟨n,At.own (eqS hw) (by exact ⟨rfl,trivial⟩),NilP.mk rfl ?_⟩
 have e3:IntKind.i64.wrap ((n:Int) + (k:Int))=((n + k:Nat):Int):=by rw [wrap64 (by omega) (by omega)];omega
 have e4:IntKind.i64.wrap (((n + k:Nat):Int) + IntKind.i64.wrap (m:Int))=((n + k + m:Nat):Int):=by rw [wrap64 (x:=(m:Int)) (by omega) (by omega),wrap64 (by omega) (by omega)];omega
 dsimp only
 rw [e3,e4]
 refine store_rule hw (by kernel_rfl) rfl (by simp [Value.cells]) fun w hw=>?_
 rw [hbd] at hw
 have hw:=hw.re (pts r (rrCells s (n + k + m) false))
 refine drw_ruleT hw fun w hw=>?_
 refine NilP.mk rfl ⟨s,At.own selfS (by exact ⟨rfl,trivial⟩),NilP.mk rfl ⟨((n + k + m:Nat):Int),At.own selfS (by exact ⟨rfl,trivial⟩),by omega,by omega,by omega,by omega,?_⟩⟩
 rw [Int.toNat_natCast,Int.toNat_natCast,Int.toNat_natCast]
 refine new_rule hw fun b w hw=>?_
 have e5:n + k + m - (n + k)=m:=by omega
 rw [e5]
 have hro:SlR R.m ⟨(sdrop s (n + k)).a,m,(sdrop s (n + k)).cap⟩ (b8 ((rd.bs.drop k).take m)):=by
  have:=(hs.b8drop (k:=n + k) (by omega)).b8take (k:=m) (by simp;omega)
  rw [←List.drop_drop,hd] at this
  exact this
 have hll:((rd.bs.drop k).take m).length≤1099511627776:=by simp;omega
 refine ⟨hw.absorb,?_⟩
 have hw:Sat R (Own ⟨some ⟨b,0,none⟩,0,0⟩ 5 (([]:List Int).map (Value.int .u8))::VC.tru::pts r (rrCells s (n + k + m) false)::Hs) w:=own_lit hw
 refine appendRI elB8 (s:=⟨some ⟨b,0,none⟩,0,0⟩) (t:=⟨(sdrop s (n + k)).a,m,(sdrop s (n + k)).cap⟩) (n:=1099511627776) Tryz.underlying47 hw (hro.ro (by simp;omega)) (by simp;omega) (by omega) (by omega) fun t w hw=>?_
 refine ⟨hw.absorb,t,rfl,?_⟩
 rw [List.nil_append] at hw
 refine hw.cons fun _ h=>Sat.rrd.2 ⟨n + k + m,⟨by omega,?_⟩,h.drop⟩
 show bs.drop (n + k + m)=rd.bs.drop (k + m)
 rw [←hd,List.drop_drop,Nat.add_assoc]
end Go.Proofs.YtlplemdmegpoeaaGreatDoor
/- Package booking: Decode. Condition: bounds on lengths. -/
namespace Go.Proofs.YtlplemdmegpoeaaGreatDoor
set_option linter.unusedVariables false
set_option linter.unusedSimpArgs false
open Go Go.VC
open Classical
variable {R:Cx} {Hs Rest:List HP} {w:World}
abbrev nilSl:Sl:=⟨none,0,0⟩
section
variable (S:World→Prop) (J:Option Addr→World→Prop) (b4 b:Nat) (r:Option Addr)
end
section
variable {J:Option Addr→World→Prop} {b4 b r:Nat} {rd:Rd} {k f c m t:Int} {p:ByteArray}
def hd2 (rd:Rd):(Int × Int × Int × Int) × Rd:=
 let f:=rdNum 9999 rd
 let c:=rdNum 9999 f.2
 let m:=rdNum 9999 c.2
 let t:=rdNum 1099511627776 m.2
 ((f.1,c.1,m.1,t.1),t.2)
end
end Go.Proofs.YtlplemdmegpoeaaGreatDoor



/- Reference 18: whether a command may be; steps of its codes. Condition: bounds on lengths. -/
namespace Go.Proofs.YtlplemdmegpoeaaGreatDoor
set_option linter.unusedVariables false
set_option linter.unusedSimpArgs false
open Go Go.VC
open Classical
variable {R:Cx} {Hs Rest:List HP} {w:World}
theorem app8 {s t:Sl} {a b:List Int} {K:Sl→World→Prop} (hl:a.length + b.length≤1099511627776) (hw:Sat R (Own t 5 (b8 b)::Own s 5 (b8 a)::Hs) w)
  (k:∀ s2 w',Sat R (Own s2 5 (b8 (a++b))::Hs) w'→K s2 w'):
  ∃ w_1:World,∃ t2:Sl,((Builtin.append_ #[ 47,47 ] 47 #[.slice s.a s.len s.cap,.slice t.a t.len t.cap]).run Tryz.prog w=.ok (.slice t2.a t2.len t2.cap) w_1)∧K t2 w_1:=
 appendOO elB8 (s:=s) (n:=1099511627776) Tryz.underlying47 hw.swap (by omega) (by omega) (by omega) fun s2 w hw=>k s2 w (hw.swap.drop)
end Go.Proofs.YtlplemdmegpoeaaGreatDoor





/- Package booking: the book in memory; errors that are thrown and caught. Condition: none. -/
namespace Go.Proofs.YtlplemdmegpoeaaGreatDoor
set_option linter.unusedVariables false
set_option linter.unusedSimpArgs false
open Go Go.VC
open Classical
variable {R:Cx} {Hs Rest:List HP} {w:World}
def wtV (w:Wt):List Value:=[.int .i64 w.id,.int .i64 w.cls,.int .i64 w.many,.int .i64 w.time,.float .f64 w.sc]
abbrev quCell (s:Sl):Obj:=.cells [.slice s.a s.len s.cap].toArray 190 (0,0)
def QuAt (q:Nat) (l:List Wt):HP:=exs fun s:Sl=>Star [pts q (quCell s),OwnN 5 s 192 (l.map wtV)]
theorem Sat.qu {q:Nat} {l:List Wt}:Sat R (QuAt q l::Hs) w↔∃ s:Sl,Sat R (pts q (quCell s)::OwnN 5 s 192 (l.map wtV)::Hs) w:=by
 unfold QuAt
 rw [Sat.exs]
 exact ⟨fun ⟨s,h⟩=>⟨s,Sat.star.1 h⟩,fun ⟨s,h⟩=>⟨s,Sat.star.2 h⟩⟩
abbrev FE:=Nat × Nat × Pl
abbrev BE:=Nat × Bk
def plAt (e:FE):HP:=Star [LoneAt e.1 e.2.2.r,QuAt e.2.1 e.2.2.q]
abbrev bkObj (x:Bk):Obj:=.cells [.int .i64 x.id,.int .i64 x.flt,.int .i64 x.cls,.int .i64 x.many,.int .i64 x.state,.int .i64 x.till].toArray 121 (0,0)
def bkAt (e:BE):HP:=pts e.1 (bkObj e.2)
def FlsAt (fs:List FE):HP:=Star (fs.map plAt)
def BksAt (xs:List BE):HP:=Star (xs.map bkAt)
def flV (e:FE):Int × Value:=(e.2.2.n,.agg #[.pointer (some ⟨e.1,0,none⟩),.pointer (some ⟨e.2.1,0,none⟩)])
def bkV (e:BE):Int × Value:=(e.2.id,.pointer (some ⟨e.1,0,none⟩))
abbrev bookC (b:Book) (m1 m2:Nat):Obj:=.cells [.int .i64 b.now,.int .i64 b.next,.map (some m1),.map (some m2)].toArray 80 (0,0)
structure BookL (b:Book) (fs:List FE) (xs:List BE):Prop where
 fl:(fs.map fun e=>e.2.2).Perm b.fl
 bk:xs.map (fun e=>e.2)=b.L
def BookAt (p:Nat) (b:Book):HP:=exs fun m1:Nat=>exs fun m2:Nat=>exs fun fs:List FE=>exs fun xs:List BE=>
 Star [pur (BookL b fs xs),pts p (bookC b m1 m2),MapAt m1 (fs.map flV),MapAt m2 (xs.map bkV),FlsAt fs,BksAt xs]
theorem Sat.book {p:Nat} {b:Book}:Sat R (BookAt p b::Hs) w↔∃ m1 m2 fs xs,BookL b fs xs∧Sat R (pts p (bookC b m1 m2)::MapAt m1 (fs.map flV)::MapAt m2 (xs.map bkV)::FlsAt fs::BksAt xs::Hs) w:=by
 unfold BookAt
 simp only [Sat.exs]
 constructor
 ·rintro ⟨m1,m2,fs,xs,h⟩
  obtain ⟨h1,h2⟩:=Sat.pur.1 (Sat.star.1 h)
  exact ⟨m1,m2,fs,xs,h1,h2⟩
 ·rintro ⟨m1,m2,fs,xs,h1,h2⟩
  exact ⟨m1,m2,fs,xs,Sat.star.2 (Sat.pur.2 ⟨h1,h2⟩)⟩
abbrev pMap:MapT Tryz.prog 77 Int 3 97 (.agg #[.pointer none,.pointer none]):=⟨Tryz.underlying77,Tryz.underlying3,Tryz.zeroValue97⟩
abbrev bMap:MapT Tryz.prog 78 Int 3 86 (.pointer none):=⟨Tryz.underlying78,Tryz.underlying3,Tryz.zeroValue86⟩
theorem FlsAt.snoc {fs:List FE} {f q:Nat} {p:Pl} (hw:Sat R (LoneAt f p.r::QuAt q p.q::FlsAt fs::Hs) w):Sat R (FlsAt (fs++[(f,q,p)])::Hs) w:=by
 unfold FlsAt at hw ⊢
 rw [Sat.star,List.map_append,List.append_assoc]
 have hw:Sat R (Star (fs.map plAt)::LoneAt f p.r::QuAt q p.q::Hs) w:=hw.arr
 rw [Sat.star] at hw
 have key:∀ (L:List HP) {R:Cx},Sat R (L++LoneAt f p.r::QuAt q p.q::Hs) w→Sat R (L++(List.map plAt [(f,q,p)]++Hs)) w:=fun L=>by
  induction L with
  |nil=>exact fun h=>Sat.star.2 h
  |cons A L ih=>exact fun h=>h.cons fun _ h=>ih h
 exact key _ hw
theorem getM_ne {β:Type} {k:Int}:∀ {l:List (Int × β)},getM k l=none↔∀ e∈l,e.1≠k
 |[]=>⟨fun _ _ h=>(by cases h),fun _=>rfl⟩
 |e::l=>by
  rw [getM]
  by_cases h:k=e.1
  ·rw [if_pos (by simpa using h)]
   exact ⟨fun h2=>(by cases h2),fun h2=>absurd h.symm (h2 e (by simp))⟩
  ·rw [if_neg (by simpa using h),getM_ne]
   exact ⟨fun h2 x hx=>by
    rcases List.mem_cons.1 hx with h1|h1
    ·rw [h1];exact fun e=>h e.symm
    ·exact h2 x h1,fun h2 x hx=>h2 x (by simp [hx])⟩
theorem fl_none {b:Book} {fs:List FE} {xs:List BE} (hl:BookL b fs xs) {n:Int}:getM n (fs.map flV)=none↔b.at n=none:=by
 unfold Book.at
 rw [getM_ne,kget_none]
 constructor
 ·intro h p hp
  obtain ⟨e,he,rfl⟩:=List.mem_map.1 (hl.fl.mem_iff.2 hp)
  exact h (flV e) (List.mem_map.2 ⟨e,he,rfl⟩)
 ·rintro h _ he
  obtain ⟨e,h1,rfl⟩:=List.mem_map.1 he
  exact h e.2.2 (hl.fl.mem_iff.1 (List.mem_map.2 ⟨e,h1,rfl⟩))
theorem fl_len {b:Book} {fs:List FE} {xs:List BE} (hl:BookL b fs xs):fs.length=b.fl.length:=by
 have:=hl.fl.length_eq
 rwa [List.length_map] at this
abbrev errP (e:Int):List PanicEntry:=[⟨.iface 29 (.int .i64 e),false,false⟩]
theorem need_c {b:Bool} {e:Int} {Q:Ending→World→Prop} (h1:b=true→Q (.returned (.tuple #[])) w) (h2:b=false→Q (.panicked (errP e)) w):Calls Tryz.prog 37 #[.bool b,.int .i64 e] w Q:=by
 have h:GetsX Tryz.prog 37 #[.bool b,.int .i64 e] w (fun ch w'=>b=false∧ch=errP e∧w'=w) (fun v w'=>b=true∧v=.tuple #[]∧w'=w):=by
  apply call37
  exact Br.nb (fun h=>⟨h,rfl,rfl⟩) (fun h=>⟨h,rfl,rfl⟩)
 refine h.use ?_ ?_
 ·rintro v w' ⟨hb,rfl,e⟩;rw [e];exact h1 hb
 ·rintro v w' ⟨hb,rfl,e⟩;rw [e];exact h2 hb
theorem qnew_spec (hw:Sat R Hs w):Gets Tryz.prog 100 #[] w fun v w'=>∃ q,v=.pointer (some ⟨q,0,none⟩)∧Sat R (QuAt q []::Hs) w':=by
 apply call100
 refine new_rule hw fun q w hw=>⟨q,rfl,Sat.qu.2 ⟨nilSl,?_⟩⟩
 exact (OwnN.nil hw).swap
theorem bnew_spec (hw:Sat R Hs w):Gets Tryz.prog 10 #[] w fun v w'=>∃ p,v=.pointer (some ⟨p,0,none⟩)∧Sat R (BookAt p newBook::Hs) w':=by
 apply call10
 refine new_rule hw fun m1 w hw=>?_
 have hw:=MapAt.new (α:=Int) rfl hw
 refine new_rule hw fun m2 w hw=>?_
 have hw:=MapAt.new (α:=Int) rfl hw
 refine new_rule hw fun p w hw=>⟨p,rfl,Sat.book.2 ⟨m1,m2,[],[],⟨List.Perm.refl _,rfl⟩,?_⟩⟩
 have hw:Sat R (pts p (bookC newBook m1 m2)::MapAt (α:=Int) m2 []::MapAt (α:=Int) m1 []::Hs) w:=hw
 have hw:Sat R (pts p (bookC newBook m1 m2)::MapAt (α:=Int) m1 []::MapAt (α:=Int) m2 []::Hs) w:=hw.arr
 exact hw.cons fun _ h=>h.cons fun _ h=>h.cons fun _ h=>Sat.star.2 (Sat.star.2 h)
end Go.Proofs.YtlplemdmegpoeaaGreatDoor




/- ROW: from a reading of an argument to what the contracts ask; from a walk's end to 'Below'. No condition. -/
namespace Go.VC
set_option linter.unusedVariables false
set_option linter.unusedSimpArgs false
open Go.ChangeShapes Go.WideShapes Go.ChangeAt Go.RowKit
theorem below_of {W W':World} {Hs:List HP} (h:Sat (Cx.of W) Hs W'):Below W.heap.size W W':=by
 obtain ⟨h1,h2,h3⟩:=h.streams
 have hb:∀ k,k<W.heap.size→W'.heap[k]? =W.heap[k]?:=fun k hk=>by
  have:(Cx.of W).m k=some W.heap[k]:=by simp [Cx.of,hk]
  rw [h.of_ro this];simp [hk]
 refine ⟨h1,h2,h3,?_,hb⟩
 rcases Nat.lt_or_ge W'.heap.size W.heap.size with hl|hl
 ·have:=hb W'.heap.size hl
  rw [Array.getElem?_eq_none (Nat.le_refl _)] at this
  simp [hl] at this
 ·exact hl
theorem block_of_cell {w:World} {a:Addr} {v:Value} (h:w.cell? a=some v):a.spot=none∧∃ l T fr,w.heap[a.block]? =some (.cells l T fr)∧l[a.off]? =some v:=by
 unfold World.cell? at h
 split at h
 ·rename_i c T fr hb
  split at h
  ·cases h
  ·rename_i hs
   exact ⟨by simpa using hs,c,T,fr,hb,h⟩
 ·cases h
section
variable {H:Type} {enc:TypeId × Value→H} {P:Program} {W:World} {base:Nat} {spare:Nat→Bool} {held:Bool}
end
end Go.VC

