/- Classes and limits: package nest. Condition: none. -/
import Derived.Test.YtlplemdmegpoeaaGreatDoorB2
import GoSem.Core.Float
import Derived.KernelRfl
import Derived.Laws.Externs
import Derived.Lib.Overlaps
import Derived.Shelf.SlIterI.Nil
import Derived.Shelf.SlIterI.Collect
import Derived.Shelf.SlIterI.Sorted
import Derived.Shelf.SortM.Plain
import Derived.Shelf.SortM.SortNone
import Derived.Ground.GgzProg
import Derived.Ground.SlgmProg
import Derived.Test.YtlplemdmegpoeaaGreatDoorProg
import Derived.Test.YtlplemdmegpoeaaGreatDoorB1
set_option linter.unusedVariables false
set_option linter.unusedSimpArgs false
set_option maxHeartbeats 8000000
namespace Go.Proofs.YtlplemdmegpoeaaGreatDoor
section
open Go Go.VC Tryz
variable {R:Cx} {Hs Rest:List HP} {w:World}
def inR (x:Int):Bool:=decide (0<=x/\x<=10000)
def Ze4 (l:List Int):Bool:=decide (1<=l.length/\l.length<=8) && decide (∀ k,k<l.length->(0<=l.getD k 0/\l.getD k 0<=10000)/\(0<k->l.getD k 0<=l.getD (k - 1) 0))
def ZaN (sold:List Int) (k:Nat):Int:=(sold.drop k).sum
def Z8 (lim sold:List Int):Bool:=Ze4 lim && (decide (sold.length=lim.length) && decide (∀ k,k<lim.length->(0<=sold.getD k 0/\sold.getD k 0<=10000)/\ZaN sold k<=lim.getD k 0))
def mnF (x:Nat->Int):Nat->Int
 |0=>10000
 |k + 1=>if x k<mnF x k then x k else mnF x k
def ZcP (lim sold:List Int) (k:Nat):Int:=lim.getD k 0 - ZaN sold k
def ZaW (lim sold:List Int) (c:Int):Int × Int:=if Z8 lim sold=true/\0<=c/\c<lim.length then (mnF (ZcP lim sold) (c.toNat + 1),0) else (0,1)
def ZaE (lim sold:List Int) (c many:Int):List Int × Int:=
 if (ZaW lim sold c).2≠0\/many<1\/many>10000 then ([],1) else if many>(ZaW lim sold c).1 then ([],3)
 else (sold.set c.toNat (sold.getD c.toNat 0 + many),0)
def Zfu (lim sold:List Int) (c many:Int):List Int × Int:=
 if (ZaW lim sold c).2≠0\/many<1\/many>sold.getD c.toNat 0 then ([],1) else (sold.set c.toNat (sold.getD c.toNat 0 - many),0)
def ZmI (x:Nat->Int) (a b:Nat) (L:Int):Prop:=L<=10000/\(∀ k,a<=k->k<b->L<=x k)/\(L=10000\/∃ k,a<=k/\k<b/\L=x k)
theorem Znf (x:Nat->Int):∀ k,ZmI x 0 k (mnF x k)
 |0=>⟨by simp [mnF],λ k h0 h1=>by omega,.inl rfl⟩
 |k + 1=>by
  obtain ⟨h1,h2,h3⟩:=Znf x k;unfold mnF;split
  ·exact ⟨by omega,λ j a b=>by
    by_cases hj:j=k
    ·rw [hj];exact Int.le_refl _
    ·have:=h2 j a (by omega);omega,.inr ⟨k,by omega,by omega,rfl⟩⟩
  ·refine ⟨h1,λ j a b=>?_,?_⟩
   ·by_cases hj:j=k
    ·rw [hj];omega
    ·exact h2 j a (by omega)
   ·rcases h3 with h3|⟨j,a,b,c⟩
    ·exact .inl h3
    ·exact .inr ⟨j,a,by omega,c⟩
theorem ZmI.eq {x:Nat->Int} {a b:Nat} {L L':Int} (h:ZmI x a b L) (h':ZmI x a b L'):L=L':=by
 obtain ⟨h1,h2,h3⟩:=h;obtain ⟨h1',h2',h3'⟩:=h';have a1:L<=L':=by
  rcases h3' with h|⟨k,k1,k2,k3⟩
  ·omega
  ·rw [k3];exact h2 k k1 k2
 have a2:L'<=L:=by
  rcases h3 with h|⟨k,k1,k2,k3⟩
  ·omega
  ·rw [k3];exact h2' k k1 k2
 omega
theorem ZmI.step {x:Nat->Int} {a b:Nat} {L:Int} (h:ZmI x (a + 1) b L) (hab:a<b):ZmI x a b (if x a<L then x a else L):=by
 obtain ⟨h1,h2,h3⟩:=h;split
 ·exact ⟨by omega,λ k k1 k2=>by
   by_cases hk:k=a
   ·rw [hk];exact Int.le_refl _
   ·have:=h2 k (by omega) k2;omega,.inr ⟨a,by omega,hab,rfl⟩⟩
 ·refine ⟨h1,λ k k1 k2=>?_,?_⟩
  ·by_cases hk:k=a
   ·rw [hk];omega
   ·exact h2 k (by omega) k2
  ·rcases h3 with h|⟨k,k1,k2,k3⟩
   ·exact .inl h
   ·exact .inr ⟨k,by omega,k2,k3⟩
theorem ZmI.skip {x:Nat->Int} {a b:Nat} {L:Int} (h:ZmI x (a + 1) b L) (hab:¬ a<b):ZmI x a b L:=by
 obtain ⟨h1,h2,h3⟩:=h;refine ⟨h1,λ k k1 k2=>by omega,?_⟩;rcases h3 with h|⟨k,k1,k2,k3⟩
 ·exact .inl h
 ·omega
theorem Zbf {sold:List Int} {k:Nat} (h:k<sold.length):ZaN sold k=sold[k] + ZaN sold (k + 1):=by
 unfold ZaN;rw [List.drop_eq_getElem_cons h,List.sum_cons]
theorem Zb2 {sold:List Int} {k:Nat} (h:sold.length<=k):ZaN sold k=0:=by
 unfold ZaN;rw [List.drop_eq_nil_of_le h];rfl
theorem Zjz {sold:List Int} (h:∀ x∈sold,0<=x/\x<=10000):∀ k,0<=ZaN sold k/\ZaN sold k<=10000 * (sold.length - k:Nat):=by
 intro k;unfold ZaN;rw [<-List.length_drop];have:∀ x∈sold.drop k,0<=x/\x<=10000:=λ x hx=>h x (List.mem_of_mem_drop hx);generalize sold.drop k=l at *
 induction l with
 |nil=>simp
 |cons a l ih=>
  have:=ih λ x hx=>this x (List.mem_cons_of_mem _ hx);have:=‹∀ x∈a::l,0<=x/\x<=10000› a List.mem_cons_self;simp only [List.sum_cons,List.length_cons];omega
theorem ZS {l:List Int} {k:Nat} (h:k<l.length):l.getD k 0=l[k]:=by rw [List.getD_eq_getElem?_getD,List.getElem?_eq_getElem h];rfl
theorem Zak {l:List Int}:Ze4 l=true↔(1<=l.length/\l.length<=8)/\∀ k (h:k<l.length),(0<=l[k]/\l[k]<=10000)/\(0<k->l[k]<=l.getD (k - 1) 0):=by
 unfold Ze4;rw [Bool.and_eq_true,decide_eq_true_iff,decide_eq_true_iff];constructor
 ·rintro ⟨h1,h2⟩
  exact ⟨h1,λ k h=>by have:=h2 k h;rw [ZS h] at this;exact this⟩
 ·rintro ⟨h1,h2⟩
  exact ⟨h1,λ k h=>by rw [ZS h];exact h2 k h⟩
theorem ZL {lim sold:List Int}:Z8 lim sold=true↔Ze4 lim=true/\sold.length=lim.length/\∀ k,k<lim.length->(0<=sold.getD k 0/\sold.getD k 0<=10000)/\ZaN sold k<=lim.getD k 0:=by
 unfold Z8;rw [Bool.and_eq_true,Bool.and_eq_true,decide_eq_true_iff,decide_eq_true_iff]
theorem ZdH {lim sold:List Int} (h:¬ (Ze4 lim=true/\sold.length=lim.length/\∀ k,k<lim.length->(0<=sold.getD k 0/\sold.getD k 0<=10000)/\ZaN sold k<=lim.getD k 0)):Z8 lim sold=false:=by
 rw [<-Bool.not_eq_true,ZL];exact h
theorem Zeq {x:Int} (hw:Sat R Hs w):Zk prog 234 #[nI x] w λ v w'=>v=.bool (inR x)/\Sat R Hs w':=by
 apply ZvF;unfold inR;refine Br.d (λ h=>⟨?_,hw⟩) (λ h=>⟨?_,hw⟩)
 ·congr 1;rw [decide_eq_decide];omega
 ·rw [decide_eq_false (by omega)]
theorem Zio {sl ss:Sl} {lim sold:List Int} {ask:Value} {A:Nat->List HP} (hl:RoI R sl lim) (hs:RoI R ss sold)
  (hask:∀ j w,j<lim.length->Sat R (A (j + 1)) w->Zda prog cl ask [nI j,nI (ZcP lim sold j)] w λ e w'=>e=.returned (.tuple #[])/\Sat R (A j) w')
  (hw:Sat R (A lim.length) w):
  Zk prog 201 #[.slice sl.a sl.len sl.cap,.slice ss.a ss.len ss.cap,ask] w λ v w'=>v=.bool (Z8 lim sold)/\∃ j,Sat R (A j) w'/\(Z8 lim sold=true->j=0):=by
 have hll:=hl.len;have hsl:=hs.len;have hlb:=hl.bound;have hsb:=hs.bound;apply ZvK;have no:∀ j w,Sat R (A j) w->Z8 lim sold=false->Value.bool false=.bool (Z8 lim sold)/\∃ j,Sat R (A j) w/\(Z8 lim sold=true->j=0):=λ j w h e=>⟨by rw [e],j,h,λ h=>by rw [e] at h;cases h⟩;have nl:¬ (1<=lim.length/\lim.length<=8)->Z8 lim sold=false:=λ h=>ZdH λ h2=>h (Zak.1 h2.1).1;refine ⟨λ w=>(1<=lim.length/\lim.length<=8/\sold.length=lim.length)/\Sat R (A lim.length) w,?_,?_⟩
 ·refine Br.d (λ h=>no _ _ hw (nl (by omega))) (λ h1=>Br.d (λ h=>no _ _ hw (nl (by omega))) (λ h2=>Br.ne (λ h=>no _ _ hw (ZdH λ h3=>by omega)) (λ h3=>⟨⟨by omega,by omega,by omega⟩,hw⟩)))
 clear hw;rintro _ w ⟨⟨h1,h2,h3⟩,hw⟩;refine ⟨λ sum fine i w=>∃ j:Nat,i=(j:Int) - 1/\j<=lim.length/\sum=ZaN sold j/\(∀ x∈sold.drop j,0<=x/\x<=10000)/\
   (∀ k (h:k<lim.length),j<=k->(0<=lim[k]/\lim[k]<=10000)/\(0<k->lim[k]<=lim.getD (k - 1) 0))/\fine=decide (∀ k,k<lim.length->j<=k->ZaN sold k<=lim.getD k 0)/\Sat R (A j) w,
  λ _ _ i _=>(i + 1).toNat,⟨lim.length,?_,by omega,?_,?_,λ k h h'=>by omega,?_,hw⟩,?_⟩
 ·rw [hll,Zd]
 ·rw [Zb2 (by omega)]
 ·rw [List.drop_eq_nil_of_le (by omega)];simp
 ·rw [decide_eq_true];intro k h h';omega
 clear hw;rintro _ _ fine _ w ⟨j,rfl,hj,rfl,hsm,hlm,rfl,hw⟩;refine Br.d (λ h=>?_) (λ h=>?_)
 ·obtain ⟨i,rfl⟩:∃ i,j=i + 1:=⟨j - 1,by omega⟩
  rw [show ((i + 1:Nat):Int) - 1=(i:Int) by omega];have hil:i<lim.length:=by omega
  have his:i<sold.length:=by omega
  have nlim:¬ ((0<=lim[i]/\lim[i]<=10000)/\(0<i->lim[i]<=lim.getD (i - 1) 0))->Z8 lim sold=false:=λ h=>ZdH λ h2=>h ((Zak.1 h2.1).2 i hil);have nsold:¬ (0<=sold[i]/\sold[i]<=10000)->Z8 lim sold=false:=λ h=>ZdH λ h2=>h (by have:=(h2.2.2 i hil).1;rw [ZS his] at this;exact this);refine ⟨λ w=>(inR lim[i]=true/\inR sold[i]=true/\(0<i->lim[i]<=lim.getD (i - 1) 0))/\Sat R (A (i + 1)) w,?_,?_⟩
  ·refine Zq hw λ w hw=>?_
   refine Ro.ix hl ZbK i rfl hil ?_;refine (Zeq hw).u λ w hw=>?_;refine ⟨_,rfl,hw,Br.nb (λ h=>no _ _ hw (nlim λ h2=>by unfold inR at h;have:=of_decide_eq_false h;omega)) (λ h4=>?_)⟩;refine Ro.ix hs ZbK i rfl his ?_;refine (Zeq hw).u λ w hw=>?_;refine ⟨_,rfl,hw,Br.nb (λ h=>no _ _ hw (nsold λ h2=>by unfold inR at h;have:=of_decide_eq_false h;omega)) (λ h5=>?_)⟩;refine Br.d (λ h6=>?_) (λ h6=>⟨⟨h4,h5,λ h=>by omega⟩,hw⟩);refine Ro.ix hl ZbK i rfl hil ?_;refine Ro.ix hl ZbK (i - 1) (by rw [Zd];omega) (by omega) ?_;refine Br.d (λ h7=>no _ _ hw (nlim λ h8=>?_)) (λ h7=>⟨⟨h4,h5,λ _=>by rw [ZS (by omega)];omega⟩,hw⟩);have:=h8.2 (by omega);rw [ZS (by omega)] at this;omega
  clear hw;rintro _ w ⟨⟨h4,h5,h6⟩,hw⟩;have h4:=of_decide_eq_true h4;have h5:=of_decide_eq_true h5;have hsm':∀ x∈sold.drop i,0<=x/\x<=10000:=λ x hx=>by
   rw [List.drop_eq_getElem_cons his] at hx;rcases List.mem_cons.1 hx with rfl|hx
   ·exact h5
   ·exact hsm x hx
  have hfs:=Zbf his;have hfb:0<=ZaN sold (i + 1)/\ZaN sold (i + 1)<=80000:=by
   have:=Zjz (sold:=sold.drop (i + 1)) hsm 0;unfold ZaN at this ⊢;rw [List.drop_zero] at this;rw [List.length_drop] at this;omega
  have hroom:wI (lim[i] - ZaN sold i)=ZcP lim sold i:=by
   rw [Zd];unfold ZcP;rw [ZS hil]
  have hsum:wI (ZaN sold (i + 1) + sold[i])=ZaN sold i:=by rw [Zd];omega
  have hk:wI ((i:Int) - 1)=(i:Int) - 1:=Zd;have fin:∀ w,Sat R (A i) w->∀ b:Bool,b=(decide (∀ k,k<lim.length->i + 1<=k->ZaN sold k<=lim.getD k 0) && decide (ZaN sold i<=lim[i]))->
    (∃ j:Nat,(i:Int) - 1=(j:Int) - 1/\j<=lim.length/\ZaN sold i=ZaN sold j/\(∀ x∈sold.drop j,0<=x/\x<=10000)/\
     (∀ k (h:k<lim.length),j<=k->(0<=lim[k]/\lim[k]<=10000)/\(0<k->lim[k]<=lim.getD (k - 1) 0))/\b=decide (∀ k,k<lim.length->j<=k->ZaN sold k<=lim.getD k 0)/\Sat R (A j) w)/\((i:Int) - 1 + 1).toNat<((i:Int) + 1).toNat:=λ w hw b hb=>by
   refine ⟨⟨i,rfl,by omega,rfl,hsm',λ k h h'=>?_,?_,hw⟩,by omega⟩
   ·by_cases hki:k=i
    ·subst hki;exact ⟨h4,h6⟩
    ·exact hlm k h (by omega)
   ·rw [hb,<-Bool.decide_and,decide_eq_decide]
    constructor
    ·rintro ⟨a,b⟩ k c d
     by_cases hki:k=i
     ·subst hki;rw [ZS hil];exact b
     ·exact a k c (by omega)
    ·intro a
     exact ⟨λ k c d=>a k c (by omega),by have:=a i hil (by omega);rw [ZS hil] at this;exact this⟩
  refine Ro.ix hs (eqS hw) i rfl his ?_;rw [hsum,hk];refine Br.d (λ h7=>?_) (λ h7=>?_)
  ·refine Ro.ix hl (eqS hw) i rfl hil (Ro.ix hl (eqS hw) i rfl hil ?_)
   rw [hroom];refine (hask i w hil hw).mono ?_;rintro _ w ⟨rfl,hw⟩;exact ⟨rfl,fin w hw _ (by rw [decide_eq_true h7];rfl)⟩
  ·refine Ro.ix hl (eqS hw) i rfl hil ?_
   rw [hroom];refine (hask i w hil hw).mono ?_;rintro _ w ⟨rfl,hw⟩;exact ⟨rfl,fin w hw _ (by rw [decide_eq_false h7];rfl)⟩
 ·obtain rfl:j=0:=by omega
  have e:Z8 lim sold=decide (∀ k,k<lim.length->0<=k->ZaN sold k<=lim.getD k 0):=by
   rw [Bool.eq_iff_iff,ZL,decide_eq_true_iff];constructor
   ·intro h k h4 _;exact (h.2.2 k h4).2
   ·intro h
    refine ⟨Zak.2 ⟨⟨h1,h2⟩,λ k h4=>hlm k h4 (by omega)⟩,h3,λ k h4=>⟨?_,h k h4 (by omega)⟩⟩;rw [ZS (by omega)];exact hsm _ (by rw [List.drop_zero];exact List.getElem_mem _)
  exact ⟨by rw [e],0,hw,λ _=>rfl⟩
def Zk0 (b:Nat) (x:Nat->Int) (j c:Nat):HP:=λ h=>∃ L,ZmI x j c L/\pts b (.cells [nI L].toArray 3 (0,0)) h
theorem Ziq {b j c:Nat} {x:Nat->Int} (hw:Sat R (Zk0 b x j c::Hs) w):∃ L,ZmI x j c L/\Sat R (pts b (.cells [nI L].toArray 3 (0,0))::Hs) w:=
 let ⟨h,⟨L,hL,hp⟩,hd,hs⟩:=hw
 ⟨L,hL,h,hp,hd,hs⟩
theorem Zhf {b j c:Nat} {x:Nat->Int} {L:Int} (hL:ZmI x j c L) (hw:Sat R (pts b (.cells [nI L].toArray 3 (0,0))::Hs) w):Sat R (Zk0 b x j c::Hs) w:=
 Sat.imp (λ _ h=>⟨L,hL,h⟩) hw
theorem ZoH {bc bl:Nat} {c:Int} {x:Nat->Int} {j:Nat} (hw:Sat R (Zk0 bl x (j + 1) (c + 1).toNat::pts bc (.cells [nI c].toArray 3 (0,0))::Hs) w):
  Zk prog 202 #[nI j,nI (x j),nP bc,nP bl] w λ v w'=>v=.tuple #[]/\Sat R (Zk0 bl x j (c + 1).toNat::pts bc (.cells [nI c].toArray 3 (0,0))::Hs) w':=by
 obtain ⟨L,hL,hw⟩:=Ziq hw;apply ZrJ;refine Zb.mk rfl ⟨c,oA hw,Br.d (λ h=>?_) (λ h=>⟨rfl,Zhf (hL.skip (by omega)) hw⟩)⟩;refine Zb.mk rfl ⟨L,oA hw,?_⟩;refine sRu hw λ w hw=>?_;exact ⟨rfl,Zhf (hL.step (by omega)) hw⟩
theorem Zhe {sl ss:Sl} {lim sold:List Int} {c:Int} (hl:RoI R sl lim) (hs:RoI R ss sold) (hw:Sat R Hs w):
  Zk prog 123 #[.slice sl.a sl.len sl.cap,.slice ss.a ss.len ss.cap,nI c] w λ v w'=>v=.tuple #[nI (ZaW lim sold c).1,nI (ZaW lim sold c).2]/\Sat R Hs w':=by
 have hll:=hl.len;have hlb:=hl.bound;have no:¬ (Z8 lim sold=true/\0<=c/\c<lim.length)->ZaW lim sold c=(0,1):=λ h=>by unfold ZaW;rw [if_neg h]
 apply Zwy;refine Za hw λ bc w hw=>?_;refine Za hw λ bl w hw=>?_;have hw:Sat R (pts bl (.cells [nI 0].toArray 3 (0,0))::pts bc (.cells [nI c].toArray 3 (0,0))::Hs) w:=hw;refine sRu hw λ w hw=>?_;have hw:Sat R (pts bl (.cells [nI 10000].toArray 3 (0,0))::pts bc (.cells [nI c].toArray 3 (0,0))::Hs) w:=hw;by_cases hc:c<lim.length
 ·have h0:ZmI (ZcP lim sold) lim.length (c + 1).toNat 10000:=⟨by omega,λ k h1 h2=>by omega,.inl rfl⟩
  refine (Zio (A:=λ j=>Zk0 bl (ZcP lim sold) j (c + 1).toNat::pts bc (.cells [nI c].toArray 3 (0,0))::Hs) hl hs (λ j w _ hw=>Zda.mk (by kernel_rfl) ((ZoH hw).use λ v w' h=>⟨by rw [h.1],h.2⟩)) (Zhf h0 hw)).use ?_;rintro _ w ⟨rfl,j,hw,hj⟩;refine ⟨_,rfl,Br.nb (λ h=>⟨?_,hw.drop.drop⟩) (λ h1=>?_)⟩
  ·rw [no (λ h2=>by rw [h] at h2;cases h2.1)]
  obtain rfl:=hj h1;obtain ⟨L,hL,hw⟩:=Ziq hw;refine ⟨c,oA hw,Br.d (λ h=>⟨by rw [no (λ h2=>by omega)],hw.drop.drop⟩) (λ h2=>?_)⟩;refine ⟨c,oA hw,Br.d (λ h=>⟨by rw [no (λ h2=>by omega)],hw.drop.drop⟩) (λ h3=>?_)⟩;refine ⟨L,oA hw,?_,hw.drop.drop⟩;have e:ZaW lim sold c=(mnF (ZcP lim sold) (c.toNat + 1),0):=by unfold ZaW;rw [if_pos ⟨h1,by omega,hc⟩]
  rw [e,show c.toNat + 1=(c + 1).toNat by omega];rw [hL.eq (Znf _ _)]
 ·have h0:ZmI (λ _=>0) 0 0 10000:=⟨by omega,λ k h1 h2=>by omega,.inl rfl⟩
  refine (Zio (A:=λ j=>exs (λ L=>pts bl (.cells [nI L].toArray 3 (0,0)))::pts bc (.cells [nI c].toArray 3 (0,0))::Hs) hl hs (λ j w _ hw=>Zda.mk (by kernel_rfl) ?_) (Sat.exs.2 ⟨10000,hw⟩)).use ?_
  ·obtain ⟨L,hw⟩:=Sat.exs.1 hw
   refine Zk.use (Q:=λ v w'=>v=.tuple #[]/\Sat R (exs (λ L=>pts bl (.cells [nI L].toArray 3 (0,0)))::pts bc (.cells [nI c].toArray 3 (0,0))::Hs) w') (ZrJ _ _ _ _ _ _ ?_) λ v w' h=>⟨by rw [h.1],h.2⟩;refine Zb.mk rfl ⟨c,oA hw,Br.d (λ h=>?_) (λ h=>⟨rfl,Sat.exs.2 ⟨L,hw⟩⟩)⟩;refine Zb.mk rfl ⟨L,oA hw,?_⟩;refine sRu hw λ w hw=>?_;exact ⟨rfl,Sat.exs.2 ⟨_,hw⟩⟩
  rintro _ w ⟨rfl,j,hw,hj⟩;obtain ⟨L,hw⟩:=Sat.exs.1 hw;have e:=no (λ h2=>by omega);refine ⟨_,rfl,Br.nb (λ h=>⟨by rw [e],hw.drop.drop⟩) (λ h1=>?_)⟩;refine ⟨c,oA hw,Br.d (λ h=>⟨by rw [e],hw.drop.drop⟩) (λ h2=>?_)⟩;refine ⟨c,oA hw,Br.d (λ h=>⟨by rw [e],hw.drop.drop⟩) (λ h3=>by omega)⟩
theorem ZeK {s:Sl} {l:List Int} (hs:RoI R s l) (hl:l.length<=1000000000) (hw:Sat R Hs w):
  Zk prog 166 #[.slice s.a s.len s.cap] w λ v w'=>∃ t:Sl,v=.slice t.a t.len t.cap/\Sat R (Own t 3 (l.map (Value.int .i64))::Hs) w':=by
 apply Zwi;refine Br.mk (λ h=>?_) (λ h=>?_)
 ·have hnil:l=[]:=by
   by_cases hn:l=[]
   ·exact hn
   ·obtain ⟨b,off,l',T,fr,ha,_⟩:=hs.mem (by simpa using hn)
    rw [ha] at h;cases h
  subst hnil;exact ⟨⟨none,0,0⟩,rfl,Own.nil hw⟩
 ·refine Za hw λ b w hw=>?_
  have hw:Sat R (Own ⟨some ⟨b,0,none⟩,0,0⟩ 3 (([]:List Int).map (Value.int .i64))::Hs) w:=Za0 hw;refine Zel ZiC (s:=⟨some ⟨b,0,none⟩,0,0⟩) (n:=1000000000) underlying30 hw hs (by simpa using hl) (by omega) (by omega) λ t w hw=>?_;exact ⟨t,rfl,hw⟩
theorem ZkU {s:Sl} {l:List Int} {c many:Int} (hs:RoI R s l) (hl:l.length<=1000) (hc:0<=c) (hc2:c<l.length) (hb:∀ x∈l,0<=x/\x<=10000) (hm: -10000<=many/\many<=10000) (hw:Sat R Hs w):
  Zk prog 238 #[.slice s.a s.len s.cap,nI c,nI many] w λ v w'=>∃ t:Sl,v=.slice t.a t.len t.cap/\Sat R (Own t 3 ((l.set c.toNat (l.getD c.toNat 0 + many)).map (Value.int .i64))::Hs) w':=by
 obtain ⟨k,rfl⟩:=Int.eq_ofNat_of_zero_le hc;have hk:k<l.length:=by omega
 have hx:=hb l[k] (List.getElem_mem _);apply ZvB;refine (ZeK hs (by omega) hw).u1 λ t w hw=>?_;refine ⟨t,rfl,?_⟩;refine Own.ix hw (eqS hw) k rfl hk ?_;refine Own.store (by kernel_rfl) hw hk λ w hw=>?_;rw [Zd] at hw;rw [Int.toNat_natCast,ZS hk];exact ⟨t,rfl,hw⟩
theorem Ze2 {lim sold:List Int} (h:Z8 lim sold=true):(∀ x∈sold,0<=x/\x<=10000)/\sold.length=lim.length/\lim.length<=8:=by
 obtain ⟨h1,h2,h3⟩:=ZL.1 h;obtain ⟨⟨_,h4⟩,_⟩:=Zak.1 h1;refine ⟨λ x hx=>?_,h2,h4⟩;obtain ⟨k,hk,rfl⟩:=List.getElem_of_mem hx;have:=(h3 k (by omega)).1;rw [ZS hk] at this;exact this
theorem Zjk {lim sold:List Int} {c:Int} (h:(ZaW lim sold c).2=0):Z8 lim sold=true/\0<=c/\c<lim.length:=by
 unfold ZaW at h;split at h
 ·assumption
 ·simp at h
theorem ZpL {sl ss:Sl} {lim sold:List Int} {c many:Int} (hl:RoI R sl lim) (hs:RoI R ss sold) (hw:Sat R Hs w):
  Zk prog 168 #[.slice sl.a sl.len sl.cap,.slice ss.a ss.len ss.cap,nI c,nI many] w λ v w'=>∃ t:Sl,v=.tuple #[.slice t.a t.len t.cap,nI (ZaE lim sold c many).2]/\Sat R (Own t 3 ((ZaE lim sold c many).1.map (Value.int .i64))::Hs) w':=by
 apply Zwg;refine (Zhe hl hs hw).u λ w hw=>?_;have bad:((ZaW lim sold c).2≠0\/many<1\/many>10000)->∃ t:Sl,Value.tuple #[.slice none 0 0,nI 1]=.tuple #[.slice t.a t.len t.cap,nI (ZaE lim sold c many).2]/\Sat R (Own t 3 ((ZaE lim sold c many).1.map (Value.int .i64))::Hs) w:=λ h=>by
  unfold ZaE;rw [if_pos h];exact ⟨⟨none,0,0⟩,rfl,Own.nil hw⟩
 refine ⟨_,_,rfl,Br.ne (λ h=>bad (.inl h)) (λ h1=>Br.d (λ h=>bad (.inr (.inl h))) (λ h2=>Br.d (λ h=>bad (.inr (.inr h))) (λ h3=>?_)))⟩;have e:ZaE lim sold c many=if many>(ZaW lim sold c).1 then ([],3) else (sold.set c.toNat (sold.getD c.toNat 0 + many),0):=by
  unfold ZaE;rw [if_neg (by omega)]
 rw [e];obtain ⟨n1,n2,n3⟩:=Zjk h1;obtain ⟨n4,n5,n6⟩:=Ze2 n1;refine Br.d (λ h=>?_) (λ h=>?_)
 ·rw [if_pos h];exact ⟨⟨none,0,0⟩,rfl,Own.nil hw⟩
 ·rw [if_neg h]
  refine (ZkU hs (by omega) n2 (by omega) n4 ⟨by omega,by omega⟩ hw).u1 λ t w hw=>?_;exact ⟨t,rfl,t,rfl,hw⟩
theorem ZrU {sl ss:Sl} {lim sold:List Int} {c many:Int} (hl:RoI R sl lim) (hs:RoI R ss sold) (hw:Sat R Hs w):
  Zk prog 175 #[.slice sl.a sl.len sl.cap,.slice ss.a ss.len ss.cap,nI c,nI many] w λ v w'=>∃ t:Sl,v=.tuple #[.slice t.a t.len t.cap,nI (Zfu lim sold c many).2]/\Sat R (Own t 3 ((Zfu lim sold c many).1.map (Value.int .i64))::Hs) w':=by
 have hsl:=hs.len;apply Zv9;refine (Zhe hl hs hw).u λ w hw=>?_;have bad:((ZaW lim sold c).2≠0\/many<1\/many>sold.getD c.toNat 0)->∃ t:Sl,Value.tuple #[.slice none 0 0,nI 1]=.tuple #[.slice t.a t.len t.cap,nI (Zfu lim sold c many).2]/\Sat R (Own t 3 ((Zfu lim sold c many).1.map (Value.int .i64))::Hs) w:=λ h=>by
  unfold Zfu;rw [if_pos h];exact ⟨⟨none,0,0⟩,rfl,Own.nil hw⟩
 refine ⟨_,_,rfl,Br.ne (λ h=>bad (.inl h)) (λ h1=>Br.d (λ h=>bad (.inr (.inl h))) (λ h2=>?_))⟩;obtain ⟨n1,n2,n3⟩:=Zjk h1;obtain ⟨n4,n5,n6⟩:=Ze2 n1;have hx:=n4 (sold[c.toNat]'(by omega)) (List.getElem_mem _);refine Ro.ix hs (eqS hw) c.toNat (by omega) (by omega) ?_;refine Br.d (λ h=>bad (.inr (.inr (by rw [ZS (by omega)];exact h)))) (λ h3=>?_);have e:Zfu lim sold c many=(sold.set c.toNat (sold.getD c.toNat 0 - many),0):=by
  unfold Zfu;rw [if_neg (by rw [ZS (by omega)];omega)]
 rw [e,show wI (0 - many)=-many by rw [Zd];omega];refine (ZkU hs (by omega) n2 (by omega) n4 ⟨by omega,by omega⟩ hw).u1 λ t w hw=>?_;rw [<-Int.sub_eq_add_neg] at hw;exact ⟨t,rfl,t,rfl,hw⟩
theorem ZpU {sl:Sl} {lim:List Int} (hl:RoI R sl lim) (hw:Sat R Hs w):
  Zk prog 260 #[.slice sl.a sl.len sl.cap] w λ v w'=>v=.bool (Ze4 lim)/\Sat R Hs w':=by
 have hll:=hl.len;have hlb:=hl.bound;have no:¬ ((1<=lim.length/\lim.length<=8)/\∀ k (h:k<lim.length),(0<=lim[k]/\lim[k]<=10000)/\(0<k->lim[k]<=lim.getD (k - 1) 0))->Value.bool false=.bool (Ze4 lim):=λ h=>by
  have:Ze4 lim=false:=by rw [<-Bool.not_eq_true,Zak];exact h
  rw [this]
 apply Zvi;refine ⟨λ w=>(1<=lim.length/\lim.length<=8)/\Sat R Hs w,Br.d (λ h=>⟨no (λ h2=>by omega),hw⟩) (λ h1=>Br.d (λ h=>⟨no (λ h2=>by omega),hw⟩) (λ h2=>⟨⟨by omega,by omega⟩,hw⟩)),?_⟩;clear hw;rintro _ w ⟨h0,hw⟩;refine ⟨λ i w=>∃ j:Nat,i=j/\j<=lim.length/\(∀ k (h:k<lim.length),k<j->(0<=lim[k]/\lim[k]<=10000)/\(0<k->lim[k]<=lim.getD (k - 1) 0))/\Sat R Hs w,λ i _=>lim.length - i.toNat,⟨0,rfl,by omega,λ k h h'=>by omega,hw⟩,?_⟩;clear hw;rintro _ _ w ⟨j,rfl,hj,hn,hw⟩;refine Br.d (λ h=>?_) (λ h=>⟨by rw [Zak.2 ⟨h0,λ k hk=>hn k hk (by omega)⟩],hw⟩);have hj2:j<lim.length:=by omega
 refine Zq hw λ w hw=>?_;refine Ro.ix hl ZbK j rfl hj2 ?_;refine Br.d (λ h=>⟨no (λ h2=>by have:=(h2.2 j hj2).1;omega),hw⟩) (λ h1=>?_);refine Ro.ix hl ZbK j rfl hj2 ?_;refine Br.d (λ h=>⟨no (λ h2=>by have:=(h2.2 j hj2).1;omega),hw⟩) (λ h2=>?_);have next:(0<j->lim[j]<=lim.getD (j - 1) 0)->(∃ j':Nat,wI ((j:Int) + 1)=j'/\j'<=lim.length/\(∀ k (h:k<lim.length),k<j'->(0<=lim[k]/\lim[k]<=10000)/\(0<k->lim[k]<=lim.getD (k - 1) 0))/\Sat R Hs w)/\lim.length - (wI ((j:Int) + 1)).toNat<lim.length - (j:Int).toNat:=λ h3=>by
  rw [Zd];refine ⟨⟨j + 1,by omega,by omega,λ k hk hk2=>?_,hw⟩,by omega⟩;by_cases hkj:k=j
  ·subst hkj;exact ⟨⟨by omega,by omega⟩,h3⟩
  ·exact hn k hk (by omega)
 refine Br.d (λ h3=>?_) (λ h3=>next λ h=>by omega);refine Ro.ix hl ZbK j rfl hj2 ?_;refine Ro.ix hl ZbK (j - 1) (by rw [Zd];omega) (by omega) ?_;refine Br.d (λ h4=>⟨no (λ h2=>?_),hw⟩) (λ h4=>next λ _=>by rw [ZS (by omega)];omega);have:=(h2.2 j hj2).2 (by omega);rw [ZS (by omega)] at this;omega
theorem Zic {ss:Sl} {sold:List Int} {k:Nat} (hs:RoI R ss sold) (hb:∀ x∈sold,0<=x/\x<=10000) (hlen:sold.length<=1000) (hk:k<=1000) (hw:Sat R Hs w):
  Zk prog 204 #[.slice ss.a ss.len ss.cap,nI k] w λ v w'=>v=nI (ZaN sold k)/\Sat R Hs w':=by
 have hsl:=hs.len;have hfb:=Zjz hb;apply ZvI;refine ⟨λ n i w=>∃ j:Nat,i=j/\k<=j/\(j<=k\/j<=sold.length)/\n + ZaN sold j=ZaN sold k/\Sat R Hs w,λ _ i _=>sold.length - i.toNat,⟨k,rfl,by omega,.inl (by omega),by omega,hw⟩,?_⟩;clear hw;rintro n _ _ w ⟨j,rfl,hj,hj2,hn,hw⟩;refine Br.d (λ h=>?_) (λ h=>?_)
 ·have hj3:j<sold.length:=by omega
  have hst:=Zbf hj3;have hx:=hb sold[j] (List.getElem_mem _);have h1:=hfb (j + 1);have h2:=hfb k;have h3:=hfb j;refine Ro.ix hs (eqS hw) j rfl hj3 ?_;rw [Zd (x:=(j:Int) + 1),Zd];exact ⟨⟨j + 1,by omega,by omega,.inr (by omega),by omega,hw⟩,by dsimp only;omega⟩
 ·rw [Zb2 (show sold.length<=j by omega)] at hn
  exact ⟨by rw [<-hn];congr 1;omega,hw⟩
theorem ZkA {sl ss:Sl} {lim sold:List Int} (hl:RoI R sl lim) (hs:RoI R ss sold) (hw:Sat R Hs w):
  Zk prog 203 #[.slice sl.a sl.len sl.cap,.slice ss.a ss.len ss.cap] w λ v w'=>v=.bool (Z8 lim sold)/\Sat R Hs w':=by
 have hll:=hl.len;have hsl:=hs.len;have no:¬ (Ze4 lim=true/\sold.length=lim.length/\∀ k,k<lim.length->(0<=sold.getD k 0/\sold.getD k 0<=10000)/\ZaN sold k<=lim.getD k 0)->Value.bool false=.bool (Z8 lim sold):=λ h=>by rw [ZdH h]
 apply ZvJ;refine (ZpU hl hw).u λ w hw=>?_;refine ⟨_,rfl,λ w=>(Ze4 lim=true/\sold.length=lim.length)/\Sat R Hs w,Br.nb (λ h=>⟨no (λ h2=>by rw [h] at h2;cases h2.1),hw⟩) (λ h1=>Br.ne (λ h=>⟨no (λ h2=>by omega),hw⟩) (λ h2=>⟨⟨h1,by omega⟩,hw⟩)),?_⟩;clear hw;rintro _ w ⟨⟨h1,h2⟩,hw⟩;have h8:=(Zak.1 h1).1.2;refine ⟨λ i w=>∃ j:Nat,i=j/\j<=sold.length/\(∀ k,k<j->0<=sold.getD k 0/\sold.getD k 0<=10000)/\Sat R Hs w,λ i _=>sold.length - i.toNat,⟨0,rfl,by omega,λ k h=>by omega,hw⟩,?_⟩;clear hw;rintro _ _ w ⟨j,rfl,hj,hn,hw⟩;refine Br.d (λ h=>?_) (λ h=>?_)
 ·have hj2:j<sold.length:=by omega
  have nn:¬ (0<=sold[j]/\sold[j]<=10000)->Value.bool false=.bool (Z8 lim sold):=λ h=>no λ h3=>h (by have:=(h3.2.2 j (by omega)).1;rw [ZS hj2] at this;exact this);refine Ro.ix hs (eqS hw) j rfl hj2 ?_;refine Br.d (λ h=>⟨nn (by omega),hw⟩) (λ h3=>?_);refine Ro.ix hs (eqS hw) j rfl hj2 ?_;refine Br.d (λ h=>⟨nn (by omega),hw⟩) (λ h4=>?_);rw [Zd];refine ⟨⟨j + 1,by omega,by omega,λ k hk=>?_,hw⟩,by dsimp only;omega⟩;by_cases hkj:k=j
  ·subst hkj;rw [ZS hj2];omega
  ·exact hn k (by omega)
 have hjs:sold.length<=j:=by omega
 have hsb:∀ x∈sold,0<=x/\x<=10000:=λ x hx=>by
  obtain ⟨k,hk,rfl⟩:=List.getElem_of_mem hx;have:=hn k (by omega);rw [ZS hk] at this;exact this
 refine ⟨λ i w=>∃ j:Nat,i=j/\j<=lim.length/\(∀ k,k<j->ZaN sold k<=lim.getD k 0)/\Sat R Hs w,λ i _=>lim.length - i.toNat,⟨0,rfl,by omega,λ k h=>by omega,hw⟩,?_⟩;clear hw h;rintro _ _ w ⟨i,rfl,hi,hni,hw⟩;refine Br.d (λ h=>?_) (λ h=>?_)
 ·have hi2:i<lim.length:=by omega
  refine Zq hw λ w hw=>?_;refine Ro.ix hl ZbK i rfl hi2 ?_;refine (Zic hs hsb (by omega) (by omega) hw).u λ w hw=>?_;refine ⟨_,rfl,hw,Br.d (λ h=>⟨no (λ h3=>?_),hw⟩) (λ h3=>?_)⟩
  ·have:=(h3.2.2 i hi2).2
   rw [ZS hi2] at this;omega
  ·rw [Zd]
   refine ⟨⟨i + 1,by omega,by omega,λ k hk=>?_,hw⟩,by dsimp only;omega⟩;by_cases hki:k=i
   ·subst hki;rw [ZS hi2];omega
   ·exact hni k (by omega)
 ·refine ⟨?_,hw⟩
  rw [ZL.2 ⟨h1,h2,λ k hk=>⟨hn k (by omega),hni k (by omega)⟩⟩]
theorem Zia {sl ss:Sl} {lim sold:List Int} {c:Int} (hl:RoI R sl lim) (hs:RoI R ss sold) (hw:Sat R Hs w):
  Zk prog 126 #[.slice sl.a sl.len sl.cap,.slice ss.a ss.len ss.cap,nI c] w λ v w'=>v=.tuple #[nI (ZaW lim sold c).1,nI (ZaW lim sold c).2]/\Sat R Hs w':=by
 have hll:=hl.len;have no:¬ (Z8 lim sold=true/\0<=c/\c<lim.length)->ZaW lim sold c=(0,1):=λ h=>by unfold ZaW;rw [if_neg h]
 apply Zwv;refine (ZkA hl hs hw).u λ w hw=>?_;refine ⟨_,rfl,λ w=>(Z8 lim sold=true/\0<=c/\c<lim.length)/\Sat R Hs w,Br.nb (λ h=>⟨by rw [no (λ h2=>by rw [h] at h2;cases h2.1)],hw⟩) (λ h1=>Br.d (λ h=>⟨by rw [no (λ h2=>by omega)],hw⟩) (λ h2=>Br.d (λ h=>⟨by rw [no (λ h2=>by omega)],hw⟩) (λ h3=>⟨⟨h1,by omega,by omega⟩,hw⟩))),?_⟩;clear hw;rintro _ w ⟨h0,hw⟩;have e:ZaW lim sold c=(mnF (ZcP lim sold) (c.toNat + 1),0):=by unfold ZaW;rw [if_pos h0]
 rw [e];obtain ⟨h1,h2,h3⟩:=h0;obtain ⟨n4,n5,n6⟩:=Ze2 h1;have hlim:=(Zak.1 (ZL.1 h1).1).2;obtain ⟨m,rfl⟩:=Int.eq_ofNat_of_zero_le h2;rw [Int.toNat_natCast];refine ⟨λ L i w=>∃ j:Nat,i=j/\j<=m + 1/\L=mnF (ZcP lim sold) j/\Sat R Hs w,λ _ i _=>m + 1 - i.toNat,⟨0,rfl,by omega,rfl,hw⟩,?_⟩;clear hw;rintro _ _ _ w ⟨j,rfl,hj,rfl,hw⟩;refine Br.d (λ h=>?_) (λ h=>?_)
 ·have hj2:j<lim.length:=by omega
  refine Zq hw λ w hw=>?_;refine Ro.ix hl ZbK j rfl hj2 ?_;refine (Zic hs n4 (by omega) (by omega) hw).u λ w hw=>?_;have hb:=Zjz n4 j;have hx:=(hlim j hj2).1;have hroom:wI (lim[j] - ZaN sold j)=ZcP lim sold j:=by
   rw [Zd];unfold ZcP;rw [ZS hj2]
  refine ⟨_,rfl,hw,?_⟩;rw [hroom,Zd];exact ⟨⟨j + 1,by omega,by omega,rfl,hw⟩,by dsimp only;omega⟩
 ·obtain rfl:j=m + 1:=by omega
  exact ⟨rfl,hw⟩
theorem Zn5 {sl ss:Sl} {lim sold:List Int} {c many:Int} (hl:RoI R sl lim) (hs:RoI R ss sold) (hw:Sat R Hs w):
  Zk prog 188 #[.slice sl.a sl.len sl.cap,.slice ss.a ss.len ss.cap,nI c,nI many] w λ v w'=>∃ t:Sl,v=.tuple #[.slice t.a t.len t.cap,nI (ZaE lim sold c many).2]/\Sat R (Own t 3 ((ZaE lim sold c many).1.map (Value.int .i64))::Hs) w':=by
 apply ZvX;refine (Zia hl hs hw).u λ w hw=>?_;have bad:((ZaW lim sold c).2≠0\/many<1\/many>10000)->∃ t:Sl,Value.tuple #[.slice none 0 0,nI 1]=.tuple #[.slice t.a t.len t.cap,nI (ZaE lim sold c many).2]/\Sat R (Own t 3 ((ZaE lim sold c many).1.map (Value.int .i64))::Hs) w:=λ h=>by
  unfold ZaE;rw [if_pos h];exact ⟨⟨none,0,0⟩,rfl,Own.nil hw⟩
 refine ⟨_,_,rfl,λ w=>((ZaW lim sold c).2=0/\1<=many/\many<=10000)/\Sat R Hs w,Br.ne (λ h=>bad (.inl h)) (λ h1=>Br.d (λ h=>bad (.inr (.inl h))) (λ h2=>Br.d (λ h=>bad (.inr (.inr h))) (λ h3=>⟨⟨h1,by omega,by omega⟩,hw⟩))),?_⟩;clear bad hw;rintro _ w ⟨⟨h1,h2,h3⟩,hw⟩;have e:ZaE lim sold c many=if many>(ZaW lim sold c).1 then ([],3) else (sold.set c.toNat (sold.getD c.toNat 0 + many),0):=by
  unfold ZaE;rw [if_neg (by omega)]
 rw [e];obtain ⟨n1,n2,n3⟩:=Zjk h1;obtain ⟨n4,n5,n6⟩:=Ze2 n1;refine Br.d (λ h=>?_) (λ h=>?_)
 ·rw [if_pos h];exact ⟨⟨none,0,0⟩,rfl,Own.nil hw⟩
 ·rw [if_neg h]
  obtain ⟨k,rfl⟩:=Int.eq_ofNat_of_zero_le n2;have hk:k<sold.length:=by omega
  have hx:=n4 sold[k] (List.getElem_mem _);refine Za hw λ b w hw=>?_;have hw:Sat R (Own ⟨some ⟨b,0,none⟩,0,0⟩ 3 (([]:List Int).map (Value.int .i64))::Hs) w:=Za0 hw;refine Zel ZiC (s:=⟨some ⟨b,0,none⟩,0,0⟩) (n:=1000000000) underlying30 hw hs (by simp;omega) (by omega) (by omega) λ t w hw=>?_;rw [List.nil_append] at hw;refine Own.ix hw (eqS hw) k rfl hk ?_;refine Own.store (by kernel_rfl) hw hk λ w hw=>?_;rw [Zd] at hw;rw [Int.toNat_natCast,ZS hk];exact ⟨t,rfl,hw⟩
end
end Go.Proofs.YtlplemdmegpoeaaGreatDoor
namespace Go.VC
section
open Ieee
abbrev fw (n:Nat):Nat:=double.nearest false n 0
def fwOk (n:Nat):Bool:=match double.read (fw n) with
 | .number false m e=>decide (e<=0) && (m==n<<<(-e).toNat)
 |_=>false
set_option maxRecDepth 100000 in
theorem Zxy:(List.range 10002).all fwOk=true:=by kernel_rfl
theorem ZuJ {n:Nat} (h:n<=10001):∃ d:Nat,double.read (fw n)=.number false (n * 2 ^ d) (-(d:Int)):=by
 have:=List.all_eq_true.1 Zxy n (List.mem_range.2 (by omega));unfold fwOk at this;split at this
 ·rename_i m e he
  simp only [Bool.and_eq_true,decide_eq_true_eq,beq_iff_eq] at this;refine ⟨(-e).toNat,?_⟩;rw [he,this.2,Nat.shiftLeft_eq,show (-((-e).toNat:Int))=e by omega]
 ·cases this
theorem Zrv {n drop B:Nat} (h:n<B * 2 ^ drop):Toward.even.cut false n drop<=B:=by
 unfold Toward.cut;simp only;generalize hg:1<<<min drop (n.log2 + 2)=gap;rw [Nat.shiftLeft_eq,Nat.one_mul] at hg;have hb:∀ b:Bool,b.toNat<=1:=λ b=>by cases b<;>simp
 by_cases hd:drop<=n.log2 + 2
 ·rw [Nat.min_eq_left hd] at hg
  subst hg;have h1:n / 2 ^ drop<B:=(Nat.div_lt_iff_lt_mul (Nat.two_pow_pos drop)).2 h;have:=hb (decide (2 ^ drop<2 * (n % 2 ^ drop))||(2 ^ drop==2 * (n % 2 ^ drop) && n / 2 ^ drop % 2==1));omega
 ·rw [Nat.min_eq_right (by omega)] at hg
  have hn:n<2 ^ (n.log2 + 1):=Nat.lt_log2_self;have hp:2 ^ (n.log2 + 2)=2 * 2 ^ (n.log2 + 1):=by rw [Nat.pow_succ];omega
  subst hg;have h0:n / 2 ^ (n.log2 + 2)=0:=Nat.div_eq_of_lt (by omega);have h1:n % 2 ^ (n.log2 + 2)=n:=Nat.mod_eq_of_lt (by omega);rw [h0,h1];have e1:decide (2 ^ (n.log2 + 2)<2 * n)=false:=decide_eq_false (by omega);have e2:(2 ^ (n.log2 + 2)==2 * n)=false:=by
   rw [beq_eq_false_iff_ne];omega
  rw [e1,e2];simp
theorem Zhz:double.leastPlace=-1074:=by decide
theorem ZfX:double.binade=4503599627370496:=by decide
theorem Zmt:double.infRung=2047 * 4503599627370496:=by decide
theorem Zny:double.signWeight=9223372036854775808:=by decide
theorem Zti:(double.fractionBits:Nat)=52:=rfl
theorem Znz {n drop:Nat}:Toward.down.cut false n drop=n / 2 ^ drop:=by
 unfold Toward.cut;simp only;rw [Nat.shiftLeft_eq,Nat.one_mul];have e:(false && n % 2 ^ min drop (n.log2 + 2) !=0).toNat=0:=by simp
 rw [e,Nat.add_zero];by_cases hd:drop<=n.log2 + 2
 ·rw [Nat.min_eq_left hd]
 ·rw [Nat.min_eq_right (by omega)]
  have hn:n<2 ^ (n.log2 + 1):=Nat.lt_log2_self;have h1:2 ^ (n.log2 + 1)<=2 ^ (n.log2 + 2):=Nat.pow_le_pow_right (by omega) (by omega);have h2:2 ^ (n.log2 + 2)<=2 ^ drop:=Nat.pow_le_pow_right (by omega) (by omega);rw [Nat.div_eq_of_lt (by omega),Nat.div_eq_of_lt (by omega)]
theorem ZtL {n drop:Nat} (h:drop<=n.log2 + 2):n / 2 ^ drop<=Toward.even.cut false n drop/\Toward.even.cut false n drop<=n / 2 ^ drop + 1:=by
 unfold Toward.cut;simp only;rw [Nat.shiftLeft_eq,Nat.one_mul,Nat.min_eq_left h];have hb:∀ b:Bool,b.toNat<=1:=λ b=>by cases b<;>simp
 have:=hb (decide (2 ^ drop<2 * (n % 2 ^ drop))||(2 ^ drop==2 * (n % 2 ^ drop) && n / 2 ^ drop % 2==1));omega
theorem Zp3 {i kept:Nat} (hi:i<=1074) (hk:kept<=9007199254740992) (hk2:0<i->4503599627370496<=kept):
  ∃ mp:Nat,∃ j:Nat,double.read (i * 4503599627370496 + kept)=.number false mp (-1074 + (j:Int))/\((mp=kept/\j=i)\/(mp=4503599627370496/\kept=9007199254740992/\j=i + 1)):=by
 have hr:i * 4503599627370496 + kept<9223372036854775808:=by omega
 unfold Format.read;simp only;rw [Zny,ZfX,Zmt,Zhz];rw [Nat.mod_eq_of_lt hr,Nat.div_eq_of_lt hr];have e0:(0 % 2==1)=false:=by decide
 rw [e0];by_cases h1:i * 4503599627370496 + kept<4503599627370496
 ·rw [if_pos h1]
  have:i=0:=by omega
  subst this;exact ⟨_,0,rfl,.inl ⟨by omega,rfl⟩⟩
 rw [if_neg h1,if_pos (by omega)];by_cases h2:kept<9007199254740992
 ·have h3:4503599627370496<=kept:=by
   by_cases hi0:0<i
   ·exact hk2 hi0
   ·omega
  have d1:(i * 4503599627370496 + kept) / 4503599627370496=i + 1:=by omega
  have d2:(i * 4503599627370496 + kept) % 4503599627370496=kept - 4503599627370496:=by omega
  rw [d1,d2];refine ⟨_,i,?_,.inl ⟨rfl,rfl⟩⟩;rw [show 4503599627370496 + (kept - 4503599627370496)=kept by omega,show i + 1 - 1=i by omega]
 ·have:kept=9007199254740992:=by omega
  subst this;have d1:(i * 4503599627370496 + 9007199254740992) / 4503599627370496=i + 2:=by omega
  have d2:(i * 4503599627370496 + 9007199254740992) % 4503599627370496=0:=by omega
  rw [d1,d2];exact ⟨_,i + 1,rfl,.inr ⟨by omega,rfl,rfl⟩⟩
theorem plc1 {j L:Nat} (h:j=1074 - L) (h2:L<=1074): -1074 + (j:Int)=-(L:Int):=by omega
theorem plc2 {j L:Nat} (h:j=1074 - L + 1) (h2:L<=1074) (h1:39<=L): -1074 + (j:Int)=-((L - 1:Nat):Int):=by omega
theorem ZuH {B L kept:Nat} (h1:kept<=B * 2 ^ L) (h2:kept=9007199254740992) (h3:39<=L):4503599627370496<=B * 2 ^ (L - 1):=by
 have h4:2 ^ L=2 * 2 ^ (L - 1):=by rw [<-Nat.pow_succ'];congr 1;omega
 rw [h4,Nat.mul_left_comm] at h1;clear h4;generalize B * 2 ^ (L - 1)=y at *;omega
theorem ZqB {M d B:Nat} (hB:B<=10000) (hlt:M<B * 2 ^ d):
  ∃ mp dp:Nat,double.read (double.nearest false M (-(d:Int)))=.number false mp (-(dp:Int))/\mp<=B * 2 ^ dp:=by
 by_cases hM:M=0
 ·subst hM
  refine ⟨0,1074,?_,by omega⟩;unfold Format.nearest;rw [if_pos rfl];decide
 unfold Format.nearest;rw [if_neg hM,Zhz,ZfX,Zmt,Zti];have hlog:2 ^ M.log2<=M:=Nat.log2_self_le hM;have hlog2:M<2 ^ (M.log2 + 1):=Nat.lt_log2_self;have hl14:M.log2<14 + d:=by
  have:2 ^ M.log2<2 ^ (14 + d):=by
   rw [Nat.pow_add];have:B * 2 ^ d<=2 ^ 14 * 2 ^ d:=Nat.mul_le_mul_right _ (by omega);omega
  exact (Nat.pow_lt_pow_iff_right (by omega)).1 this
 simp only;generalize hlast:max (-(d:Int) + (M.log2:Int) - ((52:Nat):Int)) (-1074)=last;obtain ⟨L,hL⟩:∃ L:Nat,last=-(L:Int):=⟨(-last).toNat,by omega⟩;have hL1:39<=L:=by omega
 have hL2:L<=1074:=by omega
 subst hL;have hi:(-(L:Int) - -1074).toNat=1074 - L:=by omega
 rw [hi]
 -- what is kept
 obtain ⟨kept,hkd,hk1,hk2,hk3⟩:∃ kept,Toward.even.cut false (M<<<(-(d:Int) - -(L:Int)).toNat) (-(L:Int) - -(d:Int)).toNat=kept/\kept<=B * 2 ^ L/\kept<=9007199254740992/\(0<1074 - L->4503599627370496<=kept):=by
  refine ⟨_,rfl,?_⟩;by_cases hdl:d<=L
  ·have e1:(-(d:Int) - -(L:Int)).toNat=L - d:=by omega
   have e2:(-(L:Int) - -(d:Int)).toNat=0:=by omega
   rw [e1,e2,Nat.shiftLeft_eq];have hp:2 ^ L=2 ^ d * 2 ^ (L - d):=by rw [<-Nat.pow_add];congr 1;omega
   have hlt':M * 2 ^ (L - d)<B * 2 ^ L:=by
    rw [hp,<-Nat.mul_assoc];exact Nat.mul_lt_mul_of_pos_right hlt (Nat.two_pow_pos _)
   have c1:=Zrv (n:=M * 2 ^ (L - d)) (drop:=0) (B:=B * 2 ^ L) (by simpa using hlt');have c2:=ZtL (n:=M * 2 ^ (L - d)) (drop:=0) (by omega);rw [Nat.pow_zero,Nat.div_one] at c2
   -- no rest, so it is the number itself
   have c3:Toward.even.cut false (M * 2 ^ (L - d)) 0=M * 2 ^ (L - d):=by
    unfold Toward.cut;simp [Nat.mod_one]
   rw [c3] at c1 ⊢;have hup:M * 2 ^ (L - d)<2 ^ (M.log2 + 1) * 2 ^ (L - d):=Nat.mul_lt_mul_of_pos_right hlog2 (Nat.two_pow_pos _);rw [<-Nat.pow_add] at hup;have hle:M.log2 + 1 + (L - d)<=53:=by omega
   have h53:2 ^ (M.log2 + 1 + (L - d))<=2 ^ 53:=Nat.pow_le_pow_right (by omega) hle;refine ⟨c1,by omega,λ h=>?_⟩;have hlo:2 ^ M.log2 * 2 ^ (L - d)<=M * 2 ^ (L - d):=Nat.mul_le_mul_right _ hlog;rw [<-Nat.pow_add] at hlo;have he:M.log2 + (L - d)=52:=by omega
   rw [he] at hlo;omega
  ·have e1:(-(d:Int) - -(L:Int)).toNat=0:=by omega
   have e2:(-(L:Int) - -(d:Int)).toNat=d - L:=by omega
   rw [e1,e2,Nat.shiftLeft_zero];have hp:2 ^ d=2 ^ L * 2 ^ (d - L):=by rw [<-Nat.pow_add];congr 1;omega
   have c1:=Zrv (n:=M) (drop:=d - L) (B:=B * 2 ^ L) (by rw [Nat.mul_assoc,<-hp];exact hlt);by_cases hdr:d - L<=M.log2 + 2
   ·have c2:=ZtL hdr
    have hup:M / 2 ^ (d - L)<2 ^ 53:=by
     rw [Nat.div_lt_iff_lt_mul (Nat.two_pow_pos _),<-Nat.pow_add];have:2 ^ (M.log2 + 1)<=2 ^ (53 + (d - L)):=Nat.pow_le_pow_right (by omega) (by omega);omega
    refine ⟨c1,by omega,λ h=>?_⟩;have hlo:2 ^ 52<=M / 2 ^ (d - L):=by
     rw [Nat.le_div_iff_mul_le (Nat.two_pow_pos _),<-Nat.pow_add];have:2 ^ (52 + (d - L))<=2 ^ M.log2:=Nat.pow_le_pow_right (by omega) (by omega);omega
    omega
   ·-- all of it is dropped
    have hL3:L=1074:=by omega
    have c0:Toward.even.cut false M (d - L)<=1:=Zrv (by
     have h1:2 ^ (M.log2 + 1)<=2 ^ (d - L):=Nat.pow_le_pow_right (by omega) (by omega);omega)
    exact ⟨c1,by omega,λ h=>by omega⟩
 rw [hkd];obtain ⟨mp,j,hr,hc⟩:=Zp3 (i:=1074 - L) (by omega) hk2 hk3;have hmin:min ((1074 - L) * 4503599627370496 + kept) (2047 * 4503599627370496)=(1074 - L) * 4503599627370496 + kept:=Nat.min_eq_left (by omega);have hword:double.word false (min ((1074 - L) * 4503599627370496 + kept) (2047 * 4503599627370496))=(1074 - L) * 4503599627370496 + kept:=by rw [hmin];unfold Format.word;rw [if_neg (by simp)]
 rw [hword,hr];rcases hc with ⟨hmk,hj⟩|⟨hmk,hkk,hj⟩
 ·exact ⟨mp,L,by rw [plc1 hj hL2],by rw [hmk];exact hk1⟩
 ·exact ⟨mp,L - 1,by rw [plc2 hj hL2 hL1],by rw [hmk];exact ZuH hk1 hkk hL1⟩
theorem Zg0 {a b:Nat} (h:b<=a):2 ^ a=2 ^ b * 2 ^ (a - b):=by rw [<-Nat.pow_add];congr 1;omega
theorem Zum {m n d e:Nat}:Datum.order (.number false m (-(d:Int))) (.number false n (-(e:Int)))=some (compare ((m * 2 ^ e:Nat):Int) ((n * 2 ^ d:Nat):Int)):=by
 unfold Datum.order signed;simp only [Bool.false_eq_true,if_false,Nat.shiftLeft_eq]
 congr 1
 have key:∀ (x y k:Nat),compare ((x * 2 ^ k:Nat):Int) ((y * 2 ^ k:Nat):Int)=compare (x:Int) (y:Int):=λ x y k=>by
  have hp:=Nat.two_pow_pos k;rcases Nat.lt_trichotomy x y with h|h|h
  ·rw [Int.compare_eq_lt.2 (Int.ofNat_lt.2 h),Int.compare_eq_lt.2 (Int.ofNat_lt.2 (Nat.mul_lt_mul_of_pos_right h hp))]
  ·subst h;rw [Int.compare_eq_eq.2 rfl,Int.compare_eq_eq.2 rfl]
  ·rw [Int.compare_eq_gt.2 (Int.ofNat_lt.2 h),Int.compare_eq_gt.2 (Int.ofNat_lt.2 (Nat.mul_lt_mul_of_pos_right h hp))]
 by_cases hde:d<=e
 ·have e1:(-(d:Int) - min (-(d:Int)) (-(e:Int))).toNat=e - d:=by omega
  have e2:(-(e:Int) - min (-(d:Int)) (-(e:Int))).toNat=0:=by omega
  rw [e1,e2,Nat.pow_zero,Nat.mul_one,<-key (m * 2 ^ (e - d)) n d,Nat.mul_assoc,Nat.mul_comm (2 ^ (e - d)),<-Zg0 hde]
 ·have e1:(-(d:Int) - min (-(d:Int)) (-(e:Int))).toNat=0:=by omega
  have e2:(-(e:Int) - min (-(d:Int)) (-(e:Int))).toNat=d - e:=by omega
  rw [e1,e2,Nat.pow_zero,Nat.mul_one,<-key m (n * 2 ^ (d - e)) e,Nat.mul_assoc,Nat.mul_comm (2 ^ (d - e)),<-Zg0 (show e<=d by omega)]
def ZnL (p mp dp:Nat):Prop:=double.read p=.number false mp (-(dp:Int))
theorem Zqr {p q m n d e:Nat} (hp:ZnL p m d) (hq:ZnL q n e):double.order p q=some (compare ((m * 2 ^ e:Nat):Int) ((n * 2 ^ d:Nat):Int)):=by
 unfold Format.order;rw [hp,hq,Zum]
theorem Zrf {n:Nat} (h:n<=10001):∃ d,ZnL (fw n) (n * 2 ^ d) d:=ZuJ h
theorem ZzU {k p mp dp:Nat} (hk:k<=10001) (hp:ZnL p mp dp):(double.order (fw k) p==some .lt||double.order (fw k) p==some .eq)=decide (k<=mp / 2 ^ dp):=by
 obtain ⟨d,hd⟩:=Zrf hk;rw [Zqr hd hp];have h2:=Nat.two_pow_pos d;have e:k * 2 ^ d * 2 ^ dp=k * 2 ^ dp * 2 ^ d:=by rw [Nat.mul_assoc,Nat.mul_comm (2 ^ d),<-Nat.mul_assoc]
 rw [e];have h:k<=mp / 2 ^ dp↔k * 2 ^ dp<=mp:=Nat.le_div_iff_mul_le (Nat.two_pow_pos dp);rcases Nat.lt_trichotomy (k * 2 ^ dp) mp with h1|h1|h1
 ·rw [Int.compare_eq_lt.2 (Int.ofNat_lt.2 (Nat.mul_lt_mul_of_pos_right h1 h2)),decide_eq_true (h.2 (by omega))];rfl
 ·rw [h1,Int.compare_eq_eq.2 rfl,decide_eq_true (h.2 (by omega))];rfl
 ·rw [Int.compare_eq_gt.2 (Int.ofNat_lt.2 (Nat.mul_lt_mul_of_pos_right h1 h2)),decide_eq_false (λ h3=>by have:=h.1 h3;omega)];rfl
theorem Zsg:ZnL 0 0 1074:=by unfold ZnL;decide
theorem ZsE {x:Nat} (h0:double.order x 0=some .gt) (h1:double.order x 4607182418800017408≠some .gt) (h2:double.order x 4607182418800017408≠some .eq):∃ m d,ZnL x m d/\0<m/\m<2 ^ d:=by
 have e0:double.read 0=.number false 0 (-1074):=by decide
 have e1:double.read 4607182418800017408=.number false 4503599627370496 (-52):=by decide
 unfold Format.order at h0 h1 h2;rw [e0] at h0;rw [e1] at h1 h2;generalize hx:double.read x=dx at h0 h1 h2;cases dx with
 |nan s f=>simp [Datum.order] at h0
 |infinity s=>
  cases s
  ·exact absurd rfl h1
  ·simp [Datum.order] at h0
 |number s m e=>
  unfold Datum.order at h0 h1 h2;simp only [ne_eq,Option.some.injEq] at h0 h1 h2;have hg:=Int.compare_eq_gt.1 h0;have hz:signed false 0 (-1074 - min e (-1074)).toNat=0:=by simp [signed]
  rw [hz] at hg;cases s with
  |true=>
   exfalso;unfold signed at hg;rw [if_pos rfl] at hg;generalize m<<<(e - min e (-1074)).toNat=y at hg;omega
  |false=>
   have hm:0<m:=by
    rcases Nat.eq_zero_or_pos m with h|h
    ·subst h;simp [signed] at hg
    ·exact h
   have hlt:signed false m (e - min e (-52)).toNat<signed false 4503599627370496 (-52 - min e (-52)).toNat:=by
    rcases Int.lt_trichotomy (signed false m (e - min e (-52)).toNat) (signed false 4503599627370496 (-52 - min e (-52)).toNat) with h|h|h
    ·exact h
    ·exact absurd (Int.compare_eq_eq.2 h) h2
    ·exact absurd (Int.compare_eq_gt.2 h) h1
   unfold signed at hlt;rw [if_neg (by simp),if_neg (by simp),Nat.shiftLeft_eq,Nat.shiftLeft_eq] at hlt;have hlt:m * 2 ^ (e - min e (-52)).toNat<4503599627370496 * 2 ^ (-52 - min e (-52)).toNat:=Int.ofNat_lt.1 hlt;have hneg:e<0:=by
    by_cases he:0<=e
    ·exfalso
     have a1:min e (-52)=-52:=by omega
     rw [a1,show (-52 - (-52):Int).toNat=0 from rfl,Nat.pow_zero,Nat.mul_one] at hlt
     have:2 ^ 52<=2 ^ (e - -52).toNat:=Nat.pow_le_pow_right (by omega) (by omega);have:1 * 2 ^ (e - -52).toNat<=m * 2 ^ (e - -52).toNat:=Nat.mul_le_mul_right _ hm;omega
    ·omega
   refine ⟨m,(-e).toNat,?_,hm,?_⟩
   ·unfold ZnL;rw [hx,show (-((-e).toNat:Int))=e by omega]
   ·by_cases h52: -52<=e
    ·have a1:min e (-52)=-52:=by omega
     rw [a1,show (-52 - (-52):Int).toNat=0 from rfl,Nat.pow_zero,Nat.mul_one] at hlt
     have a2:(2:Nat) ^ 52=2 ^ (-e).toNat * 2 ^ (e - -52).toNat:=by rw [<-Nat.pow_add];congr 1;omega
     have a3:m * 2 ^ (e - -52).toNat<2 ^ (-e).toNat * 2 ^ (e - -52).toNat:=by rw [<-a2];omega
     exact Nat.lt_of_mul_lt_mul_right a3
    ·have a1:min e (-52)=e:=by omega
     rw [a1,show (e - e).toNat=0 by omega,Nat.pow_zero,Nat.mul_one] at hlt;have a2:2 ^ (-e).toNat=2 ^ 52 * 2 ^ (-52 - e).toNat:=by rw [<-Nat.pow_add];congr 1;omega
     rw [a2];exact hlt
theorem ZsF {x m d s:Nat} (hx:ZnL x m d) (hlt:m<2 ^ d) (hs:s<=10000):∃ p mp dp,double.mul x (fw s)=some p/\ZnL p mp dp/\mp<=s * 2 ^ dp:=by
 obtain ⟨ds,hd⟩:=Zrf (n:=s) (by omega);have hmul:double.mul x (fw s)=some (double.nearest false (m * (s * 2 ^ ds)) (-((d + ds:Nat):Int))):=by
  unfold Format.mul;rw [hx,hd];show some (double.write (.number (false ^^ false) (m * (s * 2 ^ ds)) (-(d:Int) + -(ds:Int))))=_;rw [show (-(d:Int) + -(ds:Int))=-((d + ds:Nat):Int) by omega];rfl
 rcases Nat.eq_zero_or_pos s with h0|h0
 ·subst h0
  refine ⟨_,0,1074,hmul,?_,by omega⟩;rw [Nat.zero_mul,Nat.mul_zero];unfold Format.nearest;rw [if_pos rfl];exact Zsg
 ·have hb:m * (s * 2 ^ ds)<s * 2 ^ (d + ds):=by
   have a1:s * 2 ^ (d + ds)=2 ^ d * (s * 2 ^ ds):=by rw [Nat.pow_add,Nat.mul_left_comm]
   rw [a1];exact Nat.mul_lt_mul_of_pos_right hlt (Nat.mul_pos h0 (Nat.two_pow_pos _))
  obtain ⟨mp,dp,hr,hle⟩:=ZqB hs hb;exact ⟨_,mp,dp,hmul,hr,hle⟩
theorem ZoS {p mp dp:Nat} (hp:ZnL p mp dp):double.write ((double.read p).integral .down)=fw (mp / 2 ^ dp):=by
 rw [hp];unfold Datum.integral;simp only;rw [show (-(dp:Int)).toNat=0 by omega,Nat.shiftLeft_zero,show (- -(dp:Int)).toNat=dp by omega,Znz];rfl
theorem Zxx {n:Nat} (h:n<=10001):(double.read (fw n)).toInt .zero=some (n:Int):=by
 obtain ⟨d,hd⟩:=Zrf h;unfold Datum.toInt;rw [hd];unfold Datum.integral;simp only;rw [show (-(d:Int)).toNat=0 by omega,Nat.shiftLeft_zero,show (- -(d:Int)).toNat=d by omega];have:Toward.zero.cut false (n * 2 ^ d) d=n:=by
  have:Toward.zero.cut false (n * 2 ^ d) d=Toward.down.cut false (n * 2 ^ d) d:=by
   unfold Toward.cut;simp
  rw [this,Znz,Nat.mul_div_cancel _ (Nat.two_pow_pos d)]
 rw [this];simp [signed]
end
end Go.VC
namespace Go.Proofs.YtlplemdmegpoeaaGreatDoor
section
open Go Go.VC Ieee Tryz
variable {R:Cx} {Hs Rest:List HP} {w:World}
def ZtI (x s:Nat):Nat:=match double.mul x (fw s) with
 |some p=>(match double.read p with| .number _ m e=>m / 2 ^ (-e).toNat|_=>0)
 |none=>0
def ZtG (x:Nat):Bool:=double.order x 0==some .gt
def Zq4 (x:Nat):Bool:=double.order x 4607182418800017408==some .gt||double.order x 4607182418800017408==some .eq
def Zb7 (x:Nat) (s:Int):Int × Int:=
 if s<0\/s>10000 then (0,1) else if ZtG x=false then (0,0) else if Zq4 x=true then (s,0) else ((ZtI x s.toNat:Nat),0)
theorem Zrh {x s:Nat} (h0:ZtG x=true) (h1:Zq4 x=false) (hs:s<=10000):∃ p mp dp,double.mul x (fw s)=some p/\ZnL p mp dp/\mp<=s * 2 ^ dp/\ZtI x s=mp / 2 ^ dp/\ZtI x s<=s:=by
 unfold ZtG at h0;unfold Zq4 at h1;simp only [Bool.or_eq_false_iff,beq_eq_false_iff_ne,ne_eq] at h1;obtain ⟨m,d,hx,_,hlt⟩:=ZsE (beq_iff_eq.1 h0) h1.1 h1.2;obtain ⟨p,mp,dp,hp,hn,hle⟩:=ZsF hx hlt hs;have e:ZtI x s=mp / 2 ^ dp:=by
  unfold ZtI;rw [hp];unfold ZnL at hn;simp only [hn];rw [show (-(-(dp:Int))).toNat=dp by omega]
 refine ⟨p,mp,dp,hp,hn,hle,e,?_⟩;rw [e];exact Nat.div_le_of_le_mul (by rw [Nat.mul_comm];exact hle)
theorem ZtN (t1 t2:Operand) (T:TypeId) (x y:Nat) (w : nW):((do eqGuard BinOp.gtr T t1 t2 (.float .f64 x) (.float .f64 y);binOp BinOp.gtr T (.float .f64 x) (.float .f64 y):Sem Value)).run prog w=.ok (.bool (double.order x y==some .gt)) w:=by
 simp [eqGuard,binOp,Op.floatCmp,FloatKind.format]
theorem ZtO (t1 t2:Operand) (T:TypeId) (x y:Nat) (w : nW):((do eqGuard BinOp.geq T t1 t2 (.float .f64 x) (.float .f64 y);binOp BinOp.geq T (.float .f64 x) (.float .f64 y):Sem Value)).run prog w=.ok (.bool (double.order x y==some .gt||double.order x y==some .eq)) w:=by
 simp [eqGuard,binOp,Op.floatCmp,FloatKind.format]
theorem ZtM (t1 t2:Operand) (T:TypeId) (x y:Nat) (w : nW):((do eqGuard BinOp.leq T t1 t2 (.float .f64 x) (.float .f64 y);binOp BinOp.leq T (.float .f64 x) (.float .f64 y):Sem Value)).run prog w=.ok (.bool (double.order x y==some .lt||double.order x y==some .eq)) w:=by
 simp [eqGuard,binOp,Op.floatCmp,FloatKind.format]
theorem ZnC (t1 t2:Operand) (T:TypeId) (x y:Nat) (w : nW):((do eqGuard BinOp.neq T t1 t2 (.float .f64 x) (.float .f64 y);binOp BinOp.neq T (.float .f64 x) (.float .f64 y):Sem Value)).run prog w=.ok (.bool (double.order x y !=some .eq)) w:=by
 simp [eqGuard,binOp,Op.floatCmp,FloatKind.format]
theorem ZqD (t1 t2:Operand) (T:TypeId) {x y p:Nat} (h:double.mul x y=some p) (w : nW):((do eqGuard BinOp.mul T t1 t2 (.float .f64 x) (.float .f64 y);binOp BinOp.mul T (.float .f64 x) (.float .f64 y):Sem Value)).run prog w=.ok (.float .f64 p) w:=by
 simp [eqGuard,binOp,Op.floatArith,FloatKind.format,h]
theorem ZlA (n:Nat) (w : nW):(convert 3 35 (nI n)).run prog w=.ok (.float .f64 (fw n)) w:=by
 have h:FloatKind.f64.nearest (n:Int)=fw n:=by
  unfold FloatKind.nearest FloatKind.encode FloatKind.format;rw [decide_eq_false (show ¬ (n:Int)<0 by omega),Int.natAbs_natCast];rfl
 simp [convert,run_underlying underlying3,run_underlying underlying35,Conv.intToFloat,h]
theorem Zt1 {n:Nat} (hn:n<=10001) (w : nW):(convert 35 3 (.float .f64 (fw n))).run prog w=.ok (nI n) w:=by
 have h:(FloatKind.f64.decode (fw n)).toInt .zero=some (n:Int):=Zxx hn;have hr:IntKind.i64.min<=(n:Int)/\(n:Int)<=IntKind.i64.max:=by
  have h1:IntKind.i64.min=-9223372036854775808:=by decide
  have h2:IntKind.i64.max=9223372036854775807:=by decide
  omega
 simp [convert,run_underlying underlying3,run_underlying underlying35,Conv.floatToInt,h,hr];intro h2;omega
theorem ZuM : (f291.name == "runtime.NumGoroutine") = false := by kernel_rfl
theorem ZuP:f291.body.isNone=true:=by kernel_rfl
theorem ZuL:Extern.findNext f291=none:=by kernel_rfl
theorem ZuO : Extern.find f291 = some (Extern.MathFloor.toIntegral "math.archFloor" .down) := by kernel_rfl
theorem Zrg {p m : Nat} {e : Int} (hd : FloatKind.f64.decode p = .number false m e) : Extern.MathFloor.toIntegral "math.archFloor" .down #[.float .f64 p] = pure (.float .f64 (FloatKind.f64.encode ((Datum.number false m e).integral .down))) := by
 unfold Extern.MathFloor.toIntegral;generalize FloatKind.decode FloatKind.f64=D at hd ⊢
 conv=>lhs;whnf
 rw [hd]
theorem ZoT {p mp dp:Nat} (hp:ZnL p mp dp) (hw:Sat R Hs w):Zk prog 276 #[.float .f64 p] w λ v w'=>v=.float .f64 (fw (mp / 2 ^ dp))/\Sat R Hs w':=by
 apply Zvf;refine ⟨.float .f64 (fw (mp / 2 ^ dp)),w,?_,_,rfl,rfl,hw⟩;rw [run_callFunc_extern func291 ZuM ZuP ZuL ZuO];have hd:FloatKind.f64.decode p=.number false mp (-(dp:Int)):=hp;have hf:FloatKind.f64.encode ((Datum.number false mp (-(dp:Int))).integral .down)=fw (mp / 2 ^ dp):=by
  have:=ZoS hp;rw [show double.read p=.number false mp (-(dp:Int)) from hp] at this
  exact this
 rw [Zrg hd,hf];rfl
theorem ZoC {x:Nat} {s:Int} (hw:Sat R Hs w):Zk prog 235 #[.float .f64 x,nI s] w λ v w'=>v=.tuple #[nI (Zb7 x s).1,nI (Zb7 x s).2]/\Sat R Hs w':=by
 apply ZvE;refine ⟨λ t w=>t=decide (s<0\/s>10000)/\Sat R Hs w,Br.d (λ h=>⟨by rw [decide_eq_true (.inl h)],hw⟩) (λ h=>⟨by rw [decide_eq_decide];omega,hw⟩),?_⟩;clear hw;rintro _ _ w ⟨rfl,hw⟩;unfold Zb7;refine Br.d (λ h=>⟨by rw [if_pos h],hw⟩) (λ h=>?_);rw [if_neg h];refine ⟨ZtG x,λ w' e=>ZtN _ _ _ _ _ _,Br.nb (λ h1=>⟨by rw [if_pos h1],hw⟩) (λ h1=>?_)⟩;rw [if_neg (by rw [h1];simp)];refine ⟨Zq4 x,λ w' e=>ZtO _ _ _ _ _ _,Br.mk (λ h2=>⟨by rw [if_pos h2],hw⟩) (λ h2=>?_)⟩;rw [if_neg (by rw [h2];simp)];obtain ⟨n,rfl⟩:=Int.eq_ofNat_of_zero_le (show 0<=s by omega);obtain ⟨p,mp,dp,hp,hn,hle,e,he⟩:=Zrh (s:=n) h1 h2 (by omega);refine ⟨w,_,ZlA n w,_,λ w' _=>ZqD _ _ _ hp w',?_⟩;refine (ZoT hn hw).u λ w hw=>?_;rw [<-e];refine ⟨_,rfl,_,λ w' _=>Zt1 (by omega) w',?_,hw⟩;rw [Int.toNat_natCast]
theorem Zou {x:Nat} (h:double.order x 0=none):double.order x x=none:=by
 unfold Format.order at *;have h0:double.read 0=.number false 0 (-1074):=by decide
 rw [h0] at h;cases hx:double.read x with
 |nan s t=>rfl
 |infinity s=>rw [hx] at h;simp [Datum.order] at h
 |number s m e=>rw [hx] at h;simp [Datum.order] at h
theorem ZlO {x:Nat} {s:Int} (hw:Sat R Hs w):Zk prog 257 #[.float .f64 x,nI s] w λ v w'=>v=.tuple #[nI (Zb7 x s).1,nI (Zb7 x s).2]/\Sat R Hs w':=by
 apply Zvl;have bad:(s<0\/s>10000)->Zb7 x s=(0,1):=λ h=>by unfold Zb7;rw [if_pos h]
 refine ⟨λ w=>¬ (s<0\/s>10000)/\Sat R Hs w,Br.d (λ h=>⟨by rw [bad (.inl h)],hw⟩) (λ h=>Br.d (λ h2=>⟨by rw [bad (.inr h2)],hw⟩) (λ h2=>⟨by omega,hw⟩)),?_⟩;clear hw;rintro _ w ⟨h,hw⟩;unfold Zb7;rw [if_neg h];refine ⟨λ w=>ZtG x=true/\Sat R Hs w,?_,?_⟩
 ·refine ⟨_,λ w' e=>ZnC _ _ _ _ _ _,Br.mk (λ h1=>⟨?_,hw⟩) (λ h1=>?_)⟩
  ·rw [if_pos]
   unfold ZtG;cases ho:double.order x 0 with
   |none=>rfl
   |some o=>
    exfalso;have h1:=bne_iff_ne.1 h1;unfold Format.order at ho h1;cases hx:double.read x with
    |nan s t=>rw [hx] at ho;simp [Datum.order] at ho
    |infinity s=>rw [hx] at h1;apply h1;cases s<;>rfl
    |number s m e=>rw [hx] at h1;apply h1;cases s<;>simp [Datum.order]
  ·have h1:=bne_eq_false_iff_eq.1 h1
   refine ⟨_,λ w' e=>ZtM _ _ _ _ _ _,Br.mk (λ h2=>⟨?_,hw⟩) (λ h2=>⟨?_,hw⟩)⟩
   ·rw [if_pos]
    unfold ZtG;rcases (Bool.or_eq_true _ _).mp h2 with h3|h3
    ·rw [beq_iff_eq.1 h3];rfl
    ·rw [beq_iff_eq.1 h3];rfl
   ·unfold ZtG
    obtain ⟨h3,h4⟩:=Bool.or_eq_false_iff.1 h2;cases ho:double.order x 0 with
    |none=>rw [Zou ho] at h1;cases h1
    |some o=>
     rw [ho] at h3 h4;cases o
     ·simp at h3
     ·simp at h4
     ·rfl
 clear hw;rintro _ w ⟨h1,hw⟩;rw [if_neg (by rw [h1];simp)];refine ⟨Zq4 x,λ w' e=>ZtO _ _ _ _ _ _,Br.mk (λ h2=>⟨by rw [if_pos h2],hw⟩) (λ h2=>?_)⟩;rw [if_neg (by rw [h2];simp)];obtain ⟨n,rfl⟩:=Int.eq_ofNat_of_zero_le (show 0<=s by omega);obtain ⟨p,mp,dp,hp,hn,hle,e,he⟩:=Zrh (s:=n) h1 h2 (by omega);rw [Int.toNat_natCast];refine ⟨w,_,ZlA n w,_,λ w' _=>ZqD _ _ _ hp w',?_⟩;refine ⟨λ i w=>∃ j:Nat,i=j/\j<=ZtI x n/\Sat R Hs w,λ i _=>n - i.toNat,⟨0,rfl,by omega,hw⟩,?_⟩;clear hw;rintro _ _ w ⟨j,rfl,hj,hw⟩;refine Br.d (λ h3=>?_) (λ h3=>⟨?_,hw⟩)
 ·rw [show wI ((j:Int) + 1)=((j + 1:Nat):Int) from Zd]
  refine ⟨w,_,ZlA (j + 1) w,_,λ w' _=>ZtM _ _ _ _ _ _,?_⟩;rw [ZzU (by omega) hn,<-e];refine Br.d (λ h4=>⟨⟨j + 1,rfl,h4,hw⟩,by dsimp only;omega⟩) (λ h4=>⟨?_,hw⟩);rw [show j=ZtI x n by omega]
 ·rw [show j=ZtI x n by omega]
end
section
open Go Go.VC Tryz
variable {R:Cx} {Hs Rest:List HP} {w:World}
theorem _root_.Go.VC.Ro.ixF {xs:List Nat} {s:Sl} {S:World->Prop} {i:Int} (hr:Ro R s (xs.map (Value.float .f64))) (hS:∀ w,S w->Sat R Hs w) (j:Nat) (hi:i=j) (hj:j<xs.length) {F:Nat->Prop} (h:F xs[j]):
  Rng i s.len (Zb s.a λ a=>∃ t:Nat,(At S (a.add i.toNat) [.float .f64 t])/\F t):=by
 subst hi;obtain ⟨a,ha,hat⟩:=hr.addr (k:=j) (by rw [List.length_map];exact hj);have hl:=hr.len;rw [List.length_map] at hl;exact Rng.mk (by omega) (by omega) (Zb.mk ha ⟨_,by have:=hat hS;rw [List.getElem_map] at this;exact this,h⟩)
def Zb4 (s:Int):Int->List Nat->List Int
 |_,[]=>[]
 |last,x::xs=>(if last<(Zb7 x s).1 then last else (Zb7 x s).1)::Zb4 s (if last<(Zb7 x s).1 then last else (Zb7 x s).1) xs
def ZB (s:Int) (parts:List Nat):List Int × Int:=if s<0\/s>10000\/parts.length<1\/parts.length>8 then ([],1) else (s::Zb4 s s parts.tail,0)
theorem ZdI (s:Int):∀ (xs:List Nat) (last:Int),(Zb4 s last xs).length=xs.length
 |[],_=>rfl
 |x::xs,last=>by simp [Zb4,ZdI s xs]
theorem ZfP (s:Int):∀ (xs:List Nat) (last:Int) (x:Nat),Zb4 s last (xs++[x])=Zb4 s last xs++
  [if (last::Zb4 s last xs).getD xs.length 0<(Zb7 x s).1 then (last::Zb4 s last xs).getD xs.length 0 else (Zb7 x s).1]
 |[],last,x=>by simp [Zb4]
 |y::xs,last,x=>by
  simp only [List.cons_append,Zb4,ZfP s xs,List.length_cons,List.getD_cons_succ]
abbrev Zj2 (l:List Nat):List Value:=l.map (Value.float .f64)
abbrev Zc (l:List Int):List Value:=l.map (Value.int .i64)
theorem Zl7 {s:Int} {sp:Sl} {parts:List Nat} (hp:SlR R.m sp (Zj2 parts)) (hw:Sat R Hs w):
  Zk prog 163 #[nI s,.slice sp.a sp.len sp.cap] w λ v w'=>∃ t:Sl,v=.tuple #[.slice t.a t.len t.cap,nI (ZB s parts).2]/\Sat R (Own t 3 (Zc (ZB s parts).1)::Hs) w':=by
 have hlen:=hp.len;rw [List.length_map] at hlen;have bad:(s<0\/s>10000\/parts.length<1\/parts.length>8)->∀ w,Sat R Hs w->∃ t:Sl,Value.tuple #[.slice none 0 0,nI 1]=.tuple #[.slice t.a t.len t.cap,nI (ZB s parts).2]/\Sat R (Own t 3 (Zc (ZB s parts).1)::Hs) w:=λ h w hw=>by
  unfold ZB;rw [if_pos h];exact ⟨⟨none,0,0⟩,rfl,Own.nil hw⟩
 apply Zwl;refine ⟨λ w=>(0<=s/\s<=10000/\1<=parts.length/\parts.length<=8)/\Sat R Hs w,?_,?_⟩
 ·refine (Zeq hw).u λ w hw=>?_
  unfold inR;refine ⟨_,rfl,Br.nd (λ h=>bad (by omega) _ hw) (λ h1=>Br.d (λ h=>bad (by omega) _ hw) (λ h2=>Br.d (λ h=>bad (by omega) _ hw) (λ h3=>⟨⟨by omega,by omega,by omega,by omega⟩,hw⟩)))⟩
 clear hw;rintro _ w ⟨⟨h1,h2,h3,h4⟩,hw⟩;have e:ZB s parts=(s::Zb4 s s parts.tail,0):=by unfold ZB;rw [if_neg (by omega)]
 rw [e];clear bad;refine Za hw λ b w hw=>⟨by omega,by omega,?_⟩;have hw:Sat R (Own ⟨some ⟨b,0,none⟩,1,1⟩ 3 (Zc [s])::Hs) w:=Za0 hw;have hd:=(hp.drop (k:=1) (by rw [List.length_map];omega)).ro (by rw [List.length_drop,List.length_map];omega);have hdl:(Zj2 parts).drop 1=Zj2 parts.tail:=by simp [Zj2,List.drop_one,List.map_tail]
 rw [hdl] at hd;have htl:parts.tail.length=parts.length - 1:=List.length_tail;have hslen:(sp.len - Int.toNat 1:Nat)=parts.tail.length:=by rw [htl];show sp.len - 1=_;omega
 refine ⟨λ so i w=>∃ j:Nat,i=j/\j<=parts.tail.length/\Sat R (Own so 3 (Zc (s::Zb4 s s (parts.tail.take j)))::Hs) w,λ _ i _=>parts.tail.length - i.toNat,⟨0,rfl,by omega,hw⟩,?_⟩;clear hw;rintro _ so _ w ⟨j,rfl,hj,hw⟩;refine Br.d (λ h=>?_) (λ h=>?_)
 ·have hj2:j<parts.tail.length:=by omega
  refine Ro.ixF hd (eqS hw) j rfl hj2 ?_;refine (ZoC hw).u λ w hw=>?_;refine ⟨_,_,rfl,?_⟩;have hl:(s::Zb4 s s (parts.tail.take j)).length=j + 1:=by rw [List.length_cons,ZdI,List.length_take];omega
  refine Own.ix hw (eqS hw) j rfl (by omega) ?_;refine ZaJ ZiC hw (by omega) λ so' w hw=>?_;rw [Zd];refine ⟨⟨j + 1,by omega,by omega,?_⟩,by dsimp only;omega⟩;rw [List.take_add_one,List.getElem?_eq_getElem hj2];simp only [Option.toList_some];rw [ZfP,List.length_take,show min j parts.tail.length=j by omega,ZS (by omega)];exact hw
 ·rw [List.take_of_length_le (by omega)] at hw
  exact ⟨so,rfl,hw⟩
theorem ZkB {s:Int} {sp:Sl} {parts:List Nat} (hp:SlR R.m sp (Zj2 parts)) (hw:Sat R Hs w):
  Zk prog 185 #[nI s,.slice sp.a sp.len sp.cap] w λ v w'=>∃ t:Sl,v=.tuple #[.slice t.a t.len t.cap,nI (ZB s parts).2]/\Sat R (Own t 3 (Zc (ZB s parts).1)::Hs) w':=by
 have hlen:=hp.len;rw [List.length_map] at hlen;have bad:(s<0\/s>10000\/parts.length<1\/parts.length>8)->∀ w,Sat R Hs w->∃ t:Sl,Value.tuple #[.slice none 0 0,nI 1]=.tuple #[.slice t.a t.len t.cap,nI (ZB s parts).2]/\Sat R (Own t 3 (Zc (ZB s parts).1)::Hs) w:=λ h w hw=>by
  unfold ZB;rw [if_pos h];exact ⟨⟨none,0,0⟩,rfl,Own.nil hw⟩
 apply Zv0;refine ⟨λ w=>(0<=s/\s<=10000/\1<=parts.length/\parts.length<=8)/\Sat R Hs w,?_,?_⟩
 ·exact Br.d (λ h=>bad (by omega) _ hw) (λ h1=>Br.d (λ h=>bad (by omega) _ hw) (λ h2=>Br.d (λ h=>bad (by omega) _ hw) (λ h3=>Br.d (λ h=>bad (by omega) _ hw) (λ h4=>⟨⟨by omega,by omega,by omega,by omega⟩,hw⟩))))
 clear hw;rintro _ w ⟨⟨h1,h2,h3,h4⟩,hw⟩;have e:ZB s parts=(s::Zb4 s s parts.tail,0):=by unfold ZB;rw [if_neg (by omega)]
 rw [e];clear bad;refine Za hw λ b w hw=>?_;have hw:Sat R (Own ⟨some ⟨b,0,none⟩,1,1⟩ 3 (Zc [s])::Hs) w:=Za0 hw;have htl:parts.tail.length=parts.length - 1:=List.length_tail;refine ⟨λ so i w=>∃ j:Nat,i=((j + 1:Nat):Int)/\j<=parts.tail.length/\Sat R (Own so 3 (Zc (s::Zb4 s s (parts.tail.take j)))::Hs) w,λ _ i _=>parts.length - i.toNat,⟨0,rfl,by omega,hw⟩,?_⟩;clear hw;rintro _ so _ w ⟨j,rfl,hj,hw⟩;refine Br.d (λ h=>?_) (λ h=>?_)
 ·have hj2:j<parts.tail.length:=by omega
  have hj3:j + 1<parts.length:=by omega
  have hg:parts[j + 1]=parts.tail[j]:=by rw [List.getElem_tail]
  refine Ro.ixF (hp.ro) (eqS hw) (j + 1) rfl hj3 ?_;rw [hg];refine (ZlO hw).u λ w hw=>?_;refine ⟨_,_,rfl,?_⟩;have hl:(s::Zb4 s s (parts.tail.take j)).length=j + 1:=by rw [List.length_cons,ZdI,List.length_take];omega
  refine Own.ix hw (eqS hw) j (by rw [Zd];omega) (by omega) ?_;refine ZaJ ZiC hw (by omega) λ so' w hw=>?_;rw [Zd];refine ⟨⟨j + 1,by omega,by omega,?_⟩,by dsimp only;omega⟩;rw [List.take_add_one,List.getElem?_eq_getElem hj2];simp only [Option.toList_some];rw [ZfP,List.length_take,show min j parts.tail.length=j by omega,ZS (by omega)];exact hw
 ·rw [List.take_of_length_le (by omega)] at hw
  exact ⟨so,rfl,hw⟩
theorem Zni (s:Int) (h0:0<=s) (h1:s<=10000):∀ (xs:List Nat) (last:Int),0<=last->last<=10000->∀ k (h:k<(Zb4 s last xs).length),(0<=(Zb4 s last xs)[k]/\(Zb4 s last xs)[k]<=10000)/\(Zb4 s last xs)[k]<=(last::Zb4 s last xs).getD k 0
 |[],last,_,_,k,h=>by simp [Zb4] at h
 |x::xs,last,a,b,k,h=>by
  have hlv:0<=(Zb7 x s).1:=by
   unfold Zb7;split
   ·simp
   ·split
    ·simp
    ·split
     ·exact h0
     ·simp
  rcases k with _|k
  ·simp only [Zb4,List.getElem_cons_zero,List.getD_cons_zero]
   split<;>omega
  ·simp only [Zb4,List.getElem_cons_succ,List.getD_cons_succ]
   exact Zni s h0 h1 xs _ (by split<;>omega) (by split<;>omega) k (by simpa [Zb4] using h)
theorem ZqM {s:Int} {parts:List Nat} (h:(ZB s parts).2=0):Ze4 (ZB s parts).1=true/\(ZB s parts).1.getD 0 0=s:=by
 unfold ZB at *;split at h
 ·simp at h
 ·rename_i hn
  rw [if_neg hn];refine ⟨Zak.2 ⟨⟨by simp,?_⟩,λ k hk=>?_⟩,rfl⟩
  ·simp only [List.length_cons,ZdI,List.length_tail];omega
  ·rcases k with _|k
   ·simp;omega
   ·have:=Zni s (by omega) (by omega) parts.tail s (by omega) (by omega) k (by simpa using hk)
    simp only [List.getElem_cons_succ];exact ⟨this.1,λ _=>by rw [show k + 1 - 1=k by omega];exact this.2⟩
def Zpc (l:List Int):Prop:=∀ i j (hj:j<l.length),(hij:i<j)->l[i]<l[j]
def Zdt (n:Int):List Int->List Int
 |[]=>[n]
 |x::l=>if x<n then x::Zdt n l else n::x::l
theorem Zq7 {n:Int}:∀ {l:List Int} {p:Nat},p<=l.length->(∀ k (h:k<l.length),k<p->l[k]<n)->(∀ k (h:k<l.length),p<=k->n<=l[k])->Zdt n l=l.take p++n::l.drop p
 |[],p,hp,_,_=>by
  obtain rfl:p=0:=by simpa using hp
  rfl
 |x::l,0,_,_,h2=>by
  have:=h2 0 (by simp) (by omega);simp only [List.getElem_cons_zero] at this;unfold Zdt;rw [if_neg (by omega)];rfl
 |x::l,p + 1,hp,h1,h2=>by
  have h0:=h1 0 (by simp) (by omega);simp only [List.getElem_cons_zero] at h0;unfold Zdt;rw [if_pos h0,Zq7 (p:=p) (by simpa using hp) (λ k h hk=>by have:=h1 (k + 1) (by simpa using h) (by omega);simpa using this) (λ k h hk=>by have:=h2 (k + 1) (by simpa using h) (by omega);simpa using this)];rfl
theorem Zrb {a b:Nat} (h:a + b<=1000000000000000000):wI (Zf3 .u64 (IntKind.u64.wrap (wI ((a:Int) + b))) 1)=((a + b) / 2:Nat):=by
 rw [Zd (x:=(a:Int) + b),IntKind.wrap_u64];have e:Zf3 .u64 (((a:Int) + b) % 18446744073709551616) 1=(((a + b) / 2:Nat):Int):=by
  unfold Zf3;show Int.fdiv _ 2=_;rw [Int.fdiv_eq_ediv_of_nonneg _ (by omega)];omega
 rw [e,Zd]
theorem ZoL {x:Int} (hw:Sat R Hs w):Zk prog 281 #[nI x] w λ v w'=>v=.bool false/\Sat R Hs w':=by
 apply Zvc;exact ⟨by simp,hw⟩
theorem ZrK {x:Int} (hw:Sat R Hs w):Zk prog 278 #[nI x] w λ v w'=>v=.bool false/\Sat R Hs w':=by
 apply ZrI;exact ⟨by simp,hw⟩
theorem ZqO {x y:Int} (hw:Sat R Hs w):Zk prog 267 #[nI x,nI y] w λ v w'=>v=.bool (decide (x<y))/\Sat R Hs w':=by
 apply Zvh;refine (ZrK hw).u λ w hw=>?_;exact ⟨_,rfl,Br.f rfl ⟨rfl,hw⟩⟩
theorem Zln {s:Sl} {l:List Int} {n:Int} (hs:RoI R s l) (hr:Zpc l) (hl:l.length<=1000000000) (hw:Sat R Hs w):
  Zk prog 248 #[.slice s.a s.len s.cap,nI n] w λ v w'=>∃ (p:Nat) (b:Bool),v=.tuple #[nI p,.bool b]/\p<=l.length/\(∀ k (h:k<l.length),k<p->l[k]<n)/\(∀ k (h:k<l.length),p<=k->n<=l[k])/\Sat R Hs w':=by
 have hlen:=hs.len;apply Zvt;refine ⟨λ i j w=>∃ a b:Nat,i=a/\j=b/\a<=b/\b<=l.length/\(∀ k (h:k<l.length),k<a->l[k]<n)/\(∀ k (h:k<l.length),b<=k->n<=l[k])/\Sat R Hs w,λ i j _=>j.toNat - i.toNat,⟨0,l.length,rfl,by rw [hlen],by omega,by omega,λ k _ h=>by omega,λ k h h'=>by omega,hw⟩,?_⟩;clear hw;rintro _ _ _ w ⟨a,b,rfl,rfl,hab,hb,h1,h2,hw⟩;rw [Zrb (by omega)];refine Br.d (λ h=>?_) (λ h=>?_)
 ·have hm:(a + b) / 2<l.length:=by omega
  refine Ro.ix hs (eqS hw) ((a + b) / 2) rfl hm ?_;refine (ZqO hw).u λ w hw=>?_;refine ⟨_,rfl,Br.d (λ h3=>?_) (λ h3=>?_)⟩
  ·rw [show wI ((((a + b) / 2:Nat):Int) + 1)=(((a + b) / 2 + 1:Nat):Int) from Zd]
   refine ⟨⟨(a + b) / 2 + 1,b,rfl,rfl,by omega,hb,λ k hk hk2=>?_,h2,hw⟩,by dsimp only;omega⟩;by_cases hkm:k=(a + b) / 2
   ·subst hkm;exact h3
   ·have:=hr k ((a + b) / 2) hm (by omega);omega
  ·refine ⟨⟨a,(a + b) / 2,rfl,rfl,by omega,by omega,h1,λ k hk hk2=>?_,hw⟩,by dsimp only;omega⟩
   by_cases hkm:k=(a + b) / 2
   ·subst hkm;omega
   ·have:=hr ((a + b) / 2) k hk (by omega);omega
 ·obtain rfl:a=b:=by omega
  have fin:∀ (t:Bool) w,Sat R Hs w->∃ (p:Nat) (b:Bool),Value.tuple #[nI a,.bool t]=.tuple #[nI p,.bool b]/\p<=l.length/\(∀ k (h:k<l.length),k<p->l[k]<n)/\(∀ k (h:k<l.length),p<=k->n<=l[k])/\Sat R Hs w:=λ t w hw=>⟨a,t,rfl,hb,h1,h2,hw⟩;refine Br.d (λ h3=>?_) (λ h3=>fin _ _ hw);have ha:a<l.length:=by omega
  refine Ro.ix hs (eqS hw) a rfl ha ?_;refine Br.e (λ h4=>fin _ _ hw) (λ h4=>?_);refine Ro.ix hs (eqS hw) a rfl ha ?_;refine (ZoL hw).u λ w hw=>?_;exact ⟨_,rfl,Br.f rfl (fin _ _ hw)⟩
end
end Go.Proofs.YtlplemdmegpoeaaGreatDoor
namespace Go.VC
section
variable {P:Program} {R:Cx} {Hs Rest:List HP} {w:World} {s:Sl} {T:TypeId}
theorem Zfp {dT sT ty elem:TypeId} {b o dLen dCap sLen sCap:Nat} {a:Addr} {cs l:List Value} {fr:Nat × Nat} {K:Int->World->Prop} (hu:P.underlying dT=some (.slice elem)) (hs:(P.info? elem).map (·.size)=some 1)
  (hw:Sat R (pts b (.cells l.toArray T fr)::Hs) w) (hfr:Zl1 l.length fr) (hn:cs.length=Nat.min sLen dLen) (hfit:o + cs.length<=l.length) (hsrc:∀ j v,cs[j]? =some v->w.cell? (a.add j)=some v) (h1:ZR cs=true)
  (k:∀ t w',Sat R (pts b (.cells (ZcK l o cs).toArray T fr)::Hs) w'->K t w'):
  ∃ w',∃ t:Int,(Builtin.copy_ #[dT,sT] ty #[.slice (some ⟨b,o,none⟩) dLen dCap,.slice (some a) sLen sCap]).run P w=.ok (.int .i64 t) w'/\K t w':=by
 have hat:=hw.at;have hr:=run_copy_cells (P:=P) w dT sT ty elem b o dLen dCap a sLen sCap cs hu hs hn hsrc (λ j hj=>by rw [Zas hat];simp;omega) (λ j hj=>Zcz hat hfr (by omega)) (λ v hv=>List.all_eq_true.1 h1 v hv);exact ⟨_,_,hr,k _ _ (ZaQ cs l o w hw)⟩
theorem ZhL {t1 t2 ty:TypeId} {bytes k n:Nat} {kd kn:IntKind} {z:Value} {xs:List Value} {K:Sl->World->Prop} (ht:P.underlying t1=some (.slice T)) (htn:P.underlying t2=some (.int kn)) (hi:elB P T bytes=true)
  (h0:0<n) (hk:k<xs.length) (hc:s.cap<k + n) (hb:2 * (k + n) * bytes<=281474976710656) (hb':k + n<=9223372036854775807) (hw:Sat R (Own s T xs::Hs) w)
  (h:∀ t w' ys,ys.length=n->Sat R (Own t T (xs.take k++ys)::Own s T xs::Hs) w'->K t w'):
  ∃ w',∃ t:Sl,(Builtin.append_ #[t1,t2] ty #[.slice s.a k s.cap,.int kd n]).run P w=.ok (.slice t.a t.len t.cap) w'/\K t w':=by
 obtain ⟨i,z,hi,hz,hsize,hbytes,hzc⟩:=Zmr hi;rcases Own.cases hw with ⟨_,rfl,_⟩|⟨b,rest,fr,rfl,hfr,hp⟩
 ·simp at hk
 have hat:=hp.at;dsimp only at hc ⊢;have hcap:Builtin.nextslicecap (k + n) (xs++rest).length * i.bytes<=281474976710656:=by
  have h2:Builtin.nextslicecap (k + n) (xs++rest).length<=2 * (k + n):=by
   unfold Builtin.nextslicecap;split
   ·omega
   ·split
    ·omega
    ·have:=nextslicecap_le_wide hc
     unfold Builtin.nextslicecap at this;rw [if_neg (by assumption),if_neg (by assumption)] at this;omega
  rw [hbytes];exact Nat.le_trans (Nat.mul_le_mul_right _ h2) hb
 have hold:(Builtin.firstCells i.size k (.slice (some ⟨b,0,none⟩) k (xs++rest).length)).run P w.drew=.ok (xs.take k).toArray w.drew:=by
  refine run_firstCells_some w.drew i.size k ⟨b,0,none⟩ k _ (xs.take k) (by rw [hsize,List.length_take];omega) ?_;intro j u hj;rw [World.cell?_drew,Zs,Zas hat,Nat.zero_add];obtain ⟨hlt,rfl⟩:=List.getElem?_eq_some_iff.1 hj;rw [List.length_take] at hlt;rw [List.getElem?_append_left (by omega),List.getElem?_eq_getElem (by omega),List.getElem_take]
 have hwr:IntKind.i64.wrap (n:Int)=n:=by rw [IntKind.wrap_i64];omega
 have hn:¬ (k + n<=(xs++rest).length):=by omega
 have h63':¬ (9223372036854775807<((k:Int) + (n:Int))):=by omega
 have h48':¬ (281474976710656<Builtin.nextslicecap (k + n) (xs++rest).length * i.bytes):=by omega
 have h48i:¬ (281474976710656<(n:Int) * (i.bytes:Int)):=by
  rw [<-Int.natCast_mul,hbytes];have:n * bytes<=2 * (k + n) * bytes:=Nat.mul_le_mul_right _ (by omega);omega
 have hneg:¬ ((n:Int)<0):=by omega
 have hn0:n≠0:=by omega
 have hns:¬ (n * i.size=0):=by rw [hsize];omega
 have hg:=grownCap_ge w (k + n) (xs++rest).length T;have hr:(Builtin.append_ #[t1,t2] ty #[.slice (some ⟨b,0,none⟩) k (xs++rest).length,.int kd n]).run P w=
   .ok (.slice (some ⟨w.heap.size,0,none⟩) (k + n) (grownCap w (k + n) (xs++rest).length T)) (w.drew.alloc (.cells ((xs.take k).toArray++Builtin.zeroCells z.cells n++Builtin.zeroCells z.cells (grownCap w (k + n) (xs++rest).length T - (k + n))) T)):=by
  simp only [List.length_append] at hn h48' hold ⊢;simp [Builtin.append_,run_underlying ht,run_underlying htn,sizeOf,typeInfo,zeroValue,hi,hz,asInt,asIntOf,hwr,hn,hneg,hns,h63',h48',h48i,Question.forced,hold,newRow,grownCap]
 have hzs:∀ m,(Builtin.zeroCells z.cells m).size=m:=λ m=>by simp [Builtin.zeroCells,hzc]
 refine ⟨_,⟨some ⟨w.heap.size,0,none⟩,k + n,grownCap w (k + n) (xs++rest).length T⟩,hr,h _ _ (Builtin.zeroCells z.cells n).toList (by rw [Array.length_toList,hzs]) ?_⟩;have h3:=Sat.alloc (Obj.cells ((xs.take k).toArray++Builtin.zeroCells z.cells n++Builtin.zeroCells z.cells (grownCap w (k + n) (xs++rest).length T - (k + n))) T) (Sat.drew hp);have e:Obj.cells ((xs.take k).toArray++Builtin.zeroCells z.cells n++Builtin.zeroCells z.cells (grownCap w (k + n) (xs++rest).length T - (k + n))) T=.cells ((xs.take k++(Builtin.zeroCells z.cells n).toList)++(Builtin.zeroCells z.cells (grownCap w (k + n) (xs++rest).length T - (k + n))).toList).toArray T (0,0):=by
  congr 1
  apply Array.ext';simp
 rw [e] at h3 ⊢;have h4:=Own.of_pts (Sat.swap h3) hfr;have h5:=Own.of_pts (Sat.swap h4);have e2:(⟨some ⟨w.drew.heap.size,0,none⟩,(xs.take k++(Builtin.zeroCells z.cells n).toList).length,((xs.take k++(Builtin.zeroCells z.cells n).toList)++(Builtin.zeroCells z.cells (grownCap w (k + n) (xs++rest).length T - (k + n))).toList).length⟩:Sl)=⟨some ⟨w.heap.size,0,none⟩,k + n,grownCap w (k + n) (xs++rest).length T⟩:=by
  have:(xs.take k).length=k:=by rw [List.length_take];omega
  simp only [List.length_append,Array.length_toList,hzs,World.size_drew,this] at hg ⊢
  congr 1
  omega
 rw [e2] at h5;exact h5
end
end Go.VC
namespace Go.Proofs.YtlplemdmegpoeaaGreatDoor
section
open Go Go.VC Tryz
variable {R:Cx} {Hs Rest:List HP} {w:World}
theorem Zui : (f282.name == "runtime.NumGoroutine") = false := by kernel_rfl
theorem Zuk:f282.body.isNone=true:=by kernel_rfl
theorem Zuh:Extern.findNext f282=none:=by kernel_rfl
theorem Zuj:∃ tR,Extern.find f282=some (Extern.SlicesOverlaps.overlaps #[ 30,30 ] #[tR]):=⟨4,by kernel_rfl⟩
theorem szI1:ZgK prog 3=1:=by kernel_rfl
theorem szI (w : nW):(sizeOf 3).run prog w=.ok 1 w:=by
 obtain ⟨i,hi⟩:=ZmP (P:=prog) (t:=3) (by rw [szI1];decide);have:=Za9 hi w;rw [szI1] at this;exact this
abbrev Zw7 (n:Int) (T:TypeId):Obj:=.cells [nI n].toArray T (0,0)
theorem Zfl {b k m:Nat} (h:m≠k):ZbI (some ⟨b,0,none⟩) k m 1=some ⟨b,k,none⟩:=by
 simp only [ZbI,if_neg h,Option.map_some,Zs];simp
theorem Zi7 {b1 b2 o:Nat} {n:Int} {T1 T2:TypeId} {l:List Value} {fr:Nat × Nat} {la lc:Nat} {Q:Ending->World->Prop} (hl:l≠[])
  (hw:Sat R (pts b2 (.cells l.toArray T2 fr)::pts b1 (Zw7 n T1)::Hs) w) (k:Q (.returned (.bool false)) w):
  Ext prog 282 #[.slice (some ⟨b1,0,none⟩) 1 1,.slice (some ⟨b2,o,none⟩) la lc] w Q:=by
 have h2:=hw.at;have h1:=hw.swap.at;have hne:b1≠b2:=by
  rintro rfl;obtain ⟨h,hA,hd,h',hB,hd',_⟩:=hw;rw [show h=_ from hA] at hd hd'
  rw [show h'=_ from hB] at hd'
  have:=hd' b1 (by simp [ZX.one]);simp only [Cx.add,ZX.add,ZX.one] at this;split at this<;>simp_all
 obtain ⟨tR,hf⟩:=Zuj;refine ⟨.bool false,w,?_,k⟩;rw [run_callFunc_extern func282 Zui Zuk Zuh hf];rw [Lib.run_overlaps_apart (P:=prog) w 30 tR 3 underlying30 1 (λ w=>szI w) ⟨b1,0,none⟩ ⟨b2,o,none⟩ 1 1 la lc hne T1 T2 1 l.length ?_ ?_ ?_ ?_ ?_]
 ·rfl
 ·simp only [World.shape?,h1];rfl
 ·simp only [World.shape?,h2];simp
 ·cases l with
  |nil=>exact absurd rfl hl
  |cons a l=>simp
 ·simp [World.frozen?,h1]
 ·simp [World.frozen?,h1]
theorem Zgr {A B C V:List Value} {p:Nat} (hp:A.length=p) (hB:B.length=V.length):ZcK (A++B++C) p V=A++V++C:=by
 rw [ZeB _ _ _ (by simp only [List.length_append];omega)];have e1:(A++B++C).take p=A:=by rw [List.append_assoc,List.take_left' hp]
 have e2:(A++B++C).drop (p + V.length)=C:=by rw [List.drop_left' (by rw [List.length_append];omega)]
 rw [e1,e2]
theorem put2 {A ys D rest:List Value} {x:Value} {p:Nat} (hA:A.length=p) (hy:ys.length=D.length + 1):ZcK (ZcK ((A++ys)++rest) p [x]) (p + 1) D=(A++x::D)++rest:=by
 match ys,hy with
 |y0::ys',hy=>
  have h1:ZcK ((A++y0::ys')++rest) p [x]=A++[x]++(ys'++rest):=by
   have:=Zgr (A:=A) (B:=[y0]) (C:=ys'++rest) (V:=[x]) hA rfl;rw [<-this];simp
  have h2:=Zgr (A:=A++[x]) (B:=ys') (C:=rest) (V:=D) (p:=p + 1) (by simp [hA]) (by simpa using hy);rw [h1,<-List.append_assoc,h2];simp
theorem ZzO {A D rest:List Value} {x:Value} {p:Nat} (hA:A.length=p) (hr:1<=rest.length):ZcK (ZcK ((A++D)++rest) (p + 1) D) p [x]=(A++x::D)++rest.drop 1:=by
 match rest,hr with
 |r0::rest',_=>
  obtain ⟨y0,ys',hy,hl⟩:∃ y0 ys',D++[r0]=y0::ys'/\ys'.length=D.length:=by
   cases D with
   |nil=>exact ⟨r0,[],rfl,rfl⟩
   |cons d D=>exact ⟨d,D++[r0],rfl,by simp⟩
  have e:(A++D)++r0::rest'=(A++[y0])++ys'++rest':=by
   have:(A++D)++r0::rest'=A++(D++[r0])++rest':=by simp
   rw [this,hy];simp
  rw [e,Zgr (p:=p + 1) (by simp [hA]) hl];have:=Zgr (A:=A) (B:=[y0]) (C:=D++rest') (V:=[x]) hA rfl;rw [show (A++[y0])++D++rest'=A++[y0]++(D++rest') by simp,this];simp
theorem ZpH {b:Nat} {n:Int} {T:TypeId} (h:w.heap[b]? =some (Zw7 n T)):∀ j v,[nI n][j]? =some v->w.cell? ((⟨b,0,none⟩:Addr).add j)=some v:=by
 intro j v hj;rw [Zs,Zas h,Nat.zero_add];exact hj
theorem ZmT {b p:Nat} {xs rest:List Value} {T:TypeId} {fr:Nat × Nat} (h:w.heap[b]? =some (.cells (xs++rest).toArray T fr)) (_hp:p<=xs.length):∀ j v,(xs.drop p)[j]? =some v->w.cell? ((⟨b,p,none⟩:Addr).add j)=some v:=by
 intro j v hj;rw [Zs,Zas h];rw [List.getElem?_drop] at hj;have hlt:=(List.getElem?_eq_some_iff.1 hj).1;rw [List.getElem?_append_left (by omega)];exact hj
theorem Zme {s:Sl} {l:List Int} {n:Int} {p b:Nat} {T:TypeId} (hl:l.length<=1000000000) (hp:p<=l.length) (hw:Sat R (Own s 3 (Zc l)::pts b (Zw7 n T)::Hs) w):
  Zk prog 249 #[.slice s.a s.len s.cap,nI p,.slice (some ⟨b,0,none⟩) 1 1] w λ v w'=>∃ t:Sl,v=.slice t.a t.len t.cap/\Sat R (Own t 3 (Zc (l.take p++n::l.drop p))::pts b (Zw7 n T)::Hs) w':=by
 have hlen:=Own.len hw;have hcap:=Own.cap hw;rw [List.length_map] at hlen;refine Zvs s p ⟨some ⟨b,0,none⟩,1,1⟩ _ _ ?_;unfold B249;dsimp only;have w1:wI ((s.len:Int) + ((1:Nat):Int))=((l.length + 1:Nat):Int):=by rw [Zd];omega
 have w2:wI (((l.length + 1:Nat):Int) - p)=((l.length + 1 - p:Nat):Int):=by rw [Zd];omega
 have w3:wI ((p:Int) + ((1:Nat):Int))=((p + 1:Nat):Int):=by rw [Zd];omega
 rw [w1,w2,w3];simp only [Int.toNat_natCast];refine ⟨by omega,by omega,Br.f rfl (Br.e (λ h=>?_) (λ h=>Br.d (λ h2=>?_) (λ h2=>?_)))⟩
 ·-- behind all
  refine ZcD ZiC hw (Zr4 ZiC.hk 1 hw rfl) (Zea _ _) (by rw [List.length_map];omega) (by rw [List.length_map];omega) λ t w hw=>⟨t,rfl,?_⟩;have e:Zc l++[nI n]=Zc (l.take p++n::l.drop p):=by
   rw [List.take_of_length_le (by omega),List.drop_eq_nil_of_le (by omega)];simp
  rw [e] at hw;exact hw
 ·-- no room
  refine ⟨by omega,by omega,?_⟩;refine ZhL (z:=nI 0) underlying30 underlying3 ZiC.hi (by omega) (by rw [List.length_map];omega) (by omega) (by omega) (by omega) hw λ t w ys hys hw=>?_;have htl:=Own.len hw;rw [List.length_append,List.length_take,List.length_map,hys] at htl;refine ⟨by omega,by omega,?_⟩;rcases Own.cases hw with ⟨_,h0,_⟩|⟨b',rest,fr,rfl,hfr,hw⟩
  ·have:=congrArg List.length h0
   rw [List.length_append,hys,List.length_nil] at this;omega
  dsimp only at htl ⊢;have hA:((Zc l).take p).length=p:=by rw [List.length_take,List.length_map];omega
  have hxs:((Zc l).take p++ys).length=l.length + 1:=by rw [List.length_append,hA,hys];omega
  have hb1:=(hw.takeP (b:=b) inferInstance).at;rw [hxs,Zfl (by rw [List.length_append,hxs];omega)];refine Zfp underlying30 (by kernel_rfl) hw hfr (cs:=[nI n]) (by show 1=min _ _;omega) (by rw [List.length_append,hxs];show p + 1<=_;omega) (ZpH hb1) rfl λ _ w hw=>?_;refine Zq hw λ w hw=>⟨by omega,by omega,by omega,by omega,?_⟩;rcases Own.cases hw.swap with ⟨_,h0,_⟩|⟨bs,rest2,fr2,rfl,hfr2,hws⟩
  ·have h3:l.length=0:=by
    have:=congrArg List.length h0;rw [List.length_map] at this;exact this
   omega
  clear w1 w2 w3;dsimp only at hlen hcap h h2 ⊢;rw [List.length_map] at h;have hsat:=hws.at;rw [Zfl (by rw [List.length_append,hxs];omega),Zfl (by rw [List.length_append,List.length_map];omega)];refine Zfp underlying30 (by kernel_rfl) hws.swap (by rw [Zbl];exact hfr) (cs:=(Zc l).drop p) (by rw [List.length_drop,List.length_map];show _=min _ _;omega)
   (by rw [Zbl,List.length_append,hxs,List.length_drop,List.length_map];omega) (ZmT hsat (by rw [List.length_map];omega)) (by rw [<-List.map_drop];exact Zea _ _) λ _ w hw=>?_
  rw [put2 hA (by rw [hys,List.length_drop,List.length_map];omega)] at hw;have e:(Zc l).take p++nI n::(Zc l).drop p=Zc (l.take p++n::l.drop p):=by simp [List.map_take,List.map_drop]
  have hel:(Zc (l.take p++n::l.drop p)).length=l.length + 1:=by simp;omega
  rw [e] at hw;have hfin:=Own.of_pts hw (by have:=hfr;rw [List.length_append,hxs] at this;rw [List.length_append,hel];exact this);rw [hel] at hfin;refine ⟨⟨some ⟨b',0,none⟩,l.length + 1,(Zc (l.take p++n::l.drop p)++rest).length⟩,?_,?_⟩
  ·dsimp only
   have c1:((Zc l).take p++ys++rest).length=l.length + 1 + rest.length:=List.length_append.trans (by rw [hxs]);have c2:(Zc (l.take p++n::l.drop p)++rest).length=l.length + 1 + rest.length:=List.length_append.trans (by rw [hel]);rw [c1,c2]
  ·exact Sat.cons (λ R' h=>h.drop) hfin
 ·-- room
  rcases Own.cases hw with ⟨_,h0,_⟩|⟨bs,rest,fr,rfl,hfr,hws⟩
  ·have h3:l.length=0:=by
    have:=congrArg List.length h0;rw [List.length_map] at this;exact this
   omega
  clear w1 w2 w3;dsimp only at hlen hcap h h2 ⊢;rw [List.length_map] at h;have hA:((Zc l).take p).length=p:=by rw [List.length_take,List.length_map];omega
  have hcl:(Zc l++rest).length=l.length + rest.length:=by rw [List.length_append,List.length_map]
  have hroom:1<=rest.length:=by
   rw [hcl] at h2;omega
  refine ⟨by omega,by omega,by omega,by omega,?_⟩;rw [Zfl (by omega)];refine Zi7 (by intro h0;have h5:=congrArg List.length h0;rw [hcl,List.length_nil] at h5;omega) hws ?_;refine ⟨_,rfl,Br.t rfl ?_⟩;refine Zq hws λ w hws=>⟨by omega,by omega,by omega,by omega,?_⟩;rw [Zfl (by omega)];have hsat:=hws.at;refine Zfp underlying30 (by kernel_rfl) hws hfr (cs:=(Zc l).drop p) (by rw [List.length_drop,List.length_map];show _=min _ _;omega)
   (by rw [hcl,List.length_drop,List.length_map];omega) (ZmT hsat (by rw [List.length_map];omega)) (by rw [<-List.map_drop];exact Zea _ _) λ _ w hw=>?_
  refine ⟨by omega,by omega,?_⟩;have hb1:=hw.swap.at;refine Zfp underlying30 (by kernel_rfl) hw (by rw [Zbl];exact hfr) (cs:=[nI n]) (by show 1=min _ _;omega) (by rw [Zbl,hcl];show p + 1<=_;omega) (ZpH hb1) rfl λ _ w hw=>?_;have e0:Zc l++rest=((Zc l).take p++(Zc l).drop p)++rest:=by rw [List.take_append_drop]
  rw [e0,ZzO hA hroom] at hw;have e:(Zc l).take p++nI n::(Zc l).drop p=Zc (l.take p++n::l.drop p):=by simp [List.map_take,List.map_drop]
  have hel:(Zc (l.take p++n::l.drop p)).length=l.length + 1:=by simp;omega
  rw [e] at hw;have hll:(Zc (l.take p++n::l.drop p)++rest.drop 1).length=(Zc l++rest).length:=by rw [List.length_append,hel,hcl,List.length_drop];omega
  have hfin:=Own.of_pts hw (by rw [hll];exact hfr);rw [hel,hll] at hfin;exact ⟨_,rfl,hfin⟩
end
end Go.Proofs.YtlplemdmegpoeaaGreatDoor
namespace Go.VC
section
variable {P:Program} {R R' R'':Cx} {Hs Rest:List HP} {w:World} {s:Sl} {T:TypeId}
instance:Zbv Int where
 enc:=Value.int .i64
 desc:=.int .i64
 same a b:=by
  show (if IntKind.i64=IntKind.i64 then some (a==b) else none)=some (a==b)
  rw [if_pos rfl]
 bits a:=by
  have:∀ n,Instr.sameBits n (.int .i64 a) (.int .i64 a)=(IntKind.i64==IntKind.i64 && a==a):=λ n=>by cases n<;>rfl
  rw [this];simp
 eq a b h:=beq_iff_eq.1 h
 check P em K a w h:=by
  show (Instr.checkKey em (9999 + 1) K (.int .i64 a)).run P w=_;unfold Instr.checkKey;simp [run_underlying h]
theorem Zt.out {xs:List Value} (h:Sat R (Zt s xs::Hs) w):∃ R',R.Ext R'/\SlR R'.m s xs/\Sat R' Hs w/\∀ Hs' w',Sat R' Hs' w'->Sat R (Zt s xs::Hs') w':=by
 obtain ⟨x,hd,hs,hw,hx⟩:=Zt.lend h;exact ⟨R.add x,Cx.Ext.add,hs,hw,λ Hs' w' h=>Zt.back hd hx h⟩
end
end Go.VC
namespace Go.Proofs.YtlplemdmegpoeaaGreatDoor
section
open Go Go.VC Tryz
variable {R:Cx} {Hs Rest:List HP} {w:World}
structure Zu where
 owner:Int
 cls:Int
 many:Int
 seats:List Int
structure PF where
 num:Int
 rows:Int
 grps:List Int
 lims:List Int
 sold:List Int
 hs:List (Int × Zu)
 own:List (Int × Int)
abbrev Zal (h:Zu) (s:Sl):Obj:=.cells [nI h.owner,nI h.cls,nI h.many,.slice s.a s.len s.cap].toArray 197 (0,0)
def Zfy (b:Nat) (h:Zu):HP:=exs λ s:Sl=>ZhI [pts b (Zal h s),Own s 3 (Zc h.seats)]
abbrev HE:=Int × Nat × Zu
def ZU (E:List HE):HP:=ZhI (E.map λ e=>Zfy e.2.1 e.2.2)
abbrev ZZ (E:List HE):List (Int × Value):=E.map λ e=>(e.1,.pointer (some ⟨e.2.1,0,none⟩))
abbrev hEr (E:List HE):List (Int × Zu):=E.map λ e=>(e.1,e.2.2)
abbrev Zbz (l:List (Int × Int)):List (Int × Value):=l.map λ e=>(e.1,nI e.2)
abbrev Zan (f:PF) (sg sl ss:Sl) (hm om:Nat):Obj:=
 .cells [nI f.num,nI f.rows,.slice sg.a sg.len sg.cap,.slice sl.a sl.len sl.cap,.slice ss.a ss.len ss.cap,.map (some hm),.map (some om)].toArray 186 (0,0)
abbrev FO (p hm om:Nat) (sg sl ss:Sl) (E:List HE) (f:PF) (Hs:List HP):List HP:=
 pts p (Zan f sg sl ss hm om)::MapAt hm (ZZ E)::MapAt om (Zbz f.own)::ZU E::Hs
structure FX where
 hm:Nat
 om:Nat
 sg:Sl
 sl:Sl
 ss:Sl
 E:List HE
def ZD (p:Nat) (f:PF):HP:=exs λ x:FX=>
 ZhI [pur (hEr x.E=f.hs),Zt x.sg (Zc f.grps),Zt x.sl (Zc f.lims),Zt x.ss (Zc f.sold),pts p (Zan f x.sg x.sl x.ss x.hm x.om),MapAt x.hm (ZZ x.E),MapAt x.om (Zbz f.own),ZU x.E]
theorem Sat.flight {p:Nat} {f:PF}:Sat R (ZD p f::Hs) w↔∃ hm om sg sl ss E,hEr E=f.hs/\Sat R (Zt sg (Zc f.grps)::Zt sl (Zc f.lims)::Zt ss (Zc f.sold)::FO p hm om sg sl ss E f Hs) w:=by
 unfold ZD;rw [Sat.exs];constructor
 ·rintro ⟨⟨hm,om,sg,sl,ss,E⟩,h⟩
  obtain ⟨h1,h2⟩:=Sat.pur.1 (Sat.star.1 h);exact ⟨hm,om,sg,sl,ss,E,h1,h2⟩
 ·rintro ⟨hm,om,sg,sl,ss,E,h1,h2⟩
  exact ⟨⟨hm,om,sg,sl,ss,E⟩,Sat.star.2 (Sat.pur.2 ⟨h1,h2⟩)⟩
theorem Sat.flightO {p:Nat} {f:PF} (hw:Sat R (ZD p f::Hs) w):∃ hm om sg sl ss E R',hEr E=f.hs/\R.Ext R'/\SlR R'.m sg (Zc f.grps)/\SlR R'.m sl (Zc f.lims)/\SlR R'.m ss (Zc f.sold)/\Sat R' (FO p hm om sg sl ss E f Hs) w/\
  ∀ Hs' w',Sat R' Hs' w'->Sat R (Zt sg (Zc f.grps)::Zt sl (Zc f.lims)::Zt ss (Zc f.sold)::Hs') w':=by
 obtain ⟨hm,om,sg,sl,ss,E,hE,hw⟩:=Sat.flight.1 hw;obtain ⟨R1,e1,g1,hw,b1⟩:=Zt.out hw;obtain ⟨R2,e2,g2,hw,b2⟩:=Zt.out hw;obtain ⟨R3,e3,g3,hw,b3⟩:=Zt.out hw;exact ⟨hm,om,sg,sl,ss,E,R3,hE,e1.trans (e2.trans e3),e3.slR (e2.slR g1),e3.slR g2,g3,hw,λ Hs' w' h=>b1 _ _ (b2 _ _ (b3 _ _ h))⟩
theorem Sat.flightC {p hm om:Nat} {sg sl ss:Sl} {E:List HE} {f:PF} (hE:hEr E=f.hs) (hw:Sat R (Zt sg (Zc f.grps)::Zt sl (Zc f.lims)::Zt ss (Zc f.sold)::FO p hm om sg sl ss E f Hs) w):Sat R (ZD p f::Hs) w:=
 Sat.flight.2 ⟨hm,om,sg,sl,ss,E,hE,hw⟩
theorem Sat.hold {b:Nat} {h:Zu}:Sat R (Zfy b h::Hs) w↔∃ s:Sl,Sat R (pts b (Zal h s)::Own s 3 (Zc h.seats)::Hs) w:=by
 unfold Zfy;rw [Sat.exs];exact ⟨λ⟨s,h⟩=>⟨s,Sat.star.1 h⟩,λ⟨s,h⟩=>⟨s,Sat.star.2 h⟩⟩
theorem Sat.holds {a b:List HE} {e:HE}:Sat R (ZU (a++e::b)::Hs) w↔Sat R (Zfy e.2.1 e.2.2::ZU (a++b)::Hs) w:=by
 have p:((a++e::b).map λ e:HE=>Zfy e.2.1 e.2.2).Perm (Zfy e.2.1 e.2.2::(a++b).map λ e:HE=>Zfy e.2.1 e.2.2):=by
  rw [List.map_append,List.map_cons,List.map_append];exact List.perm_middle
 unfold ZU;constructor
 ·intro h
  have h1:=(Sat.star.1 h).perm (p.append_right Hs);exact h1.cons λ _ h=>Sat.star.2 h
 ·intro h
  have h1:Sat R ((Zfy e.2.1 e.2.2::(a++b).map λ e:HE=>Zfy e.2.1 e.2.2)++Hs) w:=h.cons λ _ h=>Sat.star.1 h;exact Sat.star.2 (h1.perm (p.symm.append_right Hs))
abbrev ZzT:Zw5 prog 183 Int 3 227 (.pointer none):=⟨underlying183,underlying3,zeroValue227⟩
abbrev ZzR:Zw5 prog 184 Int 3 3 (nI 0):=⟨underlying184,underlying3,zeroValue3⟩
theorem Zhl (k:Int) (E:List HE):ZH k (ZZ E)=(ZH k E).map λ x=>.pointer (some ⟨x.1,0,none⟩):=Zfg (λ x:Nat × Zu=>Value.pointer (some ⟨x.1,0,none⟩)) k E
theorem ZbS (k:Int) (E:List HE):ZH k (hEr E)=(ZH k E).map (·.2):=Zfg (λ x:Nat × Zu=>x.2) k E
theorem Zqy (k:Int) (l:List (Int × Int)):ZH k (Zbz l)=(ZH k l).map (Value.int .i64):=Zfg (Value.int .i64) k l
theorem Zc0 {m:Nat} {E:List HE} (hw:Sat R (MapAt m (ZZ E)::Hs) w) (k:Int) (c:Bool):
  (Instr.lookup 183 (.map (some m)) (nI k) c).run prog w=.ok (if c then .tuple #[.pointer ((ZH k E).map λ x=>⟨x.1,0,none⟩),.bool (ZH k E).isSome] else .pointer ((ZH k E).map λ x=>⟨x.1,0,none⟩)) w:=by
 have h:=MapAt.look ZzT hw k c;rw [Zhl] at h;rw [show nI k=Zbv.enc k from rfl,h]
 cases ZH k E<;>rfl
theorem ZsJ {m:Nat} {l:List (Int × Int)} (hw:Sat R (MapAt m (Zbz l)::Hs) w) (k:Int) (c:Bool):
  (Instr.lookup 184 (.map (some m)) (nI k) c).run prog w=.ok (if c then .tuple #[nI ((ZH k l).getD 0),.bool (ZH k l).isSome] else nI ((ZH k l).getD 0)) w:=by
 have h:=MapAt.look ZzR hw k c;rw [Zqy] at h;rw [show nI k=Zbv.enc k from rfl,h]
 cases ZH k l<;>rfl
theorem ZmW {α β γ:Type} [BEq α] (f:β->γ) (k:α) (v:β):∀ l:List (α × β),Zf4 k (f v) (l.map λ e=>(e.1,f e.2))=(Zf4 k v l).map λ e=>(e.1,f e.2)
 |[]=>rfl
 |e::l=>by
  simp only [List.map_cons,Zf4];split
  ·rfl
  ·rw [ZmW f k v l];rfl
theorem Znw {α β γ:Type} [BEq α] (f:β->γ) (k:α):∀ l:List (α × β),Zfk k (l.map λ e=>(e.1,f e.2))=(Zfk k l).map λ e=>(e.1,f e.2)
 |[]=>rfl
 |e::l=>by
  simp only [List.map_cons,Zfk];split
  ·rfl
  ·rw [Znw f k l];rfl
theorem ZsC {α β γ:Type} [BEq α] (f:β->γ) (k:α) (v:β) (l:List (α × β)):ZeN k (f v) (l.map λ e=>(e.1,f e.2))=(ZeN k v l).map λ e=>(e.1,f e.2):=by
 unfold ZeN;rw [Zfg,Option.isSome_map];split
 ·exact ZmW f k v l
 ·simp
def Zu.put (h:Zu) (n:Int):Zu:={ h with seats:=Zdt n h.seats }
theorem Zkb {p hm om b:Nat} {sg sl ss:Sl} {a c:List HE} {k n:Int} {h:Zu} {f:PF} (hr:Zpc h.seats) (hl:h.seats.length<=1000000000) (hw:Sat R (FO p hm om sg sl ss (a++(k,b,h)::c) f Hs) w):
  Zk prog 178 #[nP p,nP b,nI n] w λ v w'=>v=.tuple #[]/\Sat R (FO p hm om sg sl ss (a++(k,b,h.put n)::c) { f with own:=ZeN n h.owner f.own } Hs) w':=by
 have hw:=hw.take (ZU (a++(k,b,h)::c));obtain ⟨s,hw⟩:=Sat.hold.1 (Sat.holds.1 hw);apply Zv6;refine Zb.mk rfl ⟨s,oA hw,?_⟩;obtain ⟨R',hro,_,hw',back⟩:=Own.lend (hw.take (Own s 3 (Zc h.seats))) (by rw [List.length_map];omega);refine (Zln (l:=h.seats) hro hr hl hw').use ?_;clear hw hw';rintro _ w ⟨q,bb,rfl,hq,h1,h2,hw⟩;have hw:=(back hw).swap;refine ⟨_,_,rfl,Zb.mk rfl ⟨s,oA hw,?_⟩⟩;refine Za hw λ bn w hw=>?_;refine (Zme (T:=3) hl hq (hw.take (Own s 3 (Zc h.seats)))).u1 λ t w hw=>?_;rw [<-Zq7 hq h1 h2] at hw;refine ⟨_,rfl,Zb.mk rfl ?_⟩;refine sRu hw λ w hw=>?_;have hw:Sat R (pts b (Zal (h.put n) t)::Own t 3 (Zc (Zdt n h.seats))::pts bn (Zw7 n 3)::ZU (a++c)::pts p (Zan f sg sl ss hm om)::MapAt hm (ZZ (a++(k,b,h)::c))::MapAt om (Zbz f.own)::Hs) w:=hw;refine Zq hw λ w hw=>?_;refine Zb.mk rfl ⟨some om,oS,Zb.mk rfl ⟨h.owner,by rw [Zs];exact oS,?_⟩⟩;refine MapAt.put ZzR (hw.take (MapAt om (Zbz f.own))) n (nI h.owner) λ w hw=>⟨rfl,?_⟩;rw [ZsC (Value.int .i64) n h.owner f.own] at hw;have hw:=(hw.take (pts bn (Zw7 n 3))).drop;have hw:Sat R (pts b (Zal (h.put n) t)::Own t 3 (Zc (h.put n).seats)::MapAt om (Zbz (ZeN n h.owner f.own))::ZU (a++c)::pts p (Zan f sg sl ss hm om)::MapAt hm (ZZ (a++(k,b,h)::c))::Hs) w:=
  (hw.take (Own t 3 (Zc (Zdt n h.seats)))).take (pts b (Zal (h.put n) t))
 have hw:=Sat.hold.2 ⟨t,hw⟩;have hw:=(Sat.holds (e:=((k,b,h.put n):HE)) (a:=a) (b:=c)).2 (hw.cons λ _ h=>h.take (ZU (a++c)));have e:ZZ (a++(k,b,h.put n)::c)=ZZ (a++(k,b,h)::c):=by simp [ZZ]
 show Sat R (pts p (Zan f sg sl ss hm om)::MapAt hm (ZZ (a++(k,b,h.put n)::c))::MapAt om (Zbz (ZeN n h.owner f.own))::ZU (a++(k,b,h.put n)::c)::Hs) w;rw [e];exact ((hw.take (MapAt om (Zbz (ZeN n h.owner f.own)))).take (MapAt hm (ZZ (a++(k,b,h)::c)))).take (pts p (Zan f sg sl ss hm om))
def Za3 (n:Int) (g:List Int) (l:List Int):List ByteArray:=l.map λ k=>(Zjl n g k).1
theorem ZuW:El prog 31 31 9 16:=⟨underlying31,⟨_,underlying31⟩,by kernel_rfl⟩
theorem ZfM (l:List ByteArray):ZR (l.map Value.string)=true:=by unfold ZR;simp [Value.oneCell']
theorem Zhh {p hm om:Nat} {sg sl ss sq:Sl} {f:PF} {l:List Int} [tk:ZcT p Hs (Zan f sg sl ss hm om) Rest] (hg:RoI R sg f.grps) (hl:RoI R sq l) (hlen:l.length<=1000000) (hw:Sat R Hs w):
  Zk prog 181 #[nP p,.slice sq.a sq.len sq.cap] w λ v w'=>∃ t:Sl,v=.slice t.a t.len t.cap/\Sat R (Own t 9 ((Za3 f.rows f.grps l).map Value.string)::Hs) w':=by
 have hll:=hl.len;apply Zv4;refine ⟨λ so i w=>∃ j:Nat,i=j/\j<=l.length/\Sat R (Own so 9 ((Za3 f.rows f.grps (l.take j)).map Value.string)::Hs) w,λ _ i _=>l.length - i.toNat,⟨0,rfl,by omega,Own.nil hw⟩,?_⟩;clear hw;rintro _ so _ w ⟨j,rfl,hj,hw⟩;refine Br.d (λ h=>?_) (λ h=>?_)
 ·have hj2:j<l.length:=by omega
  refine Ro.ix hl (eqS hw) j rfl hj2 ?_;refine Zb.mk rfl ⟨f.rows,sg,At.own (l:=[nI f.num,nI f.rows,.slice sg.a sg.len sg.cap,.slice sl.a sl.len sl.cap,.slice ss.a ss.len ss.cap,.map (some hm),.map (some om)]) (t:=ZcT.tail (t:=tk)) (eqS hw) (by exact ⟨rfl,rfl,trivial⟩),?_⟩;refine (ZoJ hg hw).u λ w hw=>?_;have hlab:(Za3 f.rows f.grps (l.take j)).length=j:=by unfold Za3;rw [List.length_map,List.length_take];omega
  refine ⟨_,_,rfl,?_⟩;refine Zcp ZuW hw (ZfM _) rfl (by rw [List.length_map,hlab];omega) (by rw [List.length_map,hlab];omega) λ t w hw=>?_;rw [Zd];refine ⟨⟨j + 1,by omega,by omega,?_⟩,by dsimp only;omega⟩;have e:(Za3 f.rows f.grps (l.take (j + 1))).map Value.string=(Za3 f.rows f.grps (l.take j)).map Value.string++[.string (Zjl f.rows f.grps l[j]).1]:=by
   unfold Za3;rw [List.take_add_one,List.getElem?_eq_getElem hj2,Option.toList_some,List.map_append,List.map_append];rfl
  rw [e];exact hw
 ·rw [List.take_of_length_le (by omega)] at hw
  exact ⟨so,rfl,hw⟩
theorem ZbV {K:Nat->World->Prop} (hw:Sat R Hs w) (k:∀ m w',Sat R (MapAt (α:=Int) m []::Hs) w'->K m w'):New (.map #[] 0) K w:=
 Za hw λ m w hw=>k m w (MapAt.new rfl hw)
theorem ZdW {n:Nat} {K:Sl->World->Prop} (hn:n<=1000) (hw:Sat R Hs w) (k:∀ s w',Sat R (Own s 3 (Zc (List.replicate n 0))::Hs) w'->K s w'):
  ∃ w',∃ t:Sl,(Instr.makeSlice 30 (nI (n:Int)) (nI (n:Int))).run prog w=.ok (.slice t.a t.len t.cap) w'/\K t w':=
 Zha (bytes:=8) (z:=nI 0) underlying30 (by kernel_rfl) zeroValue3 rfl (by omega) (by omega) hw λ s w hw=>k s w (by
  rw [show Zc (List.replicate n 0)=List.replicate n (nI 0) by simp [Zc]];exact hw)
def ZdQ (num rows:Int) (grps lims:List Int):PF:=⟨num,rows,grps,lims,List.replicate lims.length 0,[],[]⟩
theorem ZoU {num rows:Int} {sg sl:Sl} {grps lims:List Int} (hl:lims.length<=1000) (hw:Sat R (Zt sg (Zc grps)::Zt sl (Zc lims)::Hs) w):
  Zk prog 167 #[nI num,.agg #[nI rows,.slice sg.a sg.len sg.cap],.slice sl.a sl.len sl.cap] w λ v w'=>∃ p,v=nP p/\Sat R (ZD p (ZdQ num rows grps lims)::Hs) w':=by
 have hlen:sl.len=lims.length:=by
  obtain ⟨_,_,h,_⟩:=Zt.out hw.swap;have:=h.len;rw [List.length_map] at this;exact this
 apply Zwh;refine Za hw λ b4 w hw=>?_;have hw:Sat R (pts b4 (Zb5 rows sg)::Zt sg (Zc grps)::Zt sl (Zc lims)::Hs) w:=hw;refine Zq hw λ w hw=>?_;rw [hlen];have fin:∀ {hm om:Nat} {ss:Sl} {w:World} (_:Sat R (MapAt (α:=Int) om []::MapAt (α:=Int) hm []::Own ss 3 (Zc (List.replicate lims.length 0))::pts b4 (Zb5 rows sg)::Zt sg (Zc grps)::Zt sl (Zc lims)::Hs) w),
   New (.cells #[nI num,nI rows,.slice sg.a sg.len sg.cap,.slice sl.a lims.length sl.cap,.slice ss.a ss.len ss.cap,.map (some hm),.map (some om)] 186 (0,0))
    (λ p w=>Sat R (pts b4 (Zb5 rows sg)::Zt sg (Zc grps)::Zt sl (Zc lims)::Hs) w/\∃ p',Value.pointer (some ⟨p,0,none⟩)=.pointer (some ⟨p',0,none⟩)/\Sat R (ZD p' (ZdQ num rows grps lims)::Hs) w) w:=λ {hm om ss w} hw=>by
  refine Za hw λ p w hw=>⟨hw.drop.drop.drop.drop,p,rfl,?_⟩;refine Sat.flight.2 ⟨hm,om,sg,sl,ss,[],rfl,?_⟩;have ec:(Obj.cells #[nI num,nI rows,.slice sg.a sg.len sg.cap,.slice sl.a lims.length sl.cap,.slice ss.a ss.len ss.cap,.map (some hm),.map (some om)] 186 (0,0))=Zan (ZdQ num rows grps lims) sg sl ss hm om:=by rw [<-hlen];rfl
  rw [ec] at hw;have hw:=(hw.take (pts b4 (Zb5 rows sg))).drop;have hw:=hw.take (Own ss 3 (Zc (List.replicate lims.length 0)));have hw:Sat R (Zt ss (Zc (List.replicate lims.length 0))::pts p (Zan (ZdQ num rows grps lims) sg sl ss hm om)::MapAt (α:=Int) om []::MapAt (α:=Int) hm []::Zt sg (Zc grps)::Zt sl (Zc lims)::Hs) w:=Own.reads hw;have h2:Sat R (ZU []::Zt ss (Zc (List.replicate lims.length 0))::pts p (Zan (ZdQ num rows grps lims) sg sl ss hm om)::MapAt (α:=Int) om []::MapAt (α:=Int) hm []::Zt sg (Zc grps)::Zt sl (Zc lims)::Hs) w:=Sat.star.2 hw;have h3:=(((((((h2.take (ZU [])).take (MapAt (α:=Int) om [])).take (MapAt (α:=Int) hm [])).take (pts p (Zan (ZdQ num rows grps lims) sg sl ss hm om))).take (Zt ss (Zc (List.replicate lims.length 0)))).take (Zt sl (Zc lims))).take (Zt sg (Zc grps)));exact h3
 refine ⟨rows,sg,oS,?_,?_,?_⟩
 ·refine ZdW hl hw λ ss w hw=>⟨hw.drop,?_,?_⟩
  ·refine ZbV hw λ hm w hw=>⟨hw.drop.drop,ZbV hw λ om w hw=>⟨hw.drop.drop.drop,fin hw⟩⟩
  ·refine ZbV hw λ om w hw=>⟨hw.drop.drop,ZbV hw λ hm w hw=>⟨hw.drop.drop.drop,fin hw.swap⟩⟩
 ·refine ZbV hw λ hm w hw=>⟨hw.drop,?_,?_⟩
  ·refine ZdW hl hw λ ss w hw=>⟨hw.drop.drop,ZbV hw λ om w hw=>⟨hw.drop.drop.drop,fin ((hw.take (MapAt (α:=Int) hm [])).take (MapAt (α:=Int) om []))⟩⟩
  ·refine ZbV hw λ om w hw=>⟨hw.drop.drop,ZdW hl hw λ ss w hw=>⟨hw.drop.drop.drop,fin ((hw.take (MapAt (α:=Int) hm [])).take (MapAt (α:=Int) om []))⟩⟩
 ·refine ZbV hw λ om w hw=>⟨hw.drop,?_,?_⟩
  ·refine ZdW hl hw λ ss w hw=>⟨hw.drop.drop,ZbV hw λ hm w hw=>⟨hw.drop.drop.drop,fin ((hw.take (MapAt (α:=Int) hm [])).take (MapAt (α:=Int) om []))⟩⟩
  ·refine ZbV hw λ hm w hw=>⟨hw.drop.drop,ZdW hl hw λ ss w hw=>⟨hw.drop.drop.drop,fin ((hw.take (MapAt (α:=Int) hm [])).take (MapAt (α:=Int) om []))⟩⟩
def ZeE (num rows:Int) (grps:List Int) (parts:List Nat):Prop:=1<=num/\num<=9999/\ZcR rows grps=true/\(ZB (Zaw rows grps) parts).2=0
theorem ZoB {s:Int} {parts:List Nat}:(ZB s parts).1.length<=8:=by
 unfold ZB;split
 ·simp
 ·simp only [List.length_cons,ZdI,List.length_tail];omega
theorem ZoQ {num rows:Int} {sg sp:Sl} {grps:List Int} {parts:List Nat} (hg:RoI R sg grps) (hp:SlR R.m sp (Zj2 parts)) (hw:Sat R Hs w):
  Zk prog 98 #[nI num,.agg #[nI rows,.slice sg.a sg.len sg.cap],.slice sp.a sp.len sp.cap] w λ v w'=>
   (¬ ZeE num rows grps parts/\v=.tuple #[.pointer none,nI 1]/\Sat R Hs w')\/
   (ZeE num rows grps parts/\∃ p,v=.tuple #[nP p,nI 0]/\Sat R (ZD p (ZdQ num rows grps (ZB (Zaw rows grps) parts).1)::Hs) w'):=by
 apply ZxJ;refine Za hw λ b4 w hw=>?_;have hw:Sat R (pts b4 (Zb5 rows sg)::Hs) w:=hw;refine ⟨rows,sg,oA hw,?_⟩;refine (Zc4 hg hw).u λ w hw=>?_;refine ⟨_,rfl,?_⟩;refine (Zl7 hp hw).u1 λ t w hw=>?_;have bad:¬ ZeE num rows grps parts->∀ {w},Sat R (Own t 3 (Zc (ZB (Zaw rows grps) parts).1)::pts b4 (Zb5 rows sg)::Hs) w->(¬ ZeE num rows grps parts/\Value.tuple #[.pointer none,nI 1]=.tuple #[.pointer none,nI 1]/\Sat R Hs w)\/
   (ZeE num rows grps parts/\∃ p,Value.tuple #[.pointer none,nI 1]=.tuple #[nP p,nI 0]/\Sat R (ZD p (ZdQ num rows grps (ZB (Zaw rows grps) parts).1)::Hs) w):=λ h w hw=>.inl ⟨h,rfl,hw.drop.drop⟩
 refine ⟨_,_,rfl,Br.d (λ h=>bad (λ h2=>by have:=h2.1;omega) hw) (λ h1=>Br.d (λ h=>bad (λ h2=>by have:=h2.2.1;omega) hw) (λ h2=>?_))⟩;refine ⟨rows,sg,oA hw,?_⟩;refine (ZfE hg hw).u λ w hw=>?_;refine ⟨_,rfl,Br.nb (λ h=>bad (λ h2=>by have h5:=h2.2.2.1;rw [h] at h5;cases h5) hw) (λ h3=>Br.ne (λ h=>bad (λ h2=>h h2.2.2.2) hw) (λ h4=>?_))⟩;refine ⟨sg,oA hw,?_⟩;obtain ⟨l1,_,_⟩:=ZW.1 h3;refine (ZeK hg (by omega) hw).u1 λ tg w hw=>?_;refine ⟨tg,rfl,?_⟩;refine sRu hw λ w hw=>?_;have hw:Sat R (pts b4 (Zb5 rows tg)::Own tg 3 (Zc grps)::Own t 3 (Zc (ZB (Zaw rows grps) parts).1)::Hs) w:=hw;refine ⟨rows,tg,oA hw,?_⟩;have hw:Sat R (Zt tg (Zc grps)::Zt t (Zc (ZB (Zaw rows grps) parts).1)::Hs) w:=Sat.cons (λ _ h=>Own.reads h) (Own.reads hw.drop);refine (ZoU (by have:=ZoB (s:=Zaw rows grps) (parts:=parts);omega) hw).u1 λ p w hw=>?_;exact ⟨_,rfl,.inr ⟨⟨by omega,by omega,h3,h4⟩,p,rfl,hw⟩⟩
def Zdw (f:PF) (owner cls many:Int):PF × Int:=
 if owner<1\/owner>28629151 then (f,1) else if (ZH owner f.hs).isSome then (f,7)
 else if (ZaE f.lims f.sold cls many).2=0 then ({ f with sold:=(ZaE f.lims f.sold cls many).1,hs:=f.hs++[(owner,⟨owner,cls,many,[]⟩)] },0) else (f,(ZaE f.lims f.sold cls many).2)
theorem ZnS {p:Nat} {f:PF} {owner cls many:Int} (hl:f.lims.length<=1000) (hs:f.sold.length<=1000) (hw:Sat R (ZD p f::Hs) w):
  Zk prog 101 #[nP p,nI owner,nI cls,nI many] w λ v w'=>v=nI (Zdw f owner cls many).2/\Sat R (ZD p (Zdw f owner cls many).1::Hs) w':=by
 obtain ⟨hm,om,sg,sl,ss,E,R',hE,_,_,rl,rs,hw,back⟩:=Sat.flightO hw;have same:∀ {w},Sat R' (FO p hm om sg sl ss E f Hs) w->Sat R (ZD p f::Hs) w:=λ hw=>Sat.flightC hE (back _ _ hw);have eget:(ZH owner f.hs).isSome=(ZH owner E).isSome:=by rw [<-hE,ZbS,Option.isSome_map]
 apply ZwU;refine Zb.mk rfl ⟨some hm,oA hw,(ZH owner E).map (λ x=>⟨x.1,0,none⟩),(ZH owner E).isSome,λ w' e=>by rw [show w'=w from e];exact Zc0 (hw.take (MapAt hm (ZZ E))) owner true,?_⟩
 refine ⟨λ w=>(1<=owner/\owner<=28629151/\(ZH owner E).isSome=false)/\Sat R' (FO p hm om sg sl ss E f Hs) w,?_,?_⟩
 ·refine Br.d (λ h=>?_) (λ h1=>Br.d (λ h=>?_) (λ h2=>Br.mk (λ h=>?_) (λ h=>⟨⟨by omega,by omega,h⟩,hw⟩)))
  ·rw [show Zdw f owner cls many=(f,1) by unfold Zdw;rw [if_pos (.inl h)]];exact ⟨rfl,same hw⟩
  ·rw [show Zdw f owner cls many=(f,1) by unfold Zdw;rw [if_pos (.inr h)]];exact ⟨rfl,same hw⟩
  ·rw [show Zdw f owner cls many=(f,7) by unfold Zdw;rw [if_neg (by omega),if_pos (by rw [eget];exact h)]];exact ⟨rfl,same hw⟩
 clear hw;rintro _ w ⟨⟨h1,h2,h3⟩,hw⟩;have e:Zdw f owner cls many=if (ZaE f.lims f.sold cls many).2=0 then ({ f with sold:=(ZaE f.lims f.sold cls many).1,hs:=f.hs++[(owner,⟨owner,cls,many,[]⟩)] },0) else (f,(ZaE f.lims f.sold cls many).2):=by
  unfold Zdw;rw [if_neg (by omega),if_neg (by rw [eget,h3];simp)]
 rw [e];refine Zq hw λ w hw=>?_;refine Zb.mk rfl ⟨sl,oS,Zb.mk rfl ⟨ss,oS,?_⟩⟩;refine (ZpL (rl.ro) (rs.ro) hw).u1 λ t w hw=>?_;refine ⟨_,_,rfl,Br.e (λ h4=>?_) (λ h4=>?_)⟩
 ·rw [if_pos h4,h4]
  refine Zb.mk rfl ?_;refine sRu hw λ w hw=>?_;have hw:Sat R' (pts p (Zan f sg sl t hm om)::Own t 3 (Zc (ZaE f.lims f.sold cls many).1)::MapAt hm (ZZ E)::MapAt om (Zbz f.own)::ZU E::Hs) w:=hw;refine Zb.mk rfl ⟨some hm,oA hw,?_⟩;refine Za hw λ b w hw=>?_;have hw:Sat R' (pts b (Zal ⟨owner,cls,many,[]⟩ ⟨none,0,0⟩)::pts p (Zan f sg sl t hm om)::Own t 3 (Zc (ZaE f.lims f.sold cls many).1)::MapAt hm (ZZ E)::MapAt om (Zbz f.own)::ZU E::Hs) w:=hw;refine MapAt.put ZzT (hw.take (MapAt hm (ZZ E))) owner (nP b) λ w hw=>⟨rfl,?_⟩;have ep:ZeN owner (Value.pointer (some ⟨b,0,none⟩)) (ZZ E)=ZZ (E++[(owner,b,⟨owner,cls,many,[]⟩)]):=by
   unfold ZeN;rw [Zhl,Option.isSome_map,h3];simp [ZZ]
  rw [ep] at hw;have hw:=hw.take (ZU E);have hw:=hw.take (pts b (Zal ⟨owner,cls,many,[]⟩ ⟨none,0,0⟩));have hw:=(Sat.hold (b:=b) (h:=⟨owner,cls,many,[]⟩)).2 ⟨⟨none,0,0⟩,hw.cons λ _ h=>Own.nil (T:=3) h⟩;rw [<-List.append_nil E] at hw;have hw:=(Sat.holds (e:=((owner,b,⟨owner,cls,many,[]⟩):HE)) (a:=E) (b:=[])).2 hw;rw [List.append_nil] at hw;have hw:=hw.take (Own t 3 (Zc (ZaE f.lims f.sold cls many).1));have hw:=back _ _ (Own.reads hw);refine Sat.flight.2 ⟨hm,om,sg,sl,t,E++[(owner,b,⟨owner,cls,many,[]⟩)],by rw [<-hE];simp [hEr],?_⟩;have hw:=(hw.take (Zt ss (Zc f.sold))).drop;exact (((((hw.take (ZU (E++[(owner,b,⟨owner,cls,many,[]⟩)]))).take (MapAt om (Zbz f.own))).take (MapAt hm (ZZ (E++[(owner,b,⟨owner,cls,many,[]⟩)])))).take (pts p (Zan f sg sl t hm om))).take (Zt t (Zc (ZaE f.lims f.sold cls many).1))).take (Zt sl (Zc f.lims))|>.take (Zt sg (Zc f.grps))
 ·rw [if_neg h4];exact ⟨rfl,same hw.drop⟩
abbrev FO1 (p hm om b:Nat) (sg sl ss s:Sl) (E Er:List HE) (f:PF) (h:Zu) (own:List (Int × Int)) (Hs:List HP):List HP:=
 pts b (Zal h s)::Own s 3 (Zc h.seats)::ZU Er::pts p (Zan f sg sl ss hm om)::MapAt hm (ZZ E)::MapAt om (Zbz own)::Hs
theorem FO.open {p hm om b:Nat} {sg sl ss:Sl} {a c:List HE} {k:Int} {h:Zu} {f:PF} (hw:Sat R (FO p hm om sg sl ss (a++(k,b,h)::c) f Hs) w):∃ s,Sat R (FO1 p hm om b sg sl ss s (a++(k,b,h)::c) (a++c) f h f.own Hs) w:=
 Sat.hold.1 (Sat.holds.1 (hw.take (ZU (a++(k,b,h)::c))))
theorem FO.close {p hm om b:Nat} {sg sl ss s:Sl} {a c:List HE} {k:Int} {h h':Zu} {f:PF} {own:List (Int × Int)} (hw:Sat R (FO1 p hm om b sg sl ss s (a++(k,b,h)::c) (a++c) f h' own Hs) w):
  Sat R (FO p hm om sg sl ss (a++(k,b,h')::c) { f with own:=own } Hs) w:=by
 have hw:=(Sat.hold (b:=b) (h:=h')).2 ⟨s,hw⟩;have hw:=(Sat.holds (e:=((k,b,h'):HE)) (a:=a) (b:=c)).2 hw;have e:ZZ (a++(k,b,h')::c)=ZZ (a++(k,b,h)::c):=by simp [ZZ]
 show Sat R (pts p (Zan f sg sl ss hm om)::MapAt hm (ZZ (a++(k,b,h')::c))::MapAt om (Zbz own)::ZU (a++(k,b,h')::c)::Hs) w;rw [e];exact ((hw.take (MapAt om (Zbz own))).take (MapAt hm (ZZ (a++(k,b,h)::c)))).take (pts p (Zan f sg sl ss hm om))
theorem ZrM {p hm om:Nat} {sg sl ss:Sl} {E:List HE} {f:PF} {owner:Int} {lab:ByteArray} (hg:RoI R sg f.grps) (hsz:lab.size<=9223372036854775807) (hw:Sat R (FO p hm om sg sl ss E f Hs) w):
  Zk prog 177 #[nP p,nI owner,.string lab] w λ v w'=>
   v=.tuple #[.pointer ((ZH owner E).map λ x=>⟨x.1,0,none⟩),nI (Zax f.rows f.grps lab).1,.bool ((ZH owner E).isSome && (Zax f.rows f.grps lab).2==0)]/\Sat R (FO p hm om sg sl ss E f Hs) w':=by
 apply Zv7;refine Zb.mk rfl ⟨some hm,oA hw,(ZH owner E).map (λ x=>⟨x.1,0,none⟩),(ZH owner E).isSome,λ w' e=>by rw [show w'=w from e];exact Zc0 (hw.take (MapAt hm (ZZ E))) owner true,?_⟩
 refine Zb.mk rfl ⟨f.rows,sg,oA hw,?_⟩;refine (Zrl hg hsz hw).u λ w hw=>?_;refine ⟨_,_,rfl,Br.mk (λ h=>⟨?_,hw⟩) (λ h=>⟨?_,hw⟩)⟩
 ·rw [h];rfl
 ·rw [h];rfl
def Zev (f:PF) (owner:Int) (lab:ByteArray):PF × Int:=
 match ZH owner f.hs with
 |none=>(f,2)
 |some h=>if (Zax f.rows f.grps lab).2≠0 then (f,2) else if (h.seats.length:Int) >= h.many then (f,7)
  else if (ZH (Zax f.rows f.grps lab).1 f.own).isSome then (f,3)
  else ({ f with hs:=Zf4 owner (h.put (Zax f.rows f.grps lab).1) f.hs,own:=ZeN (Zax f.rows f.grps lab).1 h.owner f.own },0)
theorem Zdk (a:List HE) (k:Int) (b:Nat) (h:Zu) (c:List HE):hEr (a++(k,b,h)::c)=hEr a++(k,h)::hEr c:=by simp [hEr]
theorem ZfQ (k:Int):(k==k)=true:=beq_self_eq_true k
theorem Zn0 {p:Nat} {f:PF} {owner:Int} {lab:ByteArray} (hgl:f.grps.length<=1000) (hsz:lab.size<=9223372036854775807) (hR:∀ e∈f.hs,Zpc e.2.seats/\e.2.seats.length<=1000000) (hw:Sat R (ZD p f::Hs) w):
  Zk prog 106 #[nP p,nI owner,.string lab] w λ v w'=>v=nI (Zev f owner lab).2/\Sat R (ZD p (Zev f owner lab).1::Hs) w':=by
 obtain ⟨hm,om,sg,sl,ss,E,R',hE,_,rg,_,_,hw,back⟩:=Sat.flightO hw;have same:∀ {w},Sat R' (FO p hm om sg sl ss E f Hs) w->Sat R (ZD p f::Hs) w:=λ hw=>Sat.flightC hE (back _ _ hw);apply ZwP;refine (ZrM (rg.ro) hsz hw).u λ w hw=>?_;refine ⟨_,_,_,rfl,Zb.mk rfl ⟨some om,oA hw,(ZH (Zax f.rows f.grps lab).1 f.own).getD 0,(ZH (Zax f.rows f.grps lab).1 f.own).isSome,λ w' e=>by rw [show w'=w from e];exact ZsJ (hw.take (MapAt om (Zbz f.own))) _ true,?_⟩⟩
 cases hget:ZH owner E with
 |none=>
  have e:Zev f owner lab=(f,2):=by unfold Zev;rw [<-hE,ZbS,hget];rfl
  rw [e];exact Br.t rfl ⟨rfl,same hw⟩
 |some x=>
  obtain ⟨b,h⟩:=x;have hgf:ZH owner f.hs=some h:=by rw [<-hE,ZbS,hget];rfl
  obtain ⟨a,c,rfl,hna⟩:=ZaL hget;obtain ⟨hr,hl⟩:=hR (owner,h) (by rw [<-hE,Zdk];simp);by_cases h2:(Zax f.rows f.grps lab).2=0
  ·refine Br.f (by rw [h2];rfl) ?_
   obtain ⟨s,hw⟩:=FO.open hw;have hsl:=Own.len (hw.take (Own s 3 (Zc h.seats)));rw [List.length_map] at hsl;refine Zq hw λ w hw=>?_;refine Zb.mk rfl ⟨s,oS,Zb.mk rfl ⟨h.many,oS,?_⟩⟩;refine Br.d (λ h3=>?_) (λ h3=>?_)
   ·have e:Zev f owner lab=(f,7):=by unfold Zev;rw [hgf];dsimp only;rw [if_neg (by rw [h2];simp),if_pos (by omega)]
    rw [e];exact ⟨rfl,same (FO.close hw)⟩
   ·refine Br.mk (λ h4=>?_) (λ h4=>?_)
    ·have e:Zev f owner lab=(f,3):=by unfold Zev;rw [hgf];dsimp only;rw [if_neg (by rw [h2];simp),if_neg (by omega),if_pos h4]
     rw [e];exact ⟨rfl,same (FO.close hw)⟩
    ·have e:Zev f owner lab=({ f with hs:=Zf4 owner (h.put (Zax f.rows f.grps lab).1) f.hs,own:=ZeN (Zax f.rows f.grps lab).1 h.owner f.own },0):=by
      unfold Zev;rw [hgf];dsimp only;rw [if_neg (by rw [h2];simp),if_neg (by omega),if_neg (by rw [h4];simp)]
     rw [e];have hw:Sat R' (FO p hm om sg sl ss (a++(owner,b,h)::c) f Hs) w:=FO.close hw;refine (Zkb hr (by omega) hw).u λ w hw=>?_;refine ⟨rfl,rfl,?_⟩;refine Sat.flight.2 ⟨hm,om,sg,sl,ss,a++(owner,b,h.put (Zax f.rows f.grps lab).1)::c,?_,back _ _ hw⟩;show _=Zf4 owner _ f.hs;rw [<-hE,Zdk,Zdk,Zgo (by rw [ZbS,hna];rfl) (ZfQ owner)]
  ·have e:Zev f owner lab=(f,2):=by unfold Zev;rw [hgf];dsimp only;rw [if_pos h2]
   rw [e];exact Br.t (by simp [h2]) ⟨rfl,same hw⟩
def ZeH (f:PF) (owner:Int):List ByteArray:=match ZH owner f.hs with|none=>[]|some h=>Za3 f.rows f.grps h.seats
theorem Zk1 {p:Nat} {f:PF} {owner:Int} (hgl:f.grps.length<=1000) (hR:∀ e∈f.hs,e.2.seats.length<=1000000) (hw:Sat R (ZD p f::Hs) w):
  Zk prog 122 #[nP p,nI owner] w λ v w'=>∃ t:Sl,v=.slice t.a t.len t.cap/\Sat R (Own t 9 ((ZeH f owner).map Value.string)::ZD p f::Hs) w':=by
 obtain ⟨hm,om,sg,sl,ss,E,R',hE,_,rg,_,_,hw,back⟩:=Sat.flightO hw;apply Zwz;refine Zb.mk rfl ⟨some hm,oA hw,(ZH owner E).map (λ x=>⟨x.1,0,none⟩),(ZH owner E).isSome,λ w' e=>by rw [show w'=w from e];exact Zc0 (hw.take (MapAt hm (ZZ E))) owner true,?_⟩
 cases hget:ZH owner E with
 |none=>
  have e:ZeH f owner=[]:=by unfold ZeH;rw [<-hE,ZbS,hget];rfl
  rw [e];exact Br.t rfl ⟨⟨none,0,0⟩,rfl,Own.nil (Sat.flightC hE (back _ _ hw))⟩
 |some x=>
  obtain ⟨b,h⟩:=x;have hgf:ZH owner f.hs=some h:=by rw [<-hE,ZbS,hget];rfl
  have e:ZeH f owner=Za3 f.rows f.grps h.seats:=by unfold ZeH;rw [hgf]
  rw [e];obtain ⟨a,c,rfl,hna⟩:=ZaL hget;have hl:h.seats.length<=1000000:=hR (owner,h) (by rw [<-hE,Zdk];simp);refine Br.f rfl (Zb.mk rfl ?_);obtain ⟨s,hw⟩:=FO.open hw;refine ⟨s,oA hw,?_⟩;obtain ⟨R2,hro,hmono,hw2,back2⟩:=Own.lend (hw.take (Own s 3 (Zc h.seats))) (by rw [List.length_map];omega);refine (Zhh (f:=f) (hm:=hm) (om:=om) (sg:=sg) (sl:=sl) (ss:=ss) (hmono _ _ (rg.ro)) hro hl hw2).use ?_;clear hw hw2;rintro _ w ⟨t,rfl,hw⟩;refine ⟨t,rfl,t,rfl,?_⟩;have hw:=(back2 hw).swap;have hw:=back _ _ (Sat.cons (λ _ h5=>FO.close (f:=f) (h5.take (pts b (Zal h s)))) hw);exact Sat.cons (λ _ h5=>Sat.flightC hE h5) (hw.take (Own t 9 ((Za3 f.rows f.grps h.seats).map Value.string)))
def Zip (f:PF):List Int:=(List.range f.lims.length).map λ (k:Nat)=>(ZaW f.lims f.sold k).1
def ZbQ (f:PF) (j:Nat):List Int:=(List.range f.lims.length).map λ (k:Nat)=>if k<j then (ZaW f.lims f.sold k).1 else 0
theorem Zl8 (f:PF) {j:Nat} (h:j<f.lims.length):(ZbQ f j).set j (ZaW f.lims f.sold j).1=ZbQ f (j + 1):=by
 apply List.ext_getElem
 ·simp [ZbQ]
 ·intro i h1 h2
  simp only [ZbQ,List.length_set,List.length_map,List.length_range] at h1 h2;rw [List.getElem_set];simp only [ZbQ,List.getElem_map,List.getElem_range];split
  ·rename_i h3;subst h3;rw [if_pos (by omega)]
  ·by_cases h4:i<j
   ·rw [if_pos h4,if_pos (by omega)]
   ·rw [if_neg h4,if_neg (by omega)]
theorem ZoG {p:Nat} {f:PF} (hl:f.lims.length<=1000) (hs:f.sold.length<=1000) (hw:Sat R (ZD p f::Hs) w):
  Zk prog 55 #[nP p] w λ v w'=>∃ t:Sl,v=.slice t.a t.len t.cap/\Sat R (Own t 3 (Zc (Zip f))::ZD p f::Hs) w':=by
 obtain ⟨hm,om,sg,sl,ss,E,R',hE,_,_,rl,rs,hw,back⟩:=Sat.flightO hw;have hsl:sl.len=f.lims.length:=by have:=rl.len;rw [List.length_map] at this;exact this
 apply ZxY;refine Zb.mk rfl ⟨sl,oA hw,?_⟩;rw [hsl];refine ZdW hl hw λ t w hw=>?_;have e0:List.replicate f.lims.length (0:Int)=ZbQ f 0:=by
  apply List.ext_getElem
  ·simp [ZbQ]
  ·intro i h1 h2;simp [ZbQ]
 rw [e0] at hw;refine ⟨λ i w=>∃ j:Nat,i=j/\j<=f.lims.length/\Sat R' (Own t 3 (Zc (ZbQ f j))::FO p hm om sg sl ss E f Hs) w,λ i _=>f.lims.length - i.toNat,⟨0,rfl,by omega,hw⟩,?_⟩;clear hw;rintro _ _ w ⟨j,rfl,hj,hw⟩;have htl:=Own.len hw;simp only [ZbQ,List.length_map,List.length_range] at htl;refine Br.d (λ h=>?_) (λ h=>?_)
 ·have hj2:j<f.lims.length:=by omega
  refine Zq hw λ w hw=>?_;refine Zb.mk rfl ⟨sl,oS,Zb.mk rfl ⟨ss,oS,?_⟩⟩;refine (Zhe (rl.ro) (rs.ro) hw).u λ w hw=>?_;refine ⟨_,_,rfl,?_⟩;refine Own.store (by kernel_rfl) hw (by simp [ZbQ];exact hj2) λ w hw=>?_;rw [Zl8 f hj2] at hw;rw [Zd];exact ⟨⟨j + 1,by omega,by omega,hw⟩,by dsimp only;omega⟩
 ·obtain rfl:j=f.lims.length:=by omega
  have e1:ZbQ f f.lims.length=Zip f:=by
   unfold ZbQ Zip;refine List.map_congr_left λ k hk=>?_;rw [if_pos (List.mem_range.1 hk)]
  rw [e1] at hw;refine ⟨t,rfl,?_⟩;have hw:=back _ _ hw;exact Sat.cons (λ _ h5=>Sat.flightC hE h5) (hw.take (Own t 3 (Zc (Zip f))))
def Zb8 (l:List Int) (own:List (Int × Int)):List (Int × Int):=l.foldl (λ o n=>Zfk n o) own
def Zjw (f:PF) (owner:Int):PF × Int:=
 match ZH owner f.hs with
 |none=>(f,2)
 |some h=>({ f with own:=Zb8 h.seats f.own,sold:=(Zfu f.lims f.sold h.cls h.many).1,hs:=Zfk owner f.hs },0)
theorem ZoN {p:Nat} {f:PF} {owner:Int} (hll:f.lims.length<=1000) (hls:f.sold.length<=1000) (hR:∀ e∈f.hs,e.2.seats.length<=1000000) (hw:Sat R (ZD p f::Hs) w):
  Zk prog 104 #[nP p,nI owner] w λ v w'=>v=nI (Zjw f owner).2/\Sat R (ZD p (Zjw f owner).1::Hs) w':=by
 obtain ⟨hm,om,sg,sl,ss,E,R',hE,_,_,rl,rs,hw,back⟩:=Sat.flightO hw;apply ZwR;refine Zb.mk rfl ⟨some hm,oA hw,(ZH owner E).map (λ x=>⟨x.1,0,none⟩),(ZH owner E).isSome,λ w' e=>by rw [show w'=w from e];exact Zc0 (hw.take (MapAt hm (ZZ E))) owner true,?_⟩
 cases hget:ZH owner E with
 |none=>
  have e:Zjw f owner=(f,2):=by unfold Zjw;rw [<-hE,ZbS,hget];rfl
  rw [e];exact Br.t rfl ⟨rfl,Sat.flightC hE (back _ _ hw)⟩
 |some x=>
  obtain ⟨b,h⟩:=x;have hgf:ZH owner f.hs=some h:=by rw [<-hE,ZbS,hget];rfl
  have e:Zjw f owner=({ f with own:=Zb8 h.seats f.own,sold:=(Zfu f.lims f.sold h.cls h.many).1,hs:=Zfk owner f.hs },0):=by unfold Zjw;rw [hgf]
  rw [e];obtain ⟨a,c,rfl,hna⟩:=ZaL hget;have hl:h.seats.length<=1000000:=hR (owner,h) (by rw [<-hE,Zdk];simp);refine Br.f rfl (Zb.mk rfl ?_);obtain ⟨s,hw⟩:=FO.open hw;have hsl:=Own.len (hw.take (Own s 3 (Zc h.seats)));rw [List.length_map] at hsl;refine ⟨s,oA hw,?_⟩;refine ⟨λ i w=>∃ j:Nat,i=j/\j<=h.seats.length/\Sat R' (FO1 p hm om b sg sl ss s (a++(owner,b,h)::c) (a++c) f h (Zb8 (h.seats.take j) f.own) Hs) w,λ i _=>h.seats.length - i.toNat,⟨0,rfl,by omega,hw⟩,?_⟩;clear hw;rintro _ _ w ⟨j,rfl,hj,hw⟩;refine Br.d (λ h2=>?_) (λ h2=>?_)
  ·have hj2:j<h.seats.length:=by omega
   refine Own.ix (hw.take (Own s 3 (Zc h.seats))) (eqS (hw.take (Own s 3 (Zc h.seats)))) j rfl hj2 ?_;refine Zb.mk rfl ⟨some om,oA hw,?_⟩;refine MapAt.del ZzR (hw.take (MapAt om (Zbz (Zb8 (h.seats.take j) f.own)))) h.seats[j] λ w hw=>?_;rw [Znw (Value.int .i64) h.seats[j] (Zb8 (h.seats.take j) f.own)] at hw;have ed:Zfk h.seats[j] (Zb8 (h.seats.take j) f.own)=Zb8 (h.seats.take (j + 1)) f.own:=by
    unfold Zb8;rw [List.take_add_one,List.getElem?_eq_getElem hj2,Option.toList_some,List.foldl_append];rfl
   rw [ed] at hw;rw [Zd];refine ⟨⟨j + 1,by omega,by omega,?_⟩,by dsimp only;omega⟩;exact ((((hw.take (MapAt hm (ZZ (a++(owner,b,h)::c)))).take (pts p (Zan f sg sl ss hm om))).take (ZU (a++c))).take (Own s 3 (Zc h.seats))).take (pts b (Zal h s))
  ·rw [List.take_of_length_le (by omega)] at hw
   refine Zq hw λ w hw=>?_;refine Zb.mk rfl ⟨sl,oS,Zb.mk rfl ⟨ss,oS,Zb.mk rfl ⟨h.cls,oS,Zb.mk rfl ⟨h.many,oS,?_⟩⟩⟩⟩;refine (ZrU (rl.ro) (rs.ro) hw).u1 λ t w hw=>?_;refine ⟨_,_,rfl,Zb.mk rfl ?_⟩;refine sRu hw λ w hw=>?_;have hw:Sat R' (pts p (Zan f sg sl t hm om)::Own t 3 (Zc (Zfu f.lims f.sold h.cls h.many).1)::pts b (Zal h s)::Own s 3 (Zc h.seats)::ZU (a++c)::MapAt hm (ZZ (a++(owner,b,h)::c))::MapAt om (Zbz (Zb8 h.seats f.own))::Hs) w:=hw;refine Zb.mk rfl ⟨some hm,oA hw,?_⟩;refine MapAt.del ZzT (hw.take (MapAt hm (ZZ (a++(owner,b,h)::c)))) owner λ w hw=>⟨rfl,?_⟩;have ep:Zfk owner (ZZ (a++(owner,b,h)::c))=ZZ (a++c):=by
    rw [show ZZ (a++(owner,b,h)::c)=ZZ a++(owner,Value.pointer (some ⟨b,0,none⟩))::ZZ c by simp [ZZ],Zfj (by rw [Zhl,hna];rfl) (ZfQ owner)];simp [ZZ]
   rw [ep] at hw;have hw:=(hw.take (pts b (Zal h s))).drop;have hw:=(hw.take (Own s 3 (Zc h.seats))).drop;have hw:=hw.take (Own t 3 (Zc (Zfu f.lims f.sold h.cls h.many).1));have hw:=back _ _ (Own.reads hw);have hw:=(hw.take (Zt ss (Zc f.sold))).drop;refine Sat.flight.2 ⟨hm,om,sg,sl,t,a++c,?_,?_⟩
   ·show _=Zfk owner f.hs
    rw [<-hE,Zdk,Zfj (by rw [ZbS,hna];rfl) (ZfQ owner)];simp [hEr]
   ·exact (((((hw.take (ZU (a++c))).take (MapAt om (Zbz (Zb8 h.seats f.own)))).take (MapAt hm (ZZ (a++c)))).take (pts p (Zan f sg sl t hm om))).take (Zt t (Zc (Zfu f.lims f.sold h.cls h.many).1))).take (Zt sl (Zc f.lims))|>.take (Zt sg (Zc f.grps))
end
end Go.Proofs.YtlplemdmegpoeaaGreatDoor
namespace Go.Proofs
section
open Go.Shelf
def Tryz.sorted61_ren:Go.Shelf.Ren:=⟨λ|6=>61|8=>129|9=>130|11=>206|13=>208|12=>207|23=>270|24=>205|14=>261|15=>262|16=>263|17=>264|18=>265|19=>266|20=>267|21=>268|22=>269|25=>286|26=>287|27=>288|28=>289|29=>290|30=>278|31=>297|n=>n,λ|26=>3|28=>116|24=>30|0=>0|3=>3|37=>264|48=>306|50=>141|4=>4|40=>299|39=>298|45=>230|5=>5|9=>9|51=>313|55=>317|57=>321|58=>293|33=>159|n=>n,λ|n=>n⟩
theorem Tryz.sorted61:Go.Proofs.SlLaysZI.n6 Tryz.prog Tryz.sorted61_ren:={
  mixed:=by kernel_rfl
  f6:=⟨Tryz.f61.name,by decide,Tryz.func61.trans (congrArg some (by kernel_rfl))⟩
  f8:=⟨Tryz.f129.name,by decide,Tryz.func129.trans (congrArg some (by kernel_rfl))⟩
  f11:=⟨Tryz.f206.name,by decide,Tryz.func206.trans (congrArg some (by kernel_rfl))⟩
  t0:=Tryz.underlying0
  a0:=Tryz.isAgg0
  z0:=Tryz.sizeOf0
  v0:=Tryz.zeroValue0
  t24:=Tryz.underlying30
  a24:=Tryz.isAgg30
  z24:=Tryz.sizeOf30
  v24:=Tryz.zeroValue30
  t26:=Tryz.underlying3
  a26:=Tryz.isAgg3
  z26:=Tryz.sizeOf3
  v26:=Tryz.zeroValue3
  t28:=Tryz.underlying116
  a28:=Tryz.isAgg116
  z28:=Tryz.sizeOf116
  v28:=Tryz.zeroValue116
  i26:=by kernel_rfl }
def Tryz.sort130_ren:Go.Shelf.Ren:=⟨λ|5=>130|8=>208|7=>207|19=>270|20=>205|10=>261|11=>262|12=>263|13=>264|14=>265|15=>266|16=>267|17=>268|18=>269|30=>286|31=>287|32=>288|33=>289|34=>290|35=>278|40=>297|n=>n,λ|23=>30|25=>3|3=>3|32=>264|22=>30|0=>0|44=>306|46=>141|4=>4|36=>299|35=>298|41=>230|5=>5|9=>9|53=>313|57=>317|63=>321|64=>293|n=>n,λ|n=>n⟩
theorem Tryz.sort130:Go.Proofs.SlLaysM.n5 Tryz.prog Tryz.sort130_ren:={
  mixed:=by kernel_rfl
  f5:=⟨Tryz.f130.name,by decide,Tryz.func130.trans (congrArg some (by kernel_rfl))⟩
  f7:=⟨Tryz.f207.name,by decide,Tryz.func207.trans (congrArg some (by kernel_rfl))⟩
  f8:=Tryz.func208.trans (congrArg some (by kernel_rfl))
  f10:=⟨Tryz.f261.name,by decide,Tryz.func261.trans (congrArg some (by kernel_rfl))⟩
  f11:=⟨Tryz.f262.name,by decide,Tryz.func262.trans (congrArg some (by kernel_rfl))⟩
  f12:=⟨Tryz.f263.name,by decide,Tryz.func263.trans (congrArg some (by kernel_rfl))⟩
  f13:=⟨Tryz.f264.name,by decide,Tryz.func264.trans (congrArg some (by kernel_rfl))⟩
  f14:=⟨Tryz.f265.name,by decide,Tryz.func265.trans (congrArg some (by kernel_rfl))⟩
  f15:=⟨Tryz.f266.name,by decide,Tryz.func266.trans (congrArg some (by kernel_rfl))⟩
  f16:=⟨Tryz.f267.name,by decide,Tryz.func267.trans (congrArg some (by kernel_rfl))⟩
  f17:=⟨Tryz.f268.name,by decide,Tryz.func268.trans (congrArg some (by kernel_rfl))⟩
  f18:=⟨Tryz.f269.name,by decide,Tryz.func269.trans (congrArg some (by kernel_rfl))⟩
  f19:=Tryz.func270.trans (congrArg some (by kernel_rfl))
  f20:=Tryz.func205.trans (congrArg some (by kernel_rfl))
  f30:=⟨Tryz.f286.name,by decide,Tryz.func286.trans (congrArg some (by kernel_rfl))⟩
  f31:=Tryz.func287.trans (congrArg some (by kernel_rfl))
  f32:=Tryz.func288.trans (congrArg some (by kernel_rfl))
  f33:=⟨Tryz.f289.name,by decide,Tryz.func289.trans (congrArg some (by kernel_rfl))⟩
  f34:=⟨Tryz.f290.name,by decide,Tryz.func290.trans (congrArg some (by kernel_rfl))⟩
  f35:=⟨Tryz.f278.name,by decide,Tryz.func278.trans (congrArg some (by kernel_rfl))⟩
  f40:=⟨Tryz.f297.name,by decide,Tryz.func297.trans (congrArg some (by kernel_rfl))⟩
  t0:=Tryz.underlying0
  a0:=Tryz.isAgg0
  z0:=Tryz.sizeOf0
  v0:=Tryz.zeroValue0
  t3:=Tryz.underlying3
  a3:=Tryz.isAgg3
  z3:=Tryz.sizeOf3
  v3:=Tryz.zeroValue3
  t4:=Tryz.underlying4
  a4:=Tryz.isAgg4
  z4:=Tryz.sizeOf4
  v4:=Tryz.zeroValue4
  t5:=Tryz.underlying5
  a5:=Tryz.isAgg5
  z5:=Tryz.sizeOf5
  v5:=Tryz.zeroValue5
  t9:=Tryz.underlying9
  a9:=Tryz.isAgg9
  z9:=Tryz.sizeOf9
  v9:=Tryz.zeroValue9
  t22:=Tryz.underlying30
  a22:=Tryz.isAgg30
  z22:=Tryz.sizeOf30
  v22:=Tryz.zeroValue30
  t23:=Tryz.underlying30
  a23:=Tryz.isAgg30
  z23:=Tryz.sizeOf30
  v23:=Tryz.zeroValue30
  t25:=Tryz.underlying3
  a25:=Tryz.isAgg3
  z25:=Tryz.sizeOf3
  v25:=Tryz.zeroValue3
  t32:=Tryz.underlying264
  a32:=Tryz.isAgg264
  z32:=Tryz.sizeOf264
  v32:=Tryz.zeroValue264
  t35:=Tryz.underlying298
  a35:=Tryz.isAgg298
  z35:=Tryz.sizeOf298
  v35:=Tryz.zeroValue298
  t36:=Tryz.underlying299
  a36:=Tryz.isAgg299
  z36:=Tryz.sizeOf299
  v36:=Tryz.zeroValue299
  t41:=Tryz.underlying230
  a41:=Tryz.isAgg230
  z41:=Tryz.sizeOf230
  v41:=Tryz.zeroValue230
  t44:=Tryz.underlying306
  a44:=Tryz.isAgg306
  z44:=Tryz.sizeOf306
  v44:=Tryz.zeroValue306
  t46:=Tryz.underlying141
  a46:=Tryz.isAgg141
  z46:=Tryz.sizeOf141
  v46:=Tryz.zeroValue141
  t53:=Tryz.underlying313
  a53:=Tryz.isAgg313
  z53:=Tryz.sizeOf313
  v53:=Tryz.zeroValue313
  t57:=Tryz.underlying317
  a57:=Tryz.isAgg317
  z57:=Tryz.sizeOf317
  v57:=Tryz.zeroValue317
  t63:=Tryz.underlying321
  a63:=Tryz.isAgg321
  z63:=Tryz.sizeOf321
  v63:=Tryz.zeroValue321
  t64:=Tryz.underlying293
  a64:=Tryz.isAgg293
  z64:=Tryz.sizeOf293
  v64:=Tryz.zeroValue293 }
open Go.RowKit Go.Maps Go.Sort Go.Shelf in
theorem Tryz.sorts61 (m:Nat):AnyZI.SortsIn Tryz.prog Tryz.sorted61_ren Fence.wide m:=
  ⟨λ blk off cap ss W hH hblk hsz=>callsIn_wide.2 (AnyM.slices_Sort_int Tryz.sort130 blk off cap ss W hH hblk hsz),
   λ p cap W=>callsIn_wide.2 (AnyM.slices_Sort_int_none Tryz.sort130 p cap W)⟩
def Tryz.collect129_ren:Go.Shelf.Ren:=⟨λ|8=>129|11=>206|n=>n,λ|26=>3|28=>116|24=>30|0=>0|33=>159|4=>4|n=>n,λ|n=>n⟩
theorem Tryz.collect129:Go.Proofs.SlLaysZI.n8 Tryz.prog Tryz.collect129_ren:={
  mixed:=by kernel_rfl
  f8:=⟨Tryz.f129.name,by decide,Tryz.func129.trans (congrArg some (by kernel_rfl))⟩
  f11:=⟨Tryz.f206.name,by decide,Tryz.func206.trans (congrArg some (by kernel_rfl))⟩
  t0:=Tryz.underlying0
  a0:=Tryz.isAgg0
  z0:=Tryz.sizeOf0
  v0:=Tryz.zeroValue0
  t24:=Tryz.underlying30
  a24:=Tryz.isAgg30
  z24:=Tryz.sizeOf30
  v24:=Tryz.zeroValue30
  t26:=Tryz.underlying3
  a26:=Tryz.isAgg3
  z26:=Tryz.sizeOf3
  v26:=Tryz.zeroValue3
  t28:=Tryz.underlying116
  a28:=Tryz.isAgg116
  z28:=Tryz.sizeOf116
  v28:=Tryz.zeroValue116
  i26:=by kernel_rfl }
def Tryz.keys209_ren:Go.Shelf.Ren:=⟨λ|7=>209|10=>271|n=>n,λ|23=>183|26=>3|3=>227|28=>116|0=>0|27=>115|33=>159|4=>4|n=>n,λ|n=>n⟩
theorem Tryz.keys209:Go.Proofs.SlLaysZI.n7 Tryz.prog Tryz.keys209_ren:={
  mixed:=by kernel_rfl
  f7:=⟨Tryz.f209.name,by decide,Tryz.func209.trans (congrArg some (by kernel_rfl))⟩
  f10:=⟨Tryz.f271.name,by decide,Tryz.func271.trans (congrArg some (by kernel_rfl))⟩
  t0:=Tryz.underlying0
  a0:=Tryz.isAgg0
  z0:=Tryz.sizeOf0
  v0:=Tryz.zeroValue0
  t4:=Tryz.underlying4
  a4:=Tryz.isAgg4
  z4:=Tryz.sizeOf4
  v4:=Tryz.zeroValue4
  t23:=Tryz.underlying183
  a23:=Tryz.isAgg183
  z23:=Tryz.sizeOf183
  v23:=Tryz.zeroValue183
  t26:=Tryz.underlying3
  a26:=Tryz.isAgg3
  z26:=Tryz.sizeOf3
  v26:=Tryz.zeroValue3
  t27:=Tryz.underlying115
  a27:=Tryz.isAgg115
  z27:=Tryz.sizeOf115
  v27:=Tryz.zeroValue115
  t28:=Tryz.underlying116
  a28:=Tryz.isAgg116
  z28:=Tryz.sizeOf116
  v28:=Tryz.zeroValue116
  t33:=Tryz.underlying159
  a33:=Tryz.isAgg159
  z33:=Tryz.sizeOf159
  v33:=Tryz.zeroValue159 }
open Go.RowKit Go.Maps Go.Sort Go.Shelf in
theorem Tryz.maps_Keys_209 (mb:Option Nat) (W:World):CallsIn Fence.wide 5 Tryz.prog 209 #[.map mb] W λ e w'=>e=.returned (.func (.func 271) #[] #[.pointer (some ⟨W.heap.size,0,none⟩)])/\w'=W.alloc (.cells #[.map mb] 183):=
  AnyZI.keys_in Tryz.keys209 Fence.wide 5 trivial rfl mb W
open Go.RowKit Go.Maps Go.Sort Go.Shelf in
theorem Tryz.slices_Sorted_keys_61_209 {H:Type} (b nn:Nat) (D0:DataW H) (R:Value->Option (DataW H × List MemPlace)) (w : nW) (hown:w.ownsMap Tryz.prog 3 R b nn D0) (hmax:Maps.size D0<=maxLen) (hbytes:Maps.size D0 * 8<=140737488355328):
    CallsIn Fence.wide 5 Tryz.prog 61 #[.func (.func 271) #[] #[.pointer (some ⟨w.heap.size,0,none⟩)]] (w.alloc (.cells #[.map (some b)] 183)) λ e w'=>∃ (v:Value) (ss:List Int),e=.returned v/\ss.Perm (intKeys D0)/\
      w'.ownsRow (w.alloc (.cells #[.map (some b)] 183)).heap.size 3 1 v ss.length ((ss.mergeSort (λ x y=>decide (x<=y))).map encZ)/\(v=.slice none 0 0↔ss=[])/\Below (w.alloc (.cells #[.map (some b)] 183)).heap.size (w.alloc (.cells #[.map (some b)] 183)) w':=by
  have hbl:=hown.lt;have hseq:SeqGives Fence.wide 2 Tryz.prog 271 #[.pointer (some ⟨w.heap.size,0,none⟩)] encZ (λ ss=>ss.Perm (intKeys D0)) (Maps.size D0) (w.alloc (.cells #[.map (some b)] 183)):=
    AnyZI.keys_gives (ρ:=Tryz.keys209_ren) { Tryz.keys209 with } Fence.wide _ trivial rfl (by omega) w.heap.size b nn D0 _ (by simp) (by simp) (by
      obtain ⟨es,clock,hb,Ft,hs,hD⟩:=hown;exact ⟨es,clock,(Below.heap_alloc _ _ b hbl).trans hb,Ft,hs,hD⟩)
  exact AnyZI.sorted_in Tryz.sorted61 Fence.wide 5 trivial trivial trivial trivial rfl (by omega) (Tryz.sorts61 _) (enters_of Tryz.func130 (by kernel_rfl) rfl) 271 #[.pointer (some ⟨w.heap.size,0,none⟩)] trivial (enters_of Tryz.func271 (by kernel_rfl) rfl) _ _ hmax hbytes _ hseq
def Tryz.keys66_ren:Go.Shelf.Ren:=⟨λ|7=>66|10=>136|n=>n,λ|23=>78|26=>3|3=>86|28=>116|0=>0|27=>115|33=>159|4=>4|n=>n,λ|n=>n⟩
theorem Tryz.keys66:Go.Proofs.SlLaysZI.n7 Tryz.prog Tryz.keys66_ren:={
  mixed:=by kernel_rfl
  f7:=⟨Tryz.f66.name,by decide,Tryz.func66.trans (congrArg some (by kernel_rfl))⟩
  f10:=⟨Tryz.f136.name,by decide,Tryz.func136.trans (congrArg some (by kernel_rfl))⟩
  t0:=Tryz.underlying0
  a0:=Tryz.isAgg0
  z0:=Tryz.sizeOf0
  v0:=Tryz.zeroValue0
  t4:=Tryz.underlying4
  a4:=Tryz.isAgg4
  z4:=Tryz.sizeOf4
  v4:=Tryz.zeroValue4
  t23:=Tryz.underlying78
  a23:=Tryz.isAgg78
  z23:=Tryz.sizeOf78
  v23:=Tryz.zeroValue78
  t26:=Tryz.underlying3
  a26:=Tryz.isAgg3
  z26:=Tryz.sizeOf3
  v26:=Tryz.zeroValue3
  t27:=Tryz.underlying115
  a27:=Tryz.isAgg115
  z27:=Tryz.sizeOf115
  v27:=Tryz.zeroValue115
  t28:=Tryz.underlying116
  a28:=Tryz.isAgg116
  z28:=Tryz.sizeOf116
  v28:=Tryz.zeroValue116
  t33:=Tryz.underlying159
  a33:=Tryz.isAgg159
  z33:=Tryz.sizeOf159
  v33:=Tryz.zeroValue159 }
open Go.RowKit Go.Maps Go.Sort Go.Shelf in
theorem Tryz.maps_Keys_66 (mb:Option Nat) (W:World):CallsIn Fence.wide 5 Tryz.prog 66 #[.map mb] W λ e w'=>e=.returned (.func (.func 136) #[] #[.pointer (some ⟨W.heap.size,0,none⟩)])/\w'=W.alloc (.cells #[.map mb] 78):=
  AnyZI.keys_in Tryz.keys66 Fence.wide 5 trivial rfl mb W
open Go.RowKit Go.Maps Go.Sort Go.Shelf in
theorem Tryz.slices_Sorted_keys_61_66 {H:Type} (b nn:Nat) (D0:DataW H) (R:Value->Option (DataW H × List MemPlace)) (w : nW) (hown:w.ownsMap Tryz.prog 3 R b nn D0) (hmax:Maps.size D0<=maxLen) (hbytes:Maps.size D0 * 8<=140737488355328):
    CallsIn Fence.wide 5 Tryz.prog 61 #[.func (.func 136) #[] #[.pointer (some ⟨w.heap.size,0,none⟩)]] (w.alloc (.cells #[.map (some b)] 78)) λ e w'=>∃ (v:Value) (ss:List Int),e=.returned v/\ss.Perm (intKeys D0)/\
      w'.ownsRow (w.alloc (.cells #[.map (some b)] 78)).heap.size 3 1 v ss.length ((ss.mergeSort (λ x y=>decide (x<=y))).map encZ)/\(v=.slice none 0 0↔ss=[])/\Below (w.alloc (.cells #[.map (some b)] 78)).heap.size (w.alloc (.cells #[.map (some b)] 78)) w':=by
  have hbl:=hown.lt;have hseq:SeqGives Fence.wide 2 Tryz.prog 136 #[.pointer (some ⟨w.heap.size,0,none⟩)] encZ (λ ss=>ss.Perm (intKeys D0)) (Maps.size D0) (w.alloc (.cells #[.map (some b)] 78)):=
    AnyZI.keys_gives (ρ:=Tryz.keys66_ren) { Tryz.keys66 with } Fence.wide _ trivial rfl (by omega) w.heap.size b nn D0 _ (by simp) (by simp) (by
      obtain ⟨es,clock,hb,Ft,hs,hD⟩:=hown;exact ⟨es,clock,(Below.heap_alloc _ _ b hbl).trans hb,Ft,hs,hD⟩)
  exact AnyZI.sorted_in Tryz.sorted61 Fence.wide 5 trivial trivial trivial trivial rfl (by omega) (Tryz.sorts61 _) (enters_of Tryz.func130 (by kernel_rfl) rfl) 136 #[.pointer (some ⟨w.heap.size,0,none⟩)] trivial (enters_of Tryz.func136 (by kernel_rfl) rfl) _ _ hmax hbytes _ hseq
def Tryz.keys180_ren:Go.Shelf.Ren:=⟨λ|7=>180|10=>252|n=>n,λ|23=>184|26=>3|3=>3|28=>116|0=>0|27=>115|33=>159|4=>4|n=>n,λ|n=>n⟩
theorem Tryz.keys180:Go.Proofs.SlLaysZI.n7 Tryz.prog Tryz.keys180_ren:={
  mixed:=by kernel_rfl
  f7:=⟨Tryz.f180.name,by decide,Tryz.func180.trans (congrArg some (by kernel_rfl))⟩
  f10:=⟨Tryz.f252.name,by decide,Tryz.func252.trans (congrArg some (by kernel_rfl))⟩
  t0:=Tryz.underlying0
  a0:=Tryz.isAgg0
  z0:=Tryz.sizeOf0
  v0:=Tryz.zeroValue0
  t4:=Tryz.underlying4
  a4:=Tryz.isAgg4
  z4:=Tryz.sizeOf4
  v4:=Tryz.zeroValue4
  t23:=Tryz.underlying184
  a23:=Tryz.isAgg184
  z23:=Tryz.sizeOf184
  v23:=Tryz.zeroValue184
  t26:=Tryz.underlying3
  a26:=Tryz.isAgg3
  z26:=Tryz.sizeOf3
  v26:=Tryz.zeroValue3
  t27:=Tryz.underlying115
  a27:=Tryz.isAgg115
  z27:=Tryz.sizeOf115
  v27:=Tryz.zeroValue115
  t28:=Tryz.underlying116
  a28:=Tryz.isAgg116
  z28:=Tryz.sizeOf116
  v28:=Tryz.zeroValue116
  t33:=Tryz.underlying159
  a33:=Tryz.isAgg159
  z33:=Tryz.sizeOf159
  v33:=Tryz.zeroValue159 }
open Go.RowKit Go.Maps Go.Sort Go.Shelf in
theorem Tryz.maps_Keys_180 (mb:Option Nat) (W:World):CallsIn Fence.wide 5 Tryz.prog 180 #[.map mb] W λ e w'=>e=.returned (.func (.func 252) #[] #[.pointer (some ⟨W.heap.size,0,none⟩)])/\w'=W.alloc (.cells #[.map mb] 184):=
  AnyZI.keys_in Tryz.keys180 Fence.wide 5 trivial rfl mb W
open Go.RowKit Go.Maps Go.Sort Go.Shelf in
theorem Tryz.slices_Collect_keys_129_180 {H:Type} (b nn:Nat) (D0:DataW H) (R:Value->Option (DataW H × List MemPlace)) (w : nW) (hown:w.ownsMap Tryz.prog 3 R b nn D0) (hmax:Maps.size D0<=maxLen) (hbytes:Maps.size D0 * 8<=140737488355328):
    CallsIn Fence.wide 4 Tryz.prog 129 #[.func (.func 252) #[] #[.pointer (some ⟨w.heap.size,0,none⟩)]] (w.alloc (.cells #[.map (some b)] 184)) λ e w'=>∃ (v:Value) (ss:List Int),e=.returned v/\ss.Perm (intKeys D0)/\
      w'.ownsRow (w.alloc (.cells #[.map (some b)] 184)).heap.size 3 1 v ss.length (ss.map encZ)/\(v=.slice none 0 0↔ss=[])/\Below (w.alloc (.cells #[.map (some b)] 184)).heap.size (w.alloc (.cells #[.map (some b)] 184)) w':=by
  have hbl:=hown.lt;have hseq:SeqGives Fence.wide 2 Tryz.prog 252 #[.pointer (some ⟨w.heap.size,0,none⟩)] encZ (λ ss=>ss.Perm (intKeys D0)) (Maps.size D0) (w.alloc (.cells #[.map (some b)] 184)):=
    AnyZI.keys_gives (ρ:=Tryz.keys180_ren) { Tryz.keys180 with } Fence.wide _ trivial rfl (by omega) w.heap.size b nn D0 _ (by simp) (by simp) (by
      obtain ⟨es,clock,hb,Ft,hs,hD⟩:=hown;exact ⟨es,clock,(Below.heap_alloc _ _ b hbl).trans hb,Ft,hs,hD⟩)
  exact AnyZI.collect_in Tryz.collect129 Fence.wide 4 trivial trivial rfl (by omega) 252 #[.pointer (some ⟨w.heap.size,0,none⟩)] trivial (enters_of Tryz.func252 (by kernel_rfl) rfl) _ _ hmax hbytes _ hseq
def Tryz.keys62_ren:Go.Shelf.Ren:=⟨λ|7=>62|10=>131|n=>n,λ|23=>77|26=>3|3=>97|28=>116|0=>0|27=>115|33=>159|4=>4|n=>n,λ|n=>n⟩
theorem Tryz.keys62:Go.Proofs.SlLaysZI.n7 Tryz.prog Tryz.keys62_ren:={
  mixed:=by kernel_rfl
  f7:=⟨Tryz.f62.name,by decide,Tryz.func62.trans (congrArg some (by kernel_rfl))⟩
  f10:=⟨Tryz.f131.name,by decide,Tryz.func131.trans (congrArg some (by kernel_rfl))⟩
  t0:=Tryz.underlying0
  a0:=Tryz.isAgg0
  z0:=Tryz.sizeOf0
  v0:=Tryz.zeroValue0
  t4:=Tryz.underlying4
  a4:=Tryz.isAgg4
  z4:=Tryz.sizeOf4
  v4:=Tryz.zeroValue4
  t23:=Tryz.underlying77
  a23:=Tryz.isAgg77
  z23:=Tryz.sizeOf77
  v23:=Tryz.zeroValue77
  t26:=Tryz.underlying3
  a26:=Tryz.isAgg3
  z26:=Tryz.sizeOf3
  v26:=Tryz.zeroValue3
  t27:=Tryz.underlying115
  a27:=Tryz.isAgg115
  z27:=Tryz.sizeOf115
  v27:=Tryz.zeroValue115
  t28:=Tryz.underlying116
  a28:=Tryz.isAgg116
  z28:=Tryz.sizeOf116
  v28:=Tryz.zeroValue116
  t33:=Tryz.underlying159
  a33:=Tryz.isAgg159
  z33:=Tryz.sizeOf159
  v33:=Tryz.zeroValue159 }
open Go.RowKit Go.Maps Go.Sort Go.Shelf in
theorem Tryz.maps_Keys_62 (mb:Option Nat) (W:World):CallsIn Fence.wide 5 Tryz.prog 62 #[.map mb] W λ e w'=>e=.returned (.func (.func 131) #[] #[.pointer (some ⟨W.heap.size,0,none⟩)])/\w'=W.alloc (.cells #[.map mb] 77):=
  AnyZI.keys_in Tryz.keys62 Fence.wide 5 trivial rfl mb W
open Go.RowKit Go.Maps Go.Sort Go.Shelf in
theorem Tryz.slices_Sorted_keys_61_62 {H:Type} (b nn:Nat) (D0:DataW H) (R:Value->Option (DataW H × List MemPlace)) (w : nW) (hown:w.ownsMap Tryz.prog 3 R b nn D0) (hmax:Maps.size D0<=maxLen) (hbytes:Maps.size D0 * 8<=140737488355328):
    CallsIn Fence.wide 5 Tryz.prog 61 #[.func (.func 131) #[] #[.pointer (some ⟨w.heap.size,0,none⟩)]] (w.alloc (.cells #[.map (some b)] 77)) λ e w'=>∃ (v:Value) (ss:List Int),e=.returned v/\ss.Perm (intKeys D0)/\
      w'.ownsRow (w.alloc (.cells #[.map (some b)] 77)).heap.size 3 1 v ss.length ((ss.mergeSort (λ x y=>decide (x<=y))).map encZ)/\(v=.slice none 0 0↔ss=[])/\Below (w.alloc (.cells #[.map (some b)] 77)).heap.size (w.alloc (.cells #[.map (some b)] 77)) w':=by
  have hbl:=hown.lt;have hseq:SeqGives Fence.wide 2 Tryz.prog 131 #[.pointer (some ⟨w.heap.size,0,none⟩)] encZ (λ ss=>ss.Perm (intKeys D0)) (Maps.size D0) (w.alloc (.cells #[.map (some b)] 77)):=
    AnyZI.keys_gives (ρ:=Tryz.keys62_ren) { Tryz.keys62 with } Fence.wide _ trivial rfl (by omega) w.heap.size b nn D0 _ (by simp) (by simp) (by
      obtain ⟨es,clock,hb,Ft,hs,hD⟩:=hown;exact ⟨es,clock,(Below.heap_alloc _ _ b hbl).trans hb,Ft,hs,hD⟩)
  exact AnyZI.sorted_in Tryz.sorted61 Fence.wide 5 trivial trivial trivial trivial rfl (by omega) (Tryz.sorts61 _) (enters_of Tryz.func130 (by kernel_rfl) rfl) 131 #[.pointer (some ⟨w.heap.size,0,none⟩)] trivial (enters_of Tryz.func131 (by kernel_rfl) rfl) _ _ hmax hbytes _ hseq
end
end Go.Proofs
namespace Go.Proofs.YtlplemdmegpoeaaGreatDoor
section
open Go Go.VC Tryz
variable {R:Cx} {Hs Rest:List HP} {w:World}
theorem ZqW {m c:Nat} {l:List (En Int)} {es:List (Int × Value)} (hs:Zds l=es) (hst:ZcN l c) (hu:(es.map (·.1)).Nodup) (hn:∀ k∈es.map (·.1),-4611686018427387904<=k/\k<=4611686018427387904) (hlen:es.length<=1000000)
  (hm:w.heap[m]? =some (.map (l.map mkE).toArray c)):
  ∃ D0:DataW Unit,w.ownsMap prog 3 (λ _=>some (.nil,[])) m 1000000 D0/\Maps.size D0<=1000000/\∀ ss:List Int,ss.Perm (intKeys D0)->ss.Perm (es.map (·.1)):=by
 have hkeys:l.map (·.1)=es.map (·.1):=by rw [<-hs];simp [Zds,Function.comp_def]
 have hlen2:l.length=es.length:=by have:=congrArg List.length hkeys;simpa using this
 have hkey:∀ e∈l,keyOf prog 3 (mkE e).key=some (.int .i64 e.1):=λ e he=>by
  have hm:e.1∈es.map (·.1):=by rw [<-hkeys];exact List.mem_map_of_mem he
  have hsz:=hn _ hm;have hwf:(Lit.int .i64 e.1).wf=true:=by
   have h1:IntKind.i64.min=-9223372036854775808:=by decide
   have h2:IntKind.i64.max=9223372036854775807:=by decide
   simp only [Lit.wf,Bool.and_eq_true,decide_eq_true_eq];omega
  simp only [keyOf,underlying3,mkE,mapKey,Zbv.enc];rw [if_pos ⟨trivial,hwf⟩]
 have hrd:∀ e∈l,WideElems.rd prog 3 (λ _=>some ((.nil:DataW Unit),[])) (mkE e)=some (.int .i64 e.1,.nil):=λ e he=>by
  unfold WideElems.rd;rw [hkey e he];rfl
 have hrg:((l.map mkE).map (WideElems.rg prog 3 (λ _=>some ((.nil:DataW Unit),[]))))=l.map λ e=>(.int .i64 e.1,.nil):=by
  rw [List.map_map];apply List.map_congr_left;intro e he;simp only [Function.comp,WideElems.rg,hrd e he,Option.getD_some]
 refine ⟨_,⟨(l.map mkE).toArray,c,hm,⟨by simp [maxLen];omega,?_,?_⟩,by simp;omega,rfl⟩,?_,?_⟩
 ·refine ⟨λ x hx=>?_,?_,?_⟩
  ·simp only [List.mem_map] at hx
   obtain ⟨e,he,rfl⟩:=hx;exact hst.1 e he
  ·have:=hst.2;simpa [mkE,Function.comp_def] using this
  ·have h2:(l.map (·.1)).Nodup:=by rw [hkeys];exact hu
   have e1:((l.map mkE).toArray.toList.map (·.key))=(l.map (·.1)).map (Value.int .i64):=by simp [mkE,Function.comp_def,Zbv.enc]
   rw [e1];exact List.Pairwise.map _ (λ a b hab h=>hab (by injection h)) h2
 ·intro x hx
  simp only [List.mem_map] at hx;obtain ⟨e,he,rfl⟩:=hx;exact ⟨_,hrd e he⟩
 ·simp only [Maps.size,hrg]
  rw [(WideShapes.sorted_perm _).length_eq];simp;omega
 ·intro ss hss
  refine hss.trans ?_;simp only [intKeys,hrg];refine ((WideShapes.sorted_perm _).map _).trans ?_;rw [List.map_map,<-hkeys];exact List.Perm.of_eq (List.map_congr_left λ e _=>rfl)
theorem Ze8 {m c:Nat} {l:List (En Int)} {es:List (Int × Value)} (hs:Zds l=es) (hst:ZcN l c) (hu:(es.map (·.1)).Nodup) (hn:∀ k∈es.map (·.1),-1000000000<=k/\k<=1000000000) (hlen:es.length<=1000000)
  (hm:w.heap[m]? =some (.map (l.map mkE).toArray c)):
  ∃ D0:DataW Unit,w.ownsMap prog 3 (λ _=>some (.nil,[])) m 1000000 D0/\Maps.size D0<=1000000/\∀ ss:List Int,ss.Perm (intKeys D0)->ss.Perm (es.map (·.1)):=ZqW hs hst hu (λ k hk=>by have:=hn k hk;omega) hlen hm
def Zgg (l:List Int):List Int:=l.mergeSort λ x y=>decide (x<=y)
theorem Zd1 {a b:List Int} (h:a.Perm b):Zgg a=Zgg b:=by
 have tr:∀ a b c:Int,decide (a<=b)=true->decide (b<=c)=true->decide (a<=c)=true:=λ a b c h1 h2=>by simp only [decide_eq_true_eq] at *;omega
 have to:∀ a b:Int,(decide (a<=b)||decide (b<=a))=true:=λ a b=>by simp only [Bool.or_eq_true,decide_eq_true_eq];omega
 have s1:=List.pairwise_mergeSort tr to a;have s2:=List.pairwise_mergeSort tr to b;have p:(a.mergeSort λ x y=>decide (x<=y)).Perm (b.mergeSort λ x y=>decide (x<=y)):=(List.mergeSort_perm a _).trans (h.trans (List.mergeSort_perm b _).symm);exact List.Perm.eq_of_pairwise (λ a b _ _ h1 h2=>by simp only [decide_eq_true_eq] at h1 h2;omega) s1 s2 p
theorem Zkf {m:Nat} {es:List (Int × Value)} {K:Sl->World->Prop} (hu:(es.map (·.1)).Nodup) (hn:∀ k∈es.map (·.1),-1000000000<=k/\k<=1000000000) (hlen:es.length<=1000000) (hw:Sat R (MapAt m es::Hs) w)
  (k:∀ s w',Sat R (Own s 3 (Zc (Zgg (es.map (·.1))))::MapAt m es::Hs) w'->K s w'):
  nC 209 #[.map (some m)] w λ e w1=>∃ t:Value,e=.returned t/\nC 61 #[t] w1 λ e w2=>∃ t:Sl,e=.returned (.slice t.a t.len t.cap)/\K t w2:=by
 obtain ⟨l,c,hs,hst,hp⟩:=MapAt.iff.1 hw;obtain ⟨D0,hown,hsz,hperm⟩:=Ze8 hs hst hu hn hlen hp.at;refine (callsIn_wide.1 (Tryz.maps_Keys_209 (some m) w)).mono ?_;rintro _ _ ⟨rfl,rfl⟩;refine ⟨_,rfl,?_⟩;refine (callsIn_wide.1 (Tryz.slices_Sorted_keys_61_209 m _ D0 _ w hown (by unfold maxLen;omega) (by omega))).mono ?_;rintro _ w' ⟨v,ss,rfl,hS,hrow,hnil,hb⟩;have hw1:Sat R (MapAt m es::Hs) (w.alloc (.cells #[.map (some m)] 183)):=(Sat.alloc _ hw).drop;obtain ⟨s,rfl,h3⟩:=Sat.ownsRow hw1 hb hrow;refine ⟨s,rfl,k s _ ?_⟩;rw [<-Zd1 (hperm ss hS)];exact h3
theorem ZjR {m:Nat} {es:List (Int × Value)} {S:World->Prop} {K:Sl->World->Prop} (hu:(es.map (·.1)).Nodup) (hn:∀ k∈es.map (·.1),-1000000000<=k/\k<=1000000000) (hlen:es.length<=1000000) (hw:Sat R (MapAt m es::Hs) w)
  (hS:∀ w',Sat R (MapAt m es::Hs) w'->S w')
  (k:∀ s ks w',ks.Perm (es.map (·.1))->Sat R (Own s 3 (Zc ks)::MapAt m es::Hs) w'->K s w'):
  nC 180 #[.map (some m)] w λ e w1=>∃ t:Value,e=.returned t/\S w1/\nC 129 #[t] w1 λ e w2=>∃ t:Sl,e=.returned (.slice t.a t.len t.cap)/\S w2/\K t w2:=by
 obtain ⟨l,c,hs,hst,hp⟩:=MapAt.iff.1 hw;obtain ⟨D0,hown,hsz,hperm⟩:=Ze8 hs hst hu hn hlen hp.at;refine (callsIn_wide.1 (Tryz.maps_Keys_180 (some m) w)).mono ?_;rintro _ _ ⟨rfl,rfl⟩;have hw1:Sat R (MapAt m es::Hs) (w.alloc (.cells #[.map (some m)] 184)):=(Sat.alloc _ hw).drop;refine ⟨_,rfl,hS _ hw1,?_⟩;refine (callsIn_wide.1 (Tryz.slices_Collect_keys_129_180 m _ D0 _ w hown (by unfold maxLen;omega) (by omega))).mono ?_;rintro _ w' ⟨v,ss,rfl,hS2,hrow,hnil,hb⟩;obtain ⟨s,rfl,h3⟩:=Sat.ownsRow hw1 hb hrow;exact ⟨s,rfl,hS _ h3.drop,k s ss _ (hperm ss hS2) h3⟩
theorem Zo4 {n:Int} {g a b:List Int} {many:Int} (h:a.Perm b):Z0 n g a many=Z0 n g b many:=by
 have:Za6 a=Za6 b:=by
  funext j
  unfold Za6;rw [decide_eq_decide];exact h.mem_iff
 unfold Z0;rw [this]
theorem ZoP {u:Nat->Bool} {N i j:Nat} (hj:j<(ZF u N).length) (hij:i<j):(ZF u N)[i]<(ZF u N)[j]:=by
 have h1:=ZcA (List.getElem?_eq_getElem (show i<(ZF u N).length by omega));have h2:=ZcA (List.getElem?_eq_getElem hj);by_cases h:(ZF u N)[i]<(ZF u N)[j]
 ·exact h
 ·exfalso
  have h3:=Zmo (u:=u) (j:=(ZF u N)[j]) ((ZF u N)[i] - (ZF u N)[j]);rw [show (ZF u N)[j] + ((ZF u N)[i] - (ZF u N)[j])=(ZF u N)[i] by omega,h1.2.2,h2.2.2] at h3;omega
theorem ZmB (u z:Nat->Bool) (N many:Nat):(∃ k,(Zc8 u z N many).1=ZhM k many)\/(Zc8 u z N many).1=[]\/(Zc8 u z N many).1=(ZF u N).take many:=by
 unfold Zc8;split
 ·exact .inl ⟨_,rfl⟩
 ·split
  ·exact .inr (.inl rfl)
  ·exact .inr (.inr rfl)
theorem ZkD {l:List Nat} (h:∀ i j (hj:j<l.length) (hij:i<j),l[i]<l[j]):Zpc (l.map λ (j:Nat)=>(j:Int)):=λ i j hj hij=>by
 rw [List.length_map] at hj;simp only [List.getElem_map];have:=h i j hj hij;omega
theorem Zlr {n:Int} {g taken:List Int} {many:Int}:Zpc (Z0 n g taken many).1:=by
 unfold Z0;split
 ·intro i j hj hij;simp at hj
 ·dsimp only
  rcases ZmB (Za6 taken) (zF g) (Zaw n g).toNat many.toNat with ⟨k,h⟩|h|h
  ·rw [h]
   exact ZkD λ i j hj hij=>by simp only [ZhM,List.getElem_map,List.getElem_range];omega
  ·rw [h];intro i j hj hij;simp at hj
  ·rw [h]
   exact ZkD λ i j hj hij=>by
    rw [List.length_take] at hj;simp only [List.getElem_take];exact ZoP (by omega) hij
theorem ZnJ {n:Int} {g taken:List Int} {many:Int}:(Z0 n g taken many).1.length<=600:=by
 have hb:=ZbR n g;unfold Z0;split
 ·simp
 rename_i hm;simp only [List.length_map];unfold Zc8;split
 ·rw [Zgl];omega
 ·split
  ·simp
  ·simp only [List.length_take];omega
theorem Zgx {n:Int}:∀ {l:List Int},(∀ x∈l,x<n)->Zdt n l=l++[n]
 |[],_=>rfl
 |x::l,h=>by
  unfold Zdt;rw [if_pos (h x List.mem_cons_self),Zgx λ y hy=>h y (List.mem_cons_of_mem _ hy)];rfl
theorem ZpX {l:List Int} (h:Zpc l) (j:Nat):Zpc (l.take j):=λ i k hk hik=>by
 rw [List.length_take] at hk;simp only [List.getElem_take];exact h i k (by omega) hik
theorem Zsx {l:List Int} (h:Zpc l) {j:Nat} (hj:j<l.length):Zdt l[j] (l.take j)=l.take (j + 1):=by
 rw [Zgx,List.take_add_one,List.getElem?_eq_getElem hj,Option.toList_some];intro x hx;obtain ⟨i,hi,rfl⟩:=List.getElem_of_mem hx;rw [List.length_take] at hi;rw [List.getElem_take];exact h i j hj (by omega)
def ZdB (o:Int) (l:List Int) (own:List (Int × Int)):List (Int × Int):=l.foldl (λ p n=>ZeN n o p) own
def Zgj (f:PF) (owner:Int):PF × List ByteArray × Int:=
 match ZH owner f.hs with
 |none=>(f,[],2)
 |some h=>if h.seats.length>0 then (f,[],7)
  else ({ f with hs:=Zf4 owner { h with seats:=(Z0 f.rows f.grps (f.own.map (·.1)) h.many).1 } f.hs,own:=ZdB h.owner (Z0 f.rows f.grps (f.own.map (·.1)) h.many).1 f.own },
   Za3 f.rows f.grps (Z0 f.rows f.grps (f.own.map (·.1)) h.many).1,(Z0 f.rows f.grps (f.own.map (·.1)) h.many).2)
theorem Zo6 {p:Nat} {f:PF} {owner:Int} (hgl:f.grps.length<=1000) (hu:(f.own.map (·.1)).Nodup) (hk:∀ k∈f.own.map (·.1),-1000000000<=k/\k<=1000000000) (hol:f.own.length<=1000000) (hw:Sat R (ZD p f::Hs) w):
  Zk prog 107 #[nP p,nI owner] w λ v w'=>∃ t:Sl,v=.tuple #[.slice t.a t.len t.cap,nI (Zgj f owner).2.2]/\Sat R (Own t 9 ((Zgj f owner).2.1.map Value.string)::ZD p (Zgj f owner).1::Hs) w':=by
 obtain ⟨hm,om,sg,sl,ss,E,R',hE,_,rg,_,_,hw,back⟩:=Sat.flightO hw;have rgo:RoI R' sg f.grps:=rg.ro;apply ZwO;refine Zb.mk rfl ⟨some hm,oA hw,(ZH owner E).map (λ x=>⟨x.1,0,none⟩),(ZH owner E).isSome,λ w' e=>by rw [show w'=w from e];exact Zc0 (hw.take (MapAt hm (ZZ E))) owner true,?_⟩
 cases hget:ZH owner E with
 |none=>
  have e:Zgj f owner=(f,[],2):=by unfold Zgj;rw [<-hE,ZbS,hget];rfl
  rw [e];exact Br.t rfl ⟨⟨none,0,0⟩,rfl,Own.nil (Sat.flightC hE (back _ _ hw))⟩
 |some x=>
  obtain ⟨b,h⟩:=x;have hgf:ZH owner f.hs=some h:=by rw [<-hE,ZbS,hget];rfl
  obtain ⟨a,c,rfl,hna⟩:=ZaL hget;refine Br.f rfl (Zb.mk rfl ?_);obtain ⟨s,hw⟩:=FO.open hw;have hsl:=Own.len (hw.take (Own s 3 (Zc h.seats)));rw [List.length_map] at hsl;refine ⟨s,oA hw,Br.d (λ h1=>?_) (λ h1=>?_)⟩
  ·have e:Zgj f owner=(f,[],7):=by unfold Zgj;rw [hgf];dsimp only;rw [if_pos (by omega)]
   rw [e];exact ⟨⟨none,0,0⟩,rfl,Own.nil (Sat.flightC hE (back _ _ (FO.close hw)))⟩
  have hse:h.seats=[]:=List.length_eq_zero_iff.1 (by omega);have e:Zgj f owner=({ f with hs:=Zf4 owner { h with seats:=(Z0 f.rows f.grps (f.own.map (·.1)) h.many).1 } f.hs,own:=ZdB h.owner (Z0 f.rows f.grps (f.own.map (·.1)) h.many).1 f.own },
   Za3 f.rows f.grps (Z0 f.rows f.grps (f.own.map (·.1)) h.many).1,(Z0 f.rows f.grps (f.own.map (·.1)) h.many).2):=by unfold Zgj;rw [hgf];dsimp only;rw [if_neg (by omega)]
  rw [e];refine Zq hw λ w hw=>?_;refine Zb.mk rfl ⟨f.rows,sg,oS,Zb.mk rfl ⟨some om,oS,Zb.mk rfl ⟨h.many,oS,?_⟩⟩⟩;have hown:(Zbz f.own).map (·.1)=f.own.map (·.1):=by simp [Zbz,Function.comp_def]
  refine ZjR (es:=Zbz f.own) (by rw [hown];exact hu) (by rw [hown];exact hk) (by rw [List.length_map];exact hol) (hw.take (MapAt om (Zbz f.own)))
   (λ w' h5=>((((h5.take (MapAt hm (ZZ (a++(owner,b,h)::c)))).take (pts p (Zan f sg sl ss hm om))).take (ZU (a++c))).take (Own s 3 (Zc h.seats))).take (pts b (Zal h s))|>.perm (by
    refine List.Perm.cons _ (List.Perm.cons _ (List.Perm.cons _ (List.Perm.cons _ (List.Perm.refl _))))))
   λ tk ks w hks hw=>?_
  rw [hown] at hks;obtain ⟨R2,hro,hmono,hw2,back2⟩:=Own.lend hw (by rw [List.length_map];have:=hks.length_eq;rw [List.length_map] at this;omega);refine (ZrR (taken:=ks) (hmono _ _ rgo) hro hw2).use ?_;clear hw hw2;rintro _ w ⟨t,rfl,hw⟩;have hw:=(back2 hw).drop;rw [Zo4 hks] at hw ⊢;have hri:=Zlr (n:=f.rows) (g:=f.grps) (taken:=f.own.map (·.1)) (many:=h.many);have hln:=ZnJ (n:=f.rows) (g:=f.grps) (taken:=f.own.map (·.1)) (many:=h.many);generalize Z0 f.rows f.grps (f.own.map (·.1)) h.many=r at *;refine ⟨_,_,rfl,?_,?_⟩
  ·exact ((((hw.drop.take (MapAt hm (ZZ (a++(owner,b,h)::c)))).take (pts p (Zan f sg sl ss hm om))).take (ZU (a++c))).take (Own s 3 (Zc h.seats))).take (pts b (Zal h s))|>.perm (by
    refine List.Perm.cons _ (List.Perm.cons _ (List.Perm.cons _ (List.Perm.cons _ (List.Perm.refl _)))))
  obtain ⟨R3,e3,ht,hw,back3⟩:=Zt.out hw;have hto:RoI R3 t r.1:=ht.ro;have htl:=hto.len;have hw:Sat R3 (FO p hm om sg sl ss (a++(owner,b,h)::c) f Hs) w:=FO.close (((((hw.take (MapAt hm (ZZ (a++(owner,b,h)::c)))).take (pts p (Zan f sg sl ss hm om))).take (ZU (a++c))).take (Own s 3 (Zc h.seats))).take (pts b (Zal h s))|>.perm (by
    refine List.Perm.cons _ (List.Perm.cons _ (List.Perm.cons _ (List.Perm.cons _ (List.Perm.refl _))))))
  refine ⟨λ i w=>∃ j:Nat,i=j/\j<=r.1.length/\Sat R3 (FO p hm om sg sl ss (a++(owner,b,{ h with seats:=r.1.take j })::c) { f with own:=ZdB h.owner (r.1.take j) f.own } Hs) w,λ i _=>r.1.length - i.toNat,⟨0,rfl,by omega,?_⟩,?_⟩
  ·have eh:({ h with seats:=r.1.take 0 }:Zu)=h:=by rw [List.take_zero,<-hse]
   rw [eh];exact hw
  clear hw;rintro _ _ w ⟨j,rfl,hj,hw⟩;refine Br.d (λ h2=>?_) (λ h2=>?_)
  ·have hj2:j<r.1.length:=by omega
   refine Ro.ix hto (eqS hw) j rfl hj2 ?_;refine (Zkb (h:={ h with seats:=r.1.take j }) (ZpX hri j) (by simp only [List.length_take];omega) hw).use ?_;rintro _ w ⟨rfl,hw⟩;rw [Zd];refine ⟨rfl,⟨j + 1,by omega,by omega,?_⟩,by dsimp only;omega⟩;have eh:Zu.put { h with seats:=r.1.take j } r.1[j]={ h with seats:=r.1.take (j + 1) }:=by unfold Zu.put;rw [Zsx hri hj2]
   have eo:ZeN r.1[j] h.owner (ZdB h.owner (r.1.take j) f.own)=ZdB h.owner (r.1.take (j + 1)) f.own:=by
    unfold ZdB;rw [List.take_add_one,List.getElem?_eq_getElem hj2,Option.toList_some,List.foldl_append];rfl
   rw [eh] at hw;rw [<-eo];exact hw
  ·rw [List.take_of_length_le (by omega)] at hw
   refine (Zhh (f:=f) (hm:=hm) (om:=om) (sg:=sg) (sl:=sl) (ss:=ss) (e3.ro rgo) hto (by omega) hw).use ?_;rintro _ w ⟨t2,rfl,hw⟩;refine ⟨t2,rfl,t2,rfl,?_⟩;have hw:=(back3 _ _ hw).drop;have hw:=back _ _ hw;refine Sat.cons (λ R5 h5=>?_) (hw.take (Own t2 9 ((Za3 f.rows f.grps r.1).map Value.string)));refine Sat.flight.2 ⟨hm,om,sg,sl,ss,a++(owner,b,{ h with seats:=r.1 })::c,?_,h5⟩;show _=Zf4 owner _ f.hs;rw [<-hE,Zdk,Zdk,Zgo (by rw [ZbS,hna];rfl) (ZfQ owner)]
theorem Zn2 {s t:Sl} {a b:List Int} (hs:RoI R s a) (ht:RoI R t b) (hw:Sat R Hs w):
  Zk prog 44 #[.slice s.a s.len s.cap,.slice t.a t.len t.cap] w λ v w'=>v=.bool (decide (a=b))/\Sat R Hs w':=by
 have hsl:=hs.len;have htl:=ht.len;have hbd:=hs.bound;apply Zx9;refine Br.ne (λ h=>⟨?_,hw⟩) (λ h=>?_)
 ·rw [decide_eq_false λ e=>h (by rw [hsl,htl,e])]
 have hl:a.length=b.length:=by omega
 refine ⟨λ i w=>∃ j:Nat,i=j/\j<=a.length/\a.take j=b.take j/\Sat R Hs w,λ i _=>a.length - i.toNat,⟨0,rfl,by omega,by simp,hw⟩,?_⟩;clear hw;rintro _ _ w ⟨j,rfl,hj,hn,hw⟩;refine Br.d (λ h=>?_) (λ h=>?_)
 ·have hj2:j<a.length:=by omega
  have hj3:j<b.length:=by omega
  refine Zq hw λ w hw=>?_;refine hs.idx ZbK hj2 (ht.idx ZbK hj3 ?_);refine Br.ne (λ h=>⟨?_,hw⟩) (λ h=>?_)
  ·rw [decide_eq_false];rintro rfl;exact h rfl
  ·rw [Zd]
   refine ⟨⟨j + 1,by omega,by omega,?_,hw⟩,by dsimp only;omega⟩;rw [List.take_add_one,List.take_add_one,List.getElem?_eq_getElem hj2,List.getElem?_eq_getElem hj3,hn,h]
 ·rw [List.take_of_length_le (by omega),List.take_of_length_le (by omega)] at hn
  rw [decide_eq_true hn];exact ⟨rfl,hw⟩
abbrev ZyB (l:List ByteArray):List Value:=l.map Value.string
theorem Zn1 {s t:Sl} {a b:List ByteArray} (hs:Ro R s (ZyB a)) (ht:Ro R t (ZyB b)) (hw:Sat R Hs w):
  Zk prog 45 #[.slice s.a s.len s.cap,.slice t.a t.len t.cap] w λ v w'=>v=.bool (decide (a=b))/\Sat R Hs w':=by
 have hsl:=hs.len;have htl:=ht.len;have hbd:=hs.bound;rw [List.length_map] at hsl htl hbd;apply Zx8;refine Br.ne (λ h=>⟨?_,hw⟩) (λ h=>?_)
 ·rw [decide_eq_false λ e=>h (by rw [hsl,htl,e])]
 have hl:a.length=b.length:=by omega
 refine ⟨λ i w=>∃ j:Nat,i=j/\j<=a.length/\a.take j=b.take j/\Sat R Hs w,λ i _=>a.length - i.toNat,⟨0,rfl,by omega,by simp,hw⟩,?_⟩;clear hw;rintro _ _ w ⟨j,rfl,hj,hn,hw⟩;refine Br.d (λ h=>?_) (λ h=>?_)
 ·have hj2:j<a.length:=by omega
  have hj3:j<b.length:=by omega
  refine Zq hw λ w hw=>?_;refine hs.idxStr ZbK hj2 (ht.idxStr ZbK hj3 ?_);refine Br.sne (λ h=>⟨?_,hw⟩) (λ h=>?_)
  ·rw [decide_eq_false];rintro rfl;exact h rfl
  ·rw [Zd]
   refine ⟨⟨j + 1,by omega,by omega,?_,hw⟩,by dsimp only;omega⟩;rw [List.take_add_one,List.take_add_one,List.getElem?_eq_getElem hj2,List.getElem?_eq_getElem hj3,hn,h]
 ·rw [List.take_of_length_le (by omega),List.take_of_length_le (by omega)] at hn
  rw [decide_eq_true hn];exact ⟨rfl,hw⟩
theorem Znk {n x:Int}:∀ {A:List Int},(∀ y∈A,y<n)->n<x->Zdt n (A++[x])=A++[n,x]
 |[],_,h=>by
  show Zdt n [x]=_;unfold Zdt;rw [if_neg (by omega)];rfl
 |y::A,hA,h=>by
  show Zdt n (y::(A++[x]))=_;unfold Zdt;rw [if_pos (hA y List.mem_cons_self),Znk (λ z hz=>hA z (List.mem_cons_of_mem _ hz)) h];rfl
theorem Zk5 {n x:Int}:∀ {A:List Int},(∃ y∈A,¬ y<n)->Zdt n (A++[x])=Zdt n A++[x]
 |[],h=>by obtain ⟨y,hy,_⟩:=h;cases hy
 |y::A,h=>by
  show Zdt n (y::(A++[x]))=Zdt n (y::A)++[x];unfold Zdt;by_cases hy:y<n
  ·rw [if_pos hy,if_pos hy,Zk5]
   ·rfl
   ·obtain ⟨z,hz,hz2⟩:=h
    rcases List.mem_cons.1 hz with rfl|hz
    ·exact absurd hy hz2
    ·exact ⟨z,hz,hz2⟩
  ·rw [if_neg hy,if_neg hy];rfl
theorem Zgw (n:Int):∀ l:List Int,(Zdt n l).length=l.length + 1
 |[]=>rfl
 |x::l=>by
  unfold Zdt;split
  ·simp only [List.length_cons,Zgw n l]
  ·rfl
theorem ZpP {s:Sl} {l:List Int} {n:Int} (hs:RoI R s l) (hl:l.length<=1000000) (hno:n ∉ l) (hw:Sat R Hs w):
  Zk prog 198 #[.slice s.a s.len s.cap,nI n] w λ v w'=>∃ t:Sl,v=.slice t.a t.len t.cap/\Sat R (Own t 3 (Zc (Zdt n l))::Hs) w':=by
 have hsl:=hs.len;apply ZvN;refine ⟨λ out dn i w=>∃ j:Nat,i=j/\j<=l.length/\(if dn then (∃ y∈l.take j,¬ y<n)/\Sat R (Own out 3 (Zc (Zdt n (l.take j)))::Hs) w else (∀ y∈l.take j,y<n)/\Sat R (Own out 3 (Zc (l.take j))::Hs) w),
  λ _ _ i _=>l.length - i.toNat,⟨0,rfl,by omega,by rw [if_neg (by simp)];exact ⟨by simp,Own.nil hw⟩⟩,?_⟩
 clear hw;rintro _ out dn _ w ⟨j,rfl,hj,hst⟩;refine Br.d (λ h=>?_) (λ h=>?_)
 ·have hj2:j<l.length:=by omega
  have htk:l.take (j + 1)=l.take j++[l[j]]:=by rw [List.take_add_one,List.getElem?_eq_getElem hj2];rfl
  have htl:(l.take j).length=j:=by rw [List.length_take];omega
  have hne:l[j]≠n:=λ e=>hno (by rw [<-e];exact List.getElem_mem _);rw [Zd];cases dn with
  |false=>
   rw [if_neg (by simp)] at hst;obtain ⟨hlt,hw⟩:=hst;refine Br.t rfl ?_;refine Ro.ix hs (eqS hw) j rfl hj2 ?_;refine Br.d (λ h2=>?_) (λ h2=>?_)
   ·refine ZaJ ZiC hw (by omega) λ t w hw=>?_
    refine Ro.ix hs (eqS hw) j rfl hj2 ?_;refine ZaJ ZiC hw (by rw [List.length_append,htl];simp;omega) λ t w hw=>?_;refine ⟨⟨j + 1,by omega,by omega,?_⟩,by dsimp only;omega⟩;rw [if_pos rfl,htk,Znk hlt (by omega)];refine ⟨⟨l[j],List.mem_append_right _ (List.mem_singleton.2 rfl),by omega⟩,?_⟩;rw [List.append_assoc] at hw;exact hw
   ·refine Ro.ix hs (eqS hw) j rfl hj2 ?_
    refine ZaJ ZiC hw (by omega) λ t w hw=>?_;refine ⟨⟨j + 1,by omega,by omega,?_⟩,by dsimp only;omega⟩;rw [if_neg (by simp),htk];refine ⟨λ y hy=>?_,hw⟩;rcases List.mem_append.1 hy with hy|hy
    ·exact hlt y hy
    ·rw [List.mem_singleton.1 hy];omega
  |true=>
   rw [if_pos rfl] at hst;obtain ⟨hex,hw⟩:=hst;refine Br.f rfl ?_;refine Ro.ix hs (eqS hw) j rfl hj2 ?_;refine ZaJ ZiC hw (by rw [Zgw,htl];omega) λ t w hw=>?_;refine ⟨⟨j + 1,by omega,by omega,?_⟩,by dsimp only;omega⟩;rw [if_pos rfl,htk,Zk5 hex];obtain ⟨y,hy,hy2⟩:=hex;exact ⟨⟨y,List.mem_append_left _ hy,hy2⟩,hw⟩
 ·rw [List.take_of_length_le (show l.length<=j by omega)] at hst
  cases dn with
  |false=>
   rw [if_neg (by simp)] at hst;refine Br.t rfl ?_;refine ZaJ ZiC hst.2 (by omega) λ t w hw=>?_;rw [Zgx hst.1];exact ⟨t,rfl,hw⟩
  |true=>
   rw [if_pos rfl] at hst;exact Br.f rfl ⟨out,rfl,hst.2⟩
theorem ZbX {n:Nat} (hn:n<18446744073709551616) (hw:Sat R Hs w):
  Zk prog 137 #[.int .u64 n] w λ v w'=>∃ t:Sl,v=.slice t.a t.len t.cap/\Sat R (Own t 5 (b8 (ZeO n))::Hs) w':=by
 apply Zwo;have h8:=Zfi hn;refine ⟨λ x out w=>∃ (m:Nat) (ds:List Int),x=m/\m<=n/\dig m++ds=dig n/\Sat R (Own out 5 (b8 ds)::Hs) w,λ x _ _=>x.toNat,⟨n,[],rfl,by omega,by simp,Own.nil hw⟩,?_⟩;clear hw;rintro _ _ out w ⟨m,ds,rfl,hm,he,hw⟩;have hdl:ds.length<=8:=by rw [<-he,List.length_append] at h8;omega
 refine Br.d (λ h=>?_) (λ h=>?_)
 ·have e1:IntKind.u8.wrap ((m:Int).tmod 256)=((m % 256:Nat):Int):=by
   rw [show (m:Int).tmod 256=((m % 256:Nat):Int) from (Int.ofNat_tmod m 256).symm,Zj5 (by omega) (by omega)]
  have e2:IntKind.u64.wrap ((m:Int).tdiv 256)=((m / 256:Nat):Int):=by
   rw [show (m:Int).tdiv 256=((m / 256:Nat):Int) from (Int.ofNat_tdiv m 256).symm,Zar]
  rw [e1,e2];refine Za hw λ b w hw=>?_;have hw:Sat R (Own ⟨some ⟨b,0,none⟩,1,1⟩ 5 (b8 [((m % 256:Nat):Int)])::Own out 5 (b8 ds)::Hs) w:=Za0 hw;refine Zaz ZhK (s:=⟨some ⟨b,0,none⟩,1,1⟩) (n:=9) underlying47 hw (by simp;omega) (by omega) (by omega) λ s' w hw=>?_;refine ⟨⟨m / 256,[((m % 256:Nat):Int)]++ds,rfl,by omega,?_,hw.cons λ _ h=>h.drop⟩,by dsimp only;omega⟩;rw [<-List.append_assoc,<-Zdn (by omega)];exact he
 ·have hm0:m=0:=by omega
  subst hm0;rw [ZbH,List.nil_append] at he;have hol:out.len=ds.length:=by have:=Own.len hw;simpa using this
  have e1:IntKind.u8.wrap (out.len:Int)=((dig n).length:Int):=by rw [Zj5 (by omega) (by omega),hol,he]
  rw [e1];refine Za hw λ b w hw=>?_;have hw:Sat R (Own ⟨some ⟨b,0,none⟩,1,1⟩ 5 (b8 [((dig n).length:Int)])::Own out 5 (b8 ds)::Hs) w:=Za0 hw;refine Zaz ZhK (s:=⟨some ⟨b,0,none⟩,1,1⟩) (n:=9) underlying47 hw (by simp;omega) (by omega) (by omega) λ s' w hw=>?_;have e2:ZeO n=[((dig n).length:Int)]++ds:=by rw [he];rfl
  rw [e2];exact ⟨s',rfl,hw.cons λ _ h=>h.drop⟩
theorem ZlL {s:Sl} {bs:List Int} (hs:Ro R s (b8 bs)) (hl:bs.length<=1099511627776) (hw:Sat R Hs w):
  Zk prog 68 #[.slice s.a s.len s.cap] w λ v w'=>∃ t:Sl,v=.slice t.a t.len t.cap/\Sat R (Own t 5 (b8 (Zca bs))::Hs) w':=by
 have hlen:s.len=bs.length:=by have:=hs.len;simpa using this
 apply ZxO;unfold B68;rw [Zar,hlen];refine (ZbX (by omega) hw).u1 λ t w hw=>?_;refine ⟨t,rfl,?_⟩;rw [<-hlen];have hn:=Zbd (n:=bs.length) (by omega);refine Zel ZhK (n:=1099511627790) underlying47 hw hs (by omega) (by omega) (by omega) λ s2 w hw=>?_;exact ⟨s2,rfl,hw⟩
def Zi (l:List Int):List Int:=(l.map λ x=>ZeO x.toNat).flatten
theorem Zij {l:List Int} {k:Nat} (hk:k<l.length):Zi (l.take (k + 1))=Zi (l.take k)++ZeO l[k].toNat:=by
 unfold Zi;rw [List.take_add_one,List.getElem?_eq_getElem hk,List.map_append,List.flatten_append];simp only [Option.toList_some,List.map_cons,List.map_nil,List.flatten_cons,List.flatten_nil,List.append_nil]
theorem ZI:∀ {l:List Int},(∀ x∈l,0<=x/\x<18446744073709551616)->(Zi l).length<=9 * l.length
 |[],_=>by simp [Zi]
 |x::l,h=>by
  have h1:=h x (List.mem_cons_self ..);have:=Zbd (n:=x.toNat) (by omega);have h2:=ZI (l:=l) λ y hy=>h y (List.mem_cons_of_mem _ hy);unfold Zi at h2 ⊢;rw [List.map_cons,List.flatten_cons,List.length_append,List.length_cons];omega
theorem Zeb:∀ {l:List Int},(∀ x∈l,0<=x/\x<18446744073709551616)->∀ y∈Zi l,0<=y/\y<256
 |[],_=>by simp [Zi]
 |x::l,h=>λ y hy=>by
  have h1:=h x (List.mem_cons_self ..);unfold Zi at hy;rw [List.map_cons,List.flatten_cons,List.mem_append] at hy;rcases hy with hy|hy
  ·exact Zut (n:=x.toNat) (by omega) y hy
  ·exact Zeb (λ y hy=>h y (List.mem_cons_of_mem _ hy)) y hy
theorem ZdF (a b:List Int):Zi (a++b)=Zi a++Zi b:=by simp [Zi]
def Zgd (p:Nat) (bs:List Int):HP:=exs λ s:Sl=>ZhI [lp p s,Own s 5 (b8 bs)]
theorem Sat.outB {p:Nat} {bs:List Int}:Sat R (Zgd p bs::Hs) w↔∃ s:Sl,Sat R (lp p s::Own s 5 (b8 bs)::Hs) w:=by
 unfold Zgd;rw [Sat.exs];exact ⟨λ⟨s,h⟩=>⟨s,Sat.star.1 h⟩,λ⟨s,h⟩=>⟨s,Sat.star.2 h⟩⟩
theorem Zub {f:FuncId} {p:Nat} {s:Sl} {xs bs:List Int} (hxs:∀ x∈xs,0<=x/\x<9223372036854775808) (hl:bs.length + 9 * xs.length<=1099511627776) (hs:RoI R s xs) (hw:Sat R (Zgd p bs::Hs) w)
  (hf:∀ {K:Value->World->Prop} {w:World},B132 s (some ⟨p,0,none⟩) K w->Zk prog f #[.slice s.a s.len s.cap,nP p] w K):
  Zk prog f #[.slice s.a s.len s.cap,nP p] w λ v w'=>v=.tuple #[]/\Sat R (Zgd p (bs++Zi xs)::Hs) w':=by
 have hlen:=hs.len;apply hf;refine ⟨λ i w=>∃ k:Nat,i=k/\k<=xs.length/\Sat R (Zgd p (bs++Zi (xs.take k))::Hs) w,λ i _=>xs.length - i.toNat,⟨0,rfl,by omega,by simpa [Zi] using hw⟩,?_⟩;clear hw;rintro _ _ w ⟨k,rfl,hk,hw⟩;refine Br.d (λ h=>?_) (λ h=>?_)
 ·have hkx:k<xs.length:=by omega
  have hx:=hxs xs[k] (List.getElem_mem _);have hxt:∀ x∈xs.take k,0<=x/\x<18446744073709551616:=λ x hx=>by have:=hxs x (List.mem_of_mem_take hx);omega
  have hnl:=ZI hxt;rw [List.length_take] at hnl;refine hs.idx (eqS hw) hkx ?_;obtain ⟨s0,hw⟩:=Sat.outB.1 hw;refine Za7 hw λ w hw=>?_;refine Zb.mk rfl ⟨s0,oS,?_⟩;obtain ⟨n,hn⟩:=Int.eq_ofNat_of_zero_le hx.1;rw [hn,Zar];refine (Zct (by omega) hw).u1 λ t w hw=>?_;refine ⟨t,rfl,hw.absorb,?_⟩;have hw:Sat R (Own s0 5 (b8 (bs++Zi (xs.take k)))::Own t 5 (b8 (ZeO n))::lp p s0::VC.tru::Hs) w:=hw.arr;have hnb:=Zbd (n:=n) (by omega);refine Zaz ZhK (s:=s0) (n:=1099511627790) underlying47 hw (by rw [List.length_append];omega) (by omega) (by omega) λ s2 w hw=>?_;have hw:Sat R (lp p s0::Own s2 5 (b8 (bs++Zi (xs.take k)++ZeO n))::Hs) w:=by
   have h:Sat R (Own t 5 (b8 (ZeO n))::VC.tru::lp p s0::Own s2 5 (b8 (bs++Zi (xs.take k)++ZeO n))::Hs) w:=hw.arr;exact h.drop.drop
  refine sRu hw λ w hw=>?_;have hw:=hw.re (lp p s2);rw [Zd];refine ⟨⟨k + 1,by omega,by omega,Sat.outB.2 ⟨s2,?_⟩⟩,by dsimp only;omega⟩;rw [Zij hkx,hn,Int.toNat_natCast,<-List.append_assoc];exact hw
 ·have:k=xs.length:=by omega
  subst this;rw [List.take_length] at hw;exact ⟨rfl,hw⟩
theorem Zlg {p:Nat} {s:Sl} {xs bs:List Int} (hxs:∀ x∈xs,0<=x/\x<9223372036854775808) (hl:bs.length + 9 * xs.length<=1099511627776) (hs:RoI R s xs) (hw:Sat R (Zgd p bs::Hs) w):
  Zk prog 132 #[.slice s.a s.len s.cap,nP p] w λ v w'=>v=.tuple #[]/\Sat R (Zgd p (bs++Zi xs)::Hs) w':=
 Zub hxs hl hs hw λ h=>Zws _ _ _ _ h
theorem Zcc {s:Sl} {xs:List Int} (hxs:∀ x∈xs,0<=x/\x<9223372036854775808) (hl:9 * xs.length<=1099511627776) (hs:RoI R s xs) (hw:Sat R Hs w):
  Zk prog 138 #[.slice s.a s.len s.cap] w λ v w'=>∃ t:Sl,v=.slice t.a t.len t.cap/\Sat R (Own t 5 (b8 (Zi xs))::Hs) w':=by
 have hlen:=hs.len;apply Zwn;refine ⟨λ out i w=>∃ k:Nat,i=k/\k<=xs.length/\Sat R (Own out 5 (b8 (Zi (xs.take k)))::Hs) w,λ _ i _=>xs.length - i.toNat,⟨0,rfl,by omega,Own.nil hw⟩,?_⟩;clear hw;rintro _ out _ w ⟨k,rfl,hk,hw⟩;refine Br.d (λ h=>?_) (λ h=>?_)
 ·have hkx:k<xs.length:=by omega
  have hx:=hxs xs[k] (List.getElem_mem _);have hxt:∀ x∈xs.take k,0<=x/\x<18446744073709551616:=λ x hx=>by have:=hxs x (List.mem_of_mem_take hx);omega
  have hnl:=ZI hxt;rw [List.length_take] at hnl;refine Ro.ix hs (eqS hw) k rfl hkx ?_;obtain ⟨n,hn⟩:=Int.eq_ofNat_of_zero_le hx.1;rw [hn,Zar];refine (ZbX (by omega) hw).u1 λ t w hw=>?_;refine ⟨t,rfl,?_⟩;have hnb:=Zbd (n:=n) (by omega);refine Zaz ZhK (s:=out) (n:=1099511627790) underlying47 hw.swap (by omega) (by omega) (by omega) λ s2 w hw=>?_;rw [Zd];refine ⟨⟨k + 1,by omega,by omega,?_⟩,by dsimp only;omega⟩;rw [Zij hkx,hn,Int.toNat_natCast];exact hw.swap.drop
 ·rw [List.take_of_length_le (by omega)] at hw
  exact ⟨out,rfl,hw⟩
def Zgq (h:Zu) (t:Sl):List Value:=[nI h.owner,nI h.cls,nI h.many,.slice t.a t.len t.cap]
def Zap (L:List Zu) (ts:List Sl):List (List Value):=(L.zip ts).map λ x=>Zgq x.1 x.2
def ZV (L:List Zu) (ts:List Sl):List HP:=(L.zip ts).map λ x=>Zt x.2 (Zc x.1.seats)
def ZbN (s:Sl) (L:List Zu):HP:=exs λ ts:List Sl=>ZhI (pur (ts.length=L.length)::Zl 4 s 197 (Zap L ts)::ZV L ts)
theorem Sat.holdsL {s:Sl} {L:List Zu}:Sat R (ZbN s L::Hs) w↔∃ ts:List Sl,ts.length=L.length/\Sat R (Zl 4 s 197 (Zap L ts)::(ZV L ts++Hs)) w:=by
 unfold ZbN;rw [Sat.exs];constructor
 ·rintro ⟨ts,h⟩
  obtain ⟨h1,h2⟩:=Sat.pur.1 (Sat.star.1 h);exact ⟨ts,h1,h2⟩
 ·rintro ⟨ts,h1,h2⟩
  exact ⟨ts,Sat.star.2 (Sat.pur.2 ⟨h1,h2⟩)⟩
structure HsR (R:Cx) (s:Sl) (L:List Zu) (ts:List Sl):Prop where
 len:ts.length=L.length
 rows:RoN 4 R s (Zap L ts)
 seats:∀ i (h:i<L.length) (h':i<ts.length),SlR R.m ts[i] (Zc L[i].seats)
theorem Zh6:∀ {L:List Zu} {ts:List Sl} {R:Cx},ts.length=L.length->Sat R (ZV L ts++Hs) w->∃ R':Cx,R.Ext R'/\(∀ i (h:i<L.length) (h':i<ts.length),SlR R'.m ts[i] (Zc L[i].seats))/\Sat R' Hs w
 |[],_,R,_,hw=>⟨R,Cx.Ext.refl,λ i h=>by simp at h,by simpa [ZV] using hw⟩
 |h::L,[],R,hl,_=>by simp at hl
 |h::L,t::ts,R,hl,hw=>by
  have hw:Sat R (Zt t (Zc h.seats)::(ZV L ts++Hs)) w:=hw;obtain ⟨R1,e1,s1,hw⟩:=Zt.leak hw;obtain ⟨R2,e2,s2,hw⟩:=Zh6 (by simpa using hl) hw;refine ⟨R2,e1.trans e2,λ i h h'=>?_,hw⟩;rcases i with _|i
  ·exact e2.slR s1
  ·exact s2 i (by simpa using h) (by simpa using h')
theorem ZbN.leak {s:Sl} {L:List Zu} (hw:Sat R (ZbN s L::Hs) w):∃ (R':Cx) (ts:List Sl),R.Ext R'/\HsR R' s L ts/\Sat R' Hs w:=by
 obtain ⟨ts,hl,hw⟩:=Sat.holdsL.1 hw;obtain ⟨R1,e1,hr,hw⟩:=Zl.leak hw;obtain ⟨R2,e2,hs,hw⟩:=Zh6 hl hw;exact ⟨R2,ts,e1.trans e2,⟨hl,e2.roN hr,hs⟩,hw⟩
theorem Zcn {L:List Zu} {ts:List Sl} (h:ts.length=L.length):(Zap L ts).length=L.length:=by simp [Zap,h]
theorem ZmZ {L:List Zu} {ts:List Sl} {k:Nat} (h:k<L.length) (h':k<ts.length) (h2:k<(Zap L ts).length):(Zap L ts)[k]=Zgq L[k] ts[k]:=by simp [Zap]
theorem HsR.fld {s:Sl} {L:List Zu} {ts:List Sl} {S:World->Prop} {k j:Nat} {v:Value} (hr:HsR R s L ts) (hS:∀ w,S w->Sat R Hs w) (hk:k<L.length) (hk':k<ts.length) (hv:(Zgq L[k] ts[k])[j]? =some v) {F:Addr->Prop}
  (f:∀ a:Addr,a.spot=none->At S ⟨(a.add (ZaD k 4)).block,(a.add (ZaD k 4)).off + j,none⟩ [v]->F a):Rng (k:Int) s.len (Zb s.a F):=by
 have hl:=Zcn hr.len;refine (hr.rows.reads hS).rng (k:=k) (by omega) λ b off ha hat=>f _ rfl ?_;rw [ZjG];refine hat j [v] ?_;rw [ZmZ hk hk'];obtain ⟨hlt,he⟩:=List.getElem?_eq_some_iff.1 hv;rw [List.drop_eq_getElem_cons hlt,he];exact ⟨rfl,trivial⟩
theorem Zgc (a:Addr) (k:Nat) (h:a.spot=none):Addr.add (Addr.add a (ZaD k 4)) 0=(nO (a.add (ZaD k 4)) 0):=by
 obtain ⟨b,o,s⟩:=a;dsimp only at h;subst h;rw [Zs,Zs]
def Zxv (a b:Zu):Prop:=a.owner=b.owner/\a.cls=b.cls/\a.many=b.many/\a.seats=b.seats
theorem Zs3 {a b:Zu} (h:Zxv a b):a=b:=by
 obtain ⟨h1,h2,h3,h4⟩:=h;cases a;cases b;simp_all
instance:DecidableEq Zu:=λ a b=>decidable_of_iff (a.owner=b.owner/\a.cls=b.cls/\a.many=b.many/\a.seats=b.seats) ⟨Zs3,λ h=>by subst h;exact ⟨rfl,rfl,rfl,rfl⟩⟩
structure RF where
 num:Int
 rows:Int
 grps:List Int
 lims:List Int
 L:List Zu
abbrev Zx (r:RF) (sg sl s:Sl):Obj:=.cells [nI r.num,nI r.rows,.slice sg.a sg.len sg.cap,.slice sl.a sl.len sl.cap,.slice s.a s.len s.cap].toArray 179 (0,0)
def Zcq (owner:Int):List Zu->Nat->Int
 |[],_=>-1
 |h::L,k=>if h.owner=owner then (k:Int) else Zcq owner L (k + 1)
theorem Zdh (owner:Int) (h:Zu) (L:List Zu) (k:Nat):Zcq owner (h::L) k=if h.owner=owner then (k:Int) else Zcq owner L (k + 1):=rfl
end
section
open Go Go.VC Tryz
def Zeo (k:Int):List Zu->Int
 |[]=>0
 |h::L=>(if h.cls=k then h.many else 0) + Zeo k L
def Z2 (n:Nat) (L:List Zu):List Int:=(List.range n).map λ (k:Nat)=>Zeo (k:Int) L
def ZA (L:List Zu):List Int:=L.flatMap Zu.seats
theorem Zc6 (k:Int) (h:Zu) (L:List Zu):Zeo k (h::L)=(if h.cls=k then h.many else 0) + Zeo k L:=rfl
theorem Zej (k:Int):∀ A B:List Zu,Zeo k (A++B)=Zeo k A + Zeo k B
 |[],B=>by simp [Zeo]
 |h::A,B=>by simp only [List.cons_append,Zeo,Zej k A B];omega
theorem Zc5 {k:Int} {A B:List Zu} (h:A.Perm B):Zeo k A=Zeo k B:=by
 induction h with
 |nil=>rfl
 |cons x _ ih=>simp only [Zeo,ih]
 |swap x y l=>simp only [Zeo];exact Int.add_left_comm _ _ _
 |trans _ _ a b=>exact a.trans b
theorem ZaI (n:Nat) (L:List Zu):(Z2 n L).length=n:=by simp [Z2]
theorem ZcV {n k:Nat} {L:List Zu} (h:k<(Z2 n L).length):(Z2 n L)[k]=Zeo (k:Int) L:=by simp [Z2]
theorem Zbo {n k:Nat} {L:List Zu} (h:k<n):(Z2 n L).getD k 0=Zeo (k:Int) L:=by
 rw [List.getD_eq_getElem?_getD,List.getElem?_eq_getElem (by rw [ZaI];exact h),ZcV];rfl
theorem Zkg {n:Nat} {L L':List Zu} {c:Int} {x:Int} (h0:0<=c) (h1:c<n) (hc:Zeo c L'=x) (ho:∀ k:Nat,(k:Int)≠c->Zeo (k:Int) L'=Zeo (k:Int) L):(Z2 n L).set c.toNat x=Z2 n L':=by
 apply List.ext_getElem
 ·simp [Z2]
 ·intro i h2 h3
  rw [List.getElem_set];split
  ·rename_i e
   rw [ZcV];rw [<-hc]
   congr 1
   omega
  ·rename_i e
   rw [ZcV,ZcV];exact (ho i (by omega)).symm
theorem Zdx {n:Nat} {h:Zu} {L L':List Zu} (p:L'.Perm (h::L)) (h0:0<=h.cls) (h1:h.cls<n):(Z2 n L).set h.cls.toNat ((Z2 n L).getD h.cls.toNat 0 + h.many)=Z2 n L':=by
 refine Zkg h0 h1 ?_ λ k hk=>?_
 ·rw [Zbo (by omega),Zc5 p,show ((h.cls.toNat:Nat):Int)=h.cls by omega]
  rw [Zc6,if_pos rfl];omega
 ·rw [Zc5 p]
  show (if h.cls=(k:Int) then h.many else 0) + Zeo (k:Int) L=_
  rw [if_neg (λ e=>hk e.symm)];omega
theorem ZpI {n:Nat} {h:Zu} {L L':List Zu} (p:L'.Perm (h::L)) (h0:0<=h.cls) (h1:h.cls<n):(Z2 n L').set h.cls.toNat ((Z2 n L').getD h.cls.toNat 0 - h.many)=Z2 n L:=by
 refine Zkg h0 h1 ?_ λ k hk=>?_
 ·rw [Zbo (by omega),Zc5 p,show ((h.cls.toNat:Nat):Int)=h.cls by omega]
  show _=(if h.cls=h.cls then h.many else 0) + Zeo h.cls L - h.many
  rw [if_pos rfl];omega
 ·rw [Zc5 p]
  show _=(if h.cls=(k:Int) then h.many else 0) + Zeo (k:Int) L
  rw [if_neg (λ e=>hk e.symm)];omega
def ZbB (o:Int):List Zu->Option Zu
 |[]=>none
 |h::L=>if h.owner=o then some h else ZbB o L
def ZnZ (o:Int) (h':Zu):List Zu->List Zu
 |[]=>[]
 |h::L=>if h.owner=o then h'::L else h::ZnZ o h' L
def ZtK (o:Int):List Zu->List Zu
 |[]=>[]
 |h::L=>if h.owner=o then L else h::ZtK o L
def Zhi (h:Zu):List Zu->List Zu
 |[]=>[h]
 |x::L=>if x.owner<h.owner then x::Zhi h L else h::x::L
theorem Zam (o:Int) (h:Zu) (L:List Zu):ZbB o (h::L)=if h.owner=o then some h else ZbB o L:=rfl
theorem Zcy {o:Int}:∀ {L:List Zu},ZbB o L=none↔∀ h∈L,h.owner≠o
 |[]=>by simp [ZbB]
 |h::L=>by
  rw [Zam];constructor
  ·intro e x hx
   split at e
   ·cases e
   ·rename_i hne
    rcases List.mem_cons.1 hx with rfl|hx
    ·exact hne
    ·exact Zcy.1 e x hx
  ·intro e
   rw [if_neg (e h List.mem_cons_self)];exact Zcy.2 λ x hx=>e x (List.mem_cons_of_mem _ hx)
theorem Zat {o:Int} {h:Zu}:∀ {L:List Zu},ZbB o L=some h->∃ A C,L=A++h::C/\ZbB o A=none/\h.owner=o
 |[],e=>by cases e
 |x::L,e=>by
  rw [Zam] at e;split at e
  ·rename_i hx;cases e;exact ⟨[],L,rfl,rfl,hx⟩
  ·rename_i hx
   obtain ⟨A,C,rfl,hA,ho⟩:=Zat e;exact ⟨x::A,C,rfl,by rw [Zam,if_neg hx];exact hA,ho⟩
theorem Zjx {o:Int} {h:Zu} {C:List Zu} (ho:h.owner=o):∀ {A:List Zu},ZbB o A=none->ZbB o (A++h::C)=some h
 |[],_=>by show ZbB o (h::C)=_;rw [Zam,if_pos ho]
 |x::A,e=>by
  rw [Zam] at e;split at e
  ·cases e
  ·rename_i hx
   show ZbB o (x::(A++h::C))=_;rw [Zam,if_neg hx];exact Zjx ho e
theorem Zde {o:Int} {h h':Zu} {C:List Zu} (ho:h.owner=o):∀ {A:List Zu},ZbB o A=none->ZnZ o h' (A++h::C)=A++h'::C
 |[],_=>by show ZnZ o h' (h::C)=_;unfold ZnZ;rw [if_pos ho];rfl
 |x::A,e=>by
  rw [Zam] at e;split at e
  ·cases e
  ·rename_i hx
   show ZnZ o h' (x::(A++h::C))=_;unfold ZnZ;rw [if_neg hx,Zde ho e];rfl
theorem ZgA {o:Int} {h:Zu} {C:List Zu} (ho:h.owner=o):∀ {A:List Zu},ZbB o A=none->ZtK o (A++h::C)=A++C
 |[],_=>by show ZtK o (h::C)=_;unfold ZtK;rw [if_pos ho];rfl
 |x::A,e=>by
  rw [Zam] at e;split at e
  ·cases e
  ·rename_i hx
   show ZtK o (x::(A++h::C))=_;unfold ZtK;rw [if_neg hx,ZgA ho e];rfl
theorem Zbr {o:Int} {h:Zu} {C:List Zu} (ho:h.owner=o):∀ {A:List Zu} (k:Nat),ZbB o A=none->Zcq o (A++h::C) k=((k + A.length:Nat):Int)
 |[],k,_=>by show Zcq o (h::C) k=_;rw [Zdh,if_pos ho];simp
 |x::A,k,e=>by
  rw [Zam] at e;split at e
  ·cases e
  ·rename_i hx
   show Zcq o (x::(A++h::C)) k=_;rw [Zdh,if_neg hx,Zbr ho (k + 1) e,List.length_cons]
   congr 1;omega
theorem ZbP {o:Int}:∀ {L:List Zu} (k:Nat),ZbB o L=none->Zcq o L k=-1
 |[],_,_=>rfl
 |x::L,k,e=>by
  rw [Zam] at e;split at e
  ·cases e
  ·rename_i hx;rw [Zdh,if_neg hx];exact ZbP (k + 1) e
theorem ZbA (h:Zu):∀ L:List Zu,(Zhi h L).Perm (h::L)
 |[]=>List.Perm.refl _
 |x::L=>by
  unfold Zhi;split
  ·exact ((ZbA h L).cons x).trans (List.Perm.swap _ _ _)
  ·exact List.Perm.refl _
def OwR (L:List Zu):Prop:=L.Pairwise λ a b=>a.owner<b.owner
theorem OwR.ne {L:List Zu} (h:OwR L):L.Pairwise λ a b=>a.owner≠b.owner:=h.imp λ h e=>by omega
theorem Zfe {o:Int} {h:Zu}:∀ {L:List Zu},(L.Pairwise λ a b=>a.owner≠b.owner)->(ZbB o L=some h↔h∈L/\h.owner=o)
 |[],_=>by simp [ZbB]
 |x::L,hp=>by
  obtain ⟨h1,h2⟩:=List.pairwise_cons.1 hp;rw [Zam];split
  ·rename_i hx
   constructor
   ·intro e;cases e;exact ⟨List.mem_cons_self,hx⟩
   ·rintro ⟨hm,ho⟩
    rcases List.mem_cons.1 hm with rfl|hm
    ·rfl
    ·exact absurd (hx.trans ho.symm) (h1 h hm)
  ·rename_i hx
   rw [Zfe h2];constructor
   ·rintro ⟨a,b⟩;exact ⟨List.mem_cons_of_mem _ a,b⟩
   ·rintro ⟨hm,ho⟩
    rcases List.mem_cons.1 hm with rfl|hm
    ·exact absurd ho hx
    ·exact ⟨hm,ho⟩
theorem Zre {o:Int} {A B:List Zu} (p:A.Perm B) (h:A.Pairwise λ a b=>a.owner≠b.owner):ZbB o A=ZbB o B:=by
 have h':B.Pairwise λ a b=>a.owner≠b.owner:=(p.pairwise_iff λ h=>h.symm).1 h;apply Option.ext;intro x;rw [Zfe h,Zfe h',p.mem_iff]
theorem Zk6 {h:Zu}:∀ {L:List Zu},OwR L->ZbB h.owner L=none->OwR (Zhi h L)
 |[],_,_=>by simp [OwR,Zhi]
 |x::L,hp,hn=>by
  obtain ⟨h1,h2⟩:=List.pairwise_cons.1 hp;rw [Zam] at hn;split at hn
  ·cases hn
  rename_i hx;unfold Zhi;split
  ·rename_i hlt
   refine List.pairwise_cons.2 ⟨λ y hy=>?_,Zk6 h2 hn⟩;rcases List.mem_cons.1 ((ZbA h L).mem_iff.1 hy) with rfl|hy
   ·exact hlt
   ·exact h1 y hy
  ·rename_i hlt
   refine List.pairwise_cons.2 ⟨λ y hy=>?_,hp⟩;rcases List.mem_cons.1 hy with rfl|hy
   ·omega
   ·have:=h1 y hy;omega
theorem Zuf {A C:List Zu} {h h':Zu} (ho:h'.owner=h.owner) (hp:OwR (A++h::C)):OwR (A++h'::C):=by
 unfold OwR at *;rw [List.pairwise_append,List.pairwise_cons] at *;refine ⟨hp.1,⟨λ y hy=>by rw [ho];exact hp.2.1.1 y hy,hp.2.1.2⟩,λ a ha b hb=>?_⟩;rcases List.mem_cons.1 hb with rfl|hb
 ·rw [ho];exact hp.2.2 a ha h List.mem_cons_self
 ·exact hp.2.2 a ha b (List.mem_cons_of_mem _ hb)
theorem Zug {A C:List Zu} {h:Zu} (hp:OwR (A++h::C)):OwR (A++C):=by
 unfold OwR at *;rw [List.pairwise_append,List.pairwise_cons] at hp;rw [List.pairwise_append];exact ⟨hp.1,hp.2.1.2,λ a ha b hb=>hp.2.2 a ha b (List.mem_cons_of_mem _ hb)⟩
def RF.sold (r:RF):List Int:=Z2 r.lims.length r.L
def Zw (r:RF) (owner cls many:Int):RF × Int:=
 if owner<1\/owner>28629151 then (r,1) else if (ZbB owner r.L).isSome then (r,7)
 else if (ZaE r.lims r.sold cls many).2=0 then ({ r with L:=Zhi ⟨owner,cls,many,[]⟩ r.L },0) else (r,(ZaE r.lims r.sold cls many).2)
def ZaX (r:RF) (owner:Int):RF × Int:=
 match ZbB owner r.L with
 |none=>(r,2)
 |some _=>({ r with L:=ZtK owner r.L },0)
def ZO (r:RF) (owner:Int) (lab:ByteArray):RF × Int:=
 match ZbB owner r.L with
 |none=>(r,2)
 |some h=>if (Zax r.rows r.grps lab).2≠0 then (r,2) else if (h.seats.length:Int) >= h.many then (r,7)
  else if (Zax r.rows r.grps lab).1∈ZA r.L then (r,3)
  else ({ r with L:=ZnZ owner (h.put (Zax r.rows r.grps lab).1) r.L },0)
def ZM (r:RF) (owner:Int):RF × List ByteArray × Int:=
 match ZbB owner r.L with
 |none=>(r,[],2)
 |some h=>if h.seats.length>0 then (r,[],7)
  else if (Z0 r.rows r.grps (ZA r.L) h.many).2=0 then ({ r with L:=ZnZ owner { h with seats:=(Z0 r.rows r.grps (ZA r.L) h.many).1 } r.L },Za3 r.rows r.grps (Z0 r.rows r.grps (ZA r.L) h.many).1,0)
  else (r,[],(Z0 r.rows r.grps (ZA r.L) h.many).2)
def ZY (r:RF) (owner:Int):List ByteArray:=match ZbB owner r.L with|none=>[]|some h=>Za3 r.rows r.grps h.seats
def Zj (r:RF):List Int:=(List.range r.lims.length).map λ (k:Nat)=>(ZaW r.lims r.sold k).1
structure ZtU (n:Nat) (N:Int) (h:Zu):Prop where
 owner:1<=h.owner/\h.owner<=28629151
 cls:0<=h.cls/\h.cls<n
 many:1<=h.many
 rise:Zpc h.seats
 few:(h.seats.length:Int)<=h.many
 seats:∀ x∈h.seats,0<=x/\x<N
structure ZaP (r:RF):Prop where
 num:1<=r.num/\r.num<=9999
 lay:ZcR r.rows r.grps=true
 nest:Z8 r.lims r.sold=true
 l0:r.lims.getD 0 0=Zaw r.rows r.grps
 rise:OwR r.L
 each:∀ h∈r.L,ZtU r.lims.length (Zaw r.rows r.grps) h
 apart:r.L.Pairwise λ a b=>∀ x∈a.seats,x ∉ b.seats
structure Tie (f:PF) (r:RF):Prop where
 num:f.num=r.num
 rows:f.rows=r.rows
 grps:f.grps=r.grps
 lims:f.lims=r.lims
 sold:f.sold=r.sold
 hs:(f.hs.map (·.2)).Perm r.L
 key:∀ e∈f.hs,e.2.owner=e.1
 own:∀ n o,ZH n f.own=some o↔∃ h∈r.L,h.owner=o/\n∈h.seats
 nod:(f.own.map (·.1)).Nodup
theorem ZmO {o:Int}:∀ {hs:List (Int × Zu)},(∀ e∈hs,e.2.owner=e.1)->ZH o hs=ZbB o (hs.map (·.2))
 |[],_=>rfl
 |e::hs,h=>by
  have h1:=h e List.mem_cons_self;have ih:=ZmO (o:=o) λ x hx=>h x (List.mem_cons_of_mem _ hx);rw [List.map_cons,Zam,h1,<-ih];show (if o==e.1 then some e.2 else ZH o hs)=_
  by_cases he:e.1=o
  ·rw [if_pos he,if_pos (by rw [he];exact beq_self_eq_true o)]
  ·rw [if_neg he,if_neg (by rw [beq_iff_eq];exact λ e'=>he e'.symm)]
variable {f:PF} {r:RF}
theorem Tie.ne (t:Tie f r) (g:OwR r.L):(f.hs.map (·.2)).Pairwise λ a b=>a.owner≠b.owner:=(t.hs.pairwise_iff λ h=>h.symm).2 g.ne
theorem Tie.get (t:Tie f r) (g:OwR r.L) (o:Int):ZH o f.hs=ZbB o r.L:=by
 rw [ZmO t.key,Zre t.hs (t.ne g)]
theorem Tie.taken (t:Tie f r) (n:Int):(ZH n f.own).isSome=true↔n∈ZA r.L:=by
 unfold ZA;rw [List.mem_flatMap,Option.isSome_iff_exists];constructor
 ·rintro ⟨o,h⟩
  obtain ⟨x,hx,_,hn⟩:=(t.own n o).1 h;exact ⟨x,hx,hn⟩
 ·rintro ⟨x,hx,hn⟩
  exact ⟨x.owner,(t.own n x.owner).2 ⟨x,hx,rfl,hn⟩⟩
end
section
open Go Go.VC Tryz
variable {R:Cx} {Hs Rest:List HP} {w:World}
def Zxw:Zu:=⟨0,0,0,[]⟩
def Zen (f:PF) (k:Int):Zu:=(ZH k f.hs).getD Zxw
def Zem (f:PF):List Zu:=(Zgg (f.hs.map (·.1))).map (Zen f)
theorem elH:ElN prog 177 177 197 4 48:=⟨underlying177,⟨_,underlying177⟩,by kernel_rfl⟩
theorem ZbN.nil (hw:Sat R Hs w):Sat R (ZbN ⟨none,0,0⟩ []::Hs) w:=Sat.holdsL.2 ⟨[],rfl,Zl.nil hw⟩
theorem Zoc {L:List Zu} {ts:List Sl} (hl:ts.length=L.length) (h:Zu) (t:Sl):Zap (L++[h]) (ts++[t])=Zap L ts++[Zgq h t]:=by
 unfold Zap;rw [List.zip_append hl.symm,List.map_append];rfl
theorem ZlG {L:List Zu} {ts:List Sl} (hl:ts.length=L.length) (h:Zu) (t:Sl):ZV (L++[h]) (ts++[t])=ZV L ts++[Zt t (Zc h.seats)]:=by
 unfold ZV;rw [List.zip_append hl.symm,List.map_append];rfl
theorem ZbN.snoc {s:Sl} {L:List Zu} {ts:List Sl} {h:Zu} {t:Sl} (hl:ts.length=L.length) (hw:Sat R (Zl 4 s 197 (Zap L ts++[Zgq h t])::Zt t (Zc h.seats)::(ZV L ts++Hs)) w):Sat R (ZbN s (L++[h])::Hs) w:=by
 refine Sat.holdsL.2 ⟨ts++[t],by simp [hl],?_⟩;rw [Zoc hl,ZlG hl,List.append_assoc];exact hw.cons λ _ h5=>h5.perm List.perm_middle.symm
theorem Zmi {p:Nat} {f:PF} (hu:(f.hs.map (·.1)).Nodup) (hn:∀ k∈f.hs.map (·.1),-1000000000<=k/\k<=1000000000) (hlen:f.hs.length<=100000) (hR:∀ e∈f.hs,e.2.seats.length<=1000000) (hw:Sat R (ZD p f::Hs) w):
  Zk prog 134 #[nP p] w λ v w'=>∃ t:Sl,v=.slice t.a t.len t.cap/\Sat R (ZbN t (Zem f)::ZD p f::Hs) w':=by
 obtain ⟨hm,om,sg,sl,ss,E,R',hE,_,_,_,_,hw,back⟩:=Sat.flightO hw;have hk1:(ZZ E).map (·.1)=f.hs.map (·.1):=by rw [<-hE];simp [ZZ,hEr,Function.comp_def]
 have hel:(ZZ E).length=f.hs.length:=by rw [<-hE];simp [ZZ,hEr]
 apply Zwq;refine Zb.mk rfl ⟨some hm,oA hw,?_⟩;refine Zkf (es:=ZZ E) (by rw [hk1];exact hu) (by rw [hk1];exact hn) (by omega) (hw.take (MapAt hm (ZZ E))) λ sk w hw=>?_;rw [hk1] at hw;have hksl:(Zgg (f.hs.map (·.1))).length=f.hs.length:=by unfold Zgg;rw [List.length_mergeSort,List.length_map]
 have hmem:∀ k∈Zgg (f.hs.map (·.1)),k∈f.hs.map (·.1):=λ k hk=>List.mem_mergeSort.1 hk;unfold Zem;generalize Zgg (f.hs.map (·.1))=ks at *;obtain ⟨R2,e2,hks,hw⟩:=Own.leak hw;have hkl:=hks.len;rw [List.length_map] at hkl;have hro:RoI R2 sk ks:=hks.ro;have hw:Sat R2 (FO p hm om sg sl ss E f Hs) w:=hw.arr;refine ⟨λ out i w=>∃ j:Nat,i=j/\j<=ks.length/\Sat R2 (ZbN out ((ks.take j).map (Zen f))::FO p hm om sg sl ss E f Hs) w,λ _ i _=>ks.length - i.toNat,⟨0,rfl,by omega,ZbN.nil hw⟩,?_⟩;clear hw;rintro _ out _ w ⟨j,rfl,hj,hw⟩;refine Br.d (λ h=>?_) (λ h=>?_)
 ·have hj2:j<ks.length:=by omega
  refine Ro.ix hro (eqS hw) j rfl hj2 ?_;have hkin:(ZH ks[j] E).isSome=true:=by
   have h1:=hmem ks[j] (List.getElem_mem _);rw [<-hE,hEr,List.map_map] at h1;obtain ⟨e,he,hek⟩:=List.mem_map.1 h1;have key:∀ (l:List HE),e∈l->(ZH ks[j] l).isSome=true:=λ l=>by
    induction l with
    |nil=>intro h;cases h
    |cons x l ih=>
     intro h;show (if ks[j]==x.1 then some x.2 else ZH ks[j] l).isSome=true
     split
     ·rfl
     ·rename_i hx
      rcases List.mem_cons.1 h with rfl|h
      ·exact absurd (beq_iff_eq.2 hek.symm) hx
      ·exact ih h
   exact key E he
  obtain ⟨⟨b,h⟩,hget⟩:=Option.isSome_iff_exists.1 hkin;have hof:Zen f ks[j]=h:=by unfold Zen;rw [<-hE,ZbS,hget];rfl
  have htk:(ks.take (j + 1)).map (Zen f)=(ks.take j).map (Zen f)++[h]:=by
   rw [List.take_add_one,List.getElem?_eq_getElem hj2,Option.toList_some,List.map_append,List.map_singleton,hof]
  have hLl:((ks.take j).map (Zen f)).length=j:=by rw [List.length_map,List.length_take];omega
  generalize (ks.take j).map (Zen f)=L at *;generalize ks[j]=k at *;obtain ⟨a,c,rfl,hna⟩:=ZaL hget;have hl:h.seats.length<=1000000:=hR (k,h) (by rw [<-hE,Zdk];simp);refine Zb.mk rfl ⟨some hm,oA hw,some ⟨b,0,none⟩,λ w' e=>?_,Zb.mk rfl ?_⟩
  ·rw [show w'=w from e,Zc0 (hw.take (MapAt hm (ZZ (a++(k,b,h)::c)))) k false,hget];rfl
  have hw:Sat R2 (FO p hm om sg sl ss (a++(k,b,h)::c) f (ZbN out L::Hs)) w:=hw.arr;obtain ⟨s,hw⟩:=FO.open hw;refine ⟨h.owner,h.cls,h.many,s,oA hw,?_⟩;refine Za hw λ bh w hw=>?_;have hw:Sat R2 (pts bh (Zal ⟨0,0,0,[]⟩ ⟨none,0,0⟩)::FO1 p hm om b sg sl ss s (a++(k,b,h)::c) (a++c) f h f.own (ZbN out L::Hs)) w:=hw;refine sRu hw λ w hw=>?_;have hw:=hw.re (pts bh (Zal h s));refine ⟨s,oA hw,?_⟩;obtain ⟨R3,hro3,_,hw3,back3⟩:=Own.lend (hw.take (Own s 3 (Zc h.seats))) (by rw [List.length_map];omega);refine (ZeK hro3 (by omega) hw3).use ?_;clear hw hw3;rintro _ w ⟨t,rfl,hw⟩;have hw:=back3 hw;refine ⟨t,rfl,?_⟩;have hw:Sat R2 (pts bh (Zal h s)::Own t 3 (Zc h.seats)::FO1 p hm om b sg sl ss s (a++(k,b,h)::c) (a++c) f h f.own (ZbN out L::Hs)) w:=hw.arr;refine sRu hw λ w hw=>?_;have hw:=hw.re (pts bh (Zal h t));refine ⟨h.owner,h.cls,h.many,t,oA hw,?_⟩;obtain ⟨ts,hts,hw⟩:=Sat.holdsL.1 (hw.take (ZbN out L));have hrl:=Zcn hts;refine Zd7 (x:=Zgq h t) elH hw rfl rfl (by omega) (by omega) λ o2 w hw=>?_;rw [Zd];refine ⟨⟨j + 1,by omega,by omega,?_⟩,by dsimp only;omega⟩;rw [htk];have hw:Sat R2 (Zl 4 o2 197 (Zap L ts++[Zgq h t])::(ZV L ts++(Own t 3 (Zc h.seats)::pts bh (Zal h t)::FO1 p hm om b sg sl ss s (a++(k,b,h)::c) (a++c) f h f.own Hs))) w:=
   hw.cons λ _ h5=>h5.perm (List.Perm.append_left _ (Arr.perm (Hs:=_) (Hs':=Own t 3 (Zc h.seats)::pts bh (Zal h t)::FO1 p hm om b sg sl ss s (a++(k,b,h)::c) (a++c) f h f.own Hs)))
  have hw:Sat R2 (Zl 4 o2 197 (Zap L ts++[Zgq h t])::Zt t (Zc h.seats)::(ZV L ts++(pts bh (Zal h t)::FO1 p hm om b sg sl ss s (a++(k,b,h)::c) (a++c) f h f.own Hs))) w:=
   hw.cons λ _ h5=>Own.reads (h5.perm List.perm_middle)
  have hw:=ZbN.snoc hts hw;exact hw.cons λ _ h5=>FO.close (f:=f) h5.drop
 ·rw [List.take_of_length_le (by omega)] at hw
  refine ⟨out,rfl,?_⟩;have hw:=e2.back hw;have hw:=back _ _ hw;exact Sat.cons (λ _ h5=>Sat.flightC hE h5) (hw.take (ZbN out (ks.map (Zen f))))
theorem _root_.Go.VC.Sat.allTru {Hs:List HP}:∀ {R:Cx},Sat R Hs w->Sat R [VC.tru] w:=by
 induction Hs with
 |nil=>exact λ h=>h.tru
 |cons A Hs ih=>exact λ h=>Sat.absorb (h.cons λ _ h=>ih h)
theorem _root_.Go.VC.Sat.restTru2 {A:HP} (h:Sat R (A::Hs) w):Sat R [A,VC.tru] w:=h.cons λ _ h=>h.allTru
theorem _root_.Go.VC.MapAt.len {P:Program} {α:Type} [BEq α] [Zbv α] {m:Nat} {es:List (α × Value)} {T ty:TypeId} (hT:P.underlying T=some (.map (P.mapKeyOf T) (P.mapElemOf T))) (hw:Sat R (MapAt m es::Hs) w):
  (Builtin.len_ #[T] ty #[.map (some m)]).run P w=.ok (nI es.length) w:=by
 obtain ⟨l,c,hs,hst,hp⟩:=MapAt.iff.1 hw;rw [run_len_map w T ty m _ c hT hp.at];subst hs;simp [goInt,Zds]
def Zcw (l:List Int):List Int:=Zi [(l.length:Int)]++Zi l
def ZdM (h:Zu):List Int:=Zi [h.owner,h.cls,h.many]++Zcw h.seats
def Z3 (L:List Zu):List Int:=(L.map ZdM).flatten
def ZtJ (num rows:Int) (grps lims:List Int) (L:List Zu):List Int:=Zi [num,rows]++Zcw grps++Zcw lims++Zi [(L.length:Int)]++Z3 L
abbrev ZcO (l:List Int):Prop:=∀ x∈l,0<=x/\x<9223372036854775808
theorem ZaS {l:List Int} (h:ZcO l):∀ x∈l,0<=x/\x<18446744073709551616:=λ x hx=>by have:=h x hx;omega
theorem Zb0 {l:List Int} (h:ZcO l) (hl:l.length<9223372036854775808):(Zcw l).length<=9 * l.length + 9:=by
 unfold Zcw;have h1:=ZI (ZaS h);have h2:(Zi [(l.length:Int)]).length<=9:=ZI (by intro y hy;simp at hy;omega);rw [List.length_append];omega
theorem Zjj {l:List Int} (h:ZcO l) (hl:l.length<9223372036854775808):∀ y∈Zcw l,0<=y/\y<256:=by
 unfold Zcw;intro y hy;rcases List.mem_append.1 hy with hy|hy
 ·exact Zeb (by intro y hy;simp at hy;omega) y hy
 ·exact Zeb (ZaS h) y hy
structure Zgf (h:Zu):Prop where
 o:0<=h.owner/\h.owner<9223372036854775808
 c:0<=h.cls/\h.cls<9223372036854775808
 m:0<=h.many/\h.many<9223372036854775808
 s:ZcO h.seats
 n:h.seats.length<=1000
theorem Zgf.three {h:Zu} (a:Zgf h):ZcO [h.owner,h.cls,h.many]:=by
 intro x hx;rcases List.mem_cons.1 hx with rfl|hx
 ·exact a.o
 rcases List.mem_cons.1 hx with rfl|hx
 ·exact a.c
 rw [List.mem_singleton.1 hx];exact a.m
theorem Zra {h:Zu} (a:Zgf h):(ZdM h).length<=9036:=by
 unfold ZdM;have h1:(Zi [h.owner,h.cls,h.many]).length<=27:=ZI (ZaS a.three);have h2:=Zb0 a.s (by have:=a.n;omega);have:=a.n;rw [List.length_append];omega
theorem Zs4 {h:Zu} (a:Zgf h):∀ y∈ZdM h,0<=y/\y<256:=by
 unfold ZdM;intro y hy;rcases List.mem_append.1 hy with hy|hy
 ·exact Zeb (ZaS a.three) y hy
 ·exact Zjj a.s (by have:=a.n;omega) y hy
theorem Zed:∀ {L:List Zu},(∀ h∈L,Zgf h)->(Z3 L).length<=9036 * L.length
 |[],_=>Nat.le_refl _
 |h::L,a=>by
  have h1:=Zra (a h List.mem_cons_self);have h2:=Zed λ x hx=>a x (List.mem_cons_of_mem _ hx);show (ZdM h++Z3 L).length<=_;rw [List.length_append,List.length_cons];omega
theorem Zk7:∀ {L:List Zu},(∀ h∈L,Zgf h)->∀ y∈Z3 L,0<=y/\y<256
 |[],_=>λ y hy=>by cases hy
 |h::L,a=>by
  intro y hy;have hy:y∈ZdM h++Z3 L:=hy;rcases List.mem_append.1 hy with hy|hy
  ·exact Zs4 (a h List.mem_cons_self) y hy
  ·exact Zk7 (λ x hx=>a x (List.mem_cons_of_mem _ hx)) y hy
theorem Zhk {L:List Zu} {j:Nat} (h:j<L.length):Z3 (L.take (j + 1))=Z3 (L.take j)++ZdM L[j]:=by
 unfold Z3;rw [List.take_add_one,List.getElem?_eq_getElem h,List.map_append,List.flatten_append];simp only [Option.toList_some,List.map_cons,List.map_nil,List.flatten_cons,List.flatten_nil,List.append_nil]
abbrev Zuc (pb:Nat):Value:=.func (.func 132) #[] #[nP pb]
abbrev ZhN (bp pb:Nat):HP:=pts bp (.cells [Zuc pb].toArray 113 (0,0))
theorem Zi6 {bn pb:Nat} {bs xs:List Int} {n:Nat} (hn:n=xs.length) (hxs:ZcO xs) (hl:bs.length + 9 * xs.length<=1099511627776) (hw:Sat R (pts bn (.cells (xs.map (Value.int .i64)).toArray 3 (0,0))::Zgd pb bs::Hs) w):
  Zda prog cl (Zuc pb) [.slice (some ⟨bn,0,none⟩) n n] w λ e w'=>e=.returned (.tuple #[])/\Sat R (Zgd pb (bs++Zi xs)::Hs) w':=by
 refine Zda.mk (by kernel_rfl) ?_;have hw:=Za0 (n:=n) hw (by rw [List.length_map];exact hn);obtain ⟨R1,hr1,keep1,hw,back1⟩:=Own.lendI hw (by omega);refine (Zlg (s:=⟨some ⟨bn,0,none⟩,n,n⟩) hxs hl hr1 hw).u λ w hw=>?_;exact ⟨rfl,(back1 hw).drop⟩
theorem ZfW {bp pb:Nat} {s:Sl} {xs bs:List Int} (hxs:ZcO xs) (hl:bs.length + 9 * xs.length<=1000000000) (hs:RoI R s xs) (hw:Sat R (ZhN bp pb::Zgd pb bs::Hs) w):
  Zk prog 133 #[.slice s.a s.len s.cap,nP bp] w λ v w'=>v=.tuple #[]/\Sat R (ZhN bp pb::Zgd pb (bs++Zcw xs)::Hs) w':=by
 have hsl:=hs.len;have h1:(Zi [(xs.length:Int)]).length<=9:=ZI (by intro y hy;simp at hy;omega);apply Zwr;refine Zb.mk rfl ⟨Zuc pb,oA hw,?_⟩;rw [hsl];refine Za hw λ bn w hw=>?_;have hw:Sat R (pts bn (.cells ([(xs.length:Int)].map (Value.int .i64)).toArray 3 (0,0))::Zgd pb bs::ZhN bp pb::Hs) w:=hw.cons λ _ h=>h.swap;refine (Zi6 (n:=1) (by rfl) (by intro y hy;simp at hy;omega) (by simp;omega) hw).mono ?_;rintro _ w ⟨rfl,hw⟩;refine ⟨rfl,Zb.mk rfl ⟨Zuc pb,oA hw,Zda.mk (by kernel_rfl) ?_⟩⟩;rw [<-hsl];refine (Zlg hxs (by rw [List.length_append];omega) hs hw).u λ w hw=>?_;refine ⟨rfl,rfl,?_⟩;rw [List.append_assoc] at hw;exact hw.swap
end
section
open Go Go.VC Tryz
variable {R R':Cx} {Hs Rest:List HP} {w:World}
def Z6 (L:List Zu) (ts:List Sl):HP:=ZhI (ZV L ts)
structure RX where
 sg:Sl
 sl:Sl
 s:Sl
 ts:List Sl
def Zbi (q:Nat) (r:RF):HP:=exs λ x:RX=>
 ZhI [pur (x.ts.length=r.L.length),Zt x.sg (Zc r.grps),Zt x.sl (Zc r.lims),pts q (Zx r x.sg x.sl x.s),Zl 4 x.s 197 (Zap r.L x.ts),Z6 r.L x.ts]
abbrev RO (q:Nat) (r:RF) (sg sl s:Sl) (ts:List Sl) (Hs:List HP):List HP:=Zt sg (Zc r.grps)::Zt sl (Zc r.lims)::pts q (Zx r sg sl s)::Zl 4 s 197 (Zap r.L ts)::Z6 r.L ts::Hs
theorem Sat.rf {q:Nat} {r:RF}:Sat R (Zbi q r::Hs) w↔∃ sg sl s ts,ts.length=r.L.length/\Sat R (RO q r sg sl s ts Hs) w:=by
 unfold Zbi;rw [Sat.exs];constructor
 ·rintro ⟨⟨sg,sl,s,ts⟩,h⟩
  obtain ⟨h1,h2⟩:=Sat.pur.1 (Sat.star.1 h);exact ⟨sg,sl,s,ts,h1,h2⟩
 ·rintro ⟨sg,sl,s,ts,h1,h2⟩
  exact ⟨⟨sg,sl,s,ts⟩,Sat.star.2 (Sat.pur.2 ⟨h1,h2⟩)⟩
theorem Zkp:∀ {L:List Zu} {ts:List Sl} {R:Cx},ts.length=L.length->Sat R (ZV L ts++Hs) w->∃ R':Cx,R.Ext R'/\(∀ i (h:i<L.length) (h':i<ts.length),SlR R'.m ts[i] (Zc L[i].seats))/\Sat R' Hs w/\∀ Hs' w',Sat R' Hs' w'->Sat R (ZV L ts++Hs') w'
 |[],_,R,_,hw=>⟨R,Cx.Ext.refl,λ i h=>by simp at h,by simpa [ZV] using hw,λ Hs' w' h=>by simpa [ZV] using h⟩
 |h::L,[],R,hl,_=>by simp at hl
 |h::L,t::ts,R,hl,hw=>by
  have hw:Sat R (Zt t (Zc h.seats)::(ZV L ts++Hs)) w:=hw;obtain ⟨R1,e1,s1,hw,b1⟩:=Zt.out hw;obtain ⟨R2,e2,s2,hw,b2⟩:=Zkp (by simpa using hl) hw;refine ⟨R2,e1.trans e2,λ i h h'=>?_,hw,λ Hs' w' h=>b1 _ _ (b2 _ _ h)⟩;rcases i with _|i
  ·exact e2.slR s1
  ·exact s2 i (by simpa using h) (by simpa using h')
structure RfR (R:Cx) (r:RF) (sg sl s:Sl) (ts:List Sl):Prop where
 grps:SlR R.m sg (Zc r.grps)
 lims:SlR R.m sl (Zc r.lims)
 hs:HsR R s r.L ts
 cap:s.len<=s.cap
theorem RfR.len {r:RF} {sg sl s:Sl} {ts:List Sl} (h:RfR R r sg sl s ts):s.len=r.L.length:=by
 have:=h.hs.rows.len;rwa [Zcn h.hs.len] at this
theorem RO.out {q:Nat} {r:RF} {sg sl s:Sl} {ts:List Sl} (hl:ts.length=r.L.length) (hw:Sat R (RO q r sg sl s ts Hs) w):∃ R',R.Ext R'/\RfR R' r sg sl s ts/\Sat R' (pts q (Zx r sg sl s)::Hs) w/\∀ Hs' w',Sat R' (pts q (Zx r sg sl s)::Hs') w'->Sat R (RO q r sg sl s ts Hs') w':=by
 obtain ⟨R1,e1,g1,hw,b1⟩:=Zt.out hw;obtain ⟨R2,e2,g2,hw,b2⟩:=Zt.out hw;have hw:Sat R2 (Zl 4 s 197 (Zap r.L ts)::Z6 r.L ts::pts q (Zx r sg sl s)::Hs) w:=hw.arr;have hc:=Zl.cap (by omega) hw;obtain ⟨R3,g3,⟨x,hx⟩,hw,b3⟩:=Zl.lend hw;have e3:R2.Ext R3:=by rw [hx];exact Cx.Ext.add
 obtain ⟨R4,e4,g4,hw,b4⟩:=Zkp hl (Sat.star.1 hw);refine ⟨R4,e1.trans (e2.trans (e3.trans e4)),⟨e4.slR (e3.slR (e2.slR g1)),e4.slR (e3.slR g2),⟨hl,e4.roN g3,g4⟩,hc⟩,hw,λ Hs' w' h=>b1 _ _ (b2 _ _ ?_)⟩;have h1:Sat R2 (Zl 4 s 197 (Zap r.L ts)::Z6 r.L ts::pts q (Zx r sg sl s)::Hs') w':=b3 (Sat.star.2 (b4 _ _ h));exact h1.arr
theorem Sat.rfO {q:Nat} {r:RF} (hw:Sat R (Zbi q r::Hs) w):∃ sg sl s ts R',R.Ext R'/\RfR R' r sg sl s ts/\Sat R' (pts q (Zx r sg sl s)::Hs) w/\
  (∀ Hs' w',Sat R' (pts q (Zx r sg sl s)::Hs') w'->Sat R (RO q r sg sl s ts Hs') w')/\ts.length=r.L.length:=by
 obtain ⟨sg,sl,s,ts,hl,hw⟩:=Sat.rf.1 hw;obtain ⟨R',e,h,hw,b⟩:=RO.out hl hw;exact ⟨sg,sl,s,ts,R',e,h,hw,b,hl⟩
theorem Zcl {q:Nat} {r:RF} {sg sl s:Sl} {ts:List Sl} {owner:Int} (h:RfR R r sg sl s ts) (hll:r.L.length<=1000000) (hw:Sat R (pts q (Zx r sg sl s)::Hs) w):
  Zk prog 187 #[nP q,nI owner] w λ v w'=>v=nI (Zcq owner r.L 0)/\Sat R (pts q (Zx r sg sl s)::Hs) w':=by
 have hsl:=h.len;have hl:=h.hs.len;apply ZvY;refine ⟨λ i w=>∃ j:Nat,i=j/\j<=r.L.length/\Zcq owner (r.L.drop j) j=Zcq owner r.L 0/\Sat R (pts q (Zx r sg sl s)::Hs) w,λ i _=>r.L.length - i.toNat,⟨0,rfl,by omega,rfl,hw⟩,?_⟩;clear hw;rintro _ _ w ⟨j,rfl,hj,hn,hw⟩;refine Zb.mk rfl ⟨s,oA hw,Br.d (λ h1=>?_) (λ h1=>?_)⟩
 ·have j1:j<r.L.length:=by omega
  rw [List.drop_eq_getElem_cons j1,Zdh] at hn;refine Zb.mk rfl ⟨s,oA hw,?_⟩;refine h.hs.fld (j:=0) (eqS hw) j1 (by omega) rfl λ x nx hx=>⟨r.L[j].owner,by rw [Zgc _ _ nx];exact hx,?_⟩;refine Br.e (λ h2=>⟨?_,hw⟩) (λ h2=>?_)
  ·rw [if_pos h2] at hn;rw [hn]
  ·rw [if_neg h2] at hn
   rw [Zd];exact ⟨⟨j + 1,by omega,by omega,hn,hw⟩,by dsimp only;omega⟩
 ·rw [List.drop_eq_nil_of_le (by omega)] at hn
  exact ⟨by rw [<-hn];rfl,hw⟩
structure Zyy (n:Nat) (h:Zu):Prop where
 c:0<=h.cls/\h.cls<n
 m:0<=h.many/\h.many<=10000
theorem Zrz {k:Int} {n:Nat}:∀ {L:List Zu},(∀ h∈L,Zyy n h)->0<=Zeo k L/\Zeo k L<=10000 * L.length
 |[],_=>⟨Int.le_refl _,Int.le_refl _⟩
 |h::L,a=>by
  obtain ⟨i1,i2⟩:=Zrz (k:=k) λ x hx=>a x (List.mem_cons_of_mem _ hx);have:=(a h List.mem_cons_self).m;rw [Zc6,List.length_cons];split<;>omega
theorem Zsh {n:Nat} {K:Sl->World->Prop} (hn:n<=1000) (hw:Sat R Hs w) (k:∀ s w',Sat R (Own s 3 (Zc (Z2 n []))::Hs) w'->K s w'):
  ∃ w',∃ t:Sl,(Instr.makeSlice 30 (nI (n:Int)) (nI (n:Int))).run prog w=.ok (.slice t.a t.len t.cap) w'/\K t w':=
 Zha (bytes:=8) (z:=nI 0) underlying30 (by kernel_rfl) zeroValue3 rfl (by omega) (by omega) hw λ s w hw=>k s w (by
  have e:Zc (Z2 n [])=List.replicate n (nI 0):=by
   apply List.ext_getElem
   ·simp [Z2]
   ·intro i h1 h2;simp [Z2,Zeo]
  rw [e];exact hw)
theorem Zh7 {q:Nat} {r:RF} {sg sl s:Sl} {ts:List Sl} (h:RfR R r sg sl s ts) (hll:r.L.length<=1000000) (hlm:r.lims.length<=1000) (hc:∀ x∈r.L,Zyy r.lims.length x) (hw:Sat R (pts q (Zx r sg sl s)::Hs) w):
  Zk prog 127 #[nP q] w λ v w'=>∃ t:Sl,v=.slice t.a t.len t.cap/\Sat R (Own t 3 (Zc r.sold)::pts q (Zx r sg sl s)::Hs) w':=by
 have hsl:=h.len;have hl:=h.hs.len;have hlen:sl.len=r.lims.length:=by have:=h.lims.len;rwa [List.length_map] at this
 apply Zwu;refine Zb.mk rfl ⟨sl,oA hw,?_⟩;rw [hlen];refine Zsh hlm hw λ t w hw=>?_;refine ⟨λ i w=>∃ j:Nat,i=j/\j<=r.L.length/\Sat R (Own t 3 (Zc (Z2 r.lims.length (r.L.take j)))::pts q (Zx r sg sl s)::Hs) w,λ i _=>r.L.length - i.toNat,⟨0,rfl,by omega,hw⟩,?_⟩;clear hw;rintro _ _ w ⟨j,rfl,hj,hw⟩;refine Zb.mk rfl ⟨s,oA hw,Br.d (λ h1=>?_) (λ h1=>?_)⟩
 ·have j1:j<r.L.length:=by omega
  have hx:=hc r.L[j] (List.getElem_mem _);obtain ⟨c,hce⟩:=Int.eq_ofNat_of_zero_le hx.c.1;have hcl:c<r.lims.length:=by have:=hx.c;omega
  have hcb:=Zrz (k:=(c:Int)) (n:=r.lims.length) (L:=r.L.take j) λ x hx=>hc x (List.mem_of_mem_take hx);rw [List.length_take,Nat.min_eq_left hj] at hcb;have hsll:=ZaI r.lims.length (r.L.take j);have hcv:(Z2 r.lims.length (r.L.take j))[c]'(by rw [hsll];exact hcl)=Zeo (c:Int) (r.L.take j):=ZcV _;have hput:(Z2 r.lims.length (r.L.take j)).set c (Zeo (c:Int) (r.L.take j) + r.L[j].many)=Z2 r.lims.length (r.L.take (j + 1)):=by
   have h5:=Zdx (h:=r.L[j]) (L:=r.L.take j) (L':=r.L.take (j + 1)) (by
    rw [List.take_add_one,List.getElem?_eq_getElem j1];exact List.perm_append_comm) hx.c.1 hx.c.2
   rw [hce,Int.toNat_natCast,Zbo hcl] at h5;exact h5
  have hrow:∀ {S:World->Prop} {Hs:List HP} {i:Nat} {v:Value},(∀ w,S w->Sat R Hs w)->(Zgq r.L[j] (ts[j]'(by omega)))[i]? =some v->∀ {F:Addr->Prop},(∀ a:Addr,a.spot=none->At S ⟨(a.add (ZaD j 4)).block,(a.add (ZaD j 4)).off + i,none⟩ [v]->F a)->Rng (j:Int) s.len (Zb s.a F):=λ {S Hs i v} hS hv {F} f=>h.hs.fld hS j1 (by omega) hv f;refine Zq hw λ w hw=>?_;refine Zb.mk rfl ⟨s,oS,hrow (i:=1) ZbK rfl λ a1 _ h1=>⟨r.L[j].cls,h1,Zb.mk rfl ⟨s,oS,hrow (i:=1) ZbK rfl λ a2 _ h2=>⟨r.L[j].cls,h2,?_⟩⟩⟩⟩;rw [hce];refine Own.ix hw ZbK c rfl (by rw [hsll];omega) ?_;refine Zb.mk rfl ⟨s,oS,hrow (i:=2) ZbK rfl λ a3 _ h3=>⟨r.L[j].many,h3,?_⟩⟩;rw [hcv,Zd (by have:=hx.m;omega) (by have:=hx.m;omega)];refine Own.store (by kernel_rfl) hw (by rw [hsll];omega) λ w hw=>?_;rw [hput] at hw;rw [Zd];exact ⟨⟨j + 1,by omega,by omega,hw⟩,by dsimp only;omega⟩
 ·rw [List.take_of_length_le (by omega)] at hw
  exact ⟨t,rfl,hw⟩
theorem ZlC {L:List Zu} {j:Nat} (h:j<L.length):ZA (L.take (j + 1))=ZA (L.take j)++L[j].seats:=by
 unfold ZA;rw [List.take_add_one,List.getElem?_eq_getElem h,List.flatMap_append];simp only [Option.toList_some,List.flatMap_cons,List.flatMap_nil,List.append_nil]
theorem ZdZ:∀ {L:List Zu},(∀ h∈L,h.seats.length<=1000)->(ZA L).length<=1000 * L.length
 |[],_=>Nat.le_refl _
 |h::L,a=>by
  have h1:=a h List.mem_cons_self;have h2:=ZdZ λ x hx=>a x (List.mem_cons_of_mem _ hx);show (h.seats++ZA L).length<=_;rw [List.length_append,List.length_cons];omega
theorem ZgQ {q:Nat} {r:RF} {sg sl s:Sl} {ts:List Sl} (h:RfR R r sg sl s ts) (hll:r.L.length<=1000000) (hc:∀ x∈r.L,x.seats.length<=1000) (hw:Sat R (pts q (Zx r sg sl s)::Hs) w):
  Zk prog 197 #[nP q] w λ v w'=>∃ t:Sl,v=.slice t.a t.len t.cap/\Sat R (Own t 3 (Zc (ZA r.L))::pts q (Zx r sg sl s)::Hs) w':=by
 have hsl:=h.len;have hl:=h.hs.len;apply ZvO;refine ⟨λ out i w=>∃ j:Nat,i=j/\j<=r.L.length/\Sat R (Own out 3 (Zc (ZA (r.L.take j)))::pts q (Zx r sg sl s)::Hs) w,λ _ i _=>r.L.length - i.toNat,⟨0,rfl,by omega,Own.nil hw⟩,?_⟩;clear hw;rintro _ out _ w ⟨j,rfl,hj,hw⟩;refine Zb.mk rfl ⟨s,oA hw,Br.d (λ h1=>?_) (λ h1=>?_)⟩
 ·have j1:j<r.L.length:=by omega
  have j2:j<ts.length:=by omega
  have hx:=hc r.L[j] (List.getElem_mem _);have htk:=ZdZ (L:=r.L.take j) λ x hx=>hc x (List.mem_of_mem_take hx);rw [List.length_take,Nat.min_eq_left hj] at htk;refine Zb.mk rfl ⟨s,oA hw,h.hs.fld (j:=3) (eqS hw) j1 j2 rfl λ a _ ha=>⟨ts[j],ha,?_⟩⟩;refine Zel ZiC (n:=2000000000) underlying30 hw ((h.hs.seats j j1 j2).ro) (by omega) (by omega) (by omega) λ s' w hw=>?_;rw [<-ZlC j1] at hw;rw [Zd];exact ⟨⟨j + 1,by omega,by omega,hw⟩,by dsimp only;omega⟩
 ·rw [List.take_of_length_le (by omega)] at hw
  exact ⟨out,rfl,hw⟩
theorem ZlP {q:Nat} {r:RF} (hll:r.L.length<=1000000) (hlm:r.lims.length<=1000) (hc:∀ x∈r.L,Zyy r.lims.length x) (hw:Sat R (Zbi q r::Hs) w):
  Zk prog 59 #[nP q] w λ v w'=>∃ t:Sl,v=.slice t.a t.len t.cap/\Sat R (Own t 3 (Zc (Zj r))::Zbi q r::Hs) w':=by
 obtain ⟨sg,sl,s,ts,R',e,h,hw,back,hl⟩:=Sat.rfO hw;have hlen:sl.len=r.lims.length:=by have:=h.lims.len;rwa [List.length_map] at this
 apply ZxU;refine ⟨λ out i w=>∃ j:Nat,i=j/\j<=r.lims.length/\Sat R' (Own out 3 (Zc ((List.range j).map λ (k:Nat)=>(ZaW r.lims r.sold k).1))::pts q (Zx r sg sl s)::Hs) w,λ _ i _=>r.lims.length - i.toNat,⟨0,rfl,by omega,Own.nil hw⟩,?_⟩;clear hw;rintro _ out _ w ⟨j,rfl,hj,hw⟩;refine Zb.mk rfl ⟨sl,oA hw,Br.d (λ h1=>?_) (λ h1=>?_)⟩
 ·have j1:j<r.lims.length:=by omega
  refine Zq hw λ w hw=>?_;refine Zb.mk rfl ⟨sl,oS,?_⟩;refine (Zh7 h hll hlm hc hw.swap).u1 λ t w hw=>?_;refine ⟨t,rfl,hw.drop.swap,?_⟩;obtain ⟨R2,hro,keep,hw,back2⟩:=Own.lendI hw (by show (Z2 _ _).length<=_;rw [ZaI];omega);refine (Zia (keep _ _ (h.lims.ro)) hro hw).u λ w hw=>?_;refine ⟨_,_,rfl,?_⟩;have hw:=(back2 hw).drop.swap;refine ZaJ ZiC hw (by simp;omega) λ s' w hw=>?_;rw [Zd];refine ⟨⟨j + 1,by omega,by omega,?_⟩,by dsimp only;omega⟩;rw [List.range_succ,List.map_append];exact hw
 ·obtain rfl:j=r.lims.length:=by omega
  refine ⟨out,rfl,?_⟩;have hw:=back _ _ hw.swap;have hw:Sat R (RO q r sg sl s ts (Own out 3 (Zc (Zj r))::Hs)) w:=hw;exact (Sat.rf.2 ⟨sg,sl,s,ts,hl,hw⟩:Sat R (Zbi q r::Own out 3 (Zc (Zj r))::Hs) w).swap
theorem ZiZ {q:Nat} {r:RF} {owner:Int} (hll:r.L.length<=1000000) (hg:r.grps.length<=1000) (hc:∀ x∈r.L,x.seats.length<=1000) (hw:Sat R (Zbi q r::Hs) w):
  Zk prog 125 #[nP q,nI owner] w λ v w'=>∃ t:Sl,v=.slice t.a t.len t.cap/\Sat R (Own t 9 ((ZY r owner).map Value.string)::Zbi q r::Hs) w':=by
 obtain ⟨sg,sl,s,ts,R',e,h,hw,back,hl⟩:=Sat.rfO hw;have close:∀ {out:Sl} {l:List ByteArray} {w},Sat R' (Own out 9 (l.map Value.string)::pts q (Zx r sg sl s)::Hs) w->Sat R (Own out 9 (l.map Value.string)::Zbi q r::Hs) w:=λ {out l w} hw=>
  (Sat.rf.2 ⟨sg,sl,s,ts,hl,back _ _ hw.swap⟩:Sat R (Zbi q r::Own out 9 (l.map Value.string)::Hs) w).swap
 apply Zww;refine (Zcl h hll hw).u λ w hw=>?_;refine ⟨_,rfl,?_⟩;cases hg0:ZbB owner r.L with
 |none=>
  rw [ZbP 0 hg0];have el:ZY r owner=[]:=by unfold ZY;rw [hg0]
  rw [el];refine ⟨λ out i w=>i=0/\out=⟨none,0,0⟩/\Sat R' (pts q (Zx r sg sl s)::Hs) w,λ _ _ _=>0,⟨rfl,rfl,hw⟩,?_⟩;rintro _ _ _ w ⟨rfl,rfl,hw⟩;refine ⟨λ _=>False,Br.f rfl ⟨_,rfl,close (l:=[]) (Own.nil hw)⟩,?_⟩;rintro _ w hf;exact absurd hf id
 |some hd=>
  obtain ⟨A,C,hL,hA,hown⟩:=Zat hg0;have hpl:Zcq owner r.L 0=(A.length:Int):=by rw [hL,Zbr hown 0 hA,Nat.zero_add]
  have i1:A.length<r.L.length:=by rw [hL];simp
  have i2:A.length<ts.length:=by omega
  have hgi:r.L[A.length]=hd:=by simp [hL]
  have hsd:=h.hs.seats A.length i1 i2;rw [hgi] at hsd;have hx:=hc hd (by rw [hL];simp);have hro:RoI R' ts[A.length] hd.seats:=hsd.ro;have hrl:=hro.len;have el:ZY r owner=Za3 r.rows r.grps hd.seats:=by unfold ZY;rw [hg0]
  have hrow:∀ {S:World->Prop} {Hs:List HP} {i:Nat} {v:Value},(∀ w,S w->Sat R' Hs w)->(Zgq hd ts[A.length])[i]? =some v->∀ {F:Addr->Prop},(∀ a:Addr,a.spot=none->At S ⟨(a.add (ZaD A.length 4)).block,(a.add (ZaD A.length 4)).off + i,none⟩ [v]->F a)->Rng (A.length:Int) s.len (Zb s.a F):=λ {S Hs i v} hS hv {F} f=>h.hs.fld hS i1 i2 (by rw [hgi];exact hv) f;rw [hpl,el];refine ⟨λ out i w=>∃ j:Nat,i=j/\j<=hd.seats.length/\Sat R' (Own out 9 ((Za3 r.rows r.grps (hd.seats.take j)).map Value.string)::pts q (Zx r sg sl s)::Hs) w,λ _ i _=>hd.seats.length - i.toNat,⟨0,rfl,by omega,Own.nil hw⟩,?_⟩;clear hw;rintro _ out _ w ⟨j,rfl,hj,hw⟩;refine ⟨λ w=>j<hd.seats.length/\Sat R' (Own out 9 ((Za3 r.rows r.grps (hd.seats.take j)).map Value.string)::pts q (Zx r sg sl s)::Hs) w,?_,?_⟩
  ·refine Br.t (by simp) (Zb.mk rfl ⟨s,oA hw,hrow (i:=3) (eqS hw) rfl λ a _ ha=>⟨ts[A.length],ha,Br.d (λ h1=>⟨by omega,hw⟩) (λ h1=>?_)⟩⟩)
   rw [List.take_of_length_le (by omega)] at hw;exact ⟨_,rfl,close hw⟩
  clear hw;rintro _ w ⟨hj2,hw⟩;refine Zq hw λ w hw=>?_;refine Zb.mk rfl ⟨r.rows,sg,oS,Zb.mk rfl ⟨s,oS,hrow (i:=3) ZbK rfl λ a _ ha=>⟨ts[A.length],ha,?_⟩⟩⟩;refine Ro.ix hro ZbK j rfl hj2 ?_;refine (Zey (h.grps.ro) hw).u λ w hw=>?_;have hlab:(Za3 r.rows r.grps (hd.seats.take j)).length=j:=by unfold Za3;rw [List.length_map,List.length_take];omega
  refine ⟨_,_,rfl,hw,?_⟩;refine Zcp ZuW hw (ZfM _) rfl (by rw [List.length_map,hlab];omega) (by rw [List.length_map,hlab];omega) λ t w hw=>?_;rw [Zd];refine ⟨⟨j + 1,by omega,by omega,?_⟩,by dsimp only;omega⟩;have e:(Za3 r.rows r.grps (hd.seats.take (j + 1))).map Value.string=(Za3 r.rows r.grps (hd.seats.take j)).map Value.string++[.string (Zjl r.rows r.grps hd.seats[j]).1]:=by
   unfold Za3;rw [List.take_add_one,List.getElem?_eq_getElem hj2,Option.toList_some,List.map_append,List.map_append];rfl
  rw [e];exact hw
end
section
open Go Go.VC Tryz
section
variable {β:Type}
theorem ZaM (k:Int) (e:Int × β) (l:List (Int × β)):ZH k (e::l)=if k=e.1 then some e.2 else ZH k l:=by
 show (if k==e.1 then some e.2 else ZH k l)=_
 by_cases h:k=e.1
 ·rw [if_pos h,if_pos (beq_iff_eq.2 h)]
 ·rw [if_neg h,if_neg (λ h'=>h (beq_iff_eq.1 h'))]
theorem Zff {k:Int}:∀ {l:List (Int × β)},(ZH k l).isSome=true↔k∈l.map (·.1)
 |[]=>by simp [ZH]
 |e::l=>by
  rw [ZaM,List.map_cons,List.mem_cons];split
  ·rename_i h;simp [h]
  ·rename_i h;rw [Zff (l:=l)];simp [h]
theorem Zmm {k:Int} {l:List (Int × β)}:ZH k l=none↔k ∉ l.map (·.1):=by
 rw [<-Zff,Option.isSome_iff_ne_none];simp
theorem Zlb (k:Int):∀ (a b:List (Int × β)),ZH k (a++b)=if k∈a.map (·.1) then ZH k a else ZH k b
 |[],b=>by simp
 |e::a,b=>by
  show ZH k (e::(a++b))=_;rw [ZaM,ZaM,Zlb k a b,List.map_cons];by_cases h:k=e.1
  ·rw [if_pos h,if_pos (by rw [h];exact List.mem_cons_self),if_pos h]
  ·rw [if_neg h,if_neg h]
   by_cases h2:k∈a.map (·.1)
   ·rw [if_pos h2,if_pos (List.mem_cons_of_mem _ h2)]
   ·rw [if_neg h2,if_neg]
    intro h3;rcases List.mem_cons.1 h3 with h3|h3
    ·exact h h3
    ·exact h2 h3
theorem Zko {k:Int} {v:β}:∀ {l:List (Int × β)},(Zf4 k v l).map (·.1)=l.map (·.1)
 |[]=>rfl
 |e::l=>by
  show List.map _ (if k==e.1 then (e.1,v)::l else e::Zf4 k v l)=_
  split
  ·rfl
  ·rw [List.map_cons,Zko];rfl
theorem Zk9 {k k':Int} {v:β}:∀ {l:List (Int × β)},(ZH k l).isSome=true->ZH k' (Zf4 k v l)=if k'=k then some v else ZH k' l
 |[],h=>by cases h
 |e::l,h=>by
  show ZH k' (if k==e.1 then (e.1,v)::l else e::Zf4 k v l)=_
  rw [ZaM] at h;by_cases h1:k=e.1
  ·rw [if_pos (beq_iff_eq.2 h1),ZaM,ZaM,h1]
   split<;>rfl
  ·rw [if_neg h1] at h
   rw [if_neg (λ h'=>h1 (beq_iff_eq.1 h')),ZaM,ZaM,Zk9 h];by_cases h2:k'=e.1
   ·rw [if_pos h2,if_pos h2,if_neg (λ h3=>h1 (h3.symm.trans h2))]
   ·rw [if_neg h2,if_neg h2]
theorem Zho (k k':Int) (v:β) (l:List (Int × β)):ZH k' (ZeN k v l)=if k'=k then some v else ZH k' l:=by
 unfold ZeN;split
 ·rename_i h;exact Zk9 h
 ·rename_i h
  rw [Zlb];have hk:ZH k l=none:=by cases hg:ZH k l with|none=>rfl|some x=>rw [hg] at h;simp at h
  by_cases h1:k'=k
  ·rw [if_pos h1,if_neg (by rw [h1];exact Zmm.1 hk),ZaM,if_pos h1]
  ·rw [if_neg h1]
   by_cases h2:k'∈l.map (·.1)
   ·rw [if_pos h2]
   ·rw [if_neg h2,ZaM,if_neg h1,Zmm.2 h2];rfl
theorem ZfK {k:Int} {v:β} {l:List (Int × β)} (h:(l.map (·.1)).Nodup):((ZeN k v l).map (·.1)).Nodup:=by
 unfold ZeN;split
 ·rw [Zko];exact h
 ·rename_i hk
  rw [List.map_append,List.nodup_append];refine ⟨h,by simp,λ a ha b hb=>?_⟩;rw [List.map_cons,List.map_nil,List.mem_singleton] at hb;rintro rfl;rw [hb] at ha;exact hk (Zff.2 ha)
theorem ZjL (k:Int):∀ l:List (Int × β),(Zfk k l).Sublist l
 |[]=>List.Sublist.refl _
 |e::l=>by
  show (if k==e.1 then l else e::Zfk k l).Sublist _
  split
  ·exact List.sublist_cons_self _ _
  ·exact (ZjL k l).cons_cons e
theorem ZoX {k:Int} {l:List (Int × β)} (h:(l.map (·.1)).Nodup):((Zfk k l).map (·.1)).Nodup:=h.sublist ((ZjL k l).map _)
theorem Zla {k k':Int}:∀ {l:List (Int × β)},(l.map (·.1)).Nodup->ZH k' (Zfk k l)=if k'=k then none else ZH k' l
 |[],_=>by simp [ZH,Zfk]
 |e::l,h=>by
  rw [List.map_cons,List.nodup_cons] at h;show ZH k' (if k==e.1 then l else e::Zfk k l)=_
  by_cases h1:k=e.1
  ·rw [if_pos (beq_iff_eq.2 h1),ZaM]
   by_cases h2:k'=k
   ·rw [if_pos h2,Zmm];rw [h2,h1];exact h.1
   ·rw [if_neg h2,if_neg (λ h3=>h2 (h3.trans h1.symm))]
  ·rw [if_neg (λ h'=>h1 (beq_iff_eq.1 h')),ZaM,ZaM,Zla h.2]
   by_cases h2:k'=e.1
   ·rw [if_pos h2,if_pos h2,if_neg (λ h3=>h1 (h3.symm.trans h2))]
   ·rw [if_neg h2,if_neg h2]
theorem ZoY {l:List Int}:∀ {own:List (Int × Int)},(own.map (·.1)).Nodup->((Zb8 l own).map (·.1)).Nodup/\∀ n,ZH n (Zb8 l own)=if n∈l then none else ZH n own:=by
 induction l with
 |nil=>exact λ h=>⟨h,λ n=>by simp [Zb8]⟩
 |cons x l ih=>
  intro own h;obtain ⟨h1,h2⟩:=ih (own:=Zfk x own) (ZoX h);refine ⟨h1,λ n=>?_⟩;have e:Zb8 (x::l) own=Zb8 l (Zfk x own):=rfl;rw [e,h2,Zla h];by_cases hn:n∈l
  ·rw [if_pos hn,if_pos (List.mem_cons_of_mem _ hn)]
  ·rw [if_neg hn]
   by_cases hx:n=x
   ·rw [if_pos hx,if_pos (by rw [hx];exact List.mem_cons_self)]
   ·rw [if_neg hx,if_neg]
    intro h3;rcases List.mem_cons.1 h3 with h3|h3
    ·exact hx h3
    ·exact hn h3
theorem Zor {o:Int} {l:List Int}:∀ {own:List (Int × Int)},(own.map (·.1)).Nodup->((ZdB o l own).map (·.1)).Nodup/\∀ n,ZH n (ZdB o l own)=if n∈l then some o else ZH n own:=by
 induction l with
 |nil=>exact λ h=>⟨h,λ n=>by simp [ZdB]⟩
 |cons x l ih=>
  intro own h;obtain ⟨h1,h2⟩:=ih (own:=ZeN x o own) (ZfK h);refine ⟨h1,λ n=>?_⟩;have e:ZdB o (x::l) own=ZdB o l (ZeN x o own):=rfl;rw [e,h2,Zho];by_cases hn:n∈l
  ·rw [if_pos hn,if_pos (List.mem_cons_of_mem _ hn)]
  ·rw [if_neg hn]
   by_cases hx:n=x
   ·rw [if_pos hx,if_pos (by rw [hx];exact List.mem_cons_self)]
   ·rw [if_neg hx,if_neg]
    intro h3;rcases List.mem_cons.1 h3 with h3|h3
    ·exact hx h3
    ·exact hn h3
end
theorem ZbU {n x:Int}:∀ {l:List Int},x∈Zdt n l↔x=n\/x∈l
 |[]=>by simp [Zdt]
 |y::l=>by
  unfold Zdt;split
  ·rw [List.mem_cons,ZbU,List.mem_cons]
   constructor
   ·rintro (h|h|h)
    ·exact .inr (.inl h)
    ·exact .inl h
    ·exact .inr (.inr h)
   ·rintro (h|h|h)
    ·exact .inr (.inl h)
    ·exact .inl h
    ·exact .inr (.inr h)
  ·rw [List.mem_cons]
theorem ZeV {l:List Int}:Zpc l↔l.Pairwise (·<·):=by
 rw [List.pairwise_iff_getElem];exact ⟨λ h i j hi hj hij=>h i j hj hij,λ h i j hj hij=>h i j (by omega) hj hij⟩
theorem Zmf {n:Int}:∀ {l:List Int},l.Pairwise (·<·)->n ∉ l->(Zdt n l).Pairwise (·<·)
 |[],_,_=>by simp [Zdt]
 |x::l,hp,hn=>by
  obtain ⟨h1,h2⟩:=List.pairwise_cons.1 hp;have hx:n≠x:=λ e=>hn (by rw [e];exact List.mem_cons_self);unfold Zdt;split
  ·refine List.pairwise_cons.2 ⟨λ y hy=>?_,Zmf h2 λ h=>hn (List.mem_cons_of_mem _ h)⟩
   rcases ZbU.1 hy with rfl|hy
   ·assumption
   ·exact h1 y hy
  ·refine List.pairwise_cons.2 ⟨λ y hy=>?_,hp⟩
   rcases List.mem_cons.1 hy with rfl|hy
   ·omega
   ·have:=h1 y hy;omega
theorem ZdO {sold:List Int} {c:Nat} {m:Int} (hc:c<sold.length):∀ (t k:Nat),k + t=sold.length->ZaN (sold.set c (sold.getD c 0 + m)) k=ZaN sold k + (if k<=c then m else 0)
 |0,k,h=>by
  rw [Zb2 (by rw [List.length_set];omega),Zb2 (by omega),if_neg (by omega)];rfl
 |t + 1,k,h=>by
  have ih:=ZdO (m:=m) hc t (k + 1) (by omega);rw [Zbf (k:=k) (by rw [List.length_set];omega),Zbf (sold:=sold) (k:=k) (by omega),ih,List.getElem_set];by_cases e:c=k
  ·subst e
   rw [if_pos rfl,if_neg (by omega),if_pos (Nat.le_refl _),ZS hc];omega
  ·rw [if_neg e]
   by_cases h2:k<=c
   ·rw [if_pos (by omega),if_pos h2];omega
   ·rw [if_neg (by omega),if_neg h2];omega
def Zlw:List Zu->Int
 |[]=>0
 |h::L=>h.many + Zlw L
theorem ZeQ (n:Nat):Z2 n []=List.replicate n 0:=by
 apply List.ext_getElem
 ·simp [Z2]
 ·intro i h1 h2;rw [ZcV];simp [Zeo]
theorem ZfT (n:Nat):∀ t k:Nat,k + t=n->ZaN (List.replicate n (0:Int)) k=0
 |0,k,h=>Zb2 (by rw [List.length_replicate];omega)
 |t + 1,k,h=>by rw [Zbf (by rw [List.length_replicate];omega),ZfT n t (k + 1) (by omega)];simp
theorem Zj9 {n:Nat}:∀ {L:List Zu},(∀ h∈L,0<=h.cls/\h.cls<n)->ZaN (Z2 n L) 0=Zlw L
 |[],_=>by rw [ZeQ,ZfT n n 0 (by omega)];rfl
 |h::L,hc=>by
  have h0:=hc h List.mem_cons_self;have ih:=Zj9 λ x hx=>hc x (List.mem_cons_of_mem _ hx);rw [<-Zdx (List.Perm.refl (h::L)) h0.1 h0.2,ZdO (by rw [ZaI];omega) n 0 (by rw [ZaI];omega),if_pos (by omega),ih];show _=h.many + Zlw L;omega
theorem ZhD {k:Int}:∀ {L:List Zu},(∀ h∈L,1<=h.many)->0<=Zeo k L
 |[],_=>Int.le_refl _
 |h::L,hm=>by
  have ih:=ZhD (k:=k) λ x hx=>hm x (List.mem_cons_of_mem _ hx);have h1:=hm h List.mem_cons_self;rw [Zc6];split<;>omega
theorem ZqA {lim a b:List Int} (h:Z8 lim a=true) (hl:b.length=a.length) (hb:∀ k,k<lim.length->0<=b.getD k 0/\b.getD k 0<=a.getD k 0):Z8 lim b=true:=by
 obtain ⟨h1,h2,h3⟩:=ZL.1 h;refine ZL.2 ⟨h1,hl.trans h2,λ k hk=>⟨⟨(hb k hk).1,Int.le_trans (hb k hk).2 (h3 k hk).1.2⟩,?_⟩⟩;refine Int.le_trans ?_ (h3 k hk).2;have key:∀ t k:Nat,k + t=lim.length->ZaN b k<=ZaN a k:=by
  intro t
  induction t with
  |zero=>intro k hk;rw [Zb2 (by omega),Zb2 (by omega)];exact Int.le_refl _
  |succ t ih=>
   intro k hk;rw [Zbf (sold:=b) (by omega),Zbf (sold:=a) (by omega)];have e1:=ih (k + 1) (by omega);have e2:=(hb k (by omega)).2;rw [ZS (by omega),ZS (by omega)] at e2;omega
 exact key (lim.length - k) k (by omega)
theorem Zg4 {lim:List Int} (h:Ze4 lim=true):Z8 lim (List.replicate lim.length 0)=true:=by
 refine ZL.2 ⟨h,by simp,λ k hk=>?_⟩;rw [ZfT lim.length (lim.length - k) k (by omega),List.getD_eq_getElem?_getD];have:=(Zak.1 h).2 k hk;rw [ZS hk];simp [hk];omega
theorem Znq {a:List Int} (h:∀ k,k<a.length->0<=a.getD k 0):∀ t k:Nat,k + t=a.length->0<=ZaN a k
 |0,k,e=>by rw [Zb2 (by omega)];exact Int.le_refl _
 |t + 1,k,e=>by
  have h1:=Znq h t (k + 1) (by omega);have h2:=h k (by omega);rw [ZS (by omega)] at h2;rw [Zbf (by omega)];omega
theorem Zg5 {lim sold:List Int} {c many:Int} (h:(ZaE lim sold c many).2=0):
  (ZaE lim sold c many).1=sold.set c.toNat (sold.getD c.toNat 0 + many)/\Z8 lim (ZaE lim sold c many).1=true/\0<=c/\c<lim.length/\1<=many:=by
 unfold ZaE at h ⊢;split at h
 ·cases h
 split at h
 ·cases h
 rename_i h1 h2;rw [if_neg h1,if_neg h2];have h3:(ZaW lim sold c).2=0:=Classical.byContradiction λ e=>h1 (.inl e);obtain ⟨hn,hc0,hc1⟩:=Zjk h3;have hl:(ZaW lim sold c).1=mnF (ZcP lim sold) (c.toNat + 1):=by unfold ZaW;rw [if_pos ⟨hn,hc0,hc1⟩]
 rw [hl] at h2;obtain ⟨i1,i2,i3⟩:=ZL.1 hn;have hm:=Znf (ZcP lim sold) (c.toNat + 1)
 suffices key:Z8 lim (sold.set c.toNat (sold.getD c.toNat 0 + many))=true from ⟨rfl,key,hc0,hc1,by omega⟩
 refine ZL.2 ⟨i1,by rw [List.length_set];exact i2,λ k hk=>?_⟩;have hf:=ZdO (sold:=sold) (c:=c.toNat) (m:=many) (by omega) (lim.length - k) k (by omega);have hk3:=i3 k hk;have hle:ZaN (sold.set c.toNat (sold.getD c.toNat 0 + many)) k<=lim.getD k 0:=by
  rw [hf];split
  ·have h5:mnF (ZcP lim sold) (c.toNat + 1)<=lim.getD k 0 - ZaN sold k:=hm.2.1 k (by omega) (by omega)
   omega
  ·omega
 refine ⟨?_,hle⟩;have hnn:∀ j,j<(sold.set c.toNat (sold.getD c.toNat 0 + many)).length->0<=(sold.set c.toNat (sold.getD c.toNat 0 + many)).getD j 0:=λ j hj=>by
  rw [List.length_set] at hj;rw [ZS (by rw [List.length_set];exact hj),List.getElem_set];have hj3:=i3 j (by omega);rw [ZS hj] at hj3;split
  ·rename_i e
   have h9:=i3 c.toNat (by omega);omega
  ·omega
 have h0:=hnn k (by rw [List.length_set];omega);refine ⟨h0,?_⟩;have hs:=Zbf (sold:=sold.set c.toNat (sold.getD c.toNat 0 + many)) (k:=k) (by rw [List.length_set];omega);have hg:=Znq hnn (lim.length - (k + 1)) (k + 1) (by rw [List.length_set];omega);have hlk:=((Zak.1 i1).2 k hk).1.2;rw [ZS (by rw [List.length_set];omega)];rw [ZS hk] at hle;omega
variable {f:PF} {r:RF}
theorem ZbZ {L:List Zu} {x:Int}:x∈ZA L↔∃ h∈L,x∈h.seats:=List.mem_flatMap
theorem ZiS (t:Tie f r) (g:ZaP r) (o c m:Int):(Zdw f o c m).2=(Zw r o c m).2/\Tie (Zdw f o c m).1 (Zw r o c m).1/\ZaP (Zw r o c m).1:=by
 unfold Zdw Zw;rw [t.get g.rise,t.lims,t.sold];split
 ·exact ⟨rfl,t,g⟩
 rename_i ho;split
 ·exact ⟨rfl,t,g⟩
 rename_i hn;have hno:ZbB o r.L=none:=by cases e:ZbB o r.L with|none=>rfl|some x=>rw [e] at hn;simp at hn
 split
 ·rename_i hs
  obtain ⟨e1,e2,c0,c1,hm⟩:=Zg5 hs;have hsold:(ZaE r.lims r.sold c m).1=Z2 r.lims.length (Zhi ⟨o,c,m,[]⟩ r.L):=by
   rw [e1];exact Zdx (h:=⟨o,c,m,[]⟩) (ZbA _ _) c0 c1
  refine ⟨rfl,⟨t.num,t.rows,t.grps,rfl,hsold,?_,?_,?_,t.nod⟩,⟨g.num,g.lay,?_,g.l0,Zk6 g.rise hno,?_,?_⟩⟩
  ·show ((f.hs++[(o,(⟨o,c,m,[]⟩:Zu))]).map (·.2)).Perm _
   rw [List.map_append];refine (List.perm_append_comm.trans ?_).trans (ZbA _ _).symm;exact t.hs.cons _
  ·intro e he
   rcases List.mem_append.1 he with he|he
   ·exact t.key e he
   ·rw [List.mem_singleton.1 he]
  ·intro n o'
   show ZH n f.own=some o'↔_;rw [t.own];constructor
   ·rintro ⟨h,hh,e,hs⟩;exact ⟨h,(ZbA _ _).mem_iff.2 (List.mem_cons_of_mem _ hh),e,hs⟩
   ·rintro ⟨h,hh,e,hs⟩
    rcases List.mem_cons.1 ((ZbA _ _).mem_iff.1 hh) with rfl|hh
    ·cases hs
    ·exact ⟨h,hh,e,hs⟩
  ·show Z8 r.lims (Z2 r.lims.length (Zhi ⟨o,c,m,[]⟩ r.L))=true
   rw [<-hsold];exact e2
  ·intro h hh
   rcases List.mem_cons.1 ((ZbA _ _).mem_iff.1 hh) with rfl|hh
   ·exact ⟨by dsimp only;omega,⟨c0,c1⟩,hm,λ i j hj=>by simp at hj,by simp;omega,λ x hx=>by cases hx⟩
   ·exact g.each h hh
  ·show (Zhi ⟨o,c,m,[]⟩ r.L).Pairwise _
   refine ((ZbA _ _).pairwise_iff λ {a b} h x hx hx'=>h x hx' hx).2 (List.pairwise_cons.2 ⟨λ y _ x hx=>(by cases hx),g.apart⟩)
 ·exact ⟨rfl,t,g⟩
theorem Zkh {n:Nat} {A C:List Zu} {h h':Zu} (e1:h'.cls=h.cls) (e2:h'.many=h.many):Z2 n (A++h'::C)=Z2 n (A++h::C):=by
 unfold Z2;refine List.map_congr_left λ k _=>?_;rw [Zej,Zej];simp only [Zeo,e1,e2]
theorem ZhH {A C:List Zu} {h:Zu} (g:(A++h::C).Pairwise λ a b=>∀ x∈a.seats,x ∉ b.seats):(∀ y∈A++C,∀ x∈h.seats,x ∉ y.seats)/\(A++C).Pairwise λ a b=>∀ x∈a.seats,x ∉ b.seats:=by
 have p:(A++h::C).Perm (h::(A++C)):=List.perm_middle;have:=(p.pairwise_iff λ {a b} h x hx hx'=>h x hx' hx).1 g;exact List.pairwise_cons.1 this
theorem Zje {A C:List Zu} {h y:Zu} (hy:y∈A++C):y∈A++h::C:=by
 rw [List.mem_append] at hy;rw [List.mem_append,List.mem_cons];rcases hy with hy|hy
 ·exact .inl hy
 ·exact .inr (.inr hy)
theorem Zju {A C:List Zu} {h h':Zu} (g:ZaP r) (hL:r.L=A++h::C) (e1:h'.owner=h.owner) (e2:h'.cls=h.cls) (e3:h'.many=h.many) (hr:Zpc h'.seats) (hf:(h'.seats.length:Int)<=h.many)
  (hs:∀ x∈h'.seats,x∈h.seats\/(x ∉ ZA r.L/\0<=x/\x<Zaw r.rows r.grps)):ZaP { r with L:=A++h'::C }:=by
 have hh:=g.each h (by rw [hL];simp);have hap:=g.apart;rw [hL] at hap;obtain ⟨a1,a2⟩:=ZhH hap;refine ⟨g.num,g.lay,?_,g.l0,?_,?_,?_⟩
 ·show Z8 r.lims (Z2 r.lims.length (A++h'::C))=true
  rw [Zkh e2 e3,<-hL];exact g.nest
 ·have:=g.rise;rw [hL] at this;exact Zuf e1 this
 ·intro x hx
  show ZtU r.lims.length (Zaw r.rows r.grps) x;have hx:x∈A++h'::C:=hx;rw [List.mem_append,List.mem_cons] at hx;rcases hx with hx|rfl|hx
  ·exact g.each x (by rw [hL];simp [hx])
  ·exact ⟨by rw [e1];exact hh.owner,by rw [e2];exact hh.cls,by rw [e3];exact hh.many,hr,by rw [e3];exact hf,λ y hy=>by
    rcases hs y hy with hy|hy
    ·exact hh.seats y hy
    ·exact hy.2⟩
  ·exact g.each x (by rw [hL];simp [hx])
 ·show (A++h'::C).Pairwise _
  refine ((List.perm_middle (a:=h') (l₁:=A) (l₂:=C)).pairwise_iff λ {a b} h x hx hx'=>h x hx' hx).2 (List.pairwise_cons.2 ⟨λ y hy x hx=>?_,a2⟩);rcases hs x hx with hx|hx
  ·exact a1 y hy x hx
  ·exact λ hxy=>hx.1 (ZbZ.2 ⟨y,by rw [hL];exact Zje hy,hxy⟩)
theorem ZlB {A C:List Zu} {h h':Zu} {own':List (Int × Int)} (t:Tie f r) (g:ZaP r) (hL:r.L=A++h::C) (hA:ZbB h.owner A=none) (e1:h'.owner=h.owner) (e2:h'.cls=h.cls) (e3:h'.many=h.many)
  (hs:∀ x∈h'.seats,x∈h.seats\/x ∉ ZA r.L) (hn:(own'.map (·.1)).Nodup) (ho:∀ n,ZH n own'=if n∈h'.seats then some h.owner else if n∈h.seats then none else ZH n f.own):
  Tie { f with hs:=Zf4 h.owner h' f.hs,own:=own' } { r with L:=A++h'::C }:=by
 have hap:=g.apart;rw [hL] at hap;obtain ⟨a1,a2⟩:=ZhH hap;have hg:ZH h.owner f.hs=some h:=by rw [t.get g.rise,hL];exact Zjx rfl hA
 obtain ⟨a,c,hsp,hna⟩:=ZaL hg;have hset:Zf4 h.owner h' f.hs=a++(h.owner,h')::c:=by rw [hsp];exact Zgo hna (ZfQ _)
 refine ⟨t.num,t.rows,t.grps,t.lims,?_,?_,?_,?_,hn⟩
 ·show f.sold=Z2 r.lims.length (A++h'::C)
  rw [Zkh e2 e3,<-hL];exact t.sold
 ·show ((Zf4 h.owner h' f.hs).map (·.2)).Perm (A++h'::C)
  have p:=t.hs;rw [hsp,hL,List.map_append,List.map_cons] at p;rw [hset,List.map_append,List.map_cons];have p2:=(List.perm_middle.symm.trans p).trans List.perm_middle;exact (List.perm_middle.trans (p2.cons_inv.cons h')).trans List.perm_middle.symm
 ·show ∀ e∈Zf4 h.owner h' f.hs,e.2.owner=e.1
  rw [hset];intro e he;rw [List.mem_append,List.mem_cons] at he;rcases he with he|rfl|he
  ·exact t.key e (by rw [hsp];simp [he])
  ·exact e1
  ·exact t.key e (by rw [hsp];simp [he])
 ·intro n o
  show ZH n own'=some o↔∃ x∈A++h'::C,x.owner=o/\n∈x.seats;rw [ho];constructor
  ·intro e
   split at e
   ·rename_i hn';cases e
    exact ⟨h',by simp,e1,hn'⟩
   ·split at e
    ·cases e
    ·rename_i h1 h2
     obtain ⟨x,hx,hxo,hxn⟩:=(t.own n o).1 e;rw [hL,List.mem_append,List.mem_cons] at hx;rcases hx with hx|rfl|hx
     ·exact ⟨x,by simp [hx],hxo,hxn⟩
     ·exact absurd hxn h2
     ·exact ⟨x,by simp [hx],hxo,hxn⟩
  ·rintro ⟨x,hx,hxo,hxn⟩
   rw [List.mem_append,List.mem_cons] at hx;have other:x∈A++C->(if n∈h'.seats then some h.owner else if n∈h.seats then none else ZH n f.own)=some o:=λ hx=>by
    have hxL:x∈r.L:=by rw [hL];exact Zje hx
    have n1:n ∉ h.seats:=λ hh=>a1 x hx n hh hxn;have n2:n ∉ h'.seats:=λ hh=>by
     rcases hs n hh with hh|hh
     ·exact n1 hh
     ·exact hh (ZbZ.2 ⟨x,hxL,hxn⟩)
    rw [if_neg n2,if_neg n1];exact (t.own n o).2 ⟨x,hxL,hxo,hxn⟩
   rcases hx with hx|rfl|hx
   ·exact other (by simp [hx])
   ·rw [if_pos hxn,<-hxo,e1]
   ·exact other (by simp [hx])
theorem ZmL (t:Tie f r) (g:ZaP r) (o:Int) (lab:ByteArray) (hf:∀ k,Zax r.rows r.grps lab=(k,0)->0<=k/\k<Zaw r.rows r.grps):
  (Zev f o lab).2=(ZO r o lab).2/\Tie (Zev f o lab).1 (ZO r o lab).1/\ZaP (ZO r o lab).1:=by
 unfold Zev ZO;rw [t.get g.rise];cases hg:ZbB o r.L with
 |none=>exact ⟨rfl,t,g⟩
 |some h=>
  obtain ⟨A,C,hL,hA,rfl⟩:=Zat hg;have hh:=g.each h (by rw [hL];simp);dsimp only;rw [show Zax f.rows f.grps lab=Zax r.rows r.grps lab by rw [t.rows,t.grps]];split
  ·exact ⟨rfl,t,g⟩
  rename_i h2;split
  ·exact ⟨rfl,t,g⟩
  rename_i h3;have hfe:(Zax r.rows r.grps lab).2=0:=Classical.byContradiction h2;have hb:=hf (Zax r.rows r.grps lab).1 (by rw [<-hfe]);by_cases h4:(Zax r.rows r.grps lab).1∈ZA r.L
  ·rw [if_pos ((t.taken _).2 h4),if_pos h4];exact ⟨rfl,t,g⟩
  ·rw [if_neg (λ e=>h4 ((t.taken _).1 e)),if_neg h4]
   generalize (Zax r.rows r.grps lab).1=n at *;have hset:ZnZ h.owner (h.put n) r.L=A++h.put n::C:=by rw [hL];exact Zde rfl hA
   rw [hset];have hnh:n ∉ h.seats:=λ e=>h4 (ZbZ.2 ⟨h,by rw [hL];simp,e⟩);have hs:∀ x∈(h.put n).seats,x∈h.seats\/(x ∉ ZA r.L/\0<=x/\x<Zaw r.rows r.grps):=λ x hx=>by
    rcases ZbU.1 hx with rfl|hx
    ·exact .inr ⟨h4,hb⟩
    ·exact .inl hx
   refine ⟨rfl,ZlB (h':=h.put n) t g hL hA rfl rfl rfl (λ x hx=>(hs x hx).imp id (·.1)) (ZfK t.nod) λ x=>?_,Zju (h':=h.put n) g hL rfl rfl rfl ?_ ?_ hs⟩
   ·rw [Zho]
    show _=if x∈Zdt n h.seats then some h.owner else _
    by_cases hx:x=n
    ·rw [if_pos hx,if_pos (ZbU.2 (.inl hx))]
    ·rw [if_neg hx]
     by_cases hx2:x∈h.seats
     ·rw [if_pos (ZbU.2 (.inr hx2))]
      exact (t.own x h.owner).2 ⟨h,by rw [hL];simp,rfl,hx2⟩
     ·rw [if_neg (λ e=>(ZbU.1 e).elim hx hx2),if_neg hx2]
   ·exact ZeV.2 (Zmf (ZeV.1 hh.rise) hnh)
   ·show ((Zdt n h.seats).length:Int)<=_
    rw [Zgw];omega
theorem ZmN (t:Tie f r) (g:ZaP r) (o:Int):(Zjw f o).2=(ZaX r o).2/\Tie (Zjw f o).1 (ZaX r o).1/\ZaP (ZaX r o).1:=by
 unfold Zjw ZaX;rw [t.get g.rise];cases hg:ZbB o r.L with
 |none=>exact ⟨rfl,t,g⟩
 |some h=>
  obtain ⟨A,C,hL,hA,rfl⟩:=Zat hg;have hh:=g.each h (by rw [hL];simp);have hmany:∀ x∈r.L,1<=x.many:=λ x hx=>(g.each x hx).many;have hap:=g.apart;rw [hL] at hap;obtain ⟨a1,a2⟩:=ZhH hap;dsimp only;have hdel:ZtK h.owner r.L=A++C:=by rw [hL];exact ZgA rfl hA
  rw [hdel];have p:r.L.Perm (h::(A++C)):=by rw [hL];exact List.perm_middle
  have hout:r.sold.set h.cls.toNat (r.sold.getD h.cls.toNat 0 - h.many)=Z2 r.lims.length (A++C):=ZpI p hh.cls.1 hh.cls.2;have hle:h.many<=r.sold.getD h.cls.toNat 0:=by
   show _<=(Z2 r.lims.length r.L).getD _ 0;have hcl:=hh.cls;rw [Zbo (by omega),Zc5 p,show ((h.cls.toNat:Nat):Int)=h.cls by omega];have:=ZhD (k:=h.cls) (L:=A++C) λ x hx=>hmany x (by rw [hL];exact Zje hx);show h.many<=(if h.cls=h.cls then h.many else 0) + _
   rw [if_pos rfl];omega
  have hback:Zfu f.lims f.sold h.cls h.many=(Z2 r.lims.length (A++C),0):=by
   rw [t.lims,t.sold];unfold Zfu;have hl:(ZaW r.lims r.sold h.cls).2=0:=by unfold ZaW;rw [if_pos ⟨g.nest,hh.cls.1,hh.cls.2⟩]
   rw [if_neg (by rw [hl];have:=hh.many;omega),hout]
  rw [hback];have hg2:ZH h.owner f.hs=some h:=by rw [t.get g.rise];exact hg
  obtain ⟨a,c,hsp,hna⟩:=ZaL hg2;have hdm:Zfk h.owner f.hs=a++c:=by rw [hsp];exact Zfj hna (ZfQ _)
  obtain ⟨d1,d2⟩:=ZoY (l:=h.seats) t.nod;refine ⟨rfl,⟨t.num,t.rows,t.grps,t.lims,rfl,?_,?_,?_,d1⟩,⟨g.num,g.lay,?_,g.l0,?_,?_,a2⟩⟩
  ·show ((Zfk h.owner f.hs).map (·.2)).Perm (A++C)
   have p:=t.hs;rw [hsp,hL,List.map_append,List.map_cons] at p;rw [hdm,List.map_append];exact ((List.perm_middle.symm.trans p).trans List.perm_middle).cons_inv
  ·show ∀ e∈Zfk h.owner f.hs,e.2.owner=e.1
   intro e he;exact t.key e ((ZjL _ _).subset he)
  ·intro n o'
   show ZH n (Zb8 h.seats f.own)=some o'↔∃ x∈A++C,x.owner=o'/\n∈x.seats;rw [d2];constructor
   ·intro e
    split at e
    ·cases e
    ·rename_i hn
     obtain ⟨x,hx,hxo,hxn⟩:=(t.own n o').1 e;rcases List.mem_cons.1 (p.mem_iff.1 hx) with rfl|hx
     ·exact absurd hxn hn
     ·exact ⟨x,hx,hxo,hxn⟩
   ·rintro ⟨x,hx,hxo,hxn⟩
    rw [if_neg (λ hh=>a1 x hx n hh hxn)];exact (t.own n o').2 ⟨x,p.mem_iff.2 (List.mem_cons_of_mem _ hx),hxo,hxn⟩
  ·refine ZqA g.nest (by show (Z2 _ _).length=(Z2 _ _).length;rw [ZaI,ZaI]) λ k hk=>?_
   show 0<=(Z2 r.lims.length (A++C)).getD k 0/\(Z2 r.lims.length (A++C)).getD k 0<=(Z2 r.lims.length r.L).getD k 0;have hk:k<r.lims.length:=hk;rw [Zbo hk,Zbo hk,Zc5 p];refine ⟨ZhD λ x hx=>hmany x (p.mem_iff.2 (List.mem_cons_of_mem _ hx)),?_⟩;rw [Zc6];have:=hh.many;split<;>omega
  ·have:=g.rise;rw [hL] at this;exact Zug this
  ·intro x hx
   exact g.each x (p.mem_iff.2 (List.mem_cons_of_mem _ hx))
end
end Go.Proofs.YtlplemdmegpoeaaGreatDoor
