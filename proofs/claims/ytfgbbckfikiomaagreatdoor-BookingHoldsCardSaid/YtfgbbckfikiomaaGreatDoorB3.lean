/- Classes and limits: package nest. Condition: none. -/
import Derived.Test.YtfgbbckfikiomaaGreatDoorB2
import GoSem.Core.Float
import Derived.KernelRfl
import Derived.Laws.Externs
import Derived.Lib.Overlaps
import Derived.Shelf.SlIterI.Nil
import Derived.Shelf.SlIterI.Collect
import Derived.Shelf.SlIterI.Sorted
import Derived.Shelf.SortM.Plain
import Derived.Shelf.SortM.SortNone
import Derived.Ground.GgzProg
import Derived.Ground.SlgmProg
import Derived.Test.YtfgbbckfikiomaaGreatDoorProg
import Derived.Test.YtfgbbckfikiomaaGreatDoorB1
set_option linter.unusedVariables false
namespace Go.Proofs.YtfgbbckfikiomaaGreatDoor
section
open Go Go.VC Tryz
variable {R:Cx} {Hs Rest:List HP} {w:World}
def inR (x:Int):Bool:=decide (0<=x/\x<=10000)
def ZeF (l:List Int):Bool:=decide (1<=l.length/\l.length<=8) && decide (∀ k,k<l.length->(0<=l.getD k 0/\l.getD k 0<=10000)/\(0<k->l.getD k 0<=l.getD (k - 1) 0))
def ZaE (sold:List Int) (k:Nat):Int:=(sold.drop k).sum
def Z1 (lim sold:List Int):Bool:=ZeF lim && (decide (sold.length=lim.length) && decide (∀ k,k<lim.length->(0<=sold.getD k 0/\sold.getD k 0<=10000)/\ZaE sold k<=lim.getD k 0))
def mnF (x:Nat->Int):Nat->Int
 |0=>10000
 |k + 1=>if x k<mnF x k then x k else mnF x k
def ZcK (lim sold:List Int) (k:Nat):Int:=lim.getD k 0 - ZaE sold k
def ZaW (lim sold:List Int) (c:Int):Int × Int:=if Z1 lim sold=true/\0<=c/\c<lim.length then (mnF (ZcK lim sold) (c.toNat + 1),0) else (0,1)
def Za5 (lim sold:List Int) (c many:Int):List Int × Int:=
 if (ZaW lim sold c).2≠0\/many<1\/many>10000 then ([],1) else if many>(ZaW lim sold c).1 then ([],3)
 else (sold.set c.toNat (sold.getD c.toNat 0 + many),0)
def Zfp (lim sold:List Int) (c many:Int):List Int × Int:=
 if (ZaW lim sold c).2≠0\/many<1\/many>sold.getD c.toNat 0 then ([],1) else (sold.set c.toNat (sold.getD c.toNat 0 - many),0)
def ZmV (x:Nat->Int) (a b:Nat) (L:Int):Prop:=L<=10000/\(∀ k,a<=k->k<b->L<=x k)/\(L=10000\/∃ k,a<=k/\k<b/\L=x k)
theorem Zns (x:Nat->Int):∀ k,ZmV x 0 k (mnF x k)
 |0=>⟨by simp [mnF],λ k h0 h1=>by omega,.inl rfl⟩
 |k + 1=>by
  obtain ⟨h1,h2,h3⟩:=Zns x k;unfold mnF;split
  ·exact ⟨by omega,λ j a b=>by
    by_cases hj:j=k
    ·rw [hj];exact Int.le_refl _
    ·have:=h2 j a (by omega);omega,.inr ⟨k,by omega,by omega,rfl⟩⟩
  ·refine ⟨h1,λ j a b=>?_,?_⟩
   ·by_cases hj:j=k
    ·rw [hj];omega
    ·exact h2 j a (by omega)
   ·rcases h3 with h3|⟨j,a,b,c⟩
    ·exact .inl h3
    ·exact .inr ⟨j,a,by omega,c⟩
theorem ZmV.eq {x:Nat->Int} {a b:Nat} {L L':Int} (h:ZmV x a b L) (h':ZmV x a b L'):L=L':=by
 obtain ⟨h1,h2,h3⟩:=h;obtain ⟨h1',h2',h3'⟩:=h';have a1:L<=L':=by
  rcases h3' with h|⟨k,k1,k2,k3⟩
  ·omega
  ·rw [k3];exact h2 k k1 k2
 have a2:L'<=L:=by
  rcases h3 with h|⟨k,k1,k2,k3⟩
  ·omega
  ·rw [k3];exact h2' k k1 k2
 omega
theorem ZmV.step {x:Nat->Int} {a b:Nat} {L:Int} (h:ZmV x (a + 1) b L) (hab:a<b):ZmV x a b (if x a<L then x a else L):=by
 obtain ⟨h1,h2,h3⟩:=h;split
 ·exact ⟨by omega,λ k k1 k2=>by
   by_cases hk:k=a
   ·rw [hk];exact Int.le_refl _
   ·have:=h2 k (by omega) k2;omega,.inr ⟨a,by omega,hab,rfl⟩⟩
 ·refine ⟨h1,λ k k1 k2=>?_,?_⟩
  ·by_cases hk:k=a
   ·rw [hk];omega
   ·exact h2 k (by omega) k2
  ·rcases h3 with h|⟨k,k1,k2,k3⟩
   ·exact .inl h
   ·exact .inr ⟨k,by omega,k2,k3⟩
theorem ZmV.skip {x:Nat->Int} {a b:Nat} {L:Int} (h:ZmV x (a + 1) b L) (hab:¬ a<b):ZmV x a b L:=by
 obtain ⟨h1,h2,h3⟩:=h;refine ⟨h1,λ k k1 k2=>by omega,?_⟩;rcases h3 with h|⟨k,k1,k2,k3⟩
 ·exact .inl h
 ·omega
theorem Za4 {sold:List Int} {k:Nat} (h:k<sold.length):ZaE sold k=sold[k] + ZaE sold (k + 1):=by
 unfold ZaE;rw [List.drop_eq_getElem_cons h,List.sum_cons]
theorem Zb0 {sold:List Int} {k:Nat} (h:sold.length<=k):ZaE sold k=0:=by
 unfold ZaE;rw [List.drop_eq_nil_of_le h];rfl
theorem ZjR {sold:List Int} (h:∀ x∈sold,0<=x/\x<=10000):∀ k,0<=ZaE sold k/\ZaE sold k<=10000 * (sold.length - k:Nat):=by
 intro k;unfold ZaE;rw [<-List.length_drop];have:∀ x∈sold.drop k,0<=x/\x<=10000:=λ x hx=>h x (List.mem_of_mem_drop hx);generalize sold.drop k=l at *
 induction l with
 |nil=>simp
 |cons a l ih=>
  have:=ih λ x hx=>this x (List.mem_cons_of_mem _ hx);have:=‹∀ x∈a::l,0<=x/\x<=10000› a List.mem_cons_self;simp only [List.sum_cons,List.length_cons];omega
theorem ZR {l:List Int} {k:Nat} (h:k<l.length):l.getD k 0=l[k]:=by rw [List.getD_eq_getElem?_getD,List.getElem?_eq_getElem h];rfl
theorem Zaa {l:List Int}:ZeF l=true↔(1<=l.length/\l.length<=8)/\∀ k (h:k<l.length),(0<=l[k]/\l[k]<=10000)/\(0<k->l[k]<=l.getD (k - 1) 0):=by
 unfold ZeF;rw [Bool.and_eq_true,decide_eq_true_iff,decide_eq_true_iff];constructor
 ·rintro ⟨h1,h2⟩
  exact ⟨h1,λ k h=>by have:=h2 k h;rw [ZR h] at this;exact this⟩
 ·rintro ⟨h1,h2⟩
  exact ⟨h1,λ k h=>by rw [ZR h];exact h2 k h⟩
theorem ZJ {lim sold:List Int}:Z1 lim sold=true↔ZeF lim=true/\sold.length=lim.length/\∀ k,k<lim.length->(0<=sold.getD k 0/\sold.getD k 0<=10000)/\ZaE sold k<=lim.getD k 0:=by
 unfold Z1;rw [Bool.and_eq_true,Bool.and_eq_true,decide_eq_true_iff,decide_eq_true_iff]
theorem Zdz {lim sold:List Int} (h:¬ (ZeF lim=true/\sold.length=lim.length/\∀ k,k<lim.length->(0<=sold.getD k 0/\sold.getD k 0<=10000)/\ZaE sold k<=lim.getD k 0)):Z1 lim sold=false:=by
 rw [<-Bool.not_eq_true,ZJ];exact h
theorem Zeu {x:Int} (hw:Sat R Hs w):Zm prog 226 #[.int .i64 x] w λ v w'=>v=.bool (inR x)/\Sat R Hs w':=by
 apply ZwB;unfold inR;refine Br.d (λ h=>⟨?_,hw⟩) (λ h=>⟨?_,hw⟩)
 ·congr 1;rw [decide_eq_decide];omega
 ·rw [decide_eq_false (by omega)]
theorem ZfK {sl ss:Sl} {lim sold:List Int} {ask:Value} {A:Nat->List HP} (hl:RoI R sl lim) (hs:RoI R ss sold)
  (hask:∀ j w,j<lim.length->Sat R (A (j + 1)) w->ZaK prog cl ask [.int .i64 j,.int .i64 (ZcK lim sold j)] w λ e w'=>e=.returned (.tuple #[])/\Sat R (A j) w')
  (hw:Sat R (A lim.length) w):
  Zm prog 197 #[.slice sl.a sl.len sl.cap,.slice ss.a ss.len ss.cap,ask] w λ v w'=>v=.bool (Z1 lim sold)/\∃ j,Sat R (A j) w'/\(Z1 lim sold=true->j=0):=by
 have hll:=hl.len;have hsl:=hs.len;have hlb:=hl.bound;have hsb:=hs.bound;apply ZwT;have no:∀ j w,Sat R (A j) w->Z1 lim sold=false->Value.bool false=.bool (Z1 lim sold)/\∃ j,Sat R (A j) w/\(Z1 lim sold=true->j=0):=λ j w h e=>⟨by rw [e],j,h,λ h=>by rw [e] at h;cases h⟩;have nl:¬ (1<=lim.length/\lim.length<=8)->Z1 lim sold=false:=λ h=>Zdz λ h2=>h (Zaa.1 h2.1).1;refine ⟨λ w=>(1<=lim.length/\lim.length<=8/\sold.length=lim.length)/\Sat R (A lim.length) w,?_,?_⟩
 ·refine Br.d (λ h=>no _ _ hw (nl (by omega))) (λ h1=>Br.d (λ h=>no _ _ hw (nl (by omega))) (λ h2=>Br.ne (λ h=>no _ _ hw (Zdz λ h3=>by omega)) (λ h3=>⟨⟨by omega,by omega,by omega⟩,hw⟩)))
 clear hw;rintro _ w ⟨⟨h1,h2,h3⟩,hw⟩;refine ⟨λ sum fine i w=>∃ j:Nat,i=(j:Int) - 1/\j<=lim.length/\sum=ZaE sold j/\(∀ x∈sold.drop j,0<=x/\x<=10000)/\
   (∀ k (h:k<lim.length),j<=k->(0<=lim[k]/\lim[k]<=10000)/\(0<k->lim[k]<=lim.getD (k - 1) 0))/\fine=decide (∀ k,k<lim.length->j<=k->ZaE sold k<=lim.getD k 0)/\Sat R (A j) w,
  λ _ _ i _=>(i + 1).toNat,⟨lim.length,?_,by omega,?_,?_,λ k h h'=>by omega,?_,hw⟩,?_⟩
 ·rw [hll,Zh (by omega) (by omega)]
 ·rw [Zb0 (by omega)]
 ·rw [List.drop_eq_nil_of_le (by omega)];simp
 ·rw [decide_eq_true];intro k h h';omega
 clear hw;rintro _ _ fine _ w ⟨j,rfl,hj,rfl,hsm,hlm,rfl,hw⟩;refine Br.d (λ h=>?_) (λ h=>?_)
 ·obtain ⟨i,rfl⟩:∃ i,j=i + 1:=⟨j - 1,by omega⟩
  rw [show ((i + 1:Nat):Int) - 1=(i:Int) by omega];have hil:i<lim.length:=by omega
  have his:i<sold.length:=by omega
  have nlim:¬ ((0<=lim[i]/\lim[i]<=10000)/\(0<i->lim[i]<=lim.getD (i - 1) 0))->Z1 lim sold=false:=λ h=>Zdz λ h2=>h ((Zaa.1 h2.1).2 i hil);have nsold:¬ (0<=sold[i]/\sold[i]<=10000)->Z1 lim sold=false:=λ h=>Zdz λ h2=>h (by have:=(h2.2.2 i hil).1;rw [ZR his] at this;exact this);refine ⟨λ w=>(inR lim[i]=true/\inR sold[i]=true/\(0<i->lim[i]<=lim.getD (i - 1) 0))/\Sat R (A (i + 1)) w,?_,?_⟩
  ·refine Zo hw λ w hw=>?_
   refine Ro.ix hl Zao i rfl hil ?_;refine (Zeu hw).use ?_;rintro _ w ⟨rfl,hw⟩;refine ⟨_,rfl,hw,Br.nb (λ h=>no _ _ hw (nlim λ h2=>by unfold inR at h;have:=of_decide_eq_false h;omega)) (λ h4=>?_)⟩;refine Ro.ix hs Zao i rfl his ?_;refine (Zeu hw).use ?_;rintro _ w ⟨rfl,hw⟩;refine ⟨_,rfl,hw,Br.nb (λ h=>no _ _ hw (nsold λ h2=>by unfold inR at h;have:=of_decide_eq_false h;omega)) (λ h5=>?_)⟩;refine Br.d (λ h6=>?_) (λ h6=>⟨⟨h4,h5,λ h=>by omega⟩,hw⟩);refine Ro.ix hl Zao i rfl hil ?_;refine Ro.ix hl Zao (i - 1) (by rw [Zh (by omega) (by omega)];omega) (by omega) ?_;refine Br.d (λ h7=>no _ _ hw (nlim λ h8=>?_)) (λ h7=>⟨⟨h4,h5,λ _=>by rw [ZR (by omega)];omega⟩,hw⟩);have:=h8.2 (by omega);rw [ZR (by omega)] at this;omega
  clear hw;rintro _ w ⟨⟨h4,h5,h6⟩,hw⟩;have h4:=of_decide_eq_true h4;have h5:=of_decide_eq_true h5;have hsm':∀ x∈sold.drop i,0<=x/\x<=10000:=λ x hx=>by
   rw [List.drop_eq_getElem_cons his] at hx;rcases List.mem_cons.1 hx with rfl|hx
   ·exact h5
   ·exact hsm x hx
  have hfs:=Za4 his;have hfb:0<=ZaE sold (i + 1)/\ZaE sold (i + 1)<=80000:=by
   have:=ZjR (sold:=sold.drop (i + 1)) hsm 0;unfold ZaE at this ⊢;rw [List.drop_zero] at this;rw [List.length_drop] at this;omega
  have hroom:IntKind.i64.wrap (lim[i] - ZaE sold i)=ZcK lim sold i:=by
   rw [Zh (by omega) (by omega)];unfold ZcK;rw [ZR hil]
  have hsum:IntKind.i64.wrap (ZaE sold (i + 1) + sold[i])=ZaE sold i:=by rw [Zh (by omega) (by omega)];omega
  have hk:IntKind.i64.wrap ((i:Int) - 1)=(i:Int) - 1:=Zh (by omega) (by omega);have fin:∀ w,Sat R (A i) w->∀ b:Bool,b=(decide (∀ k,k<lim.length->i + 1<=k->ZaE sold k<=lim.getD k 0) && decide (ZaE sold i<=lim[i]))->
    (∃ j:Nat,(i:Int) - 1=(j:Int) - 1/\j<=lim.length/\ZaE sold i=ZaE sold j/\(∀ x∈sold.drop j,0<=x/\x<=10000)/\
     (∀ k (h:k<lim.length),j<=k->(0<=lim[k]/\lim[k]<=10000)/\(0<k->lim[k]<=lim.getD (k - 1) 0))/\b=decide (∀ k,k<lim.length->j<=k->ZaE sold k<=lim.getD k 0)/\Sat R (A j) w)/\((i:Int) - 1 + 1).toNat<((i:Int) + 1).toNat:=λ w hw b hb=>by
   refine ⟨⟨i,rfl,by omega,rfl,hsm',λ k h h'=>?_,?_,hw⟩,by omega⟩
   ·by_cases hki:k=i
    ·subst hki;exact ⟨h4,h6⟩
    ·exact hlm k h (by omega)
   ·rw [hb,<-Bool.decide_and,decide_eq_decide]
    constructor
    ·rintro ⟨a,b⟩ k c d
     by_cases hki:k=i
     ·subst hki;rw [ZR hil];exact b
     ·exact a k c (by omega)
    ·intro a
     exact ⟨λ k c d=>a k c (by omega),by have:=a i hil (by omega);rw [ZR hil] at this;exact this⟩
  refine Ro.ix hs (eqS hw) i rfl his ?_;rw [hsum,hk];refine Br.d (λ h7=>?_) (λ h7=>?_)
  ·refine Ro.ix hl (eqS hw) i rfl hil (Ro.ix hl (eqS hw) i rfl hil ?_)
   rw [hroom];refine (hask i w hil hw).mono ?_;rintro _ w ⟨rfl,hw⟩;exact ⟨rfl,fin w hw _ (by rw [decide_eq_true h7];rfl)⟩
  ·refine Ro.ix hl (eqS hw) i rfl hil ?_
   rw [hroom];refine (hask i w hil hw).mono ?_;rintro _ w ⟨rfl,hw⟩;exact ⟨rfl,fin w hw _ (by rw [decide_eq_false h7];rfl)⟩
 ·obtain rfl:j=0:=by omega
  have e:Z1 lim sold=decide (∀ k,k<lim.length->0<=k->ZaE sold k<=lim.getD k 0):=by
   rw [Bool.eq_iff_iff,ZJ,decide_eq_true_iff];constructor
   ·intro h k h4 _;exact (h.2.2 k h4).2
   ·intro h
    refine ⟨Zaa.2 ⟨⟨h1,h2⟩,λ k h4=>hlm k h4 (by omega)⟩,h3,λ k h4=>⟨?_,h k h4 (by omega)⟩⟩;rw [ZR (by omega)];exact hsm _ (by rw [List.drop_zero];exact List.getElem_mem _)
  exact ⟨by rw [e],0,hw,λ _=>rfl⟩
end
section
open Go Go.VC Tryz
variable {R:Cx} {Hs Rest:List HP} {w:World}
theorem Zmi {sl ss:Sl} {lim sold:List Int} (hl:RoI R sl lim) (hs:RoI R ss sold) (hw:Sat R Hs w):
  Zm prog 161 #[.slice sl.a sl.len sl.cap,.slice ss.a ss.len ss.cap] w λ v w'=>v=.bool (Z1 lim sold)/\Sat R Hs w':=by
 apply Zxo;refine (ZfK (A:=λ _=>Hs) hl hs (λ j w _ hw=>ZaK.mk (by kernel_rfl) (Zm.use (Q:=λ v w'=>v=.tuple #[]/\Sat R Hs w') (ZwH _ _ _ _ ⟨rfl,hw⟩) λ v w' h=>⟨by rw [h.1],h.2⟩)) hw).use ?_;rintro _ w ⟨rfl,_,hw,_⟩;exact ⟨_,rfl,rfl,hw⟩
def Zll (b:Nat) (x:Nat->Int) (j c:Nat):HP:=λ h=>∃ L,ZmV x j c L/\pts b (.cells [.int .i64 L].toArray 3 (0,0)) h
theorem ZiB {b j c:Nat} {x:Nat->Int} (hw:Sat R (Zll b x j c::Hs) w):∃ L,ZmV x j c L/\Sat R (pts b (.cells [.int .i64 L].toArray 3 (0,0))::Hs) w:=
 let ⟨h,⟨L,hL,hp⟩,hd,hs⟩:=hw
 ⟨L,hL,h,hp,hd,hs⟩
theorem Zho {b j c:Nat} {x:Nat->Int} {L:Int} (hL:ZmV x j c L) (hw:Sat R (pts b (.cells [.int .i64 L].toArray 3 (0,0))::Hs) w):Sat R (Zll b x j c::Hs) w:=
 Sat.imp (λ _ h=>⟨L,hL,h⟩) hw
theorem ZoR {bc bl:Nat} {c:Int} {x:Nat->Int} {j:Nat} (hw:Sat R (Zll bl x (j + 1) (c + 1).toNat::pts bc (.cells [.int .i64 c].toArray 3 (0,0))::Hs) w):
  Zm prog 198 #[.int .i64 j,.int .i64 (x j),.pointer (some ⟨bc,0,none⟩),.pointer (some ⟨bl,0,none⟩)] w λ v w'=>v=.tuple #[]/\Sat R (Zll bl x j (c + 1).toNat::pts bc (.cells [.int .i64 c].toArray 3 (0,0))::Hs) w':=by
 obtain ⟨L,hL,hw⟩:=ZiB hw;apply ZrZ;refine Zc.mk rfl ⟨c,oA hw,Br.d (λ h=>?_) (λ h=>⟨rfl,Zho (hL.skip (by omega)) hw⟩)⟩;refine Zc.mk rfl ⟨L,oA hw,?_⟩;refine Za hw (by kernel_rfl) rfl (by simp [Value.cells]) λ w hw=>?_;exact ⟨rfl,Zho (hL.step (by omega)) hw⟩
theorem Zhn {sl ss:Sl} {lim sold:List Int} {c:Int} (hl:RoI R sl lim) (hs:RoI R ss sold) (hw:Sat R Hs w):
  Zm prog 131 #[.slice sl.a sl.len sl.cap,.slice ss.a ss.len ss.cap,.int .i64 c] w λ v w'=>v=.tuple #[.int .i64 (ZaW lim sold c).1,.int .i64 (ZaW lim sold c).2]/\Sat R Hs w':=by
 have hll:=hl.len;have hlb:=hl.bound;have no:¬ (Z1 lim sold=true/\0<=c/\c<lim.length)->ZaW lim sold c=(0,1):=λ h=>by unfold ZaW;rw [if_neg h]
 apply ZxD;refine Zb hw λ bc w hw=>?_;refine Zb hw λ bl w hw=>?_;have hw:Sat R (pts bl (.cells [.int .i64 0].toArray 3 (0,0))::pts bc (.cells [.int .i64 c].toArray 3 (0,0))::Hs) w:=hw;refine Za hw (by kernel_rfl) rfl (by simp [Value.cells]) λ w hw=>?_;have hw:Sat R (pts bl (.cells [.int .i64 10000].toArray 3 (0,0))::pts bc (.cells [.int .i64 c].toArray 3 (0,0))::Hs) w:=hw;by_cases hc:c<lim.length
 ·have h0:ZmV (ZcK lim sold) lim.length (c + 1).toNat 10000:=⟨by omega,λ k h1 h2=>by omega,.inl rfl⟩
  refine (ZfK (A:=λ j=>Zll bl (ZcK lim sold) j (c + 1).toNat::pts bc (.cells [.int .i64 c].toArray 3 (0,0))::Hs) hl hs (λ j w _ hw=>ZaK.mk (by kernel_rfl) ((ZoR hw).use λ v w' h=>⟨by rw [h.1],h.2⟩)) (Zho h0 hw)).use ?_;rintro _ w ⟨rfl,j,hw,hj⟩;refine ⟨_,rfl,Br.nb (λ h=>⟨?_,hw.drop.drop⟩) (λ h1=>?_)⟩
  ·rw [no (λ h2=>by rw [h] at h2;cases h2.1)]
  obtain rfl:=hj h1;obtain ⟨L,hL,hw⟩:=ZiB hw;refine ⟨c,oA hw,Br.d (λ h=>⟨by rw [no (λ h2=>by omega)],hw.drop.drop⟩) (λ h2=>?_)⟩;refine ⟨c,oA hw,Br.d (λ h=>⟨by rw [no (λ h2=>by omega)],hw.drop.drop⟩) (λ h3=>?_)⟩;refine ⟨L,oA hw,?_,hw.drop.drop⟩;have e:ZaW lim sold c=(mnF (ZcK lim sold) (c.toNat + 1),0):=by unfold ZaW;rw [if_pos ⟨h1,by omega,hc⟩]
  rw [e,show c.toNat + 1=(c + 1).toNat by omega];rw [hL.eq (Zns _ _)]
 ·have h0:ZmV (λ _=>0) 0 0 10000:=⟨by omega,λ k h1 h2=>by omega,.inl rfl⟩
  refine (ZfK (A:=λ j=>exs (λ L=>pts bl (.cells [.int .i64 L].toArray 3 (0,0)))::pts bc (.cells [.int .i64 c].toArray 3 (0,0))::Hs) hl hs (λ j w _ hw=>ZaK.mk (by kernel_rfl) ?_) (Sat.exs.2 ⟨10000,hw⟩)).use ?_
  ·obtain ⟨L,hw⟩:=Sat.exs.1 hw
   refine Zm.use (Q:=λ v w'=>v=.tuple #[]/\Sat R (exs (λ L=>pts bl (.cells [.int .i64 L].toArray 3 (0,0)))::pts bc (.cells [.int .i64 c].toArray 3 (0,0))::Hs) w') (ZrZ _ _ _ _ _ _ ?_) λ v w' h=>⟨by rw [h.1],h.2⟩;refine Zc.mk rfl ⟨c,oA hw,Br.d (λ h=>?_) (λ h=>⟨rfl,Sat.exs.2 ⟨L,hw⟩⟩)⟩;refine Zc.mk rfl ⟨L,oA hw,?_⟩;refine Za hw (by kernel_rfl) rfl (by simp [Value.cells]) λ w hw=>?_;exact ⟨rfl,Sat.exs.2 ⟨_,hw⟩⟩
  rintro _ w ⟨rfl,j,hw,hj⟩;obtain ⟨L,hw⟩:=Sat.exs.1 hw;have e:=no (λ h2=>by omega);refine ⟨_,rfl,Br.nb (λ h=>⟨by rw [e],hw.drop.drop⟩) (λ h1=>?_)⟩;refine ⟨c,oA hw,Br.d (λ h=>⟨by rw [e],hw.drop.drop⟩) (λ h2=>?_)⟩;refine ⟨c,oA hw,Br.d (λ h=>⟨by rw [e],hw.drop.drop⟩) (λ h3=>by omega)⟩
theorem ZeL {s:Sl} {l:List Int} (hs:RoI R s l) (hl:l.length<=1000000000) (hw:Sat R Hs w):
  Zm prog 172 #[.slice s.a s.len s.cap] w λ v w'=>∃ t:Sl,v=.slice t.a t.len t.cap/\Sat R (Own t 3 (l.map (Value.int .i64))::Hs) w':=by
 apply Zxe;refine Br.mk (λ h=>?_) (λ h=>?_)
 ·have hnil:l=[]:=by
   by_cases hn:l=[]
   ·exact hn
   ·obtain ⟨b,off,l',T,fr,ha,_⟩:=hs.mem (by simpa using hn)
    rw [ha] at h;cases h
  subst hnil;exact ⟨⟨none,0,0⟩,rfl,Own.nil hw⟩
 ·refine Zb hw λ b w hw=>?_
  have hw:Sat R (Own ⟨some ⟨b,0,none⟩,0,0⟩ 3 (([]:List Int).map (Value.int .i64))::Hs) w:=ZbI hw;refine ZgG Zo6 (s:=⟨some ⟨b,0,none⟩,0,0⟩) (n:=1000000000) underlying28 hw hs (by simpa using hl) (by omega) (by omega) λ t w hw=>?_;exact ⟨t,rfl,hw⟩
theorem Zle {s:Sl} {l:List Int} {c many:Int} (hs:RoI R s l) (hl:l.length<=1000) (hc:0<=c) (hc2:c<l.length) (hb:∀ x∈l,0<=x/\x<=10000) (hm: -10000<=many/\many<=10000) (hw:Sat R Hs w):
  Zm prog 228 #[.slice s.a s.len s.cap,.int .i64 c,.int .i64 many] w λ v w'=>∃ t:Sl,v=.slice t.a t.len t.cap/\Sat R (Own t 3 ((l.set c.toNat (l.getD c.toNat 0 + many)).map (Value.int .i64))::Hs) w':=by
 obtain ⟨k,rfl⟩:=Int.eq_ofNat_of_zero_le hc;have hk:k<l.length:=by omega
 have hx:=hb l[k] (List.getElem_mem _);apply Zwz;refine (ZeL hs (by omega) hw).use ?_;rintro _ w ⟨t,rfl,hw⟩;refine ⟨t,rfl,?_⟩;refine Own.ix hw (eqS hw) k rfl hk ?_;refine Own.store (by kernel_rfl) hw hk λ w hw=>?_;rw [Zh (by omega) (by omega)] at hw;rw [Int.toNat_natCast,ZR hk];exact ⟨t,rfl,hw⟩
theorem Zhe {lim sold:List Int} (h:Z1 lim sold=true):(∀ x∈sold,0<=x/\x<=10000)/\sold.length=lim.length/\lim.length<=8:=by
 obtain ⟨h1,h2,h3⟩:=ZJ.1 h;obtain ⟨⟨_,h4⟩,_⟩:=Zaa.1 h1;refine ⟨λ x hx=>?_,h2,h4⟩;obtain ⟨k,hk,rfl⟩:=List.getElem_of_mem hx;have:=(h3 k (by omega)).1;rw [ZR hk] at this;exact this
theorem Zmq {lim sold:List Int} {c:Int} (h:(ZaW lim sold c).2=0):Z1 lim sold=true/\0<=c/\c<lim.length:=by
 unfold ZaW at h;split at h
 ·assumption
 ·simp at h
theorem ZpZ {sl ss:Sl} {lim sold:List Int} {c many:Int} (hl:RoI R sl lim) (hs:RoI R ss sold) (hw:Sat R Hs w):
  Zm prog 178 #[.slice sl.a sl.len sl.cap,.slice ss.a ss.len ss.cap,.int .i64 c,.int .i64 many] w λ v w'=>∃ t:Sl,v=.tuple #[.slice t.a t.len t.cap,.int .i64 (Za5 lim sold c many).2]/\Sat R (Own t 3 ((Za5 lim sold c many).1.map (Value.int .i64))::Hs) w':=by
 apply Zw8;refine (Zhn hl hs hw).use ?_;rintro _ w ⟨rfl,hw⟩;have bad:((ZaW lim sold c).2≠0\/many<1\/many>10000)->∃ t:Sl,Value.tuple #[.slice none 0 0,.int .i64 1]=.tuple #[.slice t.a t.len t.cap,.int .i64 (Za5 lim sold c many).2]/\Sat R (Own t 3 ((Za5 lim sold c many).1.map (Value.int .i64))::Hs) w:=λ h=>by
  unfold Za5;rw [if_pos h];exact ⟨⟨none,0,0⟩,rfl,Own.nil hw⟩
 refine ⟨_,_,rfl,Br.ne (λ h=>bad (.inl h)) (λ h1=>Br.d (λ h=>bad (.inr (.inl h))) (λ h2=>Br.d (λ h=>bad (.inr (.inr h))) (λ h3=>?_)))⟩;have e:Za5 lim sold c many=if many>(ZaW lim sold c).1 then ([],3) else (sold.set c.toNat (sold.getD c.toNat 0 + many),0):=by
  unfold Za5;rw [if_neg (by omega)]
 rw [e];obtain ⟨n1,n2,n3⟩:=Zmq h1;obtain ⟨n4,n5,n6⟩:=Zhe n1;refine Br.d (λ h=>?_) (λ h=>?_)
 ·rw [if_pos h];exact ⟨⟨none,0,0⟩,rfl,Own.nil hw⟩
 ·rw [if_neg h]
  refine (Zle hs (by omega) n2 (by omega) n4 ⟨by omega,by omega⟩ hw).use ?_;rintro _ w ⟨t,rfl,hw⟩;exact ⟨t,rfl,t,rfl,hw⟩
theorem Zsm {sl ss:Sl} {lim sold:List Int} {c many:Int} (hl:RoI R sl lim) (hs:RoI R ss sold) (hw:Sat R Hs w):
  Zm prog 184 #[.slice sl.a sl.len sl.cap,.slice ss.a ss.len ss.cap,.int .i64 c,.int .i64 many] w λ v w'=>∃ t:Sl,v=.tuple #[.slice t.a t.len t.cap,.int .i64 (Zfp lim sold c many).2]/\Sat R (Own t 3 ((Zfp lim sold c many).1.map (Value.int .i64))::Hs) w':=by
 have hsl:=hs.len;apply Zw2;refine (Zhn hl hs hw).use ?_;rintro _ w ⟨rfl,hw⟩;have bad:((ZaW lim sold c).2≠0\/many<1\/many>sold.getD c.toNat 0)->∃ t:Sl,Value.tuple #[.slice none 0 0,.int .i64 1]=.tuple #[.slice t.a t.len t.cap,.int .i64 (Zfp lim sold c many).2]/\Sat R (Own t 3 ((Zfp lim sold c many).1.map (Value.int .i64))::Hs) w:=λ h=>by
  unfold Zfp;rw [if_pos h];exact ⟨⟨none,0,0⟩,rfl,Own.nil hw⟩
 refine ⟨_,_,rfl,Br.ne (λ h=>bad (.inl h)) (λ h1=>Br.d (λ h=>bad (.inr (.inl h))) (λ h2=>?_))⟩;obtain ⟨n1,n2,n3⟩:=Zmq h1;obtain ⟨n4,n5,n6⟩:=Zhe n1;have hx:=n4 (sold[c.toNat]'(by omega)) (List.getElem_mem _);refine Ro.ix hs (eqS hw) c.toNat (by omega) (by omega) ?_;refine Br.d (λ h=>bad (.inr (.inr (by rw [ZR (by omega)];exact h)))) (λ h3=>?_);have e:Zfp lim sold c many=(sold.set c.toNat (sold.getD c.toNat 0 - many),0):=by
  unfold Zfp;rw [if_neg (by rw [ZR (by omega)];omega)]
 rw [e,show IntKind.i64.wrap (0 - many)=-many by rw [Zh (by omega) (by omega)];omega];refine (Zle hs (by omega) n2 (by omega) n4 ⟨by omega,by omega⟩ hw).use ?_;rintro _ w ⟨t,rfl,hw⟩;rw [<-Int.sub_eq_add_neg] at hw;exact ⟨t,rfl,t,rfl,hw⟩
end
section
open Go Go.VC Tryz
variable {R:Cx} {Hs Rest:List HP} {w:World}
theorem ZkJ {sl:Sl} {lim:List Int} (hl:RoI R sl lim) (hw:Sat R Hs w):
  Zm prog 214 #[.slice sl.a sl.len sl.cap] w λ v w'=>v=.bool (ZeF lim)/\Sat R Hs w':=by
 have hll:=hl.len;have hlb:=hl.bound;have no:¬ ((1<=lim.length/\lim.length<=8)/\∀ k (h:k<lim.length),(0<=lim[k]/\lim[k]<=10000)/\(0<k->lim[k]<=lim.getD (k - 1) 0))->Value.bool false=.bool (ZeF lim):=λ h=>by
  have:ZeF lim=false:=by rw [<-Bool.not_eq_true,Zaa];exact h
  rw [this]
 apply ZwL;refine ⟨λ w=>(1<=lim.length/\lim.length<=8)/\Sat R Hs w,Br.d (λ h=>⟨no (λ h2=>by omega),hw⟩) (λ h1=>Br.d (λ h=>⟨no (λ h2=>by omega),hw⟩) (λ h2=>⟨⟨by omega,by omega⟩,hw⟩)),?_⟩;clear hw;rintro _ w ⟨h0,hw⟩;refine ⟨λ i w=>∃ j:Nat,i=j/\j<=lim.length/\(∀ k (h:k<lim.length),k<j->(0<=lim[k]/\lim[k]<=10000)/\(0<k->lim[k]<=lim.getD (k - 1) 0))/\Sat R Hs w,λ i _=>lim.length - i.toNat,⟨0,rfl,by omega,λ k h h'=>by omega,hw⟩,?_⟩;clear hw;rintro _ _ w ⟨j,rfl,hj,hn,hw⟩;refine Br.d (λ h=>?_) (λ h=>⟨by rw [Zaa.2 ⟨h0,λ k hk=>hn k hk (by omega)⟩],hw⟩);have hj2:j<lim.length:=by omega
 refine Zo hw λ w hw=>?_;refine Ro.ix hl Zao j rfl hj2 ?_;refine Br.d (λ h=>⟨no (λ h2=>by have:=(h2.2 j hj2).1;omega),hw⟩) (λ h1=>?_);refine Ro.ix hl Zao j rfl hj2 ?_;refine Br.d (λ h=>⟨no (λ h2=>by have:=(h2.2 j hj2).1;omega),hw⟩) (λ h2=>?_);have next:(0<j->lim[j]<=lim.getD (j - 1) 0)->(∃ j':Nat,IntKind.i64.wrap ((j:Int) + 1)=j'/\j'<=lim.length/\(∀ k (h:k<lim.length),k<j'->(0<=lim[k]/\lim[k]<=10000)/\(0<k->lim[k]<=lim.getD (k - 1) 0))/\Sat R Hs w)/\lim.length - (IntKind.i64.wrap ((j:Int) + 1)).toNat<lim.length - (j:Int).toNat:=λ h3=>by
  rw [Zh (by omega) (by omega)];refine ⟨⟨j + 1,by omega,by omega,λ k hk hk2=>?_,hw⟩,by omega⟩;by_cases hkj:k=j
  ·subst hkj;exact ⟨⟨by omega,by omega⟩,h3⟩
  ·exact hn k hk (by omega)
 refine Br.d (λ h3=>?_) (λ h3=>next λ h=>by omega);refine Ro.ix hl Zao j rfl hj2 ?_;refine Ro.ix hl Zao (j - 1) (by rw [Zh (by omega) (by omega)];omega) (by omega) ?_;refine Br.d (λ h4=>⟨no (λ h2=>?_),hw⟩) (λ h4=>next λ _=>by rw [ZR (by omega)];omega);have:=(h2.2 j hj2).2 (by omega);rw [ZR (by omega)] at this;omega
theorem Zih {ss:Sl} {sold:List Int} {k:Nat} (hs:RoI R ss sold) (hb:∀ x∈sold,0<=x/\x<=10000) (hlen:sold.length<=1000) (hk:k<=1000) (hw:Sat R Hs w):
  Zm prog 156 #[.slice ss.a ss.len ss.cap,.int .i64 k] w λ v w'=>v=.int .i64 (ZaE sold k)/\Sat R Hs w':=by
 have hsl:=hs.len;have hfb:=ZjR hb;apply Zxt;refine ⟨λ n i w=>∃ j:Nat,i=j/\k<=j/\(j<=k\/j<=sold.length)/\n + ZaE sold j=ZaE sold k/\Sat R Hs w,λ _ i _=>sold.length - i.toNat,⟨k,rfl,by omega,.inl (by omega),by omega,hw⟩,?_⟩;clear hw;rintro n _ _ w ⟨j,rfl,hj,hj2,hn,hw⟩;refine Br.d (λ h=>?_) (λ h=>?_)
 ·have hj3:j<sold.length:=by omega
  have hst:=Za4 hj3;have hx:=hb sold[j] (List.getElem_mem _);have h1:=hfb (j + 1);have h2:=hfb k;have h3:=hfb j;refine Ro.ix hs (eqS hw) j rfl hj3 ?_;rw [Zh (x:=(j:Int) + 1) (by omega) (by omega),Zh (by omega) (by omega)];exact ⟨⟨j + 1,by omega,by omega,.inr (by omega),by omega,hw⟩,by dsimp only;omega⟩
 ·rw [Zb0 (show sold.length<=j by omega)] at hn
  exact ⟨by rw [<-hn];congr 1;omega,hw⟩
theorem Zga {sl ss:Sl} {lim sold:List Int} (hl:RoI R sl lim) (hs:RoI R ss sold) (hw:Sat R Hs w):
  Zm prog 155 #[.slice sl.a sl.len sl.cap,.slice ss.a ss.len ss.cap] w λ v w'=>v=.bool (Z1 lim sold)/\Sat R Hs w':=by
 have hll:=hl.len;have hsl:=hs.len;have no:¬ (ZeF lim=true/\sold.length=lim.length/\∀ k,k<lim.length->(0<=sold.getD k 0/\sold.getD k 0<=10000)/\ZaE sold k<=lim.getD k 0)->Value.bool false=.bool (Z1 lim sold):=λ h=>by rw [Zdz h]
 apply Zxu;refine (ZkJ hl hw).use ?_;rintro _ w ⟨rfl,hw⟩;refine ⟨_,rfl,λ w=>(ZeF lim=true/\sold.length=lim.length)/\Sat R Hs w,Br.nb (λ h=>⟨no (λ h2=>by rw [h] at h2;cases h2.1),hw⟩) (λ h1=>Br.ne (λ h=>⟨no (λ h2=>by omega),hw⟩) (λ h2=>⟨⟨h1,by omega⟩,hw⟩)),?_⟩;clear hw;rintro _ w ⟨⟨h1,h2⟩,hw⟩;have h8:=(Zaa.1 h1).1.2;refine ⟨λ i w=>∃ j:Nat,i=j/\j<=sold.length/\(∀ k,k<j->0<=sold.getD k 0/\sold.getD k 0<=10000)/\Sat R Hs w,λ i _=>sold.length - i.toNat,⟨0,rfl,by omega,λ k h=>by omega,hw⟩,?_⟩;clear hw;rintro _ _ w ⟨j,rfl,hj,hn,hw⟩;refine Br.d (λ h=>?_) (λ h=>?_)
 ·have hj2:j<sold.length:=by omega
  have nn:¬ (0<=sold[j]/\sold[j]<=10000)->Value.bool false=.bool (Z1 lim sold):=λ h=>no λ h3=>h (by have:=(h3.2.2 j (by omega)).1;rw [ZR hj2] at this;exact this);refine Ro.ix hs (eqS hw) j rfl hj2 ?_;refine Br.d (λ h=>⟨nn (by omega),hw⟩) (λ h3=>?_);refine Ro.ix hs (eqS hw) j rfl hj2 ?_;refine Br.d (λ h=>⟨nn (by omega),hw⟩) (λ h4=>?_);rw [Zh (by omega) (by omega)];refine ⟨⟨j + 1,by omega,by omega,λ k hk=>?_,hw⟩,by dsimp only;omega⟩;by_cases hkj:k=j
  ·subst hkj;rw [ZR hj2];omega
  ·exact hn k (by omega)
 have hjs:sold.length<=j:=by omega
 have hsb:∀ x∈sold,0<=x/\x<=10000:=λ x hx=>by
  obtain ⟨k,hk,rfl⟩:=List.getElem_of_mem hx;have:=hn k (by omega);rw [ZR hk] at this;exact this
 refine ⟨λ i w=>∃ j:Nat,i=j/\j<=lim.length/\(∀ k,k<j->ZaE sold k<=lim.getD k 0)/\Sat R Hs w,λ i _=>lim.length - i.toNat,⟨0,rfl,by omega,λ k h=>by omega,hw⟩,?_⟩;clear hw h;rintro _ _ w ⟨i,rfl,hi,hni,hw⟩;refine Br.d (λ h=>?_) (λ h=>?_)
 ·have hi2:i<lim.length:=by omega
  refine Zo hw λ w hw=>?_;refine Ro.ix hl Zao i rfl hi2 ?_;refine (Zih hs hsb (by omega) (by omega) hw).use ?_;rintro _ w ⟨rfl,hw⟩;refine ⟨_,rfl,hw,Br.d (λ h=>⟨no (λ h3=>?_),hw⟩) (λ h3=>?_)⟩
  ·have:=(h3.2.2 i hi2).2
   rw [ZR hi2] at this;omega
  ·rw [Zh (by omega) (by omega)]
   refine ⟨⟨i + 1,by omega,by omega,λ k hk=>?_,hw⟩,by dsimp only;omega⟩;by_cases hki:k=i
   ·subst hki;rw [ZR hi2];omega
   ·exact hni k (by omega)
 ·refine ⟨?_,hw⟩
  rw [ZJ.2 ⟨h1,h2,λ k hk=>⟨hn k (by omega),hni k (by omega)⟩⟩]
theorem Zor {sl ss:Sl} {lim sold:List Int} {c:Int} (hl:RoI R sl lim) (hs:RoI R ss sold) (hw:Sat R Hs w):
  Zm prog 97 #[.slice sl.a sl.len sl.cap,.slice ss.a ss.len ss.cap,.int .i64 c] w λ v w'=>v=.tuple #[.int .i64 (ZaW lim sold c).1,.int .i64 (ZaW lim sold c).2]/\Sat R Hs w':=by
 have hll:=hl.len;have no:¬ (Z1 lim sold=true/\0<=c/\c<lim.length)->ZaW lim sold c=(0,1):=λ h=>by unfold ZaW;rw [if_neg h]
 apply ZyU;refine (Zga hl hs hw).use ?_;rintro _ w ⟨rfl,hw⟩;refine ⟨_,rfl,λ w=>(Z1 lim sold=true/\0<=c/\c<lim.length)/\Sat R Hs w,Br.nb (λ h=>⟨by rw [no (λ h2=>by rw [h] at h2;cases h2.1)],hw⟩) (λ h1=>Br.d (λ h=>⟨by rw [no (λ h2=>by omega)],hw⟩) (λ h2=>Br.d (λ h=>⟨by rw [no (λ h2=>by omega)],hw⟩) (λ h3=>⟨⟨h1,by omega,by omega⟩,hw⟩))),?_⟩;clear hw;rintro _ w ⟨h0,hw⟩;have e:ZaW lim sold c=(mnF (ZcK lim sold) (c.toNat + 1),0):=by unfold ZaW;rw [if_pos h0]
 rw [e];obtain ⟨h1,h2,h3⟩:=h0;obtain ⟨n4,n5,n6⟩:=Zhe h1;have hlim:=(Zaa.1 (ZJ.1 h1).1).2;obtain ⟨m,rfl⟩:=Int.eq_ofNat_of_zero_le h2;rw [Int.toNat_natCast];refine ⟨λ L i w=>∃ j:Nat,i=j/\j<=m + 1/\L=mnF (ZcK lim sold) j/\Sat R Hs w,λ _ i _=>m + 1 - i.toNat,⟨0,rfl,by omega,rfl,hw⟩,?_⟩;clear hw;rintro _ _ _ w ⟨j,rfl,hj,rfl,hw⟩;refine Br.d (λ h=>?_) (λ h=>?_)
 ·have hj2:j<lim.length:=by omega
  refine Zo hw λ w hw=>?_;refine Ro.ix hl Zao j rfl hj2 ?_;refine (Zih hs n4 (by omega) (by omega) hw).use ?_;rintro _ w ⟨rfl,hw⟩;have hb:=ZjR n4 j;have hx:=(hlim j hj2).1;have hroom:IntKind.i64.wrap (lim[j] - ZaE sold j)=ZcK lim sold j:=by
   rw [Zh (by omega) (by omega)];unfold ZcK;rw [ZR hj2]
  refine ⟨_,rfl,hw,?_⟩;rw [hroom,Zh (by omega) (by omega)];exact ⟨⟨j + 1,by omega,by omega,rfl,hw⟩,by dsimp only;omega⟩
 ·obtain rfl:j=m + 1:=by omega
  exact ⟨rfl,hw⟩
end
end Go.Proofs.YtfgbbckfikiomaaGreatDoor
namespace Go.VC
section
open Ieee
abbrev fw (n:Nat):Nat:=double.nearest false n 0
def fwOk (n:Nat):Bool:=match double.read (fw n) with
 | .number false m e=>decide (e<=0) && (m==n<<<(-e).toNat)
 |_=>false
set_option maxRecDepth 100000 in
theorem ZyH:(List.range 10002).all fwOk=true:=by kernel_rfl
theorem ZvD {n:Nat} (h:n<=10001):∃ d:Nat,double.read (fw n)=.number false (n * 2 ^ d) (-(d:Int)):=by
 have:=List.all_eq_true.1 ZyH n (List.mem_range.2 (by omega));unfold fwOk at this;split at this
 ·rename_i m e he
  simp only [Bool.and_eq_true,decide_eq_true_eq,beq_iff_eq] at this;refine ⟨(-e).toNat,?_⟩;rw [he,this.2,Nat.shiftLeft_eq,show (-((-e).toNat:Int))=e by omega]
 ·cases this
theorem ZrK {n drop B:Nat} (h:n<B * 2 ^ drop):Toward.even.cut false n drop<=B:=by
 unfold Toward.cut;simp only;generalize hg:1<<<min drop (n.log2 + 2)=gap;rw [Nat.shiftLeft_eq,Nat.one_mul] at hg;have hb:∀ b:Bool,b.toNat<=1:=λ b=>by cases b<;>simp
 by_cases hd:drop<=n.log2 + 2
 ·rw [Nat.min_eq_left hd] at hg
  subst hg;have h1:n / 2 ^ drop<B:=(Nat.div_lt_iff_lt_mul (Nat.two_pow_pos drop)).2 h;have:=hb (decide (2 ^ drop<2 * (n % 2 ^ drop))||(2 ^ drop==2 * (n % 2 ^ drop) && n / 2 ^ drop % 2==1));omega
 ·rw [Nat.min_eq_right (by omega)] at hg
  have hn:n<2 ^ (n.log2 + 1):=Nat.lt_log2_self;have hp:2 ^ (n.log2 + 2)=2 * 2 ^ (n.log2 + 1):=by rw [Nat.pow_succ];omega
  subst hg;have h0:n / 2 ^ (n.log2 + 2)=0:=Nat.div_eq_of_lt (by omega);have h1:n % 2 ^ (n.log2 + 2)=n:=Nat.mod_eq_of_lt (by omega);rw [h0,h1];have e1:decide (2 ^ (n.log2 + 2)<2 * n)=false:=decide_eq_false (by omega);have e2:(2 ^ (n.log2 + 2)==2 * n)=false:=by
   rw [beq_eq_false_iff_ne];omega
  rw [e1,e2];simp
end
section
open Ieee
theorem ZhH:double.leastPlace=-1074:=by decide
theorem ZfZ:double.binade=4503599627370496:=by decide
theorem ZmH:double.infRung=2047 * 4503599627370496:=by decide
theorem ZnS:double.signWeight=9223372036854775808:=by decide
theorem ZtU:(double.fractionBits:Nat)=52:=rfl
theorem ZnT {n drop:Nat}:Toward.down.cut false n drop=n / 2 ^ drop:=by
 unfold Toward.cut;simp only;rw [Nat.shiftLeft_eq,Nat.one_mul];have e:(false && n % 2 ^ min drop (n.log2 + 2) !=0).toNat=0:=by simp
 rw [e,Nat.add_zero];by_cases hd:drop<=n.log2 + 2
 ·rw [Nat.min_eq_left hd]
 ·rw [Nat.min_eq_right (by omega)]
  have hn:n<2 ^ (n.log2 + 1):=Nat.lt_log2_self;have h1:2 ^ (n.log2 + 1)<=2 ^ (n.log2 + 2):=Nat.pow_le_pow_right (by omega) (by omega);have h2:2 ^ (n.log2 + 2)<=2 ^ drop:=Nat.pow_le_pow_right (by omega) (by omega);rw [Nat.div_eq_of_lt (by omega),Nat.div_eq_of_lt (by omega)]
theorem ZuA {n drop:Nat} (h:drop<=n.log2 + 2):n / 2 ^ drop<=Toward.even.cut false n drop/\Toward.even.cut false n drop<=n / 2 ^ drop + 1:=by
 unfold Toward.cut;simp only;rw [Nat.shiftLeft_eq,Nat.one_mul,Nat.min_eq_left h];have hb:∀ b:Bool,b.toNat<=1:=λ b=>by cases b<;>simp
 have:=hb (decide (2 ^ drop<2 * (n % 2 ^ drop))||(2 ^ drop==2 * (n % 2 ^ drop) && n / 2 ^ drop % 2==1));omega
theorem Zqb {i kept:Nat} (hi:i<=1074) (hk:kept<=9007199254740992) (hk2:0<i->4503599627370496<=kept):
  ∃ mp:Nat,∃ j:Nat,double.read (i * 4503599627370496 + kept)=.number false mp (-1074 + (j:Int))/\((mp=kept/\j=i)\/(mp=4503599627370496/\kept=9007199254740992/\j=i + 1)):=by
 have hr:i * 4503599627370496 + kept<9223372036854775808:=by omega
 unfold Format.read;simp only;rw [ZnS,ZfZ,ZmH,ZhH];rw [Nat.mod_eq_of_lt hr,Nat.div_eq_of_lt hr];have e0:(0 % 2==1)=false:=by decide
 rw [e0];by_cases h1:i * 4503599627370496 + kept<4503599627370496
 ·rw [if_pos h1]
  have:i=0:=by omega
  subst this;exact ⟨_,0,rfl,.inl ⟨by omega,rfl⟩⟩
 rw [if_neg h1,if_pos (by omega)];by_cases h2:kept<9007199254740992
 ·have h3:4503599627370496<=kept:=by
   by_cases hi0:0<i
   ·exact hk2 hi0
   ·omega
  have d1:(i * 4503599627370496 + kept) / 4503599627370496=i + 1:=by omega
  have d2:(i * 4503599627370496 + kept) % 4503599627370496=kept - 4503599627370496:=by omega
  rw [d1,d2];refine ⟨_,i,?_,.inl ⟨rfl,rfl⟩⟩;rw [show 4503599627370496 + (kept - 4503599627370496)=kept by omega,show i + 1 - 1=i by omega]
 ·have:kept=9007199254740992:=by omega
  subst this;have d1:(i * 4503599627370496 + 9007199254740992) / 4503599627370496=i + 2:=by omega
  have d2:(i * 4503599627370496 + 9007199254740992) % 4503599627370496=0:=by omega
  rw [d1,d2];exact ⟨_,i + 1,rfl,.inr ⟨by omega,rfl,rfl⟩⟩
theorem plc1 {j L:Nat} (h:j=1074 - L) (h2:L<=1074): -1074 + (j:Int)=-(L:Int):=by omega
theorem plc2 {j L:Nat} (h:j=1074 - L + 1) (h2:L<=1074) (h1:39<=L): -1074 + (j:Int)=-((L - 1:Nat):Int):=by omega
theorem ZvB {B L kept:Nat} (h1:kept<=B * 2 ^ L) (h2:kept=9007199254740992) (h3:39<=L):4503599627370496<=B * 2 ^ (L - 1):=by
 have h4:2 ^ L=2 * 2 ^ (L - 1):=by rw [<-Nat.pow_succ'];congr 1;omega
 rw [h4,Nat.mul_left_comm] at h1;clear h4;generalize B * 2 ^ (L - 1)=y at *;omega
theorem ZqS {M d B:Nat} (hB:B<=10000) (hlt:M<B * 2 ^ d):
  ∃ mp dp:Nat,double.read (double.nearest false M (-(d:Int)))=.number false mp (-(dp:Int))/\mp<=B * 2 ^ dp:=by
 by_cases hM:M=0
 ·subst hM
  refine ⟨0,1074,?_,by omega⟩;unfold Format.nearest;rw [if_pos rfl];decide
 unfold Format.nearest;rw [if_neg hM,ZhH,ZfZ,ZmH,ZtU];have hlog:2 ^ M.log2<=M:=Nat.log2_self_le hM;have hlog2:M<2 ^ (M.log2 + 1):=Nat.lt_log2_self;have hl14:M.log2<14 + d:=by
  have:2 ^ M.log2<2 ^ (14 + d):=by
   rw [Nat.pow_add];have:B * 2 ^ d<=2 ^ 14 * 2 ^ d:=Nat.mul_le_mul_right _ (by omega);omega
  exact (Nat.pow_lt_pow_iff_right (by omega)).1 this
 simp only;generalize hlast:max (-(d:Int) + (M.log2:Int) - ((52:Nat):Int)) (-1074)=last;obtain ⟨L,hL⟩:∃ L:Nat,last=-(L:Int):=⟨(-last).toNat,by omega⟩;have hL1:39<=L:=by omega
 have hL2:L<=1074:=by omega
 subst hL;have hi:(-(L:Int) - -1074).toNat=1074 - L:=by omega
 rw [hi]
 -- what is kept
 obtain ⟨kept,hkd,hk1,hk2,hk3⟩:∃ kept,Toward.even.cut false (M<<<(-(d:Int) - -(L:Int)).toNat) (-(L:Int) - -(d:Int)).toNat=kept/\kept<=B * 2 ^ L/\kept<=9007199254740992/\(0<1074 - L->4503599627370496<=kept):=by
  refine ⟨_,rfl,?_⟩;by_cases hdl:d<=L
  ·have e1:(-(d:Int) - -(L:Int)).toNat=L - d:=by omega
   have e2:(-(L:Int) - -(d:Int)).toNat=0:=by omega
   rw [e1,e2,Nat.shiftLeft_eq];have hp:2 ^ L=2 ^ d * 2 ^ (L - d):=by rw [<-Nat.pow_add];congr 1;omega
   have hlt':M * 2 ^ (L - d)<B * 2 ^ L:=by
    rw [hp,<-Nat.mul_assoc];exact Nat.mul_lt_mul_of_pos_right hlt (Nat.two_pow_pos _)
   have c1:=ZrK (n:=M * 2 ^ (L - d)) (drop:=0) (B:=B * 2 ^ L) (by simpa using hlt');have c2:=ZuA (n:=M * 2 ^ (L - d)) (drop:=0) (by omega);rw [Nat.pow_zero,Nat.div_one] at c2
   -- no rest, so it is the number itself
   have c3:Toward.even.cut false (M * 2 ^ (L - d)) 0=M * 2 ^ (L - d):=by
    unfold Toward.cut;simp [Nat.mod_one]
   rw [c3] at c1 ⊢;have hup:M * 2 ^ (L - d)<2 ^ (M.log2 + 1) * 2 ^ (L - d):=Nat.mul_lt_mul_of_pos_right hlog2 (Nat.two_pow_pos _);rw [<-Nat.pow_add] at hup;have hle:M.log2 + 1 + (L - d)<=53:=by omega
   have h53:2 ^ (M.log2 + 1 + (L - d))<=2 ^ 53:=Nat.pow_le_pow_right (by omega) hle;refine ⟨c1,by omega,λ h=>?_⟩;have hlo:2 ^ M.log2 * 2 ^ (L - d)<=M * 2 ^ (L - d):=Nat.mul_le_mul_right _ hlog;rw [<-Nat.pow_add] at hlo;have he:M.log2 + (L - d)=52:=by omega
   rw [he] at hlo;omega
  ·have e1:(-(d:Int) - -(L:Int)).toNat=0:=by omega
   have e2:(-(L:Int) - -(d:Int)).toNat=d - L:=by omega
   rw [e1,e2,Nat.shiftLeft_zero];have hp:2 ^ d=2 ^ L * 2 ^ (d - L):=by rw [<-Nat.pow_add];congr 1;omega
   have c1:=ZrK (n:=M) (drop:=d - L) (B:=B * 2 ^ L) (by rw [Nat.mul_assoc,<-hp];exact hlt);by_cases hdr:d - L<=M.log2 + 2
   ·have c2:=ZuA hdr
    have hup:M / 2 ^ (d - L)<2 ^ 53:=by
     rw [Nat.div_lt_iff_lt_mul (Nat.two_pow_pos _),<-Nat.pow_add];have:2 ^ (M.log2 + 1)<=2 ^ (53 + (d - L)):=Nat.pow_le_pow_right (by omega) (by omega);omega
    refine ⟨c1,by omega,λ h=>?_⟩;have hlo:2 ^ 52<=M / 2 ^ (d - L):=by
     rw [Nat.le_div_iff_mul_le (Nat.two_pow_pos _),<-Nat.pow_add];have:2 ^ (52 + (d - L))<=2 ^ M.log2:=Nat.pow_le_pow_right (by omega) (by omega);omega
    omega
   ·-- all of it is dropped
    have hL3:L=1074:=by omega
    have c0:Toward.even.cut false M (d - L)<=1:=ZrK (by
     have h1:2 ^ (M.log2 + 1)<=2 ^ (d - L):=Nat.pow_le_pow_right (by omega) (by omega);omega)
    exact ⟨c1,by omega,λ h=>by omega⟩
 rw [hkd];obtain ⟨mp,j,hr,hc⟩:=Zqb (i:=1074 - L) (by omega) hk2 hk3;have hmin:min ((1074 - L) * 4503599627370496 + kept) (2047 * 4503599627370496)=(1074 - L) * 4503599627370496 + kept:=Nat.min_eq_left (by omega);have hword:double.word false (min ((1074 - L) * 4503599627370496 + kept) (2047 * 4503599627370496))=(1074 - L) * 4503599627370496 + kept:=by rw [hmin];unfold Format.word;rw [if_neg (by simp)]
 rw [hword,hr];rcases hc with ⟨hmk,hj⟩|⟨hmk,hkk,hj⟩
 ·exact ⟨mp,L,by rw [plc1 hj hL2],by rw [hmk];exact hk1⟩
 ·exact ⟨mp,L - 1,by rw [plc2 hj hL2 hL1],by rw [hmk];exact ZvB hk1 hkk hL1⟩
end
section
open Ieee
def Zsx (p mp dp:Nat):Prop:=double.read p=.number false mp (-(dp:Int))
theorem Zuw {n:Nat} (h:n<=10001):∃ d,Zsx (fw n) (n * 2 ^ d) d:=ZvD h
theorem ZsF:Zsx 0 0 1074:=by unfold Zsx;decide
theorem Zs8 {x:Nat} (h0:double.order x 0=some .gt) (h1:double.order x 4607182418800017408≠some .gt) (h2:double.order x 4607182418800017408≠some .eq):∃ m d,Zsx x m d/\0<m/\m<2 ^ d:=by
 have e0:double.read 0=.number false 0 (-1074):=by decide
 have e1:double.read 4607182418800017408=.number false 4503599627370496 (-52):=by decide
 unfold Format.order at h0 h1 h2;rw [e0] at h0;rw [e1] at h1 h2;generalize hx:double.read x=dx at h0 h1 h2;cases dx with
 |nan s f=>simp [Datum.order] at h0
 |infinity s=>
  cases s
  ·exact absurd rfl h1
  ·simp [Datum.order] at h0
 |number s m e=>
  unfold Datum.order at h0 h1 h2;simp only [ne_eq,Option.some.injEq] at h0 h1 h2;have hg:=Int.compare_eq_gt.1 h0;have hz:signed false 0 (-1074 - min e (-1074)).toNat=0:=by simp [signed]
  rw [hz] at hg;cases s with
  |true=>
   exfalso;unfold signed at hg;rw [if_pos rfl] at hg;generalize m<<<(e - min e (-1074)).toNat=y at hg;omega
  |false=>
   have hm:0<m:=by
    rcases Nat.eq_zero_or_pos m with h|h
    ·subst h;simp [signed] at hg
    ·exact h
   have hlt:signed false m (e - min e (-52)).toNat<signed false 4503599627370496 (-52 - min e (-52)).toNat:=by
    rcases Int.lt_trichotomy (signed false m (e - min e (-52)).toNat) (signed false 4503599627370496 (-52 - min e (-52)).toNat) with h|h|h
    ·exact h
    ·exact absurd (Int.compare_eq_eq.2 h) h2
    ·exact absurd (Int.compare_eq_gt.2 h) h1
   unfold signed at hlt;rw [if_neg (by simp),if_neg (by simp),Nat.shiftLeft_eq,Nat.shiftLeft_eq] at hlt;have hlt:m * 2 ^ (e - min e (-52)).toNat<4503599627370496 * 2 ^ (-52 - min e (-52)).toNat:=Int.ofNat_lt.1 hlt;have hneg:e<0:=by
    by_cases he:0<=e
    ·exfalso
     have a1:min e (-52)=-52:=by omega
     rw [a1,show (-52 - (-52):Int).toNat=0 from rfl,Nat.pow_zero,Nat.mul_one] at hlt
     have:2 ^ 52<=2 ^ (e - -52).toNat:=Nat.pow_le_pow_right (by omega) (by omega);have:1 * 2 ^ (e - -52).toNat<=m * 2 ^ (e - -52).toNat:=Nat.mul_le_mul_right _ hm;omega
    ·omega
   refine ⟨m,(-e).toNat,?_,hm,?_⟩
   ·unfold Zsx;rw [hx,show (-((-e).toNat:Int))=e by omega]
   ·by_cases h52: -52<=e
    ·have a1:min e (-52)=-52:=by omega
     rw [a1,show (-52 - (-52):Int).toNat=0 from rfl,Nat.pow_zero,Nat.mul_one] at hlt
     have a2:(2:Nat) ^ 52=2 ^ (-e).toNat * 2 ^ (e - -52).toNat:=by rw [<-Nat.pow_add];congr 1;omega
     have a3:m * 2 ^ (e - -52).toNat<2 ^ (-e).toNat * 2 ^ (e - -52).toNat:=by rw [<-a2];omega
     exact Nat.lt_of_mul_lt_mul_right a3
    ·have a1:min e (-52)=e:=by omega
     rw [a1,show (e - e).toNat=0 by omega,Nat.pow_zero,Nat.mul_one] at hlt;have a2:2 ^ (-e).toNat=2 ^ 52 * 2 ^ (-52 - e).toNat:=by rw [<-Nat.pow_add];congr 1;omega
     rw [a2];exact hlt
theorem Zs9 {x m d s:Nat} (hx:Zsx x m d) (hlt:m<2 ^ d) (hs:s<=10000):∃ p mp dp,double.mul x (fw s)=some p/\Zsx p mp dp/\mp<=s * 2 ^ dp:=by
 obtain ⟨ds,hd⟩:=Zuw (n:=s) (by omega);have hmul:double.mul x (fw s)=some (double.nearest false (m * (s * 2 ^ ds)) (-((d + ds:Nat):Int))):=by
  unfold Format.mul;rw [hx,hd];show some (double.write (.number (false ^^ false) (m * (s * 2 ^ ds)) (-(d:Int) + -(ds:Int))))=_;rw [show (-(d:Int) + -(ds:Int))=-((d + ds:Nat):Int) by omega];rfl
 rcases Nat.eq_zero_or_pos s with h0|h0
 ·subst h0
  refine ⟨_,0,1074,hmul,?_,by omega⟩;rw [Nat.zero_mul,Nat.mul_zero];unfold Format.nearest;rw [if_pos rfl];exact ZsF
 ·have hb:m * (s * 2 ^ ds)<s * 2 ^ (d + ds):=by
   have a1:s * 2 ^ (d + ds)=2 ^ d * (s * 2 ^ ds):=by rw [Nat.pow_add,Nat.mul_left_comm]
   rw [a1];exact Nat.mul_lt_mul_of_pos_right hlt (Nat.mul_pos h0 (Nat.two_pow_pos _))
  obtain ⟨mp,dp,hr,hle⟩:=ZqS hs hb;exact ⟨_,mp,dp,hmul,hr,hle⟩
theorem Zo3 {p mp dp:Nat} (hp:Zsx p mp dp):double.write ((double.read p).integral .down)=fw (mp / 2 ^ dp):=by
 rw [hp];unfold Datum.integral;simp only;rw [show (-(dp:Int)).toNat=0 by omega,Nat.shiftLeft_zero,show (- -(dp:Int)).toNat=dp by omega,ZnT];rfl
theorem ZyG {n:Nat} (h:n<=10001):(double.read (fw n)).toInt .zero=some (n:Int):=by
 obtain ⟨d,hd⟩:=Zuw h;unfold Datum.toInt;rw [hd];unfold Datum.integral;simp only;rw [show (-(d:Int)).toNat=0 by omega,Nat.shiftLeft_zero,show (- -(d:Int)).toNat=d by omega];have:Toward.zero.cut false (n * 2 ^ d) d=n:=by
  have:Toward.zero.cut false (n * 2 ^ d) d=Toward.down.cut false (n * 2 ^ d) d:=by
   unfold Toward.cut;simp
  rw [this,ZnT,Nat.mul_div_cancel _ (Nat.two_pow_pos d)]
 rw [this];simp [signed]
end
end Go.VC
namespace Go.Proofs.YtfgbbckfikiomaaGreatDoor
section
open Go Go.VC Ieee Tryz
variable {R:Cx} {Hs Rest:List HP} {w:World}
def ZyI (x s:Nat):Nat:=match double.mul x (fw s) with
 |some p=>(match double.read p with| .number _ m e=>m / 2 ^ (-e).toNat|_=>0)
 |none=>0
def ZzM (x:Nat):Bool:=double.order x 0==some .gt
def ZtB (x:Nat):Bool:=double.order x 4607182418800017408==some .gt||double.order x 4607182418800017408==some .eq
def ZdB (x:Nat) (s:Int):Int × Int:=
 if s<0\/s>10000 then (0,1) else if ZzM x=false then (0,0) else if ZtB x=true then (s,0) else ((ZyI x s.toNat:Nat),0)
theorem ZvG {x s:Nat} (h0:ZzM x=true) (h1:ZtB x=false) (hs:s<=10000):∃ p mp dp,double.mul x (fw s)=some p/\Zsx p mp dp/\mp<=s * 2 ^ dp/\ZyI x s=mp / 2 ^ dp/\ZyI x s<=s:=by
 unfold ZzM at h0;unfold ZtB at h1;simp only [Bool.or_eq_false_iff,beq_eq_false_iff_ne,ne_eq] at h1;obtain ⟨m,d,hx,_,hlt⟩:=Zs8 (beq_iff_eq.1 h0) h1.1 h1.2;obtain ⟨p,mp,dp,hp,hn,hle⟩:=Zs9 hx hlt hs;have e:ZyI x s=mp / 2 ^ dp:=by
  unfold ZyI;rw [hp];unfold Zsx at hn;simp only [hn];rw [show (-(-(dp:Int))).toNat=dp by omega]
 refine ⟨p,mp,dp,hp,hn,hle,e,?_⟩;rw [e];exact Nat.div_le_of_le_mul (by rw [Nat.mul_comm];exact hle)
theorem ZuB (t1 t2:Operand) (T:TypeId) (x y:Nat) (w:World):((do eqGuard BinOp.gtr T t1 t2 (.float .f64 x) (.float .f64 y);binOp BinOp.gtr T (.float .f64 x) (.float .f64 y):Sem Value)).run prog w=.ok (.bool (double.order x y==some .gt)) w:=by
 simp [eqGuard,binOp,Op.floatCmp,FloatKind.format]
theorem ZyP (t1 t2:Operand) (T:TypeId) (x y:Nat) (w:World):((do eqGuard BinOp.geq T t1 t2 (.float .f64 x) (.float .f64 y);binOp BinOp.geq T (.float .f64 x) (.float .f64 y):Sem Value)).run prog w=.ok (.bool (double.order x y==some .gt||double.order x y==some .eq)) w:=by
 simp [eqGuard,binOp,Op.floatCmp,FloatKind.format]
theorem ZrS (t1 t2:Operand) (T:TypeId) (x y:Nat) (w:World):((do eqGuard BinOp.neq T t1 t2 (.float .f64 x) (.float .f64 y);binOp BinOp.neq T (.float .f64 x) (.float .f64 y):Sem Value)).run prog w=.ok (.bool (double.order x y !=some .eq)) w:=by
 simp [eqGuard,binOp,Op.floatCmp,FloatKind.format]
theorem Zvo (t1 t2:Operand) (T:TypeId) {x y p:Nat} (h:double.mul x y=some p) (w:World):((do eqGuard BinOp.mul T t1 t2 (.float .f64 x) (.float .f64 y);binOp BinOp.mul T (.float .f64 x) (.float .f64 y):Sem Value)).run prog w=.ok (.float .f64 p) w:=by
 simp [eqGuard,binOp,Op.floatArith,FloatKind.format,h]
theorem ZuR (n:Nat) (w:World):(convert 3 33 (.int .i64 n)).run prog w=.ok (.float .f64 (fw n)) w:=by
 have h:FloatKind.f64.nearest (n:Int)=fw n:=by
  unfold FloatKind.nearest FloatKind.encode FloatKind.format;rw [decide_eq_false (show ¬ (n:Int)<0 by omega),Int.natAbs_natCast];rfl
 simp [convert,run_underlying underlying3,run_underlying underlying33,Conv.intToFloat,h]
theorem ZuQ {n:Nat} (hn:n<=10001) (w:World):(convert 33 3 (.float .f64 (fw n))).run prog w=.ok (.int .i64 n) w:=by
 have h:(FloatKind.f64.decode (fw n)).toInt .zero=some (n:Int):=ZyG hn;have hr:IntKind.i64.min<=(n:Int)/\(n:Int)<=IntKind.i64.max:=by
  have h1:IntKind.i64.min=-9223372036854775808:=by decide
  have h2:IntKind.i64.max=9223372036854775807:=by decide
  omega
 simp [convert,run_underlying underlying3,run_underlying underlying33,Conv.floatToInt,h,hr];intro h2;omega
theorem ZvI : (f274.name == "runtime.NumGoroutine") = false := by kernel_rfl
theorem ZvL:f274.body.isNone=true:=by kernel_rfl
theorem ZvH:Extern.findNext f274=none:=by kernel_rfl
theorem ZvK : Extern.find f274 = some (Extern.MathFloor.toIntegral "math.archFloor" .down) := by kernel_rfl
theorem Zrv {p m : Nat} {e : Int} (hd : FloatKind.f64.decode p = .number false m e) : Extern.MathFloor.toIntegral "math.archFloor" .down #[.float .f64 p] = pure (.float .f64 (FloatKind.f64.encode ((Datum.number false m e).integral .down))) := by
 unfold Extern.MathFloor.toIntegral;generalize FloatKind.decode FloatKind.f64=D at hd ⊢
 conv=>lhs;whnf
 rw [hd]
theorem Zo4 {p mp dp:Nat} (hp:Zsx p mp dp) (hw:Sat R Hs w):Zm prog 260 #[.float .f64 p] w λ v w'=>v=.float .f64 (fw (mp / 2 ^ dp))/\Sat R Hs w':=by
 apply Zwi;refine ⟨.float .f64 (fw (mp / 2 ^ dp)),w,?_,_,rfl,rfl,hw⟩;rw [run_callFunc_extern func274 ZvI ZvL ZvH ZvK];have hd:FloatKind.f64.decode p=.number false mp (-(dp:Int)):=hp;have hf:FloatKind.f64.encode ((Datum.number false mp (-(dp:Int))).integral .down)=fw (mp / 2 ^ dp):=by
  have:=Zo3 hp;rw [show double.read p=.number false mp (-(dp:Int)) from hp] at this
  exact this
 rw [Zrv hd,hf];rfl
theorem ZoM {x:Nat} {s:Int} (hw:Sat R Hs w):Zm prog 227 #[.float .f64 x,.int .i64 s] w λ v w'=>v=.tuple #[.int .i64 (ZdB x s).1,.int .i64 (ZdB x s).2]/\Sat R Hs w':=by
 apply ZwA;refine ⟨λ t w=>t=decide (s<0\/s>10000)/\Sat R Hs w,Br.d (λ h=>⟨by rw [decide_eq_true (.inl h)],hw⟩) (λ h=>⟨by rw [decide_eq_decide];omega,hw⟩),?_⟩;clear hw;rintro _ _ w ⟨rfl,hw⟩;unfold ZdB;refine Br.d (λ h=>⟨by rw [if_pos h],hw⟩) (λ h=>?_);rw [if_neg h];refine ⟨ZzM x,λ w' e=>ZuB _ _ _ _ _ _,Br.nb (λ h1=>⟨by rw [if_pos h1],hw⟩) (λ h1=>?_)⟩;rw [if_neg (by rw [h1];simp)];refine ⟨ZtB x,λ w' e=>ZyP _ _ _ _ _ _,Br.mk (λ h2=>⟨by rw [if_pos h2],hw⟩) (λ h2=>?_)⟩;rw [if_neg (by rw [h2];simp)];obtain ⟨n,rfl⟩:=Int.eq_ofNat_of_zero_le (show 0<=s by omega);obtain ⟨p,mp,dp,hp,hn,hle,e,he⟩:=ZvG (s:=n) h1 h2 (by omega);refine ⟨w,_,ZuR n w,_,λ w' _=>Zvo _ _ _ hp w',?_⟩;refine (Zo4 hn hw).use ?_;rintro _ w ⟨rfl,hw⟩;rw [<-e];refine ⟨_,rfl,_,λ w' _=>ZuQ (by omega) w',?_,hw⟩;rw [Int.toNat_natCast]
end
section
open Go Go.VC Tryz
variable {R:Cx} {Hs Rest:List HP} {w:World}
theorem _root_.Go.VC.Ro.ixF {xs:List Nat} {s:Sl} {S:World->Prop} {i:Int} (hr:Ro R s (xs.map (Value.float .f64))) (hS:∀ w,S w->Sat R Hs w) (j:Nat) (hi:i=j) (hj:j<xs.length) {F:Nat->Prop} (h:F xs[j]):
  Rng i s.len (Zc s.a λ a=>∃ t:Nat,(At S (a.add i.toNat) [.float .f64 t])/\F t):=by
 subst hi;obtain ⟨a,ha,hat⟩:=hr.addr (k:=j) (by rw [List.length_map];exact hj);have hl:=hr.len;rw [List.length_map] at hl;exact Rng.mk (by omega) (by omega) (Zc.mk ha ⟨_,by have:=hat hS;rw [List.getElem_map] at this;exact this,h⟩)
def ZcA (s:Int):Int->List Nat->List Int
 |_,[]=>[]
 |last,x::xs=>(if last<(ZdB x s).1 then last else (ZdB x s).1)::ZcA s (if last<(ZdB x s).1 then last else (ZdB x s).1) xs
def Z7 (s:Int) (parts:List Nat):List Int × Int:=if s<0\/s>10000\/parts.length<1\/parts.length>8 then ([],1) else (s::ZcA s s parts.tail,0)
theorem Ze5 (s:Int):∀ (xs:List Nat) (last:Int),(ZcA s last xs).length=xs.length
 |[],_=>rfl
 |x::xs,last=>by simp [ZcA,Ze5 s xs]
theorem Ziz (s:Int):∀ (xs:List Nat) (last:Int) (x:Nat),ZcA s last (xs++[x])=ZcA s last xs++
  [if (last::ZcA s last xs).getD xs.length 0<(ZdB x s).1 then (last::ZcA s last xs).getD xs.length 0 else (ZdB x s).1]
 |[],last,x=>by simp [ZcA]
 |y::xs,last,x=>by
  simp only [List.cons_append,ZcA,Ziz s xs,List.length_cons,List.getD_cons_succ]
abbrev ZnH (l:List Nat):List Value:=l.map (Value.float .f64)
abbrev Zd (l:List Int):List Value:=l.map (Value.int .i64)
theorem Zmo {s:Int} {sp:Sl} {parts:List Nat} (hp:SlR R.m sp (ZnH parts)) (hw:Sat R Hs w):
  Zm prog 177 #[.int .i64 s,.slice sp.a sp.len sp.cap] w λ v w'=>∃ t:Sl,v=.tuple #[.slice t.a t.len t.cap,.int .i64 (Z7 s parts).2]/\Sat R (Own t 3 (Zd (Z7 s parts).1)::Hs) w':=by
 have hlen:=hp.len;rw [List.length_map] at hlen;have bad:(s<0\/s>10000\/parts.length<1\/parts.length>8)->∀ w,Sat R Hs w->∃ t:Sl,Value.tuple #[.slice none 0 0,.int .i64 1]=.tuple #[.slice t.a t.len t.cap,.int .i64 (Z7 s parts).2]/\Sat R (Own t 3 (Zd (Z7 s parts).1)::Hs) w:=λ h w hw=>by
  unfold Z7;rw [if_pos h];exact ⟨⟨none,0,0⟩,rfl,Own.nil hw⟩
 apply Zw9;refine ⟨λ w=>(0<=s/\s<=10000/\1<=parts.length/\parts.length<=8)/\Sat R Hs w,?_,?_⟩
 ·refine (Zeu hw).use ?_
  rintro _ w ⟨rfl,hw⟩;unfold inR;refine ⟨_,rfl,Br.nd (λ h=>bad (by omega) _ hw) (λ h1=>Br.d (λ h=>bad (by omega) _ hw) (λ h2=>Br.d (λ h=>bad (by omega) _ hw) (λ h3=>⟨⟨by omega,by omega,by omega,by omega⟩,hw⟩)))⟩
 clear hw;rintro _ w ⟨⟨h1,h2,h3,h4⟩,hw⟩;have e:Z7 s parts=(s::ZcA s s parts.tail,0):=by unfold Z7;rw [if_neg (by omega)]
 rw [e];clear bad;refine Zb hw λ b w hw=>⟨by omega,by omega,?_⟩;have hw:Sat R (Own ⟨some ⟨b,0,none⟩,1,1⟩ 3 (Zd [s])::Hs) w:=ZbI hw;have hd:=(hp.drop (k:=1) (by rw [List.length_map];omega)).ro (by rw [List.length_drop,List.length_map];omega);have hdl:(ZnH parts).drop 1=ZnH parts.tail:=by simp [ZnH,List.drop_one,List.map_tail]
 rw [hdl] at hd;have htl:parts.tail.length=parts.length - 1:=List.length_tail;have hslen:(sp.len - Int.toNat 1:Nat)=parts.tail.length:=by rw [htl];show sp.len - 1=_;omega
 refine ⟨λ so i w=>∃ j:Nat,i=j/\j<=parts.tail.length/\Sat R (Own so 3 (Zd (s::ZcA s s (parts.tail.take j)))::Hs) w,λ _ i _=>parts.tail.length - i.toNat,⟨0,rfl,by omega,hw⟩,?_⟩;clear hw;rintro _ so _ w ⟨j,rfl,hj,hw⟩;refine Br.d (λ h=>?_) (λ h=>?_)
 ·have hj2:j<parts.tail.length:=by omega
  refine Ro.ixF hd (eqS hw) j rfl hj2 ?_;refine (ZoM hw).use ?_;rintro _ w ⟨rfl,hw⟩;refine ⟨_,_,rfl,?_⟩;have hl:(s::ZcA s s (parts.tail.take j)).length=j + 1:=by rw [List.length_cons,Ze5,List.length_take];omega
  refine Own.ix hw (eqS hw) j rfl (by omega) ?_;refine Zbn Zo6 hw (by omega) λ so' w hw=>?_;rw [Zh (by omega) (by omega)];refine ⟨⟨j + 1,by omega,by omega,?_⟩,by dsimp only;omega⟩;rw [List.take_add_one,List.getElem?_eq_getElem hj2];simp only [Option.toList_some];rw [Ziz,List.length_take,show min j parts.tail.length=j by omega,ZR (by omega)];exact hw
 ·rw [List.take_of_length_le (by omega)] at hw
  exact ⟨so,rfl,hw⟩
theorem Znt (s:Int) (h0:0<=s) (h1:s<=10000):∀ (xs:List Nat) (last:Int),0<=last->last<=10000->∀ k (h:k<(ZcA s last xs).length),(0<=(ZcA s last xs)[k]/\(ZcA s last xs)[k]<=10000)/\(ZcA s last xs)[k]<=(last::ZcA s last xs).getD k 0
 |[],last,_,_,k,h=>by simp [ZcA] at h
 |x::xs,last,a,b,k,h=>by
  have hlv:0<=(ZdB x s).1:=by
   unfold ZdB;split
   ·simp
   ·split
    ·simp
    ·split
     ·exact h0
     ·simp
  rcases k with _|k
  ·simp only [ZcA,List.getElem_cons_zero,List.getD_cons_zero]
   split<;>omega
  ·simp only [ZcA,List.getElem_cons_succ,List.getD_cons_succ]
   exact Znt s h0 h1 xs _ (by split<;>omega) (by split<;>omega) k (by simpa [ZcA] using h)
theorem Zq2 {s:Int} {parts:List Nat} (h:(Z7 s parts).2=0):ZeF (Z7 s parts).1=true/\(Z7 s parts).1.getD 0 0=s:=by
 unfold Z7 at *;split at h
 ·simp at h
 ·rename_i hn
  rw [if_neg hn];refine ⟨Zaa.2 ⟨⟨by simp,?_⟩,λ k hk=>?_⟩,rfl⟩
  ·simp only [List.length_cons,Ze5,List.length_tail];omega
  ·rcases k with _|k
   ·simp;omega
   ·have:=Znt s (by omega) (by omega) parts.tail s (by omega) (by omega) k (by simpa using hk)
    simp only [List.getElem_cons_succ];exact ⟨this.1,λ _=>by rw [show k + 1 - 1=k by omega];exact this.2⟩
end
section
open Go Go.VC Tryz
variable {R:Cx} {Hs Rest:List HP} {w:World}
def Zpq (l:List Int):Prop:=∀ i j (hj:j<l.length),(hij:i<j)->l[i]<l[j]
def ZfN (n:Int):List Int->List Int
 |[]=>[n]
 |x::l=>if x<n then x::ZfN n l else n::x::l
theorem Zrh {n:Int}:∀ {l:List Int} {p:Nat},p<=l.length->(∀ k (h:k<l.length),k<p->l[k]<n)->(∀ k (h:k<l.length),p<=k->n<=l[k])->ZfN n l=l.take p++n::l.drop p
 |[],p,hp,_,_=>by
  obtain rfl:p=0:=by simpa using hp
  rfl
 |x::l,0,_,_,h2=>by
  have:=h2 0 (by simp) (by omega);simp only [List.getElem_cons_zero] at this;unfold ZfN;rw [if_neg (by omega)];rfl
 |x::l,p + 1,hp,h1,h2=>by
  have h0:=h1 0 (by simp) (by omega);simp only [List.getElem_cons_zero] at h0;unfold ZfN;rw [if_pos h0,Zrh (p:=p) (by simpa using hp) (λ k h hk=>by have:=h1 (k + 1) (by simpa using h) (by omega);simpa using this) (λ k h hk=>by have:=h2 (k + 1) (by simpa using h) (by omega);simpa using this)];rfl
theorem Zro {a b:Nat} (h:a + b<=1000000000000000000):IntKind.i64.wrap (Zf8 .u64 (IntKind.u64.wrap (IntKind.i64.wrap ((a:Int) + b))) 1)=((a + b) / 2:Nat):=by
 rw [Zh (x:=(a:Int) + b) (by omega) (by omega),IntKind.wrap_u64];have e:Zf8 .u64 (((a:Int) + b) % 18446744073709551616) 1=(((a + b) / 2:Nat):Int):=by
  unfold Zf8;show Int.fdiv _ 2=_;rw [Int.fdiv_eq_ediv_of_nonneg _ (by omega)];omega
 rw [e,Zh (by omega) (by omega)]
theorem ZoV {x:Int} (hw:Sat R Hs w):Zm prog 263 #[.int .i64 x] w λ v w'=>v=.bool false/\Sat R Hs w':=by
 apply Zwg;exact ⟨by simp,hw⟩
theorem Zr1 {x:Int} (hw:Sat R Hs w):Zm prog 259 #[.int .i64 x] w λ v w'=>v=.bool false/\Sat R Hs w':=by
 apply ZrY;exact ⟨by simp,hw⟩
theorem Zq5 {x y:Int} (hw:Sat R Hs w):Zm prog 249 #[.int .i64 x,.int .i64 y] w λ v w'=>v=.bool (decide (x<y))/\Sat R Hs w':=by
 apply Zwn;refine (Zr1 hw).use ?_;rintro _ w ⟨rfl,hw⟩;exact ⟨_,rfl,Br.f rfl ⟨rfl,hw⟩⟩
theorem ZlH {s:Sl} {l:List Int} {n:Int} (hs:RoI R s l) (hr:Zpq l) (hl:l.length<=1000000000) (hw:Sat R Hs w):
  Zm prog 235 #[.slice s.a s.len s.cap,.int .i64 n] w λ v w'=>∃ (p:Nat) (b:Bool),v=.tuple #[.int .i64 p,.bool b]/\p<=l.length/\(∀ k (h:k<l.length),k<p->l[k]<n)/\(∀ k (h:k<l.length),p<=k->n<=l[k])/\Sat R Hs w':=by
 have hlen:=hs.len;apply Zwu;refine ⟨λ i j w=>∃ a b:Nat,i=a/\j=b/\a<=b/\b<=l.length/\(∀ k (h:k<l.length),k<a->l[k]<n)/\(∀ k (h:k<l.length),b<=k->n<=l[k])/\Sat R Hs w,λ i j _=>j.toNat - i.toNat,⟨0,l.length,rfl,by rw [hlen],by omega,by omega,λ k _ h=>by omega,λ k h h'=>by omega,hw⟩,?_⟩;clear hw;rintro _ _ _ w ⟨a,b,rfl,rfl,hab,hb,h1,h2,hw⟩;rw [Zro (by omega)];refine Br.d (λ h=>?_) (λ h=>?_)
 ·have hm:(a + b) / 2<l.length:=by omega
  refine Ro.ix hs (eqS hw) ((a + b) / 2) rfl hm ?_;refine (Zq5 hw).use ?_;rintro _ w ⟨rfl,hw⟩;refine ⟨_,rfl,Br.d (λ h3=>?_) (λ h3=>?_)⟩
  ·rw [show IntKind.i64.wrap ((((a + b) / 2:Nat):Int) + 1)=(((a + b) / 2 + 1:Nat):Int) from Zh (by omega) (by omega)]
   refine ⟨⟨(a + b) / 2 + 1,b,rfl,rfl,by omega,hb,λ k hk hk2=>?_,h2,hw⟩,by dsimp only;omega⟩;by_cases hkm:k=(a + b) / 2
   ·subst hkm;exact h3
   ·have:=hr k ((a + b) / 2) hm (by omega);omega
  ·refine ⟨⟨a,(a + b) / 2,rfl,rfl,by omega,by omega,h1,λ k hk hk2=>?_,hw⟩,by dsimp only;omega⟩
   by_cases hkm:k=(a + b) / 2
   ·subst hkm;omega
   ·have:=hr ((a + b) / 2) k hk (by omega);omega
 ·obtain rfl:a=b:=by omega
  have fin:∀ (t:Bool) w,Sat R Hs w->∃ (p:Nat) (b:Bool),Value.tuple #[.int .i64 a,.bool t]=.tuple #[.int .i64 p,.bool b]/\p<=l.length/\(∀ k (h:k<l.length),k<p->l[k]<n)/\(∀ k (h:k<l.length),p<=k->n<=l[k])/\Sat R Hs w:=λ t w hw=>⟨a,t,rfl,hb,h1,h2,hw⟩;refine Br.d (λ h3=>?_) (λ h3=>fin _ _ hw);have ha:a<l.length:=by omega
  refine Ro.ix hs (eqS hw) a rfl ha ?_;refine Br.e (λ h4=>fin _ _ hw) (λ h4=>?_);refine Ro.ix hs (eqS hw) a rfl ha ?_;refine (ZoV hw).use ?_;rintro _ w ⟨rfl,hw⟩;exact ⟨_,rfl,Br.f rfl (fin _ _ hw)⟩
end
end Go.Proofs.YtfgbbckfikiomaaGreatDoor
namespace Go.VC
section
variable {P:Program} {R:Cx} {Hs Rest:List HP} {w:World} {s:Sl} {T:TypeId}
theorem Zfl {dT sT ty elem:TypeId} {b o dLen dCap sLen sCap:Nat} {a:Addr} {cs l:List Value} {fr:Nat × Nat} {K:Int->World->Prop} (hu:P.underlying dT=some (.slice elem)) (hs:(P.info? elem).map (·.size)=some 1)
  (hw:Sat R (pts b (.cells l.toArray T fr)::Hs) w) (hfr:Znn l.length fr) (hn:cs.length=Nat.min sLen dLen) (hfit:o + cs.length<=l.length) (hsrc:∀ j v,cs[j]? =some v->w.cell? (a.add j)=some v) (h1:ZaS cs=true)
  (k:∀ t w',Sat R (pts b (.cells (Zei l o cs).toArray T fr)::Hs) w'->K t w'):
  ∃ w',∃ t:Int,(Builtin.copy_ #[dT,sT] ty #[.slice (some ⟨b,o,none⟩) dLen dCap,.slice (some a) sLen sCap]).run P w=.ok (.int .i64 t) w'/\K t w':=by
 have hat:=hw.at;have hr:=run_copy_cells (P:=P) w dT sT ty elem b o dLen dCap a sLen sCap cs hu hs hn hsrc (λ j hj=>by rw [Zau hat];simp;omega) (λ j hj=>Zct hat hfr (by omega)) (λ v hv=>List.all_eq_true.1 h1 v hv);exact ⟨_,_,hr,k _ _ (ZaG cs l o w hw)⟩
theorem ZhT {t1 t2 ty:TypeId} {bytes k n:Nat} {kd kn:IntKind} {z:Value} {xs:List Value} {K:Sl->World->Prop} (ht:P.underlying t1=some (.slice T)) (htn:P.underlying t2=some (.int kn)) (hi:elB P T bytes=true)
  (h0:0<n) (hk:k<xs.length) (hc:s.cap<k + n) (hb:2 * (k + n) * bytes<=281474976710656) (hb':k + n<=9223372036854775807) (hw:Sat R (Own s T xs::Hs) w)
  (h:∀ t w' ys,ys.length=n->Sat R (Own t T (xs.take k++ys)::Own s T xs::Hs) w'->K t w'):
  ∃ w',∃ t:Sl,(Builtin.append_ #[t1,t2] ty #[.slice s.a k s.cap,.int kd n]).run P w=.ok (.slice t.a t.len t.cap) w'/\K t w':=by
 obtain ⟨i,z,hi,hz,hsize,hbytes,hzc⟩:=ZmF hi;rcases Own.cases hw with ⟨_,rfl,_⟩|⟨b,rest,fr,rfl,hfr,hp⟩
 ·simp at hk
 have hat:=hp.at;dsimp only at hc ⊢;have hcap:Builtin.nextslicecap (k + n) (xs++rest).length * i.bytes<=281474976710656:=by
  have h2:Builtin.nextslicecap (k + n) (xs++rest).length<=2 * (k + n):=by
   unfold Builtin.nextslicecap;split
   ·omega
   ·split
    ·omega
    ·have:=nextslicecap_le_wide hc
     unfold Builtin.nextslicecap at this;rw [if_neg (by assumption),if_neg (by assumption)] at this;omega
  rw [hbytes];exact Nat.le_trans (Nat.mul_le_mul_right _ h2) hb
 have hold:(Builtin.firstCells i.size k (.slice (some ⟨b,0,none⟩) k (xs++rest).length)).run P w.drew=.ok (xs.take k).toArray w.drew:=by
  refine run_firstCells_some w.drew i.size k ⟨b,0,none⟩ k _ (xs.take k) (by rw [hsize,List.length_take];omega) ?_;intro j u hj;rw [World.cell?_drew,Zy,Zau hat,Nat.zero_add];obtain ⟨hlt,rfl⟩:=List.getElem?_eq_some_iff.1 hj;rw [List.length_take] at hlt;rw [List.getElem?_append_left (by omega),List.getElem?_eq_getElem (by omega),List.getElem_take]
 have hwr:IntKind.i64.wrap (n:Int)=n:=by rw [IntKind.wrap_i64];omega
 have hn:¬ (k + n<=(xs++rest).length):=by omega
 have h63':¬ (9223372036854775807<((k:Int) + (n:Int))):=by omega
 have h48':¬ (281474976710656<Builtin.nextslicecap (k + n) (xs++rest).length * i.bytes):=by omega
 have h48i:¬ (281474976710656<(n:Int) * (i.bytes:Int)):=by
  rw [<-Int.natCast_mul,hbytes];have:n * bytes<=2 * (k + n) * bytes:=Nat.mul_le_mul_right _ (by omega);omega
 have hneg:¬ ((n:Int)<0):=by omega
 have hn0:n≠0:=by omega
 have hns:¬ (n * i.size=0):=by rw [hsize];omega
 have hg:=grownCap_ge w (k + n) (xs++rest).length T;have hr:(Builtin.append_ #[t1,t2] ty #[.slice (some ⟨b,0,none⟩) k (xs++rest).length,.int kd n]).run P w=
   .ok (.slice (some ⟨w.heap.size,0,none⟩) (k + n) (grownCap w (k + n) (xs++rest).length T)) (w.drew.alloc (.cells ((xs.take k).toArray++Builtin.zeroCells z.cells n++Builtin.zeroCells z.cells (grownCap w (k + n) (xs++rest).length T - (k + n))) T)):=by
  simp only [List.length_append] at hn h48' hold ⊢;simp [Builtin.append_,run_underlying ht,run_underlying htn,sizeOf,typeInfo,zeroValue,hi,hz,asInt,asIntOf,hwr,hn,hneg,hns,h63',h48',h48i,Question.forced,hold,newRow,grownCap]
 have hzs:∀ m,(Builtin.zeroCells z.cells m).size=m:=λ m=>by simp [Builtin.zeroCells,hzc]
 refine ⟨_,⟨some ⟨w.heap.size,0,none⟩,k + n,grownCap w (k + n) (xs++rest).length T⟩,hr,h _ _ (Builtin.zeroCells z.cells n).toList (by rw [Array.length_toList,hzs]) ?_⟩;have h3:=Sat.alloc (Obj.cells ((xs.take k).toArray++Builtin.zeroCells z.cells n++Builtin.zeroCells z.cells (grownCap w (k + n) (xs++rest).length T - (k + n))) T) (Sat.drew hp);have e:Obj.cells ((xs.take k).toArray++Builtin.zeroCells z.cells n++Builtin.zeroCells z.cells (grownCap w (k + n) (xs++rest).length T - (k + n))) T=.cells ((xs.take k++(Builtin.zeroCells z.cells n).toList)++(Builtin.zeroCells z.cells (grownCap w (k + n) (xs++rest).length T - (k + n))).toList).toArray T (0,0):=by
  congr 1
  apply Array.ext';simp
 rw [e] at h3 ⊢;have h4:=Own.of_pts (Sat.swap h3) hfr;have h5:=Own.of_pts (Sat.swap h4);have e2:(⟨some ⟨w.drew.heap.size,0,none⟩,(xs.take k++(Builtin.zeroCells z.cells n).toList).length,((xs.take k++(Builtin.zeroCells z.cells n).toList)++(Builtin.zeroCells z.cells (grownCap w (k + n) (xs++rest).length T - (k + n))).toList).length⟩:Sl)=⟨some ⟨w.heap.size,0,none⟩,k + n,grownCap w (k + n) (xs++rest).length T⟩:=by
  have:(xs.take k).length=k:=by rw [List.length_take];omega
  simp only [List.length_append,Array.length_toList,hzs,World.size_drew,this] at hg ⊢
  congr 1
  omega
 rw [e2] at h5;exact h5
end
end Go.VC
namespace Go.Proofs.YtfgbbckfikiomaaGreatDoor
section
open Go Go.VC Tryz
variable {R:Cx} {Hs Rest:List HP} {w:World}
theorem Zvc : (f264.name == "runtime.NumGoroutine") = false := by kernel_rfl
theorem Zve:f264.body.isNone=true:=by kernel_rfl
theorem Zvb:Extern.findNext f264=none:=by kernel_rfl
theorem Zvd:∃ tR,Extern.find f264=some (Extern.SlicesOverlaps.overlaps #[ 28,28 ] #[tR]):=⟨4,by kernel_rfl⟩
theorem szI1:ZgS prog 3=1:=by kernel_rfl
theorem szI (w:World):(sizeOf 3).run prog w=.ok 1 w:=by
 obtain ⟨i,hi⟩:=Zm3 (P:=prog) (t:=3) (by rw [szI1];decide);have:=Za2 hi w;rw [szI1] at this;exact this
abbrev Zyh (n:Int) (T:TypeId):Obj:=.cells [.int .i64 n].toArray T (0,0)
theorem Zfk {b k m:Nat} (h:m≠k):Zb1 (some ⟨b,0,none⟩) k m 1=some ⟨b,k,none⟩:=by
 simp only [Zb1,if_neg h,Option.map_some,Zy];simp
theorem Zjo {b1 b2 o:Nat} {n:Int} {T1 T2:TypeId} {l:List Value} {fr:Nat × Nat} {la lc:Nat} {Q:Ending->World->Prop} (hl:l≠[])
  (hw:Sat R (pts b2 (.cells l.toArray T2 fr)::pts b1 (Zyh n T1)::Hs) w) (k:Q (.returned (.bool false)) w):
  Ext prog 264 #[.slice (some ⟨b1,0,none⟩) 1 1,.slice (some ⟨b2,o,none⟩) la lc] w Q:=by
 have h2:=hw.at;have h1:=hw.swap.at;have hne:b1≠b2:=by
  rintro rfl;obtain ⟨h,hA,hd,h',hB,hd',_⟩:=hw;rw [show h=_ from hA] at hd hd'
  rw [show h'=_ from hB] at hd'
  have:=hd' b1 (by simp [ZU.one]);simp only [Cx.add,ZU.add,ZU.one] at this;split at this<;>simp_all
 obtain ⟨tR,hf⟩:=Zvd;refine ⟨.bool false,w,?_,k⟩;rw [run_callFunc_extern func264 Zvc Zve Zvb hf];rw [Lib.run_overlaps_apart (P:=prog) w 28 tR 3 underlying28 1 (λ w=>szI w) ⟨b1,0,none⟩ ⟨b2,o,none⟩ 1 1 la lc hne T1 T2 1 l.length ?_ ?_ ?_ ?_ ?_]
 ·rfl
 ·simp only [World.shape?,h1];rfl
 ·simp only [World.shape?,h2];simp
 ·cases l with
  |nil=>exact absurd rfl hl
  |cons a l=>simp
 ·simp [World.frozen?,h1]
 ·simp [World.frozen?,h1]
end
section
open Go Go.VC Tryz
variable {R:Cx} {Hs Rest:List HP} {w:World}
theorem ZgA {A B C V:List Value} {p:Nat} (hp:A.length=p) (hB:B.length=V.length):Zei (A++B++C) p V=A++V++C:=by
 rw [ZeB _ _ _ (by simp only [List.length_append];omega)];have e1:(A++B++C).take p=A:=by rw [List.append_assoc,List.take_left' hp]
 have e2:(A++B++C).drop (p + V.length)=C:=by rw [List.drop_left' (by rw [List.length_append];omega)]
 rw [e1,e2]
theorem put2 {A ys D rest:List Value} {x:Value} {p:Nat} (hA:A.length=p) (hy:ys.length=D.length + 1):Zei (Zei ((A++ys)++rest) p [x]) (p + 1) D=(A++x::D)++rest:=by
 match ys,hy with
 |y0::ys',hy=>
  have h1:Zei ((A++y0::ys')++rest) p [x]=A++[x]++(ys'++rest):=by
   have:=ZgA (A:=A) (B:=[y0]) (C:=ys'++rest) (V:=[x]) hA rfl;rw [<-this];simp
  have h2:=ZgA (A:=A++[x]) (B:=ys') (C:=rest) (V:=D) (p:=p + 1) (by simp [hA]) (by simpa using hy);rw [h1,<-List.append_assoc,h2];simp
theorem ZAJ {A D rest:List Value} {x:Value} {p:Nat} (hA:A.length=p) (hr:1<=rest.length):Zei (Zei ((A++D)++rest) (p + 1) D) p [x]=(A++x::D)++rest.drop 1:=by
 match rest,hr with
 |r0::rest',_=>
  obtain ⟨y0,ys',hy,hl⟩:∃ y0 ys',D++[r0]=y0::ys'/\ys'.length=D.length:=by
   cases D with
   |nil=>exact ⟨r0,[],rfl,rfl⟩
   |cons d D=>exact ⟨d,D++[r0],rfl,by simp⟩
  have e:(A++D)++r0::rest'=(A++[y0])++ys'++rest':=by
   have:(A++D)++r0::rest'=A++(D++[r0])++rest':=by simp
   rw [this,hy];simp
  rw [e,ZgA (p:=p + 1) (by simp [hA]) hl];have:=ZgA (A:=A) (B:=[y0]) (C:=D++rest') (V:=[x]) hA rfl;rw [show (A++[y0])++D++rest'=A++[y0]++(D++rest') by simp,this];simp
theorem ZpS {b:Nat} {n:Int} {T:TypeId} (h:w.heap[b]? =some (Zyh n T)):∀ j v,[Value.int .i64 n][j]? =some v->w.cell? ((⟨b,0,none⟩:Addr).add j)=some v:=by
 intro j v hj;rw [Zy,Zau h,Nat.zero_add];exact hj
theorem Zm5 {b p:Nat} {xs rest:List Value} {T:TypeId} {fr:Nat × Nat} (h:w.heap[b]? =some (.cells (xs++rest).toArray T fr)) (_hp:p<=xs.length):∀ j v,(xs.drop p)[j]? =some v->w.cell? ((⟨b,p,none⟩:Addr).add j)=some v:=by
 intro j v hj;rw [Zy,Zau h];rw [List.getElem?_drop] at hj;have hlt:=(List.getElem?_eq_some_iff.1 hj).1;rw [List.getElem?_append_left (by omega)];exact hj
theorem Zmv {s:Sl} {l:List Int} {n:Int} {p b:Nat} {T:TypeId} (hl:l.length<=1000000000) (hp:p<=l.length) (hw:Sat R (Own s 3 (Zd l)::pts b (Zyh n T)::Hs) w):
  Zm prog 236 #[.slice s.a s.len s.cap,.int .i64 p,.slice (some ⟨b,0,none⟩) 1 1] w λ v w'=>∃ t:Sl,v=.slice t.a t.len t.cap/\Sat R (Own t 3 (Zd (l.take p++n::l.drop p))::pts b (Zyh n T)::Hs) w':=by
 have hlen:=Own.len hw;have hcap:=Own.cap hw;rw [List.length_map] at hlen;refine Zwt s p ⟨some ⟨b,0,none⟩,1,1⟩ _ _ ?_;unfold B236;dsimp only;have w1:IntKind.i64.wrap ((s.len:Int) + ((1:Nat):Int))=((l.length + 1:Nat):Int):=by rw [Zh (by omega) (by omega)];omega
 have w2:IntKind.i64.wrap (((l.length + 1:Nat):Int) - p)=((l.length + 1 - p:Nat):Int):=by rw [Zh (by omega) (by omega)];omega
 have w3:IntKind.i64.wrap ((p:Int) + ((1:Nat):Int))=((p + 1:Nat):Int):=by rw [Zh (by omega) (by omega)];omega
 rw [w1,w2,w3];simp only [Int.toNat_natCast];refine ⟨by omega,by omega,Br.f rfl (Br.e (λ h=>?_) (λ h=>Br.d (λ h2=>?_) (λ h2=>?_)))⟩
 ·-- behind all
  refine Zcw Zo6 hw (Zsv Zo6.hk 1 hw rfl) (Ze1 _ _) (by rw [List.length_map];omega) (by rw [List.length_map];omega) λ t w hw=>⟨t,rfl,?_⟩;have e:Zd l++[Value.int .i64 n]=Zd (l.take p++n::l.drop p):=by
   rw [List.take_of_length_le (by omega),List.drop_eq_nil_of_le (by omega)];simp
  rw [e] at hw;exact hw
 ·-- no room
  refine ⟨by omega,by omega,?_⟩;refine ZhT (z:=.int .i64 0) underlying28 underlying3 Zo6.hi (by omega) (by rw [List.length_map];omega) (by omega) (by omega) (by omega) hw λ t w ys hys hw=>?_;have htl:=Own.len hw;rw [List.length_append,List.length_take,List.length_map,hys] at htl;refine ⟨by omega,by omega,?_⟩;rcases Own.cases hw with ⟨_,h0,_⟩|⟨b',rest,fr,rfl,hfr,hw⟩
  ·have:=congrArg List.length h0
   rw [List.length_append,hys,List.length_nil] at this;omega
  dsimp only at htl ⊢;have hA:((Zd l).take p).length=p:=by rw [List.length_take,List.length_map];omega
  have hxs:((Zd l).take p++ys).length=l.length + 1:=by rw [List.length_append,hA,hys];omega
  have hb1:=(hw.takeP (b:=b) inferInstance).at;rw [hxs,Zfk (by rw [List.length_append,hxs];omega)];refine Zfl underlying28 (by kernel_rfl) hw hfr (cs:=[.int .i64 n]) (by show 1=min _ _;omega) (by rw [List.length_append,hxs];show p + 1<=_;omega) (ZpS hb1) rfl λ _ w hw=>?_;refine Zo hw λ w hw=>⟨by omega,by omega,by omega,by omega,?_⟩;rcases Own.cases hw.swap with ⟨_,h0,_⟩|⟨bs,rest2,fr2,rfl,hfr2,hws⟩
  ·have h3:l.length=0:=by
    have:=congrArg List.length h0;rw [List.length_map] at this;exact this
   omega
  clear w1 w2 w3;dsimp only at hlen hcap h h2 ⊢;rw [List.length_map] at h;have hsat:=hws.at;rw [Zfk (by rw [List.length_append,hxs];omega),Zfk (by rw [List.length_append,List.length_map];omega)];refine Zfl underlying28 (by kernel_rfl) hws.swap (by rw [Zbv];exact hfr) (cs:=(Zd l).drop p) (by rw [List.length_drop,List.length_map];show _=min _ _;omega)
   (by rw [Zbv,List.length_append,hxs,List.length_drop,List.length_map];omega) (Zm5 hsat (by rw [List.length_map];omega)) (by rw [<-List.map_drop];exact Ze1 _ _) λ _ w hw=>?_
  rw [put2 hA (by rw [hys,List.length_drop,List.length_map];omega)] at hw;have e:(Zd l).take p++Value.int .i64 n::(Zd l).drop p=Zd (l.take p++n::l.drop p):=by simp [List.map_take,List.map_drop]
  have hel:(Zd (l.take p++n::l.drop p)).length=l.length + 1:=by simp;omega
  rw [e] at hw;have hfin:=Own.of_pts hw (by have:=hfr;rw [List.length_append,hxs] at this;rw [List.length_append,hel];exact this);rw [hel] at hfin;refine ⟨⟨some ⟨b',0,none⟩,l.length + 1,(Zd (l.take p++n::l.drop p)++rest).length⟩,?_,?_⟩
  ·dsimp only
   have c1:((Zd l).take p++ys++rest).length=l.length + 1 + rest.length:=List.length_append.trans (by rw [hxs]);have c2:(Zd (l.take p++n::l.drop p)++rest).length=l.length + 1 + rest.length:=List.length_append.trans (by rw [hel]);rw [c1,c2]
  ·exact Sat.cons (λ R' h=>h.drop) hfin
 ·-- room
  rcases Own.cases hw with ⟨_,h0,_⟩|⟨bs,rest,fr,rfl,hfr,hws⟩
  ·have h3:l.length=0:=by
    have:=congrArg List.length h0;rw [List.length_map] at this;exact this
   omega
  clear w1 w2 w3;dsimp only at hlen hcap h h2 ⊢;rw [List.length_map] at h;have hA:((Zd l).take p).length=p:=by rw [List.length_take,List.length_map];omega
  have hcl:(Zd l++rest).length=l.length + rest.length:=by rw [List.length_append,List.length_map]
  have hroom:1<=rest.length:=by
   rw [hcl] at h2;omega
  refine ⟨by omega,by omega,by omega,by omega,?_⟩;rw [Zfk (by omega)];refine Zjo (by intro h0;have h5:=congrArg List.length h0;rw [hcl,List.length_nil] at h5;omega) hws ?_;refine ⟨_,rfl,Br.t rfl ?_⟩;refine Zo hws λ w hws=>⟨by omega,by omega,by omega,by omega,?_⟩;rw [Zfk (by omega)];have hsat:=hws.at;refine Zfl underlying28 (by kernel_rfl) hws hfr (cs:=(Zd l).drop p) (by rw [List.length_drop,List.length_map];show _=min _ _;omega)
   (by rw [hcl,List.length_drop,List.length_map];omega) (Zm5 hsat (by rw [List.length_map];omega)) (by rw [<-List.map_drop];exact Ze1 _ _) λ _ w hw=>?_
  refine ⟨by omega,by omega,?_⟩;have hb1:=hw.swap.at;refine Zfl underlying28 (by kernel_rfl) hw (by rw [Zbv];exact hfr) (cs:=[.int .i64 n]) (by show 1=min _ _;omega) (by rw [Zbv,hcl];show p + 1<=_;omega) (ZpS hb1) rfl λ _ w hw=>?_;have e0:Zd l++rest=((Zd l).take p++(Zd l).drop p)++rest:=by rw [List.take_append_drop]
  rw [e0,ZAJ hA hroom] at hw;have e:(Zd l).take p++Value.int .i64 n::(Zd l).drop p=Zd (l.take p++n::l.drop p):=by simp [List.map_take,List.map_drop]
  have hel:(Zd (l.take p++n::l.drop p)).length=l.length + 1:=by simp;omega
  rw [e] at hw;have hll:(Zd (l.take p++n::l.drop p)++rest.drop 1).length=(Zd l++rest).length:=by rw [List.length_append,hel,hcl,List.length_drop];omega
  have hfin:=Own.of_pts hw (by rw [hll];exact hfr);rw [hel,hll] at hfin;exact ⟨_,rfl,hfin⟩
end
end Go.Proofs.YtfgbbckfikiomaaGreatDoor
namespace Go.VC
section
variable {P:Program} {R R' R'':Cx} {Hs Rest:List HP} {w:World} {s:Sl} {T:TypeId}
instance:Zbp Int where
 enc:=Value.int .i64
 desc:=.int .i64
 same a b:=by
  show (if IntKind.i64=IntKind.i64 then some (a==b) else none)=some (a==b)
  rw [if_pos rfl]
 bits a:=by
  have:∀ n,Instr.sameBits n (.int .i64 a) (.int .i64 a)=(IntKind.i64==IntKind.i64 && a==a):=λ n=>by cases n<;>rfl
  rw [this];simp
 eq a b h:=beq_iff_eq.1 h
 check P em K a w h:=by
  show (Instr.checkKey em (9999 + 1) K (.int .i64 a)).run P w=_;unfold Instr.checkKey;simp [run_underlying h]
theorem ZA.out {xs:List Value} (h:Sat R (ZA s xs::Hs) w):∃ R',R.Ext R'/\SlR R'.m s xs/\Sat R' Hs w/\∀ Hs' w',Sat R' Hs' w'->Sat R (ZA s xs::Hs') w':=by
 obtain ⟨x,hd,hs,hw,hx⟩:=ZA.lend h;exact ⟨R.add x,Cx.Ext.add,hs,hw,λ Hs' w' h=>ZA.back hd hx h⟩
end
end Go.VC
namespace Go.Proofs.YtfgbbckfikiomaaGreatDoor
section
open Go Go.VC Tryz
variable {R:Cx} {Hs Rest:List HP} {w:World}
structure ZD where
 owner:Int
 cls:Int
 many:Int
 seats:List Int
structure PF where
 num:Int
 rows:Int
 grps:List Int
 lims:List Int
 sold:List Int
 hs:List (Int × ZD)
 own:List (Int × Int)
abbrev Zx (h:ZD) (s:Sl):Obj:=.cells [.int .i64 h.owner,.int .i64 h.cls,.int .i64 h.many,.slice s.a s.len s.cap].toArray 176 (0,0)
def Zfr (b:Nat) (h:ZD):HP:=exs λ s:Sl=>Zgu [pts b (Zx h s),Own s 3 (Zd h.seats)]
abbrev HE:=Int × Nat × ZD
def ZL (E:List HE):HP:=Zgu (E.map λ e=>Zfr e.2.1 e.2.2)
abbrev ZS (E:List HE):List (Int × Value):=E.map λ e=>(e.1,.pointer (some ⟨e.2.1,0,none⟩))
abbrev hEr (E:List HE):List (Int × ZD):=E.map λ e=>(e.1,e.2.2)
abbrev Zbi (l:List (Int × Int)):List (Int × Value):=l.map λ e=>(e.1,.int .i64 e.2)
abbrev ZY (f:PF) (sg sl ss:Sl) (hm om:Nat):Obj:=
 .cells [.int .i64 f.num,.int .i64 f.rows,.slice sg.a sg.len sg.cap,.slice sl.a sl.len sl.cap,.slice ss.a ss.len ss.cap,.map (some hm),.map (some om)].toArray 174 (0,0)
abbrev FO (p hm om:Nat) (sg sl ss:Sl) (E:List HE) (f:PF) (Hs:List HP):List HP:=
 pts p (ZY f sg sl ss hm om)::MapAt hm (ZS E)::MapAt om (Zbi f.own)::ZL E::Hs
structure FX where
 hm:Nat
 om:Nat
 sg:Sl
 sl:Sl
 ss:Sl
 E:List HE
def Zl (p:Nat) (f:PF):HP:=exs λ x:FX=>
 Zgu [pur (hEr x.E=f.hs),ZA x.sg (Zd f.grps),ZA x.sl (Zd f.lims),ZA x.ss (Zd f.sold),pts p (ZY f x.sg x.sl x.ss x.hm x.om),MapAt x.hm (ZS x.E),MapAt x.om (Zbi f.own),ZL x.E]
theorem Sat.flight {p:Nat} {f:PF}:Sat R (Zl p f::Hs) w↔∃ hm om sg sl ss E,hEr E=f.hs/\Sat R (ZA sg (Zd f.grps)::ZA sl (Zd f.lims)::ZA ss (Zd f.sold)::FO p hm om sg sl ss E f Hs) w:=by
 unfold Zl;rw [Sat.exs];constructor
 ·rintro ⟨⟨hm,om,sg,sl,ss,E⟩,h⟩
  obtain ⟨h1,h2⟩:=Sat.pur.1 (Sat.star.1 h);exact ⟨hm,om,sg,sl,ss,E,h1,h2⟩
 ·rintro ⟨hm,om,sg,sl,ss,E,h1,h2⟩
  exact ⟨⟨hm,om,sg,sl,ss,E⟩,Sat.star.2 (Sat.pur.2 ⟨h1,h2⟩)⟩
theorem Sat.flightO {p:Nat} {f:PF} (hw:Sat R (Zl p f::Hs) w):∃ hm om sg sl ss E R',hEr E=f.hs/\R.Ext R'/\SlR R'.m sg (Zd f.grps)/\SlR R'.m sl (Zd f.lims)/\SlR R'.m ss (Zd f.sold)/\Sat R' (FO p hm om sg sl ss E f Hs) w/\
  ∀ Hs' w',Sat R' Hs' w'->Sat R (ZA sg (Zd f.grps)::ZA sl (Zd f.lims)::ZA ss (Zd f.sold)::Hs') w':=by
 obtain ⟨hm,om,sg,sl,ss,E,hE,hw⟩:=Sat.flight.1 hw;obtain ⟨R1,e1,g1,hw,b1⟩:=ZA.out hw;obtain ⟨R2,e2,g2,hw,b2⟩:=ZA.out hw;obtain ⟨R3,e3,g3,hw,b3⟩:=ZA.out hw;exact ⟨hm,om,sg,sl,ss,E,R3,hE,e1.trans (e2.trans e3),e3.slR (e2.slR g1),e3.slR g2,g3,hw,λ Hs' w' h=>b1 _ _ (b2 _ _ (b3 _ _ h))⟩
theorem Sat.flightC {p hm om:Nat} {sg sl ss:Sl} {E:List HE} {f:PF} (hE:hEr E=f.hs) (hw:Sat R (ZA sg (Zd f.grps)::ZA sl (Zd f.lims)::ZA ss (Zd f.sold)::FO p hm om sg sl ss E f Hs) w):Sat R (Zl p f::Hs) w:=
 Sat.flight.2 ⟨hm,om,sg,sl,ss,E,hE,hw⟩
theorem Sat.hold {b:Nat} {h:ZD}:Sat R (Zfr b h::Hs) w↔∃ s:Sl,Sat R (pts b (Zx h s)::Own s 3 (Zd h.seats)::Hs) w:=by
 unfold Zfr;rw [Sat.exs];exact ⟨λ⟨s,h⟩=>⟨s,Sat.star.1 h⟩,λ⟨s,h⟩=>⟨s,Sat.star.2 h⟩⟩
theorem Sat.holds {a b:List HE} {e:HE}:Sat R (ZL (a++e::b)::Hs) w↔Sat R (Zfr e.2.1 e.2.2::ZL (a++b)::Hs) w:=by
 have p:((a++e::b).map λ e:HE=>Zfr e.2.1 e.2.2).Perm (Zfr e.2.1 e.2.2::(a++b).map λ e:HE=>Zfr e.2.1 e.2.2):=by
  rw [List.map_append,List.map_cons,List.map_append];exact List.perm_middle
 unfold ZL;constructor
 ·intro h
  have h1:=(Sat.star.1 h).perm (p.append_right Hs);exact h1.cons λ _ h=>Sat.star.2 h
 ·intro h
  have h1:Sat R ((Zfr e.2.1 e.2.2::(a++b).map λ e:HE=>Zfr e.2.1 e.2.2)++Hs) w:=h.cons λ _ h=>Sat.star.1 h;exact Sat.star.2 (h1.perm (p.symm.append_right Hs))
abbrev ZAQ:Zye prog 171 Int 3 207 (.pointer none):=⟨underlying171,underlying3,zeroValue207⟩
abbrev ZAM:Zye prog 172 Int 3 3 (.int .i64 0):=⟨underlying172,underlying3,zeroValue3⟩
theorem Zhu (k:Int) (E:List HE):ZH k (ZS E)=(ZH k E).map λ x=>.pointer (some ⟨x.1,0,none⟩):=Zfd (λ x:Nat × ZD=>Value.pointer (some ⟨x.1,0,none⟩)) k E
theorem Zbk (k:Int) (E:List HE):ZH k (hEr E)=(ZH k E).map (·.2):=Zfd (λ x:Nat × ZD=>x.2) k E
theorem ZqL (k:Int) (l:List (Int × Int)):ZH k (Zbi l)=(ZH k l).map (Value.int .i64):=Zfd (Value.int .i64) k l
theorem Zcq {m:Nat} {E:List HE} (hw:Sat R (MapAt m (ZS E)::Hs) w) (k:Int) (c:Bool):
  (Instr.lookup 171 (.map (some m)) (.int .i64 k) c).run prog w=.ok (if c then .tuple #[.pointer ((ZH k E).map λ x=>⟨x.1,0,none⟩),.bool (ZH k E).isSome] else .pointer ((ZH k E).map λ x=>⟨x.1,0,none⟩)) w:=by
 have h:=MapAt.look ZAQ hw k c;rw [Zhu] at h;rw [show Value.int .i64 k=Zbp.enc k from rfl,h]
 cases ZH k E<;>rfl
theorem Zni {m:Nat} {l:List (Int × Int)} (hw:Sat R (MapAt m (Zbi l)::Hs) w) (k:Int) (c:Bool):
  (Instr.lookup 172 (.map (some m)) (.int .i64 k) c).run prog w=.ok (if c then .tuple #[.int .i64 ((ZH k l).getD 0),.bool (ZH k l).isSome] else .int .i64 ((ZH k l).getD 0)) w:=by
 have h:=MapAt.look ZAM hw k c;rw [ZqL] at h;rw [show Value.int .i64 k=Zbp.enc k from rfl,h]
 cases ZH k l<;>rfl
end
section
open Go Go.VC Tryz
variable {R:Cx} {Hs Rest:List HP} {w:World}
theorem Zm8 {α β γ:Type} [BEq α] (f:β->γ) (k:α) (v:β):∀ l:List (α × β),ZeO k (f v) (l.map λ e=>(e.1,f e.2))=(ZeO k v l).map λ e=>(e.1,f e.2)
 |[]=>rfl
 |e::l=>by
  simp only [List.map_cons,ZeO];split
  ·rfl
  ·rw [Zm8 f k v l];rfl
theorem ZnO {α β γ:Type} [BEq α] (f:β->γ) (k:α):∀ l:List (α × β),Zfj k (l.map λ e=>(e.1,f e.2))=(Zfj k l).map λ e=>(e.1,f e.2)
 |[]=>rfl
 |e::l=>by
  simp only [List.map_cons,Zfj];split
  ·rfl
  ·rw [ZnO f k l];rfl
theorem Zs1 {α β γ:Type} [BEq α] (f:β->γ) (k:α) (v:β) (l:List (α × β)):ZdZ k (f v) (l.map λ e=>(e.1,f e.2))=(ZdZ k v l).map λ e=>(e.1,f e.2):=by
 unfold ZdZ;rw [Zfd,Option.isSome_map];split
 ·exact Zm8 f k v l
 ·simp
def ZD.put (h:ZD) (n:Int):ZD:={ h with seats:=ZfN n h.seats }
theorem ZgQ {p hm om b:Nat} {sg sl ss:Sl} {a c:List HE} {k n:Int} {h:ZD} {f:PF} (hr:Zpq h.seats) (hl:h.seats.length<=1000000000) (hw:Sat R (FO p hm om sg sl ss (a++(k,b,h)::c) f Hs) w):
  Zm prog 187 #[.pointer (some ⟨p,0,none⟩),.pointer (some ⟨b,0,none⟩),.int .i64 n] w λ v w'=>v=.tuple #[]/\Sat R (FO p hm om sg sl ss (a++(k,b,h.put n)::c) { f with own:=ZdZ n h.owner f.own } Hs) w':=by
 have hw:=hw.take (ZL (a++(k,b,h)::c));obtain ⟨s,hw⟩:=Sat.hold.1 (Sat.holds.1 hw);apply ZwZ;refine Zc.mk rfl ⟨s,oA hw,?_⟩;obtain ⟨R',hro,_,hw',back⟩:=Own.lend (hw.take (Own s 3 (Zd h.seats))) (by rw [List.length_map];omega);refine (ZlH (l:=h.seats) hro hr hl hw').use ?_;clear hw hw';rintro _ w ⟨q,bb,rfl,hq,h1,h2,hw⟩;have hw:=(back hw).swap;refine ⟨_,_,rfl,Zc.mk rfl ⟨s,oA hw,?_⟩⟩;refine Zb hw λ bn w hw=>?_;refine (Zmv (T:=3) hl hq (hw.take (Own s 3 (Zd h.seats)))).use ?_;clear hw;rintro _ w ⟨t,rfl,hw⟩;rw [<-Zrh hq h1 h2] at hw;refine ⟨_,rfl,Zc.mk rfl ?_⟩;refine Za hw (by kernel_rfl) rfl (by simp [Value.cells]) λ w hw=>?_;have hw:Sat R (pts b (Zx (h.put n) t)::Own t 3 (Zd (ZfN n h.seats))::pts bn (Zyh n 3)::ZL (a++c)::pts p (ZY f sg sl ss hm om)::MapAt hm (ZS (a++(k,b,h)::c))::MapAt om (Zbi f.own)::Hs) w:=hw;refine Zo hw λ w hw=>?_;refine Zc.mk rfl ⟨some om,oS,Zc.mk rfl ⟨h.owner,by rw [Zy];exact oS,?_⟩⟩;refine MapAt.put ZAM (hw.take (MapAt om (Zbi f.own))) n (.int .i64 h.owner) λ w hw=>⟨rfl,?_⟩;rw [Zs1 (Value.int .i64) n h.owner f.own] at hw;have hw:=(hw.take (pts bn (Zyh n 3))).drop;have hw:Sat R (pts b (Zx (h.put n) t)::Own t 3 (Zd (h.put n).seats)::MapAt om (Zbi (ZdZ n h.owner f.own))::ZL (a++c)::pts p (ZY f sg sl ss hm om)::MapAt hm (ZS (a++(k,b,h)::c))::Hs) w:=
  (hw.take (Own t 3 (Zd (ZfN n h.seats)))).take (pts b (Zx (h.put n) t))
 have hw:=Sat.hold.2 ⟨t,hw⟩;have hw:=(Sat.holds (e:=((k,b,h.put n):HE)) (a:=a) (b:=c)).2 (hw.cons λ _ h=>h.take (ZL (a++c)));have e:ZS (a++(k,b,h.put n)::c)=ZS (a++(k,b,h)::c):=by simp [ZS]
 show Sat R (pts p (ZY f sg sl ss hm om)::MapAt hm (ZS (a++(k,b,h.put n)::c))::MapAt om (Zbi (ZdZ n h.owner f.own))::ZL (a++(k,b,h.put n)::c)::Hs) w;rw [e];exact ((hw.take (MapAt om (Zbi (ZdZ n h.owner f.own)))).take (MapAt hm (ZS (a++(k,b,h)::c)))).take (pts p (ZY f sg sl ss hm om))
theorem Zlv {p:Nat} {f:PF} (hw:Sat R (Zl p f::Hs) w):Zm prog 104 #[.pointer (some ⟨p,0,none⟩)] w λ v w'=>v=.int .i64 f.num/\Sat R (Zl p f::Hs) w':=by
 obtain ⟨hm,om,sg,sl,ss,E,hE,hw2⟩:=Sat.flight.1 hw;apply ZxZ;exact Zc.mk rfl ⟨f.num,by rw [Zy];exact At.own (eqS hw2) (by exact ⟨rfl,trivial⟩),rfl,hw⟩
def ZdD (n:Int) (g:List Int) (l:List Int):List ByteArray:=l.map λ k=>(Zvt n g k).1
theorem ZAU:El prog 29 29 9 16:=⟨underlying29,⟨_,underlying29⟩,by kernel_rfl⟩
theorem ZoC (l:List ByteArray):ZaS (l.map Value.string)=true:=by unfold ZaS;simp [Value.oneCell']
theorem Zhp {p hm om:Nat} {sg sl ss sq:Sl} {f:PF} {l:List Int} [tk:ZdO p Hs (ZY f sg sl ss hm om) Rest] (hg:RoI R sg f.grps) (hl:RoI R sq l) (hlen:l.length<=1000000) (hw:Sat R Hs w):
  Zm prog 190 #[.pointer (some ⟨p,0,none⟩),.slice sq.a sq.len sq.cap] w λ v w'=>∃ t:Sl,v=.slice t.a t.len t.cap/\Sat R (Own t 9 ((ZdD f.rows f.grps l).map Value.string)::Hs) w':=by
 have hll:=hl.len;apply ZwX;refine ⟨λ so i w=>∃ j:Nat,i=j/\j<=l.length/\Sat R (Own so 9 ((ZdD f.rows f.grps (l.take j)).map Value.string)::Hs) w,λ _ i _=>l.length - i.toNat,⟨0,rfl,by omega,Own.nil hw⟩,?_⟩;clear hw;rintro _ so _ w ⟨j,rfl,hj,hw⟩;refine Br.d (λ h=>?_) (λ h=>?_)
 ·have hj2:j<l.length:=by omega
  refine Ro.ix hl (eqS hw) j rfl hj2 ?_;refine Zc.mk rfl ⟨f.rows,sg,At.own (l:=[.int .i64 f.num,.int .i64 f.rows,.slice sg.a sg.len sg.cap,.slice sl.a sl.len sl.cap,.slice ss.a ss.len ss.cap,.map (some hm),.map (some om)]) (t:=ZdO.tail (t:=tk)) (eqS hw) (by exact ⟨rfl,rfl,trivial⟩),?_⟩;refine (ZoU hg hw).use ?_;rintro _ w ⟨rfl,hw⟩;have hlab:(ZdD f.rows f.grps (l.take j)).length=j:=by unfold ZdD;rw [List.length_map,List.length_take];omega
  refine ⟨_,_,rfl,?_⟩;refine Zha ZAU hw (ZoC _) rfl (by rw [List.length_map,hlab];omega) (by rw [List.length_map,hlab];omega) λ t w hw=>?_;rw [Zh (by omega) (by omega)];refine ⟨⟨j + 1,by omega,by omega,?_⟩,by dsimp only;omega⟩;have e:(ZdD f.rows f.grps (l.take (j + 1))).map Value.string=(ZdD f.rows f.grps (l.take j)).map Value.string++[.string (Zvt f.rows f.grps l[j]).1]:=by
   unfold ZdD;rw [List.take_add_one,List.getElem?_eq_getElem hj2,Option.toList_some,List.map_append,List.map_append];rfl
  rw [e];exact hw
 ·rw [List.take_of_length_le (by omega)] at hw
  exact ⟨so,rfl,hw⟩
end
section
open Go Go.VC Tryz
variable {R:Cx} {Hs Rest:List HP} {w:World}
theorem ZbO {K:Nat->World->Prop} (hw:Sat R Hs w) (k:∀ m w',Sat R (MapAt (α:=Int) m []::Hs) w'->K m w'):New (.map #[] 0) K w:=
 Zb hw λ m w hw=>k m w (MapAt.new rfl hw)
theorem Zc7 {n:Nat} {K:Sl->World->Prop} (hn:n<=1000) (hw:Sat R Hs w) (k:∀ s w',Sat R (Own s 3 (Zd (List.replicate n 0))::Hs) w'->K s w'):
  ∃ w',∃ t:Sl,(Instr.makeSlice 28 (.int .i64 (n:Int)) (.int .i64 (n:Int))).run prog w=.ok (.slice t.a t.len t.cap) w'/\K t w':=
 Zhi (bytes:=8) (z:=.int .i64 0) underlying28 (by kernel_rfl) zeroValue3 rfl (by omega) (by omega) hw λ s w hw=>k s w (by
  rw [show Zd (List.replicate n 0)=List.replicate n (.int .i64 0) by simp [Zd]];exact hw)
def Zag (num rows:Int) (grps lims:List Int):PF:=⟨num,rows,grps,lims,List.replicate lims.length 0,[],[]⟩
theorem ZiN {num rows:Int} {sg sl:Sl} {grps lims:List Int} (hl:lims.length<=1000) (hw:Sat R (ZA sg (Zd grps)::ZA sl (Zd lims)::Hs) w):
  Zm prog 159 #[.int .i64 num,.agg #[.int .i64 rows,.slice sg.a sg.len sg.cap],.slice sl.a sl.len sl.cap] w λ v w'=>∃ p,v=.pointer (some ⟨p,0,none⟩)/\Sat R (Zl p (Zag num rows grps lims)::Hs) w':=by
 have hlen:sl.len=lims.length:=by
  obtain ⟨_,_,h,_⟩:=ZA.out hw.swap;have:=h.len;rw [List.length_map] at this;exact this
 apply Zxq;refine Zb hw λ b4 w hw=>?_;have hw:Sat R (pts b4 (ZeH rows sg)::ZA sg (Zd grps)::ZA sl (Zd lims)::Hs) w:=hw;refine Zo hw λ w hw=>?_;rw [hlen];have fin:∀ {hm om:Nat} {ss:Sl} {w:World} (_:Sat R (MapAt (α:=Int) om []::MapAt (α:=Int) hm []::Own ss 3 (Zd (List.replicate lims.length 0))::pts b4 (ZeH rows sg)::ZA sg (Zd grps)::ZA sl (Zd lims)::Hs) w),
   New (.cells #[.int .i64 num,.int .i64 rows,.slice sg.a sg.len sg.cap,.slice sl.a lims.length sl.cap,.slice ss.a ss.len ss.cap,.map (some hm),.map (some om)] 174 (0,0))
    (λ p w=>Sat R (pts b4 (ZeH rows sg)::ZA sg (Zd grps)::ZA sl (Zd lims)::Hs) w/\∃ p',Value.pointer (some ⟨p,0,none⟩)=.pointer (some ⟨p',0,none⟩)/\Sat R (Zl p' (Zag num rows grps lims)::Hs) w) w:=λ {hm om ss w} hw=>by
  refine Zb hw λ p w hw=>⟨hw.drop.drop.drop.drop,p,rfl,?_⟩;refine Sat.flight.2 ⟨hm,om,sg,sl,ss,[],rfl,?_⟩;have ec:(Obj.cells #[.int .i64 num,.int .i64 rows,.slice sg.a sg.len sg.cap,.slice sl.a lims.length sl.cap,.slice ss.a ss.len ss.cap,.map (some hm),.map (some om)] 174 (0,0))=ZY (Zag num rows grps lims) sg sl ss hm om:=by rw [<-hlen];rfl
  rw [ec] at hw;have hw:=(hw.take (pts b4 (ZeH rows sg))).drop;have hw:=hw.take (Own ss 3 (Zd (List.replicate lims.length 0)));have hw:Sat R (ZA ss (Zd (List.replicate lims.length 0))::pts p (ZY (Zag num rows grps lims) sg sl ss hm om)::MapAt (α:=Int) om []::MapAt (α:=Int) hm []::ZA sg (Zd grps)::ZA sl (Zd lims)::Hs) w:=Own.reads hw;have h2:Sat R (ZL []::ZA ss (Zd (List.replicate lims.length 0))::pts p (ZY (Zag num rows grps lims) sg sl ss hm om)::MapAt (α:=Int) om []::MapAt (α:=Int) hm []::ZA sg (Zd grps)::ZA sl (Zd lims)::Hs) w:=Sat.star.2 hw;have h3:=(((((((h2.take (ZL [])).take (MapAt (α:=Int) om [])).take (MapAt (α:=Int) hm [])).take (pts p (ZY (Zag num rows grps lims) sg sl ss hm om))).take (ZA ss (Zd (List.replicate lims.length 0)))).take (ZA sl (Zd lims))).take (ZA sg (Zd grps)));exact h3
 refine ⟨rows,sg,At.own Zao (by exact ⟨rfl,rfl,trivial⟩),?_,?_,?_⟩
 ·refine Zc7 hl hw λ ss w hw=>⟨hw.drop,?_,?_⟩
  ·refine ZbO hw λ hm w hw=>⟨hw.drop.drop,ZbO hw λ om w hw=>⟨hw.drop.drop.drop,fin hw⟩⟩
  ·refine ZbO hw λ om w hw=>⟨hw.drop.drop,ZbO hw λ hm w hw=>⟨hw.drop.drop.drop,fin hw.swap⟩⟩
 ·refine ZbO hw λ hm w hw=>⟨hw.drop,?_,?_⟩
  ·refine Zc7 hl hw λ ss w hw=>⟨hw.drop.drop,ZbO hw λ om w hw=>⟨hw.drop.drop.drop,fin ((hw.take (MapAt (α:=Int) hm [])).take (MapAt (α:=Int) om []))⟩⟩
  ·refine ZbO hw λ om w hw=>⟨hw.drop.drop,Zc7 hl hw λ ss w hw=>⟨hw.drop.drop.drop,fin ((hw.take (MapAt (α:=Int) hm [])).take (MapAt (α:=Int) om []))⟩⟩
 ·refine ZbO hw λ om w hw=>⟨hw.drop,?_,?_⟩
  ·refine Zc7 hl hw λ ss w hw=>⟨hw.drop.drop,ZbO hw λ hm w hw=>⟨hw.drop.drop.drop,fin ((hw.take (MapAt (α:=Int) hm [])).take (MapAt (α:=Int) om []))⟩⟩
  ·refine ZbO hw λ hm w hw=>⟨hw.drop.drop,Zc7 hl hw λ ss w hw=>⟨hw.drop.drop.drop,fin ((hw.take (MapAt (α:=Int) hm [])).take (MapAt (α:=Int) om []))⟩⟩
end
section
open Go Go.VC Tryz
variable {R:Cx} {Hs Rest:List HP} {w:World}
def Zjs (num rows:Int) (grps:List Int) (parts:List Nat):Prop:=1<=num/\num<=9999/\Zdg rows grps=true/\(Z7 (ZaL rows grps) parts).2=0
theorem ZoL {s:Int} {parts:List Nat}:(Z7 s parts).1.length<=8:=by
 unfold Z7;split
 ·simp
 ·simp only [List.length_cons,Ze5,List.length_tail];omega
theorem Zo0 {num rows:Int} {sg sp:Sl} {grps:List Int} {parts:List Nat} (hg:RoI R sg grps) (hp:SlR R.m sp (ZnH parts)) (hw:Sat R Hs w):
  Zm prog 109 #[.int .i64 num,.agg #[.int .i64 rows,.slice sg.a sg.len sg.cap],.slice sp.a sp.len sp.cap] w λ v w'=>
   (¬ Zjs num rows grps parts/\v=.tuple #[.pointer none,.int .i64 1]/\Sat R Hs w')\/
   (Zjs num rows grps parts/\∃ p,v=.tuple #[.pointer (some ⟨p,0,none⟩),.int .i64 0]/\Sat R (Zl p (Zag num rows grps (Z7 (ZaL rows grps) parts).1)::Hs) w'):=by
 apply ZxV;refine Zb hw λ b4 w hw=>?_;have hw:Sat R (pts b4 (ZeH rows sg)::Hs) w:=hw;refine ⟨rows,sg,At.own (eqS hw) (by exact ⟨rfl,rfl,trivial⟩),?_⟩;refine (ZbM hg hw).use ?_;rintro _ w ⟨rfl,hw⟩;refine ⟨_,rfl,?_⟩;refine (Zmo hp hw).use ?_;rintro _ w ⟨t,rfl,hw⟩;have bad:¬ Zjs num rows grps parts->∀ {w},Sat R (Own t 3 (Zd (Z7 (ZaL rows grps) parts).1)::pts b4 (ZeH rows sg)::Hs) w->(¬ Zjs num rows grps parts/\Value.tuple #[.pointer none,.int .i64 1]=.tuple #[.pointer none,.int .i64 1]/\Sat R Hs w)\/
   (Zjs num rows grps parts/\∃ p,Value.tuple #[.pointer none,.int .i64 1]=.tuple #[.pointer (some ⟨p,0,none⟩),.int .i64 0]/\Sat R (Zl p (Zag num rows grps (Z7 (ZaL rows grps) parts).1)::Hs) w):=λ h w hw=>.inl ⟨h,rfl,hw.drop.drop⟩
 refine ⟨_,_,rfl,Br.d (λ h=>bad (λ h2=>by have:=h2.1;omega) hw) (λ h1=>Br.d (λ h=>bad (λ h2=>by have:=h2.2.1;omega) hw) (λ h2=>?_))⟩;refine ⟨rows,sg,At.own (eqS hw) (by exact ⟨rfl,rfl,trivial⟩),?_⟩;refine (ZdS hg hw).use ?_;rintro _ w ⟨rfl,hw⟩;refine ⟨_,rfl,Br.nb (λ h=>bad (λ h2=>by have h5:=h2.2.2.1;rw [h] at h5;cases h5) hw) (λ h3=>Br.ne (λ h=>bad (λ h2=>h h2.2.2.2) hw) (λ h4=>?_))⟩;refine ⟨sg,oA hw,?_⟩;obtain ⟨l1,_,_⟩:=Zab.1 h3;refine (ZeL hg (by omega) hw).use ?_;rintro _ w ⟨tg,rfl,hw⟩;refine ⟨tg,rfl,?_⟩;refine Za hw (by kernel_rfl) rfl (by simp [Value.cells]) λ w hw=>?_;have hw:Sat R (pts b4 (ZeH rows tg)::Own tg 3 (Zd grps)::Own t 3 (Zd (Z7 (ZaL rows grps) parts).1)::Hs) w:=hw;refine ⟨rows,tg,At.own (eqS hw) (by exact ⟨rfl,rfl,trivial⟩),?_⟩;have hw:Sat R (ZA tg (Zd grps)::ZA t (Zd (Z7 (ZaL rows grps) parts).1)::Hs) w:=Sat.cons (λ _ h=>Own.reads h) (Own.reads hw.drop);refine (ZiN (by have:=ZoL (s:=ZaL rows grps) (parts:=parts);omega) hw).use ?_;rintro _ w ⟨p,rfl,hw⟩;exact ⟨_,rfl,.inr ⟨⟨by omega,by omega,h3,h4⟩,p,rfl,hw⟩⟩
def Zbh (f:PF) (owner cls many:Int):PF × Int:=
 if owner<1\/owner>28629151 then (f,1) else if (ZH owner f.hs).isSome then (f,7)
 else if (Za5 f.lims f.sold cls many).2=0 then ({ f with sold:=(Za5 f.lims f.sold cls many).1,hs:=f.hs++[(owner,⟨owner,cls,many,[]⟩)] },0) else (f,(Za5 f.lims f.sold cls many).2)
theorem Zh7 {p:Nat} {f:PF} {owner cls many:Int} (hl:f.lims.length<=1000) (hs:f.sold.length<=1000) (hw:Sat R (Zl p f::Hs) w):
  Zm prog 112 #[.pointer (some ⟨p,0,none⟩),.int .i64 owner,.int .i64 cls,.int .i64 many] w λ v w'=>v=.int .i64 (Zbh f owner cls many).2/\Sat R (Zl p (Zbh f owner cls many).1::Hs) w':=by
 obtain ⟨hm,om,sg,sl,ss,E,R',hE,_,_,rl,rs,hw,back⟩:=Sat.flightO hw;have same:∀ {w},Sat R' (FO p hm om sg sl ss E f Hs) w->Sat R (Zl p f::Hs) w:=λ hw=>Sat.flightC hE (back _ _ hw);have eget:(ZH owner f.hs).isSome=(ZH owner E).isSome:=by rw [<-hE,Zbk,Option.isSome_map]
 apply ZxS;refine Zc.mk rfl ⟨some hm,oA hw,(ZH owner E).map (λ x=>⟨x.1,0,none⟩),(ZH owner E).isSome,λ w' e=>by rw [show w'=w from e];exact Zcq (hw.take (MapAt hm (ZS E))) owner true,?_⟩
 refine ⟨λ w=>(1<=owner/\owner<=28629151/\(ZH owner E).isSome=false)/\Sat R' (FO p hm om sg sl ss E f Hs) w,?_,?_⟩
 ·refine Br.d (λ h=>?_) (λ h1=>Br.d (λ h=>?_) (λ h2=>Br.mk (λ h=>?_) (λ h=>⟨⟨by omega,by omega,h⟩,hw⟩)))
  ·rw [show Zbh f owner cls many=(f,1) by unfold Zbh;rw [if_pos (.inl h)]];exact ⟨rfl,same hw⟩
  ·rw [show Zbh f owner cls many=(f,1) by unfold Zbh;rw [if_pos (.inr h)]];exact ⟨rfl,same hw⟩
  ·rw [show Zbh f owner cls many=(f,7) by unfold Zbh;rw [if_neg (by omega),if_pos (by rw [eget];exact h)]];exact ⟨rfl,same hw⟩
 clear hw;rintro _ w ⟨⟨h1,h2,h3⟩,hw⟩;have e:Zbh f owner cls many=if (Za5 f.lims f.sold cls many).2=0 then ({ f with sold:=(Za5 f.lims f.sold cls many).1,hs:=f.hs++[(owner,⟨owner,cls,many,[]⟩)] },0) else (f,(Za5 f.lims f.sold cls many).2):=by
  unfold Zbh;rw [if_neg (by omega),if_neg (by rw [eget,h3];simp)]
 rw [e];refine Zo hw λ w hw=>?_;refine Zc.mk rfl ⟨sl,oS,Zc.mk rfl ⟨ss,oS,?_⟩⟩;refine (ZpZ (rl.ro (by rw [List.length_map];omega)) (rs.ro (by rw [List.length_map];omega)) hw).use ?_;rintro _ w ⟨t,rfl,hw⟩;refine ⟨_,_,rfl,Br.e (λ h4=>?_) (λ h4=>?_)⟩
 ·rw [if_pos h4,h4]
  refine Zc.mk rfl ?_;refine Za hw (by kernel_rfl) rfl (by simp [Value.cells]) λ w hw=>?_;have hw:Sat R' (pts p (ZY f sg sl t hm om)::Own t 3 (Zd (Za5 f.lims f.sold cls many).1)::MapAt hm (ZS E)::MapAt om (Zbi f.own)::ZL E::Hs) w:=hw;refine Zc.mk rfl ⟨some hm,oA hw,?_⟩;refine Zb hw λ b w hw=>?_;have hw:Sat R' (pts b (Zx ⟨owner,cls,many,[]⟩ ⟨none,0,0⟩)::pts p (ZY f sg sl t hm om)::Own t 3 (Zd (Za5 f.lims f.sold cls many).1)::MapAt hm (ZS E)::MapAt om (Zbi f.own)::ZL E::Hs) w:=hw;refine MapAt.put ZAQ (hw.take (MapAt hm (ZS E))) owner (.pointer (some ⟨b,0,none⟩)) λ w hw=>⟨rfl,?_⟩;have ep:ZdZ owner (Value.pointer (some ⟨b,0,none⟩)) (ZS E)=ZS (E++[(owner,b,⟨owner,cls,many,[]⟩)]):=by
   unfold ZdZ;rw [Zhu,Option.isSome_map,h3];simp [ZS]
  rw [ep] at hw;have hw:=hw.take (ZL E);have hw:=hw.take (pts b (Zx ⟨owner,cls,many,[]⟩ ⟨none,0,0⟩));have hw:=(Sat.hold (b:=b) (h:=⟨owner,cls,many,[]⟩)).2 ⟨⟨none,0,0⟩,hw.cons λ _ h=>Own.nil (T:=3) h⟩;rw [<-List.append_nil E] at hw;have hw:=(Sat.holds (e:=((owner,b,⟨owner,cls,many,[]⟩):HE)) (a:=E) (b:=[])).2 hw;rw [List.append_nil] at hw;have hw:=hw.take (Own t 3 (Zd (Za5 f.lims f.sold cls many).1));have hw:=back _ _ (Own.reads hw);refine Sat.flight.2 ⟨hm,om,sg,sl,t,E++[(owner,b,⟨owner,cls,many,[]⟩)],by rw [<-hE];simp [hEr],?_⟩;have hw:=(hw.take (ZA ss (Zd f.sold))).drop;exact (((((hw.take (ZL (E++[(owner,b,⟨owner,cls,many,[]⟩)]))).take (MapAt om (Zbi f.own))).take (MapAt hm (ZS (E++[(owner,b,⟨owner,cls,many,[]⟩)])))).take (pts p (ZY f sg sl t hm om))).take (ZA t (Zd (Za5 f.lims f.sold cls many).1))).take (ZA sl (Zd f.lims))|>.take (ZA sg (Zd f.grps))
 ·rw [if_neg h4];exact ⟨rfl,same hw.drop⟩
end
section
open Go Go.VC Tryz
variable {R:Cx} {Hs Rest:List HP} {w:World}
abbrev FO1 (p hm om b:Nat) (sg sl ss s:Sl) (E Er:List HE) (f:PF) (h:ZD) (own:List (Int × Int)) (Hs:List HP):List HP:=
 pts b (Zx h s)::Own s 3 (Zd h.seats)::ZL Er::pts p (ZY f sg sl ss hm om)::MapAt hm (ZS E)::MapAt om (Zbi own)::Hs
theorem FO.open {p hm om b:Nat} {sg sl ss:Sl} {a c:List HE} {k:Int} {h:ZD} {f:PF} (hw:Sat R (FO p hm om sg sl ss (a++(k,b,h)::c) f Hs) w):∃ s,Sat R (FO1 p hm om b sg sl ss s (a++(k,b,h)::c) (a++c) f h f.own Hs) w:=
 Sat.hold.1 (Sat.holds.1 (hw.take (ZL (a++(k,b,h)::c))))
theorem FO.close {p hm om b:Nat} {sg sl ss s:Sl} {a c:List HE} {k:Int} {h h':ZD} {f:PF} {own:List (Int × Int)} (hw:Sat R (FO1 p hm om b sg sl ss s (a++(k,b,h)::c) (a++c) f h' own Hs) w):
  Sat R (FO p hm om sg sl ss (a++(k,b,h')::c) { f with own:=own } Hs) w:=by
 have hw:=(Sat.hold (b:=b) (h:=h')).2 ⟨s,hw⟩;have hw:=(Sat.holds (e:=((k,b,h'):HE)) (a:=a) (b:=c)).2 hw;have e:ZS (a++(k,b,h')::c)=ZS (a++(k,b,h)::c):=by simp [ZS]
 show Sat R (pts p (ZY f sg sl ss hm om)::MapAt hm (ZS (a++(k,b,h')::c))::MapAt om (Zbi own)::ZL (a++(k,b,h')::c)::Hs) w;rw [e];exact ((hw.take (MapAt om (Zbi own))).take (MapAt hm (ZS (a++(k,b,h)::c)))).take (pts p (ZY f sg sl ss hm om))
theorem Zr6 {p hm om:Nat} {sg sl ss:Sl} {E:List HE} {f:PF} {owner:Int} {lab:ByteArray} (hg:RoI R sg f.grps) (hsz:lab.size<=9223372036854775807) (hw:Sat R (FO p hm om sg sl ss E f Hs) w):
  Zm prog 186 #[.pointer (some ⟨p,0,none⟩),.int .i64 owner,.string lab] w λ v w'=>
   v=.tuple #[.pointer ((ZH owner E).map λ x=>⟨x.1,0,none⟩),.int .i64 (Zbe f.rows f.grps lab).1,.bool ((ZH owner E).isSome && (Zbe f.rows f.grps lab).2==0)]/\Sat R (FO p hm om sg sl ss E f Hs) w':=by
 apply Zw0;refine Zc.mk rfl ⟨some hm,oA hw,(ZH owner E).map (λ x=>⟨x.1,0,none⟩),(ZH owner E).isSome,λ w' e=>by rw [show w'=w from e];exact Zcq (hw.take (MapAt hm (ZS E))) owner true,?_⟩
 refine Zc.mk rfl ⟨f.rows,sg,At.own (eqS hw) (by exact ⟨rfl,rfl,trivial⟩),?_⟩;refine (Zry hg hsz hw).use ?_;rintro _ w ⟨rfl,hw⟩;refine ⟨_,_,rfl,Br.mk (λ h=>⟨?_,hw⟩) (λ h=>⟨?_,hw⟩)⟩
 ·rw [h];rfl
 ·rw [h];rfl
def Zew (f:PF) (owner:Int) (lab:ByteArray):PF × Int:=
 match ZH owner f.hs with
 |none=>(f,2)
 |some h=>if (Zbe f.rows f.grps lab).2≠0 then (f,2) else if (h.seats.length:Int) >= h.many then (f,7)
  else if (ZH (Zbe f.rows f.grps lab).1 f.own).isSome then (f,3)
  else ({ f with hs:=ZeO owner (h.put (Zbe f.rows f.grps lab).1) f.hs,own:=ZdZ (Zbe f.rows f.grps lab).1 h.owner f.own },0)
theorem Zcr (a:List HE) (k:Int) (b:Nat) (h:ZD) (c:List HE):hEr (a++(k,b,h)::c)=hEr a++(k,h)::hEr c:=by simp [hEr]
theorem ZeJ (k:Int):(k==k)=true:=beq_self_eq_true k
theorem Zom {p:Nat} {f:PF} {owner:Int} {lab:ByteArray} (hgl:f.grps.length<=1000) (hsz:lab.size<=9223372036854775807) (hR:∀ e∈f.hs,Zpq e.2.seats/\e.2.seats.length<=1000000) (hw:Sat R (Zl p f::Hs) w):
  Zm prog 117 #[.pointer (some ⟨p,0,none⟩),.int .i64 owner,.string lab] w λ v w'=>v=.int .i64 (Zew f owner lab).2/\Sat R (Zl p (Zew f owner lab).1::Hs) w':=by
 obtain ⟨hm,om,sg,sl,ss,E,R',hE,_,rg,_,_,hw,back⟩:=Sat.flightO hw;have same:∀ {w},Sat R' (FO p hm om sg sl ss E f Hs) w->Sat R (Zl p f::Hs) w:=λ hw=>Sat.flightC hE (back _ _ hw);apply ZxN;refine (Zr6 (rg.ro (by rw [List.length_map];omega)) hsz hw).use ?_;clear hw;rintro _ w ⟨rfl,hw⟩;refine ⟨_,_,_,rfl,Zc.mk rfl ⟨some om,oA hw,(ZH (Zbe f.rows f.grps lab).1 f.own).getD 0,(ZH (Zbe f.rows f.grps lab).1 f.own).isSome,λ w' e=>by rw [show w'=w from e];exact Zni (hw.take (MapAt om (Zbi f.own))) _ true,?_⟩⟩
 cases hget:ZH owner E with
 |none=>
  have e:Zew f owner lab=(f,2):=by unfold Zew;rw [<-hE,Zbk,hget];rfl
  rw [e];exact Br.t rfl ⟨rfl,same hw⟩
 |some x=>
  obtain ⟨b,h⟩:=x;have hgf:ZH owner f.hs=some h:=by rw [<-hE,Zbk,hget];rfl
  obtain ⟨a,c,rfl,hna⟩:=Zan hget;obtain ⟨hr,hl⟩:=hR (owner,h) (by rw [<-hE,Zcr];simp);by_cases h2:(Zbe f.rows f.grps lab).2=0
  ·refine Br.f (by rw [h2];rfl) ?_
   obtain ⟨s,hw⟩:=FO.open hw;have hsl:=Own.len (hw.take (Own s 3 (Zd h.seats)));rw [List.length_map] at hsl;refine Zo hw λ w hw=>?_;refine Zc.mk rfl ⟨s,oS,Zc.mk rfl ⟨h.many,oS,?_⟩⟩;refine Br.d (λ h3=>?_) (λ h3=>?_)
   ·have e:Zew f owner lab=(f,7):=by unfold Zew;rw [hgf];dsimp only;rw [if_neg (by rw [h2];simp),if_pos (by omega)]
    rw [e];exact ⟨rfl,same (FO.close hw)⟩
   ·refine Br.mk (λ h4=>?_) (λ h4=>?_)
    ·have e:Zew f owner lab=(f,3):=by unfold Zew;rw [hgf];dsimp only;rw [if_neg (by rw [h2];simp),if_neg (by omega),if_pos h4]
     rw [e];exact ⟨rfl,same (FO.close hw)⟩
    ·have e:Zew f owner lab=({ f with hs:=ZeO owner (h.put (Zbe f.rows f.grps lab).1) f.hs,own:=ZdZ (Zbe f.rows f.grps lab).1 h.owner f.own },0):=by
      unfold Zew;rw [hgf];dsimp only;rw [if_neg (by rw [h2];simp),if_neg (by omega),if_neg (by rw [h4];simp)]
     rw [e];have hw:Sat R' (FO p hm om sg sl ss (a++(owner,b,h)::c) f Hs) w:=FO.close hw;refine (ZgQ hr (by omega) hw).use ?_;rintro _ w ⟨rfl,hw⟩;refine ⟨rfl,rfl,?_⟩;refine Sat.flight.2 ⟨hm,om,sg,sl,ss,a++(owner,b,h.put (Zbe f.rows f.grps lab).1)::c,?_,back _ _ hw⟩;show _=ZeO owner _ f.hs;rw [<-hE,Zcr,Zcr,ZeV (by rw [Zbk,hna];rfl) (ZeJ owner)]
  ·have e:Zew f owner lab=(f,2):=by unfold Zew;rw [hgf];dsimp only;rw [if_pos h2]
   rw [e];exact Br.t (by simp [h2]) ⟨rfl,same hw⟩
end
section
open Go Go.VC Tryz
variable {R:Cx} {Hs Rest:List HP} {w:World}
def ZeI (f:PF) (owner:Int):List ByteArray:=match ZH owner f.hs with|none=>[]|some h=>ZdD f.rows f.grps h.seats
theorem Zlm {p:Nat} {f:PF} {owner:Int} (hgl:f.grps.length<=1000) (hR:∀ e∈f.hs,e.2.seats.length<=1000000) (hw:Sat R (Zl p f::Hs) w):
  Zm prog 130 #[.pointer (some ⟨p,0,none⟩),.int .i64 owner] w λ v w'=>∃ t:Sl,v=.slice t.a t.len t.cap/\Sat R (Own t 9 ((ZeI f owner).map Value.string)::Zl p f::Hs) w':=by
 obtain ⟨hm,om,sg,sl,ss,E,R',hE,_,rg,_,_,hw,back⟩:=Sat.flightO hw;apply ZxE;refine Zc.mk rfl ⟨some hm,oA hw,(ZH owner E).map (λ x=>⟨x.1,0,none⟩),(ZH owner E).isSome,λ w' e=>by rw [show w'=w from e];exact Zcq (hw.take (MapAt hm (ZS E))) owner true,?_⟩
 cases hget:ZH owner E with
 |none=>
  have e:ZeI f owner=[]:=by unfold ZeI;rw [<-hE,Zbk,hget];rfl
  rw [e];exact Br.t rfl ⟨⟨none,0,0⟩,rfl,Own.nil (Sat.flightC hE (back _ _ hw))⟩
 |some x=>
  obtain ⟨b,h⟩:=x;have hgf:ZH owner f.hs=some h:=by rw [<-hE,Zbk,hget];rfl
  have e:ZeI f owner=ZdD f.rows f.grps h.seats:=by unfold ZeI;rw [hgf]
  rw [e];obtain ⟨a,c,rfl,hna⟩:=Zan hget;have hl:h.seats.length<=1000000:=hR (owner,h) (by rw [<-hE,Zcr];simp);refine Br.f rfl (Zc.mk rfl ?_);obtain ⟨s,hw⟩:=FO.open hw;refine ⟨s,oA hw,?_⟩;obtain ⟨R2,hro,hmono,hw2,back2⟩:=Own.lend (hw.take (Own s 3 (Zd h.seats))) (by rw [List.length_map];omega);refine (Zhp (f:=f) (hm:=hm) (om:=om) (sg:=sg) (sl:=sl) (ss:=ss) (hmono _ _ (rg.ro (by rw [List.length_map];omega))) hro hl hw2).use ?_;clear hw hw2;rintro _ w ⟨t,rfl,hw⟩;refine ⟨t,rfl,t,rfl,?_⟩;have hw:=(back2 hw).swap;have hw:=back _ _ (Sat.cons (λ _ h5=>FO.close (f:=f) (h5.take (pts b (Zx h s)))) hw);exact Sat.cons (λ _ h5=>Sat.flightC hE h5) (hw.take (Own t 9 ((ZdD f.rows f.grps h.seats).map Value.string)))
end
section
open Go Go.VC Tryz
variable {R:Cx} {Hs Rest:List HP} {w:World}
def ZiA (f:PF):List Int:=(List.range f.lims.length).map λ (k:Nat)=>(ZaW f.lims f.sold k).1
def ZbJ (f:PF) (j:Nat):List Int:=(List.range f.lims.length).map λ (k:Nat)=>if k<j then (ZaW f.lims f.sold k).1 else 0
theorem Zmp (f:PF) {j:Nat} (h:j<f.lims.length):(ZbJ f j).set j (ZaW f.lims f.sold j).1=ZbJ f (j + 1):=by
 apply List.ext_getElem
 ·simp [ZbJ]
 ·intro i h1 h2
  simp only [ZbJ,List.length_set,List.length_map,List.length_range] at h1 h2;rw [List.getElem_set];simp only [ZbJ,List.getElem_map,List.getElem_range];split
  ·rename_i h3;subst h3;rw [if_pos (by omega)]
  ·by_cases h4:i<j
   ·rw [if_pos h4,if_pos (by omega)]
   ·rw [if_neg h4,if_neg (by omega)]
theorem ZoQ {p:Nat} {f:PF} (hl:f.lims.length<=1000) (hs:f.sold.length<=1000) (hw:Sat R (Zl p f::Hs) w):
  Zm prog 58 #[.pointer (some ⟨p,0,none⟩)] w λ v w'=>∃ t:Sl,v=.slice t.a t.len t.cap/\Sat R (Own t 3 (Zd (ZiA f))::Zl p f::Hs) w':=by
 obtain ⟨hm,om,sg,sl,ss,E,R',hE,_,_,rl,rs,hw,back⟩:=Sat.flightO hw;have hsl:sl.len=f.lims.length:=by have:=rl.len;rw [List.length_map] at this;exact this
 apply Zza;refine Zc.mk rfl ⟨sl,oA hw,?_⟩;rw [hsl];refine Zc7 hl hw λ t w hw=>?_;have e0:List.replicate f.lims.length (0:Int)=ZbJ f 0:=by
  apply List.ext_getElem
  ·simp [ZbJ]
  ·intro i h1 h2;simp [ZbJ]
 rw [e0] at hw;refine ⟨λ i w=>∃ j:Nat,i=j/\j<=f.lims.length/\Sat R' (Own t 3 (Zd (ZbJ f j))::FO p hm om sg sl ss E f Hs) w,λ i _=>f.lims.length - i.toNat,⟨0,rfl,by omega,hw⟩,?_⟩;clear hw;rintro _ _ w ⟨j,rfl,hj,hw⟩;have htl:=Own.len hw;simp only [ZbJ,List.length_map,List.length_range] at htl;refine Br.d (λ h=>?_) (λ h=>?_)
 ·have hj2:j<f.lims.length:=by omega
  refine Zo hw λ w hw=>?_;refine Zc.mk rfl ⟨sl,oS,Zc.mk rfl ⟨ss,oS,?_⟩⟩;refine (Zhn (rl.ro (by rw [List.length_map];omega)) (rs.ro (by rw [List.length_map];omega)) hw).use ?_;rintro _ w ⟨rfl,hw⟩;refine ⟨_,_,rfl,?_⟩;refine Own.store (by kernel_rfl) hw (by simp [ZbJ];exact hj2) λ w hw=>?_;rw [Zmp f hj2] at hw;rw [Zh (by omega) (by omega)];exact ⟨⟨j + 1,by omega,by omega,hw⟩,by dsimp only;omega⟩
 ·obtain rfl:j=f.lims.length:=by omega
  have e1:ZbJ f f.lims.length=ZiA f:=by
   unfold ZbJ ZiA;refine List.map_congr_left λ k hk=>?_;rw [if_pos (List.mem_range.1 hk)]
  rw [e1] at hw;refine ⟨t,rfl,?_⟩;have hw:=back _ _ hw;exact Sat.cons (λ _ h5=>Sat.flightC hE h5) (hw.take (Own t 3 (Zd (ZiA f))))
def Zb5 (l:List Int) (own:List (Int × Int)):List (Int × Int):=l.foldl (λ o n=>Zfj n o) own
def ZjO (f:PF) (owner:Int):PF × Int:=
 match ZH owner f.hs with
 |none=>(f,2)
 |some h=>({ f with own:=Zb5 h.seats f.own,sold:=(Zfp f.lims f.sold h.cls h.many).1,hs:=Zfj owner f.hs },0)
theorem ZoX {p:Nat} {f:PF} {owner:Int} (hll:f.lims.length<=1000) (hls:f.sold.length<=1000) (hR:∀ e∈f.hs,e.2.seats.length<=1000000) (hw:Sat R (Zl p f::Hs) w):
  Zm prog 115 #[.pointer (some ⟨p,0,none⟩),.int .i64 owner] w λ v w'=>v=.int .i64 (ZjO f owner).2/\Sat R (Zl p (ZjO f owner).1::Hs) w':=by
 obtain ⟨hm,om,sg,sl,ss,E,R',hE,_,_,rl,rs,hw,back⟩:=Sat.flightO hw;apply ZxP;refine Zc.mk rfl ⟨some hm,oA hw,(ZH owner E).map (λ x=>⟨x.1,0,none⟩),(ZH owner E).isSome,λ w' e=>by rw [show w'=w from e];exact Zcq (hw.take (MapAt hm (ZS E))) owner true,?_⟩
 cases hget:ZH owner E with
 |none=>
  have e:ZjO f owner=(f,2):=by unfold ZjO;rw [<-hE,Zbk,hget];rfl
  rw [e];exact Br.t rfl ⟨rfl,Sat.flightC hE (back _ _ hw)⟩
 |some x=>
  obtain ⟨b,h⟩:=x;have hgf:ZH owner f.hs=some h:=by rw [<-hE,Zbk,hget];rfl
  have e:ZjO f owner=({ f with own:=Zb5 h.seats f.own,sold:=(Zfp f.lims f.sold h.cls h.many).1,hs:=Zfj owner f.hs },0):=by unfold ZjO;rw [hgf]
  rw [e];obtain ⟨a,c,rfl,hna⟩:=Zan hget;have hl:h.seats.length<=1000000:=hR (owner,h) (by rw [<-hE,Zcr];simp);refine Br.f rfl (Zc.mk rfl ?_);obtain ⟨s,hw⟩:=FO.open hw;have hsl:=Own.len (hw.take (Own s 3 (Zd h.seats)));rw [List.length_map] at hsl;refine ⟨s,oA hw,?_⟩;refine ⟨λ i w=>∃ j:Nat,i=j/\j<=h.seats.length/\Sat R' (FO1 p hm om b sg sl ss s (a++(owner,b,h)::c) (a++c) f h (Zb5 (h.seats.take j) f.own) Hs) w,λ i _=>h.seats.length - i.toNat,⟨0,rfl,by omega,hw⟩,?_⟩;clear hw;rintro _ _ w ⟨j,rfl,hj,hw⟩;refine Br.d (λ h2=>?_) (λ h2=>?_)
  ·have hj2:j<h.seats.length:=by omega
   refine Own.ix (hw.take (Own s 3 (Zd h.seats))) (eqS (hw.take (Own s 3 (Zd h.seats)))) j rfl hj2 ?_;refine Zc.mk rfl ⟨some om,oA hw,?_⟩;refine MapAt.del ZAM (hw.take (MapAt om (Zbi (Zb5 (h.seats.take j) f.own)))) h.seats[j] λ w hw=>?_;rw [ZnO (Value.int .i64) h.seats[j] (Zb5 (h.seats.take j) f.own)] at hw;have ed:Zfj h.seats[j] (Zb5 (h.seats.take j) f.own)=Zb5 (h.seats.take (j + 1)) f.own:=by
    unfold Zb5;rw [List.take_add_one,List.getElem?_eq_getElem hj2,Option.toList_some,List.foldl_append];rfl
   rw [ed] at hw;rw [Zh (by omega) (by omega)];refine ⟨⟨j + 1,by omega,by omega,?_⟩,by dsimp only;omega⟩;exact ((((hw.take (MapAt hm (ZS (a++(owner,b,h)::c)))).take (pts p (ZY f sg sl ss hm om))).take (ZL (a++c))).take (Own s 3 (Zd h.seats))).take (pts b (Zx h s))
  ·rw [List.take_of_length_le (by omega)] at hw
   refine Zo hw λ w hw=>?_;refine Zc.mk rfl ⟨sl,oS,Zc.mk rfl ⟨ss,oS,Zc.mk rfl ⟨h.cls,oS,Zc.mk rfl ⟨h.many,oS,?_⟩⟩⟩⟩;refine (Zsm (rl.ro (by rw [List.length_map];omega)) (rs.ro (by rw [List.length_map];omega)) hw).use ?_;rintro _ w ⟨t,rfl,hw⟩;refine ⟨_,_,rfl,Zc.mk rfl ?_⟩;refine Za hw (by kernel_rfl) rfl (by simp [Value.cells]) λ w hw=>?_;have hw:Sat R' (pts p (ZY f sg sl t hm om)::Own t 3 (Zd (Zfp f.lims f.sold h.cls h.many).1)::pts b (Zx h s)::Own s 3 (Zd h.seats)::ZL (a++c)::MapAt hm (ZS (a++(owner,b,h)::c))::MapAt om (Zbi (Zb5 h.seats f.own))::Hs) w:=hw;refine Zc.mk rfl ⟨some hm,oA hw,?_⟩;refine MapAt.del ZAQ (hw.take (MapAt hm (ZS (a++(owner,b,h)::c)))) owner λ w hw=>⟨rfl,?_⟩;have ep:Zfj owner (ZS (a++(owner,b,h)::c))=ZS (a++c):=by
    rw [show ZS (a++(owner,b,h)::c)=ZS a++(owner,Value.pointer (some ⟨b,0,none⟩))::ZS c by simp [ZS],Zfi (by rw [Zhu,hna];rfl) (ZeJ owner)];simp [ZS]
   rw [ep] at hw;have hw:=(hw.take (pts b (Zx h s))).drop;have hw:=(hw.take (Own s 3 (Zd h.seats))).drop;have hw:=hw.take (Own t 3 (Zd (Zfp f.lims f.sold h.cls h.many).1));have hw:=back _ _ (Own.reads hw);have hw:=(hw.take (ZA ss (Zd f.sold))).drop;refine Sat.flight.2 ⟨hm,om,sg,sl,t,a++c,?_,?_⟩
   ·show _=Zfj owner f.hs
    rw [<-hE,Zcr,Zfi (by rw [Zbk,hna];rfl) (ZeJ owner)];simp [hEr]
   ·exact (((((hw.take (ZL (a++c))).take (MapAt om (Zbi (Zb5 h.seats f.own)))).take (MapAt hm (ZS (a++c)))).take (pts p (ZY f sg sl t hm om))).take (ZA t (Zd (Zfp f.lims f.sold h.cls h.many).1))).take (ZA sl (Zd f.lims))|>.take (ZA sg (Zd f.grps))
end
end Go.Proofs.YtfgbbckfikiomaaGreatDoor
namespace Go.Proofs
section
open Go.Shelf
def Tryz.sorted50_ren:Go.Shelf.Ren:=⟨λ|6=>50|8=>121|9=>122|11=>194|13=>196|12=>195|23=>252|24=>193|14=>243|15=>244|16=>245|17=>246|18=>247|19=>248|20=>249|21=>250|22=>251|25=>268|26=>269|27=>270|28=>271|29=>272|30=>259|31=>279|n=>n,λ|26=>3|28=>97|24=>28|0=>0|3=>3|37=>233|48=>274|50=>134|4=>4|40=>267|39=>266|45=>216|5=>5|9=>9|51=>280|55=>284|57=>288|58=>263|33=>158|n=>n,λ|n=>n⟩
theorem Tryz.sorted50:Go.Proofs.SlLaysZI.n6 Tryz.prog Tryz.sorted50_ren:={
  mixed:=by kernel_rfl
  f6:=⟨Tryz.f50.name,by decide,Tryz.func50.trans (congrArg some (by kernel_rfl))⟩
  f8:=⟨Tryz.f121.name,by decide,Tryz.func121.trans (congrArg some (by kernel_rfl))⟩
  f11:=⟨Tryz.f194.name,by decide,Tryz.func194.trans (congrArg some (by kernel_rfl))⟩
  t0:=Tryz.underlying0
  a0:=Tryz.isAgg0
  z0:=Tryz.sizeOf0
  v0:=Tryz.zeroValue0
  t24:=Tryz.underlying28
  a24:=Tryz.isAgg28
  z24:=Tryz.sizeOf28
  v24:=Tryz.zeroValue28
  t26:=Tryz.underlying3
  a26:=Tryz.isAgg3
  z26:=Tryz.sizeOf3
  v26:=Tryz.zeroValue3
  t28:=Tryz.underlying97
  a28:=Tryz.isAgg97
  z28:=Tryz.sizeOf97
  v28:=Tryz.zeroValue97
  i26:=by kernel_rfl }
def Tryz.sort122_ren:Go.Shelf.Ren:=⟨λ|5=>122|8=>196|7=>195|19=>252|20=>193|10=>243|11=>244|12=>245|13=>246|14=>247|15=>248|16=>249|17=>250|18=>251|30=>268|31=>269|32=>270|33=>271|34=>272|35=>259|40=>279|n=>n,λ|23=>28|25=>3|3=>3|32=>233|22=>28|0=>0|44=>274|46=>134|4=>4|36=>267|35=>266|41=>216|5=>5|9=>9|53=>280|57=>284|63=>288|64=>263|n=>n,λ|n=>n⟩
theorem Tryz.sort122:Go.Proofs.SlLaysM.n5 Tryz.prog Tryz.sort122_ren:={
  mixed:=by kernel_rfl
  f5:=⟨Tryz.f122.name,by decide,Tryz.func122.trans (congrArg some (by kernel_rfl))⟩
  f7:=⟨Tryz.f195.name,by decide,Tryz.func195.trans (congrArg some (by kernel_rfl))⟩
  f8:=Tryz.func196.trans (congrArg some (by kernel_rfl))
  f10:=⟨Tryz.f243.name,by decide,Tryz.func243.trans (congrArg some (by kernel_rfl))⟩
  f11:=⟨Tryz.f244.name,by decide,Tryz.func244.trans (congrArg some (by kernel_rfl))⟩
  f12:=⟨Tryz.f245.name,by decide,Tryz.func245.trans (congrArg some (by kernel_rfl))⟩
  f13:=⟨Tryz.f246.name,by decide,Tryz.func246.trans (congrArg some (by kernel_rfl))⟩
  f14:=⟨Tryz.f247.name,by decide,Tryz.func247.trans (congrArg some (by kernel_rfl))⟩
  f15:=⟨Tryz.f248.name,by decide,Tryz.func248.trans (congrArg some (by kernel_rfl))⟩
  f16:=⟨Tryz.f249.name,by decide,Tryz.func249.trans (congrArg some (by kernel_rfl))⟩
  f17:=⟨Tryz.f250.name,by decide,Tryz.func250.trans (congrArg some (by kernel_rfl))⟩
  f18:=⟨Tryz.f251.name,by decide,Tryz.func251.trans (congrArg some (by kernel_rfl))⟩
  f19:=Tryz.func252.trans (congrArg some (by kernel_rfl))
  f20:=Tryz.func193.trans (congrArg some (by kernel_rfl))
  f30:=⟨Tryz.f268.name,by decide,Tryz.func268.trans (congrArg some (by kernel_rfl))⟩
  f31:=Tryz.func269.trans (congrArg some (by kernel_rfl))
  f32:=Tryz.func270.trans (congrArg some (by kernel_rfl))
  f33:=⟨Tryz.f271.name,by decide,Tryz.func271.trans (congrArg some (by kernel_rfl))⟩
  f34:=⟨Tryz.f272.name,by decide,Tryz.func272.trans (congrArg some (by kernel_rfl))⟩
  f35:=⟨Tryz.f259.name,by decide,Tryz.func259.trans (congrArg some (by kernel_rfl))⟩
  f40:=⟨Tryz.f279.name,by decide,Tryz.func279.trans (congrArg some (by kernel_rfl))⟩
  t0:=Tryz.underlying0
  a0:=Tryz.isAgg0
  z0:=Tryz.sizeOf0
  v0:=Tryz.zeroValue0
  t3:=Tryz.underlying3
  a3:=Tryz.isAgg3
  z3:=Tryz.sizeOf3
  v3:=Tryz.zeroValue3
  t4:=Tryz.underlying4
  a4:=Tryz.isAgg4
  z4:=Tryz.sizeOf4
  v4:=Tryz.zeroValue4
  t5:=Tryz.underlying5
  a5:=Tryz.isAgg5
  z5:=Tryz.sizeOf5
  v5:=Tryz.zeroValue5
  t9:=Tryz.underlying9
  a9:=Tryz.isAgg9
  z9:=Tryz.sizeOf9
  v9:=Tryz.zeroValue9
  t22:=Tryz.underlying28
  a22:=Tryz.isAgg28
  z22:=Tryz.sizeOf28
  v22:=Tryz.zeroValue28
  t23:=Tryz.underlying28
  a23:=Tryz.isAgg28
  z23:=Tryz.sizeOf28
  v23:=Tryz.zeroValue28
  t25:=Tryz.underlying3
  a25:=Tryz.isAgg3
  z25:=Tryz.sizeOf3
  v25:=Tryz.zeroValue3
  t32:=Tryz.underlying233
  a32:=Tryz.isAgg233
  z32:=Tryz.sizeOf233
  v32:=Tryz.zeroValue233
  t35:=Tryz.underlying266
  a35:=Tryz.isAgg266
  z35:=Tryz.sizeOf266
  v35:=Tryz.zeroValue266
  t36:=Tryz.underlying267
  a36:=Tryz.isAgg267
  z36:=Tryz.sizeOf267
  v36:=Tryz.zeroValue267
  t41:=Tryz.underlying216
  a41:=Tryz.isAgg216
  z41:=Tryz.sizeOf216
  v41:=Tryz.zeroValue216
  t44:=Tryz.underlying274
  a44:=Tryz.isAgg274
  z44:=Tryz.sizeOf274
  v44:=Tryz.zeroValue274
  t46:=Tryz.underlying134
  a46:=Tryz.isAgg134
  z46:=Tryz.sizeOf134
  v46:=Tryz.zeroValue134
  t53:=Tryz.underlying280
  a53:=Tryz.isAgg280
  z53:=Tryz.sizeOf280
  v53:=Tryz.zeroValue280
  t57:=Tryz.underlying284
  a57:=Tryz.isAgg284
  z57:=Tryz.sizeOf284
  v57:=Tryz.zeroValue284
  t63:=Tryz.underlying288
  a63:=Tryz.isAgg288
  z63:=Tryz.sizeOf288
  v63:=Tryz.zeroValue288
  t64:=Tryz.underlying263
  a64:=Tryz.isAgg263
  z64:=Tryz.sizeOf263
  v64:=Tryz.zeroValue263 }
open Go.RowKit Go.Maps Go.Sort Go.Shelf in
theorem Tryz.sorts50 (m:Nat):AnyZI.SortsIn Tryz.prog Tryz.sorted50_ren Fence.wide m:=
  ⟨λ blk off cap ss W hH hblk hsz=>callsIn_wide.2 (AnyM.slices_Sort_int Tryz.sort122 blk off cap ss W hH hblk hsz),
   λ p cap W=>callsIn_wide.2 (AnyM.slices_Sort_int_none Tryz.sort122 p cap W)⟩
def Tryz.collect121_ren:Go.Shelf.Ren:=⟨λ|8=>121|11=>194|n=>n,λ|26=>3|28=>97|24=>28|0=>0|33=>158|4=>4|n=>n,λ|n=>n⟩
theorem Tryz.collect121:Go.Proofs.SlLaysZI.n8 Tryz.prog Tryz.collect121_ren:={
  mixed:=by kernel_rfl
  f8:=⟨Tryz.f121.name,by decide,Tryz.func121.trans (congrArg some (by kernel_rfl))⟩
  f11:=⟨Tryz.f194.name,by decide,Tryz.func194.trans (congrArg some (by kernel_rfl))⟩
  t0:=Tryz.underlying0
  a0:=Tryz.isAgg0
  z0:=Tryz.sizeOf0
  v0:=Tryz.zeroValue0
  t24:=Tryz.underlying28
  a24:=Tryz.isAgg28
  z24:=Tryz.sizeOf28
  v24:=Tryz.zeroValue28
  t26:=Tryz.underlying3
  a26:=Tryz.isAgg3
  z26:=Tryz.sizeOf3
  v26:=Tryz.zeroValue3
  t28:=Tryz.underlying97
  a28:=Tryz.isAgg97
  z28:=Tryz.sizeOf97
  v28:=Tryz.zeroValue97
  i26:=by kernel_rfl }
def Tryz.keys171_ren:Go.Shelf.Ren:=⟨λ|7=>171|10=>223|n=>n,λ|23=>171|26=>3|3=>207|28=>97|0=>0|27=>96|33=>158|4=>4|n=>n,λ|n=>n⟩
theorem Tryz.keys171:Go.Proofs.SlLaysZI.n7 Tryz.prog Tryz.keys171_ren:={
  mixed:=by kernel_rfl
  f7:=⟨Tryz.f171.name,by decide,Tryz.func171.trans (congrArg some (by kernel_rfl))⟩
  f10:=⟨Tryz.f223.name,by decide,Tryz.func223.trans (congrArg some (by kernel_rfl))⟩
  t0:=Tryz.underlying0
  a0:=Tryz.isAgg0
  z0:=Tryz.sizeOf0
  v0:=Tryz.zeroValue0
  t4:=Tryz.underlying4
  a4:=Tryz.isAgg4
  z4:=Tryz.sizeOf4
  v4:=Tryz.zeroValue4
  t23:=Tryz.underlying171
  a23:=Tryz.isAgg171
  z23:=Tryz.sizeOf171
  v23:=Tryz.zeroValue171
  t26:=Tryz.underlying3
  a26:=Tryz.isAgg3
  z26:=Tryz.sizeOf3
  v26:=Tryz.zeroValue3
  t27:=Tryz.underlying96
  a27:=Tryz.isAgg96
  z27:=Tryz.sizeOf96
  v27:=Tryz.zeroValue96
  t28:=Tryz.underlying97
  a28:=Tryz.isAgg97
  z28:=Tryz.sizeOf97
  v28:=Tryz.zeroValue97
  t33:=Tryz.underlying158
  a33:=Tryz.isAgg158
  z33:=Tryz.sizeOf158
  v33:=Tryz.zeroValue158 }
open Go.RowKit Go.Maps Go.Sort Go.Shelf in
theorem Tryz.maps_Keys_171 (mb:Option Nat) (W:World):CallsIn Fence.wide 5 Tryz.prog 171 #[.map mb] W λ e w'=>e=.returned (.func (.func 223) #[] #[.pointer (some ⟨W.heap.size,0,none⟩)])/\w'=W.alloc (.cells #[.map mb] 171):=
  AnyZI.keys_in Tryz.keys171 Fence.wide 5 trivial rfl mb W
open Go.RowKit Go.Maps Go.Sort Go.Shelf in
theorem Tryz.slices_Sorted_keys_50_171 {H:Type} (b nn:Nat) (D0:DataW H) (R:Value->Option (DataW H × List MemPlace)) (w:World) (hown:w.ownsMap Tryz.prog 3 R b nn D0) (hmax:Maps.size D0<=maxLen) (hbytes:Maps.size D0 * 8<=140737488355328):
    CallsIn Fence.wide 5 Tryz.prog 50 #[.func (.func 223) #[] #[.pointer (some ⟨w.heap.size,0,none⟩)]] (w.alloc (.cells #[.map (some b)] 171)) λ e w'=>∃ (v:Value) (ss:List Int),e=.returned v/\ss.Perm (intKeys D0)/\
      w'.ownsRow (w.alloc (.cells #[.map (some b)] 171)).heap.size 3 1 v ss.length ((ss.mergeSort (λ x y=>decide (x<=y))).map encZ)/\(v=.slice none 0 0↔ss=[])/\Below (w.alloc (.cells #[.map (some b)] 171)).heap.size (w.alloc (.cells #[.map (some b)] 171)) w':=by
  have hbl:=hown.lt;have hseq:SeqGives Fence.wide 2 Tryz.prog 223 #[.pointer (some ⟨w.heap.size,0,none⟩)] encZ (λ ss=>ss.Perm (intKeys D0)) (Maps.size D0) (w.alloc (.cells #[.map (some b)] 171)):=
    AnyZI.keys_gives (ρ:=Tryz.keys171_ren) { Tryz.keys171 with } Fence.wide _ trivial rfl (by omega) w.heap.size b nn D0 _ (by simp) (by simp) (by
      obtain ⟨es,clock,hb,Ft,hs,hD⟩:=hown;exact ⟨es,clock,(Below.heap_alloc _ _ b hbl).trans hb,Ft,hs,hD⟩)
  exact AnyZI.sorted_in Tryz.sorted50 Fence.wide 5 trivial trivial trivial trivial rfl (by omega) (Tryz.sorts50 _) (enters_of Tryz.func122 (by kernel_rfl) rfl) 223 #[.pointer (some ⟨w.heap.size,0,none⟩)] trivial (enters_of Tryz.func223 (by kernel_rfl) rfl) _ _ hmax hbytes _ hseq
def Tryz.keys55_ren:Go.Shelf.Ren:=⟨λ|7=>55|10=>128|n=>n,λ|23=>78|26=>3|3=>86|28=>97|0=>0|27=>96|33=>158|4=>4|n=>n,λ|n=>n⟩
theorem Tryz.keys55:Go.Proofs.SlLaysZI.n7 Tryz.prog Tryz.keys55_ren:={
  mixed:=by kernel_rfl
  f7:=⟨Tryz.f55.name,by decide,Tryz.func55.trans (congrArg some (by kernel_rfl))⟩
  f10:=⟨Tryz.f128.name,by decide,Tryz.func128.trans (congrArg some (by kernel_rfl))⟩
  t0:=Tryz.underlying0
  a0:=Tryz.isAgg0
  z0:=Tryz.sizeOf0
  v0:=Tryz.zeroValue0
  t4:=Tryz.underlying4
  a4:=Tryz.isAgg4
  z4:=Tryz.sizeOf4
  v4:=Tryz.zeroValue4
  t23:=Tryz.underlying78
  a23:=Tryz.isAgg78
  z23:=Tryz.sizeOf78
  v23:=Tryz.zeroValue78
  t26:=Tryz.underlying3
  a26:=Tryz.isAgg3
  z26:=Tryz.sizeOf3
  v26:=Tryz.zeroValue3
  t27:=Tryz.underlying96
  a27:=Tryz.isAgg96
  z27:=Tryz.sizeOf96
  v27:=Tryz.zeroValue96
  t28:=Tryz.underlying97
  a28:=Tryz.isAgg97
  z28:=Tryz.sizeOf97
  v28:=Tryz.zeroValue97
  t33:=Tryz.underlying158
  a33:=Tryz.isAgg158
  z33:=Tryz.sizeOf158
  v33:=Tryz.zeroValue158 }
open Go.RowKit Go.Maps Go.Sort Go.Shelf in
theorem Tryz.maps_Keys_55 (mb:Option Nat) (W:World):CallsIn Fence.wide 5 Tryz.prog 55 #[.map mb] W λ e w'=>e=.returned (.func (.func 128) #[] #[.pointer (some ⟨W.heap.size,0,none⟩)])/\w'=W.alloc (.cells #[.map mb] 78):=
  AnyZI.keys_in Tryz.keys55 Fence.wide 5 trivial rfl mb W
open Go.RowKit Go.Maps Go.Sort Go.Shelf in
theorem Tryz.slices_Sorted_keys_50_55 {H:Type} (b nn:Nat) (D0:DataW H) (R:Value->Option (DataW H × List MemPlace)) (w:World) (hown:w.ownsMap Tryz.prog 3 R b nn D0) (hmax:Maps.size D0<=maxLen) (hbytes:Maps.size D0 * 8<=140737488355328):
    CallsIn Fence.wide 5 Tryz.prog 50 #[.func (.func 128) #[] #[.pointer (some ⟨w.heap.size,0,none⟩)]] (w.alloc (.cells #[.map (some b)] 78)) λ e w'=>∃ (v:Value) (ss:List Int),e=.returned v/\ss.Perm (intKeys D0)/\
      w'.ownsRow (w.alloc (.cells #[.map (some b)] 78)).heap.size 3 1 v ss.length ((ss.mergeSort (λ x y=>decide (x<=y))).map encZ)/\(v=.slice none 0 0↔ss=[])/\Below (w.alloc (.cells #[.map (some b)] 78)).heap.size (w.alloc (.cells #[.map (some b)] 78)) w':=by
  have hbl:=hown.lt;have hseq:SeqGives Fence.wide 2 Tryz.prog 128 #[.pointer (some ⟨w.heap.size,0,none⟩)] encZ (λ ss=>ss.Perm (intKeys D0)) (Maps.size D0) (w.alloc (.cells #[.map (some b)] 78)):=
    AnyZI.keys_gives (ρ:=Tryz.keys55_ren) { Tryz.keys55 with } Fence.wide _ trivial rfl (by omega) w.heap.size b nn D0 _ (by simp) (by simp) (by
      obtain ⟨es,clock,hb,Ft,hs,hD⟩:=hown;exact ⟨es,clock,(Below.heap_alloc _ _ b hbl).trans hb,Ft,hs,hD⟩)
  exact AnyZI.sorted_in Tryz.sorted50 Fence.wide 5 trivial trivial trivial trivial rfl (by omega) (Tryz.sorts50 _) (enters_of Tryz.func122 (by kernel_rfl) rfl) 128 #[.pointer (some ⟨w.heap.size,0,none⟩)] trivial (enters_of Tryz.func128 (by kernel_rfl) rfl) _ _ hmax hbytes _ hseq
def Tryz.keys189_ren:Go.Shelf.Ren:=⟨λ|7=>189|10=>239|n=>n,λ|23=>172|26=>3|3=>3|28=>97|0=>0|27=>96|33=>158|4=>4|n=>n,λ|n=>n⟩
theorem Tryz.keys189:Go.Proofs.SlLaysZI.n7 Tryz.prog Tryz.keys189_ren:={
  mixed:=by kernel_rfl
  f7:=⟨Tryz.f189.name,by decide,Tryz.func189.trans (congrArg some (by kernel_rfl))⟩
  f10:=⟨Tryz.f239.name,by decide,Tryz.func239.trans (congrArg some (by kernel_rfl))⟩
  t0:=Tryz.underlying0
  a0:=Tryz.isAgg0
  z0:=Tryz.sizeOf0
  v0:=Tryz.zeroValue0
  t4:=Tryz.underlying4
  a4:=Tryz.isAgg4
  z4:=Tryz.sizeOf4
  v4:=Tryz.zeroValue4
  t23:=Tryz.underlying172
  a23:=Tryz.isAgg172
  z23:=Tryz.sizeOf172
  v23:=Tryz.zeroValue172
  t26:=Tryz.underlying3
  a26:=Tryz.isAgg3
  z26:=Tryz.sizeOf3
  v26:=Tryz.zeroValue3
  t27:=Tryz.underlying96
  a27:=Tryz.isAgg96
  z27:=Tryz.sizeOf96
  v27:=Tryz.zeroValue96
  t28:=Tryz.underlying97
  a28:=Tryz.isAgg97
  z28:=Tryz.sizeOf97
  v28:=Tryz.zeroValue97
  t33:=Tryz.underlying158
  a33:=Tryz.isAgg158
  z33:=Tryz.sizeOf158
  v33:=Tryz.zeroValue158 }
open Go.RowKit Go.Maps Go.Sort Go.Shelf in
theorem Tryz.maps_Keys_189 (mb:Option Nat) (W:World):CallsIn Fence.wide 5 Tryz.prog 189 #[.map mb] W λ e w'=>e=.returned (.func (.func 239) #[] #[.pointer (some ⟨W.heap.size,0,none⟩)])/\w'=W.alloc (.cells #[.map mb] 172):=
  AnyZI.keys_in Tryz.keys189 Fence.wide 5 trivial rfl mb W
open Go.RowKit Go.Maps Go.Sort Go.Shelf in
theorem Tryz.slices_Collect_keys_121_189 {H:Type} (b nn:Nat) (D0:DataW H) (R:Value->Option (DataW H × List MemPlace)) (w:World) (hown:w.ownsMap Tryz.prog 3 R b nn D0) (hmax:Maps.size D0<=maxLen) (hbytes:Maps.size D0 * 8<=140737488355328):
    CallsIn Fence.wide 4 Tryz.prog 121 #[.func (.func 239) #[] #[.pointer (some ⟨w.heap.size,0,none⟩)]] (w.alloc (.cells #[.map (some b)] 172)) λ e w'=>∃ (v:Value) (ss:List Int),e=.returned v/\ss.Perm (intKeys D0)/\
      w'.ownsRow (w.alloc (.cells #[.map (some b)] 172)).heap.size 3 1 v ss.length (ss.map encZ)/\(v=.slice none 0 0↔ss=[])/\Below (w.alloc (.cells #[.map (some b)] 172)).heap.size (w.alloc (.cells #[.map (some b)] 172)) w':=by
  have hbl:=hown.lt;have hseq:SeqGives Fence.wide 2 Tryz.prog 239 #[.pointer (some ⟨w.heap.size,0,none⟩)] encZ (λ ss=>ss.Perm (intKeys D0)) (Maps.size D0) (w.alloc (.cells #[.map (some b)] 172)):=
    AnyZI.keys_gives (ρ:=Tryz.keys189_ren) { Tryz.keys189 with } Fence.wide _ trivial rfl (by omega) w.heap.size b nn D0 _ (by simp) (by simp) (by
      obtain ⟨es,clock,hb,Ft,hs,hD⟩:=hown;exact ⟨es,clock,(Below.heap_alloc _ _ b hbl).trans hb,Ft,hs,hD⟩)
  exact AnyZI.collect_in Tryz.collect121 Fence.wide 4 trivial trivial rfl (by omega) 239 #[.pointer (some ⟨w.heap.size,0,none⟩)] trivial (enters_of Tryz.func239 (by kernel_rfl) rfl) _ _ hmax hbytes _ hseq
def Tryz.keys51_ren:Go.Shelf.Ren:=⟨λ|7=>51|10=>123|n=>n,λ|23=>77|26=>3|3=>102|28=>97|0=>0|27=>96|33=>158|4=>4|n=>n,λ|n=>n⟩
theorem Tryz.keys51:Go.Proofs.SlLaysZI.n7 Tryz.prog Tryz.keys51_ren:={
  mixed:=by kernel_rfl
  f7:=⟨Tryz.f51.name,by decide,Tryz.func51.trans (congrArg some (by kernel_rfl))⟩
  f10:=⟨Tryz.f123.name,by decide,Tryz.func123.trans (congrArg some (by kernel_rfl))⟩
  t0:=Tryz.underlying0
  a0:=Tryz.isAgg0
  z0:=Tryz.sizeOf0
  v0:=Tryz.zeroValue0
  t4:=Tryz.underlying4
  a4:=Tryz.isAgg4
  z4:=Tryz.sizeOf4
  v4:=Tryz.zeroValue4
  t23:=Tryz.underlying77
  a23:=Tryz.isAgg77
  z23:=Tryz.sizeOf77
  v23:=Tryz.zeroValue77
  t26:=Tryz.underlying3
  a26:=Tryz.isAgg3
  z26:=Tryz.sizeOf3
  v26:=Tryz.zeroValue3
  t27:=Tryz.underlying96
  a27:=Tryz.isAgg96
  z27:=Tryz.sizeOf96
  v27:=Tryz.zeroValue96
  t28:=Tryz.underlying97
  a28:=Tryz.isAgg97
  z28:=Tryz.sizeOf97
  v28:=Tryz.zeroValue97
  t33:=Tryz.underlying158
  a33:=Tryz.isAgg158
  z33:=Tryz.sizeOf158
  v33:=Tryz.zeroValue158 }
open Go.RowKit Go.Maps Go.Sort Go.Shelf in
theorem Tryz.maps_Keys_51 (mb:Option Nat) (W:World):CallsIn Fence.wide 5 Tryz.prog 51 #[.map mb] W λ e w'=>e=.returned (.func (.func 123) #[] #[.pointer (some ⟨W.heap.size,0,none⟩)])/\w'=W.alloc (.cells #[.map mb] 77):=
  AnyZI.keys_in Tryz.keys51 Fence.wide 5 trivial rfl mb W
open Go.RowKit Go.Maps Go.Sort Go.Shelf in
theorem Tryz.slices_Sorted_keys_50_51 {H:Type} (b nn:Nat) (D0:DataW H) (R:Value->Option (DataW H × List MemPlace)) (w:World) (hown:w.ownsMap Tryz.prog 3 R b nn D0) (hmax:Maps.size D0<=maxLen) (hbytes:Maps.size D0 * 8<=140737488355328):
    CallsIn Fence.wide 5 Tryz.prog 50 #[.func (.func 123) #[] #[.pointer (some ⟨w.heap.size,0,none⟩)]] (w.alloc (.cells #[.map (some b)] 77)) λ e w'=>∃ (v:Value) (ss:List Int),e=.returned v/\ss.Perm (intKeys D0)/\
      w'.ownsRow (w.alloc (.cells #[.map (some b)] 77)).heap.size 3 1 v ss.length ((ss.mergeSort (λ x y=>decide (x<=y))).map encZ)/\(v=.slice none 0 0↔ss=[])/\Below (w.alloc (.cells #[.map (some b)] 77)).heap.size (w.alloc (.cells #[.map (some b)] 77)) w':=by
  have hbl:=hown.lt;have hseq:SeqGives Fence.wide 2 Tryz.prog 123 #[.pointer (some ⟨w.heap.size,0,none⟩)] encZ (λ ss=>ss.Perm (intKeys D0)) (Maps.size D0) (w.alloc (.cells #[.map (some b)] 77)):=
    AnyZI.keys_gives (ρ:=Tryz.keys51_ren) { Tryz.keys51 with } Fence.wide _ trivial rfl (by omega) w.heap.size b nn D0 _ (by simp) (by simp) (by
      obtain ⟨es,clock,hb,Ft,hs,hD⟩:=hown;exact ⟨es,clock,(Below.heap_alloc _ _ b hbl).trans hb,Ft,hs,hD⟩)
  exact AnyZI.sorted_in Tryz.sorted50 Fence.wide 5 trivial trivial trivial trivial rfl (by omega) (Tryz.sorts50 _) (enters_of Tryz.func122 (by kernel_rfl) rfl) 123 #[.pointer (some ⟨w.heap.size,0,none⟩)] trivial (enters_of Tryz.func123 (by kernel_rfl) rfl) _ _ hmax hbytes _ hseq
end
end Go.Proofs
namespace Go.Proofs.YtfgbbckfikiomaaGreatDoor
section
open Go Go.VC Tryz
variable {R:Cx} {Hs Rest:List HP} {w:World}
theorem Ze9 {m c:Nat} {l:List (En Int)} {es:List (Int × Value)} (hs:Zdr l=es) (hst:Zdj l c) (hu:(es.map (·.1)).Nodup) (hn:∀ k∈es.map (·.1),-1000000000<=k/\k<=1000000000) (hlen:es.length<=1000000)
  (hm:w.heap[m]? =some (.map (l.map mkE).toArray c)):
  ∃ D0:DataW Unit,w.ownsMap prog 3 (λ _=>some (.nil,[])) m 1000000 D0/\Maps.size D0<=1000000/\∀ ss:List Int,ss.Perm (intKeys D0)->ss.Perm (es.map (·.1)):=by
 have hkeys:l.map (·.1)=es.map (·.1):=by rw [<-hs];simp [Zdr,Function.comp_def]
 have hlen2:l.length=es.length:=by have:=congrArg List.length hkeys;simpa using this
 have hkey:∀ e∈l,keyOf prog 3 (mkE e).key=some (.int .i64 e.1):=λ e he=>by
  have hm:e.1∈es.map (·.1):=by rw [<-hkeys];exact List.mem_map_of_mem he
  have hsz:=hn _ hm;have hwf:(Lit.int .i64 e.1).wf=true:=by
   have h1:IntKind.i64.min=-9223372036854775808:=by decide
   have h2:IntKind.i64.max=9223372036854775807:=by decide
   simp only [Lit.wf,Bool.and_eq_true,decide_eq_true_eq];omega
  simp only [keyOf,underlying3,mkE,mapKey,Zbp.enc];rw [if_pos ⟨trivial,hwf⟩]
 have hrd:∀ e∈l,WideElems.rd prog 3 (λ _=>some ((.nil:DataW Unit),[])) (mkE e)=some (.int .i64 e.1,.nil):=λ e he=>by
  unfold WideElems.rd;rw [hkey e he];rfl
 have hrg:((l.map mkE).map (WideElems.rg prog 3 (λ _=>some ((.nil:DataW Unit),[]))))=l.map λ e=>(.int .i64 e.1,.nil):=by
  rw [List.map_map];apply List.map_congr_left;intro e he;simp only [Function.comp,WideElems.rg,hrd e he,Option.getD_some]
 refine ⟨_,⟨(l.map mkE).toArray,c,hm,⟨by simp [maxLen];omega,?_,?_⟩,by simp;omega,rfl⟩,?_,?_⟩
 ·refine ⟨λ x hx=>?_,?_,?_⟩
  ·simp only [List.mem_map] at hx
   obtain ⟨e,he,rfl⟩:=hx;exact hst.1 e he
  ·have:=hst.2;simpa [mkE,Function.comp_def] using this
  ·have h2:(l.map (·.1)).Nodup:=by rw [hkeys];exact hu
   have e1:((l.map mkE).toArray.toList.map (·.key))=(l.map (·.1)).map (Value.int .i64):=by simp [mkE,Function.comp_def,Zbp.enc]
   rw [e1];exact List.Pairwise.map _ (λ a b hab h=>hab (by injection h)) h2
 ·intro x hx
  simp only [List.mem_map] at hx;obtain ⟨e,he,rfl⟩:=hx;exact ⟨_,hrd e he⟩
 ·simp only [Maps.size,hrg]
  rw [(WideShapes.sorted_perm _).length_eq];simp;omega
 ·intro ss hss
  refine hss.trans ?_;simp only [intKeys,hrg];refine ((WideShapes.sorted_perm _).map _).trans ?_;rw [List.map_map,<-hkeys];exact List.Perm.of_eq (List.map_congr_left λ e _=>rfl)
end
section
open Go Go.VC Tryz
variable {R:Cx} {Hs Rest:List HP} {w:World}
def Zgp (l:List Int):List Int:=l.mergeSort λ x y=>decide (x<=y)
theorem ZdQ {a b:List Int} (h:a.Perm b):Zgp a=Zgp b:=by
 have tr:∀ a b c:Int,decide (a<=b)=true->decide (b<=c)=true->decide (a<=c)=true:=λ a b c h1 h2=>by simp only [decide_eq_true_eq] at *;omega
 have to:∀ a b:Int,(decide (a<=b)||decide (b<=a))=true:=λ a b=>by simp only [Bool.or_eq_true,decide_eq_true_eq];omega
 have s1:=List.pairwise_mergeSort tr to a;have s2:=List.pairwise_mergeSort tr to b;have p:(a.mergeSort λ x y=>decide (x<=y)).Perm (b.mergeSort λ x y=>decide (x<=y)):=(List.mergeSort_perm a _).trans (h.trans (List.mergeSort_perm b _).symm);exact List.Perm.eq_of_pairwise (λ a b _ _ h1 h2=>by simp only [decide_eq_true_eq] at h1 h2;omega) s1 s2 p
theorem Zkw {m:Nat} {es:List (Int × Value)} {K:Sl->World->Prop} (hu:(es.map (·.1)).Nodup) (hn:∀ k∈es.map (·.1),-1000000000<=k/\k<=1000000000) (hlen:es.length<=1000000) (hw:Sat R (MapAt m es::Hs) w)
  (k:∀ s w',Sat R (Own s 3 (Zd (Zgp (es.map (·.1))))::MapAt m es::Hs) w'->K s w'):
  Calls prog 171 #[.map (some m)] w λ e w1=>∃ t:Value,e=.returned t/\Calls prog 50 #[t] w1 λ e w2=>∃ t:Sl,e=.returned (.slice t.a t.len t.cap)/\K t w2:=by
 obtain ⟨l,c,hs,hst,hp⟩:=MapAt.iff.1 hw;obtain ⟨D0,hown,hsz,hperm⟩:=Ze9 hs hst hu hn hlen hp.at;refine (callsIn_wide.1 (Tryz.maps_Keys_171 (some m) w)).mono ?_;rintro _ _ ⟨rfl,rfl⟩;refine ⟨_,rfl,?_⟩;refine (callsIn_wide.1 (Tryz.slices_Sorted_keys_50_171 m _ D0 _ w hown (by unfold maxLen;omega) (by omega))).mono ?_;rintro _ w' ⟨v,ss,rfl,hS,hrow,hnil,hb⟩;have hw1:Sat R (MapAt m es::Hs) (w.alloc (.cells #[.map (some m)] 171)):=(Sat.alloc _ hw).drop;obtain ⟨s,rfl,h3⟩:=Sat.ownsRow hw1 hb hrow;refine ⟨s,rfl,k s _ ?_⟩;rw [<-ZdQ (hperm ss hS)];exact h3
theorem Zj7 {m:Nat} {es:List (Int × Value)} {S:World->Prop} {K:Sl->World->Prop} (hu:(es.map (·.1)).Nodup) (hn:∀ k∈es.map (·.1),-1000000000<=k/\k<=1000000000) (hlen:es.length<=1000000) (hw:Sat R (MapAt m es::Hs) w)
  (hS:∀ w',Sat R (MapAt m es::Hs) w'->S w')
  (k:∀ s ks w',ks.Perm (es.map (·.1))->Sat R (Own s 3 (Zd ks)::MapAt m es::Hs) w'->K s w'):
  Calls prog 189 #[.map (some m)] w λ e w1=>∃ t:Value,e=.returned t/\S w1/\Calls prog 121 #[t] w1 λ e w2=>∃ t:Sl,e=.returned (.slice t.a t.len t.cap)/\S w2/\K t w2:=by
 obtain ⟨l,c,hs,hst,hp⟩:=MapAt.iff.1 hw;obtain ⟨D0,hown,hsz,hperm⟩:=Ze9 hs hst hu hn hlen hp.at;refine (callsIn_wide.1 (Tryz.maps_Keys_189 (some m) w)).mono ?_;rintro _ _ ⟨rfl,rfl⟩;have hw1:Sat R (MapAt m es::Hs) (w.alloc (.cells #[.map (some m)] 172)):=(Sat.alloc _ hw).drop;refine ⟨_,rfl,hS _ hw1,?_⟩;refine (callsIn_wide.1 (Tryz.slices_Collect_keys_121_189 m _ D0 _ w hown (by unfold maxLen;omega) (by omega))).mono ?_;rintro _ w' ⟨v,ss,rfl,hS2,hrow,hnil,hb⟩;obtain ⟨s,rfl,h3⟩:=Sat.ownsRow hw1 hb hrow;exact ⟨s,rfl,hS _ h3.drop,k s ss _ (hperm ss hS2) h3⟩
end
section
open Go Go.VC Tryz
variable {R:Cx} {Hs Rest:List HP} {w:World}
theorem Zph {n:Int} {g a b:List Int} {many:Int} (h:a.Perm b):Zal n g a many=Zal n g b many:=by
 have:Za8 a=Za8 b:=by
  funext j
  unfold Za8;rw [decide_eq_decide];exact h.mem_iff
 unfold Zal;rw [this]
theorem ZoZ {u:Nat->Bool} {N i j:Nat} (hj:j<(Zat u N).length) (hij:i<j):(Zat u N)[i]<(Zat u N)[j]:=by
 have h1:=ZjS (List.getElem?_eq_getElem (show i<(Zat u N).length by omega));have h2:=ZjS (List.getElem?_eq_getElem hj);by_cases h:(Zat u N)[i]<(Zat u N)[j]
 ·exact h
 ·exfalso
  have h3:=Zrt (u:=u) (j:=(Zat u N)[j]) ((Zat u N)[i] - (Zat u N)[j]);rw [show (Zat u N)[j] + ((Zat u N)[i] - (Zat u N)[j])=(Zat u N)[i] by omega,h1.2.2,h2.2.2] at h3;omega
theorem ZmP (u z:Nat->Bool) (N many:Nat):(∃ k,(Zen u z N many).1=Zkh k many)\/(Zen u z N many).1=[]\/(Zen u z N many).1=(Zat u N).take many:=by
 unfold Zen;split
 ·exact .inl ⟨_,rfl⟩
 ·split
  ·exact .inr (.inl rfl)
  ·exact .inr (.inr rfl)
theorem ZkM {l:List Nat} (h:∀ i j (hj:j<l.length) (hij:i<j),l[i]<l[j]):Zpq (l.map λ (j:Nat)=>(j:Int)):=λ i j hj hij=>by
 rw [List.length_map] at hj;simp only [List.getElem_map];have:=h i j hj hij;omega
theorem ZlL {n:Int} {g taken:List Int} {many:Int}:Zpq (Zal n g taken many).1:=by
 unfold Zal;split
 ·intro i j hj hij;simp at hj
 ·dsimp only
  rcases ZmP (Za8 taken) (zF g) (ZaL n g).toNat many.toNat with ⟨k,h⟩|h|h
  ·rw [h]
   exact ZkM λ i j hj hij=>by simp only [Zkh,List.getElem_map,List.getElem_range];omega
  ·rw [h];intro i j hj hij;simp at hj
  ·rw [h]
   exact ZkM λ i j hj hij=>by
    rw [List.length_take] at hj;simp only [List.getElem_take];exact ZoZ (by omega) hij
theorem Zt8 {n:Int} {g taken:List Int} {many:Int}:(Zal n g taken many).1.length<=600:=by
 have hb:=Zcp n g;unfold Zal;split
 ·simp
 rename_i hm;simp only [List.length_map];unfold Zen;split
 ·rw [Zgy];omega
 ·split
  ·simp
  ·simp only [List.length_take];omega
theorem ZgD {n:Int}:∀ {l:List Int},(∀ x∈l,x<n)->ZfN n l=l++[n]
 |[],_=>rfl
 |x::l,h=>by
  unfold ZfN;rw [if_pos (h x List.mem_cons_self),ZgD λ y hy=>h y (List.mem_cons_of_mem _ hy)];rfl
theorem Zp6 {l:List Int} (h:Zpq l) (j:Nat):Zpq (l.take j):=λ i k hk hik=>by
 rw [List.length_take] at hk;simp only [List.getElem_take];exact h i k (by omega) hik
theorem ZsW {l:List Int} (h:Zpq l) {j:Nat} (hj:j<l.length):ZfN l[j] (l.take j)=l.take (j + 1):=by
 rw [ZgD,List.take_add_one,List.getElem?_eq_getElem hj,Option.toList_some];intro x hx;obtain ⟨i,hi,rfl⟩:=List.getElem_of_mem hx;rw [List.length_take] at hi;rw [List.getElem_take];exact h i j hj (by omega)
def Zdv (o:Int) (l:List Int) (own:List (Int × Int)):List (Int × Int):=l.foldl (λ p n=>ZdZ n o p) own
def Zgt (f:PF) (owner:Int):PF × List ByteArray × Int:=
 match ZH owner f.hs with
 |none=>(f,[],2)
 |some h=>if h.seats.length>0 then (f,[],7)
  else ({ f with hs:=ZeO owner { h with seats:=(Zal f.rows f.grps (f.own.map (·.1)) h.many).1 } f.hs,own:=Zdv h.owner (Zal f.rows f.grps (f.own.map (·.1)) h.many).1 f.own },
   ZdD f.rows f.grps (Zal f.rows f.grps (f.own.map (·.1)) h.many).1,(Zal f.rows f.grps (f.own.map (·.1)) h.many).2)
theorem Zpj {p:Nat} {f:PF} {owner:Int} (hgl:f.grps.length<=1000) (hu:(f.own.map (·.1)).Nodup) (hk:∀ k∈f.own.map (·.1),-1000000000<=k/\k<=1000000000) (hol:f.own.length<=1000000) (hw:Sat R (Zl p f::Hs) w):
  Zm prog 118 #[.pointer (some ⟨p,0,none⟩),.int .i64 owner] w λ v w'=>∃ t:Sl,v=.tuple #[.slice t.a t.len t.cap,.int .i64 (Zgt f owner).2.2]/\Sat R (Own t 9 ((Zgt f owner).2.1.map Value.string)::Zl p (Zgt f owner).1::Hs) w':=by
 obtain ⟨hm,om,sg,sl,ss,E,R',hE,_,rg,_,_,hw,back⟩:=Sat.flightO hw;have rgo:RoI R' sg f.grps:=rg.ro (by rw [List.length_map];omega);apply ZxM;refine Zc.mk rfl ⟨some hm,oA hw,(ZH owner E).map (λ x=>⟨x.1,0,none⟩),(ZH owner E).isSome,λ w' e=>by rw [show w'=w from e];exact Zcq (hw.take (MapAt hm (ZS E))) owner true,?_⟩
 cases hget:ZH owner E with
 |none=>
  have e:Zgt f owner=(f,[],2):=by unfold Zgt;rw [<-hE,Zbk,hget];rfl
  rw [e];exact Br.t rfl ⟨⟨none,0,0⟩,rfl,Own.nil (Sat.flightC hE (back _ _ hw))⟩
 |some x=>
  obtain ⟨b,h⟩:=x;have hgf:ZH owner f.hs=some h:=by rw [<-hE,Zbk,hget];rfl
  obtain ⟨a,c,rfl,hna⟩:=Zan hget;refine Br.f rfl (Zc.mk rfl ?_);obtain ⟨s,hw⟩:=FO.open hw;have hsl:=Own.len (hw.take (Own s 3 (Zd h.seats)));rw [List.length_map] at hsl;refine ⟨s,oA hw,Br.d (λ h1=>?_) (λ h1=>?_)⟩
  ·have e:Zgt f owner=(f,[],7):=by unfold Zgt;rw [hgf];dsimp only;rw [if_pos (by omega)]
   rw [e];exact ⟨⟨none,0,0⟩,rfl,Own.nil (Sat.flightC hE (back _ _ (FO.close hw)))⟩
  have hse:h.seats=[]:=List.length_eq_zero_iff.1 (by omega);have e:Zgt f owner=({ f with hs:=ZeO owner { h with seats:=(Zal f.rows f.grps (f.own.map (·.1)) h.many).1 } f.hs,own:=Zdv h.owner (Zal f.rows f.grps (f.own.map (·.1)) h.many).1 f.own },
   ZdD f.rows f.grps (Zal f.rows f.grps (f.own.map (·.1)) h.many).1,(Zal f.rows f.grps (f.own.map (·.1)) h.many).2):=by unfold Zgt;rw [hgf];dsimp only;rw [if_neg (by omega)]
  rw [e];refine Zo hw λ w hw=>?_;refine Zc.mk rfl ⟨f.rows,sg,At.own Zao (by exact ⟨rfl,rfl,trivial⟩),Zc.mk rfl ⟨some om,oS,Zc.mk rfl ⟨h.many,oS,?_⟩⟩⟩;have hown:(Zbi f.own).map (·.1)=f.own.map (·.1):=by simp [Zbi,Function.comp_def]
  refine Zj7 (es:=Zbi f.own) (by rw [hown];exact hu) (by rw [hown];exact hk) (by rw [List.length_map];exact hol) (hw.take (MapAt om (Zbi f.own)))
   (λ w' h5=>((((h5.take (MapAt hm (ZS (a++(owner,b,h)::c)))).take (pts p (ZY f sg sl ss hm om))).take (ZL (a++c))).take (Own s 3 (Zd h.seats))).take (pts b (Zx h s))|>.perm (by
    refine List.Perm.cons _ (List.Perm.cons _ (List.Perm.cons _ (List.Perm.cons _ (List.Perm.refl _))))))
   λ tk ks w hks hw=>?_
  rw [hown] at hks;obtain ⟨R2,hro,hmono,hw2,back2⟩:=Own.lend hw (by rw [List.length_map];have:=hks.length_eq;rw [List.length_map] at this;omega);refine (Zsg (taken:=ks) (hmono _ _ rgo) hro hw2).use ?_;clear hw hw2;rintro _ w ⟨t,rfl,hw⟩;have hw:=(back2 hw).drop;rw [Zph hks] at hw ⊢;have hri:=ZlL (n:=f.rows) (g:=f.grps) (taken:=f.own.map (·.1)) (many:=h.many);have hln:=Zt8 (n:=f.rows) (g:=f.grps) (taken:=f.own.map (·.1)) (many:=h.many);generalize Zal f.rows f.grps (f.own.map (·.1)) h.many=r at *;refine ⟨_,_,rfl,?_,?_⟩
  ·exact ((((hw.drop.take (MapAt hm (ZS (a++(owner,b,h)::c)))).take (pts p (ZY f sg sl ss hm om))).take (ZL (a++c))).take (Own s 3 (Zd h.seats))).take (pts b (Zx h s))|>.perm (by
    refine List.Perm.cons _ (List.Perm.cons _ (List.Perm.cons _ (List.Perm.cons _ (List.Perm.refl _)))))
  obtain ⟨R3,e3,ht,hw,back3⟩:=ZA.out hw;have hto:RoI R3 t r.1:=ht.ro (by rw [List.length_map];omega);have htl:=hto.len;have hw:Sat R3 (FO p hm om sg sl ss (a++(owner,b,h)::c) f Hs) w:=FO.close (((((hw.take (MapAt hm (ZS (a++(owner,b,h)::c)))).take (pts p (ZY f sg sl ss hm om))).take (ZL (a++c))).take (Own s 3 (Zd h.seats))).take (pts b (Zx h s))|>.perm (by
    refine List.Perm.cons _ (List.Perm.cons _ (List.Perm.cons _ (List.Perm.cons _ (List.Perm.refl _))))))
  refine ⟨λ i w=>∃ j:Nat,i=j/\j<=r.1.length/\Sat R3 (FO p hm om sg sl ss (a++(owner,b,{ h with seats:=r.1.take j })::c) { f with own:=Zdv h.owner (r.1.take j) f.own } Hs) w,λ i _=>r.1.length - i.toNat,⟨0,rfl,by omega,?_⟩,?_⟩
  ·have eh:({ h with seats:=r.1.take 0 }:ZD)=h:=by rw [List.take_zero,<-hse]
   rw [eh];exact hw
  clear hw;rintro _ _ w ⟨j,rfl,hj,hw⟩;refine Br.d (λ h2=>?_) (λ h2=>?_)
  ·have hj2:j<r.1.length:=by omega
   refine Ro.ix hto (eqS hw) j rfl hj2 ?_;refine (ZgQ (h:={ h with seats:=r.1.take j }) (Zp6 hri j) (by simp only [List.length_take];omega) hw).use ?_;rintro _ w ⟨rfl,hw⟩;rw [Zh (by omega) (by omega)];refine ⟨rfl,⟨j + 1,by omega,by omega,?_⟩,by dsimp only;omega⟩;have eh:ZD.put { h with seats:=r.1.take j } r.1[j]={ h with seats:=r.1.take (j + 1) }:=by unfold ZD.put;rw [ZsW hri hj2]
   have eo:ZdZ r.1[j] h.owner (Zdv h.owner (r.1.take j) f.own)=Zdv h.owner (r.1.take (j + 1)) f.own:=by
    unfold Zdv;rw [List.take_add_one,List.getElem?_eq_getElem hj2,Option.toList_some,List.foldl_append];rfl
   rw [eh] at hw;rw [<-eo];exact hw
  ·rw [List.take_of_length_le (by omega)] at hw
   refine (Zhp (f:=f) (hm:=hm) (om:=om) (sg:=sg) (sl:=sl) (ss:=ss) (e3.ro rgo) hto (by omega) hw).use ?_;rintro _ w ⟨t2,rfl,hw⟩;refine ⟨t2,rfl,t2,rfl,?_⟩;have hw:=(back3 _ _ hw).drop;have hw:=back _ _ hw;refine Sat.cons (λ R5 h5=>?_) (hw.take (Own t2 9 ((ZdD f.rows f.grps r.1).map Value.string)));refine Sat.flight.2 ⟨hm,om,sg,sl,ss,a++(owner,b,{ h with seats:=r.1 })::c,?_,h5⟩;show _=ZeO owner _ f.hs;rw [<-hE,Zcr,Zcr,ZeV (by rw [Zbk,hna];rfl) (ZeJ owner)]
end
section
open Go Go.VC Tryz
variable {R:Cx} {Hs Rest:List HP} {w:World}
theorem ZjI (n:Int):∀ l:List Int,(ZfN n l).length=l.length + 1
 |[]=>rfl
 |x::l=>by
  unfold ZfN;split
  ·simp only [List.length_cons,ZjI n l]
  ·rfl
end
section
open Go Go.VC Tryz
variable {R:Cx} {Hs Rest:List HP} {w:World}
theorem Zf9 {n:Nat} (hn:n<18446744073709551616) (hw:Sat R Hs w):
    Zm prog 88 #[.int .u64 n] w λ v w'=>∃ t:Sl,v=.slice t.a t.len t.cap/\Sat R (Own t 5 (b8 (ZeP n))::Hs) w':=by
  apply Zy0;have h8:=Zfh hn;refine ⟨λ x out w=>∃ (m:Nat) (ds:List Int),x=m/\m<=n/\dig m++ds=dig n/\Sat R (Own out 5 (b8 ds)::Hs) w,λ x _ _=>x.toNat,⟨n,[],rfl,by omega,by simp,Own.nil hw⟩,?_⟩;clear hw;rintro _ _ out w ⟨m,ds,rfl,hm,he,hw⟩;have hdl:ds.length<=8:=by rw [<-he,List.length_append] at h8;omega
  refine Br.d (λ h=>?_) (λ h=>?_)
  · have e1:IntKind.u8.wrap ((m:Int).tmod 256)=((m % 256:Nat):Int):=by
      rw [show (m:Int).tmod 256=((m % 256:Nat):Int) from (Int.ofNat_tmod m 256).symm,Zkn (by omega) (by omega)]
    have e2:IntKind.u64.wrap ((m:Int).tdiv 256)=((m / 256:Nat):Int):=by
      rw [show (m:Int).tdiv 256=((m / 256:Nat):Int) from (Int.ofNat_tdiv m 256).symm,ZK (by omega) (by omega)]
    rw [e1,e2];refine Zb hw λ b w hw=>?_;have hw:Sat R (Own ⟨some ⟨b,0,none⟩,1,1⟩ 5 (b8 [((m % 256:Nat):Int)])::Own out 5 (b8 ds)::Hs) w:=ZbI hw;refine Zdi ZrD (s:=⟨some ⟨b,0,none⟩,1,1⟩) (n:=9) underlying42 hw (by simp;omega) (by omega) (by omega) λ s' w hw=>?_;refine ⟨⟨m / 256,[((m % 256:Nat):Int)]++ds,rfl,by omega,?_,hw.cons λ _ h=>h.drop⟩,by dsimp only;omega⟩;rw [<-List.append_assoc,<-Zdh (by omega)];exact he
  · have hm0:m=0:=by omega
    subst hm0;rw [ZbB,List.nil_append] at he;have hol:out.len=ds.length:=by have:=Own.len hw;simpa using this
    have e1:IntKind.u8.wrap (out.len:Int)=((dig n).length:Int):=by rw [Zkn (by omega) (by omega),hol,he]
    rw [e1];refine Zb hw λ b w hw=>?_;have hw:Sat R (Own ⟨some ⟨b,0,none⟩,1,1⟩ 5 (b8 [((dig n).length:Int)])::Own out 5 (b8 ds)::Hs) w:=ZbI hw;refine Zdi ZrD (s:=⟨some ⟨b,0,none⟩,1,1⟩) (n:=9) underlying42 hw (by simp;omega) (by omega) (by omega) λ s' w hw=>?_;have e2:ZeP n=[((dig n).length:Int)]++ds:=by rw [he];rfl
    rw [e2];exact ⟨s',rfl,hw.cons λ _ h=>h.drop⟩
abbrev Z6 (s:Sl) (n:Nat) (bad:Bool):Obj:=.cells [.slice s.a s.len s.cap,.int .i64 n,.bool bad].toArray 133 (0,0)
def ZT (r:Nat) (s:Sl) (bs:List Int) (rd:Rd):HP:=exs λ n:Nat=>Zgu [pur (n<=bs.length/\bs.drop n=rd.bs),pts r (Z6 s n rd.bad)]
theorem Sat.rrd {r:Nat} {s:Sl} {bs:List Int} {rd:Rd}:Sat R (ZT r s bs rd::Hs) w↔∃ n:Nat,(n<=bs.length/\bs.drop n=rd.bs)/\Sat R (pts r (Z6 s n rd.bad)::Hs) w:=by
  unfold ZT;rw [Sat.exs];constructor
  · rintro ⟨n,h⟩
    have h:=Sat.star.1 h;have h:Sat R (pur _::pts r _::Hs) w:=h;rw [Sat.pur] at h;exact ⟨n,h⟩
  · rintro ⟨n,h⟩
    exact ⟨n,Sat.star.2 (by show Sat R (pur _::pts r _::Hs) w;rw [Sat.pur];exact h)⟩
theorem p256 {a b:Nat} (h:a<=b):(256:Int) ^ a<=256 ^ b:=by
  rw [show (256:Int)=((256:Nat):Int) from rfl,<-Int.natCast_pow,<-Int.natCast_pow]
  exact Int.ofNat_le.2 (Nat.pow_le_pow_right (by omega) h)
def Zbc (rd:Rd):Int × Bool × Int:=if rd.bad then (0,false,0) else match Za3 rd.bs with|some (n,neg,k)=>(n,neg,(k:Int))|none=>(0,false,0)
theorem Zig {r:Nat} {s:Sl} {bs:List Int} {n:Nat} {bad:Bool} (hl:bs.length<=1099511627776) (hb:∀ x∈bs,0<=x/\x<256) (hs:SlR R.m s (b8 bs)) (hn:n<=bs.length) (hw:Sat R (pts r (Z6 s n bad)::Hs) w):
    Zm prog 148 #[.pointer (some ⟨r,0,none⟩)] w λ v w'=>v=.tuple #[.int .u64 (Zbc ⟨bs.drop n,bad⟩).1,.bool (Zbc ⟨bs.drop n,bad⟩).2.1,.int .i64 (Zbc ⟨bs.drop n,bad⟩).2.2]/\Sat R (pts r (Z6 s n bad)::Hs) w':=by
  have hlen:s.len=bs.length:=by have:=hs.len;simpa using this
  apply Zxz;have no:Zbc ⟨bs.drop n,bad⟩=(0,false,0)->∀ {w},Sat R (pts r (Z6 s n bad)::Hs) w->(Value.tuple #[.int .u64 0,.bool false,.int .i64 0]=.tuple #[.int .u64 (Zbc ⟨bs.drop n,bad⟩).1,.bool (Zbc ⟨bs.drop n,bad⟩).2.1,.int .i64 (Zbc ⟨bs.drop n,bad⟩).2.2]/\Sat R (pts r (Z6 s n bad)::Hs) w):=λ e {w} hw=>by
    rw [e];exact ⟨rfl,hw⟩
  refine ⟨λ w=>(bad=false/\n<bs.length)/\Sat R (pts r (Z6 s n bad)::Hs) w,Zo hw λ w hw=>?_,?_⟩
  · refine Zc.mk rfl ⟨bad,oS,Br.mk (λ h=>no (by unfold Zbc;rw [if_pos h]) hw) (λ h=>?_)⟩
    refine Zc.mk rfl ⟨n,oS,Zc.mk rfl ⟨s,oS,?_⟩⟩;rw [hlen];refine Br.d (λ h2=>no ?_ hw) (λ h2=>⟨⟨h,by omega⟩,hw⟩);unfold Zbc;simp only;rw [List.drop_eq_nil_of_le (by omega)];split<;>rfl
  clear hw;rintro _ w ⟨⟨hbad,hlt⟩,hw⟩;have hc:=hb bs[n] (List.getElem_mem _);have hd:bs.drop n=bs[n]::bs.drop (n + 1):=List.drop_eq_getElem_cons hlt;have e0:IntKind.i64.wrap bs[n]=bs[n]:=Zh (by omega) (by omega);have nx:Zbc ⟨bs.drop n,bad⟩=match Za3 (bs[n]::bs.drop (n + 1)) with|some (n,neg,k)=>(n,neg,(k:Int))|none=>(0,false,0):=by
    unfold Zbc;rw [hbad,hd];rfl
  refine Zo hw λ w hw=>?_;refine Zc.mk rfl ⟨s,oS,Zc.mk rfl ⟨n,oS,hs.ix Zao n rfl hlt ?_⟩⟩;rw [e0];have hkn:0<=(if 16<=bs[n] then bs[n] - 16 else bs[n]):=by split<;>omega
  obtain ⟨k,hk⟩:=Int.eq_ofNat_of_zero_le hkn;have hk2:(if 16<=bs[n] then bs[n] - 16 else bs[n]).toNat=k:=by rw [hk];rfl
  refine ⟨λ x w=>x=(k:Int)/\Sat R (pts r (Z6 s n bad)::Hs) w,Br.d (λ h=>⟨?_,hw⟩) (λ h=>⟨?_,hw⟩),?_⟩
  · rw [Zh (by omega) (by omega),<-hk,if_pos (by omega)]
  · rw [<-hk,if_neg (by omega)]
  clear hw;rintro _ _ w ⟨rfl,hw⟩;have dl:(bs.drop (n + 1)).length=bs.length - (n + 1):=List.length_drop;have pno:¬ (bs[n]<32/\k<=8/\k<=(bs.drop (n + 1)).length/\(k=0->bs[n]=0)/\(k≠0->(bs.drop (n + 1)).head?≠some 0))->Zbc ⟨bs.drop n,bad⟩=(0,false,0):=λ h=>by
    rw [nx];unfold Za3;simp only [hk2];rw [if_neg h]
  have pyes:(bs[n]<32/\k<=8/\k<=(bs.drop (n + 1)).length/\(k=0->bs[n]=0)/\(k≠0->(bs.drop (n + 1)).head?≠some 0))->Zbc ⟨bs.drop n,bad⟩=(ZhR 0 ((bs.drop (n + 1)).take k),decide (16<=bs[n]),((k + 1:Nat):Int)):=λ h=>by
    rw [nx];unfold Za3;simp only [hk2];rw [if_pos h]
  refine ⟨λ w=>(bs[n]<32/\k<=8/\k<=(bs.drop (n + 1)).length/\(k=0->bs[n]=0)/\(k≠0->(bs.drop (n + 1)).head?≠some 0))/\Sat R (pts r (Z6 s n bad)::Hs) w,Zo hw λ w hw=>?_,?_⟩
  · refine Br.d (λ h=>no (pno λ h2=>by omega) hw) (λ h8=>?_)
    refine Zc.mk rfl ⟨n,oS,Zc.mk rfl ⟨s,oS,?_⟩⟩;rw [Zh (x:=(n:Int) + 1) (by omega) (by omega),Zh (by omega) (by omega),hlen];refine Br.d (λ h=>no (pno λ h2=>by omega) hw) (λ hln=>?_);have h32:bs[n]<32:=by split at hk<;>omega
    have last:(k≠0\/bs[n]=0)->Br (decide ((k:Int)>0))
             (Zc (some ⟨r,0,none⟩) λ a_t70=>
              ∃ t72:Sl,(At (Sat R (pts r (Z6 s n bad)::Hs)) (Addr.add a_t70 0) [.slice t72.a t72.len t72.cap])/\
              Zc (some ⟨r,0,none⟩) λ a_t74=>
              ∃ t76:Int,(At (Sat R (pts r (Z6 s n bad)::Hs)) ⟨a_t74.block,a_t74.off + 1,none⟩ [.int .i64 t76])/\
              Rng (IntKind.i64.wrap (t76 + 1)) t72.len (Zc t72.a λ a_t78=>
              ∃ t79:Int,(At (Sat R (pts r (Z6 s n bad)::Hs)) (Addr.add a_t78 ((IntKind.i64.wrap (t76 + 1)).toNat)) [.int .u8 t79])/\
              Br (t79==0)
               (Value.tuple #[.int .u64 0,.bool false,.int .i64 0]=.tuple #[.int .u64 (Zbc ⟨bs.drop n,bad⟩).1,.bool (Zbc ⟨bs.drop n,bad⟩).2.1,.int .i64 (Zbc ⟨bs.drop n,bad⟩).2.2]/\Sat R (pts r (Z6 s n bad)::Hs) w)
               ((bs[n]<32/\k<=8/\k<=(bs.drop (n + 1)).length/\(k=0->bs[n]=0)/\(k≠0->(bs.drop (n + 1)).head?≠some 0))/\Sat R (pts r (Z6 s n bad)::Hs) w)))
             ((bs[n]<32/\k<=8/\k<=(bs.drop (n + 1)).length/\(k=0->bs[n]=0)/\(k≠0->(bs.drop (n + 1)).head?≠some 0))/\Sat R (pts r (Z6 s n bad)::Hs) w):=λ hz=>by
      refine Br.d (λ h=>?_) (λ h=>⟨⟨h32,by omega,by omega,by omega,λ h2=>by omega⟩,hw⟩);refine Zc.mk rfl ⟨s,oS,Zc.mk rfl ⟨n,oS,?_⟩⟩;rw [Zh (by omega) (by omega)];have hn1:n + 1<bs.length:=by omega
      have hh:(bs.drop (n + 1)).head? =some bs[n + 1]:=by rw [List.drop_eq_getElem_cons hn1];rfl
      refine hs.ix Zao (n + 1) (by omega) hn1 ?_;refine Br.e (λ h0=>no (pno λ h2=>?_) hw) (λ h0=>⟨⟨h32,by omega,by omega,by omega,λ h2=>?_⟩,hw⟩)
      · exact h2.2.2.2.2 (by omega) (by rw [hh,h0])
      · rw [hh];intro h3;exact h0 (Option.some.inj h3)
    refine Br.d (λ h16=>?_) (λ h16=>?_)
    · refine Br.e (λ h0=>no (pno λ h2=>?_) hw) (λ h0=>last (.inl (by omega)))
      have:=h2.2.2.2.1 (by omega);omega
    · refine last ?_
      rw [if_neg (by omega)] at hk;by_cases hk0:k=0
      · exact .inr (by omega)
      · exact .inl hk0
  clear hw;rintro _ w ⟨hp,hw⟩;have e:=pyes hp;rw [e];obtain ⟨h32,hk8,hkl,_,_⟩:=hp;have hbd:∀ j,∀ x∈(bs.drop (n + 1)).take j,0<=x/\x<256:=λ j x hx=>hb x (List.mem_of_mem_drop (List.mem_of_mem_take hx));have vb:∀ j,j<=8->0<=ZhR 0 ((bs.drop (n + 1)).take j)/\ZhR 0 ((bs.drop (n + 1)).take j)<256 ^ j:=λ j hj=>by
    refine ⟨Zi1 (by omega) (hbd j),?_⟩;have h1:=Zi2 (acc:=0) (by omega) (hbd j);have h2:((bs.drop (n + 1)).take j).length<=j:=by rw [List.length_take];omega
    have h3:(256:Int) ^ ((bs.drop (n + 1)).take j).length<=256 ^ j:=p256 h2;rw [show (0:Int) + 1=1 from rfl,Int.one_mul] at h1
    omega
  refine ⟨λ x i w=>∃ j:Nat,i=j/\j<=k/\x=ZhR 0 ((bs.drop (n + 1)).take j)/\Sat R (pts r (Z6 s n bad)::Hs) w,λ _ i _=>k - i.toNat,⟨0,rfl,by omega,rfl,hw⟩,?_⟩;clear hw;rintro _ _ _ w ⟨j,rfl,hj,rfl,hw⟩;refine Br.d (λ h=>Zo hw λ w hw=>?_) (λ h=>?_)
  · refine Zc.mk rfl ⟨s,oS,Zc.mk rfl ⟨n,oS,?_⟩⟩
    rw [Zh (x:=(n:Int) + 1) (by omega) (by omega),Zh (x:=(n:Int) + 1 + j) (by omega) (by omega)];have hnj:n + 1 + j<bs.length:=by omega
    refine hs.ix Zao (n + 1 + j) (by omega) hnj ?_;have hx:=hb bs[n + 1 + j] (List.getElem_mem _);have et:(bs.drop (n + 1)).take (j + 1)=(bs.drop (n + 1)).take j++[bs[n + 1 + j]]:=by
      rw [List.take_add_one,List.getElem?_drop,List.getElem?_eq_getElem hnj];rfl
    have hv:=vb j (by omega);have hv2:=vb (j + 1) (by omega);rw [et,ZeQ] at hv2;have h7:(256:Int) ^ j<=256 ^ 7:=p256 (by omega);have hv3:=hv.2;have e7:(256:Int) ^ 7=72057594037927936:=by decide
    rw [ZK (x:=bs[n + 1 + j]) (by omega) (by omega),ZK (x:=ZhR 0 ((bs.drop (n + 1)).take j) * 256) (by omega) (by omega),ZK (by omega) (by omega),Zh (by omega) (by omega)];exact ⟨⟨j + 1,by omega,by omega,by rw [et,ZeQ],hw⟩,by dsimp only;omega⟩
  · have:j=k:=by omega
    subst this;rw [Zh (by omega) (by omega)];refine ⟨?_,hw⟩;simp
theorem ZG {r:Nat} {s:Sl} {bs:List Int} {rd:Rd} {most:Int} (hl:bs.length<=1099511627776) (hb:∀ x∈bs,0<=x/\x<256) (hs:SlR R.m s (b8 bs)) (hw:Sat R (ZT r s bs rd::Hs) w):
    Zm prog 84 #[.pointer (some ⟨r,0,none⟩),.int .u64 most] w λ v w'=>v=.int .u64 (Ze most rd).1/\Sat R (ZT r s bs (Ze most rd).2::Hs) w':=by
  obtain ⟨n,⟨hn,hd⟩,hw⟩:=Sat.rrd.1 hw;apply Zy3;refine (Zig hl hb hs hn hw).use ?_;rintro _ w ⟨rfl,hw⟩;refine ⟨_,_,_,rfl,?_⟩;rw [hd];have bad:Ze most rd=(0,⟨rd.bs,true⟩)->Zc (some ⟨r,0,none⟩) λ a_t25=>
      ∃ w_2:World,((Instr.storeAt 4 (.pointer ((some ⟨a_t25.block,a_t25.off + 2,none⟩))) (.bool true)).run prog w=.ok () w_2)/\
      (Value.int .u64 0=.int .u64 (Ze most rd).1/\Sat R (ZT r s bs (Ze most rd).2::Hs) w_2):=λ e=>by
    refine Zc.mk rfl ?_;refine Za hw (by kernel_rfl) rfl (by simp [Value.cells]) λ w hw=>?_;have hw:=hw.re (pts r (Z6 s n true));rw [e];exact ⟨rfl,Sat.rrd.2 ⟨n,⟨hn,hd⟩,hw⟩⟩
  refine ⟨λ w=>(∃ x k,rd.bad=false/\Za3 rd.bs=some (x,false,k)/\x<=most)/\Sat R (pts r (Z6 s n rd.bad)::Hs) w,?_,?_⟩
  · by_cases hbd:rd.bad=true
    · have e:Zbc ⟨rd.bs,rd.bad⟩=(0,false,0):=by unfold Zbc;rw [if_pos hbd]
      rw [e];dsimp only;refine Br.mk (λ h=>bad ?_) (λ h=>by simp at h);unfold Ze;rw [if_pos hbd];rw [show rd=⟨rd.bs,rd.bad⟩ from rfl,hbd]
    · have hbd:rd.bad=false:=by simpa using hbd
      cases hp:Za3 rd.bs with
      |none=>
        have e:Zbc ⟨rd.bs,rd.bad⟩=(0,false,0):=by unfold Zbc;simp [hp]
        rw [e];dsimp only;refine Br.mk (λ h=>bad ?_) (λ h=>by simp at h);unfold Ze;rw [if_neg (by rw [hbd];simp),hp]
      |some p=>
        obtain ⟨x,neg,k⟩:=p;have e:Zbc ⟨rd.bs,rd.bad⟩=(x,neg,(k:Int)):=by unfold Zbc;simp [hp,hbd]
        rw [e];dsimp only;have hb2:∀ x∈rd.bs,0<=x/\x<256:=λ x hx=>hb x (by rw [<-hd] at hx;exact List.mem_of_mem_drop hx);obtain ⟨_,_,k0,_,_⟩:=Zd1 hb2 hp;have e2:Ze most rd=if neg=false/\x<=most then (x,⟨rd.bs.drop k,false⟩) else (0,⟨rd.bs,true⟩):=by
          unfold Ze;rw [if_neg (by rw [hbd];simp),hp]
        refine Br.e (λ h=>by omega) (λ _=>Br.mk (λ h=>bad ?_) (λ h=>Br.d (λ h2=>bad ?_) (λ h2=>?_)))
        · rw [e2,if_neg (by rintro ⟨h3,_⟩;rw [h3] at h;cases h)]
        · rw [e2,if_neg (by rintro ⟨_,h3⟩;omega)]
        · exact ⟨⟨x,k,hbd,by rw [h],by omega⟩,hw⟩
  clear bad hw;rintro _ w ⟨⟨x,k,hbd,hp,hx⟩,hw⟩;have hb2:∀ x∈rd.bs,0<=x/\x<256:=λ x hx=>hb x (by rw [<-hd] at hx;exact List.mem_of_mem_drop hx);obtain ⟨_,_,k0,_,k2⟩:=Zd1 hb2 hp;have e:Zbc ⟨rd.bs,rd.bad⟩=(x,false,(k:Int)):=by unfold Zbc;simp [hp,hbd]
  have e2:Ze most rd=(x,⟨rd.bs.drop k,false⟩):=by
    unfold Ze;rw [if_neg (by rw [hbd];simp),hp];dsimp only;rw [if_pos ⟨rfl,hx⟩]
  rw [e,e2];dsimp only;have hlen:rd.bs.length=bs.length - n:=by rw [<-hd,List.length_drop]
  refine Zc.mk rfl ⟨n,oA hw,Zc.mk rfl ?_⟩;dsimp only;rw [Zh (by omega) (by omega)];refine Za hw (by kernel_rfl) rfl (by simp [Value.cells]) λ w hw=>?_;rw [hbd] at hw;have hw:=hw.re (pts r (Z6 s (n + k) false));exact ⟨rfl,Sat.rrd.2 ⟨n + k,⟨by omega,by rw [<-List.drop_drop,hd]⟩,hw⟩⟩
theorem Zdt {r:Nat} {s:Sl} {bs:List Int} {rd:Rd} (hs:SlR R.m s (b8 bs)) (hw:Sat R (ZT r s bs rd::Hs) w):
    Zm prog 86 #[.pointer (some ⟨r,0,none⟩)] w λ v w'=>v=.bool (Z0 rd)/\Sat R (ZT r s bs rd::Hs) w':=by
  have hsl:s.len=bs.length:=by have:=hs.len;simpa using this
  obtain ⟨n,⟨hn,hd⟩,hw⟩:=Sat.rrd.1 hw;have hlen:rd.bs.length=bs.length - n:=by rw [<-hd,List.length_drop]
  apply Zy1;refine Zo hw λ w hw=>?_;refine Zc.mk rfl ⟨rd.bad,oS,Br.nb (λ h=>?_) (λ h=>?_)⟩
  · refine Zc.mk rfl ⟨n,oS,Zc.mk rfl ⟨s,oS,?_,Sat.rrd.2 ⟨n,⟨hn,hd⟩,hw⟩⟩⟩
    unfold Z0;rw [h,hsl]
    congr 1
    rw [Bool.not_false,Bool.true_and,hlen];show decide ((n:Int)=(bs.length:Int))=_;rw [decide_eq_decide];omega
  · refine ⟨?_,Sat.rrd.2 ⟨n,⟨hn,hd⟩,hw⟩⟩
    unfold Z0;rw [h];rfl
end
section
open Go Go.VC Tryz
variable {R:Cx} {Hs Rest:List HP} {w:World}
def Zv (l:List Int):List Int:=(l.map λ x=>ZeP x.toNat).flatten
theorem ZoD {l:List Int} {k:Nat} (hk:k<l.length):Zv (l.take (k + 1))=Zv (l.take k)++ZeP l[k].toNat:=by
 unfold Zv;rw [List.take_add_one,List.getElem?_eq_getElem hk,List.map_append,List.flatten_append];simp only [Option.toList_some,List.map_cons,List.map_nil,List.flatten_cons,List.flatten_nil,List.append_nil]
theorem Zae:∀ {l:List Int},(∀ x∈l,0<=x/\x<18446744073709551616)->(Zv l).length<=9 * l.length
 |[],_=>by simp [Zv]
 |x::l,h=>by
  have h1:=h x (List.mem_cons_self ..);have:=Zbw (n:=x.toNat) (by omega);have h2:=Zae (l:=l) λ y hy=>h y (List.mem_cons_of_mem _ hy);unfold Zv at h2 ⊢;rw [List.map_cons,List.flatten_cons,List.length_append,List.length_cons];omega
theorem ZcE:∀ {l:List Int},(∀ x∈l,0<=x/\x<18446744073709551616)->∀ y∈Zv l,0<=y/\y<256
 |[],_=>by simp [Zv]
 |x::l,h=>λ y hy=>by
  have h1:=h x (List.mem_cons_self ..);unfold Zv at hy;rw [List.map_cons,List.flatten_cons,List.mem_append] at hy;rcases hy with hy|hy
  ·exact Zmh (n:=x.toNat) (by omega) y hy
  ·exact ZcE (λ y hy=>h y (List.mem_cons_of_mem _ hy)) y hy
theorem Zla (a b:List Int):Zv (a++b)=Zv a++Zv b:=by simp [Zv]
def Zgm (p:Nat) (bs:List Int):HP:=exs λ s:Sl=>Zgu [lp p s,Own s 5 (b8 bs)]
theorem Sat.outB {p:Nat} {bs:List Int}:Sat R (Zgm p bs::Hs) w↔∃ s:Sl,Sat R (lp p s::Own s 5 (b8 bs)::Hs) w:=by
 unfold Zgm;rw [Sat.exs];exact ⟨λ⟨s,h⟩=>⟨s,Sat.star.1 h⟩,λ⟨s,h⟩=>⟨s,Sat.star.2 h⟩⟩
theorem Zu5 {f:FuncId} {p:Nat} {s:Sl} {xs bs:List Int} (hxs:∀ x∈xs,0<=x/\x<9223372036854775808) (hl:bs.length + 9 * xs.length<=1099511627776) (hs:RoI R s xs) (hw:Sat R (Zgm p bs::Hs) w)
  (hf:∀ {K:Value->World->Prop} {w:World},B125 s (some ⟨p,0,none⟩) K w->Zm prog f #[.slice s.a s.len s.cap,.pointer (some ⟨p,0,none⟩)] w K):
  Zm prog f #[.slice s.a s.len s.cap,.pointer (some ⟨p,0,none⟩)] w λ v w'=>v=.tuple #[]/\Sat R (Zgm p (bs++Zv xs)::Hs) w':=by
 have hlen:=hs.len;apply hf;refine ⟨λ i w=>∃ k:Nat,i=k/\k<=xs.length/\Sat R (Zgm p (bs++Zv (xs.take k))::Hs) w,λ i _=>xs.length - i.toNat,⟨0,rfl,by omega,by simpa [Zv] using hw⟩,?_⟩;clear hw;rintro _ _ w ⟨k,rfl,hk,hw⟩;refine Br.d (λ h=>?_) (λ h=>?_)
 ·have hkx:k<xs.length:=by omega
  have hx:=hxs xs[k] (List.getElem_mem _);have hxt:∀ x∈xs.take k,0<=x/\x<18446744073709551616:=λ x hx=>by have:=hxs x (List.mem_of_mem_take hx);omega
  have hnl:=Zae hxt;rw [List.length_take] at hnl;refine hs.idx (eqS hw) hkx ?_;obtain ⟨s0,hw⟩:=Sat.outB.1 hw;refine ZaN hw λ w hw=>?_;refine Zc.mk rfl ⟨s0,oS,?_⟩;obtain ⟨n,hn⟩:=Int.eq_ofNat_of_zero_le hx.1;rw [hn,ZK (by omega) (by omega)];refine (Zcl (by omega) hw).use ?_;rintro _ w ⟨t,rfl,hw⟩;refine ⟨t,rfl,hw.absorb,?_⟩;have hw:Sat R (Own s0 5 (b8 (bs++Zv (xs.take k)))::Own t 5 (b8 (ZeP n))::lp p s0::VC.tru::Hs) w:=hw.arr;have hnb:=Zbw (n:=n) (by omega);refine Zdi ZrD (s:=s0) (n:=1099511627790) underlying42 hw (by rw [List.length_append];omega) (by omega) (by omega) λ s2 w hw=>?_;have hw:Sat R (lp p s0::Own s2 5 (b8 (bs++Zv (xs.take k)++ZeP n))::Hs) w:=by
   have h:Sat R (Own t 5 (b8 (ZeP n))::VC.tru::lp p s0::Own s2 5 (b8 (bs++Zv (xs.take k)++ZeP n))::Hs) w:=hw.arr;exact h.drop.drop
  refine Za hw (by kernel_rfl) rfl (by simp [Value.cells]) λ w hw=>?_;have hw:=hw.re (lp p s2);rw [Zh (by omega) (by omega)];refine ⟨⟨k + 1,by omega,by omega,Sat.outB.2 ⟨s2,?_⟩⟩,by dsimp only;omega⟩;rw [ZoD hkx,hn,Int.toNat_natCast,<-List.append_assoc];exact hw
 ·have:k=xs.length:=by omega
  subst this;rw [List.take_length] at hw;exact ⟨rfl,hw⟩
theorem Zly {p:Nat} {s:Sl} {xs bs:List Int} (hxs:∀ x∈xs,0<=x/\x<9223372036854775808) (hl:bs.length + 9 * xs.length<=1099511627776) (hs:RoI R s xs) (hw:Sat R (Zgm p bs::Hs) w):
  Zm prog 125 #[.slice s.a s.len s.cap,.pointer (some ⟨p,0,none⟩)] w λ v w'=>v=.tuple #[]/\Sat R (Zgm p (bs++Zv xs)::Hs) w':=
 Zu5 hxs hl hs hw λ h=>ZxI _ _ _ _ h
end
section
open Go Go.VC Tryz
variable {R:Cx} {Hs Rest:List HP} {w:World}
def ZhV (h:ZD) (t:Sl):List Value:=[.int .i64 h.owner,.int .i64 h.cls,.int .i64 h.many,.slice t.a t.len t.cap]
def ZbQ (L:List ZD) (ts:List Sl):List (List Value):=(L.zip ts).map λ x=>ZhV x.1 x.2
def Za9 (L:List ZD) (ts:List Sl):List HP:=(L.zip ts).map λ x=>ZA x.2 (Zd x.1.seats)
def ZaV (s:Sl) (L:List ZD):HP:=exs λ ts:List Sl=>Zgu (pur (ts.length=L.length)::Zt 4 s 176 (ZbQ L ts)::Za9 L ts)
theorem Sat.holdsL {s:Sl} {L:List ZD}:Sat R (ZaV s L::Hs) w↔∃ ts:List Sl,ts.length=L.length/\Sat R (Zt 4 s 176 (ZbQ L ts)::(Za9 L ts++Hs)) w:=by
 unfold ZaV;rw [Sat.exs];constructor
 ·rintro ⟨ts,h⟩
  obtain ⟨h1,h2⟩:=Sat.pur.1 (Sat.star.1 h);exact ⟨ts,h1,h2⟩
 ·rintro ⟨ts,h1,h2⟩
  exact ⟨ts,Sat.star.2 (Sat.pur.2 ⟨h1,h2⟩)⟩
structure HsR (R:Cx) (s:Sl) (L:List ZD) (ts:List Sl):Prop where
 len:ts.length=L.length
 rows:RoN 4 R s (ZbQ L ts)
 seats:∀ i (h:i<L.length) (h':i<ts.length),SlR R.m ts[i] (Zd L[i].seats)
theorem Zid:∀ {L:List ZD} {ts:List Sl} {R:Cx},ts.length=L.length->Sat R (Za9 L ts++Hs) w->∃ R':Cx,R.Ext R'/\(∀ i (h:i<L.length) (h':i<ts.length),SlR R'.m ts[i] (Zd L[i].seats))/\Sat R' Hs w
 |[],_,R,_,hw=>⟨R,Cx.Ext.refl,λ i h=>by simp at h,by simpa [Za9] using hw⟩
 |h::L,[],R,hl,_=>by simp at hl
 |h::L,t::ts,R,hl,hw=>by
  have hw:Sat R (ZA t (Zd h.seats)::(Za9 L ts++Hs)) w:=hw;obtain ⟨R1,e1,s1,hw⟩:=ZA.leak hw;obtain ⟨R2,e2,s2,hw⟩:=Zid (by simpa using hl) hw;refine ⟨R2,e1.trans e2,λ i h h'=>?_,hw⟩;rcases i with _|i
  ·exact e2.slR s1
  ·exact s2 i (by simpa using h) (by simpa using h')
theorem ZaV.leak {s:Sl} {L:List ZD} (hw:Sat R (ZaV s L::Hs) w):∃ (R':Cx) (ts:List Sl),R.Ext R'/\HsR R' s L ts/\Sat R' Hs w:=by
 obtain ⟨ts,hl,hw⟩:=Sat.holdsL.1 hw;obtain ⟨R1,e1,hr,hw⟩:=Zt.leak hw;obtain ⟨R2,e2,hs,hw⟩:=Zid hl hw;exact ⟨R2,ts,e1.trans e2,⟨hl,e2.roN hr,hs⟩,hw⟩
end
section
open Go Go.VC Tryz
variable {R:Cx} {Hs Rest:List HP} {w:World}
theorem Zbs {L:List ZD} {ts:List Sl} (h:ts.length=L.length):(ZbQ L ts).length=L.length:=by simp [ZbQ,h]
theorem Zm9 {L:List ZD} {ts:List Sl} {k:Nat} (h:k<L.length) (h':k<ts.length) (h2:k<(ZbQ L ts).length):(ZbQ L ts)[k]=ZhV L[k] ts[k]:=by simp [ZbQ]
theorem HsR.fld {s:Sl} {L:List ZD} {ts:List Sl} {S:World->Prop} {k j:Nat} {v:Value} (hr:HsR R s L ts) (hS:∀ w,S w->Sat R Hs w) (hk:k<L.length) (hk':k<ts.length) (hv:(ZhV L[k] ts[k])[j]? =some v) {F:Addr->Prop}
  (f:∀ a:Addr,a.spot=none->At S ⟨(a.add (Za6 k 4)).block,(a.add (Za6 k 4)).off + j,none⟩ [v]->F a):Rng (k:Int) s.len (Zc s.a F):=by
 have hl:=Zbs hr.len;refine (hr.rows.reads hS).rng (k:=k) (by omega) λ b off ha hat=>f _ rfl ?_;rw [ZnL];refine hat j [v] ?_;rw [Zm9 hk hk'];obtain ⟨hlt,he⟩:=List.getElem?_eq_some_iff.1 hv;rw [List.drop_eq_getElem_cons hlt,he];exact ⟨rfl,trivial⟩
theorem ZlQ (a:Addr) (k:Nat) (h:a.spot=none):Addr.add (Addr.add a (Za6 k 4)) 0=⟨(a.add (Za6 k 4)).block,(a.add (Za6 k 4)).off + 0,none⟩:=by
 obtain ⟨b,o,s⟩:=a;dsimp only at h;subst h;rw [Zy,Zy]
def ZyE (a b:ZD):Prop:=a.owner=b.owner/\a.cls=b.cls/\a.many=b.many/\a.seats=b.seats
theorem ZtC {a b:ZD} (h:ZyE a b):a=b:=by
 obtain ⟨h1,h2,h3,h4⟩:=h;cases a;cases b;simp_all
instance:DecidableEq ZD:=λ a b=>decidable_of_iff (a.owner=b.owner/\a.cls=b.cls/\a.many=b.many/\a.seats=b.seats) ⟨ZtC,λ h=>by subst h;exact ⟨rfl,rfl,rfl,rfl⟩⟩
end
section
open Go Go.VC Tryz
variable {R:Cx} {Hs Rest:List HP} {w:World}
structure RF where
 num:Int
 rows:Int
 grps:List Int
 lims:List Int
 L:List ZD
abbrev ZF (r:RF) (sg sl s:Sl):Obj:=.cells [.int .i64 r.num,.int .i64 r.rows,.slice sg.a sg.len sg.cap,.slice sl.a sl.len sl.cap,.slice s.a s.len s.cap].toArray 149 (0,0)
end
section
open Go Go.VC Tryz
def Zer (k:Int):List ZD->Int
 |[]=>0
 |h::L=>(if h.cls=k then h.many else 0) + Zer k L
def Z4 (n:Nat) (L:List ZD):List Int:=(List.range n).map λ (k:Nat)=>Zer (k:Int) L
def Zz (L:List ZD):List Int:=L.flatMap ZD.seats
theorem Zc3 (k:Int) (h:ZD) (L:List ZD):Zer k (h::L)=(if h.cls=k then h.many else 0) + Zer k L:=rfl
theorem Zeb (k:Int):∀ A B:List ZD,Zer k (A++B)=Zer k A + Zer k B
 |[],B=>by simp [Zer]
 |h::A,B=>by simp only [List.cons_append,Zer,Zeb k A B];omega
theorem Zc2 {k:Int} {A B:List ZD} (h:A.Perm B):Zer k A=Zer k B:=by
 induction h with
 |nil=>rfl
 |cons x _ ih=>simp only [Zer,ih]
 |swap x y l=>simp only [Zer];exact Int.add_left_comm _ _ _
 |trans _ _ a b=>exact a.trans b
theorem ZaM (n:Nat) (L:List ZD):(Z4 n L).length=n:=by simp [Z4]
theorem ZcR {n k:Nat} {L:List ZD} (h:k<(Z4 n L).length):(Z4 n L)[k]=Zer (k:Int) L:=by simp [Z4]
theorem Zbm {n k:Nat} {L:List ZD} (h:k<n):(Z4 n L).getD k 0=Zer (k:Int) L:=by
 rw [List.getD_eq_getElem?_getD,List.getElem?_eq_getElem (by rw [ZaM];exact h),ZcR];rfl
theorem Zkx {n:Nat} {L L':List ZD} {c:Int} {x:Int} (h0:0<=c) (h1:c<n) (hc:Zer c L'=x) (ho:∀ k:Nat,(k:Int)≠c->Zer (k:Int) L'=Zer (k:Int) L):(Z4 n L).set c.toNat x=Z4 n L':=by
 apply List.ext_getElem
 ·simp [Z4]
 ·intro i h2 h3
  rw [List.getElem_set];split
  ·rename_i e
   rw [ZcR];rw [<-hc]
   congr 1
   omega
  ·rename_i e
   rw [ZcR,ZcR];exact (ho i (by omega)).symm
theorem Zds {n:Nat} {h:ZD} {L L':List ZD} (p:L'.Perm (h::L)) (h0:0<=h.cls) (h1:h.cls<n):(Z4 n L).set h.cls.toNat ((Z4 n L).getD h.cls.toNat 0 + h.many)=Z4 n L':=by
 refine Zkx h0 h1 ?_ λ k hk=>?_
 ·rw [Zbm (by omega),Zc2 p,show ((h.cls.toNat:Nat):Int)=h.cls by omega]
  rw [Zc3,if_pos rfl];omega
 ·rw [Zc2 p]
  show (if h.cls=(k:Int) then h.many else 0) + Zer (k:Int) L=_
  rw [if_neg (λ e=>hk e.symm)];omega
theorem ZpT {n:Nat} {h:ZD} {L L':List ZD} (p:L'.Perm (h::L)) (h0:0<=h.cls) (h1:h.cls<n):(Z4 n L').set h.cls.toNat ((Z4 n L').getD h.cls.toNat 0 - h.many)=Z4 n L:=by
 refine Zkx h0 h1 ?_ λ k hk=>?_
 ·rw [Zbm (by omega),Zc2 p,show ((h.cls.toNat:Nat):Int)=h.cls by omega]
  show _=(if h.cls=h.cls then h.many else 0) + Zer h.cls L - h.many
  rw [if_pos rfl];omega
 ·rw [Zc2 p]
  show _=(if h.cls=(k:Int) then h.many else 0) + Zer (k:Int) L
  rw [if_neg (λ e=>hk e.symm)];omega
def Zb9 (o:Int):List ZD->Option ZD
 |[]=>none
 |h::L=>if h.owner=o then some h else Zb9 o L
def ZpY (o:Int) (h':ZD):List ZD->List ZD
 |[]=>[]
 |h::L=>if h.owner=o then h'::L else h::ZpY o h' L
def Zuz (o:Int):List ZD->List ZD
 |[]=>[]
 |h::L=>if h.owner=o then L else h::Zuz o L
def Zls (h:ZD):List ZD->List ZD
 |[]=>[h]
 |x::L=>if x.owner<h.owner then x::Zls h L else h::x::L
theorem ZaD (o:Int) (h:ZD) (L:List ZD):Zb9 o (h::L)=if h.owner=o then some h else Zb9 o L:=rfl
theorem ZbZ {o:Int}:∀ {L:List ZD},Zb9 o L=none↔∀ h∈L,h.owner≠o
 |[]=>by simp [Zb9]
 |h::L=>by
  rw [ZaD];constructor
  ·intro e x hx
   split at e
   ·cases e
   ·rename_i hne
    rcases List.mem_cons.1 hx with rfl|hx
    ·exact hne
    ·exact ZbZ.1 e x hx
  ·intro e
   rw [if_neg (e h List.mem_cons_self)];exact ZbZ.2 λ x hx=>e x (List.mem_cons_of_mem _ hx)
theorem ZbK {o:Int} {h:ZD}:∀ {L:List ZD},Zb9 o L=some h->∃ A C,L=A++h::C/\Zb9 o A=none/\h.owner=o
 |[],e=>by cases e
 |x::L,e=>by
  rw [ZaD] at e;split at e
  ·rename_i hx;cases e;exact ⟨[],L,rfl,rfl,hx⟩
  ·rename_i hx
   obtain ⟨A,C,rfl,hA,ho⟩:=ZbK e;exact ⟨x::A,C,rfl,by rw [ZaD,if_neg hx];exact hA,ho⟩
theorem ZjP {o:Int} {h:ZD} {C:List ZD} (ho:h.owner=o):∀ {A:List ZD},Zb9 o A=none->Zb9 o (A++h::C)=some h
 |[],_=>by show Zb9 o (h::C)=_;rw [ZaD,if_pos ho]
 |x::A,e=>by
  rw [ZaD] at e;split at e
  ·cases e
  ·rename_i hx
   show Zb9 o (x::(A++h::C))=_;rw [ZaD,if_neg hx];exact ZjP ho e
theorem ZeU {o:Int} {h h':ZD} {C:List ZD} (ho:h.owner=o):∀ {A:List ZD},Zb9 o A=none->ZpY o h' (A++h::C)=A++h'::C
 |[],_=>by show ZpY o h' (h::C)=_;unfold ZpY;rw [if_pos ho];rfl
 |x::A,e=>by
  rw [ZaD] at e;split at e
  ·cases e
  ·rename_i hx
   show ZpY o h' (x::(A++h::C))=_;unfold ZpY;rw [if_neg hx,ZeU ho e];rfl
theorem Zj0 {o:Int} {h:ZD} {C:List ZD} (ho:h.owner=o):∀ {A:List ZD},Zb9 o A=none->Zuz o (A++h::C)=A++C
 |[],_=>by show Zuz o (h::C)=_;unfold Zuz;rw [if_pos ho];rfl
 |x::A,e=>by
  rw [ZaD] at e;split at e
  ·cases e
  ·rename_i hx
   show Zuz o (x::(A++h::C))=_;unfold Zuz;rw [if_neg hx,Zj0 ho e];rfl
theorem ZbA (h:ZD):∀ L:List ZD,(Zls h L).Perm (h::L)
 |[]=>List.Perm.refl _
 |x::L=>by
  unfold Zls;split
  ·exact ((ZbA h L).cons x).trans (List.Perm.swap _ _ _)
  ·exact List.Perm.refl _
def OwR (L:List ZD):Prop:=L.Pairwise λ a b=>a.owner<b.owner
theorem OwR.ne {L:List ZD} (h:OwR L):L.Pairwise λ a b=>a.owner≠b.owner:=h.imp λ h e=>by omega
theorem ZgE {o:Int} {h:ZD}:∀ {L:List ZD},(L.Pairwise λ a b=>a.owner≠b.owner)->(Zb9 o L=some h↔h∈L/\h.owner=o)
 |[],_=>by simp [Zb9]
 |x::L,hp=>by
  obtain ⟨h1,h2⟩:=List.pairwise_cons.1 hp;rw [ZaD];split
  ·rename_i hx
   constructor
   ·intro e;cases e;exact ⟨List.mem_cons_self,hx⟩
   ·rintro ⟨hm,ho⟩
    rcases List.mem_cons.1 hm with rfl|hm
    ·rfl
    ·exact absurd (hx.trans ho.symm) (h1 h hm)
  ·rename_i hx
   rw [ZgE h2];constructor
   ·rintro ⟨a,b⟩;exact ⟨List.mem_cons_of_mem _ a,b⟩
   ·rintro ⟨hm,ho⟩
    rcases List.mem_cons.1 hm with rfl|hm
    ·exact absurd ho hx
    ·exact ⟨hm,ho⟩
theorem Zrs {o:Int} {A B:List ZD} (p:A.Perm B) (h:A.Pairwise λ a b=>a.owner≠b.owner):Zb9 o A=Zb9 o B:=by
 have h':B.Pairwise λ a b=>a.owner≠b.owner:=(p.pairwise_iff λ h=>h.symm).1 h;apply Option.ext;intro x;rw [ZgE h,ZgE h',p.mem_iff]
theorem Zlr {h:ZD}:∀ {L:List ZD},OwR L->Zb9 h.owner L=none->OwR (Zls h L)
 |[],_,_=>by simp [OwR,Zls]
 |x::L,hp,hn=>by
  obtain ⟨h1,h2⟩:=List.pairwise_cons.1 hp;rw [ZaD] at hn;split at hn
  ·cases hn
  rename_i hx;unfold Zls;split
  ·rename_i hlt
   refine List.pairwise_cons.2 ⟨λ y hy=>?_,Zlr h2 hn⟩;rcases List.mem_cons.1 ((ZbA h L).mem_iff.1 hy) with rfl|hy
   ·exact hlt
   ·exact h1 y hy
  ·rename_i hlt
   refine List.pairwise_cons.2 ⟨λ y hy=>?_,hp⟩;rcases List.mem_cons.1 hy with rfl|hy
   ·omega
   ·have:=h1 y hy;omega
theorem Zu9 {A C:List ZD} {h h':ZD} (ho:h'.owner=h.owner) (hp:OwR (A++h::C)):OwR (A++h'::C):=by
 unfold OwR at *;rw [List.pairwise_append,List.pairwise_cons] at *;refine ⟨hp.1,⟨λ y hy=>by rw [ho];exact hp.2.1.1 y hy,hp.2.1.2⟩,λ a ha b hb=>?_⟩;rcases List.mem_cons.1 hb with rfl|hb
 ·rw [ho];exact hp.2.2 a ha h List.mem_cons_self
 ·exact hp.2.2 a ha b (List.mem_cons_of_mem _ hb)
theorem Zva {A C:List ZD} {h:ZD} (hp:OwR (A++h::C)):OwR (A++C):=by
 unfold OwR at *;rw [List.pairwise_append,List.pairwise_cons] at hp;rw [List.pairwise_append];exact ⟨hp.1,hp.2.1.2,λ a ha b hb=>hp.2.2 a ha b (List.mem_cons_of_mem _ hb)⟩
def RF.sold (r:RF):List Int:=Z4 r.lims.length r.L
def ZN (r:RF) (owner cls many:Int):RF × Int:=
 if owner<1\/owner>28629151 then (r,1) else if (Zb9 owner r.L).isSome then (r,7)
 else if (Za5 r.lims r.sold cls many).2=0 then ({ r with L:=Zls ⟨owner,cls,many,[]⟩ r.L },0) else (r,(Za5 r.lims r.sold cls many).2)
def ZbR (r:RF) (owner:Int):RF × Int:=
 match Zb9 owner r.L with
 |none=>(r,2)
 |some _=>({ r with L:=Zuz owner r.L },0)
def Zad (r:RF) (owner:Int) (lab:ByteArray):RF × Int:=
 match Zb9 owner r.L with
 |none=>(r,2)
 |some h=>if (Zbe r.rows r.grps lab).2≠0 then (r,2) else if (h.seats.length:Int) >= h.many then (r,7)
  else if (Zbe r.rows r.grps lab).1∈Zz r.L then (r,3)
  else ({ r with L:=ZpY owner (h.put (Zbe r.rows r.grps lab).1) r.L },0)
def Zap (r:RF) (owner:Int):RF × List ByteArray × Int:=
 match Zb9 owner r.L with
 |none=>(r,[],2)
 |some h=>if h.seats.length>0 then (r,[],7)
  else if (Zal r.rows r.grps (Zz r.L) h.many).2=0 then ({ r with L:=ZpY owner { h with seats:=(Zal r.rows r.grps (Zz r.L) h.many).1 } r.L },ZdD r.rows r.grps (Zal r.rows r.grps (Zz r.L) h.many).1,0)
  else (r,[],(Zal r.rows r.grps (Zz r.L) h.many).2)
def Zbt (r:RF) (owner:Int):List ByteArray:=match Zb9 owner r.L with|none=>[]|some h=>ZdD r.rows r.grps h.seats
def Zn (r:RF):List Int:=(List.range r.lims.length).map λ (k:Nat)=>(ZaW r.lims r.sold k).1
structure ZuI (n:Nat) (N:Int) (h:ZD):Prop where
 owner:1<=h.owner/\h.owner<=28629151
 cls:0<=h.cls/\h.cls<n
 many:1<=h.many
 rise:Zpq h.seats
 few:(h.seats.length:Int)<=h.many
 seats:∀ x∈h.seats,0<=x/\x<N
structure ZaA (r:RF):Prop where
 num:1<=r.num/\r.num<=9999
 lay:Zdg r.rows r.grps=true
 nest:Z1 r.lims r.sold=true
 l0:r.lims.getD 0 0=ZaL r.rows r.grps
 rise:OwR r.L
 each:∀ h∈r.L,ZuI r.lims.length (ZaL r.rows r.grps) h
 apart:r.L.Pairwise λ a b=>∀ x∈a.seats,x ∉ b.seats
structure Tie (f:PF) (r:RF):Prop where
 num:f.num=r.num
 rows:f.rows=r.rows
 grps:f.grps=r.grps
 lims:f.lims=r.lims
 sold:f.sold=r.sold
 hs:(f.hs.map (·.2)).Perm r.L
 key:∀ e∈f.hs,e.2.owner=e.1
 own:∀ n o,ZH n f.own=some o↔∃ h∈r.L,h.owner=o/\n∈h.seats
 nod:(f.own.map (·.1)).Nodup
theorem Zm1 {o:Int}:∀ {hs:List (Int × ZD)},(∀ e∈hs,e.2.owner=e.1)->ZH o hs=Zb9 o (hs.map (·.2))
 |[],_=>rfl
 |e::hs,h=>by
  have h1:=h e List.mem_cons_self;have ih:=Zm1 (o:=o) λ x hx=>h x (List.mem_cons_of_mem _ hx);rw [List.map_cons,ZaD,h1,<-ih];show (if o==e.1 then some e.2 else ZH o hs)=_
  by_cases he:e.1=o
  ·rw [if_pos he,if_pos (by rw [he];exact beq_self_eq_true o)]
  ·rw [if_neg he,if_neg (by rw [beq_iff_eq];exact λ e'=>he e'.symm)]
variable {f:PF} {r:RF}
theorem Tie.ne (t:Tie f r) (g:OwR r.L):(f.hs.map (·.2)).Pairwise λ a b=>a.owner≠b.owner:=(t.hs.pairwise_iff λ h=>h.symm).2 g.ne
theorem Tie.get (t:Tie f r) (g:OwR r.L) (o:Int):ZH o f.hs=Zb9 o r.L:=by
 rw [Zm1 t.key,Zrs t.hs (t.ne g)]
theorem Tie.taken (t:Tie f r) (n:Int):(ZH n f.own).isSome=true↔n∈Zz r.L:=by
 unfold Zz;rw [List.mem_flatMap,Option.isSome_iff_exists];constructor
 ·rintro ⟨o,h⟩
  obtain ⟨x,hx,_,hn⟩:=(t.own n o).1 h;exact ⟨x,hx,hn⟩
 ·rintro ⟨x,hx,hn⟩
  exact ⟨x.owner,(t.own n x.owner).2 ⟨x,hx,rfl,hn⟩⟩
end
section
open Go Go.VC Tryz
variable {R:Cx} {Hs Rest:List HP} {w:World}
def ZyF:ZD:=⟨0,0,0,[]⟩
def Zep (f:PF) (k:Int):ZD:=(ZH k f.hs).getD ZyF
def Zeo (f:PF):List ZD:=(Zgp (f.hs.map (·.1))).map (Zep f)
theorem elH:ElN prog 147 147 176 4 48:=⟨underlying147,⟨_,underlying147⟩,by kernel_rfl⟩
theorem ZaV.nil (hw:Sat R Hs w):Sat R (ZaV ⟨none,0,0⟩ []::Hs) w:=Sat.holdsL.2 ⟨[],rfl,Zt.nil hw⟩
theorem Zif {L:List ZD} {ts:List Sl} (hl:ts.length=L.length) (h:ZD) (t:Sl):ZbQ (L++[h]) (ts++[t])=ZbQ L ts++[ZhV h t]:=by
 unfold ZbQ;rw [List.zip_append hl.symm,List.map_append];rfl
theorem Zl4 {L:List ZD} {ts:List Sl} (hl:ts.length=L.length) (h:ZD) (t:Sl):Za9 (L++[h]) (ts++[t])=Za9 L ts++[ZA t (Zd h.seats)]:=by
 unfold Za9;rw [List.zip_append hl.symm,List.map_append];rfl
theorem ZaV.snoc {s:Sl} {L:List ZD} {ts:List Sl} {h:ZD} {t:Sl} (hl:ts.length=L.length) (hw:Sat R (Zt 4 s 176 (ZbQ L ts++[ZhV h t])::ZA t (Zd h.seats)::(Za9 L ts++Hs)) w):Sat R (ZaV s (L++[h])::Hs) w:=by
 refine Sat.holdsL.2 ⟨ts++[t],by simp [hl],?_⟩;rw [Zif hl,Zl4 hl,List.append_assoc];exact hw.cons λ _ h5=>h5.perm List.perm_middle.symm
theorem Zhs {p:Nat} {f:PF} (hu:(f.hs.map (·.1)).Nodup) (hn:∀ k∈f.hs.map (·.1),-1000000000<=k/\k<=1000000000) (hlen:f.hs.length<=100000) (hR:∀ e∈f.hs,e.2.seats.length<=1000000) (hw:Sat R (Zl p f::Hs) w):
  Zm prog 105 #[.pointer (some ⟨p,0,none⟩)] w λ v w'=>∃ t:Sl,v=.slice t.a t.len t.cap/\Sat R (ZaV t (Zeo f)::Zl p f::Hs) w':=by
 obtain ⟨hm,om,sg,sl,ss,E,R',hE,_,_,_,_,hw,back⟩:=Sat.flightO hw;have hk1:(ZS E).map (·.1)=f.hs.map (·.1):=by rw [<-hE];simp [ZS,hEr,Function.comp_def]
 have hel:(ZS E).length=f.hs.length:=by rw [<-hE];simp [ZS,hEr]
 apply ZxY;refine Zc.mk rfl ⟨some hm,oA hw,?_⟩;refine Zkw (es:=ZS E) (by rw [hk1];exact hu) (by rw [hk1];exact hn) (by omega) (hw.take (MapAt hm (ZS E))) λ sk w hw=>?_;rw [hk1] at hw;have hksl:(Zgp (f.hs.map (·.1))).length=f.hs.length:=by unfold Zgp;rw [List.length_mergeSort,List.length_map]
 have hmem:∀ k∈Zgp (f.hs.map (·.1)),k∈f.hs.map (·.1):=λ k hk=>List.mem_mergeSort.1 hk;unfold Zeo;generalize Zgp (f.hs.map (·.1))=ks at *;obtain ⟨R2,e2,hks,hw⟩:=Own.leak hw;have hkl:=hks.len;rw [List.length_map] at hkl;have hro:RoI R2 sk ks:=hks.ro (by rw [List.length_map];omega);have hw:Sat R2 (FO p hm om sg sl ss E f Hs) w:=hw.arr;refine ⟨λ out i w=>∃ j:Nat,i=j/\j<=ks.length/\Sat R2 (ZaV out ((ks.take j).map (Zep f))::FO p hm om sg sl ss E f Hs) w,λ _ i _=>ks.length - i.toNat,⟨0,rfl,by omega,ZaV.nil hw⟩,?_⟩;clear hw;rintro _ out _ w ⟨j,rfl,hj,hw⟩;refine Br.d (λ h=>?_) (λ h=>?_)
 ·have hj2:j<ks.length:=by omega
  refine Ro.ix hro (eqS hw) j rfl hj2 ?_;have hkin:(ZH ks[j] E).isSome=true:=by
   have h1:=hmem ks[j] (List.getElem_mem _);rw [<-hE,hEr,List.map_map] at h1;obtain ⟨e,he,hek⟩:=List.mem_map.1 h1;have key:∀ (l:List HE),e∈l->(ZH ks[j] l).isSome=true:=λ l=>by
    induction l with
    |nil=>intro h;cases h
    |cons x l ih=>
     intro h;show (if ks[j]==x.1 then some x.2 else ZH ks[j] l).isSome=true
     split
     ·rfl
     ·rename_i hx
      rcases List.mem_cons.1 h with rfl|h
      ·exact absurd (beq_iff_eq.2 hek.symm) hx
      ·exact ih h
   exact key E he
  obtain ⟨⟨b,h⟩,hget⟩:=Option.isSome_iff_exists.1 hkin;have hof:Zep f ks[j]=h:=by unfold Zep;rw [<-hE,Zbk,hget];rfl
  have htk:(ks.take (j + 1)).map (Zep f)=(ks.take j).map (Zep f)++[h]:=by
   rw [List.take_add_one,List.getElem?_eq_getElem hj2,Option.toList_some,List.map_append,List.map_singleton,hof]
  have hLl:((ks.take j).map (Zep f)).length=j:=by rw [List.length_map,List.length_take];omega
  generalize (ks.take j).map (Zep f)=L at *;generalize ks[j]=k at *;obtain ⟨a,c,rfl,hna⟩:=Zan hget;have hl:h.seats.length<=1000000:=hR (k,h) (by rw [<-hE,Zcr];simp);refine Zc.mk rfl ⟨some hm,oA hw,some ⟨b,0,none⟩,λ w' e=>?_,Zc.mk rfl ?_⟩
  ·rw [show w'=w from e,Zcq (hw.take (MapAt hm (ZS (a++(k,b,h)::c)))) k false,hget];rfl
  have hw:Sat R2 (FO p hm om sg sl ss (a++(k,b,h)::c) f (ZaV out L::Hs)) w:=hw.arr;obtain ⟨s,hw⟩:=FO.open hw;refine ⟨h.owner,h.cls,h.many,s,At.own (eqS hw) (by exact ⟨rfl,rfl,rfl,rfl,trivial⟩),?_⟩;refine Zb hw λ bh w hw=>?_;have hw:Sat R2 (pts bh (Zx ⟨0,0,0,[]⟩ ⟨none,0,0⟩)::FO1 p hm om b sg sl ss s (a++(k,b,h)::c) (a++c) f h f.own (ZaV out L::Hs)) w:=hw;refine Za hw (by kernel_rfl) rfl (by simp [Value.cells]) λ w hw=>?_;have hw:=hw.re (pts bh (Zx h s));refine ⟨s,oA hw,?_⟩;obtain ⟨R3,hro3,_,hw3,back3⟩:=Own.lend (hw.take (Own s 3 (Zd h.seats))) (by rw [List.length_map];omega);refine (ZeL hro3 (by omega) hw3).use ?_;clear hw hw3;rintro _ w ⟨t,rfl,hw⟩;have hw:=back3 hw;refine ⟨t,rfl,?_⟩;have hw:Sat R2 (pts bh (Zx h s)::Own t 3 (Zd h.seats)::FO1 p hm om b sg sl ss s (a++(k,b,h)::c) (a++c) f h f.own (ZaV out L::Hs)) w:=hw.arr;refine Za hw (by kernel_rfl) rfl (by simp [Value.cells]) λ w hw=>?_;have hw:=hw.re (pts bh (Zx h t));refine ⟨h.owner,h.cls,h.many,t,At.own (eqS hw) (by exact ⟨rfl,rfl,rfl,rfl,trivial⟩),?_⟩;obtain ⟨ts,hts,hw⟩:=Sat.holdsL.1 (hw.take (ZaV out L));have hrl:=Zbs hts;refine ZfG (x:=ZhV h t) elH hw rfl rfl (by omega) (by omega) λ o2 w hw=>?_;rw [Zh (by omega) (by omega)];refine ⟨⟨j + 1,by omega,by omega,?_⟩,by dsimp only;omega⟩;rw [htk];have hw:Sat R2 (Zt 4 o2 176 (ZbQ L ts++[ZhV h t])::(Za9 L ts++(Own t 3 (Zd h.seats)::pts bh (Zx h t)::FO1 p hm om b sg sl ss s (a++(k,b,h)::c) (a++c) f h f.own Hs))) w:=
   hw.cons λ _ h5=>h5.perm (List.Perm.append_left _ (Arr.perm (Hs:=_) (Hs':=Own t 3 (Zd h.seats)::pts bh (Zx h t)::FO1 p hm om b sg sl ss s (a++(k,b,h)::c) (a++c) f h f.own Hs)))
  have hw:Sat R2 (Zt 4 o2 176 (ZbQ L ts++[ZhV h t])::ZA t (Zd h.seats)::(Za9 L ts++(pts bh (Zx h t)::FO1 p hm om b sg sl ss s (a++(k,b,h)::c) (a++c) f h f.own Hs))) w:=
   hw.cons λ _ h5=>Own.reads (h5.perm List.perm_middle)
  have hw:=ZaV.snoc hts hw;exact hw.cons λ _ h5=>FO.close (f:=f) h5.drop
 ·rw [List.take_of_length_le (by omega)] at hw
  refine ⟨out,rfl,?_⟩;have hw:=e2.back hw;have hw:=back _ _ hw;exact Sat.cons (λ _ h5=>Sat.flightC hE h5) (hw.take (ZaV out (ks.map (Zep f))))
end
section
open Go Go.VC Tryz
variable {R:Cx} {Hs Rest:List HP} {w:World}
theorem _root_.Go.VC.Sat.allTru {Hs:List HP}:∀ {R:Cx},Sat R Hs w->Sat R [VC.tru] w:=by
 induction Hs with
 |nil=>exact λ h=>h.tru
 |cons A Hs ih=>exact λ h=>Sat.absorb (h.cons λ _ h=>ih h)
theorem _root_.Go.VC.Sat.restTru2 {A:HP} (h:Sat R (A::Hs) w):Sat R [A,VC.tru] w:=h.cons λ _ h=>h.allTru
theorem _root_.Go.VC.MapAt.len {P:Program} {α:Type} [BEq α] [Zbp α] {m:Nat} {es:List (α × Value)} {T ty:TypeId} (hT:P.underlying T=some (.map (P.mapKeyOf T) (P.mapElemOf T))) (hw:Sat R (MapAt m es::Hs) w):
  (Builtin.len_ #[T] ty #[.map (some m)]).run P w=.ok (.int .i64 es.length) w:=by
 obtain ⟨l,c,hs,hst,hp⟩:=MapAt.iff.1 hw;rw [run_len_map w T ty m _ c hT hp.at];subst hs;simp [goInt,Zdr]
def ZcN (l:List Int):List Int:=Zv [(l.length:Int)]++Zv l
def Zek (h:ZD):List Int:=Zv [h.owner,h.cls,h.many]++ZcN h.seats
def ZaI (L:List ZD):List Int:=(L.map Zek).flatten
def Zuy (num rows:Int) (grps lims:List Int) (L:List ZD):List Int:=Zv [num,rows]++ZcN grps++ZcN lims++Zv [(L.length:Int)]++ZaI L
abbrev Zef (l:List Int):Prop:=∀ x∈l,0<=x/\x<9223372036854775808
theorem Zb3 {l:List Int} (h:Zef l):∀ x∈l,0<=x/\x<18446744073709551616:=λ x hx=>by have:=h x hx;omega
theorem ZbX {l:List Int} (h:Zef l) (hl:l.length<9223372036854775808):(ZcN l).length<=9 * l.length + 9:=by
 unfold ZcN;have h1:=Zae (Zb3 h);have h2:(Zv [(l.length:Int)]).length<=9:=Zae (by intro y hy;simp at hy;omega);rw [List.length_append];omega
theorem Ze4 {l:List Int} (h:Zef l) (hl:l.length<9223372036854775808):∀ y∈ZcN l,0<=y/\y<256:=by
 unfold ZcN;intro y hy;rcases List.mem_append.1 hy with hy|hy
 ·exact ZcE (by intro y hy;simp at hy;omega) y hy
 ·exact ZcE (Zb3 h) y hy
structure Zgo (h:ZD):Prop where
 o:0<=h.owner/\h.owner<9223372036854775808
 c:0<=h.cls/\h.cls<9223372036854775808
 m:0<=h.many/\h.many<9223372036854775808
 s:Zef h.seats
 n:h.seats.length<=1000
theorem Zgo.three {h:ZD} (a:Zgo h):Zef [h.owner,h.cls,h.many]:=by
 intro x hx;rcases List.mem_cons.1 hx with rfl|hx
 ·exact a.o
 rcases List.mem_cons.1 hx with rfl|hx
 ·exact a.c
 rw [List.mem_singleton.1 hx];exact a.m
theorem Zrk {h:ZD} (a:Zgo h):(Zek h).length<=9036:=by
 unfold Zek;have h1:(Zv [h.owner,h.cls,h.many]).length<=27:=Zae (Zb3 a.three);have h2:=ZbX a.s (by have:=a.n;omega);have:=a.n;rw [List.length_append];omega
theorem ZtD {h:ZD} (a:Zgo h):∀ y∈Zek h,0<=y/\y<256:=by
 unfold Zek;intro y hy;rcases List.mem_append.1 hy with hy|hy
 ·exact ZcE (Zb3 a.three) y hy
 ·exact Ze4 a.s (by have:=a.n;omega) y hy
theorem ZfO:∀ {L:List ZD},(∀ h∈L,Zgo h)->(ZaI L).length<=9036 * L.length
 |[],_=>Nat.le_refl _
 |h::L,a=>by
  have h1:=Zrk (a h List.mem_cons_self);have h2:=ZfO λ x hx=>a x (List.mem_cons_of_mem _ hx);show (Zek h++ZaI L).length<=_;rw [List.length_append,List.length_cons];omega
theorem Zht:∀ {L:List ZD},(∀ h∈L,Zgo h)->∀ y∈ZaI L,0<=y/\y<256
 |[],_=>λ y hy=>by cases hy
 |h::L,a=>by
  intro y hy;have hy:y∈Zek h++ZaI L:=hy;rcases List.mem_append.1 hy with hy|hy
  ·exact ZtD (a h List.mem_cons_self) y hy
  ·exact Zht (λ x hx=>a x (List.mem_cons_of_mem _ hx)) y hy
theorem Zmy {L:List ZD} {j:Nat} (h:j<L.length):ZaI (L.take (j + 1))=ZaI (L.take j)++Zek L[j]:=by
 unfold ZaI;rw [List.take_add_one,List.getElem?_eq_getElem h,List.map_append,List.flatten_append];simp only [Option.toList_some,List.map_cons,List.map_nil,List.flatten_cons,List.flatten_nil,List.append_nil]
abbrev Zu6 (pb:Nat):Value:=.func (.func 125) #[] #[.pointer (some ⟨pb,0,none⟩)]
abbrev ZhW (bp pb:Nat):HP:=pts bp (.cells [Zu6 pb].toArray 94 (0,0))
theorem Zjm {bn pb:Nat} {bs xs:List Int} {n:Nat} (hn:n=xs.length) (hxs:Zef xs) (hl:bs.length + 9 * xs.length<=1099511627776) (hw:Sat R (pts bn (.cells (xs.map (Value.int .i64)).toArray 3 (0,0))::Zgm pb bs::Hs) w):
  ZaK prog cl (Zu6 pb) [.slice (some ⟨bn,0,none⟩) n n] w λ e w'=>e=.returned (.tuple #[])/\Sat R (Zgm pb (bs++Zv xs)::Hs) w':=by
 refine ZaK.mk (by kernel_rfl) ?_;have hw:=ZbI (n:=n) hw (by rw [List.length_map];exact hn);obtain ⟨R1,hr1,keep1,hw,back1⟩:=Own.lendI hw (by omega);refine (Zly (s:=⟨some ⟨bn,0,none⟩,n,n⟩) hxs hl hr1 hw).use ?_;rintro _ w ⟨rfl,hw⟩;exact ⟨rfl,(back1 hw).drop⟩
theorem ZfX {bp pb:Nat} {s:Sl} {xs bs:List Int} (hxs:Zef xs) (hl:bs.length + 9 * xs.length<=1000000000) (hs:RoI R s xs) (hw:Sat R (ZhW bp pb::Zgm pb bs::Hs) w):
  Zm prog 126 #[.slice s.a s.len s.cap,.pointer (some ⟨bp,0,none⟩)] w λ v w'=>v=.tuple #[]/\Sat R (ZhW bp pb::Zgm pb (bs++ZcN xs)::Hs) w':=by
 have hsl:=hs.len;have h1:(Zv [(xs.length:Int)]).length<=9:=Zae (by intro y hy;simp at hy;omega);apply ZxH;refine Zc.mk rfl ⟨Zu6 pb,oA hw,?_⟩;rw [hsl];refine Zb hw λ bn w hw=>?_;have hw:Sat R (pts bn (.cells ([(xs.length:Int)].map (Value.int .i64)).toArray 3 (0,0))::Zgm pb bs::ZhW bp pb::Hs) w:=hw.cons λ _ h=>h.swap;refine (Zjm (n:=1) (by rfl) (by intro y hy;simp at hy;omega) (by simp;omega) hw).mono ?_;rintro _ w ⟨rfl,hw⟩;refine ⟨rfl,Zc.mk rfl ⟨Zu6 pb,oA hw,ZaK.mk (by kernel_rfl) ?_⟩⟩;rw [<-hsl];refine (Zly hxs (by rw [List.length_append];omega) hs hw).use ?_;rintro _ w ⟨rfl,hw⟩;refine ⟨rfl,rfl,?_⟩;rw [List.append_assoc] at hw;exact hw.swap
end
section
open Go Go.VC Tryz
variable {R R':Cx} {Hs Rest:List HP} {w:World}
def Zbl (L:List ZD) (ts:List Sl):HP:=Zgu (Za9 L ts)
structure RX where
 sg:Sl
 sl:Sl
 s:Sl
 ts:List Sl
def Zgv (q:Nat) (r:RF):HP:=exs λ x:RX=>
 Zgu [pur (x.ts.length=r.L.length),ZA x.sg (Zd r.grps),ZA x.sl (Zd r.lims),pts q (ZF r x.sg x.sl x.s),Zt 4 x.s 176 (ZbQ r.L x.ts),Zbl r.L x.ts]
abbrev RO (q:Nat) (r:RF) (sg sl s:Sl) (ts:List Sl) (Hs:List HP):List HP:=ZA sg (Zd r.grps)::ZA sl (Zd r.lims)::pts q (ZF r sg sl s)::Zt 4 s 176 (ZbQ r.L ts)::Zbl r.L ts::Hs
theorem Sat.rf {q:Nat} {r:RF}:Sat R (Zgv q r::Hs) w↔∃ sg sl s ts,ts.length=r.L.length/\Sat R (RO q r sg sl s ts Hs) w:=by
 unfold Zgv;rw [Sat.exs];constructor
 ·rintro ⟨⟨sg,sl,s,ts⟩,h⟩
  obtain ⟨h1,h2⟩:=Sat.pur.1 (Sat.star.1 h);exact ⟨sg,sl,s,ts,h1,h2⟩
 ·rintro ⟨sg,sl,s,ts,h1,h2⟩
  exact ⟨⟨sg,sl,s,ts⟩,Sat.star.2 (Sat.pur.2 ⟨h1,h2⟩)⟩
theorem ZkE:∀ {L:List ZD} {ts:List Sl} {R:Cx},ts.length=L.length->Sat R (Za9 L ts++Hs) w->∃ R':Cx,R.Ext R'/\(∀ i (h:i<L.length) (h':i<ts.length),SlR R'.m ts[i] (Zd L[i].seats))/\Sat R' Hs w/\∀ Hs' w',Sat R' Hs' w'->Sat R (Za9 L ts++Hs') w'
 |[],_,R,_,hw=>⟨R,Cx.Ext.refl,λ i h=>by simp at h,by simpa [Za9] using hw,λ Hs' w' h=>by simpa [Za9] using h⟩
 |h::L,[],R,hl,_=>by simp at hl
 |h::L,t::ts,R,hl,hw=>by
  have hw:Sat R (ZA t (Zd h.seats)::(Za9 L ts++Hs)) w:=hw;obtain ⟨R1,e1,s1,hw,b1⟩:=ZA.out hw;obtain ⟨R2,e2,s2,hw,b2⟩:=ZkE (by simpa using hl) hw;refine ⟨R2,e1.trans e2,λ i h h'=>?_,hw,λ Hs' w' h=>b1 _ _ (b2 _ _ h)⟩;rcases i with _|i
  ·exact e2.slR s1
  ·exact s2 i (by simpa using h) (by simpa using h')
structure RfR (R:Cx) (r:RF) (sg sl s:Sl) (ts:List Sl):Prop where
 grps:SlR R.m sg (Zd r.grps)
 lims:SlR R.m sl (Zd r.lims)
 hs:HsR R s r.L ts
 cap:s.len<=s.cap
theorem RfR.len {r:RF} {sg sl s:Sl} {ts:List Sl} (h:RfR R r sg sl s ts):s.len=r.L.length:=by
 have:=h.hs.rows.len;rwa [Zbs h.hs.len] at this
theorem RO.out {q:Nat} {r:RF} {sg sl s:Sl} {ts:List Sl} (hl:ts.length=r.L.length) (hw:Sat R (RO q r sg sl s ts Hs) w):∃ R',R.Ext R'/\RfR R' r sg sl s ts/\Sat R' (pts q (ZF r sg sl s)::Hs) w/\∀ Hs' w',Sat R' (pts q (ZF r sg sl s)::Hs') w'->Sat R (RO q r sg sl s ts Hs') w':=by
 obtain ⟨R1,e1,g1,hw,b1⟩:=ZA.out hw;obtain ⟨R2,e2,g2,hw,b2⟩:=ZA.out hw;have hw:Sat R2 (Zt 4 s 176 (ZbQ r.L ts)::Zbl r.L ts::pts q (ZF r sg sl s)::Hs) w:=hw.arr;have hc:=Zt.cap (by omega) hw;obtain ⟨R3,g3,⟨x,hx⟩,hw,b3⟩:=Zt.lend hw;have e3:R2.Ext R3:=by rw [hx];exact Cx.Ext.add
 obtain ⟨R4,e4,g4,hw,b4⟩:=ZkE hl (Sat.star.1 hw);refine ⟨R4,e1.trans (e2.trans (e3.trans e4)),⟨e4.slR (e3.slR (e2.slR g1)),e4.slR (e3.slR g2),⟨hl,e4.roN g3,g4⟩,hc⟩,hw,λ Hs' w' h=>b1 _ _ (b2 _ _ ?_)⟩;have h1:Sat R2 (Zt 4 s 176 (ZbQ r.L ts)::Zbl r.L ts::pts q (ZF r sg sl s)::Hs') w':=b3 (Sat.star.2 (b4 _ _ h));exact h1.arr
theorem Sat.rfO {q:Nat} {r:RF} (hw:Sat R (Zgv q r::Hs) w):∃ sg sl s ts R',R.Ext R'/\RfR R' r sg sl s ts/\Sat R' (pts q (ZF r sg sl s)::Hs) w/\
  (∀ Hs' w',Sat R' (pts q (ZF r sg sl s)::Hs') w'->Sat R (RO q r sg sl s ts Hs') w')/\ts.length=r.L.length:=by
 obtain ⟨sg,sl,s,ts,hl,hw⟩:=Sat.rf.1 hw;obtain ⟨R',e,h,hw,b⟩:=RO.out hl hw;exact ⟨sg,sl,s,ts,R',e,h,hw,b,hl⟩
structure ZzS (n:Nat) (h:ZD):Prop where
 c:0<=h.cls/\h.cls<n
 m:0<=h.many/\h.many<=10000
theorem ZrQ {k:Int} {n:Nat}:∀ {L:List ZD},(∀ h∈L,ZzS n h)->0<=Zer k L/\Zer k L<=10000 * L.length
 |[],_=>⟨Int.le_refl _,Int.le_refl _⟩
 |h::L,a=>by
  obtain ⟨i1,i2⟩:=ZrQ (k:=k) λ x hx=>a x (List.mem_cons_of_mem _ hx);have:=(a h List.mem_cons_self).m;rw [Zc3,List.length_cons];split<;>omega
theorem ZsG {n:Nat} {K:Sl->World->Prop} (hn:n<=1000) (hw:Sat R Hs w) (k:∀ s w',Sat R (Own s 3 (Zd (Z4 n []))::Hs) w'->K s w'):
  ∃ w',∃ t:Sl,(Instr.makeSlice 28 (.int .i64 (n:Int)) (.int .i64 (n:Int))).run prog w=.ok (.slice t.a t.len t.cap) w'/\K t w':=
 Zhi (bytes:=8) (z:=.int .i64 0) underlying28 (by kernel_rfl) zeroValue3 rfl (by omega) (by omega) hw λ s w hw=>k s w (by
  have e:Zd (Z4 n [])=List.replicate n (.int .i64 0):=by
   apply List.ext_getElem
   ·simp [Z4]
   ·intro i h1 h2;simp [Z4,Zer]
  rw [e];exact hw)
theorem Zie {q:Nat} {r:RF} {sg sl s:Sl} {ts:List Sl} (h:RfR R r sg sl s ts) (hll:r.L.length<=1000000) (hlm:r.lims.length<=1000) (hc:∀ x∈r.L,ZzS r.lims.length x) (hw:Sat R (pts q (ZF r sg sl s)::Hs) w):
  Zm prog 98 #[.pointer (some ⟨q,0,none⟩)] w λ v w'=>∃ t:Sl,v=.slice t.a t.len t.cap/\Sat R (Own t 3 (Zd r.sold)::pts q (ZF r sg sl s)::Hs) w':=by
 have hsl:=h.len;have hl:=h.hs.len;have hlen:sl.len=r.lims.length:=by have:=h.lims.len;rwa [List.length_map] at this
 apply ZyT;refine Zc.mk rfl ⟨sl,oA hw,?_⟩;rw [hlen];refine ZsG hlm hw λ t w hw=>?_;refine ⟨λ i w=>∃ j:Nat,i=j/\j<=r.L.length/\Sat R (Own t 3 (Zd (Z4 r.lims.length (r.L.take j)))::pts q (ZF r sg sl s)::Hs) w,λ i _=>r.L.length - i.toNat,⟨0,rfl,by omega,hw⟩,?_⟩;clear hw;rintro _ _ w ⟨j,rfl,hj,hw⟩;refine Zc.mk rfl ⟨s,oA hw,Br.d (λ h1=>?_) (λ h1=>?_)⟩
 ·have j1:j<r.L.length:=by omega
  have hx:=hc r.L[j] (List.getElem_mem _);obtain ⟨c,hce⟩:=Int.eq_ofNat_of_zero_le hx.c.1;have hcl:c<r.lims.length:=by have:=hx.c;omega
  have hcb:=ZrQ (k:=(c:Int)) (n:=r.lims.length) (L:=r.L.take j) λ x hx=>hc x (List.mem_of_mem_take hx);rw [List.length_take,Nat.min_eq_left hj] at hcb;have hsll:=ZaM r.lims.length (r.L.take j);have hcv:(Z4 r.lims.length (r.L.take j))[c]'(by rw [hsll];exact hcl)=Zer (c:Int) (r.L.take j):=ZcR _;have hput:(Z4 r.lims.length (r.L.take j)).set c (Zer (c:Int) (r.L.take j) + r.L[j].many)=Z4 r.lims.length (r.L.take (j + 1)):=by
   have h5:=Zds (h:=r.L[j]) (L:=r.L.take j) (L':=r.L.take (j + 1)) (by
    rw [List.take_add_one,List.getElem?_eq_getElem j1];exact List.perm_append_comm) hx.c.1 hx.c.2
   rw [hce,Int.toNat_natCast,Zbm hcl] at h5;exact h5
  have hrow:∀ {S:World->Prop} {Hs:List HP} {i:Nat} {v:Value},(∀ w,S w->Sat R Hs w)->(ZhV r.L[j] (ts[j]'(by omega)))[i]? =some v->∀ {F:Addr->Prop},(∀ a:Addr,a.spot=none->At S ⟨(a.add (Za6 j 4)).block,(a.add (Za6 j 4)).off + i,none⟩ [v]->F a)->Rng (j:Int) s.len (Zc s.a F):=λ {S Hs i v} hS hv {F} f=>h.hs.fld hS j1 (by omega) hv f;refine Zo hw λ w hw=>?_;refine Zc.mk rfl ⟨s,oS,hrow (i:=1) Zao rfl λ a1 _ h1=>⟨r.L[j].cls,h1,Zc.mk rfl ⟨s,oS,hrow (i:=1) Zao rfl λ a2 _ h2=>⟨r.L[j].cls,h2,?_⟩⟩⟩⟩;rw [hce];refine Own.ix hw Zao c rfl (by rw [hsll];omega) ?_;refine Zc.mk rfl ⟨s,oS,hrow (i:=2) Zao rfl λ a3 _ h3=>⟨r.L[j].many,h3,?_⟩⟩;rw [hcv,Zh (by have:=hx.m;omega) (by have:=hx.m;omega)];refine Own.store (by kernel_rfl) hw (by rw [hsll];omega) λ w hw=>?_;rw [hput] at hw;rw [Zh (by omega) (by omega)];exact ⟨⟨j + 1,by omega,by omega,hw⟩,by dsimp only;omega⟩
 ·rw [List.take_of_length_le (by omega)] at hw
  exact ⟨t,rfl,hw⟩
theorem ZlZ {L:List ZD} {j:Nat} (h:j<L.length):Zz (L.take (j + 1))=Zz (L.take j)++L[j].seats:=by
 unfold Zz;rw [List.take_add_one,List.getElem?_eq_getElem h,List.flatMap_append];simp only [Option.toList_some,List.flatMap_cons,List.flatMap_nil,List.append_nil]
theorem Zh6:∀ {L:List ZD},(∀ h∈L,h.seats.length<=1000)->(Zz L).length<=1000 * L.length
 |[],_=>Nat.le_refl _
 |h::L,a=>by
  have h1:=a h List.mem_cons_self;have h2:=Zh6 λ x hx=>a x (List.mem_cons_of_mem _ hx);show (h.seats++Zz L).length<=_;rw [List.length_append,List.length_cons];omega
theorem Zl7 {q:Nat} {r:RF} (hll:r.L.length<=1000000) (hlm:r.lims.length<=1000) (hc:∀ x∈r.L,ZzS r.lims.length x) (hw:Sat R (Zgv q r::Hs) w):
  Zm prog 36 #[.pointer (some ⟨q,0,none⟩)] w λ v w'=>∃ t:Sl,v=.slice t.a t.len t.cap/\Sat R (Own t 3 (Zd (Zn r))::Zgv q r::Hs) w':=by
 obtain ⟨sg,sl,s,ts,R',e,h,hw,back,hl⟩:=Sat.rfO hw;have hlen:sl.len=r.lims.length:=by have:=h.lims.len;rwa [List.length_map] at this
 apply Zzp;refine ⟨λ out i w=>∃ j:Nat,i=j/\j<=r.lims.length/\Sat R' (Own out 3 (Zd ((List.range j).map λ (k:Nat)=>(ZaW r.lims r.sold k).1))::pts q (ZF r sg sl s)::Hs) w,λ _ i _=>r.lims.length - i.toNat,⟨0,rfl,by omega,Own.nil hw⟩,?_⟩;clear hw;rintro _ out _ w ⟨j,rfl,hj,hw⟩;refine Zc.mk rfl ⟨sl,oA hw,Br.d (λ h1=>?_) (λ h1=>?_)⟩
 ·have j1:j<r.lims.length:=by omega
  refine Zo hw λ w hw=>?_;refine Zc.mk rfl ⟨sl,oS,?_⟩;refine (Zie h hll hlm hc hw.swap).use ?_;clear hw;rintro _ w ⟨t,rfl,hw⟩;refine ⟨t,rfl,hw.drop.swap,?_⟩;obtain ⟨R2,hro,keep,hw,back2⟩:=Own.lendI hw (by show (Z4 _ _).length<=_;rw [ZaM];omega);refine (Zor (keep _ _ (h.lims.ro (by rw [List.length_map];omega))) hro hw).use ?_;clear hw;rintro _ w ⟨rfl,hw⟩;refine ⟨_,_,rfl,?_⟩;have hw:=(back2 hw).drop.swap;refine Zbn Zo6 hw (by simp;omega) λ s' w hw=>?_;rw [Zh (by omega) (by omega)];refine ⟨⟨j + 1,by omega,by omega,?_⟩,by dsimp only;omega⟩;rw [List.range_succ,List.map_append];exact hw
 ·obtain rfl:j=r.lims.length:=by omega
  refine ⟨out,rfl,?_⟩;have hw:=back _ _ hw.swap;have hw:Sat R (RO q r sg sl s ts (Own out 3 (Zd (Zn r))::Hs)) w:=hw;exact (Sat.rf.2 ⟨sg,sl,s,ts,hl,hw⟩:Sat R (Zgv q r::Own out 3 (Zd (Zn r))::Hs) w).swap
end
section
open Go Go.VC Tryz
section
variable {β:Type}
theorem Zar (k:Int) (e:Int × β) (l:List (Int × β)):ZH k (e::l)=if k=e.1 then some e.2 else ZH k l:=by
 show (if k==e.1 then some e.2 else ZH k l)=_
 by_cases h:k=e.1
 ·rw [if_pos h,if_pos (beq_iff_eq.2 h)]
 ·rw [if_neg h,if_neg (λ h'=>h (beq_iff_eq.1 h'))]
theorem Zd6 {k:Int}:∀ {l:List (Int × β)},(ZH k l).isSome=true↔k∈l.map (·.1)
 |[]=>by simp [ZH]
 |e::l=>by
  rw [Zar,List.map_cons,List.mem_cons];split
  ·rename_i h;simp [h]
  ·rename_i h;rw [Zd6 (l:=l)];simp [h]
theorem ZmD {k:Int} {l:List (Int × β)}:ZH k l=none↔k ∉ l.map (·.1):=by
 rw [<-Zd6,Option.isSome_iff_ne_none];simp
theorem Zhy (k:Int):∀ (a b:List (Int × β)),ZH k (a++b)=if k∈a.map (·.1) then ZH k a else ZH k b
 |[],b=>by simp
 |e::a,b=>by
  show ZH k (e::(a++b))=_;rw [Zar,Zar,Zhy k a b,List.map_cons];by_cases h:k=e.1
  ·rw [if_pos h,if_pos (by rw [h];exact List.mem_cons_self),if_pos h]
  ·rw [if_neg h,if_neg h]
   by_cases h2:k∈a.map (·.1)
   ·rw [if_pos h2,if_pos (List.mem_cons_of_mem _ h2)]
   ·rw [if_neg h2,if_neg]
    intro h3;rcases List.mem_cons.1 h3 with h3|h3
    ·exact h h3
    ·exact h2 h3
theorem ZkD {k:Int} {v:β}:∀ {l:List (Int × β)},(ZeO k v l).map (·.1)=l.map (·.1)
 |[]=>rfl
 |e::l=>by
  show List.map _ (if k==e.1 then (e.1,v)::l else e::ZeO k v l)=_
  split
  ·rfl
  ·rw [List.map_cons,ZkD];rfl
theorem Zhw {k k':Int} {v:β}:∀ {l:List (Int × β)},(ZH k l).isSome=true->ZH k' (ZeO k v l)=if k'=k then some v else ZH k' l
 |[],h=>by cases h
 |e::l,h=>by
  show ZH k' (if k==e.1 then (e.1,v)::l else e::ZeO k v l)=_
  rw [Zar] at h;by_cases h1:k=e.1
  ·rw [if_pos (beq_iff_eq.2 h1),Zar,Zar,h1]
   split<;>rfl
  ·rw [if_neg h1] at h
   rw [if_neg (λ h'=>h1 (beq_iff_eq.1 h')),Zar,Zar,Zhw h];by_cases h2:k'=e.1
   ·rw [if_pos h2,if_pos h2,if_neg (λ h3=>h1 (h3.symm.trans h2))]
   ·rw [if_neg h2,if_neg h2]
theorem Zhx (k k':Int) (v:β) (l:List (Int × β)):ZH k' (ZdZ k v l)=if k'=k then some v else ZH k' l:=by
 unfold ZdZ;split
 ·rename_i h;exact Zhw h
 ·rename_i h
  rw [Zhy];have hk:ZH k l=none:=by cases hg:ZH k l with|none=>rfl|some x=>rw [hg] at h;simp at h
  by_cases h1:k'=k
  ·rw [if_pos h1,if_neg (by rw [h1];exact ZmD.1 hk),Zar,if_pos h1]
  ·rw [if_neg h1]
   by_cases h2:k'∈l.map (·.1)
   ·rw [if_pos h2]
   ·rw [if_neg h2,Zar,if_neg h1,ZmD.2 h2];rfl
theorem ZfF {k:Int} {v:β} {l:List (Int × β)} (h:(l.map (·.1)).Nodup):((ZdZ k v l).map (·.1)).Nodup:=by
 unfold ZdZ;split
 ·rw [ZkD];exact h
 ·rename_i hk
  rw [List.map_append,List.nodup_append];refine ⟨h,by simp,λ a ha b hb=>?_⟩;rw [List.map_cons,List.map_nil,List.mem_singleton] at hb;rintro rfl;rw [hb] at ha;exact hk (Zd6.2 ha)
theorem Zj1 (k:Int):∀ l:List (Int × β),(Zfj k l).Sublist l
 |[]=>List.Sublist.refl _
 |e::l=>by
  show (if k==e.1 then l else e::Zfj k l).Sublist _
  split
  ·exact List.sublist_cons_self _ _
  ·exact (Zj1 k l).cons_cons e
theorem Zo8 {k:Int} {l:List (Int × β)} (h:(l.map (·.1)).Nodup):((Zfj k l).map (·.1)).Nodup:=h.sublist ((Zj1 k l).map _)
theorem Zlt {k k':Int}:∀ {l:List (Int × β)},(l.map (·.1)).Nodup->ZH k' (Zfj k l)=if k'=k then none else ZH k' l
 |[],_=>by simp [ZH,Zfj]
 |e::l,h=>by
  rw [List.map_cons,List.nodup_cons] at h;show ZH k' (if k==e.1 then l else e::Zfj k l)=_
  by_cases h1:k=e.1
  ·rw [if_pos (beq_iff_eq.2 h1),Zar]
   by_cases h2:k'=k
   ·rw [if_pos h2,ZmD];rw [h2,h1];exact h.1
   ·rw [if_neg h2,if_neg (λ h3=>h2 (h3.trans h1.symm))]
  ·rw [if_neg (λ h'=>h1 (beq_iff_eq.1 h')),Zar,Zar,Zlt h.2]
   by_cases h2:k'=e.1
   ·rw [if_pos h2,if_pos h2,if_neg (λ h3=>h1 (h3.symm.trans h2))]
   ·rw [if_neg h2,if_neg h2]
theorem Zo9 {l:List Int}:∀ {own:List (Int × Int)},(own.map (·.1)).Nodup->((Zb5 l own).map (·.1)).Nodup/\∀ n,ZH n (Zb5 l own)=if n∈l then none else ZH n own:=by
 induction l with
 |nil=>exact λ h=>⟨h,λ n=>by simp [Zb5]⟩
 |cons x l ih=>
  intro own h;obtain ⟨h1,h2⟩:=ih (own:=Zfj x own) (Zo8 h);refine ⟨h1,λ n=>?_⟩;have e:Zb5 (x::l) own=Zb5 l (Zfj x own):=rfl;rw [e,h2,Zlt h];by_cases hn:n∈l
  ·rw [if_pos hn,if_pos (List.mem_cons_of_mem _ hn)]
  ·rw [if_neg hn]
   by_cases hx:n=x
   ·rw [if_pos hx,if_pos (by rw [hx];exact List.mem_cons_self)]
   ·rw [if_neg hx,if_neg]
    intro h3;rcases List.mem_cons.1 h3 with h3|h3
    ·exact hx h3
    ·exact hn h3
theorem ZoA {o:Int} {l:List Int}:∀ {own:List (Int × Int)},(own.map (·.1)).Nodup->((Zdv o l own).map (·.1)).Nodup/\∀ n,ZH n (Zdv o l own)=if n∈l then some o else ZH n own:=by
 induction l with
 |nil=>exact λ h=>⟨h,λ n=>by simp [Zdv]⟩
 |cons x l ih=>
  intro own h;obtain ⟨h1,h2⟩:=ih (own:=ZdZ x o own) (ZfF h);refine ⟨h1,λ n=>?_⟩;have e:Zdv o (x::l) own=Zdv o l (ZdZ x o own):=rfl;rw [e,h2,Zhx];by_cases hn:n∈l
  ·rw [if_pos hn,if_pos (List.mem_cons_of_mem _ hn)]
  ·rw [if_neg hn]
   by_cases hx:n=x
   ·rw [if_pos hx,if_pos (by rw [hx];exact List.mem_cons_self)]
   ·rw [if_neg hx,if_neg]
    intro h3;rcases List.mem_cons.1 h3 with h3|h3
    ·exact hx h3
    ·exact hn h3
end
theorem Zbz {n x:Int}:∀ {l:List Int},x∈ZfN n l↔x=n\/x∈l
 |[]=>by simp [ZfN]
 |y::l=>by
  unfold ZfN;split
  ·rw [List.mem_cons,Zbz,List.mem_cons]
   constructor
   ·rintro (h|h|h)
    ·exact .inr (.inl h)
    ·exact .inl h
    ·exact .inr (.inr h)
   ·rintro (h|h|h)
    ·exact .inr (.inl h)
    ·exact .inl h
    ·exact .inr (.inr h)
  ·rw [List.mem_cons]
theorem ZdR {l:List Int}:Zpq l↔l.Pairwise (·<·):=by
 rw [List.pairwise_iff_getElem];exact ⟨λ h i j hi hj hij=>h i j hj hij,λ h i j hj hij=>h i j (by omega) hj hij⟩
theorem Zmw {n:Int}:∀ {l:List Int},l.Pairwise (·<·)->n ∉ l->(ZfN n l).Pairwise (·<·)
 |[],_,_=>by simp [ZfN]
 |x::l,hp,hn=>by
  obtain ⟨h1,h2⟩:=List.pairwise_cons.1 hp;have hx:n≠x:=λ e=>hn (by rw [e];exact List.mem_cons_self);unfold ZfN;split
  ·refine List.pairwise_cons.2 ⟨λ y hy=>?_,Zmw h2 λ h=>hn (List.mem_cons_of_mem _ h)⟩
   rcases Zbz.1 hy with rfl|hy
   ·assumption
   ·exact h1 y hy
  ·refine List.pairwise_cons.2 ⟨λ y hy=>?_,hp⟩
   rcases List.mem_cons.1 hy with rfl|hy
   ·omega
   ·have:=h1 y hy;omega
theorem ZdG {sold:List Int} {c:Nat} {m:Int} (hc:c<sold.length):∀ (t k:Nat),k + t=sold.length->ZaE (sold.set c (sold.getD c 0 + m)) k=ZaE sold k + (if k<=c then m else 0)
 |0,k,h=>by
  rw [Zb0 (by rw [List.length_set];omega),Zb0 (by omega),if_neg (by omega)];rfl
 |t + 1,k,h=>by
  have ih:=ZdG (m:=m) hc t (k + 1) (by omega);rw [Za4 (k:=k) (by rw [List.length_set];omega),Za4 (sold:=sold) (k:=k) (by omega),ih,List.getElem_set];by_cases e:c=k
  ·subst e
   rw [if_pos rfl,if_neg (by omega),if_pos (Nat.le_refl _),ZR hc];omega
  ·rw [if_neg e]
   by_cases h2:k<=c
   ·rw [if_pos (by omega),if_pos h2];omega
   ·rw [if_neg (by omega),if_neg h2];omega
def ZlS:List ZD->Int
 |[]=>0
 |h::L=>h.many + ZlS L
theorem ZeT (n:Nat):Z4 n []=List.replicate n 0:=by
 apply List.ext_getElem
 ·simp [Z4]
 ·intro i h1 h2;rw [ZcR];simp [Zer]
theorem ZfS (n:Nat):∀ t k:Nat,k + t=n->ZaE (List.replicate n (0:Int)) k=0
 |0,k,h=>Zb0 (by rw [List.length_replicate];omega)
 |t + 1,k,h=>by rw [Za4 (by rw [List.length_replicate];omega),ZfS n t (k + 1) (by omega)];simp
theorem Zkq {n:Nat}:∀ {L:List ZD},(∀ h∈L,0<=h.cls/\h.cls<n)->ZaE (Z4 n L) 0=ZlS L
 |[],_=>by rw [ZeT,ZfS n n 0 (by omega)];rfl
 |h::L,hc=>by
  have h0:=hc h List.mem_cons_self;have ih:=Zkq λ x hx=>hc x (List.mem_cons_of_mem _ hx);rw [<-Zds (List.Perm.refl (h::L)) h0.1 h0.2,ZdG (by rw [ZaM];omega) n 0 (by rw [ZaM];omega),if_pos (by omega),ih];show _=h.many + ZlS L;omega
theorem ZhK {k:Int}:∀ {L:List ZD},(∀ h∈L,1<=h.many)->0<=Zer k L
 |[],_=>Int.le_refl _
 |h::L,hm=>by
  have ih:=ZhK (k:=k) λ x hx=>hm x (List.mem_cons_of_mem _ hx);have h1:=hm h List.mem_cons_self;rw [Zc3];split<;>omega
theorem ZqR {lim a b:List Int} (h:Z1 lim a=true) (hl:b.length=a.length) (hb:∀ k,k<lim.length->0<=b.getD k 0/\b.getD k 0<=a.getD k 0):Z1 lim b=true:=by
 obtain ⟨h1,h2,h3⟩:=ZJ.1 h;refine ZJ.2 ⟨h1,hl.trans h2,λ k hk=>⟨⟨(hb k hk).1,Int.le_trans (hb k hk).2 (h3 k hk).1.2⟩,?_⟩⟩;refine Int.le_trans ?_ (h3 k hk).2;have key:∀ t k:Nat,k + t=lim.length->ZaE b k<=ZaE a k:=by
  intro t
  induction t with
  |zero=>intro k hk;rw [Zb0 (by omega),Zb0 (by omega)];exact Int.le_refl _
  |succ t ih=>
   intro k hk;rw [Za4 (sold:=b) (by omega),Za4 (sold:=a) (by omega)];have e1:=ih (k + 1) (by omega);have e2:=(hb k (by omega)).2;rw [ZR (by omega),ZR (by omega)] at e2;omega
 exact key (lim.length - k) k (by omega)
theorem Zhd {lim:List Int} (h:ZeF lim=true):Z1 lim (List.replicate lim.length 0)=true:=by
 refine ZJ.2 ⟨h,by simp,λ k hk=>?_⟩;rw [ZfS lim.length (lim.length - k) k (by omega),List.getD_eq_getElem?_getD];have:=(Zaa.1 h).2 k hk;rw [ZR hk];simp [hk];omega
theorem ZnE {a:List Int} (h:∀ k,k<a.length->0<=a.getD k 0):∀ t k:Nat,k + t=a.length->0<=ZaE a k
 |0,k,e=>by rw [Zb0 (by omega)];exact Int.le_refl _
 |t + 1,k,e=>by
  have h1:=ZnE h t (k + 1) (by omega);have h2:=h k (by omega);rw [ZR (by omega)] at h2;rw [Za4 (by omega)];omega
theorem Ze2 {lim sold:List Int} {c many:Int} (h:(Za5 lim sold c many).2=0):
  (Za5 lim sold c many).1=sold.set c.toNat (sold.getD c.toNat 0 + many)/\Z1 lim (Za5 lim sold c many).1=true/\0<=c/\c<lim.length/\1<=many:=by
 unfold Za5 at h ⊢;split at h
 ·cases h
 split at h
 ·cases h
 rename_i h1 h2;rw [if_neg h1,if_neg h2];have h3:(ZaW lim sold c).2=0:=Classical.byContradiction λ e=>h1 (.inl e);obtain ⟨hn,hc0,hc1⟩:=Zmq h3;have hl:(ZaW lim sold c).1=mnF (ZcK lim sold) (c.toNat + 1):=by unfold ZaW;rw [if_pos ⟨hn,hc0,hc1⟩]
 rw [hl] at h2;obtain ⟨i1,i2,i3⟩:=ZJ.1 hn;have hm:=Zns (ZcK lim sold) (c.toNat + 1)
 suffices key:Z1 lim (sold.set c.toNat (sold.getD c.toNat 0 + many))=true from ⟨rfl,key,hc0,hc1,by omega⟩
 refine ZJ.2 ⟨i1,by rw [List.length_set];exact i2,λ k hk=>?_⟩;have hf:=ZdG (sold:=sold) (c:=c.toNat) (m:=many) (by omega) (lim.length - k) k (by omega);have hk3:=i3 k hk;have hle:ZaE (sold.set c.toNat (sold.getD c.toNat 0 + many)) k<=lim.getD k 0:=by
  rw [hf];split
  ·have h5:mnF (ZcK lim sold) (c.toNat + 1)<=lim.getD k 0 - ZaE sold k:=hm.2.1 k (by omega) (by omega)
   omega
  ·omega
 refine ⟨?_,hle⟩;have hnn:∀ j,j<(sold.set c.toNat (sold.getD c.toNat 0 + many)).length->0<=(sold.set c.toNat (sold.getD c.toNat 0 + many)).getD j 0:=λ j hj=>by
  rw [List.length_set] at hj;rw [ZR (by rw [List.length_set];exact hj),List.getElem_set];have hj3:=i3 j (by omega);rw [ZR hj] at hj3;split
  ·rename_i e
   have h9:=i3 c.toNat (by omega);omega
  ·omega
 have h0:=hnn k (by rw [List.length_set];omega);refine ⟨h0,?_⟩;have hs:=Za4 (sold:=sold.set c.toNat (sold.getD c.toNat 0 + many)) (k:=k) (by rw [List.length_set];omega);have hg:=ZnE hnn (lim.length - (k + 1)) (k + 1) (by rw [List.length_set];omega);have hlk:=((Zaa.1 i1).2 k hk).1.2;rw [ZR (by rw [List.length_set];omega)];rw [ZR hk] at hle;omega
variable {f:PF} {r:RF}
theorem Zcn {L:List ZD} {x:Int}:x∈Zz L↔∃ h∈L,x∈h.seats:=List.mem_flatMap
theorem Zi4 (t:Tie f r) (g:ZaA r) (o c m:Int):(Zbh f o c m).2=(ZN r o c m).2/\Tie (Zbh f o c m).1 (ZN r o c m).1/\ZaA (ZN r o c m).1:=by
 unfold Zbh ZN;rw [t.get g.rise,t.lims,t.sold];split
 ·exact ⟨rfl,t,g⟩
 rename_i ho;split
 ·exact ⟨rfl,t,g⟩
 rename_i hn;have hno:Zb9 o r.L=none:=by cases e:Zb9 o r.L with|none=>rfl|some x=>rw [e] at hn;simp at hn
 split
 ·rename_i hs
  obtain ⟨e1,e2,c0,c1,hm⟩:=Ze2 hs;have hsold:(Za5 r.lims r.sold c m).1=Z4 r.lims.length (Zls ⟨o,c,m,[]⟩ r.L):=by
   rw [e1];exact Zds (h:=⟨o,c,m,[]⟩) (ZbA _ _) c0 c1
  refine ⟨rfl,⟨t.num,t.rows,t.grps,rfl,hsold,?_,?_,?_,t.nod⟩,⟨g.num,g.lay,?_,g.l0,Zlr g.rise hno,?_,?_⟩⟩
  ·show ((f.hs++[(o,(⟨o,c,m,[]⟩:ZD))]).map (·.2)).Perm _
   rw [List.map_append];refine (List.perm_append_comm.trans ?_).trans (ZbA _ _).symm;exact t.hs.cons _
  ·intro e he
   rcases List.mem_append.1 he with he|he
   ·exact t.key e he
   ·rw [List.mem_singleton.1 he]
  ·intro n o'
   show ZH n f.own=some o'↔_;rw [t.own];constructor
   ·rintro ⟨h,hh,e,hs⟩;exact ⟨h,(ZbA _ _).mem_iff.2 (List.mem_cons_of_mem _ hh),e,hs⟩
   ·rintro ⟨h,hh,e,hs⟩
    rcases List.mem_cons.1 ((ZbA _ _).mem_iff.1 hh) with rfl|hh
    ·cases hs
    ·exact ⟨h,hh,e,hs⟩
  ·show Z1 r.lims (Z4 r.lims.length (Zls ⟨o,c,m,[]⟩ r.L))=true
   rw [<-hsold];exact e2
  ·intro h hh
   rcases List.mem_cons.1 ((ZbA _ _).mem_iff.1 hh) with rfl|hh
   ·exact ⟨by dsimp only;omega,⟨c0,c1⟩,hm,λ i j hj=>by simp at hj,by simp;omega,λ x hx=>by cases hx⟩
   ·exact g.each h hh
  ·show (Zls ⟨o,c,m,[]⟩ r.L).Pairwise _
   refine ((ZbA _ _).pairwise_iff λ {a b} h x hx hx'=>h x hx' hx).2 (List.pairwise_cons.2 ⟨λ y _ x hx=>(by cases hx),g.apart⟩)
 ·exact ⟨rfl,t,g⟩
theorem Zky {n:Nat} {A C:List ZD} {h h':ZD} (e1:h'.cls=h.cls) (e2:h'.many=h.many):Z4 n (A++h'::C)=Z4 n (A++h::C):=by
 unfold Z4;refine List.map_congr_left λ k _=>?_;rw [Zeb,Zeb];simp only [Zer,e1,e2]
theorem ZhQ {A C:List ZD} {h:ZD} (g:(A++h::C).Pairwise λ a b=>∀ x∈a.seats,x ∉ b.seats):(∀ y∈A++C,∀ x∈h.seats,x ∉ y.seats)/\(A++C).Pairwise λ a b=>∀ x∈a.seats,x ∉ b.seats:=by
 have p:(A++h::C).Perm (h::(A++C)):=List.perm_middle;have:=(p.pairwise_iff λ {a b} h x hx hx'=>h x hx' hx).1 g;exact List.pairwise_cons.1 this
theorem Zjz {A C:List ZD} {h y:ZD} (hy:y∈A++C):y∈A++h::C:=by
 rw [List.mem_append] at hy;rw [List.mem_append,List.mem_cons];rcases hy with hy|hy
 ·exact .inl hy
 ·exact .inr (.inr hy)
theorem ZjN {A C:List ZD} {h h':ZD} (g:ZaA r) (hL:r.L=A++h::C) (e1:h'.owner=h.owner) (e2:h'.cls=h.cls) (e3:h'.many=h.many) (hr:Zpq h'.seats) (hf:(h'.seats.length:Int)<=h.many)
  (hs:∀ x∈h'.seats,x∈h.seats\/(x ∉ Zz r.L/\0<=x/\x<ZaL r.rows r.grps)):ZaA { r with L:=A++h'::C }:=by
 have hh:=g.each h (by rw [hL];simp);have hap:=g.apart;rw [hL] at hap;obtain ⟨a1,a2⟩:=ZhQ hap;refine ⟨g.num,g.lay,?_,g.l0,?_,?_,?_⟩
 ·show Z1 r.lims (Z4 r.lims.length (A++h'::C))=true
  rw [Zky e2 e3,<-hL];exact g.nest
 ·have:=g.rise;rw [hL] at this;exact Zu9 e1 this
 ·intro x hx
  show ZuI r.lims.length (ZaL r.rows r.grps) x;have hx:x∈A++h'::C:=hx;rw [List.mem_append,List.mem_cons] at hx;rcases hx with hx|rfl|hx
  ·exact g.each x (by rw [hL];simp [hx])
  ·exact ⟨by rw [e1];exact hh.owner,by rw [e2];exact hh.cls,by rw [e3];exact hh.many,hr,by rw [e3];exact hf,λ y hy=>by
    rcases hs y hy with hy|hy
    ·exact hh.seats y hy
    ·exact hy.2⟩
  ·exact g.each x (by rw [hL];simp [hx])
 ·show (A++h'::C).Pairwise _
  refine ((List.perm_middle (a:=h') (l₁:=A) (l₂:=C)).pairwise_iff λ {a b} h x hx hx'=>h x hx' hx).2 (List.pairwise_cons.2 ⟨λ y hy x hx=>?_,a2⟩);rcases hs x hx with hx|hx
  ·exact a1 y hy x hx
  ·exact λ hxy=>hx.1 (Zcn.2 ⟨y,by rw [hL];exact Zjz hy,hxy⟩)
theorem ZlY {A C:List ZD} {h h':ZD} {own':List (Int × Int)} (t:Tie f r) (g:ZaA r) (hL:r.L=A++h::C) (hA:Zb9 h.owner A=none) (e1:h'.owner=h.owner) (e2:h'.cls=h.cls) (e3:h'.many=h.many)
  (hs:∀ x∈h'.seats,x∈h.seats\/x ∉ Zz r.L) (hn:(own'.map (·.1)).Nodup) (ho:∀ n,ZH n own'=if n∈h'.seats then some h.owner else if n∈h.seats then none else ZH n f.own):
  Tie { f with hs:=ZeO h.owner h' f.hs,own:=own' } { r with L:=A++h'::C }:=by
 have hap:=g.apart;rw [hL] at hap;obtain ⟨a1,a2⟩:=ZhQ hap;have hg:ZH h.owner f.hs=some h:=by rw [t.get g.rise,hL];exact ZjP rfl hA
 obtain ⟨a,c,hsp,hna⟩:=Zan hg;have hset:ZeO h.owner h' f.hs=a++(h.owner,h')::c:=by rw [hsp];exact ZeV hna (ZeJ _)
 refine ⟨t.num,t.rows,t.grps,t.lims,?_,?_,?_,?_,hn⟩
 ·show f.sold=Z4 r.lims.length (A++h'::C)
  rw [Zky e2 e3,<-hL];exact t.sold
 ·show ((ZeO h.owner h' f.hs).map (·.2)).Perm (A++h'::C)
  have p:=t.hs;rw [hsp,hL,List.map_append,List.map_cons] at p;rw [hset,List.map_append,List.map_cons];have p2:=(List.perm_middle.symm.trans p).trans List.perm_middle;exact (List.perm_middle.trans (p2.cons_inv.cons h')).trans List.perm_middle.symm
 ·show ∀ e∈ZeO h.owner h' f.hs,e.2.owner=e.1
  rw [hset];intro e he;rw [List.mem_append,List.mem_cons] at he;rcases he with he|rfl|he
  ·exact t.key e (by rw [hsp];simp [he])
  ·exact e1
  ·exact t.key e (by rw [hsp];simp [he])
 ·intro n o
  show ZH n own'=some o↔∃ x∈A++h'::C,x.owner=o/\n∈x.seats;rw [ho];constructor
  ·intro e
   split at e
   ·rename_i hn';cases e
    exact ⟨h',by simp,e1,hn'⟩
   ·split at e
    ·cases e
    ·rename_i h1 h2
     obtain ⟨x,hx,hxo,hxn⟩:=(t.own n o).1 e;rw [hL,List.mem_append,List.mem_cons] at hx;rcases hx with hx|rfl|hx
     ·exact ⟨x,by simp [hx],hxo,hxn⟩
     ·exact absurd hxn h2
     ·exact ⟨x,by simp [hx],hxo,hxn⟩
  ·rintro ⟨x,hx,hxo,hxn⟩
   rw [List.mem_append,List.mem_cons] at hx;have other:x∈A++C->(if n∈h'.seats then some h.owner else if n∈h.seats then none else ZH n f.own)=some o:=λ hx=>by
    have hxL:x∈r.L:=by rw [hL];exact Zjz hx
    have n1:n ∉ h.seats:=λ hh=>a1 x hx n hh hxn;have n2:n ∉ h'.seats:=λ hh=>by
     rcases hs n hh with hh|hh
     ·exact n1 hh
     ·exact hh (Zcn.2 ⟨x,hxL,hxn⟩)
    rw [if_neg n2,if_neg n1];exact (t.own n o).2 ⟨x,hxL,hxo,hxn⟩
   rcases hx with hx|rfl|hx
   ·exact other (by simp [hx])
   ·rw [if_pos hxn,<-hxo,e1]
   ·exact other (by simp [hx])
theorem ZmY (t:Tie f r) (g:ZaA r) (o:Int) (lab:ByteArray) (hf:∀ k,Zbe r.rows r.grps lab=(k,0)->0<=k/\k<ZaL r.rows r.grps):
  (Zew f o lab).2=(Zad r o lab).2/\Tie (Zew f o lab).1 (Zad r o lab).1/\ZaA (Zad r o lab).1:=by
 unfold Zew Zad;rw [t.get g.rise];cases hg:Zb9 o r.L with
 |none=>exact ⟨rfl,t,g⟩
 |some h=>
  obtain ⟨A,C,hL,hA,rfl⟩:=ZbK hg;have hh:=g.each h (by rw [hL];simp);dsimp only;rw [show Zbe f.rows f.grps lab=Zbe r.rows r.grps lab by rw [t.rows,t.grps]];split
  ·exact ⟨rfl,t,g⟩
  rename_i h2;split
  ·exact ⟨rfl,t,g⟩
  rename_i h3;have hfe:(Zbe r.rows r.grps lab).2=0:=Classical.byContradiction h2;have hb:=hf (Zbe r.rows r.grps lab).1 (by rw [<-hfe]);by_cases h4:(Zbe r.rows r.grps lab).1∈Zz r.L
  ·rw [if_pos ((t.taken _).2 h4),if_pos h4];exact ⟨rfl,t,g⟩
  ·rw [if_neg (λ e=>h4 ((t.taken _).1 e)),if_neg h4]
   generalize (Zbe r.rows r.grps lab).1=n at *;have hset:ZpY h.owner (h.put n) r.L=A++h.put n::C:=by rw [hL];exact ZeU rfl hA
   rw [hset];have hnh:n ∉ h.seats:=λ e=>h4 (Zcn.2 ⟨h,by rw [hL];simp,e⟩);have hs:∀ x∈(h.put n).seats,x∈h.seats\/(x ∉ Zz r.L/\0<=x/\x<ZaL r.rows r.grps):=λ x hx=>by
    rcases Zbz.1 hx with rfl|hx
    ·exact .inr ⟨h4,hb⟩
    ·exact .inl hx
   refine ⟨rfl,ZlY (h':=h.put n) t g hL hA rfl rfl rfl (λ x hx=>(hs x hx).imp id (·.1)) (ZfF t.nod) λ x=>?_,ZjN (h':=h.put n) g hL rfl rfl rfl ?_ ?_ hs⟩
   ·rw [Zhx]
    show _=if x∈ZfN n h.seats then some h.owner else _
    by_cases hx:x=n
    ·rw [if_pos hx,if_pos (Zbz.2 (.inl hx))]
    ·rw [if_neg hx]
     by_cases hx2:x∈h.seats
     ·rw [if_pos (Zbz.2 (.inr hx2))]
      exact (t.own x h.owner).2 ⟨h,by rw [hL];simp,rfl,hx2⟩
     ·rw [if_neg (λ e=>(Zbz.1 e).elim hx hx2),if_neg hx2]
   ·exact ZdR.2 (Zmw (ZdR.1 hh.rise) hnh)
   ·show ((ZfN n h.seats).length:Int)<=_
    rw [ZjI];omega
theorem Zm0 (t:Tie f r) (g:ZaA r) (o:Int):(ZjO f o).2=(ZbR r o).2/\Tie (ZjO f o).1 (ZbR r o).1/\ZaA (ZbR r o).1:=by
 unfold ZjO ZbR;rw [t.get g.rise];cases hg:Zb9 o r.L with
 |none=>exact ⟨rfl,t,g⟩
 |some h=>
  obtain ⟨A,C,hL,hA,rfl⟩:=ZbK hg;have hh:=g.each h (by rw [hL];simp);have hmany:∀ x∈r.L,1<=x.many:=λ x hx=>(g.each x hx).many;have hap:=g.apart;rw [hL] at hap;obtain ⟨a1,a2⟩:=ZhQ hap;dsimp only;have hdel:Zuz h.owner r.L=A++C:=by rw [hL];exact Zj0 rfl hA
  rw [hdel];have p:r.L.Perm (h::(A++C)):=by rw [hL];exact List.perm_middle
  have hout:r.sold.set h.cls.toNat (r.sold.getD h.cls.toNat 0 - h.many)=Z4 r.lims.length (A++C):=ZpT p hh.cls.1 hh.cls.2;have hle:h.many<=r.sold.getD h.cls.toNat 0:=by
   show _<=(Z4 r.lims.length r.L).getD _ 0;have hcl:=hh.cls;rw [Zbm (by omega),Zc2 p,show ((h.cls.toNat:Nat):Int)=h.cls by omega];have:=ZhK (k:=h.cls) (L:=A++C) λ x hx=>hmany x (by rw [hL];exact Zjz hx);show h.many<=(if h.cls=h.cls then h.many else 0) + _
   rw [if_pos rfl];omega
  have hback:Zfp f.lims f.sold h.cls h.many=(Z4 r.lims.length (A++C),0):=by
   rw [t.lims,t.sold];unfold Zfp;have hl:(ZaW r.lims r.sold h.cls).2=0:=by unfold ZaW;rw [if_pos ⟨g.nest,hh.cls.1,hh.cls.2⟩]
   rw [if_neg (by rw [hl];have:=hh.many;omega),hout]
  rw [hback];have hg2:ZH h.owner f.hs=some h:=by rw [t.get g.rise];exact hg
  obtain ⟨a,c,hsp,hna⟩:=Zan hg2;have hdm:Zfj h.owner f.hs=a++c:=by rw [hsp];exact Zfi hna (ZeJ _)
  obtain ⟨d1,d2⟩:=Zo9 (l:=h.seats) t.nod;refine ⟨rfl,⟨t.num,t.rows,t.grps,t.lims,rfl,?_,?_,?_,d1⟩,⟨g.num,g.lay,?_,g.l0,?_,?_,a2⟩⟩
  ·show ((Zfj h.owner f.hs).map (·.2)).Perm (A++C)
   have p:=t.hs;rw [hsp,hL,List.map_append,List.map_cons] at p;rw [hdm,List.map_append];exact ((List.perm_middle.symm.trans p).trans List.perm_middle).cons_inv
  ·show ∀ e∈Zfj h.owner f.hs,e.2.owner=e.1
   intro e he;exact t.key e ((Zj1 _ _).subset he)
  ·intro n o'
   show ZH n (Zb5 h.seats f.own)=some o'↔∃ x∈A++C,x.owner=o'/\n∈x.seats;rw [d2];constructor
   ·intro e
    split at e
    ·cases e
    ·rename_i hn
     obtain ⟨x,hx,hxo,hxn⟩:=(t.own n o').1 e;rcases List.mem_cons.1 (p.mem_iff.1 hx) with rfl|hx
     ·exact absurd hxn hn
     ·exact ⟨x,hx,hxo,hxn⟩
   ·rintro ⟨x,hx,hxo,hxn⟩
    rw [if_neg (λ hh=>a1 x hx n hh hxn)];exact (t.own n o').2 ⟨x,p.mem_iff.2 (List.mem_cons_of_mem _ hx),hxo,hxn⟩
  ·refine ZqR g.nest (by show (Z4 _ _).length=(Z4 _ _).length;rw [ZaM,ZaM]) λ k hk=>?_
   show 0<=(Z4 r.lims.length (A++C)).getD k 0/\(Z4 r.lims.length (A++C)).getD k 0<=(Z4 r.lims.length r.L).getD k 0;have hk:k<r.lims.length:=hk;rw [Zbm hk,Zbm hk,Zc2 p];refine ⟨ZhK λ x hx=>hmany x (p.mem_iff.2 (List.mem_cons_of_mem _ hx)),?_⟩;rw [Zc3];have:=hh.many;split<;>omega
  ·have:=g.rise;rw [hL] at this;exact Zva this
  ·intro x hx
   exact g.each x (p.mem_iff.2 (List.mem_cons_of_mem _ hx))
end
end Go.Proofs.YtfgbbckfikiomaaGreatDoor
