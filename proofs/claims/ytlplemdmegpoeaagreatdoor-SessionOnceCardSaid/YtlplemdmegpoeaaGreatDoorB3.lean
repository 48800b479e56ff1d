/- Classes and limits: package nest, reference 14: what is left, selling, giving back. Condition: none. -/
import Derived.Test.YtlplemdmegpoeaaGreatDoorB2
import GoSem.Core.Float
import Derived.KernelRfl
import Derived.Laws.Externs
import Derived.Lib.Overlaps
import Derived.Shelf.SlIterI.Nil
import Derived.Shelf.SlIterI.Collect
import Derived.Shelf.SlIterI.Sorted
import Derived.Shelf.SortM.Plain
import Derived.Shelf.SortM.SortNone
import Derived.Ground.GgzProg
import Derived.Ground.SlgmProg
import Derived.Test.YtlplemdmegpoeaaGreatDoorProg
set_option linter.unusedVariables false
set_option linter.unusedSimpArgs false
set_option maxHeartbeats 8000000
namespace Go.Proofs.YtlplemdmegpoeaaGreatDoor
section
open Go Go.VC Tryz
variable {R:Cx} {Hs Rest:List HP} {w:World}
def Zl1 (b:Nat) (x:Nat->Int) (j c:Nat):HP:=λ h=>∃ L,ZnU x j c L/\pts b (.cells [nI L].toArray 3 (0,0)) h
theorem Zjh {b j c:Nat} {x:Nat->Int} (hw:Sat R (Zl1 b x j c::Hs) w):∃ L,ZnU x j c L/\Sat R (pts b (.cells [nI L].toArray 3 (0,0))::Hs) w:=
 let ⟨h,⟨L,hL,hp⟩,hd,hs⟩:=hw
 ⟨L,hL,h,hp,hd,hs⟩
theorem Zh0 {b j c:Nat} {x:Nat->Int} {L:Int} (hL:ZnU x j c L) (hw:Sat R (pts b (.cells [nI L].toArray 3 (0,0))::Hs) w):Sat R (Zl1 b x j c::Hs) w:=
 Sat.imp (λ _ h=>⟨L,hL,h⟩) hw
theorem Zp0 {bc bl:Nat} {c:Int} {x:Nat->Int} {j:Nat} (hw:Sat R (Zl1 bl x (j + 1) (c + 1).toNat::pts bc (.cells [nI c].toArray 3 (0,0))::Hs) w):
  Zm prog 202 #[nI j,nI (x j),nP bc,nP bl] w λ v w'=>v=.tuple #[]/\Sat R (Zl1 bl x j (c + 1).toNat::pts bc (.cells [nI c].toArray 3 (0,0))::Hs) w':=by
 obtain ⟨L,hL,hw⟩:=Zjh hw;apply Ztx;refine Zc.mk rfl ⟨c,oA hw,Br.d (λ h=>?_) (λ h=>⟨rfl,Zh0 (hL.skip (by omega)) hw⟩)⟩;refine Zc.mk rfl ⟨L,oA hw,?_⟩;refine sRu hw λ w hw=>?_;exact ⟨rfl,Zh0 (hL.step (by omega)) hw⟩
theorem ZhZ {sl ss:Sl} {lim sold:List Int} {c:Int} (hl:RoI R sl lim) (hs:RoI R ss sold) (hw:Sat R Hs w):
  Zm prog 123 #[.slice sl.a sl.len sl.cap,.slice ss.a ss.len ss.cap,nI c] w λ v w'=>v=.tuple #[nI (ZbJ lim sold c).1,nI (ZbJ lim sold c).2]/\Sat R Hs w':=by
 have hll:=hl.len;have hlb:=hl.bound;have no:¬ (Z8 lim sold=true/\0<=c/\c<lim.length)->ZbJ lim sold c=(0,1):=λ h=>by unfold ZbJ;rw [if_neg h]
 apply ZzI;refine Za hw λ bc w hw=>?_;refine Za hw λ bl w hw=>?_;have hw:Sat R (pts bl (.cells [nI 0].toArray 3 (0,0))::pts bc (.cells [nI c].toArray 3 (0,0))::Hs) w:=hw;refine sRu hw λ w hw=>?_;have hw:Sat R (pts bl (.cells [nI 10000].toArray 3 (0,0))::pts bc (.cells [nI c].toArray 3 (0,0))::Hs) w:=hw;by_cases hc:c<lim.length
 ·have h0:ZnU (Zd8 lim sold) lim.length (c + 1).toNat 10000:=⟨by omega,λ k h1 h2=>by omega,.inl rfl⟩
  refine (Zjf (A:=λ j=>Zl1 bl (Zd8 lim sold) j (c + 1).toNat::pts bc (.cells [nI c].toArray 3 (0,0))::Hs) hl hs (λ j w _ hw=>Zbq.mk (by kernel_rfl) ((Zp0 hw).use λ v w' h=>⟨by rw [h.1],h.2⟩)) (Zh0 h0 hw)).use ?_;rintro _ w ⟨rfl,j,hw,hj⟩;refine ⟨_,rfl,Br.nb (λ h=>⟨?_,hw.drop.drop⟩) (λ h1=>?_)⟩
  ·rw [no (λ h2=>by rw [h] at h2;cases h2.1)]
  obtain rfl:=hj h1;obtain ⟨L,hL,hw⟩:=Zjh hw;refine ⟨c,oA hw,Br.d (λ h=>⟨by rw [no (λ h2=>by omega)],hw.drop.drop⟩) (λ h2=>?_)⟩;refine ⟨c,oA hw,Br.d (λ h=>⟨by rw [no (λ h2=>by omega)],hw.drop.drop⟩) (λ h3=>?_)⟩;refine ⟨L,oA hw,?_,hw.drop.drop⟩;have e:ZbJ lim sold c=(mnF (Zd8 lim sold) (c.toNat + 1),0):=by unfold ZbJ;rw [if_pos ⟨h1,by omega,hc⟩]
  rw [e,show c.toNat + 1=(c + 1).toNat by omega];rw [hL.eq (Zos _ _)]
 ·have h0:ZnU (λ _=>0) 0 0 10000:=⟨by omega,λ k h1 h2=>by omega,.inl rfl⟩
  refine (Zjf (A:=λ j=>exs (λ L=>pts bl (.cells [nI L].toArray 3 (0,0)))::pts bc (.cells [nI c].toArray 3 (0,0))::Hs) hl hs (λ j w _ hw=>Zbq.mk (by kernel_rfl) ?_) (Sat.exs.2 ⟨10000,hw⟩)).use ?_
  ·obtain ⟨L,hw⟩:=Sat.exs.1 hw
   refine Zm.use (Q:=λ v w'=>v=.tuple #[]/\Sat R (exs (λ L=>pts bl (.cells [nI L].toArray 3 (0,0)))::pts bc (.cells [nI c].toArray 3 (0,0))::Hs) w') (Ztx _ _ _ _ _ _ ?_) λ v w' h=>⟨by rw [h.1],h.2⟩;refine Zc.mk rfl ⟨c,oA hw,Br.d (λ h=>?_) (λ h=>⟨rfl,Sat.exs.2 ⟨L,hw⟩⟩)⟩;refine Zc.mk rfl ⟨L,oA hw,?_⟩;refine sRu hw λ w hw=>?_;exact ⟨rfl,Sat.exs.2 ⟨_,hw⟩⟩
  rintro _ w ⟨rfl,j,hw,hj⟩;obtain ⟨L,hw⟩:=Sat.exs.1 hw;have e:=no (λ h2=>by omega);refine ⟨_,rfl,Br.nb (λ h=>⟨by rw [e],hw.drop.drop⟩) (λ h1=>?_)⟩;refine ⟨c,oA hw,Br.d (λ h=>⟨by rw [e],hw.drop.drop⟩) (λ h2=>?_)⟩;refine ⟨c,oA hw,Br.d (λ h=>⟨by rw [e],hw.drop.drop⟩) (λ h3=>by omega)⟩
theorem Zfu {s:Sl} {l:List Int} (hs:RoI R s l) (hl:l.length<=1000000000) (hw:Sat R Hs w):
  Zm prog 166 #[.slice s.a s.len s.cap] w λ v w'=>∃ t:Sl,v=.slice t.a t.len t.cap/\Sat R (Own t 3 (l.map (Value.int .i64))::Hs) w':=by
 apply Zzh;refine Br.mk (λ h=>?_) (λ h=>?_)
 ·have hnil:l=[]:=by
   by_cases hn:l=[]
   ·exact hn
   ·obtain ⟨b,off,l',T,fr,ha,_⟩:=hs.mem (by simpa using hn)
    rw [ha] at h;cases h
  subst hnil;exact ⟨⟨none,0,0⟩,rfl,Own.nil hw⟩
 ·refine Za hw λ b w hw=>?_
  have hw:Sat R (Own ⟨some ⟨b,0,none⟩,0,0⟩ 3 (([]:List Int).map (Value.int .i64))::Hs) w:=ZbH hw;refine Zho ZqF (s:=⟨some ⟨b,0,none⟩,0,0⟩) (n:=1000000000) underlying30 hw hs (by simpa using hl) (by omega) (by omega) λ t w hw=>?_;exact ⟨t,rfl,hw⟩
theorem ZlW {s:Sl} {l:List Int} {c many:Int} (hs:RoI R s l) (hl:l.length<=1000) (hc:0<=c) (hc2:c<l.length) (hb:∀ x∈l,0<=x/\x<=10000) (hm: -10000<=many/\many<=10000) (hw:Sat R Hs w):
  Zm prog 238 #[.slice s.a s.len s.cap,nI c,nI many] w λ v w'=>∃ t:Sl,v=.slice t.a t.len t.cap/\Sat R (Own t 3 ((l.set c.toNat (l.getD c.toNat 0 + many)).map (Value.int .i64))::Hs) w':=by
 obtain ⟨k,rfl⟩:=Int.eq_ofNat_of_zero_le hc;have hk:k<l.length:=by omega
 have hx:=hb l[k] (List.getElem_mem _);apply ZyA;refine (Zfu hs (by omega) hw).u1 λ t w hw=>?_;refine ⟨t,rfl,?_⟩;refine Own.ix hw (eqS hw) k rfl hk ?_;refine Own.store (by kernel_rfl) hw hk λ w hw=>?_;rw [Zf] at hw;rw [Int.toNat_natCast,Z0 hk];exact ⟨t,rfl,hw⟩
theorem ZlS {lim sold:List Int} (h:Z8 lim sold=true):(∀ x∈sold,0<=x/\x<=10000)/\sold.length=lim.length/\lim.length<=8:=by
 obtain ⟨h1,h2,h3⟩:=ZT.1 h;obtain ⟨⟨_,h4⟩,_⟩:=Zan.1 h1;refine ⟨λ x hx=>?_,h2,h4⟩;obtain ⟨k,hk,rfl⟩:=List.getElem_of_mem hx;have:=(h3 k (by omega)).1;rw [Z0 hk] at this;exact this
theorem Znh {lim sold:List Int} {c:Int} (h:(ZbJ lim sold c).2=0):Z8 lim sold=true/\0<=c/\c<lim.length:=by
 unfold ZbJ at h;split at h
 ·assumption
 ·simp at h
theorem Zrk {sl ss:Sl} {lim sold:List Int} {c many:Int} (hl:RoI R sl lim) (hs:RoI R ss sold) (hw:Sat R Hs w):
  Zm prog 168 #[.slice sl.a sl.len sl.cap,.slice ss.a ss.len ss.cap,nI c,nI many] w λ v w'=>∃ t:Sl,v=.tuple #[.slice t.a t.len t.cap,nI (Zbc lim sold c many).2]/\Sat R (Own t 3 ((Zbc lim sold c many).1.map (Value.int .i64))::Hs) w':=by
 apply Zzf;refine (ZhZ hl hs hw).u λ w hw=>?_;have bad:((ZbJ lim sold c).2≠0\/many<1\/many>10000)->∃ t:Sl,Value.tuple #[.slice none 0 0,nI 1]=.tuple #[.slice t.a t.len t.cap,nI (Zbc lim sold c many).2]/\Sat R (Own t 3 ((Zbc lim sold c many).1.map (Value.int .i64))::Hs) w:=λ h=>by
  unfold Zbc;rw [if_pos h];exact ⟨⟨none,0,0⟩,rfl,Own.nil hw⟩
 refine ⟨_,_,rfl,Br.ne (λ h=>bad (.inl h)) (λ h1=>Br.d (λ h=>bad (.inr (.inl h))) (λ h2=>Br.d (λ h=>bad (.inr (.inr h))) (λ h3=>?_)))⟩;have e:Zbc lim sold c many=if many>(ZbJ lim sold c).1 then ([],3) else (sold.set c.toNat (sold.getD c.toNat 0 + many),0):=by
  unfold Zbc;rw [if_neg (by omega)]
 rw [e];obtain ⟨n1,n2,n3⟩:=Znh h1;obtain ⟨n4,n5,n6⟩:=ZlS n1;refine Br.d (λ h=>?_) (λ h=>?_)
 ·rw [if_pos h];exact ⟨⟨none,0,0⟩,rfl,Own.nil hw⟩
 ·rw [if_neg h]
  refine (ZlW hs (by omega) n2 (by omega) n4 ⟨by omega,by omega⟩ hw).u1 λ t w hw=>?_;exact ⟨t,rfl,t,rfl,hw⟩
theorem ZtR {sl ss:Sl} {lim sold:List Int} {c many:Int} (hl:RoI R sl lim) (hs:RoI R ss sold) (hw:Sat R Hs w):
  Zm prog 175 #[.slice sl.a sl.len sl.cap,.slice ss.a ss.len ss.cap,nI c,nI many] w λ v w'=>∃ t:Sl,v=.tuple #[.slice t.a t.len t.cap,nI (Zgh lim sold c many).2]/\Sat R (Own t 3 ((Zgh lim sold c many).1.map (Value.int .i64))::Hs) w':=by
 have hsl:=hs.len;apply Zy8;refine (ZhZ hl hs hw).u λ w hw=>?_;have bad:((ZbJ lim sold c).2≠0\/many<1\/many>sold.getD c.toNat 0)->∃ t:Sl,Value.tuple #[.slice none 0 0,nI 1]=.tuple #[.slice t.a t.len t.cap,nI (Zgh lim sold c many).2]/\Sat R (Own t 3 ((Zgh lim sold c many).1.map (Value.int .i64))::Hs) w:=λ h=>by
  unfold Zgh;rw [if_pos h];exact ⟨⟨none,0,0⟩,rfl,Own.nil hw⟩
 refine ⟨_,_,rfl,Br.ne (λ h=>bad (.inl h)) (λ h1=>Br.d (λ h=>bad (.inr (.inl h))) (λ h2=>?_))⟩;obtain ⟨n1,n2,n3⟩:=Znh h1;obtain ⟨n4,n5,n6⟩:=ZlS n1;have hx:=n4 (sold[c.toNat]'(by omega)) (List.getElem_mem _);refine Ro.ix hs (eqS hw) c.toNat (by omega) (by omega) ?_;refine Br.d (λ h=>bad (.inr (.inr (by rw [Z0 (by omega)];exact h)))) (λ h3=>?_);have e:Zgh lim sold c many=(sold.set c.toNat (sold.getD c.toNat 0 - many),0):=by
  unfold Zgh;rw [if_neg (by rw [Z0 (by omega)];omega)]
 rw [e,show wI (0 - many)=-many by rw [Zf];omega];refine (ZlW hs (by omega) n2 (by omega) n4 ⟨by omega,by omega⟩ hw).u1 λ t w hw=>?_;rw [<-Int.sub_eq_add_neg] at hw;exact ⟨t,rfl,t,rfl,hw⟩
theorem Zls {sl:Sl} {lim:List Int} (hl:RoI R sl lim) (hw:Sat R Hs w):
  Zm prog 260 #[.slice sl.a sl.len sl.cap] w λ v w'=>v=.bool (Zfo lim)/\Sat R Hs w':=by
 have hll:=hl.len;have hlb:=hl.bound;have no:¬ ((1<=lim.length/\lim.length<=8)/\∀ k (h:k<lim.length),(0<=lim[k]/\lim[k]<=10000)/\(0<k->lim[k]<=lim.getD (k - 1) 0))->Value.bool false=.bool (Zfo lim):=λ h=>by
  have:Zfo lim=false:=by rw [<-Bool.not_eq_true,Zan];exact h
  rw [this]
 apply Zyj;refine ⟨λ w=>(1<=lim.length/\lim.length<=8)/\Sat R Hs w,Br.d (λ h=>⟨no (λ h2=>by omega),hw⟩) (λ h1=>Br.d (λ h=>⟨no (λ h2=>by omega),hw⟩) (λ h2=>⟨⟨by omega,by omega⟩,hw⟩)),?_⟩;clear hw;rintro _ w ⟨h0,hw⟩;refine ⟨λ i w=>∃ j:Nat,i=j/\j<=lim.length/\(∀ k (h:k<lim.length),k<j->(0<=lim[k]/\lim[k]<=10000)/\(0<k->lim[k]<=lim.getD (k - 1) 0))/\Sat R Hs w,λ i _=>lim.length - i.toNat,⟨0,rfl,by omega,λ k h h'=>by omega,hw⟩,?_⟩;clear hw;rintro _ _ w ⟨j,rfl,hj,hn,hw⟩;refine Br.d (λ h=>?_) (λ h=>⟨by rw [Zan.2 ⟨h0,λ k hk=>hn k hk (by omega)⟩],hw⟩);have hj2:j<lim.length:=by omega
 refine Zo hw λ w hw=>?_;refine Ro.ix hl Zbg j rfl hj2 ?_;refine Br.d (λ h=>⟨no (λ h2=>by have:=(h2.2 j hj2).1;omega),hw⟩) (λ h1=>?_);refine Ro.ix hl Zbg j rfl hj2 ?_;refine Br.d (λ h=>⟨no (λ h2=>by have:=(h2.2 j hj2).1;omega),hw⟩) (λ h2=>?_);have next:(0<j->lim[j]<=lim.getD (j - 1) 0)->(∃ j':Nat,wI ((j:Int) + 1)=j'/\j'<=lim.length/\(∀ k (h:k<lim.length),k<j'->(0<=lim[k]/\lim[k]<=10000)/\(0<k->lim[k]<=lim.getD (k - 1) 0))/\Sat R Hs w)/\lim.length - (wI ((j:Int) + 1)).toNat<lim.length - (j:Int).toNat:=λ h3=>by
  rw [Zf];refine ⟨⟨j + 1,by omega,by omega,λ k hk hk2=>?_,hw⟩,by omega⟩;by_cases hkj:k=j
  ·subst hkj;exact ⟨⟨by omega,by omega⟩,h3⟩
  ·exact hn k hk (by omega)
 refine Br.d (λ h3=>?_) (λ h3=>next λ h=>by omega);refine Ro.ix hl Zbg j rfl hj2 ?_;refine Ro.ix hl Zbg (j - 1) (by rw [Zf];omega) (by omega) ?_;refine Br.d (λ h4=>⟨no (λ h2=>?_),hw⟩) (λ h4=>next λ _=>by rw [Z0 (by omega)];omega);have:=(h2.2 j hj2).2 (by omega);rw [Z0 (by omega)] at this;omega
theorem Zpw {ss:Sl} {sold:List Int} {k:Nat} (hs:RoI R ss sold) (hb:∀ x∈sold,0<=x/\x<=10000) (hlen:sold.length<=1000) (hk:k<=1000) (hw:Sat R Hs w):
  Zm prog 204 #[.slice ss.a ss.len ss.cap,nI k] w λ v w'=>v=nI (ZaN sold k)/\Sat R Hs w':=by
 have hsl:=hs.len;have hfb:=ZoG hb;apply ZyS;refine ⟨λ n i w=>∃ j:Nat,i=j/\k<=j/\(j<=k\/j<=sold.length)/\n + ZaN sold j=ZaN sold k/\Sat R Hs w,λ _ i _=>sold.length - i.toNat,⟨k,rfl,by omega,.inl (by omega),by omega,hw⟩,?_⟩;clear hw;rintro n _ _ w ⟨j,rfl,hj,hj2,hn,hw⟩;refine Br.d (λ h=>?_) (λ h=>?_)
 ·have hj3:j<sold.length:=by omega
  have hst:=Za9 hj3;have hx:=hb sold[j] (List.getElem_mem _);have h1:=hfb (j + 1);have h2:=hfb k;have h3:=hfb j;refine Ro.ix hs (eqS hw) j rfl hj3 ?_;rw [Zf (x:=(j:Int) + 1),Zf];exact ⟨⟨j + 1,by omega,by omega,.inr (by omega),by omega,hw⟩,by dsimp only;omega⟩
 ·rw [Zcj (show sold.length<=j by omega)] at hn
  exact ⟨by rw [<-hn];congr 1;omega,hw⟩
theorem Zlq {sl ss:Sl} {lim sold:List Int} (hl:RoI R sl lim) (hs:RoI R ss sold) (hw:Sat R Hs w):
  Zm prog 203 #[.slice sl.a sl.len sl.cap,.slice ss.a ss.len ss.cap] w λ v w'=>v=.bool (Z8 lim sold)/\Sat R Hs w':=by
 have hll:=hl.len;have hsl:=hs.len;have no:¬ (Zfo lim=true/\sold.length=lim.length/\∀ k,k<lim.length->(0<=sold.getD k 0/\sold.getD k 0<=10000)/\ZaN sold k<=lim.getD k 0)->Value.bool false=.bool (Z8 lim sold):=λ h=>by rw [Zed h]
 apply ZyT;refine (Zls hl hw).u λ w hw=>?_;refine ⟨_,rfl,λ w=>(Zfo lim=true/\sold.length=lim.length)/\Sat R Hs w,Br.nb (λ h=>⟨no (λ h2=>by rw [h] at h2;cases h2.1),hw⟩) (λ h1=>Br.ne (λ h=>⟨no (λ h2=>by omega),hw⟩) (λ h2=>⟨⟨h1,by omega⟩,hw⟩)),?_⟩;clear hw;rintro _ w ⟨⟨h1,h2⟩,hw⟩;have h8:=(Zan.1 h1).1.2;refine ⟨λ i w=>∃ j:Nat,i=j/\j<=sold.length/\(∀ k,k<j->0<=sold.getD k 0/\sold.getD k 0<=10000)/\Sat R Hs w,λ i _=>sold.length - i.toNat,⟨0,rfl,by omega,λ k h=>by omega,hw⟩,?_⟩;clear hw;rintro _ _ w ⟨j,rfl,hj,hn,hw⟩;refine Br.d (λ h=>?_) (λ h=>?_)
 ·have hj2:j<sold.length:=by omega
  have nn:¬ (0<=sold[j]/\sold[j]<=10000)->Value.bool false=.bool (Z8 lim sold):=λ h=>no λ h3=>h (by have:=(h3.2.2 j (by omega)).1;rw [Z0 hj2] at this;exact this);refine Ro.ix hs (eqS hw) j rfl hj2 ?_;refine Br.d (λ h=>⟨nn (by omega),hw⟩) (λ h3=>?_);refine Ro.ix hs (eqS hw) j rfl hj2 ?_;refine Br.d (λ h=>⟨nn (by omega),hw⟩) (λ h4=>?_);rw [Zf];refine ⟨⟨j + 1,by omega,by omega,λ k hk=>?_,hw⟩,by dsimp only;omega⟩;by_cases hkj:k=j
  ·subst hkj;rw [Z0 hj2];omega
  ·exact hn k (by omega)
 have hjs:sold.length<=j:=by omega
 have hsb:∀ x∈sold,0<=x/\x<=10000:=λ x hx=>by
  obtain ⟨k,hk,rfl⟩:=List.getElem_of_mem hx;have:=hn k (by omega);rw [Z0 hk] at this;exact this
 refine ⟨λ i w=>∃ j:Nat,i=j/\j<=lim.length/\(∀ k,k<j->ZaN sold k<=lim.getD k 0)/\Sat R Hs w,λ i _=>lim.length - i.toNat,⟨0,rfl,by omega,λ k h=>by omega,hw⟩,?_⟩;clear hw h;rintro _ _ w ⟨i,rfl,hi,hni,hw⟩;refine Br.d (λ h=>?_) (λ h=>?_)
 ·have hi2:i<lim.length:=by omega
  refine Zo hw λ w hw=>?_;refine Ro.ix hl Zbg i rfl hi2 ?_;refine (Zpw hs hsb (by omega) (by omega) hw).u λ w hw=>?_;refine ⟨_,rfl,hw,Br.d (λ h=>⟨no (λ h3=>?_),hw⟩) (λ h3=>?_)⟩
  ·have:=(h3.2.2 i hi2).2
   rw [Z0 hi2] at this;omega
  ·rw [Zf]
   refine ⟨⟨i + 1,by omega,by omega,λ k hk=>?_,hw⟩,by dsimp only;omega⟩;by_cases hki:k=i
   ·subst hki;rw [Z0 hi2];omega
   ·exact hni k (by omega)
 ·refine ⟨?_,hw⟩
  rw [ZT.2 ⟨h1,h2,λ k hk=>⟨hn k (by omega),hni k (by omega)⟩⟩]
end
end Go.Proofs.YtlplemdmegpoeaaGreatDoor
namespace Go.VC
section
open Ieee
abbrev fw (n:Nat):Nat:=double.nearest false n 0
def fwOk (n:Nat):Bool:=match double.read (fw n) with
 | .number false m e=>decide (e<=0) && (m==n<<<(-e).toNat)
 |_=>false
set_option maxRecDepth 100000 in
theorem ZAJ:(List.range 10002).all fwOk=true:=by kernel_rfl
theorem ZxB {n:Nat} (h:n<=10001):∃ d:Nat,double.read (fw n)=.number false (n * 2 ^ d) (-(d:Int)):=by
 have:=List.all_eq_true.1 ZAJ n (List.mem_range.2 (by omega));unfold fwOk at this;split at this
 ·rename_i m e he
  simp only [Bool.and_eq_true,decide_eq_true_eq,beq_iff_eq] at this;refine ⟨(-e).toNat,?_⟩;rw [he,this.2,Nat.shiftLeft_eq,show (-((-e).toNat:Int))=e by omega]
 ·cases this
theorem Ztf {n drop B:Nat} (h:n<B * 2 ^ drop):Toward.even.cut false n drop<=B:=by
 unfold Toward.cut;simp only;generalize hg:1<<<min drop (n.log2 + 2)=gap;rw [Nat.shiftLeft_eq,Nat.one_mul] at hg;have hb:∀ b:Bool,b.toNat<=1:=λ b=>by cases b<;>simp
 by_cases hd:drop<=n.log2 + 2
 ·rw [Nat.min_eq_left hd] at hg
  subst hg;have h1:n / 2 ^ drop<B:=(Nat.div_lt_iff_lt_mul (Nat.two_pow_pos drop)).2 h;have:=hb (decide (2 ^ drop<2 * (n % 2 ^ drop))||(2 ^ drop==2 * (n % 2 ^ drop) && n / 2 ^ drop % 2==1));omega
 ·rw [Nat.min_eq_right (by omega)] at hg
  have hn:n<2 ^ (n.log2 + 1):=Nat.lt_log2_self;have hp:2 ^ (n.log2 + 2)=2 * 2 ^ (n.log2 + 1):=by rw [Nat.pow_succ];omega
  subst hg;have h0:n / 2 ^ (n.log2 + 2)=0:=Nat.div_eq_of_lt (by omega);have h1:n % 2 ^ (n.log2 + 2)=n:=Nat.mod_eq_of_lt (by omega);rw [h0,h1];have e1:decide (2 ^ (n.log2 + 2)<2 * n)=false:=decide_eq_false (by omega);have e2:(2 ^ (n.log2 + 2)==2 * n)=false:=by
   rw [beq_eq_false_iff_ne];omega
  rw [e1,e2];simp
theorem Zii:double.leastPlace=-1074:=by decide
theorem ZgI:double.binade=4503599627370496:=by decide
theorem ZnE:double.infRung=2047 * 4503599627370496:=by decide
theorem ZoR:double.signWeight=9223372036854775808:=by decide
theorem Zvx:(double.fractionBits:Nat)=52:=rfl
theorem ZoS {n drop:Nat}:Toward.down.cut false n drop=n / 2 ^ drop:=by
 unfold Toward.cut;simp only;rw [Nat.shiftLeft_eq,Nat.one_mul];have e:(false && n % 2 ^ min drop (n.log2 + 2) !=0).toNat=0:=by simp
 rw [e,Nat.add_zero];by_cases hd:drop<=n.log2 + 2
 ·rw [Nat.min_eq_left hd]
 ·rw [Nat.min_eq_right (by omega)]
  have hn:n<2 ^ (n.log2 + 1):=Nat.lt_log2_self;have h1:2 ^ (n.log2 + 1)<=2 ^ (n.log2 + 2):=Nat.pow_le_pow_right (by omega) (by omega);have h2:2 ^ (n.log2 + 2)<=2 ^ drop:=Nat.pow_le_pow_right (by omega) (by omega);rw [Nat.div_eq_of_lt (by omega),Nat.div_eq_of_lt (by omega)]
theorem Zwq {n drop:Nat} (h:drop<=n.log2 + 2):n / 2 ^ drop<=Toward.even.cut false n drop/\Toward.even.cut false n drop<=n / 2 ^ drop + 1:=by
 unfold Toward.cut;simp only;rw [Nat.shiftLeft_eq,Nat.one_mul,Nat.min_eq_left h];have hb:∀ b:Bool,b.toNat<=1:=λ b=>by cases b<;>simp
 have:=hb (decide (2 ^ drop<2 * (n % 2 ^ drop))||(2 ^ drop==2 * (n % 2 ^ drop) && n / 2 ^ drop % 2==1));omega
theorem ZrA {i kept:Nat} (hi:i<=1074) (hk:kept<=9007199254740992) (hk2:0<i->4503599627370496<=kept):
  ∃ mp:Nat,∃ j:Nat,double.read (i * 4503599627370496 + kept)=.number false mp (-1074 + (j:Int))/\((mp=kept/\j=i)\/(mp=4503599627370496/\kept=9007199254740992/\j=i + 1)):=by
 have hr:i * 4503599627370496 + kept<9223372036854775808:=by omega
 unfold Format.read;simp only;rw [ZoR,ZgI,ZnE,Zii];rw [Nat.mod_eq_of_lt hr,Nat.div_eq_of_lt hr];have e0:(0 % 2==1)=false:=by decide
 rw [e0];by_cases h1:i * 4503599627370496 + kept<4503599627370496
 ·rw [if_pos h1]
  have:i=0:=by omega
  subst this;exact ⟨_,0,rfl,.inl ⟨by omega,rfl⟩⟩
 rw [if_neg h1,if_pos (by omega)];by_cases h2:kept<9007199254740992
 ·have h3:4503599627370496<=kept:=by
   by_cases hi0:0<i
   ·exact hk2 hi0
   ·omega
  have d1:(i * 4503599627370496 + kept) / 4503599627370496=i + 1:=by omega
  have d2:(i * 4503599627370496 + kept) % 4503599627370496=kept - 4503599627370496:=by omega
  rw [d1,d2];refine ⟨_,i,?_,.inl ⟨rfl,rfl⟩⟩;rw [show 4503599627370496 + (kept - 4503599627370496)=kept by omega,show i + 1 - 1=i by omega]
 ·have:kept=9007199254740992:=by omega
  subst this;have d1:(i * 4503599627370496 + 9007199254740992) / 4503599627370496=i + 2:=by omega
  have d2:(i * 4503599627370496 + 9007199254740992) % 4503599627370496=0:=by omega
  rw [d1,d2];exact ⟨_,i + 1,rfl,.inr ⟨by omega,rfl,rfl⟩⟩
theorem plc1 {j L:Nat} (h:j=1074 - L) (h2:L<=1074): -1074 + (j:Int)=-(L:Int):=by omega
theorem plc2 {j L:Nat} (h:j=1074 - L + 1) (h2:L<=1074) (h1:39<=L): -1074 + (j:Int)=-((L - 1:Nat):Int):=by omega
theorem Zxz {B L kept:Nat} (h1:kept<=B * 2 ^ L) (h2:kept=9007199254740992) (h3:39<=L):4503599627370496<=B * 2 ^ (L - 1):=by
 have h4:2 ^ L=2 * 2 ^ (L - 1):=by rw [<-Nat.pow_succ'];congr 1;omega
 rw [h4,Nat.mul_left_comm] at h1;clear h4;generalize B * 2 ^ (L - 1)=y at *;omega
theorem Zsl {M d B:Nat} (hB:B<=10000) (hlt:M<B * 2 ^ d):
  ∃ mp dp:Nat,double.read (double.nearest false M (-(d:Int)))=.number false mp (-(dp:Int))/\mp<=B * 2 ^ dp:=by
 by_cases hM:M=0
 ·subst hM
  refine ⟨0,1074,?_,by omega⟩;unfold Format.nearest;rw [if_pos rfl];decide
 unfold Format.nearest;rw [if_neg hM,Zii,ZgI,ZnE,Zvx];have hlog:2 ^ M.log2<=M:=Nat.log2_self_le hM;have hlog2:M<2 ^ (M.log2 + 1):=Nat.lt_log2_self;have hl14:M.log2<14 + d:=by
  have:2 ^ M.log2<2 ^ (14 + d):=by
   rw [Nat.pow_add];have:B * 2 ^ d<=2 ^ 14 * 2 ^ d:=Nat.mul_le_mul_right _ (by omega);omega
  exact (Nat.pow_lt_pow_iff_right (by omega)).1 this
 simp only;generalize hlast:max (-(d:Int) + (M.log2:Int) - ((52:Nat):Int)) (-1074)=last;obtain ⟨L,hL⟩:∃ L:Nat,last=-(L:Int):=⟨(-last).toNat,by omega⟩;have hL1:39<=L:=by omega
 have hL2:L<=1074:=by omega
 subst hL;have hi:(-(L:Int) - -1074).toNat=1074 - L:=by omega
 rw [hi]
 -- what is kept
 obtain ⟨kept,hkd,hk1,hk2,hk3⟩:∃ kept,Toward.even.cut false (M<<<(-(d:Int) - -(L:Int)).toNat) (-(L:Int) - -(d:Int)).toNat=kept/\kept<=B * 2 ^ L/\kept<=9007199254740992/\(0<1074 - L->4503599627370496<=kept):=by
  refine ⟨_,rfl,?_⟩;by_cases hdl:d<=L
  ·have e1:(-(d:Int) - -(L:Int)).toNat=L - d:=by omega
   have e2:(-(L:Int) - -(d:Int)).toNat=0:=by omega
   rw [e1,e2,Nat.shiftLeft_eq];have hp:2 ^ L=2 ^ d * 2 ^ (L - d):=by rw [<-Nat.pow_add];congr 1;omega
   have hlt':M * 2 ^ (L - d)<B * 2 ^ L:=by
    rw [hp,<-Nat.mul_assoc];exact Nat.mul_lt_mul_of_pos_right hlt (Nat.two_pow_pos _)
   have c1:=Ztf (n:=M * 2 ^ (L - d)) (drop:=0) (B:=B * 2 ^ L) (by simpa using hlt');have c2:=Zwq (n:=M * 2 ^ (L - d)) (drop:=0) (by omega);rw [Nat.pow_zero,Nat.div_one] at c2
   -- no rest, so it is the number itself
   have c3:Toward.even.cut false (M * 2 ^ (L - d)) 0=M * 2 ^ (L - d):=by
    unfold Toward.cut;simp [Nat.mod_one]
   rw [c3] at c1 ⊢;have hup:M * 2 ^ (L - d)<2 ^ (M.log2 + 1) * 2 ^ (L - d):=Nat.mul_lt_mul_of_pos_right hlog2 (Nat.two_pow_pos _);rw [<-Nat.pow_add] at hup;have hle:M.log2 + 1 + (L - d)<=53:=by omega
   have h53:2 ^ (M.log2 + 1 + (L - d))<=2 ^ 53:=Nat.pow_le_pow_right (by omega) hle;refine ⟨c1,by omega,λ h=>?_⟩;have hlo:2 ^ M.log2 * 2 ^ (L - d)<=M * 2 ^ (L - d):=Nat.mul_le_mul_right _ hlog;rw [<-Nat.pow_add] at hlo;have he:M.log2 + (L - d)=52:=by omega
   rw [he] at hlo;omega
  ·have e1:(-(d:Int) - -(L:Int)).toNat=0:=by omega
   have e2:(-(L:Int) - -(d:Int)).toNat=d - L:=by omega
   rw [e1,e2,Nat.shiftLeft_zero];have hp:2 ^ d=2 ^ L * 2 ^ (d - L):=by rw [<-Nat.pow_add];congr 1;omega
   have c1:=Ztf (n:=M) (drop:=d - L) (B:=B * 2 ^ L) (by rw [Nat.mul_assoc,<-hp];exact hlt);by_cases hdr:d - L<=M.log2 + 2
   ·have c2:=Zwq hdr
    have hup:M / 2 ^ (d - L)<2 ^ 53:=by
     rw [Nat.div_lt_iff_lt_mul (Nat.two_pow_pos _),<-Nat.pow_add];have:2 ^ (M.log2 + 1)<=2 ^ (53 + (d - L)):=Nat.pow_le_pow_right (by omega) (by omega);omega
    refine ⟨c1,by omega,λ h=>?_⟩;have hlo:2 ^ 52<=M / 2 ^ (d - L):=by
     rw [Nat.le_div_iff_mul_le (Nat.two_pow_pos _),<-Nat.pow_add];have:2 ^ (52 + (d - L))<=2 ^ M.log2:=Nat.pow_le_pow_right (by omega) (by omega);omega
    omega
   ·-- all of it is dropped
    have hL3:L=1074:=by omega
    have c0:Toward.even.cut false M (d - L)<=1:=Ztf (by
     have h1:2 ^ (M.log2 + 1)<=2 ^ (d - L):=Nat.pow_le_pow_right (by omega) (by omega);omega)
    exact ⟨c1,by omega,λ h=>by omega⟩
 rw [hkd];obtain ⟨mp,j,hr,hc⟩:=ZrA (i:=1074 - L) (by omega) hk2 hk3;have hmin:min ((1074 - L) * 4503599627370496 + kept) (2047 * 4503599627370496)=(1074 - L) * 4503599627370496 + kept:=Nat.min_eq_left (by omega);have hword:double.word false (min ((1074 - L) * 4503599627370496 + kept) (2047 * 4503599627370496))=(1074 - L) * 4503599627370496 + kept:=by rw [hmin];unfold Format.word;rw [if_neg (by simp)]
 rw [hword,hr];rcases hc with ⟨hmk,hj⟩|⟨hmk,hkk,hj⟩
 ·exact ⟨mp,L,by rw [plc1 hj hL2],by rw [hmk];exact hk1⟩
 ·exact ⟨mp,L - 1,by rw [plc2 hj hL2 hL1],by rw [hmk];exact Zxz hk1 hkk hL1⟩
def Zt4 (p mp dp:Nat):Prop:=double.read p=.number false mp (-(dp:Int))
theorem Zwe {n:Nat} (h:n<=10001):∃ d,Zt4 (fw n) (n * 2 ^ d) d:=ZxB h
theorem Zub:Zt4 0 0 1074:=by unfold Zt4;decide
theorem ZuJ {x:Nat} (h0:double.order x 0=some .gt) (h1:double.order x 4607182418800017408≠some .gt) (h2:double.order x 4607182418800017408≠some .eq):∃ m d,Zt4 x m d/\0<m/\m<2 ^ d:=by
 have e0:double.read 0=.number false 0 (-1074):=by decide
 have e1:double.read 4607182418800017408=.number false 4503599627370496 (-52):=by decide
 unfold Format.order at h0 h1 h2;rw [e0] at h0;rw [e1] at h1 h2;generalize hx:double.read x=dx at h0 h1 h2;cases dx with
 |nan s f=>simp [Datum.order] at h0
 |infinity s=>
  cases s
  ·exact absurd rfl h1
  ·simp [Datum.order] at h0
 |number s m e=>
  unfold Datum.order at h0 h1 h2;simp only [ne_eq,Option.some.injEq] at h0 h1 h2;have hg:=Int.compare_eq_gt.1 h0;have hz:signed false 0 (-1074 - min e (-1074)).toNat=0:=by simp [signed]
  rw [hz] at hg;cases s with
  |true=>
   exfalso;unfold signed at hg;rw [if_pos rfl] at hg;generalize m<<<(e - min e (-1074)).toNat=y at hg;omega
  |false=>
   have hm:0<m:=by
    rcases Nat.eq_zero_or_pos m with h|h
    ·subst h;simp [signed] at hg
    ·exact h
   have hlt:signed false m (e - min e (-52)).toNat<signed false 4503599627370496 (-52 - min e (-52)).toNat:=by
    rcases Int.lt_trichotomy (signed false m (e - min e (-52)).toNat) (signed false 4503599627370496 (-52 - min e (-52)).toNat) with h|h|h
    ·exact h
    ·exact absurd (Int.compare_eq_eq.2 h) h2
    ·exact absurd (Int.compare_eq_gt.2 h) h1
   unfold signed at hlt;rw [if_neg (by simp),if_neg (by simp),Nat.shiftLeft_eq,Nat.shiftLeft_eq] at hlt;have hlt:m * 2 ^ (e - min e (-52)).toNat<4503599627370496 * 2 ^ (-52 - min e (-52)).toNat:=Int.ofNat_lt.1 hlt;have hneg:e<0:=by
    by_cases he:0<=e
    ·exfalso
     have a1:min e (-52)=-52:=by omega
     rw [a1,show (-52 - (-52):Int).toNat=0 from rfl,Nat.pow_zero,Nat.mul_one] at hlt
     have:2 ^ 52<=2 ^ (e - -52).toNat:=Nat.pow_le_pow_right (by omega) (by omega);have:1 * 2 ^ (e - -52).toNat<=m * 2 ^ (e - -52).toNat:=Nat.mul_le_mul_right _ hm;omega
    ·omega
   refine ⟨m,(-e).toNat,?_,hm,?_⟩
   ·unfold Zt4;rw [hx,show (-((-e).toNat:Int))=e by omega]
   ·by_cases h52: -52<=e
    ·have a1:min e (-52)=-52:=by omega
     rw [a1,show (-52 - (-52):Int).toNat=0 from rfl,Nat.pow_zero,Nat.mul_one] at hlt
     have a2:(2:Nat) ^ 52=2 ^ (-e).toNat * 2 ^ (e - -52).toNat:=by rw [<-Nat.pow_add];congr 1;omega
     have a3:m * 2 ^ (e - -52).toNat<2 ^ (-e).toNat * 2 ^ (e - -52).toNat:=by rw [<-a2];omega
     exact Nat.lt_of_mul_lt_mul_right a3
    ·have a1:min e (-52)=e:=by omega
     rw [a1,show (e - e).toNat=0 by omega,Nat.pow_zero,Nat.mul_one] at hlt;have a2:2 ^ (-e).toNat=2 ^ 52 * 2 ^ (-52 - e).toNat:=by rw [<-Nat.pow_add];congr 1;omega
     rw [a2];exact hlt
theorem ZuK {x m d s:Nat} (hx:Zt4 x m d) (hlt:m<2 ^ d) (hs:s<=10000):∃ p mp dp,double.mul x (fw s)=some p/\Zt4 p mp dp/\mp<=s * 2 ^ dp:=by
 obtain ⟨ds,hd⟩:=Zwe (n:=s) (by omega);have hmul:double.mul x (fw s)=some (double.nearest false (m * (s * 2 ^ ds)) (-((d + ds:Nat):Int))):=by
  unfold Format.mul;rw [hx,hd];show some (double.write (.number (false ^^ false) (m * (s * 2 ^ ds)) (-(d:Int) + -(ds:Int))))=_;rw [show (-(d:Int) + -(ds:Int))=-((d + ds:Nat):Int) by omega];rfl
 rcases Nat.eq_zero_or_pos s with h0|h0
 ·subst h0
  refine ⟨_,0,1074,hmul,?_,by omega⟩;rw [Nat.zero_mul,Nat.mul_zero];unfold Format.nearest;rw [if_pos rfl];exact Zub
 ·have hb:m * (s * 2 ^ ds)<s * 2 ^ (d + ds):=by
   have a1:s * 2 ^ (d + ds)=2 ^ d * (s * 2 ^ ds):=by rw [Nat.pow_add,Nat.mul_left_comm]
   rw [a1];exact Nat.mul_lt_mul_of_pos_right hlt (Nat.mul_pos h0 (Nat.two_pow_pos _))
  obtain ⟨mp,dp,hr,hle⟩:=Zsl hs hb;exact ⟨_,mp,dp,hmul,hr,hle⟩
theorem Zp9 {p mp dp:Nat} (hp:Zt4 p mp dp):double.write ((double.read p).integral .down)=fw (mp / 2 ^ dp):=by
 rw [hp];unfold Datum.integral;simp only;rw [show (-(dp:Int)).toNat=0 by omega,Nat.shiftLeft_zero,show (- -(dp:Int)).toNat=dp by omega,ZoS];rfl
theorem ZAI {n:Nat} (h:n<=10001):(double.read (fw n)).toInt .zero=some (n:Int):=by
 obtain ⟨d,hd⟩:=Zwe h;unfold Datum.toInt;rw [hd];unfold Datum.integral;simp only;rw [show (-(d:Int)).toNat=0 by omega,Nat.shiftLeft_zero,show (- -(d:Int)).toNat=d by omega];have:Toward.zero.cut false (n * 2 ^ d) d=n:=by
  have:Toward.zero.cut false (n * 2 ^ d) d=Toward.down.cut false (n * 2 ^ d) d:=by
   unfold Toward.cut;simp
  rw [this,ZoS,Nat.mul_div_cancel _ (Nat.two_pow_pos d)]
 rw [this];simp [signed]
end
end Go.VC
namespace Go.Proofs.YtlplemdmegpoeaaGreatDoor
section
open Go Go.VC Ieee Tryz
variable {R:Cx} {Hs Rest:List HP} {w:World}
def ZAK (x s:Nat):Nat:=match double.mul x (fw s) with
 |some p=>(match double.read p with| .number _ m e=>m / 2 ^ (-e).toNat|_=>0)
 |none=>0
def ZBW (x:Nat):Bool:=double.order x 0==some .gt
def Zu9 (x:Nat):Bool:=double.order x 4607182418800017408==some .gt||double.order x 4607182418800017408==some .eq
def Zee (x:Nat) (s:Int):Int × Int:=
 if s<0\/s>10000 then (0,1) else if ZBW x=false then (0,0) else if Zu9 x=true then (s,0) else ((ZAK x s.toNat:Nat),0)
theorem ZxD {x s:Nat} (h0:ZBW x=true) (h1:Zu9 x=false) (hs:s<=10000):∃ p mp dp,double.mul x (fw s)=some p/\Zt4 p mp dp/\mp<=s * 2 ^ dp/\ZAK x s=mp / 2 ^ dp/\ZAK x s<=s:=by
 unfold ZBW at h0;unfold Zu9 at h1;simp only [Bool.or_eq_false_iff,beq_eq_false_iff_ne,ne_eq] at h1;obtain ⟨m,d,hx,_,hlt⟩:=ZuJ (beq_iff_eq.1 h0) h1.1 h1.2;obtain ⟨p,mp,dp,hp,hn,hle⟩:=ZuK hx hlt hs;have e:ZAK x s=mp / 2 ^ dp:=by
  unfold ZAK;rw [hp];unfold Zt4 at hn;simp only [hn];rw [show (-(-(dp:Int))).toNat=dp by omega]
 refine ⟨p,mp,dp,hp,hn,hle,e,?_⟩;rw [e];exact Nat.div_le_of_le_mul (by rw [Nat.mul_comm];exact hle)
theorem Zwr (t1 t2:Operand) (T:TypeId) (x y:Nat) (w : nW):((do eqGuard BinOp.gtr T t1 t2 (.float .f64 x) (.float .f64 y);binOp BinOp.gtr T (.float .f64 x) (.float .f64 y):Sem Value)).run prog w=.ok (.bool (double.order x y==some .gt)) w:=by
 simp [eqGuard,binOp,Op.floatCmp,FloatKind.format]
theorem ZAS (t1 t2:Operand) (T:TypeId) (x y:Nat) (w : nW):((do eqGuard BinOp.geq T t1 t2 (.float .f64 x) (.float .f64 y);binOp BinOp.geq T (.float .f64 x) (.float .f64 y):Sem Value)).run prog w=.ok (.bool (double.order x y==some .gt||double.order x y==some .eq)) w:=by
 simp [eqGuard,binOp,Op.floatCmp,FloatKind.format]
theorem Ztm (t1 t2:Operand) (T:TypeId) (x y:Nat) (w : nW):((do eqGuard BinOp.neq T t1 t2 (.float .f64 x) (.float .f64 y);binOp BinOp.neq T (.float .f64 x) (.float .f64 y):Sem Value)).run prog w=.ok (.bool (double.order x y !=some .eq)) w:=by
 simp [eqGuard,binOp,Op.floatCmp,FloatKind.format]
theorem Zxk (t1 t2:Operand) (T:TypeId) {x y p:Nat} (h:double.mul x y=some p) (w : nW):((do eqGuard BinOp.mul T t1 t2 (.float .f64 x) (.float .f64 y);binOp BinOp.mul T (.float .f64 x) (.float .f64 y):Sem Value)).run prog w=.ok (.float .f64 p) w:=by
 simp [eqGuard,binOp,Op.floatArith,FloatKind.format,h]
theorem ZwM (n:Nat) (w : nW):(convert 3 35 (nI n)).run prog w=.ok (.float .f64 (fw n)) w:=by
 have h:FloatKind.f64.nearest (n:Int)=fw n:=by
  unfold FloatKind.nearest FloatKind.encode FloatKind.format;rw [decide_eq_false (show ¬ (n:Int)<0 by omega),Int.natAbs_natCast];rfl
 simp [convert,run_underlying underlying3,run_underlying underlying35,Conv.intToFloat,h]
theorem ZwL {n:Nat} (hn:n<=10001) (w : nW):(convert 35 3 (.float .f64 (fw n))).run prog w=.ok (nI n) w:=by
 have h:(FloatKind.f64.decode (fw n)).toInt .zero=some (n:Int):=ZAI hn;have hr:IntKind.i64.min<=(n:Int)/\(n:Int)<=IntKind.i64.max:=by
  have h1:IntKind.i64.min=-9223372036854775808:=by decide
  have h2:IntKind.i64.max=9223372036854775807:=by decide
  omega
 simp [convert,run_underlying underlying3,run_underlying underlying35,Conv.floatToInt,h,hr];intro h2;omega
theorem ZxF : (f291.name == "runtime.NumGoroutine") = false := by kernel_rfl
theorem ZxI:f291.body.isNone=true:=by kernel_rfl
theorem ZxE:Extern.findNext f291=none:=by kernel_rfl
theorem ZxH : Extern.find f291 = some (Extern.MathFloor.toIntegral "math.archFloor" .down) := by kernel_rfl
theorem ZsX {p m : Nat} {e : Int} (hd : FloatKind.f64.decode p = .number false m e) : Extern.MathFloor.toIntegral "math.archFloor" .down #[.float .f64 p] = pure (.float .f64 (FloatKind.f64.encode ((Datum.number false m e).integral .down))) := by
 unfold Extern.MathFloor.toIntegral;generalize FloatKind.decode FloatKind.f64=D at hd ⊢
 conv=>lhs;whnf
 rw [hd]
theorem Zqa {p mp dp:Nat} (hp:Zt4 p mp dp) (hw:Sat R Hs w):Zm prog 276 #[.float .f64 p] w λ v w'=>v=.float .f64 (fw (mp / 2 ^ dp))/\Sat R Hs w':=by
 apply Zyg;refine ⟨.float .f64 (fw (mp / 2 ^ dp)),w,?_,_,rfl,rfl,hw⟩;rw [run_callFunc_extern func291 ZxF ZxI ZxE ZxH];have hd:FloatKind.f64.decode p=.number false mp (-(dp:Int)):=hp;have hf:FloatKind.f64.encode ((Datum.number false mp (-(dp:Int))).integral .down)=fw (mp / 2 ^ dp):=by
  have:=Zp9 hp;rw [show double.read p=.number false mp (-(dp:Int)) from hp] at this
  exact this
 rw [ZsX hd,hf];rfl
theorem ZpV {x:Nat} {s:Int} (hw:Sat R Hs w):Zm prog 235 #[.float .f64 x,nI s] w λ v w'=>v=.tuple #[nI (Zee x s).1,nI (Zee x s).2]/\Sat R Hs w':=by
 apply ZyD;refine ⟨λ t w=>t=decide (s<0\/s>10000)/\Sat R Hs w,Br.d (λ h=>⟨by rw [decide_eq_true (.inl h)],hw⟩) (λ h=>⟨by rw [decide_eq_decide];omega,hw⟩),?_⟩;clear hw;rintro _ _ w ⟨rfl,hw⟩;unfold Zee;refine Br.d (λ h=>⟨by rw [if_pos h],hw⟩) (λ h=>?_);rw [if_neg h];refine ⟨ZBW x,λ w' e=>Zwr _ _ _ _ _ _,Br.nb (λ h1=>⟨by rw [if_pos h1],hw⟩) (λ h1=>?_)⟩;rw [if_neg (by rw [h1];simp)];refine ⟨Zu9 x,λ w' e=>ZAS _ _ _ _ _ _,Br.mk (λ h2=>⟨by rw [if_pos h2],hw⟩) (λ h2=>?_)⟩;rw [if_neg (by rw [h2];simp)];obtain ⟨n,rfl⟩:=Int.eq_ofNat_of_zero_le (show 0<=s by omega);obtain ⟨p,mp,dp,hp,hn,hle,e,he⟩:=ZxD (s:=n) h1 h2 (by omega);refine ⟨w,_,ZwM n w,_,λ w' _=>Zxk _ _ _ hp w',?_⟩;refine (Zqa hn hw).u λ w hw=>?_;rw [<-e];refine ⟨_,rfl,_,λ w' _=>ZwL (by omega) w',?_,hw⟩;rw [Int.toNat_natCast]
end
section
open Go Go.VC Tryz
variable {R:Cx} {Hs Rest:List HP} {w:World}
theorem _root_.Go.VC.Ro.ixF {xs:List Nat} {s:Sl} {S:World->Prop} {i:Int} (hr:Ro R s (xs.map (Value.float .f64))) (hS:∀ w,S w->Sat R Hs w) (j:Nat) (hi:i=j) (hj:j<xs.length) {F:Nat->Prop} (h:F xs[j]):
  Rng i s.len (Zc s.a λ a=>∃ t:Nat,(At S (a.add i.toNat) [.float .f64 t])/\F t):=by
 subst hi;obtain ⟨a,ha,hat⟩:=hr.addr (k:=j) (by rw [List.length_map];exact hj);have hl:=hr.len;rw [List.length_map] at hl;exact Rng.mk (by omega) (by omega) (Zc.mk ha ⟨_,by have:=hat hS;rw [List.getElem_map] at this;exact this,h⟩)
def Zc3 (s:Int):Int->List Nat->List Int
 |_,[]=>[]
 |last,x::xs=>(if last<(Zee x s).1 then last else (Zee x s).1)::Zc3 s (if last<(Zee x s).1 then last else (Zee x s).1) xs
def Zaf (s:Int) (parts:List Nat):List Int × Int:=if s<0\/s>10000\/parts.length<1\/parts.length>8 then ([],1) else (s::Zc3 s s parts.tail,0)
theorem ZfR (s:Int):∀ (xs:List Nat) (last:Int),(Zc3 s last xs).length=xs.length
 |[],_=>rfl
 |x::xs,last=>by simp [Zc3,ZfR s xs]
theorem Zje (s:Int):∀ (xs:List Nat) (last:Int) (x:Nat),Zc3 s last (xs++[x])=Zc3 s last xs++
  [if (last::Zc3 s last xs).getD xs.length 0<(Zee x s).1 then (last::Zc3 s last xs).getD xs.length 0 else (Zee x s).1]
 |[],last,x=>by simp [Zc3]
 |y::xs,last,x=>by
  simp only [List.cons_append,Zc3,Zje s xs,List.length_cons,List.getD_cons_succ]
abbrev Zjn (l:List Nat):List Value:=l.map (Value.float .f64)
abbrev Ze (l:List Int):List Value:=l.map (Value.int .i64)
theorem Znf {s:Int} {sp:Sl} {parts:List Nat} (hp:SlR R.m sp (Zjn parts)) (hw:Sat R Hs w):
  Zm prog 163 #[nI s,.slice sp.a sp.len sp.cap] w λ v w'=>∃ t:Sl,v=.tuple #[.slice t.a t.len t.cap,nI (Zaf s parts).2]/\Sat R (Own t 3 (Ze (Zaf s parts).1)::Hs) w':=by
 have hlen:=hp.len;rw [List.length_map] at hlen;have bad:(s<0\/s>10000\/parts.length<1\/parts.length>8)->∀ w,Sat R Hs w->∃ t:Sl,Value.tuple #[.slice none 0 0,nI 1]=.tuple #[.slice t.a t.len t.cap,nI (Zaf s parts).2]/\Sat R (Own t 3 (Ze (Zaf s parts).1)::Hs) w:=λ h w hw=>by
  unfold Zaf;rw [if_pos h];exact ⟨⟨none,0,0⟩,rfl,Own.nil hw⟩
 apply Zzk;refine ⟨λ w=>(0<=s/\s<=10000/\1<=parts.length/\parts.length<=8)/\Sat R Hs w,?_,?_⟩
 ·refine (Zfc hw).u λ w hw=>?_
  unfold inR;refine ⟨_,rfl,Br.nd (λ h=>bad (by omega) _ hw) (λ h1=>Br.d (λ h=>bad (by omega) _ hw) (λ h2=>Br.d (λ h=>bad (by omega) _ hw) (λ h3=>⟨⟨by omega,by omega,by omega,by omega⟩,hw⟩)))⟩
 clear hw;rintro _ w ⟨⟨h1,h2,h3,h4⟩,hw⟩;have e:Zaf s parts=(s::Zc3 s s parts.tail,0):=by unfold Zaf;rw [if_neg (by omega)]
 rw [e];clear bad;refine Za hw λ b w hw=>⟨by omega,by omega,?_⟩;have hw:Sat R (Own ⟨some ⟨b,0,none⟩,1,1⟩ 3 (Ze [s])::Hs) w:=ZbH hw;have hd:=(hp.drop (k:=1) (by rw [List.length_map];omega)).ro (by rw [List.length_drop,List.length_map];omega);have hdl:(Zjn parts).drop 1=Zjn parts.tail:=by simp [Zjn,List.drop_one,List.map_tail]
 rw [hdl] at hd;have htl:parts.tail.length=parts.length - 1:=List.length_tail;have hslen:(sp.len - Int.toNat 1:Nat)=parts.tail.length:=by rw [htl];show sp.len - 1=_;omega
 refine ⟨λ so i w=>∃ j:Nat,i=j/\j<=parts.tail.length/\Sat R (Own so 3 (Ze (s::Zc3 s s (parts.tail.take j)))::Hs) w,λ _ i _=>parts.tail.length - i.toNat,⟨0,rfl,by omega,hw⟩,?_⟩;clear hw;rintro _ so _ w ⟨j,rfl,hj,hw⟩;refine Br.d (λ h=>?_) (λ h=>?_)
 ·have hj2:j<parts.tail.length:=by omega
  refine Ro.ixF hd (eqS hw) j rfl hj2 ?_;refine (ZpV hw).u λ w hw=>?_;refine ⟨_,_,rfl,?_⟩;have hl:(s::Zc3 s s (parts.tail.take j)).length=j + 1:=by rw [List.length_cons,ZfR,List.length_take];omega
  refine Own.ix hw (eqS hw) j rfl (by omega) ?_;refine ZbX ZqF hw (by omega) λ so' w hw=>?_;rw [Zf];refine ⟨⟨j + 1,by omega,by omega,?_⟩,by dsimp only;omega⟩;rw [List.take_add_one,List.getElem?_eq_getElem hj2];simp only [Option.toList_some];rw [Zje,List.length_take,show min j parts.tail.length=j by omega,Z0 (by omega)];exact hw
 ·rw [List.take_of_length_le (by omega)] at hw
  exact ⟨so,rfl,hw⟩
theorem Zov (s:Int) (h0:0<=s) (h1:s<=10000):∀ (xs:List Nat) (last:Int),0<=last->last<=10000->∀ k (h:k<(Zc3 s last xs).length),(0<=(Zc3 s last xs)[k]/\(Zc3 s last xs)[k]<=10000)/\(Zc3 s last xs)[k]<=(last::Zc3 s last xs).getD k 0
 |[],last,_,_,k,h=>by simp [Zc3] at h
 |x::xs,last,a,b,k,h=>by
  have hlv:0<=(Zee x s).1:=by
   unfold Zee;split
   ·simp
   ·split
    ·simp
    ·split
     ·exact h0
     ·simp
  rcases k with _|k
  ·simp only [Zc3,List.getElem_cons_zero,List.getD_cons_zero]
   split<;>omega
  ·simp only [Zc3,List.getElem_cons_succ,List.getD_cons_succ]
   exact Zov s h0 h1 xs _ (by split<;>omega) (by split<;>omega) k (by simpa [Zc3] using h)
theorem Zsv {s:Int} {parts:List Nat} (h:(Zaf s parts).2=0):Zfo (Zaf s parts).1=true/\(Zaf s parts).1.getD 0 0=s:=by
 unfold Zaf at *;split at h
 ·simp at h
 ·rename_i hn
  rw [if_neg hn];refine ⟨Zan.2 ⟨⟨by simp,?_⟩,λ k hk=>?_⟩,rfl⟩
  ·simp only [List.length_cons,ZfR,List.length_tail];omega
  ·rcases k with _|k
   ·simp;omega
   ·have:=Zov s (by omega) (by omega) parts.tail s (by omega) (by omega) k (by simpa using hk)
    simp only [List.getElem_cons_succ];exact ⟨this.1,λ _=>by rw [show k + 1 - 1=k by omega];exact this.2⟩
def Zqz (l:List Int):Prop:=∀ i j (hj:j<l.length),(hij:i<j)->l[i]<l[j]
def Zh3 (n:Int):List Int->List Int
 |[]=>[n]
 |x::l=>if x<n then x::Zh3 n l else n::x::l
theorem ZsN {n:Int}:∀ {l:List Int} {p:Nat},p<=l.length->(∀ k (h:k<l.length),k<p->l[k]<n)->(∀ k (h:k<l.length),p<=k->n<=l[k])->Zh3 n l=l.take p++n::l.drop p
 |[],p,hp,_,_=>by
  obtain rfl:p=0:=by simpa using hp
  rfl
 |x::l,0,_,_,h2=>by
  have:=h2 0 (by simp) (by omega);simp only [List.getElem_cons_zero] at this;unfold Zh3;rw [if_neg (by omega)];rfl
 |x::l,p + 1,hp,h1,h2=>by
  have h0:=h1 0 (by simp) (by omega);simp only [List.getElem_cons_zero] at h0;unfold Zh3;rw [if_pos h0,ZsN (p:=p) (by simpa using hp) (λ k h hk=>by have:=h1 (k + 1) (by simpa using h) (by omega);simpa using this) (λ k h hk=>by have:=h2 (k + 1) (by simpa using h) (by omega);simpa using this)];rfl
theorem ZsR {a b:Nat} (h:a + b<=1000000000000000000):wI (ZgP .u64 (IntKind.u64.wrap (wI ((a:Int) + b))) 1)=((a + b) / 2:Nat):=by
 rw [Zf (x:=(a:Int) + b),IntKind.wrap_u64];have e:ZgP .u64 (((a:Int) + b) % 18446744073709551616) 1=(((a + b) / 2:Nat):Int):=by
  unfold ZgP;show Int.fdiv _ 2=_;rw [Int.fdiv_eq_ediv_of_nonneg _ (by omega)];omega
 rw [e,Zf]
theorem Zp3 {x:Int} (hw:Sat R Hs w):Zm prog 281 #[nI x] w λ v w'=>v=.bool false/\Sat R Hs w':=by
 apply Zyd;exact ⟨by simp,hw⟩
theorem Zty {x:Int} (hw:Sat R Hs w):Zm prog 278 #[nI x] w λ v w'=>v=.bool false/\Sat R Hs w':=by
 apply Ztw;exact ⟨by simp,hw⟩
theorem Zsy {x y:Int} (hw:Sat R Hs w):Zm prog 267 #[nI x,nI y] w λ v w'=>v=.bool (decide (x<y))/\Sat R Hs w':=by
 apply Zyi;refine (Zty hw).u λ w hw=>?_;exact ⟨_,rfl,Br.f rfl ⟨rfl,hw⟩⟩
theorem Zmx {s:Sl} {l:List Int} {n:Int} (hs:RoI R s l) (hr:Zqz l) (hl:l.length<=1000000000) (hw:Sat R Hs w):
  Zm prog 248 #[.slice s.a s.len s.cap,nI n] w λ v w'=>∃ (p:Nat) (b:Bool),v=.tuple #[nI p,.bool b]/\p<=l.length/\(∀ k (h:k<l.length),k<p->l[k]<n)/\(∀ k (h:k<l.length),p<=k->n<=l[k])/\Sat R Hs w':=by
 have hlen:=hs.len;apply Zys;refine ⟨λ i j w=>∃ a b:Nat,i=a/\j=b/\a<=b/\b<=l.length/\(∀ k (h:k<l.length),k<a->l[k]<n)/\(∀ k (h:k<l.length),b<=k->n<=l[k])/\Sat R Hs w,λ i j _=>j.toNat - i.toNat,⟨0,l.length,rfl,by rw [hlen],by omega,by omega,λ k _ h=>by omega,λ k h h'=>by omega,hw⟩,?_⟩;clear hw;rintro _ _ _ w ⟨a,b,rfl,rfl,hab,hb,h1,h2,hw⟩;rw [ZsR (by omega)];refine Br.d (λ h=>?_) (λ h=>?_)
 ·have hm:(a + b) / 2<l.length:=by omega
  refine Ro.ix hs (eqS hw) ((a + b) / 2) rfl hm ?_;refine (Zsy hw).u λ w hw=>?_;refine ⟨_,rfl,Br.d (λ h3=>?_) (λ h3=>?_)⟩
  ·rw [show wI ((((a + b) / 2:Nat):Int) + 1)=(((a + b) / 2 + 1:Nat):Int) from Zf]
   refine ⟨⟨(a + b) / 2 + 1,b,rfl,rfl,by omega,hb,λ k hk hk2=>?_,h2,hw⟩,by dsimp only;omega⟩;by_cases hkm:k=(a + b) / 2
   ·subst hkm;exact h3
   ·have:=hr k ((a + b) / 2) hm (by omega);omega
  ·refine ⟨⟨a,(a + b) / 2,rfl,rfl,by omega,by omega,h1,λ k hk hk2=>?_,hw⟩,by dsimp only;omega⟩
   by_cases hkm:k=(a + b) / 2
   ·subst hkm;omega
   ·have:=hr ((a + b) / 2) k hk (by omega);omega
 ·obtain rfl:a=b:=by omega
  have fin:∀ (t:Bool) w,Sat R Hs w->∃ (p:Nat) (b:Bool),Value.tuple #[nI a,.bool t]=.tuple #[nI p,.bool b]/\p<=l.length/\(∀ k (h:k<l.length),k<p->l[k]<n)/\(∀ k (h:k<l.length),p<=k->n<=l[k])/\Sat R Hs w:=λ t w hw=>⟨a,t,rfl,hb,h1,h2,hw⟩;refine Br.d (λ h3=>?_) (λ h3=>fin _ _ hw);have ha:a<l.length:=by omega
  refine Ro.ix hs (eqS hw) a rfl ha ?_;refine Br.e (λ h4=>fin _ _ hw) (λ h4=>?_);refine Ro.ix hs (eqS hw) a rfl ha ?_;refine (Zp3 hw).u λ w hw=>?_;exact ⟨_,rfl,Br.f rfl (fin _ _ hw)⟩
end
end Go.Proofs.YtlplemdmegpoeaaGreatDoor
namespace Go.VC
section
variable {P:Program} {R:Cx} {Hs Rest:List HP} {w:World} {s:Sl} {T:TypeId}
theorem Zgc {dT sT ty elem:TypeId} {b o dLen dCap sLen sCap:Nat} {a:Addr} {cs l:List Value} {fr:Nat × Nat} {K:Int->World->Prop} (hu:P.underlying dT=some (.slice elem)) (hs:(P.info? elem).map (·.size)=some 1)
  (hw:Sat R (pts b (.cells l.toArray T fr)::Hs) w) (hfr:Zna l.length fr) (hn:cs.length=Nat.min sLen dLen) (hfit:o + cs.length<=l.length) (hsrc:∀ j v,cs[j]? =some v->w.cell? (a.add j)=some v) (h1:ZaE cs=true)
  (k:∀ t w',Sat R (pts b (.cells (ZeD l o cs).toArray T fr)::Hs) w'->K t w'):
  ∃ w',∃ t:Int,(Builtin.copy_ #[dT,sT] ty #[.slice (some ⟨b,o,none⟩) dLen dCap,.slice (some a) sLen sCap]).run P w=.ok (.int .i64 t) w'/\K t w':=by
 have hat:=hw.at;have hr:=run_copy_cells (P:=P) w dT sT ty elem b o dLen dCap a sLen sCap cs hu hs hn hsrc (λ j hj=>by rw [Zaw hat];simp;omega) (λ j hj=>ZcT hat hfr (by omega)) (λ v hv=>List.all_eq_true.1 h1 v hv);exact ⟨_,_,hr,k _ _ (ZaP cs l o w hw)⟩
theorem Ziw {t1 t2 ty:TypeId} {bytes k n:Nat} {kd kn:IntKind} {z:Value} {xs:List Value} {K:Sl->World->Prop} (ht:P.underlying t1=some (.slice T)) (htn:P.underlying t2=some (.int kn)) (hi:elB P T bytes=true)
  (h0:0<n) (hk:k<xs.length) (hc:s.cap<k + n) (hb:2 * (k + n) * bytes<=281474976710656) (hb':k + n<=9223372036854775807) (hw:Sat R (Own s T xs::Hs) w)
  (h:∀ t w' ys,ys.length=n->Sat R (Own t T (xs.take k++ys)::Own s T xs::Hs) w'->K t w'):
  ∃ w',∃ t:Sl,(Builtin.append_ #[t1,t2] ty #[.slice s.a k s.cap,.int kd n]).run P w=.ok (.slice t.a t.len t.cap) w'/\K t w':=by
 obtain ⟨i,z,hi,hz,hsize,hbytes,hzc⟩:=ZnC hi;rcases Own.cases hw with ⟨_,rfl,_⟩|⟨b,rest,fr,rfl,hfr,hp⟩
 ·simp at hk
 have hat:=hp.at;dsimp only at hc ⊢;have hcap:Builtin.nextslicecap (k + n) (xs++rest).length * i.bytes<=281474976710656:=by
  have h2:Builtin.nextslicecap (k + n) (xs++rest).length<=2 * (k + n):=by
   unfold Builtin.nextslicecap;split
   ·omega
   ·split
    ·omega
    ·have:=nextslicecap_le_wide hc
     unfold Builtin.nextslicecap at this;rw [if_neg (by assumption),if_neg (by assumption)] at this;omega
  rw [hbytes];exact Nat.le_trans (Nat.mul_le_mul_right _ h2) hb
 have hold:(Builtin.firstCells i.size k (.slice (some ⟨b,0,none⟩) k (xs++rest).length)).run P w.drew=.ok (xs.take k).toArray w.drew:=by
  refine run_firstCells_some w.drew i.size k ⟨b,0,none⟩ k _ (xs.take k) (by rw [hsize,List.length_take];omega) ?_;intro j u hj;rw [World.cell?_drew,Zy,Zaw hat,Nat.zero_add];obtain ⟨hlt,rfl⟩:=List.getElem?_eq_some_iff.1 hj;rw [List.length_take] at hlt;rw [List.getElem?_append_left (by omega),List.getElem?_eq_getElem (by omega),List.getElem_take]
 have hwr:IntKind.i64.wrap (n:Int)=n:=by rw [IntKind.wrap_i64];omega
 have hn:¬ (k + n<=(xs++rest).length):=by omega
 have h63':¬ (9223372036854775807<((k:Int) + (n:Int))):=by omega
 have h48':¬ (281474976710656<Builtin.nextslicecap (k + n) (xs++rest).length * i.bytes):=by omega
 have h48i:¬ (281474976710656<(n:Int) * (i.bytes:Int)):=by
  rw [<-Int.natCast_mul,hbytes];have:n * bytes<=2 * (k + n) * bytes:=Nat.mul_le_mul_right _ (by omega);omega
 have hneg:¬ ((n:Int)<0):=by omega
 have hn0:n≠0:=by omega
 have hns:¬ (n * i.size=0):=by rw [hsize];omega
 have hg:=grownCap_ge w (k + n) (xs++rest).length T;have hr:(Builtin.append_ #[t1,t2] ty #[.slice (some ⟨b,0,none⟩) k (xs++rest).length,.int kd n]).run P w=
   .ok (.slice (some ⟨w.heap.size,0,none⟩) (k + n) (grownCap w (k + n) (xs++rest).length T)) (w.drew.alloc (.cells ((xs.take k).toArray++Builtin.zeroCells z.cells n++Builtin.zeroCells z.cells (grownCap w (k + n) (xs++rest).length T - (k + n))) T)):=by
  simp only [List.length_append] at hn h48' hold ⊢;simp [Builtin.append_,run_underlying ht,run_underlying htn,sizeOf,typeInfo,zeroValue,hi,hz,asInt,asIntOf,hwr,hn,hneg,hns,h63',h48',h48i,Question.forced,hold,newRow,grownCap]
 have hzs:∀ m,(Builtin.zeroCells z.cells m).size=m:=λ m=>by simp [Builtin.zeroCells,hzc]
 refine ⟨_,⟨some ⟨w.heap.size,0,none⟩,k + n,grownCap w (k + n) (xs++rest).length T⟩,hr,h _ _ (Builtin.zeroCells z.cells n).toList (by rw [Array.length_toList,hzs]) ?_⟩;have h3:=Sat.alloc (Obj.cells ((xs.take k).toArray++Builtin.zeroCells z.cells n++Builtin.zeroCells z.cells (grownCap w (k + n) (xs++rest).length T - (k + n))) T) (Sat.drew hp);have e:Obj.cells ((xs.take k).toArray++Builtin.zeroCells z.cells n++Builtin.zeroCells z.cells (grownCap w (k + n) (xs++rest).length T - (k + n))) T=.cells ((xs.take k++(Builtin.zeroCells z.cells n).toList)++(Builtin.zeroCells z.cells (grownCap w (k + n) (xs++rest).length T - (k + n))).toList).toArray T (0,0):=by
  congr 1
  apply Array.ext';simp
 rw [e] at h3 ⊢;have h4:=Own.of_pts (Sat.swap h3) hfr;have h5:=Own.of_pts (Sat.swap h4);have e2:(⟨some ⟨w.drew.heap.size,0,none⟩,(xs.take k++(Builtin.zeroCells z.cells n).toList).length,((xs.take k++(Builtin.zeroCells z.cells n).toList)++(Builtin.zeroCells z.cells (grownCap w (k + n) (xs++rest).length T - (k + n))).toList).length⟩:Sl)=⟨some ⟨w.heap.size,0,none⟩,k + n,grownCap w (k + n) (xs++rest).length T⟩:=by
  have:(xs.take k).length=k:=by rw [List.length_take];omega
  simp only [List.length_append,Array.length_toList,hzs,World.size_drew,this] at hg ⊢
  congr 1
  omega
 rw [e2] at h5;exact h5
end
end Go.VC
namespace Go.Proofs.YtlplemdmegpoeaaGreatDoor
section
open Go Go.VC Tryz
variable {R:Cx} {Hs Rest:List HP} {w:World}
theorem Zw7 : (f282.name == "runtime.NumGoroutine") = false := by kernel_rfl
theorem Zw9:f282.body.isNone=true:=by kernel_rfl
theorem Zw6:Extern.findNext f282=none:=by kernel_rfl
theorem Zw8:∃ tR,Extern.find f282=some (Extern.SlicesOverlaps.overlaps #[ 30,30 ] #[tR]):=⟨4,by kernel_rfl⟩
theorem szI1:Zhx prog 3=1:=by kernel_rfl
theorem szI (w : nW):(sizeOf 3).run prog w=.ok 1 w:=by
 obtain ⟨i,hi⟩:=Zn1 (P:=prog) (t:=3) (by rw [szI1];decide);have:=Za7 hi w;rw [szI1] at this;exact this
abbrev Zz7 (n:Int) (T:TypeId):Obj:=.cells [nI n].toArray T (0,0)
theorem Zgb {b k m:Nat} (h:m≠k):Zck (some ⟨b,0,none⟩) k m 1=some ⟨b,k,none⟩:=by
 simp only [Zck,if_neg h,Option.map_some,Zy];simp
theorem Zj1 {b1 b2 o:Nat} {n:Int} {T1 T2:TypeId} {l:List Value} {fr:Nat × Nat} {la lc:Nat} {Q:Ending->World->Prop} (hl:l≠[])
  (hw:Sat R (pts b2 (.cells l.toArray T2 fr)::pts b1 (Zz7 n T1)::Hs) w) (k:Q (.returned (.bool false)) w):
  Ext prog 282 #[.slice (some ⟨b1,0,none⟩) 1 1,.slice (some ⟨b2,o,none⟩) la lc] w Q:=by
 have h2:=hw.at;have h1:=hw.swap.at;have hne:b1≠b2:=by
  rintro rfl;obtain ⟨h,hA,hd,h',hB,hd',_⟩:=hw;rw [show h=_ from hA] at hd hd'
  rw [show h'=_ from hB] at hd'
  have:=hd' b1 (by simp [ZY.one]);simp only [Cx.add,ZY.add,ZY.one] at this;split at this<;>simp_all
 obtain ⟨tR,hf⟩:=Zw8;refine ⟨.bool false,w,?_,k⟩;rw [run_callFunc_extern func282 Zw7 Zw9 Zw6 hf];rw [Lib.run_overlaps_apart (P:=prog) w 30 tR 3 underlying30 1 (λ w=>szI w) ⟨b1,0,none⟩ ⟨b2,o,none⟩ 1 1 la lc hne T1 T2 1 l.length ?_ ?_ ?_ ?_ ?_]
 ·rfl
 ·simp only [World.shape?,h1];rfl
 ·simp only [World.shape?,h2];simp
 ·cases l with
  |nil=>exact absurd rfl hl
  |cons a l=>simp
 ·simp [World.frozen?,h1]
 ·simp [World.frozen?,h1]
theorem Zhd {A B C V:List Value} {p:Nat} (hp:A.length=p) (hB:B.length=V.length):ZeD (A++B++C) p V=A++V++C:=by
 rw [Zfj _ _ _ (by simp only [List.length_append];omega)];have e1:(A++B++C).take p=A:=by rw [List.append_assoc,List.take_left' hp]
 have e2:(A++B++C).drop (p + V.length)=C:=by rw [List.drop_left' (by rw [List.length_append];omega)]
 rw [e1,e2]
theorem put2 {A ys D rest:List Value} {x:Value} {p:Nat} (hA:A.length=p) (hy:ys.length=D.length + 1):ZeD (ZeD ((A++ys)++rest) p [x]) (p + 1) D=(A++x::D)++rest:=by
 match ys,hy with
 |y0::ys',hy=>
  have h1:ZeD ((A++y0::ys')++rest) p [x]=A++[x]++(ys'++rest):=by
   have:=Zhd (A:=A) (B:=[y0]) (C:=ys'++rest) (V:=[x]) hA rfl;rw [<-this];simp
  have h2:=Zhd (A:=A++[x]) (B:=ys') (C:=rest) (V:=D) (p:=p + 1) (by simp [hA]) (by simpa using hy);rw [h1,<-List.append_assoc,h2];simp
theorem ZCY {A D rest:List Value} {x:Value} {p:Nat} (hA:A.length=p) (hr:1<=rest.length):ZeD (ZeD ((A++D)++rest) (p + 1) D) p [x]=(A++x::D)++rest.drop 1:=by
 match rest,hr with
 |r0::rest',_=>
  obtain ⟨y0,ys',hy,hl⟩:∃ y0 ys',D++[r0]=y0::ys'/\ys'.length=D.length:=by
   cases D with
   |nil=>exact ⟨r0,[],rfl,rfl⟩
   |cons d D=>exact ⟨d,D++[r0],rfl,by simp⟩
  have e:(A++D)++r0::rest'=(A++[y0])++ys'++rest':=by
   have:(A++D)++r0::rest'=A++(D++[r0])++rest':=by simp
   rw [this,hy];simp
  rw [e,Zhd (p:=p + 1) (by simp [hA]) hl];have:=Zhd (A:=A) (B:=[y0]) (C:=D++rest') (V:=[x]) hA rfl;rw [show (A++[y0])++D++rest'=A++[y0]++(D++rest') by simp,this];simp
theorem Zra {b:Nat} {n:Int} {T:TypeId} (h:w.heap[b]? =some (Zz7 n T)):∀ j v,[nI n][j]? =some v->w.cell? ((⟨b,0,none⟩:Addr).add j)=some v:=by
 intro j v hj;rw [Zy,Zaw h,Nat.zero_add];exact hj
theorem Zn4 {b p:Nat} {xs rest:List Value} {T:TypeId} {fr:Nat × Nat} (h:w.heap[b]? =some (.cells (xs++rest).toArray T fr)) (_hp:p<=xs.length):∀ j v,(xs.drop p)[j]? =some v->w.cell? ((⟨b,p,none⟩:Addr).add j)=some v:=by
 intro j v hj;rw [Zy,Zaw h];rw [List.getElem?_drop] at hj;have hlt:=(List.getElem?_eq_some_iff.1 hj).1;rw [List.getElem?_append_left (by omega)];exact hj
theorem Znn {s:Sl} {l:List Int} {n:Int} {p b:Nat} {T:TypeId} (hl:l.length<=1000000000) (hp:p<=l.length) (hw:Sat R (Own s 3 (Ze l)::pts b (Zz7 n T)::Hs) w):
  Zm prog 249 #[.slice s.a s.len s.cap,nI p,.slice (some ⟨b,0,none⟩) 1 1] w λ v w'=>∃ t:Sl,v=.slice t.a t.len t.cap/\Sat R (Own t 3 (Ze (l.take p++n::l.drop p))::pts b (Zz7 n T)::Hs) w':=by
 have hlen:=Own.len hw;have hcap:=Own.cap hw;rw [List.length_map] at hlen;refine Zyr s p ⟨some ⟨b,0,none⟩,1,1⟩ _ _ ?_;unfold B249;dsimp only;have w1:wI ((s.len:Int) + ((1:Nat):Int))=((l.length + 1:Nat):Int):=by rw [Zf];omega
 have w2:wI (((l.length + 1:Nat):Int) - p)=((l.length + 1 - p:Nat):Int):=by rw [Zf];omega
 have w3:wI ((p:Int) + ((1:Nat):Int))=((p + 1:Nat):Int):=by rw [Zf];omega
 rw [w1,w2,w3];simp only [Int.toNat_natCast];refine ⟨by omega,by omega,Br.f rfl (Br.e (λ h=>?_) (λ h=>Br.d (λ h2=>?_) (λ h2=>?_)))⟩
 ·-- behind all
  refine ZcY ZqF hw (Zt0 ZqF.hk 1 hw rfl) (ZfP _ _) (by rw [List.length_map];omega) (by rw [List.length_map];omega) λ t w hw=>⟨t,rfl,?_⟩;have e:Ze l++[nI n]=Ze (l.take p++n::l.drop p):=by
   rw [List.take_of_length_le (by omega),List.drop_eq_nil_of_le (by omega)];simp
  rw [e] at hw;exact hw
 ·-- no room
  refine ⟨by omega,by omega,?_⟩;refine Ziw (z:=nI 0) underlying30 underlying3 ZqF.hi (by omega) (by rw [List.length_map];omega) (by omega) (by omega) (by omega) hw λ t w ys hys hw=>?_;have htl:=Own.len hw;rw [List.length_append,List.length_take,List.length_map,hys] at htl;refine ⟨by omega,by omega,?_⟩;rcases Own.cases hw with ⟨_,h0,_⟩|⟨b',rest,fr,rfl,hfr,hw⟩
  ·have:=congrArg List.length h0
   rw [List.length_append,hys,List.length_nil] at this;omega
  dsimp only at htl ⊢;have hA:((Ze l).take p).length=p:=by rw [List.length_take,List.length_map];omega
  have hxs:((Ze l).take p++ys).length=l.length + 1:=by rw [List.length_append,hA,hys];omega
  have hb1:=(hw.takeP (b:=b) inferInstance).at;rw [hxs,Zgb (by rw [List.length_append,hxs];omega)];refine Zgc underlying30 (by kernel_rfl) hw hfr (cs:=[nI n]) (by show 1=min _ _;omega) (by rw [List.length_append,hxs];show p + 1<=_;omega) (Zra hb1) rfl λ _ w hw=>?_;refine Zo hw λ w hw=>⟨by omega,by omega,by omega,by omega,?_⟩;rcases Own.cases hw.swap with ⟨_,h0,_⟩|⟨bs,rest2,fr2,rfl,hfr2,hws⟩
  ·have h3:l.length=0:=by
    have:=congrArg List.length h0;rw [List.length_map] at this;exact this
   omega
  clear w1 w2 w3;dsimp only at hlen hcap h h2 ⊢;rw [List.length_map] at h;have hsat:=hws.at;rw [Zgb (by rw [List.length_append,hxs];omega),Zgb (by rw [List.length_append,List.length_map];omega)];refine Zgc underlying30 (by kernel_rfl) hws.swap (by rw [ZbG];exact hfr) (cs:=(Ze l).drop p) (by rw [List.length_drop,List.length_map];show _=min _ _;omega)
   (by rw [ZbG,List.length_append,hxs,List.length_drop,List.length_map];omega) (Zn4 hsat (by rw [List.length_map];omega)) (by rw [<-List.map_drop];exact ZfP _ _) λ _ w hw=>?_
  rw [put2 hA (by rw [hys,List.length_drop,List.length_map];omega)] at hw;have e:(Ze l).take p++nI n::(Ze l).drop p=Ze (l.take p++n::l.drop p):=by simp [List.map_take,List.map_drop]
  have hel:(Ze (l.take p++n::l.drop p)).length=l.length + 1:=by simp;omega
  rw [e] at hw;have hfin:=Own.of_pts hw (by have:=hfr;rw [List.length_append,hxs] at this;rw [List.length_append,hel];exact this);rw [hel] at hfin;refine ⟨⟨some ⟨b',0,none⟩,l.length + 1,(Ze (l.take p++n::l.drop p)++rest).length⟩,?_,?_⟩
  ·dsimp only
   have c1:((Ze l).take p++ys++rest).length=l.length + 1 + rest.length:=List.length_append.trans (by rw [hxs]);have c2:(Ze (l.take p++n::l.drop p)++rest).length=l.length + 1 + rest.length:=List.length_append.trans (by rw [hel]);rw [c1,c2]
  ·exact Sat.cons (λ R' h=>h.drop) hfin
 ·-- room
  rcases Own.cases hw with ⟨_,h0,_⟩|⟨bs,rest,fr,rfl,hfr,hws⟩
  ·have h3:l.length=0:=by
    have:=congrArg List.length h0;rw [List.length_map] at this;exact this
   omega
  clear w1 w2 w3;dsimp only at hlen hcap h h2 ⊢;rw [List.length_map] at h;have hA:((Ze l).take p).length=p:=by rw [List.length_take,List.length_map];omega
  have hcl:(Ze l++rest).length=l.length + rest.length:=by rw [List.length_append,List.length_map]
  have hroom:1<=rest.length:=by
   rw [hcl] at h2;omega
  refine ⟨by omega,by omega,by omega,by omega,?_⟩;rw [Zgb (by omega)];refine Zj1 (by intro h0;have h5:=congrArg List.length h0;rw [hcl,List.length_nil] at h5;omega) hws ?_;refine ⟨_,rfl,Br.t rfl ?_⟩;refine Zo hws λ w hws=>⟨by omega,by omega,by omega,by omega,?_⟩;rw [Zgb (by omega)];have hsat:=hws.at;refine Zgc underlying30 (by kernel_rfl) hws hfr (cs:=(Ze l).drop p) (by rw [List.length_drop,List.length_map];show _=min _ _;omega)
   (by rw [hcl,List.length_drop,List.length_map];omega) (Zn4 hsat (by rw [List.length_map];omega)) (by rw [<-List.map_drop];exact ZfP _ _) λ _ w hw=>?_
  refine ⟨by omega,by omega,?_⟩;have hb1:=hw.swap.at;refine Zgc underlying30 (by kernel_rfl) hw (by rw [ZbG];exact hfr) (cs:=[nI n]) (by show 1=min _ _;omega) (by rw [ZbG,hcl];show p + 1<=_;omega) (Zra hb1) rfl λ _ w hw=>?_;have e0:Ze l++rest=((Ze l).take p++(Ze l).drop p)++rest:=by rw [List.take_append_drop]
  rw [e0,ZCY hA hroom] at hw;have e:(Ze l).take p++nI n::(Ze l).drop p=Ze (l.take p++n::l.drop p):=by simp [List.map_take,List.map_drop]
  have hel:(Ze (l.take p++n::l.drop p)).length=l.length + 1:=by simp;omega
  rw [e] at hw;have hll:(Ze (l.take p++n::l.drop p)++rest.drop 1).length=(Ze l++rest).length:=by rw [List.length_append,hel,hcl,List.length_drop];omega
  have hfin:=Own.of_pts hw (by rw [hll];exact hfr);rw [hel,hll] at hfin;exact ⟨_,rfl,hfin⟩
end
end Go.Proofs.YtlplemdmegpoeaaGreatDoor
namespace Go.VC
section
variable {P:Program} {R R' R'':Cx} {Hs Rest:List HP} {w:World} {s:Sl} {T:TypeId}
instance:Zbt Int where
 enc:=Value.int .i64
 desc:=.int .i64
 same a b:=by
  show (if IntKind.i64=IntKind.i64 then some (a==b) else none)=some (a==b)
  rw [if_pos rfl]
 bits a:=by
  have:∀ n,Instr.sameBits n (.int .i64 a) (.int .i64 a)=(IntKind.i64==IntKind.i64 && a==a):=λ n=>by cases n<;>rfl
  rw [this];simp
 eq a b h:=beq_iff_eq.1 h
 check P em K a w h:=by
  show (Instr.checkKey em (9999 + 1) K (.int .i64 a)).run P w=_;unfold Instr.checkKey;simp [run_underlying h]
theorem Zz.out {xs:List Value} (h:Sat R (Zz s xs::Hs) w):∃ R',R.Ext R'/\SlR R'.m s xs/\Sat R' Hs w/\∀ Hs' w',Sat R' Hs' w'->Sat R (Zz s xs::Hs') w':=by
 obtain ⟨x,hd,hs,hw,hx⟩:=Zz.lend h;exact ⟨R.add x,Cx.Ext.add,hs,hw,λ Hs' w' h=>Zz.back hd hx h⟩
end
end Go.VC
namespace Go.Proofs.YtlplemdmegpoeaaGreatDoor
section
open Go Go.VC Tryz
variable {R:Cx} {Hs Rest:List HP} {w:World}
structure ZI where
 owner:Int
 cls:Int
 many:Int
 seats:List Int
structure PF where
 num:Int
 rows:Int
 grps:List Int
 lims:List Int
 sold:List Int
 hs:List (Int × ZI)
 own:List (Int × Int)
abbrev ZN (h:ZI) (s:Sl):Obj:=.cells [nI h.owner,nI h.cls,nI h.many,.slice s.a s.len s.cap].toArray 197 (0,0)
def Zgk (b:Nat) (h:ZI):HP:=exs λ s:Sl=>Zah [pts b (ZN h s),Own s 3 (Ze h.seats)]
abbrev HE:=Int × Nat × ZI
def Z2 (E:List HE):HP:=Zah (E.map λ e=>Zgk e.2.1 e.2.2)
abbrev Z3 (E:List HE):List (Int × Value):=E.map λ e=>(e.1,.pointer (some ⟨e.2.1,0,none⟩))
abbrev hEr (E:List HE):List (Int × ZI):=E.map λ e=>(e.1,e.2.2)
abbrev ZbI (l:List (Int × Int)):List (Int × Value):=l.map λ e=>(e.1,nI e.2)
abbrev Zap (f:PF) (sg sl ss:Sl) (hm om:Nat):Obj:=
 .cells [nI f.num,nI f.rows,.slice sg.a sg.len sg.cap,.slice sl.a sl.len sl.cap,.slice ss.a ss.len ss.cap,.map (some hm),.map (some om)].toArray 186 (0,0)
abbrev FO (p hm om:Nat) (sg sl ss:Sl) (E:List HE) (f:PF) (Hs:List HP):List HP:=
 pts p (Zap f sg sl ss hm om)::MapAt hm (Z3 E)::MapAt om (ZbI f.own)::Z2 E::Hs
structure FX where
 hm:Nat
 om:Nat
 sg:Sl
 sl:Sl
 ss:Sl
 E:List HE
def ZJ (p:Nat) (f:PF):HP:=exs λ x:FX=>
 Zah [pur (hEr x.E=f.hs),Zz x.sg (Ze f.grps),Zz x.sl (Ze f.lims),Zz x.ss (Ze f.sold),pts p (Zap f x.sg x.sl x.ss x.hm x.om),MapAt x.hm (Z3 x.E),MapAt x.om (ZbI f.own),Z2 x.E]
theorem Sat.flight {p:Nat} {f:PF}:Sat R (ZJ p f::Hs) w↔∃ hm om sg sl ss E,hEr E=f.hs/\Sat R (Zz sg (Ze f.grps)::Zz sl (Ze f.lims)::Zz ss (Ze f.sold)::FO p hm om sg sl ss E f Hs) w:=by
 unfold ZJ;rw [Sat.exs];constructor
 ·rintro ⟨⟨hm,om,sg,sl,ss,E⟩,h⟩
  obtain ⟨h1,h2⟩:=Sat.pur.1 (Sat.star.1 h);exact ⟨hm,om,sg,sl,ss,E,h1,h2⟩
 ·rintro ⟨hm,om,sg,sl,ss,E,h1,h2⟩
  exact ⟨⟨hm,om,sg,sl,ss,E⟩,Sat.star.2 (Sat.pur.2 ⟨h1,h2⟩)⟩
theorem Sat.flightO {p:Nat} {f:PF} (hw:Sat R (ZJ p f::Hs) w):∃ hm om sg sl ss E R',hEr E=f.hs/\R.Ext R'/\SlR R'.m sg (Ze f.grps)/\SlR R'.m sl (Ze f.lims)/\SlR R'.m ss (Ze f.sold)/\Sat R' (FO p hm om sg sl ss E f Hs) w/\
  ∀ Hs' w',Sat R' Hs' w'->Sat R (Zz sg (Ze f.grps)::Zz sl (Ze f.lims)::Zz ss (Ze f.sold)::Hs') w':=by
 obtain ⟨hm,om,sg,sl,ss,E,hE,hw⟩:=Sat.flight.1 hw;obtain ⟨R1,e1,g1,hw,b1⟩:=Zz.out hw;obtain ⟨R2,e2,g2,hw,b2⟩:=Zz.out hw;obtain ⟨R3,e3,g3,hw,b3⟩:=Zz.out hw;exact ⟨hm,om,sg,sl,ss,E,R3,hE,e1.trans (e2.trans e3),e3.slR (e2.slR g1),e3.slR g2,g3,hw,λ Hs' w' h=>b1 _ _ (b2 _ _ (b3 _ _ h))⟩
theorem Sat.flightC {p hm om:Nat} {sg sl ss:Sl} {E:List HE} {f:PF} (hE:hEr E=f.hs) (hw:Sat R (Zz sg (Ze f.grps)::Zz sl (Ze f.lims)::Zz ss (Ze f.sold)::FO p hm om sg sl ss E f Hs) w):Sat R (ZJ p f::Hs) w:=
 Sat.flight.2 ⟨hm,om,sg,sl,ss,E,hE,hw⟩
theorem Sat.hold {b:Nat} {h:ZI}:Sat R (Zgk b h::Hs) w↔∃ s:Sl,Sat R (pts b (ZN h s)::Own s 3 (Ze h.seats)::Hs) w:=by
 unfold Zgk;rw [Sat.exs];exact ⟨λ⟨s,h⟩=>⟨s,Sat.star.1 h⟩,λ⟨s,h⟩=>⟨s,Sat.star.2 h⟩⟩
theorem Sat.holds {a b:List HE} {e:HE}:Sat R (Z2 (a++e::b)::Hs) w↔Sat R (Zgk e.2.1 e.2.2::Z2 (a++b)::Hs) w:=by
 have p:((a++e::b).map λ e:HE=>Zgk e.2.1 e.2.2).Perm (Zgk e.2.1 e.2.2::(a++b).map λ e:HE=>Zgk e.2.1 e.2.2):=by
  rw [List.map_append,List.map_cons,List.map_append];exact List.perm_middle
 unfold Z2;constructor
 ·intro h
  have h1:=(Sat.star.1 h).perm (p.append_right Hs);exact h1.cons λ _ h=>Sat.star.2 h
 ·intro h
  have h1:Sat R ((Zgk e.2.1 e.2.2::(a++b).map λ e:HE=>Zgk e.2.1 e.2.2)++Hs) w:=h.cons λ _ h=>Sat.star.1 h;exact Sat.star.2 (h1.perm (p.symm.append_right Hs))
abbrev ZC7:Zwz prog 183 Int 3 227 (.pointer none):=⟨underlying183,underlying3,zeroValue227⟩
abbrev ZC1:Zwz prog 184 Int 3 3 (nI 0):=⟨underlying184,underlying3,zeroValue3⟩
theorem Zh7 (k:Int) (E:List HE):ZO k (Z3 E)=(ZO k E).map λ x=>.pointer (some ⟨x.1,0,none⟩):=Zf4 (λ x:Nat × ZI=>Value.pointer (some ⟨x.1,0,none⟩)) k E
theorem Zb0 (k:Int) (E:List HE):ZO k (hEr E)=(ZO k E).map (·.2):=Zf4 (λ x:Nat × ZI=>x.2) k E
theorem Zse (k:Int) (l:List (Int × Int)):ZO k (ZbI l)=(ZO k l).map (Value.int .i64):=Zf4 (Value.int .i64) k l
theorem Zdz {m:Nat} {E:List HE} (hw:Sat R (MapAt m (Z3 E)::Hs) w) (k:Int) (c:Bool):
  (Instr.lookup 183 (.map (some m)) (nI k) c).run prog w=.ok (if c then .tuple #[.pointer ((ZO k E).map λ x=>⟨x.1,0,none⟩),.bool (ZO k E).isSome] else .pointer ((ZO k E).map λ x=>⟨x.1,0,none⟩)) w:=by
 have h:=MapAt.look ZC7 hw k c;rw [Zh7] at h;rw [show nI k=Zbt.enc k from rfl,h]
 cases ZO k E<;>rfl
theorem ZuM {m:Nat} {l:List (Int × Int)} (hw:Sat R (MapAt m (ZbI l)::Hs) w) (k:Int) (c:Bool):
  (Instr.lookup 184 (.map (some m)) (nI k) c).run prog w=.ok (if c then .tuple #[nI ((ZO k l).getD 0),.bool (ZO k l).isSome] else nI ((ZO k l).getD 0)) w:=by
 have h:=MapAt.look ZC1 hw k c;rw [Zse] at h;rw [show nI k=Zbt.enc k from rfl,h]
 cases ZO k l<;>rfl
theorem Zn6 {α β γ:Type} [BEq α] (f:β->γ) (k:α) (v:β):∀ l:List (α × β),ZgQ k (f v) (l.map λ e=>(e.1,f e.2))=(ZgQ k v l).map λ e=>(e.1,f e.2)
 |[]=>rfl
 |e::l=>by
  simp only [List.map_cons,ZgQ];split
  ·rfl
  ·rw [Zn6 f k v l];rfl
theorem ZoP {α β γ:Type} [BEq α] (f:β->γ) (k:α):∀ l:List (α × β),Zfy k (l.map λ e=>(e.1,f e.2))=(Zfy k l).map λ e=>(e.1,f e.2)
 |[]=>rfl
 |e::l=>by
  simp only [List.map_cons,Zfy];split
  ·rfl
  ·rw [ZoP f k l];rfl
theorem ZuD {α β γ:Type} [BEq α] (f:β->γ) (k:α) (v:β) (l:List (α × β)):Ze4 k (f v) (l.map λ e=>(e.1,f e.2))=(Ze4 k v l).map λ e=>(e.1,f e.2):=by
 unfold Ze4;rw [Zf4,Option.isSome_map];split
 ·exact Zn6 f k v l
 ·simp
def ZI.put (h:ZI) (n:Int):ZI:={ h with seats:=Zh3 n h.seats }
theorem Zk7 {p hm om b:Nat} {sg sl ss:Sl} {a c:List HE} {k n:Int} {h:ZI} {f:PF} (hr:Zqz h.seats) (hl:h.seats.length<=1000000000) (hw:Sat R (FO p hm om sg sl ss (a++(k,b,h)::c) f Hs) w):
  Zm prog 178 #[nP p,nP b,nI n] w λ v w'=>v=.tuple #[]/\Sat R (FO p hm om sg sl ss (a++(k,b,h.put n)::c) { f with own:=Ze4 n h.owner f.own } Hs) w':=by
 have hw:=hw.take (Z2 (a++(k,b,h)::c));obtain ⟨s,hw⟩:=Sat.hold.1 (Sat.holds.1 hw);apply Zy5;refine Zc.mk rfl ⟨s,oA hw,?_⟩;obtain ⟨R',hro,_,hw',back⟩:=Own.lend (hw.take (Own s 3 (Ze h.seats))) (by rw [List.length_map];omega);refine (Zmx (l:=h.seats) hro hr hl hw').use ?_;clear hw hw';rintro _ w ⟨q,bb,rfl,hq,h1,h2,hw⟩;have hw:=(back hw).swap;refine ⟨_,_,rfl,Zc.mk rfl ⟨s,oA hw,?_⟩⟩;refine Za hw λ bn w hw=>?_;refine (Znn (T:=3) hl hq (hw.take (Own s 3 (Ze h.seats)))).u1 λ t w hw=>?_;rw [<-ZsN hq h1 h2] at hw;refine ⟨_,rfl,Zc.mk rfl ?_⟩;refine sRu hw λ w hw=>?_;have hw:Sat R (pts b (ZN (h.put n) t)::Own t 3 (Ze (Zh3 n h.seats))::pts bn (Zz7 n 3)::Z2 (a++c)::pts p (Zap f sg sl ss hm om)::MapAt hm (Z3 (a++(k,b,h)::c))::MapAt om (ZbI f.own)::Hs) w:=hw;refine Zo hw λ w hw=>?_;refine Zc.mk rfl ⟨some om,oS,Zc.mk rfl ⟨h.owner,by rw [Zy];exact oS,?_⟩⟩;refine MapAt.put ZC1 (hw.take (MapAt om (ZbI f.own))) n (nI h.owner) λ w hw=>⟨rfl,?_⟩;rw [ZuD (Value.int .i64) n h.owner f.own] at hw;have hw:=(hw.take (pts bn (Zz7 n 3))).drop;have hw:Sat R (pts b (ZN (h.put n) t)::Own t 3 (Ze (h.put n).seats)::MapAt om (ZbI (Ze4 n h.owner f.own))::Z2 (a++c)::pts p (Zap f sg sl ss hm om)::MapAt hm (Z3 (a++(k,b,h)::c))::Hs) w:=
  (hw.take (Own t 3 (Ze (Zh3 n h.seats)))).take (pts b (ZN (h.put n) t))
 have hw:=Sat.hold.2 ⟨t,hw⟩;have hw:=(Sat.holds (e:=((k,b,h.put n):HE)) (a:=a) (b:=c)).2 (hw.cons λ _ h=>h.take (Z2 (a++c)));have e:Z3 (a++(k,b,h.put n)::c)=Z3 (a++(k,b,h)::c):=by simp [Z3]
 show Sat R (pts p (Zap f sg sl ss hm om)::MapAt hm (Z3 (a++(k,b,h.put n)::c))::MapAt om (ZbI (Ze4 n h.owner f.own))::Z2 (a++(k,b,h.put n)::c)::Hs) w;rw [e];exact ((hw.take (MapAt om (ZbI (Ze4 n h.owner f.own)))).take (MapAt hm (Z3 (a++(k,b,h)::c)))).take (pts p (Zap f sg sl ss hm om))
def Zd1 (n:Int) (g:List Int) (l:List Int):List ByteArray:=l.map λ k=>(Zu4 n g k).1
theorem ZDc:El prog 31 31 9 16:=⟨underlying31,⟨_,underlying31⟩,by kernel_rfl⟩
theorem ZpK (l:List ByteArray):ZaE (l.map Value.string)=true:=by unfold ZaE;simp [Value.oneCell']
theorem Zh2 {p hm om:Nat} {sg sl ss sq:Sl} {f:PF} {l:List Int} [tk:Zd2 p Hs (Zap f sg sl ss hm om) Rest] (hg:RoI R sg f.grps) (hl:RoI R sq l) (hlen:l.length<=1000000) (hw:Sat R Hs w):
  Zm prog 181 #[nP p,.slice sq.a sq.len sq.cap] w λ v w'=>∃ t:Sl,v=.slice t.a t.len t.cap/\Sat R (Own t 9 ((Zd1 f.rows f.grps l).map Value.string)::Hs) w':=by
 have hll:=hl.len;apply Zy3;refine ⟨λ so i w=>∃ j:Nat,i=j/\j<=l.length/\Sat R (Own so 9 ((Zd1 f.rows f.grps (l.take j)).map Value.string)::Hs) w,λ _ i _=>l.length - i.toNat,⟨0,rfl,by omega,Own.nil hw⟩,?_⟩;clear hw;rintro _ so _ w ⟨j,rfl,hj,hw⟩;refine Br.d (λ h=>?_) (λ h=>?_)
 ·have hj2:j<l.length:=by omega
  refine Ro.ix hl (eqS hw) j rfl hj2 ?_;refine Zc.mk rfl ⟨f.rows,sg,At.own (l:=[nI f.num,nI f.rows,.slice sg.a sg.len sg.cap,.slice sl.a sl.len sl.cap,.slice ss.a ss.len ss.cap,.map (some hm),.map (some om)]) (t:=Zd2.tail (t:=tk)) (eqS hw) (by exact ⟨rfl,rfl,trivial⟩),?_⟩;refine (Zp1 hg hw).u λ w hw=>?_;have hlab:(Zd1 f.rows f.grps (l.take j)).length=j:=by unfold Zd1;rw [List.length_map,List.length_take];omega
  refine ⟨_,_,rfl,?_⟩;refine ZfL ZDc hw (ZpK _) rfl (by rw [List.length_map,hlab];omega) (by rw [List.length_map,hlab];omega) λ t w hw=>?_;rw [Zf];refine ⟨⟨j + 1,by omega,by omega,?_⟩,by dsimp only;omega⟩;have e:(Zd1 f.rows f.grps (l.take (j + 1))).map Value.string=(Zd1 f.rows f.grps (l.take j)).map Value.string++[.string (Zu4 f.rows f.grps l[j]).1]:=by
   unfold Zd1;rw [List.take_add_one,List.getElem?_eq_getElem hj2,Option.toList_some,List.map_append,List.map_append];rfl
  rw [e];exact hw
 ·rw [List.take_of_length_le (by omega)] at hw
  exact ⟨so,rfl,hw⟩
theorem Zb5 {K:Nat->World->Prop} (hw:Sat R Hs w) (k:∀ m w',Sat R (MapAt (α:=Int) m []::Hs) w'->K m w'):New (.map #[] 0) K w:=
 Za hw λ m w hw=>k m w (MapAt.new rfl hw)
theorem Zet {n:Nat} {K:Sl->World->Prop} (hn:n<=1000) (hw:Sat R Hs w) (k:∀ s w',Sat R (Own s 3 (Ze (List.replicate n 0))::Hs) w'->K s w'):
  ∃ w',∃ t:Sl,(Instr.makeSlice 30 (nI (n:Int)) (nI (n:Int))).run prog w=.ok (.slice t.a t.len t.cap) w'/\K t w':=
 ZhV (bytes:=8) (z:=nI 0) underlying30 (by kernel_rfl) zeroValue3 rfl (by omega) (by omega) hw λ s w hw=>k s w (by
  rw [show Ze (List.replicate n 0)=List.replicate n (nI 0) by simp [Ze]];exact hw)
def Zem (num rows:Int) (grps lims:List Int):PF:=⟨num,rows,grps,lims,List.replicate lims.length 0,[],[]⟩
theorem Zqb {num rows:Int} {sg sl:Sl} {grps lims:List Int} (hl:lims.length<=1000) (hw:Sat R (Zz sg (Ze grps)::Zz sl (Ze lims)::Hs) w):
  Zm prog 167 #[nI num,.agg #[nI rows,.slice sg.a sg.len sg.cap],.slice sl.a sl.len sl.cap] w λ v w'=>∃ p,v=nP p/\Sat R (ZJ p (Zem num rows grps lims)::Hs) w':=by
 have hlen:sl.len=lims.length:=by
  obtain ⟨_,_,h,_⟩:=Zz.out hw.swap;have:=h.len;rw [List.length_map] at this;exact this
 apply Zzg;refine Za hw λ b4 w hw=>?_;have hw:Sat R (pts b4 (Zfq rows sg)::Zz sg (Ze grps)::Zz sl (Ze lims)::Hs) w:=hw;refine Zo hw λ w hw=>?_;rw [hlen];have fin:∀ {hm om:Nat} {ss:Sl} {w:World} (_:Sat R (MapAt (α:=Int) om []::MapAt (α:=Int) hm []::Own ss 3 (Ze (List.replicate lims.length 0))::pts b4 (Zfq rows sg)::Zz sg (Ze grps)::Zz sl (Ze lims)::Hs) w),
   New (.cells #[nI num,nI rows,.slice sg.a sg.len sg.cap,.slice sl.a lims.length sl.cap,.slice ss.a ss.len ss.cap,.map (some hm),.map (some om)] 186 (0,0))
    (λ p w=>Sat R (pts b4 (Zfq rows sg)::Zz sg (Ze grps)::Zz sl (Ze lims)::Hs) w/\∃ p',Value.pointer (some ⟨p,0,none⟩)=.pointer (some ⟨p',0,none⟩)/\Sat R (ZJ p' (Zem num rows grps lims)::Hs) w) w:=λ {hm om ss w} hw=>by
  refine Za hw λ p w hw=>⟨hw.drop.drop.drop.drop,p,rfl,?_⟩;refine Sat.flight.2 ⟨hm,om,sg,sl,ss,[],rfl,?_⟩;have ec:(Obj.cells #[nI num,nI rows,.slice sg.a sg.len sg.cap,.slice sl.a lims.length sl.cap,.slice ss.a ss.len ss.cap,.map (some hm),.map (some om)] 186 (0,0))=Zap (Zem num rows grps lims) sg sl ss hm om:=by rw [<-hlen];rfl
  rw [ec] at hw;have hw:=(hw.take (pts b4 (Zfq rows sg))).drop;have hw:=hw.take (Own ss 3 (Ze (List.replicate lims.length 0)));have hw:Sat R (Zz ss (Ze (List.replicate lims.length 0))::pts p (Zap (Zem num rows grps lims) sg sl ss hm om)::MapAt (α:=Int) om []::MapAt (α:=Int) hm []::Zz sg (Ze grps)::Zz sl (Ze lims)::Hs) w:=Own.reads hw;have h2:Sat R (Z2 []::Zz ss (Ze (List.replicate lims.length 0))::pts p (Zap (Zem num rows grps lims) sg sl ss hm om)::MapAt (α:=Int) om []::MapAt (α:=Int) hm []::Zz sg (Ze grps)::Zz sl (Ze lims)::Hs) w:=Sat.star.2 hw;have h3:=(((((((h2.take (Z2 [])).take (MapAt (α:=Int) om [])).take (MapAt (α:=Int) hm [])).take (pts p (Zap (Zem num rows grps lims) sg sl ss hm om))).take (Zz ss (Ze (List.replicate lims.length 0)))).take (Zz sl (Ze lims))).take (Zz sg (Ze grps)));exact h3
 refine ⟨rows,sg,oS,?_,?_,?_⟩
 ·refine Zet hl hw λ ss w hw=>⟨hw.drop,?_,?_⟩
  ·refine Zb5 hw λ hm w hw=>⟨hw.drop.drop,Zb5 hw λ om w hw=>⟨hw.drop.drop.drop,fin hw⟩⟩
  ·refine Zb5 hw λ om w hw=>⟨hw.drop.drop,Zb5 hw λ hm w hw=>⟨hw.drop.drop.drop,fin hw.swap⟩⟩
 ·refine Zb5 hw λ hm w hw=>⟨hw.drop,?_,?_⟩
  ·refine Zet hl hw λ ss w hw=>⟨hw.drop.drop,Zb5 hw λ om w hw=>⟨hw.drop.drop.drop,fin ((hw.take (MapAt (α:=Int) hm [])).take (MapAt (α:=Int) om []))⟩⟩
  ·refine Zb5 hw λ om w hw=>⟨hw.drop.drop,Zet hl hw λ ss w hw=>⟨hw.drop.drop.drop,fin ((hw.take (MapAt (α:=Int) hm [])).take (MapAt (α:=Int) om []))⟩⟩
 ·refine Zb5 hw λ om w hw=>⟨hw.drop,?_,?_⟩
  ·refine Zet hl hw λ ss w hw=>⟨hw.drop.drop,Zb5 hw λ hm w hw=>⟨hw.drop.drop.drop,fin ((hw.take (MapAt (α:=Int) hm [])).take (MapAt (α:=Int) om []))⟩⟩
  ·refine Zb5 hw λ hm w hw=>⟨hw.drop.drop,Zet hl hw λ ss w hw=>⟨hw.drop.drop.drop,fin ((hw.take (MapAt (α:=Int) hm [])).take (MapAt (α:=Int) om []))⟩⟩
def Zj7 (num rows:Int) (grps:List Int) (parts:List Nat):Prop:=1<=num/\num<=9999/\ZdQ rows grps=true/\(Zaf (Za5 rows grps) parts).2=0
theorem ZpU {s:Int} {parts:List Nat}:(Zaf s parts).1.length<=8:=by
 unfold Zaf;split
 ·simp
 ·simp only [List.length_cons,ZfR,List.length_tail];omega
theorem Zp7 {num rows:Int} {sg sp:Sl} {grps:List Int} {parts:List Nat} (hg:RoI R sg grps) (hp:SlR R.m sp (Zjn parts)) (hw:Sat R Hs w):
  Zm prog 98 #[nI num,.agg #[nI rows,.slice sg.a sg.len sg.cap],.slice sp.a sp.len sp.cap] w λ v w'=>
   (¬ Zj7 num rows grps parts/\v=.tuple #[.pointer none,nI 1]/\Sat R Hs w')\/
   (Zj7 num rows grps parts/\∃ p,v=.tuple #[nP p,nI 0]/\Sat R (ZJ p (Zem num rows grps (Zaf (Za5 rows grps) parts).1)::Hs) w'):=by
 apply ZAV;refine Za hw λ b4 w hw=>?_;have hw:Sat R (pts b4 (Zfq rows sg)::Hs) w:=hw;refine ⟨rows,sg,oA hw,?_⟩;refine (ZdC hg hw).u λ w hw=>?_;refine ⟨_,rfl,?_⟩;refine (Znf hp hw).u1 λ t w hw=>?_;have bad:¬ Zj7 num rows grps parts->∀ {w},Sat R (Own t 3 (Ze (Zaf (Za5 rows grps) parts).1)::pts b4 (Zfq rows sg)::Hs) w->(¬ Zj7 num rows grps parts/\Value.tuple #[.pointer none,nI 1]=.tuple #[.pointer none,nI 1]/\Sat R Hs w)\/
   (Zj7 num rows grps parts/\∃ p,Value.tuple #[.pointer none,nI 1]=.tuple #[nP p,nI 0]/\Sat R (ZJ p (Zem num rows grps (Zaf (Za5 rows grps) parts).1)::Hs) w):=λ h w hw=>.inl ⟨h,rfl,hw.drop.drop⟩
 refine ⟨_,_,rfl,Br.d (λ h=>bad (λ h2=>by have:=h2.1;omega) hw) (λ h1=>Br.d (λ h=>bad (λ h2=>by have:=h2.2.1;omega) hw) (λ h2=>?_))⟩;refine ⟨rows,sg,oA hw,?_⟩;refine (Zgr hg hw).u λ w hw=>?_;refine ⟨_,rfl,Br.nb (λ h=>bad (λ h2=>by have h5:=h2.2.2.1;rw [h] at h5;cases h5) hw) (λ h3=>Br.ne (λ h=>bad (λ h2=>h h2.2.2.2) hw) (λ h4=>?_))⟩;refine ⟨sg,oA hw,?_⟩;obtain ⟨l1,_,_⟩:=Zaa.1 h3;refine (Zfu hg (by omega) hw).u1 λ tg w hw=>?_;refine ⟨tg,rfl,?_⟩;refine sRu hw λ w hw=>?_;have hw:Sat R (pts b4 (Zfq rows tg)::Own tg 3 (Ze grps)::Own t 3 (Ze (Zaf (Za5 rows grps) parts).1)::Hs) w:=hw;refine ⟨rows,tg,oA hw,?_⟩;have hw:Sat R (Zz tg (Ze grps)::Zz t (Ze (Zaf (Za5 rows grps) parts).1)::Hs) w:=Sat.cons (λ _ h=>Own.reads h) (Own.reads hw.drop);refine (Zqb (by have:=ZpU (s:=Za5 rows grps) (parts:=parts);omega) hw).u1 λ p w hw=>?_;exact ⟨_,rfl,.inr ⟨⟨by omega,by omega,h3,h4⟩,p,rfl,hw⟩⟩
def Zd5 (f:PF) (owner cls many:Int):PF × Int:=
 if owner<1\/owner>28629151 then (f,1) else if (ZO owner f.hs).isSome then (f,7)
 else if (Zbc f.lims f.sold cls many).2=0 then ({ f with sold:=(Zbc f.lims f.sold cls many).1,hs:=f.hs++[(owner,⟨owner,cls,many,[]⟩)] },0) else (f,(Zbc f.lims f.sold cls many).2)
theorem Zpe {p:Nat} {f:PF} {owner cls many:Int} (hl:f.lims.length<=1000) (hs:f.sold.length<=1000) (hw:Sat R (ZJ p f::Hs) w):
  Zm prog 101 #[nP p,nI owner,nI cls,nI many] w λ v w'=>v=nI (Zd5 f owner cls many).2/\Sat R (ZJ p (Zd5 f owner cls many).1::Hs) w':=by
 obtain ⟨hm,om,sg,sl,ss,E,R',hE,_,_,rl,rs,hw,back⟩:=Sat.flightO hw;have same:∀ {w},Sat R' (FO p hm om sg sl ss E f Hs) w->Sat R (ZJ p f::Hs) w:=λ hw=>Sat.flightC hE (back _ _ hw);have eget:(ZO owner f.hs).isSome=(ZO owner E).isSome:=by rw [<-hE,Zb0,Option.isSome_map]
 apply ZzT;refine Zc.mk rfl ⟨some hm,oA hw,(ZO owner E).map (λ x=>⟨x.1,0,none⟩),(ZO owner E).isSome,λ w' e=>by rw [show w'=w from e];exact Zdz (hw.take (MapAt hm (Z3 E))) owner true,?_⟩
 refine ⟨λ w=>(1<=owner/\owner<=28629151/\(ZO owner E).isSome=false)/\Sat R' (FO p hm om sg sl ss E f Hs) w,?_,?_⟩
 ·refine Br.d (λ h=>?_) (λ h1=>Br.d (λ h=>?_) (λ h2=>Br.mk (λ h=>?_) (λ h=>⟨⟨by omega,by omega,h⟩,hw⟩)))
  ·rw [show Zd5 f owner cls many=(f,1) by unfold Zd5;rw [if_pos (.inl h)]];exact ⟨rfl,same hw⟩
  ·rw [show Zd5 f owner cls many=(f,1) by unfold Zd5;rw [if_pos (.inr h)]];exact ⟨rfl,same hw⟩
  ·rw [show Zd5 f owner cls many=(f,7) by unfold Zd5;rw [if_neg (by omega),if_pos (by rw [eget];exact h)]];exact ⟨rfl,same hw⟩
 clear hw;rintro _ w ⟨⟨h1,h2,h3⟩,hw⟩;have e:Zd5 f owner cls many=if (Zbc f.lims f.sold cls many).2=0 then ({ f with sold:=(Zbc f.lims f.sold cls many).1,hs:=f.hs++[(owner,⟨owner,cls,many,[]⟩)] },0) else (f,(Zbc f.lims f.sold cls many).2):=by
  unfold Zd5;rw [if_neg (by omega),if_neg (by rw [eget,h3];simp)]
 rw [e];refine Zo hw λ w hw=>?_;refine Zc.mk rfl ⟨sl,oS,Zc.mk rfl ⟨ss,oS,?_⟩⟩;refine (Zrk (rl.ro) (rs.ro) hw).u1 λ t w hw=>?_;refine ⟨_,_,rfl,Br.e (λ h4=>?_) (λ h4=>?_)⟩
 ·rw [if_pos h4,h4]
  refine Zc.mk rfl ?_;refine sRu hw λ w hw=>?_;have hw:Sat R' (pts p (Zap f sg sl t hm om)::Own t 3 (Ze (Zbc f.lims f.sold cls many).1)::MapAt hm (Z3 E)::MapAt om (ZbI f.own)::Z2 E::Hs) w:=hw;refine Zc.mk rfl ⟨some hm,oA hw,?_⟩;refine Za hw λ b w hw=>?_;have hw:Sat R' (pts b (ZN ⟨owner,cls,many,[]⟩ ⟨none,0,0⟩)::pts p (Zap f sg sl t hm om)::Own t 3 (Ze (Zbc f.lims f.sold cls many).1)::MapAt hm (Z3 E)::MapAt om (ZbI f.own)::Z2 E::Hs) w:=hw;refine MapAt.put ZC7 (hw.take (MapAt hm (Z3 E))) owner (nP b) λ w hw=>⟨rfl,?_⟩;have ep:Ze4 owner (Value.pointer (some ⟨b,0,none⟩)) (Z3 E)=Z3 (E++[(owner,b,⟨owner,cls,many,[]⟩)]):=by
   unfold Ze4;rw [Zh7,Option.isSome_map,h3];simp [Z3]
  rw [ep] at hw;have hw:=hw.take (Z2 E);have hw:=hw.take (pts b (ZN ⟨owner,cls,many,[]⟩ ⟨none,0,0⟩));have hw:=(Sat.hold (b:=b) (h:=⟨owner,cls,many,[]⟩)).2 ⟨⟨none,0,0⟩,hw.cons λ _ h=>Own.nil (T:=3) h⟩;rw [<-List.append_nil E] at hw;have hw:=(Sat.holds (e:=((owner,b,⟨owner,cls,many,[]⟩):HE)) (a:=E) (b:=[])).2 hw;rw [List.append_nil] at hw;have hw:=hw.take (Own t 3 (Ze (Zbc f.lims f.sold cls many).1));have hw:=back _ _ (Own.reads hw);refine Sat.flight.2 ⟨hm,om,sg,sl,t,E++[(owner,b,⟨owner,cls,many,[]⟩)],by rw [<-hE];simp [hEr],?_⟩;have hw:=(hw.take (Zz ss (Ze f.sold))).drop;exact (((((hw.take (Z2 (E++[(owner,b,⟨owner,cls,many,[]⟩)]))).take (MapAt om (ZbI f.own))).take (MapAt hm (Z3 (E++[(owner,b,⟨owner,cls,many,[]⟩)])))).take (pts p (Zap f sg sl t hm om))).take (Zz t (Ze (Zbc f.lims f.sold cls many).1))).take (Zz sl (Ze f.lims))|>.take (Zz sg (Ze f.grps))
 ·rw [if_neg h4];exact ⟨rfl,same hw.drop⟩
abbrev FO1 (p hm om b:Nat) (sg sl ss s:Sl) (E Er:List HE) (f:PF) (h:ZI) (own:List (Int × Int)) (Hs:List HP):List HP:=
 pts b (ZN h s)::Own s 3 (Ze h.seats)::Z2 Er::pts p (Zap f sg sl ss hm om)::MapAt hm (Z3 E)::MapAt om (ZbI own)::Hs
theorem FO.open {p hm om b:Nat} {sg sl ss:Sl} {a c:List HE} {k:Int} {h:ZI} {f:PF} (hw:Sat R (FO p hm om sg sl ss (a++(k,b,h)::c) f Hs) w):∃ s,Sat R (FO1 p hm om b sg sl ss s (a++(k,b,h)::c) (a++c) f h f.own Hs) w:=
 Sat.hold.1 (Sat.holds.1 (hw.take (Z2 (a++(k,b,h)::c))))
theorem FO.close {p hm om b:Nat} {sg sl ss s:Sl} {a c:List HE} {k:Int} {h h':ZI} {f:PF} {own:List (Int × Int)} (hw:Sat R (FO1 p hm om b sg sl ss s (a++(k,b,h)::c) (a++c) f h' own Hs) w):
  Sat R (FO p hm om sg sl ss (a++(k,b,h')::c) { f with own:=own } Hs) w:=by
 have hw:=(Sat.hold (b:=b) (h:=h')).2 ⟨s,hw⟩;have hw:=(Sat.holds (e:=((k,b,h'):HE)) (a:=a) (b:=c)).2 hw;have e:Z3 (a++(k,b,h')::c)=Z3 (a++(k,b,h)::c):=by simp [Z3]
 show Sat R (pts p (Zap f sg sl ss hm om)::MapAt hm (Z3 (a++(k,b,h')::c))::MapAt om (ZbI own)::Z2 (a++(k,b,h')::c)::Hs) w;rw [e];exact ((hw.take (MapAt om (ZbI own))).take (MapAt hm (Z3 (a++(k,b,h)::c)))).take (pts p (Zap f sg sl ss hm om))
theorem ZtC {p hm om:Nat} {sg sl ss:Sl} {E:List HE} {f:PF} {owner:Int} {lab:ByteArray} (hg:RoI R sg f.grps) (hsz:lab.size<=9223372036854775807) (hw:Sat R (FO p hm om sg sl ss E f Hs) w):
  Zm prog 177 #[nP p,nI owner,.string lab] w λ v w'=>
   v=.tuple #[.pointer ((ZO owner E).map λ x=>⟨x.1,0,none⟩),nI (Zbk f.rows f.grps lab).1,.bool ((ZO owner E).isSome && (Zbk f.rows f.grps lab).2==0)]/\Sat R (FO p hm om sg sl ss E f Hs) w':=by
 apply Zy6;refine Zc.mk rfl ⟨some hm,oA hw,(ZO owner E).map (λ x=>⟨x.1,0,none⟩),(ZO owner E).isSome,λ w' e=>by rw [show w'=w from e];exact Zdz (hw.take (MapAt hm (Z3 E))) owner true,?_⟩
 refine Zc.mk rfl ⟨f.rows,sg,oA hw,?_⟩;refine (Zs2 hg hsz hw).u λ w hw=>?_;refine ⟨_,_,rfl,Br.mk (λ h=>⟨?_,hw⟩) (λ h=>⟨?_,hw⟩)⟩
 ·rw [h];rfl
 ·rw [h];rfl
def Zff (f:PF) (owner:Int) (lab:ByteArray):PF × Int:=
 match ZO owner f.hs with
 |none=>(f,2)
 |some h=>if (Zbk f.rows f.grps lab).2≠0 then (f,2) else if (h.seats.length:Int) >= h.many then (f,7)
  else if (ZO (Zbk f.rows f.grps lab).1 f.own).isSome then (f,3)
  else ({ f with hs:=ZgQ owner (h.put (Zbk f.rows f.grps lab).1) f.hs,own:=Ze4 (Zbk f.rows f.grps lab).1 h.owner f.own },0)
theorem ZdR (a:List HE) (k:Int) (b:Nat) (h:ZI) (c:List HE):hEr (a++(k,b,h)::c)=hEr a++(k,h)::hEr c:=by simp [hEr]
theorem Zgz (k:Int):(k==k)=true:=beq_self_eq_true k
theorem Zpo {p:Nat} {f:PF} {owner:Int} {lab:ByteArray} (hgl:f.grps.length<=1000) (hsz:lab.size<=9223372036854775807) (hR:∀ e∈f.hs,Zqz e.2.seats/\e.2.seats.length<=1000000) (hw:Sat R (ZJ p f::Hs) w):
  Zm prog 106 #[nP p,nI owner,.string lab] w λ v w'=>v=nI (Zff f owner lab).2/\Sat R (ZJ p (Zff f owner lab).1::Hs) w':=by
 obtain ⟨hm,om,sg,sl,ss,E,R',hE,_,rg,_,_,hw,back⟩:=Sat.flightO hw;have same:∀ {w},Sat R' (FO p hm om sg sl ss E f Hs) w->Sat R (ZJ p f::Hs) w:=λ hw=>Sat.flightC hE (back _ _ hw);apply ZzO;refine (ZtC (rg.ro) hsz hw).u λ w hw=>?_;refine ⟨_,_,_,rfl,Zc.mk rfl ⟨some om,oA hw,(ZO (Zbk f.rows f.grps lab).1 f.own).getD 0,(ZO (Zbk f.rows f.grps lab).1 f.own).isSome,λ w' e=>by rw [show w'=w from e];exact ZuM (hw.take (MapAt om (ZbI f.own))) _ true,?_⟩⟩
 cases hget:ZO owner E with
 |none=>
  have e:Zff f owner lab=(f,2):=by unfold Zff;rw [<-hE,Zb0,hget];rfl
  rw [e];exact Br.t rfl ⟨rfl,same hw⟩
 |some x=>
  obtain ⟨b,h⟩:=x;have hgf:ZO owner f.hs=some h:=by rw [<-hE,Zb0,hget];rfl
  obtain ⟨a,c,rfl,hna⟩:=ZaG hget;obtain ⟨hr,hl⟩:=hR (owner,h) (by rw [<-hE,ZdR];simp);by_cases h2:(Zbk f.rows f.grps lab).2=0
  ·refine Br.f (by rw [h2];rfl) ?_
   obtain ⟨s,hw⟩:=FO.open hw;have hsl:=Own.len (hw.take (Own s 3 (Ze h.seats)));rw [List.length_map] at hsl;refine Zo hw λ w hw=>?_;refine Zc.mk rfl ⟨s,oS,Zc.mk rfl ⟨h.many,oS,?_⟩⟩;refine Br.d (λ h3=>?_) (λ h3=>?_)
   ·have e:Zff f owner lab=(f,7):=by unfold Zff;rw [hgf];dsimp only;rw [if_neg (by rw [h2];simp),if_pos (by omega)]
    rw [e];exact ⟨rfl,same (FO.close hw)⟩
   ·refine Br.mk (λ h4=>?_) (λ h4=>?_)
    ·have e:Zff f owner lab=(f,3):=by unfold Zff;rw [hgf];dsimp only;rw [if_neg (by rw [h2];simp),if_neg (by omega),if_pos h4]
     rw [e];exact ⟨rfl,same (FO.close hw)⟩
    ·have e:Zff f owner lab=({ f with hs:=ZgQ owner (h.put (Zbk f.rows f.grps lab).1) f.hs,own:=Ze4 (Zbk f.rows f.grps lab).1 h.owner f.own },0):=by
      unfold Zff;rw [hgf];dsimp only;rw [if_neg (by rw [h2];simp),if_neg (by omega),if_neg (by rw [h4];simp)]
     rw [e];have hw:Sat R' (FO p hm om sg sl ss (a++(owner,b,h)::c) f Hs) w:=FO.close hw;refine (Zk7 hr (by omega) hw).u λ w hw=>?_;refine ⟨rfl,rfl,?_⟩;refine Sat.flight.2 ⟨hm,om,sg,sl,ss,a++(owner,b,h.put (Zbk f.rows f.grps lab).1)::c,?_,back _ _ hw⟩;show _=ZgQ owner _ f.hs;rw [<-hE,ZdR,ZdR,Zhb (by rw [Zb0,hna];rfl) (Zgz owner)]
  ·have e:Zff f owner lab=(f,2):=by unfold Zff;rw [hgf];dsimp only;rw [if_pos h2]
   rw [e];exact Br.t (by simp [h2]) ⟨rfl,same hw⟩
def Zfr (f:PF) (owner:Int):List ByteArray:=match ZO owner f.hs with|none=>[]|some h=>Zd1 f.rows f.grps h.seats
theorem Zl2 {p:Nat} {f:PF} {owner:Int} (hgl:f.grps.length<=1000) (hR:∀ e∈f.hs,e.2.seats.length<=1000000) (hw:Sat R (ZJ p f::Hs) w):
  Zm prog 122 #[nP p,nI owner] w λ v w'=>∃ t:Sl,v=.slice t.a t.len t.cap/\Sat R (Own t 9 ((Zfr f owner).map Value.string)::ZJ p f::Hs) w':=by
 obtain ⟨hm,om,sg,sl,ss,E,R',hE,_,rg,_,_,hw,back⟩:=Sat.flightO hw;apply ZzJ;refine Zc.mk rfl ⟨some hm,oA hw,(ZO owner E).map (λ x=>⟨x.1,0,none⟩),(ZO owner E).isSome,λ w' e=>by rw [show w'=w from e];exact Zdz (hw.take (MapAt hm (Z3 E))) owner true,?_⟩
 cases hget:ZO owner E with
 |none=>
  have e:Zfr f owner=[]:=by unfold Zfr;rw [<-hE,Zb0,hget];rfl
  rw [e];exact Br.t rfl ⟨⟨none,0,0⟩,rfl,Own.nil (Sat.flightC hE (back _ _ hw))⟩
 |some x=>
  obtain ⟨b,h⟩:=x;have hgf:ZO owner f.hs=some h:=by rw [<-hE,Zb0,hget];rfl
  have e:Zfr f owner=Zd1 f.rows f.grps h.seats:=by unfold Zfr;rw [hgf]
  rw [e];obtain ⟨a,c,rfl,hna⟩:=ZaG hget;have hl:h.seats.length<=1000000:=hR (owner,h) (by rw [<-hE,ZdR];simp);refine Br.f rfl (Zc.mk rfl ?_);obtain ⟨s,hw⟩:=FO.open hw;refine ⟨s,oA hw,?_⟩;obtain ⟨R2,hro,hmono,hw2,back2⟩:=Own.lend (hw.take (Own s 3 (Ze h.seats))) (by rw [List.length_map];omega);refine (Zh2 (f:=f) (hm:=hm) (om:=om) (sg:=sg) (sl:=sl) (ss:=ss) (hmono _ _ (rg.ro)) hro hl hw2).use ?_;clear hw hw2;rintro _ w ⟨t,rfl,hw⟩;refine ⟨t,rfl,t,rfl,?_⟩;have hw:=(back2 hw).swap;have hw:=back _ _ (Sat.cons (λ _ h5=>FO.close (f:=f) (h5.take (pts b (ZN h s)))) hw);exact Sat.cons (λ _ h5=>Sat.flightC hE h5) (hw.take (Own t 9 ((Zd1 f.rows f.grps h.seats).map Value.string)))
def Zjg (f:PF):List Int:=(List.range f.lims.length).map λ (k:Nat)=>(ZbJ f.lims f.sold k).1
def ZbZ (f:PF) (j:Nat):List Int:=(List.range f.lims.length).map λ (k:Nat)=>if k<j then (ZbJ f.lims f.sold k).1 else 0
theorem Zng (f:PF) {j:Nat} (h:j<f.lims.length):(ZbZ f j).set j (ZbJ f.lims f.sold j).1=ZbZ f (j + 1):=by
 apply List.ext_getElem
 ·simp [ZbZ]
 ·intro i h1 h2
  simp only [ZbZ,List.length_set,List.length_map,List.length_range] at h1 h2;rw [List.getElem_set];simp only [ZbZ,List.getElem_map,List.getElem_range];split
  ·rename_i h3;subst h3;rw [if_pos (by omega)]
  ·by_cases h4:i<j
   ·rw [if_pos h4,if_pos (by omega)]
   ·rw [if_neg h4,if_neg (by omega)]
theorem ZpZ {p:Nat} {f:PF} (hl:f.lims.length<=1000) (hs:f.sold.length<=1000) (hw:Sat R (ZJ p f::Hs) w):
  Zm prog 55 #[nP p] w λ v w'=>∃ t:Sl,v=.slice t.a t.len t.cap/\Sat R (Own t 3 (Ze (Zjg f))::ZJ p f::Hs) w':=by
 obtain ⟨hm,om,sg,sl,ss,E,R',hE,_,_,rl,rs,hw,back⟩:=Sat.flightO hw;have hsl:sl.len=f.lims.length:=by have:=rl.len;rw [List.length_map] at this;exact this
 apply ZBm;refine Zc.mk rfl ⟨sl,oA hw,?_⟩;rw [hsl];refine Zet hl hw λ t w hw=>?_;have e0:List.replicate f.lims.length (0:Int)=ZbZ f 0:=by
  apply List.ext_getElem
  ·simp [ZbZ]
  ·intro i h1 h2;simp [ZbZ]
 rw [e0] at hw;refine ⟨λ i w=>∃ j:Nat,i=j/\j<=f.lims.length/\Sat R' (Own t 3 (Ze (ZbZ f j))::FO p hm om sg sl ss E f Hs) w,λ i _=>f.lims.length - i.toNat,⟨0,rfl,by omega,hw⟩,?_⟩;clear hw;rintro _ _ w ⟨j,rfl,hj,hw⟩;have htl:=Own.len hw;simp only [ZbZ,List.length_map,List.length_range] at htl;refine Br.d (λ h=>?_) (λ h=>?_)
 ·have hj2:j<f.lims.length:=by omega
  refine Zo hw λ w hw=>?_;refine Zc.mk rfl ⟨sl,oS,Zc.mk rfl ⟨ss,oS,?_⟩⟩;refine (ZhZ (rl.ro) (rs.ro) hw).u λ w hw=>?_;refine ⟨_,_,rfl,?_⟩;refine Own.store (by kernel_rfl) hw (by simp [ZbZ];exact hj2) λ w hw=>?_;rw [Zng f hj2] at hw;rw [Zf];exact ⟨⟨j + 1,by omega,by omega,hw⟩,by dsimp only;omega⟩
 ·obtain rfl:j=f.lims.length:=by omega
  have e1:ZbZ f f.lims.length=Zjg f:=by
   unfold ZbZ Zjg;refine List.map_congr_left λ k hk=>?_;rw [if_pos (List.mem_range.1 hk)]
  rw [e1] at hw;refine ⟨t,rfl,?_⟩;have hw:=back _ _ hw;exact Sat.cons (λ _ h5=>Sat.flightC hE h5) (hw.take (Own t 3 (Ze (Zjg f))))
def Zcr (l:List Int) (own:List (Int × Int)):List (Int × Int):=l.foldl (λ o n=>Zfy n o) own
def Zkt (f:PF) (owner:Int):PF × Int:=
 match ZO owner f.hs with
 |none=>(f,2)
 |some h=>({ f with own:=Zcr h.seats f.own,sold:=(Zgh f.lims f.sold h.cls h.many).1,hs:=Zfy owner f.hs },0)
theorem Zp5 {p:Nat} {f:PF} {owner:Int} (hll:f.lims.length<=1000) (hls:f.sold.length<=1000) (hR:∀ e∈f.hs,e.2.seats.length<=1000000) (hw:Sat R (ZJ p f::Hs) w):
  Zm prog 104 #[nP p,nI owner] w λ v w'=>v=nI (Zkt f owner).2/\Sat R (ZJ p (Zkt f owner).1::Hs) w':=by
 obtain ⟨hm,om,sg,sl,ss,E,R',hE,_,_,rl,rs,hw,back⟩:=Sat.flightO hw;apply ZzQ;refine Zc.mk rfl ⟨some hm,oA hw,(ZO owner E).map (λ x=>⟨x.1,0,none⟩),(ZO owner E).isSome,λ w' e=>by rw [show w'=w from e];exact Zdz (hw.take (MapAt hm (Z3 E))) owner true,?_⟩
 cases hget:ZO owner E with
 |none=>
  have e:Zkt f owner=(f,2):=by unfold Zkt;rw [<-hE,Zb0,hget];rfl
  rw [e];exact Br.t rfl ⟨rfl,Sat.flightC hE (back _ _ hw)⟩
 |some x=>
  obtain ⟨b,h⟩:=x;have hgf:ZO owner f.hs=some h:=by rw [<-hE,Zb0,hget];rfl
  have e:Zkt f owner=({ f with own:=Zcr h.seats f.own,sold:=(Zgh f.lims f.sold h.cls h.many).1,hs:=Zfy owner f.hs },0):=by unfold Zkt;rw [hgf]
  rw [e];obtain ⟨a,c,rfl,hna⟩:=ZaG hget;have hl:h.seats.length<=1000000:=hR (owner,h) (by rw [<-hE,ZdR];simp);refine Br.f rfl (Zc.mk rfl ?_);obtain ⟨s,hw⟩:=FO.open hw;have hsl:=Own.len (hw.take (Own s 3 (Ze h.seats)));rw [List.length_map] at hsl;refine ⟨s,oA hw,?_⟩;refine ⟨λ i w=>∃ j:Nat,i=j/\j<=h.seats.length/\Sat R' (FO1 p hm om b sg sl ss s (a++(owner,b,h)::c) (a++c) f h (Zcr (h.seats.take j) f.own) Hs) w,λ i _=>h.seats.length - i.toNat,⟨0,rfl,by omega,hw⟩,?_⟩;clear hw;rintro _ _ w ⟨j,rfl,hj,hw⟩;refine Br.d (λ h2=>?_) (λ h2=>?_)
  ·have hj2:j<h.seats.length:=by omega
   refine Own.ix (hw.take (Own s 3 (Ze h.seats))) (eqS (hw.take (Own s 3 (Ze h.seats)))) j rfl hj2 ?_;refine Zc.mk rfl ⟨some om,oA hw,?_⟩;refine MapAt.del ZC1 (hw.take (MapAt om (ZbI (Zcr (h.seats.take j) f.own)))) h.seats[j] λ w hw=>?_;rw [ZoP (Value.int .i64) h.seats[j] (Zcr (h.seats.take j) f.own)] at hw;have ed:Zfy h.seats[j] (Zcr (h.seats.take j) f.own)=Zcr (h.seats.take (j + 1)) f.own:=by
    unfold Zcr;rw [List.take_add_one,List.getElem?_eq_getElem hj2,Option.toList_some,List.foldl_append];rfl
   rw [ed] at hw;rw [Zf];refine ⟨⟨j + 1,by omega,by omega,?_⟩,by dsimp only;omega⟩;exact ((((hw.take (MapAt hm (Z3 (a++(owner,b,h)::c)))).take (pts p (Zap f sg sl ss hm om))).take (Z2 (a++c))).take (Own s 3 (Ze h.seats))).take (pts b (ZN h s))
  ·rw [List.take_of_length_le (by omega)] at hw
   refine Zo hw λ w hw=>?_;refine Zc.mk rfl ⟨sl,oS,Zc.mk rfl ⟨ss,oS,Zc.mk rfl ⟨h.cls,oS,Zc.mk rfl ⟨h.many,oS,?_⟩⟩⟩⟩;refine (ZtR (rl.ro) (rs.ro) hw).u1 λ t w hw=>?_;refine ⟨_,_,rfl,Zc.mk rfl ?_⟩;refine sRu hw λ w hw=>?_;have hw:Sat R' (pts p (Zap f sg sl t hm om)::Own t 3 (Ze (Zgh f.lims f.sold h.cls h.many).1)::pts b (ZN h s)::Own s 3 (Ze h.seats)::Z2 (a++c)::MapAt hm (Z3 (a++(owner,b,h)::c))::MapAt om (ZbI (Zcr h.seats f.own))::Hs) w:=hw;refine Zc.mk rfl ⟨some hm,oA hw,?_⟩;refine MapAt.del ZC7 (hw.take (MapAt hm (Z3 (a++(owner,b,h)::c)))) owner λ w hw=>⟨rfl,?_⟩;have ep:Zfy owner (Z3 (a++(owner,b,h)::c))=Z3 (a++c):=by
    rw [show Z3 (a++(owner,b,h)::c)=Z3 a++(owner,Value.pointer (some ⟨b,0,none⟩))::Z3 c by simp [Z3],ZeO (by rw [Zh7,hna];rfl) (Zgz owner)];simp [Z3]
   rw [ep] at hw;have hw:=(hw.take (pts b (ZN h s))).drop;have hw:=(hw.take (Own s 3 (Ze h.seats))).drop;have hw:=hw.take (Own t 3 (Ze (Zgh f.lims f.sold h.cls h.many).1));have hw:=back _ _ (Own.reads hw);have hw:=(hw.take (Zz ss (Ze f.sold))).drop;refine Sat.flight.2 ⟨hm,om,sg,sl,t,a++c,?_,?_⟩
   ·show _=Zfy owner f.hs
    rw [<-hE,ZdR,ZeO (by rw [Zb0,hna];rfl) (Zgz owner)];simp [hEr]
   ·exact (((((hw.take (Z2 (a++c))).take (MapAt om (ZbI (Zcr h.seats f.own)))).take (MapAt hm (Z3 (a++c)))).take (pts p (Zap f sg sl t hm om))).take (Zz t (Ze (Zgh f.lims f.sold h.cls h.many).1))).take (Zz sl (Ze f.lims))|>.take (Zz sg (Ze f.grps))
end
end Go.Proofs.YtlplemdmegpoeaaGreatDoor
namespace Go.Proofs
section
open Go.Shelf
def Tryz.sorted61_ren:Go.Shelf.Ren:=⟨λ|6=>61|8=>129|9=>130|11=>206|13=>208|12=>207|23=>270|24=>205|14=>261|15=>262|16=>263|17=>264|18=>265|19=>266|20=>267|21=>268|22=>269|25=>286|26=>287|27=>288|28=>289|29=>290|30=>278|31=>297|n=>n,λ|26=>3|28=>116|24=>30|0=>0|3=>3|37=>264|48=>306|50=>141|4=>4|40=>299|39=>298|45=>230|5=>5|9=>9|51=>313|55=>317|57=>321|58=>293|33=>159|n=>n,λ|n=>n⟩
theorem Tryz.sorted61:Go.Proofs.SlLaysZI.n6 Tryz.prog Tryz.sorted61_ren:={
  mixed:=by kernel_rfl
  f6:=⟨Tryz.f61.name,by decide,Tryz.func61.trans (congrArg some (by kernel_rfl))⟩
  f8:=⟨Tryz.f129.name,by decide,Tryz.func129.trans (congrArg some (by kernel_rfl))⟩
  f11:=⟨Tryz.f206.name,by decide,Tryz.func206.trans (congrArg some (by kernel_rfl))⟩
  t0:=Tryz.underlying0
  a0:=Tryz.isAgg0
  z0:=Tryz.sizeOf0
  v0:=Tryz.zeroValue0
  t24:=Tryz.underlying30
  a24:=Tryz.isAgg30
  z24:=Tryz.sizeOf30
  v24:=Tryz.zeroValue30
  t26:=Tryz.underlying3
  a26:=Tryz.isAgg3
  z26:=Tryz.sizeOf3
  v26:=Tryz.zeroValue3
  t28:=Tryz.underlying116
  a28:=Tryz.isAgg116
  z28:=Tryz.sizeOf116
  v28:=Tryz.zeroValue116
  i26:=by kernel_rfl }
def Tryz.sort130_ren:Go.Shelf.Ren:=⟨λ|5=>130|8=>208|7=>207|19=>270|20=>205|10=>261|11=>262|12=>263|13=>264|14=>265|15=>266|16=>267|17=>268|18=>269|30=>286|31=>287|32=>288|33=>289|34=>290|35=>278|40=>297|n=>n,λ|23=>30|25=>3|3=>3|32=>264|22=>30|0=>0|44=>306|46=>141|4=>4|36=>299|35=>298|41=>230|5=>5|9=>9|53=>313|57=>317|63=>321|64=>293|n=>n,λ|n=>n⟩
theorem Tryz.sort130:Go.Proofs.SlLaysM.n5 Tryz.prog Tryz.sort130_ren:={
  mixed:=by kernel_rfl
  f5:=⟨Tryz.f130.name,by decide,Tryz.func130.trans (congrArg some (by kernel_rfl))⟩
  f7:=⟨Tryz.f207.name,by decide,Tryz.func207.trans (congrArg some (by kernel_rfl))⟩
  f8:=Tryz.func208.trans (congrArg some (by kernel_rfl))
  f10:=⟨Tryz.f261.name,by decide,Tryz.func261.trans (congrArg some (by kernel_rfl))⟩
  f11:=⟨Tryz.f262.name,by decide,Tryz.func262.trans (congrArg some (by kernel_rfl))⟩
  f12:=⟨Tryz.f263.name,by decide,Tryz.func263.trans (congrArg some (by kernel_rfl))⟩
  f13:=⟨Tryz.f264.name,by decide,Tryz.func264.trans (congrArg some (by kernel_rfl))⟩
  f14:=⟨Tryz.f265.name,by decide,Tryz.func265.trans (congrArg some (by kernel_rfl))⟩
  f15:=⟨Tryz.f266.name,by decide,Tryz.func266.trans (congrArg some (by kernel_rfl))⟩
  f16:=⟨Tryz.f267.name,by decide,Tryz.func267.trans (congrArg some (by kernel_rfl))⟩
  f17:=⟨Tryz.f268.name,by decide,Tryz.func268.trans (congrArg some (by kernel_rfl))⟩
  f18:=⟨Tryz.f269.name,by decide,Tryz.func269.trans (congrArg some (by kernel_rfl))⟩
  f19:=Tryz.func270.trans (congrArg some (by kernel_rfl))
  f20:=Tryz.func205.trans (congrArg some (by kernel_rfl))
  f30:=⟨Tryz.f286.name,by decide,Tryz.func286.trans (congrArg some (by kernel_rfl))⟩
  f31:=Tryz.func287.trans (congrArg some (by kernel_rfl))
  f32:=Tryz.func288.trans (congrArg some (by kernel_rfl))
  f33:=⟨Tryz.f289.name,by decide,Tryz.func289.trans (congrArg some (by kernel_rfl))⟩
  f34:=⟨Tryz.f290.name,by decide,Tryz.func290.trans (congrArg some (by kernel_rfl))⟩
  f35:=⟨Tryz.f278.name,by decide,Tryz.func278.trans (congrArg some (by kernel_rfl))⟩
  f40:=⟨Tryz.f297.name,by decide,Tryz.func297.trans (congrArg some (by kernel_rfl))⟩
  t0:=Tryz.underlying0
  a0:=Tryz.isAgg0
  z0:=Tryz.sizeOf0
  v0:=Tryz.zeroValue0
  t3:=Tryz.underlying3
  a3:=Tryz.isAgg3
  z3:=Tryz.sizeOf3
  v3:=Tryz.zeroValue3
  t4:=Tryz.underlying4
  a4:=Tryz.isAgg4
  z4:=Tryz.sizeOf4
  v4:=Tryz.zeroValue4
  t5:=Tryz.underlying5
  a5:=Tryz.isAgg5
  z5:=Tryz.sizeOf5
  v5:=Tryz.zeroValue5
  t9:=Tryz.underlying9
  a9:=Tryz.isAgg9
  z9:=Tryz.sizeOf9
  v9:=Tryz.zeroValue9
  t22:=Tryz.underlying30
  a22:=Tryz.isAgg30
  z22:=Tryz.sizeOf30
  v22:=Tryz.zeroValue30
  t23:=Tryz.underlying30
  a23:=Tryz.isAgg30
  z23:=Tryz.sizeOf30
  v23:=Tryz.zeroValue30
  t25:=Tryz.underlying3
  a25:=Tryz.isAgg3
  z25:=Tryz.sizeOf3
  v25:=Tryz.zeroValue3
  t32:=Tryz.underlying264
  a32:=Tryz.isAgg264
  z32:=Tryz.sizeOf264
  v32:=Tryz.zeroValue264
  t35:=Tryz.underlying298
  a35:=Tryz.isAgg298
  z35:=Tryz.sizeOf298
  v35:=Tryz.zeroValue298
  t36:=Tryz.underlying299
  a36:=Tryz.isAgg299
  z36:=Tryz.sizeOf299
  v36:=Tryz.zeroValue299
  t41:=Tryz.underlying230
  a41:=Tryz.isAgg230
  z41:=Tryz.sizeOf230
  v41:=Tryz.zeroValue230
  t44:=Tryz.underlying306
  a44:=Tryz.isAgg306
  z44:=Tryz.sizeOf306
  v44:=Tryz.zeroValue306
  t46:=Tryz.underlying141
  a46:=Tryz.isAgg141
  z46:=Tryz.sizeOf141
  v46:=Tryz.zeroValue141
  t53:=Tryz.underlying313
  a53:=Tryz.isAgg313
  z53:=Tryz.sizeOf313
  v53:=Tryz.zeroValue313
  t57:=Tryz.underlying317
  a57:=Tryz.isAgg317
  z57:=Tryz.sizeOf317
  v57:=Tryz.zeroValue317
  t63:=Tryz.underlying321
  a63:=Tryz.isAgg321
  z63:=Tryz.sizeOf321
  v63:=Tryz.zeroValue321
  t64:=Tryz.underlying293
  a64:=Tryz.isAgg293
  z64:=Tryz.sizeOf293
  v64:=Tryz.zeroValue293 }
open Go.RowKit Go.Maps Go.Sort Go.Shelf in
theorem Tryz.sorts61 (m:Nat):AnyZI.SortsIn Tryz.prog Tryz.sorted61_ren Fence.wide m:=
  ⟨λ blk off cap ss W hH hblk hsz=>callsIn_wide.2 (AnyM.slices_Sort_int Tryz.sort130 blk off cap ss W hH hblk hsz),
   λ p cap W=>callsIn_wide.2 (AnyM.slices_Sort_int_none Tryz.sort130 p cap W)⟩
def Tryz.collect129_ren:Go.Shelf.Ren:=⟨λ|8=>129|11=>206|n=>n,λ|26=>3|28=>116|24=>30|0=>0|33=>159|4=>4|n=>n,λ|n=>n⟩
theorem Tryz.collect129:Go.Proofs.SlLaysZI.n8 Tryz.prog Tryz.collect129_ren:={
  mixed:=by kernel_rfl
  f8:=⟨Tryz.f129.name,by decide,Tryz.func129.trans (congrArg some (by kernel_rfl))⟩
  f11:=⟨Tryz.f206.name,by decide,Tryz.func206.trans (congrArg some (by kernel_rfl))⟩
  t0:=Tryz.underlying0
  a0:=Tryz.isAgg0
  z0:=Tryz.sizeOf0
  v0:=Tryz.zeroValue0
  t24:=Tryz.underlying30
  a24:=Tryz.isAgg30
  z24:=Tryz.sizeOf30
  v24:=Tryz.zeroValue30
  t26:=Tryz.underlying3
  a26:=Tryz.isAgg3
  z26:=Tryz.sizeOf3
  v26:=Tryz.zeroValue3
  t28:=Tryz.underlying116
  a28:=Tryz.isAgg116
  z28:=Tryz.sizeOf116
  v28:=Tryz.zeroValue116
  i26:=by kernel_rfl }
def Tryz.keys209_ren:Go.Shelf.Ren:=⟨λ|7=>209|10=>271|n=>n,λ|23=>183|26=>3|3=>227|28=>116|0=>0|27=>115|33=>159|4=>4|n=>n,λ|n=>n⟩
theorem Tryz.keys209:Go.Proofs.SlLaysZI.n7 Tryz.prog Tryz.keys209_ren:={
  mixed:=by kernel_rfl
  f7:=⟨Tryz.f209.name,by decide,Tryz.func209.trans (congrArg some (by kernel_rfl))⟩
  f10:=⟨Tryz.f271.name,by decide,Tryz.func271.trans (congrArg some (by kernel_rfl))⟩
  t0:=Tryz.underlying0
  a0:=Tryz.isAgg0
  z0:=Tryz.sizeOf0
  v0:=Tryz.zeroValue0
  t4:=Tryz.underlying4
  a4:=Tryz.isAgg4
  z4:=Tryz.sizeOf4
  v4:=Tryz.zeroValue4
  t23:=Tryz.underlying183
  a23:=Tryz.isAgg183
  z23:=Tryz.sizeOf183
  v23:=Tryz.zeroValue183
  t26:=Tryz.underlying3
  a26:=Tryz.isAgg3
  z26:=Tryz.sizeOf3
  v26:=Tryz.zeroValue3
  t27:=Tryz.underlying115
  a27:=Tryz.isAgg115
  z27:=Tryz.sizeOf115
  v27:=Tryz.zeroValue115
  t28:=Tryz.underlying116
  a28:=Tryz.isAgg116
  z28:=Tryz.sizeOf116
  v28:=Tryz.zeroValue116
  t33:=Tryz.underlying159
  a33:=Tryz.isAgg159
  z33:=Tryz.sizeOf159
  v33:=Tryz.zeroValue159 }
open Go.RowKit Go.Maps Go.Sort Go.Shelf in
theorem Tryz.maps_Keys_209 (mb:Option Nat) (W:World):CallsIn Fence.wide 5 Tryz.prog 209 #[.map mb] W λ e w'=>e=.returned (.func (.func 271) #[] #[.pointer (some ⟨W.heap.size,0,none⟩)])/\w'=W.alloc (.cells #[.map mb] 183):=
  AnyZI.keys_in Tryz.keys209 Fence.wide 5 trivial rfl mb W
open Go.RowKit Go.Maps Go.Sort Go.Shelf in
theorem Tryz.slices_Sorted_keys_61_209 {H:Type} (b nn:Nat) (D0:DataW H) (R:Value->Option (DataW H × List MemPlace)) (w : nW) (hown:w.ownsMap Tryz.prog 3 R b nn D0) (hmax:Maps.size D0<=maxLen) (hbytes:Maps.size D0 * 8<=140737488355328):
    CallsIn Fence.wide 5 Tryz.prog 61 #[.func (.func 271) #[] #[.pointer (some ⟨w.heap.size,0,none⟩)]] (w.alloc (.cells #[.map (some b)] 183)) λ e w'=>∃ (v:Value) (ss:List Int),e=.returned v/\ss.Perm (intKeys D0)/\
      w'.ownsRow (w.alloc (.cells #[.map (some b)] 183)).heap.size 3 1 v ss.length ((ss.mergeSort (λ x y=>decide (x<=y))).map encZ)/\(v=.slice none 0 0↔ss=[])/\Below (w.alloc (.cells #[.map (some b)] 183)).heap.size (w.alloc (.cells #[.map (some b)] 183)) w':=by
  have hbl:=hown.lt;have hseq:SeqGives Fence.wide 2 Tryz.prog 271 #[.pointer (some ⟨w.heap.size,0,none⟩)] encZ (λ ss=>ss.Perm (intKeys D0)) (Maps.size D0) (w.alloc (.cells #[.map (some b)] 183)):=
    AnyZI.keys_gives (ρ:=Tryz.keys209_ren) { Tryz.keys209 with } Fence.wide _ trivial rfl (by omega) w.heap.size b nn D0 _ (by simp) (by simp) (by
      obtain ⟨es,clock,hb,Ft,hs,hD⟩:=hown;exact ⟨es,clock,(Below.heap_alloc _ _ b hbl).trans hb,Ft,hs,hD⟩)
  exact AnyZI.sorted_in Tryz.sorted61 Fence.wide 5 trivial trivial trivial trivial rfl (by omega) (Tryz.sorts61 _) (enters_of Tryz.func130 (by kernel_rfl) rfl) 271 #[.pointer (some ⟨w.heap.size,0,none⟩)] trivial (enters_of Tryz.func271 (by kernel_rfl) rfl) _ _ hmax hbytes _ hseq
def Tryz.keys66_ren:Go.Shelf.Ren:=⟨λ|7=>66|10=>136|n=>n,λ|23=>78|26=>3|3=>86|28=>116|0=>0|27=>115|33=>159|4=>4|n=>n,λ|n=>n⟩
theorem Tryz.keys66:Go.Proofs.SlLaysZI.n7 Tryz.prog Tryz.keys66_ren:={
  mixed:=by kernel_rfl
  f7:=⟨Tryz.f66.name,by decide,Tryz.func66.trans (congrArg some (by kernel_rfl))⟩
  f10:=⟨Tryz.f136.name,by decide,Tryz.func136.trans (congrArg some (by kernel_rfl))⟩
  t0:=Tryz.underlying0
  a0:=Tryz.isAgg0
  z0:=Tryz.sizeOf0
  v0:=Tryz.zeroValue0
  t4:=Tryz.underlying4
  a4:=Tryz.isAgg4
  z4:=Tryz.sizeOf4
  v4:=Tryz.zeroValue4
  t23:=Tryz.underlying78
  a23:=Tryz.isAgg78
  z23:=Tryz.sizeOf78
  v23:=Tryz.zeroValue78
  t26:=Tryz.underlying3
  a26:=Tryz.isAgg3
  z26:=Tryz.sizeOf3
  v26:=Tryz.zeroValue3
  t27:=Tryz.underlying115
  a27:=Tryz.isAgg115
  z27:=Tryz.sizeOf115
  v27:=Tryz.zeroValue115
  t28:=Tryz.underlying116
  a28:=Tryz.isAgg116
  z28:=Tryz.sizeOf116
  v28:=Tryz.zeroValue116
  t33:=Tryz.underlying159
  a33:=Tryz.isAgg159
  z33:=Tryz.sizeOf159
  v33:=Tryz.zeroValue159 }
open Go.RowKit Go.Maps Go.Sort Go.Shelf in
theorem Tryz.maps_Keys_66 (mb:Option Nat) (W:World):CallsIn Fence.wide 5 Tryz.prog 66 #[.map mb] W λ e w'=>e=.returned (.func (.func 136) #[] #[.pointer (some ⟨W.heap.size,0,none⟩)])/\w'=W.alloc (.cells #[.map mb] 78):=
  AnyZI.keys_in Tryz.keys66 Fence.wide 5 trivial rfl mb W
open Go.RowKit Go.Maps Go.Sort Go.Shelf in
theorem Tryz.slices_Sorted_keys_61_66 {H:Type} (b nn:Nat) (D0:DataW H) (R:Value->Option (DataW H × List MemPlace)) (w : nW) (hown:w.ownsMap Tryz.prog 3 R b nn D0) (hmax:Maps.size D0<=maxLen) (hbytes:Maps.size D0 * 8<=140737488355328):
    CallsIn Fence.wide 5 Tryz.prog 61 #[.func (.func 136) #[] #[.pointer (some ⟨w.heap.size,0,none⟩)]] (w.alloc (.cells #[.map (some b)] 78)) λ e w'=>∃ (v:Value) (ss:List Int),e=.returned v/\ss.Perm (intKeys D0)/\
      w'.ownsRow (w.alloc (.cells #[.map (some b)] 78)).heap.size 3 1 v ss.length ((ss.mergeSort (λ x y=>decide (x<=y))).map encZ)/\(v=.slice none 0 0↔ss=[])/\Below (w.alloc (.cells #[.map (some b)] 78)).heap.size (w.alloc (.cells #[.map (some b)] 78)) w':=by
  have hbl:=hown.lt;have hseq:SeqGives Fence.wide 2 Tryz.prog 136 #[.pointer (some ⟨w.heap.size,0,none⟩)] encZ (λ ss=>ss.Perm (intKeys D0)) (Maps.size D0) (w.alloc (.cells #[.map (some b)] 78)):=
    AnyZI.keys_gives (ρ:=Tryz.keys66_ren) { Tryz.keys66 with } Fence.wide _ trivial rfl (by omega) w.heap.size b nn D0 _ (by simp) (by simp) (by
      obtain ⟨es,clock,hb,Ft,hs,hD⟩:=hown;exact ⟨es,clock,(Below.heap_alloc _ _ b hbl).trans hb,Ft,hs,hD⟩)
  exact AnyZI.sorted_in Tryz.sorted61 Fence.wide 5 trivial trivial trivial trivial rfl (by omega) (Tryz.sorts61 _) (enters_of Tryz.func130 (by kernel_rfl) rfl) 136 #[.pointer (some ⟨w.heap.size,0,none⟩)] trivial (enters_of Tryz.func136 (by kernel_rfl) rfl) _ _ hmax hbytes _ hseq
def Tryz.keys82_ren:Go.Shelf.Ren:=⟨λ|7=>82|10=>147|n=>n,λ|23=>126|26=>3|3=>131|28=>116|0=>0|27=>115|33=>159|4=>4|n=>n,λ|n=>n⟩
theorem Tryz.keys82:Go.Proofs.SlLaysZI.n7 Tryz.prog Tryz.keys82_ren:={
  mixed:=by kernel_rfl
  f7:=⟨Tryz.f82.name,by decide,Tryz.func82.trans (congrArg some (by kernel_rfl))⟩
  f10:=⟨Tryz.f147.name,by decide,Tryz.func147.trans (congrArg some (by kernel_rfl))⟩
  t0:=Tryz.underlying0
  a0:=Tryz.isAgg0
  z0:=Tryz.sizeOf0
  v0:=Tryz.zeroValue0
  t4:=Tryz.underlying4
  a4:=Tryz.isAgg4
  z4:=Tryz.sizeOf4
  v4:=Tryz.zeroValue4
  t23:=Tryz.underlying126
  a23:=Tryz.isAgg126
  z23:=Tryz.sizeOf126
  v23:=Tryz.zeroValue126
  t26:=Tryz.underlying3
  a26:=Tryz.isAgg3
  z26:=Tryz.sizeOf3
  v26:=Tryz.zeroValue3
  t27:=Tryz.underlying115
  a27:=Tryz.isAgg115
  z27:=Tryz.sizeOf115
  v27:=Tryz.zeroValue115
  t28:=Tryz.underlying116
  a28:=Tryz.isAgg116
  z28:=Tryz.sizeOf116
  v28:=Tryz.zeroValue116
  t33:=Tryz.underlying159
  a33:=Tryz.isAgg159
  z33:=Tryz.sizeOf159
  v33:=Tryz.zeroValue159 }
open Go.RowKit Go.Maps Go.Sort Go.Shelf in
theorem Tryz.maps_Keys_82 (mb:Option Nat) (W:World):CallsIn Fence.wide 5 Tryz.prog 82 #[.map mb] W λ e w'=>e=.returned (.func (.func 147) #[] #[.pointer (some ⟨W.heap.size,0,none⟩)])/\w'=W.alloc (.cells #[.map mb] 126):=
  AnyZI.keys_in Tryz.keys82 Fence.wide 5 trivial rfl mb W
open Go.RowKit Go.Maps Go.Sort Go.Shelf in
theorem Tryz.slices_Sorted_keys_61_82 {H:Type} (b nn:Nat) (D0:DataW H) (R:Value->Option (DataW H × List MemPlace)) (w : nW) (hown:w.ownsMap Tryz.prog 3 R b nn D0) (hmax:Maps.size D0<=maxLen) (hbytes:Maps.size D0 * 8<=140737488355328):
    CallsIn Fence.wide 5 Tryz.prog 61 #[.func (.func 147) #[] #[.pointer (some ⟨w.heap.size,0,none⟩)]] (w.alloc (.cells #[.map (some b)] 126)) λ e w'=>∃ (v:Value) (ss:List Int),e=.returned v/\ss.Perm (intKeys D0)/\
      w'.ownsRow (w.alloc (.cells #[.map (some b)] 126)).heap.size 3 1 v ss.length ((ss.mergeSort (λ x y=>decide (x<=y))).map encZ)/\(v=.slice none 0 0↔ss=[])/\Below (w.alloc (.cells #[.map (some b)] 126)).heap.size (w.alloc (.cells #[.map (some b)] 126)) w':=by
  have hbl:=hown.lt;have hseq:SeqGives Fence.wide 2 Tryz.prog 147 #[.pointer (some ⟨w.heap.size,0,none⟩)] encZ (λ ss=>ss.Perm (intKeys D0)) (Maps.size D0) (w.alloc (.cells #[.map (some b)] 126)):=
    AnyZI.keys_gives (ρ:=Tryz.keys82_ren) { Tryz.keys82 with } Fence.wide _ trivial rfl (by omega) w.heap.size b nn D0 _ (by simp) (by simp) (by
      obtain ⟨es,clock,hb,Ft,hs,hD⟩:=hown;exact ⟨es,clock,(Below.heap_alloc _ _ b hbl).trans hb,Ft,hs,hD⟩)
  exact AnyZI.sorted_in Tryz.sorted61 Fence.wide 5 trivial trivial trivial trivial rfl (by omega) (Tryz.sorts61 _) (enters_of Tryz.func130 (by kernel_rfl) rfl) 147 #[.pointer (some ⟨w.heap.size,0,none⟩)] trivial (enters_of Tryz.func147 (by kernel_rfl) rfl) _ _ hmax hbytes _ hseq
def Tryz.keys180_ren:Go.Shelf.Ren:=⟨λ|7=>180|10=>252|n=>n,λ|23=>184|26=>3|3=>3|28=>116|0=>0|27=>115|33=>159|4=>4|n=>n,λ|n=>n⟩
theorem Tryz.keys180:Go.Proofs.SlLaysZI.n7 Tryz.prog Tryz.keys180_ren:={
  mixed:=by kernel_rfl
  f7:=⟨Tryz.f180.name,by decide,Tryz.func180.trans (congrArg some (by kernel_rfl))⟩
  f10:=⟨Tryz.f252.name,by decide,Tryz.func252.trans (congrArg some (by kernel_rfl))⟩
  t0:=Tryz.underlying0
  a0:=Tryz.isAgg0
  z0:=Tryz.sizeOf0
  v0:=Tryz.zeroValue0
  t4:=Tryz.underlying4
  a4:=Tryz.isAgg4
  z4:=Tryz.sizeOf4
  v4:=Tryz.zeroValue4
  t23:=Tryz.underlying184
  a23:=Tryz.isAgg184
  z23:=Tryz.sizeOf184
  v23:=Tryz.zeroValue184
  t26:=Tryz.underlying3
  a26:=Tryz.isAgg3
  z26:=Tryz.sizeOf3
  v26:=Tryz.zeroValue3
  t27:=Tryz.underlying115
  a27:=Tryz.isAgg115
  z27:=Tryz.sizeOf115
  v27:=Tryz.zeroValue115
  t28:=Tryz.underlying116
  a28:=Tryz.isAgg116
  z28:=Tryz.sizeOf116
  v28:=Tryz.zeroValue116
  t33:=Tryz.underlying159
  a33:=Tryz.isAgg159
  z33:=Tryz.sizeOf159
  v33:=Tryz.zeroValue159 }
open Go.RowKit Go.Maps Go.Sort Go.Shelf in
theorem Tryz.maps_Keys_180 (mb:Option Nat) (W:World):CallsIn Fence.wide 5 Tryz.prog 180 #[.map mb] W λ e w'=>e=.returned (.func (.func 252) #[] #[.pointer (some ⟨W.heap.size,0,none⟩)])/\w'=W.alloc (.cells #[.map mb] 184):=
  AnyZI.keys_in Tryz.keys180 Fence.wide 5 trivial rfl mb W
open Go.RowKit Go.Maps Go.Sort Go.Shelf in
theorem Tryz.slices_Collect_keys_129_180 {H:Type} (b nn:Nat) (D0:DataW H) (R:Value->Option (DataW H × List MemPlace)) (w : nW) (hown:w.ownsMap Tryz.prog 3 R b nn D0) (hmax:Maps.size D0<=maxLen) (hbytes:Maps.size D0 * 8<=140737488355328):
    CallsIn Fence.wide 4 Tryz.prog 129 #[.func (.func 252) #[] #[.pointer (some ⟨w.heap.size,0,none⟩)]] (w.alloc (.cells #[.map (some b)] 184)) λ e w'=>∃ (v:Value) (ss:List Int),e=.returned v/\ss.Perm (intKeys D0)/\
      w'.ownsRow (w.alloc (.cells #[.map (some b)] 184)).heap.size 3 1 v ss.length (ss.map encZ)/\(v=.slice none 0 0↔ss=[])/\Below (w.alloc (.cells #[.map (some b)] 184)).heap.size (w.alloc (.cells #[.map (some b)] 184)) w':=by
  have hbl:=hown.lt;have hseq:SeqGives Fence.wide 2 Tryz.prog 252 #[.pointer (some ⟨w.heap.size,0,none⟩)] encZ (λ ss=>ss.Perm (intKeys D0)) (Maps.size D0) (w.alloc (.cells #[.map (some b)] 184)):=
    AnyZI.keys_gives (ρ:=Tryz.keys180_ren) { Tryz.keys180 with } Fence.wide _ trivial rfl (by omega) w.heap.size b nn D0 _ (by simp) (by simp) (by
      obtain ⟨es,clock,hb,Ft,hs,hD⟩:=hown;exact ⟨es,clock,(Below.heap_alloc _ _ b hbl).trans hb,Ft,hs,hD⟩)
  exact AnyZI.collect_in Tryz.collect129 Fence.wide 4 trivial trivial rfl (by omega) 252 #[.pointer (some ⟨w.heap.size,0,none⟩)] trivial (enters_of Tryz.func252 (by kernel_rfl) rfl) _ _ hmax hbytes _ hseq
def Tryz.keys62_ren:Go.Shelf.Ren:=⟨λ|7=>62|10=>131|n=>n,λ|23=>77|26=>3|3=>97|28=>116|0=>0|27=>115|33=>159|4=>4|n=>n,λ|n=>n⟩
theorem Tryz.keys62:Go.Proofs.SlLaysZI.n7 Tryz.prog Tryz.keys62_ren:={
  mixed:=by kernel_rfl
  f7:=⟨Tryz.f62.name,by decide,Tryz.func62.trans (congrArg some (by kernel_rfl))⟩
  f10:=⟨Tryz.f131.name,by decide,Tryz.func131.trans (congrArg some (by kernel_rfl))⟩
  t0:=Tryz.underlying0
  a0:=Tryz.isAgg0
  z0:=Tryz.sizeOf0
  v0:=Tryz.zeroValue0
  t4:=Tryz.underlying4
  a4:=Tryz.isAgg4
  z4:=Tryz.sizeOf4
  v4:=Tryz.zeroValue4
  t23:=Tryz.underlying77
  a23:=Tryz.isAgg77
  z23:=Tryz.sizeOf77
  v23:=Tryz.zeroValue77
  t26:=Tryz.underlying3
  a26:=Tryz.isAgg3
  z26:=Tryz.sizeOf3
  v26:=Tryz.zeroValue3
  t27:=Tryz.underlying115
  a27:=Tryz.isAgg115
  z27:=Tryz.sizeOf115
  v27:=Tryz.zeroValue115
  t28:=Tryz.underlying116
  a28:=Tryz.isAgg116
  z28:=Tryz.sizeOf116
  v28:=Tryz.zeroValue116
  t33:=Tryz.underlying159
  a33:=Tryz.isAgg159
  z33:=Tryz.sizeOf159
  v33:=Tryz.zeroValue159 }
open Go.RowKit Go.Maps Go.Sort Go.Shelf in
theorem Tryz.maps_Keys_62 (mb:Option Nat) (W:World):CallsIn Fence.wide 5 Tryz.prog 62 #[.map mb] W λ e w'=>e=.returned (.func (.func 131) #[] #[.pointer (some ⟨W.heap.size,0,none⟩)])/\w'=W.alloc (.cells #[.map mb] 77):=
  AnyZI.keys_in Tryz.keys62 Fence.wide 5 trivial rfl mb W
open Go.RowKit Go.Maps Go.Sort Go.Shelf in
theorem Tryz.slices_Sorted_keys_61_62 {H:Type} (b nn:Nat) (D0:DataW H) (R:Value->Option (DataW H × List MemPlace)) (w : nW) (hown:w.ownsMap Tryz.prog 3 R b nn D0) (hmax:Maps.size D0<=maxLen) (hbytes:Maps.size D0 * 8<=140737488355328):
    CallsIn Fence.wide 5 Tryz.prog 61 #[.func (.func 131) #[] #[.pointer (some ⟨w.heap.size,0,none⟩)]] (w.alloc (.cells #[.map (some b)] 77)) λ e w'=>∃ (v:Value) (ss:List Int),e=.returned v/\ss.Perm (intKeys D0)/\
      w'.ownsRow (w.alloc (.cells #[.map (some b)] 77)).heap.size 3 1 v ss.length ((ss.mergeSort (λ x y=>decide (x<=y))).map encZ)/\(v=.slice none 0 0↔ss=[])/\Below (w.alloc (.cells #[.map (some b)] 77)).heap.size (w.alloc (.cells #[.map (some b)] 77)) w':=by
  have hbl:=hown.lt;have hseq:SeqGives Fence.wide 2 Tryz.prog 131 #[.pointer (some ⟨w.heap.size,0,none⟩)] encZ (λ ss=>ss.Perm (intKeys D0)) (Maps.size D0) (w.alloc (.cells #[.map (some b)] 77)):=
    AnyZI.keys_gives (ρ:=Tryz.keys62_ren) { Tryz.keys62 with } Fence.wide _ trivial rfl (by omega) w.heap.size b nn D0 _ (by simp) (by simp) (by
      obtain ⟨es,clock,hb,Ft,hs,hD⟩:=hown;exact ⟨es,clock,(Below.heap_alloc _ _ b hbl).trans hb,Ft,hs,hD⟩)
  exact AnyZI.sorted_in Tryz.sorted61 Fence.wide 5 trivial trivial trivial trivial rfl (by omega) (Tryz.sorts61 _) (enters_of Tryz.func130 (by kernel_rfl) rfl) 131 #[.pointer (some ⟨w.heap.size,0,none⟩)] trivial (enters_of Tryz.func131 (by kernel_rfl) rfl) _ _ hmax hbytes _ hseq
end
end Go.Proofs
namespace Go.Proofs.YtlplemdmegpoeaaGreatDoor
section
open Go Go.VC Tryz
variable {R:Cx} {Hs Rest:List HP} {w:World}
theorem Zl6 {m c:Nat} {l:List (En Int)} {es:List (Int × Value)} (hs:ZbT l=es) (hst:Zb8 l c) (hu:(es.map (·.1)).Nodup) (hn:∀ k∈es.map (·.1),-4611686018427387904<=k/\k<=4611686018427387904) (hlen:es.length<=1000000)
  (hm:w.heap[m]? =some (.map (l.map mkE).toArray c)):
  ∃ D0:DataW Unit,w.ownsMap prog 3 (λ _=>some (.nil,[])) m 1000000 D0/\Maps.size D0<=1000000/\∀ ss:List Int,ss.Perm (intKeys D0)->ss.Perm (es.map (·.1)):=by
 have hkeys:l.map (·.1)=es.map (·.1):=by rw [<-hs];simp [ZbT,Function.comp_def]
 have hlen2:l.length=es.length:=by have:=congrArg List.length hkeys;simpa using this
 have hkey:∀ e∈l,keyOf prog 3 (mkE e).key=some (.int .i64 e.1):=λ e he=>by
  have hm:e.1∈es.map (·.1):=by rw [<-hkeys];exact List.mem_map_of_mem he
  have hsz:=hn _ hm;have hwf:(Lit.int .i64 e.1).wf=true:=by
   have h1:IntKind.i64.min=-9223372036854775808:=by decide
   have h2:IntKind.i64.max=9223372036854775807:=by decide
   simp only [Lit.wf,Bool.and_eq_true,decide_eq_true_eq];omega
  simp only [keyOf,underlying3,mkE,mapKey,Zbt.enc];rw [if_pos ⟨trivial,hwf⟩]
 have hrd:∀ e∈l,WideElems.rd prog 3 (λ _=>some ((.nil:DataW Unit),[])) (mkE e)=some (.int .i64 e.1,.nil):=λ e he=>by
  unfold WideElems.rd;rw [hkey e he];rfl
 have hrg:((l.map mkE).map (WideElems.rg prog 3 (λ _=>some ((.nil:DataW Unit),[]))))=l.map λ e=>(.int .i64 e.1,.nil):=by
  rw [List.map_map];apply List.map_congr_left;intro e he;simp only [Function.comp,WideElems.rg,hrd e he,Option.getD_some]
 refine ⟨_,⟨(l.map mkE).toArray,c,hm,⟨by simp [maxLen];omega,?_,?_⟩,by simp;omega,rfl⟩,?_,?_⟩
 ·refine ⟨λ x hx=>?_,?_,?_⟩
  ·simp only [List.mem_map] at hx
   obtain ⟨e,he,rfl⟩:=hx;exact hst.1 e he
  ·have:=hst.2;simpa [mkE,Function.comp_def] using this
  ·have h2:(l.map (·.1)).Nodup:=by rw [hkeys];exact hu
   have e1:((l.map mkE).toArray.toList.map (·.key))=(l.map (·.1)).map (Value.int .i64):=by simp [mkE,Function.comp_def,Zbt.enc]
   rw [e1];exact List.Pairwise.map _ (λ a b hab h=>hab (by injection h)) h2
 ·intro x hx
  simp only [List.mem_map] at hx;obtain ⟨e,he,rfl⟩:=hx;exact ⟨_,hrd e he⟩
 ·simp only [Maps.size,hrg]
  rw [(WideShapes.sorted_perm _).length_eq];simp;omega
 ·intro ss hss
  refine hss.trans ?_;simp only [intKeys,hrg];refine ((WideShapes.sorted_perm _).map _).trans ?_;rw [List.map_map,<-hkeys];exact List.Perm.of_eq (List.map_congr_left λ e _=>rfl)
theorem ZfY {m c:Nat} {l:List (En Int)} {es:List (Int × Value)} (hs:ZbT l=es) (hst:Zb8 l c) (hu:(es.map (·.1)).Nodup) (hn:∀ k∈es.map (·.1),-1000000000<=k/\k<=1000000000) (hlen:es.length<=1000000)
  (hm:w.heap[m]? =some (.map (l.map mkE).toArray c)):
  ∃ D0:DataW Unit,w.ownsMap prog 3 (λ _=>some (.nil,[])) m 1000000 D0/\Maps.size D0<=1000000/\∀ ss:List Int,ss.Perm (intKeys D0)->ss.Perm (es.map (·.1)):=Zl6 hs hst hu (λ k hk=>by have:=hn k hk;omega) hlen hm
def Zg3 (l:List Int):List Int:=l.mergeSort λ x y=>decide (x<=y)
theorem Zds {a b:List Int} (h:a.Perm b):Zg3 a=Zg3 b:=by
 have tr:∀ a b c:Int,decide (a<=b)=true->decide (b<=c)=true->decide (a<=c)=true:=λ a b c h1 h2=>by simp only [decide_eq_true_eq] at *;omega
 have to:∀ a b:Int,(decide (a<=b)||decide (b<=a))=true:=λ a b=>by simp only [Bool.or_eq_true,decide_eq_true_eq];omega
 have s1:=List.pairwise_mergeSort tr to a;have s2:=List.pairwise_mergeSort tr to b;have p:(a.mergeSort λ x y=>decide (x<=y)).Perm (b.mergeSort λ x y=>decide (x<=y)):=(List.mergeSort_perm a _).trans (h.trans (List.mergeSort_perm b _).symm);exact List.Perm.eq_of_pairwise (λ a b _ _ h1 h2=>by simp only [decide_eq_true_eq] at h1 h2;omega) s1 s2 p
theorem Zld {m:Nat} {es:List (Int × Value)} {K:Sl->World->Prop} (hu:(es.map (·.1)).Nodup) (hn:∀ k∈es.map (·.1),-1000000000<=k/\k<=1000000000) (hlen:es.length<=1000000) (hw:Sat R (MapAt m es::Hs) w)
  (k:∀ s w',Sat R (Own s 3 (Ze (Zg3 (es.map (·.1))))::MapAt m es::Hs) w'->K s w'):
  nC 209 #[.map (some m)] w λ e w1=>∃ t:Value,e=.returned t/\nC 61 #[t] w1 λ e w2=>∃ t:Sl,e=.returned (.slice t.a t.len t.cap)/\K t w2:=by
 obtain ⟨l,c,hs,hst,hp⟩:=MapAt.iff.1 hw;obtain ⟨D0,hown,hsz,hperm⟩:=ZfY hs hst hu hn hlen hp.at;refine (callsIn_wide.1 (Tryz.maps_Keys_209 (some m) w)).mono ?_;rintro _ _ ⟨rfl,rfl⟩;refine ⟨_,rfl,?_⟩;refine (callsIn_wide.1 (Tryz.slices_Sorted_keys_61_209 m _ D0 _ w hown (by unfold maxLen;omega) (by omega))).mono ?_;rintro _ w' ⟨v,ss,rfl,hS,hrow,hnil,hb⟩;have hw1:Sat R (MapAt m es::Hs) (w.alloc (.cells #[.map (some m)] 183)):=(Sat.alloc _ hw).drop;obtain ⟨s,rfl,h3⟩:=Sat.ownsRow hw1 hb hrow;refine ⟨s,rfl,k s _ ?_⟩;rw [<-Zds (hperm ss hS)];exact h3
theorem ZkK {m:Nat} {es:List (Int × Value)} {S:World->Prop} {K:Sl->World->Prop} (hu:(es.map (·.1)).Nodup) (hn:∀ k∈es.map (·.1),-1000000000<=k/\k<=1000000000) (hlen:es.length<=1000000) (hw:Sat R (MapAt m es::Hs) w)
  (hS:∀ w',Sat R (MapAt m es::Hs) w'->S w')
  (k:∀ s ks w',ks.Perm (es.map (·.1))->Sat R (Own s 3 (Ze ks)::MapAt m es::Hs) w'->K s w'):
  nC 180 #[.map (some m)] w λ e w1=>∃ t:Value,e=.returned t/\S w1/\nC 129 #[t] w1 λ e w2=>∃ t:Sl,e=.returned (.slice t.a t.len t.cap)/\S w2/\K t w2:=by
 obtain ⟨l,c,hs,hst,hp⟩:=MapAt.iff.1 hw;obtain ⟨D0,hown,hsz,hperm⟩:=ZfY hs hst hu hn hlen hp.at;refine (callsIn_wide.1 (Tryz.maps_Keys_180 (some m) w)).mono ?_;rintro _ _ ⟨rfl,rfl⟩;have hw1:Sat R (MapAt m es::Hs) (w.alloc (.cells #[.map (some m)] 184)):=(Sat.alloc _ hw).drop;refine ⟨_,rfl,hS _ hw1,?_⟩;refine (callsIn_wide.1 (Tryz.slices_Collect_keys_129_180 m _ D0 _ w hown (by unfold maxLen;omega) (by omega))).mono ?_;rintro _ w' ⟨v,ss,rfl,hS2,hrow,hnil,hb⟩;obtain ⟨s,rfl,h3⟩:=Sat.ownsRow hw1 hb hrow;exact ⟨s,rfl,hS _ h3.drop,k s ss _ (hperm ss hS2) h3⟩
theorem Zqq {n:Int} {g a b:List Int} {many:Int} (h:a.Perm b):Zar n g a many=Zar n g b many:=by
 have:Zbf a=Zbf b:=by
  funext j
  unfold Zbf;rw [decide_eq_decide];exact h.mem_iff
 unfold Zar;rw [this]
theorem Zp6 {u:Nat->Bool} {N i j:Nat} (hj:j<(Zav u N).length) (hij:i<j):(Zav u N)[i]<(Zav u N)[j]:=by
 have h1:=Zkw (List.getElem?_eq_getElem (show i<(Zav u N).length by omega));have h2:=Zkw (List.getElem?_eq_getElem hj);by_cases h:(Zav u N)[i]<(Zav u N)[j]
 ·exact h
 ·exfalso
  have h3:=ZsU (u:=u) (j:=(Zav u N)[j]) ((Zav u N)[i] - (Zav u N)[j]);rw [show (Zav u N)[j] + ((Zav u N)[i] - (Zav u N)[j])=(Zav u N)[i] by omega,h1.2.2,h2.2.2] at h3;omega
theorem ZnN (u z:Nat->Bool) (N many:Nat):(∃ k,(Ze3 u z N many).1=ZkT k many)\/(Ze3 u z N many).1=[]\/(Ze3 u z N many).1=(Zav u N).take many:=by
 unfold Ze3;split
 ·exact .inl ⟨_,rfl⟩
 ·split
  ·exact .inr (.inl rfl)
  ·exact .inr (.inr rfl)
theorem Zlu {l:List Nat} (h:∀ i j (hj:j<l.length) (hij:i<j),l[i]<l[j]):Zqz (l.map λ (j:Nat)=>(j:Int)):=λ i j hj hij=>by
 rw [List.length_map] at hj;simp only [List.getElem_map];have:=h i j hj hij;omega
theorem ZmA {n:Int} {g taken:List Int} {many:Int}:Zqz (Zar n g taken many).1:=by
 unfold Zar;split
 ·intro i j hj hij;simp at hj
 ·dsimp only
  rcases ZnN (Zbf taken) (zF g) (Za5 n g).toNat many.toNat with ⟨k,h⟩|h|h
  ·rw [h]
   exact Zlu λ i j hj hij=>by simp only [ZkT,List.getElem_map,List.getElem_range];omega
  ·rw [h];intro i j hj hij;simp at hj
  ·rw [h]
   exact Zlu λ i j hj hij=>by
    rw [List.length_take] at hj;simp only [List.getElem_take];exact Zp6 (by omega) hij
theorem ZvJ {n:Int} {g taken:List Int} {many:Int}:(Zar n g taken many).1.length<=600:=by
 have hb:=ZcS n g;unfold Zar;split
 ·simp
 rename_i hm;simp only [List.length_map];unfold Ze3;split
 ·rw [Zha];omega
 ·split
  ·simp
  ·simp only [List.length_take];omega
theorem Zkm {n:Int}:∀ {l:List Int},(∀ x∈l,x<n)->Zh3 n l=l++[n]
 |[],_=>rfl
 |x::l,h=>by
  unfold Zh3;rw [if_pos (h x List.mem_cons_self),Zkm λ y hy=>h y (List.mem_cons_of_mem _ hy)];rfl
theorem Zrv {l:List Int} (h:Zqz l) (j:Nat):Zqz (l.take j):=λ i k hk hik=>by
 rw [List.length_take] at hk;simp only [List.getElem_take];exact h i k (by omega) hik
theorem Zuy {l:List Int} (h:Zqz l) {j:Nat} (hj:j<l.length):Zh3 l[j] (l.take j)=l.take (j + 1):=by
 rw [Zkm,List.take_add_one,List.getElem?_eq_getElem hj,Option.toList_some];intro x hx;obtain ⟨i,hi,rfl⟩:=List.getElem_of_mem hx;rw [List.length_take] at hi;rw [List.getElem_take];exact h i j hj (by omega)
def Zd9 (o:Int) (l:List Int) (own:List (Int × Int)):List (Int × Int):=l.foldl (λ p n=>Ze4 n o p) own
def Zg8 (f:PF) (owner:Int):PF × List ByteArray × Int:=
 match ZO owner f.hs with
 |none=>(f,[],2)
 |some h=>if h.seats.length>0 then (f,[],7)
  else ({ f with hs:=ZgQ owner { h with seats:=(Zar f.rows f.grps (f.own.map (·.1)) h.many).1 } f.hs,own:=Zd9 h.owner (Zar f.rows f.grps (f.own.map (·.1)) h.many).1 f.own },
   Zd1 f.rows f.grps (Zar f.rows f.grps (f.own.map (·.1)) h.many).1,(Zar f.rows f.grps (f.own.map (·.1)) h.many).2)
theorem Zqr {p:Nat} {f:PF} {owner:Int} (hgl:f.grps.length<=1000) (hu:(f.own.map (·.1)).Nodup) (hk:∀ k∈f.own.map (·.1),-1000000000<=k/\k<=1000000000) (hol:f.own.length<=1000000) (hw:Sat R (ZJ p f::Hs) w):
  Zm prog 107 #[nP p,nI owner] w λ v w'=>∃ t:Sl,v=.tuple #[.slice t.a t.len t.cap,nI (Zg8 f owner).2.2]/\Sat R (Own t 9 ((Zg8 f owner).2.1.map Value.string)::ZJ p (Zg8 f owner).1::Hs) w':=by
 obtain ⟨hm,om,sg,sl,ss,E,R',hE,_,rg,_,_,hw,back⟩:=Sat.flightO hw;have rgo:RoI R' sg f.grps:=rg.ro;apply ZzN;refine Zc.mk rfl ⟨some hm,oA hw,(ZO owner E).map (λ x=>⟨x.1,0,none⟩),(ZO owner E).isSome,λ w' e=>by rw [show w'=w from e];exact Zdz (hw.take (MapAt hm (Z3 E))) owner true,?_⟩
 cases hget:ZO owner E with
 |none=>
  have e:Zg8 f owner=(f,[],2):=by unfold Zg8;rw [<-hE,Zb0,hget];rfl
  rw [e];exact Br.t rfl ⟨⟨none,0,0⟩,rfl,Own.nil (Sat.flightC hE (back _ _ hw))⟩
 |some x=>
  obtain ⟨b,h⟩:=x;have hgf:ZO owner f.hs=some h:=by rw [<-hE,Zb0,hget];rfl
  obtain ⟨a,c,rfl,hna⟩:=ZaG hget;refine Br.f rfl (Zc.mk rfl ?_);obtain ⟨s,hw⟩:=FO.open hw;have hsl:=Own.len (hw.take (Own s 3 (Ze h.seats)));rw [List.length_map] at hsl;refine ⟨s,oA hw,Br.d (λ h1=>?_) (λ h1=>?_)⟩
  ·have e:Zg8 f owner=(f,[],7):=by unfold Zg8;rw [hgf];dsimp only;rw [if_pos (by omega)]
   rw [e];exact ⟨⟨none,0,0⟩,rfl,Own.nil (Sat.flightC hE (back _ _ (FO.close hw)))⟩
  have hse:h.seats=[]:=List.length_eq_zero_iff.1 (by omega);have e:Zg8 f owner=({ f with hs:=ZgQ owner { h with seats:=(Zar f.rows f.grps (f.own.map (·.1)) h.many).1 } f.hs,own:=Zd9 h.owner (Zar f.rows f.grps (f.own.map (·.1)) h.many).1 f.own },
   Zd1 f.rows f.grps (Zar f.rows f.grps (f.own.map (·.1)) h.many).1,(Zar f.rows f.grps (f.own.map (·.1)) h.many).2):=by unfold Zg8;rw [hgf];dsimp only;rw [if_neg (by omega)]
  rw [e];refine Zo hw λ w hw=>?_;refine Zc.mk rfl ⟨f.rows,sg,oS,Zc.mk rfl ⟨some om,oS,Zc.mk rfl ⟨h.many,oS,?_⟩⟩⟩;have hown:(ZbI f.own).map (·.1)=f.own.map (·.1):=by simp [ZbI,Function.comp_def]
  refine ZkK (es:=ZbI f.own) (by rw [hown];exact hu) (by rw [hown];exact hk) (by rw [List.length_map];exact hol) (hw.take (MapAt om (ZbI f.own)))
   (λ w' h5=>((((h5.take (MapAt hm (Z3 (a++(owner,b,h)::c)))).take (pts p (Zap f sg sl ss hm om))).take (Z2 (a++c))).take (Own s 3 (Ze h.seats))).take (pts b (ZN h s))|>.perm (by
    refine List.Perm.cons _ (List.Perm.cons _ (List.Perm.cons _ (List.Perm.cons _ (List.Perm.refl _))))))
   λ tk ks w hks hw=>?_
  rw [hown] at hks;obtain ⟨R2,hro,hmono,hw2,back2⟩:=Own.lend hw (by rw [List.length_map];have:=hks.length_eq;rw [List.length_map] at this;omega);refine (ZtJ (taken:=ks) (hmono _ _ rgo) hro hw2).use ?_;clear hw hw2;rintro _ w ⟨t,rfl,hw⟩;have hw:=(back2 hw).drop;rw [Zqq hks] at hw ⊢;have hri:=ZmA (n:=f.rows) (g:=f.grps) (taken:=f.own.map (·.1)) (many:=h.many);have hln:=ZvJ (n:=f.rows) (g:=f.grps) (taken:=f.own.map (·.1)) (many:=h.many);generalize Zar f.rows f.grps (f.own.map (·.1)) h.many=r at *;refine ⟨_,_,rfl,?_,?_⟩
  ·exact ((((hw.drop.take (MapAt hm (Z3 (a++(owner,b,h)::c)))).take (pts p (Zap f sg sl ss hm om))).take (Z2 (a++c))).take (Own s 3 (Ze h.seats))).take (pts b (ZN h s))|>.perm (by
    refine List.Perm.cons _ (List.Perm.cons _ (List.Perm.cons _ (List.Perm.cons _ (List.Perm.refl _)))))
  obtain ⟨R3,e3,ht,hw,back3⟩:=Zz.out hw;have hto:RoI R3 t r.1:=ht.ro;have htl:=hto.len;have hw:Sat R3 (FO p hm om sg sl ss (a++(owner,b,h)::c) f Hs) w:=FO.close (((((hw.take (MapAt hm (Z3 (a++(owner,b,h)::c)))).take (pts p (Zap f sg sl ss hm om))).take (Z2 (a++c))).take (Own s 3 (Ze h.seats))).take (pts b (ZN h s))|>.perm (by
    refine List.Perm.cons _ (List.Perm.cons _ (List.Perm.cons _ (List.Perm.cons _ (List.Perm.refl _))))))
  refine ⟨λ i w=>∃ j:Nat,i=j/\j<=r.1.length/\Sat R3 (FO p hm om sg sl ss (a++(owner,b,{ h with seats:=r.1.take j })::c) { f with own:=Zd9 h.owner (r.1.take j) f.own } Hs) w,λ i _=>r.1.length - i.toNat,⟨0,rfl,by omega,?_⟩,?_⟩
  ·have eh:({ h with seats:=r.1.take 0 }:ZI)=h:=by rw [List.take_zero,<-hse]
   rw [eh];exact hw
  clear hw;rintro _ _ w ⟨j,rfl,hj,hw⟩;refine Br.d (λ h2=>?_) (λ h2=>?_)
  ·have hj2:j<r.1.length:=by omega
   refine Ro.ix hto (eqS hw) j rfl hj2 ?_;refine (Zk7 (h:={ h with seats:=r.1.take j }) (Zrv hri j) (by simp only [List.length_take];omega) hw).use ?_;rintro _ w ⟨rfl,hw⟩;rw [Zf];refine ⟨rfl,⟨j + 1,by omega,by omega,?_⟩,by dsimp only;omega⟩;have eh:ZI.put { h with seats:=r.1.take j } r.1[j]={ h with seats:=r.1.take (j + 1) }:=by unfold ZI.put;rw [Zuy hri hj2]
   have eo:Ze4 r.1[j] h.owner (Zd9 h.owner (r.1.take j) f.own)=Zd9 h.owner (r.1.take (j + 1)) f.own:=by
    unfold Zd9;rw [List.take_add_one,List.getElem?_eq_getElem hj2,Option.toList_some,List.foldl_append];rfl
   rw [eh] at hw;rw [<-eo];exact hw
  ·rw [List.take_of_length_le (by omega)] at hw
   refine (Zh2 (f:=f) (hm:=hm) (om:=om) (sg:=sg) (sl:=sl) (ss:=ss) (e3.ro rgo) hto (by omega) hw).use ?_;rintro _ w ⟨t2,rfl,hw⟩;refine ⟨t2,rfl,t2,rfl,?_⟩;have hw:=(back3 _ _ hw).drop;have hw:=back _ _ hw;refine Sat.cons (λ R5 h5=>?_) (hw.take (Own t2 9 ((Zd1 f.rows f.grps r.1).map Value.string)));refine Sat.flight.2 ⟨hm,om,sg,sl,ss,a++(owner,b,{ h with seats:=r.1 })::c,?_,h5⟩;show _=ZgQ owner _ f.hs;rw [<-hE,ZdR,ZdR,Zhb (by rw [Zb0,hna];rfl) (Zgz owner)]
theorem Zkl (n:Int):∀ l:List Int,(Zh3 n l).length=l.length + 1
 |[]=>rfl
 |x::l=>by
  unfold Zh3;split
  ·simp only [List.length_cons,Zkl n l]
  ·rfl
theorem ZgS {n:Nat} (hn:n<18446744073709551616) (hw:Sat R Hs w):
    Zm prog 137 #[.int .u64 n] w λ v w'=>∃ t:Sl,v=.slice t.a t.len t.cap/\Sat R (Own t 5 (b8 (Zec n))::Hs) w':=by
  apply ZzB;have h8:=Zga hn;refine ⟨λ x out w=>∃ (m:Nat) (ds:List Int),x=m/\m<=n/\dig m++ds=dig n/\Sat R (Own out 5 (b8 ds)::Hs) w,λ x _ _=>x.toNat,⟨n,[],rfl,by omega,by simp,Own.nil hw⟩,?_⟩;clear hw;rintro _ _ out w ⟨m,ds,rfl,hm,he,hw⟩;have hdl:ds.length<=8:=by rw [<-he,List.length_append] at h8;omega
  refine Br.d (λ h=>?_) (λ h=>?_)
  · have e1:IntKind.u8.wrap ((m:Int).tmod 256)=((m % 256:Nat):Int):=by
      rw [show (m:Int).tmod 256=((m % 256:Nat):Int) from (Int.ofNat_tmod m 256).symm,Zk2 (by omega) (by omega)]
    have e2:IntKind.u64.wrap ((m:Int).tdiv 256)=((m / 256:Nat):Int):=by
      rw [show (m:Int).tdiv 256=((m / 256:Nat):Int) from (Int.ofNat_tdiv m 256).symm,ZP]
    rw [e1,e2];refine Za hw λ b w hw=>?_;have hw:Sat R (Own ⟨some ⟨b,0,none⟩,1,1⟩ 5 (b8 [((m % 256:Nat):Int)])::Own out 5 (b8 ds)::Hs) w:=ZbH hw;refine Zde ZqG (s:=⟨some ⟨b,0,none⟩,1,1⟩) (n:=9) underlying47 hw (by simp;omega) (by omega) (by omega) λ s' w hw=>?_;refine ⟨⟨m / 256,[((m % 256:Nat):Int)]++ds,rfl,by omega,?_,hw.cons λ _ h=>h.drop⟩,by dsimp only;omega⟩;rw [<-List.append_assoc,<-Zdn (by omega)];exact he
  · have hm0:m=0:=by omega
    subst hm0;rw [Zbp,List.nil_append] at he;have hol:out.len=ds.length:=by have:=Own.len hw;simpa using this
    have e1:IntKind.u8.wrap (out.len:Int)=((dig n).length:Int):=by rw [Zk2 (by omega) (by omega),hol,he]
    rw [e1];refine Za hw λ b w hw=>?_;have hw:Sat R (Own ⟨some ⟨b,0,none⟩,1,1⟩ 5 (b8 [((dig n).length:Int)])::Own out 5 (b8 ds)::Hs) w:=ZbH hw;refine Zde ZqG (s:=⟨some ⟨b,0,none⟩,1,1⟩) (n:=9) underlying47 hw (by simp;omega) (by omega) (by omega) λ s' w hw=>?_;have e2:Zec n=[((dig n).length:Int)]++ds:=by rw [he];rfl
    rw [e2];exact ⟨s',rfl,hw.cons λ _ h=>h.drop⟩
abbrev Z4 (s:Sl) (n:Nat) (bad:Bool):Obj:=.cells [.slice s.a s.len s.cap,nI n,.bool bad].toArray 140 (0,0)
def ZB (r:Nat) (s:Sl) (bs:List Int) (rd:Rd):HP:=exs λ n:Nat=>Zah [pur (n<=bs.length/\bs.drop n=rd.bs),pts r (Z4 s n rd.bad)]
theorem Sat.rrd {r:Nat} {s:Sl} {bs:List Int} {rd:Rd}:Sat R (ZB r s bs rd::Hs) w↔∃ n:Nat,(n<=bs.length/\bs.drop n=rd.bs)/\Sat R (pts r (Z4 s n rd.bad)::Hs) w:=by
  unfold ZB;rw [Sat.exs];constructor
  · rintro ⟨n,h⟩
    have h:=Sat.star.1 h;have h:Sat R (pur _::pts r _::Hs) w:=h;rw [Sat.pur] at h;exact ⟨n,h⟩
  · rintro ⟨n,h⟩
    exact ⟨n,Sat.star.2 (by show Sat R (pur _::pts r _::Hs) w;rw [Sat.pur];exact h)⟩
theorem p256 {a b:Nat} (h:a<=b):(256:Int) ^ a<=256 ^ b:=by
  rw [show (256:Int)=((256:Nat):Int) from rfl,<-Int.natCast_pow,<-Int.natCast_pow]
  exact Int.ofNat_le.2 (Nat.pow_le_pow_right (by omega) h)
def Zbj (rd:Rd):Int × Bool × Int:=if rd.bad then (0,false,0) else match ZaU rd.bs with|some (n,neg,k)=>(n,neg,(k:Int))|none=>(0,false,0)
theorem ZiZ {r:Nat} {s:Sl} {bs:List Int} {n:Nat} {bad:Bool} (hl:bs.length<=1099511627776) (hb:∀ x∈bs,0<=x/\x<256) (hs:SlR R.m s (b8 bs)) (hn:n<=bs.length) (hw:Sat R (pts r (Z4 s n bad)::Hs) w):
    Zm prog 143 #[nP r] w λ v w'=>v=.tuple #[.int .u64 (Zbj ⟨bs.drop n,bad⟩).1,.bool (Zbj ⟨bs.drop n,bad⟩).2.1,nI (Zbj ⟨bs.drop n,bad⟩).2.2]/\Sat R (pts r (Z4 s n bad)::Hs) w':=by
  have hlen:s.len=bs.length:=by have:=hs.len;simpa using this
  apply Zzw;have no:Zbj ⟨bs.drop n,bad⟩=(0,false,0)->∀ {w},Sat R (pts r (Z4 s n bad)::Hs) w->(Value.tuple #[.int .u64 0,.bool false,nI 0]=.tuple #[.int .u64 (Zbj ⟨bs.drop n,bad⟩).1,.bool (Zbj ⟨bs.drop n,bad⟩).2.1,nI (Zbj ⟨bs.drop n,bad⟩).2.2]/\Sat R (pts r (Z4 s n bad)::Hs) w):=λ e {w} hw=>by
    rw [e];exact ⟨rfl,hw⟩
  refine ⟨λ w=>(bad=false/\n<bs.length)/\Sat R (pts r (Z4 s n bad)::Hs) w,Zo hw λ w hw=>?_,?_⟩
  · refine Zc.mk rfl ⟨bad,oS,Br.mk (λ h=>no (by unfold Zbj;rw [if_pos h]) hw) (λ h=>?_)⟩
    refine Zc.mk rfl ⟨n,oS,Zc.mk rfl ⟨s,oS,?_⟩⟩;rw [hlen];refine Br.d (λ h2=>no ?_ hw) (λ h2=>⟨⟨h,by omega⟩,hw⟩);unfold Zbj;simp only;rw [List.drop_eq_nil_of_le (by omega)];split<;>rfl
  clear hw;rintro _ w ⟨⟨hbad,hlt⟩,hw⟩;have hc:=hb bs[n] (List.getElem_mem _);have hd:bs.drop n=bs[n]::bs.drop (n + 1):=List.drop_eq_getElem_cons hlt;have e0:wI bs[n]=bs[n]:=Zf;have nx:Zbj ⟨bs.drop n,bad⟩=match ZaU (bs[n]::bs.drop (n + 1)) with|some (n,neg,k)=>(n,neg,(k:Int))|none=>(0,false,0):=by
    unfold Zbj;rw [hbad,hd];rfl
  refine Zo hw λ w hw=>?_;refine Zc.mk rfl ⟨s,oS,Zc.mk rfl ⟨n,oS,hs.ix Zbg n rfl hlt ?_⟩⟩;rw [e0];have hkn:0<=(if 16<=bs[n] then bs[n] - 16 else bs[n]):=by split<;>omega
  obtain ⟨k,hk⟩:=Int.eq_ofNat_of_zero_le hkn;have hk2:(if 16<=bs[n] then bs[n] - 16 else bs[n]).toNat=k:=by rw [hk];rfl
  refine ⟨λ x w=>x=(k:Int)/\Sat R (pts r (Z4 s n bad)::Hs) w,Br.d (λ h=>⟨?_,hw⟩) (λ h=>⟨?_,hw⟩),?_⟩
  · rw [Zf,<-hk,if_pos (by omega)]
  · rw [<-hk,if_neg (by omega)]
  clear hw;rintro _ _ w ⟨rfl,hw⟩;have dl:(bs.drop (n + 1)).length=bs.length - (n + 1):=List.length_drop;have pno:¬ (bs[n]<32/\k<=8/\k<=(bs.drop (n + 1)).length/\(k=0->bs[n]=0)/\(k≠0->(bs.drop (n + 1)).head?≠some 0))->Zbj ⟨bs.drop n,bad⟩=(0,false,0):=λ h=>by
    rw [nx];unfold ZaU;simp only [hk2];rw [if_neg h]
  have pyes:(bs[n]<32/\k<=8/\k<=(bs.drop (n + 1)).length/\(k=0->bs[n]=0)/\(k≠0->(bs.drop (n + 1)).head?≠some 0))->Zbj ⟨bs.drop n,bad⟩=(Zfd 0 ((bs.drop (n + 1)).take k),decide (16<=bs[n]),((k + 1:Nat):Int)):=λ h=>by
    rw [nx];unfold ZaU;simp only [hk2];rw [if_pos h]
  refine ⟨λ w=>(bs[n]<32/\k<=8/\k<=(bs.drop (n + 1)).length/\(k=0->bs[n]=0)/\(k≠0->(bs.drop (n + 1)).head?≠some 0))/\Sat R (pts r (Z4 s n bad)::Hs) w,Zo hw λ w hw=>?_,?_⟩
  · refine Br.d (λ h=>no (pno λ h2=>by omega) hw) (λ h8=>?_)
    refine Zc.mk rfl ⟨n,oS,Zc.mk rfl ⟨s,oS,?_⟩⟩;rw [Zf (x:=(n:Int) + 1),Zf,hlen];refine Br.d (λ h=>no (pno λ h2=>by omega) hw) (λ hln=>?_);have h32:bs[n]<32:=by split at hk<;>omega
    have last:(k≠0\/bs[n]=0)->Br (decide ((k:Int)>0))
             (Zc (some ⟨r,0,none⟩) λ a_t70=>
              ∃ t72:Sl,(At (Sat R (pts r (Z4 s n bad)::Hs)) (Addr.add a_t70 0) [.slice t72.a t72.len t72.cap])/\
              Zc (some ⟨r,0,none⟩) λ a_t74=>
              ∃ t76:Int,(At (Sat R (pts r (Z4 s n bad)::Hs)) (nO a_t74 1) [nI t76])/\
              Rng (wI (t76 + 1)) t72.len (Zc t72.a λ a_t78=>
              ∃ t79:Int,(At (Sat R (pts r (Z4 s n bad)::Hs)) (Addr.add a_t78 ((wI (t76 + 1)).toNat)) [.int .u8 t79])/\
              Br (t79==0)
               (Value.tuple #[.int .u64 0,.bool false,nI 0]=.tuple #[.int .u64 (Zbj ⟨bs.drop n,bad⟩).1,.bool (Zbj ⟨bs.drop n,bad⟩).2.1,nI (Zbj ⟨bs.drop n,bad⟩).2.2]/\Sat R (pts r (Z4 s n bad)::Hs) w)
               ((bs[n]<32/\k<=8/\k<=(bs.drop (n + 1)).length/\(k=0->bs[n]=0)/\(k≠0->(bs.drop (n + 1)).head?≠some 0))/\Sat R (pts r (Z4 s n bad)::Hs) w)))
             ((bs[n]<32/\k<=8/\k<=(bs.drop (n + 1)).length/\(k=0->bs[n]=0)/\(k≠0->(bs.drop (n + 1)).head?≠some 0))/\Sat R (pts r (Z4 s n bad)::Hs) w):=λ hz=>by
      refine Br.d (λ h=>?_) (λ h=>⟨⟨h32,by omega,by omega,by omega,λ h2=>by omega⟩,hw⟩);refine Zc.mk rfl ⟨s,oS,Zc.mk rfl ⟨n,oS,?_⟩⟩;rw [Zf];have hn1:n + 1<bs.length:=by omega
      have hh:(bs.drop (n + 1)).head? =some bs[n + 1]:=by rw [List.drop_eq_getElem_cons hn1];rfl
      refine hs.ix Zbg (n + 1) (by omega) hn1 ?_;refine Br.e (λ h0=>no (pno λ h2=>?_) hw) (λ h0=>⟨⟨h32,by omega,by omega,by omega,λ h2=>?_⟩,hw⟩)
      · exact h2.2.2.2.2 (by omega) (by rw [hh,h0])
      · rw [hh];intro h3;exact h0 (Option.some.inj h3)
    refine Br.d (λ h16=>?_) (λ h16=>?_)
    · refine Br.e (λ h0=>no (pno λ h2=>?_) hw) (λ h0=>last (.inl (by omega)))
      have:=h2.2.2.2.1 (by omega);omega
    · refine last ?_
      rw [if_neg (by omega)] at hk;by_cases hk0:k=0
      · exact .inr (by omega)
      · exact .inl hk0
  clear hw;rintro _ w ⟨hp,hw⟩;have e:=pyes hp;rw [e];obtain ⟨h32,hk8,hkl,_,_⟩:=hp;have hbd:∀ j,∀ x∈(bs.drop (n + 1)).take j,0<=x/\x<256:=λ j x hx=>hb x (List.mem_of_mem_drop (List.mem_of_mem_take hx));have vb:∀ j,j<=8->0<=Zfd 0 ((bs.drop (n + 1)).take j)/\Zfd 0 ((bs.drop (n + 1)).take j)<256 ^ j:=λ j hj=>by
    refine ⟨Zhs (by omega) (hbd j),?_⟩;have h1:=ZjE (acc:=0) (by omega) (hbd j);have h2:((bs.drop (n + 1)).take j).length<=j:=by rw [List.length_take];omega
    have h3:(256:Int) ^ ((bs.drop (n + 1)).take j).length<=256 ^ j:=p256 h2;rw [show (0:Int) + 1=1 from rfl,Int.one_mul] at h1
    omega
  refine ⟨λ x i w=>∃ j:Nat,i=j/\j<=k/\x=Zfd 0 ((bs.drop (n + 1)).take j)/\Sat R (pts r (Z4 s n bad)::Hs) w,λ _ i _=>k - i.toNat,⟨0,rfl,by omega,rfl,hw⟩,?_⟩;clear hw;rintro _ _ _ w ⟨j,rfl,hj,rfl,hw⟩;refine Br.d (λ h=>Zo hw λ w hw=>?_) (λ h=>?_)
  · refine Zc.mk rfl ⟨s,oS,Zc.mk rfl ⟨n,oS,?_⟩⟩
    rw [Zf (x:=(n:Int) + 1),Zf (x:=(n:Int) + 1 + j)];have hnj:n + 1 + j<bs.length:=by omega
    refine hs.ix Zbg (n + 1 + j) (by omega) hnj ?_;have hx:=hb bs[n + 1 + j] (List.getElem_mem _);have et:(bs.drop (n + 1)).take (j + 1)=(bs.drop (n + 1)).take j++[bs[n + 1 + j]]:=by
      rw [List.take_add_one,List.getElem?_drop,List.getElem?_eq_getElem hnj];rfl
    have hv:=vb j (by omega);have hv2:=vb (j + 1) (by omega);rw [et,Zd4] at hv2;have h7:(256:Int) ^ j<=256 ^ 7:=p256 (by omega);have hv3:=hv.2;have e7:(256:Int) ^ 7=72057594037927936:=by decide
    rw [ZP (x:=bs[n + 1 + j]),ZP (x:=Zfd 0 ((bs.drop (n + 1)).take j) * 256) (by omega) (by omega),ZP,Zf];exact ⟨⟨j + 1,by omega,by omega,by rw [et,Zd4],hw⟩,by dsimp only;omega⟩
  · have:j=k:=by omega
    subst this;rw [Zf];refine ⟨?_,hw⟩;simp
theorem Zt {r:Nat} {s:Sl} {bs:List Int} {rd:Rd} {most:Int} (hl:bs.length<=1099511627776) (hb:∀ x∈bs,0<=x/\x<256) (hs:SlR R.m s (b8 bs)) (hw:Sat R (ZB r s bs rd::Hs) w):
    Zm prog 77 #[nP r,.int .u64 most] w λ v w'=>v=.int .u64 (Zb most rd).1/\Sat R (ZB r s bs (Zb most rd).2::Hs) w':=by
  obtain ⟨n,⟨hn,hd⟩,hw⟩:=Sat.rrd.1 hw;apply ZA8;refine (ZiZ hl hb hs hn hw).u λ w hw=>?_;refine ⟨_,_,_,rfl,?_⟩;rw [hd];have bad:Zb most rd=(0,⟨rd.bs,true⟩)->Zc (some ⟨r,0,none⟩) λ a_t25=>
      ∃ w_2:World,((Instr.storeAt 4 (.pointer ((some (nO a_t25 2)))) (.bool true)).run prog w=.ok () w_2)/\
      (Value.int .u64 0=.int .u64 (Zb most rd).1/\Sat R (ZB r s bs (Zb most rd).2::Hs) w_2):=λ e=>by
    refine Zc.mk rfl ?_;refine sRu hw λ w hw=>?_;have hw:=hw.re (pts r (Z4 s n true));rw [e];exact ⟨rfl,Sat.rrd.2 ⟨n,⟨hn,hd⟩,hw⟩⟩
  refine ⟨λ w=>(∃ x k,rd.bad=false/\ZaU rd.bs=some (x,false,k)/\x<=most)/\Sat R (pts r (Z4 s n rd.bad)::Hs) w,?_,?_⟩
  · by_cases hbd:rd.bad=true
    · have e:Zbj ⟨rd.bs,rd.bad⟩=(0,false,0):=by unfold Zbj;rw [if_pos hbd]
      rw [e];dsimp only;refine Br.mk (λ h=>bad ?_) (λ h=>by simp at h);unfold Zb;rw [if_pos hbd];rw [show rd=⟨rd.bs,rd.bad⟩ from rfl,hbd]
    · have hbd:rd.bad=false:=by simpa using hbd
      cases hp:ZaU rd.bs with
      |none=>
        have e:Zbj ⟨rd.bs,rd.bad⟩=(0,false,0):=by unfold Zbj;simp [hp]
        rw [e];dsimp only;refine Br.mk (λ h=>bad ?_) (λ h=>by simp at h);unfold Zb;rw [if_neg (by rw [hbd];simp),hp]
      |some p=>
        obtain ⟨x,neg,k⟩:=p;have e:Zbj ⟨rd.bs,rd.bad⟩=(x,neg,(k:Int)):=by unfold Zbj;simp [hp,hbd]
        rw [e];dsimp only;have hb2:∀ x∈rd.bs,0<=x/\x<256:=λ x hx=>hb x (by rw [<-hd] at hx;exact List.mem_of_mem_drop hx);obtain ⟨_,_,k0,_,_⟩:=ZeF hb2 hp;have e2:Zb most rd=if neg=false/\x<=most then (x,⟨rd.bs.drop k,false⟩) else (0,⟨rd.bs,true⟩):=by
          unfold Zb;rw [if_neg (by rw [hbd];simp),hp]
        refine Br.e (λ h=>by omega) (λ _=>Br.mk (λ h=>bad ?_) (λ h=>Br.d (λ h2=>bad ?_) (λ h2=>?_)))
        · rw [e2,if_neg (by rintro ⟨h3,_⟩;rw [h3] at h;cases h)]
        · rw [e2,if_neg (by rintro ⟨_,h3⟩;omega)]
        · exact ⟨⟨x,k,hbd,by rw [h],by omega⟩,hw⟩
  clear bad hw;rintro _ w ⟨⟨x,k,hbd,hp,hx⟩,hw⟩;have hb2:∀ x∈rd.bs,0<=x/\x<256:=λ x hx=>hb x (by rw [<-hd] at hx;exact List.mem_of_mem_drop hx);obtain ⟨_,_,k0,_,k2⟩:=ZeF hb2 hp;have e:Zbj ⟨rd.bs,rd.bad⟩=(x,false,(k:Int)):=by unfold Zbj;simp [hp,hbd]
  have e2:Zb most rd=(x,⟨rd.bs.drop k,false⟩):=by
    unfold Zb;rw [if_neg (by rw [hbd];simp),hp];dsimp only;rw [if_pos ⟨rfl,hx⟩]
  rw [e,e2];dsimp only;have hlen:rd.bs.length=bs.length - n:=by rw [<-hd,List.length_drop]
  refine Zc.mk rfl ⟨n,oA hw,Zc.mk rfl ?_⟩
  try dsimp only
  rw [Zf];refine sRu hw λ w hw=>?_;rw [hbd] at hw;have hw:=hw.re (pts r (Z4 s (n + k) false));exact ⟨rfl,Sat.rrd.2 ⟨n + k,⟨by omega,by rw [<-List.drop_drop,hd]⟩,hw⟩⟩
theorem Zbv {r:Nat} {s:Sl} {bs:List Int} {rd:Rd} (hs:SlR R.m s (b8 bs)) (hw:Sat R (ZB r s bs rd::Hs) w):
    Zm prog 80 #[nP r] w λ v w'=>v=.bool (ZF rd)/\Sat R (ZB r s bs rd::Hs) w':=by
  have hsl:s.len=bs.length:=by have:=hs.len;simpa using this
  obtain ⟨n,⟨hn,hd⟩,hw⟩:=Sat.rrd.1 hw;have hlen:rd.bs.length=bs.length - n:=by rw [<-hd,List.length_drop]
  apply ZA5;refine Zo hw λ w hw=>?_;refine Zc.mk rfl ⟨rd.bad,oS,Br.nb (λ h=>?_) (λ h=>?_)⟩
  · refine Zc.mk rfl ⟨n,oS,Zc.mk rfl ⟨s,oS,?_,Sat.rrd.2 ⟨n,⟨hn,hd⟩,hw⟩⟩⟩
    unfold ZF;rw [h,hsl]
    congr 1
    rw [Bool.not_false,Bool.true_and,hlen];show decide ((n:Int)=(bs.length:Int))=_;rw [decide_eq_decide];omega
  · refine ⟨?_,Sat.rrd.2 ⟨n,⟨hn,hd⟩,hw⟩⟩
    unfold ZF;rw [h];rfl
def Zl (l:List Int):List Int:=(l.map λ x=>Zec x.toNat).flatten
theorem ZpL {l:List Int} {k:Nat} (hk:k<l.length):Zl (l.take (k + 1))=Zl (l.take k)++Zec l[k].toNat:=by
 unfold Zl;rw [List.take_add_one,List.getElem?_eq_getElem hk,List.map_append,List.flatten_append];simp only [Option.toList_some,List.map_cons,List.map_nil,List.flatten_cons,List.flatten_nil,List.append_nil]
theorem ZW:∀ {l:List Int},(∀ x∈l,0<=x/\x<18446744073709551616)->(Zl l).length<=9 * l.length
 |[],_=>by simp [Zl]
 |x::l,h=>by
  have h1:=h x (List.mem_cons_self ..);have:=Zbn (n:=x.toNat) (by omega);have h2:=ZW (l:=l) λ y hy=>h y (List.mem_cons_of_mem _ hy);unfold Zl at h2 ⊢;rw [List.map_cons,List.flatten_cons,List.length_append,List.length_cons];omega
theorem Zb3:∀ {l:List Int},(∀ x∈l,0<=x/\x<18446744073709551616)->∀ y∈Zl l,0<=y/\y<256
 |[],_=>by simp [Zl]
 |x::l,h=>λ y hy=>by
  have h1:=h x (List.mem_cons_self ..);unfold Zl at hy;rw [List.map_cons,List.flatten_cons,List.mem_append] at hy;rcases hy with hy|hy
  ·exact Zj4 (n:=x.toNat) (by omega) y hy
  ·exact Zb3 (λ y hy=>h y (List.mem_cons_of_mem _ hy)) y hy
theorem ZhO (a b:List Int):Zl (a++b)=Zl a++Zl b:=by simp [Zl]
def Zg1 (p:Nat) (bs:List Int):HP:=exs λ s:Sl=>Zah [lp p s,Own s 5 (b8 bs)]
theorem Sat.outB {p:Nat} {bs:List Int}:Sat R (Zg1 p bs::Hs) w↔∃ s:Sl,Sat R (lp p s::Own s 5 (b8 bs)::Hs) w:=by
 unfold Zg1;rw [Sat.exs];exact ⟨λ⟨s,h⟩=>⟨s,Sat.star.1 h⟩,λ⟨s,h⟩=>⟨s,Sat.star.2 h⟩⟩
theorem Zw0 {f:FuncId} {p:Nat} {s:Sl} {xs bs:List Int} (hxs:∀ x∈xs,0<=x/\x<9223372036854775808) (hl:bs.length + 9 * xs.length<=1099511627776) (hs:RoI R s xs) (hw:Sat R (Zg1 p bs::Hs) w)
  (hf:∀ {K:Value->World->Prop} {w:World},B132 s (some ⟨p,0,none⟩) K w->Zm prog f #[.slice s.a s.len s.cap,nP p] w K):
  Zm prog f #[.slice s.a s.len s.cap,nP p] w λ v w'=>v=.tuple #[]/\Sat R (Zg1 p (bs++Zl xs)::Hs) w':=by
 have hlen:=hs.len;apply hf;refine ⟨λ i w=>∃ k:Nat,i=k/\k<=xs.length/\Sat R (Zg1 p (bs++Zl (xs.take k))::Hs) w,λ i _=>xs.length - i.toNat,⟨0,rfl,by omega,by simpa [Zl] using hw⟩,?_⟩;clear hw;rintro _ _ w ⟨k,rfl,hk,hw⟩;refine Br.d (λ h=>?_) (λ h=>?_)
 ·have hkx:k<xs.length:=by omega
  have hx:=hxs xs[k] (List.getElem_mem _);have hxt:∀ x∈xs.take k,0<=x/\x<18446744073709551616:=λ x hx=>by have:=hxs x (List.mem_of_mem_take hx);omega
  have hnl:=ZW hxt;rw [List.length_take] at hnl;refine hs.idx (eqS hw) hkx ?_;obtain ⟨s0,hw⟩:=Sat.outB.1 hw;refine ZaV hw λ w hw=>?_;refine Zc.mk rfl ⟨s0,oS,?_⟩;obtain ⟨n,hn⟩:=Int.eq_ofNat_of_zero_le hx.1;rw [hn,ZP];refine (ZbY (by omega) hw).u1 λ t w hw=>?_;refine ⟨t,rfl,hw.absorb,?_⟩;have hw:Sat R (Own s0 5 (b8 (bs++Zl (xs.take k)))::Own t 5 (b8 (Zec n))::lp p s0::VC.tru::Hs) w:=hw.arr;have hnb:=Zbn (n:=n) (by omega);refine Zde ZqG (s:=s0) (n:=1099511627790) underlying47 hw (by rw [List.length_append];omega) (by omega) (by omega) λ s2 w hw=>?_;have hw:Sat R (lp p s0::Own s2 5 (b8 (bs++Zl (xs.take k)++Zec n))::Hs) w:=by
   have h:Sat R (Own t 5 (b8 (Zec n))::VC.tru::lp p s0::Own s2 5 (b8 (bs++Zl (xs.take k)++Zec n))::Hs) w:=hw.arr;exact h.drop.drop
  refine sRu hw λ w hw=>?_;have hw:=hw.re (lp p s2);rw [Zf];refine ⟨⟨k + 1,by omega,by omega,Sat.outB.2 ⟨s2,?_⟩⟩,by dsimp only;omega⟩;rw [ZpL hkx,hn,Int.toNat_natCast,<-List.append_assoc];exact hw
 ·have:k=xs.length:=by omega
  subst this;rw [List.take_length] at hw;exact ⟨rfl,hw⟩
theorem Zml {p:Nat} {s:Sl} {xs bs:List Int} (hxs:∀ x∈xs,0<=x/\x<9223372036854775808) (hl:bs.length + 9 * xs.length<=1099511627776) (hs:RoI R s xs) (hw:Sat R (Zg1 p bs::Hs) w):
  Zm prog 132 #[.slice s.a s.len s.cap,nP p] w λ v w'=>v=.tuple #[]/\Sat R (Zg1 p (bs++Zl xs)::Hs) w':=
 Zw0 hxs hl hs hw λ h=>ZzF _ _ _ _ h
def ZkV (h:ZI) (t:Sl):List Value:=[nI h.owner,nI h.cls,nI h.many,.slice t.a t.len t.cap]
def Zb9 (L:List ZI) (ts:List Sl):List (List Value):=(L.zip ts).map λ x=>ZkV x.1 x.2
def Zbh (L:List ZI) (ts:List Sl):List HP:=(L.zip ts).map λ x=>Zz x.2 (Ze x.1.seats)
def ZbR (s:Sl) (L:List ZI):HP:=exs λ ts:List Sl=>Zah (pur (ts.length=L.length)::Zs 4 s 197 (Zb9 L ts)::Zbh L ts)
theorem Sat.holdsL {s:Sl} {L:List ZI}:Sat R (ZbR s L::Hs) w↔∃ ts:List Sl,ts.length=L.length/\Sat R (Zs 4 s 197 (Zb9 L ts)::(Zbh L ts++Hs)) w:=by
 unfold ZbR;rw [Sat.exs];constructor
 ·rintro ⟨ts,h⟩
  obtain ⟨h1,h2⟩:=Sat.pur.1 (Sat.star.1 h);exact ⟨ts,h1,h2⟩
 ·rintro ⟨ts,h1,h2⟩
  exact ⟨ts,Sat.star.2 (Sat.pur.2 ⟨h1,h2⟩)⟩
structure HsR (R:Cx) (s:Sl) (L:List ZI) (ts:List Sl):Prop where
 len:ts.length=L.length
 rows:RoN 4 R s (Zb9 L ts)
 seats:∀ i (h:i<L.length) (h':i<ts.length),SlR R.m ts[i] (Ze L[i].seats)
theorem ZiT:∀ {L:List ZI} {ts:List Sl} {R:Cx},ts.length=L.length->Sat R (Zbh L ts++Hs) w->∃ R':Cx,R.Ext R'/\(∀ i (h:i<L.length) (h':i<ts.length),SlR R'.m ts[i] (Ze L[i].seats))/\Sat R' Hs w
 |[],_,R,_,hw=>⟨R,Cx.Ext.refl,λ i h=>by simp at h,by simpa [Zbh] using hw⟩
 |h::L,[],R,hl,_=>by simp at hl
 |h::L,t::ts,R,hl,hw=>by
  have hw:Sat R (Zz t (Ze h.seats)::(Zbh L ts++Hs)) w:=hw;obtain ⟨R1,e1,s1,hw⟩:=Zz.leak hw;obtain ⟨R2,e2,s2,hw⟩:=ZiT (by simpa using hl) hw;refine ⟨R2,e1.trans e2,λ i h h'=>?_,hw⟩;rcases i with _|i
  ·exact e2.slR s1
  ·exact s2 i (by simpa using h) (by simpa using h')
theorem ZbR.leak {s:Sl} {L:List ZI} (hw:Sat R (ZbR s L::Hs) w):∃ (R':Cx) (ts:List Sl),R.Ext R'/\HsR R' s L ts/\Sat R' Hs w:=by
 obtain ⟨ts,hl,hw⟩:=Sat.holdsL.1 hw;obtain ⟨R1,e1,hr,hw⟩:=Zs.leak hw;obtain ⟨R2,e2,hs,hw⟩:=ZiT hl hw;exact ⟨R2,ts,e1.trans e2,⟨hl,e2.roN hr,hs⟩,hw⟩
theorem ZcF {L:List ZI} {ts:List Sl} (h:ts.length=L.length):(Zb9 L ts).length=L.length:=by simp [Zb9,h]
theorem Zoa {L:List ZI} {ts:List Sl} {k:Nat} (h:k<L.length) (h':k<ts.length) (h2:k<(Zb9 L ts).length):(Zb9 L ts)[k]=ZkV L[k] ts[k]:=by simp [Zb9]
theorem HsR.fld {s:Sl} {L:List ZI} {ts:List Sl} {S:World->Prop} {k j:Nat} {v:Value} (hr:HsR R s L ts) (hS:∀ w,S w->Sat R Hs w) (hk:k<L.length) (hk':k<ts.length) (hv:(ZkV L[k] ts[k])[j]? =some v) {F:Addr->Prop}
  (f:∀ a:Addr,a.spot=none->At S ⟨(a.add (Zcp k 4)).block,(a.add (Zcp k 4)).off + j,none⟩ [v]->F a):Rng (k:Int) s.len (Zc s.a F):=by
 have hl:=ZcF hr.len;refine (hr.rows.reads hS).rng (k:=k) (by omega) λ b off ha hat=>f _ rfl ?_;rw [ZoL];refine hat j [v] ?_;rw [Zoa hk hk'];obtain ⟨hlt,he⟩:=List.getElem?_eq_some_iff.1 hv;rw [List.drop_eq_getElem_cons hlt,he];exact ⟨rfl,trivial⟩
theorem ZmC (a:Addr) (k:Nat) (h:a.spot=none):Addr.add (Addr.add a (Zcp k 4)) 0=(nO (a.add (Zcp k 4)) 0):=by
 obtain ⟨b,o,s⟩:=a;dsimp only at h;subst h;rw [Zy,Zy]
def ZAG (a b:ZI):Prop:=a.owner=b.owner/\a.cls=b.cls/\a.many=b.many/\a.seats=b.seats
theorem Zva {a b:ZI} (h:ZAG a b):a=b:=by
 obtain ⟨h1,h2,h3,h4⟩:=h;cases a;cases b;simp_all
instance:DecidableEq ZI:=λ a b=>decidable_of_iff (a.owner=b.owner/\a.cls=b.cls/\a.many=b.many/\a.seats=b.seats) ⟨Zva,λ h=>by subst h;exact ⟨rfl,rfl,rfl,rfl⟩⟩
structure RF where
 num:Int
 rows:Int
 grps:List Int
 lims:List Int
 L:List ZI
abbrev ZK (r:RF) (sg sl s:Sl):Obj:=.cells [nI r.num,nI r.rows,.slice sg.a sg.len sg.cap,.slice sl.a sl.len sl.cap,.slice s.a s.len s.cap].toArray 179 (0,0)
end
section
open Go Go.VC Tryz
def Ze8 (k:Int):List ZI->Int
 |[]=>0
 |h::L=>(if h.cls=k then h.many else 0) + Ze8 k L
def Z6 (n:Nat) (L:List ZI):List Int:=(List.range n).map λ (k:Nat)=>Ze8 (k:Int) L
def Zx (L:List ZI):List Int:=L.flatMap ZI.seats
theorem ZdE (k:Int) (h:ZI) (L:List ZI):Ze8 k (h::L)=(if h.cls=k then h.many else 0) + Ze8 k L:=rfl
theorem ZeQ (k:Int):∀ A B:List ZI,Ze8 k (A++B)=Ze8 k A + Ze8 k B
 |[],B=>by simp [Ze8]
 |h::A,B=>by simp only [List.cons_append,Ze8,ZeQ k A B];omega
theorem ZdD {k:Int} {A B:List ZI} (h:A.Perm B):Ze8 k A=Ze8 k B:=by
 induction h with
 |nil=>rfl
 |cons x _ ih=>simp only [Ze8,ih]
 |swap x y l=>simp only [Ze8];exact Int.add_left_comm _ _ _
 |trans _ _ a b=>exact a.trans b
theorem Za1 (n:Nat) (L:List ZI):(Z6 n L).length=n:=by simp [Z6]
theorem Zdt {n k:Nat} {L:List ZI} (h:k<(Z6 n L).length):(Z6 n L)[k]=Ze8 (k:Int) L:=by simp [Z6]
theorem Zbu {n k:Nat} {L:List ZI} (h:k<n):(Z6 n L).getD k 0=Ze8 (k:Int) L:=by
 rw [List.getD_eq_getElem?_getD,List.getElem?_eq_getElem (by rw [Za1];exact h),Zdt];rfl
theorem Zle {n:Nat} {L L':List ZI} {c:Int} {x:Int} (h0:0<=c) (h1:c<n) (hc:Ze8 c L'=x) (ho:∀ k:Nat,(k:Int)≠c->Ze8 (k:Int) L'=Ze8 (k:Int) L):(Z6 n L).set c.toNat x=Z6 n L':=by
 apply List.ext_getElem
 ·simp [Z6]
 ·intro i h2 h3
  rw [List.getElem_set];split
  ·rename_i e
   rw [Zdt];rw [<-hc]
   congr 1
   omega
  ·rename_i e
   rw [Zdt,Zdt];exact (ho i (by omega)).symm
theorem Zd6 {n:Nat} {h:ZI} {L L':List ZI} (p:L'.Perm (h::L)) (h0:0<=h.cls) (h1:h.cls<n):(Z6 n L).set h.cls.toNat ((Z6 n L).getD h.cls.toNat 0 + h.many)=Z6 n L':=by
 refine Zle h0 h1 ?_ λ k hk=>?_
 ·rw [Zbu (by omega),ZdD p,show ((h.cls.toNat:Nat):Int)=h.cls by omega]
  rw [ZdE,if_pos rfl];omega
 ·rw [ZdD p]
  show (if h.cls=(k:Int) then h.many else 0) + Ze8 (k:Int) L=_
  rw [if_neg (λ e=>hk e.symm)];omega
theorem Zrb {n:Nat} {h:ZI} {L L':List ZI} (p:L'.Perm (h::L)) (h0:0<=h.cls) (h1:h.cls<n):(Z6 n L').set h.cls.toNat ((Z6 n L').getD h.cls.toNat 0 - h.many)=Z6 n L:=by
 refine Zle h0 h1 ?_ λ k hk=>?_
 ·rw [Zbu (by omega),ZdD p,show ((h.cls.toNat:Nat):Int)=h.cls by omega]
  show _=(if h.cls=h.cls then h.many else 0) + Ze8 h.cls L - h.many
  rw [if_pos rfl];omega
 ·rw [ZdD p]
  show _=(if h.cls=(k:Int) then h.many else 0) + Ze8 (k:Int) L
  rw [if_neg (λ e=>hk e.symm)];omega
def Zcq (o:Int):List ZI->Option ZI
 |[]=>none
 |h::L=>if h.owner=o then some h else Zcq o L
def Zri (o:Int) (h':ZI):List ZI->List ZI
 |[]=>[]
 |h::L=>if h.owner=o then h'::L else h::Zri o h' L
def Zwj (o:Int):List ZI->List ZI
 |[]=>[]
 |h::L=>if h.owner=o then L else h::Zwj o L
def Zma (h:ZI):List ZI->List ZI
 |[]=>[h]
 |x::L=>if x.owner<h.owner then x::Zma h L else h::x::L
theorem ZaF (o:Int) (h:ZI) (L:List ZI):Zcq o (h::L)=if h.owner=o then some h else Zcq o L:=rfl
theorem Zci {o:Int}:∀ {L:List ZI},Zcq o L=none↔∀ h∈L,h.owner≠o
 |[]=>by simp [Zcq]
 |h::L=>by
  rw [ZaF];constructor
  ·intro e x hx
   split at e
   ·cases e
   ·rename_i hne
    rcases List.mem_cons.1 hx with rfl|hx
    ·exact hne
    ·exact Zci.1 e x hx
  ·intro e
   rw [if_neg (e h List.mem_cons_self)];exact Zci.2 λ x hx=>e x (List.mem_cons_of_mem _ hx)
theorem Zb1 {o:Int} {h:ZI}:∀ {L:List ZI},Zcq o L=some h->∃ A C,L=A++h::C/\Zcq o A=none/\h.owner=o
 |[],e=>by cases e
 |x::L,e=>by
  rw [ZaF] at e;split at e
  ·rename_i hx;cases e;exact ⟨[],L,rfl,rfl,hx⟩
  ·rename_i hx
   obtain ⟨A,C,rfl,hA,ho⟩:=Zb1 e;exact ⟨x::A,C,rfl,by rw [ZaF,if_neg hx];exact hA,ho⟩
theorem Zku {o:Int} {h:ZI} {C:List ZI} (ho:h.owner=o):∀ {A:List ZI},Zcq o A=none->Zcq o (A++h::C)=some h
 |[],_=>by show Zcq o (h::C)=_;rw [ZaF,if_pos ho]
 |x::A,e=>by
  rw [ZaF] at e;split at e
  ·cases e
  ·rename_i hx
   show Zcq o (x::(A++h::C))=_;rw [ZaF,if_neg hx];exact Zku ho e
theorem ZfE {o:Int} {h h':ZI} {C:List ZI} (ho:h.owner=o):∀ {A:List ZI},Zcq o A=none->Zri o h' (A++h::C)=A++h'::C
 |[],_=>by show Zri o h' (h::C)=_;unfold Zri;rw [if_pos ho];rfl
 |x::A,e=>by
  rw [ZaF] at e;split at e
  ·cases e
  ·rename_i hx
   show Zri o h' (x::(A++h::C))=_;unfold Zri;rw [if_neg hx,ZfE ho e];rfl
theorem ZkF {o:Int} {h:ZI} {C:List ZI} (ho:h.owner=o):∀ {A:List ZI},Zcq o A=none->Zwj o (A++h::C)=A++C
 |[],_=>by show Zwj o (h::C)=_;unfold Zwj;rw [if_pos ho];rfl
 |x::A,e=>by
  rw [ZaF] at e;split at e
  ·cases e
  ·rename_i hx
   show Zwj o (x::(A++h::C))=_;unfold Zwj;rw [if_neg hx,ZkF ho e];rfl
theorem ZbK (h:ZI):∀ L:List ZI,(Zma h L).Perm (h::L)
 |[]=>List.Perm.refl _
 |x::L=>by
  unfold Zma;split
  ·exact ((ZbK h L).cons x).trans (List.Perm.swap _ _ _)
  ·exact List.Perm.refl _
def OwR (L:List ZI):Prop:=L.Pairwise λ a b=>a.owner<b.owner
theorem OwR.ne {L:List ZI} (h:OwR L):L.Pairwise λ a b=>a.owner≠b.owner:=h.imp λ h e=>by omega
theorem Zf2 {o:Int} {h:ZI}:∀ {L:List ZI},(L.Pairwise λ a b=>a.owner≠b.owner)->(Zcq o L=some h↔h∈L/\h.owner=o)
 |[],_=>by simp [Zcq]
 |x::L,hp=>by
  obtain ⟨h1,h2⟩:=List.pairwise_cons.1 hp;rw [ZaF];split
  ·rename_i hx
   constructor
   ·intro e;cases e;exact ⟨List.mem_cons_self,hx⟩
   ·rintro ⟨hm,ho⟩
    rcases List.mem_cons.1 hm with rfl|hm
    ·rfl
    ·exact absurd (hx.trans ho.symm) (h1 h hm)
  ·rename_i hx
   rw [Zf2 h2];constructor
   ·rintro ⟨a,b⟩;exact ⟨List.mem_cons_of_mem _ a,b⟩
   ·rintro ⟨hm,ho⟩
    rcases List.mem_cons.1 hm with rfl|hm
    ·exact absurd ho hx
    ·exact ⟨hm,ho⟩
theorem ZsT {o:Int} {A B:List ZI} (p:A.Perm B) (h:A.Pairwise λ a b=>a.owner≠b.owner):Zcq o A=Zcq o B:=by
 have h':B.Pairwise λ a b=>a.owner≠b.owner:=(p.pairwise_iff λ h=>h.symm).1 h;apply Option.ext;intro x;rw [Zf2 h,Zf2 h',p.mem_iff]
theorem Zl9 {h:ZI}:∀ {L:List ZI},OwR L->Zcq h.owner L=none->OwR (Zma h L)
 |[],_,_=>by simp [OwR,Zma]
 |x::L,hp,hn=>by
  obtain ⟨h1,h2⟩:=List.pairwise_cons.1 hp;rw [ZaF] at hn;split at hn
  ·cases hn
  rename_i hx;unfold Zma;split
  ·rename_i hlt
   refine List.pairwise_cons.2 ⟨λ y hy=>?_,Zl9 h2 hn⟩;rcases List.mem_cons.1 ((ZbK h L).mem_iff.1 hy) with rfl|hy
   ·exact hlt
   ·exact h1 y hy
  ·rename_i hlt
   refine List.pairwise_cons.2 ⟨λ y hy=>?_,hp⟩;rcases List.mem_cons.1 hy with rfl|hy
   ·omega
   ·have:=h1 y hy;omega
theorem Zw4 {A C:List ZI} {h h':ZI} (ho:h'.owner=h.owner) (hp:OwR (A++h::C)):OwR (A++h'::C):=by
 unfold OwR at *;rw [List.pairwise_append,List.pairwise_cons] at *;refine ⟨hp.1,⟨λ y hy=>by rw [ho];exact hp.2.1.1 y hy,hp.2.1.2⟩,λ a ha b hb=>?_⟩;rcases List.mem_cons.1 hb with rfl|hb
 ·rw [ho];exact hp.2.2 a ha h List.mem_cons_self
 ·exact hp.2.2 a ha b (List.mem_cons_of_mem _ hb)
theorem Zw5 {A C:List ZI} {h:ZI} (hp:OwR (A++h::C)):OwR (A++C):=by
 unfold OwR at *;rw [List.pairwise_append,List.pairwise_cons] at hp;rw [List.pairwise_append];exact ⟨hp.1,hp.2.1.2,λ a ha b hb=>hp.2.2 a ha b (List.mem_cons_of_mem _ hb)⟩
def RF.sold (r:RF):List Int:=Z6 r.lims.length r.L
def ZQ (r:RF) (owner cls many:Int):RF × Int:=
 if owner<1\/owner>28629151 then (r,1) else if (Zcq owner r.L).isSome then (r,7)
 else if (Zbc r.lims r.sold cls many).2=0 then ({ r with L:=Zma ⟨owner,cls,many,[]⟩ r.L },0) else (r,(Zbc r.lims r.sold cls many).2)
def Zca (r:RF) (owner:Int):RF × Int:=
 match Zcq owner r.L with
 |none=>(r,2)
 |some _=>({ r with L:=Zwj owner r.L },0)
def Z7 (r:RF) (owner:Int) (lab:ByteArray):RF × Int:=
 match Zcq owner r.L with
 |none=>(r,2)
 |some h=>if (Zbk r.rows r.grps lab).2≠0 then (r,2) else if (h.seats.length:Int) >= h.many then (r,7)
  else if (Zbk r.rows r.grps lab).1∈Zx r.L then (r,3)
  else ({ r with L:=Zri owner (h.put (Zbk r.rows r.grps lab).1) r.L },0)
def Zam (r:RF) (owner:Int):RF × List ByteArray × Int:=
 match Zcq owner r.L with
 |none=>(r,[],2)
 |some h=>if h.seats.length>0 then (r,[],7)
  else if (Zar r.rows r.grps (Zx r.L) h.many).2=0 then ({ r with L:=Zri owner { h with seats:=(Zar r.rows r.grps (Zx r.L) h.many).1 } r.L },Zd1 r.rows r.grps (Zar r.rows r.grps (Zx r.L) h.many).1,0)
  else (r,[],(Zar r.rows r.grps (Zx r.L) h.many).2)
def ZaY (r:RF) (owner:Int):List ByteArray:=match Zcq owner r.L with|none=>[]|some h=>Zd1 r.rows r.grps h.seats
def Zq (r:RF):List Int:=(List.range r.lims.length).map λ (k:Nat)=>(ZbJ r.lims r.sold k).1
structure ZwA (n:Nat) (N:Int) (h:ZI):Prop where
 owner:1<=h.owner/\h.owner<=28629151
 cls:0<=h.cls/\h.cls<n
 many:1<=h.many
 rise:Zqz h.seats
 few:(h.seats.length:Int)<=h.many
 seats:∀ x∈h.seats,0<=x/\x<N
structure ZaM (r:RF):Prop where
 num:1<=r.num/\r.num<=9999
 lay:ZdQ r.rows r.grps=true
 nest:Z8 r.lims r.sold=true
 l0:r.lims.getD 0 0=Za5 r.rows r.grps
 rise:OwR r.L
 each:∀ h∈r.L,ZwA r.lims.length (Za5 r.rows r.grps) h
 apart:r.L.Pairwise λ a b=>∀ x∈a.seats,x ∉ b.seats
structure Tie (f:PF) (r:RF):Prop where
 num:f.num=r.num
 rows:f.rows=r.rows
 grps:f.grps=r.grps
 lims:f.lims=r.lims
 sold:f.sold=r.sold
 hs:(f.hs.map (·.2)).Perm r.L
 key:∀ e∈f.hs,e.2.owner=e.1
 own:∀ n o,ZO n f.own=some o↔∃ h∈r.L,h.owner=o/\n∈h.seats
 nod:(f.own.map (·.1)).Nodup
theorem Zn0 {o:Int}:∀ {hs:List (Int × ZI)},(∀ e∈hs,e.2.owner=e.1)->ZO o hs=Zcq o (hs.map (·.2))
 |[],_=>rfl
 |e::hs,h=>by
  have h1:=h e List.mem_cons_self;have ih:=Zn0 (o:=o) λ x hx=>h x (List.mem_cons_of_mem _ hx);rw [List.map_cons,ZaF,h1,<-ih];show (if o==e.1 then some e.2 else ZO o hs)=_
  by_cases he:e.1=o
  ·rw [if_pos he,if_pos (by rw [he];exact beq_self_eq_true o)]
  ·rw [if_neg he,if_neg (by rw [beq_iff_eq];exact λ e'=>he e'.symm)]
variable {f:PF} {r:RF}
theorem Tie.ne (t:Tie f r) (g:OwR r.L):(f.hs.map (·.2)).Pairwise λ a b=>a.owner≠b.owner:=(t.hs.pairwise_iff λ h=>h.symm).2 g.ne
theorem Tie.get (t:Tie f r) (g:OwR r.L) (o:Int):ZO o f.hs=Zcq o r.L:=by
 rw [Zn0 t.key,ZsT t.hs (t.ne g)]
theorem Tie.taken (t:Tie f r) (n:Int):(ZO n f.own).isSome=true↔n∈Zx r.L:=by
 unfold Zx;rw [List.mem_flatMap,Option.isSome_iff_exists];constructor
 ·rintro ⟨o,h⟩
  obtain ⟨x,hx,_,hn⟩:=(t.own n o).1 h;exact ⟨x,hx,hn⟩
 ·rintro ⟨x,hx,hn⟩
  exact ⟨x.owner,(t.own n x.owner).2 ⟨x,hx,rfl,hn⟩⟩
end
section
open Go Go.VC Tryz
variable {R:Cx} {Hs Rest:List HP} {w:World}
def ZAH:ZI:=⟨0,0,0,[]⟩
def Ze6 (f:PF) (k:Int):ZI:=(ZO k f.hs).getD ZAH
def Ze5 (f:PF):List ZI:=(Zg3 (f.hs.map (·.1))).map (Ze6 f)
theorem elH:ElN prog 177 177 197 4 48:=⟨underlying177,⟨_,underlying177⟩,by kernel_rfl⟩
theorem ZbR.nil (hw:Sat R Hs w):Sat R (ZbR ⟨none,0,0⟩ []::Hs) w:=Sat.holdsL.2 ⟨[],rfl,Zs.nil hw⟩
theorem ZiY {L:List ZI} {ts:List Sl} (hl:ts.length=L.length) (h:ZI) (t:Sl):Zb9 (L++[h]) (ts++[t])=Zb9 L ts++[ZkV h t]:=by
 unfold Zb9;rw [List.zip_append hl.symm,List.map_append];rfl
theorem ZmT {L:List ZI} {ts:List Sl} (hl:ts.length=L.length) (h:ZI) (t:Sl):Zbh (L++[h]) (ts++[t])=Zbh L ts++[Zz t (Ze h.seats)]:=by
 unfold Zbh;rw [List.zip_append hl.symm,List.map_append];rfl
theorem ZbR.snoc {s:Sl} {L:List ZI} {ts:List Sl} {h:ZI} {t:Sl} (hl:ts.length=L.length) (hw:Sat R (Zs 4 s 197 (Zb9 L ts++[ZkV h t])::Zz t (Ze h.seats)::(Zbh L ts++Hs)) w):Sat R (ZbR s (L++[h])::Hs) w:=by
 refine Sat.holdsL.2 ⟨ts++[t],by simp [hl],?_⟩;rw [ZiY hl,ZmT hl,List.append_assoc];exact hw.cons λ _ h5=>h5.perm List.perm_middle.symm
theorem Zns {p:Nat} {f:PF} (hu:(f.hs.map (·.1)).Nodup) (hn:∀ k∈f.hs.map (·.1),-1000000000<=k/\k<=1000000000) (hlen:f.hs.length<=100000) (hR:∀ e∈f.hs,e.2.seats.length<=1000000) (hw:Sat R (ZJ p f::Hs) w):
  Zm prog 134 #[nP p] w λ v w'=>∃ t:Sl,v=.slice t.a t.len t.cap/\Sat R (ZbR t (Ze5 f)::ZJ p f::Hs) w':=by
 obtain ⟨hm,om,sg,sl,ss,E,R',hE,_,_,_,_,hw,back⟩:=Sat.flightO hw;have hk1:(Z3 E).map (·.1)=f.hs.map (·.1):=by rw [<-hE];simp [Z3,hEr,Function.comp_def]
 have hel:(Z3 E).length=f.hs.length:=by rw [<-hE];simp [Z3,hEr]
 apply ZzD;refine Zc.mk rfl ⟨some hm,oA hw,?_⟩;refine Zld (es:=Z3 E) (by rw [hk1];exact hu) (by rw [hk1];exact hn) (by omega) (hw.take (MapAt hm (Z3 E))) λ sk w hw=>?_;rw [hk1] at hw;have hksl:(Zg3 (f.hs.map (·.1))).length=f.hs.length:=by unfold Zg3;rw [List.length_mergeSort,List.length_map]
 have hmem:∀ k∈Zg3 (f.hs.map (·.1)),k∈f.hs.map (·.1):=λ k hk=>List.mem_mergeSort.1 hk;unfold Ze5;generalize Zg3 (f.hs.map (·.1))=ks at *;obtain ⟨R2,e2,hks,hw⟩:=Own.leak hw;have hkl:=hks.len;rw [List.length_map] at hkl;have hro:RoI R2 sk ks:=hks.ro;have hw:Sat R2 (FO p hm om sg sl ss E f Hs) w:=hw.arr;refine ⟨λ out i w=>∃ j:Nat,i=j/\j<=ks.length/\Sat R2 (ZbR out ((ks.take j).map (Ze6 f))::FO p hm om sg sl ss E f Hs) w,λ _ i _=>ks.length - i.toNat,⟨0,rfl,by omega,ZbR.nil hw⟩,?_⟩;clear hw;rintro _ out _ w ⟨j,rfl,hj,hw⟩;refine Br.d (λ h=>?_) (λ h=>?_)
 ·have hj2:j<ks.length:=by omega
  refine Ro.ix hro (eqS hw) j rfl hj2 ?_;have hkin:(ZO ks[j] E).isSome=true:=by
   have h1:=hmem ks[j] (List.getElem_mem _);rw [<-hE,hEr,List.map_map] at h1;obtain ⟨e,he,hek⟩:=List.mem_map.1 h1;have key:∀ (l:List HE),e∈l->(ZO ks[j] l).isSome=true:=λ l=>by
    induction l with
    |nil=>intro h;cases h
    |cons x l ih=>
     intro h;show (if ks[j]==x.1 then some x.2 else ZO ks[j] l).isSome=true
     split
     ·rfl
     ·rename_i hx
      rcases List.mem_cons.1 h with rfl|h
      ·exact absurd (beq_iff_eq.2 hek.symm) hx
      ·exact ih h
   exact key E he
  obtain ⟨⟨b,h⟩,hget⟩:=Option.isSome_iff_exists.1 hkin;have hof:Ze6 f ks[j]=h:=by unfold Ze6;rw [<-hE,Zb0,hget];rfl
  have htk:(ks.take (j + 1)).map (Ze6 f)=(ks.take j).map (Ze6 f)++[h]:=by
   rw [List.take_add_one,List.getElem?_eq_getElem hj2,Option.toList_some,List.map_append,List.map_singleton,hof]
  have hLl:((ks.take j).map (Ze6 f)).length=j:=by rw [List.length_map,List.length_take];omega
  generalize (ks.take j).map (Ze6 f)=L at *;generalize ks[j]=k at *;obtain ⟨a,c,rfl,hna⟩:=ZaG hget;have hl:h.seats.length<=1000000:=hR (k,h) (by rw [<-hE,ZdR];simp);refine Zc.mk rfl ⟨some hm,oA hw,some ⟨b,0,none⟩,λ w' e=>?_,Zc.mk rfl ?_⟩
  ·rw [show w'=w from e,Zdz (hw.take (MapAt hm (Z3 (a++(k,b,h)::c)))) k false,hget];rfl
  have hw:Sat R2 (FO p hm om sg sl ss (a++(k,b,h)::c) f (ZbR out L::Hs)) w:=hw.arr;obtain ⟨s,hw⟩:=FO.open hw;refine ⟨h.owner,h.cls,h.many,s,oA hw,?_⟩;refine Za hw λ bh w hw=>?_;have hw:Sat R2 (pts bh (ZN ⟨0,0,0,[]⟩ ⟨none,0,0⟩)::FO1 p hm om b sg sl ss s (a++(k,b,h)::c) (a++c) f h f.own (ZbR out L::Hs)) w:=hw;refine sRu hw λ w hw=>?_;have hw:=hw.re (pts bh (ZN h s));refine ⟨s,oA hw,?_⟩;obtain ⟨R3,hro3,_,hw3,back3⟩:=Own.lend (hw.take (Own s 3 (Ze h.seats))) (by rw [List.length_map];omega);refine (Zfu hro3 (by omega) hw3).use ?_;clear hw hw3;rintro _ w ⟨t,rfl,hw⟩;have hw:=back3 hw;refine ⟨t,rfl,?_⟩;have hw:Sat R2 (pts bh (ZN h s)::Own t 3 (Ze h.seats)::FO1 p hm om b sg sl ss s (a++(k,b,h)::c) (a++c) f h f.own (ZbR out L::Hs)) w:=hw.arr;refine sRu hw λ w hw=>?_;have hw:=hw.re (pts bh (ZN h t));refine ⟨h.owner,h.cls,h.many,t,oA hw,?_⟩;obtain ⟨ts,hts,hw⟩:=Sat.holdsL.1 (hw.take (ZbR out L));have hrl:=ZcF hts;refine Zgv (x:=ZkV h t) elH hw rfl rfl (by omega) (by omega) λ o2 w hw=>?_;rw [Zf];refine ⟨⟨j + 1,by omega,by omega,?_⟩,by dsimp only;omega⟩;rw [htk];have hw:Sat R2 (Zs 4 o2 197 (Zb9 L ts++[ZkV h t])::(Zbh L ts++(Own t 3 (Ze h.seats)::pts bh (ZN h t)::FO1 p hm om b sg sl ss s (a++(k,b,h)::c) (a++c) f h f.own Hs))) w:=
   hw.cons λ _ h5=>h5.perm (List.Perm.append_left _ (Arr.perm (Hs:=_) (Hs':=Own t 3 (Ze h.seats)::pts bh (ZN h t)::FO1 p hm om b sg sl ss s (a++(k,b,h)::c) (a++c) f h f.own Hs)))
  have hw:Sat R2 (Zs 4 o2 197 (Zb9 L ts++[ZkV h t])::Zz t (Ze h.seats)::(Zbh L ts++(pts bh (ZN h t)::FO1 p hm om b sg sl ss s (a++(k,b,h)::c) (a++c) f h f.own Hs))) w:=
   hw.cons λ _ h5=>Own.reads (h5.perm List.perm_middle)
  have hw:=ZbR.snoc hts hw;exact hw.cons λ _ h5=>FO.close (f:=f) h5.drop
 ·rw [List.take_of_length_le (by omega)] at hw
  refine ⟨out,rfl,?_⟩;have hw:=e2.back hw;have hw:=back _ _ hw;exact Sat.cons (λ _ h5=>Sat.flightC hE h5) (hw.take (ZbR out (ks.map (Ze6 f))))
theorem _root_.Go.VC.Sat.allTru {Hs:List HP}:∀ {R:Cx},Sat R Hs w->Sat R [VC.tru] w:=by
 induction Hs with
 |nil=>exact λ h=>h.tru
 |cons A Hs ih=>exact λ h=>Sat.absorb (h.cons λ _ h=>ih h)
theorem _root_.Go.VC.Sat.restTru2 {A:HP} (h:Sat R (A::Hs) w):Sat R [A,VC.tru] w:=h.cons λ _ h=>h.allTru
theorem _root_.Go.VC.MapAt.len {P:Program} {α:Type} [BEq α] [Zbt α] {m:Nat} {es:List (α × Value)} {T ty:TypeId} (hT:P.underlying T=some (.map (P.mapKeyOf T) (P.mapElemOf T))) (hw:Sat R (MapAt m es::Hs) w):
  (Builtin.len_ #[T] ty #[.map (some m)]).run P w=.ok (nI es.length) w:=by
 obtain ⟨l,c,hs,hst,hp⟩:=MapAt.iff.1 hw;rw [run_len_map w T ty m _ c hT hp.at];subst hs;simp [goInt,ZbT]
def Zdl (l:List Int):List Int:=Zl [(l.length:Int)]++Zl l
def Ze1 (h:ZI):List Int:=Zl [h.owner,h.cls,h.many]++Zdl h.seats
def ZaQ (L:List ZI):List Int:=(L.map Ze1).flatten
def Zwh (num rows:Int) (grps lims:List Int) (L:List ZI):List Int:=Zl [num,rows]++Zdl grps++Zdl lims++Zl [(L.length:Int)]++ZaQ L
abbrev ZeV (l:List Int):Prop:=∀ x∈l,0<=x/\x<9223372036854775808
theorem Zcm {l:List Int} (h:ZeV l):∀ x∈l,0<=x/\x<18446744073709551616:=λ x hx=>by have:=h x hx;omega
theorem Zcg {l:List Int} (h:ZeV l) (hl:l.length<9223372036854775808):(Zdl l).length<=9 * l.length + 9:=by
 unfold Zdl;have h1:=ZW (Zcm h);have h2:(Zl [(l.length:Int)]).length<=9:=ZW (by intro y hy;simp at hy;omega);rw [List.length_append];omega
theorem ZfQ {l:List Int} (h:ZeV l) (hl:l.length<9223372036854775808):∀ y∈Zdl l,0<=y/\y<256:=by
 unfold Zdl;intro y hy;rcases List.mem_append.1 hy with hy|hy
 ·exact Zb3 (by intro y hy;simp at hy;omega) y hy
 ·exact Zb3 (Zcm h) y hy
structure Zg2 (h:ZI):Prop where
 o:0<=h.owner/\h.owner<9223372036854775808
 c:0<=h.cls/\h.cls<9223372036854775808
 m:0<=h.many/\h.many<9223372036854775808
 s:ZeV h.seats
 n:h.seats.length<=1000
theorem Zg2.three {h:ZI} (a:Zg2 h):ZeV [h.owner,h.cls,h.many]:=by
 intro x hx;rcases List.mem_cons.1 hx with rfl|hx
 ·exact a.o
 rcases List.mem_cons.1 hx with rfl|hx
 ·exact a.c
 rw [List.mem_singleton.1 hx];exact a.m
theorem ZsP {h:ZI} (a:Zg2 h):(Ze1 h).length<=9036:=by
 unfold Ze1;have h1:(Zl [h.owner,h.cls,h.many]).length<=27:=ZW (Zcm a.three);have h2:=Zcg a.s (by have:=a.n;omega);have:=a.n;rw [List.length_append];omega
theorem Zvb {h:ZI} (a:Zg2 h):∀ y∈Ze1 h,0<=y/\y<256:=by
 unfold Ze1;intro y hy;rcases List.mem_append.1 hy with hy|hy
 ·exact Zb3 (Zcm a.three) y hy
 ·exact ZfQ a.s (by have:=a.n;omega) y hy
theorem ZgB:∀ {L:List ZI},(∀ h∈L,Zg2 h)->(ZaQ L).length<=9036 * L.length
 |[],_=>Nat.le_refl _
 |h::L,a=>by
  have h1:=ZsP (a h List.mem_cons_self);have h2:=ZgB λ x hx=>a x (List.mem_cons_of_mem _ hx);show (Ze1 h++ZaQ L).length<=_;rw [List.length_append,List.length_cons];omega
theorem Zh6:∀ {L:List ZI},(∀ h∈L,Zg2 h)->∀ y∈ZaQ L,0<=y/\y<256
 |[],_=>λ y hy=>by cases hy
 |h::L,a=>by
  intro y hy;have hy:y∈Ze1 h++ZaQ L:=hy;rcases List.mem_append.1 hy with hy|hy
  ·exact Zvb (a h List.mem_cons_self) y hy
  ·exact Zh6 (λ x hx=>a x (List.mem_cons_of_mem _ hx)) y hy
theorem Znt {L:List ZI} {j:Nat} (h:j<L.length):ZaQ (L.take (j + 1))=ZaQ (L.take j)++Ze1 L[j]:=by
 unfold ZaQ;rw [List.take_add_one,List.getElem?_eq_getElem h,List.map_append,List.flatten_append];simp only [Option.toList_some,List.map_cons,List.map_nil,List.flatten_cons,List.flatten_nil,List.append_nil]
abbrev Zw1 (pb:Nat):Value:=.func (.func 132) #[] #[nP pb]
abbrev Ziy (bp pb:Nat):HP:=pts bp (.cells [Zw1 pb].toArray 113 (0,0))
theorem ZjZ {bn pb:Nat} {bs xs:List Int} {n:Nat} (hn:n=xs.length) (hxs:ZeV xs) (hl:bs.length + 9 * xs.length<=1099511627776) (hw:Sat R (pts bn (.cells (xs.map (Value.int .i64)).toArray 3 (0,0))::Zg1 pb bs::Hs) w):
  Zbq prog cl (Zw1 pb) [.slice (some ⟨bn,0,none⟩) n n] w λ e w'=>e=.returned (.tuple #[])/\Sat R (Zg1 pb (bs++Zl xs)::Hs) w':=by
 refine Zbq.mk (by kernel_rfl) ?_;have hw:=ZbH (n:=n) hw (by rw [List.length_map];exact hn);obtain ⟨R1,hr1,keep1,hw,back1⟩:=Own.lendI hw (by omega);refine (Zml (s:=⟨some ⟨bn,0,none⟩,n,n⟩) hxs hl hr1 hw).u λ w hw=>?_;exact ⟨rfl,(back1 hw).drop⟩
theorem ZgH {bp pb:Nat} {s:Sl} {xs bs:List Int} (hxs:ZeV xs) (hl:bs.length + 9 * xs.length<=1000000000) (hs:RoI R s xs) (hw:Sat R (Ziy bp pb::Zg1 pb bs::Hs) w):
  Zm prog 133 #[.slice s.a s.len s.cap,nP bp] w λ v w'=>v=.tuple #[]/\Sat R (Ziy bp pb::Zg1 pb (bs++Zdl xs)::Hs) w':=by
 have hsl:=hs.len;have h1:(Zl [(xs.length:Int)]).length<=9:=ZW (by intro y hy;simp at hy;omega);apply ZzE;refine Zc.mk rfl ⟨Zw1 pb,oA hw,?_⟩;rw [hsl];refine Za hw λ bn w hw=>?_;have hw:Sat R (pts bn (.cells ([(xs.length:Int)].map (Value.int .i64)).toArray 3 (0,0))::Zg1 pb bs::Ziy bp pb::Hs) w:=hw.cons λ _ h=>h.swap;refine (ZjZ (n:=1) (by rfl) (by intro y hy;simp at hy;omega) (by simp;omega) hw).mono ?_;rintro _ w ⟨rfl,hw⟩;refine ⟨rfl,Zc.mk rfl ⟨Zw1 pb,oA hw,Zbq.mk (by kernel_rfl) ?_⟩⟩;rw [<-hsl];refine (Zml hxs (by rw [List.length_append];omega) hs hw).u λ w hw=>?_;refine ⟨rfl,rfl,?_⟩;rw [List.append_assoc] at hw;exact hw.swap
end
section
open Go Go.VC Tryz
variable {R R':Cx} {Hs Rest:List HP} {w:World}
def Zbs (L:List ZI) (ts:List Sl):HP:=Zah (Zbh L ts)
structure RX where
 sg:Sl
 sl:Sl
 s:Sl
 ts:List Sl
def ZiF (q:Nat) (r:RF):HP:=exs λ x:RX=>
 Zah [pur (x.ts.length=r.L.length),Zz x.sg (Ze r.grps),Zz x.sl (Ze r.lims),pts q (ZK r x.sg x.sl x.s),Zs 4 x.s 197 (Zb9 r.L x.ts),Zbs r.L x.ts]
abbrev RO (q:Nat) (r:RF) (sg sl s:Sl) (ts:List Sl) (Hs:List HP):List HP:=Zz sg (Ze r.grps)::Zz sl (Ze r.lims)::pts q (ZK r sg sl s)::Zs 4 s 197 (Zb9 r.L ts)::Zbs r.L ts::Hs
theorem Sat.rf {q:Nat} {r:RF}:Sat R (ZiF q r::Hs) w↔∃ sg sl s ts,ts.length=r.L.length/\Sat R (RO q r sg sl s ts Hs) w:=by
 unfold ZiF;rw [Sat.exs];constructor
 ·rintro ⟨⟨sg,sl,s,ts⟩,h⟩
  obtain ⟨h1,h2⟩:=Sat.pur.1 (Sat.star.1 h);exact ⟨sg,sl,s,ts,h1,h2⟩
 ·rintro ⟨sg,sl,s,ts,h1,h2⟩
  exact ⟨⟨sg,sl,s,ts⟩,Sat.star.2 (Sat.pur.2 ⟨h1,h2⟩)⟩
theorem Zlm:∀ {L:List ZI} {ts:List Sl} {R:Cx},ts.length=L.length->Sat R (Zbh L ts++Hs) w->∃ R':Cx,R.Ext R'/\(∀ i (h:i<L.length) (h':i<ts.length),SlR R'.m ts[i] (Ze L[i].seats))/\Sat R' Hs w/\∀ Hs' w',Sat R' Hs' w'->Sat R (Zbh L ts++Hs') w'
 |[],_,R,_,hw=>⟨R,Cx.Ext.refl,λ i h=>by simp at h,by simpa [Zbh] using hw,λ Hs' w' h=>by simpa [Zbh] using h⟩
 |h::L,[],R,hl,_=>by simp at hl
 |h::L,t::ts,R,hl,hw=>by
  have hw:Sat R (Zz t (Ze h.seats)::(Zbh L ts++Hs)) w:=hw;obtain ⟨R1,e1,s1,hw,b1⟩:=Zz.out hw;obtain ⟨R2,e2,s2,hw,b2⟩:=Zlm (by simpa using hl) hw;refine ⟨R2,e1.trans e2,λ i h h'=>?_,hw,λ Hs' w' h=>b1 _ _ (b2 _ _ h)⟩;rcases i with _|i
  ·exact e2.slR s1
  ·exact s2 i (by simpa using h) (by simpa using h')
structure RfR (R:Cx) (r:RF) (sg sl s:Sl) (ts:List Sl):Prop where
 grps:SlR R.m sg (Ze r.grps)
 lims:SlR R.m sl (Ze r.lims)
 hs:HsR R s r.L ts
 cap:s.len<=s.cap
theorem RfR.len {r:RF} {sg sl s:Sl} {ts:List Sl} (h:RfR R r sg sl s ts):s.len=r.L.length:=by
 have:=h.hs.rows.len;rwa [ZcF h.hs.len] at this
theorem RO.out {q:Nat} {r:RF} {sg sl s:Sl} {ts:List Sl} (hl:ts.length=r.L.length) (hw:Sat R (RO q r sg sl s ts Hs) w):∃ R',R.Ext R'/\RfR R' r sg sl s ts/\Sat R' (pts q (ZK r sg sl s)::Hs) w/\∀ Hs' w',Sat R' (pts q (ZK r sg sl s)::Hs') w'->Sat R (RO q r sg sl s ts Hs') w':=by
 obtain ⟨R1,e1,g1,hw,b1⟩:=Zz.out hw;obtain ⟨R2,e2,g2,hw,b2⟩:=Zz.out hw;have hw:Sat R2 (Zs 4 s 197 (Zb9 r.L ts)::Zbs r.L ts::pts q (ZK r sg sl s)::Hs) w:=hw.arr;have hc:=Zs.cap (by omega) hw;obtain ⟨R3,g3,⟨x,hx⟩,hw,b3⟩:=Zs.lend hw;have e3:R2.Ext R3:=by rw [hx];exact Cx.Ext.add
 obtain ⟨R4,e4,g4,hw,b4⟩:=Zlm hl (Sat.star.1 hw);refine ⟨R4,e1.trans (e2.trans (e3.trans e4)),⟨e4.slR (e3.slR (e2.slR g1)),e4.slR (e3.slR g2),⟨hl,e4.roN g3,g4⟩,hc⟩,hw,λ Hs' w' h=>b1 _ _ (b2 _ _ ?_)⟩;have h1:Sat R2 (Zs 4 s 197 (Zb9 r.L ts)::Zbs r.L ts::pts q (ZK r sg sl s)::Hs') w':=b3 (Sat.star.2 (b4 _ _ h));exact h1.arr
theorem Sat.rfO {q:Nat} {r:RF} (hw:Sat R (ZiF q r::Hs) w):∃ sg sl s ts R',R.Ext R'/\RfR R' r sg sl s ts/\Sat R' (pts q (ZK r sg sl s)::Hs) w/\
  (∀ Hs' w',Sat R' (pts q (ZK r sg sl s)::Hs') w'->Sat R (RO q r sg sl s ts Hs') w')/\ts.length=r.L.length:=by
 obtain ⟨sg,sl,s,ts,hl,hw⟩:=Sat.rf.1 hw;obtain ⟨R',e,h,hw,b⟩:=RO.out hl hw;exact ⟨sg,sl,s,ts,R',e,h,hw,b,hl⟩
structure HCls (n:Nat) (h:ZI):Prop where
 c:0<=h.cls/\h.cls<n
 m:0<=h.many/\h.many<=10000
theorem Ztk {k:Int} {n:Nat}:∀ {L:List ZI},(∀ h∈L,HCls n h)->0<=Ze8 k L/\Ze8 k L<=10000 * L.length
 |[],_=>⟨Int.le_refl _,Int.le_refl _⟩
 |h::L,a=>by
  obtain ⟨i1,i2⟩:=Ztk (k:=k) λ x hx=>a x (List.mem_cons_of_mem _ hx);have:=(a h List.mem_cons_self).m;rw [ZdE,List.length_cons];split<;>omega
theorem Zud {n:Nat} {K:Sl->World->Prop} (hn:n<=1000) (hw:Sat R Hs w) (k:∀ s w',Sat R (Own s 3 (Ze (Z6 n []))::Hs) w'->K s w'):
  ∃ w',∃ t:Sl,(Instr.makeSlice 30 (nI (n:Int)) (nI (n:Int))).run prog w=.ok (.slice t.a t.len t.cap) w'/\K t w':=
 ZhV (bytes:=8) (z:=nI 0) underlying30 (by kernel_rfl) zeroValue3 rfl (by omega) (by omega) hw λ s w hw=>k s w (by
  have e:Ze (Z6 n [])=List.replicate n (nI 0):=by
   apply List.ext_getElem
   ·simp [Z6]
   ·intro i h1 h2;simp [Z6,Ze8]
  rw [e];exact hw)
theorem Zpq {q:Nat} {r:RF} {sg sl s:Sl} {ts:List Sl} (h:RfR R r sg sl s ts) (hll:r.L.length<=1000000) (hlm:r.lims.length<=1000) (hc:∀ x∈r.L,HCls r.lims.length x) (hw:Sat R (pts q (ZK r sg sl s)::Hs) w):
  Zm prog 127 #[nP q] w λ v w'=>∃ t:Sl,v=.slice t.a t.len t.cap/\Sat R (Own t 3 (Ze r.sold)::pts q (ZK r sg sl s)::Hs) w':=by
 have hsl:=h.len;have hl:=h.hs.len;have hlen:sl.len=r.lims.length:=by have:=h.lims.len;rwa [List.length_map] at this
 apply ZzH;refine Zc.mk rfl ⟨sl,oA hw,?_⟩;rw [hlen];refine Zud hlm hw λ t w hw=>?_;refine ⟨λ i w=>∃ j:Nat,i=j/\j<=r.L.length/\Sat R (Own t 3 (Ze (Z6 r.lims.length (r.L.take j)))::pts q (ZK r sg sl s)::Hs) w,λ i _=>r.L.length - i.toNat,⟨0,rfl,by omega,hw⟩,?_⟩;clear hw;rintro _ _ w ⟨j,rfl,hj,hw⟩;refine Zc.mk rfl ⟨s,oA hw,Br.d (λ h1=>?_) (λ h1=>?_)⟩
 ·have j1:j<r.L.length:=by omega
  have hx:=hc r.L[j] (List.getElem_mem _);obtain ⟨c,hce⟩:=Int.eq_ofNat_of_zero_le hx.c.1;have hcl:c<r.lims.length:=by have:=hx.c;omega
  have hcb:=Ztk (k:=(c:Int)) (n:=r.lims.length) (L:=r.L.take j) λ x hx=>hc x (List.mem_of_mem_take hx);rw [List.length_take,Nat.min_eq_left hj] at hcb;have hsll:=Za1 r.lims.length (r.L.take j);have hcv:(Z6 r.lims.length (r.L.take j))[c]'(by rw [hsll];exact hcl)=Ze8 (c:Int) (r.L.take j):=Zdt _;have hput:(Z6 r.lims.length (r.L.take j)).set c (Ze8 (c:Int) (r.L.take j) + r.L[j].many)=Z6 r.lims.length (r.L.take (j + 1)):=by
   have h5:=Zd6 (h:=r.L[j]) (L:=r.L.take j) (L':=r.L.take (j + 1)) (by
    rw [List.take_add_one,List.getElem?_eq_getElem j1];exact List.perm_append_comm) hx.c.1 hx.c.2
   rw [hce,Int.toNat_natCast,Zbu hcl] at h5;exact h5
  have hrow:∀ {S:World->Prop} {Hs:List HP} {i:Nat} {v:Value},(∀ w,S w->Sat R Hs w)->(ZkV r.L[j] (ts[j]'(by omega)))[i]? =some v->∀ {F:Addr->Prop},(∀ a:Addr,a.spot=none->At S ⟨(a.add (Zcp j 4)).block,(a.add (Zcp j 4)).off + i,none⟩ [v]->F a)->Rng (j:Int) s.len (Zc s.a F):=λ {S Hs i v} hS hv {F} f=>h.hs.fld hS j1 (by omega) hv f;refine Zo hw λ w hw=>?_;refine Zc.mk rfl ⟨s,oS,hrow (i:=1) Zbg rfl λ a1 _ h1=>⟨r.L[j].cls,h1,Zc.mk rfl ⟨s,oS,hrow (i:=1) Zbg rfl λ a2 _ h2=>⟨r.L[j].cls,h2,?_⟩⟩⟩⟩;rw [hce];refine Own.ix hw Zbg c rfl (by rw [hsll];omega) ?_;refine Zc.mk rfl ⟨s,oS,hrow (i:=2) Zbg rfl λ a3 _ h3=>⟨r.L[j].many,h3,?_⟩⟩;rw [hcv,Zf (by have:=hx.m;omega) (by have:=hx.m;omega)];refine Own.store (by kernel_rfl) hw (by rw [hsll];omega) λ w hw=>?_;rw [hput] at hw;rw [Zf];exact ⟨⟨j + 1,by omega,by omega,hw⟩,by dsimp only;omega⟩
 ·rw [List.take_of_length_le (by omega)] at hw
  exact ⟨t,rfl,hw⟩
theorem ZmO {L:List ZI} {j:Nat} (h:j<L.length):Zx (L.take (j + 1))=Zx (L.take j)++L[j].seats:=by
 unfold Zx;rw [List.take_add_one,List.getElem?_eq_getElem h,List.flatMap_append];simp only [Option.toList_some,List.flatMap_cons,List.flatMap_nil,List.append_nil]
theorem ZiM:∀ {L:List ZI},(∀ h∈L,h.seats.length<=1000)->(Zx L).length<=1000 * L.length
 |[],_=>Nat.le_refl _
 |h::L,a=>by
  have h1:=a h List.mem_cons_self;have h2:=ZiM λ x hx=>a x (List.mem_cons_of_mem _ hx);show (h.seats++Zx L).length<=_;rw [List.length_append,List.length_cons];omega
end
section
open Go Go.VC Tryz
section
variable {β:Type}
theorem ZaH (k:Int) (e:Int × β) (l:List (Int × β)):ZO k (e::l)=if k=e.1 then some e.2 else ZO k l:=by
 show (if k==e.1 then some e.2 else ZO k l)=_
 by_cases h:k=e.1
 ·rw [if_pos h,if_pos (beq_iff_eq.2 h)]
 ·rw [if_neg h,if_neg (λ h'=>h (beq_iff_eq.1 h'))]
theorem Zf3 {k:Int}:∀ {l:List (Int × β)},(ZO k l).isSome=true↔k∈l.map (·.1)
 |[]=>by simp [ZO]
 |e::l=>by
  rw [ZaH,List.map_cons,List.mem_cons];split
  ·rename_i h;simp [h]
  ·rename_i h;rw [Zf3 (l:=l)];simp [h]
theorem Zny {k:Int} {l:List (Int × β)}:ZO k l=none↔k ∉ l.map (·.1):=by
 rw [<-Zf3,Option.isSome_iff_ne_none];simp
theorem Zmg (k:Int):∀ (a b:List (Int × β)),ZO k (a++b)=if k∈a.map (·.1) then ZO k a else ZO k b
 |[],b=>by simp
 |e::a,b=>by
  show ZO k (e::(a++b))=_;rw [ZaH,ZaH,Zmg k a b,List.map_cons];by_cases h:k=e.1
  ·rw [if_pos h,if_pos (by rw [h];exact List.mem_cons_self),if_pos h]
  ·rw [if_neg h,if_neg h]
   by_cases h2:k∈a.map (·.1)
   ·rw [if_pos h2,if_pos (List.mem_cons_of_mem _ h2)]
   ·rw [if_neg h2,if_neg]
    intro h3;rcases List.mem_cons.1 h3 with h3|h3
    ·exact h h3
    ·exact h2 h3
theorem Zll {k:Int} {v:β}:∀ {l:List (Int × β)},(ZgQ k v l).map (·.1)=l.map (·.1)
 |[]=>rfl
 |e::l=>by
  show List.map _ (if k==e.1 then (e.1,v)::l else e::ZgQ k v l)=_
  split
  ·rfl
  ·rw [List.map_cons,Zll];rfl
theorem Zme {k k':Int} {v:β}:∀ {l:List (Int × β)},(ZO k l).isSome=true->ZO k' (ZgQ k v l)=if k'=k then some v else ZO k' l
 |[],h=>by cases h
 |e::l,h=>by
  show ZO k' (if k==e.1 then (e.1,v)::l else e::ZgQ k v l)=_
  rw [ZaH] at h;by_cases h1:k=e.1
  ·rw [if_pos (beq_iff_eq.2 h1),ZaH,ZaH,h1]
   split<;>rfl
  ·rw [if_neg h1] at h
   rw [if_neg (λ h'=>h1 (beq_iff_eq.1 h')),ZaH,ZaH,Zme h];by_cases h2:k'=e.1
   ·rw [if_pos h2,if_pos h2,if_neg (λ h3=>h1 (h3.symm.trans h2))]
   ·rw [if_neg h2,if_neg h2]
theorem Zh8 (k k':Int) (v:β) (l:List (Int × β)):ZO k' (Ze4 k v l)=if k'=k then some v else ZO k' l:=by
 unfold Ze4;split
 ·rename_i h;exact Zme h
 ·rename_i h
  rw [Zmg];have hk:ZO k l=none:=by cases hg:ZO k l with|none=>rfl|some x=>rw [hg] at h;simp at h
  by_cases h1:k'=k
  ·rw [if_pos h1,if_neg (by rw [h1];exact Zny.1 hk),ZaH,if_pos h1]
  ·rw [if_neg h1]
   by_cases h2:k'∈l.map (·.1)
   ·rw [if_pos h2]
   ·rw [if_neg h2,ZaH,if_neg h1,Zny.2 h2];rfl
theorem Zgu {k:Int} {v:β} {l:List (Int × β)} (h:(l.map (·.1)).Nodup):((Ze4 k v l).map (·.1)).Nodup:=by
 unfold Ze4;split
 ·rw [Zll];exact h
 ·rename_i hk
  rw [List.map_append,List.nodup_append];refine ⟨h,by simp,λ a ha b hb=>?_⟩;rw [List.map_cons,List.map_nil,List.mem_singleton] at hb;rintro rfl;rw [hb] at ha;exact hk (Zf3.2 ha)
theorem ZkG (k:Int):∀ l:List (Int × β),(Zfy k l).Sublist l
 |[]=>List.Sublist.refl _
 |e::l=>by
  show (if k==e.1 then l else e::Zfy k l).Sublist _
  split
  ·exact List.sublist_cons_self _ _
  ·exact (ZkG k l).cons_cons e
theorem Zqe {k:Int} {l:List (Int × β)} (h:(l.map (·.1)).Nodup):((Zfy k l).map (·.1)).Nodup:=h.sublist ((ZkG k l).map _)
theorem Zmf {k k':Int}:∀ {l:List (Int × β)},(l.map (·.1)).Nodup->ZO k' (Zfy k l)=if k'=k then none else ZO k' l
 |[],_=>by simp [ZO,Zfy]
 |e::l,h=>by
  rw [List.map_cons,List.nodup_cons] at h;show ZO k' (if k==e.1 then l else e::Zfy k l)=_
  by_cases h1:k=e.1
  ·rw [if_pos (beq_iff_eq.2 h1),ZaH]
   by_cases h2:k'=k
   ·rw [if_pos h2,Zny];rw [h2,h1];exact h.1
   ·rw [if_neg h2,if_neg (λ h3=>h2 (h3.trans h1.symm))]
  ·rw [if_neg (λ h'=>h1 (beq_iff_eq.1 h')),ZaH,ZaH,Zmf h.2]
   by_cases h2:k'=e.1
   ·rw [if_pos h2,if_pos h2,if_neg (λ h3=>h1 (h3.symm.trans h2))]
   ·rw [if_neg h2,if_neg h2]
theorem Zqf {l:List Int}:∀ {own:List (Int × Int)},(own.map (·.1)).Nodup->((Zcr l own).map (·.1)).Nodup/\∀ n,ZO n (Zcr l own)=if n∈l then none else ZO n own:=by
 induction l with
 |nil=>exact λ h=>⟨h,λ n=>by simp [Zcr]⟩
 |cons x l ih=>
  intro own h;obtain ⟨h1,h2⟩:=ih (own:=Zfy x own) (Zqe h);refine ⟨h1,λ n=>?_⟩;have e:Zcr (x::l) own=Zcr l (Zfy x own):=rfl;rw [e,h2,Zmf h];by_cases hn:n∈l
  ·rw [if_pos hn,if_pos (List.mem_cons_of_mem _ hn)]
  ·rw [if_neg hn]
   by_cases hx:n=x
   ·rw [if_pos hx,if_pos (by rw [hx];exact List.mem_cons_self)]
   ·rw [if_neg hx,if_neg]
    intro h3;rcases List.mem_cons.1 h3 with h3|h3
    ·exact hx h3
    ·exact hn h3
theorem ZpG {o:Int} {l:List Int}:∀ {own:List (Int × Int)},(own.map (·.1)).Nodup->((Zd9 o l own).map (·.1)).Nodup/\∀ n,ZO n (Zd9 o l own)=if n∈l then some o else ZO n own:=by
 induction l with
 |nil=>exact λ h=>⟨h,λ n=>by simp [Zd9]⟩
 |cons x l ih=>
  intro own h;obtain ⟨h1,h2⟩:=ih (own:=Ze4 x o own) (Zgu h);refine ⟨h1,λ n=>?_⟩;have e:Zd9 o (x::l) own=Zd9 o l (Ze4 x o own):=rfl;rw [e,h2,Zh8];by_cases hn:n∈l
  ·rw [if_pos hn,if_pos (List.mem_cons_of_mem _ hn)]
  ·rw [if_neg hn]
   by_cases hx:n=x
   ·rw [if_pos hx,if_pos (by rw [hx];exact List.mem_cons_self)]
   ·rw [if_neg hx,if_neg]
    intro h3;rcases List.mem_cons.1 h3 with h3|h3
    ·exact hx h3
    ·exact hn h3
end
theorem Zb4 {n x:Int}:∀ {l:List Int},x∈Zh3 n l↔x=n\/x∈l
 |[]=>by simp [Zh3]
 |y::l=>by
  unfold Zh3;split
  ·rw [List.mem_cons,Zb4,List.mem_cons]
   constructor
   ·rintro (h|h|h)
    ·exact .inr (.inl h)
    ·exact .inl h
    ·exact .inr (.inr h)
   ·rintro (h|h|h)
    ·exact .inr (.inl h)
    ·exact .inl h
    ·exact .inr (.inr h)
  ·rw [List.mem_cons]
theorem ZfI {l:List Int}:Zqz l↔l.Pairwise (·<·):=by
 rw [List.pairwise_iff_getElem];exact ⟨λ h i j hi hj hij=>h i j hj hij,λ h i j hj hij=>h i j (by omega) hj hij⟩
theorem Zno {n:Int}:∀ {l:List Int},l.Pairwise (·<·)->n ∉ l->(Zh3 n l).Pairwise (·<·)
 |[],_,_=>by simp [Zh3]
 |x::l,hp,hn=>by
  obtain ⟨h1,h2⟩:=List.pairwise_cons.1 hp;have hx:n≠x:=λ e=>hn (by rw [e];exact List.mem_cons_self);unfold Zh3;split
  ·refine List.pairwise_cons.2 ⟨λ y hy=>?_,Zno h2 λ h=>hn (List.mem_cons_of_mem _ h)⟩
   rcases Zb4.1 hy with rfl|hy
   ·assumption
   ·exact h1 y hy
  ·refine List.pairwise_cons.2 ⟨λ y hy=>?_,hp⟩
   rcases List.mem_cons.1 hy with rfl|hy
   ·omega
   ·have:=h1 y hy;omega
theorem Zeh {sold:List Int} {c:Nat} {m:Int} (hc:c<sold.length):∀ (t k:Nat),k + t=sold.length->ZaN (sold.set c (sold.getD c 0 + m)) k=ZaN sold k + (if k<=c then m else 0)
 |0,k,h=>by
  rw [Zcj (by rw [List.length_set];omega),Zcj (by omega),if_neg (by omega)];rfl
 |t + 1,k,h=>by
  have ih:=Zeh (m:=m) hc t (k + 1) (by omega);rw [Za9 (k:=k) (by rw [List.length_set];omega),Za9 (sold:=sold) (k:=k) (by omega),ih,List.getElem_set];by_cases e:c=k
  ·subst e
   rw [if_pos rfl,if_neg (by omega),if_pos (Nat.le_refl _),Z0 hc];omega
  ·rw [if_neg e]
   by_cases h2:k<=c
   ·rw [if_pos (by omega),if_pos h2];omega
   ·rw [if_neg (by omega),if_neg h2];omega
def ZmG:List ZI->Int
 |[]=>0
 |h::L=>h.many + ZmG L
theorem ZfC (n:Nat):Z6 n []=List.replicate n 0:=by
 apply List.ext_getElem
 ·simp [Z6]
 ·intro i h1 h2;rw [Zdt];simp [Ze8]
theorem ZgE (n:Nat):∀ t k:Nat,k + t=n->ZaN (List.replicate n (0:Int)) k=0
 |0,k,h=>Zcj (by rw [List.length_replicate];omega)
 |t + 1,k,h=>by rw [Za9 (by rw [List.length_replicate];omega),ZgE n t (k + 1) (by omega)];simp
theorem Zk4 {n:Nat}:∀ {L:List ZI},(∀ h∈L,0<=h.cls/\h.cls<n)->ZaN (Z6 n L) 0=ZmG L
 |[],_=>by rw [ZfC,ZgE n n 0 (by omega)];rfl
 |h::L,hc=>by
  have h0:=hc h List.mem_cons_self;have ih:=Zk4 λ x hx=>hc x (List.mem_cons_of_mem _ hx);rw [<-Zd6 (List.Perm.refl (h::L)) h0.1 h0.2,Zeh (by rw [Za1];omega) n 0 (by rw [Za1];omega),if_pos (by omega),ih];show _=h.many + ZmG L;omega
theorem Zim {k:Int}:∀ {L:List ZI},(∀ h∈L,1<=h.many)->0<=Ze8 k L
 |[],_=>Int.le_refl _
 |h::L,hm=>by
  have ih:=Zim (k:=k) λ x hx=>hm x (List.mem_cons_of_mem _ hx);have h1:=hm h List.mem_cons_self;rw [ZdE];split<;>omega
theorem Zsk {lim a b:List Int} (h:Z8 lim a=true) (hl:b.length=a.length) (hb:∀ k,k<lim.length->0<=b.getD k 0/\b.getD k 0<=a.getD k 0):Z8 lim b=true:=by
 obtain ⟨h1,h2,h3⟩:=ZT.1 h;refine ZT.2 ⟨h1,hl.trans h2,λ k hk=>⟨⟨(hb k hk).1,Int.le_trans (hb k hk).2 (h3 k hk).1.2⟩,?_⟩⟩;refine Int.le_trans ?_ (h3 k hk).2;have key:∀ t k:Nat,k + t=lim.length->ZaN b k<=ZaN a k:=by
  intro t
  induction t with
  |zero=>intro k hk;rw [Zcj (by omega),Zcj (by omega)];exact Int.le_refl _
  |succ t ih=>
   intro k hk;rw [Za9 (sold:=b) (by omega),Za9 (sold:=a) (by omega)];have e1:=ih (k + 1) (by omega);have e2:=(hb k (by omega)).2;rw [Z0 (by omega),Z0 (by omega)] at e2;omega
 exact key (lim.length - k) k (by omega)
theorem ZhP {lim:List Int} (h:Zfo lim=true):Z8 lim (List.replicate lim.length 0)=true:=by
 refine ZT.2 ⟨h,by simp,λ k hk=>?_⟩;rw [ZgE lim.length (lim.length - k) k (by omega),List.getD_eq_getElem?_getD];have:=(Zan.1 h).2 k hk;rw [Z0 hk];simp [hk];omega
theorem ZoF {a:List Int} (h:∀ k,k<a.length->0<=a.getD k 0):∀ t k:Nat,k + t=a.length->0<=ZaN a k
 |0,k,e=>by rw [Zcj (by omega)];exact Int.le_refl _
 |t + 1,k,e=>by
  have h1:=ZoF h t (k + 1) (by omega);have h2:=h k (by omega);rw [Z0 (by omega)] at h2;rw [Za9 (by omega)];omega
theorem ZhQ {lim sold:List Int} {c many:Int} (h:(Zbc lim sold c many).2=0):
  (Zbc lim sold c many).1=sold.set c.toNat (sold.getD c.toNat 0 + many)/\Z8 lim (Zbc lim sold c many).1=true/\0<=c/\c<lim.length/\1<=many:=by
 unfold Zbc at h ⊢;split at h
 ·cases h
 split at h
 ·cases h
 rename_i h1 h2;rw [if_neg h1,if_neg h2];have h3:(ZbJ lim sold c).2=0:=Classical.byContradiction λ e=>h1 (.inl e);obtain ⟨hn,hc0,hc1⟩:=Znh h3;have hl:(ZbJ lim sold c).1=mnF (Zd8 lim sold) (c.toNat + 1):=by unfold ZbJ;rw [if_pos ⟨hn,hc0,hc1⟩]
 rw [hl] at h2;obtain ⟨i1,i2,i3⟩:=ZT.1 hn;have hm:=Zos (Zd8 lim sold) (c.toNat + 1)
 suffices key:Z8 lim (sold.set c.toNat (sold.getD c.toNat 0 + many))=true from ⟨rfl,key,hc0,hc1,by omega⟩
 refine ZT.2 ⟨i1,by rw [List.length_set];exact i2,λ k hk=>?_⟩;have hf:=Zeh (sold:=sold) (c:=c.toNat) (m:=many) (by omega) (lim.length - k) k (by omega);have hk3:=i3 k hk;have hle:ZaN (sold.set c.toNat (sold.getD c.toNat 0 + many)) k<=lim.getD k 0:=by
  rw [hf];split
  ·have h5:mnF (Zd8 lim sold) (c.toNat + 1)<=lim.getD k 0 - ZaN sold k:=hm.2.1 k (by omega) (by omega)
   omega
  ·omega
 refine ⟨?_,hle⟩;have hnn:∀ j,j<(sold.set c.toNat (sold.getD c.toNat 0 + many)).length->0<=(sold.set c.toNat (sold.getD c.toNat 0 + many)).getD j 0:=λ j hj=>by
  rw [List.length_set] at hj;rw [Z0 (by rw [List.length_set];exact hj),List.getElem_set];have hj3:=i3 j (by omega);rw [Z0 hj] at hj3;split
  ·rename_i e
   have h9:=i3 c.toNat (by omega);omega
  ·omega
 have h0:=hnn k (by rw [List.length_set];omega);refine ⟨h0,?_⟩;have hs:=Za9 (sold:=sold.set c.toNat (sold.getD c.toNat 0 + many)) (k:=k) (by rw [List.length_set];omega);have hg:=ZoF hnn (lim.length - (k + 1)) (k + 1) (by rw [List.length_set];omega);have hlk:=((Zan.1 i1).2 k hk).1.2;rw [Z0 (by rw [List.length_set];omega)];rw [Z0 hk] at hle;omega
variable {f:PF} {r:RF}
theorem ZcP {L:List ZI} {x:Int}:x∈Zx L↔∃ h∈L,x∈h.seats:=List.mem_flatMap
theorem ZjG (t:Tie f r) (g:ZaM r) (o c m:Int):(Zd5 f o c m).2=(ZQ r o c m).2/\Tie (Zd5 f o c m).1 (ZQ r o c m).1/\ZaM (ZQ r o c m).1:=by
 unfold Zd5 ZQ;rw [t.get g.rise,t.lims,t.sold];split
 ·exact ⟨rfl,t,g⟩
 rename_i ho;split
 ·exact ⟨rfl,t,g⟩
 rename_i hn;have hno:Zcq o r.L=none:=by cases e:Zcq o r.L with|none=>rfl|some x=>rw [e] at hn;simp at hn
 split
 ·rename_i hs
  obtain ⟨e1,e2,c0,c1,hm⟩:=ZhQ hs;have hsold:(Zbc r.lims r.sold c m).1=Z6 r.lims.length (Zma ⟨o,c,m,[]⟩ r.L):=by
   rw [e1];exact Zd6 (h:=⟨o,c,m,[]⟩) (ZbK _ _) c0 c1
  refine ⟨rfl,⟨t.num,t.rows,t.grps,rfl,hsold,?_,?_,?_,t.nod⟩,⟨g.num,g.lay,?_,g.l0,Zl9 g.rise hno,?_,?_⟩⟩
  ·show ((f.hs++[(o,(⟨o,c,m,[]⟩:ZI))]).map (·.2)).Perm _
   rw [List.map_append];refine (List.perm_append_comm.trans ?_).trans (ZbK _ _).symm;exact t.hs.cons _
  ·intro e he
   rcases List.mem_append.1 he with he|he
   ·exact t.key e he
   ·rw [List.mem_singleton.1 he]
  ·intro n o'
   show ZO n f.own=some o'↔_;rw [t.own];constructor
   ·rintro ⟨h,hh,e,hs⟩;exact ⟨h,(ZbK _ _).mem_iff.2 (List.mem_cons_of_mem _ hh),e,hs⟩
   ·rintro ⟨h,hh,e,hs⟩
    rcases List.mem_cons.1 ((ZbK _ _).mem_iff.1 hh) with rfl|hh
    ·cases hs
    ·exact ⟨h,hh,e,hs⟩
  ·show Z8 r.lims (Z6 r.lims.length (Zma ⟨o,c,m,[]⟩ r.L))=true
   rw [<-hsold];exact e2
  ·intro h hh
   rcases List.mem_cons.1 ((ZbK _ _).mem_iff.1 hh) with rfl|hh
   ·exact ⟨by dsimp only;omega,⟨c0,c1⟩,hm,λ i j hj=>by simp at hj,by simp;omega,λ x hx=>by cases hx⟩
   ·exact g.each h hh
  ·show (Zma ⟨o,c,m,[]⟩ r.L).Pairwise _
   refine ((ZbK _ _).pairwise_iff λ {a b} h x hx hx'=>h x hx' hx).2 (List.pairwise_cons.2 ⟨λ y _ x hx=>(by cases hx),g.apart⟩)
 ·exact ⟨rfl,t,g⟩
theorem Zlf {n:Nat} {A C:List ZI} {h h':ZI} (e1:h'.cls=h.cls) (e2:h'.many=h.many):Z6 n (A++h'::C)=Z6 n (A++h::C):=by
 unfold Z6;refine List.map_congr_left λ k _=>?_;rw [ZeQ,ZeQ];simp only [Ze8,e1,e2]
theorem Zis {A C:List ZI} {h:ZI} (g:(A++h::C).Pairwise λ a b=>∀ x∈a.seats,x ∉ b.seats):(∀ y∈A++C,∀ x∈h.seats,x ∉ y.seats)/\(A++C).Pairwise λ a b=>∀ x∈a.seats,x ∉ b.seats:=by
 have p:(A++h::C).Perm (h::(A++C)):=List.perm_middle;have:=(p.pairwise_iff λ {a b} h x hx hx'=>h x hx' hx).1 g;exact List.pairwise_cons.1 this
theorem Zke {A C:List ZI} {h y:ZI} (hy:y∈A++C):y∈A++h::C:=by
 rw [List.mem_append] at hy;rw [List.mem_append,List.mem_cons];rcases hy with hy|hy
 ·exact .inl hy
 ·exact .inr (.inr hy)
theorem Zkr {A C:List ZI} {h h':ZI} (g:ZaM r) (hL:r.L=A++h::C) (e1:h'.owner=h.owner) (e2:h'.cls=h.cls) (e3:h'.many=h.many) (hr:Zqz h'.seats) (hf:(h'.seats.length:Int)<=h.many)
  (hs:∀ x∈h'.seats,x∈h.seats\/(x ∉ Zx r.L/\0<=x/\x<Za5 r.rows r.grps)):ZaM { r with L:=A++h'::C }:=by
 have hh:=g.each h (by rw [hL];simp);have hap:=g.apart;rw [hL] at hap;obtain ⟨a1,a2⟩:=Zis hap;refine ⟨g.num,g.lay,?_,g.l0,?_,?_,?_⟩
 ·show Z8 r.lims (Z6 r.lims.length (A++h'::C))=true
  rw [Zlf e2 e3,<-hL];exact g.nest
 ·have:=g.rise;rw [hL] at this;exact Zw4 e1 this
 ·intro x hx
  show ZwA r.lims.length (Za5 r.rows r.grps) x;have hx:x∈A++h'::C:=hx;rw [List.mem_append,List.mem_cons] at hx;rcases hx with hx|rfl|hx
  ·exact g.each x (by rw [hL];simp [hx])
  ·exact ⟨by rw [e1];exact hh.owner,by rw [e2];exact hh.cls,by rw [e3];exact hh.many,hr,by rw [e3];exact hf,λ y hy=>by
    rcases hs y hy with hy|hy
    ·exact hh.seats y hy
    ·exact hy.2⟩
  ·exact g.each x (by rw [hL];simp [hx])
 ·show (A++h'::C).Pairwise _
  refine ((List.perm_middle (a:=h') (l₁:=A) (l₂:=C)).pairwise_iff λ {a b} h x hx hx'=>h x hx' hx).2 (List.pairwise_cons.2 ⟨λ y hy x hx=>?_,a2⟩);rcases hs x hx with hx|hx
  ·exact a1 y hy x hx
  ·exact λ hxy=>hx.1 (ZcP.2 ⟨y,by rw [hL];exact Zke hy,hxy⟩)
theorem ZmN {A C:List ZI} {h h':ZI} {own':List (Int × Int)} (t:Tie f r) (g:ZaM r) (hL:r.L=A++h::C) (hA:Zcq h.owner A=none) (e1:h'.owner=h.owner) (e2:h'.cls=h.cls) (e3:h'.many=h.many)
  (hs:∀ x∈h'.seats,x∈h.seats\/x ∉ Zx r.L) (hn:(own'.map (·.1)).Nodup) (ho:∀ n,ZO n own'=if n∈h'.seats then some h.owner else if n∈h.seats then none else ZO n f.own):
  Tie { f with hs:=ZgQ h.owner h' f.hs,own:=own' } { r with L:=A++h'::C }:=by
 have hap:=g.apart;rw [hL] at hap;obtain ⟨a1,a2⟩:=Zis hap;have hg:ZO h.owner f.hs=some h:=by rw [t.get g.rise,hL];exact Zku rfl hA
 obtain ⟨a,c,hsp,hna⟩:=ZaG hg;have hset:ZgQ h.owner h' f.hs=a++(h.owner,h')::c:=by rw [hsp];exact Zhb hna (Zgz _)
 refine ⟨t.num,t.rows,t.grps,t.lims,?_,?_,?_,?_,hn⟩
 ·show f.sold=Z6 r.lims.length (A++h'::C)
  rw [Zlf e2 e3,<-hL];exact t.sold
 ·show ((ZgQ h.owner h' f.hs).map (·.2)).Perm (A++h'::C)
  have p:=t.hs;rw [hsp,hL,List.map_append,List.map_cons] at p;rw [hset,List.map_append,List.map_cons];have p2:=(List.perm_middle.symm.trans p).trans List.perm_middle;exact (List.perm_middle.trans (p2.cons_inv.cons h')).trans List.perm_middle.symm
 ·show ∀ e∈ZgQ h.owner h' f.hs,e.2.owner=e.1
  rw [hset];intro e he;rw [List.mem_append,List.mem_cons] at he;rcases he with he|rfl|he
  ·exact t.key e (by rw [hsp];simp [he])
  ·exact e1
  ·exact t.key e (by rw [hsp];simp [he])
 ·intro n o
  show ZO n own'=some o↔∃ x∈A++h'::C,x.owner=o/\n∈x.seats;rw [ho];constructor
  ·intro e
   split at e
   ·rename_i hn';cases e
    exact ⟨h',by simp,e1,hn'⟩
   ·split at e
    ·cases e
    ·rename_i h1 h2
     obtain ⟨x,hx,hxo,hxn⟩:=(t.own n o).1 e;rw [hL,List.mem_append,List.mem_cons] at hx;rcases hx with hx|rfl|hx
     ·exact ⟨x,by simp [hx],hxo,hxn⟩
     ·exact absurd hxn h2
     ·exact ⟨x,by simp [hx],hxo,hxn⟩
  ·rintro ⟨x,hx,hxo,hxn⟩
   rw [List.mem_append,List.mem_cons] at hx;have other:x∈A++C->(if n∈h'.seats then some h.owner else if n∈h.seats then none else ZO n f.own)=some o:=λ hx=>by
    have hxL:x∈r.L:=by rw [hL];exact Zke hx
    have n1:n ∉ h.seats:=λ hh=>a1 x hx n hh hxn;have n2:n ∉ h'.seats:=λ hh=>by
     rcases hs n hh with hh|hh
     ·exact n1 hh
     ·exact hh (ZcP.2 ⟨x,hxL,hxn⟩)
    rw [if_neg n2,if_neg n1];exact (t.own n o).2 ⟨x,hxL,hxo,hxn⟩
   rcases hx with hx|rfl|hx
   ·exact other (by simp [hx])
   ·rw [if_pos hxn,<-hxo,e1]
   ·exact other (by simp [hx])
theorem ZnX (t:Tie f r) (g:ZaM r) (o:Int) (lab:ByteArray) (hf:∀ k,Zbk r.rows r.grps lab=(k,0)->0<=k/\k<Za5 r.rows r.grps):
  (Zff f o lab).2=(Z7 r o lab).2/\Tie (Zff f o lab).1 (Z7 r o lab).1/\ZaM (Z7 r o lab).1:=by
 unfold Zff Z7;rw [t.get g.rise];cases hg:Zcq o r.L with
 |none=>exact ⟨rfl,t,g⟩
 |some h=>
  obtain ⟨A,C,hL,hA,rfl⟩:=Zb1 hg;have hh:=g.each h (by rw [hL];simp);dsimp only;rw [show Zbk f.rows f.grps lab=Zbk r.rows r.grps lab by rw [t.rows,t.grps]];split
  ·exact ⟨rfl,t,g⟩
  rename_i h2;split
  ·exact ⟨rfl,t,g⟩
  rename_i h3;have hfe:(Zbk r.rows r.grps lab).2=0:=Classical.byContradiction h2;have hb:=hf (Zbk r.rows r.grps lab).1 (by rw [<-hfe]);by_cases h4:(Zbk r.rows r.grps lab).1∈Zx r.L
  ·rw [if_pos ((t.taken _).2 h4),if_pos h4];exact ⟨rfl,t,g⟩
  ·rw [if_neg (λ e=>h4 ((t.taken _).1 e)),if_neg h4]
   generalize (Zbk r.rows r.grps lab).1=n at *;have hset:Zri h.owner (h.put n) r.L=A++h.put n::C:=by rw [hL];exact ZfE rfl hA
   rw [hset];have hnh:n ∉ h.seats:=λ e=>h4 (ZcP.2 ⟨h,by rw [hL];simp,e⟩);have hs:∀ x∈(h.put n).seats,x∈h.seats\/(x ∉ Zx r.L/\0<=x/\x<Za5 r.rows r.grps):=λ x hx=>by
    rcases Zb4.1 hx with rfl|hx
    ·exact .inr ⟨h4,hb⟩
    ·exact .inl hx
   refine ⟨rfl,ZmN (h':=h.put n) t g hL hA rfl rfl rfl (λ x hx=>(hs x hx).imp id (·.1)) (Zgu t.nod) λ x=>?_,Zkr (h':=h.put n) g hL rfl rfl rfl ?_ ?_ hs⟩
   ·rw [Zh8]
    show _=if x∈Zh3 n h.seats then some h.owner else _
    by_cases hx:x=n
    ·rw [if_pos hx,if_pos (Zb4.2 (.inl hx))]
    ·rw [if_neg hx]
     by_cases hx2:x∈h.seats
     ·rw [if_pos (Zb4.2 (.inr hx2))]
      exact (t.own x h.owner).2 ⟨h,by rw [hL];simp,rfl,hx2⟩
     ·rw [if_neg (λ e=>(Zb4.1 e).elim hx hx2),if_neg hx2]
   ·exact ZfI.2 (Zno (ZfI.1 hh.rise) hnh)
   ·show ((Zh3 n h.seats).length:Int)<=_
    rw [Zkl];omega
theorem ZnZ (t:Tie f r) (g:ZaM r) (o:Int):(Zkt f o).2=(Zca r o).2/\Tie (Zkt f o).1 (Zca r o).1/\ZaM (Zca r o).1:=by
 unfold Zkt Zca;rw [t.get g.rise];cases hg:Zcq o r.L with
 |none=>exact ⟨rfl,t,g⟩
 |some h=>
  obtain ⟨A,C,hL,hA,rfl⟩:=Zb1 hg;have hh:=g.each h (by rw [hL];simp);have hmany:∀ x∈r.L,1<=x.many:=λ x hx=>(g.each x hx).many;have hap:=g.apart;rw [hL] at hap;obtain ⟨a1,a2⟩:=Zis hap;dsimp only;have hdel:Zwj h.owner r.L=A++C:=by rw [hL];exact ZkF rfl hA
  rw [hdel];have p:r.L.Perm (h::(A++C)):=by rw [hL];exact List.perm_middle
  have hout:r.sold.set h.cls.toNat (r.sold.getD h.cls.toNat 0 - h.many)=Z6 r.lims.length (A++C):=Zrb p hh.cls.1 hh.cls.2;have hle:h.many<=r.sold.getD h.cls.toNat 0:=by
   show _<=(Z6 r.lims.length r.L).getD _ 0;have hcl:=hh.cls;rw [Zbu (by omega),ZdD p,show ((h.cls.toNat:Nat):Int)=h.cls by omega];have:=Zim (k:=h.cls) (L:=A++C) λ x hx=>hmany x (by rw [hL];exact Zke hx);show h.many<=(if h.cls=h.cls then h.many else 0) + _
   rw [if_pos rfl];omega
  have hback:Zgh f.lims f.sold h.cls h.many=(Z6 r.lims.length (A++C),0):=by
   rw [t.lims,t.sold];unfold Zgh;have hl:(ZbJ r.lims r.sold h.cls).2=0:=by unfold ZbJ;rw [if_pos ⟨g.nest,hh.cls.1,hh.cls.2⟩]
   rw [if_neg (by rw [hl];have:=hh.many;omega),hout]
  rw [hback];have hg2:ZO h.owner f.hs=some h:=by rw [t.get g.rise];exact hg
  obtain ⟨a,c,hsp,hna⟩:=ZaG hg2;have hdm:Zfy h.owner f.hs=a++c:=by rw [hsp];exact ZeO hna (Zgz _)
  obtain ⟨d1,d2⟩:=Zqf (l:=h.seats) t.nod;refine ⟨rfl,⟨t.num,t.rows,t.grps,t.lims,rfl,?_,?_,?_,d1⟩,⟨g.num,g.lay,?_,g.l0,?_,?_,a2⟩⟩
  ·show ((Zfy h.owner f.hs).map (·.2)).Perm (A++C)
   have p:=t.hs;rw [hsp,hL,List.map_append,List.map_cons] at p;rw [hdm,List.map_append];exact ((List.perm_middle.symm.trans p).trans List.perm_middle).cons_inv
  ·show ∀ e∈Zfy h.owner f.hs,e.2.owner=e.1
   intro e he;exact t.key e ((ZkG _ _).subset he)
  ·intro n o'
   show ZO n (Zcr h.seats f.own)=some o'↔∃ x∈A++C,x.owner=o'/\n∈x.seats;rw [d2];constructor
   ·intro e
    split at e
    ·cases e
    ·rename_i hn
     obtain ⟨x,hx,hxo,hxn⟩:=(t.own n o').1 e;rcases List.mem_cons.1 (p.mem_iff.1 hx) with rfl|hx
     ·exact absurd hxn hn
     ·exact ⟨x,hx,hxo,hxn⟩
   ·rintro ⟨x,hx,hxo,hxn⟩
    rw [if_neg (λ hh=>a1 x hx n hh hxn)];exact (t.own n o').2 ⟨x,p.mem_iff.2 (List.mem_cons_of_mem _ hx),hxo,hxn⟩
  ·refine Zsk g.nest (by show (Z6 _ _).length=(Z6 _ _).length;rw [Za1,Za1]) λ k hk=>?_
   show 0<=(Z6 r.lims.length (A++C)).getD k 0/\(Z6 r.lims.length (A++C)).getD k 0<=(Z6 r.lims.length r.L).getD k 0;have hk:k<r.lims.length:=hk;rw [Zbu hk,Zbu hk,ZdD p];refine ⟨Zim λ x hx=>hmany x (p.mem_iff.2 (List.mem_cons_of_mem _ hx)),?_⟩;rw [ZdE];have:=hh.many;split<;>omega
  ·have:=g.rise;rw [hL] at this;exact Zw5 this
  ·intro x hx
   exact g.each x (p.mem_iff.2 (List.mem_cons_of_mem _ hx))
end
section
open Go Go.VC Tryz
theorem ZoH {u u':Nat->Bool} {x:Int} (h:∀ j:Nat,u' j=true->u j=true\/(j:Int)=x):∀ N:Nat,(Zav u N).length<=(Zav u' N).length + (if x<N/\0<=x then 1 else 0)
 |0=>by simp [Zav]
 |N + 1=>by
  have ih:=ZoH h N;rw [Zei,Zei];by_cases e:u N=true
  ·rw [if_pos e]
   split at ih<;>split<;>split<;>omega
  ·rw [if_neg e]
   by_cases e2:u' N=true
   ·rw [if_pos e2]
    have e3:(N:Int)=x:=(h N e2).resolve_left e;rw [if_neg (by omega)] at ih;rw [if_pos (by omega)];omega
   ·rw [if_neg e2]
    split at ih<;>split<;>omega
theorem ZoI:∀ (T:List Int) (N:Nat),N<=(Zav (Zbf T) N).length + T.length
 |[],N=>by
  have key:∀ N:Nat,(Zav (Zbf []) N).length=N:=λ N=>by
   induction N with
   |zero=>rfl
   |succ N ih=>rw [Zei,ih];simp [Zbf]
  rw [key];omega
 |x::T,N=>by
  have ih:=ZoI T N;have h1:=ZoH (u:=Zbf T) (u':=Zbf (x::T)) (x:=x) (λ j hj=>by
   unfold Zbf at hj ⊢;rw [decide_eq_true_eq] at hj ⊢;rcases List.mem_cons.1 hj with h|h
   ·exact .inr h
   ·exact .inl h) N
  rw [List.length_cons];split at h1<;>omega
theorem ZzZ {n:Int} {g taken:List Int} {many:Int}:∀ x∈(Zar n g taken many).1,(0<=x/\x<Za5 n g)/\x ∉ taken:=by
 intro x hx;have hb:=ZcS n g;have nat:∀ j:Nat,j<(Za5 n g).toNat->Zbf taken j=false->(0<=(j:Int)/\(j:Int)<Za5 n g)/\(j:Int) ∉ taken:=λ j h1 h2=>by
  refine ⟨by omega,?_⟩;unfold Zbf at h2;exact of_decide_eq_false h2
 unfold Zar at hx;split at hx
 ·cases hx
 rename_i hm;obtain ⟨j,hj,rfl⟩:=List.mem_map.1 hx;unfold Ze3 at hj;split at hj
 ·rename_i i hfi
  have h1:=List.find?_some hfi;have h2:=List.mem_range.1 (List.mem_of_find?_eq_some hfi);have h3:many.toNat<=Zgo (Zbf taken) (zF g) (i + 1):=by rw [beq_iff_eq.1 h1];exact Nat.le_refl _
  obtain ⟨h4,h5⟩:=Zrq.1 h3;unfold ZkT at hj;obtain ⟨t,ht,rfl⟩:=List.mem_map.1 hj;have ht:=List.mem_range.1 ht;exact nat _ (by omega) (h5 _ (by omega) (by omega)).1
 ·split at hj
  ·cases hj
  ·obtain ⟨i,hi⟩:=List.getElem?_of_mem (List.mem_of_mem_take hj)
   obtain ⟨h1,h2,_⟩:=Zkw hi;exact nat j h1 h2
theorem ZvK {n:Int} {g taken:List Int} {many:Int} (h:(Zar n g taken many).2=0):((Zar n g taken many).1.length:Int)=many:=by
 unfold Zar at h ⊢;split at h
 ·cases h
 rename_i hm;rw [if_neg hm];rw [List.length_map];dsimp only at h;unfold Ze3 at h ⊢;generalize (List.range (Za5 n g).toNat).find? (λ j=>Zgo (Zbf taken) (zF g) (j + 1)==many.toNat)=o at h ⊢;cases o with
 |some i=>
  dsimp only;rw [Zha];omega
 |none=>
  dsimp only at h ⊢;split at h
  ·cases h
  ·rename_i h2
   rw [if_neg h2,List.length_take];omega
theorem ZzY {n:Int} {g taken:List Int} {many:Int} (h1:1<=many) (h2:many + taken.length<=Za5 n g):(Zar n g taken many).2=0:=by
 have hb:=ZcS n g;unfold Zar;rw [if_neg (by omega)];dsimp only;unfold Ze3;split
 ·rfl
 ·rw [if_neg]
  have:=ZoI taken (Za5 n g).toNat;omega
theorem ZtM {n:Int} {g a b:List Int} {many:Int} (h:∀ x,x∈a↔x∈b):Zar n g a many=Zar n g b many:=by
 have:Zbf a=Zbf b:=by
  funext j
  unfold Zbf;rw [decide_eq_decide];exact h _
 unfold Zar;rw [this]
variable {f:PF} {r:RF}
theorem Zk8:∀ {L:List ZI},(∀ h∈L,(h.seats.length:Int)<=h.many)->((Zx L).length:Int)<=ZmG L
 |[],_=>Int.le_refl _
 |h::L,hf=>by
  have ih:=Zk8 λ x hx=>hf x (List.mem_cons_of_mem _ hx);have h1:=hf h List.mem_cons_self;show ((h.seats++Zx L).length:Int)<=h.many + ZmG L;rw [List.length_append];omega
theorem ZqQ {A B:List ZI} (h:A.Perm B):ZmG A=ZmG B:=by
 induction h with
 |nil=>rfl
 |cons x _ ih=>simp only [ZmG,ih]
 |swap x y l=>simp only [ZmG];exact Int.add_left_comm _ _ _
 |trans _ _ a b=>exact a.trans b
theorem ZaM.tot (g:ZaM r):ZmG r.L<=Za5 r.rows r.grps:=by
 rw [<-Zk4 (n:=r.lims.length) λ h hh=>(g.each h hh).cls,<-g.l0];have hl:=(Zan.1 (ZT.1 g.nest).1).1.1;exact ((ZT.1 g.nest).2.2 0 (by omega)).2
theorem Zsz:∀ {L:List ZI},(∀ h∈L,1<=h.many)->(L.length:Int)<=ZmG L/\∀ h∈L,h.many<=ZmG L
 |[],_=>⟨Int.le_refl _,by simp⟩
 |h::L,hm=>by
  obtain ⟨i1,i2⟩:=Zsz λ x hx=>hm x (List.mem_cons_of_mem _ hx);have h1:=hm h List.mem_cons_self;have e:ZmG (h::L)=h.many + ZmG L:=rfl;rw [e,List.length_cons];refine ⟨by omega,λ x hx=>?_⟩;rcases List.mem_cons.1 hx with rfl|hx
  ·omega
  ·have:=i2 x hx;omega
theorem ZaM.len (g:ZaM r):(r.L.length:Int)<=600/\∀ h∈r.L,h.many<=600:=by
 obtain ⟨h1,h2⟩:=Zsz λ h hh=>(g.each h hh).many;have h3:=g.tot;have h4:=(ZcS r.rows r.grps).2;exact ⟨by omega,λ h hh=>by have:=h2 h hh;omega⟩
theorem ZaM.best (g:ZaM r) {A C:List ZI} {h:ZI} (hL:r.L=A++h::C) (hs:h.seats=[]):(Zar r.rows r.grps (Zx r.L) h.many).2=0:=by
 have hh:=g.each h (by rw [hL];simp);refine ZzY hh.many ?_;have h1:=g.tot;have p:r.L.Perm (h::(A++C)):=by rw [hL];exact List.perm_middle
 rw [ZqQ p] at h1;have e1:ZmG (h::(A++C))=h.many + ZmG (A++C):=rfl;have e2:(Zx r.L).length=(Zx (A++C)).length:=by
  rw [hL];unfold Zx;rw [List.flatMap_append,List.flatMap_cons,hs,List.nil_append,<-List.flatMap_append]
 have e3:=Zk8 (L:=A++C) λ x hx=>(g.each x (by rw [hL];exact Zke hx)).few;omega
theorem ZjH (t:Tie f r) (g:ZaM r) (o:Int):
  (Zg8 f o).2=(Zam r o).2/\Tie (Zg8 f o).1 (Zam r o).1/\ZaM (Zam r o).1/\((Zam r o).2.2=0\/(Zam r o).2.2=2\/(Zam r o).2.2=7):=by
 unfold Zg8 Zam;rw [t.get g.rise];cases hg:Zcq o r.L with
 |none=>exact ⟨rfl,t,g,.inr (.inl rfl)⟩
 |some h=>
  obtain ⟨A,C,hL,hA,rfl⟩:=Zb1 hg;have hh:=g.each h (by rw [hL];simp);dsimp only;split
  ·exact ⟨rfl,t,g,.inr (.inr rfl)⟩
  rename_i hs;have hs:h.seats=[]:=List.length_eq_zero_iff.1 (by omega);have e:Zar f.rows f.grps (f.own.map (·.1)) h.many=Zar r.rows r.grps (Zx r.L) h.many:=by
   rw [t.rows,t.grps];exact ZtM λ x=>by rw [<-t.taken,Zf3]
  have hb:=g.best hL hs;have hin:=ZzZ (n:=r.rows) (g:=r.grps) (taken:=Zx r.L) (many:=h.many);have hri:=ZmA (n:=r.rows) (g:=r.grps) (taken:=Zx r.L) (many:=h.many);have hct:=ZvK hb;rw [if_pos hb,e,show Zd1 f.rows f.grps=Zd1 r.rows r.grps by rw [t.rows,t.grps]];have hset:Zri h.owner { h with seats:=(Zar r.rows r.grps (Zx r.L) h.many).1 } r.L=A++{ h with seats:=(Zar r.rows r.grps (Zx r.L) h.many).1 }::C:=by rw [hL];exact ZfE rfl hA
  rw [hset,hb];generalize (Zar r.rows r.grps (Zx r.L) h.many).1=l at *;obtain ⟨p1,p2⟩:=ZpG (o:=h.owner) (l:=l) t.nod;refine ⟨rfl,ZmN (h':={ h with seats:=l }) t g hL hA rfl rfl rfl (λ x hx=>.inr (hin x hx).2) p1 λ x=>?_,Zkr (h':={ h with seats:=l }) g hL rfl rfl rfl hri ?_ λ x hx=>.inr ⟨(hin x hx).2,(hin x hx).1⟩,.inl rfl⟩
  ·rw [p2,hs]
   rw [if_neg (by simp:¬ x∈([]:List Int))]
  ·show (l.length:Int)<=h.many
   omega
theorem ZnY (t:Tie f r) (g:OwR r.L):(f.hs.map (·.1)).Perm (r.L.map ZI.owner):=by
 have e:f.hs.map (·.1)=(f.hs.map (·.2)).map ZI.owner:=by
  rw [List.map_map];exact List.map_congr_left λ e he=>(t.key e he).symm
 rw [e];exact t.hs.map _
theorem Zuq (t:Tie f r) (g:OwR r.L):Zg3 (f.hs.map (·.1))=r.L.map ZI.owner:=by
 rw [Zds (ZnY t g)];unfold Zg3;refine List.mergeSort_of_pairwise ?_;rw [List.pairwise_map];exact g.imp λ h=>by simp only [decide_eq_true_eq];omega
theorem Zk5 (t:Tie f r) (g:OwR r.L):Ze5 f=r.L:=by
 unfold Ze5;rw [Zuq t g,List.map_map];have key:∀ h∈r.L,(Ze6 f ∘ ZI.owner) h=h:=λ h hh=>by
  show (ZO h.owner f.hs).getD ZAH=h;rw [t.get g,(Zf2 g.ne).2 ⟨hh,rfl⟩];rfl
 rw [List.map_congr_left key,List.map_id']
theorem Zur (t:Tie f r):Zjg f=Zq r:=by
 unfold Zjg Zq;rw [t.lims,t.sold]
theorem Zpb (t:Tie f r) (g:OwR r.L) (o:Int):Zfr f o=ZaY r o:=by
 unfold Zfr ZaY;rw [t.get g,t.rows,t.grps]
 try (cases Zcq o r.L<;>rfl)
theorem Tie.nodK (t:Tie f r) (g:OwR r.L):(f.hs.map (·.1)).Nodup:=by
 refine ((ZnY t g).nodup_iff).2 ?_;rw [List.nodup_iff_pairwise_ne,List.pairwise_map];exact g.ne
theorem Tie.mem (t:Tie f r) {e:Int × ZI} (he:e∈f.hs):e.2∈r.L:=t.hs.mem_iff.1 (List.mem_map.2 ⟨e,he,rfl⟩)
theorem Tie.ownIn (t:Tie f r) (g:ZaM r):∀ k∈f.own.map (·.1),0<=k/\k<Za5 r.rows r.grps:=λ k hk=>by
 obtain ⟨o,ho⟩:=Option.isSome_iff_exists.1 (Zf3.2 hk);obtain ⟨h,hh,_,hs⟩:=(t.own k o).1 ho;exact (g.each h hh).seats k hs
theorem Zj6:∀ (N:Nat) {l:List Int},l.Nodup->(∀ x∈l,0<=x/\x<N)->l.length<=N
 |0,[],_,_=>Nat.le_refl _
 |0,x::l,_,hb=>by have:=hb x List.mem_cons_self;omega
 |N + 1,l,h,hb=>by
  by_cases hm:(N:Int)∈l
  ·have h1:=Zj6 N (h.erase (N:Int)) λ x hx=>by
    have h2:=(h.mem_erase_iff).1 hx;have:=hb x h2.2;have:=h2.1;omega
   rw [List.length_erase_of_mem hm] at h1;omega
  ·have h1:=Zj6 N h λ x hx=>by
    have:=hb x hx;have:x≠N:=λ e=>hm (by rw [<-e];exact hx);omega
   omega
theorem Tie.bounds (t:Tie f r) (g:ZaM r):f.hs.length<=600/\f.own.length<=600/\f.lims.length<=8/\f.sold.length<=8/\f.grps.length<=4/\(∀ e∈f.hs,Zqz e.2.seats/\e.2.seats.length<=600)/\(∀ k∈f.hs.map (·.1),1<=k/\k<=28629151):=by
 have hl:=g.len;have h1:=t.hs.length_eq;rw [List.length_map] at h1;have h2:=Zj6 (Za5 r.rows r.grps).toNat t.nod λ x hx=>by have:=t.ownIn g x hx;omega
 rw [List.length_map] at h2;have h3:=ZcS r.rows r.grps;have h4:=(Zan.1 (ZT.1 g.nest).1).1.2;have h5:=(Zaa.1 g.lay).1;refine ⟨by omega,by omega,by rw [t.lims];exact h4,by rw [t.sold];show (Z6 _ _).length<=8;rw [Za1];exact h4,by rw [t.grps];omega,λ e he=>?_,λ k hk=>?_⟩
 ·have hh:=g.each _ (t.mem he)
  have:=hl.2 _ (t.mem he);exact ⟨hh.rise,by have:=hh.few;omega⟩
 ·obtain ⟨e,he,rfl⟩:=List.mem_map.1 hk
  have hh:=g.each _ (t.mem he);have:=hh.owner;rw [t.key e he] at this;exact this
def ZmY (num rows:Int) (grps lims:List Int):RF:=⟨num,rows,grps,lims,[]⟩
theorem Zks {num rows:Int} {grps:List Int} {parts:List Nat} (h:Zj7 num rows grps parts):ZaM (ZmY num rows grps (Zaf (Za5 rows grps) parts).1):=by
 obtain ⟨h1,h2,h3,h4⟩:=h;obtain ⟨l1,l2⟩:=Zsv h4;refine ⟨⟨h1,h2⟩,h3,?_,l2,List.Pairwise.nil,λ h hh=>(by cases hh),List.Pairwise.nil⟩;show Z8 _ (Z6 _ [])=true;rw [ZfC];exact ZhP l1
theorem ZqU {num rows:Int} {grps lims:List Int}:Tie (Zem num rows grps lims) (ZmY num rows grps lims):=by
 refine ⟨rfl,rfl,rfl,rfl,?_,List.Perm.refl _,λ e he=>(by cases he),λ n o=>?_,List.nodup_nil⟩
 ·show List.replicate _ 0=Z6 _ []
  rw [ZfC];rfl
 ·constructor
  ·intro h;cases h
  ·rintro ⟨h,hh,_⟩;cases hh
end
section
open Go Go.VC Tryz
variable {R R':Cx} {Hs Rest:List HP} {w:World}
section
variable {γ:Type} (f:ZI × Sl->γ)
theorem ZnV (h:ZI) (t:Sl):∀ (k:Nat) (L:List ZI) (ts:List Sl),ts.length=L.length->k<=L.length->((L.take k++h::L.drop k).zip (ts.take k++t::ts.drop k)).map f=((L.zip ts).map f).take k++f (h,t)::((L.zip ts).map f).drop k
 |0,L,ts,_,_=>by simp
 |k + 1,[],ts,_,hk=>by simp at hk
 |k + 1,x::L,[],hl,_=>by simp at hl
 |k + 1,x::L,y::ts,hl,hk=>by
  have ih:=ZnV h t k L ts (by simpa using hl) (by simpa using hk);simp only [List.take_succ_cons,List.drop_succ_cons,List.cons_append,List.zip_cons_cons,List.map_cons,ih]
end
theorem Zbs.ins {L:List ZI} {ts:List Sl} {k:Nat} {h:ZI} {t:Sl} (hl:ts.length=L.length) (hk:k<=L.length) (hw:Sat R (Zz t (Ze h.seats)::Zbs L ts::Hs) w):Sat R (Zbs (L.take k++h::L.drop k) (ts.take k++t::ts.drop k)::Hs) w:=by
 refine Sat.star.2 ?_;rw [show Zbh (L.take k++h::L.drop k) (ts.take k++t::ts.drop k)=(Zbh L ts).take k++Zz t (Ze h.seats)::(Zbh L ts).drop k from ZnV (λ x=>Zz x.2 (Ze x.1.seats)) h t k L ts hl hk]
 have hw:Sat R (Zz t (Ze h.seats)::(Zbh L ts++Hs)) w:=hw.cons λ _ h=>Sat.star.1 h;refine hw.perm ?_;rw [List.append_assoc,List.cons_append];refine (List.Perm.trans ?_ List.perm_middle.symm);rw [<-List.append_assoc,List.take_append_drop]
end
section
open Go Go.VC Tryz
variable {R:Cx} {Hs Rest:List HP} {w:World}
theorem HsR.row {s:Sl} {L:List ZI} {ts:List Sl} {S:World->Prop} {k:Nat} (hr:HsR R s L ts) (hS:∀ w,S w->Sat R Hs w) (hk:k<L.length) (hk':k<ts.length) {F:Addr->Prop}
  (f:∀ a:Addr,At S (Addr.add a (Zcp k 4)) (ZkV L[k] ts[k])->F a):Rng (k:Int) s.len (Zc s.a F):=by
 have hl:=ZcF hr.len;refine (hr.rows.reads hS).rng (k:=k) (by omega) λ b off ha hat=>f _ ?_;rw [Zie];refine hat 0 _ ?_;rw [Zoa hk hk'];exact ⟨rfl,rfl,rfl,rfl,trivial⟩
def ZxR (f:PF):List Int:=Zwh f.num f.rows f.grps f.lims (Ze5 f)
theorem Zjk (f:PF):(Ze5 f).length=f.hs.length:=by unfold Ze5 Zg3;rw [List.length_map,List.length_mergeSort,List.length_map]
structure ZwB (f:PF):Prop where
 num:0<=f.num/\f.num<9223372036854775808
 rows:0<=f.rows/\f.rows<9223372036854775808
 grps:ZeV f.grps
 lims:ZeV f.lims
 gl:f.grps.length<=1000
 ll:f.lims.length<=1000
 hs:∀ h∈Ze5 f,Zg2 h
 hl:f.hs.length<=10000
theorem Zmm {p:Nat} {f:PF} (sm:ZwB f) (hu:(f.hs.map (·.1)).Nodup) (hn:∀ k∈f.hs.map (·.1),-1000000000<=k/\k<=1000000000) (hR:∀ e∈f.hs,e.2.seats.length<=1000000) (hw:Sat R (ZJ p f::Hs) w):
  Zm prog 64 #[nP p] w λ v w'=>∃ t:Sl,v=.slice t.a t.len t.cap/\Sat R (Own t 5 (b8 (ZxR f))::ZJ p f::Hs) w':=by
 obtain ⟨hm,om,sg,sl,ss,E,R',hE,ee,rg,rl,_,hw,back⟩:=Sat.flightO hw;have rgo:RoI R' sg f.grps:=rg.ro (by rw [List.length_map];have:=sm.gl;omega);have rlo:RoI R' sl f.lims:=rl.ro (by rw [List.length_map];have:=sm.ll;omega);have hel:(Z3 E).length=f.hs.length:=by rw [<-hE];simp [Z3,hEr]
 apply ZBh
 suffices H:∀ K:nK,(∀ (t:Sl) w',Sat R (Own t 5 (b8 (ZxR f))::ZJ p f::Hs) w'->K (.slice t.a t.len t.cap) w')->B64 (some ⟨p,0,none⟩) K w from
  H _ λ t w' h=>⟨t,rfl,h⟩
 intro K hK;refine Za hw λ pb w hw=>Za hw λ bp w hw=>?_;have hw:Sat R' (pts bp (.cells [.nilFunc].toArray 113 (0,0))::lp pb ⟨none,0,0⟩::FO p hm om sg sl ss E f Hs) w:=hw;refine sRu hw λ w hw=>?_;have hw:Sat R' (Ziy bp pb::lp pb ⟨none,0,0⟩::FO p hm om sg sl ss E f Hs) w:=hw;have hw:Sat R' (Zg1 pb []::Ziy bp pb::FO p hm om sg sl ss E f Hs) w:=Sat.outB.2 ⟨⟨none,0,0⟩,hw.swap.cons λ _ h=>Own.nil h⟩;have l2:(Zl [f.num,f.rows]).length<=18:=ZW (by intro y hy;have:=sm.num;have:=sm.rows;simp at hy;omega);have lg:=Zcg sm.grps (by have:=sm.gl;omega);have ll:=Zcg sm.lims (by have:=sm.ll;omega);have l1:(Zl [(f.hs.length:Int)]).length<=9:=ZW (by intro y hy;have:=sm.hl;simp at hy;omega);have:=sm.gl;have:=sm.ll;have:=sm.hl;refine ZC (Sat R' [Ziy bp pb,pts p (Zap f sg sl ss hm om),VC.tru]) hw (λ w hw=>?_) λ w hw=>?_
 ·have hw:Sat R' (Ziy bp pb::pts p (Zap f sg sl ss hm om)::Zg1 pb []::MapAt hm (Z3 E)::MapAt om (ZbI f.own)::Z2 E::Hs) w:=hw.arr
  exact hw.cons λ _ h=>h.restTru2
 refine ⟨Zw1 pb,oS,Zc.mk rfl ⟨f.num,by rw [Zy];exact oS,Zc.mk rfl ⟨f.rows,oS,?_⟩⟩⟩;refine Za hw λ bn w hw=>⟨?_,?_⟩
 ·have hw:Sat R' (Ziy bp pb::pts p (Zap f sg sl ss hm om)::Zg1 pb []::MapAt hm (Z3 E)::MapAt om (ZbI f.own)::Z2 E::Hs) w:=hw.drop.arr
  exact hw.cons λ _ h=>h.restTru2
 have hw:Sat R' (pts bn (.cells ([f.num,f.rows].map (Value.int .i64)).toArray 3 (0,0))::Zg1 pb []::Ziy bp pb::FO p hm om sg sl ss E f Hs) w:=hw;refine (ZjZ (n:=2) (by rfl) (by intro y hy;have:=sm.num;have:=sm.rows;simp at hy;omega) (by simp) hw).mono ?_;rintro _ w ⟨rfl,hw⟩;rw [List.nil_append] at hw;refine ⟨rfl,?_,?_⟩
 ·have hw:Sat R' (Ziy bp pb::pts p (Zap f sg sl ss hm om)::Zg1 pb (Zl [f.num,f.rows])::MapAt hm (Z3 E)::MapAt om (ZbI f.own)::Z2 E::Hs) w:=hw.arr
  exact hw.cons λ _ h=>h.restTru2
 refine Zc.mk rfl ⟨sg,oA hw,?_⟩;refine (ZgH sm.grps (by omega) rgo hw.swap).use ?_;rintro _ w ⟨rfl,hw⟩;refine ⟨rfl,Zc.mk rfl ⟨sl,oA hw,?_⟩⟩;refine (ZgH sm.lims (by rw [List.length_append];omega) rlo hw).use ?_;rintro _ w ⟨rfl,hw⟩;refine ⟨rfl,?_⟩;have hb1:(Zl [f.num,f.rows]++Zdl f.grps++Zdl f.lims).length<=20000:=by rw [List.length_append,List.length_append];omega
 have hfin:Zl [f.num,f.rows]++Zdl f.grps++Zdl f.lims++Zl [(f.hs.length:Int)]++ZaQ (Ze5 f)=ZxR f:=by
  unfold ZxR Zwh;rw [Zjk]
 generalize hpre:Zl [f.num,f.rows]++Zdl f.grps++Zdl f.lims=pre at *;refine ZC (Sat R' [Ziy bp pb,pts p (Zap f sg sl ss hm om),MapAt hm (Z3 E),VC.tru]) hw (λ w hw=>?_) λ w hw=>?_
 ·have hw:Sat R' (Ziy bp pb::pts p (Zap f sg sl ss hm om)::MapAt hm (Z3 E)::Zg1 pb pre::MapAt om (ZbI f.own)::Z2 E::Hs) w:=hw.arr
  exact hw.cons λ _ h=>h.cons λ _ h=>h.restTru2
 refine ⟨Zw1 pb,oS,Zc.mk rfl ⟨some hm,oS,f.hs.length,λ w' h=>?_,?_⟩⟩
 ·rw [<-hel]
  exact MapAt.len (by kernel_rfl) (h.take (MapAt hm (Z3 E)))
 refine Za hw λ bn w hw=>⟨?_,?_⟩
 ·have hw:Sat R' (Ziy bp pb::pts p (Zap f sg sl ss hm om)::MapAt hm (Z3 E)::Zg1 pb pre::MapAt om (ZbI f.own)::Z2 E::Hs) w:=hw.drop.arr
  exact hw.cons λ _ h=>h.cons λ _ h=>h.restTru2
 have hw:Sat R' (pts bn (.cells ([(f.hs.length:Int)].map (Value.int .i64)).toArray 3 (0,0))::Zg1 pb pre::Ziy bp pb::FO p hm om sg sl ss E f Hs) w:=hw.cons λ _ h=>h.swap;refine (ZjZ (n:=1) (by rfl) (by intro y hy;simp at hy;omega) (by simp;omega) hw).mono ?_;rintro _ w ⟨rfl,hw⟩;refine ⟨rfl,?_,?_⟩
 ·have hw:Sat R' (Ziy bp pb::pts p (Zap f sg sl ss hm om)::MapAt hm (Z3 E)::Zg1 pb (pre++Zl [(f.hs.length:Int)])::MapAt om (ZbI f.own)::Z2 E::Hs) w:=hw.arr
  exact hw.cons λ _ h=>h.cons λ _ h=>h.restTru2
 have hw:Sat R' (FO p hm om sg sl ss E f (Zg1 pb (pre++Zl [(f.hs.length:Int)])::Ziy bp pb::Hs)) w:=hw.arr;have hw:=Sat.flightC hE (back _ _ hw);refine (Zns hu hn (by omega) hR hw).use ?_;rintro _ w ⟨t,rfl,hw⟩;refine ⟨t,rfl,?_⟩;have hb2:(pre++Zl [(f.hs.length:Int)]).length<=20010:=by rw [List.length_append];omega
 generalize pre++Zl [(f.hs.length:Int)]=pre2 at *;have hLl:=Zjk f;have hHs:=sm.hs;generalize Ze5 f=L at *;obtain ⟨R2,ts,e2,hr,hw⟩:=ZbR.leak hw;have htl:=hr.len;have hrl:=hr.rows.len;rw [ZcF htl] at hrl;refine ⟨λ i w=>∃ j:Nat,i=j/\j<=L.length/\Sat R2 (Zg1 pb (pre2++ZaQ (L.take j))::Ziy bp pb::ZJ p f::Hs) w,λ i _=>L.length - i.toNat,⟨0,rfl,by omega,?_⟩,?_⟩
 ·rw [show pre2++ZaQ (L.take 0)=pre2 by simp [ZaQ]]
  exact hw.arr
 clear hw;rintro _ _ w ⟨j,rfl,hj,hw⟩;refine Br.d (λ h=>?_) (λ h=>?_)
 ·have hj2:j<L.length:=by omega
  have hj3:j<ts.length:=by omega
  have hsm:=hHs L[j] (List.getElem_mem _);have hhl:(ZaQ (L.take j)).length<=9036 * 10000:=by
   have:=ZgB (L:=L.take j) λ x hx=>hHs x (List.mem_of_mem_take hx);rw [List.length_take] at this;have:min j L.length<=10000:=by omega
   omega
  have h3:(Zl [L[j].owner,L[j].cls,L[j].many]).length<=27:=ZW (Zcm hsm.three);have hsn:=hsm.n;refine hr.row (eqS hw) hj2 hj3 λ a ha=>⟨L[j].owner,L[j].cls,L[j].many,ts[j],ha,?_⟩;refine Za hw λ bh w hw=>?_;have hw:Sat R2 (pts bh (ZN ⟨0,0,0,[]⟩ ⟨none,0,0⟩)::Zg1 pb (pre2++ZaQ (L.take j))::Ziy bp pb::ZJ p f::Hs) w:=hw;refine sRu hw λ w hw=>?_;have hw:=hw.re (pts bh (ZN L[j] ts[j]));refine ⟨Zw1 pb,oA hw,L[j].owner,oA hw,L[j].cls,oA hw,L[j].many,oA hw,?_⟩;refine Za hw λ bn w hw=>?_;have hw:Sat R2 (pts bn (.cells ([L[j].owner,L[j].cls,L[j].many].map (Value.int .i64)).toArray 3 (0,0))::Zg1 pb (pre2++ZaQ (L.take j))::Ziy bp pb::pts bh (ZN L[j] ts[j])::ZJ p f::Hs) w:=hw.cons λ _ h=>h.arr;refine (ZjZ (n:=3) (by rfl) hsm.three (by rw [List.length_append];simp;omega) hw).mono ?_;rintro _ w ⟨rfl,hw⟩;refine ⟨rfl,ts[j],oA hw,?_⟩;refine (ZgH hsm.s (by rw [List.length_append,List.length_append];omega) ((hr.seats j hj2 hj3).ro) hw.swap).use ?_;rintro _ w ⟨rfl,hw⟩;refine ⟨rfl,?_⟩;rw [Zf];refine ⟨⟨j + 1,by omega,by omega,?_⟩,by dsimp only;omega⟩;rw [Znt hj2,<-List.append_assoc];unfold Ze1;rw [<-List.append_assoc];have hw:Sat R2 (pts bh (ZN L[j] ts[j])::Zg1 pb (pre2++ZaQ (L.take j)++Zl [L[j].owner,L[j].cls,L[j].many]++Zdl L[j].seats)::Ziy bp pb::ZJ p f::Hs) w:=hw.arr;exact hw.drop
 ·rw [List.take_of_length_le (by omega),hfin] at hw
  have hw:=e2.back hw;obtain ⟨s0,hw⟩:=Sat.outB.1 hw;refine ⟨s0,oA hw,hK s0 w ?_⟩;have hw:Sat R (Ziy bp pb::lp pb s0::Own s0 5 (b8 (ZxR f))::ZJ p f::Hs) w:=hw.arr;exact hw.drop.drop
def ZeX:Nat->Int->Rd->List Int × Rd
 |0,_,r=>([],r)
 |k + 1,most,r=>((Zb most r).1::(ZeX k most (Zb most r).2).1,(ZeX k most (Zb most r).2).2)
theorem ZlU:∀ (k:Nat) (most:Int) (r:Rd),(ZeX k most r).1.length=k
 |0,_,_=>rfl
 |k + 1,most,r=>by show (_::(ZeX k most (Zb most r).2).1).length=_;rw [List.length_cons,ZlU k]
theorem Zoq:∀ (k:Nat) (most:Int) {r:Rd},(∀ x∈r.bs,0<=x/\x<256)->∀ x∈(ZeX k most r).2.bs,0<=x/\x<256
 |0,_,_,h=>h
 |k + 1,most,_,h=>Zoq k most (Zd h)
theorem ZlT:∀ (k:Nat) {most:Int} {r:Rd},0<=most->(∀ x∈r.bs,0<=x/\x<256)->∀ x∈(ZeX k most r).1,0<=x/\x<=most
 |0,_,_,_,_=>by simp [ZeX]
 |k + 1,most,r,hm,h=>λ x hx=>by
  rcases List.mem_cons.1 hx with rfl|hx
  ·exact Zn h hm
  ·exact ZlT k hm (Zd h) x hx
def ZeY (most each:Int) (r:Rd):List Int × Rd:=ZeX (Zb most r).1.toNat each (Zb most r).2
theorem Zkb {most each:Int} {r:Rd} (h:∀ x∈r.bs,0<=x/\x<256):∀ x∈(ZeY most each r).2.bs,0<=x/\x<256:=Zoq _ _ (Zd h)
theorem Zsm {most each:Int} {r:Rd} (h:∀ x∈r.bs,0<=x/\x<256) (hm:0<=most) (he:0<=each):(∀ x∈(ZeY most each r).1,0<=x/\x<=each)/\((ZeY most each r).1.length:Int)<=most:=by
 refine ⟨ZlT _ he (Zd h),?_⟩;unfold ZeY;rw [ZlU];have:=Zn h hm;omega
def ZqY (f:PF) (o n:Int):PF:=
 match ZO o f.hs with
 |none=>f
 |some h=>{ f with hs:=ZgQ o (h.put n) f.hs,own:=Ze4 n h.owner f.own }
def ZmZ (o N:Int):List Int->Int->PF->PF × Bool
 |[],_,f=>(f,true)
 |n::l,last,f=>if (ZO n f.own).isSome then (f,false) else if n<=last then (f,false) else if n >= N then (f,false) else ZmZ o N l n (ZqY f o n)
theorem Zpx (o N n last:Int) (l:List Int) (f:PF):ZmZ o N (n::l) last f=if (ZO n f.own).isSome then (f,false) else if n<=last then (f,false) else if n >= N then (f,false) else ZmZ o N l n (ZqY f o n):=rfl
def Zex (f:PF) (h:ZI):PF × Bool:=
 if (Zd5 f h.owner h.cls h.many).2≠0 then ((Zd5 f h.owner h.cls h.many).1,false)
 else if (h.seats.length:Int)>h.many then ((Zd5 f h.owner h.cls h.many).1,false)
 else ZmZ h.owner (Za5 f.rows f.grps) h.seats (-1) (Zd5 f h.owner h.cls h.many).1
def ZcH (rd:Rd):ZI × Rd:=
 (⟨(Zb 28629151 rd).1,(Zb 8 (Zb 28629151 rd).2).1,(Zb 600 (Zb 8 (Zb 28629151 rd).2).2).1,(ZeY 600 600 (Zb 600 (Zb 8 (Zb 28629151 rd).2).2).2).1⟩,(ZeY 600 600 (Zb 600 (Zb 8 (Zb 28629151 rd).2).2).2).2)
def Zc6:Nat->Rd->List ZI × Rd
 |0,rd=>([],rd)
 |k + 1,rd=>((ZcH rd).1::(Zc6 k (ZcH rd).2).1,(Zc6 k (ZcH rd).2).2)
theorem ZuB {rd:Rd} (h:∀ x∈rd.bs,0<=x/\x<256):∀ x∈(ZcH rd).2.bs,0<=x/\x<256:=Zkb (Zd (Zd (Zd h)))
structure ZdY (h:ZI):Prop where
 o:0<=h.owner/\h.owner<=28629151
 c:0<=h.cls/\h.cls<=8
 m:0<=h.many/\h.many<=600
 s:∀ x∈h.seats,0<=x/\x<=600
 n:h.seats.length<=600
theorem ZrD {rd:Rd} (h:∀ x∈rd.bs,0<=x/\x<256):ZdY (ZcH rd).1:=by
 have h1:=Zd (most:=28629151) h;have h2:=Zd (most:=8) h1;have h3:=Zd (most:=600) h2;have hl:=Zsm (most:=600) (each:=600) h3 (by omega) (by omega);exact ⟨Zn h (by omega),Zn h1 (by omega),Zn h2 (by omega),hl.1,by have:=hl.2;show (ZeY _ _ _).1.length<=600;omega⟩
theorem Zi2:∀ (k:Nat) {rd:Rd},(∀ x∈rd.bs,0<=x/\x<256)->(∀ h∈(Zc6 k rd).1,ZdY h)/\(Zc6 k rd).1.length=k
 |0,_,_=>⟨λ h hh=>(by cases hh),rfl⟩
 |k + 1,rd,h=>by
  obtain ⟨h1,h2⟩:=Zi2 k (ZuB h);refine ⟨λ x hx=>?_,by show ((ZcH rd).1::_).length=_;rw [List.length_cons,h2]⟩;have hx:x∈(ZcH rd).1::(Zc6 k (ZcH rd).2).1:=hx;rcases List.mem_cons.1 hx with rfl|hx
  ·exact ZrD h
  ·exact h1 x hx
abbrev PS:=PF × Bool × Int
def Zq8 (x:PS) (h:ZI):PS:=if x.2.1=true/\h.owner>x.2.2 then ((Zex x.1 h).1,(Zex x.1 h).2,h.owner) else (x.1,false,h.owner)
def Zvh (num rows:Int) (grps lims:List Int):Bool:=decide (num>0) && (ZdQ rows grps && (Z8 lims (List.replicate lims.length 0) && (lims.getD 0 0==Za5 rows grps)))
structure Raw where
 num:Int
 rows:Int
 grps:List Int
 lims:List Int
 L:List ZI
 rd:Rd
def Ziu (bs:List Int):Raw:=
 let a:=Zb 9999 ⟨bs,false⟩
 let b:=Zb 60 a.2
 let g:=ZeY 4 10 b.2
 let l:=ZeY 8 10000 g.2
 let n:=Zb 600 l.2
 let x:=Zc6 n.1.toNat n.2
 ⟨a.1,b.1,g.1,l.1,x.1,x.2⟩
def Raw.run (x:Raw):PS:=x.L.foldl Zq8 (Zem x.num x.rows x.grps x.lims,Zvh x.num x.rows x.grps x.lims,0)
def Zz9 (bs:List Int):Option PF:=if ZF (Ziu bs).rd=true/\(Ziu bs).run.2.1=true then some (Ziu bs).run.1 else none
structure KeepF (f f':PF):Prop where
 lims:f'.lims=f.lims
 grps:f'.grps=f.grps
 rows:f'.rows=f.rows
 num:f'.num=f.num
 sold:f'.sold.length=f.sold.length
abbrev emH:Obj:=ZN ⟨0,0,0,[]⟩ ⟨none,0,0⟩
end
section
open Go Go.VC Tryz
variable {R R':Cx} {Hs Rest:List HP} {w:World}
theorem Zcd (x:Int) (l:List Int):Zl (x::l)=Zl [x]++Zl l:=by rw [show x::l=[x]++l from rfl,ZhO]
def ZbP (r:RF):List Int:=Zwh r.num r.rows r.grps r.lims r.L
structure ZBO (r:RF):Prop where
 num:0<=r.num/\r.num<9223372036854775808
 rows:0<=r.rows/\r.rows<9223372036854775808
 grps:ZeV r.grps
 lims:ZeV r.lims
 gl:r.grps.length<=1000
 ll:r.lims.length<=1000
 hs:∀ h∈r.L,Zg2 h
 hl:r.L.length<=10000
end
end Go.Proofs.YtlplemdmegpoeaaGreatDoor
