/- Package queue: Decode. Condition: a bound on the length. -/
import Derived.Test.YtfgbbckfikiomaaGreatDoorB6
set_option linter.unusedVariables false
namespace Go.Proofs.YtfgbbckfikiomaaGreatDoor
section
open Go Go.VC Tryz
open Classical
variable {R:Cx} {Hs Rest:List HP} {w:World}
theorem ZfC {α:Type} (one:Rd->α × Rd) (m:Nat):∀ (k:Nat) (r:Rd),(Z3 one (k + m) r).1=(Z3 one k r).1++(Z3 one m (Z3 one k r).2).1
  |0,r=>by rw [Nat.zero_add];rfl
  |k + 1,r=>by
    rw [show k + 1 + m=(k + m) + 1 by omega,Zcg,Zcg];dsimp only;rw [ZfC one m k];rfl
theorem Zdu {br r:Nat} {rd:Rd} {most:Int} (h0:0<=most) (h1:most<9223372036854775808) (hb:Z5 rd.bs) (hw:Sat R (pts br (ZB r)::ZZ r rd::Hs) w):
    Zm prog 169 #[.int .i64 most,.pointer (some ⟨br,0,none⟩)] w λ v w'=>v=.int .i64 (Ze most rd).1/\Sat R (pts br (ZB r)::ZZ r (Ze most rd).2::Hs) w':=by
  have hv:=Zw (most:=most) hb h0;apply Zxg;refine Zc.mk rfl ⟨some ⟨r,0,none⟩,oA hw,?_⟩;rw [ZK (by omega) (by omega)];refine (ZeW (most:=most) hb hw.swap).use ?_;rintro _ w ⟨rfl,hw⟩;refine ⟨_,rfl,?_,hw.swap⟩;rw [Zh (by omega) (by omega)]
theorem Zow {l:List Wt} {x:Wt} (hl:Zbf l) (hf:∀ y∈l,y.sc<18446744073709551616) (hn:l.length<200) (hx:x.sc<18446744073709551616):
    ((∃ h:0<l.length,0<(l[l.length - 1]'(by omega)).ord x)->¬ Zbf (l++[x]))/\
    (¬ (∃ h:0<l.length,0<(l[l.length - 1]'(by omega)).ord x)->((ZcW l x).2≠0->¬ Zbf (l++[x]))/\((ZcW l x).2=0->Zbf (l++[x])/\(ZcW l x).1=l++[x])):=by
  constructor
  · rintro ⟨h,ho⟩ hr
    have h1:=hr.last.2.2 l[l.length - 1] (List.getElem_mem _);have h2:=ZqG.1 ho;rw [Zpp h1] at h2;cases h2
  · intro hno
    unfold ZcW;by_cases hok:x.Ok
    · rw [if_neg (λ h=>h hok)]
      by_cases hid:Zel x.id l=true
      · rw [if_pos hid]
        refine ⟨λ _ hr=>?_,λ h=>by cases h⟩;obtain ⟨y,hy,he⟩:=Zfc.1 hid;exact hr.last.2.1 y hy he
      · rw [if_neg hid,if_neg (by omega)]
        have hid:=Zmz.1 (by simpa using hid);have hall:∀ y∈l,y.ahead x=true:=by
          intro y hy;obtain ⟨i,hi,rfl⟩:=List.getElem_of_mem hy;have hl1:l[l.length - 1].ahead x=true:=by
            have h1:l[l.length - 1].id≠x.id:=hid _ (List.getElem_mem _);have h2:x.ahead l[l.length - 1]=false:=by
              cases h3:x.ahead l[l.length - 1] with
              |false=>rfl
              |true=>exact absurd ⟨by omega,ZqG.2 h3⟩ hno
            exact ZlP (λ e=>h1 e.symm) h2
          by_cases hil:i=l.length - 1
          · subst hil;exact hl1
          · exact Zcx (Zqo hl.st (i:=i) (j:=l.length - 1) (by omega) (by omega)) hl1
        exact ⟨λ h=>absurd rfl h,λ _=>⟨hl.snoc hok hid hall,ZjK hall⟩⟩
    · rw [if_pos hok]
      exact ⟨λ _ hr=>hok hr.last.1,λ h=>by cases h⟩
theorem ZrJ {bs:List Int} {l m:List Wt} {x:Wt} (h:(Zmc bs).1=l++[x]++m) (hn:¬ Zbf (l++[x])):ZnR bs=none:=by
  unfold ZnR;rw [if_neg];rintro ⟨_,hq⟩;rw [h] at hq;exact hn hq.pre
set_option maxHeartbeats 2000000 in
theorem Zk3 {s:Sl} {bs:List Int} (hb:Z5 bs) (hl:bs.length<=1099511627776) (hs:Ro R s (b8 bs)) (hw:Sat R Hs w):
    Zm prog 103 #[.slice s.a s.len s.cap] w λ v w'=>(ZnR bs=none/\v=.tuple #[.pointer none,.int .i64 6]/\Sat R Hs w')\/(∃ l q,ZnR bs=some l/\v=.tuple #[.pointer (some ⟨q,0,none⟩),.int .i64 0]/\Sat R (ZC q l::Hs) w'):=by
  apply Zx0
  suffices H:∀ K:Value->World->Prop,(ZnR bs=none->∀ w',Sat R Hs w'->K (.tuple #[.pointer none,.int .i64 6]) w')->(∀ l q w',ZnR bs=some l->Sat R (ZC q l::Hs) w'->K (.tuple #[.pointer (some ⟨q,0,none⟩),.int .i64 0]) w')->B103 s K w from
    H _ (λ e w' h=>.inl ⟨e,rfl,h⟩) λ l q w' e h=>.inr ⟨l,q,e,rfl,h⟩
  intro K hK1 hK2;refine (Zhz hs hl hw).use ?_;clear hw;rintro _ w ⟨r,rfl,hw⟩;refine ⟨_,rfl,?_⟩;refine Zb hw λ br w hw=>?_;refine Za hw (by kernel_rfl) rfl (by simp [Value.cells]) λ w hw=>?_;have hw:=hw.re (pts br (ZB r));refine (Zk0 hw).use ?_;clear hw;rintro _ w ⟨q,rfl,hw⟩;refine ⟨_,rfl,?_⟩;have hw:Sat R (pts br (ZB r)::ZZ r ⟨bs,false⟩::ZC q []::Hs) w:=hw.arr;refine (Zdu (by omega) (by omega) hb hw).use ?_;clear hw;rintro _ w ⟨rfl,hw⟩;refine ⟨_,rfl,?_⟩;have hv:=Zw (most:=200) (rd:=⟨bs,false⟩) hb (by omega);have hb0:Z5 (Ze 200 ⟨bs,false⟩).2.bs:=Zk hb;obtain ⟨n,hn⟩:∃ n:Nat,(Ze 200 ⟨bs,false⟩).1=n:=⟨_,(Int.toNat_of_nonneg hv.1).symm⟩;obtain ⟨r0,hr0⟩:∃ x,x=(Ze 200 ⟨bs,false⟩).2:=⟨_,rfl⟩;have hraw:Zmc bs=Z3 Zf5 n r0:=by unfold Zmc;rw [hn,hr0,Int.toNat_natCast]
  rw [<-hr0] at hw hb0;rw [hn] at hv ⊢;have inv:=λ k=>ZdX (one:=Zf5) (P:=λ r=>Z5 r.bs) (Q:=λ x=>x.sc<18446744073709551616) (λ r hr=>⟨ZlV hr,Zpv hr⟩) k hb0;refine ⟨λ i w=>∃ k:Nat,i=k/\k<=n/\Zbf (Z3 Zf5 k r0).1/\Sat R (pts br (ZB r)::ZZ r (Z3 Zf5 k r0).2::ZC q (Z3 Zf5 k r0).1::Hs) w,λ i _=>(n - i).toNat,⟨0,rfl,by omega,Zbf.nil,hw⟩,?_⟩;clear hw;rintro _ _ w ⟨k,rfl,hk,hq,hw⟩;have hi:=inv k;have hlen:=ZdW Zf5 k r0;have hsn:=Zez Zf5 k r0;refine Br.d (λ h=>?_) (λ h=>?_)
  · have hkn:k<n:=by omega
    have hadd:(Zmc bs).1=(Z3 Zf5 (k + 1) r0).1++(Z3 Zf5 (n - (k + 1)) (Z3 Zf5 (k + 1) r0).2).1:=by
      rw [hraw,<-ZfC,show k + 1 + (n - (k + 1))=n by omega]
    obtain ⟨l,hll⟩:∃ l,l=(Z3 Zf5 k r0).1:=⟨_,rfl⟩;obtain ⟨rd,hrd⟩:∃ rd,rd=(Z3 Zf5 k r0).2:=⟨_,rfl⟩;rw [<-hll] at hq hw hi hlen hsn;rw [<-hrd] at hw hi hsn;have hb1:=hi.2;refine (Zdu (by omega) (by omega) hb1 hw).use ?_;clear hw;rintro _ w ⟨rfl,hw⟩;have hb2:Z5 (Ze 28629151 rd).2.bs:=Zk hb1;refine ⟨_,rfl,(Zdu (by omega) (by omega) hb2 hw).use ?_⟩;clear hw;rintro _ w ⟨rfl,hw⟩;have hb3:Z5 (Ze 7 (Ze 28629151 rd).2).2.bs:=Zk hb2;refine ⟨_,rfl,(Zdu (by omega) (by omega) hb3 hw).use ?_⟩;clear hw;rintro _ w ⟨rfl,hw⟩;have hb4:Z5 (Ze 600 (Ze 7 (Ze 28629151 rd).2).2).2.bs:=Zk hb3;refine ⟨_,rfl,(Zdu (by omega) (by omega) hb4 hw).use ?_⟩;clear hw;rintro _ w ⟨rfl,hw⟩;have hb5:Z5 (Ze 1099511627776 (Ze 600 (Ze 7 (Ze 28629151 rd).2).2).2).2.bs:=Zk hb4;refine ⟨_,rfl,?_⟩;refine Zb hw λ bw w hw=>?_;refine Za hw (by kernel_rfl) rfl (by simp [Value.cells]) λ w hw=>?_;obtain ⟨x,hx⟩:∃ x,x=(Zf5 rd).1:=⟨_,rfl⟩;obtain ⟨rd',hrd'⟩:∃ x,x=(Zf5 rd).2:=⟨_,rfl⟩;have hw:Sat R (wtD bw { x with sc:=0 }::pts br (ZB r)::ZZ r (Ze 1099511627776 (Ze 600 (Ze 7 (Ze 28629151 rd).2).2).2).2::ZC q l::Hs) w:=by rw [hx];exact hw
    refine ⟨some ⟨r,0,none⟩,oA hw,?_⟩;have hw:Sat R (ZZ r (Ze 1099511627776 (Ze 600 (Ze 7 (Ze 28629151 rd).2).2).2).2::wtD bw { x with sc:=0 }::pts br (ZB r)::ZC q l::Hs) w:=hw.arr;have hv5:=Zw (most:=18446744073709551615) hb5 (by omega);refine (ZeW (most:=18446744073709551615) hb5 hw).use ?_;clear hw;rintro _ w ⟨rfl,hw⟩;refine ⟨_,rfl,?_⟩;obtain ⟨u,hu⟩:∃ u:Nat,(Ze 18446744073709551615 (Ze 1099511627776 (Ze 600 (Ze 7 (Ze 28629151 rd).2).2).2).2).1=u:=⟨_,(Int.toNat_of_nonneg hv5.1).symm⟩;have hxs:x.sc=ofF u:=by
      rw [hx];show ofF (Ze 18446744073709551615 (Ze 1099511627776 (Ze 600 (Ze 7 (Ze 28629151 rd).2).2).2).2).1.toNat=_;rw [hu,Int.toNat_natCast]
    rw [hu] at hv5 ⊢;refine (Zvm (by omega) hw).use ?_;clear hw;rintro _ w ⟨rfl,hw⟩;refine ⟨_,rfl,?_⟩;have hw:Sat R (wtD bw { x with sc:=0 }::ZZ r rd'::pts br (ZB r)::ZC q l::Hs) w:=by rw [hrd'];exact hw.swap
    refine Za hw (by kernel_rfl) rfl (by simp [Value.cells,wtV]) λ w hw=>?_;rw [<-hxs] at hw;have hw:=hw.re (wtD bw x);have hsn:Z3 Zf5 (k + 1) r0=(l++[x],rd'):=by rw [hsn,hx,hrd']
    rw [hsn] at hadd;have hxf:x.sc<18446744073709551616:=by rw [hx];exact ZlV hb1
    obtain ⟨st1,st2⟩:=Zow (x:=x) hq hi.1 (by omega) hxf;have hqok:QOk l:=⟨hq.st,hq.ids,hq.ok,hi.1,by omega⟩;have w1:IntKind.i64.wrap ((k:Int) + 1)=(k:Int) + 1:=Zh (by omega) (by omega);have hw:Sat R (ZC q l::wtD bw x::ZZ r rd'::pts br (ZB r)::Hs) w:=hw.arr;obtain ⟨s1,hw⟩:=Sat.qu.1 hw;have hsl:=Zt.len hw.swap;rw [List.length_map] at hsl;refine Zc.mk rfl ⟨s1,oA hw,?_⟩;have fin:¬ (∃ h:0<l.length,0<(l[l.length - 1]'(by omega)).ord x)->∀ {w:World} {S:World->Prop},(∀ w,S w)->Sat R (ZC q l::wtD bw x::ZZ r rd'::pts br (ZB r)::Hs) w->
        ∃ t53:Int,∃ t53_1:Int,∃ t53_2:Int,∃ t53_3:Int,∃ t53_4:Nat,(At (λ w'=>w'=w) ⟨bw,0,none⟩ [.int .i64 t53,.int .i64 t53_1,.int .i64 t53_2,.int .i64 t53_3,.float .f64 t53_4])/\
        Calls prog 113 #[.pointer (some ⟨q,0,none⟩),.agg #[.int .i64 t53,.int .i64 t53_1,.int .i64 t53_2,.int .i64 t53_3,.float .f64 t53_4]] w λ e_10 w_18=>
        ∃ t54:Int,(e_10=.returned (.int .i64 t54))/\
        (S w_18)/\
        Br (t54 !=0)
         (K (.tuple #[.pointer none,.int .i64 6]) w_18)
         ((∃ k':Nat,IntKind.i64.wrap ((k:Int) + 1)=k'/\k'<=n/\Zbf (Z3 Zf5 k' r0).1/\Sat R (pts br (ZB r)::ZZ r (Z3 Zf5 k' r0).2::ZC q (Z3 Zf5 k' r0).1::Hs) w_18)/\((n:Int) - IntKind.i64.wrap ((k:Int) + 1)).toNat<((n:Int) - k).toNat):=λ hno {w S} hS hw=>by
      refine ⟨x.id,x.cls,x.many,x.time,x.sc,At.own (eqS hw) (by exact ⟨rfl,rfl,rfl,rfl,rfl,trivial⟩),?_⟩;refine (Zk4 hqok hw).use ?_;clear hw;rintro _ w ⟨rfl,hw⟩;obtain ⟨a1,a2⟩:=st2 hno;refine ⟨_,rfl,hS _,Br.ne (λ h0=>hK1 (ZrJ hadd (a1 h0)) _ hw.drop.drop.drop.drop) (λ h0=>?_)⟩;obtain ⟨b1,b2⟩:=a2 h0;rw [b2] at hw;rw [w1];refine ⟨⟨k + 1,by omega,by omega,?_,?_⟩,by omega⟩
      · rw [hsn];exact b1
      · rw [hsn]
        have hw:Sat R (wtD bw x::pts br (ZB r)::ZZ r rd'::ZC q (l++[x])::Hs) w:=hw.arr;exact hw.drop
    refine ZE (λ _=>True) hw (λ _ _=>trivial) λ w hw=>?_;refine Br.d (λ hpos=>?_) (λ hpos=>fin (λ⟨h,_⟩=>by omega) (λ _=>trivial) (Sat.qu.2 ⟨s1,hw⟩));have hlp:0<l.length:=by omega
    refine Zc.mk rfl ⟨s1,oA hw,?_⟩;rw [Zh (x:=(s1.len:Int) - 1) (by omega) (by omega),show (s1.len:Int) - 1=((l.length - 1:Nat):Int) by omega];have hw2:=hw.swap;refine (Zt.reads hw2 (S:=λ w'=>w'=w) (λ w' e=>by rw [e];exact hw2)).rngM (E:=l) (g:=wtV) (k:=l.length - 1) (by omega) λ a _ he=>?_;refine ⟨_,_,_,_,_,he.z (by exact ⟨rfl,rfl,rfl,rfl,rfl,trivial⟩),x.id,x.cls,x.many,x.time,x.sc,At.own (eqS hw) (by exact ⟨rfl,rfl,rfl,rfl,rfl,trivial⟩),?_⟩;refine (Zir (a:=l[l.length - 1]) (b:=x) hw).use ?_;clear hw hw2;rintro _ w ⟨rfl,hw⟩;refine ⟨_,rfl,trivial,Br.d (λ ho=>?_) (λ ho=>?_)⟩
    · exact hK1 (ZrJ hadd (st1 ⟨hlp,by omega⟩)) _ hw.drop.drop.drop.drop.drop
    · exact fin (λ⟨_,h2⟩=>by omega) (λ _=>trivial) (Sat.qu.2 ⟨s1,hw⟩)
  · have hkn:k=n:=by omega
    subst hkn;rw [<-hraw] at hw hq;refine ⟨some ⟨r,0,none⟩,oA hw,?_⟩;refine (Zft hw.swap).use ?_;clear hw;rintro _ w ⟨rfl,hw⟩;refine ⟨_,rfl,Br.nb (λ h0=>?_) (λ h0=>?_)⟩
    · refine hK1 ?_ _ hw.drop.drop.drop
      unfold ZnR;rw [if_neg (λ h=>by rw [h.1] at h0;cases h0)]
    · refine hK2 (Zmc bs).1 q _ ?_ hw.drop.drop
      unfold ZnR;rw [if_pos ⟨h0,hq⟩]
end
section
open Go Go.VC Tryz
open Classical
variable {R:Cx} {Hs Rest:List HP} {w:World}
abbrev bxC (b a:Nat):HP:=pts b (.cells [.pointer (some ⟨a,0,none⟩)].toArray 86 (0,0))
theorem Zrl {bx a:Nat} {x:Bk} {y:Wt} (hw:Sat R (bxC bx a::pts a (Zr x)::Hs) w):
  Zm prog 174 #[wtA y,.pointer (some ⟨bx,0,none⟩)] w λ v w'=>v=.bool (decide (y.id=x.id/\y.cls=x.cls/\y.many=x.many))/\Sat R (bxC bx a::pts a (Zr x)::Hs) w':=by
 apply Zxc;refine Zb hw λ b w hw=>?_;have hw:Sat R (wtD b y::bxC bx a::pts a (Zr x)::Hs) w:=hw;refine Zo hw λ w hw=>?_;refine ⟨y.id,oS,Zc.mk rfl ⟨some ⟨a,0,none⟩,oS,Zc.mk rfl ⟨x.id,oS,Br.e (λ h1=>?_) (λ h1=>⟨?_,hw.drop⟩)⟩⟩⟩
 ·refine ⟨y.cls,oS,Zc.mk rfl ⟨some ⟨a,0,none⟩,oS,Zc.mk rfl ⟨x.cls,oS,Br.e (λ h2=>?_) (λ h2=>⟨?_,hw.drop⟩)⟩⟩⟩
  ·refine ⟨y.many,oS,Zc.mk rfl ⟨some ⟨a,0,none⟩,oS,Zc.mk rfl ⟨x.many,oS,?_,hw.drop⟩⟩⟩
   congr 1
   rw [Bool.eq_iff_iff,beq_iff_eq,decide_eq_true_iff];exact ⟨λ h3=>⟨h1,h2,h3⟩,λ h=>h.2.2⟩
  ·rw [decide_eq_false (λ h=>h2 h.2.1)]
 ·rw [decide_eq_false (λ h=>h1 h.1)]
theorem Zrm {bx a:Nat} {x:Bk} {y:ZD} {t:Sl} (hw:Sat R (bxC bx a::pts a (Zr x)::Hs) w):
  Zm prog 176 #[.agg (ZhV y t).toArray,.pointer (some ⟨bx,0,none⟩)] w λ v w'=>v=.bool (decide (y.owner=x.id/\y.cls=x.cls/\y.many=x.many))/\Sat R (bxC bx a::pts a (Zr x)::Hs) w':=by
 apply Zxa;refine Zb hw λ b w hw=>?_;have hw:Sat R (pts b (.cells (ZhV y t).toArray 176 (0,0))::bxC bx a::pts a (Zr x)::Hs) w:=hw;refine Zo hw λ w hw=>?_;refine ⟨y.owner,oS,Zc.mk rfl ⟨some ⟨a,0,none⟩,oS,Zc.mk rfl ⟨x.id,oS,Br.e (λ h1=>?_) (λ h1=>⟨?_,hw.drop⟩)⟩⟩⟩
 ·refine ⟨y.cls,oS,Zc.mk rfl ⟨some ⟨a,0,none⟩,oS,Zc.mk rfl ⟨x.cls,oS,Br.e (λ h2=>?_) (λ h2=>⟨?_,hw.drop⟩)⟩⟩⟩
  ·refine ⟨y.many,oS,Zc.mk rfl ⟨some ⟨a,0,none⟩,oS,Zc.mk rfl ⟨x.many,oS,?_,hw.drop⟩⟩⟩
   congr 1
   rw [Bool.eq_iff_iff,beq_iff_eq,decide_eq_true_iff];exact ⟨λ h3=>⟨h1,h2,h3⟩,λ h=>h.2.2⟩
  ·rw [decide_eq_false (λ h=>h2 h.2.1)]
 ·rw [decide_eq_false (λ h=>h1 h.1)]
theorem ZtY {s:Sl} {T:TypeId} {l:List Wt} {f:Value} {p:Wt->Bool} (hl:l.length<=1000000000)
  (hf:∀ x w,Sat R (Zt 5 s T (l.map wtV)::Hs) w->ZaK prog cl f [wtA x] w λ e w'=>e=.returned (.bool (p x))/\Sat R (Zt 5 s T (l.map wtV)::Hs) w')
  (hw:Sat R (Zt 5 s T (l.map wtV)::Hs) w):
  Zm prog 173 #[.slice s.a s.len s.cap,f] w λ v w'=>v=.bool (l.any p)/\Sat R (Zt 5 s T (l.map wtV)::Hs) w':=by
 have hlen:=Zt.len hw;rw [List.length_map] at hlen;apply Zxd;have h1:Zm prog 224 #[.slice s.a s.len s.cap,f] w λ v w'=>(∃ i:Int,v=.int .i64 i/\decide (i >= 0)=l.any p)/\Sat R (Zt 5 s T (l.map wtV)::Hs) w':=by
  apply ZwD;refine ⟨λ i w=>∃ j:Nat,i=j/\j<=l.length/\(l.take j).any p=false/\Sat R (Zt 5 s T (l.map wtV)::Hs) w,λ i _=>l.length - i.toNat,⟨0,rfl,by omega,by simp,hw⟩,?_⟩;clear hw;rintro _ _ w ⟨j,rfl,hj,hn,hw⟩;refine Br.d (λ h=>?_) (λ h=>?_)
  ·have hj2:j<l.length:=by omega
   refine (Zt.reads hw (eqS hw)).rngM (E:=l) (g:=wtV) hj2 λ a _ he=>?_;refine ⟨_,_,_,_,_,he.z (by exact ⟨rfl,rfl,rfl,rfl,rfl,trivial⟩),?_⟩;refine (hf l[j] _ hw).mono ?_;rintro _ w ⟨rfl,hw⟩;refine ⟨_,rfl,Br.mk (λ h=>⟨⟨j,rfl,?_⟩,hw⟩) (λ h=>?_)⟩
   ·rw [decide_eq_true (by omega)]
    exact (List.any_eq_true.2 ⟨_,List.getElem_mem hj2,h⟩).symm
   rw [Zh (by omega) (by omega)];refine ⟨⟨j + 1,by omega,by omega,?_,hw⟩,by dsimp only;omega⟩;rw [List.take_add_one,List.getElem?_eq_getElem hj2,List.any_append,hn];simp [h]
  ·rw [List.take_of_length_le (by omega)] at hn
   exact ⟨⟨-1,rfl,by rw [hn];rfl⟩,hw⟩
 refine h1.use ?_;clear hw;rintro _ w ⟨⟨i,rfl,hi⟩,hw⟩;exact ⟨i,rfl,by rw [hi],hw⟩
theorem ZtZ {s:Sl} {L:List ZD} {ts:List Sl} {f:Value} {p:ZD->Bool} (hl:L.length<=1000000000) (hr:HsR R s L ts)
  (hf:∀ x t w,Sat R Hs w->ZaK prog cl f [.agg (ZhV x t).toArray] w λ e w'=>e=.returned (.bool (p x))/\Sat R Hs w') (hw:Sat R Hs w):
  Zm prog 175 #[.slice s.a s.len s.cap,f] w λ v w'=>v=.bool (L.any p)/\Sat R Hs w':=by
 have hlen:s.len=L.length:=by rw [hr.rows.len,Zbs hr.len]
 have htl:=hr.len;apply Zxb;have h1:Zm prog 225 #[.slice s.a s.len s.cap,f] w λ v w'=>(∃ i:Int,v=.int .i64 i/\decide (i >= 0)=L.any p)/\Sat R Hs w':=by
  apply ZwC;refine ⟨λ i w=>∃ j:Nat,i=j/\j<=L.length/\(L.take j).any p=false/\Sat R Hs w,λ i _=>L.length - i.toNat,⟨0,rfl,by omega,by simp,hw⟩,?_⟩;clear hw;rintro _ _ w ⟨j,rfl,hj,hn,hw⟩;refine Br.d (λ h=>?_) (λ h=>?_)
  ·have hj2:j<L.length:=by omega
   refine hr.row (eqS hw) hj2 (by omega) λ a he=>?_;refine ⟨L[j].owner,L[j].cls,L[j].many,ts[j]'(by omega),he,?_⟩;refine (hf L[j] (ts[j]'(by omega)) _ hw).mono ?_;rintro _ w ⟨rfl,hw⟩;refine ⟨_,rfl,Br.mk (λ h=>⟨⟨j,rfl,?_⟩,hw⟩) (λ h=>?_)⟩
   ·rw [decide_eq_true (by omega)]
    exact (List.any_eq_true.2 ⟨_,List.getElem_mem hj2,h⟩).symm
   rw [Zh (by omega) (by omega)];refine ⟨⟨j + 1,by omega,by omega,?_,hw⟩,by dsimp only;omega⟩;rw [List.take_add_one,List.getElem?_eq_getElem hj2,List.any_append,hn];simp [h]
  ·rw [List.take_of_length_le (by omega)] at hn
   exact ⟨⟨-1,rfl,by rw [hn];rfl⟩,hw⟩
 refine h1.use ?_;clear hw;rintro _ w ⟨⟨i,rfl,hi⟩,hw⟩;exact ⟨i,rfl,by rw [hi],hw⟩
set_option maxHeartbeats 1000000 in
theorem Zse {f q a:Nat} {pl:Pl} {x:Bk} (g:ZaA pl.r) (hq:pl.q.length<=200) (hh:pl.r.L.length<=1000000) (hw:Sat R (pts a (Zr x)::Zf f pl.r::ZC q pl.q::Hs) w):
  Zm prog 107 #[.agg #[.pointer (some ⟨f,0,none⟩),.pointer (some ⟨q,0,none⟩)],.pointer (some ⟨a,0,none⟩)] w λ v w'=>v=.bool (decide (Zgn pl x))/\Sat R (pts a (Zr x)::Zf f pl.r::ZC q pl.q::Hs) w':=by
 apply Zr0
 suffices H:∀ K:Value->World->Prop,(∀ w',Sat R (pts a (Zr x)::Zf f pl.r::ZC q pl.q::Hs) w'->K (.bool (decide (Zgn pl x))) w')->B107 (some ⟨f,0,none⟩) (some ⟨q,0,none⟩) (some ⟨a,0,none⟩) K w from H _ λ w' h=>⟨rfl,h⟩
 intro K hK;refine Zb hw λ b2 w hw=>Zb hw λ bx w hw=>?_;have hw:Sat R (bxC bx a::pts a (Zr x)::fqC b2 f q::Zf f pl.r::ZC q pl.q::Hs) w:=by
  have h:Sat R (bxC bx a::fqC b2 f q::pts a (Zr x)::Zf f pl.r::ZC q pl.q::Hs) w:=hw;exact h.arr
 have fin:∀ {w},Sat R (bxC bx a::pts a (Zr x)::fqC b2 f q::Zf f pl.r::ZC q pl.q::Hs) w->K (.bool (decide (Zgn pl x))) w:=λ hw=>hK _ (hw.drop.cons λ _ h=>h.drop);refine ⟨some ⟨f,0,none⟩,oA hw,Br.f rfl ?_⟩;refine ⟨some ⟨a,0,none⟩,oA hw,Zc.mk rfl ⟨x.state,oA hw,Br.e (λ h3=>?_) (λ h3=>?_)⟩⟩
 ·have hdef:Zgn pl x↔(∃ w∈pl.q,w.id=x.id/\w.cls=x.cls/\w.many=x.many)/\x.cls<pl.r.lims.length:=by unfold Zgn;rw [if_pos h3]
  have toS:∀ {A:List HP} {R:Cx} {w:World},Sat R (bxC bx a::pts a (Zr x)::fqC b2 f q::A) w->Sat R [bxC bx a,pts a (Zr x),fqC b2 f q,VC.tru] w:=λ h=>h.cons λ _ h=>h.cons λ _ h=>h.restTru2;refine ZE (Sat R [bxC bx a,pts a (Zr x),fqC b2 f q,VC.tru]) hw (λ w hw=>toS hw) λ w hw=>?_;refine ⟨some ⟨a,0,none⟩,At.own (λ _ h=>h) (by exact ⟨rfl,trivial⟩),Zc.mk rfl ⟨x.cls,At.own (λ _ h=>h) (by exact ⟨rfl,trivial⟩),some ⟨f,0,none⟩,At.own (λ _ h=>h) (by exact ⟨rfl,trivial⟩),?_⟩⟩;have hw:Sat R (Zf f pl.r::bxC bx a::pts a (Zr x)::fqC b2 f q::ZC q pl.q::Hs) w:=hw.arr;refine (ZbW hw).use ?_;clear hw;rintro _ w ⟨sl,rfl,hw⟩;have hlen:=Own.len hw;rw [List.length_map,ZdC] at hlen;have hw:Sat R (bxC bx a::pts a (Zr x)::fqC b2 f q::Zf f pl.r::ZC q pl.q::Hs) w:=by
   have h:=hw.drop;exact h.arr
  refine ⟨sl,rfl,toS hw,Br.d (λ hc=>?_) (λ hc=>?_)⟩
  ·refine ⟨some ⟨q,0,none⟩,At.own (λ _ h=>h) (by exact ⟨rfl,trivial⟩),?_⟩
   have hw:Sat R (ZC q pl.q::bxC bx a::pts a (Zr x)::fqC b2 f q::Zf f pl.r::Hs) w:=hw.arr;refine (Zg9 (by omega) hw).use ?_;clear hw;rintro _ w ⟨t,rfl,hw⟩;refine ⟨t,rfl,toS (hw.arr (Hs':=bxC bx a::pts a (Zr x)::fqC b2 f q::Zt 5 t 65 (pl.q.map wtV)::ZC q pl.q::Zf f pl.r::Hs)),?_⟩;have hw:Sat R (Zt 5 t 65 (pl.q.map wtV)::bxC bx a::pts a (Zr x)::fqC b2 f q::Zf f pl.r::ZC q pl.q::Hs) w:=hw.arr;refine (ZtY (p:=λ y=>decide (y.id=x.id/\y.cls=x.cls/\y.many=x.many)) (by omega) (λ y w hw=>ZaK.mk (by kernel_rfl) ?_) hw).use ?_
   ·have hw:Sat R (bxC bx a::pts a (Zr x)::Zt 5 t 65 (pl.q.map wtV)::fqC b2 f q::Zf f pl.r::ZC q pl.q::Hs) w:=hw.arr
    exact (Zrl hw).use λ v w' h=>⟨by rw [h.1],h.2.arr⟩
   clear hw;rintro _ w ⟨rfl,hw⟩;refine ⟨_,rfl,toS (hw.arr (Hs':=bxC bx a::pts a (Zr x)::fqC b2 f q::Zt 5 t 65 (pl.q.map wtV)::Zf f pl.r::ZC q pl.q::Hs)),?_⟩;have e:(pl.q.any λ y=>decide (y.id=x.id/\y.cls=x.cls/\y.many=x.many))=decide (Zgn pl x):=by
    rw [Bool.eq_iff_iff,decide_eq_true_iff,hdef,List.any_eq_true];constructor
    ·rintro ⟨y,hy,h⟩
     exact ⟨⟨y,hy,of_decide_eq_true h⟩,by omega⟩
    ·rintro ⟨⟨y,hy,h⟩,_⟩
     exact ⟨y,hy,decide_eq_true h⟩
   rw [e];exact fin hw.drop
  ·have:=fin hw
   rw [decide_eq_false (λ h=>by have:=(hdef.1 h).2;omega)] at this;exact this
 ·have hdef:Zgn pl x↔∃ h∈pl.r.L,h.owner=x.id/\h.cls=x.cls/\h.many=x.many:=by unfold Zgn;rw [if_neg h3]
  refine ⟨some ⟨f,0,none⟩,oA hw,?_⟩;have hw:Sat R (Zf f pl.r::bxC bx a::pts a (Zr x)::fqC b2 f q::ZC q pl.q::Hs) w:=hw.arr;refine (Ziy hw).use ?_;clear hw;rintro _ w ⟨t,rfl,hw⟩;refine ⟨t,rfl,?_⟩;obtain ⟨R1,ts,e1,hr,hw⟩:=ZaV.leak hw;have hw:Sat R1 (bxC bx a::pts a (Zr x)::fqC b2 f q::Zf f pl.r::ZC q pl.q::Hs) w:=hw.arr;refine (ZtZ (p:=λ y=>decide (y.owner=x.id/\y.cls=x.cls/\y.many=x.many)) (by omega) hr (λ y t w hw=>ZaK.mk (by kernel_rfl) ((Zrm hw).use λ v w' h=>⟨by rw [h.1],h.2⟩)) hw).use ?_;clear hw;rintro _ w ⟨rfl,hw⟩;refine ⟨_,rfl,?_⟩;have e:(pl.r.L.any λ y=>decide (y.owner=x.id/\y.cls=x.cls/\y.many=x.many))=decide (Zgn pl x):=by
   rw [Bool.eq_iff_iff,decide_eq_true_iff,hdef,List.any_eq_true];constructor
   ·rintro ⟨y,hy,h⟩
    exact ⟨y,hy,of_decide_eq_true h⟩
   ·rintro ⟨y,hy,h⟩
    exact ⟨y,hy,decide_eq_true h⟩
  rw [e];exact fin (e1.back hw)
theorem Zsf {v:Option Addr} {a:Nat} {x:Bk} (hw:Sat R (pts a (Zr x)::Hs) w):
  Zm prog 107 #[.agg #[.pointer none,.pointer v],.pointer (some ⟨a,0,none⟩)] w λ v w'=>v=.bool false/\Sat R (pts a (Zr x)::Hs) w':=by
 apply Zr0;refine Zb hw λ b2 w hw=>Zb hw λ bx w hw=>?_;have hw:Sat R (bxC bx a::plC b2 none v::pts a (Zr x)::Hs) w:=hw;exact ⟨none,oA hw,Br.t rfl ⟨rfl,hw.drop.drop⟩⟩
end
section
open Go Go.VC Tryz
open Classical
theorem Zs3 (rd:Rd):ZbV 0 rd=some ([],rd):=rfl
theorem Zs4 {m:Nat} {rd:Rd} {p:Pl} (h:(Ziq rd).1=some p):ZbV (m + 1) rd=(ZbV m (Ziq rd).2).map λ y=>(p::y.1,y.2):=by
 show (match (Ziq rd).1 with|none=>none|some p=>(ZbV m (Ziq rd).2).map λ x:List Pl × Rd=>(p::x.1,x.2))=_
 rw [h]
theorem Zs5 {m:Nat} {rd:Rd} (h:(Ziq rd).1=none):ZbV (m + 1) rd=none:=by
 show (match (Ziq rd).1 with|none=>none|some p=>(ZbV m (Ziq rd).2).map λ x:List Pl × Rd=>(p::x.1,x.2))=_
 rw [h]
def Zpu (n:Nat) (r0:Rd) (j:Nat) (rd:Rd) (pls:List Pl):Prop:=ZbV n r0=(ZbV (n - j) rd).map λ y=>(pls++y.1,y.2)
theorem Zqz {n:Nat} {r0:Rd}:Zpu n r0 0 r0 []:=by
 unfold Zpu;rw [Nat.sub_zero];cases ZbV n r0<;>rfl
theorem ZqA {n j:Nat} {r0 rd:Rd} {pls:List Pl} {p:Pl} (h:Zpu n r0 j rd pls) (hj:j<n) (hp:(Ziq rd).1=some p):Zpu n r0 (j + 1) (Ziq rd).2 (pls++[p]):=by
 unfold Zpu at h ⊢;rw [h,show n - j=(n - (j + 1)) + 1 by omega,Zs4 hp];cases ZbV (n - (j + 1)) (Ziq rd).2 with
 |none=>rfl
 |some y=>simp
theorem Zk6 {n j:Nat} {r0 rd:Rd} {pls:List Pl} (h:Zpu n r0 j rd pls) (hj:j<n) (hp:(Ziq rd).1=none):ZbV n r0=none:=by
 unfold Zpu at h;rw [h,show n - j=(n - (j + 1)) + 1 by omega,Zs5 hp];rfl
theorem Zs7 {n:Nat} {r0 rd:Rd} {pls:List Pl} (h:Zpu n r0 n rd pls):ZbV n r0=some (pls,rd):=by
 unfold Zpu at h;rw [h,Nat.sub_self,Zs3];simp
theorem Zs6 {n j:Nat} {r0 rd:Rd} {pls:List Pl} {y:List Pl × Rd} (h:Zpu n r0 j rd pls) (hy:ZbV n r0=some y):∃ m,y.1=pls++m:=by
 unfold Zpu at h;rw [hy] at h;cases hz:ZbV (n - j) rd with
 |none=>rw [hz] at h;cases h
 |some z=>
  rw [hz] at h;simp only [Option.map_some,Option.some.injEq] at h;exact ⟨z.1,by rw [h]⟩
def Zdo (bs:List Int):Int × Rd:=Ze 1099511627776 ⟨bs,false⟩
def ZbF (bs:List Int):Int × Rd:=Ze 28629151 (Zdo bs).2
def Zbd (bs:List Int):Int × Rd:=Ze 8 (ZbF bs).2
def ZjB (r1:Rd):List Bk × Rd:=Z3 ZlJ (Ze 300 r1).1.toNat (Ze 300 r1).2
theorem Zqg {bs:List Int}:ZzL bs=match ZbV (Zbd bs).1.toNat (Zbd bs).2 with
  |none=>none
  |some y=>some (⟨(Zdo bs).1,(ZbF bs).1,y.1,(ZjB y.2).1⟩,(ZjB y.2).2):=rfl
theorem Ztv {bs:List Int} (h:ZbV (Zbd bs).1.toNat (Zbd bs).2=none):Zdf bs=none:=by
 unfold Zdf;rw [Zqg,h]
theorem Ztu {bs:List Int} (h:∀ y,ZbV (Zbd bs).1.toNat (Zbd bs).2=some y->¬ Zam Pl.n y.1):Zdf bs=none:=by
 unfold Zdf;rw [Zqg];cases hy:ZbV (Zbd bs).1.toNat (Zbd bs).2 with
 |none=>rfl
 |some y=>
  dsimp only;rw [if_neg (λ hm=>h y hy hm.2.nums)]
theorem Zq1 {bs:List Int} {pls:List Pl} {r1:Rd} (h:ZbV (Zbd bs).1.toNat (Zbd bs).2=some (pls,r1)):
  Zdf bs=if Z0 (ZjB r1).2=true/\ZuH ⟨(Zdo bs).1,(ZbF bs).1,pls,(ZjB r1).1⟩ then some ⟨(Zdo bs).1,(ZbF bs).1,pls,(ZjB r1).1⟩ else none:=by
 unfold Zdf;rw [Zqg,h]
def Zms (pls:List Pl):Int:=(pls.getLast?.map Pl.n).getD 0
theorem ZoS (pls:List Pl) (p:Pl):Zms (pls++[p])=p.n:=by simp [Zms]
theorem ZkL {α:Type} {k:α->Int} {l:List α} {x:α} (h:Zam k l) (hx:x∈l):∃ y,l.getLast? =some y/\k x<=k y:=by
 have hne:l≠[]:=by rintro rfl;cases hx
 refine ⟨l.getLast hne,List.getLast?_eq_some_getLast hne,?_⟩;obtain ⟨m,y,rfl⟩:∃ m y,l=m++[y]:=⟨l.dropLast,l.getLast hne,(List.dropLast_concat_getLast hne).symm⟩;rw [List.getLast_concat];rcases List.mem_append.1 hx with h1|h1
 ·have:=(List.pairwise_append.1 h).2.2 x h1 y (by simp)
  omega
 ·rw [List.mem_singleton.1 h1];omega
theorem Ztk {pls:List Pl} {p:Pl} (h:Zam Pl.n pls) (hp:1<=p.n):(Zms pls<p.n->Zam Pl.n (pls++[p]))/\(¬ Zms pls<p.n->∀ m,¬ Zam Pl.n (pls++[p]++m)):=by
 constructor
 ·intro hl
  refine ZfM h λ y hy=>?_;obtain ⟨z,hz,hle⟩:=ZkL h hy;unfold Zms at hl;rw [hz] at hl;simp at hl;omega
 ·intro hl m hr
  unfold Zms at hl;cases hz:pls.getLast? with
  |none=>rw [hz] at hl;simp at hl;omega
  |some z=>
   rw [hz] at hl;simp at hl;have h1:=(List.pairwise_append.1 (List.pairwise_append.1 hr).1).2.2 z (List.mem_of_getLast? hz) p (by simp);omega
theorem Zsb {r:Rd} (hb:Z5 r.bs):Z5 (ZlJ r).2.bs:=Zk (Zk (Zk (Zk (Zk (Zk hb)))))
structure BkIn (x:Bk):Prop where
 id:0<=x.id/\x.id<=28629151
 flt:0<=x.flt/\x.flt<=9999
 cls:0<=x.cls/\x.cls<=9999
 many:0<=x.many/\x.many<=9999
 state:0<=x.state/\x.state<=3
 till:0<=x.till/\x.till<=1099511627776
theorem Zsa {r:Rd} (hb:Z5 r.bs):BkIn (ZlJ r).1:=
 ⟨Zw hb (by omega),Zw (Zk hb) (by omega),Zw (Zk (Zk hb)) (by omega),Zw (Zk (Zk (Zk hb))) (by omega),Zw (Zk (Zk (Zk (Zk hb)))) (by omega),Zw (Zk (Zk (Zk (Zk (Zk hb))))) (by omega)⟩
def ZjD (L:List Bk):Int:=(L.getLast?.map Bk.id).getD 0
theorem ZoT (L:List Bk) (x:Bk):ZjD (L++[x])=x.id:=by simp [ZjD]
structure Chk (b:ZM) (L:List Bk) (x:Bk):Prop where
 last:ZjD L<x.id
 next:x.id<b.next
 state:1<=x.state
 held:x.state=1↔b.now<x.till
 free:x.state=1\/x.till=0
 has:∃ p,b.at x.flt=some p/\Zgn p x
theorem Zv5 {b:ZM} {L:List Bk} {x:Bk} (h:Chk b L x) (hr:Zam Bk.id L) (hL:∀ y∈L,1<=y.id):Zyf b x/\Zam Bk.id (L++[x]):=by
 have h0:0<=ZjD L:=by
  unfold ZjD;cases hz:L.getLast? with
  |none=>simp
  |some z=>have:=hL z (List.mem_of_getLast? hz);simp;omega
 refine ⟨⟨⟨by have:=h.last;omega,h.next⟩,h.state,h.held.1,λ hs=>h.free.resolve_left hs,h.has⟩,ZfM hr λ y hy=>?_⟩;obtain ⟨z,hz,hle⟩:=ZkL hr hy;have hl:=h.last;unfold ZjD at hl;rw [hz] at hl;simp at hl;omega
theorem ZyS {b:ZM} {L m:List Bk} {x:Bk} (h:ZuH { b with L:=L++[x]++m }) (hn:0<=b.now):Chk b L x:=by
 have hx:=h.each x (by simp);have hid:=hx.id;refine ⟨?_,hid.2,hx.state,⟨hx.held,λ ht=>?_⟩,?_,hx.has⟩
 ·unfold ZjD
  cases hz:L.getLast? with
  |none=>simp;omega
  |some z=>
   have h1:=(List.pairwise_append.1 (List.pairwise_append.1 h.ids).1).2.2 z (List.mem_of_getLast? hz) x (by simp);simp;omega
 ·by_cases hs:x.state=1
  ·exact hs
  ·have:=hx.free hs;omega
 ·by_cases hs:x.state=1
  ·exact .inl hs
  ·exact .inr (hx.free hs)
theorem Ztt {bs:List Int} {pls:List Pl} {r1:Rd} {L m:List Bk} {x:Bk} (h:ZbV (Zbd bs).1.toNat (Zbd bs).2=some (pls,r1)) (hb:(ZjB r1).1=L++[x]++m) (hn:0<=(Zdo bs).1)
  (hc:¬ Chk ⟨(Zdo bs).1,(ZbF bs).1,pls,[]⟩ L x):Zdf bs=none:=by
 rw [Zq1 h,if_neg];rintro ⟨_,hm⟩;rw [hb] at hm;exact hc (ZyS (b:=⟨(Zdo bs).1,(ZbF bs).1,pls,[]⟩) hm hn)
end
section
open Go Go.VC Tryz
open Classical
variable {R:Cx} {Hs Rest:List HP} {w:World}
abbrev ldB (b p:Nat):HP:=pts b (.cells [.pointer (some ⟨p,0,none⟩)].toArray 25 (0,0))
abbrev ldE (b:Nat):HP:=pts b (.cells [.int .i64 0].toArray 27 (0,0))
abbrev ldR (b r:Nat):HP:=pts b (.cells [.pointer (some ⟨r,0,none⟩)].toArray 126 (0,0))
abbrev LdK (b2 e3:Nat) (K:Value->World->Prop) (w:World):Prop:=
 ∃ u:Option Addr,(At (λ w'=>w'=w) ⟨b2,0,none⟩ [.pointer u])/\∃ u_1:Int,(At (λ w'=>w'=w) ⟨e3,0,none⟩ [.int .i64 u_1])/\K (.tuple #[.pointer u,.int .i64 u_1]) w
theorem Zq0 {b2 e3 p:Nat} {K:Value->World->Prop} (hw:Sat R (ldB b2 p::ldE e3::Hs) w) (k:∀ w',Sat R Hs w'->K (.tuple #[.pointer none,.int .i64 6]) w'):
  Zu prog 99 [.pointer (some ⟨b2,0,none⟩),.pointer (some ⟨e3,0,none⟩)] (.panicking (Zgj 6)) (LdK b2 e3 K) w:=by
 unfold Zu;refine CallsD.mono (Zv9 (some ⟨b2,0,none⟩) (some ⟨e3,0,none⟩) (.iface 27 (.int .i64 6)) (LdK b2 e3 K) w ?_) ?_
 ·refine ⟨true,λ w' _=>by kernel_rfl,Br.t rfl ?_⟩
  refine ZE (λ _=>True) hw (λ _ _=>trivial) λ w hw=>?_;refine ⟨6,λ w' _=>by kernel_rfl,?_⟩;refine Za hw (by kernel_rfl) rfl (by simp [Value.cells]) λ w hw=>⟨trivial,?_⟩;have hw:Sat R (pts b2 (.cells [.pointer none].toArray 25 (0,0))::ldE e3::Hs) w:=hw;refine Za hw (by kernel_rfl) rfl (by simp [Value.cells]) λ w hw=>?_;have hw:Sat R (pts e3 (.cells [.int .i64 6].toArray 27 (0,0))::pts b2 (.cells [.pointer none].toArray 25 (0,0))::Hs) w:=hw;exact ⟨none,oA hw,6,oA hw,k w hw.drop.drop⟩
 ·rintro e v w' ⟨hy,rfl,hk⟩
  exact ⟨hy,rfl,hk⟩
theorem Zts {b2 e3 p:Nat} {K:Value->World->Prop} (hw:Sat R (ldB b2 p::ldE e3::Hs) w) (k:K (.tuple #[.pointer (some ⟨p,0,none⟩),.int .i64 0]) w):
  Zu prog 99 [.pointer (some ⟨b2,0,none⟩),.pointer (some ⟨e3,0,none⟩)] .returning (LdK b2 e3 K) w:=by
 unfold Zu;refine CallsD.mono (Zv7 (some ⟨b2,0,none⟩) (some ⟨e3,0,none⟩) (LdK b2 e3 K) w ?_) ?_
 ·exact ⟨false,λ w' _=>by kernel_rfl,Br.f rfl ⟨_,oA hw,0,oA hw,k⟩⟩
 ·rintro e v w' ⟨hy,rfl,hk⟩
  exact ⟨hy,rfl,hk⟩
theorem ZdI {b:Bool} {Q:Ending->World->Prop} (h1:b=true->Q (.returned (.tuple #[])) w) (h2:b=false->Q (.panicked (Zgj 6)) w):Calls prog 100 #[.bool b] w Q:=by
 have h:ZaX prog 100 #[.bool b] w (λ ch w'=>b=false/\ch=Zgj 6/\w'=w) (λ v w'=>b=true/\v=.tuple #[]/\w'=w):=by
  apply Zx3;exact Zbx (λ h=>.inl ⟨rfl,h,rfl,rfl⟩) (λ h=>.inr ⟨_,rfl,h,rfl,rfl⟩)
 refine h.use ?_ ?_
 ·rintro v w' ⟨hb,rfl,e⟩;rw [e];exact h1 hb
 ·rintro v w' ⟨hb,rfl,e⟩;rw [e];exact h2 hb
theorem ZfL {b4 r:Nat} {rd:Rd} (hb:Z5 rd.bs) (hw:Sat R (ZZ r rd::ldR b4 r::Hs) w):
  Zm prog 106 #[.pointer (some ⟨b4,0,none⟩)] w λ v w'=>v=.int .i64 (Ze 9999 rd).1/\Sat R (ZZ r (Ze 9999 rd).2::ldR b4 r::Hs) w':=by
 apply ZxX;refine Zc.mk rfl ⟨some ⟨r,0,none⟩,oA hw,?_⟩;refine (Zb2 hb (by omega) (by omega) hw).use ?_;rintro _ w ⟨rfl,hw⟩;exact ⟨_,rfl,rfl,hw⟩
theorem Zmn {s:Sl} {T:TypeId} {bs:List Int} (hb:Z5 bs) (hl:bs.length<=1099511627776) (hw:Sat R (Own s T (b8 bs)::Hs) w):
  Zm prog 101 #[.slice s.a s.len s.cap] w λ v w'=>(ZsD bs=none/\v=.tuple #[.pointer none,.int .i64 6]/\Sat R Hs w')\/
   (∃ r p,ZsD bs=some r/\ZaA r/\v=.tuple #[.pointer (some ⟨p,0,none⟩),.int .i64 0]/\Sat R (Zf p r::Hs) w'):=by
 obtain ⟨R1,e1,g1,hw⟩:=Own.leak hw;refine (ZlC hb (g1.ro (by rw [List.length_map];omega)) hl hw).mono ?_;rintro v w' h;rcases Zv0 hb with ⟨d1,d2⟩|⟨f,d1,d2,d3,d4,d5⟩
 ·have hn:ZsD bs=none:=by unfold ZsD;rw [if_neg d2]
  rcases h with ⟨_,rfl,hw⟩|⟨f,p,hf,_,_⟩
  ·exact .inl ⟨hn,rfl,e1.back hw⟩
  ·rw [d1] at hf;cases hf
 ·have hs:ZsD bs=some (ZdY bs).rf:=by unfold ZsD;rw [if_pos ⟨d2,d3⟩]
  rcases h with ⟨hf,_,_⟩|⟨f',p,hf,rfl,hw⟩
  ·rw [d1] at hf;cases hf
  ·rw [d1] at hf
   obtain rfl:=Option.some.inj hf;exact .inr ⟨_,p,hs,d5,rfl,Sat.lone.2 ⟨f,⟨d4,d5⟩,e1.back hw⟩⟩
theorem Zge {s:Sl} {T:TypeId} {bs:List Int} (hb:Z5 bs) (hl:bs.length<=1099511627776) (hw:Sat R (Own s T (b8 bs)::Hs) w):
  Zm prog 103 #[.slice s.a s.len s.cap] w λ v w'=>(ZnR bs=none/\v=.tuple #[.pointer none,.int .i64 6]/\Sat R Hs w')\/
   (∃ l q,ZnR bs=some l/\QOk l/\v=.tuple #[.pointer (some ⟨q,0,none⟩),.int .i64 0]/\Sat R (ZC q l::Hs) w'):=by
 obtain ⟨R1,e1,g1,hw⟩:=Own.leak hw;refine (Zk3 hb hl (g1.ro (by rw [List.length_map];omega)) hw).mono ?_;rintro v w' (⟨h1,rfl,hw⟩|⟨l,q,h1,rfl,hw⟩)
 ·exact .inl ⟨h1,rfl,e1.back hw⟩
 ·refine .inr ⟨l,q,h1,?_,rfl,e1.back hw⟩
  unfold ZnR at h1;split at h1
  ·rename_i h
   obtain rfl:=Option.some.inj h1;exact h.ok hb
  ·cases h1
theorem ZaV.len {s:Sl} {L:List ZD} (hw:Sat R (ZaV s L::Hs) w):s.len=L.length:=by
 obtain ⟨_,ts,_,hr,_⟩:=ZaV.leak hw;rw [hr.rows.len,Zbs hr.len]
theorem Zqt {k:Int} {v:Value} {es:List (Int × Value)} (h:∀ e∈es,e.1≠k):ZdZ k v es=es++[(k,v)]:=by
 unfold ZdZ;rw [ZfQ.2 h];rfl
end
section
open Go Go.VC Tryz
open Classical
variable {R:Cx} {Hs Rest:List HP} {w:World}
theorem Zme (rd:Rd):Ziq rd=(Zpa (ZP 65536 rd).1 (ZP 65536 (ZP 65536 rd).2).1,(ZP 65536 (ZP 65536 rd).2).2):=rfl
theorem ZgN (l:List Pl) (p:Pl):things (l++[p])=things l + (p.r.L.length + p.q.length):=by
 unfold things;rw [List.map_append,List.sum_append];simp
theorem ZtK {fs:List FE} {pls:List Pl} {p:Pl} (h:fs.map (λ e=>e.2.2)=pls) (hr:Zam Pl.n (pls++[p])):∀ e∈fs.map flV,e.1≠p.n:=by
 intro e he;obtain ⟨x,hx,rfl⟩:=List.mem_map.1 he;have h1:x.2.2∈pls:=by rw [<-h];exact List.mem_map.2 ⟨x,hx,rfl⟩
 have:=(List.pairwise_append.1 hr).2.2 _ h1 p (by simp);show x.2.2.n≠p.n;omega
theorem Zt6 {xs:List BE} {L:List Bk} {x:Bk} (h:xs.map (λ e=>e.2)=L) (hr:Zam Bk.id (L++[x])):∀ e∈xs.map bkV,e.1≠x.id:=by
 intro e he;obtain ⟨y,hy,rfl⟩:=List.mem_map.1 he;have h1:y.2∈L:=by rw [<-h];exact List.mem_map.2 ⟨y,hy,rfl⟩
 have:=(List.pairwise_append.1 hr).2.2 _ h1 x (by simp);show y.2.id≠x.id;omega
structure LdI (n:Nat) (r0:Rd) (j:Nat) (rd:Rd) (pls:List Pl) (fs:List FE):Prop where
 pre:Zpu n r0 j rd pls
 rise:Zam Pl.n pls
 ok:∀ p∈pls,ZaA p.r/\QOk p.q
 fl:fs.map (λ e=>e.2.2)=pls
 bytes:Z5 rd.bs
 len:rd.bs.length<=1099511627776
 few:things pls<=1000 * pls.length/\pls.length=j
structure LbI (b:ZM) (r2:Rd) (k:Nat) (L:List Bk) (rd:Rd) (xs:List BE):Prop where
 pre:Z3 ZlJ k r2=(L,rd)
 rise:Zam Bk.id L
 may:∀ x∈L,Zyf b x
 bk:xs.map (λ e=>e.2)=L
 bytes:Z5 rd.bs
set_option maxHeartbeats 8000000 in
theorem Zpf {s:Sl} {bs:List Int} (hb:Z5 bs) (hl:bs.length<=1099511627776) (hs:Ro R s (b8 bs)) (hw:Sat R Hs w):
  Zm prog 37 #[.slice s.a s.len s.cap] w λ v w'=>(Zdf bs=none/\v=.tuple #[.pointer none,.int .i64 6]/\Sat R Hs w')\/
   (∃ b p,Zdf bs=some b/\(∀ x∈b.fl,ZaA x.r/\QOk x.q)/\v=.tuple #[.pointer (some ⟨p,0,none⟩),.int .i64 0]/\Sat R (Zp p b::Hs) w'):=by
 apply Zzo
 suffices H:∀ K:Value->World->Prop,(Zdf bs=none->∀ w',Sat R Hs w'->K (.tuple #[.pointer none,.int .i64 6]) w')->(∀ b p w',Zdf bs=some b->(∀ x∈b.fl,ZaA x.r/\QOk x.q)->Sat R (Zp p b::Hs) w'->K (.tuple #[.pointer (some ⟨p,0,none⟩),.int .i64 0]) w')->B37 s K w from
  H _ (λ e w' h=>.inl ⟨e,rfl,h⟩) λ b p w' e h h2=>.inr ⟨b,p,e,h,rfl,h2⟩
 intro K hK1 hK2;refine Zb hw λ b2 w hw=>Zb hw λ e3 w hw=>?_;refine (Zhz hs hl hw).use ?_;clear hw;rintro _ w ⟨r,rfl,hw⟩;refine .inl ⟨_,rfl,?_⟩;refine Zb hw λ b4 w hw=>?_;refine Za hw (by kernel_rfl) rfl (by simp [Value.cells]) λ w hw=>?_;refine (ZhM hw).use ?_;clear hw;rintro _ w ⟨p,rfl,hw⟩;refine .inl ⟨_,rfl,?_⟩;have hw:Sat R (Zp p Zbj::ldR b4 r::ZZ r ⟨bs,false⟩::ldE e3::pts b2 (.cells [.pointer none].toArray 25 (0,0))::Hs) w:=hw;have hw:Sat R (pts b2 (.cells [.pointer none].toArray 25 (0,0))::Zp p Zbj::ldR b4 r::ZZ r ⟨bs,false⟩::ldE e3::Hs) w:=hw.arr;refine Za hw (by kernel_rfl) rfl (by simp [Value.cells]) λ w hw=>?_;have hw:Sat R (ldB b2 p::Zp p Zbj::ldR b4 r::ZZ r ⟨bs,false⟩::ldE e3::Hs) w:=hw;have hw:Sat R (Zp p Zbj::ZZ r ⟨bs,false⟩::ldB b2 p::ldR b4 r::ldE e3::Hs) w:=hw.arr;obtain ⟨m1,m2,fs,xs,hl0,hw⟩:=Sat.book.1 hw;obtain rfl:xs=[]:=List.map_eq_nil_iff.1 hl0.bk;obtain rfl:fs=[]:=by have:=ZnJ hl0;exact List.length_eq_zero_iff.1 this
 have toS:∀ {A:List HP} {R:Cx} {w:World},Sat R (ldB b2 p::ldR b4 r::A) w->Sat R [ldB b2 p,ldR b4 r,VC.tru] w:=λ h=>h.cons λ _ h=>h.restTru2;have hw:Sat R (ZZ r ⟨bs,false⟩::ldB b2 p::ldR b4 r::ldE e3::pts p (Zg Zbj m1 m2)::MapAt m1 (([]:List FE).map flV)::MapAt m2 (([]:List BE).map bkV)::Zi []::Zj []::Hs) w:=hw.arr;refine ZE (Sat R [ldB b2 p,ldR b4 r,VC.tru]) hw (λ w hw=>toS hw.drop) λ w hw=>?_;refine ⟨some ⟨p,0,none⟩,At.own (λ _ h=>h) (by exact ⟨rfl,trivial⟩),some ⟨p,0,none⟩,At.own (λ _ h=>h) (by exact ⟨rfl,trivial⟩),some ⟨r,0,none⟩,At.own (λ _ h=>h) (by exact ⟨rfl,trivial⟩),some ⟨r,0,none⟩,At.own (λ _ h=>h) (by exact ⟨rfl,trivial⟩),?_⟩;have v1:0<=(Zdo bs).1/\(Zdo bs).1<=1099511627776:=Zw hb (by omega);have hb1:Z5 (Zdo bs).2.bs:=Zk hb;have l1:(Zdo bs).2.bs.length<=1099511627776:=Nat.le_trans Zg4 hl;refine (Zb2 (most:=1099511627776) hb (by omega) (by omega) hw).use ?_;clear hw;rintro _ w ⟨rfl,hw⟩;have hw:Sat R (ZZ r (Zdo bs).2::ldB b2 p::ldR b4 r::ldE e3::pts p (Zg Zbj m1 m2)::MapAt m1 (([]:List FE).map flV)::MapAt m2 (([]:List BE).map bkV)::Zi []::Zj []::Hs) w:=hw;refine .inl ⟨(Zdo bs).1,rfl,toS hw.drop,?_⟩;have v2:0<=(ZbF bs).1/\(ZbF bs).1<=28629151:=Zw hb1 (by omega);have hb2:Z5 (ZbF bs).2.bs:=Zk hb1;have l2:(ZbF bs).2.bs.length<=1099511627776:=Nat.le_trans Zg4 l1;refine (Zb2 (most:=28629151) hb1 (by omega) (by omega) hw).use ?_;clear hw;rintro _ w ⟨rfl,hw⟩;have hw:Sat R (pts p (Zg Zbj m1 m2)::ZZ r (ZbF bs).2::ldB b2 p::ldR b4 r::ldE e3::MapAt m1 (([]:List FE).map flV)::MapAt m2 (([]:List BE).map bkV)::Zi []::Zj []::Hs) w:=by
  have h:Sat R (ZZ r (ZbF bs).2::ldB b2 p::ldR b4 r::ldE e3::pts p (Zg Zbj m1 m2)::MapAt m1 (([]:List FE).map flV)::MapAt m2 (([]:List BE).map bkV)::Zi []::Zj []::Hs) w:=hw;exact h.arr
 refine .inl ⟨(ZbF bs).1,rfl,toS hw.drop.drop,Zc.mk rfl ?_⟩;rw [Zy];refine Za hw (by kernel_rfl) rfl (by simp [Value.cells]) λ w hw=>?_;have hw:=hw.re (pts p (Zg ⟨(Zdo bs).1,1,[],[]⟩ m1 m2));refine ⟨toS hw.drop.drop,Zc.mk rfl ?_⟩;refine Za hw (by kernel_rfl) rfl (by simp [Value.cells]) λ w hw=>?_;have hw:=hw.re (pts p (Zg ⟨(Zdo bs).1,(ZbF bs).1,[],[]⟩ m1 m2));obtain ⟨b0,hb0⟩:∃ b0:ZM,b0=⟨(Zdo bs).1,(ZbF bs).1,[],[]⟩:=⟨_,rfl⟩;rw [<-hb0] at hw;have hw:Sat R (ZZ r (ZbF bs).2::ldR b4 r::ldB b2 p::ldE e3::pts p (Zg b0 m1 m2)::MapAt m1 (([]:List FE).map flV)::MapAt m2 (([]:List BE).map bkV)::Zi []::Zj []::Hs) w:=hw.arr;refine ⟨some ⟨r,0,none⟩,oA hw,?_⟩;have v3:0<=(Zbd bs).1/\(Zbd bs).1<=8:=Zw hb2 (by omega);have hb3:Z5 (Zbd bs).2.bs:=Zk hb2;have l3:(Zbd bs).2.bs.length<=1099511627776:=Nat.le_trans Zg4 l2;refine (Zb2 (most:=8) hb2 (by omega) (by omega) hw).use ?_;clear hw;rintro _ w ⟨rfl,hw⟩;have hw:Sat R (ZZ r (Zbd bs).2::ldR b4 r::ldB b2 p::ldE e3::pts p (Zg b0 m1 m2)::MapAt m1 (([]:List FE).map flV)::MapAt m2 (([]:List BE).map bkV)::Zi []::Zj []::Hs) w:=hw;refine .inl ⟨(Zbd bs).1,rfl,?_⟩;obtain ⟨n,hn⟩:∃ n:Nat,(Zbd bs).1=n:=⟨_,(Int.toNat_of_nonneg v3.1).symm⟩;obtain ⟨r0,hr0⟩:∃ x,x=(Zbd bs).2:=⟨_,rfl⟩;have hnt:(Zbd bs).1.toNat=n:=by rw [hn,Int.toNat_natCast]
 rw [<-hr0] at hw hb3 l3;rw [hn] at v3 ⊢;have no0:ZbV n r0=none->Zdf bs=none:=λ h=>Ztv (by rw [hnt,<-hr0];exact h);have no1:(∀ y,ZbV n r0=some y->¬ Zam Pl.n y.1)->Zdf bs=none:=λ h=>Ztu (by rw [hnt,<-hr0];exact h);have bad:∀ {w:World} {A:List HP},Zdf bs=none->(∀ w',Sat R A w'->Sat R Hs w')->Sat R (ldB b2 p::ldE e3::A) w->Zu prog 99 [.pointer (some ⟨b2,0,none⟩),.pointer (some ⟨e3,0,none⟩)] (.panicking (Zgj 6)) (LdK b2 e3 K) w:=λ {w A} h0 hA hw=>Zq0 hw λ w' h=>hK1 h0 w' (hA w' h);refine ⟨λ last things i w=>∃ (j:Nat) (rd:Rd) (pls:List Pl) (fs:List FE),i=j/\j<=n/\LdI n r0 j rd pls fs/\last=Zms pls/\things=(Go.Proofs.YtfgbbckfikiomaaGreatDoor.things pls:Nat)/\
  Sat R (ZZ r rd::ldR b4 r::ldB b2 p::ldE e3::pts p (Zg b0 m1 m2)::MapAt m1 (fs.map flV)::MapAt m2 (([]:List BE).map bkV)::Zi fs::Zj []::Hs) w,λ _ _ i _=>(n - i).toNat,
  ⟨0,r0,[],[],rfl,by omega,⟨Zqz,List.Pairwise.nil,λ _ h=>(by cases h),rfl,hb3,l3,by simp [things]⟩,rfl,rfl,hw⟩,?_⟩
 clear hw;rintro _ _ _ _ w ⟨j,rd,pls,fs,rfl,hj,ld,rfl,rfl,hw⟩;refine Br.d (λ h=>?_) (λ h=>?_)
 ·have hjn:j<n:=by omega
  have tl1:=Zil (most:=65536) (rd:=rd);have tb1:=ZkU (most:=65536) (rd:=rd) ld.bytes;have tl2:=Zil (most:=65536) (rd:=(ZP 65536 rd).2);have tb2:=ZkU (most:=65536) (rd:=(ZP 65536 rd).2) tb1.2;have hld:=ld.len;refine ⟨some ⟨r,0,none⟩,oA hw,?_⟩;refine (Zfx (most:=65536) (by omega) hld ld.bytes hw).use ?_;clear hw;rintro _ w ⟨t1,rfl,hw⟩;refine .inl ⟨t1,rfl,?_⟩;refine (Zmn tb1.1 (by omega) hw).use ?_;clear hw;have w1:IntKind.i64.wrap ((j:Int) + 1)=(j:Int) + 1:=Zh (by omega) (by omega);rintro _ w (⟨d1,rfl,hw⟩|⟨rr,f,d1,gd,rfl,hw⟩)
  ·-- no flight
   refine .inl ⟨none,6,rfl,some ⟨r,0,none⟩,oA hw,?_⟩;refine (Zfx (most:=65536) (by omega) (by omega) tb1.2 hw).use ?_;clear hw;rintro _ w ⟨t2,rfl,hw⟩;refine .inl ⟨t2,rfl,?_⟩;have hno:(Ziq rd).1=none:=by rw [Zme];unfold Zpa;rw [d1]
   have hload:=no0 (Zk6 ld.pre hjn hno);refine (Zge tb2.1 (by omega) hw).use ?_;clear hw;rintro v0 w hq;obtain ⟨v,c,A,rfl,hA,hw⟩:∃ (v:Option Addr) (c:Int) (A:List HP),v0=Value.tuple #[.pointer v,.int .i64 c]/\(∀ w',Sat R A w'->Sat R Hs w')/\Sat R (ldB b2 p::ldE e3::A) w:=by
    rcases hq with ⟨_,rfl,hw⟩|⟨l,q,_,_,rfl,hw⟩
    ·refine ⟨none,6,ZZ r (ZP 65536 (ZP 65536 rd).2).2::ldR b4 r::pts p (Zg b0 m1 m2)::MapAt m1 (fs.map flV)::MapAt m2 (([]:List BE).map bkV)::Zi fs::Zj []::Hs,rfl,λ _ h=>h.drop.drop.drop.drop.drop.drop.drop,hw.arr⟩
    ·refine ⟨some ⟨q,0,none⟩,0,ZC q l::ZZ r (ZP 65536 (ZP 65536 rd).2).2::ldR b4 r::pts p (Zg b0 m1 m2)::MapAt m1 (fs.map flV)::MapAt m2 (([]:List BE).map bkV)::Zi fs::Zj []::Hs,rfl,λ _ h=>h.drop.drop.drop.drop.drop.drop.drop.drop,hw.arr⟩
   refine .inl ⟨v,c,rfl,λ _=>False,Br.e (λ h=>by omega) (λ _=>ZdI (λ h=>by cases h) (λ _=>.inr ⟨_,rfl,bad hload hA hw⟩)),λ _ _ h=>h.elim⟩
  ·refine .inl ⟨some ⟨f,0,none⟩,0,rfl,some ⟨r,0,none⟩,oA hw,?_⟩
   refine (Zfx (most:=65536) (by omega) (by omega) tb1.2 hw.swap).use ?_;clear hw;rintro _ w ⟨t2,rfl,hw⟩;refine .inl ⟨t2,rfl,?_⟩;refine (Zge tb2.1 (by omega) hw).use ?_;clear hw;rintro _ w (⟨d2,rfl,hw⟩|⟨l,q,d2,qok,rfl,hw⟩)
   ·have hno:(Ziq rd).1=none:=by rw [Zme];unfold Zpa;rw [d1,d2]
    have hload:=no0 (Zk6 ld.pre hjn hno);have hw:Sat R (ldB b2 p::ldE e3::ZZ r (ZP 65536 (ZP 65536 rd).2).2::Zf f rr::ldR b4 r::pts p (Zg b0 m1 m2)::MapAt m1 (fs.map flV)::MapAt m2 (([]:List BE).map bkV)::Zi fs::Zj []::Hs) w:=hw.arr;refine .inl ⟨none,6,rfl,λ _=>False,Br.e (λ _=>Br.e (λ h=>by omega) (λ _=>ZdI (λ h=>by cases h) (λ _=>.inr ⟨_,rfl,bad hload (λ _ h=>h.drop.drop.drop.drop.drop.drop.drop.drop) hw⟩))) (λ h=>absurd rfl h),λ _ _ h=>h.elim⟩
   ·have hsome:(Ziq rd).1=some ⟨rr,l⟩:=by rw [Zme];unfold Zpa;rw [d1,d2]
    have hpre:=ZqA ld.pre hjn hsome;obtain ⟨st1,st2⟩:=Ztk (p:=⟨rr,l⟩) ld.rise gd.num.1;have hrd':(Ziq rd).2=(ZP 65536 (ZP 65536 rd).2).2:=rfl;rw [hrd'] at hpre;obtain ⟨rd2,hrd2⟩:∃ x,x=(ZP 65536 (ZP 65536 rd).2).2:=⟨_,rfl⟩;rw [<-hrd2] at hw hpre tl2 tb2;have hw:Sat R (Zf f rr::ZC q l::ZZ r rd2::ldR b4 r::ldB b2 p::ldE e3::pts p (Zg b0 m1 m2)::MapAt m1 (fs.map flV)::MapAt m2 (([]:List BE).map bkV)::Zi fs::Zj []::Hs) w:=hw.arr;refine .inl ⟨some ⟨q,0,none⟩,0,rfl,λ w=>Zam Pl.n (pls++[⟨rr,l⟩])/\Sat R (Zf f rr::ZC q l::ZZ r rd2::ldR b4 r::ldB b2 p::ldE e3::pts p (Zg b0 m1 m2)::MapAt m1 (fs.map flV)::MapAt m2 (([]:List BE).map bkV)::Zi fs::Zj []::Hs) w,?_,?_⟩
    ·refine Br.e (λ _=>Br.e (λ _=>?_) (λ h=>absurd rfl h)) (λ h=>absurd rfl h)
     refine (Zhj hw).use ?_;clear hw;rintro _ w ⟨rfl,hw⟩;refine .inl ⟨_,rfl,ZdI (λ hgt=>.inl ⟨rfl,st1 (of_decide_eq_true hgt),hw⟩) (λ hgt=>.inr ⟨_,rfl,?_⟩)⟩;have hload:Zdf bs=none:=no1 λ y hy=>by
      obtain ⟨m,hm⟩:=Zs6 hpre hy;rw [hm];exact st2 (of_decide_eq_false hgt) m
     have hw:Sat R (ldB b2 p::ldE e3::Zf f rr::ZC q l::ZZ r rd2::ldR b4 r::pts p (Zg b0 m1 m2)::MapAt m1 (fs.map flV)::MapAt m2 (([]:List BE).map bkV)::Zi fs::Zj []::Hs) w:=hw.arr;exact bad hload (λ _ h=>h.drop.drop.drop.drop.drop.drop.drop.drop.drop) hw
    clear hw;rintro _ w ⟨hrise,hw⟩;refine (Zhj hw).use ?_;clear hw;rintro _ w ⟨rfl,hw⟩;refine .inl ⟨rr.num,rfl,some ⟨p,0,none⟩,oA hw,Zc.mk rfl ⟨some m1,oA hw,?_⟩⟩;have hw:Sat R (MapAt m1 (fs.map flV)::Zf f rr::ZC q l::ZZ r rd2::ldR b4 r::ldB b2 p::ldE e3::pts p (Zg b0 m1 m2)::MapAt m2 (([]:List BE).map bkV)::Zi fs::Zj []::Hs) w:=hw.arr;refine MapAt.put ZsB hw rr.num (.agg #[.pointer (some ⟨f,0,none⟩),.pointer (some ⟨q,0,none⟩)]) λ w hw=>?_;rw [Zqt (ZtK (p:=⟨rr,l⟩) ld.fl hrise)] at hw;have hmap:fs.map flV++[(rr.num,Value.agg #[.pointer (some ⟨f,0,none⟩),.pointer (some ⟨q,0,none⟩)])]=(fs++[((f,q,⟨rr,l⟩):FE)]).map flV:=by rw [List.map_append];rfl
    rw [hmap] at hw;refine (Ziy hw.swap).use ?_;clear hw;rintro _ w ⟨th,rfl,hw⟩;have hth:=ZaV.len hw;refine .inl ⟨th,rfl,?_⟩;have hw:=hw.drop;have hw:Sat R (ZC q l::Zf f rr::MapAt m1 ((fs++[((f,q,⟨rr,l⟩):FE)]).map flV)::ZZ r rd2::ldR b4 r::ldB b2 p::ldE e3::pts p (Zg b0 m1 m2)::MapAt m2 (([]:List BE).map bkV)::Zi fs::Zj []::Hs) w:=hw.arr;have hql:=qok.len;refine (Zg9 (by omega) hw).use ?_;clear hw;rintro _ w ⟨ta,rfl,hw⟩;have hta:=Zt.len hw;rw [List.length_map] at hta;have hw:=hw.drop;have hw:Sat R (Zf f rr::ZC q l::Zi fs::ZZ r rd2::ldR b4 r::ldB b2 p::ldE e3::pts p (Zg b0 m1 m2)::MapAt m1 ((fs++[((f,q,⟨rr,l⟩):FE)]).map flV)::MapAt m2 (([]:List BE).map bkV)::Zj []::Hs) w:=hw.arr;have hw:=Zi.snoc (p:=⟨rr,l⟩) hw;have hw:Sat R (ZZ r rd2::ldR b4 r::ldB b2 p::ldE e3::pts p (Zg b0 m1 m2)::MapAt m1 ((fs++[((f,q,⟨rr,l⟩):FE)]).map flV)::MapAt m2 (([]:List BE).map bkV)::Zi (fs++[((f,q,⟨rr,l⟩):FE)])::Zj []::Hs) w:=hw.arr;have hll:=gd.len.1;obtain ⟨hf1,hf2⟩:=ld.few;have w2:IntKind.i64.wrap ((th.len:Int) + (ta.len:Int))=((rr.L.length + l.length:Nat):Int):=by rw [Zh (by omega) (by omega)];omega
    have w3:IntKind.i64.wrap (((things pls:Nat):Int) + ((rr.L.length + l.length:Nat):Int))=((things (pls++[⟨rr,l⟩]):Nat):Int):=by rw [Zh (by omega) (by omega),ZgN];simp
    refine .inl ⟨ta,rfl,?_⟩;rw [w2,w3,w1];refine ⟨⟨j + 1,rd2,pls++[⟨rr,l⟩],fs++[(f,q,⟨rr,l⟩)],by omega,by omega,⟨hpre,hrise,λ x hx=>?_,?_,tb2.2,by omega,?_⟩,?_,rfl,hw⟩,by dsimp only;omega⟩
    ·rcases List.mem_append.1 hx with hx|hx
     ·exact ld.ok x hx
     ·rw [List.mem_singleton.1 hx];exact ⟨gd,qok⟩
    ·rw [List.map_append,ld.fl];rfl
    ·rw [ZgN,List.length_append]
     refine ⟨?_,by simp;omega⟩;simp only [List.length_cons,List.length_nil];omega
    ·rw [ZoS]
 ·have hjn:j=n:=by omega
  subst hjn;have hend:=Zs7 ld.pre;have hload:=Zq1 (bs:=bs) (by rw [hnt,<-hr0];exact hend);have no2:=λ {L m:List Bk} {x:Bk}=>Ztt (bs:=bs) (L:=L) (m:=m) (x:=x) (by rw [hnt,<-hr0];exact hend);obtain ⟨b1,hb1'⟩:∃ b1:ZM,b1=⟨(Zdo bs).1,(ZbF bs).1,pls,[]⟩:=⟨_,rfl⟩;have hbc:Zg b0 m1 m2=Zg b1 m1 m2:=by rw [hb0,hb1']
  rw [hbc] at hw;refine ⟨some ⟨r,0,none⟩,oA hw,?_⟩;have v4:0<=(Ze 300 rd).1/\(Ze 300 rd).1<=300:=Zw ld.bytes (by omega);have hb4:Z5 (Ze 300 rd).2.bs:=Zk ld.bytes;refine (Zb2 (most:=300) ld.bytes (by omega) (by omega) hw).use ?_;clear hw;rintro _ w ⟨rfl,hw⟩;refine .inl ⟨_,rfl,?_⟩;have hbks:ZjB rd=Z3 ZlJ (Ze 300 rd).1.toNat (Ze 300 rd).2:=rfl;obtain ⟨n2,hn2⟩:∃ n:Nat,(Ze 300 rd).1=n:=⟨_,(Int.toNat_of_nonneg v4.1).symm⟩;obtain ⟨r2,hr2⟩:∃ x,x=(Ze 300 rd).2:=⟨_,rfl⟩;rw [hn2,Int.toNat_natCast,<-hr2] at hbks;rw [<-hr2] at hw hb4;rw [hn2] at v4 ⊢;have inv:=λ k=>ZdX (one:=ZlJ) (P:=λ r=>Z5 r.bs) (Q:=λ x=>BkIn x) (λ r hr=>⟨Zsa hr,Zsb hr⟩) k hb4;refine ⟨λ last i w=>∃ (k:Nat) (L:List Bk) (rd3:Rd) (xs:List BE),i=k/\k<=n2/\LbI b1 r2 k L rd3 xs/\last=ZjD L/\
   Sat R (ZZ r rd3::ldR b4 r::ldB b2 p::ldE e3::pts p (Zg b1 m1 m2)::MapAt m1 (fs.map flV)::MapAt m2 (xs.map bkV)::Zi fs::Zj xs::Hs) w,λ _ i _=>(n2 - i).toNat,
   ⟨0,[],r2,[],rfl,by omega,⟨rfl,List.Pairwise.nil,λ _ h=>(by cases h),rfl,hb4⟩,rfl,hw⟩,?_⟩
  clear hw;rintro _ _ _ w ⟨k,L,rd3,xs,rfl,hk,lb,rfl,hw⟩;have hsn:=Zez ZlJ k r2;rw [lb.pre] at hsn;dsimp only at hsn;refine Br.d (λ h=>?_) (λ h=>?_)
  ·have hkn:k<n2:=by omega
   obtain ⟨x,hx⟩:∃ x,x=(ZlJ rd3).1:=⟨_,rfl⟩;obtain ⟨rd4,hrd4⟩:∃ x,x=(ZlJ rd3).2:=⟨_,rfl⟩;have xin:=Zsa lb.bytes;have xbd:=Zsb lb.bytes;have hadd:(ZjB rd).1=L++[x]++(Z3 ZlJ (n2 - (k + 1)) rd4).1:=by
    rw [hbks];have:=ZfC ZlJ (n2 - (k + 1)) (k + 1) r2;rw [show k + 1 + (n2 - (k + 1))=n2 by omega,hsn] at this;rw [this,hx,hrd4]
   rw [<-hx] at xin;rw [<-hx,<-hrd4] at hsn;rw [<-hrd4] at xbd;have nochk:¬ Chk b1 L x->Zdf bs=none:=λ hc=>no2 hadd v1.1 (by rw [<-hb1'];exact hc);have y1:Z5 (Ze 28629151 rd3).2.bs:=Zk lb.bytes;have y2:Z5 (Ze 9999 (Ze 28629151 rd3).2).2.bs:=Zk y1;have y3:Z5 (Ze 9999 (Ze 9999 (Ze 28629151 rd3).2).2).2.bs:=Zk y2;have y4:Z5 (Ze 9999 (Ze 9999 (Ze 9999 (Ze 28629151 rd3).2).2).2).2.bs:=Zk y3;have y5:Z5 (Ze 3 (Ze 9999 (Ze 9999 (Ze 9999 (Ze 28629151 rd3).2).2).2).2).2.bs:=Zk y4;refine ZE (Sat R [ldR b4 r,VC.tru]) hw (λ w hw=>hw.drop.restTru2) λ w hw=>?_;refine ⟨some ⟨r,0,none⟩,At.own (λ _ h=>h) (by exact ⟨rfl,trivial⟩),some ⟨r,0,none⟩,At.own (λ _ h=>h) (by exact ⟨rfl,trivial⟩),some ⟨r,0,none⟩,At.own (λ _ h=>h) (by exact ⟨rfl,trivial⟩),?_⟩;refine (Zb2 (most:=28629151) lb.bytes (by omega) (by omega) hw).use ?_;clear hw;rintro _ w ⟨rfl,hw⟩;refine .inl ⟨_,rfl,hw.drop.restTru2,(ZfL y1 hw).use ?_⟩;clear hw;rintro _ w ⟨rfl,hw⟩;refine .inl ⟨_,rfl,hw.drop.restTru2,(ZfL y2 hw).use ?_⟩;clear hw;rintro _ w ⟨rfl,hw⟩;refine .inl ⟨_,rfl,hw.drop.restTru2,(ZfL y3 hw).use ?_⟩;clear hw;rintro _ w ⟨rfl,hw⟩;refine .inl ⟨_,rfl,hw.drop.restTru2,(Zb2 (most:=3) y4 (by omega) (by omega) hw).use ?_⟩;clear hw;rintro _ w ⟨rfl,hw⟩;refine .inl ⟨_,rfl,hw.drop.restTru2,(Zb2 (most:=1099511627776) y5 (by omega) (by omega) hw).use ?_⟩;clear hw;rintro _ w ⟨rfl,hw⟩;refine .inl ⟨_,rfl,hw.drop.restTru2,?_⟩;refine Zb hw λ bx w hw=>⟨hw.drop.drop.restTru2,?_⟩;have hw:Sat R (pts bx (Zr x)::ZZ r rd4::ldR b4 r::ldB b2 p::ldE e3::pts p (Zg b1 m1 m2)::MapAt m1 (fs.map flV)::MapAt m2 (xs.map bkV)::Zi fs::Zj xs::Hs) w:=by rw [hx,hrd4];exact hw
   have badx:∀ {w},¬ Chk b1 L x->Sat R (pts bx (Zr x)::ZZ r rd4::ldR b4 r::ldB b2 p::ldE e3::pts p (Zg b1 m1 m2)::MapAt m1 (fs.map flV)::MapAt m2 (xs.map bkV)::Zi fs::Zj xs::Hs) w->
     Zu prog 99 [.pointer (some ⟨b2,0,none⟩),.pointer (some ⟨e3,0,none⟩)] (.panicking (Zgj 6)) (LdK b2 e3 K) w:=λ {w} hc hw=>by
    have hw:Sat R (ldB b2 p::ldE e3::pts bx (Zr x)::ZZ r rd4::ldR b4 r::pts p (Zg b1 m1 m2)::MapAt m1 (fs.map flV)::MapAt m2 (xs.map bkV)::Zi fs::Zj xs::Hs) w:=hw.arr;exact bad (nochk hc) (λ _ h=>h.drop.drop.drop.drop.drop.drop.drop.drop) hw
   refine ⟨λ w=>(ZjD L<x.id/\x.id<b1.next/\1<=x.state/\(x.state=1↔b1.now<x.till)/\(x.state=1\/x.till=0))/\Sat R (pts bx (Zr x)::ZZ r rd4::ldR b4 r::ldB b2 p::ldE e3::pts p (Zg b1 m1 m2)::MapAt m1 (fs.map flV)::MapAt m2 (xs.map bkV)::Zi fs::Zj xs::Hs) w,?_,?_⟩
   ·refine Zo hw λ w hw=>?_
    have no:∀ {w},¬ Chk b1 L x->Sat R (pts bx (Zr x)::ZZ r rd4::ldR b4 r::ldB b2 p::ldE e3::pts p (Zg b1 m1 m2)::MapAt m1 (fs.map flV)::MapAt m2 (xs.map bkV)::Zi fs::Zj xs::Hs) w->∀ {G:Ending->World->Prop},Calls prog 100 #[.bool false] w λ e w_60=>(G e w_60)\/(∃ ch:List PanicEntry,(e=.panicked ch)/\Zu prog 99 [.pointer (some ⟨b2,0,none⟩),.pointer (some ⟨e3,0,none⟩)] (.panicking ch) (LdK b2 e3 K) w_60):=λ {w} hc hw {G}=>
     ZdI (λ h=>by cases h) (λ _=>.inr ⟨_,rfl,badx hc hw⟩)
    refine ⟨x.id,oS,Br.d (λ c1=>?_) (λ c1=>no (λ hc=>c1 hc.last) hw)⟩;refine ⟨x.id,oS,some ⟨p,0,none⟩,oS,Zc.mk rfl ⟨b1.next,oS,Br.d (λ c2=>?_) (λ c2=>no (λ hc=>c2 hc.next) hw)⟩⟩;refine ⟨x.state,oS,Br.d (λ c3=>?_) (λ c3=>no (λ hc=>c3 hc.state) hw)⟩;refine ⟨x.state,oS,x.till,oS,some ⟨p,0,none⟩,oS,Zc.mk rfl ⟨b1.now,oS,Br.mk (λ c4=>?_) (λ c4=>no (λ hc=>?_) hw)⟩⟩
    rotate_left
    ·exact beq_eq_false_iff_ne.1 c4 (by rw [Bool.eq_iff_iff,beq_iff_eq,decide_eq_true_iff];exact hc.held)
    have c4:x.state=1↔b1.now<x.till:=by
     have h:=beq_iff_eq.1 c4;rw [Bool.eq_iff_iff,beq_iff_eq,decide_eq_true_iff] at h;exact h
    refine ⟨x.state,oS,Br.e (λ c5=>?_) (λ c5=>?_)⟩
    ·exact ZdI (λ _=>.inl ⟨rfl,hw,⟨c1,c2,c3,c4,.inl c5⟩,hw⟩) (λ h=>by cases h)
    ·refine ⟨x.till,oS,ZdI (λ c6=>.inl ⟨rfl,hw,⟨c1,c2,c3,c4,.inr (beq_iff_eq.1 c6)⟩,hw⟩) (λ c6=>.inr ⟨_,rfl,badx (λ hc=>?_) hw⟩)⟩
     exact beq_eq_false_iff_ne.1 c6 (hc.free.resolve_left c5)
   clear hw;rintro _ w ⟨⟨c1,c2,c3,c4,c5⟩,hw⟩;have hlb:ZaP { b1 with L:=L } fs xs:=⟨by rw [ld.fl,hb1'],lb.bk⟩;refine Zo hw λ w hw=>?_;refine ⟨some ⟨p,0,none⟩,oS,Zc.mk rfl ⟨some m1,oS,x.flt,oS,?_⟩⟩;have look:∀ w',Sat R (pts bx (Zr x)::ZZ r rd4::ldR b4 r::ldB b2 p::ldE e3::pts p (Zg b1 m1 m2)::MapAt m1 (fs.map flV)::MapAt m2 (xs.map bkV)::Zi fs::Zj xs::Hs) w'->
     (Instr.lookup 77 (.map (some m1)) (.int .i64 x.flt) false).run prog w'=.ok ((ZH x.flt (fs.map flV)).getD (.agg #[.pointer none,.pointer none])) w':=λ w' h=>by
    have h:Sat R (MapAt m1 (fs.map flV)::pts bx (Zr x)::ZZ r rd4::ldR b4 r::ldB b2 p::ldE e3::pts p (Zg b1 m1 m2)::MapAt m2 (xs.map bkV)::Zi fs::Zj xs::Hs) w':=h.arr;exact MapAt.look ZsB h x.flt false
   cases hat:b1.at x.flt with
   |none=>
    have hno:ZH x.flt (fs.map flV)=none:=(ZfU hlb).2 hat;rw [hno] at look;refine ⟨none,none,look,(Zsf hw).use ?_⟩;clear hw;rintro _ w ⟨rfl,hw⟩;refine .inl ⟨_,rfl,hw,ZdI (λ h=>by cases h) (λ _=>.inr ⟨_,rfl,badx (λ hc=>?_) hw⟩)⟩;obtain ⟨q,hq,_⟩:=hc.has;rw [hat] at hq;cases hq
   |some pl=>
    have hpm:=ZaR hat;have hplin:pl∈pls:=by have:=hpm.1;rw [hb1'] at this;exact this
    obtain ⟨gd,qok⟩:=ld.ok pl hplin;have hll:=gd.len.1;have hrise1:Zam Pl.n b1.fl:=by rw [hb1'];exact ld.rise
    obtain ⟨A,f,q,C,hfs,hm⟩:=ZcI hlb hrise1 (show ZM.at { b1 with L:=L } x.flt=some pl from hat)
    have hgm:ZH x.flt (fs.map flV)=some (.agg #[.pointer (some ⟨f,0,none⟩),.pointer (some ⟨q,0,none⟩)]):=by rw [hfs];exact ZhA hm
    rw [hgm] at look;refine ⟨some ⟨f,0,none⟩,some ⟨q,0,none⟩,look,?_⟩;obtain ⟨MF,hMF⟩:∃ M,M=fs.map flV:=⟨_,rfl⟩;rw [<-hMF] at hw;have hw:Sat R (Zi (A++(f,q,pl)::C)::pts bx (Zr x)::ZZ r rd4::ldR b4 r::ldB b2 p::ldE e3::pts p (Zg b1 m1 m2)::MapAt m1 MF::MapAt m2 (xs.map bkV)::Zj xs::Hs) w:=by rw [<-hfs];exact hw.arr
    have hw:=Za7.1 hw;have hw:Sat R (pts bx (Zr x)::Zf f pl.r::ZC q pl.q::Zi (A++C)::ZZ r rd4::ldR b4 r::ldB b2 p::ldE e3::pts p (Zg b1 m1 m2)::MapAt m1 MF::MapAt m2 (xs.map bkV)::Zj xs::Hs) w:=hw.arr;refine (Zse gd qok.len (by omega) hw).use ?_;clear hw;rintro _ w ⟨rfl,hw⟩;have hw:Sat R (Zf f pl.r::ZC q pl.q::Zi (A++C)::pts bx (Zr x)::ZZ r rd4::ldR b4 r::ldB b2 p::ldE e3::pts p (Zg b1 m1 m2)::MapAt m1 MF::MapAt m2 (xs.map bkV)::Zj xs::Hs) w:=hw.arr;have hw:=Za7.2 hw;rw [<-hfs,hMF] at hw;have hw:Sat R (pts bx (Zr x)::ZZ r rd4::ldR b4 r::ldB b2 p::ldE e3::pts p (Zg b1 m1 m2)::MapAt m1 (fs.map flV)::MapAt m2 (xs.map bkV)::Zi fs::Zj xs::Hs) w:=hw.arr;refine .inl ⟨_,rfl,hw,ZdI (λ c6=>.inl ⟨rfl,hw,?_⟩) (λ c6=>.inr ⟨_,rfl,badx (λ hc=>?_) hw⟩)⟩
    rotate_left
    ·obtain ⟨q',hq',hh⟩:=hc.has
     rw [hat] at hq';obtain rfl:=Option.some.inj hq';exact of_decide_eq_false c6 hh
    have hchk:Chk b1 L x:=⟨c1,c2,c3,c4,c5,pl,hat,of_decide_eq_true c6⟩;obtain ⟨hmay,hrise2⟩:=Zv5 hchk lb.rise λ y hy=>(lb.may y hy).id.1;refine ⟨x.id,oA hw,?_⟩;refine Zo hw λ w hw=>?_;refine ⟨some ⟨p,0,none⟩,oS,Zc.mk rfl ⟨some m2,oS,x.id,oS,?_⟩⟩;have hw:Sat R (MapAt m2 (xs.map bkV)::pts bx (Zr x)::ZZ r rd4::ldR b4 r::ldB b2 p::ldE e3::pts p (Zg b1 m1 m2)::MapAt m1 (fs.map flV)::Zi fs::Zj xs::Hs) w:=hw.arr;refine MapAt.put Zub hw x.id (.pointer (some ⟨bx,0,none⟩)) λ w hw=>?_;rw [Zqt (Zt6 lb.bk hrise2)] at hw;have hmap:xs.map bkV++[(x.id,Value.pointer (some ⟨bx,0,none⟩))]=(xs++[((bx,x):BE)]).map bkV:=by rw [List.map_append];rfl
    rw [hmap] at hw;have hw:Sat R (pts bx (Zr x)::Zj xs::ZZ r rd4::ldR b4 r::ldB b2 p::ldE e3::pts p (Zg b1 m1 m2)::MapAt m1 (fs.map flV)::MapAt m2 ((xs++[((bx,x):BE)]).map bkV)::Zi fs::Hs) w:=hw.arr;have hw:=Zkc hw;have hw:Sat R (ZZ r rd4::ldR b4 r::ldB b2 p::ldE e3::pts p (Zg b1 m1 m2)::MapAt m1 (fs.map flV)::MapAt m2 ((xs++[((bx,x):BE)]).map bkV)::Zi fs::Zj (xs++[((bx,x):BE)])::Hs) w:=hw.arr;rw [Zh (x:=(k:Int) + 1) (by omega) (by omega)];refine ⟨⟨k + 1,L++[x],rd4,xs++[(bx,x)],by omega,by omega,⟨hsn,hrise2,λ y hy=>?_,?_,xbd⟩,?_,hw⟩,by dsimp only;omega⟩
    ·rcases List.mem_append.1 hy with hy|hy
     ·exact lb.may y hy
     ·rw [List.mem_singleton.1 hy];exact hmay
    ·rw [List.map_append,lb.bk];rfl
    ·rw [ZoT]
  ·have hkn:k=n2:=by omega
   subst hkn;have hall:ZjB rd=(L,rd3):=by rw [hbks,lb.pre]
   rw [hall] at hload;dsimp only at hload;have hLlen:L.length=k:=by have:=ZdW ZlJ k r2;rw [lb.pre] at this;exact this
   have hb1L:({ b1 with L:=L }:ZM)=⟨(Zdo bs).1,(ZbF bs).1,pls,L⟩:=by rw [hb1']
   rw [<-hb1L] at hload;have nomay:¬ (Z0 rd3=true/\ZuH { b1 with L:=L })->Zdf bs=none:=λ h=>by rw [hload,if_neg h]
   refine ⟨some ⟨r,0,none⟩,oA hw,?_⟩;refine (Zft hw).use ?_;clear hw;rintro _ w ⟨rfl,hw⟩;have badw:∀ {w},¬ (Z0 rd3=true/\ZuH { b1 with L:=L })->Sat R (ZZ r rd3::ldR b4 r::ldB b2 p::ldE e3::pts p (Zg b1 m1 m2)::MapAt m1 (fs.map flV)::MapAt m2 (xs.map bkV)::Zi fs::Zj xs::Hs) w->
     Zu prog 99 [.pointer (some ⟨b2,0,none⟩),.pointer (some ⟨e3,0,none⟩)] (.panicking (Zgj 6)) (LdK b2 e3 K) w:=λ {w} hc hw=>by
    have hw:Sat R (ldB b2 p::ldE e3::ZZ r rd3::ldR b4 r::pts p (Zg b1 m1 m2)::MapAt m1 (fs.map flV)::MapAt m2 (xs.map bkV)::Zi fs::Zj xs::Hs) w:=hw.arr;exact bad (nomay hc) (λ _ h=>h.drop.drop.drop.drop.drop.drop.drop) hw
   refine .inl ⟨_,rfl,Br.mk (λ hwh=>?_) (λ hwh=>?_)⟩
   ·refine ⟨some ⟨p,0,none⟩,oA hw,Zc.mk rfl ⟨b1.next,oA hw,Br.d (λ hnx=>?_) (λ hnx=>?_)⟩⟩
    ·refine ZdI (λ ht=>.inl ⟨rfl,?_⟩) (λ ht=>.inr ⟨_,rfl,badw (λ h=>?_) hw⟩)
     ·have hth:things pls=L.length:=by have:=beq_iff_eq.1 ht;omega
      have hmay:ZuH { b1 with L:=L }:=by
       refine ⟨hnx,by rw [hb1'];exact ld.rise,lb.rise,λ x hx=>?_,by rw [hb1'];exact hth⟩;have h:=lb.may x hx;exact ⟨h.id,h.state,h.held,h.free,h.has⟩
      refine ⟨some ⟨p,0,none⟩,oA hw,?_⟩;have hw:Sat R (ldB b2 p::ldE e3::ZZ r rd3::ldR b4 r::pts p (Zg b1 m1 m2)::MapAt m1 (fs.map flV)::MapAt m2 (xs.map bkV)::Zi fs::Zj xs::Hs) w:=hw.arr;refine Za hw (by kernel_rfl) rfl (by simp [Value.cells]) λ w hw=>?_;have hw:=hw.re (ldB b2 p);refine Za hw (by kernel_rfl) rfl (by simp [Value.cells]) λ w hw=>?_;have hw:=(hw.re (ldE e3)).swap;refine Zts hw (hK2 { b1 with L:=L } p w (by rw [hload,if_pos ⟨hwh,hmay⟩]) (λ x hx=>ld.ok x (by rw [hb1'] at hx;exact hx)) ?_);exact Sat.book.2 ⟨m1,m2,fs,xs,⟨by rw [ld.fl,hb1'],lb.bk⟩,hw.drop.drop.drop.drop⟩
     ·have h2:=h.2.things
      rw [hb1'] at h2;have:things pls=L.length:=h2;exact beq_eq_false_iff_ne.1 ht (by omega)
    ·exact ZdI (λ h=>by cases h) (λ _=>.inr ⟨_,rfl,badw (λ h=>hnx h.2.next) hw⟩)
   ·exact ZdI (λ h=>by cases h) (λ _=>.inr ⟨_,rfl,badw (λ h=>by rw [h.1] at hwh;cases hwh) hw⟩)
end
section
open Go Go.VC Tryz
open Classical
variable {R:Cx} {Hs Rest:List HP} {w:World}
theorem Zpe {l:List Int} (h:∀ x∈l,0<=x/\x<18446744073709551616):Z5 (Zv l):=ZcE h
theorem ZiW {r:RF} (g:ZaA r):Z5 (ZbC r):=by
 have s:=Zd4 g;obtain ⟨l1,l2,l3⟩:=Zab.1 g.lay;obtain ⟨m1,m2,m3⟩:=Zcs g;have hlen:=g.len.1;unfold ZbC Zuy;refine ZX (ZX (ZX (ZX (Zpe λ x hx=>?_) (Ze4 s.grps (by omega))) (Ze4 s.lims (by omega))) (Zaf (by omega))) λ x hx=>?_
 ·have:=s.num
  have:=s.rows;simp only [List.mem_cons,List.not_mem_nil,or_false] at hx;omega
 ·exact Zht (λ h hh=>s.hs h hh) x hx
theorem Zt3 {x:Wt} (h:x.Ok) (hf:x.sc<18446744073709551616):Z5 (wtB x):=by
 obtain ⟨h1,h2,h3,h4⟩:=h;exact ZX (Zaf (by omega)) (ZX (Zaf (by omega)) (ZX (Zaf (by omega)) (ZX (Zaf (by omega)) (Zr4 hf))))
theorem Zr2 {q:List Wt} (h:QOk q):Z5 (qB q):=ZX (Zaf (by have:=h.len;omega)) (Zf0 λ x hx=>Zt3 (h.ok x hx) (h.fl x hx))
theorem Zt4 {p:Pl} (g:ZaA p.r) (h:QOk p.q):Z5 (plB p):=
 ZX (ZiU (ZiW g) (by have:=ZcV g;omega)) (ZiU (Zr2 h) (by have:=Zk5 h;omega))
theorem Zt5 {n:Int} {x:Bk} (hn:n<=28629151) (h:Zud n x):Z5 (bkB x):=by
 have:=h.id;have:=h.flt;have:=h.cls;have:=h.many;have:=h.state;have:=h.till;exact ZX (Zaf (by omega)) (ZX (Zaf (by omega)) (ZX (Zaf (by omega)) (ZX (Zaf (by omega)) (ZX (Zaf (by omega)) (Zaf (by omega))))))
theorem ZiV {b:ZM} (k:Core b):Z5 (Zba b):=by
 have h1:=k.now;have h2:=k.next;have h3:=k.few;have h4:=k.many;exact ZX (Zaf (by omega)) (ZX (Zaf (by omega)) (ZX (Zaf (by omega)) (ZX (Zf0 λ p hp=>Zt4 (k.good p hp) (k.qok p hp)) (ZX (Zaf (by omega)) (Zf0 λ x hx=>Zt5 h2.2 (k.each x hx))))))
theorem ZoK {t:Sl} {b:ZM} (ok:Zaz b) (hw:Sat R (Own t 5 (b8 (Zba b))::Hs) w):
  Zm prog 37 #[.slice t.a t.len t.cap] w λ v w'=>∃ p,v=.tuple #[.pointer (some ⟨p,0,none⟩),.int .i64 0]/\Sat R (Zp p b::Own t 5 (b8 (Zba b))::Hs) w':=by
 have hl:=ZgX ok.core;obtain ⟨R1,g1,_,hw,back⟩:=Own.lend hw (by rw [List.length_map];omega);refine (Zpf (ZiV ok.core) (by omega) g1 hw).mono ?_;rintro v w' (⟨h,_,_⟩|⟨b',p,h,_,rfl,hw⟩)
 ·rw [Zlj ok] at h;cases h
 ·rw [Zlj ok] at h
  obtain rfl:=Option.some.inj h;exact ⟨p,rfl,(back hw).swap⟩
end
section
open Go Go.VC Tryz
open Classical
variable {R:Cx} {Hs Rest:List HP} {w:World}
abbrev Zav (s:Sl):Obj:=.cells [.slice s.a s.len s.cap].toArray 117 (0,0)
abbrev waT:TypeId:=65
def Zaj (q:Nat) (l:List Wt):HP:=exs λ s:Sl=>Zgu [pts q (Zav s),Zt 5 s waT (l.map wtV)]
theorem Sat.rqu {q:Nat} {l:List Wt}:Sat R (Zaj q l::Hs) w↔∃ s:Sl,Sat R (pts q (Zav s)::Zt 5 s waT (l.map wtV)::Hs) w:=by
 unfold Zaj;rw [Sat.exs];exact ⟨λ⟨s,h⟩=>⟨s,Sat.star.1 h⟩,λ⟨s,h⟩=>⟨s,Sat.star.2 h⟩⟩
theorem ZkF {x:Wt} (hw:Sat R Hs w):Zm prog 204 #[wtA x] w λ v w'=>v=.bool (decide x.Ok)/\Sat R Hs w':=by
 apply ZwQ
 suffices H:∀ K:Value->World->Prop,(∀ w',Sat R Hs w'->K (.bool (decide x.Ok)) w')->B204 x.id x.cls x.many x.time x.sc K w from H _ λ w' h=>⟨rfl,h⟩
 intro K hK;refine Zb hw λ b w hw=>?_;have hw:Sat R (wtD b x::Hs) w:=hw;have no:¬ x.Ok->K (.bool false) w:=λ h=>by have:=hK w hw.drop;rwa [decide_eq_false h] at this
 unfold Wt.Ok at no;refine ⟨x.id,oA hw,Br.d (λ h1=>?_) (λ h=>no λ h2=>h (by omega))⟩;refine ⟨x.id,oA hw,Br.d (λ h3=>?_) (λ h=>no λ h2=>h (by omega))⟩;refine ⟨x.cls,oA hw,Br.d (λ h4=>?_) (λ h=>no λ h2=>h (by omega))⟩;refine ⟨x.cls,oA hw,Br.d (λ h5=>?_) (λ h=>no λ h2=>h (by omega))⟩;refine ⟨x.many,oA hw,Br.d (λ h6=>?_) (λ h=>no λ h2=>h (by omega))⟩;refine ⟨x.many,oA hw,Br.d (λ h7=>?_) (λ h=>no λ h2=>h (by omega))⟩;refine ⟨x.time,oA hw,Br.d (λ h8=>?_) (λ h=>no λ h2=>h (by omega))⟩;refine ⟨x.time,oA hw,?_⟩;have:=hK w hw.drop;have e:decide x.Ok=decide (x.time<=1099511627776):=by
  refine decide_eq_decide.2 ?_;unfold Wt.Ok;omega
 rwa [e] at this
theorem ZkI {a b:Wt} (hw:Sat R Hs w):Zm prog 206 #[wtA a,wtA b] w λ v w'=>v=.bool (a.ahead b)/\Sat R Hs w':=by
 apply ZwO
 suffices H:∀ K:Value->World->Prop,(∀ w',Sat R Hs w'->K (.bool (a.ahead b)) w')->B206 a.id a.cls a.many a.time a.sc b.id b.cls b.many b.time b.sc K w from H _ λ w' h=>⟨rfl,h⟩
 intro K hK;refine Zb hw λ p w hw=>Zb hw λ q w hw=>?_;have hw:Sat R (wtD q b::wtD p a::Hs) w:=hw;refine ⟨a.sc,oA hw,b.sc,oA hw,?_⟩;refine (Zoo hw).use ?_;clear hw;rintro _ w ⟨rfl,hw⟩;have hk:=λ {v:Bool} (h:a.ahead b=v)=>(show K (.bool v) w by rw [<-h];exact hK w hw.drop.drop);refine ⟨_,rfl,Br.ne (λ h0=>?_) (λ h0=>?_)⟩
 ·refine hk ?_
  have hne:¬ kvF a.sc=kvF b.sc:=λ e=>h0 (by unfold Zeh;rw [if_neg (by omega),if_pos e]);unfold Wt.ahead;rw [if_neg hne];refine decide_eq_decide.2 ?_;unfold Zeh;rw [if_neg hne];split<;>omega
 ·have he:kvF a.sc=kvF b.sc:=by
   unfold Zeh at h0;split at h0
   ·omega
   ·split at h0
    ·assumption
    ·omega
  unfold Wt.ahead at hk;rw [if_pos he] at hk;refine ⟨a.time,oA hw,b.time,oA hw,Br.ne (λ h1=>?_) (λ h1=>?_)⟩
  ·exact ⟨a.time,oA hw,b.time,oA hw,hk (by rw [if_neg h1])⟩
  ·exact ⟨a.id,oA hw,b.id,oA hw,hk (by rw [if_pos h1])⟩
theorem ZkG {q:Nat} {l:List Wt} {id:Int} (hl:l.length<=1000000000) (hw:Sat R (Zaj q l::Hs) w):
  Zm prog 205 #[.pointer (some ⟨q,0,none⟩),.int .i64 id] w λ v w'=>(∃ i:Int,v=.int .i64 i/\((i=-1/\Zel id l=false)\/∃ k:Nat,i=k/\∃ (hk:k<l.length),l[k].id=id/\Zel id (l.take k)=false))/\Sat R (Zaj q l::Hs) w':=by
 obtain ⟨s,hw⟩:=Sat.rqu.1 hw;have hlen:=Zt.len hw.swap;rw [List.length_map] at hlen;apply ZwP;refine ⟨λ i w=>∃ j:Nat,i=j/\j<=l.length/\Zel id (l.take j)=false/\Sat R (pts q (Zav s)::Zt 5 s waT (l.map wtV)::Hs) w,λ i _=>l.length - i.toNat,⟨0,rfl,by omega,by simp [Zel],hw⟩,?_⟩;clear hw;rintro _ _ w ⟨j,rfl,hj,hn,hw⟩;refine Zc.mk rfl ⟨s,oA hw,Br.d (λ h=>?_) (λ h=>?_)⟩
 ·have hj2:j<l.length:=by omega
  refine Zc.mk rfl ⟨s,oA hw,?_⟩;have hw2:=hw.swap;refine (Zt.reads hw2 (S:=λ w'=>w'=w) (Hs':=pts q (Zav s)::Hs) (λ w' e=>by rw [e];exact hw2)).rngM (E:=l) (g:=wtV) hj2 λ a _ he=>⟨l[j].id,he.zz (by exact ⟨rfl,trivial⟩),?_⟩;refine Br.e (λ h1=>⟨⟨j,rfl,.inr ⟨j,rfl,hj2,h1,hn⟩⟩,Sat.rqu.2 ⟨s,hw⟩⟩) (λ h1=>?_);rw [Zh (x:=(j:Int) + 1) (by omega) (by omega)];refine ⟨⟨j + 1,by omega,by omega,?_,hw⟩,by dsimp only;omega⟩;unfold Zel at hn ⊢;rw [List.take_add_one,List.getElem?_eq_getElem hj2,List.any_append,hn];simp [h1]
 ·rw [List.take_of_length_le (by omega)] at hn
  exact ⟨⟨-1,rfl,.inl ⟨rfl,hn⟩⟩,Sat.rqu.2 ⟨s,hw⟩⟩
theorem ZjJ {x:Wt}:∀ {l:List Wt} {k:Nat},k<=l.length->(∀ i (hi:i<l.length),i<k->l[i].ahead x=true)->(∀ h:k<l.length,l[k].ahead x=false)->ZiE x l=l.take k++x::l.drop k
 |[],k,hk,_,_=>by simp at hk;subst hk;rfl
 |a::l,0,_,_,h2=>by
  have:=h2 (by simp);rw [ZbY,if_neg (by simpa using this)];rfl
 |a::l,k + 1,hk,h1,h2=>by
  have:=h1 0 (by simp) (by omega);rw [ZbY,if_pos (by simpa using this),ZjJ (l:=l) (k:=k) (by simpa using hk) (λ i hi hik=>h1 (i + 1) (by simpa using hi) (by omega)) (λ h=>h2 (by simpa using h))];rfl
theorem ZsH (l:List Wt) (k:Nat):ZaS ((l.map wtV).take k).flatten=true:=by rw [<-List.map_take];exact ZiZ _
theorem ZsI (l:List Wt) (k:Nat):ZaS ((l.map wtV).drop k).flatten=true:=by rw [<-List.map_drop];exact ZiZ _
set_option maxHeartbeats 1000000 in
theorem Zoq {q:Nat} {l:List Wt} {x:Wt} (hq:l.length<=1000) (hw:Sat R (Zaj q l::Hs) w):
  Zm prog 135 #[.pointer (some ⟨q,0,none⟩),wtA x] w λ v w'=>v=.int .i64 (ZcW l x).2/\Sat R (Zaj q (ZcW l x).1::Hs) w':=by
 apply ZxC
 suffices H:∀ K:Value->World->Prop,(∀ w',Sat R (Zaj q (ZcW l x).1::Hs) w'->K (.int .i64 (ZcW l x).2) w')->B135 (some ⟨q,0,none⟩) x.id x.cls x.many x.time x.sc K w from H _ λ w' h=>⟨rfl,h⟩
 intro K hK;refine Zb hw λ b w hw=>?_;have hw:Sat R (wtD b x::Zaj q l::Hs) w:=hw;refine ⟨x.id,x.cls,x.many,x.time,x.sc,At.own (eqS hw) (by exact ⟨rfl,rfl,rfl,rfl,rfl,trivial⟩),?_⟩;refine (ZkF hw).use ?_;clear hw;rintro _ w ⟨rfl,hw⟩;refine ⟨_,rfl,Br.nd (λ h0=>?_) (λ h0=>?_)⟩
 ·rw [show ZcW l x=(l,1) by unfold ZcW;rw [if_pos h0]] at hK;exact hK w hw.drop
 have n0:¬ ¬ x.Ok:=λ h=>h h0;refine ⟨x.id,oA hw,?_⟩;refine (ZkG (by omega) hw.swap).use ?_;clear hw;rintro _ w ⟨⟨i,rfl,hi⟩,hw⟩;refine ⟨i,rfl,Br.d (λ h1=>?_) (λ h1=>?_)⟩
 ·have hh:Zel x.id l=true:=by
   rcases hi with ⟨rfl,_⟩|⟨k,rfl,hk,e,_⟩
   ·omega
   ·exact Zfc.2 ⟨_,List.getElem_mem hk,e⟩
  rw [show ZcW l x=(l,7) by unfold ZcW;rw [if_neg n0,if_pos hh]] at hK;exact hK w (hw.cons λ _ h=>h.drop)
 have hh:¬ Zel x.id l=true:=by
  rcases hi with ⟨_,h⟩|⟨k,rfl,_,_,_⟩
  ·rw [h];simp
  ·omega
 obtain ⟨s,hw⟩:=Sat.rqu.1 hw;have hlen:=Zt.len hw.swap;rw [List.length_map] at hlen;have hcap:=Zt.cap (by omega) hw.swap;refine Zc.mk rfl ⟨s,oA hw,Br.d (λ h2=>?_) (λ h2=>?_)⟩
 ·rw [show ZcW l x=(l,3) by unfold ZcW;rw [if_neg n0,if_neg hh,if_pos (by omega)]] at hK
  exact hK w (Sat.rqu.2 ⟨s,hw.cons λ _ h=>h.cons λ _ h=>h.drop⟩)
 rw [show ZcW l x=(ZiE x l,0) by unfold ZcW;rw [if_neg n0,if_neg hh,if_neg (by omega)]] at hK;have hw:Sat R (Zt 5 s waT (l.map wtV)::pts q (Zav s)::wtD b x::Hs) w:=hw.swap;refine ⟨λ at6 w=>∃ k:Nat,at6=k/\k<=l.length/\ZiE x l=l.take k++x::l.drop k/\Sat R (Zt 5 s waT (l.map wtV)::pts q (Zav s)::wtD b x::Hs) w,?_,?_⟩
 ·refine ⟨λ at6 w=>∃ k:Nat,at6=k/\k<=l.length/\(∀ i (hi:i<l.length),i<k->l[i].ahead x=true)/\Sat R (Zt 5 s waT (l.map wtV)::pts q (Zav s)::wtD b x::Hs) w,λ at6 _=>l.length - at6.toNat,⟨0,rfl,by omega,λ i _ hi=>by omega,hw⟩,?_⟩
  clear hw;rintro _ _ w ⟨k,rfl,hk,hlt,hw⟩;refine Zo hw λ w hw=>?_;refine Zc.mk rfl ⟨s,oS,Br.d (λ h5=>?_) (λ h5=>⟨k,rfl,hk,ZjJ hk hlt (λ h=>by omega),hw⟩)⟩;have hk2:k<l.length:=by omega
  refine Zc.mk rfl ⟨s,oS,?_⟩;refine (Zt.reads hw (S:=Sat R (Zt 5 s waT (l.map wtV)::pts q (Zav s)::wtD b x::Hs)) (λ _ h=>h)).rngM (E:=l) (g:=wtV) hk2 λ a _ he=>?_;refine ⟨_,_,_,_,_,he.z (by exact ⟨rfl,rfl,rfl,rfl,rfl,trivial⟩),x.id,x.cls,x.many,x.time,x.sc,At.own Zao (by exact ⟨rfl,rfl,rfl,rfl,rfl,trivial⟩),?_⟩;refine (ZkI (a:=l[k]) (b:=x) hw).use ?_;clear hw;rintro _ w ⟨rfl,hw⟩;refine ⟨_,rfl,hw,Br.mk (λ h6=>?_) (λ h6=>⟨k,rfl,hk,ZjJ hk hlt (λ _=>h6),hw⟩)⟩;rw [Zh (x:=(k:Int) + 1) (by omega) (by omega)];refine ⟨⟨k + 1,by omega,by omega,λ i hi hik=>?_,hw⟩,by dsimp only;omega⟩;by_cases hik2:i=k
  ·subst hik2;exact h6
  ·exact hlt i hi (by omega)
 clear hw;rintro _ _ w ⟨k,rfl,hk,hins,hw⟩;obtain ⟨R',hro,⟨xh,hx⟩,hw,back⟩:=Zt.lend hw;have hml:(l.map wtV).length=l.length:=List.length_map ..;refine Zb hw λ b5 w hw=>Zc.mk rfl ⟨s,oA hw,by omega,by omega,?_⟩;refine Zkf (b:=b5) (ys:=(l.map wtV).take k) ZzO hw (Zug ⟨_,underlying109⟩ hw (hro.take (h:=k) (by omega) s.cap) (ZsH l k)) hro.wid.take (by rw [List.length_take];omega) (by rw [List.length_take];omega) λ s1 w hw=>?_;refine ⟨x.id,x.cls,x.many,x.time,x.sc,At.own (eqS hw) (by exact ⟨rfl,rfl,rfl,rfl,rfl,trivial⟩),?_⟩;refine ZfG (x:=wtV x) ZzO hw rfl rfl (by rw [List.length_take];omega) (by rw [List.length_take];omega) λ s2 w hw=>?_;refine Zc.mk rfl ⟨s,oA hw,by omega,by omega,?_⟩;have hsub:=hro.sub (l:=k) (h:=s.len) (m:=s.cap) (by omega) (by omega) (by omega);rw [List.take_of_length_le (show (l.map wtV).length<=s.len by omega)] at hsub;refine Za1 (ys:=(l.map wtV).drop k) ZzO hw (Zug ⟨_,underlying109⟩ hw hsub (ZsI l k)) hro.wid.drop (by simp only [List.length_append,List.length_take,List.length_drop,List.length_singleton];omega) (by simp only [List.length_append,List.length_take,List.length_drop,List.length_singleton];omega) λ s3 w hw=>Zc.mk rfl ?_;have hw:=back hw;have hw:Sat R (pts q (Zav s)::Zt 5 s3 waT ((l.map wtV).take k++[wtV x]++(l.map wtV).drop k)::Zt 5 s waT (l.map wtV)::wtD b x::Hs) w:=hw.arr;refine Za hw (by kernel_rfl) rfl (by simp [Value.cells]) λ w hw=>?_;have hw:=hw.re (pts q (Zav s3));have e:(l.map wtV).take k++[wtV x]++(l.map wtV).drop k=(ZiE x l).map wtV:=by
  rw [hins,<-List.map_take,<-List.map_drop];simp
 rw [e] at hw;exact hK w (Sat.rqu.2 ⟨s3,hw.cons λ _ h=>h.cons λ _ h=>h.drop.drop⟩)
theorem ZkH {q:Nat} {l:List Wt} {sl:Sl} {left:List Int} (hq:QOk l) (hL:RoI R sl left) (hw:Sat R (Zaj q l::Hs) w):
  Zm prog 35 #[.pointer (some ⟨q,0,none⟩),.slice sl.a sl.len sl.cap] w λ v w'=>v=.tuple #[wtA ((Zai l left).getD Zah),.bool (Zai l left).isSome]/\Sat R (Zaj q l::Hs) w':=by
 have hl:l.length<=1000000000:=by have:=hq.len;omega
 have hLl:=hL.len;obtain ⟨s,hw⟩:=Sat.rqu.1 hw;apply Zzq;refine Zb hw λ b w hw=>?_;have hw:Sat R (Zt 5 s waT (l.map wtV)::pts q (Zav s)::wtD b Zah::Hs) w:=by
  have hw:Sat R (wtD b Zah::pts q (Zav s)::Zt 5 s waT (l.map wtV)::Hs) w:=hw;exact hw.arr
 have hlen:=Zt.len hw;rw [List.length_map] at hlen;have close:∀ {w x},Sat R (Zt 5 s waT (l.map wtV)::pts q (Zav s)::wtD b x::Hs) w->Sat R (Zaj q l::Hs) w:=λ {w x} h=>by
  have h:Sat R (pts q (Zav s)::Zt 5 s waT (l.map wtV)::wtD b x::Hs) w:=h.swap;exact Sat.rqu.2 ⟨s,h.cons λ _ h=>h.cons λ _ h=>h.drop⟩
 refine ⟨λ i w=>∃ j:Nat,i=j/\j<=l.length/\(l.take j).any (Zcb left)=false/\Sat R (Zt 5 s waT (l.map wtV)::pts q (Zav s)::wtD b Zah::Hs) w,λ i _=>l.length - i.toNat,⟨0,rfl,by omega,by simp,hw⟩,?_⟩;clear hw;rintro _ _ w ⟨j,rfl,hj,hn,hw⟩;refine Zc.mk rfl ⟨s,oA hw,Br.d (λ h=>?_) (λ h=>?_)⟩
 ·have hj2:j<l.length:=by omega
  have hx:=hq.ok l[j] (List.getElem_mem hj2);have next:Zcb left l[j]=false->(l.take (j + 1)).any (Zcb left)=false:=λ h=>by
   rw [List.take_add_one,List.getElem?_eq_getElem hj2,List.any_append,hn];simp [h]
  rw [Zh (x:=(j:Int) + 1) (by omega) (by omega)];refine Zc.mk rfl ⟨s,oA hw,?_⟩;refine (Zt.reads hw (eqS hw)).rngM (E:=l) (g:=wtV) hj2 λ a _ he=>?_;refine ⟨_,_,_,_,_,he.z (by exact ⟨rfl,rfl,rfl,rfl,rfl,trivial⟩),?_⟩;refine Zb hw λ b2 w hw=>?_;refine Za hw (by kernel_rfl) rfl (by simp [Value.cells]) λ w hw=>?_;have hw:=hw.re (wtD b2 l[j]);refine Zo hw λ w hw=>?_;refine ⟨l[j].cls,At.own (λ _ h=>h) (by exact ⟨rfl,trivial⟩),Br.d (λ h1=>?_) (λ h1=>⟨⟨j + 1,by omega,by omega,next (ZjU λ h=>h1 (by omega)),hw.drop⟩,by dsimp only;omega⟩)⟩;have hc:l[j].cls=(l[j].cls.toNat:Int):=by have:=hx.2.1.1;omega
  have hc2:l[j].cls.toNat<left.length:=by omega
  refine ⟨l[j].many,At.own (λ _ h=>h) (by exact ⟨rfl,trivial⟩),l[j].cls,At.own (λ _ h=>h) (by exact ⟨rfl,trivial⟩),?_⟩;refine Ro.ix hL (λ _ h=>h) l[j].cls.toNat hc hc2 ?_;refine Br.d (λ h2=>?_) (λ h2=>⟨⟨j + 1,by omega,by omega,next (ZjU λ h=>h2 ?_),hw.drop⟩,by dsimp only;omega⟩)
  ·have hf:Zcb left l[j]=true:=by
    unfold Zcb;rw [Bool.and_eq_true,decide_eq_true_iff,decide_eq_true_iff];refine ⟨by omega,?_⟩;rw [List.getD_eq_getElem?_getD,List.getElem?_eq_getElem hc2];exact h2
   refine ⟨l[j].id,l[j].cls,l[j].many,l[j].time,l[j].sc,At.own (eqS hw) (by exact ⟨rfl,rfl,rfl,rfl,rfl,trivial⟩),?_⟩;have hw:Sat R (wtD b Zah::wtD b2 l[j]::Zt 5 s waT (l.map wtV)::pts q (Zav s)::Hs) w:=hw.arr;refine Za hw (by kernel_rfl) rfl (by simp [Value.cells,wtV]) λ w hw=>?_;have hw:=hw.re (wtD b l[j]);refine ⟨l[j].id,l[j].cls,l[j].many,l[j].time,l[j].sc,At.own (eqS hw) (by exact ⟨rfl,rfl,rfl,rfl,rfl,trivial⟩),?_⟩;have hw:Sat R (wtD b2 l[j]::Zt 5 s waT (l.map wtV)::pts q (Zav s)::wtD b l[j]::Hs) w:=hw.arr;rw [Zg8 hj2 hn hf];exact ⟨rfl,close hw.drop⟩
  ·have:=h.2
   rwa [List.getD_eq_getElem?_getD,List.getElem?_eq_getElem hc2] at this
 ·rw [List.take_of_length_le (by omega)] at hn
  have hw:Sat R (wtD b Zah::Zt 5 s waT (l.map wtV)::pts q (Zav s)::Hs) w:=hw.arr;refine Za hw (by kernel_rfl) rfl (by simp [Value.cells,wtV]) λ w hw=>?_;have hw:=hw.re (wtD b Zah);refine ⟨0,0,0,0,0,At.own (eqS hw) (by exact ⟨rfl,rfl,rfl,rfl,rfl,trivial⟩),?_⟩;rw [Zim hn];have hw:Sat R (Zt 5 s waT (l.map wtV)::pts q (Zav s)::wtD b Zah::Hs) w:=hw.arr;exact ⟨rfl,close hw⟩
end
section
open Go Go.VC Tryz
open Classical
variable {R:Cx} {Hs Rest:List HP} {w:World}
set_option maxHeartbeats 1000000 in
theorem Zop {q:Nat} {l:List Wt} (hlen:l.length<=1000) (hok:∀ x∈l,x.Ok) (hfls:∀ x∈l,x.sc<18446744073709551616) (hw:Sat R (Zaj q l::Hs) w):
  Zm prog 74 #[.pointer (some ⟨q,0,none⟩)] w λ v w'=>∃ t:Sl,v=.slice t.a t.len t.cap/\Sat R (Own t 5 (b8 (qB l))::Zaj q l::Hs) w':=by
 apply Zy7
 suffices H:∀ K:Value->World->Prop,(∀ (t:Sl) w',Sat R (Own t 5 (b8 (qB l))::Zaj q l::Hs) w'->K (.slice t.a t.len t.cap) w')->B74 (some ⟨q,0,none⟩) K w from H _ λ t w' h=>⟨t,rfl,h⟩
 intro K hK;obtain ⟨s,hw⟩:=Sat.rqu.1 hw;have hsl:=Zt.len hw.swap;rw [List.length_map] at hsl;refine Zc.mk rfl ⟨s,oA hw,?_⟩;rw [ZK (by omega) (by omega)];refine (Zf9 (by omega) hw).use ?_;clear hw;rintro _ w ⟨t0,rfl,hw⟩;refine ⟨t0,rfl,?_⟩;have e0:ZeP s.len=Zv [(l.length:Int)]:=by rw [hsl];simp [Zv]
 rw [e0] at hw;refine ⟨λ t i w=>∃ k:Nat,i=k/\k<=l.length/\Sat R (Own t 5 (b8 (Zv [(l.length:Int)]++((l.take k).map wtB).flatten))::pts q (Zav s)::Zt 5 s waT (l.map wtV)::Hs) w,
  λ _ i _=>l.length - i.toNat,⟨0,rfl,by omega,by simpa using hw⟩,?_⟩
 clear hw;rintro _ t _ w ⟨k,rfl,hk,hw⟩;refine Zc.mk rfl ⟨s,oA hw,Br.d (λ h=>?_) (λ h=>?_)⟩
 ·have hk2:k<l.length:=by omega
  have hx:=List.getElem_mem hk2;have hok1:=hok _ hx;have hfl:=hfls _ hx;have hu:=Zue hok1 hfl;obtain ⟨h1,h2,h3,h4⟩:=id hok1;refine Zc.mk rfl ⟨s,oA hw,?_⟩;refine (Zt.readsM (n:=5) (s:=s) (T:=waT) (rows:=l.map wtV) hw (eqS hw)).rngM (E:=l) (g:=wtV) hk2 λ a _ he=>?_;refine ⟨_,_,_,_,_,he.z (by exact ⟨rfl,rfl,rfl,rfl,rfl,trivial⟩),?_⟩;refine Zb hw λ b2 w hw=>?_;refine Za hw (by kernel_rfl) rfl (by simp [Value.cells]) λ w hw=>?_;have hw:=hw.re (wtD b2 l[k]);refine ZaN hw λ w hw=>?_;refine ⟨l[k].id,oS,l[k].cls,oS,l[k].many,oS,l[k].time,oS,l[k].sc,oS,?_⟩;refine (Zp5 hfl hw).use ?_;clear hw;rintro _ w ⟨rfl,hw⟩;refine ⟨_,rfl,hw,?_⟩;rw [ZK (x:=l[k].id) (by omega) (by omega),ZK (x:=l[k].cls) (by omega) (by omega),ZK (x:=l[k].many) (by omega) (by omega),ZK (x:=l[k].time) (by omega) (by omega)];refine Zb hw λ b5 w hw=>⟨hw.absorb,?_⟩;obtain ⟨us,hus⟩:∃ us,us=wtN l[k]:=⟨_,rfl⟩;have hul:us.length=5:=by rw [hus];rfl
  have hw:Sat R (pts b5 (.cells (us.map λ n=>Value.int .u64 (n:Nat)).toArray 134 (0,0))::wtD b2 l[k]::Own t 5 (b8 (Zv [(l.length:Int)]++((l.take k).map wtB).flatten))::pts q (Zav s)::Zt 5 s waT (l.map wtV)::Hs) w:=by
   have e:([.int .u64 l[k].id,.int .u64 l[k].cls,.int .u64 l[k].many,.int .u64 l[k].time,.int .u64 ((Znw l[k].sc:Nat):Int)]:List Value)=us.map λ n=>Value.int .u64 (n:Nat):=by
    subst hus;simp only [wtN,List.map_cons,List.map_nil,Int.toNat_of_nonneg h2.1,Int.toNat_of_nonneg h4.1,Int.toNat_of_nonneg (show 0<=l[k].id by omega),Int.toNat_of_nonneg (show 0<=l[k].many by omega)]
   rw [<-e];exact hw.cons λ _ h=>h.drop
  rw [<-hus] at hu;have hblen:=Zca (l:=l.take k) (code:=wtB) (m:=45) λ w hw=>ZlW (hok w (List.mem_of_mem_take hw)) (hfls w (List.mem_of_mem_take hw));rw [List.length_take] at hblen;have h0:=ZW (x:=(l.length:Int)) (by omega);obtain ⟨bs,hbs⟩:∃ bs,bs=Zv [(l.length:Int)]++((l.take k).map wtB).flatten:=⟨_,rfl⟩;have hbl:bs.length<=100000:=by rw [hbs,List.length_append];omega
  rw [<-hbs] at hw;refine ⟨λ t i w=>∃ j:Nat,i=j/\j<=5/\Sat R (Own t 5 (b8 (bs++ZhY (us.take j)))::pts b5 (.cells (us.map λ n=>Value.int .u64 (n:Nat)).toArray 134 (0,0))::wtD b2 l[k]::pts q (Zav s)::Zt 5 s waT (l.map wtV)::Hs) w,
   λ _ i _=>5 - i.toNat,⟨0,rfl,by omega,?_⟩,?_⟩
  ·have hw:Sat R (Own t 5 (b8 bs)::pts b5 (.cells (us.map λ n=>Value.int .u64 (n:Nat)).toArray 134 (0,0))::wtD b2 l[k]::pts q (Zav s)::Zt 5 s waT (l.map wtV)::Hs) w:=hw.arr
   simpa [ZhY] using hw
  clear hw;rintro _ t _ w ⟨j,rfl,hj,hw⟩;refine Br.d (λ hj5=>?_) (λ hj5=>?_)
  ·have hj2:j<us.length:=by omega
   have hul2:=Zk9 (l:=us.take j) λ x hx=>hu x (List.mem_of_mem_take hx);rw [List.length_take] at hul2;have huj:=hu _ (List.getElem_mem hj2);refine Rng.mk (by omega) (by omega) ⟨((us[j]:Nat):Int),?_,?_⟩
   ·have hjm:j<(us.map λ n=>Value.int .u64 (n:Nat)).length:=by rw [List.length_map];exact hj2
    have:=At.vals (b:=b5) (vs:=us.map λ n=>Value.int .u64 (n:Nat)) (eqS hw) hjm;rw [List.getElem_map] at this;exact this
   refine (Zf9 huj hw).use ?_;clear hw;rintro _ w ⟨t1,rfl,hw⟩;refine ⟨t1,rfl,?_⟩;have hnb:=Zbw huj;refine Zdi ZrD (s:=t) (n:=1099511627790) underlying42 hw.swap (by rw [List.length_append];omega) (by omega) (by omega) λ s2 w hw=>?_;have hw:=hw.cons λ _ h=>h.drop;rw [Zh (x:=(j:Int) + 1) (by omega) (by omega)];refine ⟨⟨j + 1,by omega,by omega,?_⟩,by dsimp only;omega⟩;rw [Zit hj2,<-List.append_assoc];exact hw
  ·rw [List.take_of_length_le (by omega:us.length<=j),hus,<-Zyl,hbs,List.append_assoc,<-Zfe hk2] at hw
   rw [Zh (x:=(k:Int) + 1) (by omega) (by omega)];exact ⟨⟨k + 1,by omega,by omega,hw.cons λ _ h=>h.drop.drop⟩,by dsimp only;omega⟩
 ·rw [List.take_of_length_le (by omega:l.length<=k)] at hw
  exact hK t w (hw.cons λ _ h=>Sat.rqu.2 ⟨s,h⟩)
end
section
open Go Go.VC Tryz
open Classical
variable {R:Cx} {Hs Rest:List HP} {w:World}
theorem Zqs {l:List Wt} (h:QOk l) {k:Nat} (hk:k<l.length):ZcW (l.take k) l[k]=(l.take (k + 1),0):=by
 have hd:l.take (k + 1)=l.take k++[l[k]]:=by rw [List.take_add_one,List.getElem?_eq_getElem hk];rfl
 have hr:Zbf (l.take k++[l[k]]):=by
  rw [<-hd];refine Zbf.pre (b:=l.drop (k + 1)) ?_;rw [List.take_append_drop];exact ⟨h.st,h.ids,h.ok⟩
 obtain ⟨h1,h2,h3⟩:=hr.last;have h4:=Zmz.2 h2;have h5:=h.len;unfold ZcW;rw [if_neg (λ e=>e h1),if_neg (by rw [h4];simp),if_neg (by rw [List.length_take];omega),ZjK h3,hd]
set_option maxHeartbeats 2000000 in
theorem Zjb {s:Sl} {l:List Wt} (hq:QOk l) (hb:Z5 (qB l)) (hl:(qB l).length<=1099511627776) (hs:SlR R.m s (b8 (qB l))) (hw:Sat R Hs w):
  Zm prog 95 #[.slice s.a s.len s.cap] w λ v w'=>∃ q,v=.tuple #[.pointer (some ⟨q,0,none⟩),.int .i64 0]/\Sat R (Zaj q l::Hs) w':=by
 apply ZyW
 suffices H:∀ K:Value->World->Prop,(∀ q w',Sat R (Zaj q l::Hs) w'->K (.tuple #[.pointer (some ⟨q,0,none⟩),.int .i64 0]) w')->B95 s K w from
  H _ λ q w' h=>⟨q,rfl,h⟩
 intro K hK;have hlen:=hq.len;have e0:Ze 200 ⟨qB l,false⟩=((l.length:Int),⟨(l.map wtB).flatten,false⟩):=Zs (by omega) (by omega) (by omega);refine Zb hw λ b w hw=>?_;have hw:Sat R (pts b (Z6 s 0 false)::Hs) w:=hw;have hw:Sat R (ZT b s (qB l) ⟨qB l,false⟩::Hs) w:=Sat.rrd.2 ⟨0,⟨by omega,rfl⟩,hw⟩;refine (ZG hl hb hs hw).use ?_;clear hw;rintro _ w ⟨rfl,hw⟩;rw [e0] at hw ⊢;refine ⟨_,rfl,?_⟩;dsimp only at hw ⊢;refine Zb hw λ q w hw=>?_;have hw:Sat R (pts q (Zav ⟨none,0,0⟩)::ZT b s (qB l) ⟨(l.map wtB).flatten,false⟩::Hs) w:=hw;have hw:Sat R (Zaj q []::ZT b s (qB l) ⟨(l.map wtB).flatten,false⟩::Hs) w:=Sat.rqu.2 ⟨⟨none,0,0⟩,Sat.swap (Zt.nil hw)⟩;refine ⟨λ i w=>∃ k:Nat,i=k/\k<=l.length/\Sat R (ZT b s (qB l) ⟨((l.drop k).map wtB).flatten,false⟩::Zaj q (l.take k)::Hs) w,λ i _=>l.length - i.toNat,⟨0,rfl,by omega,hw.swap⟩,?_⟩;clear hw;rintro _ _ w ⟨k,rfl,hk,hw⟩;refine Br.d (λ h=>?_) (λ h=>?_)
 ·have hk2:k<l.length:=by omega
  have hx:=List.getElem_mem hk2;obtain ⟨⟨i1,i2⟩,⟨c1,c2⟩,⟨m1,m2⟩,t1,t2⟩:=id (hq.ok _ hx);have hfl:=hq.fl _ hx;have hkl:=Zlq hfl;have ha:=Zqs hq hk2;rw [List.drop_eq_getElem_cons hk2,List.map_cons,List.flatten_cons] at hw;generalize l[k]=x at *;generalize hmore:((l.drop (k + 1)).map wtB).flatten=more at hw;unfold wtB at hw;simp only [List.append_assoc] at hw;refine (ZG (most:=28629151) hl hb hs hw).use ?_;clear hw;rintro _ w ⟨rfl,hw⟩;rw [Zs (by omega) (by omega) (by omega)] at hw ⊢;refine ⟨_,rfl,?_⟩;refine (ZG (most:=7) hl hb hs hw).use ?_;clear hw;rintro _ w ⟨rfl,hw⟩;dsimp only at hw ⊢;rw [Zs (by omega) (by omega) (by omega)] at hw ⊢;refine ⟨_,rfl,?_⟩;refine (ZG (most:=600) hl hb hs hw).use ?_;clear hw;rintro _ w ⟨rfl,hw⟩;dsimp only at hw ⊢;rw [Zs (by omega) (by omega) (by omega)] at hw ⊢;refine ⟨_,rfl,?_⟩;refine (ZG (most:=1099511627776) hl hb hs hw).use ?_;clear hw;rintro _ w ⟨rfl,hw⟩;dsimp only at hw ⊢;rw [Zs (by omega) (by omega) (by omega)] at hw ⊢;refine ⟨_,rfl,?_⟩;dsimp only at hw ⊢;refine Zb hw λ bw w hw=>?_;refine Za hw (by kernel_rfl) rfl (by simp [Value.cells]) λ w hw=>?_;rw [Zh (x:=x.id) (by omega) (by omega),Zh (x:=x.cls) (by omega) (by omega),Zh (x:=x.many) (by omega) (by omega),Zh (x:=x.time) (by omega) (by omega)] at hw;have hw:=hw.re (wtD bw { x with sc:=0 });refine (ZG (most:=18446744073709551615) hl hb hs hw.swap).use ?_;clear hw;rintro _ w ⟨rfl,hw⟩;rw [show ZvF x.sc=ZeP (Znw x.sc) from rfl,ZfB hkl (by omega)] at hw ⊢
  refine ⟨_,rfl,?_⟩;dsimp only at hw ⊢;refine (ZsV hkl hw).use ?_;clear hw;rintro _ w ⟨rfl,hw⟩;rw [Zuo hfl];refine ⟨_,rfl,?_⟩;have hw:=hw.swap;refine Za hw (by kernel_rfl) rfl (by simp [Value.cells,wtV]) λ w hw=>?_;have hw:=hw.re (wtD bw x);refine ⟨x.id,x.cls,x.many,x.time,x.sc,At.own (eqS hw) (by exact ⟨rfl,rfl,rfl,rfl,rfl,trivial⟩),?_⟩;have hw:Sat R (Zaj q (l.take k)::wtD bw x::ZT b s (qB l) ⟨more,false⟩::Hs) w:=hw.arr;refine (Zoq (by rw [List.length_take];omega) hw).use ?_;clear hw;rintro _ w ⟨rfl,hw⟩;rw [ha] at hw ⊢;refine ⟨_,rfl,?_⟩;have hw:Sat R (ZT b s (qB l) ⟨more,false⟩::Zaj q (l.take (k + 1))::wtD bw x::Hs) w:=hw.arr;obtain ⟨nn,hnn,hw2⟩:=Sat.rrd.1 hw;refine ⟨false,At.own (eqS hw2) (by exact ⟨rfl,trivial⟩),Br.f rfl (Br.f rfl ?_)⟩;rw [ZK (by omega) (by omega)];have hw3:Sat R (wtD bw x::ZT b s (qB l) ⟨more,false⟩::Zaj q (l.take (k + 1))::Hs) w:=hw.arr;exact ⟨⟨k + 1,by omega,by omega,by rw [hmore];exact hw3.drop⟩,by omega⟩
 ·have hk2:k=l.length:=by omega
  subst hk2;rw [List.drop_length,List.take_length] at hw;refine (Zdt hs hw).use ?_;clear hw;rintro _ w ⟨rfl,hw⟩;have hw:=hw.drop;refine ⟨_,rfl,?_⟩;have hro:Ro R s (b8 (qB l)):=hs.ro (by rw [List.length_map];omega);refine ZE (Sat R [Zaj q l,VC.tru]) hw (λ w hw=>hw.restTru2) λ w hw=>Br.f rfl ?_;refine ⟨VC.strOf (qB l),λ w' hs=>Zj5 u8s underlying5 underlying9 hs hro,?_⟩;refine (Zop (by omega) hq.ok hq.fl hw).use ?_;clear hw;rintro _ w ⟨t,rfl,hw⟩;refine ⟨t,rfl,hw.drop.restTru2,VC.strOf (qB l),Zj4 (t:=t) (T:=5) (bs:=qB l) (by omega) hw,?_⟩;rw [ZpR,decide_eq_true rfl];exact Br.f rfl (hK _ _ hw.drop)
end
section
open Go Go.VC Tryz
open Classical
variable {R:Cx} {Hs Rest:List HP} {w:World}
abbrev plT:TypeId:=70
abbrev rkT:TypeId:=121
def ZbE (e:FE):List Value:=[.pointer (some ⟨e.1,0,none⟩),.pointer (some ⟨e.2.1,0,none⟩)]
def rkV (x:Bk):List Value:=[.int .i64 x.id,.int .i64 x.flt,.int .i64 x.cls,.int .i64 x.many,.int .i64 x.state,.int .i64 x.till]
abbrev rkC (b:Nat) (x:Bk):HP:=pts b (.cells (rkV x).toArray rkT (0,0))
def ZAG (e:FE):HP:=Zgu [Zgv e.1 e.2.2.r,Zaj e.2.1 e.2.2.q]
def ZaJ (fs:List FE):HP:=Zgu (fs.map ZAG)
theorem Zgz {A C:List FE} {f q:Nat} {p:Pl}:Sat R (ZaJ (A++(f,q,p)::C)::Hs) w↔Sat R (Zgv f p.r::Zaj q p.q::ZaJ (A++C)::Hs) w:=by
 unfold ZaJ;rw [List.map_append,List.map_cons,Zi8,List.map_append];exact Sat.star
abbrev Zaw (now next:Int) (sf sb:Sl):Obj:=.cells [.int .i64 now,.int .i64 next,.slice sf.a sf.len sf.cap,.slice sb.a sb.len sb.cap].toArray 51 (0,0)
abbrev RBO (p:Nat) (now next:Int) (L:List Bk) (sf sb:Sl) (fs:List FE) (Hs:List HP):List HP:=pts p (Zaw now next sf sb)::Zt 2 sf plT (fs.map ZbE)::Zt 6 sb rkT (L.map rkV)::ZaJ fs::Hs
def Zf3 (p:Nat) (b:ZM):HP:=exs λ sf:Sl=>exs λ sb:Sl=>exs λ fs:List FE=>Zgu [pur ((fs.map λ e=>e.2.2)=b.fl),pts p (Zaw b.now b.next sf sb),Zt 2 sf plT (fs.map ZbE),Zt 6 sb rkT (b.L.map rkV),ZaJ fs]
theorem Sat.rbook {p:Nat} {b:ZM}:Sat R (Zf3 p b::Hs) w↔∃ sf sb fs,(fs.map λ e=>e.2.2)=b.fl/\Sat R (RBO p b.now b.next b.L sf sb fs Hs) w:=by
 unfold Zf3;simp only [Sat.exs];constructor
 ·rintro ⟨sf,sb,fs,h⟩
  obtain ⟨h1,h2⟩:=Sat.pur.1 (Sat.star.1 h);exact ⟨sf,sb,fs,h1,h2⟩
 ·rintro ⟨sf,sb,fs,h1,h2⟩
  exact ⟨sf,sb,fs,Sat.star.2 (Sat.pur.2 ⟨h1,h2⟩)⟩
theorem Zuj {q:Nat} {r:RF} (hw:Sat R Hs w) [tk:Zkk (Zgv q r) Hs Rest]:At (λ w'=>w'=w) (Addr.add ⟨q,0,none⟩ 0) [.int .i64 r.num]:=by
 obtain ⟨sg,sl,s,ts,hl,hs⟩:=Sat.rf.1 (hw.perm tk.perm);have hs:=hs.take (pts q (ZF r sg sl s));rw [Zy];exact At.own (eqS hs) (by exact ⟨rfl,trivial⟩)
theorem ZtN {fs:List FE} {j:Nat} (hj:j<fs.length):∃ f q p,fs[j]=(f,q,p)/\fs=fs.take j++(f,q,p)::fs.drop (j + 1):=by
 refine ⟨fs[j].1,fs[j].2.1,fs[j].2.2,rfl,?_⟩;have h:=List.drop_eq_getElem_cons hj;have h2:=List.take_append_drop j fs;rw [h] at h2;exact h2.symm
theorem ZkN {p:Nat} {now next n:Int} {L:List Bk} {sf sb:Sl} {fs:List FE} (hl:fs.length<=1000000) (hw:Sat R (RBO p now next L sf sb fs Hs) w):
  Zm prog 70 #[.pointer (some ⟨p,0,none⟩),.int .i64 n] w λ v w'=>(∃ i:Int,v=.int .i64 i/\((i=-1/\∀ e∈fs,e.2.2.n≠n)\/∃ k:Nat,i=k/\∃ hk:k<fs.length,fs[k].2.2.n=n))/\Sat R (RBO p now next L sf sb fs Hs) w':=by
 have hlen:=Zt.len (Sat.swap hw);rw [List.length_map] at hlen;apply Zy8;refine ⟨λ i w=>∃ j:Nat,i=j/\j<=fs.length/\(∀ e∈fs.take j,e.2.2.n≠n)/\Sat R (RBO p now next L sf sb fs Hs) w,λ i _=>fs.length - i.toNat,⟨0,rfl,by omega,by simp,hw⟩,?_⟩;clear hw;rintro _ _ w ⟨j,rfl,hj,hn,hw⟩;refine Zc.mk rfl ⟨sf,oA hw,Br.d (λ h=>?_) (λ h=>?_)⟩
 ·have hj2:j<fs.length:=by omega
  obtain ⟨f,q,pl,he,hsp⟩:=ZtN hj2;refine Zc.mk rfl ⟨sf,oA hw,?_⟩;refine (Zt.readsM (n:=2) (s:=sf) (T:=plT) (rows:=fs.map ZbE) hw (eqS hw)).rngM (E:=fs) (g:=ZbE) hj2 λ a _ hr=>?_;refine ⟨some ⟨f,0,none⟩,hr.zz (by rw [he];exact ⟨rfl,trivial⟩),Zc.mk rfl ⟨pl.r.num,?_,?_⟩⟩
  ·have h2:Sat R (ZaJ fs::pts p (Zaw now next sf sb)::Zt 2 sf plT (fs.map ZbE)::Zt 6 sb rkT (L.map rkV)::Hs) w:=hw.arr
   rw [hsp] at h2;exact Zuj (Zgz.1 h2)
  refine Br.e (λ h1=>⟨⟨j,rfl,.inr ⟨j,rfl,hj2,by rw [he];exact h1⟩⟩,hw⟩) (λ h1=>?_);rw [Zh (by omega) (by omega)];refine ⟨⟨j + 1,by omega,by omega,λ e hm=>?_,hw⟩,by dsimp only;omega⟩;rw [List.take_add_one,List.getElem?_eq_getElem hj2] at hm;rcases List.mem_append.1 hm with hm|hm
  ·exact hn e hm
  ·have hm2:e=fs[j]:=by simpa using hm
   rw [hm2,he];exact h1
 ·rw [List.take_of_length_le (by omega)] at hn
  exact ⟨⟨-1,rfl,.inl ⟨rfl,hn⟩⟩,hw⟩
set_option maxHeartbeats 1000000 in
theorem Zp7 {f q:Nat} {p:Pl} {x:Bk} (g:ZaA p.r) (hq:Zya p.q) (hlq:p.q.length<=1000) (hlr:p.r.L.length<=1000000) (hh:Zgn p x) (hw:Sat R (Zgv f p.r::Zaj q p.q::Hs) w):
  Zm prog 154 #[.agg (ZbE (f,q,p)).toArray,.agg (rkV x).toArray] w λ v w'=>v=.bool true/\Sat R (Zgv f p.r::Zaj q p.q::Hs) w':=by
 apply Zxv
 suffices H:∀ K:Value->World->Prop,(∀ w',Sat R (Zgv f p.r::Zaj q p.q::Hs) w'->K (.bool true) w')->B154 (some ⟨f,0,none⟩) (some ⟨q,0,none⟩) x.id x.flt x.cls x.many x.state x.till K w from H _ λ w' h=>⟨rfl,h⟩
 intro K hK;obtain ⟨sg,sl,s,ts,R',e,hr,hw,back,hl⟩:=Sat.rfO hw;have hsl:=hr.len;have hll:sl.len=p.r.lims.length:=by have:=hr.lims.len;rwa [List.length_map] at this
 refine Zb hw λ b2 w hw=>Zb hw λ bx w hw=>?_;have hw:Sat R' (rkC bx x::pts b2 (.cells (ZbE (f,q,p)).toArray plT (0,0))::pts f (ZF p.r sg sl s)::Zaj q p.q::Hs) w:=hw;have fin:∀ {w:World},Sat R' (rkC bx x::pts b2 (.cells (ZbE (f,q,p)).toArray plT (0,0))::pts f (ZF p.r sg sl s)::Zaj q p.q::Hs) w->K (.bool true) w:=λ hw=>
  hK _ (Sat.rf.2 ⟨sg,sl,s,ts,hl,back _ _ hw.drop.drop⟩)
 refine ⟨x.state,oA hw,Br.e (λ h3=>?_) (λ h3=>?_)⟩
 ·have hdef:(∃ w∈p.q,w.id=x.id/\w.cls=x.cls/\w.many=x.many)/\x.cls<p.r.lims.length:=by unfold Zgn at hh;rwa [if_pos h3] at hh
  obtain ⟨⟨y,hy,y1,y2,y3⟩,hc⟩:=hdef;obtain ⟨k,hk,hky⟩:=List.getElem_of_mem hy;refine ⟨λ i w=>∃ j:Nat,i=j/\j<=k/\Sat R' (rkC bx x::pts b2 (.cells (ZbE (f,q,p)).toArray plT (0,0))::pts f (ZF p.r sg sl s)::Zaj q p.q::Hs) w,λ i _=>p.q.length - i.toNat,⟨0,rfl,by omega,hw⟩,?_⟩;clear hw;rintro _ _ w ⟨j,rfl,hj,hw⟩;have hj2:j<p.q.length:=by omega
  have hw:Sat R' (Zaj q p.q::rkC bx x::pts b2 (.cells (ZbE (f,q,p)).toArray plT (0,0))::pts f (ZF p.r sg sl s)::Hs) w:=hw.arr;obtain ⟨sq,hw⟩:=Sat.rqu.1 hw;have hlen:=Zt.len hw.swap;rw [List.length_map] at hlen;refine ⟨some ⟨q,0,none⟩,oA hw,Zc.mk rfl ⟨sq,oA hw,Br.t (by simp;omega) ?_⟩⟩;refine ⟨some ⟨q,0,none⟩,oA hw,Zc.mk rfl ⟨sq,oA hw,?_⟩⟩;refine (Zt.readsM (n:=5) (s:=sq) (T:=waT) (rows:=p.q.map wtV) hw (eqS hw)).rngM (E:=p.q) (g:=wtV) hj2 λ a _ he=>?_;refine ⟨_,_,_,_,_,he.z (by exact ⟨rfl,rfl,rfl,rfl,rfl,trivial⟩),?_⟩;refine Zb hw λ bw w hw=>?_;refine Za hw (by kernel_rfl) rfl (by simp [Value.cells]) λ w hw=>?_;have hw:=hw.re (wtD bw p.q[j]);refine ⟨p.q[j].id,oA hw,x.id,oA hw,Br.e (λ h1=>?_) (λ h1=>?_)⟩
  ·have hjk:j=k:=by
    rcases Nat.lt_or_eq_of_le hj with h|h
    ·have:=List.pairwise_iff_getElem.1 hq j k hj2 hk h
     rw [hky] at this;omega
    ·exact h
   subst hjk;refine Zo hw λ w hw=>?_;refine ⟨p.q[j].cls,oS,x.cls,oS,Br.t (by rw [hky];simpa using y2) ?_⟩;refine ⟨p.q[j].many,oS,x.many,oS,Br.t (by rw [hky];simpa using y3) ?_⟩;refine ⟨x.cls,oS,some ⟨f,0,none⟩,oS,Zc.mk rfl ⟨sl,oS,?_⟩⟩;rw [hll,decide_eq_true hc];refine fin ?_;have hw:Sat R' (pts q (Zav sq)::Zt 5 sq waT (p.q.map wtV)::wtD bw p.q[j]::rkC bx x::pts b2 (.cells (ZbE (f,q,p)).toArray plT (0,0))::pts f (ZF p.r sg sl s)::Hs) w:=hw.arr;have hw:Sat R' (wtD bw p.q[j]::rkC bx x::pts b2 (.cells (ZbE (f,q,p)).toArray plT (0,0))::pts f (ZF p.r sg sl s)::Zaj q p.q::Hs) w:=(Sat.rqu.2 ⟨sq,hw⟩).arr;exact hw.drop
  ·have hjk:j≠k:=by
    rintro rfl;rw [hky] at h1;exact h1 y1
   rw [Zh (by omega) (by omega)];have hw:Sat R' (pts q (Zav sq)::Zt 5 sq waT (p.q.map wtV)::wtD bw p.q[j]::rkC bx x::pts b2 (.cells (ZbE (f,q,p)).toArray plT (0,0))::pts f (ZF p.r sg sl s)::Hs) w:=hw.arr;have hw:Sat R' (wtD bw p.q[j]::rkC bx x::pts b2 (.cells (ZbE (f,q,p)).toArray plT (0,0))::pts f (ZF p.r sg sl s)::Zaj q p.q::Hs) w:=(Sat.rqu.2 ⟨sq,hw⟩).arr;exact ⟨⟨j + 1,by omega,by omega,hw.drop⟩,by dsimp only;omega⟩
 ·have hdef:∃ h∈p.r.L,h.owner=x.id/\h.cls=x.cls/\h.many=x.many:=by unfold Zgn at hh;rwa [if_neg h3] at hh
  obtain ⟨y,hy,y1,y2,y3⟩:=hdef;obtain ⟨k,hk,hky⟩:=List.getElem_of_mem hy;refine ⟨λ i w=>∃ j:Nat,i=j/\j<=k/\Sat R' (rkC bx x::pts b2 (.cells (ZbE (f,q,p)).toArray plT (0,0))::pts f (ZF p.r sg sl s)::Zaj q p.q::Hs) w,λ i _=>p.r.L.length - i.toNat,⟨0,rfl,by omega,hw⟩,?_⟩;clear hw;rintro _ _ w ⟨j,rfl,hj,hw⟩;have hj2:j<p.r.L.length:=by omega
  refine ⟨some ⟨f,0,none⟩,oA hw,Zc.mk rfl ⟨s,oA hw,Br.t (by simp;omega) ?_⟩⟩;refine ⟨some ⟨f,0,none⟩,oA hw,Zc.mk rfl ⟨s,oA hw,?_⟩⟩;refine hr.hs.row (eqS hw) hj2 (by omega) λ a he=>?_;refine ⟨p.r.L[j].owner,p.r.L[j].cls,p.r.L[j].many,ts[j]'(by omega),he,?_⟩;refine Zb hw λ bh w hw=>?_;refine Za hw (by kernel_rfl) rfl (by simp [Value.cells]) λ w hw=>?_;have hw:=hw.re (pts bh (.cells (ZhV p.r.L[j] (ts[j]'(by omega))).toArray 176 (0,0)));refine ⟨p.r.L[j].owner,oA hw,x.id,oA hw,Br.e (λ h1=>?_) (λ h1=>?_)⟩
  ·have hjk:j=k:=by
    rcases Nat.lt_or_eq_of_le hj with h|h
    ·have:=List.pairwise_iff_getElem.1 g.rise j k hj2 hk h
     rw [hky] at this;omega
    ·exact h
   subst hjk;refine ⟨p.r.L[j].cls,oA hw,x.cls,oA hw,Br.t (by rw [hky];simpa using y2) ?_⟩;refine ⟨p.r.L[j].many,oA hw,x.many,oA hw,?_⟩;have h5:=fin hw.drop;have:(p.r.L[j].many==x.many)=true:=by rw [hky];simpa using y3
   rw [this];exact h5
  ·have hjk:j≠k:=by
    rintro rfl;rw [hky] at h1;exact h1 y1
   rw [Zh (by omega) (by omega)];exact ⟨⟨j + 1,by omega,by omega,hw.drop⟩,by dsimp only;omega⟩
end
section
open Go Go.VC Tryz
open Classical
variable {R:Cx} {Hs Rest:List HP} {w:World}
theorem ZyK {fs:List FE} {k:Nat} (hk:k<fs.length):fs=fs.take k++(fs[k].1,fs[k].2.1,fs[k].2.2)::fs.drop (k + 1):=by
 have h:=List.drop_eq_getElem_cons hk;have h2:=List.take_append_drop k fs;rw [h] at h2;exact h2.symm
abbrev RBR (p:Nat) (now next:Int) (L:List Bk) (sf sb:Sl) (fs:List FE) (k:Nat) (Hs:List HP):List HP:=ZaJ (fs.take k++fs.drop (k + 1))::pts p (Zaw now next sf sb)::Zt 2 sf plT (fs.map ZbE)::Zt 6 sb rkT (L.map rkV)::Hs
theorem RBO.fl {p:Nat} {now next:Int} {L:List Bk} {sf sb:Sl} {fs:List FE} {k:Nat} (hk:k<fs.length):Sat R (RBO p now next L sf sb fs Hs) w↔Sat R (Zgv fs[k].1 fs[k].2.2.r::Zaj fs[k].2.1 fs[k].2.2.q::RBR p now next L sf sb fs k Hs) w:=by
 have e:ZaJ fs=ZaJ (fs.take k++(fs[k].1,fs[k].2.1,fs[k].2.2)::fs.drop (k + 1)):=congrArg ZaJ (ZyK hk);constructor
 ·intro hw
  have h2:Sat R (ZaJ fs::pts p (Zaw now next sf sb)::Zt 2 sf plT (fs.map ZbE)::Zt 6 sb rkT (L.map rkV)::Hs) w:=Sat.arr (Hs:=RBO p now next L sf sb fs Hs) hw;rw [e] at h2;exact Zgz.1 h2
 ·intro hw
  have h2:=Zgz.2 hw;rw [<-e] at h2;exact Sat.arr (Hs:=ZaJ fs::pts p (Zaw now next sf sb)::Zt 2 sf plT (fs.map ZbE)::Zt 6 sb rkT (L.map rkV)::Hs) h2
theorem Zux {S:World->Prop} {p:Nat} {now next:Int} {L:List Bk} {sf sb:Sl} {fs:List FE} {k:Nat} (hS:∀ w,S w->Sat R (RBO p now next L sf sb fs Hs) w) (hk:k<fs.length):At S (Addr.add ⟨fs[k].1,0,none⟩ 0) [.int .i64 fs[k].2.2.n]:=
 λ w' hs i v hv=>(Zuj (r:=fs[k].2.2.r) ((RBO.fl hk).1 (hS w' hs))) w' rfl i v hv
theorem RBO.lens {p:Nat} {now next:Int} {L:List Bk} {sf sb:Sl} {fs:List FE} (hw:Sat R (RBO p now next L sf sb fs Hs) w):sf.len=fs.length/\sb.len=L.length:=by
 have h1:=Zt.len (Sat.swap hw);have h2:Sat R (Zt 6 sb rkT (L.map rkV)::pts p (Zaw now next sf sb)::Zt 2 sf plT (fs.map ZbE)::ZaJ fs::Hs) w:=Sat.arr (Hs:=RBO p now next L sf sb fs Hs) hw;have h3:=Zt.len h2;rw [List.length_map] at h1 h3;exact ⟨h1,h3⟩
theorem Zh5 (a b:List Pl):things (a++b)=things a + things b:=by simp [things]
theorem Zn9 (p:Pl):things [p]=p.r.L.length + p.q.length:=by simp [things]
theorem ZpH {fl:List Pl} {j:Nat}:things (fl.take j)<=things fl:=by
 have h:=Zh5 (fl.take j) (fl.drop j);rw [List.take_append_drop] at h;omega
structure BkSm (b:ZM):Prop where
 good:∀ p∈b.fl,ZaA p.r
 qok:∀ p∈b.fl,QOk p.q
 few:b.fl.length<=8
 many:b.L.length<=300
set_option maxHeartbeats 2000000 in
theorem Zp4 {p:Nat} {b:ZM} (hs:BkSm b) (hm:ZuH b) (hw:Sat R (Zf3 p b::Hs) w):
  Zm prog 96 #[.pointer (some ⟨p,0,none⟩)] w λ v w'=>v=.bool true/\Sat R (Zf3 p b::Hs) w':=by
 obtain ⟨sf,sb,fs,hfl,hw⟩:=Sat.rbook.1 hw;obtain ⟨hl1,hl2⟩:=RBO.lens hw;have hn1:=hm.next;have hfn:fs.length=b.fl.length:=by rw [<-hfl,List.length_map]
 have hget:∀ {k:Nat} (hk:k<fs.length),fs[k].2.2∈b.fl:=λ hk=>by rw [<-hfl];exact List.mem_map.2 ⟨_,List.getElem_mem hk,rfl⟩
 have hti:=hm.things;have hfew:=hs.few;have hmany:=hs.many;apply ZyV
 suffices H:∀ K:Value->World->Prop,(∀ w',Sat R (RBO p b.now b.next b.L sf sb fs Hs) w'->K (.bool true) w')->B96 (some ⟨p,0,none⟩) K w from H _ λ w' h=>⟨rfl,Sat.rbook.2 ⟨sf,sb,fs,hfl,h⟩⟩
 intro K hK;refine Zc.mk rfl ⟨b.next,oA hw,Br.f (by simp<;>omega) ?_⟩;refine ⟨λ t i w=>∃ j:Nat,i=j/\j<=fs.length/\t=(things (b.fl.take j):Nat)/\Sat R (RBO p b.now b.next b.L sf sb fs Hs) w,λ _ i _=>fs.length - i.toNat,⟨0,rfl,by omega,rfl,hw⟩,?_⟩;clear hw;rintro _ _ _ w ⟨j,rfl,hj,rfl,hw⟩;refine Zc.mk rfl ⟨sf,oA hw,Br.d (λ h=>?_) (λ h=>?_)⟩
 ·have hj2:j<fs.length:=by omega
  refine ⟨λ w=>Sat R (RBO p b.now b.next b.L sf sb fs Hs) w,?_,?_⟩
  ·refine Zo hw λ w hw=>Br.d (λ h0=>?_) (λ h0=>hw)
   refine Zc.mk rfl ⟨sf,oS,?_⟩;refine (Zt.readsM (n:=2) (s:=sf) (T:=plT) (rows:=fs.map ZbE) hw Zao).rngM (E:=fs) (g:=ZbE) hj2 λ a _ hr=>?_;refine ⟨some ⟨fs[j].1,0,none⟩,hr.zz (by exact ⟨rfl,trivial⟩),Zc.mk rfl ⟨fs[j].2.2.n,Zux Zao hj2,?_⟩⟩;refine Zc.mk rfl ⟨sf,oS,?_⟩;rw [Zh (x:=(j:Int) - 1) (by omega) (by omega),show (j:Int) - 1=((j - 1:Nat):Int) by omega];have hj3:j - 1<fs.length:=by omega
   refine (Zt.readsM (n:=2) (s:=sf) (T:=plT) (rows:=fs.map ZbE) hw Zao).rngM (E:=fs) (g:=ZbE) hj3 λ a _ hr=>?_;refine ⟨some ⟨fs[j - 1].1,0,none⟩,hr.zz (by exact ⟨rfl,trivial⟩),Zc.mk rfl ⟨fs[j - 1].2.2.n,Zux Zao hj3,Br.f ?_ hw⟩⟩;have hr:=hm.nums;unfold Zam at hr;rw [<-hfl,List.pairwise_map] at hr;have:=List.pairwise_iff_getElem.1 hr (j - 1) j hj3 hj2 (by omega);simp;omega
  clear hw;intro _ w hw;have hw:=(RBO.fl hj2).1 hw;have e1:b.fl.take (j + 1)=b.fl.take j++[fs[j].2.2]:=by
   have:b.fl[j]? =some fs[j].2.2:=by rw [<-hfl,List.getElem?_map,List.getElem?_eq_getElem hj2];rfl
   rw [List.take_add_one,this];rfl
  have e2:things (b.fl.take (j + 1))=things (b.fl.take j) + (fs[j].2.2.r.L.length + fs[j].2.2.q.length):=by rw [e1,Zh5,Zn9]
  have e3:=ZpH (fl:=b.fl) (j:=j + 1);have hop:=@RBO.fl R Hs;generalize hpl:fs[j]=pl at hw e2;obtain ⟨f,q,pl⟩:=pl;dsimp only at hw e2;obtain ⟨sg,sl,s,ts,hts,hw⟩:=Sat.rf.1 hw;have hw:Sat R (Zaj q pl.q::RO f pl.r sg sl s ts (RBR p b.now b.next b.L sf sb fs j Hs)) w:=hw.arr;obtain ⟨sq,hw⟩:=Sat.rqu.1 hw;have hlq:=Zt.len hw.swap;rw [List.length_map] at hlq;have hw:Sat R (Zt 4 s 176 (ZbQ pl.r.L ts)::pts f (ZF pl.r sg sl s)::pts q (Zav sq)::Zt 5 sq waT (pl.q.map wtV)::ZA sg (Zd pl.r.grps)::ZA sl (Zd pl.r.lims)::Zbl pl.r.L ts::RBR p b.now b.next b.L sf sb fs j Hs) w:=hw.arr;have hls:=Zt.len hw;rw [Zbs hts] at hls;refine Zo hw λ w hw=>?_;refine Zc.mk rfl ⟨sf,oS,?_⟩;refine (Zt.readsM (n:=2) (s:=sf) (T:=plT) (rows:=fs.map ZbE) hw Zao).rngM (E:=fs) (g:=ZbE) hj2 λ a _ hr=>?_;rw [hpl] at hr;refine ⟨some ⟨f,0,none⟩,hr.zz (by exact ⟨rfl,trivial⟩),Zc.mk rfl ⟨s,oS,?_⟩⟩;refine Zc.mk rfl ⟨sf,oS,?_⟩;refine (Zt.readsM (n:=2) (s:=sf) (T:=plT) (rows:=fs.map ZbE) hw Zao).rngM (E:=fs) (g:=ZbE) hj2 λ a _ hr=>?_;rw [hpl] at hr;refine ⟨some ⟨q,0,none⟩,hr.f 1 (by exact ⟨rfl,trivial⟩),Zc.mk rfl ⟨sq,oS,?_⟩⟩;rw [hls,hlq,Zh (x:=(things (b.fl.take j):Int) + (pl.r.L.length:Int)) (by omega) (by omega),Zh (x:=(things (b.fl.take j):Int) + (pl.r.L.length:Int) + (pl.q.length:Int)) (by omega) (by omega),Zh (x:=(j:Int) + 1) (by omega) (by omega)];refine ⟨⟨j + 1,by omega,by omega,by rw [e2];omega,?_⟩,by dsimp only;omega⟩;have hw:Sat R (pts q (Zav sq)::Zt 5 sq waT (pl.q.map wtV)::RO f pl.r sg sl s ts (RBR p b.now b.next b.L sf sb fs j Hs)) w:=hw.arr;have hw:Sat R (RO f pl.r sg sl s ts (Zaj q pl.q::RBR p b.now b.next b.L sf sb fs j Hs)) w:=(Sat.rqu.2 ⟨sq,hw⟩).arr;have hw:=Sat.rf.2 ⟨sg,sl,s,ts,hts,hw⟩;refine (RBO.fl hj2).2 ?_;rw [hpl];exact hw
 ·have hj2:j=b.fl.length:=by omega
  subst hj2;rw [List.take_length,hti];refine ⟨λ i w=>∃ j:Nat,i=j/\j<=b.L.length/\Sat R (RBO p b.now b.next b.L sf sb fs Hs) w,λ i _=>b.L.length - i.toNat,⟨0,rfl,by omega,hw⟩,?_⟩;clear hw h hj;rintro _ _ w ⟨i,rfl,hi,hw⟩;refine Zc.mk rfl ⟨sb,oA hw,Br.d (λ h=>?_) (λ h=>?_)⟩
  ·have hi2:i<b.L.length:=by omega
   have hx:=hm.each _ (List.getElem_mem hi2);have hid:=hx.id;have hst:=hx.state;refine Zc.mk rfl ⟨sb,oA hw,?_⟩;refine (Zt.readsM (n:=6) (s:=sb) (T:=rkT) (rows:=b.L.map rkV) hw (eqS hw)).rngM (E:=b.L) (g:=rkV) hi2 λ a _ hr=>?_;refine ⟨_,_,_,_,_,_,hr.z (by exact ⟨rfl,rfl,rfl,rfl,rfl,rfl,trivial⟩),?_⟩;refine Zb hw λ bx w hw=>?_;refine Za hw (by kernel_rfl) rfl (by simp [Value.cells]) λ w hw=>?_;have hw:=hw.re (rkC bx b.L[i]);obtain ⟨x,hxe⟩:∃ x,x=b.L[i]:=⟨_,rfl⟩;rw [<-hxe] at hw hx hid hst;have hw:Sat R (RBO p b.now b.next b.L sf sb fs (rkC bx x::Hs)) w:=hw.arr;refine ⟨x.flt,oA hw,?_⟩;refine (ZkN (n:=x.flt) (by omega) hw).use ?_;clear hw;rintro _ w ⟨⟨fi,rfl,hfi⟩,hw⟩;obtain ⟨pl,hpl,hhas⟩:=hx.has;obtain ⟨hp1,hp2⟩:=ZaR hpl;obtain ⟨k,rfl,hk,hkn⟩:∃ k:Nat,fi=k/\∃ hk:k<fs.length,fs[k].2.2.n=x.flt:=by
    rcases hfi with ⟨_,h0⟩|h0
    ·rw [<-hfl] at hp1
     obtain ⟨e,he,rfl⟩:=List.mem_map.1 hp1;exact absurd hp2 (h0 e he)
    ·exact h0
   have hpk:fs[k].2.2=pl:=hm.nums.uniq (hget hk) hp1 (by rw [hp2];exact hkn);have hw:Sat R (rkC bx x::RBO p b.now b.next b.L sf sb fs Hs) w:=hw.arr;refine ⟨k,rfl,λ w=>Sat R (rkC bx x::RBO p b.now b.next b.L sf sb fs Hs) w,?_,?_⟩
   ·refine Zo hw λ w hw=>?_
    refine ⟨x.id,oS,Br.f (by simp<;>omega) ⟨x.id,oS,Zc.mk rfl ⟨b.next,oS,Br.f (by simp<;>omega) (Br.d (λ h0=>?_) (λ h0=>?_))⟩⟩⟩
    ·refine ⟨x.id,oS,Zc.mk rfl ⟨sb,oS,?_⟩⟩
     rw [Zh (x:=(i:Int) - 1) (by omega) (by omega),show (i:Int) - 1=((i - 1:Nat):Int) by omega];have hi3:i - 1<b.L.length:=by omega
     refine (Zt.readsM (n:=6) (s:=sb) (T:=rkT) (rows:=b.L.map rkV) hw Zao).rngM (E:=b.L) (g:=rkV) hi3 λ a _ hr=>?_;refine ⟨b.L[i - 1].id,hr.zz (by exact ⟨rfl,trivial⟩),Br.f ?_ (Br.f (by simp<;>omega) ⟨x.state,oS,Br.f (by simp<;>omega) hw⟩)⟩;have:=List.pairwise_iff_getElem.1 hm.ids (i - 1) i hi3 hi2 (by omega);rw [<-hxe] at this;simp;omega
    ·exact Br.f (by simp<;>omega) ⟨x.state,oS,Br.f (by simp<;>omega) hw⟩
   clear hw;intro _ w hw;refine ⟨λ w=>Sat R (rkC bx x::RBO p b.now b.next b.L sf sb fs Hs) w,?_,?_⟩
   ·refine Zo hw λ w hw=>?_
    refine ⟨x.state,oS,Br.e (λ h1=>?_) (λ h1=>?_)⟩
    ·have:=hx.held h1
     refine ⟨x.till,oS,Zc.mk rfl ⟨b.now,oS,Br.f (by simp<;>omega) ⟨x.state,oS,Br.f (by simp [h1]) hw⟩⟩⟩
    ·have:=hx.free h1
     exact ⟨x.state,oS,Br.t (by simp [h1]) ⟨x.till,oS,Br.f (by simp [this]) hw⟩⟩
   clear hw;intro _ w hw;refine Zo hw λ w hw=>?_;refine Zc.mk rfl ⟨sf,oS,?_⟩;refine (Zt.readsM (n:=2) (s:=sf) (T:=plT) (rows:=fs.map ZbE) hw Zao).rngM (E:=fs) (g:=ZbE) hk λ a _ hr=>?_;refine ⟨some ⟨fs[k].1,0,none⟩,some ⟨fs[k].2.1,0,none⟩,hr.z (by exact ⟨rfl,rfl,trivial⟩),x.id,x.flt,x.cls,x.many,x.state,x.till,At.own Zao (by exact ⟨rfl,rfl,rfl,rfl,rfl,rfl,trivial⟩),?_⟩;have hw2:Sat R (RBO p b.now b.next b.L sf sb fs (rkC bx x::Hs)) w:=hw.arr;have hw2:=(RBO.fl hk).1 hw2;have hgp:=hs.good _ (hget hk);have hqp:=hs.qok _ (hget hk);refine (Zp7 (x:=x) hgp hqp.ids (by have:=hqp.len;omega) (by have:=hgp.len.1;omega) (by rw [hpk];exact hhas) hw2).use ?_;clear hw hw2;rintro _ w ⟨rfl,hw⟩;have hw:=(RBO.fl hk).2 hw;have hw:Sat R (rkC bx x::RBO p b.now b.next b.L sf sb fs Hs) w:=hw.arr;refine ⟨true,rfl,hw,Br.f rfl ?_⟩;rw [Zh (x:=(i:Int) + 1) (by omega) (by omega)];exact ⟨⟨i + 1,by omega,by omega,hw.drop⟩,by dsimp only;omega⟩
  ·have hi2:i=b.L.length:=by omega
   refine Zc.mk rfl ⟨sb,oA hw,?_⟩;rw [hl2];have:=hK w hw;simpa using this
end
section
open Go Go.VC Tryz
open Classical
variable {R:Cx} {Hs Rest:List HP} {w:World}
theorem elPl:ElN prog 48 48 plT 2 16:=⟨underlying48,⟨_,underlying48⟩,by kernel_rfl⟩
theorem elRk:ElN prog 49 49 rkT 6 48:=⟨underlying49,⟨_,underlying49⟩,by kernel_rfl⟩
theorem Core.sm {b:ZM} (k:Core b):BkSm b:=⟨k.good,k.qok,k.few,k.many⟩
set_option maxHeartbeats 4000000 in
theorem ZkY {s:Sl} {b:ZM} (k:Zaz b) (hs:SlR R.m s (b8 (Zba b))) (hw:Sat R Hs w):
  Zm prog 34 #[.slice s.a s.len s.cap] w λ v w'=>∃ p,v=.tuple #[.pointer (some ⟨p,0,none⟩),.int .i64 0]/\Sat R (Zf3 p b::Hs) w':=by
 apply Zzr
 suffices H:∀ K:Value->World->Prop,(∀ p w',Sat R (Zf3 p b::Hs) w'->K (.tuple #[.pointer (some ⟨p,0,none⟩),.int .i64 0]) w')->B34 s K w from H _ λ p w' h=>⟨p,rfl,h⟩
 intro K hK;have c:=k.core;have h1:=c.now;have h2:=c.next;have h3:=c.few;have h4:=c.many;have hb:=ZiV c;have hl:(Zba b).length<=1099511627776:=by have:=ZgX c;omega
 obtain ⟨M4,hM4⟩:∃ x,x=Zv [(b.L.length:Int)]++(b.L.map bkB).flatten:=⟨_,rfl⟩;obtain ⟨M2,hM2⟩:∃ x,x=Zv [(b.fl.length:Int)]++((b.fl.map plB).flatten++M4):=⟨_,rfl⟩;obtain ⟨M1,hM1⟩:∃ x,x=Zv [b.next]++M2:=⟨_,rfl⟩;have e0:Ze 1099511627776 ⟨Zba b,false⟩=(b.now,⟨M1,false⟩):=by
  rw [hM1,hM2,hM4];unfold Zba;exact Zs (by omega) (by omega) (by omega)
 have e1:Ze 28629151 ⟨M1,false⟩=(b.next,⟨M2,false⟩):=by rw [hM1];exact Zs (by omega) (by omega) (by omega)
 have e2:Ze 8 ⟨M2,false⟩=((b.fl.length:Int),⟨(b.fl.map plB).flatten++M4,false⟩):=by rw [hM2];exact Zs (by omega) (by omega) (by omega)
 have e3:Ze 300 ⟨M4,false⟩=((b.L.length:Int),⟨(b.L.map bkB).flatten,false⟩):=by rw [hM4];exact Zs (by omega) (by omega) (by omega)
 clear hM1 hM2 hM4;generalize Zba b=bs at *;refine Zb hw λ br w hw=>?_;have hw:Sat R (pts br (Z6 s 0 false)::Hs) w:=hw;have hw:Sat R (ZT br s bs ⟨bs,false⟩::Hs) w:=Sat.rrd.2 ⟨0,⟨by omega,rfl⟩,hw⟩;refine (ZG hl hb hs hw).use ?_;clear hw;rintro _ w ⟨rfl,hw⟩;rw [e0] at hw ⊢;refine ⟨_,rfl,?_⟩;refine (ZG hl hb hs hw).use ?_;clear hw;rintro _ w ⟨rfl,hw⟩;rw [e1] at hw ⊢;refine ⟨_,rfl,?_⟩;dsimp only at hw ⊢;rw [Zh (x:=b.now) (by omega) (by omega),Zh (x:=b.next) (by omega) (by omega)];refine Zb hw λ p w hw=>?_;have hw:Sat R (ZT br s bs ⟨M2,false⟩::pts p (Zaw b.now b.next ⟨none,0,0⟩ ⟨none,0,0⟩)::Hs) w:=hw.swap;refine (ZG hl hb hs hw).use ?_;clear hw;rintro _ w ⟨rfl,hw⟩;rw [e2] at hw ⊢;refine ⟨_,rfl,?_⟩;dsimp only at hw ⊢;have hw:Sat R (ZT br s bs ⟨(b.fl.map plB).flatten++M4,false⟩::RBO p b.now b.next [] ⟨none,0,0⟩ ⟨none,0,0⟩ [] Hs) w:=by
  have a1:=Zt.nil (n:=2) (T:=plT) hw;have a2:=Zt.nil (n:=6) (T:=rkT) a1;have a3:Sat R (ZaJ []::Zt 6 ⟨none,0,0⟩ rkT []::Zt 2 ⟨none,0,0⟩ plT []::ZT br s bs ⟨(b.fl.map plB).flatten++M4,false⟩::pts p (Zaw b.now b.next ⟨none,0,0⟩ ⟨none,0,0⟩)::Hs) w:=by
   unfold ZaJ;exact Sat.star.2 a2
  have a4:Sat R (ZT br s bs ⟨(b.fl.map plB).flatten++M4,false⟩::pts p (Zaw b.now b.next ⟨none,0,0⟩ ⟨none,0,0⟩)::Zt 2 ⟨none,0,0⟩ plT []::Zt 6 ⟨none,0,0⟩ rkT []::ZaJ []::Hs) w:=a3.arr;exact a4
 refine ⟨λ i w=>∃ (j:Nat) (fs:List FE) (sf:Sl),i=j/\j<=b.fl.length/\(fs.map λ e=>e.2.2)=b.fl.take j/\Sat R (ZT br s bs ⟨((b.fl.drop j).map plB).flatten++M4,false⟩::RBO p b.now b.next [] sf ⟨none,0,0⟩ fs Hs) w,λ i _=>b.fl.length - i.toNat,⟨0,[],⟨none,0,0⟩,rfl,by omega,rfl,hw⟩,?_⟩;clear hw;rintro _ _ w ⟨j,fs,sf,rfl,hj,hfs,hw⟩;have hfn:fs.length=j:=by
  have:=congrArg List.length hfs;rw [List.length_map,List.length_take] at this;omega
 refine Br.d (λ h=>?_) (λ h=>?_)
 ·have hj2:j<b.fl.length:=by omega
  have hg:=c.good _ (List.getElem_mem hj2);have hq:=c.qok _ (List.getElem_mem hj2);have htk:b.fl.take (j + 1)=b.fl.take j++[b.fl[j]]:=by rw [List.take_add_one,List.getElem?_eq_getElem hj2];rfl
  rw [List.drop_eq_getElem_cons hj2,List.map_cons,List.flatten_cons] at hw;generalize b.fl[j]=pl at *;generalize hmore:((b.fl.drop (j + 1)).map plB).flatten=more at hw;unfold plB at hw;simp only [List.append_assoc] at hw;have t1:=ZcV hg;have t2:=Zk5 hq;refine (ZgZ (most:=65536) (by omega) hl hb hs hw).use ?_;clear hw;rintro _ w ⟨u1,rfl,hw⟩;rw [Zdc (by omega) (by omega)] at hw;dsimp only at hw;refine ⟨u1,rfl,?_⟩;obtain ⟨R1,x1,g1,hw⟩:=Own.leak hw;have hd:=ZnQ hg;unfold ZsD at hd;split at hd
  case isFalse=>cases hd
  rename_i hcond;have hrf:=Option.some.inj hd;refine (Zji (ZiW hg) g1 (by omega) hw).use ?_;clear hw;rintro _ w (⟨hno,_,_⟩|⟨_,_,f,rfl,hw⟩)
  ·exact absurd hcond hno
  rw [hrf] at hw;refine ⟨_,_,rfl,?_⟩;refine (ZgZ (most:=65536) (by omega) hl hb (x1.slR hs) hw.swap).use ?_;clear hw;rintro _ w ⟨u2,rfl,hw⟩;rw [Zdc (by omega) (by omega)] at hw;dsimp only at hw;refine ⟨u2,rfl,?_⟩;obtain ⟨R2,x2,g2,hw⟩:=Own.leak hw;refine (Zjb hq (Zr2 hq) (by omega) g2 hw).use ?_;clear hw;rintro _ w ⟨q,rfl,hw⟩;refine ⟨_,_,rfl,?_⟩;have hw:=x1.back (x2.back hw);have hw:Sat R (ZT br s bs ⟨more++M4,false⟩::Zgv f pl.r::Zaj q pl.q::RBO p b.now b.next [] sf ⟨none,0,0⟩ fs Hs) w:=hw.arr;refine ⟨λ w=>Sat R (ZT br s bs ⟨more++M4,false⟩::Zgv f pl.r::Zaj q pl.q::RBO p b.now b.next [] sf ⟨none,0,0⟩ fs Hs) w,?_,?_⟩
  ·obtain ⟨nn,hnn,hw2⟩:=Sat.rrd.1 hw
   exact ⟨false,At.own (eqS hw2) (by exact ⟨rfl,trivial⟩),Br.f rfl (Br.f rfl (Br.f rfl hw))⟩
  clear hw;intro _ w hw;refine ⟨sf,oA hw,?_⟩;refine Zb hw λ bp w hw=>?_;have hw:Sat R (pts bp (.cells (ZbE (f,q,pl)).toArray plT (0,0))::ZT br s bs ⟨more++M4,false⟩::Zgv f pl.r::Zaj q pl.q::RBO p b.now b.next [] sf ⟨none,0,0⟩ fs Hs) w:=hw;have hw:Sat R (Zt 2 sf plT (fs.map ZbE)::pts bp (.cells (ZbE (f,q,pl)).toArray plT (0,0))::ZT br s bs ⟨more++M4,false⟩::Zgv f pl.r::Zaj q pl.q::pts p (Zaw b.now b.next sf ⟨none,0,0⟩)::Zt 6 ⟨none,0,0⟩ rkT (([]:List Bk).map rkV)::ZaJ fs::Hs) w:=hw.arr;refine Za1 (ys:=[ZbE (f,q,pl)]) elPl hw (Zfq ⟨_,underlying48⟩ (b:=bp) 1 hw rfl rfl) (Wid.one rfl) (by rw [List.length_singleton,List.length_map];omega) (by rw [List.length_singleton,List.length_map];omega) λ s2 w hw=>?_;have hw:Sat R (pts p (Zaw b.now b.next sf ⟨none,0,0⟩)::pts bp (.cells (ZbE (f,q,pl)).toArray plT (0,0))::Zt 2 s2 plT (fs.map ZbE++[ZbE (f,q,pl)])::ZT br s bs ⟨more++M4,false⟩::Zgv f pl.r::Zaj q pl.q::Zt 6 ⟨none,0,0⟩ rkT (([]:List Bk).map rkV)::ZaJ fs::Hs) w:=hw.arr;refine Za hw (by kernel_rfl) rfl (by simp [Value.cells]) λ w hw=>?_;have hw:=hw.re (pts p (Zaw b.now b.next s2 ⟨none,0,0⟩));rw [ZK (by omega) (by omega)];refine ⟨⟨j + 1,fs++[(f,q,pl)],s2,by omega,by omega,by rw [List.map_append,hfs,htk];rfl,?_⟩,by dsimp only;omega⟩;have e5:fs.map ZbE++[ZbE (f,q,pl)]=(fs++[(f,q,pl)]).map ZbE:=by rw [List.map_append];rfl
  rw [e5] at hw;have hw:Sat R (Zgv f pl.r::Zaj q pl.q::ZaJ fs::pts bp (.cells (ZbE (f,q,pl)).toArray plT (0,0))::ZT br s bs ⟨more++M4,false⟩::pts p (Zaw b.now b.next s2 ⟨none,0,0⟩)::Zt 2 s2 plT ((fs++[(f,q,pl)]).map ZbE)::Zt 6 ⟨none,0,0⟩ rkT (([]:List Bk).map rkV)::Hs) w:=hw.arr;have e6:ZaJ fs=ZaJ (fs++[]):=by rw [List.append_nil]
  rw [e6] at hw;have hw:=Zgz.2 hw;have hw:Sat R (pts bp (.cells (ZbE (f,q,pl)).toArray plT (0,0))::ZT br s bs ⟨more++M4,false⟩::RBO p b.now b.next [] s2 ⟨none,0,0⟩ (fs++[(f,q,pl)]) Hs) w:=hw.arr;rw [hmore];exact hw.drop
 ·have hj2:j=b.fl.length:=by omega
  subst hj2;rw [List.take_length] at hfs;rw [List.drop_length] at hw;have hw:Sat R (ZT br s bs ⟨M4,false⟩::RBO p b.now b.next [] sf ⟨none,0,0⟩ fs Hs) w:=hw;refine (ZG hl hb hs hw).use ?_;clear hw;rintro _ w ⟨rfl,hw⟩;rw [e3] at hw ⊢;refine ⟨_,rfl,?_⟩;dsimp only at hw ⊢;refine ⟨λ i w=>∃ (j:Nat) (sb:Sl),i=j/\j<=b.L.length/\Sat R (ZT br s bs ⟨((b.L.drop j).map bkB).flatten,false⟩::RBO p b.now b.next (b.L.take j) sf sb fs Hs) w,λ i _=>b.L.length - i.toNat,⟨0,⟨none,0,0⟩,rfl,by omega,hw⟩,?_⟩;clear hw h hj;rintro _ _ w ⟨j,sb,rfl,hj,hw⟩;refine Br.d (λ h=>?_) (λ h=>?_)
  ·have hj2:j<b.L.length:=by omega
   have hx:=c.each _ (List.getElem_mem hj2);have htk:b.L.take (j + 1)=b.L.take j++[b.L[j]]:=by rw [List.take_add_one,List.getElem?_eq_getElem hj2];rfl
   rw [List.drop_eq_getElem_cons hj2,List.map_cons,List.flatten_cons] at hw;generalize b.L[j]=x at *;have y1:=hx.id;have y2:=hx.flt;have y3:=hx.cls;have y4:=hx.many;have y5:=hx.state;have y6:=hx.till;generalize hmore:((b.L.drop (j + 1)).map bkB).flatten=more at hw;unfold bkB at hw;simp only [List.append_assoc] at hw;refine (ZG (most:=28629151) hl hb hs hw).use ?_;clear hw;rintro _ w ⟨rfl,hw⟩;rw [Zs (by omega) (by omega) (by omega)] at hw ⊢;refine ⟨_,rfl,?_⟩;refine (ZG (most:=9999) hl hb hs hw).use ?_;clear hw;rintro _ w ⟨rfl,hw⟩;dsimp only at hw ⊢;rw [Zs (by omega) (by omega) (by omega)] at hw ⊢;refine ⟨_,rfl,?_⟩;refine (ZG (most:=9999) hl hb hs hw).use ?_;clear hw;rintro _ w ⟨rfl,hw⟩;dsimp only at hw ⊢;rw [Zs (by omega) (by omega) (by omega)] at hw ⊢;refine ⟨_,rfl,?_⟩;refine (ZG (most:=9999) hl hb hs hw).use ?_;clear hw;rintro _ w ⟨rfl,hw⟩;dsimp only at hw ⊢;rw [Zs (by omega) (by omega) (by omega)] at hw ⊢;refine ⟨_,rfl,?_⟩;dsimp only at hw ⊢;refine Zb hw λ bx w hw=>?_;refine Za hw (by kernel_rfl) rfl (by simp [Value.cells]) λ w hw=>?_;rw [Zh (x:=x.id) (by omega) (by omega),Zh (x:=x.flt) (by omega) (by omega),Zh (x:=x.cls) (by omega) (by omega),Zh (x:=x.many) (by omega) (by omega)] at hw;have hw:=hw.re (rkC bx { x with state:=0,till:=0 });refine (ZG (most:=3) hl hb hs hw.swap).use ?_;clear hw;rintro _ w ⟨rfl,hw⟩;rw [Zs (by omega) (by omega) (by omega)] at hw ⊢;refine ⟨_,rfl,?_⟩;dsimp only at hw ⊢;rw [Zh (x:=x.state) (by omega) (by omega)];have hw:=hw.swap;refine Za hw (by kernel_rfl) rfl (by simp [Value.cells,rkV]) λ w hw=>?_;have hw:=hw.re (rkC bx { x with till:=0 });refine (ZG (most:=1099511627776) hl hb hs hw.swap).use ?_;clear hw;rintro _ w ⟨rfl,hw⟩;rw [Zs (by omega) (by omega) (by omega)] at hw ⊢;refine ⟨_,rfl,?_⟩;dsimp only at hw ⊢;rw [Zh (x:=x.till) (by omega) (by omega)];have hw:=hw.swap;refine Za hw (by kernel_rfl) rfl (by simp [Value.cells,rkV]) λ w hw=>?_;have hw:=hw.re (rkC bx x);have hw:Sat R (pts p (Zaw b.now b.next sf sb)::rkC bx x::ZT br s bs ⟨more,false⟩::Zt 2 sf plT (fs.map ZbE)::Zt 6 sb rkT ((b.L.take j).map rkV)::ZaJ fs::Hs) w:=hw.arr;have sx:∀ {Hs':List HP} {w},Sat R (pts p (Zaw b.now b.next sf sb)::rkC bx x::Hs') w->Sat R [pts p (Zaw b.now b.next sf sb),rkC bx x,VC.tru] w:=λ hw=>hw.cons λ _ h=>h.restTru2;refine ZE (Sat R [pts p (Zaw b.now b.next sf sb),rkC bx x,VC.tru]) hw (λ w hw=>sx hw) λ w hw=>?_;refine ⟨sb,oS,x.id,x.flt,x.cls,x.many,x.state,x.till,At.own Zao (by exact ⟨rfl,rfl,rfl,rfl,rfl,rfl,trivial⟩),?_⟩;have hw:=hw.take (Zt 6 sb rkT ((b.L.take j).map rkV));refine Zb hw λ b67 w hw=>?_;have hw:Sat R (Zt 6 sb rkT ((b.L.take j).map rkV)::rkC b67 x::pts p (Zaw b.now b.next sf sb)::rkC bx x::ZT br s bs ⟨more,false⟩::Zt 2 sf plT (fs.map ZbE)::ZaJ fs::Hs) w:=hw.swap;refine ⟨(hw.arr:Sat R (pts p (Zaw b.now b.next sf sb)::rkC bx x::rkC b67 x::Zt 6 sb rkT ((b.L.take j).map rkV)::ZT br s bs ⟨more,false⟩::Zt 2 sf plT (fs.map ZbE)::ZaJ fs::Hs) w)|>sx,?_⟩;refine Za1 (ys:=[rkV x]) elRk hw (Zfq ⟨_,underlying49⟩ (b:=b67) 1 hw rfl rfl) (Wid.one rfl) (by rw [List.length_singleton,List.length_map,List.length_take];omega) (by rw [List.length_singleton,List.length_map,List.length_take];omega) λ s2 w hw=>?_;have hw:Sat R (pts p (Zaw b.now b.next sf sb)::rkC bx x::rkC b67 x::Zt 6 s2 rkT ((b.L.take j).map rkV++[rkV x])::ZT br s bs ⟨more,false⟩::Zt 2 sf plT (fs.map ZbE)::ZaJ fs::Hs) w:=hw.arr;refine ⟨sx hw,?_⟩;refine Za hw (by kernel_rfl) rfl (by simp [Value.cells]) λ w hw=>?_;have hw:=hw.re (pts p (Zaw b.now b.next sf s2));rw [ZK (by omega) (by omega)];refine ⟨⟨j + 1,s2,by omega,by omega,?_⟩,by omega⟩;have e5:(b.L.take j).map rkV++[rkV x]=(b.L.take (j + 1)).map rkV:=by rw [htk,List.map_append];rfl
   rw [e5] at hw;have hw:Sat R (rkC bx x::rkC b67 x::ZT br s bs ⟨more,false⟩::RBO p b.now b.next (b.L.take (j + 1)) sf s2 fs Hs) w:=hw.arr;rw [hmore];exact hw.drop.drop
  ·have hj2:j=b.L.length:=by omega
   subst hj2;rw [List.drop_length,List.take_length] at hw;refine (Zdt hs hw).use ?_;clear hw;rintro _ w ⟨rfl,hw⟩;have hw:=hw.drop;have hw:=Sat.rbook.2 ⟨sf,sb,fs,hfs,hw⟩;refine ⟨_,rfl,Br.t rfl ?_⟩;refine (Zp4 c.sm (Zur k) hw).use ?_;clear hw;rintro _ w ⟨rfl,hw⟩;exact ⟨_,rfl,Br.f rfl (hK _ _ hw)⟩
end
section
open Go Go.VC Tryz
open Classical
variable {R:Cx} {Hs Rest:List HP} {w:World}
theorem Sat.two {A B:HP} {R1 R2:List HP} (hw:Sat R Hs w) [a:Zkk A Hs R1] [b:Zkk B R1 R2]:Sat R [A,B,VC.tru] w:=
 (hw.perm a.perm).cons λ _ h=>(h.perm b.perm).restTru2
theorem Zlk {f:Nat} {r:RF} (g:ZaA r) (hw:Sat R (Zgv f r::Hs) w):
  Zm prog 36 #[.pointer (some ⟨f,0,none⟩)] w λ v w'=>∃ t:Sl,v=.slice t.a t.len t.cap/\Sat R (Own t 3 (Zd (Zn r))::Zgv f r::Hs) w':=
 Zl7 (by have:=g.len.1;omega) (by have:=Zcs g;omega) g.hcls hw
theorem ZfV {Rest2:List HP} {q:Nat} {l:List Wt} {t:Sl} {left:List Int} (hq:QOk l) (hn:Zai l left=none) (hl:left.length<=1000) (hw:Sat R Hs w) [tk:Zkk (Own t 3 (Zd left)) Hs Rest] [tk2:Zkk (Zaj q l) Rest Rest2]:
  Zm prog 35 #[.pointer (some ⟨q,0,none⟩),.slice t.a t.len t.cap] w λ v w'=>v=.tuple #[.agg #[.int .i64 0,.int .i64 0,.int .i64 0,.int .i64 0,.float .f64 0],.bool false]/\Sat R (Zaj q l::Rest2) w':=by
 obtain ⟨R1,e1,g1,hw⟩:=Own.leak (hw.perm tk.perm);refine (ZkH hq (g1.ro (by rw [List.length_map];omega)) (hw.perm tk2.perm)).mono ?_;rintro _ w ⟨rfl,hw⟩;rw [hn];exact ⟨rfl,e1.back hw⟩
set_option maxHeartbeats 2000000 in
theorem ZlK {l:Sl} {cs:List CmS} (hr:ZA2 R l cs) (hw:Sat R Hs w):Zm prog 10 #[.slice l.a l.len l.cap] w λ v w'=>v=.bool true/\Sat R Hs w':=by
 have hlen:=hr.rows.len;rw [List.length_map] at hlen;apply Zzx
 suffices H:∀ K:Value->World->Prop,(∀ w',Sat R Hs w'->K (.bool true) w')->B10 l K w from H _ λ w' h=>⟨rfl,h⟩
 intro K hK;refine (Zsn hw).use ?_;clear hw;rintro _ w ⟨rfl,hw⟩;refine ⟨_,rfl,?_⟩;refine (ZqU (cs:=cs) (λ S hS=>hr.rows.reads hS) hw).use ?_;clear hw;rintro _ w ⟨bm,rfl,hm,hw⟩;refine ⟨_,rfl,λ w=>bm=false/\Sat R Hs w,Br.f rfl (Br.mk (λ _=>hK _ hw) (λ h1=>⟨h1,hw⟩)),?_⟩;clear hw;rintro _ w ⟨rfl,hw⟩;have hm:=hm rfl;refine (ZhM hw).use ?_;clear hw;rintro _ w ⟨p,rfl,hw⟩;refine ⟨_,rfl,?_⟩;refine ⟨λ i w=>∃ (k:Nat) (b:ZM),i=k/\k<=120/\Zaz b/\Sat R (Zp p b::Hs) w,λ i _=>120 - i.toNat,⟨0,_,rfl,by omega,Zyx,hw⟩,?_⟩;clear hw;rintro _ _ w ⟨k,b,rfl,hk,ok,hw⟩;refine ⟨λ w=>(k<120/\k<cs.length)/\Sat R (Zp p b::Hs) w,?_,?_⟩
 ·with_reducible refine Br.d (λ h=>?_) (λ _=>hK _ hw.drop)
  with_reducible refine Br.d (λ h2=>?_) (λ _=>hK _ hw.drop)
  exact ⟨⟨by omega,by omega⟩,hw⟩
 clear hw;rintro _ w ⟨⟨hk2,hkl⟩,hw⟩;have hS:=hr.rows.reads (eqS hw);refine hS.rngM hkl λ a _ el=>⟨cs[k].1.kind,cs[k].1.pnr,cs[k].1.flt,cs[k].1.cls,cs[k].1.many,cs[k].1.time,cs[k].1.sc,cs[k].1.lab,cs[k].1.rows,cs[k].2.1,cs[k].2.2,el.z (by exact ⟨rfl,rfl,rfl,rfl,rfl,rfl,rfl,rfl,rfl,rfl,rfl,trivial⟩),?_⟩;refine (ZzA hr hm (by omega) hkl ok hw).use ?_;clear hw hS ok;rintro _ w ⟨sl,sb,rfl,ok,hw⟩;have hw:=hw.drop.drop;obtain ⟨b2,hb2⟩:∃ x,x=(Zak b cs[k].1).1:=⟨_,rfl⟩;rw [<-hb2] at hw ok;refine ⟨_,_,_,_,_,_,_,_,sb,rfl,?_⟩;clear hb2;have hsl:=ZgX ok.core;refine (ZiX ok.core hw).use ?_;clear hw;rintro _ w ⟨t1,rfl,hw⟩;refine ⟨t1,rfl,?_⟩;have hcap:=Own.cap hw;obtain ⟨R1,g1,_,hw,back⟩:=Own.lend hw (by rw [List.length_map];omega);refine (ZkY ok ⟨g1.len,hcap,g1.mem⟩ hw).use ?_;clear hw;rintro _ w ⟨p2,rfl,hw⟩;have hw:=back hw;have hw:=hw.swap;obtain ⟨sf,sb2,fs,hfs,hw⟩:=Sat.rbook.1 hw;refine ⟨_,_,rfl,Br.f rfl ?_⟩;obtain ⟨hl1,hl2⟩:=RBO.lens hw;have hfn:fs.length=b2.fl.length:=by rw [<-hfs,List.length_map]
 have hfew:=ok.core.few;have hget:∀ {k:Nat} (hk:k<fs.length),fs[k].2.2∈b2.fl:=λ hk=>by rw [<-hfs];exact List.mem_map.2 ⟨_,List.getElem_mem hk,rfl⟩
 have hw:Sat R (RBO p2 b2.now b2.next b2.L sf sb2 fs (Own t1 5 (b8 (Zba b2))::Zp p b2::Hs)) w:=hw;refine ⟨λ i w=>∃ j:Nat,i=j/\j<=fs.length/\Sat R (RBO p2 b2.now b2.next b2.L sf sb2 fs (Own t1 5 (b8 (Zba b2))::Zp p b2::Hs)) w,λ i _=>fs.length - i.toNat,⟨0,rfl,by omega,hw⟩,?_⟩;clear hw;rintro _ _ w ⟨j,rfl,hj,hw⟩;refine Zc.mk rfl ⟨sf,oA hw,Br.d (λ h=>?_) (λ h=>?_)⟩
 ·have hj2:j<fs.length:=by omega
  have hg:=ok.core.good _ (hget hj2);have hq:=ok.core.qok _ (hget hj2);have hnf:Zai fs[j].2.2.q (Zn fs[j].2.2.r)=none:=ok.nofit _ (hget hj2);have hll:=(Znu hg).1;have hw:=(RBO.fl hj2).1 hw;obtain ⟨S,hSd⟩:∃ S:World->Prop,S=Sat R [pts p2 (Zaw b2.now b2.next sf sb2),Zt 2 sf plT (fs.map ZbE),VC.tru]:=⟨_,rfl⟩;have hSS:∀ w,S w->Sat R [pts p2 (Zaw b2.now b2.next sf sb2),Zt 2 sf plT (fs.map ZbE),VC.tru] w:=λ w h=>by rw [<-hSd];exact h
  refine ZE S hw (λ w hw=>by rw [hSd];exact Sat.two hw) λ w hw=>?_;refine Zc.mk rfl ⟨sf,At.own hSS (by exact ⟨rfl,trivial⟩),?_⟩;refine (Zt.readsM (n:=2) (s:=sf) (T:=plT) (rows:=fs.map ZbE) (Sat.two hw:Sat R [pts p2 (Zaw b2.now b2.next sf sb2),Zt 2 sf plT (fs.map ZbE),VC.tru] w) hSS).rngM (E:=fs) (g:=ZbE) hj2 λ a _ hr1=>?_;refine ⟨some ⟨fs[j].2.1,0,none⟩,hr1.f 1 (by exact ⟨rfl,trivial⟩),Zc.mk rfl ⟨sf,At.own hSS (by exact ⟨rfl,trivial⟩),?_⟩⟩;refine (Zt.readsM (n:=2) (s:=sf) (T:=plT) (rows:=fs.map ZbE) (Sat.two hw:Sat R [pts p2 (Zaw b2.now b2.next sf sb2),Zt 2 sf plT (fs.map ZbE),VC.tru] w) hSS).rngM (E:=fs) (g:=ZbE) hj2 λ a _ hr2=>?_;refine ⟨some ⟨fs[j].1,0,none⟩,hr2.zz (by exact ⟨rfl,trivial⟩),?_⟩;have w1:IntKind.i64.wrap ((j:Int) + 1)=(j:Int) + 1:=Zh (by omega) (by omega);have fin:∀ {w:World} {t:Nat},Sat R (pts t (.cells (wtV Zah).toArray waT (0,0))::Zgv fs[j].1 fs[j].2.2.r::Zaj fs[j].2.1 fs[j].2.2.q::RBR p2 b2.now b2.next b2.L sf sb2 fs j (Own t1 5 (b8 (Zba b2))::Zp p b2::Hs)) w->
    (∃ j':Nat,IntKind.i64.wrap ((j:Int) + 1)=j'/\j'<=fs.length/\Sat R (RBO p2 b2.now b2.next b2.L sf sb2 fs (Own t1 5 (b8 (Zba b2))::Zp p b2::Hs)) w)/\fs.length - (IntKind.i64.wrap ((j:Int) + 1)).toNat<fs.length - (j:Int).toNat:=λ {w t} hw=>by
   rw [w1];exact ⟨⟨j + 1,by omega,by omega,(RBO.fl hj2).2 hw.drop⟩,by omega⟩
  have hSw:∀ {w:World} {Hs' R1 R2:List HP} [Zkk (pts p2 (Zaw b2.now b2.next sf sb2)) Hs' R1] [Zkk (Zt 2 sf plT (fs.map ZbE)) R1 R2],Sat R Hs' w->S w:=λ {w Hs' R1 R2 _ _} hw=>by rw [hSd];exact Sat.two hw
  refine ⟨?_,?_⟩
  ·refine (Zlk hg hw).use ?_
   clear hw hr1 hr2;rintro _ w ⟨t,rfl,hw⟩;refine ⟨t,rfl,hSw hw,?_,?_⟩
   ·refine (ZfV hq hnf (by omega) hw).use ?_
    clear hw;rintro _ w ⟨rfl,hw⟩;refine ⟨_,_,_,_,_,_,rfl,hSw hw,?_⟩;refine Zb hw λ bt w hw=>?_;refine ⟨hSw hw,?_⟩;refine Za hw (by kernel_rfl) rfl (by simp [Value.cells]) λ w hw=>Br.f rfl ?_;have hw:=hw.re (pts bt (.cells (wtV Zah).toArray waT (0,0)));exact fin (t:=bt) hw.arr
   ·refine Zb hw λ bt w hw=>?_
    refine ⟨hSw hw,?_⟩;have hw:=hw.re (pts bt (.cells (wtV Zah).toArray waT (0,0)));refine (ZfV hq hnf (by omega) hw).use ?_;clear hw;rintro _ w ⟨rfl,hw⟩;refine ⟨_,_,_,_,_,_,rfl,hSw hw,?_⟩;have hw:=hw.swap;refine Za hw (by kernel_rfl) rfl (by simp [Value.cells,wtV]) λ w hw=>Br.f rfl ?_;have hw:=hw.re (pts bt (.cells (wtV Zah).toArray waT (0,0)));exact fin (t:=bt) hw.arr
  ·refine Zb hw λ bt w hw=>?_
   refine ⟨hSw hw,?_⟩;have hw:=hw.re (pts bt (.cells (wtV Zah).toArray waT (0,0)));refine (Zlk hg hw.swap).use ?_;clear hw hr1 hr2;rintro _ w ⟨t,rfl,hw⟩;refine ⟨t,rfl,hSw hw,?_⟩;refine (ZfV hq hnf (by omega) hw).use ?_;clear hw;rintro _ w ⟨rfl,hw⟩;refine ⟨_,_,_,_,_,_,rfl,hSw hw,?_⟩;have hw:Sat R (pts bt (.cells (wtV Zah).toArray waT (0,0))::Zgv fs[j].1 fs[j].2.2.r::Zaj fs[j].2.1 fs[j].2.2.q::RBR p2 b2.now b2.next b2.L sf sb2 fs j (Own t1 5 (b8 (Zba b2))::Zp p b2::Hs)) w:=hw.arr;refine Za hw (by kernel_rfl) rfl (by simp [Value.cells,wtV]) λ w hw=>Br.f rfl ?_;have hw:=hw.re (pts bt (.cells (wtV Zah).toArray waT (0,0)));exact fin hw
 ·have hw:Sat R (Own t1 5 (b8 (Zba b2))::Zp p b2::RBO p2 b2.now b2.next b2.L sf sb2 fs Hs) w:=Sat.arr (Hs:=RBO p2 b2.now b2.next b2.L sf sb2 fs (Own t1 5 (b8 (Zba b2))::Zp p b2::Hs)) hw
  refine (ZoK ok hw).use ?_;clear hw;rintro _ w ⟨p3,rfl,hw⟩;refine ⟨_,_,rfl,?_⟩;have hw:=hw.swap;refine ZE (Sat R [Own t1 5 (b8 (Zba b2)),VC.tru]) hw (λ w hw=>hw.restTru2) λ w hw=>Br.f rfl (Br.f rfl ?_);refine ⟨VC.strOf (Zba b2),λ w' hs=>Zj4 (t:=t1) (T:=5) (bs:=Zba b2) (by omega) hs w' rfl,?_⟩;refine (ZiX ok.core hw.swap).use ?_;clear hw;rintro _ w ⟨u1,rfl,hw⟩;refine ⟨u1,rfl,(hw.take (Own t1 5 (b8 (Zba b2)))).restTru2,VC.strOf (Zba b2),Zj4 (t:=u1) (T:=5) (bs:=Zba b2) (by omega) hw,?_⟩;rw [beq_self_eq_true];refine Br.f rfl ?_;rw [Zh (x:=(k:Int) + 1) (by omega) (by omega)];have hw:Sat R (Own u1 5 (b8 (Zba b2))::Zp p3 b2::Own t1 5 (b8 (Zba b2))::pts p2 (Zaw b2.now b2.next sf sb2)::Zt 2 sf plT (fs.map ZbE)::Zt 6 sb2 rkT (b2.L.map rkV)::ZaJ fs::Zp p b2::Hs) w:=hw.arr;exact ⟨⟨k + 1,b2,by omega,by omega,ok,hw.drop.drop.drop.drop.drop.drop.drop⟩,by dsimp only;omega⟩
end
end Go.Proofs.YtfgbbckfikiomaaGreatDoor
