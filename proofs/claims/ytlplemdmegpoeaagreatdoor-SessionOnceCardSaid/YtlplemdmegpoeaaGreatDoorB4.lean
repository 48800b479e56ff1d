/- Reference 15: list, may, Decode. Condition: bounds. -/
import Derived.Test.YtlplemdmegpoeaaGreatDoorB3
import Derived.Test.YtlplemdmegpoeaaGreatDoorB2
set_option linter.unusedVariables false
set_option linter.unusedSimpArgs false
set_option maxHeartbeats 8000000
namespace Go.Proofs.YtlplemdmegpoeaaGreatDoor
section
open Go Go.VC Tryz
variable {R R':Cx} {Hs Rest:List HP} {w:World}
def Zdj:Nat->Int->Rd->List Int × Rd
  |0,_,r=>([],r)
  |k + 1,each,r=>if r.bad then ([],r) else ((Zb each r).1::(Zdj k each (Zb each r).2).1,(Zdj k each (Zb each r).2).2)
theorem Zcy (k:Nat) (each:Int) (r:Rd):Zdj (k + 1) each r=if r.bad then ([],r) else ((Zb each r).1::(Zdj k each (Zb each r).2).1,(Zdj k each (Zb each r).2).2):=rfl
theorem ZrL {each:Int} {r:Rd} (h:r.bad=true):∀ k,Zdj k each r=([],r)
  |0=>rfl
  |k + 1=>by rw [Zcy,if_pos h]
def ZcK (most each:Int) (r:Rd):List Int × Rd:=Zdj (Zb most r).1.toNat each (Zb most r).2
theorem Zof:∀ (k:Nat) (most:Int) {r:Rd},(∀ x∈r.bs,0<=x/\x<256)->∀ x∈(Zdj k most r).2.bs,0<=x/\x<256
  |0,_,_,h=>h
  |k + 1,most,r,h=>by
    rw [Zcy];split
    · exact h
    · exact Zof k most (Zd h)
theorem ZlE:∀ (k:Nat) {most:Int} {r:Rd},0<=most->(∀ x∈r.bs,0<=x/\x<256)->(∀ x∈(Zdj k most r).1,0<=x/\x<=most)/\(Zdj k most r).1.length<=k
  |0,_,_,_,_=>⟨by simp [Zdj],by simp [Zdj]⟩
  |k + 1,most,r,hm,h=>by
    rw [Zcy];split
    · exact ⟨by simp,by simp⟩
    · obtain ⟨h1,h2⟩:=ZlE k hm (Zd (most:=most) h)
      refine ⟨λ x hx=>?_,by rw [List.length_cons];omega⟩;rcases List.mem_cons.1 hx with rfl|hx
      · exact Zn h hm
      · exact h1 x hx
theorem ZjV {most each:Int} {r:Rd} (h:∀ x∈r.bs,0<=x/\x<256):∀ x∈(ZcK most each r).2.bs,0<=x/\x<256:=Zof _ _ (Zd h)
theorem ZhM {most each:Int} {r:Rd} (h:∀ x∈r.bs,0<=x/\x<256) (hm:0<=most) (he:0<=each):(∀ x∈(ZcK most each r).1,0<=x/\x<=each)/\((ZcK most each r).1.length:Int)<=most:=by
  obtain ⟨h1,h2⟩:=ZlE (Zb most r).1.toNat he (Zd (most:=most) h);have:=Zn h hm;exact ⟨h1,by show ((Zdj _ _ _).1.length:Int)<=_;omega⟩
theorem Zgq {b:Nat} {s:Sl} {bs:List Int} {rd:Rd} {most each:Int} (h0:0<=most) (h1:most<1000000) (h2:0<=each) (h3:each<9223372036854775808) (hl:bs.length<=1099511627776) (hbs:∀ x∈bs,0<=x/\x<256) (hb:∀ x∈rd.bs,0<=x/\x<256) (hs:SlR R.m s (b8 bs)) (hw:Sat R (ZB b s bs rd::Hs) w):
    Zm prog 219 #[nP b,.int .u64 most,.int .u64 each] w λ v w'=>∃ t:Sl,v=.slice t.a t.len t.cap/\Sat R (Own t 3 (Ze (ZcK most each rd).1)::ZB b s bs (ZcK most each rd).2::Hs) w':=by
  apply ZyI
  suffices H:∀ K:nK,(∀ (t:Sl) w',Sat R (Own t 3 (Ze (ZcK most each rd).1)::ZB b s bs (ZcK most each rd).2::Hs) w'->K (.slice t.a t.len t.cap) w')->B219 (some ⟨b,0,none⟩) most each K w from H _ λ t w' h=>⟨t,rfl,h⟩
  intro K hK;refine (Zt hl hbs hs hw).use ?_;clear hw;rintro _ w ⟨rfl,hw⟩;refine ⟨_,rfl,?_⟩;have hv:=Zn (most:=most) hb h0;have hb1:=Zd (most:=most) hb;obtain ⟨n,hn⟩:=Int.eq_ofNat_of_zero_le hv.1;have hrl:ZcK most each rd=Zdj n each (Zb most rd).2:=by unfold ZcK;rw [hn];rfl
  rw [hrl] at hK;rw [hn];rw [hn] at hv;generalize (Zb most rd).2=rd1 at *;refine ⟨λ out i w=>∃ (j:Nat) (acc:List Int) (rdj:Rd),i=j/\j<=n/\acc.length=j/\(∀ x∈rdj.bs,0<=x/\x<256)/\(acc++(Zdj (n - j) each rdj).1,(Zdj (n - j) each rdj).2)=Zdj n each rd1/\Sat R (Own out 3 (Ze acc)::ZB b s bs rdj::Hs) w,λ _ i _=>n - i.toNat,⟨0,[],rd1,rfl,by omega,rfl,hb1,rfl,Own.nil hw⟩,?_⟩;clear hw;rintro _ out _ w ⟨j,acc,rdj,rfl,hj,hacc,hbj,he,hw⟩;refine Br.d (λ h=>?_) (λ h=>?_)
  · obtain ⟨m,hm⟩:∃ m,n - j=m + 1:=⟨n - j - 1,by omega⟩
    rw [hm,Zcy] at he;obtain ⟨nn,hnn,hw⟩:=Sat.rrd.1 hw.swap;refine Zc.mk rfl ⟨rdj.bad,oA hw,Br.nb (λ h4=>?_) (λ h4=>?_)⟩
    · have hw:=(Sat.rrd.2 ⟨nn,hnn,hw⟩:Sat R (ZB b s bs rdj::Own out 3 (Ze acc)::Hs) w)
      rw [if_neg (by rw [h4];simp)] at he;refine (Zt hl hbs hs hw).use ?_;clear hw;rintro _ w ⟨rfl,hw⟩;have hvk:=Zn (most:=each) hbj h2;refine ⟨_,rfl,?_⟩;refine ZbX ZqF hw.swap (by omega) λ s' w hw=>?_;rw [Zf] at hw;rw [ZP];refine ⟨⟨j + 1,acc++[(Zb each rdj).1],(Zb each rdj).2,by omega,by omega,by simp [hacc],Zd hbj,?_,hw⟩,by dsimp only;omega⟩;rw [show n - (j + 1)=m by omega,<-he,List.append_assoc];rfl
    · have hw:=(Sat.rrd.2 ⟨nn,hnn,hw⟩:Sat R (ZB b s bs rdj::Own out 3 (Ze acc)::Hs) w)
      rw [if_pos h4] at he;rw [<-he] at hK;refine hK out w ?_;rw [List.append_nil];exact hw.swap
  · obtain rfl:j=n:=by omega
    rw [Nat.sub_self] at he;rw [<-he] at hK;refine hK out w ?_;show Sat R (Own out 3 (Ze (acc++[]))::ZB b s bs rdj::Hs) w;rw [List.append_nil];exact hw
structure ZAd (r:RF) (j:Nat) (hj:j<r.L.length):Prop where
  o:1<=r.L[j].owner
  p:∀ h:0<j,r.L[j - 1].owner<r.L[j].owner
  c:r.L[j].cls<r.lims.length
  m:1<=r.L[j].many
  n:(r.L[j].seats.length:Int)<=r.L[j].many
  s:∀ k (hk:k<r.L[j].seats.length),r.L[j].seats[k] ∉ Zx (r.L.take j)++r.L[j].seats.take k/\r.L[j].seats[k]<Za5 r.rows r.grps/\∀ h:0<k,r.L[j].seats[k - 1]<r.L[j].seats[k]
structure Zo6 (r:RF):Prop where
  num:1<=r.num
  lay:ZdQ r.rows r.grps=true
  lim:Zfo r.lims=true
  l0:r.lims.getD 0 0=Za5 r.rows r.grps
  each:∀ j (hj:j<r.L.length),ZAd r j hj
  nest:Z8 r.lims r.sold=true
structure RIn (r:RF):Prop where
  gl:r.grps.length<=1000
  ll:r.lims.length<=1000
  hl:r.L.length<=1000
  hs:∀ h∈r.L,ZdY h
theorem ZuV {q:Nat} {r:RF} {sg sl s:Sl} {ts:List Sl} (h:RfR R r sg sl s ts) (ri:RIn r) (hw:Sat R (pts q (ZK r sg sl s)::Hs) w):
    Zm prog 220 #[nP q] w λ v w'=>((Zo6 r/\v=.bool true)\/(¬ Zo6 r/\v=.bool false))/\Sat R (pts q (ZK r sg sl s)::Hs) w':=by
  have hsl:=h.len;have htl:=h.hs.len;have:=ri.gl;have:=ri.ll;have:=ri.hl;have hgo:=h.grps.ro (R:=R) (by rw [List.length_map];omega);have hlo:=h.lims.ro (R:=R) (by rw [List.length_map];omega);have hll:sl.len=r.lims.length:=by have:=h.lims.len;rwa [List.length_map] at this
  apply ZyH
  suffices H:∀ K:nK,(Zo6 r->∀ w',Sat R (pts q (ZK r sg sl s)::Hs) w'->K (.bool true) w')->(¬ Zo6 r->∀ w',Sat R (pts q (ZK r sg sl s)::Hs) w'->K (.bool false) w')->B220 (some ⟨q,0,none⟩) K w from
    H _ (λ h w' h'=>⟨.inl ⟨h,rfl⟩,h'⟩) λ h w' h'=>⟨.inr ⟨h,rfl⟩,h'⟩
  intro K hK1 hK2;refine Zc.mk rfl ⟨r.rows,sg,oA hw,?_⟩;refine (ZhF hgo hw).u λ w hw=>?_;refine ⟨_,rfl,Zc.mk rfl ⟨sl,oA hw,?_⟩⟩;refine (Zls hlo hw).u λ w hw=>?_;refine ⟨_,rfl,λ w=>(1<=r.num/\ZdQ r.rows r.grps=true/\Zfo r.lims=true/\r.lims.getD 0 0=Za5 r.rows r.grps)/\Sat R (pts q (ZK r sg sl s)::Hs) w,?_,?_⟩
  · refine Zo hw λ w hw=>?_
    refine Zc.mk rfl ⟨r.num,by rw [Zy];exact oS,?_⟩;refine Br.d (λ h1=>hK2 (λ m=>by have:=m.num;omega) _ hw) (λ h1=>?_);refine Br.nb (λ h2=>hK2 (λ m=>by rw [m.lay] at h2;cases h2) _ hw) (λ h2=>?_);refine Br.nb (λ h3=>hK2 (λ m=>by rw [m.lim] at h3;cases h3) _ hw) (λ h3=>?_);have hl0:0<r.lims.length:=(Zan.1 h3).1.1;refine Zc.mk rfl ⟨sl,oS,?_⟩;refine Ro.ix hlo Zbg 0 rfl hl0 (F:=λ t=>_) ?_;refine Zc.mk rfl ⟨r.rows,sg,oS,?_⟩;refine (ZhL hgo hw).u λ w hw=>?_;refine ⟨_,rfl,hw,Br.ne (λ h4=>hK2 (λ m=>h4 (by rw [<-Z0 hl0];exact m.l0)) _ hw) (λ h4=>⟨⟨by omega,h2,h3,by rw [Z0 hl0];exact h4⟩,hw⟩)⟩
  clear hw;rintro _ w ⟨⟨h1,h2,h3,h4⟩,hw⟩;refine ⟨λ told i w=>∃ j:Nat,i=j/\j<=r.L.length/\(∀ x (hx:x<r.L.length),x<j->ZAd r x hx)/\Sat R (Own told 3 (Ze (Zx (r.L.take j)))::pts q (ZK r sg sl s)::Hs) w,λ _ i _=>r.L.length - i.toNat,⟨0,rfl,by omega,λ x hx hx0=>by omega,Own.nil hw⟩,?_⟩;clear hw;rintro _ told _ w ⟨j,rfl,hj,hok,hw⟩;refine Zc.mk rfl ⟨s,oA hw,Br.d (λ h5=>?_) (λ h5=>?_)⟩
  · have j1:j<r.L.length:=by omega
    have j2:j<ts.length:=by omega
    have hin:=ri.hs r.L[j] (List.getElem_mem _);have hin_n:=hin.n;have hro:RoI R ts[j] r.L[j].seats:=(h.hs.seats j j1 j2).ro;have hrl:=hro.len;have htk:=ZiM (L:=r.L.take j) λ x hx=>by have:=(ri.hs x (List.mem_of_mem_take hx)).n;omega
    rw [List.length_take,Nat.min_eq_left hj] at htk;refine Zc.mk rfl ⟨s,oA hw,?_⟩;refine h.hs.row (eqS hw) j1 j2 λ a ha=>⟨r.L[j].owner,r.L[j].cls,r.L[j].many,ts[j],ha,?_⟩;refine Za hw λ bh w hw=>?_;have hw:Sat R (pts bh emH::Own told 3 (Ze (Zx (r.L.take j)))::pts q (ZK r sg sl s)::Hs) w:=hw;refine sRu hw λ w hw=>?_;have hw:=hw.re (pts bh (ZN r.L[j] ts[j]));have bad:∀ {w:World} {l:List Int},¬ ZAd r j j1->Sat R (pts bh (ZN r.L[j] ts[j])::Own told 3 (Ze l)::pts q (ZK r sg sl s)::Hs) w->K (.bool false) w:=λ hn hw=>hK2 (λ m=>hn (m.each j j1)) _ hw.drop.drop;refine ⟨λ w=>(1<=r.L[j].owner/\(∀ h:0<j,r.L[j - 1].owner<r.L[j].owner)/\r.L[j].cls<r.lims.length/\1<=r.L[j].many/\(r.L[j].seats.length:Int)<=r.L[j].many)/\Sat R (pts bh (ZN r.L[j] ts[j])::Own told 3 (Ze (Zx (r.L.take j)))::pts q (ZK r sg sl s)::Hs) w,?_,?_⟩
    · refine Zo hw λ w hw=>?_
      refine ⟨r.L[j].owner,oS,Br.d (λ h6=>bad (λ o=>by have:=o.o;omega) hw) (λ h6=>?_)⟩;have rest:(∀ h:0<j,r.L[j - 1].owner<r.L[j].owner)->(∃ t86:Int,(At (Sat R (pts bh (ZN r.L[j] ts[j])::Own told 3 (Ze (Zx (r.L.take j)))::pts q (ZK r sg sl s)::Hs)) ⟨bh,0 + 1,none⟩ [nI t86])/\
            Zc (some ⟨q,0,none⟩) λ a_t88=>
            ∃ t90:Sl,(At (Sat R (pts bh (ZN r.L[j] ts[j])::Own told 3 (Ze (Zx (r.L.take j)))::pts q (ZK r sg sl s)::Hs)) (nO a_t88 3) [.slice t90.a t90.len t90.cap])/\
            Br (decide (t86 >= (↑t90.len:Int)))
             (K (.bool false) w)
             (∃ t96:Int,(At (Sat R (pts bh (ZN r.L[j] ts[j])::Own told 3 (Ze (Zx (r.L.take j)))::pts q (ZK r sg sl s)::Hs)) ⟨bh,0 + 2,none⟩ [nI t96])/\
              Br (decide (t96<1))
               (K (.bool false) w)
               (∃ t101:Sl,(At (Sat R (pts bh (ZN r.L[j] ts[j])::Own told 3 (Ze (Zx (r.L.take j)))::pts q (ZK r sg sl s)::Hs)) ⟨bh,0 + 3,none⟩ [.slice t101.a t101.len t101.cap])/\
                ∃ t104:Int,(At (Sat R (pts bh (ZN r.L[j] ts[j])::Own told 3 (Ze (Zx (r.L.take j)))::pts q (ZK r sg sl s)::Hs)) ⟨bh,0 + 2,none⟩ [nI t104])/\
                Br (decide ((↑t101.len:Int)>t104))
                 (K (.bool false) w)
                 ((1<=r.L[j].owner/\(∀ h:0<j,r.L[j - 1].owner<r.L[j].owner)/\r.L[j].cls<r.lims.length/\1<=r.L[j].many/\(r.L[j].seats.length:Int)<=r.L[j].many)/\Sat R (pts bh (ZN r.L[j] ts[j])::Own told 3 (Ze (Zx (r.L.take j)))::pts q (ZK r sg sl s)::Hs) w)))):=λ hp=>by
        refine ⟨r.L[j].cls,oS,Zc.mk rfl ⟨sl,oS,?_⟩⟩;rw [hll];refine Br.d (λ h7=>bad (λ o=>by have:=o.c;omega) hw) (λ h7=>⟨r.L[j].many,oS,Br.d (λ h8=>bad (λ o=>by have:=o.m;omega) hw) (λ h8=>⟨ts[j],oS,r.L[j].many,oS,?_⟩)⟩);rw [hrl];exact Br.d (λ h9=>bad (λ o=>by have:=o.n;omega) hw) (λ h9=>⟨⟨by omega,hp,by omega,by omega,by omega⟩,hw⟩)
      refine Br.d (λ h7=>?_) (λ h7=>rest λ h=>by omega);refine ⟨r.L[j].owner,oS,Zc.mk rfl ⟨s,oS,?_⟩⟩;have e1:wI ((j:Int) - 1)=((j - 1:Nat):Int):=by rw [Zf];omega
      rw [e1];refine h.hs.fld (j:=0) Zbg (k:=j - 1) (by omega) (by omega) rfl λ x nx hx=>⟨r.L[j - 1].owner,by rw [show ((j - 1:Nat):Int).toNat=j - 1 by omega,ZmC _ _ nx];exact hx,?_⟩;refine Br.d (λ h8=>bad (λ o=>by have:=o.p (by omega);omega) hw) (λ h8=>rest λ _=>by omega)
    clear hw;rintro _ w ⟨⟨o1,o2,o3,o4,o5⟩,hw⟩;refine ⟨λ told i w=>∃ k:Nat,i=k/\k<=r.L[j].seats.length/\(∀ x (hx:x<r.L[j].seats.length),x<k->r.L[j].seats[x] ∉ Zx (r.L.take j)++r.L[j].seats.take x/\r.L[j].seats[x]<Za5 r.rows r.grps/\∀ h:0<x,r.L[j].seats[x - 1]<r.L[j].seats[x])/\
      Sat R (pts bh (ZN r.L[j] ts[j])::Own told 3 (Ze (Zx (r.L.take j)++r.L[j].seats.take k))::pts q (ZK r sg sl s)::Hs) w,λ _ i _=>r.L[j].seats.length - i.toNat,⟨0,rfl,by omega,λ x hx hx0=>by omega,by simpa using hw⟩,?_⟩
    clear hw;rintro _ told2 _ w ⟨k,rfl,hk,hks,hw⟩;have hTl:(Zx (r.L.take j)++r.L[j].seats.take k).length<=2000000:=by rw [List.length_append,List.length_take];omega
    refine ⟨ts[j],oA hw,?_⟩;refine Br.d (λ h6=>?_) (λ h6=>?_)
    · have hk1:k<r.L[j].seats.length:=by omega
      have bad2:∀ {w:World},¬ (r.L[j].seats[k] ∉ Zx (r.L.take j)++r.L[j].seats.take k/\r.L[j].seats[k]<Za5 r.rows r.grps/\∀ h:0<k,r.L[j].seats[k - 1]<r.L[j].seats[k])->Sat R (pts bh (ZN r.L[j] ts[j])::Own told2 3 (Ze (Zx (r.L.take j)++r.L[j].seats.take k))::pts q (ZK r sg sl s)::Hs) w->K (.bool false) w:=λ hn hw=>hK2 (λ m=>hn ((m.each j j1).s k hk1)) _ hw.drop.drop;refine ⟨ts[j],oA hw,?_⟩;refine Ro.ix hro (eqS hw) k rfl hk1 ?_;obtain ⟨R2,hrk,keep,hw,back2⟩:=Own.lendI hw.swap (by omega);refine (Zvc hrk hw).u λ w hw=>?_;have hw:=(back2 hw).swap;refine ⟨_,rfl,Zo hw λ w hw=>Br.d (λ h7=>bad2 (λ hh=>hh.1 h7) hw) (λ h7=>?_)⟩;refine ⟨ts[j],oS,?_⟩;refine Ro.ix hro Zbg k rfl hk1 ?_;refine Zc.mk rfl ⟨r.rows,sg,oS,?_⟩;refine (ZhL hgo hw).u λ w hw=>?_;refine ⟨_,rfl,hw,Br.d (λ h8=>bad2 (λ hh=>by have:=hh.2.1;omega) hw) (λ h8=>?_)⟩;have fin:(∀ h:0<k,r.L[j].seats[k - 1]<r.L[j].seats[k])->∀ {s':Sl} {w:World},Sat R (Own s' 3 (Ze (Zx (r.L.take j)++r.L[j].seats.take k++[r.L[j].seats[k]]))::pts bh (ZN r.L[j] ts[j])::pts q (ZK r sg sl s)::Hs) w->
          (∃ k_1:Nat,wI ((k:Int) + 1)=k_1/\k_1<=r.L[j].seats.length/\(∀ x (hx:x<r.L[j].seats.length),x<k_1->r.L[j].seats[x] ∉ Zx (r.L.take j)++r.L[j].seats.take x/\r.L[j].seats[x]<Za5 r.rows r.grps/\∀ h:0<x,r.L[j].seats[x - 1]<r.L[j].seats[x])/\
            Sat R (pts bh (ZN r.L[j] ts[j])::Own s' 3 (Ze (Zx (r.L.take j)++r.L[j].seats.take k_1))::pts q (ZK r sg sl s)::Hs) w):=λ hp {s' w} hw=>by
        rw [Zf];refine ⟨k + 1,by omega,by omega,λ x hx hxk=>?_,?_⟩
        · by_cases hxe:x=k
          · subst hxe;exact ⟨h7,by omega,hp⟩
          · exact hks x hx (by omega)
        · rw [show r.L[j].seats.take (k + 1)=r.L[j].seats.take k++[r.L[j].seats[k]] by rw [List.take_add_one,List.getElem?_eq_getElem hk1];rfl,<-List.append_assoc]
          exact hw.swap
      have wr:wI ((k:Int) + 1)=(k:Int) + 1:=Zf;refine Br.d (λ h9=>?_) (λ h9=>?_)
      · refine ⟨ts[j],oS,?_⟩
        refine Ro.ix hro Zbg k rfl hk1 ⟨ts[j],oS,?_⟩;refine Ro.ix hro Zbg (k - 1) (by rw [Zf];omega) (by omega) ?_;refine Br.d (λ h10=>bad2 (λ hh=>by have:=hh.2.2 (by omega);omega) hw) (λ h10=>⟨ts[j],oA hw,?_⟩);refine Ro.ix hro (eqS hw) k rfl hk1 ?_;refine ZbX ZqF hw.swap (by omega) λ s' w hw=>?_;exact ⟨fin (λ _=>by omega) hw,by dsimp only;omega⟩
      · refine ⟨ts[j],oA hw,?_⟩
        refine Ro.ix hro (eqS hw) k rfl hk1 ?_;refine ZbX ZqF hw.swap (by omega) λ s' w hw=>?_;exact ⟨fin (λ h=>by omega) hw,by dsimp only;omega⟩
    · rw [List.take_of_length_le (show r.L[j].seats.length<=k by omega),<-ZmO j1] at hw
      rw [Zf];refine ⟨⟨j + 1,by omega,by omega,λ x hx hxj=>?_,hw.drop⟩,by dsimp only;omega⟩;by_cases hxe:x=j
      · subst hxe;exact ⟨o1,o2,o3,o4,o5,λ y hy=>hks y hy (by omega)⟩
      · exact hok x hx (by omega)
  · have hall:∀ x (hx:x<r.L.length),ZAd r x hx:=λ x hx=>hok x hx (by omega)
    have hw:=hw.drop;refine Zo hw λ w hw=>?_;refine Zc.mk rfl ⟨sl,oS,?_⟩;refine (Zpq h (by omega) (by omega) (λ x hx=>?_) hw).use ?_
    · obtain ⟨i,hi,rfl⟩:=List.getElem_of_mem hx
      have h6:=ri.hs r.L[i] hx;exact ⟨⟨h6.c.1,(hall i hi).c⟩,⟨h6.m.1,by have:=h6.m.2;omega⟩⟩
    clear hw;rintro _ w ⟨t,rfl,hw⟩;refine ⟨t,rfl,hw.drop,?_⟩;obtain ⟨R2,hrk,keep,hw,back2⟩:=Own.lendI hw (by show (Z6 _ _).length<=_;rw [Za1];omega);refine (Zlq (keep _ _ hlo) hrk hw).u λ w hw=>?_;have hw:=(back2 hw).drop;refine ⟨_,rfl,?_⟩;cases hn:Z8 r.lims r.sold with
    |true=>exact hK1 ⟨h1,h2,h3,h4,hall,hn⟩ _ hw
    |false=>exact hK2 (λ m=>by rw [m.nest] at hn;cases hn) _ hw
def Zbi (rd:Rd):ZI × Rd:=
 (⟨(Zb 28629151 rd).1,(Zb 8 (Zb 28629151 rd).2).1,(Zb 600 (Zb 8 (Zb 28629151 rd).2).2).1,(ZcK 600 600 (Zb 600 (Zb 8 (Zb 28629151 rd).2).2).2).1⟩,(ZcK 600 600 (Zb 600 (Zb 8 (Zb 28629151 rd).2).2).2).2)
def rHs:Nat->Rd->List ZI × Rd
 |0,rd=>([],rd)
 |k + 1,rd=>if rd.bad then ([],rd) else ((Zbi rd).1::(rHs k (Zbi rd).2).1,(rHs k (Zbi rd).2).2)
theorem ZfJ (k:Nat) (rd:Rd):rHs (k + 1) rd=if rd.bad then ([],rd) else ((Zbi rd).1::(rHs k (Zbi rd).2).1,(rHs k (Zbi rd).2).2):=rfl
theorem ZrC {rd:Rd} (h:∀ x∈rd.bs,0<=x/\x<256):∀ x∈(Zbi rd).2.bs,0<=x/\x<256:=ZjV (Zd (Zd (Zd h)))
theorem Zpy {rd:Rd} (h:∀ x∈rd.bs,0<=x/\x<256):ZdY (Zbi rd).1:=by
 have h1:=Zd (most:=28629151) h;have h2:=Zd (most:=8) h1;have h3:=Zd (most:=600) h2;have hl:=ZhM (most:=600) (each:=600) h3 (by omega) (by omega);exact ⟨Zn h (by omega),Zn h1 (by omega),Zn h2 (by omega),hl.1,by have:=hl.2;show (ZcK _ _ _).1.length<=600;omega⟩
def ZeC (bs:List Int):Raw:=
 let a:=Zb 9999 ⟨bs,false⟩
 let b:=Zb 60 a.2
 let g:=ZcK 4 10 b.2
 let l:=ZcK 8 10000 g.2
 let n:=Zb 600 l.2
 let x:=rHs n.1.toNat n.2
 ⟨a.1,b.1,g.1,l.1,x.1,x.2⟩
def Raw.rf (x:Raw):RF:=⟨x.num,x.rows,x.grps,x.lims,x.L⟩
theorem ZjT {s:Sl} {bs:List Int} (hb:∀ y∈bs,0<=y/\y<256) (hs:SlR R.m s (b8 bs)) (hl:bs.length<=1099511627776) (hw:Sat R Hs w):
  Zm prog 144 #[.slice s.a s.len s.cap] w λ v w'=>(¬ (ZF (ZeC bs).rd=true/\Zo6 (ZeC bs).rf)/\v=.tuple #[.pointer none,nI 6]/\Sat R Hs w')\/
   (ZF (ZeC bs).rd=true/\Zo6 (ZeC bs).rf/\∃ q,v=.tuple #[nP q,nI 0]/\Sat R (ZiF q (ZeC bs).rf::Hs) w'):=by
 apply Zzv
 suffices H:∀ K:nK,(¬ (ZF (ZeC bs).rd=true/\Zo6 (ZeC bs).rf)->∀ w',Sat R Hs w'->K (.tuple #[.pointer none,nI 6]) w')->(ZF (ZeC bs).rd=true/\Zo6 (ZeC bs).rf->∀ q w',Sat R (ZiF q (ZeC bs).rf::Hs) w'->K (.tuple #[nP q,nI 0]) w')->B144 s K w from
  H _ (λ e w' h=>.inl ⟨e,rfl,h⟩) λ e q w' h=>.inr ⟨e.1,e.2,q,rfl,h⟩
 intro K hK1 hK2;have hb0:∀ y∈(⟨bs,false⟩:Rd).bs,0<=y/\y<256:=hb;have v1:=Zn (most:=9999) hb0 (by omega);have hb1:=Zd (most:=9999) hb0;obtain ⟨num,rd1,e1⟩:∃ y rd,Zb 9999 ⟨bs,false⟩=(y,rd):=⟨_,_,rfl⟩;rw [e1] at v1 hb1;have v2:=Zn (most:=60) hb1 (by omega);have hb2:=Zd (most:=60) hb1;obtain ⟨rows,rd2,e2⟩:∃ y rd,Zb 60 rd1=(y,rd):=⟨_,_,rfl⟩;rw [e2] at v2 hb2;have v3:=ZhM (most:=4) (each:=10) hb2 (by omega) (by omega);have hb3:=ZjV (most:=4) (each:=10) hb2;obtain ⟨grps,rd3,e3⟩:∃ y rd,ZcK 4 10 rd2=(y,rd):=⟨_,_,rfl⟩;rw [e3] at v3 hb3;have v4:=ZhM (most:=8) (each:=10000) hb3 (by omega) (by omega);have hb4:=ZjV (most:=8) (each:=10000) hb3;obtain ⟨lims,rd4,e4⟩:∃ y rd,ZcK 8 10000 rd3=(y,rd):=⟨_,_,rfl⟩;rw [e4] at v4 hb4;have v5:=Zn (most:=600) hb4 (by omega);have hb5:=Zd (most:=600) hb4;obtain ⟨nz,rd5,e5⟩:∃ y rd,Zb 600 rd4=(y,rd):=⟨_,_,rfl⟩;rw [e5] at v5 hb5;dsimp only at v1 v2 v3 v4 v5 hb1 hb2 hb3 hb4 hb5;obtain ⟨n,rfl⟩:=Int.eq_ofNat_of_zero_le v5.1;have hraw:ZeC bs=⟨num,rows,grps,lims,(rHs n rd5).1,(rHs n rd5).2⟩:=by
  unfold ZeC;simp only [e1,e2,e3,e4,e5];rfl
 refine Za hw λ b w hw=>?_;have hw:Sat R (pts b (Z4 s 0 false)::Hs) w:=hw;have hw:Sat R (ZB b s bs ⟨bs,false⟩::Hs) w:=Sat.rrd.2 ⟨0,⟨by omega,rfl⟩,hw⟩;refine (Zt hl hb hs hw).use ?_;clear hw;rintro _ w ⟨rfl,hw⟩;rw [e1] at hw ⊢;refine ⟨_,rfl,?_⟩;refine (Zt hl hb hs hw).use ?_;clear hw;rintro _ w ⟨rfl,hw⟩;rw [e2] at hw ⊢;refine ⟨_,rfl,?_⟩;rw [Zf (x:=num),Zf (x:=rows)];refine Za hw λ q w hw=>?_;have hw:Sat R (ZB b s bs rd2::pts q (ZK ⟨num,rows,[],[],[]⟩ ⟨none,0,0⟩ ⟨none,0,0⟩ ⟨none,0,0⟩)::Hs) w:=hw.swap;refine (Zgq (most:=4) (each:=10) (by omega) (by omega) (by omega) (by omega) hl hb hb2 hs hw).use ?_;clear hw;rintro _ w ⟨tg,rfl,hw⟩;rw [e3] at hw;refine ⟨tg,rfl,?_⟩;have hw:Sat R (pts q (ZK ⟨num,rows,[],[],[]⟩ ⟨none,0,0⟩ ⟨none,0,0⟩ ⟨none,0,0⟩)::ZB b s bs rd3::Own tg 3 (Ze grps)::Hs) w:=hw.arr;refine sRu hw λ w hw=>?_;have hw:=hw.re (pts q (ZK ⟨num,rows,[],[],[]⟩ tg ⟨none,0,0⟩ ⟨none,0,0⟩));refine (Zgq (most:=8) (each:=10000) (by omega) (by omega) (by omega) (by omega) hl hb hb3 hs hw.swap).use ?_;clear hw;rintro _ w ⟨tl,rfl,hw⟩;rw [e4] at hw;refine ⟨tl,rfl,?_⟩;have hw:Sat R (pts q (ZK ⟨num,rows,[],[],[]⟩ tg ⟨none,0,0⟩ ⟨none,0,0⟩)::ZB b s bs rd4::Own tl 3 (Ze lims)::Own tg 3 (Ze grps)::Hs) w:=hw.arr;refine sRu hw λ w hw=>?_;have hw:=hw.re (pts q (ZK ⟨num,rows,grps,lims,[]⟩ tg tl ⟨none,0,0⟩));refine (Zt hl hb hs hw.swap).use ?_;clear hw;rintro _ w ⟨rfl,hw⟩;rw [e5] at hw ⊢;refine ⟨_,rfl,?_⟩;dsimp only at hw ⊢;have hw:Sat R (Own tg 3 (Ze grps)::Own tl 3 (Ze lims)::pts q (ZK ⟨num,rows,grps,lims,[]⟩ tg tl ⟨none,0,0⟩)::ZB b s bs rd5::Hs) w:=hw.arr;have hw:Sat R (RO q ⟨num,rows,grps,lims,[]⟩ tg tl ⟨none,0,0⟩ [] (ZB b s bs rd5::Hs)) w:=Own.reads (hw.cons λ _ h=>Own.reads (h.cons λ _ h=>h.cons λ _ h=>Zs.nil (Sat.star.2 h)));obtain ⟨J,hJ⟩:∃ J:World->Prop,∀ w,J w↔∃ (sh:Sl) (ts:List Sl),ts.length=(rHs n rd5).1.length/\((rHs n rd5).1.length<=n/\∀ h∈(rHs n rd5).1,ZdY h)/\Sat R (RO q ⟨num,rows,grps,lims,(rHs n rd5).1⟩ tg tl sh ts (ZB b s bs (rHs n rd5).2::Hs)) w:=⟨_,λ _=>Iff.rfl⟩;refine ⟨J,?_,?_⟩
 ·refine ⟨λ i w=>∃ (j:Nat) (acc:List ZI) (rdj:Rd) (sh:Sl) (ts:List Sl),i=j/\j<=n/\acc.length=j/\ts.length=acc.length/\(∀ h∈acc,ZdY h)/\(∀ x∈rdj.bs,0<=x/\x<256)/\(acc++(rHs (n - j) rdj).1,(rHs (n - j) rdj).2)=rHs n rd5/\
   Sat R (RO q ⟨num,rows,grps,lims,acc⟩ tg tl sh ts (ZB b s bs rdj::Hs)) w,λ i _=>n - i.toNat,⟨0,[],rd5,⟨none,0,0⟩,[],rfl,by omega,rfl,rfl,λ h hh=>(by cases hh),hb5,rfl,hw⟩,?_⟩
  clear hw;rintro _ _ w ⟨j,acc,rdj,sh,ts,rfl,hj,hacc,hts,hin,hbj,he,hw⟩;have fin:(acc,rdj)=rHs n rd5->∀ {w},Sat R (RO q ⟨num,rows,grps,lims,acc⟩ tg tl sh ts (ZB b s bs rdj::Hs)) w->J w:=λ e w hw=>by
   refine (hJ w).2 ⟨sh,ts,?_⟩;rw [<-e];exact ⟨hts,⟨by show acc.length<=n;omega,hin⟩,hw⟩
  obtain ⟨J1,hJ1⟩:∃ J1:World->Prop,∀ w,J1 w↔(j<n/\rdj.bad=false)/\Sat R (RO q ⟨num,rows,grps,lims,acc⟩ tg tl sh ts (ZB b s bs rdj::Hs)) w:=⟨_,λ _=>Iff.rfl⟩;refine ⟨J1,Br.d (λ h=>?_) (λ h=>?_),?_⟩
  ·have hw2:Sat R (ZB b s bs rdj::RO q ⟨num,rows,grps,lims,acc⟩ tg tl sh ts Hs) w:=hw.arr
   obtain ⟨nn,hnn,hw2⟩:=Sat.rrd.1 hw2;refine ⟨rdj.bad,At.own (eqS hw2) (by exact ⟨rfl,trivial⟩),Br.nb (λ h4=>(hJ1 w).2 ⟨⟨by omega,h4⟩,hw⟩) (λ h4=>?_)⟩;obtain ⟨m,hm⟩:∃ m,n - j=m + 1:=⟨n - j - 1,by omega⟩;rw [hm,ZfJ,if_pos h4,List.append_nil] at he;exact fin he hw
  ·rw [show n - j=0 by omega] at he
   have he:(acc++[],rdj)=rHs n rd5:=he;rw [List.append_nil] at he;exact fin he hw
  clear hw;intro _ w hJw;obtain ⟨⟨hjn,h4⟩,hw⟩:=(hJ1 w).1 hJw;clear hJw hJ1 fin;obtain ⟨m,hm⟩:∃ m,n - j=m + 1:=⟨n - j - 1,by omega⟩;rw [hm,ZfJ,if_neg (by rw [h4];simp)] at he;have hval:=Zpy hbj;have hbn:=ZrC hbj;have c1:=Zd (most:=28629151) hbj;have u1:=Zn (most:=28629151) hbj (by omega);have c2:=Zd (most:=8) c1;have u2:=Zn (most:=8) c1 (by omega);have c3:=Zd (most:=600) c2;have u3:=Zn (most:=600) c2 (by omega);have hw:Sat R (ZB b s bs rdj::RO q ⟨num,rows,grps,lims,acc⟩ tg tl sh ts Hs) w:=hw.arr;refine (Zt hl hb hs hw).use ?_;clear hw;rintro _ w ⟨rfl,hw⟩;refine ⟨_,rfl,?_⟩;refine (Zt hl hb hs hw).use ?_;clear hw;rintro _ w ⟨rfl,hw⟩;refine ⟨_,rfl,?_⟩;refine (Zt hl hb hs hw).use ?_;clear hw;rintro _ w ⟨rfl,hw⟩;refine ⟨_,rfl,?_⟩;refine Za hw λ bh w hw=>?_;have hw:Sat R (pts bh emH::ZB b s bs (Zb 600 (Zb 8 (Zb 28629151 rdj).2).2).2::RO q ⟨num,rows,grps,lims,acc⟩ tg tl sh ts Hs) w:=hw;refine sRu hw λ w hw=>?_;rw [Zf (x:=(Zb 28629151 rdj).1),Zf (x:=(Zb 8 (Zb 28629151 rdj).2).1) (by omega) (by omega),Zf (x:=(Zb 600 (Zb 8 (Zb 28629151 rdj).2).2).1) (by omega) (by omega)] at hw;have hw:=hw.re (pts bh (ZN ⟨(Zb 28629151 rdj).1,(Zb 8 (Zb 28629151 rdj).2).1,(Zb 600 (Zb 8 (Zb 28629151 rdj).2).2).1,[]⟩ ⟨none,0,0⟩));refine (Zgq (most:=600) (each:=600) (by omega) (by omega) (by omega) (by omega) hl hb c3 hs hw.swap).use ?_;clear hw;rintro _ w ⟨t,rfl,hw⟩;refine ⟨t,rfl,?_⟩;have hw:Sat R (pts bh (ZN ⟨(Zb 28629151 rdj).1,(Zb 8 (Zb 28629151 rdj).2).1,(Zb 600 (Zb 8 (Zb 28629151 rdj).2).2).1,[]⟩ ⟨none,0,0⟩)::Own t 3 (Ze (ZcK 600 600 (Zb 600 (Zb 8 (Zb 28629151 rdj).2).2).2).1)::ZB b s bs (ZcK 600 600 (Zb 600 (Zb 8 (Zb 28629151 rdj).2).2).2).2::RO q ⟨num,rows,grps,lims,acc⟩ tg tl sh ts Hs) w:=hw.arr;have hw:Sat R (pts bh (ZN ⟨(Zb 28629151 rdj).1,(Zb 8 (Zb 28629151 rdj).2).1,(Zb 600 (Zb 8 (Zb 28629151 rdj).2).2).1,[]⟩ ⟨none,0,0⟩)::Own t 3 (Ze (Zbi rdj).1.seats)::ZB b s bs (Zbi rdj).2::RO q ⟨num,rows,grps,lims,acc⟩ tg tl sh ts Hs) w:=hw;refine sRu hw λ w hw=>?_;have hw:=hw.re (pts bh (ZN (Zbi rdj).1 t));generalize (Zbi rdj).1=hd at *;generalize (Zbi rdj).2=rdn at *;have hw:Sat R (pts q (ZK ⟨num,rows,grps,lims,acc⟩ tg tl sh)::pts bh (ZN hd t)::Zs 4 sh 197 (Zb9 acc ts)::Zz tg (Ze grps)::Zz tl (Ze lims)::Zbs acc ts::Own t 3 (Ze hd.seats)::ZB b s bs rdn::Hs) w:=hw.arr;have sx:∀ {Hs':List HP} {w},Sat R (pts q (ZK ⟨num,rows,grps,lims,acc⟩ tg tl sh)::pts bh (ZN hd t)::Hs') w->Sat R [pts q (ZK ⟨num,rows,grps,lims,acc⟩ tg tl sh),pts bh (ZN hd t),VC.tru] w:=λ hw=>hw.cons λ _ h=>h.restTru2;refine ZC (Sat R [pts q (ZK ⟨num,rows,grps,lims,acc⟩ tg tl sh),pts bh (ZN hd t),VC.tru]) hw (λ w hw=>sx hw) λ w hw=>?_;refine ⟨sh,oS,hd.owner,hd.cls,hd.many,t,oS,?_⟩;have hrl:=ZcF hts;have hw:=hw.take (Zs 4 sh 197 (Zb9 acc ts));refine Za hw λ b67 w hw=>?_;have hw:Sat R (pts b67 (.cells (ZkV hd t).toArray 197 (0,0))::Zs 4 sh 197 (Zb9 acc ts)::pts q (ZK ⟨num,rows,grps,lims,acc⟩ tg tl sh)::pts bh (ZN hd t)::Zz tg (Ze grps)::Zz tl (Ze lims)::Zbs acc ts::Own t 3 (Ze hd.seats)::ZB b s bs rdn::Hs) w:=hw;refine ⟨(hw.arr:Sat R (pts q (ZK ⟨num,rows,grps,lims,acc⟩ tg tl sh)::pts bh (ZN hd t)::pts b67 (.cells (ZkV hd t).toArray 197 (0,0))::Zs 4 sh 197 (Zb9 acc ts)::Zz tg (Ze grps)::Zz tl (Ze lims)::Zbs acc ts::Own t 3 (Ze hd.seats)::ZB b s bs rdn::Hs) w)|>sx,?_⟩;have hw:Sat R (Zs 4 sh 197 (Zb9 acc ts)::pts b67 (.cells (ZkV hd t).toArray 197 (0,0))::pts q (ZK ⟨num,rows,grps,lims,acc⟩ tg tl sh)::pts bh (ZN hd t)::Zz tg (Ze grps)::Zz tl (Ze lims)::Zbs acc ts::Own t 3 (Ze hd.seats)::ZB b s bs rdn::Hs) w:=hw.swap;refine ZaR (ys:=[ZkV hd t]) elH hw (ZeU ⟨_,underlying177⟩ (b:=b67) 1 hw rfl rfl) (Wid.one rfl) (by rw [List.length_singleton];omega) (by rw [List.length_singleton];omega) λ s2 w hw=>?_;have hw:Sat R (pts q (ZK ⟨num,rows,grps,lims,acc⟩ tg tl sh)::pts bh (ZN hd t)::Zs 4 s2 197 (Zb9 acc ts++[ZkV hd t])::Zz tg (Ze grps)::Zz tl (Ze lims)::Zbs acc ts::Own t 3 (Ze hd.seats)::ZB b s bs rdn::Hs) w:=(hw.take (pts b67 (.cells (ZkV hd t).toArray 197 (0,0)))).drop.arr;refine ⟨sx hw,?_⟩;refine sRu hw λ w hw=>?_;have hw:=hw.re (pts q (ZK ⟨num,rows,grps,lims,acc++[hd]⟩ tg tl s2));rw [ZP];refine ⟨⟨j + 1,acc++[hd],rdn,s2,ts++[t],by omega,by omega,by simp [hacc],by simp [hts],λ h hh=>?_,hbn,?_,?_⟩,by dsimp only;omega⟩
  ·rcases List.mem_append.1 hh with hh|hh
   ·exact hin h hh
   ·rw [List.mem_singleton.1 hh];exact hval
  ·rw [show n - (j + 1)=m by omega,<-he,List.append_assoc];rfl
  ·have e6:=ZiY hts hd t
   have hw:Sat R (Zz tg (Ze grps)::Zz tl (Ze lims)::pts q (ZK ⟨num,rows,grps,lims,acc++[hd]⟩ tg tl s2)::Zs 4 s2 197 (Zb9 acc ts++[ZkV hd t])::Own t 3 (Ze hd.seats)::Zbs acc ts::ZB b s bs rdn::Hs) w:=
    (hw.take (pts bh (ZN hd t))).drop.arr
   rw [<-e6] at hw;refine hw.cons λ _ h=>h.cons λ _ h=>h.cons λ _ h=>h.cons λ _ h=>?_;have h7:=Zbs.ins (k:=acc.length) hts (Nat.le_refl _) (Own.reads h);rw [List.take_length,List.drop_length,<-hts,List.take_length,List.drop_length] at h7;exact h7
 ·clear hw
  intro _ w hJw;obtain ⟨sh,ts,hts,⟨hnl,hin⟩,hw⟩:=(hJ w).1 hJw;clear hJw hJ;have hrf:(ZeC bs).rf=⟨num,rows,grps,lims,(rHs n rd5).1⟩:=by rw [hraw];rfl
  have hrd:(ZeC bs).rd=(rHs n rd5).2:=by rw [hraw]
  rw [hrf,hrd] at hK1 hK2;have hw:Sat R (ZB b s bs (rHs n rd5).2::RO q ⟨num,rows,grps,lims,(rHs n rd5).1⟩ tg tl sh ts Hs) w:=hw.arr;refine (Zbv hs hw).use ?_;clear hw;rintro _ w ⟨rfl,hw⟩;have hw:=hw.drop;refine ⟨_,rfl,Br.mk (λ h1=>?_) (λ h1=>hK1 (λ h2=>by rw [h2.1] at h1;cases h1) _ ?_)⟩
  ·obtain ⟨R',ee,h,hw,back⟩:=RO.out hts hw
   refine (ZuV h ⟨by show grps.length<=_;omega,by show lims.length<=_;omega,by show (rHs n rd5).1.length<=_;omega,hin⟩ hw).use ?_;clear hw;rintro _ w ⟨hv,hw⟩;have hw:=back _ _ hw;rcases hv with ⟨hm,rfl⟩|⟨hm,rfl⟩
   ·exact ⟨_,rfl,Br.f rfl (hK2 ⟨h1,hm⟩ _ _ (Sat.rf.2 ⟨tg,tl,sh,ts,hts,hw⟩))⟩
   ·exact ⟨_,rfl,Br.t rfl (hK1 (λ h2=>hm h2.2) _ hw.drop.drop.drop.drop.drop)⟩
  ·exact hw.drop.drop.drop.drop.drop
end
section
open Go Go.VC Tryz
theorem ZbD {most:Int} {r:Rd} (h:r.bad=true):Zb most r=(0,r):=by unfold Zb;rw [if_pos h]
theorem ZhT {each:Int}:∀ (k:Nat) {r:Rd},r.bad=true->(ZeX k each r).2.bad=true
 |0,_,h=>h
 |k + 1,r,h=>by show (ZeX k each (Zb each r).2).2.bad=true;rw [ZbD h];exact ZhT k h
theorem Zop {each:Int}:∀ (k:Nat) {r:Rd},(ZeX k each r).2.bad=false->Zdj k each r=ZeX k each r
 |0,_,_=>rfl
 |k + 1,r,h=>by
  have hr:r.bad=false:=by cases e:r.bad with|false=>rfl|true=>rw [ZhT (k + 1) e] at h;cases h
  rw [Zcy,if_neg (by rw [hr];simp),Zop k h];rfl
theorem Zoe {each:Int}:∀ (k:Nat) {r:Rd},(Zdj k each r).2.bad=false->Zdj k each r=ZeX k each r
 |0,_,_=>rfl
 |k + 1,r,h=>by
  have hr:r.bad=false:=by cases e:r.bad with|false=>rfl|true=>rw [ZrL e (k + 1)] at h;rw [e] at h;cases h
  rw [Zcy,if_neg (by rw [hr];simp)] at h ⊢;rw [Zoe k h];rfl
theorem ZlV {most each:Int} {r:Rd} (h:r.bad=true):(ZeY most each r).2.bad=true:=by unfold ZeY;rw [ZbD h];exact ZhT _ h
theorem ZrM {most each:Int} {r:Rd} (h:r.bad=true):(ZcK most each r).2.bad=true:=by unfold ZcK;rw [ZbD h];show (Zdj 0 each r).2.bad=true;exact h
theorem Zka {most each:Int} {r:Rd} (h:(ZeY most each r).2.bad=false):ZcK most each r=ZeY most each r:=Zop _ h
theorem ZjU {most each:Int} {r:Rd} (h:(ZcK most each r).2.bad=false):ZcK most each r=ZeY most each r:=Zoe _ h
theorem ZrE {r:Rd} (h:r.bad=true):(ZcH r).2.bad=true:=by unfold ZcH;rw [ZbD h,ZbD h,ZbD h];exact ZlV h
theorem ZuA {r:Rd} (h:(ZcH r).2.bad=false):Zbi r=ZcH r:=by unfold Zbi ZcH;rw [Zka h]
theorem ZrB {r:Rd} (h:(Zbi r).2.bad=false):Zbi r=ZcH r:=by unfold Zbi ZcH;rw [ZjU h]
theorem ZeB:∀ (k:Nat) {r:Rd},r.bad=true->(Zc6 k r).2.bad=true
 |0,_,h=>h
 |k + 1,r,h=>ZeB k (ZrE h)
theorem Zm2 {r:Rd} (h:r.bad=true):∀ k,rHs k r=([],r)
 |0=>rfl
 |k + 1=>by rw [ZfJ,if_pos h]
theorem ZlA:∀ (k:Nat) {r:Rd},(Zc6 k r).2.bad=false->rHs k r=Zc6 k r
 |0,_,_=>rfl
 |k + 1,r,h=>by
  have hr:r.bad=false:=by cases e:r.bad with|false=>rfl|true=>rw [ZeB (k + 1) e] at h;cases h
  have h:(Zc6 k (ZcH r).2).2.bad=false:=h;have h2:(ZcH r).2.bad=false:=by cases e:(ZcH r).2.bad with|false=>rfl|true=>rw [ZeB k e] at h;cases h
  rw [ZfJ,if_neg (by rw [hr];simp),ZuA h2,ZlA k h];rfl
theorem Zv1:∀ (k:Nat) {r:Rd},(rHs k r).2.bad=false->rHs k r=Zc6 k r
 |0,_,_=>rfl
 |k + 1,r,h=>by
  have hr:r.bad=false:=by cases e:r.bad with|false=>rfl|true=>rw [Zm2 e (k + 1)] at h;rw [e] at h;cases h
  rw [ZfJ,if_neg (by rw [hr];simp)] at h ⊢;have h:(rHs k (Zbi r).2).2.bad=false:=h;have h2:(Zbi r).2.bad=false:=by cases e:(Zbi r).2.bad with|false=>rfl|true=>rw [Zm2 e k] at h;rw [e] at h;cases h
  rw [ZrB h2] at h ⊢;rw [Zv1 k h];rfl
theorem ZdH {a b:Rd} (h:a.bad=true->b.bad=true) (hb:b.bad=false):a.bad=false:=by
 cases e:a.bad with
 |false=>rfl
 |true=>rw [h e] at hb;cases hb
theorem ZrH {bs:List Int} (h:(Ziu bs).rd.bad=false):ZeC bs=Ziu bs:=by
 unfold Ziu at h;dsimp only at h;have h1:=ZdH (ZeB _) h;have h2:=ZdH (λ e=>by rw [ZbD e];exact e) h1;have h3:=ZdH ZlV h2;unfold ZeC Ziu;dsimp only;rw [Zka h3,Zka h2,ZlA _ h]
theorem ZwY {bs:List Int} (h:(ZeC bs).rd.bad=false):ZeC bs=Ziu bs:=by
 unfold ZeC at h;dsimp only at h;have h1:=ZdH (λ e=>by rw [Zm2 e];exact e) h;have h2:=ZdH (λ e=>by rw [ZbD e];exact e) h1;have h3:=ZdH ZrM h2;have e3:=ZjU h3;rw [e3] at h2 h;have e4:=ZjU h2;rw [e4] at h;unfold ZeC Ziu;dsimp only;rw [e3,e4,Zv1 _ h]
theorem ZqM {r:Rd} (h:ZF r=true):r.bad=false:=by
 unfold ZF at h;cases e:r.bad with
 |false=>rfl
 |true=>rw [e] at h;cases h
theorem ZlC (bs:List Int):ZF (ZeC bs).rd=ZF (Ziu bs).rd/\(ZF (Ziu bs).rd=true->ZeC bs=Ziu bs):=by
 constructor
 ·cases e:(Ziu bs).rd.bad with
  |false=>rw [ZrH e]
  |true=>
   cases e2:(ZeC bs).rd.bad with
   |false=>rw [ZwY e2]
   |true=>unfold ZF;rw [e,e2];rfl
 ·exact λ h=>ZrH (ZqM h)
theorem Zj8 {lim sold:List Int} {c many:Int} (hn:Z8 lim sold=true) (c0:0<=c) (c1:c<lim.length) (m0:1<=many) (m1:many<=10000) (h:Z8 lim (sold.set c.toNat (sold.getD c.toNat 0 + many))=true):(Zbc lim sold c many).2=0:=by
 obtain ⟨i1,i2,i3⟩:=ZT.1 hn;obtain ⟨_,_,k3⟩:=ZT.1 h;have hl:ZbJ lim sold c=(mnF (Zd8 lim sold) (c.toNat + 1),0):=by unfold ZbJ;rw [if_pos ⟨hn,c0,c1⟩]
 have hm:=Zos (Zd8 lim sold) (c.toNat + 1);have hle:many<=mnF (Zd8 lim sold) (c.toNat + 1):=by
  rcases hm.2.2 with e|⟨k,_,hk,e⟩
  ·omega
  ·rw [e]
   have hf:=Zeh (sold:=sold) (c:=c.toNat) (m:=many) (by omega) (lim.length - k) k (by omega);rw [if_pos (by omega)] at hf;have:=(k3 k (by omega)).2;unfold Zd8;omega
 unfold Zbc;rw [hl];dsimp only;rw [if_neg (by omega),if_neg (by omega)]
variable {f:PF} {r:RF}
theorem Zup {A C:List ZI} {h:ZI} {n:Int} (t:Tie f r) (g:ZaM r) (hL:r.L=A++h::C) (hA:Zcq h.owner A=none) (h4:n ∉ Zx r.L) (hb:0<=n/\n<Za5 r.rows r.grps) (hm:(h.seats.length:Int)<h.many):
  Tie (ZqY f h.owner n) { r with L:=A++h.put n::C }/\ZaM { r with L:=A++h.put n::C }:=by
 have hh:=g.each h (by rw [hL];simp);have hg:ZO h.owner f.hs=some h:=by rw [t.get g.rise,hL];exact Zku rfl hA
 have e:ZqY f h.owner n={ f with hs:=ZgQ h.owner (h.put n) f.hs,own:=Ze4 n h.owner f.own }:=by unfold ZqY;rw [hg]
 rw [e];have hnh:n ∉ h.seats:=λ e=>h4 (ZcP.2 ⟨h,by rw [hL];simp,e⟩);have hs:∀ x∈(h.put n).seats,x∈h.seats\/(x ∉ Zx r.L/\0<=x/\x<Za5 r.rows r.grps):=λ x hx=>by
  rcases Zb4.1 hx with rfl|hx
  ·exact .inr ⟨h4,hb⟩
  ·exact .inl hx
 refine ⟨ZmN (h':=h.put n) t g hL hA rfl rfl rfl (λ x hx=>(hs x hx).imp id (·.1)) (Zgu t.nod) λ x=>?_,Zkr (h':=h.put n) g hL rfl rfl rfl ?_ ?_ hs⟩
 ·rw [Zh8]
  show _=if x∈Zh3 n h.seats then some h.owner else _
  by_cases hx:x=n
  ·rw [if_pos hx,if_pos (Zb4.2 (.inl hx))]
  ·rw [if_neg hx]
   by_cases hx2:x∈h.seats
   ·rw [if_pos (Zb4.2 (.inr hx2))]
    exact (t.own x h.owner).2 ⟨h,by rw [hL];simp,rfl,hx2⟩
   ·rw [if_neg (λ e=>(Zb4.1 e).elim hx hx2),if_neg hx2]
 ·exact ZfI.2 (Zno (ZfI.1 hh.rise) hnh)
 ·show ((Zh3 n h.seats).length:Int)<=_
  rw [Zkl];omega
def SOk (N:Int) (T:List Int):List Int->Int->Prop
 |[],_=>True
 |n::l,last=>n ∉ T/\last<n/\n<N/\SOk N T l n
theorem ZmP (P:List ZI) (h:ZI):Zx (P++[h])=Zx P++h.seats:=by simp [Zx]
theorem ZqT {P:List ZI} {h:ZI}:∀ (l acc:List Int) (last:Int) {f:PF} {r:RF},Tie f r->ZaM r->r.L=P++[{ h with seats:=acc }]->(acc.length + l.length:Int)<=h.many->(∀ x∈acc,x<=last)->-1<=last->
  ((ZmZ h.owner (Za5 r.rows r.grps) l last f).2=true↔SOk (Za5 r.rows r.grps) (Zx P) l last)/\
  ((ZmZ h.owner (Za5 r.rows r.grps) l last f).2=true->Tie (ZmZ h.owner (Za5 r.rows r.grps) l last f).1 { r with L:=P++[{ h with seats:=acc++l }] }/\ZaM { r with L:=P++[{ h with seats:=acc++l }] })
 |[],acc,last,f,r,t,g,hL,_,_,_=>by
  refine ⟨⟨λ _=>trivial,λ _=>rfl⟩,λ _=>?_⟩;rw [List.append_nil,<-hL];exact ⟨t,g⟩
 |n::l,acc,last,f,r,t,g,hL,hm,hacc,hlast=>by
  rw [Zpx];have hown:Zcq h.owner P=none:=by
   have h5:=g.rise;rw [hL] at h5;refine Zci.2 λ x hx e=>?_;have:=(List.pairwise_append.1 h5).2.2 x hx _ (List.mem_singleton.2 rfl);dsimp only at this;omega
  have htk:Zx r.L=Zx P++acc:=by rw [hL,ZmP]
  rw [List.length_cons] at hm;show _/\_;by_cases h1:(ZO n f.own).isSome=true
  ·rw [if_pos h1]
   refine ⟨⟨λ e=>(by cases e),λ e=>?_⟩,λ e=>by cases e⟩;have h2:=(t.taken n).1 h1;rw [htk] at h2;rcases List.mem_append.1 h2 with h2|h2
   ·exact absurd h2 e.1
   ·have:=hacc n h2;have:=e.2.1;omega
  rw [if_neg h1];have hnt:n ∉ Zx r.L:=λ e=>h1 ((t.taken n).2 e);by_cases h2:n<=last
  ·rw [if_pos h2]
   exact ⟨⟨λ e=>(by cases e),λ e=>by have:=e.2.1;omega⟩,λ e=>by cases e⟩
  rw [if_neg h2];by_cases h3:n >= Za5 r.rows r.grps
  ·rw [if_pos h3]
   exact ⟨⟨λ e=>(by cases e),λ e=>by have:=e.2.2.1;omega⟩,λ e=>by cases e⟩
  rw [if_neg h3];have hsp:r.L=P++{ h with seats:=acc }::[]:=hL;have hins:Zh3 n acc=acc++[n]:=Zkm λ x hx=>by have:=hacc x hx;omega
  obtain ⟨t2,g2⟩:=Zup (h:={ h with seats:=acc }) t g hsp hown hnt ⟨by omega,by omega⟩ (by show (acc.length:Int)<h.many;omega);have e2:(ZI.put { h with seats:=acc } n)={ h with seats:=acc++[n] }:=by unfold ZI.put;rw [hins]
  rw [e2] at t2 g2;have ih:=ZqT l (acc++[n]) n t2 g2 rfl (by rw [List.length_append];simp;omega) (λ x hx=>by
   rcases List.mem_append.1 hx with hx|hx
   ·have:=hacc x hx;omega
   ·rw [List.mem_singleton.1 hx];exact Int.le_refl _) (by omega)
  refine ⟨ih.1.trans ⟨λ e=>⟨λ hn=>hnt (by rw [htk];exact List.mem_append_left _ hn),by omega,by omega,e⟩,λ e=>e.2.2.2⟩,λ e=>?_⟩;have h7:=ih.2 e;rw [List.append_assoc] at h7;exact h7
theorem ZoC {h:ZI}:∀ {P:List ZI},(∀ x∈P,x.owner<h.owner)->Zma h P=P++[h]
 |[],_=>rfl
 |x::P,hp=>by
  unfold Zma;rw [if_pos (hp x List.mem_cons_self),ZoC λ y hy=>hp y (List.mem_cons_of_mem _ hy)];rfl
structure ZDl (r:RF) (h:ZI):Prop where
 c:h.cls<r.lims.length
 m:1<=h.many
 n:(h.seats.length:Int)<=h.many
 s:SOk (Za5 r.rows r.grps) (Zx r.L) h.seats (-1)
 nest:Z8 r.lims (Z6 r.lims.length (r.L++[h]))=true
theorem Zht {h:ZI} (t:Tie f r) (g:ZaM r) (hin:ZdY h) (ho:1<=h.owner) (hlt:∀ x∈r.L,x.owner<h.owner):
  ((Zex f h).2=true↔ZDl r h)/\((Zex f h).2=true->Tie (Zex f h).1 { r with L:=r.L++[h] }/\ZaM { r with L:=r.L++[h] }):=by
 obtain ⟨t1,t2,t3⟩:=ZjG t g h.owner h.cls h.many;have hno:¬ (Zcq h.owner r.L).isSome=true:=by
  rw [Zci.2 λ x hx e=>by have:=hlt x hx;omega];simp
 have hio:=hin.o;have er:ZQ r h.owner h.cls h.many=if (Zbc r.lims r.sold h.cls h.many).2=0 then ({ r with L:=Zma ⟨h.owner,h.cls,h.many,[]⟩ r.L },0) else (r,(Zbc r.lims r.sold h.cls h.many).2):=by
  unfold ZQ;rw [if_neg (by omega),if_neg hno]
 have hins:Zma ⟨h.owner,h.cls,h.many,[]⟩ r.L=r.L++[⟨h.owner,h.cls,h.many,[]⟩]:=ZoC hlt;have hsl:∀ {L:List ZI},h.cls<r.lims.length->r.sold.set h.cls.toNat (r.sold.getD h.cls.toNat 0 + h.many)=Z6 r.lims.length (r.L++[h]):=λ hc=>Zd6 (List.perm_append_comm) hin.c.1 hc;unfold Zex;rw [t1,er];by_cases hs:(Zbc r.lims r.sold h.cls h.many).2=0
 ·rw [if_pos hs]
  rw [er,if_pos hs,hins] at t2 t3;obtain ⟨e1,e2,c0,c1,hm⟩:=ZhQ hs;rw [e1,hsl (L:=r.L) c1] at e2;rw [if_neg (by simp)];by_cases hn:(h.seats.length:Int)>h.many
  ·rw [if_pos hn]
   exact ⟨⟨λ e=>(by cases e),λ e=>by have:=e.n;omega⟩,λ e=>by cases e⟩
  rw [if_neg hn];have hlay:Za5 f.rows f.grps=Za5 r.rows r.grps:=by rw [t.rows,t.grps]
  rw [hlay];obtain ⟨i1,i2⟩:=ZqT (P:=r.L) (h:=h) h.seats [] (-1) t2 t3 rfl (by simp;omega) (λ x hx=>by cases hx) (by omega);refine ⟨i1.trans ⟨λ e=>⟨c1,hm,by omega,e,e2⟩,λ e=>e.s⟩,λ e=>?_⟩;have h7:=i2 e;rw [List.nil_append] at h7;exact h7
 ·rw [if_neg hs,if_pos hs]
  refine ⟨⟨λ e=>(by cases e),λ e=>?_⟩,λ e=>by cases e⟩;exact absurd (Zj8 g.nest hin.c.1 e.c e.m (by have:=hin.m.2;omega) (by rw [hsl (L:=r.L) e.c];exact e.nest)) hs
theorem Zmj {num rows:Int} {grps lims:List Int}:Zvh num rows grps lims=true↔1<=num/\ZdQ rows grps=true/\Zfo lims=true/\lims.getD 0 0=Za5 rows grps:=by
 unfold Zvh;simp only [Bool.and_eq_true,decide_eq_true_eq,beq_iff_eq];constructor
 ·rintro ⟨h1,h2,h3,h4⟩
  exact ⟨by omega,h2,(ZT.1 h3).1,h4⟩
 ·rintro ⟨h1,h2,h3,h4⟩
  exact ⟨by omega,h2,ZhP h3,h4⟩
theorem Zrc {N:Int} {T:List Int}:∀ {l:List Int} {last:Int},SOk N T l last↔∀ k (hk:k<l.length),l[k] ∉ T/\l[k]<N/\(if h:0<k then l[k - 1]<l[k] else last<l[k])
 |[],_=>by simp [SOk]
 |n::l,last=>by
  unfold SOk;rw [Zrc (l:=l) (last:=n)];constructor
  ·rintro ⟨h1,h2,h3,h4⟩ k hk
   rcases k with _|k
   ·exact ⟨h1,h3,h2⟩
   ·have h5:=h4 k (by simpa using hk)
    refine ⟨h5.1,h5.2.1,?_⟩;rw [dif_pos (by omega)];have h6:=h5.2.2;rcases k with _|k
    ·exact h6
    ·rw [dif_pos (by omega)] at h6;exact h6
  ·intro h
   have h0:=h 0 (by simp);refine ⟨h0.1,h0.2.2,h0.2.1,λ k hk=>?_⟩;have h5:=h (k + 1) (by simpa using hk);refine ⟨h5.1,h5.2.1,?_⟩;have h6:=h5.2.2;rw [dif_pos (by omega)] at h6;rcases k with _|k
   ·exact h6
   ·rw [dif_pos (by omega)];exact h6
structure Zt2 (x:Raw):Prop where
 num:x.num<=9999
 hs:∀ h∈x.L,ZdY h
def Raw.at (x:Raw) (j:Nat):PS:=(x.L.take j).foldl Zq8 (Zem x.num x.rows x.grps x.lims,Zvh x.num x.rows x.grps x.lims,0)
def Raw.pre (x:Raw) (j:Nat):RF:=⟨x.num,x.rows,x.grps,x.lims,x.L.take j⟩
def Znj (x:Raw) (j:Nat):Int:=if h:0<j/\j<=x.L.length then x.L[j - 1].owner else 0
theorem ZtV {x:Raw} {j:Nat} (h:j<x.L.length):x.at (j + 1)=Zq8 (x.at j) x.L[j]:=by
 unfold Raw.at;rw [List.take_add_one,List.getElem?_eq_getElem h,List.foldl_append];rfl
theorem Zv6 {L:List ZI} {o:Int} (h:OwR L):∀ (hl:0<L.length),L[L.length - 1].owner<o->∀ x∈L,x.owner<o:=λ hl hlast x hx=>by
 obtain ⟨i,hi,rfl⟩:=List.getElem_of_mem hx;by_cases e:i=L.length - 1
 ·subst e;exact hlast
 ·have:=List.pairwise_iff_getElem.1 h i (L.length - 1) hi (by omega) (by omega)
  omega
theorem Zon {x:Raw} (xi:Zt2 x) {j:Nat} (hj:j<x.L.length) (hr:∀ y∈x.L.take j,y.owner<x.L[j].owner):
  ZAd x.rf j hj↔(1<=x.L[j].owner/\(∀ h:0<j,x.L[j - 1].owner<x.L[j].owner)/\x.L[j].cls<x.lims.length/\1<=x.L[j].many/\(x.L[j].seats.length:Int)<=x.L[j].many/\SOk (Za5 x.rows x.grps) (Zx (x.L.take j)) x.L[j].seats (-1)):=by
 have hin:=xi.hs x.L[j] (List.getElem_mem _);rw [Zrc];constructor
 ·intro h
  refine ⟨h.o,h.p,h.c,h.m,h.n,λ k hk=>?_⟩;have h1:=h.s k hk;refine ⟨λ hm=>h1.1 (List.mem_append_left _ hm),h1.2.1,?_⟩;split
  ·exact h1.2.2 (by assumption)
  ·have:=hin.s x.L[j].seats[k] (List.getElem_mem _);omega
 ·rintro ⟨h1,h2,h3,h4,h5,h6⟩
  refine ⟨h1,h2,h3,h4,h5,λ k hk=>?_⟩;have h7:=h6 k hk;have hrise:∀ (t i:Nat) (hi:i + t<x.L[j].seats.length),0<t->x.L[j].seats[i]'(by omega)<x.L[j].seats[i + t]:=λ t=>by
   induction t with
   |zero=>intro i hi h0;omega
   |succ t ih=>
    intro i hi _;have h8:=(h6 (i + (t + 1)) hi).2.2;rw [dif_pos (by omega)] at h8;by_cases ht:t=0
    ·subst ht;exact h8
    ·have h9:=ih i (by omega) (by omega)
     have h8:x.L[j].seats[i + t]'(by omega)<x.L[j].seats[i + (t + 1)]:=h8;omega
  refine ⟨λ hm=>?_,h7.2.1,λ h0=>by have h8:=h7.2.2;rw [dif_pos h0] at h8;exact h8⟩;rcases List.mem_append.1 hm with hm|hm
  ·exact h7.1 hm
  ·obtain ⟨i,hi,he⟩:=List.getElem_of_mem hm
   rw [List.length_take] at hi;rw [List.getElem_take] at he;have hk':k<x.L[j].seats.length:=hk;have hi:i<min k x.L[j].seats.length:=hi;have he:x.L[j].seats[i]'(by omega)=x.L[j].seats[k]:=he;have h9:=hrise (k - i) i (by omega) (by omega);have e:i + (k - i)=k:=by omega
   simp only [e] at h9;omega
theorem ZnP {x:Raw} (xi:Zt2 x):∀ j,j<=x.L.length->(x.at j).2.2=Znj x j/\((x.at j).2.1=true->Tie (x.at j).1 (x.pre j)/\ZaM (x.pre j)/\∀ i (hi:i<x.L.length),i<j->ZAd x.rf i hi)
 |0,_=>by
  refine ⟨rfl,λ h=>?_⟩;obtain ⟨h1,h2,h3,h4⟩:=Zmj.1 h;refine ⟨ZqU,⟨⟨h1,xi.num⟩,h2,?_,h4,List.Pairwise.nil,λ h hh=>(by cases hh),List.Pairwise.nil⟩,λ i _ hi=>by omega⟩;show Z8 _ (Z6 _ [])=true;rw [ZfC];exact ZhP h3
 |j + 1,hj=>by
  have hj1:j<x.L.length:=by omega
  obtain ⟨i1,i2⟩:=ZnP xi j (by omega);have hlast:Znj x (j + 1)=x.L[j].owner:=by unfold Znj;rw [dif_pos ⟨by omega,hj⟩];rfl
  rw [ZtV hj1,hlast];unfold Zq8;by_cases hc:(x.at j).2.1=true/\x.L[j].owner>(x.at j).2.2
  ·rw [if_pos hc]
   refine ⟨rfl,λ h=>?_⟩;obtain ⟨t,g,hok⟩:=i2 hc.1;rw [i1] at hc;have hin:=xi.hs x.L[j] (List.getElem_mem _);have hlt:∀ y∈(x.pre j).L,y.owner<x.L[j].owner:=λ y hy=>by
    have hne:0<(x.pre j).L.length:=List.length_pos_iff.2 λ e=>by rw [e] at hy;cases hy
    refine Zv6 g.rise hne ?_ y hy;have hl:(x.pre j).L.length=j:=by show (x.L.take j).length=j;rw [List.length_take];omega
    have h2:=hc.2;unfold Znj at h2;rw [dif_pos ⟨by omega,by omega⟩] at h2;have h3:(x.pre j).L[(x.pre j).L.length - 1]=x.L[j - 1]:=by
     show (x.L.take j)[(x.L.take j).length - 1]'(by rw [List.length_take];omega)=_;rw [List.getElem_take]
     congr 1
     rw [List.length_take];omega
    rw [h3];exact h2
   have ho1:1<=x.L[j].owner:=by
    have h2:=hc.2;unfold Znj at h2;split at h2
    ·have:=(xi.hs x.L[j - 1] (List.getElem_mem _)).o;omega
    ·omega
   obtain ⟨r1,r2⟩:=Zht t g hin ho1 hlt;have e:{ x.pre j with L:=(x.pre j).L++[x.L[j]] }=x.pre (j + 1):=by
    unfold Raw.pre;rw [List.take_add_one,List.getElem?_eq_getElem hj1];rfl
   have h5:=r2 h;rw [e] at h5;refine ⟨h5.1,h5.2,λ i hi hij=>?_⟩;by_cases hie:i=j
   ·subst hie
    have ha:=r1.1 h;refine (Zon xi hj1 hlt).2 ⟨ho1,λ h0=>?_,ha.c,ha.m,ha.n,ha.s⟩;have h2:=hc.2;unfold Znj at h2;rw [dif_pos ⟨by omega,by omega⟩] at h2;exact h2
   ·exact hok i hi (by omega)
  ·rw [if_neg hc]
   exact ⟨rfl,λ h=>by cases h⟩
theorem Zv9 {x:Raw} (xi:Zt2 x) (m:Zo6 x.rf):∀ j,j<=x.L.length->(x.at j).2.1=true
 |0,_=>Zmj.2 ⟨m.num,m.lay,m.lim,m.l0⟩
 |j + 1,hj=>by
  have hj1:j<x.L.length:=by omega
  have ih:=Zv9 xi m j (by omega);obtain ⟨i1,i2⟩:=ZnP xi j (by omega);obtain ⟨t,g,hok⟩:=i2 ih;have hin:=xi.hs x.L[j] (List.getElem_mem _);have ok:=m.each j hj1;rw [ZtV hj1];have hgt:x.L[j].owner>(x.at j).2.2:=by
   rw [i1];unfold Znj;split
   ·rename_i h;exact ok.p h.1
   ·have:=ok.o;show 0<x.L[j].owner;exact this
  have hlt:∀ y∈(x.pre j).L,y.owner<x.L[j].owner:=λ y hy=>by
   have hne:0<(x.pre j).L.length:=List.length_pos_iff.2 λ e=>by rw [e] at hy;cases hy
   refine Zv6 g.rise hne ?_ y hy;have hl:(x.pre j).L.length=j:=by show (x.L.take j).length=j;rw [List.length_take];omega
   have h3:(x.pre j).L[(x.pre j).L.length - 1]=x.L[j - 1]:=by
    show (x.L.take j)[(x.L.take j).length - 1]'(by rw [List.length_take];omega)=_;rw [List.getElem_take]
    congr 1
    rw [List.length_take];omega
   rw [h3];exact ok.p (by omega)
  unfold Zq8;rw [if_pos ⟨ih,hgt⟩];refine (Zht t g hin ok.o hlt).1.2 ?_;have ha:=(Zon xi hj1 hlt).1 ok;refine ⟨ha.2.2.1,ha.2.2.2.1,ha.2.2.2.2.1,ha.2.2.2.2.2,?_⟩;have e:(x.pre j).L++[x.L[j]]=x.L.take (j + 1):=by
   show x.L.take j++_=_;rw [List.take_add_one,List.getElem?_eq_getElem hj1];rfl
  rw [e];show Z8 x.lims (Z6 x.lims.length (x.L.take (j + 1)))=true;refine Zsk m.nest (by show (Z6 _ _).length=(Z6 _ _).length;rw [Za1,Za1];rfl) λ k hk=>?_;have hk:k<x.lims.length:=hk;show 0<=(Z6 x.lims.length (x.L.take (j + 1))).getD k 0/\(Z6 x.lims.length (x.L.take (j + 1))).getD k 0<=(Z6 x.lims.length x.L).getD k 0;rw [Zbu hk,Zbu hk];have hmm:∀ y∈x.L,1<=y.many:=λ y hy=>by
   obtain ⟨i,hi,rfl⟩:=List.getElem_of_mem hy;exact (m.each i hi).m
  refine ⟨Zim λ y hy=>hmm y (List.mem_of_mem_take hy),?_⟩;have h8:Ze8 (k:Int) x.L=Ze8 (k:Int) (x.L.take (j + 1)) + Ze8 (k:Int) (x.L.drop (j + 1)):=by rw [<-ZeQ,List.take_append_drop]
  have h9:=Zim (k:=(k:Int)) (L:=x.L.drop (j + 1)) λ y hy=>hmm y (List.mem_of_mem_drop hy);omega
theorem ZAk (x:Raw):x.run=x.at x.L.length/\x.rf=x.pre x.L.length:=by
 constructor
 ·unfold Raw.run Raw.at;rw [List.take_length]
 ·unfold Raw.rf Raw.pre;rw [List.take_length]
theorem Zrp {x:Raw} (xi:Zt2 x):(x.run.2.1=true↔Zo6 x.rf)/\(x.run.2.1=true->Tie x.run.1 x.rf/\ZaM x.rf):=by
 obtain ⟨e1,e2⟩:=ZAk x;have h:=(ZnP xi x.L.length (Nat.le_refl _)).2;rw [<-e1,<-e2] at h;refine ⟨⟨λ hr=>?_,λ m=>by rw [e1];exact Zv9 xi m _ (Nat.le_refl _)⟩,λ hr=>⟨(h hr).1,(h hr).2.1⟩⟩;obtain ⟨t,g,hok⟩:=h hr;exact ⟨g.num.1,g.lay,(ZT.1 g.nest).1,g.l0,λ j hj=>hok j hj hj,g.nest⟩
theorem ZrG {bs:List Int} (hb:∀ y∈bs,0<=y/\y<256):Zt2 (Ziu bs):=by
 have hb0:∀ y∈(⟨bs,false⟩:Rd).bs,0<=y/\y<256:=hb;have h5:=Zd (most:=600) (Zkb (most:=8) (each:=10000) (Zkb (most:=4) (each:=10) (Zd (most:=60) (Zd (most:=9999) hb0))));exact ⟨(Zn (most:=9999) hb0 (by omega)).2,(Zi2 _ h5).1⟩
theorem ZxX {bs:List Int} (hb:∀ y∈bs,0<=y/\y<256):(Zz9 bs=none/\¬ (ZF (ZeC bs).rd=true/\Zo6 (ZeC bs).rf))\/(∃ f,Zz9 bs=some f/\ZF (ZeC bs).rd=true/\Zo6 (ZeC bs).rf/\Tie f (ZeC bs).rf/\ZaM (ZeC bs).rf):=by
 obtain ⟨w1,w2⟩:=ZlC bs;obtain ⟨r1,r2⟩:=Zrp (ZrG hb);by_cases h:ZF (Ziu bs).rd=true/\(Ziu bs).run.2.1=true
 ·right
  have e:=w2 h.1;rw [e];exact ⟨_,by unfold Zz9;rw [if_pos h],h.1,r1.1 h.2,r2 h.2⟩
 ·left
  refine ⟨by unfold Zz9;rw [if_neg h],λ h2=>h ?_⟩;rw [w1] at h2;rw [w2 h2.1] at h2;exact ⟨h2.1,r1.2 h2.2⟩
end
section
open Go Go.VC Tryz
theorem Zi3 {n:Nat} {most:Int} {rest:List Int} (h:n<18446744073709551616) (hm:(n:Int)<=most):Zb most ⟨Zec n++rest,false⟩=((n:Int),⟨rest,false⟩):=by
 unfold Zb;rw [if_neg (by simp)];dsimp only;rw [ZlO h];dsimp only;rw [if_pos ⟨rfl,hm⟩,List.drop_left]
theorem Zv {x most:Int} {rest:List Int} (h0:0<=x) (h1:x<=most) (h2:x<18446744073709551616):Zb most ⟨Zl [x]++rest,false⟩=(x,⟨rest,false⟩):=by
 obtain ⟨n,rfl⟩:=Int.eq_ofNat_of_zero_le h0;have e:Zl [(n:Int)]=Zec n:=by simp [Zl]
 rw [e];exact Zi3 (by omega) h1
theorem Zjd {each:Int} (he:each<18446744073709551616) {rest:List Int}:∀ {l:List Int},(∀ x∈l,0<=x/\x<=each)->ZeX l.length each ⟨Zl l++rest,false⟩=(l,⟨rest,false⟩)
 |[],_=>rfl
 |x::l,h=>by
  have h1:=h x List.mem_cons_self;rw [Zcd,List.append_assoc];show ((Zb each _).1::(ZeX l.length each (Zb each _).2).1,(ZeX l.length each (Zb each _).2).2)=_;rw [Zv h1.1 h1.2 (by omega)];dsimp only;rw [Zjd he λ y hy=>h y (List.mem_cons_of_mem _ hy)]
theorem Zgx {most each:Int} (he:each<18446744073709551616) {rest l:List Int} (hl:(l.length:Int)<=most) (hm:most<18446744073709551616) (h:∀ x∈l,0<=x/\x<=each):ZeY most each ⟨Zdl l++rest,false⟩=(l,⟨rest,false⟩):=by
 unfold ZeY Zdl;rw [List.append_assoc,Zv (by omega) hl (by omega)];exact Zjd he h
theorem Zpz {h:ZI} (hin:ZdY h) (rest:List Int):ZcH ⟨Ze1 h++rest,false⟩=(h,⟨rest,false⟩):=by
 have e:Ze1 h++rest=Zl [h.owner]++(Zl [h.cls]++(Zl [h.many]++(Zdl h.seats++rest))):=by
  unfold Ze1;rw [Zcd h.owner,Zcd h.cls];simp only [List.append_assoc]
 have:=hin.o;have:=hin.c;have:=hin.m;have:=hin.n;unfold ZcH;rw [e,Zv (by omega) (by omega) (by omega)];dsimp only;rw [Zv (by omega) (by omega) (by omega)];dsimp only;rw [Zv (by omega) (by omega) (by omega)];dsimp only;rw [Zgx (by omega) (by omega) (by omega) hin.s]
theorem ZgU {rest:List Int}:∀ {L:List ZI},(∀ h∈L,ZdY h)->Zc6 L.length ⟨ZaQ L++rest,false⟩=(L,⟨rest,false⟩)
 |[],_=>rfl
 |h::L,hin=>by
  have e:ZaQ (h::L)++rest=Ze1 h++(ZaQ L++rest):=by simp [ZaQ]
  rw [e];show ((ZcH _).1::(Zc6 L.length (ZcH _).2).1,(Zc6 L.length (ZcH _).2).2)=_;rw [Zpz (hin h List.mem_cons_self)];dsimp only;rw [ZgU λ x hx=>hin x (List.mem_cons_of_mem _ hx)]
variable {f:PF} {r:RF}
theorem Znw (g:ZaM r):∀ h∈r.L,ZdY h:=λ h hh=>by
 have h1:=g.each h hh;have h2:=g.len.2 h hh;have h3:=(Zan.1 (ZT.1 g.nest).1).1.2;have h4:=(ZcS r.rows r.grps).2;have:=h1.owner;have:=h1.cls;have:=h1.many;have:=h1.few;exact ⟨by omega,by omega,by omega,λ x hx=>by have:=h1.seats x hx;omega,by omega⟩
theorem ZdA (g:ZaM r):(∀ x∈r.lims,0<=x/\x<=10000)/\1<=r.lims.length/\r.lims.length<=8:=by
 obtain ⟨h1,h2⟩:=Zan.1 (ZT.1 g.nest).1;refine ⟨λ x hx=>?_,h1⟩;obtain ⟨i,hi,rfl⟩:=List.getElem_of_mem hx;exact (h2 i hi).1
theorem Zod (g:ZaM r):Ziu (ZbP r)=⟨r.num,r.rows,r.grps,r.lims,r.L,⟨[],false⟩⟩:=by
 obtain ⟨l1,l2,l3⟩:=Zaa.1 g.lay;obtain ⟨m1,m2,m3⟩:=ZdA g;have hlen:=g.len.1;have hnum:=g.num;have e:ZbP r=Zl [r.num]++(Zl [r.rows]++(Zdl r.grps++(Zdl r.lims++(Zl [(r.L.length:Int)]++(ZaQ r.L++[]))))):=by
  unfold ZbP Zwh;rw [Zcd r.num];simp only [List.append_assoc,List.append_nil]
 unfold Ziu;rw [e];dsimp only;rw [Zv (by omega) (by omega) (by omega)];dsimp only;rw [Zv (by omega) (by omega) (by omega)];dsimp only;rw [Zgx (by omega) (by omega) (by omega) (λ x hx=>by have:=l2 x hx;omega)];dsimp only;rw [Zgx (by omega) (by omega) (by omega) m1];dsimp only;rw [Zv (by omega) (by omega) (by omega)];dsimp only;rw [show ((r.L.length:Int)).toNat=r.L.length from rfl,ZgU (Znw g)]
theorem ZoD (g:ZaM r):Zo6 r:=by
 refine ⟨g.num.1,g.lay,(ZT.1 g.nest).1,g.l0,λ j hj=>?_,g.nest⟩;have hh:=g.each r.L[j] (List.getElem_mem _);refine ⟨hh.owner.1,λ h0=>List.pairwise_iff_getElem.1 g.rise (j - 1) j (by omega) hj (by omega),hh.cls.2,hh.many,hh.few,λ k hk=>⟨λ hm=>?_,(hh.seats _ (List.getElem_mem _)).2,λ h0=>hh.rise (k - 1) k hk (by omega)⟩⟩;rcases List.mem_append.1 hm with hm|hm
 ·obtain ⟨x,hx,hxm⟩:=ZcP.1 hm
  obtain ⟨i,hi,rfl⟩:=List.getElem_of_mem hx;rw [List.length_take] at hi;rw [List.getElem_take] at hxm;exact List.pairwise_iff_getElem.1 g.apart i j (by omega) hj (by omega) _ hxm (List.getElem_mem _)
 ·obtain ⟨i,hi,he⟩:=List.getElem_of_mem hm
  rw [List.length_take] at hi;rw [List.getElem_take] at he;have:=hh.rise i k hk (by omega);omega
theorem ZeI (g:ZaM r):ZBO r:=by
 obtain ⟨l1,l2,l3⟩:=Zaa.1 g.lay;obtain ⟨m1,m2,m3⟩:=ZdA g;have hlen:=g.len.1;have hnum:=g.num;refine ⟨by omega,by omega,λ x hx=>by have:=l2 x hx;omega,λ x hx=>by have:=m1 x hx;omega,by omega,by omega,λ h hh=>?_,by omega⟩;have hin:=Znw g h hh;have:=hin.o;have:=hin.c;have:=hin.m;have:=hin.n;exact ⟨by omega,by omega,by omega,λ x hx=>by have:=hin.s x hx;omega,by omega⟩
theorem ZqS (t:Tie f r) (g:ZaM r):ZwB f:=by
 have s:=ZeI g;have b:=t.bounds g;refine ⟨by rw [t.num];exact s.num,by rw [t.rows];exact s.rows,by rw [t.grps];exact s.grps,by rw [t.lims];exact s.lims,by omega,by omega,by rw [Zk5 t g.rise];exact s.hs,by omega⟩
theorem ZwN (t:Tie f r) (g:ZaM r):ZxR f=ZbP r:=by
 unfold ZxR ZbP;rw [t.num,t.rows,t.grps,t.lims,Zk5 t g.rise]
theorem ZwW (g:ZaM r):(∀ y∈ZbP r,0<=y/\y<256)/\(ZbP r).length<=6000000:=by
 have s:=ZeI g;obtain ⟨l1,l2,l3⟩:=Zaa.1 g.lay;obtain ⟨m1,m2,m3⟩:=ZdA g;have hlen:=g.len.1;have u2:ZeV [r.num,r.rows]:=by intro y hy;have:=s.num;have:=s.rows;simp at hy;omega
 have u1:ZeV [(r.L.length:Int)]:=by intro y hy;simp at hy;omega
 constructor
 ·intro y hy
  unfold ZbP Zwh at hy;simp only [List.mem_append] at hy;rcases hy with (((hy|hy)|hy)|hy)|hy
  ·exact Zb3 (Zcm u2) y hy
  ·exact ZfQ s.grps (by omega) y hy
  ·exact ZfQ s.lims (by omega) y hy
  ·exact Zb3 (Zcm u1) y hy
  ·exact Zh6 s.hs y hy
 ·have h1:=ZW (Zcm u2)
  have h2:=Zcg s.grps (by omega);have h3:=Zcg s.lims (by omega);have h4:=ZW (Zcm u1);have h5:=ZgB s.hs;simp only [List.length_cons,List.length_nil] at h1 h4;unfold ZbP Zwh;simp only [List.length_append];omega
theorem Zih (g:ZaM r):∃ f',Zz9 (ZbP r)=some f'/\Tie f' r:=by
 have e:=Zod g;have hw:ZF (Ziu (ZbP r)).rd=true:=by rw [e];rfl
 have hrf:(Ziu (ZbP r)).rf=r:=by rw [e];rfl
 obtain ⟨r1,r2⟩:=Zrp (ZrG (ZwW g).1);rw [hrf] at r1 r2;have hr:=r1.2 (ZoD g);exact ⟨_,by unfold Zz9;rw [if_pos ⟨hw,hr⟩],(r2 hr).1⟩
end
section
open Go Go.VC Tryz
variable {R:Cx} {Hs Rest:List HP} {w:World}
theorem ZeK {s:Sl} {bs:List Int} (hs:Ro R s (b8 bs)) (hl:bs.length<=1099511627776) (hw:Sat R Hs w):
  Zm prog 83 #[.slice s.a s.len s.cap] w λ v w'=>∃ t:Sl,v=.slice t.a t.len t.cap/\Sat R (Own t 5 (b8 (ZaZ bs))::Hs) w':=by
 have hlen:s.len=bs.length:=by have:=hs.len;simpa using this
 apply ZA3;unfold B83;rw [ZP,hlen];refine (ZbY (by omega) hw).u1 λ t w hw=>?_;refine ⟨t,rfl,?_⟩;rw [<-hlen];have hn:=Zbn (n:=bs.length) (by omega);have hsrc:Src prog 1 47 (.slice s.a s.len s.cap) bs.length (b8 bs) w:=by
  have:=ZwQ underlying47 hw hs (Zol _);simpa using this
 refine ZcY ZqG (s:=t) hw hsrc (Zol _) (by rw [List.length_map];omega) (by rw [List.length_map];omega) λ s2 w hw=>?_;exact ⟨s2,rfl,by simpa [b8,ZaZ] using hw⟩
theorem Zpd {h:ZY} {l bm bo:Nat} {s:Sl} {bs:List Int} {most:Int} (hm:most<9223372036854775808) (hl:bs.length<=1099511627776) (hb:∀ x∈bs,0<=x/\x<256) (hsub:∀ b o,h b=some o->R.m b=some o) (hr:SlR h s (b8 bs))
  (hw:Sat R (lp l s::lp bo ⟨none,0,0⟩::pts bm (.cells [nI most].toArray 3 (0,0))::Hs) w):
  Zba prog 153 #[nP l,nP bm,nP bo] w
   (λ ch w'=>ch=Zfb/\(∀ n k,ZaU bs=some (n,false,k)->¬ (0<=most/\n<=most/\n<=(bs.length:Int) - k))/\∃ s',Sat R (lp l s'::lp bo ⟨none,0,0⟩::pts bm (.cells [nI most].toArray 3 (0,0))::Hs) w')
   (λ v w'=>v=.tuple #[]/\∃ n k s' t,ZaU bs=some (n,false,k)/\(0<=most/\n<=most/\n<=(bs.length:Int) - k)/\SlR h s' (b8 (bs.drop (k + n.toNat)))/\
    Sat R (lp l s'::lp bo t::Own t 5 (b8 ((bs.drop k).take n.toNat))::pts bm (.cells [nI most].toArray 3 (0,0))::Hs) w'):=by
 apply Zzn;refine (Zjm hb hsub hr hw).use ?_ ?_
 rotate_left
 ·rintro _ w ⟨hp,rfl,s',hw⟩
  refine .inr ⟨_,rfl,rfl,?_,s',hw⟩;intro n k h;rw [hp] at h;cases h
 rintro _ w ⟨n,neg,k,s',hp,rfl,hs',hw⟩;obtain ⟨n0,n1,k0,k1,k2⟩:=ZeF hb hp;have no:(∀ n' k',ZaU bs=some (n',false,k')->¬ (0<=most/\n'<=most/\n'<=(bs.length:Int) - k'))->∀ {A:Prop} {e:Ending},(e=.panicked Zfb)->(e=.returned (.tuple #[])/\A)\/∃ ch,e=.panicked ch/\ch=Zfb/\(∀ n k,ZaU bs=some (n,false,k)->¬ (0<=most/\n<=most/\n<=(bs.length:Int) - k))/\∃ s',Sat R (lp l s'::lp bo ⟨none,0,0⟩::pts bm (.cells [nI most].toArray 3 (0,0))::Hs) w:=λ h A e he=>
  .inr ⟨_,he,rfl,h,s',hw⟩
 have same:∀ n' k',ZaU bs=some (n',false,k')->neg=false/\n'=n/\k'=k:=λ n' k' h=>by
  rw [hp] at h;simp only [Option.some.injEq,Prod.mk.injEq] at h;exact ⟨h.2.1,h.1.symm,h.2.2.symm⟩
 refine .inl ⟨n,neg,rfl,Br.nb (λ h=>?_) (λ h=>?_)⟩
 rotate_left
 ·refine Zda (λ h=>by cases h) (λ _=>no (λ n' k' h'=>?_) rfl)
  rw [(same n' k' h').1] at h;cases h
 subst h;have hw2:Sat R (pts bm (.cells [nI most].toArray 3 (0,0))::lp l s'::lp bo ⟨none,0,0⟩::Hs) w:=hw.arr;refine Zc.mk rfl ⟨most,At.own (eqS hw2) (by exact ⟨rfl,trivial⟩),Br.d (λ h1=>?_) (λ h1=>?_)⟩
 rotate_left
 ·refine Zda (λ h=>by cases h) (λ _=>no (λ n' k' h' h2=>by omega) rfl)
 refine Zc.mk rfl ⟨most,At.own (eqS hw2) (by exact ⟨rfl,trivial⟩),?_⟩;rw [ZP];refine Br.d (λ h2=>?_) (λ h2=>?_)
 rotate_left
 ·refine Zda (λ h=>by cases h) (λ _=>no (λ n' k' h' h3=>by have:=(same n' k' h').2.1;omega) rfl)
 have hsl:s'.len=bs.length - k:=by have:=hs'.len;simpa using this
 refine Zc.mk rfl ⟨s',oA hw,?_⟩;rw [ZP,hsl];refine Zda (λ h3=>.inl ⟨rfl,?_⟩) (λ h3=>?_)
 rotate_left
 ·have h3:=of_decide_eq_false h3
  refine no (λ n' k' h' h4=>?_) rfl;have:=same n' k' h';omega
 have h3:=of_decide_eq_true h3;rw [Zf];obtain ⟨m,rfl⟩:=Int.eq_ofNat_of_zero_le n0;have hm':SlR R.m s' (b8 (bs.drop k)):=hs'.mono hsub;refine (Zhw (k:=m) hm' hw).use ?_ ?_
 rotate_left
 ·rintro _ w ⟨h4,_⟩
  simp at h4;omega
 rintro _ w ⟨_,rfl,hw⟩;refine .inl ⟨⟨s'.a,m,s'.cap⟩,rfl,?_⟩;have ht:SlR R.m ⟨s'.a,m,s'.cap⟩ (b8 ((bs.drop k).take m)):=by
  have:=hm'.take (k:=m) (by simp;omega);rwa [<-List.map_take] at this
 refine (ZeR (s:=⟨s'.a,m,s'.cap⟩) (ht.ro (by simp;omega)) (by simp;omega) hw).u1 λ t w hw=>?_;refine .inl ⟨t,rfl,?_⟩;have hw:Sat R (lp bo ⟨none,0,0⟩::Own t 5 (b8 ((bs.drop k).take m))::lp l (Zcn s' m)::pts bm (.cells [nI most].toArray 3 (0,0))::Hs) w:=hw.arr;refine sRu hw λ w hw=>?_;have hw:=hw.re (lp bo t);refine ⟨rfl,m,k,Zcn s' m,t,hp,⟨by omega,h2,by omega⟩,?_,?_⟩
 ·have:=hs'.drop (k:=m) (by simp;omega)
  rw [<-List.map_drop,List.drop_drop] at this;exact this
 ·rw [Int.toNat_natCast];exact hw.arr
theorem ZiU {r:Nat} {rd:Rd} {most:Int} (hm:most<9223372036854775808) (hl:rd.bs.length<=1099511627776) (hb:∀ x∈rd.bs,0<=x/\x<256) (hw:Sat R (Zaz r rd::Hs) w):
  Zm prog 94 #[nP r,nI most] w λ v w'=>∃ t:Sl,v=.slice t.a t.len t.cap/\Sat R (Own t 5 (b8 (ZD most rd).1)::Zaz r (ZD most rd).2::Hs) w':=by
 apply ZAY;refine Za hw λ bm w hw=>Za hw λ bo w hw=>?_;have hw:Sat R (Zaz r rd::lp bo ⟨none,0,0⟩::pts bm (.cells [nI most].toArray 3 (0,0))::Hs) w:=by
  have hw:Sat R (lp bo ⟨none,0,0⟩::pts bm (.cells [nI most].toArray 3 (0,0))::Zaz r rd::Hs) w:=hw;exact hw.arr
 refine (ZgT (α:=(Int × Nat) × Sl) (f:=λ y=>rd.bs.drop (y.1.2 + y.1.1.toNat)) (G:=λ y=>ZaU rd.bs=some (y.1.1,false,y.1.2)/\(0<=most/\y.1.1<=most/\y.1.1<=(rd.bs.length:Int) - y.1.2)) (N:=∀ n k,ZaU rd.bs=some (n,false,k)->¬ (0<=most/\n<=most/\n<=(rd.bs.length:Int) - k))
  (Hs1:=λ y=>lp bo y.2::Own y.2 5 (b8 ((rd.bs.drop y.1.2).take y.1.1.toNat))::pts bm (.cells [nI most].toArray 3 (0,0))::Hs)
  (Hs2:=lp bo ⟨none,0,0⟩::pts bm (.cells [nI most].toArray 3 (0,0))::Hs) hw ?_).use ?_
 ·intro _ x l s A B w hsub hs hw
  refine Zbq.mk (by kernel_rfl) ?_;have hw2:Sat (R.add x) (lp l s::lp bo ⟨none,0,0⟩::pts bm (.cells [nI most].toArray 3 (0,0))::A::B::Hs) w:=hw.arr;refine (Zpd (h:=x) hm hl hb hsub hs hw2).use ?_ ?_
  ·rintro _ w ⟨rfl,n,k,s',t,hp,hn,hs',hw⟩
   exact .inl ⟨rfl,((n,k),t),s',⟨hp,hn⟩,hs',hw.arr⟩
  ·rintro _ w ⟨rfl,hn,s',hw⟩
   exact .inr ⟨rfl,hn,s',hw.arr⟩
 ·rintro _ w ⟨rfl,h⟩
  refine ⟨rfl,?_⟩;rcases h with ⟨hbad,hw⟩|⟨hbad,⟨⟨n,k⟩,t⟩,⟨hp,hn⟩,hw⟩|⟨hbad,hno,hw⟩
  ·have hw:Sat R (lp bo ⟨none,0,0⟩::Zaz r rd::pts bm (.cells [nI most].toArray 3 (0,0))::Hs) w:=hw.swap
   refine ⟨⟨none,0,0⟩,oA hw,?_⟩;unfold ZD;rw [if_pos hbad];exact ⟨_,rfl,Own.nil (hw.drop.cons λ _ h=>h.drop)⟩
  ·have hw:Sat R (lp bo t::Own t 5 (b8 ((rd.bs.drop k).take n.toNat))::Zaz r ⟨rd.bs.drop (k + n.toNat),false⟩::pts bm (.cells [nI most].toArray 3 (0,0))::Hs) w:=hw.arr
   refine ⟨t,oA hw,?_⟩;unfold ZD;rw [if_neg (by rw [hbad];simp),hp];simp only;rw [if_pos ⟨trivial,hn⟩];exact ⟨_,rfl,hw.drop.cons λ _ h=>h.cons λ _ h=>h.drop⟩
  ·have hw:Sat R (lp bo ⟨none,0,0⟩::Zaz r ⟨rd.bs,true⟩::pts bm (.cells [nI most].toArray 3 (0,0))::Hs) w:=hw.swap
   refine ⟨⟨none,0,0⟩,oA hw,?_⟩;have e:ZD most rd=([],⟨rd.bs,true⟩):=by
    unfold ZD;rw [if_neg (by rw [hbad];simp)];cases hp:ZaU rd.bs with
    |none=>rfl
    |some p=>
     obtain ⟨n,neg,k⟩:=p;simp only;rw [if_neg];rintro ⟨rfl,h⟩;exact hno n k hp h
   rw [e];exact ⟨_,rfl,Own.nil (hw.drop.cons λ _ h=>h.drop)⟩
theorem ZcJ {most:Int} {rd:Rd} (hb:∀ x∈rd.bs,0<=x/\x<256):(∀ x∈(ZD most rd).1,0<=x/\x<256)/\(∀ x∈(ZD most rd).2.bs,0<=x/\x<256):=by
 unfold ZD;split
 ·exact ⟨by simp,hb⟩
 ·split
  ·split
   ·exact ⟨λ x hx=>hb x (List.mem_of_mem_drop (List.mem_of_mem_take hx)),λ x hx=>hb x (List.mem_of_mem_drop hx)⟩
   ·exact ⟨by simp,hb⟩
  ·exact ⟨by simp,hb⟩
theorem Zdv {most:Int} {rd:Rd}:(ZD most rd).1.length<=rd.bs.length/\(ZD most rd).2.bs.length<=rd.bs.length:=by
 unfold ZD;split
 ·simp
 ·split
  ·split
   ·simp;omega
   ·simp
  ·simp
theorem Zal {most:Int} {rd:Rd}:(Zb most rd).2.bs.length<=rd.bs.length:=by
 unfold Zb;split
 ·simp
 ·split
  ·split
   ·simp
   ·simp
  ·simp
end
end Go.Proofs.YtlplemdmegpoeaaGreatDoor
namespace Go.VC
section
open Ieee
def ZgJ:Int:=2 ^ 2200
def Zun:Datum->Option Int
 | .nan ..=>none
 | .infinity s=>some (if s then -ZgJ else ZgJ)
 | .number s m i=>some (signed s m (i + 1074).toNat)
theorem Zlj (s:Bool) (m k:Nat):signed s m k=(if s then -1 else 1) * ((m:Int) * 2 ^ k):=by
 unfold signed;cases s<;>simp [Nat.shiftLeft_eq]
theorem Ztl {a b:Int} {c:Int} (h:0<c):compare (a * c) (b * c)=compare a b:=by
 simp only [compare,compareOfLessAndEq];have h1:a * c<b * c↔a<b:=⟨λ h2=>Int.lt_of_mul_lt_mul_right h2 (by omega),λ h2=>Int.mul_lt_mul_of_pos_right h2 h⟩;have h2:a * c=b * c↔a=b:=⟨λ h3=>Int.eq_of_mul_eq_mul_right (by omega) h3,λ h3=>by rw [h3]⟩;simp only [h1,h2]
theorem Zli (s:Bool) (m k c:Nat):signed s m (k + c)=signed s m k * 2 ^ c:=by
 rw [Zlj,Zlj,Int.pow_add];rw [Int.mul_assoc,Int.mul_assoc]
theorem Zm0 {x:Nat} {s:Bool} {m:Nat} {i:Int} (h:double.read x=.number s m i):(-1074<=i/\i<=971)/\m<2 ^ 53:=by
 unfold Format.read at h;simp only [ZgI,ZnE,Zii,ZoR] at h;split at h
 ·rename_i hr
  simp only [Datum.number.injEq] at h;obtain ⟨_,rfl,rfl⟩:=h;exact ⟨⟨by omega,by omega⟩,by omega⟩
 ·split at h
  ·rename_i hr
   simp only [Datum.number.injEq] at h;obtain ⟨_,rfl,rfl⟩:=h;refine ⟨⟨by omega,?_⟩,by omega⟩;have:x % 9223372036854775808 / 4503599627370496<=2046:=by omega
   omega
  ·split at h<;>cases h
theorem Zxw (n:Nat):(2:Int) ^ n=((2 ^ n:Nat):Int):=by rw [Int.natCast_pow];rfl
theorem ZnM (n:Nat):(0:Int)<2 ^ n:=Int.pow_pos (by omega)
theorem ZAo {m k n N:Nat} (hm:m<2 ^ 53) (hk:k<=n) (hN:53 + n<N):m * 2 ^ k<2 ^ N:=by
 have h1:m * 2 ^ k<=2 ^ 53 * 2 ^ n:=Nat.mul_le_mul (by omega) (Nat.pow_le_pow_right (by omega) hk);rw [<-Nat.pow_add] at h1;exact Nat.lt_of_le_of_lt h1 (Nat.pow_lt_pow_right (by omega) hN)
theorem ZqN {x:Nat} {s:Bool} {m:Nat} {i:Int} (h:double.read x=.number s m i): -ZgJ<signed s m (i + 1074).toNat/\signed s m (i + 1074).toNat<ZgJ:=by
 obtain ⟨⟨h1,h2⟩,h3⟩:=Zm0 h;have hk:(i + 1074).toNat<=2045:=by omega
 have hp:m * 2 ^ (i + 1074).toNat<2 ^ 2200:=ZAo (N:=2200) (n:=2045) h3 hk (by omega);have hp2:((m * 2 ^ (i + 1074).toNat:Nat):Int)<ZgJ:=by
  unfold ZgJ;rw [Zxw];exact Int.ofNat_lt.2 hp
 have hb:(0:Int)<ZgJ:=by unfold ZgJ;exact ZnM 2200
 have e:signed s m (i + 1074).toNat=if s then -((m * 2 ^ (i + 1074).toNat:Nat):Int) else ((m * 2 ^ (i + 1074).toNat:Nat):Int):=by
  unfold signed;rw [Nat.shiftLeft_eq]
 rw [e];generalize m * 2 ^ (i + 1074).toNat=n at *;cases s<;>simp<;>omega
theorem Zr8 (x y:Nat):double.order x y=match Zun (double.read x),Zun (double.read y) with
  |some a,some b=>some (compare a b)
  |_,_=>none:=by
 have hb:(0:Int)<ZgJ:=by unfold ZgJ;exact ZnM 2200
 have lt_cmp:∀ a b:Int,a<b->compare a b=.lt:=λ a b h=>by simp only [compare,compareOfLessAndEq,if_pos h]
 have gt_cmp:∀ a b:Int,b<a->compare a b=.gt:=λ a b h=>by simp only [compare,compareOfLessAndEq];rw [if_neg (by omega),if_neg (by omega)]
 have eq_cmp:∀ a:Int,compare a a=.eq:=λ a=>by simp [compare,compareOfLessAndEq]
 unfold Format.order;cases hx:double.read x with
 |nan s t=>cases double.read y<;>rfl
 |infinity s=>
  cases hy:double.read y with
  |nan=>rfl
  |infinity t=>
   show some (compare t.toNat s.toNat)=some (compare (if s then -ZgJ else ZgJ) (if t then -ZgJ else ZgJ))
   cases s<;>cases t
   ·simp only [Bool.false_eq_true,if_false];rw [eq_cmp];rfl
   ·simp only [Bool.false_eq_true,if_false,if_true];rw [gt_cmp _ _ (by omega)];rfl
   ·simp only [Bool.false_eq_true,if_false,if_true];rw [lt_cmp _ _ (by omega)];rfl
   ·simp only [if_true];rw [eq_cmp];rfl
  |number t n j=>
   have:=ZqN hy;show some (if s then Ordering.lt else .gt)=some (compare (if s then -ZgJ else ZgJ) (signed t n (j + 1074).toNat))
   cases s
   ·simp only [Bool.false_eq_true,if_false];rw [gt_cmp _ _ (by omega)]
   ·simp only [if_true];rw [lt_cmp _ _ (by omega)]
 |number s m i=>
  cases hy:double.read y with
  |nan=>rfl
  |infinity t=>
   have:=ZqN hx;show some (if t then Ordering.gt else .lt)=some (compare (signed s m (i + 1074).toNat) (if t then -ZgJ else ZgJ))
   cases t
   ·simp only [Bool.false_eq_true,if_false];rw [lt_cmp _ _ (by omega)]
   ·simp only [if_true];rw [gt_cmp _ _ (by omega)]
  |number t n j=>
   obtain ⟨⟨i1,i2⟩,_⟩:=Zm0 hx;obtain ⟨⟨j1,j2⟩,_⟩:=Zm0 hy;show some (compare (signed s m (i - min i j).toNat) (signed t n (j - min i j).toNat))=some (compare (signed s m (i + 1074).toNat) (signed t n (j + 1074).toNat));have e1:(i + 1074).toNat=(i - min i j).toNat + (min i j + 1074).toNat:=by omega
   have e2:(j + 1074).toNat=(j - min i j).toNat + (min i j + 1074).toNat:=by omega
   rw [e1,e2,Zli,Zli,Ztl (Int.pow_pos (by omega))]
def kvF (x:Nat):Int:=match Zun (double.read x) with|none=>-ZgJ - 1|some v=>v
def ZmH (x:Nat):Bool:=(Zun (double.read x)).isNone
theorem Zu5 {x:Nat} (h:ZmH x=false): -ZgJ<=kvF x:=by
 have hb:(0:Int)<ZgJ:=by unfold ZgJ;exact ZnM 2200
 unfold ZmH at h;unfold kvF;cases hr:double.read x with
 |nan s t=>rw [hr] at h;cases h
 |infinity s=>
  show -ZgJ<=if s then -ZgJ else ZgJ
  split<;>omega
 |number s m i=>have:=(ZqN hr).1;show -ZgJ<=signed s m (i + 1074).toNat;omega
theorem ZgX {x:Nat} (h:ZmH x=true):kvF x=-ZgJ - 1:=by
 unfold ZmH at h;unfold kvF;cases hv:Zun (double.read x) with
 |none=>rfl
 |some v=>rw [hv] at h;cases h
theorem Zsa {x y:Nat} (hx:ZmH x=false) (hy:ZmH y=false):(double.order x y==some .lt)=decide (kvF x<kvF y)/\(double.order x y==some .eq)=decide (kvF x=kvF y)/\(double.order x y==some .gt)=decide (kvF y<kvF x):=by
 rw [Zr8];unfold ZmH at hx hy;unfold kvF;cases hvx:Zun (double.read x) with
 |none=>rw [hvx] at hx;cases hx
 |some a=>
  cases hvy:Zun (double.read y) with
  |none=>rw [hvy] at hy;cases hy
  |some b=>
   dsimp only;simp only [compare,compareOfLessAndEq];by_cases h1:a<b
   ·rw [if_pos h1]
    refine ⟨by rw [decide_eq_true h1];rfl,by rw [decide_eq_false (by omega)];rfl,by rw [decide_eq_false (by omega)];rfl⟩
   ·rw [if_neg h1]
    by_cases h2:a=b
    ·rw [if_pos h2]
     refine ⟨by rw [decide_eq_false h1];rfl,by rw [decide_eq_true h2];rfl,by rw [decide_eq_false (by omega)];rfl⟩
    ·rw [if_neg h2]
     refine ⟨by rw [decide_eq_false h1];rfl,by rw [decide_eq_false h2];rfl,by rw [decide_eq_true (by omega)];rfl⟩
theorem Zhe {x y:Nat} (h:ZmH x=true\/ZmH y=true):double.order x y=none:=by
 rw [Zr8];unfold ZmH at h;cases hvx:Zun (double.read x) with
 |none=>rfl
 |some a=>
  cases hvy:Zun (double.read y) with
  |none=>rfl
  |some b=>rw [hvx,hvy] at h;simp at h
theorem Zok (x:Nat):(double.order x x==some .eq)=!ZmH x:=by
 cases h:ZmH x with
 |true=>rw [Zhe (.inl h)];rfl
 |false=>rw [(Zsa h h).2.1];simp
def Zfi (a b:Nat):Int:=if kvF a<kvF b then -1 else if kvF a=kvF b then 0 else 1
end
def ZmI (b:Nat):Nat:=if b<9223372036854775808 then b + 9223372036854775808 else 18446744073709551615 - b
def ofF (k:Nat):Nat:=if 9223372036854775808<=k then k - 9223372036854775808 else 18446744073709551615 - k
theorem ZAv {b:Nat} (h:b<18446744073709551616):ofF (ZmI b)=b:=by
 unfold ofF ZmI;split<;>split<;>omega
theorem ZAE {k:Nat} (h:k<18446744073709551616):ZmI (ofF k)=k:=by
 unfold ofF ZmI;split<;>split<;>omega
theorem Zoz {b:Nat} (h:b<18446744073709551616):ZmI b<18446744073709551616:=by
 unfold ZmI;split<;>omega
theorem ZC0 {k:Nat} (h:k<18446744073709551616):ofF k<18446744073709551616:=by
 unfold ofF;split<;>omega
structure Wt where
 id:Int
 cls:Int
 many:Int
 time:Int
 sc:Nat
deriving DecidableEq
def Wt.Ok (w:Wt):Prop:=(1<=w.id/\w.id<=28629151)/\(0<=w.cls/\w.cls<=7)/\(1<=w.many/\w.many<=600)/\(0<=w.time/\w.time<=1099511627776)
instance (w:Wt):Decidable w.Ok:=by unfold Wt.Ok;infer_instance
def Wt.ahead (a b:Wt):Bool:=if kvF a.sc=kvF b.sc then (if a.time=b.time then decide (a.id<b.id) else decide (a.time<b.time)) else decide (kvF b.sc<kvF a.sc)
theorem Zgj {a b:Wt}:a.ahead b=true↔kvF b.sc<kvF a.sc\/kvF a.sc=kvF b.sc/\(a.time<b.time\/a.time=b.time/\a.id<b.id):=by
 unfold Wt.ahead;split
 ·split
  ·simp;omega
  ·simp;omega
 ·simp;omega
theorem ZdU {a b c:Wt} (h1:a.ahead b=true) (h2:b.ahead c=true):a.ahead c=true:=by
 rw [Zgj] at *;omega
theorem ZtZ {a b:Wt} (h:a.id≠b.id) (h1:a.ahead b=false):b.ahead a=true:=by
 rw [Zgj];have:¬ a.ahead b=true:=by rw [h1];simp
 rw [Zgj] at this;omega
def Wt.ord (a b:Wt):Int:=if Zfi b.sc a.sc≠0 then Zfi b.sc a.sc else if a.time<b.time then -1 else if b.time<a.time then 1 else if a.id<b.id then -1 else if b.id<a.id then 1 else 0
theorem Zr9 {a b:Wt}:a.ord b<0↔a.ahead b=true:=by
 rw [Zgj];unfold Wt.ord Zfi
 repeat' split
 all_goals first|omega|(simp at *;omega)
def QSt (q:List Wt):Prop:=q.Pairwise λ a b=>a.ahead b=true
def Zo4 (q:List Wt):Prop:=q.Pairwise λ a b=>a.id≠b.id
structure QOk (q:List Wt):Prop where
 st:QSt q
 ids:Zo4 q
 ok:∀ w∈q,w.Ok
 fl:∀ w∈q,w.sc<18446744073709551616
 len:q.length<=200
theorem QOk.nil:QOk []:=⟨List.Pairwise.nil,List.Pairwise.nil,λ _ h=>(by cases h),λ _ h=>(by cases h),by simp⟩
def ZgA (w:Wt) (q:List Wt):List Wt:=q.takeWhile (λ a=>a.ahead w)++w::q.dropWhile (λ a=>a.ahead w)
theorem Zch (w a:Wt) (q:List Wt):ZgA w (a::q)=if a.ahead w then a::ZgA w q else w::a::q:=by
 unfold ZgA;rw [List.takeWhile_cons,List.dropWhile_cons];split<;>rfl
theorem Zb7 {w x:Wt}:∀ {q:List Wt},x∈ZgA w q↔x=w\/x∈q
 |[]=>by simp [ZgA]
 |a::q=>by
  rw [Zch];split
  ·rw [List.mem_cons,Zb7,List.mem_cons]
   constructor
   ·rintro (h|h|h)<;>simp [h]
   ·rintro (h|h|h)<;>simp [h]
  ·rw [List.mem_cons]
theorem Zko {w:Wt}:∀ {q:List Wt},(ZgA w q).length=q.length + 1
 |[]=>rfl
 |a::q=>by
  rw [Zch];split
  ·rw [List.length_cons,Zko,List.length_cons]
  ·rfl
theorem Znp {w:Wt}:∀ {q:List Wt},QSt q->(∀ x∈q,x.id≠w.id)->QSt (ZgA w q)
 |[],_,_=>List.Pairwise.cons (λ _ h=>(by cases h)) List.Pairwise.nil
 |a::q,h,hid=>by
  have h1:=List.pairwise_cons.1 h;rw [Zch];split
  ·rename_i ha
   refine List.Pairwise.cons (λ x hx=>?_) (Znp h1.2 λ x hx=>hid x (by simp [hx]));rcases Zb7.1 hx with rfl|hx
   ·exact ha
   ·exact h1.1 x hx
  ·rename_i ha
   have hwa:w.ahead a=true:=ZtZ (hid a (by simp)) (by simpa using ha);refine List.Pairwise.cons (λ x hx=>?_) h;rcases List.mem_cons.1 hx with rfl|hx
   ·exact hwa
   ·exact ZdU hwa (h1.1 x hx)
theorem Zhj {w:Wt}:∀ {q:List Wt},Zo4 q->(∀ x∈q,x.id≠w.id)->Zo4 (ZgA w q)
 |[],_,_=>List.Pairwise.cons (λ _ h=>(by cases h)) List.Pairwise.nil
 |a::q,h,hid=>by
  have h1:=List.pairwise_cons.1 h;rw [Zch];split
  ·refine List.Pairwise.cons (λ x hx=>?_) (Zhj h1.2 λ x hx=>hid x (by simp [hx]))
   rcases Zb7.1 hx with rfl|hx
   ·exact hid a (by simp)
   ·exact h1.1 x hx
  ·refine List.Pairwise.cons (λ x hx=>?_) h
   exact λ e=>hid x hx e.symm
theorem ZoB {w:Wt}:∀ {q:List Wt},(∀ x∈q,x.ahead w=true)->ZgA w q=q++[w]
 |[],_=>rfl
 |a::q,h=>by rw [Zch,if_pos (h a (by simp)),ZoB λ x hx=>h x (by simp [hx])];rfl
theorem Zxx {w:Wt} {q:List Wt} {i:Nat} (hst:QSt q) (h1:i=0\/∃ h:i - 1<q.length,q[i - 1].ahead w=true) (h2:∀ h:i<q.length,q[i].ahead w=false) (hi:i<=q.length):ZgA w q=q.take i++w::q.drop i:=by
 induction q generalizing i with
 |nil=>cases i with
  |zero=>rfl
  |succ n=>simp at hi
 |cons a q ih=>
  have hp:=List.pairwise_cons.1 hst;rw [Zch];cases i with
  |zero=>rw [if_neg (by have:=h2 (by simp);simp at this;simp [this])];rfl
  |succ n=>
   have ha:a.ahead w=true:=by
    rcases h1 with h1|⟨hl,h1⟩
    ·omega
    ·cases n with
     |zero=>simpa using h1
     |succ m=>
      have hm:m<q.length:=by simp at hl;omega
      exact ZdU (hp.1 q[m] (List.getElem_mem hm)) (by simpa using h1)
   rw [if_pos ha,ih hp.2 ?_ (λ hl=>by have:=h2 (by simp;omega);simpa using this) (by simp at hi;exact hi)]
   ·rfl
   ·cases n with
    |zero=>exact .inl rfl
    |succ m=>
     refine .inr ⟨by simp at hi;omega,?_⟩;rcases h1 with h1|⟨hl,h1⟩
     ·omega
     ·simpa using h1
def Ze7 (id:Int) (q:List Wt):Bool:=q.any λ w=>decide (w.id=id)
def ZcL (q:List Wt) (w:Wt):List Wt × Int:=
 if ¬ w.Ok then (q,1) else if Ze7 w.id q then (q,7) else if 200<=q.length then (q,3) else (ZgA w q,0)
def Zig (id:Int):List Wt->List Wt
 |[]=>[]
 |w::q=>if w.id=id then q else w::Zig id q
def Zv3 (q:List Wt) (id:Int):List Wt × Int:=if Ze7 id q then (Zig id q,0) else (q,2)
theorem Zhk {id:Int} {q:List Wt}:Ze7 id q=true↔∃ w∈q,w.id=id:=by
 unfold Ze7;simp
theorem Znu {id:Int} {q:List Wt}:Ze7 id q=false↔∀ w∈q,w.id≠id:=by
 unfold Ze7;simp
theorem ZeN {id:Int}:∀ {q:List Wt},(Zig id q).Sublist q
 |[]=>List.Sublist.refl _
 |w::q=>by
  show (if w.id=id then q else w::Zig id q).Sublist _
  split
  ·exact List.sublist_cons_self _ _
  ·exact ZeN.cons_cons _
theorem Zjw {id:Int}:∀ {q:List Wt},Ze7 id q=true->∃ A w C,q=A++w::C/\w.id=id/\(∀ x∈A,x.id≠id)/\Zig id q=A++C
 |[],h=>by cases h
 |w::q,h=>by
  by_cases e:w.id=id
  ·exact ⟨[],w,q,rfl,e,λ _ h=>(by cases h),by show (if w.id=id then q else _)=_;rw [if_pos e];rfl⟩
  ·have h2:Ze7 id q=true:=by
    rw [Zhk] at *;obtain ⟨x,hx,hi⟩:=h;rcases List.mem_cons.1 hx with rfl|hx
    ·exact absurd hi e
    ·exact ⟨x,hx,hi⟩
   obtain ⟨A,x,C,rfl,hx,hA,hd⟩:=Zjw h2;refine ⟨w::A,x,C,rfl,hx,λ y hy=>?_,?_⟩
   ·rcases List.mem_cons.1 hy with rfl|hy
    ·exact e
    ·exact hA y hy
   ·show (if w.id=id then _ else w::Zig id _)=_
    rw [if_neg e,hd];rfl
theorem ZkE {id:Int} {q:List Wt} (h:Zo4 q) {x:Wt}:x∈Zig id q↔x∈q/\x.id≠id:=by
 induction q with
 |nil=>simp [Zig]
 |cons w q ih=>
  have hp:=List.pairwise_cons.1 h;show x∈(if w.id=id then q else w::Zig id q)↔_
  split
  ·rename_i e
   constructor
   ·exact λ hx=>⟨by simp [hx],λ e2=>hp.1 x hx (by rw [e,e2])⟩
   ·rintro ⟨hx,hn⟩
    rcases List.mem_cons.1 hx with rfl|hx
    ·exact absurd e hn
    ·exact hx
  ·rename_i e
   rw [List.mem_cons,ih hp.2,List.mem_cons];constructor
   ·rintro (rfl|⟨h1,h2⟩)
    ·exact ⟨.inl rfl,e⟩
    ·exact ⟨.inr h1,h2⟩
   ·rintro ⟨rfl|h1,h2⟩
    ·exact .inl rfl
    ·exact .inr ⟨h1,h2⟩
theorem QOk.del {q:List Wt} (h:QOk q) (id:Int):QOk (Zig id q):=
 ⟨h.st.sublist ZeN,h.ids.sublist ZeN,λ w hw=>h.ok w (ZeN.subset hw),λ w hw=>h.fl w (ZeN.subset hw),Nat.le_trans ZeN.length_le h.len⟩
theorem QOk.ins {q:List Wt} (h:QOk q) {w:Wt} (hw:w.Ok) (hf:w.sc<18446744073709551616) (hn:Ze7 w.id q=false) (hl:q.length<200):QOk (ZgA w q):=by
 have hn':=Znu.1 hn;refine ⟨Znp h.st hn',Zhj h.ids hn',λ x hx=>?_,λ x hx=>?_,by rw [Zko];omega⟩
 ·rcases Zb7.1 hx with rfl|hx
  ·exact hw
  ·exact h.ok x hx
 ·rcases Zb7.1 hx with rfl|hx
  ·exact hf
  ·exact h.fl x hx
def ZdT (left:List Int) (w:Wt):Bool:=decide (w.cls<left.length) && decide (w.many<=left.getD w.cls.toNat 0)
def ZaD (q:List Wt) (left:List Int):Option Wt:=q.find? (ZdT left)
theorem ZpC {q:List Wt} {left:List Int} {w:Wt} (h:ZaD q left=some w):w∈q/\ZdT left w=true:=
 ⟨List.mem_of_find?_eq_some h,List.find?_some h⟩
def ZmS:List Int:=[65,66,67,68,69,70,71,72,74,75,76,77,78,80,81,82,84,85,86,87,88,89,90,50,51,52,53,54,55,56,57]
theorem Zrg:ZmS.length=31:=rfl
def Zdp (c:Int):Nat->List Int->Int
 |_,[]=>-1
 |i,x::l=>if x=c then i else Zdp c (i + 1) l
def ZM (c:Int):Int:=Zdp c 0 ZmS
theorem ZgM (c:Int):∀ (i:Nat) (l:List Int),Zdp c i l=-1\/(i<=Zdp c i l/\Zdp c i l<i + l.length)
 |_,[]=>.inl rfl
 |i,x::l=>by
  unfold Zdp;split
  ·right;simp;omega
  ·rcases ZgM c (i + 1) l with h|h
   ·exact .inl h
   ·right;simp;omega
theorem ZnW (c:Int):ZM c=-1\/(0<=ZM c/\ZM c<31):=by
 have:=ZgM c 0 ZmS;rw [Zrg] at this;unfold ZM;omega
def Zu1 (l:List Int):Int:=l.foldl (λ n d=>n * 31 + d) 0
def ZdK:Int->List Int->Int
 |_,[]=>0
 |k,d::l=>k * d + ZdK (k + 1) l
theorem Zui (k:Int) (a b:List Int):ZdK k (a++b)=ZdK k a + ZdK (k + a.length) b:=by
 induction a generalizing k with
 |nil=>simp [ZdK]
 |cons x a ih=>simp only [List.cons_append,ZdK,ih,List.length_cons];rw [show k + 1 + (a.length:Int)=k + ((a.length + 1:Nat):Int) by omega];omega
theorem Zu0 (a:List Int) (d:Int):Zu1 (a++[d])=Zu1 a * 31 + d:=by simp [Zu1]
def ZdX (n:Int):List Int:=[n / 923521 % 31,n / 29791 % 31,n / 961 % 31,n / 31 % 31,n % 31]
theorem ZxT (n:Int):∀ d∈ZdX n,0<=d/\d<31:=by
 intro d hd;simp only [ZdX,List.mem_cons,List.not_mem_nil,or_false] at hd;omega
def ZAa (n:Int):Int:=(31 - ZdK 2 (ZdX n) % 31) % 31
def ZhB (d:Int):Int:=ZmS.getD d.toNat 0
def Zxn (n:Int):List Int:=(ZdX n++[ZAa n]).map ZhB
def Zcf (bs:List Int):Int × Int:=
 if bs.length≠6\/(∃ c∈bs,ZM c<0) then (0,6)
 else if (ZdK 2 ((bs.take 5).map ZM) + ZM (bs.getD 5 0)) % 31≠0 then (0,6)
 else (Zu1 ((bs.take 5).map ZM),0)
theorem Zot (n:Int):(Zxn n).length=6:=rfl
theorem Zx4 (n:Int):0<=ZAa n/\ZAa n<31:=by unfold ZAa;omega
theorem Zss:∀ {l:List Int} {a:Int} {k:Nat},(∀ d∈l,0<=d/\d<31)->(0<=a/\a<31 ^ k)->0<=l.foldl (λ n d=>n * 31 + d) a/\l.foldl (λ n d=>n * 31 + d) a<31 ^ (k + l.length)
 |[],_,_,_,h=>h
 |d::l,a,k,hd,h=>by
  have h2:=hd d (by simp);have h3:=Zss (l:=l) (a:=a * 31 + d) (k:=k + 1) (λ x hx=>hd x (by simp [hx])) (by rw [Int.pow_succ];omega);rw [List.length_cons,show k + (l.length + 1)=k + 1 + l.length by omega];exact h3
theorem Zxm {l:List Int} (h:∀ d∈l,0<=d/\d<31):0<=Zu1 l/\Zu1 l<31 ^ l.length:=by
 have:=Zss (a:=0) (k:=0) h ⟨by omega,by simp⟩;rw [Nat.zero_add] at this;exact this
end Go.VC
namespace Go.Proofs.YtlplemdmegpoeaaGreatDoor
section
open Go Go.VC Tryz
def ZG {α:Type} (one:Rd->α × Rd):Nat->Rd->List α × Rd
 |0,r=>([],r)
 |n + 1,r=>((one r).1::(ZG one n (one r).2).1,(ZG one n (one r).2).2)
theorem Za3 {α:Type} (one:Rd->α × Rd) (n:Nat) (r:Rd):ZG one (n + 1) r=((one r).1::(ZG one n (one r).2).1,(ZG one n (one r).2).2):=rfl
theorem Za8 {α:Type} (one:Rd->α × Rd):∀ (n:Nat) (r:Rd),(ZG one n r).1.length=n
 |0,_=>rfl
 |n + 1,r=>by rw [Za3,List.length_cons,Za8 one n]
theorem Zbr {α:Type} (one:Rd->α × Rd):∀ (k:Nat) (r:Rd),ZG one (k + 1) r=((ZG one k r).1++[(one (ZG one k r).2).1],(one (ZG one k r).2).2)
 |0,_=>rfl
 |k + 1,r=>by
  rw [Za3,Zbr one k (one r).2];rfl
theorem Zcx {α:Type} {one:Rd->α × Rd} {P:Rd->Prop} {Q:α->Prop} (h:∀ r,P r->Q (one r).1/\P (one r).2):∀ (n:Nat) {r:Rd},P r->(∀ x∈(ZG one n r).1,Q x)/\P (ZG one n r).2
 |0,_,hr=>⟨λ _ hx=>(by cases hx),hr⟩
 |n + 1,r,hr=>by
  have h1:=h r hr;have h2:=Zcx h n h1.2;refine ⟨λ x hx=>?_,h2.2⟩;rcases List.mem_cons.1 hx with rfl|hx
  ·exact h1.1
  ·exact h2.1 x hx
theorem ZdO {α:Type} {one:Rd->α × Rd} {code:α->List Int} {rest:List Int}:∀ {l:List α},(∀ x∈l,∀ more,one ⟨code x++more,false⟩=(x,⟨more,false⟩))->ZG one l.length ⟨(l.map code).flatten++rest,false⟩=(l,⟨rest,false⟩)
 |[],_=>rfl
 |x::l,h=>by
  rw [List.length_cons,Za3,List.map_cons,List.flatten_cons,List.append_assoc,h x (by simp)];dsimp only;rw [ZdO λ y hy=>h y (by simp [hy])]
def Zr (l:List Int):Prop:=∀ x∈l,0<=x/\x<256
def ZbA (most:Int) (r:Rd):ByteArray × Rd:=(VC.strOf (ZD most r).1,(ZD most r).2)
def ZcU (r:Rd):Nat × Rd:=(ofF (Zb 18446744073709551615 r).1.toNat,(Zb 18446744073709551615 r).2)
def Zq7 (s:ByteArray):List Int:=ZaZ (ZX s)
def Zwf (x:Nat):List Int:=Zec (ZmI x)
theorem ZcI {d rest:List Int} {most:Int} (hl:d.length<1000000) (hm:(d.length:Int)<=most):ZD most ⟨ZaZ d++rest,false⟩=(d,⟨rest,false⟩):=by
 unfold ZD ZaZ;rw [if_neg (by simp)];dsimp only;rw [List.append_assoc,ZlO (by omega)];dsimp only;have hn:=Zbn (n:=d.length) (by omega);rw [if_pos ⟨rfl,by omega,hm,by simp only [List.length_append];omega⟩,List.drop_left,Int.toNat_natCast,List.take_left,<-List.drop_drop,List.drop_left,List.drop_left]
theorem Zp8 {x:Nat} (hx:x<18446744073709551616) {rest:List Int}:ZcU ⟨Zwf x++rest,false⟩=(x,⟨rest,false⟩):=by
 have:=Zoz hx;unfold ZcU Zwf;rw [Zi3 this (by omega)];dsimp only;rw [Int.toNat_natCast,ZAv hx]
theorem Zew {most:Int} {rd:Rd} (hb:Zr rd.bs):Zr (ZbA most rd).2.bs:=(ZcJ hb).2
theorem ZhJ {most:Int} {rd:Rd} (hb:Zr rd.bs):(ZD most rd).1.length<=most.toNat:=by
 unfold ZD;split
 ·simp
 ·split
  ·split
   ·rename_i h;rw [List.length_take];omega
   ·simp
  ·simp
theorem ZiN (l:List Int):(VC.strOf l).size=l.length:=by
 show (l.map λ n=>UInt8.ofNat n.toNat).toArray.size=_;rw [List.size_toArray,List.length_map]
theorem Zf5 {rd:Rd} (hb:Zr rd.bs):Zr (ZcU rd).2.bs:=Zd hb
theorem Zkx {rd:Rd} (hb:Zr rd.bs):(ZcU rd).1<18446744073709551616:=by
 have:=Zn (most:=18446744073709551615) hb (by omega);exact ZC0 (by omega)
structure Cm where
 kind:Int
 pnr:ByteArray
 flt:Int
 cls:Int
 many:Int
 time:Int
 sc:Nat
 lab:ByteArray
 rows:Int
 grps:List Int
 parts:List Nat
def Zg5 (n:Int):Prop:=0<=n/\n<=9999
structure ZaL (c:Cm):Prop where
 flt:Zg5 c.flt
 cls:Zg5 c.cls
 many:Zg5 c.many
 rows:Zg5 c.rows
 grps:∀ n∈c.grps,Zg5 n
 pnr:c.pnr.size<=16
 lab:c.lab.size<=16
 gl:c.grps.length<=16
 pl:c.parts.length<=16
 kind:1<=c.kind/\c.kind<=9
 time:0<=c.time/\c.time<=1099511627776
structure FltC (c:Cm):Prop where
 sc:c.sc<18446744073709551616
 parts:∀ x∈c.parts,x<18446744073709551616
def ZAT (r:Rd):Cm × Rd:=
 let k:=Zb 9 r
 let p:=ZbA 16 k.2
 let f:=Zb 9999 p.2
 let c:=Zb 9999 f.2
 let m:=Zb 9999 c.2
 let t:=Zb 1099511627776 m.2
 let s:=ZcU t.2
 let l:=ZbA 16 s.2
 let w:=Zb 9999 l.2
 let n:=Zb 16 w.2
 let g:=ZG (Zb 9999) n.1.toNat n.2
 let q:=Zb 16 g.2
 let x:=ZG ZcU q.1.toNat q.2
 (⟨k.1,p.1,f.1,c.1,m.1,t.1,s.1,l.1,w.1,g.1,x.1⟩,x.2)
structure Rp where
 code:Int
 pnr:ByteArray
 state:Int
 flt:Int
 cls:Int
 many:Int
 time:Int
 left:List Int
 labs:List ByteArray
def nn (n:Int):Int:=max n 0
def rpB (r:Rp):List Int:=
 Zl [nn r.code]++(Zq7 r.pnr++(Zl [nn r.state]++(Zl [nn r.flt]++(Zl [nn r.cls]++(Zl [nn r.many]++(Zl [nn r.time]++(Zl [(r.left.length:Int)]++(Zl (r.left.map nn)++(Zl [(r.labs.length:Int)]++(r.labs.map Zq7).flatten)))))))))
structure Zt1 (r:Rp):Prop where
 code:0<=r.code/\r.code<=1099511627776
 pnr:r.pnr.size<=16
 state:0<=r.state/\r.state<=1099511627776
 flt:0<=r.flt/\r.flt<=1099511627776
 cls:0<=r.cls/\r.cls<=1099511627776
 many:0<=r.many/\r.many<=1099511627776
 time:0<=r.time/\r.time<=1099511627776
 ll:r.left.length<=8
 left:∀ n∈r.left,0<=n/\n<=1099511627776
 bl:r.labs.length<=600
 labs:∀ s∈r.labs,s.size<=16
theorem Zcu {n:Int} (h:0<=n):nn n=n:=by unfold nn;omega
theorem ZAx {l:List Int} (h:∀ n∈l,0<=n):l.map nn=l:=by
 induction l with
 |nil=>rfl
 |cons x l ih=>rw [List.map_cons,Zcu (h x (by simp)),ih λ y hy=>h y (by simp [hy])]
end
end Go.Proofs.YtlplemdmegpoeaaGreatDoor
namespace Go.VC
section
section
variable {α:Type} {k:α->Int}
def ZaO (k:α->Int) (l:List α):Prop:=l.Pairwise λ a b=>k a<k b
def Zxr (k:α->Int) (n:Int) (l:List α):Option α:=l.find? λ x=>decide (k x=n)
def Ze0 (k:α->Int) (n:Int) (f:α->α) (l:List α):List α:=l.map λ x=>if k x=n then f x else x
def ZoA (k:α->Int) (n:Int) (l:List α):List α:=l.filter λ x=>!decide (k x=n)
def ZqC (k:α->Int) (x:α) (l:List α):List α:=l.takeWhile (λ y=>decide (k y<k x))++x::l.dropWhile (λ y=>decide (k y<k x))
theorem ZaO.uniq {l:List α} (h:ZaO k l) {a b:α} (ha:a∈l) (hb:b∈l) (e:k a=k b):a=b:=by
 induction l with
 |nil=>cases ha
 |cons x l ih=>
  have hp:=List.pairwise_cons.1 h;rcases List.mem_cons.1 ha with e1|h1
  ·rcases List.mem_cons.1 hb with e2|h2
   ·rw [e1,e2]
   ·have:=hp.1 b h2;rw [e1] at e;omega
  ·rcases List.mem_cons.1 hb with e2|h2
   ·have:=hp.1 a h1;rw [e2] at e;omega
   ·exact ih hp.2 h1 h2
theorem Zef {n:Int} {l:List α} {x:α} (h:Zxr k n l=some x):x∈l/\k x=n:=
 ⟨List.mem_of_find?_eq_some h,by have:=List.find?_some h;simpa using this⟩
theorem Zeg {n:Int} {l:List α}:Zxr k n l=none↔∀ x∈l,k x≠n:=by
 unfold Zxr;rw [List.find?_eq_none];simp
theorem Zhi {n:Int} {l:List α} (h:ZaO k l) {x:α}:Zxr k n l=some x↔x∈l/\k x=n:=by
 refine ⟨Zef,λ⟨h1,h2⟩=>?_⟩;cases hg:Zxr k n l with
 |none=>exact absurd h2 (Zeg.1 hg x h1)
 |some y=>
  have:=Zef hg;rw [h.uniq this.1 h1 (by omega)]
theorem Z9 {n:Int} {f:α->α} {l:List α} {y:α}:y∈Ze0 k n f l↔∃ x∈l,y=if k x=n then f x else x:=by
 unfold Ze0;rw [List.mem_map];exact ⟨λ⟨x,h1,h2⟩=>⟨x,h1,h2.symm⟩,λ⟨x,h1,h2⟩=>⟨x,h1,h2.symm⟩⟩
theorem Zcv {n:Int} {l:List α} {y:α}:y∈ZoA k n l↔y∈l/\k y≠n:=by
 unfold ZoA;rw [List.mem_filter];simp
theorem Zki {n:Int} {f:α->α} {l:List α}:(Ze0 k n f l).length=l.length:=List.length_map _
theorem ZfU {n:Int} {f:α->α} {l:List α} (h:ZaO k l) (hf:∀ x∈l,k x=n->k (f x)=n):ZaO k (Ze0 k n f l):=by
 unfold ZaO Ze0;rw [List.pairwise_map];refine List.Pairwise.imp_of_mem (λ {a b} ha hb hab=>?_) h;have h1:k (if k a=n then f a else a)=k a:=by
  split
  ·rename_i e;rw [hf a ha e,e]
  ·rfl
 have h2:k (if k b=n then f b else b)=k b:=by
  split
  ·rename_i e;rw [hf b hb e,e]
  ·rfl
 rw [h1,h2];exact hab
theorem ZsH {n:Int} {l:List α} (h:ZaO k l):ZaO k (ZoA k n l):=h.sublist List.filter_sublist
theorem ZsF {n:Int} {f:α->α} {l:List α} (h:∀ x∈l,k x≠n):Ze0 k n f l=l:=by
 induction l with
 |nil=>rfl
 |cons a l ih=>
  show (if k a=n then f a else a)::Ze0 k n f l=_
  rw [if_neg (h a (by simp)),ih λ x hx=>h x (by simp [hx])]
theorem ZsI {n:Int} {l:List α} (h:∀ x∈l,k x≠n):ZoA k n l=l:=by
 unfold ZoA;rw [List.filter_eq_self];intro x hx;simpa using h x hx
theorem Zu6 {n:Int} {f:α->α} {A C:List α} {x:α} (hx:k x=n) (h:ZaO k (A++x::C)):Ze0 k n f (A++x::C)=A++f x::C:=by
 have hp:=List.pairwise_append.1 h;have hc:=List.pairwise_cons.1 hp.2.1;have e1:Ze0 k n f A=A:=ZsF λ y hy=>by have:=hp.2.2 y hy x (by simp);omega
 have e2:Ze0 k n f C=C:=ZsF λ y hy=>by have:=hc.1 y hy;omega
 show List.map _ (A++x::C)=_;rw [List.map_append,List.map_cons,if_pos hx];show Ze0 k n f A++f x::Ze0 k n f C=_;rw [e1,e2]
theorem Zu8 {n:Int} {A C:List α} {x:α} (hx:k x=n) (h:ZaO k (A++x::C)):ZoA k n (A++x::C)=A++C:=by
 have hp:=List.pairwise_append.1 h;have hc:=List.pairwise_cons.1 hp.2.1;have e1:ZoA k n A=A:=ZsI λ y hy=>by have:=hp.2.2 y hy x (by simp);omega
 have e2:ZoA k n C=C:=ZsI λ y hy=>by have:=hc.1 y hy;omega
 show List.filter _ (A++x::C)=_;rw [List.filter_append,List.filter_cons,if_neg (by simpa using hx)];show ZoA k n A++ZoA k n C=_;rw [e1,e2]
theorem ZfX (x a:α) (l:List α):ZqC k x (a::l)=if k a<k x then a::ZqC k x l else x::a::l:=by
 unfold ZqC;rw [List.takeWhile_cons,List.dropWhile_cons];by_cases h:k a<k x
 ·rw [decide_eq_true h,if_pos h];rfl
 ·rw [decide_eq_false h,if_neg h];rfl
theorem ZdP {x y:α}:∀ {l:List α},y∈ZqC k x l↔y=x\/y∈l
 |[]=>by simp [ZqC]
 |a::l=>by
  rw [ZfX];split
  ·rw [List.mem_cons,ZdP,List.mem_cons]
   constructor
   ·rintro (h|h|h)<;>simp [h]
   ·rintro (h|h|h)<;>simp [h]
  ·rw [List.mem_cons]
theorem Zoy {x:α}:∀ {l:List α},(ZqC k x l).length=l.length + 1
 |[]=>rfl
 |a::l=>by
  rw [ZfX];split
  ·rw [List.length_cons,Zoy,List.length_cons]
  ·rfl
theorem Zl4 {x:α}:∀ {l:List α},ZaO k l->(∀ y∈l,k y≠k x)->ZaO k (ZqC k x l)
 |[],_,_=>List.Pairwise.cons (λ _ h=>(by cases h)) List.Pairwise.nil
 |a::l,h,hn=>by
  have hp:=List.pairwise_cons.1 h;rw [ZfX];split
  ·rename_i ha
   refine List.Pairwise.cons (λ y hy=>?_) (Zl4 hp.2 λ y hy=>hn y (by simp [hy]));rcases ZdP.1 hy with rfl|hy
   ·exact ha
   ·exact hp.1 y hy
  ·rename_i ha
   have:=hn a (by simp);refine List.Pairwise.cons (λ y hy=>?_) h;rcases List.mem_cons.1 hy with rfl|hy
   ·omega
   ·have:=hp.1 y hy;omega
theorem Zl5 {x:α}:∀ {l:List α},(ZqC k x l).Perm (x::l)
 |[]=>List.Perm.refl _
 |a::l=>by
  rw [ZfX];split
  ·exact (Zl5.cons a).trans (List.Perm.swap x a l)
  ·exact List.Perm.refl _
theorem Zp2 {l:List α} {x:α} (h:ZaO k l) (hx:∀ y∈l,k y<k x):ZaO k (l++[x]):=by
 refine List.pairwise_append.2 ⟨h,List.pairwise_singleton _ _,λ a ha b hb=>?_⟩;rw [List.mem_singleton.1 hb];exact hx a ha
theorem ZaO.ne {l:List α} (h:ZaO k l):l.Pairwise λ a b=>k a≠k b:=h.imp λ hab e=>by omega
end
theorem Zj5 {l m:List Int} (h:l.Nodup) (hs:∀ x∈l,x∈m):l.length<=m.length:=by
 induction l generalizing m with
 |nil=>simp
 |cons a l ih=>
  have hp:=List.nodup_cons.1 h;have ha:=hs a (by simp);have h2:=ih (m:=m.erase a) hp.2 λ x hx=>by
   refine (List.mem_erase_of_ne ?_).2 (hs x (by simp [hx]));rintro rfl;exact hp.1 hx
  have h3:=List.length_erase_of_mem ha;have h4:0<m.length:=List.length_pos_of_mem ha;rw [List.length_cons];omega
theorem Zsi {l m:List Int} (hl:l.Nodup) (hm:m.Nodup) (h:∀ x,x∈l↔x∈m):l.length=m.length:=by
 have h1:=Zj5 hl λ x hx=>(h x).1 hx;have h2:=Zj5 hm λ x hx=>(h x).2 hx;omega
end
theorem ZoM:∀ (k:Nat) (d:List Int),d.length=k->(∀ x∈d,0<=x/\x<256)->d.head?≠some 0->dig (Zfd 0 d).toNat=d
 |0,d,hl,_,_=>by
  rw [List.length_eq_zero_iff.1 hl];exact Zbp
 |k + 1,d,hl,hb,hh=>by
  have hne:d≠[]:=by rintro rfl;simp at hl
  obtain ⟨d',b,rfl⟩:∃ d' b,d=d'++[b]:=⟨d.dropLast,d.getLast hne,(List.dropLast_concat_getLast hne).symm⟩;have hb':∀ x∈d',0<=x/\x<256:=λ x hx=>hb x (by simp [hx]);have hb0:=hb b (by simp);have hv:=Zhs (acc:=0) (Int.le_refl _) hb';rw [Zd4];have hz:(Zfd 0 d' * 256 + b).toNat≠0:=by
   cases d' with
   |nil=>
    have:b≠0:=by simpa using hh
    rw [Zul];omega
   |cons x l=>
    have hx0:x≠0:=by simpa using hh
    have hxb:=hb' x (by simp);intro h0;have hv0:Zfd 0 (x::l)=0:=by omega
    rw [Zfz] at hv0;have mono:∀ (l:List Int) (a:Int),0<a->(∀ y∈l,0<=y/\y<256)->0<Zfd a l:=by
     intro l
     induction l with
     |nil=>intro a ha _;exact ha
     |cons y l ih=>
      intro a ha hy;rw [Zfz];have:=hy y (by simp);exact ih _ (by omega) λ z hz=>hy z (by simp [hz])
    have:=mono l (0 * 256 + x) (by omega) λ y hy=>hb' y (by simp [hy]);omega
  rw [Zdn hz];have e1:(Zfd 0 d' * 256 + b).toNat / 256=(Zfd 0 d').toNat:=by omega
  have e2:(((Zfd 0 d' * 256 + b).toNat % 256:Nat):Int)=b:=by omega
  rw [e1,e2];simp at hl;rw [ZoM k d' hl hb' ?_];cases d' with
  |nil=>simp
  |cons x l=>simpa using hh
theorem Zr6 {l:List Int} {n:Int} {k:Nat} (hb:∀ x∈l,0<=x/\x<256) (h:ZaU l=some (n,false,k)):l=Zec n.toNat++l.drop k:=by
 unfold ZaU at h;split at h
 ·cases h
 ·rename_i c rest
  simp only at h;by_cases hc16:16<=c
  ·rw [if_pos hc16] at h
   generalize (c - 16).toNat=v at h;split at h
   ·simp only [Option.some.injEq,Prod.mk.injEq] at h
    obtain ⟨_,hneg,_⟩:=h;simp [hc16] at hneg
   ·cases h
  rw [if_neg hc16] at h;generalize hw:c.toNat=w at h;split at h
  ·rename_i hc
   simp only [Option.some.injEq,Prod.mk.injEq] at h;obtain ⟨hn,_,hk⟩:=h;obtain ⟨_,h8,hr,hz,hnz⟩:=hc;have hc0:=hb c (by simp);subst hn;subst hk;have e:dig (Zfd 0 (rest.take w)).toNat=rest.take w:=by
    refine ZoM _ _ rfl (λ x hx=>hb x (List.mem_cons_of_mem _ (List.mem_of_mem_take hx))) ?_;cases rest with
    |nil=>simp
    |cons x r=>
     by_cases h0:w=0
     ·rw [h0];simp
     ·have:=hnz h0
      obtain ⟨v,rfl⟩:∃ v,w=v + 1:=⟨w - 1,by omega⟩;rw [List.take_succ_cons];simpa using this
   unfold Zec;rw [e,List.length_take,Nat.min_eq_left hr];show c::rest=(((w:Nat):Int)::List.take w rest)++List.drop w rest;rw [List.cons_append,List.take_append_drop,<-hw,Int.toNat_of_nonneg hc0.1]
  ·cases h
theorem ZlB {most:Int} {r:Rd} (hb:∀ x∈r.bs,0<=x/\x<256) (h:(Zb most r).2.bad=false):r.bad=false/\r.bs=Zec (Zb most r).1.toNat++(Zb most r).2.bs:=by
 unfold Zb at *;split at h
 ·rename_i hr;rw [hr] at h;cases h
 ·rename_i hr
  refine ⟨by simpa using hr,?_⟩;rw [if_neg hr];split at h
  ·rename_i n neg k hp
   split at h
   ·rename_i hc
    rw [if_pos hc];rw [hc.1] at hp;exact Zr6 hb hp
   ·cases h
  ·cases h
end Go.VC
namespace Go.Proofs.YtlplemdmegpoeaaGreatDoor
section
open Go Go.VC Tryz
def wtB (w:Wt):List Int:=Zl [w.id]++(Zl [w.cls]++(Zl [w.many]++(Zl [w.time]++Zwf w.sc)))
def qB (q:List Wt):List Int:=Zl [(q.length:Int)]++(q.map wtB).flatten
def Zd3 (r:Rd):Wt × Rd:=
 let a:=Zb 28629151 r
 let b:=Zb 7 a.2
 let c:=Zb 600 b.2
 let d:=Zb 1099511627776 c.2
 let e:=ZcU d.2
 (⟨a.1,b.1,c.1,d.1,e.1⟩,e.2)
theorem ZwD {w:Wt} (h:w.Ok) (hf:w.sc<18446744073709551616) (more:List Int):Zd3 ⟨wtB w++more,false⟩=(w,⟨more,false⟩):=by
 obtain ⟨⟨a1,a2⟩,⟨b1,b2⟩,⟨c1,c2⟩,d1,d2⟩:=h;unfold Zd3 wtB;simp only [List.append_assoc];rw [Zv (by omega) (by omega) (by omega)];dsimp only;rw [Zv (by omega) (by omega) (by omega)];dsimp only;rw [Zv (by omega) (by omega) (by omega)];dsimp only;rw [Zv (by omega) (by omega) (by omega)];dsimp only;rw [Zp8 hf]
theorem ZqJ {r:Rd} (hb:Zr r.bs):Zr (Zd3 r).2.bs:=Zf5 (Zd (Zd (Zd (Zd hb))))
theorem ZwF {r:Rd} (hb:Zr r.bs):(Zd3 r).1.sc<18446744073709551616:=Zkx (Zd (Zd (Zd (Zd hb))))
theorem Zuh {r:Rd} (h:r.bad=true):(Zd3 r).2=r:=by
 unfold Zd3 ZcU;simp only [ZbD h]
theorem ZsV {r:Rd} (hb:Zr r.bs) (h:(ZcU r).2.bad=false):r.bad=false/\r.bs=Zwf (ZcU r).1++(ZcU r).2.bs:=by
 have h1:=ZlB hb h;have h2:=Zn (most:=18446744073709551615) hb (by omega);refine ⟨h1.1,?_⟩;show _=Zec (ZmI (ofF _))++_;rw [ZAE (by omega)];exact h1.2
theorem Zeb {most:Int} {r:Rd} (hb:Zr r.bs) (h:(Zb most r).2.bad=false):r.bad=false/\r.bs=Zl [(Zb most r).1]++(Zb most r).2.bs:=by
 have h1:=ZlB hb h;refine ⟨h1.1,?_⟩;rw [show Zl [(Zb most r).1]=Zec (Zb most r).1.toNat by simp [Zl]];exact h1.2
theorem Zug {r:Rd} (hb:Zr r.bs) (h:(Zd3 r).2.bad=false):r.bad=false/\r.bs=wtB (Zd3 r).1++(Zd3 r).2.bs:=by
 have b1:Zr (Zb 28629151 r).2.bs:=Zd hb;have b2:Zr (Zb 7 (Zb 28629151 r).2).2.bs:=Zd b1;have b3:Zr (Zb 600 (Zb 7 (Zb 28629151 r).2).2).2.bs:=Zd b2;have b4:Zr (Zb 1099511627776 (Zb 600 (Zb 7 (Zb 28629151 r).2).2).2).2.bs:=Zd b3;have h5:=ZsV b4 h;have h4:=Zeb b3 h5.1;have h3:=Zeb b2 h4.1;have h2:=Zeb b1 h3.1;have h1:=Zeb hb h2.1;refine ⟨h1.1,?_⟩;have e:r.bs=Zl [(Zd3 r).1.id]++(Zl [(Zd3 r).1.cls]++(Zl [(Zd3 r).1.many]++(Zl [(Zd3 r).1.time]++(Zwf (Zd3 r).1.sc++(Zd3 r).2.bs)))):=by
  refine h1.2.trans ?_;rw [h2.2,h3.2,h4.2,h5.2];rfl
 rw [e];unfold wtB;simp only [List.append_assoc]
theorem Zi4 {α:Type} {one:Rd->α × Rd} {code:α->List Int} (hbd:∀ r,Zr r.bs->Zr (one r).2.bs) (ho:∀ r,Zr r.bs->(one r).2.bad=false->r.bad=false/\r.bs=code (one r).1++(one r).2.bs):
  ∀ (n:Nat) {r:Rd},Zr r.bs->(ZG one n r).2.bad=false->r.bad=false/\r.bs=((ZG one n r).1.map code).flatten++(ZG one n r).2.bs
 |0,r,_,h=>⟨h,rfl⟩
 |n + 1,r,hb,h=>by
  have h2:=Zi4 hbd ho n (hbd r hb) h;have h1:=ho r hb h2.1;refine ⟨h1.1,?_⟩;rw [Za3];dsimp only;rw [List.map_cons,List.flatten_cons,List.append_assoc,<-h2.2];exact h1.2
structure ZjA (q:List Wt):Prop where
 st:QSt q
 ids:Zo4 q
 ok:∀ w∈q,w.Ok
theorem ZjA.pre {a b:List Wt} (h:ZjA (a++b)):ZjA a:=
 ⟨(List.pairwise_append.1 h.st).1,(List.pairwise_append.1 h.ids).1,λ w hw=>h.ok w (by simp [hw])⟩
theorem ZjA.last {q:List Wt} {w:Wt} (h:ZjA (q++[w])):w.Ok/\(∀ x∈q,x.id≠w.id)/\∀ x∈q,x.ahead w=true:=
 ⟨h.ok w (by simp),λ x hx=>(List.pairwise_append.1 h.ids).2.2 x hx w (by simp),λ x hx=>(List.pairwise_append.1 h.st).2.2 x hx w (by simp)⟩
def ZlK (bs:List Int):List Wt × Rd:=ZG Zd3 (Zb 200 ⟨bs,false⟩).1.toNat (Zb 200 ⟨bs,false⟩).2
def ZDi (bs:List Int):Prop:=ZF (ZlK bs).2=true/\ZjA (ZlK bs).1
theorem ZqL {r:Rd} (h:ZF r=true):r=⟨[],false⟩:=by
 unfold ZF at h;cases r with
 |mk bs bad=>
  simp at h;rw [h.1,h.2]
theorem ZlJ {bs:List Int} (hb:Zr bs) (h:ZF (ZlK bs).2=true):bs=qB (ZlK bs).1:=by
 have h0:=ZqL h;have h2:=Zi4 (code:=wtB) (λ r hr=>ZqJ hr) (λ r hr=>Zug hr) (Zb 200 ⟨bs,false⟩).1.toNat (Zd (rd:=⟨bs,false⟩) hb) (by show (ZlK bs).2.bad=false;rw [h0]);have h1:=Zeb (r:=⟨bs,false⟩) hb h2.1;have hv:=Zn (most:=200) (rd:=⟨bs,false⟩) hb (by omega);have e:bs=Zl [(Zb 200 ⟨bs,false⟩).1]++(((ZlK bs).1.map wtB).flatten++(ZlK bs).2.bs):=h1.2.trans (by rw [h2.2];rfl);rw [h0,List.append_nil] at e;have hl:((ZlK bs).1.length:Int)=(Zb 200 ⟨bs,false⟩).1:=by
  show ((ZG Zd3 _ _).1.length:Int)=_;rw [Za8];omega
 unfold qB;rw [hl];exact e
theorem Zm7 {q:List Wt} (hl:q.length<=200) (ok:∀ w∈q,w.Ok) (fl:∀ w∈q,w.sc<18446744073709551616):ZlK (qB q)=(q,⟨[],false⟩):=by
 have e0:Zb 200 ⟨qB q,false⟩=((q.length:Int),⟨(q.map wtB).flatten,false⟩):=Zv (by omega) (by omega) (by omega);have e:=ZdO (one:=Zd3) (code:=wtB) (l:=q) (rest:=[]) λ w hw more=>ZwD (ok w hw) (fl w hw) more;rw [List.append_nil] at e;unfold ZlK;rw [e0];dsimp only;rw [Int.toNat_natCast,e]
theorem ZAn {q q':List Wt} (h1:q.length<=200/\(∀ w∈q,w.Ok)/\∀ w∈q,w.sc<18446744073709551616) (h2:q'.length<=200/\(∀ w∈q',w.Ok)/\∀ w∈q',w.sc<18446744073709551616) (h:qB q=qB q'):q=q':=by
 have a:=Zm7 h1.1 h1.2.1 h1.2.2;have b:=Zm7 h2.1 h2.2.1 h2.2.2;rw [h,b] at a;exact (congrArg Prod.fst a).symm
theorem ZrQ {q:List Wt} (h:QOk q):ZDi (qB q)/\(ZlK (qB q)).1=q:=by
 have e:=Zm7 h.len h.ok h.fl;unfold ZDi;rw [e];exact ⟨⟨rfl,h.st,h.ids,h.ok⟩,rfl⟩
def Zao (l:List Wt):List Wt:=l.foldl (λ q w=>ZgA w q) []
theorem Znq (l:List Wt) (w:Wt):Zao (l++[w])=ZgA w (Zao l):=by simp [Zao]
theorem Zbx {l:List Wt}:∀ x,x∈Zao l↔x∈l:=by
 have:∀ (l q:List Wt) x,x∈l.foldl (λ q w=>ZgA w q) q↔x∈q\/x∈l:=by
  intro l
  induction l with
  |nil=>intro q x;simp
  |cons a l ih=>
   intro q x;rw [List.foldl_cons,ih,Zb7,List.mem_cons];constructor
   ·rintro ((h|h)|h)<;>simp [h]
   ·rintro (h|h|h)<;>simp [h]
 intro x;unfold Zao;rw [this];simp
theorem Zdy (l:List Wt):(Zao l).length=l.length:=by
 have:∀ (l q:List Wt),(l.foldl (λ q w=>ZgA w q) q).length=q.length + l.length:=by
  intro l
  induction l with
  |nil=>intro q;simp
  |cons a l ih=>intro q;rw [List.foldl_cons,ih,Zko,List.length_cons];omega
 unfold Zao;rw [this];simp
theorem Zh4 {l:List Wt} (h:Zo4 l):QSt (Zao l)/\Zo4 (Zao l):=by
 have:∀ (l q:List Wt),QSt q->Zo4 q->Zo4 (q++l)->QSt (l.foldl (λ q w=>ZgA w q) q)/\Zo4 (l.foldl (λ q w=>ZgA w q) q):=by
  intro l
  induction l with
  |nil=>intro q h1 h2 _;exact ⟨h1,h2⟩
  |cons a l ih=>
   intro q h1 h2 h3;have hp:=List.pairwise_append.1 h3;have hq:∀ x∈q,x.id≠a.id:=λ x hx=>hp.2.2 x hx a (by simp);have hc:=List.pairwise_cons.1 hp.2.1;rw [List.foldl_cons];refine ih _ (Znp h1 hq) (Zhj h2 hq) (List.pairwise_append.2 ⟨Zhj h2 hq,hc.2,λ x hx y hy=>?_⟩);rcases Zb7.1 hx with rfl|hx
   ·exact hc.1 y hy
   ·exact hp.2.2 x hx y (by simp [hy])
 exact this l [] List.Pairwise.nil List.Pairwise.nil h
theorem Zmb {l:List Wt} (h:QSt l):Zao l=l:=by
 have:∀ (l q:List Wt),QSt (q++l)->l.foldl (λ q w=>ZgA w q) q=q++l:=by
  intro l
  induction l with
  |nil=>intro q _;simp
  |cons a l ih=>
   intro q h;have hp:=List.pairwise_append.1 h;rw [List.foldl_cons,ZoB λ x hx=>hp.2.2 x hx a (by simp),ih _ (by simpa using h)];simp
 exact this l [] h
end
section
open Go Go.VC Tryz
variable {R R':Cx} {Hs Rest:List HP} {w:World}
theorem Zs4 {n:Int} {g:List Int} {lab:ByteArray} {k:Int} (h:Zbk n g lab=(k,0)):0<=k/\k<Za5 n g:=by
 unfold Zbk at h;split at h
 ·rename_i hl
  obtain ⟨l1,l2,l3⟩:=Zaa.1 hl;have:=(Zvi (n:=n) (w:=g.sum) (k:=k) (lab:=lab) (by omega) (ZjJ l2 l1.2.2.1) l3).1 h;rw [Zkh hl];exact ⟨this.1,this.2.1⟩
 ·cases h
end
section
open Go Go.VC Tryz
variable {R R':Cx} {Hs Rest:List HP} {w:World}
def Zg (p:Nat) (r:RF):HP:=exs λ f:PF=>Zah [pur (Tie f r/\ZaM r),ZJ p f]
theorem Sat.lone {p:Nat} {r:RF}:Sat R (Zg p r::Hs) w↔∃ f,(Tie f r/\ZaM r)/\Sat R (ZJ p f::Hs) w:=by
 unfold Zg;rw [Sat.exs];constructor
 ·rintro ⟨f,h⟩
  obtain ⟨h1,h2⟩:=Sat.pur.1 (Sat.star.1 h);exact ⟨f,h1,h2⟩
 ·rintro ⟨f,h1,h2⟩
  exact ⟨f,Sat.star.2 (Sat.pur.2 ⟨h1,h2⟩)⟩
section
variable {p:Nat} {r:RF}
theorem ZlZ {o c m:Int} (hw:Sat R (Zg p r::Hs) w):Zm prog 101 #[nP p,nI o,nI c,nI m] w λ v w'=>v=nI (ZQ r o c m).2/\Sat R (Zg p (ZQ r o c m).1::Hs) w':=by
 obtain ⟨f,⟨t,g⟩,hw⟩:=Sat.lone.1 hw;have b:=t.bounds g;obtain ⟨e,t',g'⟩:=ZjG t g o c m;refine (Zpe (by omega) (by omega) hw).u λ w hw=>?_;exact ⟨_,rfl,by rw [e],Sat.lone.2 ⟨_,⟨t',g'⟩,hw⟩⟩
theorem Zl0 {o:Int} (hw:Sat R (Zg p r::Hs) w):Zm prog 104 #[nP p,nI o] w λ v w'=>v=nI (Zca r o).2/\Sat R (Zg p (Zca r o).1::Hs) w':=by
 obtain ⟨f,⟨t,g⟩,hw⟩:=Sat.lone.1 hw;have b:=t.bounds g;obtain ⟨e,t',g'⟩:=ZnZ t g o;refine (Zp5 (by omega) (by omega) (λ e he=>by have:=b.2.2.2.2.2.1 e he;omega) hw).u λ w hw=>?_;exact ⟨_,rfl,by rw [e],Sat.lone.2 ⟨_,⟨t',g'⟩,hw⟩⟩
theorem Zsp {o:Int} {lab:ByteArray} (hl:lab.size<=9223372036854775807) (hw:Sat R (Zg p r::Hs) w):Zm prog 106 #[nP p,nI o,.string lab] w λ v w'=>v=nI (Z7 r o lab).2/\Sat R (Zg p (Z7 r o lab).1::Hs) w':=by
 obtain ⟨f,⟨t,g⟩,hw⟩:=Sat.lone.1 hw;have b:=t.bounds g;obtain ⟨e,t',g'⟩:=ZnX t g o lab λ k hk=>Zs4 hk;refine (Zpo (by omega) hl (λ e he=>by have:=b.2.2.2.2.2.1 e he;exact ⟨this.1,by omega⟩) hw).u λ w hw=>?_;exact ⟨_,rfl,by rw [e],Sat.lone.2 ⟨_,⟨t',g'⟩,hw⟩⟩
theorem Zsq {o:Int} (hw:Sat R (Zg p r::Hs) w):Zm prog 107 #[nP p,nI o] w λ v w'=>∃ t:Sl,v=.tuple #[.slice t.a t.len t.cap,nI (Zam r o).2.2]/\Sat R (Own t 9 ((Zam r o).2.1.map Value.string)::Zg p (Zam r o).1::Hs) w':=by
 obtain ⟨f,⟨t,g⟩,hw⟩:=Sat.lone.1 hw;have b:=t.bounds g;obtain ⟨e,t',g',_⟩:=ZjH t g o;refine (Zqr (by omega) t.nod (λ k hk=>by have:=t.ownIn g k hk;have:=ZcS r.rows r.grps;omega) (by omega) hw).u1 λ s w hw=>?_;rw [e] at hw;exact ⟨_,rfl,s,by rw [e],hw.cons λ _ h=>Sat.lone.2 ⟨_,⟨t',g'⟩,h⟩⟩
theorem ZcQ (hw:Sat R (Zg p r::Hs) w):Zm prog 55 #[nP p] w λ v w'=>∃ t:Sl,v=.slice t.a t.len t.cap/\Sat R (Own t 3 (Ze (Zq r))::Zg p r::Hs) w':=by
 obtain ⟨f,⟨t,g⟩,hw⟩:=Sat.lone.1 hw;have b:=t.bounds g;refine (ZpZ (by omega) (by omega) hw).u1 λ s w hw=>?_;rw [Zur t] at hw;exact ⟨_,rfl,s,rfl,hw.cons λ _ h=>Sat.lone.2 ⟨_,⟨t,g⟩,h⟩⟩
theorem Znd {o:Int} (hw:Sat R (Zg p r::Hs) w):Zm prog 122 #[nP p,nI o] w λ v w'=>∃ t:Sl,v=.slice t.a t.len t.cap/\Sat R (Own t 9 ((ZaY r o).map Value.string)::Zg p r::Hs) w':=by
 obtain ⟨f,⟨t,g⟩,hw⟩:=Sat.lone.1 hw;have b:=t.bounds g;refine (Zl2 (by omega) (λ e he=>by have:=b.2.2.2.2.2.1 e he;omega) hw).u1 λ s w hw=>?_;rw [Zpb t g.rise] at hw;exact ⟨_,rfl,s,rfl,hw.cons λ _ h=>Sat.lone.2 ⟨_,⟨t,g⟩,h⟩⟩
theorem Zne (hw:Sat R (Zg p r::Hs) w):Zm prog 64 #[nP p] w λ v w'=>∃ t:Sl,v=.slice t.a t.len t.cap/\Sat R (Own t 5 (b8 (ZbP r))::Zg p r::Hs) w':=by
 obtain ⟨f,⟨t,g⟩,hw⟩:=Sat.lone.1 hw;have b:=t.bounds g;refine (Zmm (ZqS t g) (t.nodK g.rise) (λ k hk=>by have:=b.2.2.2.2.2.2 k hk;omega) (λ e he=>by have:=b.2.2.2.2.2.1 e he;omega) hw).u1 λ s w hw=>?_;rw [ZwN t g] at hw;exact ⟨_,rfl,s,rfl,hw.cons λ _ h=>Sat.lone.2 ⟨_,⟨t,g⟩,h⟩⟩
end
theorem u8s:prog.underlying 47=some (.slice 5):=underlying47
end
end Go.Proofs.YtlplemdmegpoeaaGreatDoor


namespace Go.Proofs.YtlplemdmegpoeaaGreatDoor
section
open Go Go.VC Tryz
variable {R R':Cx} {Hs Rest:List HP} {w:World}
theorem Zus {r:RF} (g:ZaM r):(Zx r.L).Nodup:=by
 have key:∀ L:List ZI,(L.Pairwise λ a b=>∀ x∈a.seats,x ∉ b.seats)->(∀ h∈L,Zqz h.seats)->(Zx L).Nodup:=λ L=>by
  induction L with
  |nil=>exact λ _ _=>List.nodup_nil
  |cons h L ih=>
   intro hp hr;obtain ⟨h1,h2⟩:=List.pairwise_cons.1 hp;show (h.seats++Zx L).Nodup;rw [List.nodup_append];refine ⟨?_,ih h2 λ x hx=>hr x (List.mem_cons_of_mem _ hx),λ a ha b hb e=>?_⟩
   ·rw [List.nodup_iff_pairwise_ne]
    exact (ZfI.1 (hr h List.mem_cons_self)).imp λ h=>by omega
   ·subst e
    obtain ⟨y,hy,hyb⟩:=ZcP.1 hb;exact h1 y hy a ha hyb
 exact key r.L g.apart λ h hh=>(g.each h hh).rise
theorem ZwS {r:RF} (g:ZaM r) {o:Int} {lab:ByteArray} (h:(Z7 r o lab).2=0):∃ A hd C n,Zbk r.rows r.grps lab=(n,0)/\r.L=A++hd::C/\hd.owner=o/\Zcq o A=none/\n ∉ Zx r.L/\Z7 r o lab=({ r with L:=A++hd.put n::C },0):=by
 unfold Z7 at h ⊢;cases hg:Zcq o r.L with
 |none=>rw [hg] at h;cases h
 |some hd=>
  rw [hg] at h;obtain ⟨A,C,hL,hA,ho⟩:=Zb1 hg;dsimp only at h ⊢;split at h
  ·cases h
  rename_i h1;split at h
  ·cases h
  rename_i h2;split at h
  ·cases h
  rename_i h3;rw [if_neg h1,if_neg h2,if_neg h3];refine ⟨A,hd,C,(Zbk r.rows r.grps lab).1,?_,hL,ho,hA,h3,?_⟩
  ·have:(Zbk r.rows r.grps lab).2=0:=Classical.byContradiction h1
   rw [<-this]
  ·rw [hL,ZfE ho hA]
theorem Zrl {r:RF} {o:Int} {lab:ByteArray} (h:(Z7 r o lab).2≠0):(Z7 r o lab).1=r/\((Z7 r o lab).2=2\/(Z7 r o lab).2=7\/(Z7 r o lab).2=3):=by
 unfold Z7 at h ⊢;split at h
 ·exact ⟨rfl,.inl rfl⟩
 ·split at h
  ·rename_i h1;rw [if_pos h1];exact ⟨rfl,.inl rfl⟩
  rename_i h1;rw [if_neg h1];split at h
  ·rename_i h2;rw [if_pos h2];exact ⟨rfl,.inr (.inl rfl)⟩
  rename_i h2;rw [if_neg h2];split at h
  ·rename_i h3;rw [if_pos h3];exact ⟨rfl,.inr (.inr rfl)⟩
  ·exact absurd rfl h
theorem Zjj {h:ZI}:∀ {L:List ZI},Zcq h.owner L=none->∃ A C,Zma h L=A++h::C/\L=A++C/\Zcq h.owner A=none
 |[],_=>⟨[],[],rfl,rfl,rfl⟩
 |x::L,hn=>by
  rw [ZaF] at hn;split at hn
  ·cases hn
  rename_i hx;unfold Zma;split
  ·obtain ⟨A,C,h1,h2,h3⟩:=Zjj hn
   exact ⟨x::A,C,by rw [h1];rfl,by rw [h2];rfl,by rw [ZaF,if_neg hx];exact h3⟩
  ·exact ⟨[],x::L,rfl,rfl,rfl⟩
theorem Zq1 {r:RF} {o c m:Int} (h:(ZQ r o c m).2=0):∃ A C,ZQ r o c m=({ r with L:=A++⟨o,c,m,[]⟩::C },0)/\r.L=A++C/\Zcq o A=none:=by
 unfold ZQ at h ⊢;split at h
 ·cases h
 rename_i h1;split at h
 ·cases h
 rename_i h2;rw [if_neg h1,if_neg h2];split at h
 ·rename_i h3
  rw [if_pos h3];have hno:Zcq o r.L=none:=by cases e:Zcq o r.L with|none=>rfl|some x=>rw [e] at h2;simp at h2
  obtain ⟨A,C,e1,e2,e3⟩:=Zjj (h:=⟨o,c,m,[]⟩) hno;exact ⟨A,C,by rw [e1],e2,e3⟩
 ·rename_i h3;exact absurd h h3
theorem Zq2 {r:RF} {o c m:Int} (h:(ZQ r o c m).2≠0):(ZQ r o c m).1=r:=by
 unfold ZQ at h ⊢;split at h
 ·rename_i h1;rw [if_pos h1]
 rename_i h1;rw [if_neg h1];split at h
 ·rename_i h2;rw [if_pos h2]
 rename_i h2;rw [if_neg h2];split at h
 ·exact absurd rfl h
 ·rename_i h3;rw [if_neg h3]
end
section
open Go Go.VC Tryz
open Classical
noncomputable section
structure Pl where
 r:RF
 q:List Wt
abbrev Pl.n (p:Pl):Int:=p.r.num
structure Bk where
 id:Int
 flt:Int
 cls:Int
 many:Int
 state:Int
 till:Int
structure ZU where
 now:Int
 next:Int
 fl:List Pl
 L:List Bk
def ZU.at (b:ZU) (n:Int):Option Pl:=Zxr Pl.n n b.fl
def ZU.bk (b:ZU) (id:Int):Option Bk:=Zxr Bk.id id b.L
def ZU.put (b:ZU) (n:Int) (f:Pl->Pl) (L:List Bk):ZU:={ b with fl:=Ze0 Pl.n n f b.fl,L:=L }
def Zfm:ZU:=⟨0,1,[],[]⟩
def emS:ByteArray:=ByteArray.empty
def Zby (e:Int):Rp:=⟨e,emS,0,0,0,0,0,[],[]⟩
def Zz8 (id:Int):ByteArray:=VC.strOf (Zxn id)
def ZdL (p:Pl) (x:Bk):Rp:=⟨0,Zz8 x.id,x.state,x.flt,x.cls,x.many,x.till,Zq p.r,ZaY p.r x.id⟩
def ZdM (b:ZU) (x:Bk):Rp:=match b.at x.flt with
 |none=>Zby 0
 |some p=>ZdL p x
def ZmQ (w:Wt) (p:Pl):Pl:=⟨(ZQ p.r w.id w.cls w.many).1,Zig w.id p.q⟩
def Ze2 (x:Bk):Bk:={ x with state:=2 }
def Zkc (b:ZU) (n:Int) (w:Wt):ZU:=b.put n (ZmQ w) (Ze0 Bk.id w.id Ze2 b.L)
def Zj0:Nat->Int->ZU->ZU
 |0,_,b=>b
 |k + 1,n,b=>match b.at n with
  |none=>b
  |some p=>match ZaD p.q (Zq p.r) with
   |none=>b
   |some w=>Zj0 k n (Zkc b n w)
def ZV (n:Int) (b:ZU):ZU:=Zj0 201 n b
def Zd0 (b:ZU) (c:Cm):ZU × Rp:=
 if (b.at c.flt).isSome then (b,Zby 7) else if 8<=b.fl.length then (b,Zby 3)
 else if ¬ Zj7 c.flt c.rows c.grps c.parts then (b,Zby 1)
 else ({ b with fl:=ZqC Pl.n ⟨ZmY c.flt c.rows c.grps (Zaf (Za5 c.rows c.grps) c.parts).1,[]⟩ b.fl },
  ⟨0,emS,0,c.flt,0,0,0,Zq (ZmY c.flt c.rows c.grps (Zaf (Za5 c.rows c.grps) c.parts).1),[]⟩)
def ZU.full (b:ZU):Prop:=300<=b.L.length\/28629151<=b.next
def takeP (id cls many:Int) (p:Pl):Pl:={ p with r:=(ZQ p.r id cls many).1 }
def Zat (b:ZU) (c:Cm):Bk:=⟨b.next,c.flt,c.cls,c.many,1,c.time⟩
def Zdm (b:ZU) (c:Cm):ZU × Rp:=
 match b.at c.flt with
 |none=>(b,Zby 2)
 |some p=>
  if c.time<=b.now then (b,Zby 1) else if b.full then (b,Zby 3)
  else if (ZQ p.r b.next c.cls c.many).2≠0 then (b,Zby (ZQ p.r b.next c.cls c.many).2)
  else ({ b.put c.flt (takeP b.next c.cls c.many) (b.L++[Zat b c]) with next:=b.next + 1 },ZdL (takeP b.next c.cls c.many p) (Zat b c))
def Zdh (b:ZU) (c:Cm):Wt:=⟨b.next,c.cls,c.many,b.now,c.sc⟩
def ZbS (b:ZU) (c:Cm):Bk:=⟨b.next,c.flt,c.cls,c.many,3,0⟩
def ZwH (w:Wt) (p:Pl):Pl:={ p with q:=ZgA w p.q }
def Zcc (b:ZU) (c:Cm):ZU:={ b.put c.flt (ZwH (Zdh b c)) (b.L++[ZbS b c]) with next:=b.next + 1 }
def ZbC (b:ZU) (c:Cm):ZU × Rp:=
 match b.at c.flt with
 |none=>(b,Zby 2)
 |some p=>
  if (p.r.lims.length:Int)<=c.cls then (b,Zby 1) else if b.full then (b,Zby 3)
  else if (ZcL p.q (Zdh b c)).2≠0 then (b,Zby (ZcL p.q (Zdh b c)).2)
  else (ZV c.flt (Zcc b c),match (ZV c.flt (Zcc b c)).bk b.next with
   |none=>Zby 0
   |some x=>ZdM (ZV c.flt (Zcc b c)) x)
def old (now:Int) (x:Bk):Bool:=decide (x.state=1) && decide (x.till<=now)
def ZgC (id:Int) (p:Pl):Pl:={ p with r:=(Zca p.r id).1 }
def Zf9 (b:ZU) (x:Bk):ZU:=b.put x.flt (ZgC x.id) (ZoA Bk.id x.id b.L)
def Zej:List Bk->ZU->ZU
 |[],b=>b
 |x::l,b=>Zej l (if old b.now x then Zf9 b x else b)
def ZcM (l:List Int) (b:ZU):ZU:=l.foldl (λ b n=>ZV n b) b
def ZdV (b:ZU) (t:Int):ZU:=Zej b.L { b with now:=t }
def ZbN (b:ZU) (c:Cm):ZU × Rp:=
 if c.time<b.now then (b,Zby 7)
 else (ZcM (b.fl.map Pl.n) (ZdV b c.time),⟨0,emS,0,0,0,0,c.time,[],[]⟩)
def Zc9 (b:ZU) (pnr:ByteArray):Option Bk × Int:=
 if (Zcf (ZX pnr)).2≠0 then (none,(Zcf (ZX pnr)).2) else match b.bk (Zcf (ZX pnr)).1 with
  |none=>(none,2)
  |some x=>(some x,0)
def Zdq (x:Bk):Bk:={ x with state:=2,till:=0 }
def ZwZ (id:Int) (p:Pl):Pl:={ p with q:=Zig id p.q }
def ZkW (b:ZU) (x:Bk):ZU:=if x.state=3 then b.put x.flt (ZwZ x.id) (ZoA Bk.id x.id b.L) else Zf9 b x
def Zc2 (r:RF) (p:Pl):Pl:={ p with r:=r }
def Zhf (b:ZU) (x:Bk) (c:Cm):ZU × Rp:=
 match b.at x.flt with
 |none=>(b,Zby 0)
 |some p=>
  if c.kind=3 then (if x.state≠1 then (b,Zby 7) else ({ b with L:=Ze0 Bk.id x.id Zdq b.L },ZdL p (Zdq x)))
  else if c.kind=4 then (ZV x.flt (ZkW b x),⟨0,c.pnr,0,0,0,0,0,[],[]⟩)
  else if x.state=3 then (b,Zby 7)
  else if c.kind=5 then
   (if (Z7 p.r x.id c.lab).2≠0 then (b,Zby (Z7 p.r x.id c.lab).2)
    else (b.put x.flt (Zc2 (Z7 p.r x.id c.lab).1) b.L,ZdL (Zc2 (Z7 p.r x.id c.lab).1 p) x))
  else (if (Zam p.r x.id).2.2≠0 then (b,Zby (Zam p.r x.id).2.2)
    else (b.put x.flt (Zc2 (Zam p.r x.id).1) b.L,ZdL (Zc2 (Zam p.r x.id).1 p) x))
def ZdZ (b:ZU) (c:Cm):Rp:=
 if ¬ ZaL c\/c.kind≠9 then Zby 1
 else if c.pnr≠emS then (match Zc9 b c.pnr with
  |(none,e)=>Zby e
  |(some x,_)=>ZdM b x)
 else match b.at c.flt with
  |none=>Zby 2
  |some p=>⟨0,emS,0,c.flt,0,(p.q.length:Int),0,Zq p.r,[]⟩
def Zai (b:ZU) (c:Cm):ZU × Rp:=
 if ¬ ZaL c then (b,Zby 1)
 else if c.kind=1 then Zd0 b c
 else if c.kind=2 then Zdm b c
 else if c.kind=7 then ZbC b c
 else if c.kind=8 then ZbN b c
 else if c.kind=9 then (b,ZdZ b c)
 else match Zc9 b c.pnr with
  |(none,e)=>(b,Zby e)
  |(some x,_)=>Zhf b x c
def plB (p:Pl):List Int:=ZaZ (ZbP p.r)++ZaZ (qB p.q)
def bkB (x:Bk):List Int:=Zl [x.id]++(Zl [x.flt]++(Zl [x.cls]++(Zl [x.many]++(Zl [x.state]++Zl [x.till]))))
def Zdi (b:ZU):List Int:=
 Zl [b.now]++(Zl [b.next]++(Zl [(b.fl.length:Int)]++((b.fl.map plB).flatten++(Zl [(b.L.length:Int)]++(b.L.map bkB).flatten))))
def ZiG (p:Pl) (x:Bk):Prop:=
 if x.state=3 then (∃ w∈p.q,w.id=x.id/\w.cls=x.cls/\w.many=x.many)/\x.cls<p.r.lims.length
 else ∃ h∈p.r.L,h.owner=x.id/\h.cls=x.cls/\h.many=x.many
structure Zua (next:Int) (x:Bk):Prop where
 id:1<=x.id/\x.id<next
 flt:0<=x.flt/\x.flt<=9999
 cls:0<=x.cls/\x.cls<=9999
 many:0<=x.many/\x.many<=9999
 state:1<=x.state/\x.state<=3
 till:0<=x.till/\x.till<=1099511627776
 free:x.state≠1->x.till=0
structure ZDk (L:List Bk) (p:Pl):Prop where
 has:∀ x∈L,x.flt=p.n->ZiG p x
 backQ:∀ w∈p.q,∃ x∈L,x.id=w.id/\x.flt=p.n/\x.state=3
 backH:∀ h∈p.r.L,∃ x∈L,x.id=h.owner/\x.flt=p.n/\x.state≠3
structure Core (b:ZU):Prop where
 now:0<=b.now/\b.now<=1099511627776
 next:1<=b.next/\b.next<=28629151
 good:∀ p∈b.fl,ZaM p.r
 qok:∀ p∈b.fl,QOk p.q
 nums:ZaO Pl.n b.fl
 few:b.fl.length<=8
 ids:ZaO Bk.id b.L
 each:∀ x∈b.L,Zua b.next x
 many:b.L.length<=300
 there:∀ x∈b.L,∃ p∈b.fl,p.n=x.flt
 loc:∀ p∈b.fl,ZDk b.L p
def ZcZ (b:ZU):Prop:=∀ x∈b.L,x.state=1->b.now<x.till
def ZgL (p:Pl):Prop:=ZaD p.q (Zq p.r)=none
structure Zau (b:ZU):Prop where
 core:Core b
 time:ZcZ b
 nofit:∀ p∈b.fl,ZgL p
theorem Zvy:Core Zfm:=
 ⟨⟨by decide,by decide⟩,⟨by decide,by decide⟩,λ _ h=>(by cases h),λ _ h=>(by cases h),List.Pairwise.nil,by decide,List.Pairwise.nil,λ _ h=>(by cases h),by decide,λ _ h=>(by cases h),λ _ h=>(by cases h)⟩
theorem ZAu:Zau Zfm:=⟨Zvy,λ _ h=>(by cases h),λ _ h=>(by cases h)⟩
theorem Core.swap {b:ZU} (c:Core b) {n:Int} {f:Pl->Pl} {L:List Bk} {next:Int} (hn:b.next<=next/\next<=28629151)
  (hf:∀ p∈b.fl,p.n=n->(f p).n=n/\ZaM (f p).r/\QOk (f p).q/\ZDk L (f p))
  (ids:ZaO Bk.id L) (each:∀ x∈L,Zua next x) (many:L.length<=300)
  (out:∀ x,x.flt≠n->(x∈L↔x∈b.L)) (here:∀ x∈L,x.flt=n->∃ p∈b.fl,p.n=n):Core { b.put n f L with next:=next }:=by
 have hmem:∀ {p},p∈Ze0 Pl.n n f b.fl->∃ q∈b.fl,q.n=p.n/\((q.n=n/\p=f q)\/(q.n≠n/\p=q)):=λ {p} hp=>by
  obtain ⟨q,hq,e⟩:=Z9.1 hp;by_cases h:q.n=n
  ·rw [if_pos h] at e
   exact ⟨q,hq,by rw [e,(hf q hq h).1,h],.inl ⟨h,e⟩⟩
  ·rw [if_neg h] at e
   exact ⟨q,hq,by rw [e],.inr ⟨h,e⟩⟩
 have hput:∀ {q},q∈b.fl->∃ p∈Ze0 Pl.n n f b.fl,p.n=q.n:=λ {q} hq=>by
  by_cases h:q.n=n
  ·exact ⟨f q,Z9.2 ⟨q,hq,by rw [if_pos h]⟩,by rw [(hf q hq h).1,h]⟩
  ·exact ⟨q,Z9.2 ⟨q,hq,by rw [if_neg h]⟩,rfl⟩
 refine ⟨c.now,⟨Int.le_trans c.next.1 hn.1,hn.2⟩,λ p hp=>?_,λ p hp=>?_,ZfU c.nums λ p hp e=>(hf p hp e).1,by show (Ze0 Pl.n n f b.fl).length<=8;rw [Zki];exact c.few,ids,each,many,λ x hx=>?_,λ p hp=>?_⟩
 ·obtain ⟨q,hq,_,⟨h,rfl⟩|⟨h,rfl⟩⟩:=hmem hp
  ·exact (hf q hq h).2.1
  ·exact c.good p hq
 ·obtain ⟨q,hq,_,⟨h,rfl⟩|⟨h,rfl⟩⟩:=hmem hp
  ·exact (hf q hq h).2.2.1
  ·exact c.qok p hq
 ·by_cases h:x.flt=n
  ·obtain ⟨p,hp,e⟩:=here x hx h
   obtain ⟨p',hp',e'⟩:=hput hp;exact ⟨p',hp',by rw [e',e,h]⟩
  ·obtain ⟨p,hp,e⟩:=c.there x ((out x h).1 hx)
   obtain ⟨p',hp',e'⟩:=hput hp;exact ⟨p',hp',by rw [e',e]⟩
 ·obtain ⟨q,hq,_,⟨h,rfl⟩|⟨h,rfl⟩⟩:=hmem hp
  ·exact (hf q hq h).2.2.2
  ·have hl:=c.loc p hq
   refine ⟨λ x hx e=>hl.has x ((out x (by rw [e];exact h)).1 hx) e,λ w hw=>?_,λ o ho=>?_⟩
   ·obtain ⟨x,hx,a1,a2,a3⟩:=hl.backQ w hw
    exact ⟨x,(out x (by rw [a2];exact h)).2 hx,a1,a2,a3⟩
   ·obtain ⟨x,hx,a1,a2,a3⟩:=hl.backH o ho
    exact ⟨x,(out x (by rw [a2];exact h)).2 hx,a1,a2,a3⟩
theorem Zua.le {n m:Int} {x:Bk} (h:Zua n x) (hl:n<=m):Zua m x:=⟨⟨h.id.1,Int.lt_of_lt_of_le h.id.2 hl⟩,h.flt,h.cls,h.many,h.state,h.till,h.free⟩
theorem Zax {b:ZU} {n:Int} {p:Pl} (h:b.at n=some p):p∈b.fl/\p.n=n:=Zef h
theorem Zip {b:ZU} (c:Core b) {n:Int} {p:Pl}:b.at n=some p↔p∈b.fl/\p.n=n:=Zhi c.nums
theorem Zww {b:ZU} (c:Core b) {n:Int} {x:Bk}:b.bk n=some x↔x∈b.L/\x.id=n:=Zhi c.ids
theorem Core.at_of {b:ZU} (c:Core b) {x:Bk} (hx:x∈b.L):∃ p,b.at x.flt=some p:=by
 obtain ⟨p,hp,e⟩:=c.there x hx;exact ⟨p,(Zip c).2 ⟨hp,e⟩⟩
theorem ZBK {b:ZU} {n:Int} {f:Pl->Pl} {L:List Bk} {p:Pl} (hf:(f p).n=n) (c:Core b) (h:b.at n=some p) (c':ZaO Pl.n (Ze0 Pl.n n f b.fl)):(b.put n f L).at n=some (f p):=by
 have h1:=Zax h;exact (Zhi c').2 ⟨Z9.2 ⟨p,h1.1,by rw [if_pos h1.2]⟩,hf⟩
end
end
section
open Go Go.VC Tryz
variable {r:RF} {o c m:Int}
theorem Zf1 (g:ZaM r) (o c m:Int):ZaM (ZQ r o c m).1:=by
 obtain ⟨f,_,t⟩:=Zih g;exact (ZjG t g o c m).2.2
theorem ZsS (g:ZaM r) (o:Int):ZaM (Zca r o).1:=by
 obtain ⟨f,_,t⟩:=Zih g;exact (ZnZ t g o).2.2
theorem Zmc (g:ZaM r) (o:Int) (lab:ByteArray):ZaM (Z7 r o lab).1:=by
 obtain ⟨f,_,t⟩:=Zih g;exact (ZnX t g o lab λ k h=>Zs4 h).2.2
theorem Zmd (g:ZaM r) (o:Int):ZaM (Zam r o).1:=by
 obtain ⟨f,_,t⟩:=Zih g;exact (ZjH t g o).2.2.1
theorem Zc5:(ZQ r o c m).1.num=r.num/\(ZQ r o c m).1.lims=r.lims:=by
 by_cases h:(ZQ r o c m).2=0
 ·obtain ⟨A,C,e,_,_⟩:=Zq1 h
  rw [e];exact ⟨rfl,rfl⟩
 ·rw [Zq2 h]
  exact ⟨rfl,rfl⟩
theorem Zev (h:(ZQ r o c m).2=0) {x:ZI}:x∈(ZQ r o c m).1.L↔x=⟨o,c,m,[]⟩\/x∈r.L:=by
 obtain ⟨A,C,e,hL,_⟩:=Zq1 h;rw [e,hL];dsimp only;rw [List.mem_append,List.mem_cons,List.mem_append];constructor
 ·rintro (h|h|h)<;>simp [h]
 ·rintro (h|h|h)<;>simp [h]
theorem Zpf (h:(ZQ r o c m).2=0):(1<=o/\o<=28629151)/\Zcq o r.L=none/\(Zbc r.lims r.sold c m).2=0/\ZQ r o c m=({ r with L:=Zma ⟨o,c,m,[]⟩ r.L },0):=by
 unfold ZQ at h ⊢;split at h
 ·cases h
 rename_i h1;split at h
 ·cases h
 rename_i h2;rw [if_neg h1,if_neg h2];split at h
 ·rename_i h3
  rw [if_pos h3];exact ⟨by omega,by cases e:Zcq o r.L with|none=>rfl|some x=>rw [e] at h2;simp at h2,h3,rfl⟩
 ·rename_i h3;exact absurd h h3
theorem Zq0 (h:(ZQ r o c m).2=0):(ZQ r o c m).1.sold=r.sold.set c.toNat (r.sold.getD c.toNat 0 + m)/\0<=c/\c<r.lims.length/\1<=m:=by
 obtain ⟨_,_,h3,e⟩:=Zpf h;obtain ⟨_,_,c0,c1,m0⟩:=ZhQ h3;refine ⟨?_,c0,c1,m0⟩;rw [e];exact (Zd6 (n:=r.lims.length) (ZbK ⟨o,c,m,[]⟩ r.L) c0 c1).symm
theorem Zor {x y:Nat->Int}:∀ {k:Nat},(∀ i,i<k->x i<=y i)->mnF x k<=mnF y k
 |0,_=>Int.le_refl _
 |k + 1,h=>by
  have h1:=Zor (k:=k) λ i hi=>h i (by omega);have h2:=h k (by omega);unfold mnF;split<;>split<;>omega
theorem ZfS (r:RF):(Zq r).length=r.lims.length:=by simp [Zq]
theorem ZhY {k:Nat} (h:k<r.lims.length):(Zq r).getD k 0=(ZbJ r.lims r.sold k).1:=by
 unfold Zq;rw [List.getD_eq_getElem?_getD];simp [h]
theorem Zhh (g:ZaM r) {k:Nat} (h:k<r.lims.length):(ZbJ r.lims r.sold k).1=mnF (Zd8 r.lims r.sold) (k + 1)/\(ZbJ r.lims r.sold k).2=0:=by
 unfold ZbJ;rw [if_pos ⟨g.nest,by omega,by omega⟩];exact ⟨by rw [Int.toNat_natCast],rfl⟩
theorem take_left (g:ZaM r) (h:(ZQ r o c m).2=0) {k:Nat} (hk:k<r.lims.length):(Zq (ZQ r o c m).1).getD k 0<=(Zq r).getD k 0:=by
 obtain ⟨hs,c0,c1,m0⟩:=Zq0 h;have hl:=(Zc5 (r:=r) (o:=o) (c:=c) (m:=m)).2;have g':=Zf1 g o c m;rw [ZhY hk,ZhY (by rw [hl];exact hk),(Zhh g hk).1,(Zhh g' (by rw [hl];exact hk)).1,hl,hs];refine Zor λ i hi=>?_;unfold Zd8;have hlen:r.sold.length=r.lims.length:=Za1 _ _;have:=Zeh (sold:=r.sold) (c:=c.toNat) (m:=m) (by omega) (r.lims.length - i) i (by omega);rw [this];split<;>omega
theorem Zq3 (g:ZaM r) {w:Wt} (hw:w.Ok) (hf:ZdT (Zq r) w=true) (hn:Zcq w.id r.L=none):(ZQ r w.id w.cls w.many).2=0:=by
 obtain ⟨⟨a1,a2⟩,⟨b1,b2⟩,⟨c1,c2⟩,_⟩:=hw;unfold ZdT at hf;simp only [Bool.and_eq_true,decide_eq_true_eq] at hf;rw [ZfS] at hf;rw [ZhY (by omega)] at hf;have hv:=Zhh g (k:=w.cls.toNat) (by omega);have e:((w.cls.toNat:Nat):Int)=w.cls:=by omega
 rw [e] at hf hv;have hs:(Zbc r.lims r.sold w.cls w.many).2=0:=by
  unfold Zbc;rw [if_neg (by rw [hv.2];omega),if_neg (by omega)]
 unfold ZQ;rw [if_neg (by omega),hn,if_neg (by simp),if_pos hs]
theorem Zs0 (g:ZaM r) (h:(ZQ r o c m).2=0) {w:Wt} (hw:0<=w.cls) (hf:ZdT (Zq (ZQ r o c m).1) w=true):ZdT (Zq r) w=true:=by
 unfold ZdT at *;simp only [Bool.and_eq_true,decide_eq_true_eq] at *;rw [ZfS] at *;rw [(Zc5 (r:=r) (o:=o) (c:=c) (m:=m)).2] at hf;have:=take_left g h (k:=w.cls.toNat) (by omega);omega
theorem ZeJ:(Zca r o).1.num=r.num/\(Zca r o).1.lims=r.lims:=by
 unfold Zca;split<;>exact ⟨rfl,rfl⟩
theorem Zvd (g:ZaM r) {x:ZI}:x∈(Zca r o).1.L↔x∈r.L/\x.owner≠o:=by
 unfold Zca;cases hg:Zcq o r.L with
 |none=>
  dsimp only;exact ⟨λ h=>⟨h,Zci.1 hg x h⟩,λ h=>h.1⟩
 |some hd=>
  obtain ⟨A,C,hL,hA,ho⟩:=Zb1 hg;have hr:=g.rise;dsimp only;rw [hL] at hr ⊢;rw [ZkF ho hA];have hp:=List.pairwise_append.1 hr;have hc:=List.pairwise_cons.1 hp.2.1;rw [List.mem_append,List.mem_append,List.mem_cons];constructor
  ·rintro (h|h)
   ·exact ⟨.inl h,Zci.1 hA x h⟩
   ·exact ⟨.inr (.inr h),by have:=hc.1 x h;omega⟩
  ·rintro ⟨h|rfl|h,hn⟩
   ·exact .inl h
   ·exact absurd ho hn
   ·exact .inr h
structure Zdg (r r':RF):Prop where
 num:r'.num=r.num
 lims:r'.lims=r.lims
 rows:r'.rows=r.rows
 grps:r'.grps=r.grps
 each:∃ A hd hd' C,r.L=A++hd::C/\r'.L=A++hd'::C/\hd'.owner=hd.owner/\hd'.cls=hd.cls/\hd'.many=hd.many
theorem Zdg.sold {r':RF} (h:Zdg r r'):r'.sold=r.sold:=by
 obtain ⟨A,hd,hd',C,e1,e2,_,e4,e5⟩:=h.each;unfold RF.sold Z6;rw [h.lims];apply List.map_congr_left;intro k _;rw [e1,e2,ZeQ,ZeQ,ZdE,ZdE,e4,e5]
theorem Zdg.lefts {r':RF} (h:Zdg r r'):Zq r'=Zq r:=by
 unfold Zq;rw [h.lims,h.sold]
theorem Zdg.mem {r':RF} (h:Zdg r r') {x:ZI} (hx:x∈r.L):∃ y∈r'.L,y.owner=x.owner/\y.cls=x.cls/\y.many=x.many:=by
 obtain ⟨A,hd,hd',C,e1,e2,e3,e4,e5⟩:=h.each;rw [e1,List.mem_append,List.mem_cons] at hx;rw [e2];rcases hx with hx|rfl|hx
 ·exact ⟨x,by simp [hx],rfl,rfl,rfl⟩
 ·exact ⟨hd',by simp,e3,e4,e5⟩
 ·exact ⟨x,by simp [hx],rfl,rfl,rfl⟩
theorem Zdg.symm {r':RF} (h:Zdg r r'):Zdg r' r:=by
 obtain ⟨A,hd,hd',C,e1,e2,e3,e4,e5⟩:=h.each;exact ⟨h.num.symm,h.lims.symm,h.rows.symm,h.grps.symm,A,hd',hd,C,e2,e1,e3.symm,e4.symm,e5.symm⟩
theorem Zrm (g:ZaM r) {lab:ByteArray} (h:(Z7 r o lab).2=0):Zdg r (Z7 r o lab).1:=by
 obtain ⟨A,hd,C,n,_,hL,_,_,_,e⟩:=ZwS g h;rw [e];exact ⟨rfl,rfl,rfl,rfl,A,hd,hd.put n,C,hL,rfl,rfl,rfl,rfl⟩
theorem ZtT (h:(Zam r o).2.2=0):Zdg r (Zam r o).1:=by
 unfold Zam at *;cases hg:Zcq o r.L with
 |none=>rw [hg] at h;cases h
 |some hd=>
  obtain ⟨A,C,hL,hA,ho⟩:=Zb1 hg;rw [hg] at h;dsimp only at h ⊢;split at h
  ·cases h
  ·rename_i h1
   rw [if_neg h1];split at h
   ·rename_i h2
    rw [if_pos h2];refine ⟨rfl,rfl,rfl,rfl,A,hd,{ hd with seats:=(Zar r.rows r.grps (Zx r.L) hd.many).1 },C,hL,?_,rfl,rfl,rfl⟩;show Zri o _ r.L=_;rw [hL];exact ZfE ho hA
   ·rename_i h2;exact absurd h h2
theorem Zuw {lab:ByteArray} (h:(Z7 r o lab).2≠0):(Z7 r o lab).1=r:=(Zrl h).1
theorem Zz0 (h:(Zam r o).2.2≠0):(Zam r o).1=r:=by
 unfold Zam at *;cases hg:Zcq o r.L with
 |none=>rfl
 |some hd=>
  rw [hg] at h;dsimp only at h ⊢;split
  ·rfl
  ·rename_i h1
   rw [if_neg h1] at h;split
   ·rename_i h2;rw [if_pos h2] at h;exact absurd rfl h
   ·rfl
end
section
open Go Go.VC Tryz
variable {b:ZU} {n:Int} {p:Pl} {w:Wt} {x:Bk}
theorem Core.uniq (c:Core b) {x y:Bk} (hx:x∈b.L) (hy:y∈b.L) (e:x.id=y.id):x=y:=c.ids.uniq hx hy e
theorem Core.uniqP (c:Core b) {p q:Pl} (hp:p∈b.fl) (hq:q∈b.fl) (e:p.n=q.n):p=q:=c.nums.uniq hp hq e
theorem Core.waits (c:Core b) (hp:p∈b.fl) (hw:w∈p.q):∃ x∈b.L,x.id=w.id/\x.flt=p.n/\x.state=3/\x.cls=w.cls/\x.many=w.many:=by
 obtain ⟨x,hx,e1,e2,e3⟩:=(c.loc p hp).backQ w hw;have h:=(c.loc p hp).has x hx e2;unfold ZiG at h;rw [if_pos e3] at h;obtain ⟨⟨w',hw',a1,a2,a3⟩,_⟩:=h;have:w'=w:=by
  have hq:=(c.qok p hp).ids;have key:∀ {q:List Wt},Zo4 q->∀ {a b:Wt},a∈q->b∈q->a.id=b.id->a=b:=by
   intro q
   induction q with
   |nil=>intro _ a b ha;cases ha
   |cons y q ih=>
    intro h a b ha hb e;have hp:=List.pairwise_cons.1 h;rcases List.mem_cons.1 ha with e1|h1
    ·rcases List.mem_cons.1 hb with e2|h2
     ·rw [e1,e2]
     ·rw [e1] at e;exact absurd e (hp.1 b h2)
    ·rcases List.mem_cons.1 hb with e2|h2
     ·rw [e2] at e;exact absurd e.symm (hp.1 a h1)
     ·exact ih hp.2 h1 h2 e
  exact key hq hw' hw (by omega)
 rw [this] at a2 a3;exact ⟨x,hx,e1,e2,e3,a2.symm,a3.symm⟩
theorem Core.noHold (c:Core b) (hp:p∈b.fl) (hw:w∈p.q):Zcq w.id p.r.L=none:=by
 rw [Zci];intro h hh e;obtain ⟨x,hx,e1,e2,e3,_⟩:=c.waits hp hw;obtain ⟨y,hy,a1,a2,a3⟩:=(c.loc p hp).backH h hh;have:=c.uniq hx hy (by omega);rw [this] at e3;exact a3 e3
theorem ZdN:(ZmQ w p).n=p.n:=Zc5.1
theorem Zkz (c:Core b) (hp:p∈b.fl) (hw:ZaD p.q (Zq p.r)=some w):w∈p.q/\ZdT (Zq p.r) w=true/\(ZQ p.r w.id w.cls w.many).2=0:=by
 obtain ⟨h1,h2⟩:=ZpC hw;exact ⟨h1,h2,Zq3 (c.good p hp) ((c.qok p hp).ok w h1) h2 (c.noHold hp h1)⟩
theorem Zms (c:Core b) (hp:p∈b.fl) (hn:p.n=n) (hf:ZaD p.q (Zq p.r)=some w):Core (Zkc b n w):=by
 obtain ⟨hw,hfit,htake⟩:=Zkz c hp hf;obtain ⟨x,hx,e1,e2,e3,e4,e5⟩:=c.waits hp hw;have hq:=c.qok p hp;refine c.swap (next:=b.next) ⟨Int.le_refl _,c.next.2⟩ (λ p' hp' hn'=>?_) (ZfU c.ids λ y _ e=>e) (λ y hy=>?_) (by show (Ze0 Bk.id w.id Ze2 b.L).length<=300;rw [Zki];exact c.many) (λ y hy=>?_) λ y _ _=>⟨p,hp,hn⟩
 ·obtain rfl:p'=p:=c.uniqP hp' hp (by omega)
  refine ⟨by rw [ZdN];exact hn,Zf1 (c.good _ hp) _ _ _,hq.del _,?_⟩;have hl:=c.loc _ hp;refine ⟨λ y hy e=>?_,λ v hv=>?_,λ h hh=>?_⟩
  ·obtain ⟨z,hz,rfl⟩:=Z9.1 hy
   by_cases hid:z.id=w.id
   ·rw [if_pos hid]
    obtain rfl:z=x:=c.uniq hz hx (by omega);unfold ZiG;rw [if_neg (by show (2:Int)≠3;omega)];exact ⟨⟨w.id,w.cls,w.many,[]⟩,(Zev htake).2 (.inl rfl),hid.symm,e4.symm,e5.symm⟩
   ·rw [if_neg hid] at e ⊢
    have hz2:=hl.has z hz (by rw [e,ZdN]);unfold ZiG at *;by_cases h3:z.state=3
    ·rw [if_pos h3] at hz2 ⊢
     obtain ⟨⟨v,hv,a1,a2,a3⟩,a4⟩:=hz2;refine ⟨⟨v,(ZkE hq.ids).2 ⟨hv,by omega⟩,a1,a2,a3⟩,?_⟩;show z.cls<((ZQ _ _ _ _).1.lims.length:Int);rw [Zc5.2];exact a4
    ·rw [if_neg h3] at hz2 ⊢
     obtain ⟨h,hh,a1,a2,a3⟩:=hz2;exact ⟨h,(Zev htake).2 (.inr hh),a1,a2,a3⟩
  ·obtain ⟨hv1,hv2⟩:=(ZkE hq.ids).1 hv
   obtain ⟨y,hy,a1,a2,a3⟩:=hl.backQ v hv1;exact ⟨y,Z9.2 ⟨y,hy,by rw [if_neg (by omega)]⟩,a1,by rw [a2,ZdN],a3⟩
  ·rcases (Zev htake).1 hh with rfl|hh
   ·exact ⟨Ze2 x,Z9.2 ⟨x,hx,by rw [if_pos e1]⟩,e1,by show x.flt=_;rw [e2,ZdN],by show (2:Int)≠3;omega⟩
   ·obtain ⟨y,hy,a1,a2,a3⟩:=hl.backH h hh
    refine ⟨y,Z9.2 ⟨y,hy,?_⟩,a1,by rw [a2,ZdN],a3⟩;rw [if_neg λ e=>?_];obtain rfl:y=x:=c.uniq hy hx (by omega);exact a3 e3
 ·obtain ⟨z,hz,rfl⟩:=Z9.1 hy
  have hb:=c.each z hz;by_cases hid:z.id=w.id
  ·rw [if_pos hid]
   obtain rfl:z=x:=c.uniq hz hx (by omega);exact ⟨hb.id,hb.flt,hb.cls,hb.many,⟨by show (1:Int)<=2;omega,by show (2:Int)<=3;omega⟩,hb.till,λ _=>hb.free (by omega)⟩
  ·rw [if_neg hid];exact hb
 ·constructor
  ·intro h
   obtain ⟨z,hz,rfl⟩:=Z9.1 h;by_cases hid:z.id=w.id
   ·rw [if_pos hid] at hy
    obtain rfl:z=x:=c.uniq hz hx (by omega);exact absurd (e2.trans hn) hy
   ·rw [if_neg hid];exact hz
  ·intro h
   refine Z9.2 ⟨y,h,?_⟩;rw [if_neg λ e=>?_];obtain rfl:y=x:=c.uniq h hx (by omega);exact hy (e2.trans hn)
theorem Zsn (c:Core b) (hp:b.at n=some p):(Zkc b n w).at n=some (ZmQ w p):=
 ZBK (by rw [ZdN];exact (Zax hp).2) c hp (ZfU c.nums λ q _ e=>by rw [ZdN];exact e)
theorem Zxl {q:Pl} (h:q∈(Zkc b n w).fl):q.n=n\/q∈b.fl:=by
 obtain ⟨z,hz,rfl⟩:=Z9.1 h;by_cases e:z.n=n
 ·rw [if_pos e];exact .inl (by rw [ZdN];exact e)
 ·rw [if_neg e];exact .inr hz
theorem Znc (t:ZcZ b):ZcZ (Zkc b n w):=by
 intro x hx hs;obtain ⟨z,hz,rfl⟩:=Z9.1 hx;by_cases e:z.id=w.id
 ·rw [if_pos e] at hs;exact absurd hs (by show (2:Int)≠1;omega)
 ·rw [if_neg e] at hs ⊢;exact t z hz hs
theorem ZoO {id:Int} {q:List Wt} (h:Ze7 id q=true):(Zig id q).length + 1=q.length:=by
 obtain ⟨A,w,C,e,_,_,e2⟩:=Zjw h;rw [e2,e];simp;omega
structure ZcC (n:Int) (b b':ZU):Prop where
 now:b'.now=b.now
 next:b'.next=b.next
 keys:b'.fl.map Pl.n=b.fl.map Pl.n
 others:∀ q∈b'.fl,q.n=n\/q∈b.fl
 ids:b'.L.map Bk.id=b.L.map Bk.id
 bk:∀ y∈b'.L,∃ x∈b.L,y.id=x.id/\y.flt=x.flt/\y.cls=x.cls/\y.many=x.many/\y.till=x.till
theorem ZcC.refl (n:Int) (b:ZU):ZcC n b b:=⟨rfl,rfl,rfl,λ _ h=>.inr h,rfl,λ y hy=>⟨y,hy,rfl,rfl,rfl,rfl,rfl⟩⟩
theorem ZcC.trans {b1 b2 b3:ZU} (h1:ZcC n b1 b2) (h2:ZcC n b2 b3):ZcC n b1 b3:=
 ⟨h2.now.trans h1.now,h2.next.trans h1.next,h2.keys.trans h1.keys,λ q hq=>by
  rcases h2.others q hq with h|h
  ·exact .inl h
  ·exact h1.others q h,h2.ids.trans h1.ids,λ y hy=>by
  obtain ⟨x,hx,a1,a2,a3,a4,a5⟩:=h2.bk y hy;obtain ⟨z,hz,c1,c2,c3,c4,c5⟩:=h1.bk x hx;exact ⟨z,hz,by omega,by omega,by omega,by omega,by omega⟩⟩
theorem ZfV {α:Type} {k:α->Int} {n:Int} {f:α->α} (hf:∀ x,k x=n->k (f x)=n):∀ l:List α,(Ze0 k n f l).map k=l.map k
 |[]=>rfl
 |a::l=>by
  show k (if k a=n then f a else a)::(Ze0 k n f l).map k=_
  rw [ZfV hf l,List.map_cons];split
  ·rename_i e;rw [hf a e,e]
  ·rfl
theorem ZsG:ZcC n b (Zkc b n w):=by
 refine ⟨rfl,rfl,ZfV (λ q e=>by rw [ZdN];exact e) _,λ q hq=>Zxl hq,ZfV (k:=Bk.id) (f:=Ze2) (λ y e=>e) b.L,λ y hy=>?_⟩;obtain ⟨z,hz,rfl⟩:=Z9.1 hy;refine ⟨z,hz,?_⟩;split<;>exact ⟨rfl,rfl,rfl,rfl,rfl⟩
theorem ZrY:∀ (k:Nat) {b:ZU},Core b->Core (Zj0 k n b)/\ZcC n b (Zj0 k n b)/\(ZcZ b->ZcZ (Zj0 k n b))/\((∀ p,b.at n=some p->p.q.length<k)->∀ p∈(Zj0 k n b).fl,p.n=n->ZgL p)
 |0,b,c=>⟨c,ZcC.refl n b,λ t=>t,λ h p hp e=>absurd (h p ((Zip c).2 ⟨hp,e⟩)) (by omega)⟩
 |k + 1,b,c=>by
  unfold Zj0;cases ha:b.at n with
  |none=>
   refine ⟨c,ZcC.refl n b,λ t=>t,λ _ p hp e=>?_⟩;rw [(Zip c).2 ⟨hp,e⟩] at ha;cases ha
  |some p=>
   dsimp only;have hp:=Zax ha;cases hq:ZaD p.q (Zq p.r) with
   |none=>
    refine ⟨c,ZcC.refl n b,λ t=>t,λ _ p' hp' e=>?_⟩;obtain rfl:p'=p:=c.uniqP hp' hp.1 (by rw [e,hp.2]);exact hq
   |some w=>
    dsimp only;have c':=Zms c hp.1 hp.2 hq;obtain ⟨i1,i2,i3,i4⟩:=ZrY k c';refine ⟨i1,ZsG.trans i2,λ t=>i3 (Znc t),λ h=>i4 λ p' hp'=>?_⟩;rw [Zsn c ha] at hp';cases hp';have h1:=h p rfl;have hm:=(Zkz c hp.1 hq).1;have h2:=ZoO (Zhk.2 ⟨w,hm,rfl⟩);show (Zig w.id p.q).length<k;omega
theorem Zcz (c:Core b):Core (ZV n b)/\ZcC n b (ZV n b)/\(ZcZ b->ZcZ (ZV n b))/\∀ p∈(ZV n b).fl,p.n=n->ZgL p:=by
 obtain ⟨h1,h2,h3,h4⟩:=ZrY (n:=n) 201 c;exact ⟨h1,h2,h3,h4 λ p hp=>by have:=(c.qok p (Zax hp).1).len;omega⟩
theorem Zti (c:Core b) {r:RF} (g:ZaM r) (hL:r.L=[]) (hn:b.at r.num=none) (hf:b.fl.length<8):Core { b with fl:=ZqC Pl.n ⟨r,[]⟩ b.fl }:=by
 have hno:=Zeg.1 hn;refine ⟨c.now,c.next,λ p hp=>?_,λ p hp=>?_,Zl4 c.nums hno,by show (ZqC Pl.n _ b.fl).length<=8;rw [Zoy];omega,c.ids,c.each,c.many,λ x hx=>?_,λ p hp=>?_⟩
 ·rcases ZdP.1 hp with rfl|hp
  ·exact g
  ·exact c.good p hp
 ·rcases ZdP.1 hp with rfl|hp
  ·exact QOk.nil
  ·exact c.qok p hp
 ·obtain ⟨p,hp,e⟩:=c.there x hx
  exact ⟨p,ZdP.2 (.inr hp),e⟩
 ·rcases ZdP.1 hp with rfl|hp
  ·refine ⟨λ x hx e=>?_,λ w hw=>(by cases hw),λ h hh=>?_⟩
   ·obtain ⟨p,hp,e2⟩:=c.there x hx
    exact absurd (e2.trans e) (hno p hp)
   ·rw [show (Pl.mk r []).r.L=r.L from rfl,hL] at hh;cases hh
  ·exact c.loc p hp
theorem ZoT (c:Core b) (hx:x∈b.L) {f:Pl->Pl} (hf:∀ p∈b.fl,p.n=x.flt->(f p).n=x.flt/\ZaM (f p).r/\QOk (f p).q/\(f p).r.lims=p.r.lims/\(∀ w,w∈(f p).q↔w∈p.q/\w.id≠x.id)/\∀ h,h∈(f p).r.L↔h∈p.r.L/\h.owner≠x.id):
  Core (b.put x.flt f (ZoA Bk.id x.id b.L)):=by
 refine c.swap (next:=b.next) ⟨Int.le_refl _,c.next.2⟩ (λ p hp hn=>?_) (ZsH c.ids) (λ y hy=>c.each y (Zcv.1 hy).1) (Nat.le_trans (List.length_filter_le _ _) c.many) (λ y hy=>?_) λ y _ _=>c.there x hx
 ·obtain ⟨f1,f2,f3,f6,f4,f5⟩:=hf p hp hn
  have hl:=c.loc p hp;refine ⟨f1,f2,f3,λ y hy e=>?_,λ w hw=>?_,λ h hh=>?_⟩
  ·obtain ⟨hy1,hy2⟩:=Zcv.1 hy
   have h:=hl.has y hy1 (by rw [e,f1,hn]);unfold ZiG at *;by_cases h3:y.state=3
   ·rw [if_pos h3] at h ⊢
    obtain ⟨⟨w,hw,a1,a2,a3⟩,a4⟩:=h;exact ⟨⟨w,(f4 w).2 ⟨hw,by omega⟩,a1,a2,a3⟩,by rw [f6];exact a4⟩
   ·rw [if_neg h3] at h ⊢
    obtain ⟨h,hh,a1,a2,a3⟩:=h;exact ⟨h,(f5 h).2 ⟨hh,by omega⟩,a1,a2,a3⟩
  ·obtain ⟨hw1,hw2⟩:=(f4 w).1 hw
   obtain ⟨y,hy,a1,a2,a3⟩:=hl.backQ w hw1;exact ⟨y,Zcv.2 ⟨hy,by omega⟩,a1,by rw [a2,f1,hn],a3⟩
  ·obtain ⟨hh1,hh2⟩:=(f5 h).1 hh
   obtain ⟨y,hy,a1,a2,a3⟩:=hl.backH h hh1;exact ⟨y,Zcv.2 ⟨hy,by omega⟩,a1,by rw [a2,f1,hn],a3⟩
 ·refine Zcv.trans ⟨λ h=>h.1,λ h=>⟨h,λ e=>hy ?_⟩⟩
  rw [c.uniq h hx e]
theorem Zil (c:Core b) (hx:x∈b.L) (hs:x.state≠3):Core (Zf9 b x):=by
 refine ZoT c hx λ p hp hn=>⟨by show (Zca _ _).1.num=_;rw [ZeJ.1];exact hn,ZsS (c.good p hp) _,c.qok p hp,ZeJ.2,λ w=>⟨λ hw=>⟨hw,λ e=>?_⟩,λ h=>h.1⟩,λ h=>Zvd (c.good p hp)⟩;obtain ⟨y,hy,e1,_,e3,_⟩:=c.waits hp hw;rw [c.uniq hy hx (by omega)] at e3;exact hs e3
theorem Zmt (c:Core b) (hx:x∈b.L):Core (ZkW b x):=by
 unfold ZkW;split
 ·rename_i hs
  refine ZoT c hx λ p hp hn=>⟨hn,c.good p hp,(c.qok p hp).del _,rfl,λ w=>ZkE (c.qok p hp).ids,λ h=>⟨λ hh=>⟨hh,λ e=>?_⟩,λ hh=>hh.1⟩⟩;obtain ⟨y,hy,a1,a2,a3⟩:=(c.loc p hp).backH h hh;rw [c.uniq hy hx (by omega)] at a3;exact a3 hs
 ·rename_i hs
  exact Zil c hx hs
theorem ZpE {f:Pl->Pl} {L:List Bk} (t:ZcZ b) (h:∀ y∈L,y.state=1->y∈b.L):ZcZ (b.put n f L):=λ y hy hs=>t y (h y hy hs) hs
theorem Znx (t:ZcZ b):ZcZ (ZkW b x):=by
 unfold ZkW Zf9;split<;>exact ZpE t λ y hy _=>(Zcv.1 hy).1
theorem ZxA {q:Pl} (h:q∈(ZkW b x).fl):q.n=x.flt\/q∈b.fl:=by
 unfold ZkW Zf9 at h;split at h<;>
 ·obtain ⟨z,hz,rfl⟩:=Z9.1 h
  by_cases e:z.n=x.flt
  ·rw [if_pos e]
   exact .inl (by first|exact e|(show (Zca _ _).1.num=_;rw [ZeJ.1];exact e))
  ·rw [if_neg e];exact .inr hz
end
section
open Go Go.VC Tryz
variable {b:ZU} {n:Int} {p:Pl} {w:Wt} {x:Bk} {c:Cm}
theorem ZaS {α:Type} {l:List α} {a y:α}:y∈l++[a]↔y∈l\/y=a:=by simp
theorem Core.fresh (k:Core b) {y:Bk} (hy:y∈b.L):y.id<b.next:=(k.each y hy).id.2
theorem ZoV (k:Core b) (hx:Zua (b.next + 1) x) (hid:x.id=b.next) (hf:¬ b.full) (hp:p∈b.fl) (hn:p.n=x.flt) {f:Pl->Pl} (hl:(f p).n=p.n/\ZaM (f p).r/\QOk (f p).q/\ZDk (b.L++[x]) (f p)):
  Core { b.put x.flt f (b.L++[x]) with next:=b.next + 1 }:=by
 unfold ZU.full at hf;refine k.swap (next:=b.next + 1) ⟨by omega,by omega⟩ (λ p' hp' hn'=>?_) (Zp2 k.ids λ y hy=>by rw [hid];exact k.fresh hy) (λ y hy=>?_) (by rw [List.length_append,List.length_singleton];omega) (λ y hy=>?_) λ y _ _=>⟨p,hp,hn⟩
 ·obtain rfl:p'=p:=k.uniqP hp' hp (by omega)
  exact ⟨by rw [hl.1];exact hn,hl.2.1,hl.2.2.1,hl.2.2.2⟩
 ·rcases ZaS.1 hy with hy|rfl
  ·exact (k.each y hy).le (by omega)
  ·exact hx
 ·refine ZaS.trans ⟨λ h=>?_,λ h=>.inl h⟩
  rcases h with h|rfl
  ·exact h
  ·exact absurd rfl hy
theorem Zik (k:Core b) (hc:ZaL c) (hp:b.at c.flt=some p) (hf:¬ b.full) (ht:(ZQ p.r b.next c.cls c.many).2=0):
  Core { b.put c.flt (takeP b.next c.cls c.many) (b.L++[Zat b c]) with next:=b.next + 1 }:=by
 obtain ⟨hp1,hp2⟩:=Zax hp;have hnx:=k.next;refine ZoV k (x:=Zat b c) ⟨⟨hnx.1,by show b.next<b.next + 1;omega⟩,hc.flt,hc.cls,hc.many,⟨by show (1:Int)<=1;omega,by show (1:Int)<=3;omega⟩,hc.time,λ h=>absurd rfl h⟩ rfl hf hp1 hp2 ?_;refine ⟨Zc5.1,Zf1 (k.good p hp1) _ _ _,k.qok p hp1,?_⟩;have hl:=k.loc p hp1;have hnum:(takeP b.next c.cls c.many p).n=p.n:=Zc5.1;refine ⟨λ y hy e=>?_,λ v hv=>?_,λ h hh=>?_⟩
 ·rcases ZaS.1 hy with hy|rfl
  ·have h:=hl.has y hy (by rw [e,hnum])
   unfold ZiG at *;by_cases h3:y.state=3
   ·rw [if_pos h3] at h ⊢
    exact ⟨h.1,by show y.cls<((ZQ _ _ _ _).1.lims.length:Int);rw [Zc5.2];exact h.2⟩
   ·rw [if_neg h3] at h ⊢
    obtain ⟨h,hh,a⟩:=h;exact ⟨h,(Zev ht).2 (.inr hh),a⟩
  ·unfold ZiG
   rw [if_neg (by show (1:Int)≠3;omega)];exact ⟨⟨b.next,c.cls,c.many,[]⟩,(Zev ht).2 (.inl rfl),rfl,rfl,rfl⟩
 ·obtain ⟨y,hy,a1,a2,a3⟩:=hl.backQ v hv
  exact ⟨y,ZaS.2 (.inl hy),a1,by rw [a2,hnum],a3⟩
 ·rcases (Zev ht).1 hh with rfl|hh
  ·exact ⟨Zat b c,ZaS.2 (.inr rfl),rfl,by show c.flt=_;rw [hnum];exact hp2.symm,by show (1:Int)≠3;omega⟩
  ·obtain ⟨y,hy,a1,a2,a3⟩:=hl.backH h hh
   exact ⟨y,ZaS.2 (.inl hy),a1,by rw [a2,hnum],a3⟩
theorem Zi6 {q:List Wt} (h:(ZcL q w).2=0):w.Ok/\Ze7 w.id q=false/\q.length<200/\ZcL q w=(ZgA w q,0):=by
 unfold ZcL at *;split at h
 ·cases h
 rename_i h1;split at h
 ·cases h
 rename_i h2;split at h
 ·cases h
 rename_i h3;rw [if_neg h1,if_neg h2,if_neg h3];exact ⟨by simpa using h1,by simpa using h2,by omega,rfl⟩
theorem Zij (k:Core b) (hc:ZaL c) (hs:c.sc<18446744073709551616) (hp:b.at c.flt=some p) (hcl:¬ (p.r.lims.length:Int)<=c.cls) (hf:¬ b.full) (hq:(ZcL p.q (Zdh b c)).2=0):Core (Zcc b c):=by
 obtain ⟨hp1,hp2⟩:=Zax hp;obtain ⟨q1,q2,q3,_⟩:=Zi6 hq;have hnx:=k.next;refine ZoV k (x:=ZbS b c) ⟨⟨hnx.1,by show b.next<b.next + 1;omega⟩,hc.flt,hc.cls,hc.many,⟨by show (1:Int)<=3;omega,by show (3:Int)<=3;omega⟩,⟨Int.le_refl _,by show (0:Int)<=_;omega⟩,λ _=>rfl⟩ rfl hf hp1 hp2 ?_;refine ⟨rfl,k.good p hp1,(k.qok p hp1).ins q1 hs q2 q3,?_⟩;have hl:=k.loc p hp1;refine ⟨λ y hy e=>?_,λ v hv=>?_,λ h hh=>?_⟩
 ·rcases ZaS.1 hy with hy|rfl
  ·have h:=hl.has y hy e
   unfold ZiG at *;by_cases h3:y.state=3
   ·rw [if_pos h3] at h ⊢
    obtain ⟨⟨v,hv,a⟩,a4⟩:=h;exact ⟨⟨v,Zb7.2 (.inr hv),a⟩,a4⟩
   ·rw [if_neg h3] at h ⊢
    exact h
  ·unfold ZiG
   rw [if_pos (by rfl)];exact ⟨⟨Zdh b c,Zb7.2 (.inl rfl),rfl,rfl,rfl⟩,by show c.cls<(p.r.lims.length:Int);omega⟩
 ·rcases Zb7.1 hv with rfl|hv
  ·exact ⟨ZbS b c,ZaS.2 (.inr rfl),rfl,hp2.symm,rfl⟩
  ·obtain ⟨y,hy,a⟩:=hl.backQ v hv
   exact ⟨y,ZaS.2 (.inl hy),a⟩
 ·obtain ⟨y,hy,a⟩:=hl.backH h hh
  exact ⟨y,ZaS.2 (.inl hy),a⟩
theorem Zmr (k:Core b) (hx:x∈b.L) (hs:x.state=1):Core { b with L:=Ze0 Bk.id x.id Zdq b.L }:=by
 have hmem:∀ {y},y∈Ze0 Bk.id x.id Zdq b.L->y=Zdq x\/(y∈b.L/\y.id≠x.id):=λ {y} hy=>by
  obtain ⟨z,hz,rfl⟩:=Z9.1 hy;by_cases e:z.id=x.id
  ·rw [if_pos e,k.uniq hz hx e];exact .inl rfl
  ·rw [if_neg e];exact .inr ⟨hz,e⟩
 have hput:∀ {y},y∈b.L->y.id≠x.id->y∈Ze0 Bk.id x.id Zdq b.L:=λ {y} hy e=>Z9.2 ⟨y,hy,by rw [if_neg e]⟩;have hnew:Zdq x∈Ze0 Bk.id x.id Zdq b.L:=Z9.2 ⟨x,hx,by rw [if_pos rfl]⟩;refine ⟨k.now,k.next,k.good,k.qok,k.nums,k.few,ZfU k.ids λ _ _ e=>e,λ y hy=>?_,by show (Ze0 Bk.id _ _ b.L).length<=_;rw [Zki];exact k.many,λ y hy=>?_,λ p hp=>?_⟩
 ·rcases hmem hy with rfl|⟨hy,_⟩
  ·have hb:=k.each x hx
   exact ⟨hb.id,hb.flt,hb.cls,hb.many,⟨by show (1:Int)<=2;omega,by show (2:Int)<=3;omega⟩,⟨Int.le_refl _,by show (0:Int)<=_;omega⟩,λ _=>rfl⟩
  ·exact k.each y hy
 ·rcases hmem hy with rfl|⟨hy,_⟩
  ·exact k.there x hx
  ·exact k.there y hy
 ·have hl:=k.loc p hp
  refine ⟨λ y hy e=>?_,λ w hw=>?_,λ h hh=>?_⟩
  ·rcases hmem hy with rfl|⟨hy,_⟩
   ·have h:=hl.has x hx e
    unfold ZiG at *;rw [if_neg (by omega)] at h;rw [if_neg (by show (2:Int)≠3;omega)];exact h
   ·exact hl.has y hy e
  ·obtain ⟨y,hy,a1,a2,a3⟩:=hl.backQ w hw
   refine ⟨y,hput hy λ e=>?_,a1,a2,a3⟩;rw [k.uniq hy hx e] at a3;omega
  ·obtain ⟨y,hy,a1,a2,a3⟩:=hl.backH h hh
   by_cases e:y.id=x.id
   ·rw [k.uniq hy hx e] at a1 a2
    exact ⟨Zdq x,hnew,a1,a2,by show (2:Int)≠3;omega⟩
   ·exact ⟨y,hput hy e,a1,a2,a3⟩
theorem Zth (k:Core b) {r:RF} (hp:b.at n=some p) (g:ZaM r) (h:Zdg p.r r):Core (b.put n (Zc2 r) b.L):=by
 obtain ⟨hp1,hp2⟩:=Zax hp;refine k.swap (next:=b.next) ⟨Int.le_refl _,k.next.2⟩ (λ p' hp' hn'=>?_) k.ids k.each k.many (λ y _=>Iff.rfl) λ y _ _=>⟨p,hp1,hp2⟩;obtain rfl:p'=p:=k.uniqP hp' hp1 (by omega);have hl:=k.loc _ hp1;have hnum:(Zc2 r p').n=p'.n:=h.num;refine ⟨by rw [hnum];exact hp2,g,k.qok p' hp1,λ y hy e=>?_,λ w hw=>?_,λ o ho=>?_⟩
 ·have h2:=hl.has y hy (by rw [e,hnum])
  unfold ZiG at *;by_cases h3:y.state=3
  ·rw [if_pos h3] at h2 ⊢
   exact ⟨h2.1,by show y.cls<(r.lims.length:Int);rw [h.lims];exact h2.2⟩
  ·rw [if_neg h3] at h2 ⊢
   obtain ⟨o,ho,a1,a2,a3⟩:=h2;obtain ⟨o',ho',c1,c2,c3⟩:=h.mem ho;exact ⟨o',ho',by omega,by omega,by omega⟩
 ·obtain ⟨y,hy,a1,a2,a3⟩:=hl.backQ w hw
  exact ⟨y,hy,a1,by rw [a2,hnum],a3⟩
 ·obtain ⟨o',ho',c1,_,_⟩:=h.symm.mem ho
  obtain ⟨y,hy,a1,a2,a3⟩:=hl.backH o' ho';exact ⟨y,hy,by omega,by rw [a2,hnum],a3⟩
theorem ZoU (k:Core b) {t:Int} (h:0<=t/\t<=1099511627776):Core { b with now:=t }:=⟨h,k.next,k.good,k.qok,k.nums,k.few,k.ids,k.each,k.many,k.there,k.loc⟩
theorem Zvm:(Zf9 b x).now=b.now:=rfl
theorem Zs6:∀ (l:List Bk) {b:ZU},Core b->(∀ x∈l,x∈b.L)->ZaO Bk.id l->
  Core (Zej l b)/\(Zej l b).now=b.now/\(Zej l b).next=b.next/\((Zej l b).fl.map Pl.n=b.fl.map Pl.n)/\∀ y,y∈(Zej l b).L↔y∈b.L/\¬ (y∈l/\old b.now y=true)
 |[],b,k,_,_=>⟨k,rfl,rfl,rfl,λ y=>by simp [Zej]⟩
 |x::l,b,k,hl,hr=>by
  have hp:=List.pairwise_cons.1 hr;have hx:=hl x (by simp);unfold Zej;by_cases ho:old b.now x=true
  ·rw [if_pos ho]
   have hs:x.state=1:=by unfold old at ho;simp at ho;exact ho.1
   have k':=Zil k hx (by omega);have hin:∀ y∈l,y∈(Zf9 b x).L:=λ y hy=>Zcv.2 ⟨hl y (by simp [hy]),by have:=hp.1 y hy;omega⟩;obtain ⟨i1,i2,i3,i4,i5⟩:=Zs6 l k' hin hp.2;refine ⟨i1,i2,i3,i4.trans (ZfV (λ q e=>by show (Zca _ _).1.num=_;rw [ZeJ.1];exact e) _),λ y=>?_⟩;rw [i5,Zvm];have hm:y∈(Zf9 b x).L↔y∈b.L/\y.id≠x.id:=Zcv;rw [hm,List.mem_cons];constructor
   ·rintro ⟨⟨h1,h2⟩,h3⟩
    refine ⟨h1,λ⟨h4,h5⟩=>?_⟩;rcases h4 with rfl|h4
    ·exact h2 rfl
    ·exact h3 ⟨h4,h5⟩
   ·rintro ⟨h1,h2⟩
    refine ⟨⟨h1,λ e=>h2 ⟨.inl (k.uniq h1 hx e),?_⟩⟩,λ⟨h4,h5⟩=>h2 ⟨.inr h4,h5⟩⟩;rw [k.uniq h1 hx e];exact ho
  ·rw [if_neg ho]
   obtain ⟨i1,i2,i3,i4,i5⟩:=Zs6 l k (λ y hy=>hl y (by simp [hy])) hp.2;refine ⟨i1,i2,i3,i4,λ y=>?_⟩;rw [i5,List.mem_cons];constructor
   ·rintro ⟨h1,h2⟩
    refine ⟨h1,λ⟨h4,h5⟩=>?_⟩;rcases h4 with rfl|h4
    ·exact ho h5
    ·exact h2 ⟨h4,h5⟩
   ·rintro ⟨h1,h2⟩
    exact ⟨h1,λ⟨h4,h5⟩=>h2 ⟨.inr h4,h5⟩⟩
theorem Zk6 (k:Core b) {t:Int} (h:0<=t/\t<=1099511627776):Core (ZdV b t)/\ZcZ (ZdV b t)/\(ZdV b t).now=t/\(ZdV b t).next=b.next/\(ZdV b t).fl.map Pl.n=b.fl.map Pl.n:=by
 obtain ⟨i1,i2,i3,i4,i5⟩:=Zs6 b.L (ZoU k h) (λ x hx=>hx) k.ids;refine ⟨i1,λ y hy hs=>?_,i2,i3,i4⟩;obtain ⟨h1,h2⟩:=(i5 y).1 hy;show (ZdV b t).now<_;rw [show (ZdV b t).now=t from i2]
 refine Int.not_le.1 λ h3=>h2 ⟨h1,?_⟩;unfold old;simp [hs];exact h3
theorem Zi7:∀ (l:List Int) {b:ZU},Core b->ZcZ b->∀ S:Int->Prop,(∀ p∈b.fl,S p.n->ZgL p)->
  Core (ZcM l b)/\ZcZ (ZcM l b)/\(ZcM l b).now=b.now/\(ZcM l b).next=b.next/\(ZcM l b).fl.map Pl.n=b.fl.map Pl.n/\∀ p∈(ZcM l b).fl,(S p.n\/p.n∈l)->ZgL p
 |[],b,k,t,S,h=>⟨k,t,rfl,rfl,rfl,λ p hp e=>h p hp (by simpa using e)⟩
 |n::l,b,k,t,S,h=>by
  obtain ⟨p1,p2,p3,p4⟩:=Zcz (n:=n) k;obtain ⟨i1,i2,i3,i4,i5,i6⟩:=Zi7 l p1 (p3 t) (λ k=>S k\/k=n) λ p hp e=>by
   by_cases hn:p.n=n
   ·exact p4 p hp hn
   ·rcases p2.others p hp with h2|h2
    ·exact absurd h2 hn
    ·exact h p h2 (e.resolve_right hn)
  refine ⟨i1,i2,i3.trans p2.now,i4.trans p2.next,i5.trans p2.keys,λ p hp e=>i6 p hp ?_⟩;rcases e with e|e
  ·exact .inl (.inl e)
  ·rcases List.mem_cons.1 e with e|e
   ·exact .inl (.inr e)
   ·exact .inr e
theorem Zau.promoted (k:Core b) (t:ZcZ b) (h:∀ p∈b.fl,p.n=n\/ZgL p):Zau (ZV n b):=by
 obtain ⟨p1,p2,p3,p4⟩:=Zcz (n:=n) k;refine ⟨p1,p3 t,λ p hp=>?_⟩;by_cases e:p.n=n
 ·exact p4 p hp e
 ·rcases p2.others p hp with h2|h2
  ·exact absurd h2 e
  ·exact (h p h2).resolve_left e
theorem Zsh {r:RF}:ZgL ⟨r,[]⟩:=rfl
theorem ZpM (g:ZaM p.r) (hq:QOk p.q) (h:ZgL p) {id cls many:Int} (ht:(ZQ p.r id cls many).2=0):ZgL (takeP id cls many p):=by
 unfold ZgL ZaD at *;rw [List.find?_eq_none] at *;intro w hw hf;exact h w hw (Zs0 g ht (hq.ok w hw).2.1.1 hf)
theorem ZpN {r:RF} (h:ZgL p) (hs:Zdg p.r r):ZgL (Zc2 r p):=by
 unfold ZgL at *;show ZaD p.q (Zq r)=none;rw [hs.lefts];exact h
theorem ZrV {f:Pl->Pl} {L:List Bk} {q:Pl} (h:q∈(b.put n f L).fl):(∃ p∈b.fl,p.n=n/\q=f p)\/(q∈b.fl/\q.n≠n):=by
 obtain ⟨z,hz,rfl⟩:=Z9.1 h;by_cases e:z.n=n
 ·rw [if_pos e];exact .inl ⟨z,hz,e,rfl⟩
 ·rw [if_neg e];exact .inr ⟨hz,e⟩
theorem Zxe (k:Zau b):Zau (Zd0 b c).1:=by
 unfold Zd0;split
 ·exact k
 rename_i h1;split
 ·exact k
 rename_i h2;split
 ·exact k
 rename_i h3;have hn:b.at c.flt=none:=by cases e:b.at c.flt with|none=>rfl|some p=>rw [e] at h1;simp at h1
 have h3:Zj7 c.flt c.rows c.grps c.parts:=Classical.byContradiction h3;refine ⟨Zti k.core (Zks h3) rfl hn (by omega),k.time,λ p hp=>?_⟩;rcases ZdP.1 hp with rfl|hp
 ·exact Zsh
 ·exact k.nofit p hp
theorem Zxf (k:Zau b) (hc:ZaL c):Zau (Zdm b c).1:=by
 unfold Zdm;cases hp:b.at c.flt with
 |none=>exact k
 |some p=>
  dsimp only;split
  ·exact k
  rename_i h1;split
  ·exact k
  rename_i h2;split
  ·exact k
  rename_i h3;have h3:(ZQ p.r b.next c.cls c.many).2=0:=Classical.byContradiction h3;obtain ⟨hp1,hp2⟩:=Zax hp;refine ⟨Zik k.core hc hp h2 h3,λ y hy hs=>?_,λ q hq=>?_⟩
  ·rcases ZaS.1 hy with hy|rfl
   ·exact k.time y hy hs
   ·show b.now<c.time;omega
  ·rcases ZrV (b:=b) (L:=b.L) hq with ⟨z,hz,e,rfl⟩|⟨hq,_⟩
   ·obtain rfl:z=p:=k.core.uniqP hz hp1 (by omega)
    exact ZpM (k.core.good _ hz) (k.core.qok _ hz) (k.nofit _ hz) h3
   ·exact k.nofit q hq
theorem Zxd (k:Zau b) (hc:ZaL c) (hs:c.sc<18446744073709551616):Zau (ZbC b c).1:=by
 unfold ZbC;cases hp:b.at c.flt with
 |none=>exact k
 |some p=>
  dsimp only;split
  ·exact k
  rename_i h1;split
  ·exact k
  rename_i h2;split
  ·exact k
  rename_i h3;have h3:(ZcL p.q (Zdh b c)).2=0:=Classical.byContradiction h3;refine Zau.promoted (Zij k.core hc hs hp h1 h2 h3) (λ y hy hs=>?_) λ q hq=>?_
  ·rcases ZaS.1 hy with hy|rfl
   ·exact k.time y hy hs
   ·exact absurd hs (by show (3:Int)≠1;omega)
  ·rcases ZrV (b:=b) (L:=b.L) hq with ⟨z,hz,e,rfl⟩|⟨hq,_⟩
   ·exact .inl e
   ·exact .inr (k.nofit q hq)
theorem ZuT (k:Zau b) (hc:ZaL c):Zau (ZbN b c).1:=by
 unfold ZbN;split
 ·exact k
 obtain ⟨t1,t2,t3,t4,t5⟩:=Zk6 k.core hc.time;obtain ⟨p1,p2,p3,p4,p5,p6⟩:=Zi7 (b.fl.map Pl.n) t1 t2 (λ _=>False) λ p _ h=>h.elim;refine ⟨p1,p2,λ p hp=>p6 p hp (.inr ?_)⟩;rw [<-t5,<-p5];exact List.mem_map_of_mem hp
theorem ZAt (k:Zau b) (hx:x∈b.L):Zau (Zhf b x c).1:=by
 unfold Zhf;cases hp:b.at x.flt with
 |none=>exact k
 |some p=>
  obtain ⟨hp1,hp2⟩:=Zax hp;dsimp only;split
  ·split
   ·exact k
   ·rename_i h
    have h:x.state=1:=Classical.byContradiction h;refine ⟨Zmr k.core hx h,λ y hy hs=>?_,k.nofit⟩;obtain ⟨z,hz,rfl⟩:=Z9.1 hy;by_cases e:z.id=x.id
    ·rw [if_pos e] at hs;exact absurd hs (by show (2:Int)≠1;omega)
    ·rw [if_neg e] at hs ⊢;exact k.time z hz hs
  ·split
   ·exact Zau.promoted (Zmt k.core hx) (Znx k.time) λ q hq=>(ZxA hq).imp_right (k.nofit q)
   ·split
    ·exact k
    ·have seat:∀ r,ZaM r->Zdg p.r r->Zau (b.put x.flt (Zc2 r) b.L):=λ r g hs=>by
      refine ⟨Zth k.core hp g hs,λ y hy=>k.time y hy,λ q hq=>?_⟩;rcases ZrV (b:=b) (L:=b.L) hq with ⟨z,hz,e,rfl⟩|⟨hq,_⟩
      ·obtain rfl:z=p:=k.core.uniqP hz hp1 (by omega)
       exact ZpN (k.nofit _ hz) hs
      ·exact k.nofit q hq
     split
     ·split
      ·exact k
      ·rename_i h
       exact seat _ (Zmc (k.core.good p hp1) _ _) (Zrm (k.core.good p hp1) (Classical.byContradiction h))
     ·split
      ·exact k
      ·rename_i h
       exact seat _ (Zmd (k.core.good p hp1) _) (ZtT (Classical.byContradiction h))
theorem ZhS {s:ByteArray} {e:Int} (h:Zc9 b s=(some x,e)):x∈b.L:=by
 unfold Zc9 at h;split at h
 ·cases h
 ·split at h
  ·cases h
  ·rename_i y hy
   cases h;exact (Zef hy).1
theorem Zom (k:Zau b) (hs:c.sc<18446744073709551616):Zau (Zai b c).1:=by
 unfold Zai;split
 ·exact k
 rename_i hc;have hc:ZaL c:=Classical.byContradiction hc;split
 ·exact Zxe k
 split
 ·exact Zxf k hc
 split
 ·exact Zxd k hc hs
 split
 ·exact ZuT k hc
 split
 ·exact k
 split
 ·exact k
 ·rename_i hnm
  exact ZAt k (ZhS hnm)
theorem Zhv {b:ZU} {x:Bk}:(ZdM b x).code=0:=by
 unfold ZdM;split<;>rfl
theorem Zvk (h:(ZbC b c).2.code≠0):ZbC b c=(b,Zby (ZbC b c).2.code):=by
 unfold ZbC at *;cases hp:b.at c.flt with
 |none=>rfl
 |some p=>
  rw [hp] at h;dsimp only at h ⊢;split
  ·rfl
  rename_i h1;rw [if_neg h1] at h;split
  ·rfl
  rename_i h2;rw [if_neg h2] at h;split
  ·rfl
  rename_i h3;rw [if_neg h3] at h;refine absurd ?_ h;dsimp only;split
  ·rfl
  ·exact Zhv
theorem ZiK (k:Zau b) (hc:ZaL c) (hs:c.sc<18446744073709551616):
  ((ZbC b c).2.code≠0/\(ZbC b c).1=b)\/
  (∃ p y,b.at c.flt=some p/\¬ (p.r.lims.length:Int)<=c.cls/\¬ b.full/\(ZcL p.q (Zdh b c)).2=0/\Core (Zcc b c)/\
   y∈(ZV c.flt (Zcc b c)).L/\y.id=b.next/\y.flt=c.flt/\y.cls=c.cls/\y.many=c.many/\y.till=0/\
   ZbC b c=(ZV c.flt (Zcc b c),ZdM (ZV c.flt (Zcc b c)) y)):=by
 unfold ZbC;cases hp:b.at c.flt with
 |none=>exact .inl ⟨by show (2:Int)≠0;omega,rfl⟩
 |some p=>
  dsimp only;split
  ·exact .inl ⟨by show (1:Int)≠0;omega,rfl⟩
  rename_i h1;split
  ·exact .inl ⟨by show (3:Int)≠0;omega,rfl⟩
  rename_i h2;split
  ·rename_i h3;exact .inl ⟨h3,rfl⟩
  rename_i h3;have h3:(ZcL p.q (Zdh b c)).2=0:=Classical.byContradiction h3;have kc:=Zij k.core hc hs hp h1 h2 h3;obtain ⟨p1,p2,_,_⟩:=Zcz (n:=c.flt) kc;have hid:b.next∈(ZV c.flt (Zcc b c)).L.map Bk.id:=by
   rw [p2.ids];exact List.mem_map.2 ⟨ZbS b c,ZaS.2 (.inr rfl),rfl⟩
  obtain ⟨y,hy,he⟩:=List.mem_map.1 hid;obtain ⟨z,hz,a1,a2,a3,a4,a5⟩:=p2.bk y hy;have hzx:z=ZbS b c:=by
   rcases ZaS.1 hz with hz|rfl
   ·have:=k.core.fresh hz;omega
   ·rfl
  subst hzx;refine .inr ⟨p,y,rfl,h1,h2,h3,kc,hy,he,a2,a3,a4,a5,?_⟩;rw [(Zww p1).2 ⟨hy,he⟩]
end
section
open Go Go.VC Tryz
variable {b:ZU} {n:Int} {p:Pl} {w:Wt} {x:Bk} {c:Cm} {r:RF}
theorem Zv8 {f:Nat->Int}:∀ {k:Nat},(∀ i,i<k->0<=f i)->0<=mnF f k/\mnF f k<=10000
 |0,_=>by show (0:Int)<=10000/\(10000:Int)<=10000;omega
 |k + 1,h=>by
  have h1:=Zv8 (k:=k) λ i hi=>h i (by omega);have h2:=h k (by omega);unfold mnF;split<;>omega
theorem Zhg (g:ZaM r):(Zq r).length<=8/\∀ y∈Zq r,0<=y/\y<=10000:=by
 have h8:=(ZdA g).2.2;refine ⟨by rw [ZfS];exact h8,λ y hy=>?_⟩;obtain ⟨k,hk,rfl⟩:=List.mem_map.1 hy;have hk:=List.mem_range.1 hk;rw [(Zhh g hk).1];refine Zv8 λ i hi=>?_;have h:=(ZT.1 g.nest).2.2 i (by omega);unfold Zd8;omega
theorem Zxp {q:Fin 60} {m:Fin 10}:(ZfT (q.1 + 1) m.1).length<=3:=by
 have:∀ q:Fin 60,∀ m:Fin 10,(ZfT (q.1 + 1) m.1).length<=3:=by decide +kernel
 exact this q m
theorem ZsD {n:Int} {g:List Int} {k:Int}:(Zu4 n g k).1.size<=3:=by
 unfold Zu4;split
 ·rename_i h
  obtain ⟨a,b,q,m,_,_,b1,b2,hq,hm,e,_⟩:=ZsE h;dsimp only;rw [e,ZiN];exact Zxp (q:=⟨q,hq⟩) (m:=⟨m,by omega⟩)
 ·exact Nat.zero_le _
theorem ZsB (g:ZaM r) (o:Int):(ZaY r o).length<=600/\∀ s∈ZaY r o,s.size<=3:=by
 unfold ZaY;cases h:Zcq o r.L with
 |none=>exact ⟨by simp,λ s hs=>(by cases hs)⟩
 |some hd=>
  obtain ⟨hm,_⟩:=(Zf2 g.rise.ne).1 h;have h1:=(g.each hd hm).few;have h2:=g.len.2 hd hm;dsimp only;unfold Zd1;refine ⟨by rw [List.length_map];omega,λ s hs=>?_⟩;obtain ⟨k,_,rfl⟩:=List.mem_map.1 hs;exact ZsD
theorem Zsr (id:Int):(Zz8 id).size=6:=by
 unfold Zz8;rw [ZiN,Zot]
theorem Zd7 {n:Int} (g:ZaM p.r) (h:Zua n x):Zt1 (ZdL p x):=by
 obtain ⟨l1,l2⟩:=Zhg g;obtain ⟨b1,b2⟩:=ZsB g x.id;have h1:=h.flt;have h2:=h.cls;have h3:=h.many;have h4:=h.state;have h5:=h.till;refine ⟨by show (0:Int)<=0/\(0:Int)<=_;omega,by show (Zz8 x.id).size<=16;rw [Zsr];omega,?_,?_,?_,?_,?_,l1,λ y hy=>?_,b1,λ s hs=>?_⟩
 ·show 0<=x.state/\x.state<=_;omega
 ·show 0<=x.flt/\x.flt<=_;omega
 ·show 0<=x.cls/\x.cls<=_;omega
 ·show 0<=x.many/\x.many<=_;omega
 ·show 0<=x.till/\x.till<=_;omega
 ·have:=l2 y hy;omega
 ·have:=b2 s hs;omega
theorem ZfH {e f m t:Int} {s:ByteArray} {l:List Int} (he:0<=e/\e<=1099511627776) (hf:0<=f/\f<=1099511627776) (hm:0<=m/\m<=1099511627776) (ht:0<=t/\t<=1099511627776) (hs:s.size<=16) (hl:l.length<=8/\∀ y∈l,0<=y/\y<=10000):Zt1 ⟨e,s,0,f,0,m,t,l,[]⟩:=
 ⟨he,hs,by show (0:Int)<=0/\(0:Int)<=_;omega,hf,by show (0:Int)<=0/\(0:Int)<=_;omega,hm,ht,hl.1,λ y hy=>by have:=hl.2 y hy;omega,by show ([]:List ByteArray).length<=_;simp,λ y hy=>(by cases hy)⟩
theorem Zae {e:Int} (he:0<=e/\e<=1099511627776):Zt1 (Zby e):=
 ZfH he (by omega) (by omega) (by omega) (by show emS.size<=16;decide) ⟨by simp,λ y hy=>(by cases hy)⟩
theorem ZiW (k:Core b) (hx:x∈b.L):Zt1 (ZdM b x):=by
 obtain ⟨p,hp⟩:=k.at_of hx;unfold ZdM;rw [hp];exact Zd7 (k.good p (Zax hp).1) (k.each x hx)
theorem Zq4 {o c m:Int}:0<=(ZQ r o c m).2/\(ZQ r o c m).2<=7:=by
 unfold ZQ;split
 ·(dsimp only;omega)
 ·split
  ·(dsimp only;omega)
  ·split
   ·(dsimp only;omega)
   ·dsimp only
    unfold Zbc;split
    ·(dsimp only;omega)
    ·split<;>(dsimp only;omega)
theorem ZrT {q:List Wt}:0<=(ZcL q w).2/\(ZcL q w).2<=7:=by
 unfold ZcL;split
 ·(dsimp only;omega)
 ·split
  ·(dsimp only;omega)
  ·split<;>(dsimp only;omega)
theorem Zrn {o:Int} {lab:ByteArray}:0<=(Z7 r o lab).2/\(Z7 r o lab).2<=7:=by
 by_cases h:(Z7 r o lab).2=0
 ·omega
 ·have:=(Zrl h).2;omega
theorem ZtU (g:ZaM r) {o:Int}:0<=(Zam r o).2.2/\(Zam r o).2.2<=7:=by
 obtain ⟨f,_,t⟩:=Zih g;have:=(ZjH t g o).2.2.2;omega
theorem ZuY {l:List Int}:0<=(Zcf l).2/\(Zcf l).2<=7:=by
 unfold Zcf;split
 ·(dsimp only;omega)
 ·split<;>(dsimp only;omega)
theorem Zjb {s:ByteArray}:0<=(Zc9 b s).2/\(Zc9 b s).2<=7:=by
 unfold Zc9;split
 ·exact ZuY
 ·split<;>(dsimp only;omega)
theorem ZkB:emS.size<=16:=by decide
theorem Zrs (k:Zau b):Zt1 (ZdZ b c):=by
 unfold ZdZ;split
 ·exact Zae (by omega)
 rename_i h1;split
 ·split
  ·rename_i e h
   have:=Zjb (b:=b) (s:=c.pnr);rw [h] at this;exact Zae (by dsimp only at this;omega)
  ·rename_i h
   exact ZiW k.core (ZhS h)
 ·split
  ·exact Zae (by omega)
  ·rename_i p hp
   have hp:=Zax hp;have hc:ZaL c:=Classical.byContradiction λ h=>h1 (.inl h);have h2:=hc.flt;have h3:=(k.core.qok p hp.1).len;unfold Zg5 at h2;exact ZfH (by omega) (by omega) (by omega) (by omega) ZkB (Zhg (k.core.good p hp.1))
theorem ZiX (k:Zau b) (hs:c.sc<18446744073709551616):Zt1 (Zai b c).2:=by
 have k':=Zom k hs;unfold Zai at *;split
 ·exact Zae (by omega)
 rename_i hc;have hc:ZaL c:=Classical.byContradiction hc;have hcf:=hc.flt;unfold Zg5 at hcf;split
 ·unfold Zd0
  split
  ·exact Zae (by omega)
  ·split
   ·exact Zae (by omega)
   ·split
    ·exact Zae (by omega)
    ·rename_i h
     have h:Zj7 c.flt c.rows c.grps c.parts:=Classical.byContradiction h;exact ZfH (by omega) (by omega) (by omega) (by omega) ZkB (Zhg (Zks h))
 split
 ·unfold Zdm
  cases hp:b.at c.flt with
  |none=>exact Zae (by omega)
  |some p=>
   obtain ⟨hp1,hp2⟩:=Zax hp;have:=Zq4 (r:=p.r) (o:=b.next) (c:=c.cls) (m:=c.many);dsimp only;split
   ·exact Zae (by omega)
   rename_i h1;split
   ·exact Zae (by omega)
   rename_i h2;split
   ·exact Zae (by omega)
   ·rename_i h3
    have k2:=Zik k.core hc hp h2 (Classical.byContradiction h3);exact Zd7 (n:=b.next + 1) (Zf1 (k.core.good p hp1) _ _ _) (k2.each (Zat b c) (ZaS.2 (.inr rfl)))
 split
 ·rcases ZiK k hc hs with ⟨h,h'⟩|⟨_,y,_,_,_,_,kc,hy,_,_,_,_,_,e⟩
  ·rw [Zvk h]
   refine Zae ?_;unfold ZbC at h ⊢;cases hp:b.at c.flt with
   |none=>show (0:Int)<=2/\(2:Int)<=_;omega
   |some p=>
    have:=ZrT (w:=Zdh b c) (q:=p.q);rw [hp] at h;dsimp only at h ⊢;by_cases h1:(p.r.lims.length:Int)<=c.cls
    ·rw [if_pos h1];show (0:Int)<=1/\(1:Int)<=_;omega
    rw [if_neg h1] at h ⊢;by_cases h2:b.full
    ·rw [if_pos h2];show (0:Int)<=3/\(3:Int)<=_;omega
    rw [if_neg h2] at h ⊢;by_cases h3:(ZcL p.q (Zdh b c)).2≠0
    ·rw [if_pos h3];show 0<=(ZcL p.q (Zdh b c)).2/\(ZcL p.q (Zdh b c)).2<=_;omega
    ·rw [if_neg h3] at h
     refine absurd ?_ h;dsimp only;split
     ·rfl
     ·exact Zhv
  ·rw [e]
   exact ZiW (Zcz (n:=c.flt) kc).1 hy
 split
 ·unfold ZbN
  split
  ·exact Zae (by omega)
  ·exact ZfH (by omega) (by omega) (by omega) hc.time ZkB ⟨by simp,λ y hy=>(by cases hy)⟩
 split
 ·exact Zrs k
 split
 ·rename_i e h
  have:=Zjb (b:=b) (s:=c.pnr);rw [h] at this;exact Zae (by dsimp only at this;omega)
 ·rename_i x e h
  have hx:=ZhS h;obtain ⟨p,hp⟩:=k.core.at_of hx;obtain ⟨hp1,hp2⟩:=Zax hp;have g:=k.core.good p hp1;have hb:=k.core.each x hx;have s1:=Zrn (r:=p.r) (o:=x.id) (lab:=c.lab);have s2:=ZtU g (o:=x.id);unfold Zhf;rw [hp];dsimp only;split
  ·split
   ·exact Zae (by omega)
   ·rename_i h3
    have h3:x.state=1:=Classical.byContradiction h3;exact Zd7 (n:=b.next) g ((Zmr k.core hx h3).each (Zdq x) (Z9.2 ⟨x,hx,by rw [if_pos rfl]⟩))
  ·split
   ·exact ZfH (by omega) (by omega) (by omega) (by omega) hc.pnr ⟨by simp,λ y hy=>(by cases hy)⟩
   ·split
    ·exact Zae (by omega)
    ·split
     ·split
      ·exact Zae (by omega)
      ·exact Zd7 (p:=Zc2 _ p) (Zmc g _ _) hb
     ·split
      ·exact Zae (by omega)
      ·exact Zd7 (p:=Zc2 _ p) (Zmd g _) hb
end
section
open Go Go.VC Tryz
open Classical
noncomputable section
variable {b:ZU} {n:Int} {p:Pl} {w:Wt} {x:Bk} {r:RF}
def Zvu (bs:List Int):Option RF:=if ZF (ZeC bs).rd=true/\Zo6 (ZeC bs).rf then some (ZeC bs).rf else none
def Zmp (bs:List Int):Option (List Wt):=if ZDi bs then some (ZlK bs).1 else none
def Zmq (f q:List Int):Option Pl:=match Zvu f,Zmp q with
 |some r,some l=>some ⟨r,l⟩
 |_,_=>none
def ZfO (r:Rd):Option Pl × Rd:=(Zmq (ZD 65536 r).1 (ZD 65536 (ZD 65536 r).2).1,(ZD 65536 (ZD 65536 r).2).2)
def Zdw:Nat->Rd->Option (List Pl × Rd)
 |0,r=>some ([],r)
 |n + 1,r=>match (ZfO r).1 with
  |none=>none
  |some p=>(Zdw n (ZfO r).2).map λ x=>(p::x.1,x.2)
def Zo1 (r:Rd):Bk × Rd:=
 let a:=Zb 28629151 r
 let f:=Zb 9999 a.2
 let c:=Zb 9999 f.2
 let m:=Zb 9999 c.2
 let s:=Zb 3 m.2
 let t:=Zb 1099511627776 s.2
 (⟨a.1,f.1,c.1,m.1,s.1,t.1⟩,t.2)
def things (l:List Pl):Nat:=(l.map λ p=>p.r.L.length + p.q.length).sum
structure Zz4 (b:ZU) (x:Bk):Prop where
 id:1<=x.id/\x.id<b.next
 state:1<=x.state
 held:x.state=1->b.now<x.till
 free:x.state≠1->x.till=0
 has:∃ p,b.at x.flt=some p/\ZiG p x
structure ZAe (b:ZU):Prop where
 next:1<=b.next
 nums:ZaO Pl.n b.fl
 ids:ZaO Bk.id b.L
 each:∀ x∈b.L,Zz4 b x
 things:things b.fl=b.L.length
def ZBU (bs:List Int):Option (ZU × Rd):=
 let a:=Zb 1099511627776 ⟨bs,false⟩
 let n:=Zb 28629151 a.2
 let k:=Zb 8 n.2
 match Zdw k.1.toNat k.2 with
 |none=>none
 |some y=>
  let m:=Zb 300 y.2
  let z:=ZG Zo1 m.1.toNat m.2
  some (⟨a.1,n.1,y.1,z.1⟩,z.2)
def ZeZ (bs:List Int):Option ZU:=match ZBU bs with
 |none=>none
 |some y=>if ZF y.2=true/\ZAe y.1 then some y.1 else none
theorem ZqZ (g:ZaM r):(Zx r.L).length<=600:=by
 have h1:=Zus g;have h4:=(ZcS r.rows r.grps).2;have h2:=Zj5 (m:=(List.range 600).map λ (k:Nat)=>(k:Int)) h1 λ x hx=>by
  obtain ⟨h,hh,hx⟩:=ZcP.1 hx;have:=(g.each h hh).seats x hx;exact List.mem_map.2 ⟨x.toNat,List.mem_range.2 (by omega),by omega⟩
 rw [List.length_map,List.length_range] at h2;exact h2
theorem ZgY:∀ {L:List ZI},(∀ h∈L,ZdY h)->(ZaQ L).length<=36 * L.length + 9 * (Zx L).length
 |[],_=>by simp [ZaQ,Zx]
 |h::L,hin=>by
  have ih:=ZgY λ x hx=>hin x (List.mem_cons_of_mem h hx);have hh:=hin h List.mem_cons_self;have s3:ZeV [h.owner,h.cls,h.many]:=by
   intro y hy;have:=hh.o;have:=hh.c;have:=hh.m;simp at hy;omega
  have h1:=ZW (Zcm s3);have h2:=Zcg (l:=h.seats) (λ y hy=>by have:=hh.s y hy;omega) (by have:=hh.n;omega);have e1:ZaQ (h::L)=Ze1 h++ZaQ L:=by simp [ZaQ]
  have e2:Zx (h::L)=h.seats++Zx L:=by simp [Zx]
  have e3:(Ze1 h).length=(Zl [h.owner,h.cls,h.many]).length + (Zdl h.seats).length:=by unfold Ze1;rw [List.length_append]
  rw [e1,e2,List.length_append,List.length_append,List.length_cons,e3];simp only [List.length_cons,List.length_nil] at h1;omega
theorem Zez (g:ZaM r):(ZbP r).length<=28000:=by
 have s:=ZeI g;obtain ⟨l1,l2,l3⟩:=Zaa.1 g.lay;obtain ⟨m1,m2,m3⟩:=ZdA g;have hlen:=g.len.1;have ht:=ZqZ g;have u2:ZeV [r.num,r.rows]:=by intro y hy;have:=s.num;have:=s.rows;simp at hy;omega
 have u1:ZeV [(r.L.length:Int)]:=by intro y hy;simp at hy;omega
 have h1:=ZW (Zcm u2);have h2:=Zcg s.grps (by omega);have h3:=Zcg s.lims (by omega);have h4:=ZW (Zcm u1);have h5:=ZgY (Znw g);simp only [List.length_cons,List.length_nil] at h1 h4;unfold ZbP Zwh;simp only [List.length_append];omega
theorem Zvf {x:Nat} (h:x<18446744073709551616):(Zwf x).length<=9:=Zbn (Zoz h)
theorem Zu {x:Int} (h:0<=x/\x<18446744073709551616):(Zl [x]).length<=9:=by
 have:=ZW (l:=[x]) λ y hy=>by rw [List.mem_singleton.1 hy];exact h
 simpa using this
theorem ZmK (h:w.Ok) (hf:w.sc<18446744073709551616):(wtB w).length<=45:=by
 obtain ⟨h1,h2,h3,h4⟩:=h;have a1:=Zu (x:=w.id) (by omega);have a2:=Zu (x:=w.cls) (by omega);have a3:=Zu (x:=w.many) (by omega);have a4:=Zu (x:=w.time) (by omega);have a5:=Zvf hf;unfold wtB;simp only [List.length_append];omega
theorem Zbo {α:Type} {code:α->List Int} {m:Nat}:∀ {l:List α},(∀ x∈l,(code x).length<=m)->((l.map code).flatten).length<=m * l.length
 |[],_=>by simp
 |a::l,h=>by
  have h1:=h a (by simp);have h2:=Zbo (l:=l) λ x hx=>h x (by simp [hx]);rw [List.map_cons,List.flatten_cons,List.length_append,List.length_cons,Nat.mul_succ];omega
theorem ZlL {q:List Wt} (h:QOk q):(qB q).length<=9009:=by
 have h1:=Zu (x:=(q.length:Int)) (by have:=h.len;omega);have h2:=Zbo (l:=q) (code:=wtB) (m:=45) λ w hw=>ZmK (h.ok w hw) (h.fl w hw);have:=h.len;unfold qB;rw [List.length_append];omega
theorem ZaT {d:List Int} (h:d.length<1000000):(ZaZ d).length<=d.length + 9:=by
 have:=Zbn (n:=d.length) (by omega);unfold ZaZ;rw [List.length_append];omega
theorem Zr4 (g:ZaM p.r) (h:QOk p.q):(plB p).length<=38000:=by
 have h1:=Zez g;have h2:=ZlL h;have h3:=ZaT (d:=ZbP p.r) (by omega);have h4:=ZaT (d:=qB p.q) (by omega);unfold plB;rw [List.length_append];omega
theorem ZtI {n:Int} (hn:n<=28629151) (h:Zua n x):(bkB x).length<=54:=by
 have:=h.id;have:=h.flt;have:=h.cls;have:=h.many;have:=h.state;have:=h.till;have a0:=Zu (x:=x.id) (by omega);have a1:=Zu (x:=x.flt) (by omega);have a2:=Zu (x:=x.cls) (by omega);have a3:=Zu (x:=x.many) (by omega);have a4:=Zu (x:=x.state) (by omega);have a5:=Zu (x:=x.till) (by omega);unfold bkB;simp only [List.length_append];omega
theorem ZfF (k:Core b):(Zdi b).length<=400000:=by
 have h1:=k.now;have h2:=k.next;have h3:=k.few;have h4:=k.many;have a1:=Zu (x:=b.now) (by omega);have a2:=Zu (x:=b.next) (by omega);have a3:=Zu (x:=(b.fl.length:Int)) (by omega);have a4:=Zu (x:=(b.L.length:Int)) (by omega);have a5:=Zbo (l:=b.fl) (code:=plB) (m:=38000) λ p hp=>Zr4 (k.good p hp) (k.qok p hp);have a6:=Zbo (l:=b.L) (code:=bkB) (m:=54) λ x hx=>ZtI h2.2 (k.each x hx);unfold Zdi;simp only [List.length_append];omega
theorem Zvt (g:ZaM r):Zvu (ZbP r)=some r:=by
 have hw:=ZlC (ZbP r);have e:=Zod g;have hd:ZF (Ziu (ZbP r)).rd=true:=by rw [e];rfl
 have hr:ZeC (ZbP r)=Ziu (ZbP r):=hw.2 hd;unfold Zvu;rw [hr,e];have h2:ZF (Raw.mk r.num r.rows r.grps r.lims r.L ⟨[],false⟩).rd=true:=rfl;have h3:(Raw.mk r.num r.rows r.grps r.lims r.L ⟨[],false⟩).rf=r:=rfl;rw [h3,if_pos ⟨h2,ZoD g⟩]
theorem Zvw {q:List Wt} (h:QOk q):Zmp (qB q)=some q:=by
 obtain ⟨h1,h2⟩:=ZrQ h;unfold Zmp;rw [if_pos h1,h2]
theorem Zr3 (g:ZaM p.r) (h:QOk p.q) (more:List Int):ZfO ⟨plB p++more,false⟩=(some p,⟨more,false⟩):=by
 have h1:=Zez g;have h2:=ZlL h;unfold ZfO plB;rw [List.append_assoc,ZcI (by omega) (by omega)];dsimp only;rw [ZcI (by omega) (by omega)];dsimp only;unfold Zmq;rw [Zvt g,Zvw h]
theorem Zi8 {rest:List Int}:∀ {l:List Pl},(∀ p∈l,ZaM p.r/\QOk p.q)->Zdw l.length ⟨(l.map plB).flatten++rest,false⟩=some (l,⟨rest,false⟩)
 |[],_=>rfl
 |p::l,h=>by
  have hp:=h p (by simp);rw [List.map_cons,List.flatten_cons,List.append_assoc,List.length_cons];unfold Zdw;rw [Zr3 hp.1 hp.2];dsimp only;rw [Zi8 λ q hq=>h q (by simp [hq])];rfl
theorem ZtH {n:Int} (hn:n<=28629151) (h:Zua n x) (more:List Int):Zo1 ⟨bkB x++more,false⟩=(x,⟨more,false⟩):=by
 have:=h.id;have:=h.flt;have:=h.cls;have:=h.many;have:=h.state;have:=h.till;unfold Zo1 bkB;simp only [List.append_assoc];rw [Zv (by omega) (by omega) (by omega)];dsimp only;rw [Zv (by omega) (by omega) (by omega)];dsimp only;rw [Zv (by omega) (by omega) (by omega)];dsimp only;rw [Zv (by omega) (by omega) (by omega)];dsimp only;rw [Zv (by omega) (by omega) (by omega)];dsimp only;rw [Zv (by omega) (by omega) (by omega)]
theorem ZrI (k:Core b):ZBU (Zdi b)=some (b,⟨[],false⟩):=by
 have h1:=k.now;have h2:=k.next;have h3:=k.few;have h4:=k.many;have e0:ZG Zo1 b.L.length ⟨(b.L.map bkB).flatten,false⟩=(b.L,⟨[],false⟩):=by
  have e:=ZdO (one:=Zo1) (code:=bkB) (l:=b.L) (rest:=[]) λ x hx more=>ZtH h2.2 (k.each x hx) more;rw [List.append_nil] at e;exact e
 unfold ZBU Zdi;rw [Zv (by omega) (by omega) (by omega)];dsimp only;rw [Zv (by omega) (by omega) (by omega)];dsimp only;rw [Zv (by omega) (by omega) (by omega)];dsimp only;rw [Int.toNat_natCast,Zi8 λ p hp=>⟨k.good p hp,k.qok p hp⟩];dsimp only;rw [Zv (by omega) (by omega) (by omega)];dsimp only;rw [Int.toNat_natCast,e0]
def ZfB (p:Pl):List Int:=p.r.L.map ZI.owner++p.q.map Wt.id
theorem Zpc (l:List Pl):(l.flatMap ZfB).length=things l:=by
 induction l with
 |nil=>rfl
 |cons p l ih=>
  rw [List.flatMap_cons,List.length_append,ih];unfold ZfB things;rw [List.length_append,List.length_map,List.length_map,List.map_cons,List.sum_cons]
theorem ZjI (k:Core b) (hp:p∈b.fl) {i:Int} (hi:i∈ZfB p):∃ x∈b.L,x.id=i/\x.flt=p.n:=by
 rcases List.mem_append.1 hi with h|h
 ·obtain ⟨o,ho,rfl⟩:=List.mem_map.1 h
  obtain ⟨x,hx,e1,e2,_⟩:=(k.loc p hp).backH o ho;exact ⟨x,hx,e1,e2⟩
 ·obtain ⟨v,hv,rfl⟩:=List.mem_map.1 h
  obtain ⟨x,hx,e1,e2,_⟩:=(k.loc p hp).backQ v hv;exact ⟨x,hx,e1,e2⟩
theorem ZqV (k:Core b):(b.fl.flatMap ZfB).Nodup:=by
 have key:∀ l:List Pl,(∀ p∈l,p∈b.fl)->ZaO Pl.n l->(l.flatMap ZfB).Nodup:=by
  intro l
  induction l with
  |nil=>intro _ _;exact List.nodup_nil
  |cons p l ih=>
   intro hl hr;have hc:=List.pairwise_cons.1 hr;have hp:=hl p (by simp);rw [List.flatMap_cons];refine List.nodup_append.2 ⟨?_,ih (λ q hq=>hl q (by simp [hq])) hc.2,λ a ha c hc2 e=>?_⟩
   ·refine List.nodup_append.2 ⟨?_,?_,λ a ha c hc2 e=>?_⟩
    ·exact List.pairwise_map.2 ((k.good p hp).rise.ne)
    ·exact List.pairwise_map.2 ((k.qok p hp).ids)
    ·obtain ⟨o,ho,rfl⟩:=List.mem_map.1 ha
     obtain ⟨v,hv,rfl⟩:=List.mem_map.1 hc2;have:=Zci.1 (k.noHold hp hv) o ho;exact this e
   ·obtain ⟨q,hq,hcq⟩:=List.mem_flatMap.1 hc2
    obtain ⟨x,hx,e1,e2⟩:=ZjI k hp ha;obtain ⟨y,hy,e3,e4⟩:=ZjI k (hl q (by simp [hq])) hcq;have hxy:=k.uniq hx hy (by omega);have:=hc.1 q hq;rw [hxy] at e2;omega
 exact key b.fl (λ _ h=>h) k.nums
theorem ZqX (k:Core b):things b.fl=b.L.length:=by
 have e0:b.L.length=(b.L.map Bk.id).length:=(List.length_map Bk.id).symm;rw [<-Zpc,e0];refine Zsi (ZqV k) (List.pairwise_map.2 k.ids.ne) λ i=>?_;constructor
 ·intro h
  obtain ⟨p,hp,hi⟩:=List.mem_flatMap.1 h;obtain ⟨x,hx,e,_⟩:=ZjI k hp hi;exact List.mem_map.2 ⟨x,hx,e⟩
 ·intro h
  obtain ⟨x,hx,rfl⟩:=List.mem_map.1 h;obtain ⟨p,hp,e⟩:=k.there x hx;have hh:=(k.loc p hp).has x hx e.symm;refine List.mem_flatMap.2 ⟨p,hp,List.mem_append.2 ?_⟩;unfold ZiG at hh;split at hh
  ·obtain ⟨⟨w,hw,e1,_⟩,_⟩:=hh
   exact .inr (List.mem_map.2 ⟨w,hw,e1⟩)
  ·obtain ⟨o,ho,e1,_⟩:=hh
   exact .inl (List.mem_map.2 ⟨o,ho,e1⟩)
theorem ZAA (k:Zau b):ZAe b:=by
 refine ⟨k.core.next.1,k.core.nums,k.core.ids,λ x hx=>?_,ZqX k.core⟩;have hb:=k.core.each x hx;obtain ⟨p,hp⟩:=k.core.at_of hx;obtain ⟨hp1,hp2⟩:=Zax hp;exact ⟨hb.id,hb.state.1,k.time x hx,hb.free,p,hp,(k.core.loc p hp1).has x hx hp2.symm⟩
theorem Zst (k:Zau b):ZeZ (Zdi b)=some b:=by
 unfold ZeZ;rw [ZrI k.core];dsimp only;rw [if_pos ⟨rfl,ZAA k⟩]
end
end
section
open Go Go.VC Tryz
set_option maxRecDepth 10000
def B135 (d:Nat) (K:nK) (w : nW):Prop:=
 Ext prog 210 #[.float .f64 d] w λ c b=>
 ∃ a,(c=.returned (.int .u64 a))/\
 Br (Zgf BinOp.and IntKind.u64 a 9223372036854775808 !=0)
 (K (.int .u64 (IntKind.u64.wrap (↑(BitVec.ofInt IntKind.u64.bits (if IntKind.u64.signed=true then -1 else IntKind.u64.max) ^^^ BitVec.ofInt IntKind.u64.bits a).toNat:Int))) b)
 (K (.int .u64 (Zgf BinOp.or IntKind.u64 a 9223372036854775808)) b)
theorem ZzC (a:Nat) (K:nK) (w : nW) (h:B135 a K w):Zm prog 135 #[.float .f64 a] w K:=cq (sk:=.leaf) h func135
def B229 (a:Int) (K:nK) (w : nW):Prop:=
 Br (Zgf BinOp.and IntKind.u64 a 9223372036854775808==0)
 (Ext prog 222 #[.int .u64 (IntKind.u64.wrap (↑(BitVec.ofInt IntKind.u64.bits (if IntKind.u64.signed=true then -1 else IntKind.u64.max) ^^^ BitVec.ofInt IntKind.u64.bits a).toNat:Int))] w λ d f=>
 ∃ c,(d=.returned (.float .f64 c))/\
 K (.float .f64 c) f)
 (Ext prog 222 #[.int .u64 (Zgf BinOp.andNot IntKind.u64 a 9223372036854775808)] w λ e g=>
 ∃ b,(e=.returned (.float .f64 b))/\
 K (.float .f64 b) g)
theorem ZyF (a:Int) (K:nK) (w : nW) (h:B229 a K w):Zm prog 229 #[.int .u64 a] w K:=cq (sk:=.leaf) h func229
def B243 (b:Nat) (c:Nat) (K:nK) (w : nW):Prop:=
 nC 277 #[.float .f64 b,.float .f64 c] w λ d e=>
 ∃ a,(d=.returned (nI a))/\
 K (nI a) e
theorem Zyv (a:Nat) (b:Nat) (K:nK) (w : nW) (h:B243 a b K w):Zm prog 243 #[.float .f64 a,.float .f64 b] w K:=cq (sk:=.leaf) h func243
def B277 (c:Nat) (d:Nat) (K:nK) (w : nW):Prop:=
 nC 293 #[.float .f64 c] w λ j l=>
 ∃ i,(j=.returned (.bool i))/\
 nC 293 #[.float .f64 d] l λ k b=>
 ∃ e,(k=.returned (.bool e))/\
 Br i
 (Br e
 (K (nI 0) b)
 (K (nI ((-1))) b))
 (Br e
 (K (nI 1) b)
 (∃ f:Bool,(∀ a,(λ a=>a=b) a->((do eqGuard BinOp.lss 35 (Operand.tmp 14) (Operand.tmp 15) (.float .f64 c) (.float .f64 d);binOp BinOp.lss 35 (.float .f64 c) (.float .f64 d):Sem Value)).run prog a=.ok (.bool f) a)/\
 Br f
 (K (nI ((-1))) b)
 (∃ g:Bool,(∀ a,(λ a=>a=b) a->((do eqGuard BinOp.gtr 35 (Operand.tmp 17) (Operand.tmp 18) (.float .f64 c) (.float .f64 d);binOp BinOp.gtr 35 (.float .f64 c) (.float .f64 d):Sem Value)).run prog a=.ok (.bool g) a)/\
 Br g
 (K (nI 1) b)
 (K (nI 0) b))))
theorem Zyf (a:Nat) (b:Nat) (K:nK) (w : nW) (h:B277 a b K w):Zm prog 277 #[.float .f64 a,.float .f64 b] w K:=cq (sk:=.leaf) h func277
def B293 (b:Nat) (K:nK) (w : nW):Prop:=
 ∃ c:Bool,(∀ a,(λ a=>a=w) a->((do eqGuard BinOp.neq 35 (Operand.tmp 3) (Operand.tmp 4) (.float .f64 b) (.float .f64 b);binOp BinOp.neq 35 (.float .f64 b) (.float .f64 b):Sem Value)).run prog a=.ok (.bool c) a)/\
 K (.bool c) w
theorem Zyb (a:Nat) (K:nK) (w : nW) (h:B293 a K w):Zm prog 293 #[.float .f64 a] w K:=cq (sk:=.leaf) h func293
def B244 (c:Int) (d:Int) (K:nK) (w : nW):Prop:=
 nC 278 #[nI c] w λ f i=>
 ∃ e,(f=.returned (.bool e))/\
 nC 278 #[nI d] i λ g a=>
 ∃ b,(g=.returned (.bool b))/\
 Br e
 (Br b
 (K (nI 0) a)
 (K (nI ((-1))) a))
 (Br b
 (K (nI 1) a)
 (Br (decide (c<d))
 (K (nI ((-1))) a)
 (Br (decide (c>d))
 (K (nI 1) a)
 (K (nI 0) a))))
theorem Zyu (a:Int) (b:Int) (K:nK) (w : nW) (h:B244 a b K w):Zm prog 244 #[nI a,nI b] w K:=cq (sk:=.leaf) h func244
def B242 (f:Sl) (K:nK) (w : nW):Prop:=
 ∃ (d:Int->World->Prop) (g:Int->World->Nat),(d 0 w)/\∀ (k:Env) (b:Int) (c:World),d b c->
 Br (decide (b<(↑f.len:Int)))
 (Rng b f.len (Zc f.a λ i=>
 ∃ e,(Aw c (Addr.add i b.toNat) [nI e])/\
 Br (e !=0)
 (K (nI e) c)
 ((d (wI (b + 1)) c)/\g (wI (b + 1)) c<g b c)))
 (K (nI 0) c)
def ZCd:Sk:=(.seq .leaf (.seq .leaf (.seq (.seq .leaf (.block (.loop [8] [(.int .i64)] [2,5,8,9,10,11,12,13,14,15,16] .leaf))) .leaf)))
theorem Zyw (b:Sl) (K:nK) (w : nW) (h:B242 b K w):Zm prog 242 #[b.v] w K:=cq (sk:=ZCd) h func242
def B100  (K:nK) (w : nW):Prop:=
 New (.cells #[.slice none 0 0] 190 (0,0)) (λ a b=>
 K (.pointer ((some ⟨a,0,none⟩))) b) w
theorem ZzU  (K:nK) (w : nW) (h:B100  K w):Zm prog 100 #[] w K:=cq (sk:=.leaf) h func100
def B172 (z:Int) (A:Int) (C:Int) (D:Int) (E:Nat) (I:Int) (J:Int) (L:Int) (M:Int) (N:Nat) (K:nK) (w : nW):Prop:=
 New (.cells #[nI z,nI A,nI C,nI D,.float .f64 E] 192 (0,0)) (λ b F=>
 New (.cells #[nI I,nI J,nI L,nI M,.float .f64 N] 192 (0,0)) (λ c G=>
 Drw G λ a H=>
 ∃ n,(At a ⟨c,0 + 4,none⟩ [.float .f64 n])/\
 ∃ d,(At a ⟨b,0 + 4,none⟩ [.float .f64 d])/\
 ∃ f,(At a ⟨b,0 + 3,none⟩ [nI f])/\
 ∃ g,(At a ⟨c,0 + 3,none⟩ [nI g])/\
 ∃ j,(At a ⟨b,0,none⟩ [nI j])/\
 ∃ k,(At a ⟨c,0,none⟩ [nI k])/\
 nC 243 #[.float .f64 n,.float .f64 d] H λ u o=>
 ∃ e,(u=.returned (nI e))/\
 (a o)/\
 nC 244 #[nI f,nI g] o λ v p=>
 ∃ i,(v=.returned (nI i))/\
 (a p)/\
 nC 244 #[nI j,nI k] p λ x q=>
 ∃ l,(x=.returned (nI l))/\
 (a q)/\
 New (.cells #[nI e,nI i,nI l] 3 (0,0)) (λ t r=>
 (a r)/\
 nC 242 #[.slice ((some ⟨t,0,none⟩)) 3 3] r λ y s=>
 ∃ m,(y=.returned (nI m))/\
 (a s)/\
 K (nI m) s) q) F) w
theorem Zzb (a:Int) (b:Int) (c:Int) (d:Int) (e:Nat) (f:Int) (g:Int) (i:Int) (j:Int) (k:Nat) (K:nK) (w : nW) (h:B172 a b c d e f g i j k K w):Zm prog 172 #[.agg #[nI a,nI b,nI c,nI d,.float .f64 e],.agg #[nI f,nI g,nI i,nI j,.float .f64 k]] w K:=cq (sk:=.leaf) h func172
def B169 (t:Int) (u:Int) (v:Int) (x:Int) (y:Nat) (K:nK) (w : nW):Prop:=
 New (.cells #[nI t,nI u,nI v,nI x,.float .f64 y] 192 (0,0)) (λ b o=>
 ∃ m,(Aw o ⟨b,0,none⟩ [nI m])/\
 nC 239 #[nI m,nI 1,nI 28629151] o λ p c=>
 ∃ n,(p=.returned (.bool n))/\
 Br n
 (∃ f,(Aw c ⟨b,0 + 1,none⟩ [nI f])/\
 nC 239 #[nI f,nI 0,nI 7] c λ q d=>
 ∃ g,(q=.returned (.bool g))/\
 Br g
 (∃ i,(Aw d ⟨b,0 + 2,none⟩ [nI i])/\
 nC 239 #[nI i,nI 1,nI 600] d λ r e=>
 ∃ j,(r=.returned (.bool j))/\
 Br j
 (∃ k,(Aw e ⟨b,0 + 3,none⟩ [nI k])/\
 nC 239 #[nI k,nI 0,nI 1099511627776] e λ s z=>
 ∃ l,(s=.returned (.bool l))/\
 K (.bool l) z)
 (K (.bool false) e))
 (K (.bool false) d))
 (K (.bool false) c)) w
theorem Zze (a:Int) (b:Int) (c:Int) (d:Int) (e:Nat) (K:nK) (w : nW) (h:B169 a b c d e K w):Zm prog 169 #[.agg #[nI a,nI b,nI c,nI d,.float .f64 e]] w K:=cq (sk:=.leaf) h func169
def B239 (a:Int) (c:Int) (b:Int) (K:nK) (w : nW):Prop:=
 Br (decide (a >= c))
 (K (.bool (decide (a<=b))) w)
 (K (.bool false) w)
theorem Zyz (c:Int) (b:Int) (a:Int) (K:nK) (w : nW) (h:B239 c b a K w):Zm prog 239 #[nI c,nI b,nI a] w K:=cq (sk:=.leaf) h func239
def B170 (j:Option Addr) (i:Int) (K:nK) (w : nW):Prop:=
 New (.cells #[nI i] 3 (0,0)) (λ f d=>
 Zc j λ e=>
 ∃ b:Sl,(Aw d (Addr.add e 0) [b.v])/\
 nC 240 #[b.v,.func (.func 241) #[] #[.pointer ((some ⟨f,0,none⟩))]] d λ g l=>
 ∃ c,(g=.returned (nI c))/\
 K (nI c) l) w
theorem Zzd (b:Option Addr) (a:Int) (K:nK) (w : nW) (h:B170 b a K w):Zm prog 170 #[.pointer b,nI a] w K:=cq (sk:=.leaf) h func170
def B241 (i:Int) (j:Int) (k:Int) (l:Int) (m:Nat) (g:Option Addr) (K:nK) (w : nW):Prop:=
 New (.cells #[nI i,nI j,nI k,nI l,.float .f64 m] 192 (0,0)) (λ f b=>
 ∃ c,(Aw b ⟨f,0,none⟩ [nI c])/\
 Zc g λ e=>
 ∃ d,(Aw b e [nI d])/\
 K (.bool (c==d)) b) w
theorem Zyx (b:Int) (c:Int) (d:Int) (e:Int) (f:Nat) (a:Option Addr) (K:nK) (w : nW) (h:B241 b c d e f a K w):Zm prog 241 #[.agg #[nI b,nI c,nI d,nI e,.float .f64 f],.pointer a] w K:=cq (sk:=.leaf) h func241
def B102 (f:Option Addr) (ai:Int) (aj:Int) (ak:Int) (al:Int) (am:Nat) (K:nK) (w : nW):Prop:=
 New (.cells #[nI ai,nI aj,nI ak,nI al,.float .f64 am] 168 (0,0)) (λ o T=>
 ∃ L M N O Q,(Aw T ⟨o,0,none⟩ [nI L,nI M,nI N,nI O,.float .f64 Q])/\
 New (.cells #[nI 0,nI 0,nI 0,nI 0,.float .f64 0] 192 (0,0)) (λ i an=>
 ∃ l,(St 192 ⟨i,0,none⟩ (.agg #[nI L,nI M,nI N,nI O,.float .f64 Q]) an l)/\
 ∃ p q r s t,(Aw l ⟨i,0,none⟩ [nI p,nI q,nI r,nI s,.float .f64 t])/\
 nC 169 #[.agg #[nI p,nI q,nI r,nI s,.float .f64 t]] l λ ad m=>
 ∃ u,(ad=.returned (.bool u))/\
 Br (!u)
 (K (nI 1) m)
 (∃ v,(Aw m ⟨o,0,none⟩ [nI v])/\
 nC 170 #[.pointer f,nI v] m λ ae k=>
 ∃ x,(ae=.returned (nI x))/\
 Br (decide (x >= 0))
 (K (nI 7) k)
 (Zc f λ Y=>
 ∃ j:Sl,(Aw k (Addr.add Y 0) [j.v])/\
 Br (decide ((↑j.len:Int) >= 200))
 (K (nI 3) k)
 (Drw k λ n ao=>
 Zc f λ Z=>
 ∃ c:Sl,(At n (Addr.add Z 0) [c.v])/\
 ∃ y z A C D,(At n ⟨i,0,none⟩ [nI y,nI z,nI A,nI C,.float .f64 D])/\
 nC 171 #[c.v,.agg #[nI y,nI z,nI A,nI C,.float .f64 D],.func (.func 172) #[] #[]] ao λ af ap=>
 ∃ E ah,(af=.returned (.tuple #[nI E,.bool ah]))/\
 Drw ap λ g aq=>
 Zc f λ aa=>
 ∃ d:Sl,(At g (Addr.add aa 0) [d.v])/\
 ∃ F G H I J,(At g ⟨i,0,none⟩ [nI F,nI G,nI H,nI I,.float .f64 J])/\
 New (.cells #[nI F,nI G,nI H,nI I,.float .f64 J] 192 (0,0)) (λ ac X=>
 (g X)/\
 nC 173 #[d.v,nI E,.slice ((some ⟨ac,0,none⟩)) 1 1] X λ ag U=>
 ∃ e:Sl,(ag=.returned (e.v))/\
 (g U)/\
 Zc f λ ab=>
 ∃ V,(St 188 (Addr.add ab 0) (e.v) U V)/\
 K (nI 0) V) aq)))) T) w
theorem ZzS (a:Option Addr) (b:Int) (c:Int) (d:Int) (e:Int) (f:Nat) (K:nK) (w : nW) (h:B102 a b c d e f K w):Zm prog 102 #[.pointer a,.agg #[nI b,nI c,nI d,nI e,.float .f64 f]] w K:=cq (sk:=.leaf) h func102
def B105 (e:Option Addr) (m:Int) (K:nK) (w : nW):Prop:=
 nC 170 #[.pointer e,nI m] w λ k f=>
 ∃ d,(k=.returned (nI d))/\
 Br (decide (d<0))
 (K (nI 2) f)
 (Zc e λ i=>
 ∃ b:Sl,(Aw f (Addr.add i 0) [b.v])/\
 nC 176 #[b.v,nI d,nI (wI (d + 1))] f λ l o=>
 ∃ c:Sl,(l=.returned (c.v))/\
 Zc e λ j=>
 ∃ g,(St 188 (Addr.add j 0) (c.v) o g)/\
 K (nI 0) g)
theorem ZzP (b:Option Addr) (a:Int) (K:nK) (w : nW) (h:B105 b a K w):Zm prog 105 #[.pointer b,nI a] w K:=cq (sk:=.leaf) h func105
def B56 (C:Option Addr) (K:nK) (w : nW):Prop:=
 Zc C λ z=>
 ∃ d:Sl,(Aw w (Addr.add z 0) [d.v])/\
 ∃ (i:Sl->Int->World->Prop) (x:Sl->Int->World->Nat),(i ⟨none,0,0⟩ 0 w)/\∀ (F:Env) (b:Sl) (c:Int) (g:World),i b c g->
 Br (decide (c<(↑d.len:Int)))
 (Rng c d.len (Zc d.a λ y=>
 ∃ m n o p q,(Aw g (Addr.add y (Zcp c.toNat 5)) [nI m,nI n,nI o,nI p,.float .f64 q])/\
 New (.cells #[nI 0,nI 0,nI 0,nI 0,.float .f64 0] 192 (0,0)) (λ l D=>
 ∃ j,(St 192 ⟨l,0,none⟩ (.agg #[nI m,nI n,nI o,nI p,.float .f64 q]) D j)/\
 ∃ r s t u v,(Aw j ⟨l,0,none⟩ [nI r,nI s,nI t,nI u,.float .f64 v])/\
 New (.cells #[nI r,nI s,nI t,nI u,.float .f64 v] 168 (0,0)) (λ A E=>
 ∃ k:World,∃ e:Sl,((Builtin.append_ #[100,100] 100 #[b.v,.slice ((some ⟨A,0,none⟩)) 1 1]).run prog E=.ok (e.v) k)/\
 (i e (wI (c + 1)) k)/\x e (wI (c + 1)) k<x b c g) j) g))
 (K (b.v) g)
def sk56:Sk:=(.seq .leaf (.seq .leaf (.seq (.seq .leaf (.block (.loop [3,11] [.sl,(.int .i64)] [3,5,11,12,13,14,15,16,17,18,19,20] .leaf))) .leaf)))
theorem ZBl (a:Option Addr) (K:nK) (w : nW) (h:B56 a K w):Zm prog 56 #[.pointer a] w K:=cq (sk:=sk56) h func56
def B174 (Z:Option Addr) (m:Sl) (K:nK) (w : nW):Prop:=
 New (.cells #[nI 0,nI 0,nI 0,nI 0,.float .f64 0] 168 (0,0)) (λ k T=>
 Zc Z λ Y=>
 ∃ d:Sl,(Aw T (Addr.add Y 0) [d.v])/\
 ∃ (i:Int->World->Prop) (l:Int->World->Nat),(i 0 T)/\∀ (ab:Env) (b:Int) (e:World),i b e->
 Br (decide (b<(↑d.len:Int)))
 (Rng b d.len (Zc d.a λ V=>
 ∃ q r s t u,(Aw e (Addr.add V (Zcp b.toNat 5)) [nI q,nI r,nI s,nI t,.float .f64 u])/\
 New (.cells #[nI 0,nI 0,nI 0,nI 0,.float .f64 0] 192 (0,0)) (λ g aa=>
 ∃ U,(St 192 ⟨g,0,none⟩ (.agg #[nI q,nI r,nI s,nI t,.float .f64 u]) aa U)/\
 Drw U λ j f=>
 ∃ v,(At j ⟨g,0 + 1,none⟩ [nI v])/\
 Br (decide (v<(↑m.len:Int)))
 (∃ x,(At j ⟨g,0 + 2,none⟩ [nI x])/\
 ∃ n,(At j ⟨g,0 + 1,none⟩ [nI n])/\
 Rng n m.len (Zc m.a λ X=>
 ∃ y,(At j (Addr.add X n.toNat) [nI y])/\
 Br (decide (x<=y))
 (∃ z A C D E,(Aw f ⟨g,0,none⟩ [nI z,nI A,nI C,nI D,.float .f64 E])/\
 ∃ o,(St 168 ⟨k,0,none⟩ (.agg #[nI z,nI A,nI C,nI D,.float .f64 E]) f o)/\
 ∃ F G H I J,(Aw o ⟨k,0,none⟩ [nI F,nI G,nI H,nI I,.float .f64 J])/\
 K (.tuple #[.agg #[nI F,nI G,nI H,nI I,.float .f64 J],.bool true]) o)
 ((i (wI (b + 1)) f)/\l (wI (b + 1)) f<l b e)))
 ((i (wI (b + 1)) f)/\l (wI (b + 1)) f<l b e)) e))
 (∃ p,(St 168 ⟨k,0,none⟩ (.agg #[nI 0,nI 0,nI 0,nI 0,.float .f64 0]) e p)/\
 ∃ L M N O Q,(Aw p ⟨k,0,none⟩ [nI L,nI M,nI N,nI O,.float .f64 Q])/\
 K (.tuple #[.agg #[nI L,nI M,nI N,nI O,.float .f64 Q],.bool false]) p)) w
def ZCv:Sk:=(.seq .leaf (.seq (.seq .leaf (.block (.loop [13] [(.int .i64)] [5,7,13,14,15,16,17,18,19,20,21,22,23,24,25,26,27,28,29,30,31,32,33,34,35,36,37] .leaf))) .leaf))
theorem Zy9 (c:Option Addr) (b:Sl) (K:nK) (w : nW) (h:B174 c b K w):Zm prog 174 #[.pointer c,b.v] w K:=cq (sk:=ZCv) h func174
def B65 (t:Option Addr) (K:nK) (w : nW):Prop:=
 Zc t λ U=>
 ∃ o:Sl,(Aw w (Addr.add U 0) [o.v])/\
 nC 128 #[.int .u64 (IntKind.u64.wrap (↑o.len:Int))] w λ X I=>
 ∃ p:Sl,(X=.returned (p.v))/\
 Zc t λ Q=>
 ∃ j:Sl,(Aw I (Addr.add Q 0) [j.v])/\
 ∃ (q:Sl->Int->World->Prop) (N:Sl->Int->World->Nat),(q p 0 I)/\∀ (ad:Env) (g:Sl) (d:Int) (n:World),q g d n->
 Br (decide (d<(↑j.len:Int)))
 (Rng d j.len (Zc j.a λ T=>
 ∃ u v x y z,(Aw n (Addr.add T (Zcp d.toNat 5)) [nI u,nI v,nI x,nI y,.float .f64 z])/\
 New (.cells #[nI 0,nI 0,nI 0,nI 0,.float .f64 0] 192 (0,0)) (λ i aa=>
 ∃ J,(St 192 ⟨i,0,none⟩ (.agg #[nI u,nI v,nI x,nI y,.float .f64 z]) aa J)/\
 Drw J λ b ab=>
 ∃ A,(At b ⟨i,0,none⟩ [nI A])/\
 ∃ C,(At b ⟨i,0 + 1,none⟩ [nI C])/\
 ∃ D,(At b ⟨i,0 + 2,none⟩ [nI D])/\
 ∃ E,(At b ⟨i,0 + 3,none⟩ [nI E])/\
 ∃ F,(At b ⟨i,0 + 4,none⟩ [.float .f64 F])/\
 nC 135 #[.float .f64 F] ab λ Y L=>
 ∃ G,(Y=.returned (.int .u64 G))/\
 (b L)/\
 New (.cells #[.int .u64 (IntKind.u64.wrap A),.int .u64 (IntKind.u64.wrap C),.int .u64 (IntKind.u64.wrap D),.int .u64 (IntKind.u64.wrap E),.int .u64 G] 141 (0,0)) (λ V M=>
 (b M)/\
 ∃ (r:Sl->Int->World->Prop) (O:Sl->Int->World->Nat),(r g 0 M)/\∀ (ae:Env) (c:Sl) (e:Int) (l:World),r c e l->
 Br (decide (e<(↑5:Int)))
 (Rng e 5 (∃ H,(Aw l (Addr.add ⟨V,0,none⟩ e.toNat) [.int .u64 H])/\
 nC 128 #[.int .u64 H] l λ Z ac=>
 ∃ k:Sl,(Z=.returned (k.v))/\
 ∃ s:World,∃ m:Sl,((Builtin.append_ #[47,47] 47 #[c.v,k.v]).run prog ac=.ok (m.v) s)/\
 (r m (wI (e + 1)) s)/\O m (wI (e + 1)) s<O c e l))
 ((q c (wI (d + 1)) l)/\N c (wI (d + 1)) l<N g d n)) L) n))
 (K (g.v) n)
def sk65:Sk:=(.seq .leaf (.seq .leaf (.seq (.seq .leaf (.block (.loop [3,20] [.sl,(.int .i64)] [3,5,7,20,21,22,23,24,25,26,27,28,29,30,31,32,33,34,35,36,37,38,39,40,41,42,43,44,45,46,47,48,49,50,51,52,53,54,55] (.seq .leaf (.seq .leaf (.seq (.block (.seq .leaf (.seq .leaf (.block (.loop [3,46] [.sl,(.int .i64)] [3,7,46,47,48,49,50,51,52,53,54] .leaf))))) .leaf)))))) .leaf)))
theorem ZBg (a:Option Addr) (K:nK) (w : nW) (h:B65 a K w):Zm prog 65 #[.pointer a] w K:=cq (sk:=sk65) h func65
def B240 (e:Sl) (q:Value) (K:nK) (w : nW):Prop:=
 ∃ (d:Int->World->Prop) (n:Int->World->Nat),(d 0 w)/\∀ (s:Env) (b:Int) (c:World),d b c->
 Br (decide (b<(↑e.len:Int)))
 (Rng b e.len (Zc e.a λ o=>
 ∃ g i j k l,(Aw c (Addr.add o (Zcp b.toNat 5)) [nI g,nI i,nI j,nI k,.float .f64 l])/\
 Zbq prog cl q [.agg #[nI g,nI i,nI j,nI k,.float .f64 l]] c λ p f=>
 ∃ m,(p=.returned (.bool m))/\
 Br m
 (K (nI b) f)
 ((d (wI (b + 1)) f)/\n (wI (b + 1)) f<n b c)))
 (K (nI ((-1))) c)
def ZCe:Sk:=(.seq .leaf (.seq (.seq .leaf (.block (.loop [8] [(.int .i64)] [4,5,8,9,10,11,12,13,14,15,16,17,18] .leaf))) .leaf))
theorem Zyy (b:Sl) (c:Value) (K:nK) (w : nW) (h:B240 b c K w):Zm prog 240 #[b.v,c] w K:=cq (sk:=ZCe) h func240
def B171 (d:Sl) (U:Int) (V:Int) (X:Int) (Y:Int) (Z:Nat) (m:Value) (K:nK) (w : nW):Prop:=
 New (.cells #[nI U,nI V,nI X,nI Y,.float .f64 Z] 192 (0,0)) (λ l aa=>
 ∃ (f:Int->Int->World->Prop) (i:Int->Int->World->Nat),(f 0 ((↑d.len:Int)) aa)/\∀ (ad:Env) (b:Int) (c:Int) (e:World),f b c e->
 Br (decide (b<c))
 (Drw e λ j ab=>
 Rng (wI (ZgP IntKind.u64 (IntKind.u64.wrap (wI (b + c))) 1)) d.len (Zc d.a λ N=>
 ∃ n o p q r,(At j (Addr.add N (Zcp (wI (ZgP IntKind.u64 (IntKind.u64.wrap (wI (b + c))) 1)).toNat 5)) [nI n,nI o,nI p,nI q,.float .f64 r])/\
 ∃ s t u v x,(At j ⟨l,0,none⟩ [nI s,nI t,nI u,nI v,.float .f64 x])/\
 Zbq prog cl m [.agg #[nI n,nI o,nI p,nI q,.float .f64 r],.agg #[nI s,nI t,nI u,nI v,.float .f64 x]] ab λ Q g=>
 ∃ y,(Q=.returned (nI y))/\
 Br (decide (y<0))
 ((f (wI (wI (ZgP IntKind.u64 (IntKind.u64.wrap (wI (b + c))) 1) + 1)) c g)/\i (wI (wI (ZgP IntKind.u64 (IntKind.u64.wrap (wI (b + c))) 1) + 1)) c g<i b c e)
 ((f b (wI (ZgP IntKind.u64 (IntKind.u64.wrap (wI (b + c))) 1)) g)/\i b (wI (ZgP IntKind.u64 (IntKind.u64.wrap (wI (b + c))) 1)) g<i b c e)))
 (Drw e λ k M=>
 Br (decide (b<(↑d.len:Int)))
 (Rng b d.len (Zc d.a λ O=>
 ∃ z A C D E,(At k (Addr.add O (Zcp b.toNat 5)) [nI z,nI A,nI C,nI D,.float .f64 E])/\
 ∃ F G H I J,(At k ⟨l,0,none⟩ [nI F,nI G,nI H,nI I,.float .f64 J])/\
 Zbq prog cl m [.agg #[nI z,nI A,nI C,nI D,.float .f64 E],.agg #[nI F,nI G,nI H,nI I,.float .f64 J]] M λ T ac=>
 ∃ L,(T=.returned (nI L))/\
 K (.tuple #[nI b,.bool (L==0)]) ac))
 (K (.tuple #[nI b,.bool false]) M))) w
def ZCw:Sk:=(.seq .leaf (.seq .leaf (.seq .leaf (.seq (.block (.loop [9,10] [(.int .i64),(.int .i64)] [9,10,11,15,16,17,18,19,20,21,22,23,24,25,26,27,28,29,30,31,32,33,34] .leaf)) .leaf))))
theorem Zzc (b:Sl) (d:Int) (e:Int) (f:Int) (g:Int) (i:Nat) (c:Value) (K:nK) (w : nW) (h:B171 b d e f g i c K w):Zm prog 171 #[b.v,.agg #[nI d,nI e,nI f,nI g,.float .f64 i],c] w K:=cq (sk:=ZCw) h func171
def B173 (b:Sl) (d:Int) (c:Sl) (K:nK) (w : nW):Prop:=
 ((0:Int)<=d)/\
 ((d:Int)<=(↑b.len:Int))/\
 Br ((↑c.len:Int)==0)
 (K (b.v) w)
 (Br (d==(↑b.len:Int))
 (∃ i:World,∃ f:Sl,((Builtin.append_ #[188,188] 188 #[b.v,c.v]).run prog w=.ok (f.v) i)/\
 K (f.v) i)
 (Br (decide (wI ((↑b.len:Int) + (↑c.len:Int))>(↑b.cap:Int)))
 (((0:Int)<=d)/\
 ((d:Int)<=(↑b.cap:Int))/\
 ∃ k:World,∃ e:Sl,((Builtin.append_ #[188,3] 188 #[.slice b.a d.toNat b.cap,nI (wI (wI ((↑b.len:Int) + (↑c.len:Int)) - d))]).run prog w=.ok (e.v) k)/\
 ((0:Int)<=d)/\
 ((d:Int)<=(↑e.len:Int))/\
 ∃ l:World,∃ s:Int,((Builtin.copy_ #[188,188] 3 #[.slice (Zck e.a d.toNat e.cap 5) (e.len - d.toNat) (e.cap - d.toNat),c.v]).run prog k=.ok (nI s) l)/\
 Drw l λ C z=>
 ((0:Int)<=wI (d + (↑c.len:Int)))/\
 ((wI (d + (↑c.len:Int)):Int)<=(↑e.len:Int))/\
 ((0:Int)<=d)/\
 ((d:Int)<=(↑b.len:Int))/\
 ∃ m:World,∃ t:Int,((Builtin.copy_ #[188,188] 3 #[.slice (Zck e.a (wI (d + (↑c.len:Int))).toNat e.cap 5) (e.len - (wI (d + (↑c.len:Int))).toNat) (e.cap - (wI (d + (↑c.len:Int))).toNat),.slice (Zck b.a d.toNat b.cap 5) (b.len - d.toNat) (b.cap - d.toNat)]).run prog z=.ok (nI t) m)/\
 K (e.v) m)
 (((0:Int)<=wI ((↑b.len:Int) + (↑c.len:Int)))/\
 ((wI ((↑b.len:Int) + (↑c.len:Int)):Int)<=(↑b.cap:Int))/\
 ((0:Int)<=wI (d + (↑c.len:Int)))/\
 ((wI (d + (↑c.len:Int)):Int)<=(↑(wI ((↑b.len:Int) + (↑c.len:Int))).toNat:Int))/\
 Ext prog 245 #[c.v,.slice (Zck b.a (wI (d + (↑c.len:Int))).toNat b.cap 5) ((wI ((↑b.len:Int) + (↑c.len:Int))).toNat - (wI (d + (↑c.len:Int))).toNat) (b.cap - (wI (d + (↑c.len:Int))).toNat)] w λ q n=>
 ∃ g,(q=.returned (.bool g))/\
 Br (!g)
 (Drw n λ D A=>
 ((0:Int)<=wI (d + (↑c.len:Int)))/\
 ((wI (d + (↑c.len:Int)):Int)<=(↑(wI ((↑b.len:Int) + (↑c.len:Int))).toNat:Int))/\
 ((0:Int)<=d)/\
 ((d:Int)<=(↑(wI ((↑b.len:Int) + (↑c.len:Int))).toNat:Int))/\
 ∃ o:World,∃ u:Int,((Builtin.copy_ #[188,188] 3 #[.slice (Zck b.a (wI (d + (↑c.len:Int))).toNat b.cap 5) ((wI ((↑b.len:Int) + (↑c.len:Int))).toNat - (wI (d + (↑c.len:Int))).toNat) (b.cap - (wI (d + (↑c.len:Int))).toNat),.slice (Zck b.a d.toNat b.cap 5) ((wI ((↑b.len:Int) + (↑c.len:Int))).toNat - d.toNat) (b.cap - d.toNat)]).run prog A=.ok (nI u) o)/\
 ((0:Int)<=d)/\
 ((d:Int)<=(↑(wI ((↑b.len:Int) + (↑c.len:Int))).toNat:Int))/\
 ∃ p:World,∃ v:Int,((Builtin.copy_ #[188,188] 3 #[.slice (Zck b.a d.toNat b.cap 5) ((wI ((↑b.len:Int) + (↑c.len:Int))).toNat - d.toNat) (b.cap - d.toNat),c.v]).run prog o=.ok (nI v) p)/\
 K (.slice b.a ((wI ((↑b.len:Int) + (↑c.len:Int))).toNat) b.cap) p)
 (((0:Int)<=(↑b.len:Int))/\
 (((↑b.len:Int):Int)<=(↑(wI ((↑b.len:Int) + (↑c.len:Int))).toNat:Int))/\
 ∃ j:World,∃ x:Int,((Builtin.copy_ #[188,188] 3 #[.slice (Zck b.a (↑b.len:Int).toNat b.cap 5) ((wI ((↑b.len:Int) + (↑c.len:Int))).toNat - (↑b.len:Int).toNat) (b.cap - (↑b.len:Int).toNat),c.v]).run prog n=.ok (nI x) j)/\
 ((0:Int)<=d)/\
 ((d:Int)<=(↑(wI ((↑b.len:Int) + (↑c.len:Int))).toNat:Int))/\
 nC 246 #[.slice (Zck b.a d.toNat b.cap 5) ((wI ((↑b.len:Int) + (↑c.len:Int))).toNat - d.toNat) (b.cap - d.toNat),nI ((↑c.len:Int))] j λ r y=>
 (r=.returned (.tuple #[]))/\
 K (.slice b.a ((wI ((↑b.len:Int) + (↑c.len:Int))).toNat) b.cap) y))))
theorem Zza (b:Sl) (d:Int) (c:Sl) (K:nK) (w : nW) (h:B173 b d c K w):Zm prog 173 #[b.v,nI d,c.v] w K:=cq (sk:=.leaf) h func173
def B176 (b:Sl) (e:Int) (d:Int) (K:nK) (w : nW):Prop:=
 ((0:Int)<=(↑b.len:Int))/\
 (((↑b.len:Int):Int)<=(↑b.cap:Int))/\
 ((0:Int)<=d)/\
 ((d:Int)<=(↑(↑b.len:Int).toNat:Int))/\
 ((0:Int)<=e)/\
 ((e:Int)<=(↑d.toNat:Int))/\
 Br (e==d)
 (K (b.v) w)
 (Drw w λ j i=>
 ((0:Int)<=e)/\
 ((e:Int)<=(↑b.cap:Int))/\
 ((0:Int)<=d)/\
 ((d:Int)<=(↑b.len:Int))/\
 ∃ f:World,∃ c:Sl,((Builtin.append_ #[188,188] 188 #[.slice b.a e.toNat b.cap,.slice (Zck b.a d.toNat b.cap 5) (b.len - d.toNat) (b.cap - d.toNat)]).run prog i=.ok (c.v) f)/\
 ((0:Int)<=(↑b.len:Int))/\
 (((↑b.len:Int):Int)<=(↑c.cap:Int))/\
 ((0:Int)<=(↑c.len:Int))/\
 (((↑c.len:Int):Int)<=(↑(↑b.len:Int).toNat:Int))/\
 ∃ g:World,((Builtin.clear_ #[188] 0 #[.slice (Zck c.a (↑c.len:Int).toNat c.cap 5) ((↑b.len:Int).toNat - (↑c.len:Int).toNat) (c.cap - (↑c.len:Int).toNat)]).run prog f=.ok (.tuple #[]) g)/\
 K (c.v) g)
theorem Zy7 (b:Sl) (c:Int) (d:Int) (K:nK) (w : nW) (h:B176 b c d K w):Zm prog 176 #[b.v,nI c,nI d] w K:=cq (sk:=.leaf) h func176
def B182  (K:nK) (w : nW):Prop:=
 New (.cells #[nI 0] 3 (0,0)) (λ a e=>
 New (.cells #[nI 0] 3 (0,0)) (λ b f=>
 ∃ c,(St 3 ⟨a,0,none⟩ (nI 0) f c)/\
 ∃ d,(St 3 ⟨b,0,none⟩ (nI 2) c d)/\
 K (.func (.func 254) #[] #[.pointer ((some ⟨a,0,none⟩)),.pointer ((some ⟨b,0,none⟩))]) d) e) w
theorem Zy2  (K:nK) (w : nW) (h:B182  K w):Zm prog 182 #[] w K:=cq (sk:=.leaf) h func182
def B254 (o:Int) (b:Option Addr) (c:Option Addr) (K:nK) (w : nW):Prop:=
 Zc b λ m=>
 ∃ i,(Aw w m [nI i])/\
 Zc c λ n=>
 ∃ j,(Aw w n [nI j])/\
 ∃ d:World,((Instr.storeAt 3 (.pointer b) (nI ((wI (i + wI (j * o))).tmod 31))).run prog w=.ok () d)/\
 Zc c λ k=>
 ∃ f,(Aw d k [nI f])/\
 ∃ e:World,((Instr.storeAt 3 (.pointer c) (nI (wI (f + 1)))).run prog d=.ok () e)/\
 Zc b λ l=>
 ∃ g,(Aw e l [nI g])/\
 K (nI g) e
theorem Zyn (c:Int) (a:Option Addr) (b:Option Addr) (K:nK) (w : nW) (h:B254 c a b K w):Zm prog 254 #[nI c,.pointer a,.pointer b] w K:=cq (sk:=.leaf) h func254
def B121 (m:Int) (K:nK) (w : nW):Prop:=
 ∃ (r:World->Prop),(Br (decide (m<0))
 (K (.tuple #[.string (ByteArray.mk #[]),nI 1]) w)
 (Br (decide (m >= 28629151))
 (K (.tuple #[.string (ByteArray.mk #[]),nI 1]) w)
 (r  w)))/\
 ∀ (L:Env)  (z:World),r  z->
 New (.cells #[.int .u8 0,.int .u8 0,.int .u8 0,.int .u8 0,.int .u8 0,.int .u8 0] 255 (0,0)) (λ l I=>
 New (.cells #[nI 0,nI 0,nI 0,nI 0,nI 0] 256 (0,0)) (λ s J=>
 ∃ (j:Int->Int->World->Prop) (E:Int->Int->World->Nat),(j m 4 J)/\∀ (M:Env) (d:Int) (b:Int) (g:World),j d b g->
 Br (decide (b >= 0))
 (Rng b 5 (∃ q,(St 3 (Addr.add ⟨s,0,none⟩ b.toNat) (nI (d.tmod 31)) g q)/\
 (j (wI (d.tdiv 31)) (wI (b - 1)) q)/\E (wI (d.tdiv 31)) (wI (b - 1)) q<E d b g))
 (nC 182 #[] g λ G A=>
 ∃ t:Value,(G=.returned (t))/\
 ∃ n:List Value,(n.length=5)/\
 (Aw A ⟨s,0,none⟩ n)/\
 ∃ (k:Int->Int->World->Prop) (F:Int->Int->World->Nat),(k 0 0 A)/\∀ (N:Env) (e:Int) (a:Int) (i:World),k e a i->
 Br (decide (a<5))
 (Rng a 5 (∃ f:Int,(n.toArray[a.toNat]? =some (nI f))/\
 ∃ u:UInt8,((0:Int)<=f)/\
 ((ByteArray.mk #[65,66,67,68,69,70,71,72,74,75,76,77,78,80,81,82,84,85,86,87,88,89,90,50,51,52,53,54,55,56,57])[f.toNat]? =some u)/\
 Rng a 6 (∃ C,(St 5 (Addr.add ⟨l,0,none⟩ a.toNat) (.int .u8 ((↑u.toNat:Int))) i C)/\
 Zbq prog cl t [nI f] C λ H D=>
 ∃ o,(H=.returned (nI o))/\
 (k o (wI (a + 1)) D)/\F o (wI (a + 1)) D<F e a i)))
 (∃ v:UInt8,((0:Int)<=(wI (31 - e)).tmod 31)/\
 ((ByteArray.mk #[65,66,67,68,69,70,71,72,74,75,76,77,78,80,81,82,84,85,86,87,88,89,90,50,51,52,53,54,55,56,57])[((wI (31 - e)).tmod 31).toNat]? =some v)/\
 ∃ p,(St 5 (Addr.add ⟨l,0,none⟩ 5) (.int .u8 ((↑v.toNat:Int))) i p)/\
 ∃ x:Addr,(some (Addr.mk l 0 none)=some x)/\
 ∃ y:ByteArray,(∀ c,(λ c=>c=p) c->((convert 47 9 (.slice ((some (x))) 6 6))).run prog c=.ok (.string y) c)/\
 K (.tuple #[.string y,nI 0]) p))) I) z
def ZCL:Sk:=(.seq .leaf (.cut [] [] [2,3,11,12,13,14,15,16] .leaf (.seq .leaf (.seq .leaf (.seq (.seq .leaf (.block (.loop [0,6] [(.int .i64),(.int .i64)] [0,6,17,18,19,20,21,22,23,24,25,26] .leaf))) (.seq .leaf (.seq (.seq .leaf (.block (.loop [8,29] [(.int .i64),(.int .i64)] [8,9,10,29,30,31,32,33,34,35,36,37,38,39,40] .leaf))) .leaf)))))))
theorem ZzK (a:Int) (K:nK) (w : nW) (h:B121 a K w):Zm prog 121 #[nI a] w K:=cq (sk:=ZCL) h func121
def B108 (l:ByteArray) (K:nK) (w : nW):Prop:=
 Br ((↑l.size:Int) !=6)
 (K (.tuple #[nI 0,nI 6]) w)
 (nC 182 #[] w λ r v=>
 ∃ m:Value,(r=.returned (m))/\
 New (.stringIter l 0) (λ q x=>
 ∃ (e:Int->Int->World->Prop) (g:Int->Int->World->Nat),(e 0 0 x)/\∀ (A:Env) (a:Int) (b:Int) (f:World),e a b f->
 ZvO ((some ⟨q,0,none⟩)) (λ u k y=>
 nC 183 #[.string (ByteArray.mk #[65,66,67,68,69,70,71,72,74,75,76,77,78,80,81,82,84,85,86,87,88,89,90,50,51,52,53,54,55,56,57]),.int .u8 (IntKind.u8.wrap k)] y λ s o=>
 ∃ c,(s=.returned (nI c))/\
 ∃ (i:Bool->World->Prop),(Br (decide (c<0))
 (i true o)
 (i (decide (k>90)) o))/\
 ∀ (C:Env) (n:Bool) (d:World),i n d->
 Br n
 (K (.tuple #[nI 0,nI 6]) d)
 (Br (decide (u<5))
 (Zbq prog cl m [nI c] d λ t p=>
 ∃ j,(t=.returned (nI j))/\
 (e (wI (wI (a * 31) + c)) j p)/\g (wI (wI (a * 31) + c)) j p<g a b f)
 (Br ((wI (b + c)).tmod 31 !=0)
 (K (.tuple #[nI 0,nI 6]) d)
 ((e a b d)/\g a b d<g a b f))))
 (λ z=>
 K (.tuple #[nI a,nI 0]) z) f) v)
def ZCN:Sk:=(.seq .leaf (.seq .leaf (.seq .leaf (.seq (.seq .leaf (.block (.loop [5,6] [(.int .i64),(.int .i64)] [2,3,5,6,7,8,9,16,17,18,19,20,21,22,23,24,25,26,27,28,29,30,31,32,33,34,35,36,37,38,39,40,41,42,43,44,45] (.seq .leaf (.seq .leaf (.block (.seq .leaf (.seq .leaf (.block (.cut [23] [.bool] [23,24,25,26,27,28,29] .leaf .leaf)))))))))) .leaf))))
theorem ZzM (a:ByteArray) (K:nK) (w : nW) (h:B108 a K w):Zm prog 108 #[.string a] w K:=cq (sk:=ZCN) h func108
def B183 (d:ByteArray) (b:Int) (K:nK) (w : nW):Prop:=
 nC 255 #[.string d,.int .u8 b] w λ c e=>
 ∃ a,(c=.returned (nI a))/\
 K (nI a) e
theorem Zy1 (b:ByteArray) (a:Int) (K:nK) (w : nW) (h:B183 b a K w):Zm prog 183 #[.string b,.int .u8 a] w K:=cq (sk:=.leaf) h func183
def B255 (d:ByteArray) (b:Int) (K:nK) (w : nW):Prop:=
 Ext prog 285 #[.string d,.int .u8 b] w λ c e=>
 ∃ a,(c=.returned (nI a))/\
 K (nI a) e
theorem Zym (b:ByteArray) (a:Int) (K:nK) (w : nW) (h:B255 b a K w):Zm prog 255 #[.string b,.int .u8 a] w K:=cq (sk:=.leaf) h func255
end
end Go.Proofs.YtlplemdmegpoeaaGreatDoor
