/- A log on a disk: mending a segment. Condition: bounds on lengths; the library's table of powers is laid. -/
import Derived.Test.YtkfedbncmfnpnaaGreatDoorB4
import Derived.Test.YtkfedbncmfnpnaaGreatDoorB2
import Derived.ProofKit
import Derived.OpenShut
import Derived.ShutString
import Derived.ChangeOld
import Derived.Below
import Derived.Lib.SmallJoins
import Derived.SizedLaws
import Derived.Stop.LaidErr
set_option linter.unusedVariables false
set_option linter.unusedSimpArgs false
namespace Go.Proofs.YtkfedbncmfnpnaaGreatDoor
section
open Go Go.VC Tryz
variable {R R':Cx} {Hs Rest:List HP} {w:World} {p d:Nat} {lim base:Int} {s sg:Sl} {brk:Bool} {ds:List DE4} {segs:List Sg} {st:DS}
theorem ZnV {bs:Nat} {g g':Sg} (h:R.m bs=some (ZZ g)) (hw:Sat R Hs w):Zq prog 126 #[.agg #[.int .i64 g'.num,.int .i64 g'.next,.int .i64 g'.size],.pointer (some ⟨bs,0,none⟩)] w λ v w'=>v=.bool (decide (g'.num=g.num))/\Sat R Hs w':=by
 apply ZtO;refine Zd hw λ b w hw=>?_;refine ⟨_,At.own (eqS hw) (by exact ⟨rfl,trivial⟩),Zb.mk rfl ⟨_,(by rw [Zf];exact At.ro (eqS hw) h (by exact ⟨rfl,trivial⟩)),?_⟩⟩;refine ⟨?_,hw.drop⟩
 congr 1
 rw [Bool.eq_iff_iff];simp only [beq_iff_eq,decide_eq_true_eq];show ((g'.num:Int)=(g.num:Int))↔_;omega
theorem ZnY {bs:Nat} {g:Sg} (h:R.m bs=some (ZZ g)) (hl:segs.length<=1000000) (hs:RoN 3 R sg (segs.map ZjQ)) (hw:Sat R Hs w):
  Zq prog 125 #[.slice sg.a sg.len sg.cap,.func (.func 126) #[] #[.pointer (some ⟨bs,0,none⟩)]] w λ v w'=>v=.bool (ZcN segs g.num)/\Sat R Hs w':=by
 have hsl:sg.len=segs.length:=by have:=hs.len;simpa using this
 apply ZtP;have h1:Zq prog 171 #[.slice sg.a sg.len sg.cap,.func (.func 126) #[] #[.pointer (some ⟨bs,0,none⟩)]] w λ v w'=>(∃ n:Int,v=.int .i64 n/\(0<=n↔ZcN segs g.num=true))/\Sat R Hs w':=by
  apply Zti;refine ⟨λ i w=>∃ k:Nat,i=k/\k<=segs.length/\(∀ x∈segs.take k,x.num≠g.num)/\Sat R Hs w,λ i _=>segs.length - i.toNat,⟨0,rfl,by omega,by simp,hw⟩,?_⟩;clear hw;rintro _ _ w ⟨k,rfl,hk,hno,hw⟩;refine Br.d (λ h2=>?_) (λ h2=>?_)
  ·have hk':k<segs.length:=by omega
   refine (hs.reads (S:=λ w'=>w'=w) (eqS hw)).rngM hk' λ a _ el=>⟨segs[k].num,segs[k].next,segs[k].size,el.z (by exact ⟨rfl,rfl,rfl,trivial⟩),?_⟩;refine Zcm.mk (by kernel_rfl) ((ZnV (g':=segs[k]) h hw).use ?_);clear hw;rintro _ w ⟨rfl,hw⟩;refine ⟨_,rfl,Br.d (λ h3=>?_) (λ h3=>?_)⟩
   ·refine ⟨⟨_,rfl,λ _=>?_,λ _=>by omega⟩,hw⟩
    unfold ZcN;rw [List.any_eq_true];exact ⟨segs[k],List.getElem_mem _,by simp [h3]⟩
   ·refine ⟨⟨k + 1,by rw [Zg (by omega) (by omega)];omega,by omega,λ x hx=>?_,hw⟩,by dsimp only;rw [Zg (by omega) (by omega)];omega⟩
    rw [List.take_add_one,List.getElem?_eq_getElem hk'] at hx;rcases List.mem_append.1 hx with hx|hx
    ·exact hno x hx
    ·simp at hx;rw [hx];exact h3
  ·have:k=segs.length:=by omega
   rw [this,List.take_length] at hno;refine ⟨⟨_,rfl,λ h=>by omega,λ h=>?_⟩,hw⟩;unfold ZcN at h;rw [List.any_eq_true] at h;obtain ⟨x,hx,he⟩:=h;exact absurd (of_decide_eq_true he) (hno x hx)
 refine h1.use ?_;rintro _ w ⟨⟨n,rfl,hn⟩,hw⟩;refine ⟨n,rfl,?_,hw⟩
 congr 1
 rw [Bool.eq_iff_iff,decide_eq_true_eq,<-hn]
theorem ZnZ {bw bb bs:Nat} {g:Sg} {x:Sl} {xs:List Int} (i:Inv st) (h1:ZjP R bw p) (h2:ZjT R bb (.slice x.a x.len x.cap)) (h3:R.m bs=some (ZZ g)) (hx:SlR R.m x (b8 xs)) (hxl:xs.length<=1099511627776) (h0:0<=g.size) (hz:g.size<=xs.length) (hw:Sat R (WS p d lim base s sg brk ds segs st Hs) w):
  Zq prog 127 #[.pointer (some ⟨bw,0,none⟩),.pointer (some ⟨bb,0,none⟩),.pointer (some ⟨bs,0,none⟩)] w λ v w'=>v=.int .i64 (Zk st Zh (xs.take g.size.toNat)).2/\Sat R (WS p d lim base s sg brk ds segs (Zk st Zh (xs.take g.size.toNat)).1 Hs) w':=by
 have hxl2:x.len=xs.length:=by have:=hx.len;simpa using this
 have hcap:=hx.cap;apply ZtN;refine Zs (Sat R [pts p (Zt d lim base s sg brk),VC.tru]) hw (λ w hw=>hw.k1) λ w hw=>?_;refine Zb.mk rfl ⟨_,h1.at Ze,Zb.mk rfl ⟨_,(by rw [Zf];exact At.own Ze (by exact ⟨rfl,trivial⟩)),Zb.mk rfl ⟨x,h2.at Ze,Zb.mk rfl ⟨g.size,At.ro Ze h3 (by exact ⟨rfl,trivial⟩),h0,by omega,?_⟩⟩⟩⟩;have hw:Sat R (Zl d st::pts p (Zt d lim base s sg brk)::ZL s ds::ZbE sg segs::Hs) w:=hw.arr;have hx2:=(hx.b8take (k:=g.size.toNat) (by omega)).ro (by rw [List.length_map,List.length_take];omega);refine (Zd0 (k:=Zh) (x:=⟨x.a,g.size.toNat,x.cap⟩) i hx2 (by rw [List.length_take];omega) hw).use ?_;clear hw;rintro _ w ⟨rfl,hw⟩;exact ⟨_,rfl,hw.k1,rfl,hw.arr⟩
theorem ZnW {bw:Nat} (i:Inv st) (h1:ZjP R bw p) (hw:Sat R (WS p d lim base s sg brk ds segs st Hs) w):
  Zq prog 128 #[.pointer (some ⟨bw,0,none⟩)] w λ v w'=>v=.int .i64 (ZA st Zh).2/\Sat R (WS p d lim base s sg brk ds segs (ZA st Zh).1 Hs) w':=by
 apply ZtM;refine Zb.mk rfl ⟨_,h1.at (eqS hw),Zb.mk rfl ⟨_,(by rw [Zf];exact At.own (eqS hw) (by exact ⟨rfl,trivial⟩)),?_⟩⟩;have hw:Sat R (Zl d st::pts p (Zt d lim base s sg brk)::ZL s ds::ZbE sg segs::Hs) w:=hw.arr;refine (Zei (k:=Zh) i hw).use ?_;clear hw;rintro _ w ⟨rfl,hw⟩;exact ⟨_,rfl,rfl,hw.arr⟩
theorem ZnX {bw bs:Nat} {g:Sg} (i:Inv st) (hp:Zec R) (hn:g.num<100000000) (h1:ZjP R bw p) (h3:R.m bs=some (ZZ g)) (hw:Sat R (WS p d lim base s sg brk ds segs st Hs) w):
  Zq prog 129 #[.pointer (some ⟨bw,0,none⟩),.pointer (some ⟨bs,0,none⟩)] w λ v w'=>v=.int .i64 (ZY st Zh (Za g.num)).2/\Sat R (WS p d lim base s sg brk ds segs (ZY st Zh (Za g.num)).1 Hs) w':=by
 apply ZtL;refine Zs (Sat R [pts p (Zt d lim base s sg brk),VC.tru]) hw (λ w hw=>hw.k1) λ w hw=>?_;refine Zb.mk rfl ⟨_,h1.at Ze,Zb.mk rfl ⟨_,(by rw [Zf];exact At.own Ze (by exact ⟨rfl,trivial⟩)),Zb.mk rfl ⟨_,_,_,At.ro Ze h3 (by exact ⟨rfl,rfl,rfl,trivial⟩),?_⟩⟩⟩;refine (ZaR hp hn hw).use ?_;clear hw;rintro _ w ⟨rfl,hw⟩;refine ⟨_,rfl,hw.k1,?_⟩;have hw:Sat R (Zl d st::pts p (Zt d lim base s sg brk)::ZL s ds::ZbE sg segs::Hs) w:=hw.arr;refine (Zlu (k:=Zh) i hw).use ?_;clear hw;rintro _ w ⟨rfl,hw⟩;exact ⟨_,rfl,hw.k1,rfl,hw.arr⟩
def Zag (st:DS) (segs:List Sg) (g:Sg):List Sg:=if g.next=0\/ZcN segs g.num=false then segs else if (ZC st (Za g.num)).2≠0 then segs else ZaZ segs g.size
theorem ZpJ {g:Sg} (i:Inv st) (hp:Zec R) (hn:g.num<100000000) (hl:segs.length<=1000000) (h0:0<=g.size) (hz:(ZC st (Za g.num)).2=0->g.size<=(ZC st (Za g.num)).1.length) (hw:Sat R (WS p d lim base s sg brk ds segs st Hs) w):
  Zq prog 87 #[.pointer (some ⟨p,0,none⟩),.agg #[.int .i64 g.num,.int .i64 g.next,.int .i64 g.size]] w λ v w'=>∃ e,v=.int .i64 e/\Zk0 R Hs p d lim base s brk ds (λ _=>Zag st segs g) (ZaS st segs g) e w':=by
 apply Zu1
 suffices H:∀ K:Value->World->Prop,(∀ e w',Zk0 R Hs p d lim base s brk ds (λ _=>Zag st segs g) (ZaS st segs g) e w'->K (.int .i64 e) w')->B87 (some ⟨p,0,none⟩) g.num g.next g.size K w from H _ λ e _ h=>⟨e,rfl,h⟩
 intro K hK;refine Zd hw λ bw w hw=>?_;obtain ⟨R1,e1,b1,hw⟩:=Za3 hw;refine Zd hw λ bs w hw=>?_;have hw:Sat R1 (pts bs (ZZ g)::WS p d lim base s sg brk ds segs st Hs) w:=hw;obtain ⟨R2,e2,b2,hw⟩:=pts.leak hw;have e12:=e1.trans e2;have b1:=b1.ext e2;have hp2:=hp.ext e12;have gone:(g.next=0\/ZcN segs g.num=false)->∀ {w},Sat R2 (WS p d lim base s sg brk ds segs st Hs) w->Drw w λ S w_3=>
   ∃ t19:Option Addr,(At S ⟨bw,0,none⟩ [.pointer t19])/\
   Zb t19 λ a_t20=>
   ∃ t22:Option Addr,(At S (Addr.add a_t20 0) [.pointer t22])/\
   ∃ t23:Int,∃ t23_1:Int,∃ t23_2:Int,(At S ⟨bs,0,none⟩ [.int .i64 t23,.int .i64 t23_1,.int .i64 t23_2])/\
   Calls prog 57 #[.agg #[.int .i64 t23,.int .i64 t23_1,.int .i64 t23_2]] w_3 λ e w_4=>
   ∃ t24:ByteArray,(e=.returned (.string t24))/\
   (S w_4)/\
   Calls prog 104 #[.pointer t22,.string t24] w_4 λ e_1 w_5=>
   ∃ t25:Int,(e_1=.returned (.int .i64 t25))/\
   (S w_5)/\
   K (.int .i64 t25) w_5:=λ hc {w} hw=>by
  refine Zs (Sat R2 [pts p (Zt d lim base s sg brk),VC.tru]) hw (λ w hw=>hw.k1) λ w hw=>?_;refine ⟨_,b1.at Ze,Zb.mk rfl ⟨_,(by rw [Zf];exact At.own Ze (by exact ⟨rfl,trivial⟩)),_,_,_,At.ro Ze b2 (by exact ⟨rfl,rfl,rfl,trivial⟩),?_⟩⟩;refine (ZaR hp2 hn hw).use ?_;clear hw;rintro _ w ⟨rfl,hw⟩;refine ⟨_,rfl,hw.k1,?_⟩;have hw:Sat R2 (Zl d st::pts p (Zt d lim base s sg brk)::ZL s ds::ZbE sg segs::Hs) w:=hw.arr;refine (ZgV i hw).use ?_;clear hw;rintro _ w ⟨rfl,hw⟩;have em:ZaS st segs g=Zi st (Za g.num):=by unfold ZaS;rw [if_pos hc]
  refine ⟨_,rfl,hw.k1,hK _ _ ⟨R2,sg,e12,by rw [em],?_⟩⟩;have es:Zag st segs g=segs:=by unfold Zag;rw [if_pos hc]
  rw [em,es];exact hw.arr
 refine ⟨λ w=>¬ (g.next=0\/ZcN segs g.num=false)/\Sat R2 (WS p d lim base s sg brk ds segs st Hs) w,?_,?_⟩
 ·refine ⟨g.next,At.ro (eqS hw) b2 (by exact ⟨rfl,trivial⟩),Br.e (λ h=>gone (.inl h) hw) (λ h=>?_)⟩
  refine ⟨_,b1.at (eqS hw),Zb.mk rfl ⟨sg,At.own (eqS hw) (by exact ⟨rfl,trivial⟩),?_⟩⟩;have hw:Sat R2 (ZbE sg segs::pts p (Zt d lim base s sg brk)::ZL s ds::Zl d st::Hs) w:=hw.arr;obtain ⟨R3,hr,⟨x,hx⟩,hw,back⟩:=ZM.lend hw;have b23:R3.m bs=some (ZZ g):=by rw [hx];exact Cx.kept b2
  refine (ZnY b23 hl hr hw).use ?_;clear hw;rintro _ w ⟨rfl,hw⟩;have hw:Sat R2 (ZbE sg segs::pts p (Zt d lim base s sg brk)::ZL s ds::Zl d st::Hs) w:=back hw;have hw:Sat R2 (WS p d lim base s sg brk ds segs st Hs) w:=hw.arr;refine ⟨_,rfl,Br.nb (λ h2=>gone (.inr h2) hw) (λ h2=>⟨λ h3=>h3.elim h (λ h3=>by rw [h2] at h3;cases h3),hw⟩)⟩
 clear hw;rintro _ w ⟨hc,hw⟩;obtain ⟨xs,hxs⟩:∃ xs,xs=(ZC st (Za g.num)).1:=⟨_,rfl⟩;obtain ⟨er,her⟩:∃ er,er=(ZC st (Za g.num)).2:=⟨_,rfl⟩;rw [<-hxs,<-her] at hz;have hxl:xs.length<=16777216:=by
  rw [hxs];unfold ZC;split
  ·simp
  ·split
   ·simp
   ·split
    ·simp
    ·rename_i f hf
     have:=ZbH hf;have:=i.full;have:=i.r1;simp only;omega
 refine ⟨λ b5 e6 w=>e6=er/\∃ (R3:Cx) (bb:Nat) (x:Sl),R2.Ext R3/\b5=some ⟨bb,0,none⟩/\ZjT R3 bb (.slice x.a x.len x.cap)/\SlR R3.m x (b8 xs)/\Sat R3 (WS p d lim base s sg brk ds segs st Hs) w,?_,?_⟩
 ·have key:∀ {R3:Cx} {bb:Nat} {t:Sl} {As:List HP} {w:World},R2.Ext R3->SlR R3.m t (b8 xs)->Sat R3 (pts bb (.cells [.slice t.a t.len t.cap].toArray 53 (0,0))::WS p d lim base s sg brk ds segs st Hs) w->
    ∃ (R3:Cx) (bb':Nat) (x:Sl),R2.Ext R3/\(some ⟨bb,0,none⟩:Option Addr)=some ⟨bb',0,none⟩/\ZjT R3 bb' (.slice x.a x.len x.cap)/\SlR R3.m x (b8 xs)/\Sat R3 (WS p d lim base s sg brk ds segs st Hs) w:=λ {R3 bb t As w} e ht hw=>by
   obtain ⟨R4,e4,b4,hw⟩:=ZhU (v:=.slice t.a t.len t.cap) rfl hw;exact ⟨R4,bb,t,e.trans e4,rfl,b4,e4.slR ht,hw⟩
  refine Zs (Sat R2 [pts p (Zt d lim base s sg brk),VC.tru]) hw (λ w hw=>hw.k1) λ w hw=>?_;refine ⟨_,b1.at Ze,Zb.mk rfl ⟨_,(by rw [Zf];exact At.own Ze (by exact ⟨rfl,trivial⟩)),_,_,_,At.ro Ze b2 (by exact ⟨rfl,rfl,rfl,trivial⟩),?_,?_⟩⟩
  ·refine (ZaR hp2 hn hw).use ?_
   clear hw;rintro _ w ⟨rfl,hw⟩;refine ⟨_,rfl,hw.k1,?_,?_⟩
   ·have hw:Sat R2 (Zl d st::pts p (Zt d lim base s sg brk)::ZL s ds::ZbE sg segs::Hs) w:=hw.arr
    refine (Zen i hw).use ?_;clear hw;rintro _ w ⟨t,rfl,hw⟩;refine ⟨t,_,rfl,hw.k1,?_⟩;rw [<-hxs] at hw;refine Zd hw λ bb w hw=>⟨hw.k1,?_⟩;refine Zc hw (by kernel_rfl) rfl (by simp [Value.cells,Zn]) λ w hw=>?_;have hw:Sat R2 (pts bb (.cells [.slice t.a t.len t.cap].toArray 53 (0,0))::Own t 5 (b8 xs)::Zl d st::pts p (Zt d lim base s sg brk)::ZL s ds::ZbE sg segs::Hs) w:=hw;have hw:Sat R2 (Own t 5 (b8 xs)::pts bb (.cells [.slice t.a t.len t.cap].toArray 53 (0,0))::WS p d lim base s sg brk ds segs st Hs) w:=hw.arr;obtain ⟨R3,e3,ht,hw⟩:=Own.leak hw;exact ⟨her.symm,key (As:=[]) e3 ht hw⟩
   ·refine Zd hw λ bb w hw=>⟨hw.k1,?_⟩
    have hw:Sat R2 (Zl d st::pts bb (.cells [.slice none 0 0].toArray 53 (0,0))::pts p (Zt d lim base s sg brk)::ZL s ds::ZbE sg segs::Hs) w:=hw.arr;refine (Zen i hw).use ?_;clear hw;rintro _ w ⟨t,rfl,hw⟩;refine ⟨t,_,rfl,hw.k1,?_⟩;rw [<-hxs] at hw;refine Zc hw (by kernel_rfl) rfl (by simp [Value.cells,Zn]) λ w hw=>?_;have hw:Sat R2 (pts bb (.cells [.slice t.a t.len t.cap].toArray 53 (0,0))::Own t 5 (b8 xs)::Zl d st::pts p (Zt d lim base s sg brk)::ZL s ds::ZbE sg segs::Hs) w:=hw;have hw:Sat R2 (Own t 5 (b8 xs)::pts bb (.cells [.slice t.a t.len t.cap].toArray 53 (0,0))::WS p d lim base s sg brk ds segs st Hs) w:=hw.arr;obtain ⟨R3,e3,ht,hw⟩:=Own.leak hw;exact ⟨her.symm,key (As:=[]) e3 ht hw⟩
  ·refine Zd hw λ bb w hw=>⟨hw.k1,?_⟩
   refine (ZaR hp2 hn hw).use ?_;clear hw;rintro _ w ⟨rfl,hw⟩;refine ⟨_,rfl,hw.k1,?_⟩;have hw:Sat R2 (Zl d st::pts bb (.cells [.slice none 0 0].toArray 53 (0,0))::pts p (Zt d lim base s sg brk)::ZL s ds::ZbE sg segs::Hs) w:=hw.arr;refine (Zen i hw).use ?_;clear hw;rintro _ w ⟨t,rfl,hw⟩;refine ⟨t,_,rfl,hw.k1,?_⟩;rw [<-hxs] at hw;refine Zc hw (by kernel_rfl) rfl (by simp [Value.cells,Zn]) λ w hw=>?_;have hw:Sat R2 (pts bb (.cells [.slice t.a t.len t.cap].toArray 53 (0,0))::Own t 5 (b8 xs)::Zl d st::pts p (Zt d lim base s sg brk)::ZL s ds::ZbE sg segs::Hs) w:=hw;have hw:Sat R2 (Own t 5 (b8 xs)::pts bb (.cells [.slice t.a t.len t.cap].toArray 53 (0,0))::WS p d lim base s sg brk ds segs st Hs) w:=hw.arr;obtain ⟨R3,e3,ht,hw⟩:=Own.leak hw;exact ⟨her.symm,key (As:=[]) e3 ht hw⟩
 clear hw;rintro _ _ e6 w ⟨he6,R3,bb,x,e3,rfl,b3,hx,hw⟩;subst he6;have b1:=b1.ext e3;have b2:=e3.m _ _ b2;have hp3:=hp2.ext e3;have e13:=e12.trans e3;refine Br.ne (λ h=>?_) (λ h=>?_)
 ·have em:ZaS st segs g=(st,e6):=by unfold ZaS;rw [if_neg hc,if_pos (by rw [<-her];exact h),<-her]
  have es:Zag st segs g=segs:=by unfold Zag;rw [if_neg hc,if_pos (by rw [<-her];exact h)]
  refine hK _ _ ⟨R3,sg,e13,by rw [em],?_⟩;rw [em,es];exact hw
 have hz:=hz h;have hr0:¬ (ZC st (Za g.num)).2≠0:=by rw [<-her];exact λ h2=>h2 h
 have es:Zag st segs g=ZaZ segs g.size:=by unfold Zag;rw [if_neg hc,if_neg hr0]
 have em:ZaS st segs g=Z3 (Z3 (Zk st Zh (xs.take g.size.toNat)) λ st=>ZA st Zh) λ st=>ZY st Zh (Za g.num):=by unfold ZaS;rw [if_neg hc,if_neg hr0,<-hxs]
 have hpos:0<segs.length:=by
  rcases Nat.eq_zero_or_pos segs.length with h0|h0
  ·exfalso
   refine hc (.inr ?_);rw [List.length_eq_zero_iff.1 h0];rfl
  ·exact h0
 have hsl:sg.len=segs.length:=by
  have h2:Sat R3 (ZbE sg segs::pts p (Zt d lim base s sg brk)::ZL s ds::Zl d st::Hs) w:=hw.arr;have:=ZM.len h2;simpa using this
 refine Zs (Sat R3 [pts p (Zt d lim base s sg brk),VC.tru]) hw (λ w hw=>hw.k1) λ w hw=>?_;refine ⟨_,b1.at Ze,Zb.mk rfl ⟨sg,At.own Ze (by exact ⟨rfl,trivial⟩),_,b1.at Ze,Zb.mk rfl ⟨sg,At.own Ze (by exact ⟨rfl,trivial⟩),g.size,At.ro Ze b2 (by exact ⟨rfl,trivial⟩),?_⟩⟩⟩;have hk:segs.length - 1<segs.length:=by omega
 have wk:IntKind.i64.wrap ((sg.len:Int) - 1)=((segs.length - 1:Nat):Int):=by rw [Zg (by omega) (by omega)];omega
 rw [wk];have hrd:ReadsN 3 sg (segs.map ZjQ) (λ w'=>w'=w):=ZM.readsM (n:=3) (s:=sg) (T:=96) (rows:=segs.map ZjQ) hw (eqS hw);refine hrd.rngM hk λ a ha _=>?_;refine ZM.storeM (n:=3) (s:=sg) (T:=96) (E:=segs) (g:=ZjQ) 2 ⟨segs[segs.length - 1].num,segs[segs.length - 1].next,g.size⟩ hw ha hk (by kernel_rfl) rfl (by simp [Value.cells]) rfl λ w hw=>?_;have ess:ZaZ segs g.size=segs.set (segs.length - 1) ⟨segs[segs.length - 1].num,segs[segs.length - 1].next,g.size⟩:=by
  unfold ZaZ;rw [List.getElem?_eq_getElem hk]
 rw [<-ess,<-es] at hw;have hw:Sat R3 (WS p d lim base s sg brk ds (Zag st segs g) st Hs) w:=hw.arr;refine Zd hw λ bt w hw=>?_;obtain ⟨R4,e4,b4,hw⟩:=pts.leak hw;have hp4:=hp3.ext e4;have b1:=b1.ext e4;have b2:=e4.m _ _ b2;have b3:=b3.ext e4;have hx:=e4.slR hx;have e14:=e13.trans e4;have hro:Ro R4 ⟨some ⟨bt,0,none⟩,3,3⟩ [.func (.func 127) #[] #[.pointer (some ⟨bw,0,none⟩),.pointer (some ⟨bb,0,none⟩),.pointer (some ⟨bs,0,none⟩)],.func (.func 128) #[] #[.pointer (some ⟨bw,0,none⟩)],.func (.func 129) #[] #[.pointer (some ⟨bw,0,none⟩),.pointer (some ⟨bs,0,none⟩)]]:=
  ⟨rfl,by simp,λ _=>⟨bt,0,_,_,_,rfl,b4,λ i v h=>by simpa using h⟩⟩
 refine (ZgP (Q:=Zk0 R Hs p d lim base s brk ds (λ _=>Zag st segs g) (ZaS st segs g)) hro (by simp) hw ?_).use ?_
 ·refine Zcm.mk (by kernel_rfl) ((ZnZ (g:=g) (x:=x) (xs:=xs) i b1 b3 b2 hx (by omega) h0 hz hw).use ?_)
  clear hw;rintro _ w ⟨rfl,hw⟩;refine ⟨_,rfl,?_⟩;by_cases he:(Zk st Zh (xs.take g.size.toNat)).2=0
  case neg=>
   have em2:ZaS st segs g=Zk st Zh (xs.take g.size.toNat):=by rw [em];unfold Z3;rw [if_neg he,if_neg he]
   exact .inl ⟨he,R4,sg,e14,by rw [em2],by rw [em2];exact hw⟩
  refine .inr ⟨he,⟨_,hw⟩,?_⟩;have i2:=Z7 i Zh (xs.take g.size.toNat);refine Zcm.mk (by kernel_rfl) ((ZnW i2 b1 hw).use ?_);clear hw;rintro _ w ⟨rfl,hw⟩;refine ⟨_,rfl,?_⟩;by_cases he2:(ZA (Zk st Zh (xs.take g.size.toNat)).1 Zh).2=0
  case neg=>
   have em2:ZaS st segs g=ZA (Zk st Zh (xs.take g.size.toNat)).1 Zh:=by rw [em];unfold Z3;rw [if_pos he,if_neg he2]
   exact .inl ⟨he2,R4,sg,e14,by rw [em2],by rw [em2];exact hw⟩
  refine .inr ⟨he2,⟨_,hw⟩,?_⟩;have i3:=Za1 i2 Zh;refine Zcm.mk (by kernel_rfl) ((ZnX (g:=g) i3 hp4 hn b1 b2 hw).use ?_);clear hw;rintro _ w ⟨rfl,hw⟩;have em2:ZaS st segs g=ZY (ZA (Zk st Zh (xs.take g.size.toNat)).1 Zh).1 Zh (Za g.num):=by rw [em];unfold Z3;rw [if_pos he,if_pos he2]
  rw [<-em2] at hw ⊢;refine ⟨_,rfl,?_⟩;by_cases he3:(ZaS st segs g).2=0
  case neg=>exact .inl ⟨he3,R4,sg,e14,rfl,hw⟩
  exact .inr ⟨he3,⟨_,hw⟩,R4,sg,e14,he3.symm,hw⟩
 ·rintro _ w ⟨e,rfl,h⟩
  exact ⟨e,rfl,hK _ _ h⟩
end
section
open Go Go.VC Tryz
set_option maxRecDepth 10000
def B41 (ax:Option Addr) (K:Value->World->Prop) (w:World):Prop:=
 New (.cells #[.pointer ax] 31 (0,0)) (λ e C=>
 ∃ (y:Sl->World->Prop),(∃ ab:Option Addr,(At (λ b=>b=C) ⟨e,0,none⟩ [.pointer ab])/\
 Zb ab λ am=>
 ∃ I:Option Addr,(At (λ b=>b=C) (Addr.add am 0) [.pointer I])/\
 Calls prog 33 #[.pointer I] C λ an a0=>
 ∃ g:Sl,(an=.returned (.slice g.a g.len g.cap))/\
 Calls prog 85 #[.slice g.a g.len g.cap,.string (ByteArray.mk #[119,97,108,46,110,101,119])] a0 λ ao E=>
 ∃ J:Bool,(ao=.returned (.bool J))/\
 Br J
 (∃ L:Option Addr,(At (λ b=>b=E) ⟨e,0,none⟩ [.pointer L])/\
 Calls prog 56 #[.pointer L,.string (ByteArray.mk #[119,97,108,46,110,101,119])] E λ ap a3=>
 ∃ M:Value,(ap=.returned (M))/\
 ∃ ai:World,∃ i:Sl,((Instr.buildSlice 124 1 #[(0,M)]).run prog a3=.ok (.slice i.a i.len i.cap) ai)/\
 ∃ aj:World,∃ r:Sl,((Builtin.append_ #[124,124] 124 #[.slice none 0 0,.slice i.a i.len i.cap]).run prog ai=.ok (.slice r.a r.len r.cap) aj)/\
 y r aj)
 (y ⟨none,0,0⟩ E))/\
 ∀ (a6:Env) (o:Sl) (F:World),y o F->
 ∃ N:Option Addr,(At (λ b=>b=F) ⟨e,0,none⟩ [.pointer N])/\
 Calls prog 58 #[.pointer N] F λ aq a4=>
 ∃ O:Option Addr,∃ j:Sl,(aq=.returned (.tuple #[.pointer O,.slice j.a j.len j.cap]))/\
 New (.cells #[.pointer none] 99 (0,0)) (λ A a5=>
 ∃ u:World,((Instr.storeAt 99 (.pointer ((some ⟨A,0,none⟩))) (.pointer O)).run prog a5=.ok () u)/\
 ∃ (z:Sl->World->Prop),(∃ Q:Option Addr,(At (λ b=>b=u) ⟨A,0,none⟩ [.pointer Q])/\
 Br (!Q.isNone)
 (∃ ac:World,∃ k:Sl,((Instr.buildSlice 124 1 #[(0,.func (.func 86) #[] #[.pointer ((some ⟨e,0,none⟩)),.pointer ((some ⟨A,0,none⟩))])]).run prog u=.ok (.slice k.a k.len k.cap) ac)/\
 ∃ ad:World,∃ s:Sl,((Builtin.append_ #[124,124] 124 #[.slice o.a o.len o.cap,.slice k.a k.len k.cap]).run prog ac=.ok (.slice s.a s.len s.cap) ad)/\
 z s ad)
 (z o u))/\
 ∀ (a7:Env) (H:Sl) (ae:World),z H ae->
 ∃ (x:Sl->Int->World->Prop) (ak:Sl->Int->World->Nat),(x H 0 ae)/\∀ (a8:Env) (c:Sl) (f:Int) (d:World),x c f d->
 Br (decide (f<(↑j.len:Int)))
 (Rng f j.len (Zb j.a λ al=>
 ∃ T:Int,(At (λ b=>b=d) (Addr.add al f.toNat) [.int .i64 T])/\
 Drw d λ q ay=>
 ∃ U:Option Addr,(At q ⟨e,0,none⟩ [.pointer U])/\
 Calls prog 57 #[.agg #[.int .i64 T,.int .i64 0,.int .i64 0]] ay λ ar af=>
 ∃ V:ByteArray,(ar=.returned (.string V))/\
 (q af)/\
 Calls prog 56 #[.pointer U,.string V] af λ au az=>
 ∃ X:Value,(au=.returned (X))/\
 ∃ D:World,∃ l:Sl,((Instr.buildSlice 124 1 #[(0,X)]).run prog az=.ok (.slice l.a l.len l.cap) D)/\
 (q D)/\
 ∃ v:World,∃ p:Sl,((Builtin.append_ #[124,124] 124 #[.slice c.a c.len c.cap,.slice l.a l.len l.cap]).run prog D=.ok (.slice p.a p.len p.cap) v)/\
 (q v)/\
 (x p (IntKind.i64.wrap (f + 1)) v)/\ak p (IntKind.i64.wrap (f + 1)) v<ak c f d))
 (∃ Y:Option Addr,(At (λ b=>b=d) ⟨e,0,none⟩ [.pointer Y])/\
 Zb Y λ G=>
 ∃ t:Sl,(At (λ b=>b=d) ⟨G.block,G.off + 4,none⟩ [.slice t.a t.len t.cap])/\
 Br ((↑t.len:Int)==0)
 (∃ ag:World,∃ m:Sl,((Instr.buildSlice 124 1 #[(0,.func (.func 88) #[] #[.pointer ((some ⟨e,0,none⟩))])]).run prog d=.ok (.slice m.a m.len m.cap) ag)/\
 ∃ ah:World,∃ n:Sl,((Builtin.append_ #[124,124] 124 #[.slice c.a c.len c.cap,.slice m.a m.len m.cap]).run prog ag=.ok (.slice n.a n.len n.cap) ah)/\
 Calls prog 90 #[.slice n.a n.len n.cap] ah λ av a1=>
 ∃ Z:Int,(av=.returned (.int .i64 Z))/\
 K (.int .i64 Z) a1)
 (Calls prog 90 #[.slice c.a c.len c.cap] d λ aw a2=>
 ∃ aa:Int,(aw=.returned (.int .i64 aa))/\
 K (.int .i64 aa) a2))) a4) w
def sk41:Sk:=(.seq .leaf (.seq .leaf (.cut [3] [.sl] [3,8,9,10,11,12,13,14,15,16,17,18] .leaf (.seq .leaf (.cut [3] [.sl] [3,24,25,26,27,28,29] .leaf (.seq (.seq .leaf (.block (.loop [3,32] [.sl,(.int .i64)] [3,7,32,33,34,35,36,37,38,39,40,41,42,43,44] .leaf))) .leaf))))))
theorem ZvI (a:Option Addr) (K:Value->World->Prop) (w:World) (h:B41 a K w):Zq prog 41 #[.pointer a] w K:=cq (sk:=sk41) func41 (by kernel_rfl) (by kernel_rfl) (by kernel_rfl) h
end
section
open Go Go.VC Tryz
variable {R R':Cx} {Hs Rest:List HP} {w:World} {p d:Nat} {lim base:Int} {s sg:Sl} {brk:Bool} {ds:List DE4} {segs:List Sg} {st:DS}
theorem Zwe (g:FuncId) (c:Array Value) (w:World):(Instr.buildSlice 124 1 #[(0,.func (.func g) #[] c)]).run prog w=.ok (.slice (some ⟨w.heap.size,0,none⟩) 1 1) (w.alloc (.cells #[.func (.func g) #[] c] 52)):=by kernel_rfl
theorem Zwt:El prog 124 124 52 8:=⟨underlying124,⟨_,underlying124⟩,by kernel_rfl⟩
theorem ZdZ {g:FuncId} {c:Array Value} {Q:Sl->World->Prop} (hw:Sat R Hs w) (k:∀ b w',Sat R (pts b (.cells [.func (.func g) #[] c].toArray 52 (0,0))::Hs) w'->Q ⟨some ⟨b,0,none⟩,1,1⟩ w'):
  ∃ w',∃ t:Sl,(Instr.buildSlice 124 1 #[(0,.func (.func g) #[] c)]).run prog w=.ok (.slice t.a t.len t.cap) w'/\Q t w':=
 ⟨_,⟨some ⟨w.heap.size,0,none⟩,1,1⟩,Zwe g c w,k _ _ (Sat.alloc (.cells #[.func (.func g) #[] c] 52) hw)⟩
theorem Zfx {P:Program} {bytes b:Nat} {t1 t2 ty T T':TypeId} {fr:Nat × Nat} {s:Sl} (E:El P t1 t2 T bytes) {xs:List Value} {x:Value} {K:Sl->World->Prop}
  (hw:Sat R (Own s T xs::pts b (.cells [x].toArray T' fr)::Hs) w) (h1:Zac xs=true) (hx:x.oneCell'=true) (hb:2 * (xs.length + 1) * bytes<=281474976710656) (hb':xs.length + 1<=9223372036854775807)
  (k:∀ s' w',Sat R (Own s' T (xs++[x])::Hs) w'->K s' w'):
  ∃ w',∃ t:Sl,(Builtin.append_ #[t1,t2] ty #[.slice s.a s.len s.cap,.slice (some ⟨b,0,none⟩) 1 1]).run P w=.ok (.slice t.a t.len t.cap) w'/\K t w':=
 Zas E hw (ZjN E.hk 1 hw hx) h1 hb hb' λ s' w' h=>k s' w' (h.cons λ _ h=>h.drop)
def FnL (fs:List Value):Prop:=∀ v∈fs,∃ g c,v=.func (.func g) #[] c
theorem FnL.one {fs:List Value} (h:FnL fs):Zac fs=true:=by
 unfold Zac;rw [List.all_eq_true];intro x hx;obtain ⟨g,c,rfl⟩:=h x hx;rfl
theorem FnL.app {a b:List Value} (ha:FnL a) (hb:FnL b):FnL (a++b):=λ v hv=>(List.mem_append.1 hv).elim (ha v) (hb v)
theorem FnL.sing (g:FuncId) (c:Array Value):FnL [.func (.func g) #[] c]:=λ v hv=>by simp at hv;exact ⟨g,c,hv⟩
theorem FnL.nil:FnL []:=λ _ h=>by cases h
def ZrP (R:Cx) (p:Nat) (v:Value) (name:ByteArray):Prop:=∃ bw bn:Nat,v=.func (.func 103) #[] #[.pointer (some ⟨bw,0,none⟩),.pointer (some ⟨bn,0,none⟩)]/\ZjP R bw p/\ZjT R bn (.string name)
theorem ZrP.ext {v:Value} {name:ByteArray} (h:ZrP R p v name) (e:R.Ext R'):ZrP R' p v name:=let ⟨bw,bn,h1,h2,h3⟩:=h;⟨bw,bn,h1,h2.ext e,h3.ext e⟩
theorem ZrP.fn {v:Value} {name:ByteArray} (h:ZrP R p v name):FnL [v]:=let ⟨_,_,h1,_⟩:=h;by rw [h1];exact .sing _ _
def ZjS (R:Cx) (p:Nat):List Value->List Nat->Prop
 |[],[]=>True
 |v::vs,n::ns=>ZrP R p v (Za n)/\ZjS R p vs ns
 |_,_=>False
theorem ZjS.ext (e:R.Ext R'):∀ {vs:List Value} {ns:List Nat},ZjS R p vs ns->ZjS R' p vs ns
 |[],[],h=>h
 |_::_,_::_,h=>⟨h.1.ext e,ZjS.ext e h.2⟩
theorem ZjS.snoc {v:Value} {n:Nat}:∀ {vs:List Value} {ns:List Nat},ZjS R p vs ns->ZrP R p v (Za n)->ZjS R p (vs++[v]) (ns++[n])
 |[],[],_,hv=>⟨hv,trivial⟩
 |_::_,_::_,h,hv=>⟨h.1,ZjS.snoc h.2 hv⟩
theorem ZjS.fn:∀ {vs:List Value} {ns:List Nat},ZjS R p vs ns->FnL vs
 |[],[],_=>.nil
 |v::vs,_::_,h=>λ x hx=>by
  rcases List.mem_cons.1 hx with rfl|hx
  ·exact h.1.fn x (by simp)
  ·exact ZjS.fn h.2 x hx
theorem ZjS.len:∀ {vs:List Value} {ns:List Nat},ZjS R p vs ns->vs.length=ns.length
 |[],[],_=>rfl
 |_::_,_::_,h=>by simp [ZjS.len h.2]
theorem ZjZ {Q:Int->World->Prop} {rest:List Value}:∀ {vs:List Value} {ns:List Nat} {st:DS} {w:World},ZjS R p vs ns->Inv st->Sat R (WS p d lim base s sg brk ds segs st Hs) w->
  (∀ w',(ZF st ns).2≠0->Sat R (WS p d lim base s sg brk ds segs (ZF st ns).1 Hs) w'->Q (ZF st ns).2 w')->
  (∀ w',(ZF st ns).2=0->Inv (ZF st ns).1->Sat R (WS p d lim base s sg brk ds segs (ZF st ns).1 Hs) w'->ZgA R rest Q w')->ZgA R (vs++rest) Q w
 |[],[],st,w,_,i,hw,_,k=>k w rfl i hw
 |v::vs,n::ns,st,w,h,i,hw,q,k=>by
  obtain ⟨⟨bw,bn,rfl,b1,b2⟩,h⟩:=h;refine Zcm.mk (by kernel_rfl) ((Zeh i b1 b2 hw).use ?_);clear hw;rintro _ w ⟨rfl,hw⟩;refine ⟨_,rfl,?_⟩;by_cases he:(Zi st (Za n)).2=0
  case neg=>
   have e:ZF st (n::ns)=Zi st (Za n):=by unfold ZF Z3;rw [if_neg he]
   rw [e] at q;exact .inl ⟨he,q _ he hw⟩
  have e:ZF st (n::ns)=ZF (Zi st (Za n)).1 ns:=by conv=>lhs;unfold ZF Z3;rw [if_pos he]
  rw [e] at q k;exact .inr ⟨he,⟨_,hw⟩,ZjZ h (Zba i _) hw q k⟩
theorem Zx {x:DS × Int} {f:DS->DS × Int} (h:x.2≠0):Z3 x f=x:=if_neg h
theorem ZB {x:DS × Int} {f:DS->DS × Int} (h:x.2=0):Z3 x f=f x.1:=if_pos h
theorem ZgW {st:DS} {k k2:ByteArray} (hne:k2≠k) (h:(Zi st k).2=0):(Zi st k).1.off=st.off/\ZC (Zi st k).1 k2=ZC st k2:=by
 have hg:=ZaH (st:=st) hne;have ho:(Zi st k).1.off=st.off:=by
  obtain ⟨h1,h2⟩:=Zc7 (st:=st) h;have e:Zi st k=ZX k (chg st (Zm k)).1:=h2;have e2:(chg st (Zm k)).1.off=st.off:=by
   unfold chg at h1 ⊢;split
   ·rfl
   ·split
    ·rfl
    ·split
     ·rename_i h3 h4 h5;rw [if_neg h3,if_neg h4,if_pos h5] at h1;simp at h1
     ·rfl
  rw [e,<-e2];unfold ZX;split<;>rfl
 refine ⟨ho,?_⟩;unfold ZC;rw [ho,hg]
def Zse (R:Cx) (Hs:List HP) (p d:Nat) (lim:Int) (brk:Bool) (st:DS) (e:Int) (w:World):Prop:=
 ∃ R' base s ds sg segs,R.Ext R'/\DsR R' ds/\e=(recoverD st).2/\(e=0->(⟨base,erE ds⟩:Lg)=(Zz st).g/\segs=(Zz st).segs/\segs.length<=40001)/\0<=base/\base<=1099511627776/\ds.length<=100000000000/\
  Sat R' (WS p d lim base s sg brk ds segs (recoverD st).1 Hs) w
theorem Zjn {bw bA bg:Nat} {g:Sg} (i:Inv st) (hp:Zec R) (hn:g.num<100000000) (hl:segs.length<=1000000) (h0:0<=g.size) (hz:(ZC st (Za g.num)).2=0->g.size<=(ZC st (Za g.num)).1.length) (h1:ZjP R bw p) (h2:ZjP R bA bg) (h3:R.m bg=some (ZZ g))
  (hw:Sat R (WS p d lim base s sg brk ds segs st Hs) w):
  Zq prog 86 #[.pointer (some ⟨bw,0,none⟩),.pointer (some ⟨bA,0,none⟩)] w λ v w'=>∃ e,v=.int .i64 e/\Zk0 R Hs p d lim base s brk ds (λ _=>Zag st segs g) (ZaS st segs g) e w':=by
 apply Zu2;refine Zs (Sat R [VC.tru]) hw (λ w hw=>Sat.toTru (As:=[]) hw) λ w hw=>?_;refine Zb.mk rfl ⟨_,h1.at Ze,Zb.mk rfl ⟨_,h2.at Ze,Zb.mk rfl ⟨_,_,_,At.ro Ze h3 (by exact ⟨rfl,rfl,rfl,trivial⟩),?_⟩⟩⟩;refine (ZpJ i hp hn hl h0 hz hw).use ?_;rintro _ w ⟨e,rfl,h⟩;have h':=h;obtain ⟨R2,sg2,e2,_,hw⟩:=h';exact ⟨_,rfl,e2.back (Sat.toTru (As:=[]) hw),e,rfl,h⟩
theorem Zjm {bw:Nat} (i:Inv st) (hp:Zec R) (hl:segs.length<=1000000) (h1:ZjP R bw p) (hw:Sat R (WS p d lim base s sg brk ds segs st Hs) w):
  Zq prog 88 #[.pointer (some ⟨bw,0,none⟩)] w λ v w'=>∃ e,v=.int .i64 e/\Zk0 R Hs p d lim base s brk ds (ZcU segs 1 1) (Zae st 1 1) e w':=by
 apply Zu0;refine Zb.mk rfl ⟨_,h1.at (eqS hw),?_⟩;refine (ZkD (n:=1) (next:=1) i hp (by omega) (by omega) (by omega) hl hw).use ?_;rintro _ w ⟨e,rfl,h⟩;exact ⟨e,rfl,e,rfl,h⟩
end
section
open Go Go.VC Tryz
variable {R R':Cx} {Hs Rest:List HP} {w:World} {p d:Nat} {lim base:Int} {s sg:Sl} {brk:Bool} {ds:List DE4} {segs:List Sg} {st:DS}
abbrev x0D (st:DS):DS × Int:=if Zh∈Zr st.fs then Zi st Zh else (st,0)
abbrev f1D (ld:Ld) (st:DS):DS × Int:=match ld.amiss with|some s=>ZaS st ld.segs s|none=>(st,0)
abbrev f3D (ld:Ld) (st:DS):DS × Int:=if ld.segs=[] then Zae st 1 1 else (st,0)
theorem ZcG (st:DS):recoverD st=Z3 (Z3 (Z3 (x0D st) (f1D (Zj st))) λ st'=>ZF st' (Zj st).behind) (f3D (Zj st)):=rfl
theorem ZgF {st:DS} (i:Inv st) (k:ByteArray):(ZC st k).1.length<=16777216:=by
 unfold ZC;split
 ·simp
 ·split
  ·simp
  ·split
   ·simp
   ·rename_i f hf
    have:=ZbH hf;have:=i.full;have:=i.r1;simp only;omega
theorem Zsi {st:DS} (n:Nat) (h:(x0D st).2=0):ZC (x0D st).1 (Za n)=ZC st (Za n):=by
 unfold x0D at h ⊢;split
 ·rename_i hs
  rw [if_pos hs] at h;exact (ZgW (ZO n) h).2
 ·rfl
theorem ZrR {st:DS} (i:Inv st):Inv (x0D st).1:=by
 unfold x0D;split
 ·exact Zba i _
 ·exact i
theorem Zdk {x:DS × Int} {f:DS->DS × Int} (hx:Inv x.1) (hf:∀ st,Inv st->Inv (f st).1):Inv (Z3 x f).1:=by
 unfold Z3;split
 ·exact hf _ hx
 ·exact hx
theorem ZpM {st:DS} (i:Inv st) (segs:List Sg) (g:Sg):Inv (ZaS st segs g).1:=by
 unfold ZaS;split
 ·exact Zba i _
 ·split
  ·exact i
  ·exact Zdk (Zdk (Z7 i _ _) λ st i=>Za1 i _) λ st i=>Zf1 i _ _
theorem Zef:∀ {ns:List Nat} {st:DS},Inv st->Inv (ZF st ns).1
 |[],_,i=>i
 |n::ns,st,i=>by
  unfold ZF Z3;split
  ·exact Zef (Zba i _)
  ·exact Zba i _
theorem Zrr {st:DS} {segs:List Sg} {g:Sg} (h:(ZaS st segs g).2=0):Zag st segs g=Zc5 segs g:=by
 unfold Zag Zc5;split
 ·rfl
 ·rename_i hc
  split
  ·rename_i he
   unfold ZaS at h;rw [if_neg hc,if_pos he] at h;exact absurd h he
  ·rfl
theorem ZmQ {st:DS} (hby:Zb9 st.fs):(∀ g,(Zj st).amiss=some g->g.num<100000000/\0<=g.size/\g.size<=(ZC st (Za g.num)).1.length)/\∀ n∈(Zj st).behind,n<100000000:=by
 have hnb:∀ n∈ZN (Zr st.fs),n<100000000:=λ n hn=>by
  unfold ZN at hn;rw [List.mem_filter] at hn;obtain ⟨k,_,rfl⟩:=List.mem_map.1 hn.1;exact ZdP
 obtain ⟨h1,h2⟩:=Zht (rd:=λ n=>(ZC st (Za n)).1) (nums:=ZN (Zr st.fs)) (prev:=none) (g:=⟨0,[]⟩) (segs:=[]);refine ⟨λ g hg=>⟨hnb _ (h1 g hg),?_⟩,λ n hn=>hnb _ (h2 n hn)⟩;refine Zn6 (rd:=λ n=>(ZC st (Za n)).1) (λ n b hb x hx=>?_) (λ n=>ZeH _ _ (Nat.le_refl _)) g hg;obtain ⟨_,h3⟩:=ZgE _ _ (Nat.le_refl _) b hb;exact ZhT hby _ x (h3 x hx)
theorem Zkg (i:Inv st) (hby:Zb9 st.fs) (hc:st.fs.length<=40000) (hp:Zec R) (hw:Sat R (WS p d lim base s sg brk ds segs st Hs) w):
  Zq prog 41 #[.pointer (some ⟨p,0,none⟩)] w λ v w'=>∃ e,v=.int .i64 e/\Zse R Hs p d lim brk st e w':=by
 apply ZvI
 suffices H:∀ K:Value->World->Prop,(∀ e w',Zse R Hs p d lim brk st e w'->K (.int .i64 e) w')->B41 (some ⟨p,0,none⟩) K w from H _ λ e _ h=>⟨e,rfl,h⟩
 intro K hK;obtain ⟨hbd1,hbd2⟩:=ZmQ hby;refine Zd hw λ bw w hw=>?_;obtain ⟨R1,e1,b1,hw⟩:=Za3 hw;refine ⟨λ ss w=>∃ (R2:Cx) (us:List Value),R1.Ext R2/\((Zh∈Zr st.fs/\∃ v,us=[v]/\ZrP R2 p v Zh)\/(Zh ∉ Zr st.fs/\us=[]))/\Sat R2 (Own ss 52 us::WS p d lim base s sg brk ds segs st Hs) w,?_,?_⟩
 ·refine ⟨_,b1.at (eqS hw),Zb.mk rfl ⟨_,(by rw [Zf];exact At.own (eqS hw) (by exact ⟨rfl,trivial⟩)),?_⟩⟩
  have hw:Sat R1 (Zl d st::pts p (Zt d lim base s sg brk)::ZL s ds::ZbE sg segs::Hs) w:=hw.arr;refine (Zds i (by omega) hw).use ?_;clear hw;rintro _ w ⟨sn,rfl,hw⟩;refine ⟨sn,rfl,?_⟩;obtain ⟨R2,e2,hn,hw⟩:=Own.leak hw;have hw:Sat R2 (WS p d lim base s sg brk ds segs st Hs) w:=hw.arr;have hnl:=Za7 st.fs;refine (ZjH (k:=Zh) (hn.ro (by rw [List.length_map];omega)) hw).use ?_;clear hw;rintro _ w ⟨rfl,hw⟩;refine ⟨_,rfl,Br.d (λ h=>?_) (λ h=>⟨R2,[],e2,.inr ⟨h,rfl⟩,Own.nil hw⟩)⟩;refine ⟨_,(b1.ext e2).at (eqS hw),?_⟩;refine (Zeg p Zh hw).use ?_;clear hw;rintro _ w ⟨R3,bw2,bn,e3,rfl,c1,c2,hw⟩;refine ⟨_,rfl,?_⟩;refine ZdZ hw λ b w hw=>?_;refine Zfx Zwt (s:=⟨none,0,0⟩) (xs:=[]) (Own.nil hw) rfl rfl (by simp) (by simp) λ s2 w hw=>?_;exact ⟨R3,_,e2.trans e3,.inl ⟨h,_,rfl,bw2,bn,rfl,c1,c2⟩,hw⟩
 clear hw;rintro _ ss w ⟨R2,us,e2,hus,hw⟩;have husF:FnL us:=by
  rcases hus with ⟨_,v,rfl,hv⟩|⟨_,rfl⟩
  ·exact hv.fn
  ·exact .nil
 have husl:us.length<=1:=by
  rcases hus with ⟨_,v,rfl,hv⟩|⟨_,rfl⟩<;>simp
 refine ⟨_,(b1.ext e2).at (eqS hw),?_⟩;have e12:=e1.trans e2;have hw:Sat R2 (WS p d lim base s sg brk ds segs st (Own ss 52 us::Hs)) w:=hw.arr;refine (ZkF i hby hc (hp.ext e12) hw).use ?_;clear hw;rintro _ w ⟨R3,base,s,ds,sg,am,bh,e3,hd,rfl,hg,hbh,hb0,hb1,hdl,hsl,hw⟩;refine ⟨am,bh,rfl,Zd hw λ bA w hw=>?_⟩;refine Zc hw (by kernel_rfl) rfl (by simp [Value.cells,Zn]) λ w hw=>?_;obtain ⟨R4,e4,bA4,hw⟩:=ZhU (v:=.pointer am) rfl hw;obtain ⟨R5,e5,hA,hw⟩:∃ R5:Cx,R4.Ext R5/\(((Zj st).amiss=none/\am=none)\/∃ g bg,(Zj st).amiss=some g/\am=some ⟨bg,0,none⟩/\R5.m bg=some (ZZ g))/\Sat R5 (WS p d lim base s sg brk ds (Zj st).segs st (Own ss 52 us::Hs)) w:=by
  cases hm:(Zj st).amiss with
  |none=>
   rw [hm] at hw;obtain ⟨ha,hw⟩:=Sat.pur.1 hw;exact ⟨R4,.refl,.inl ⟨rfl,ha⟩,hw⟩
  |some g=>
   rw [hm] at hw;obtain ⟨bg,hw⟩:=Sat.exs.1 hw;obtain ⟨ha,hw⟩:=Sat.pur.1 (Sat.star.1 hw);obtain ⟨R5,e5,bg5,hw⟩:=pts.leak hw;exact ⟨R5,e5,.inr ⟨g,bg,rfl,ha,bg5⟩,hw⟩
 have e35:=e4.trans e5;have e25:=e3.trans e35;have hd:=hd.ext e35;have hbh:=e35.slR hbh;have b1:=(b1.ext e2).ext e25;have bA5:=bA4.ext e5;have hp5:=hp.ext (e12.trans e25);have hus:(Zh∈Zr st.fs/\∃ v,us=[v]/\ZrP R5 p v Zh)\/(Zh ∉ Zr st.fs/\us=[]):=hus.imp (λ⟨h,v,hv,hu⟩=>⟨h,v,hv,hu.ext e25⟩) id;have e15:=e12.trans e25;obtain ⟨mv,hmv⟩:∃ mv:List Value,mv=match (Zj st).amiss with|none=>[]|some _=>[.func (.func 86) #[] #[.pointer (some ⟨bw,0,none⟩),.pointer (some ⟨bA,0,none⟩)]]:=⟨_,rfl⟩
 have hmvF:FnL mv:=by
  rw [hmv];split
  ·exact .nil
  ·exact .sing _ _
 have hmvl:mv.length<=1:=by rw [hmv];split<;>simp
 have hwJ:Sat R5 (Own ss 52 us::WS p d lim base s sg brk ds (Zj st).segs st Hs) w:=hw.arr;clear hw;refine ⟨λ ss w=>Sat R5 (Own ss 52 (us++mv)::WS p d lim base s sg brk ds (Zj st).segs st Hs) w,?_,?_⟩
 ·refine ⟨am,bA5.at (eqS hwJ),?_⟩
  rcases hA with ⟨hm,rfl⟩|⟨g,bg,hm,rfl,_⟩
  ·refine Br.f rfl ?_
   have:mv=[]:=by rw [hmv,hm]
   rw [this,List.append_nil];exact hwJ
  ·refine Br.t rfl ?_
   have hm2:mv=[.func (.func 86) #[] #[.pointer (some ⟨bw,0,none⟩),.pointer (some ⟨bA,0,none⟩)]]:=by rw [hmv,hm]
   refine ZdZ hwJ λ b w hw=>?_;refine Zfx Zwt (s:=ss) (xs:=us) hw.swap husF.one rfl (by omega) (by omega) λ s2 w hw=>?_;rw [hm2];exact hw
 clear hwJ;rintro _ ss w hw;have hbl:bh.len=(Zj st).behind.length:=by have:=hbh.len;simpa using this
 have hnlen:(ZN (Zr st.fs)).length<=40000:=by have:=Zdq (Zr st.fs);rw [Za7] at this;omega
 have hbhl:(Zj st).behind.length<=40000:=by
  have:=ZiC (rd:=λ n=>(ZC st (Za n)).1) (nums:=ZN (Zr st.fs)) (prev:=none) (g:=⟨0,[]⟩) (segs:=[]);exact Nat.le_trans this hnlen
 -- all steps
 have fin:∀ {R6:Cx} {ss:Sl} {vs nv:List Value} {w:World},R5.Ext R6->ZjS R6 p vs (Zj st).behind->(nv=if (Zj st).segs=[] then [.func (.func 88) #[] #[.pointer (some ⟨bw,0,none⟩)]] else [])->Sat R6 (Own ss 52 (us++mv++vs++nv)::WS p d lim base s sg brk ds (Zj st).segs st Hs) w->
   Zq prog 90 #[.slice ss.a ss.len ss.cap] w λ v w'=>∃ n:Int,v=.int .i64 n/\Zse R Hs p d lim brk st n w':=λ {R6 ss vs nv w} e6 hvs hnv hw=>by
  obtain ⟨R7,e7,hro,hwF⟩:=Own.leak hw;clear hw;have e57:=e6.trans e7;have hvs:=hvs.ext e7;have b1:=b1.ext e57;have bA5:=bA5.ext e57;have hp7:=hp5.ext e57;have hd:=hd.ext e57;have hvl:=hvs.len;have hnvl:nv.length<=1:=by rw [hnv];split<;>simp
  have hlen:(us++mv++vs++nv).length<=40003:=by simp only [List.length_append];omega
  have i0:=ZrR i;have out:∀ {x:DS × Int} {sg:Sl} {sgs:List Sg} {w:World},recoverD st=x->x.2≠0->Sat R7 (WS p d lim base s sg brk ds sgs x.1 Hs) w->Zse R Hs p d lim brk st x.2 w:=λ {x sg sgs w} hx he hw=>
   ⟨R7,base,s,ds,sg,sgs,e15.trans e57,hd,by rw [hx],λ h=>absurd h he,hb0,hb1,hdl,by rw [hx];exact hw⟩
  have fin:∀ {sg:Sl} {sgs:List Sg} {x:DS} {w:World},recoverD st=(x,0)->sgs=(Zz st).segs->sgs.length<=40001->Sat R7 (WS p d lim base s sg brk ds sgs x Hs) w->Zse R Hs p d lim brk st 0 w:=λ {sg sgs x w} hx hs hl hw=>
   ⟨R7,base,s,ds,sg,sgs,e15.trans e57,hd,by rw [hx],λ _=>⟨hg,hs,hl⟩,hb0,hb1,hdl,by rw [hx];exact hw⟩
  obtain ⟨x0,hx0⟩:∃ x,x=x0D st:=⟨_,rfl⟩;rw [<-hx0] at i0;obtain ⟨x1,hx1⟩:∃ x,x=Z3 x0 (f1D (Zj st)):=⟨_,rfl⟩;obtain ⟨x2,hx2⟩:∃ x,x=Z3 x1 λ st'=>ZF st' (Zj st).behind:=⟨_,rfl⟩;have hx3:recoverD st=Z3 x2 (f3D (Zj st)):=by rw [hx2,hx1,hx0];rfl
  obtain ⟨segs1,hsegs1⟩:∃ x,x=match (Zj st).amiss with|none=>(Zj st).segs|some g=>Zag x0.1 (Zj st).segs g:=⟨_,rfl⟩
  have hs1l:segs1.length=(Zj st).segs.length:=by
   rw [hsegs1];split
   ·rfl
   ·unfold Zag
    split
    ·rfl
    ·split
     ·rfl
     ·unfold ZaZ
      split
      ·simp
      ·rfl
  have stage3:∀ {sg:Sl} {w:World},x1.2=0->x2.2=0->Inv x2.1->Sat R7 (WS p d lim base s sg brk ds segs1 x2.1 Hs) w->ZgA R7 nv (Zse R Hs p d lim brk st) w:=λ {sg w} h1 h2 i2 hw=>by
   have hx3:=hx3;rw [ZB h2] at hx3;by_cases hsn:(Zj st).segs=[]
   ·rw [hnv,if_pos hsn]
    have hs1:segs1=[]:=List.length_eq_zero_iff.1 (by rw [hs1l,hsn];rfl);have e3:recoverD st=Zae x2.1 1 1:=by rw [hx3];unfold f3D;rw [if_pos hsn]
    refine Zcm.mk (by kernel_rfl) ((Zjm i2 hp7 (by rw [hs1];simp) b1 hw).use ?_);clear hw;rintro _ w ⟨e,rfl,R8,sg2,e8,rfl,hw⟩;have hw:=e8.back hw;refine ⟨_,rfl,?_⟩;by_cases he:(Zae x2.1 1 1).2=0
    case neg=>exact .inl ⟨he,out e3 he hw⟩
    refine .inr ⟨he,⟨_,hw⟩,?_⟩;rw [he] at hw;refine fin (sgs:=ZcU segs1 1 1 0) (x:=(Zae x2.1 1 1).1) (by rw [e3];exact Prod.ext rfl he) ?_ ?_ hw
    ·rw [hs1];unfold Zz ZcU;rw [if_pos rfl];simp only;rw [if_pos hsn];rfl
    ·rw [hs1];unfold ZcU;rw [if_pos rfl];simp
   ·rw [hnv,if_neg hsn]
    have e3:recoverD st=(x2.1,0):=by rw [hx3];unfold f3D;rw [if_neg hsn]
    refine fin e3 ?_ (by omega) hw;unfold Zz;simp only;rw [if_neg hsn,hsegs1];cases hm:(Zj st).amiss with
    |none=>rfl
    |some g=>
     simp only;refine Zrr ?_;have h0:x0.2=0:=by
      apply Classical.byContradiction;intro h0;rw [hx1,Zx h0] at h1;exact h0 h1
     rw [hx1,ZB h0] at h1;unfold f1D at h1;rw [hm] at h1;exact h1
  have stage2:∀ {sg:Sl} {w:World},x1.2=0->Inv x1.1->Sat R7 (WS p d lim base s sg brk ds segs1 x1.1 Hs) w->ZgA R7 (vs++nv) (Zse R Hs p d lim brk st) w:=λ {sg w} h1 i1 hw=>by
   have e2:x2=ZF x1.1 (Zj st).behind:=by rw [hx2,ZB h1]
   rw [e2] at hx3 stage3;refine ZjZ hvs i1 hw (λ w he hw=>?_) (λ w he i2 hw=>stage3 h1 he i2 hw);exact out (by rw [hx3,Zx he]) he hw
  have stage1:∀ {sg:Sl} {w:World},x0.2=0->Sat R7 (WS p d lim base s sg brk ds (Zj st).segs x0.1 Hs) w->ZgA R7 (mv++(vs++nv)) (Zse R Hs p d lim brk st) w:=λ {sg w} h0 hw=>by
   have e1:x1=f1D (Zj st) x0.1:=by rw [hx1,ZB h0]
   rcases hA with ⟨hm,_⟩|⟨g,bg,hm,ham,hbg⟩
   ·have hmv0:mv=[]:=by rw [hmv,hm]
    have e1':x1=(x0.1,0):=by rw [e1];unfold f1D;rw [hm]
    have es:segs1=(Zj st).segs:=by rw [hsegs1,hm]
    rw [hmv0,List.nil_append];rw [e1',es] at stage2;exact stage2 rfl i0 hw
   ·have hmv1:mv=[.func (.func 86) #[] #[.pointer (some ⟨bw,0,none⟩),.pointer (some ⟨bA,0,none⟩)]]:=by rw [hmv,hm]
    have e1':x1=ZaS x0.1 (Zj st).segs g:=by rw [e1];unfold f1D;rw [hm]
    have es:segs1=Zag x0.1 (Zj st).segs g:=by rw [hsegs1,hm]
    obtain ⟨g1,g2,g3⟩:=hbd1 g hm;have hrd:ZC x0.1 (Za g.num)=ZC st (Za g.num):=by rw [hx0];exact Zsi _ (by rw [<-hx0];exact h0)
    rw [hmv1];have bA7:ZjP R7 bA bg:=by rw [ham] at bA5;exact bA5
    refine Zcm.mk (by kernel_rfl) ((Zjn (g:=g) (bg:=bg) i0 hp7 g1 (by omega) g2 (λ _=>by rw [hrd];exact g3) b1 bA7 (e57.m _ _ hbg) hw).use ?_);clear hw;rintro _ w ⟨e,rfl,R8,sg2,e8,rfl,hw⟩;have hw:=e8.back hw;rw [<-e1',<-es] at hw;rw [<-e1'];refine ⟨_,rfl,?_⟩;by_cases he:x1.2=0
    case neg=>exact .inl ⟨he,out (by rw [hx3,hx2,Zx he,Zx he]) he hw⟩
    refine .inr ⟨he,⟨_,hw⟩,stage2 he (by rw [e1'];exact ZpM i0 _ _) hw⟩
  refine ZgP (hro.ro (by omega)) (by omega) hwF ?_;rw [List.append_assoc,List.append_assoc];rcases hus with ⟨hs,v,rfl,bw2,bn2,rfl,c1,c2⟩|⟨hs,rfl⟩
  ·have e0:x0=Zi st Zh:=by rw [hx0];unfold x0D;rw [if_pos hs]
   refine Zcm.mk (by kernel_rfl) ((Zeh i (c1.ext e57) (c2.ext e57) hwF).use ?_);clear hwF;rintro _ w ⟨rfl,hw⟩;rw [<-e0] at hw ⊢;refine ⟨_,rfl,?_⟩;by_cases he:x0.2=0
   case neg=>
    have h1:x1=x0:=by rw [hx1,Zx he]
    have h2:x2=x0:=by rw [hx2,h1,Zx he]
    exact .inl ⟨he,out (by rw [hx3,h2,Zx he]) he hw⟩
   exact .inr ⟨he,⟨_,hw⟩,stage1 he hw⟩
  ·have e0:x0=(st,0):=by rw [hx0];unfold x0D;rw [if_neg hs]
   rw [e0] at stage1;exact stage1 rfl hwF
 refine ⟨λ ss i w=>∃ (k:Nat) (R6:Cx) (vs:List Value),i=k/\k<=(Zj st).behind.length/\R5.Ext R6/\ZjS R6 p vs ((Zj st).behind.take k)/\Sat R6 (Own ss 52 (us++mv++vs)::WS p d lim base s sg brk ds (Zj st).segs st Hs) w,λ _ i _=>(Zj st).behind.length - i.toNat,⟨0,R5,[],rfl,by omega,.refl,trivial,by rw [List.append_nil];exact hw⟩,?_⟩;clear hw;rintro _ ss _ w ⟨k,R6,vs,rfl,hk,e6,hvs,hw⟩;have b1:=b1.ext e6;refine Br.d (λ h=>?_) (λ h=>?_)
 ·have hk':k<(Zj st).behind.length:=by omega
  have hnk:=hbd2 _ (List.getElem_mem hk');obtain ⟨n,hn⟩:∃ n,n=(Zj st).behind[k]:=⟨_,rfl⟩;refine (e6.slR hbh).ix (eqS hw) k rfl (by simpa using hk') ?_;have en:((Zj st).behind.map λ n:Nat=>(n:Int))[k]'(by simpa using hk')=((n:Nat):Int):=by simp [hn]
  rw [en];rw [<-hn] at hnk;refine Zs (Sat R6 [VC.tru]) hw (λ w hw=>Sat.toTru (As:=[]) hw) λ w hw=>?_;refine ⟨_,b1.at Ze,?_⟩;refine (ZaR (x:=0) (z:=0) (hp5.ext e6) hnk hw).use ?_;clear hw;rintro _ w ⟨rfl,hw⟩;refine ⟨_,rfl,Sat.toTru (As:=[]) hw,?_⟩;refine (Zeg p (Za n) hw).use ?_;clear hw;rintro _ w ⟨R7,bw2,bn,e7,rfl,c1,c2,hw⟩;refine ⟨_,rfl,?_⟩;have hvs:=hvs.ext e7;have hvl:=hvs.len;rw [List.length_take] at hvl;refine ZdZ hw λ b w hw=>⟨e7.back (Sat.toTru (As:=[]) hw),?_⟩;refine Zfx Zwt (s:=ss) (xs:=us++mv++vs) hw.swap (((husF.app hmvF).app hvs.fn).one) rfl (by simp only [List.length_append];omega) (by simp only [List.length_append];omega) λ s2 w hw=>⟨e7.back (Sat.toTru (As:=[]) hw),?_⟩;refine ⟨⟨k + 1,R7,vs++[.func (.func 103) #[] #[.pointer (some ⟨bw2,0,none⟩),.pointer (some ⟨bn,0,none⟩)]],by rw [Zg (by omega) (by omega)];omega,by omega,e6.trans e7,?_,?_⟩,by dsimp only;rw [Zg (by omega) (by omega)];omega⟩
  ·rw [List.take_add_one,List.getElem?_eq_getElem hk',<-hn]
   exact hvs.snoc ⟨bw2,bn,rfl,c1,c2⟩
  ·rw [<-List.append_assoc];exact hw
 ·have hkl:k=(Zj st).behind.length:=by omega
  rw [hkl,List.take_length] at hvs;have hvl:=hvs.len;have hsgl:sg.len=(Zj st).segs.length:=by
   have h2:Sat R6 (ZbE sg (Zj st).segs::Own ss 52 (us++mv++vs)::pts p (Zt d lim base s sg brk)::ZL s ds::Zl d st::Hs) w:=hw.arr;have:=ZM.len h2;simpa using this
  refine ⟨_,b1.at (eqS hw),Zb.mk rfl ⟨sg,At.own (eqS hw) (by exact ⟨rfl,trivial⟩),Br.e (λ h2=>?_) (λ h2=>?_)⟩⟩
  ·have hsn:(Zj st).segs=[]:=List.length_eq_zero_iff.1 (by omega)
   refine ZdZ hw λ b w hw=>?_;refine Zfx Zwt (s:=ss) (xs:=us++mv++vs) hw.swap (((husF.app hmvF).app hvs.fn).one) rfl (by simp only [List.length_append];omega) (by simp only [List.length_append];omega) λ s2 w hw=>?_;refine (fin e6 hvs (by rw [if_pos hsn]) hw).use ?_;rintro _ w ⟨e,rfl,h⟩;exact ⟨e,rfl,hK _ _ h⟩
  ·have hsn:(Zj st).segs≠[]:=λ h=>h2 (by rw [hsgl,h];rfl)
   refine (fin (nv:=[]) e6 hvs (by rw [if_neg hsn]) (by rw [List.append_nil];exact hw)).use ?_;rintro _ w ⟨e,rfl,h⟩;exact ⟨e,rfl,hK _ _ h⟩
def Zxv (R:Cx) (Hs:List HP) (d:Nat) (lim:Int) (st:DS) (e:Int) (v:Value) (w:World):Prop:=
 (e≠0/\v=.tuple #[.pointer none,.int .i64 e]/\Sat R (Zl d (Zd9 st lim)::Hs) w)\/
 (e=0/\∃ R' p s ds sg,R.Ext R'/\DsR R' ds/\v=.tuple #[.pointer (some ⟨p,0,none⟩),.int .i64 0]/\erE ds=(Zz st).g.l/\0<=(Zz st).g.base/\(Zz st).g.base<=1099511627776/\ds.length<=100000000000/\(Zz st).segs.length<=40001/\
  Sat R' (WS p d lim (Zz st).g.base s sg false ds (Zz st).segs (Zd9 st lim) Hs) w)
theorem Zkr {d:Nat} {st:DS} (lim:Int) (i:Inv st) (hby:Zb9 st.fs) (hc:st.fs.length<=40000) (hp:Zec R) (hw:Sat R (Zl d st::Hs) w):
  Zq prog 13 #[.pointer (some ⟨d,0,none⟩),.int .i64 lim] w (Zxv R Hs d lim st (Zaz st lim)):=by
 apply Zv9;refine ⟨λ w=>¬ (lim<32\/lim>65536)/\st.off=false/\Sat R (Zl d st::Hs) w,?_,?_⟩
 ·refine Br.f rfl (Br.d (λ h=>?_) (λ h=>Br.d (λ h2=>?_) (λ h2=>?_)))
  ·have h:lim<32\/lim>65536:=.inl h
   refine .inl ⟨by unfold Zaz;rw [if_pos h];decide,by unfold Zaz;rw [if_pos h],by unfold Zd9;rw [if_pos h];exact hw⟩
  ·have h:lim<32\/lim>65536:=.inr h2
   refine .inl ⟨by unfold Zaz;rw [if_pos h];decide,by unfold Zaz;rw [if_pos h],by unfold Zd9;rw [if_pos h];exact hw⟩
  ·have h:¬ (lim<32\/lim>65536):=by omega
   refine (ZmJ hw).use ?_;clear hw;rintro _ w ⟨rfl,hw⟩;refine ⟨_,rfl,?_⟩;cases ho:st.off with
   |false=>exact Br.f rfl ⟨h,rfl,hw⟩
   |true=>
    refine Br.t rfl (.inl ⟨by unfold Zaz;rw [if_neg h,if_pos ho];decide,by unfold Zaz;rw [if_neg h,if_pos ho],by unfold Zd9;rw [if_neg h,if_pos ho];exact hw⟩)
 clear hw;rintro _ w ⟨h,ho,hw⟩;have ee:Zaz st lim=(recoverD st).2:=by unfold Zaz;rw [if_neg h,if_neg (by rw [ho];simp)]
 have ed:Zd9 st lim=(recoverD st).1:=by unfold Zd9;rw [if_neg h,if_neg (by rw [ho];simp)]
 rw [ee];refine Zd hw λ p w hw=>?_;have hw:Sat R (WS p d lim 0 ⟨none,0,0⟩ ⟨none,0,0⟩ false [] [] st Hs) w:=by
  have hw:Sat R (pts p (Zt d lim 0 ⟨none,0,0⟩ ⟨none,0,0⟩ false)::Zl d st::Hs) w:=hw;exact hw.cons λ _ h=>ZM.nil (ZM.nil h)
 refine (Zkg i hby hc hp hw).use ?_;clear hw;rintro _ w ⟨e,rfl,R1,base,s,ds,sg,segs,e1,hd,rfl,hok,hb0,hb1,hdl,hw⟩;refine ⟨_,rfl,Br.ne (λ h2=>?_) (λ h2=>?_)⟩
 ·refine .inl ⟨h2,rfl,?_⟩
  rw [ed];have hw:Sat R1 (Zl d (recoverD st).1::pts p (Zt d lim base s sg false)::ZL s ds::ZbE sg segs::Hs) w:=hw.arr;exact e1.back (hw.cons λ _ h=>h.drop.drop.drop)
 ·obtain ⟨hg,hs,hl⟩:=hok h2
  refine .inr ⟨h2,R1,p,s,ds,sg,e1,hd,rfl,by rw [<-hg],by rw [<-hg];exact hb0,by rw [<-hg];exact hb1,hdl,by rw [<-hs];exact hl,?_⟩;rw [ed,<-hg,<-hs];exact hw
end
section
open Go Go.VC Tryz
structure WSt where
 lim:Int
 g:Lg
 segs:List Sg
 brk:Bool
def Zu (segs:List Sg):Sg:=segs.getD (segs.length - 1) ⟨0,0,0⟩
def Zbh (segs:List Sg) (n:Nat):List Sg:=ZaZ segs ((Zu segs).size + n)
def ZU (x:WSt) (st:DS):DS × Int:=if x.lim<=(Zu x.segs).size then Z3 (ZA st (Za (Zu x.segs).num)) λ st=>Zae st ((Zu x.segs).num + 1) (x.g.last + 1) else (st,0)
def Zbb (x:WSt) (e:Int):List Sg:=if x.lim<=(Zu x.segs).size/\e=0 then x.segs++[⟨(Zu x.segs).num + 1,x.g.last + 1,(ZH ((Zu x.segs).num + 1) (x.g.last + 1)).length⟩] else x.segs
def Zbq (x:WSt) (st:DS) (b:List Int) (g:Lg):(DS × Int) × WSt:=
 if (Zk st (Za (Zu x.segs).num) b).2=0 then (Zk st (Za (Zu x.segs).num) b,{ x with segs:=Zbh x.segs b.length,g:=g }) else (Zk st (Za (Zu x.segs).num) b,x)
def Zbx (x:WSt) (st:DS) (e:Ey):(DS × Int) × WSt:=
 if (ZU x st).2≠0 then (ZU x st,x) else Zbq { x with segs:=Zbb x 0 } (ZU x st).1 (ZP (Zc6 e)) ⟨x.g.base,x.g.l++[e]⟩
def ZdG:WSt->DS->List Ey->(DS × Int) × WSt
 |x,st,[]=>((st,0),x)
 |x,st,e::es=>if (Zbx x st e).1.2≠0 then Zbx x st e else ZdG (Zbx x st e).2 (Zbx x st e).1.1 es
def ZbS (r:(DS × Int) × WSt):(DS × Int) × WSt:=(r.1,{ r.2 with brk:=r.1.2 !=0 })
instance (x:Ey):Decidable x.Ok:=decidable_of_iff (1<=x.ix/\x.ix<=1099511627776/\0<=x.tm/\x.tm<=1099511627776/\0<=x.kd/\x.kd<=7/\x.dt.length<=4096)
 ⟨λ⟨a,b,c,d,e,f,g⟩=>⟨a,b,c,d,e,f,g⟩,λ⟨a,b,c,d,e,f,g⟩=>⟨a,b,c,d,e,f,g⟩⟩
def ZhX (i:Int) (l:List Ey):Prop:=∀ (k:Nat) (h:k<l.length),l[k].ix=i + k
open Classical in
noncomputable def ZaD (x:WSt) (st:DS) (l:List Ey):(DS × Int) × WSt:=
 if x.brk then ((st,8),x) else if ¬ (∀ e∈l,e.Ok) then ((st,1),x) else if ¬ ZhX (x.g.last + 1) l then ((st,7),x) else ZbS (ZdG x st l)
def ZgM (x:WSt) (st:DS) (i:Int):(DS × Int) × WSt:=
 if x.brk then ((st,8),x) else if i<=x.g.base\/i>x.g.last + 1 then ((st,7),x) else if i=x.g.last + 1 then ((st,0),x) else ZbS (Zbq x st (ZP (Zc8 i)) ⟨x.g.base,x.g.l.take (i - 1 - x.g.base).toNat⟩)
def Zbn (x:WSt) (st:DS) (i:Int):(DS × Int) × WSt:=
 if x.brk then ((st,8),x) else if i<1\/i>1099511627776 then ((st,1),x) else ZbS (Zbq x st (ZP (Zd8 i)) ⟨i - 1,[]⟩)
def ZgZ (x:WSt) (st:DS):(DS × Int) × WSt:=if x.brk then ((st,8),x) else ZbS (ZA st (Za (Zu x.segs).num),x)
def Zdx (x:WSt):Int:=if x.brk then 0 else x.g.base + 1
def Zoa (x:WSt):Int:=if x.brk then 0 else x.g.last
def ZlR (x:WSt) (from' most:Int):List Ey:=if x.brk\/from'<=x.g.base\/from'>x.g.last\/most<1 then [] else (x.g.l.drop (from' - 1 - x.g.base).toNat).take most.toNat
structure WB (x:WSt):Prop where
 b0:0<=x.g.base
 b1:x.g.base<=1099511627776
 l1:x.g.l.length<=200000000000
 s0:0<x.segs.length
 s1:x.segs.length<=900000
 n1:∀ g∈x.segs,g.num<=99999998/\0<=g.size/\g.size<=1099511627776
structure WB0 (x:WSt):Prop where
 b0:0<=x.g.base
 b1:x.g.base<=1099511627776
 l1:x.g.l.length<=200000000000
theorem WB.w0 {x:WSt} (b:WB x):WB0 x:=⟨b.b0,b.b1,b.l1⟩
variable {R R':Cx} {Hs Rest:List HP} {w:World} {p d:Nat} {x:WSt} {s sg:Sl} {ds:List DE4} {st:DS}
abbrev WX (p d:Nat) (x:WSt) (s sg:Sl) (ds:List DE4) (st:DS) (Hs:List HP):List HP:=WS p d x.lim x.g.base s sg x.brk ds x.segs st Hs
def WMem (R:Cx) (p d:Nat) (x:WSt) (st:DS) (Hs:List HP) (w:World):Prop:=∃ s ds sg,DsR R ds/\erE ds=x.g.l/\Sat R (WX p d x s sg ds st Hs) w
theorem ZhB (b:WB0 x) (hw:Sat R (WX p d x s sg ds st Hs) w):Zq prog 22 #[.pointer (some ⟨p,0,none⟩)] w λ v w'=>v=.int .i64 (Zdx x)/\Sat R (WX p d x s sg ds st Hs) w':=by
 have h0:=b.b0;have h1:=b.b1;apply Zv0;refine Zb.mk rfl ⟨x.brk,At.own (eqS hw) (by exact ⟨rfl,trivial⟩),Br.mk (λ h=>?_) (λ h=>?_)⟩
 ·refine ⟨?_,hw⟩;unfold Zdx;rw [if_pos h]
 ·refine Zb.mk rfl ⟨_,At.own (eqS hw) (by exact ⟨rfl,trivial⟩),?_,hw⟩
  rw [Zg (by omega) (by omega)];unfold Zdx;rw [if_neg (by simp [h])]
theorem Zog (b:WB x) (hw:Sat R (WX p d x s sg ds st Hs) w):Zq prog 22 #[.pointer (some ⟨p,0,none⟩)] w λ v w'=>v=.int .i64 (Zdx x)/\Sat R (WX p d x s sg ds st Hs) w':=ZhB b.w0 hw
theorem ZlL (h:erE ds=x.g.l):x.g.last=x.g.base + (ds.length:Int):=by unfold Lg.last;rw [<-h];simp
theorem WX.slen (hw:Sat R (WX p d x s sg ds st Hs) w):s.len=ds.length/\sg.len=x.segs.length:=by
 constructor
 ·have h2:Sat R (ZL s ds::pts p (Zt d x.lim x.g.base s sg x.brk)::ZbE sg x.segs::Zl d st::Hs) w:=hw.arr
  have:=ZM.len h2;simpa using this
 ·have h2:Sat R (ZbE sg x.segs::pts p (Zt d x.lim x.g.base s sg x.brk)::ZL s ds::Zl d st::Hs) w:=hw.arr
  have:=ZM.len h2;simpa using this
theorem Zfc (b:WB0 x) (hd:erE ds=x.g.l) (hw:Sat R (WX p d x s sg ds st Hs) w):Zq prog 52 #[.pointer (some ⟨p,2,none⟩)] w λ v w'=>v=.int .i64 x.g.last/\Sat R (WX p d x s sg ds st Hs) w':=by
 have hl:=(WX.slen hw).1;have h1:=b.l1;rw [<-hd] at h1;simp only [List.length_map] at h1;refine (ZfD (p:=p) b.b0 (by have:=b.b1;omega) (by omega) hw).mono ?_;rintro _ w ⟨rfl,hw⟩;rw [ZlL hd,hl];exact ⟨rfl,hw⟩
theorem Zdu (b:WB x) (hd:erE ds=x.g.l) (hw:Sat R (WX p d x s sg ds st Hs) w):Zq prog 52 #[.pointer (some ⟨p,2,none⟩)] w λ v w'=>v=.int .i64 x.g.last/\Sat R (WX p d x s sg ds st Hs) w':=Zfc b.w0 hd hw
theorem ZlK (b:WB0 x) (hd:erE ds=x.g.l) (hw:Sat R (WX p d x s sg ds st Hs) w):Zq prog 24 #[.pointer (some ⟨p,0,none⟩)] w λ v w'=>v=.int .i64 (Zoa x)/\Sat R (WX p d x s sg ds st Hs) w':=by
 apply ZvY;refine Zb.mk rfl ⟨x.brk,At.own (eqS hw) (by exact ⟨rfl,trivial⟩),Br.mk (λ h=>?_) (λ h=>?_)⟩
 ·refine ⟨?_,hw⟩;unfold Zoa;rw [if_pos h]
 ·refine Zb.mk rfl ((Zfc b hd hw).use ?_)
  clear hw;rintro _ w ⟨rfl,hw⟩;refine ⟨_,rfl,?_,hw⟩;unfold Zoa;rw [if_neg (by simp [h])]
theorem ZhO {e:DE4} (hs:SlR R.m e.1 (b8 e.2.dt)) (hl:e.2.dt.length<=1099511627776) (hw:Sat R Hs w):Zq prog 59 #[ZsM e] w λ v w'=>∃ (R':Cx) (t:Sl),R.Ext R'/\v=ZsM (t,e.2)/\SlR R'.m t (b8 e.2.dt)/\Sat R' Hs w':=by
 apply Zvq;refine Zd hw λ b w hw=>Zd hw λ b2 w hw=>?_;refine ⟨e.1,At.own (eqS hw) (by exact ⟨rfl,trivial⟩),?_⟩;refine (ZdC (hs.ro (by rw [List.length_map];omega)) hl hw).use ?_;clear hw;rintro _ w ⟨t,rfl,hw⟩;obtain ⟨R1,e1,ht,hw⟩:=Own.leak hw;refine ⟨t,rfl,?_⟩;have hw:Sat R1 (pts b (.cells (ZaU e).toArray 55 (0,0))::pts b2 (.cells [.int .i64 0,.int .i64 0,.int .i64 0,.slice none 0 0].toArray 55 (0,0))::Hs) w:=hw.swap;refine Zc hw (by kernel_rfl) rfl (by simp [Value.cells,Zn]) λ w hw=>?_;have hw:Sat R1 (pts b (.cells (ZaU (t,e.2)).toArray 55 (0,0))::pts b2 (.cells [.int .i64 0,.int .i64 0,.int .i64 0,.slice none 0 0].toArray 55 (0,0))::Hs) w:=hw;refine ⟨e.2.ix,e.2.tm,e.2.kd,t,At.own (eqS hw) (by exact ⟨rfl,rfl,rfl,rfl,trivial⟩),?_⟩;have hw:=hw.swap;refine Zc hw (by kernel_rfl) rfl (by simp [Value.cells,Zn]) λ w hw=>?_;have hw:Sat R1 (pts b2 (.cells (ZaU (t,e.2)).toArray 55 (0,0))::pts b (.cells (ZaU (t,e.2)).toArray 55 (0,0))::Hs) w:=hw;refine ⟨e.2.ix,e.2.tm,e.2.kd,t,At.own (eqS hw) (by exact ⟨rfl,rfl,rfl,rfl,trivial⟩),?_⟩;exact ⟨R1,t,e1,rfl,ht,hw.drop.drop⟩
theorem ZiH (b:WB0 x) (from' most:Int) (hf: -9223372036854775808<=from'/\from'<9223372036854775808) (hdl:∀ e∈x.g.l,e.dt.length<=1099511627776) (hd:DsR R ds) (he:erE ds=x.g.l) (hw:Sat R (WX p d x s sg ds st Hs) w):
  Zq prog 21 #[.pointer (some ⟨p,0,none⟩),.int .i64 from',.int .i64 most] w λ v w'=>∃ (R':Cx) (t:Sl) (ds':List DE4),R.Ext R'/\v=.slice t.a t.len t.cap/\DsR R' ds'/\erE ds'=ZlR x from' most/\Sat R' (ZL t ds'::WX p d x s sg ds st Hs) w':=by
 have h0:=b.b0;have h1:=b.b1;have h2:=b.l1;have hsl:=(WX.slen hw).1;have hlast:=ZlL he;have hdl2:ds.length=x.g.l.length:=by rw [<-he];simp
 apply Zv1
 suffices H:∀ K:Value->World->Prop,(∀ (R':Cx) (t:Sl) (ds':List DE4) w',R.Ext R'->DsR R' ds'->erE ds'=ZlR x from' most->Sat R' (ZL t ds'::WX p d x s sg ds st Hs) w'->K (.slice t.a t.len t.cap) w')->B21 (some ⟨p,0,none⟩) from' most K w from H _ λ R' t ds' w' a b c h=>⟨R',t,ds',a,rfl,b,c,h⟩
 intro K hK;have none:∀ {w},(x.brk=true\/from'<=x.g.base\/from'>x.g.last\/most<1)->Sat R (WX p d x s sg ds st Hs) w->K (.slice none 0 0) w:=λ {w} h hw=>
  hK R ⟨.none,0,0⟩ [] w .refl .nil (by unfold ZlR;rw [if_pos h];rfl) (ZM.nil hw)
 refine ⟨λ w=>¬ (x.brk=true\/from'<=x.g.base\/from'>x.g.last\/most<1)/\Sat R (WX p d x s sg ds st Hs) w,?_,?_⟩
 ·refine Zb.mk rfl ⟨x.brk,At.own (eqS hw) (by exact ⟨rfl,trivial⟩),Br.mk (λ h=>none (.inl h) hw) (λ h=>?_)⟩
  refine Zb.mk rfl ⟨_,At.own (eqS hw) (by exact ⟨rfl,trivial⟩),Br.d (λ h3=>none (.inr (.inl h3)) hw) (λ h3=>?_)⟩;refine Zb.mk rfl ((Zfc b he hw).use ?_);clear hw;rintro _ w ⟨rfl,hw⟩;refine ⟨_,rfl,Br.d (λ h4=>none (.inr (.inr (.inl h4))) hw) (λ h4=>Br.d (λ h5=>none (.inr (.inr (.inr h5))) hw) (λ h5=>⟨?_,hw⟩))⟩;rintro (h6|h6|h6|h6)
  ·rw [h] at h6;cases h6
  ·exact h3 h6
  ·exact h4 h6
  ·exact h5 h6
 clear hw;rintro _ w ⟨hc,hw⟩;have hc':=hc;rw [not_or,not_or,not_or] at hc';obtain ⟨c1,c2,c3,c4⟩:=hc';have w1:IntKind.i64.wrap (IntKind.i64.wrap (from' - 1) - x.g.base)=((from' - 1 - x.g.base).toNat:Int):=by rw [Zg (x:=from' - 1) (by omega) (by omega),Zg (by omega) (by omega)];omega
 obtain ⟨o,ho⟩:∃ o,o=(from' - 1 - x.g.base).toNat:=⟨_,rfl⟩
 rw [<-ho] at w1;have hol:o<=ds.length:=by omega
 refine Zv hw λ w hw=>?_;refine Zb.mk rfl ⟨s,At.own Ze (by exact ⟨rfl,trivial⟩),Zb.mk rfl ⟨_,At.own Ze (by exact ⟨rfl,trivial⟩),?_⟩⟩;rw [w1,Int.toNat_natCast];obtain ⟨m,hm⟩:∃ m:Nat,(m:Int)=if ((s.len - o:Nat):Int)<most then ((s.len - o:Nat):Int) else most:=⟨(if ((s.len - o:Nat):Int)<most then ((s.len - o:Nat):Int) else most).toNat,by split<;>omega⟩
 rw [<-hm];have hcap:s.len<=s.cap:=by
  have h2:Sat R (ZL s ds::pts p (Zt d x.lim x.g.base s sg x.brk)::ZbE sg x.segs::Zl d st::Hs) w:=hw.arr;exact ZM.cap (by omega) h2
 have hml:m<=ds.length - o:=by
  have:(m:Int)<=((s.len - o:Nat):Int):=by rw [hm];split<;>omega
  omega
 have hwant:ZlR x from' most=((erE ds).drop o).take m:=by
  unfold ZlR;rw [if_neg hc,<-ho,he];by_cases hlt:((s.len - o:Nat):Int)<most
  ·rw [if_pos hlt] at hm
   rw [List.take_of_length_le (by simp;omega),List.take_of_length_le (by simp;omega)]
  ·rw [if_neg hlt] at hm
   congr 1
   omega
 refine ⟨by omega,by omega,by omega,by omega,?_⟩;rw [Int.toNat_natCast];refine ⟨λ o' i w=>∃ (k:Nat) (R2:Cx) (ds':List DE4),i=k/\k<=m/\R.Ext R2/\DsR R2 ds'/\erE ds'=((erE ds).drop o).take k/\Sat R2 (ZL o' ds'::WX p d x s sg ds st Hs) w,λ _ i _=>m - i.toNat,⟨0,R,[],rfl,by omega,.refl,.nil,by simp [erE],ZM.nil hw⟩,?_⟩;clear hw;rintro _ o' _ w ⟨k,R2,ds',rfl,hk,e2,hd',he',hw⟩;refine Br.d (λ h=>?_) (λ h=>?_)
 ·have hk':k<m:=by omega
  have hok:o + k<ds.length:=by omega
  have hwE:Sat R2 (ZL s ds::ZL o' ds'::pts p (Zt d x.lim x.g.base s sg x.brk)::ZbE sg x.segs::Zl d st::Hs) w:=hw.arr;have hwE2:=hwE;obtain ⟨R3,hr,hx3,hw3,back⟩:=ZM.lend hwE;have hsub:=hr.sub (l:=o) (h:=o + m) (m:=s.cap) (by omega) (by rw [List.length_map];omega) (λ h=>by omega);have hrows:((ds.map ZaU).take (o + m)).drop o=(((ds.drop o).take m).map ZaU):=by
   rw [List.map_take,List.map_drop,List.drop_take];congr 1;omega
  rw [hrows,Nat.add_sub_cancel_left] at hsub;have hrdk:=hsub.reads (S:=λ w'=>w'=w) (eqS hw3);have hlk:k<((ds.drop o).take m).length:=by simp;omega
  refine hrdk.rngM hlk λ a _ el=>?_;have hel:((ds.drop o).take m)[k]=ds[o + k]:=by simp
  rw [hel] at el;obtain ⟨e,hee⟩:∃ e,e=ds[o + k]:=⟨_,rfl⟩;rw [<-hee] at el;have hem:e∈ds:=by rw [hee];exact List.getElem_mem _
  refine ⟨e.2.ix,e.2.tm,e.2.kd,e.1,el.z (by exact ⟨rfl,rfl,rfl,rfl,trivial⟩),Zd hw λ b w hw=>?_⟩;refine Zc hw (by kernel_rfl) rfl (by simp [Value.cells,Zn]) λ w hw=>?_;have hw:Sat R2 (pts b (.cells (ZaU e).toArray 55 (0,0))::ZL o' ds'::WX p d x s sg ds st Hs) w:=hw;refine ⟨e.2.ix,e.2.tm,e.2.kd,e.1,At.own (eqS hw) (by exact ⟨rfl,rfl,rfl,rfl,trivial⟩),?_⟩;refine (ZhO (e:=e) (e2.slR (hd e hem)) (hdl e.2 (by rw [<-he];exact List.mem_map_of_mem (f:=(·.2)) hem)) hw.drop).use ?_;clear hw;rintro _ w ⟨R4,t,e4,rfl,ht,hw⟩;refine ⟨_,_,_,t,rfl,Zd hw λ b w hw=>?_⟩;have hdl':ds'.length=k:=by have:=congrArg List.length he';simp at this;omega
  refine Zc2 elE (s:=o') (rows:=ds'.map ZaU) (x:=ZaU (t,e.2)) hw.swap rfl rfl (by rw [List.length_map];omega) (by rw [List.length_map];omega) λ s2 w hw=>?_;refine ⟨⟨k + 1,R4,ds'++[(t,e.2)],by rw [Zg (by omega) (by omega)];omega,by omega,e2.trans e4,(hd'.ext e4).app (.one ht),?_,?_⟩,by dsimp only;rw [Zg (by omega) (by omega)];omega⟩
  ·rw [List.take_add_one]
   have:((erE ds).drop o)[k]? =some e.2:=by
    rw [List.getElem?_drop,List.getElem?_map,List.getElem?_eq_getElem hok,<-hee];rfl
   rw [this,erE,List.map_append];show erE ds'++[e.2]=_;rw [he'];rfl
  ·unfold ZL;rw [List.map_append];exact hw
 ·have hkm:k=m:=by omega
  exact hK R2 o' ds' w e2 hd' (by rw [he',hkm,hwant]) hw
end
section
open Go Go.VC Tryz
variable {R R':Cx} {Hs Rest:List HP} {w:World} {p d:Nat} {x:WSt} {s sg:Sl} {ds:List DE4} {st:DS}
theorem Zmp (b:WB x):Zu x.segs=x.segs[x.segs.length - 1]'(by have:=b.s0;omega):=by
 unfold Zu;rw [List.getD_eq_getElem?_getD,List.getElem?_eq_getElem (by have:=b.s0;omega)];rfl
theorem Zla (b:WB x):(Zu x.segs).num<=99999998/\0<=(Zu x.segs).size/\(Zu x.segs).size<=1099511627776:=by
 rw [Zmp b];exact b.n1 _ (List.getElem_mem _)
theorem Zfp (b:WB x) (hw:Sat R (WX p d x s sg ds st Hs) w):Zq prog 61 #[.pointer (some ⟨p,0,none⟩)] w λ v w'=>∃ a:Addr,sg.a=some a/\v=.pointer (some (Addr.add a (Zah ((x.segs.length - 1:Nat):Int).toNat 3)))/\Sat R (WX p d x s sg ds st Hs) w':=by
 have h0:=b.s0;have h1:=b.s1;have hsl:=(WX.slen hw).2;apply Zvo;refine Zv hw λ w hw=>?_;refine Zb.mk rfl ⟨sg,At.own Ze (by exact ⟨rfl,trivial⟩),Zb.mk rfl ⟨sg,At.own Ze (by exact ⟨rfl,trivial⟩),?_⟩⟩;have wk:IntKind.i64.wrap ((sg.len:Int) - 1)=((x.segs.length - 1:Nat):Int):=by rw [Zg (by omega) (by omega)];omega
 rw [wk];have hrd:ReadsN 3 sg (x.segs.map ZjQ) (λ w'=>w'=w):=ZM.readsM (n:=3) (s:=sg) (T:=96) (rows:=x.segs.map ZjQ) hw (eqS hw);refine hrd.rngM (by omega) λ a ha _=>⟨a,ha,rfl,hw⟩
theorem Zfq (b:WB x) {a:Addr} (ha:sg.a=some a) {S:World->Prop} {Hs' R1:List HP} (hw:Sat R Hs' w) [t:Zmf (ZbE sg x.segs) Hs' R1] (hS:∀ w,S w->Sat R Hs' w):
  Elt 3 S a (x.segs.length - 1) (ZjQ (Zu x.segs)):=by
 have h0:=b.s0;have hrd:ReadsN 3 sg (x.segs.map ZjQ) S:=ZM.readsM (n:=3) (s:=sg) (T:=96) (rows:=x.segs.map ZjQ) hw hS;have:=hrd.eltM (k:=x.segs.length - 1) (by omega) ha;rw [Zmp b];exact this
theorem ZfT (b:WB x) (i:Inv st) (hp:Zec R) {t:Sl} {xs:List Int} (hx:Ro R t (b8 xs)) (hxl:xs.length<=100000) (hw:Sat R (WX p d x s sg ds st Hs) w):
  Zq prog 63 #[.pointer (some ⟨p,0,none⟩),.slice t.a t.len t.cap] w λ v w'=>v=.int .i64 (Zk st (Za (Zu x.segs).num) xs).2/\
   Sat R (WX p d { x with segs:=if (Zk st (Za (Zu x.segs).num) xs).2=0 then Zbh x.segs xs.length else x.segs } s sg ds (Zk st (Za (Zu x.segs).num) xs).1 Hs) w':=by
 have h0:=b.s0;have h1:=b.s1;obtain ⟨t1,t2,t3⟩:=Zla b;have htl:t.len=xs.length:=by have:=hx.len;simpa using this
 apply Zvm;refine Zs (Sat R [pts p (Zt d x.lim x.g.base s sg x.brk),ZbE sg x.segs,VC.tru]) hw (λ w hw=>hw.k2) λ w hw=>?_;refine Zb.mk rfl ⟨_,(by rw [Zf];exact At.own Ze (by exact ⟨rfl,trivial⟩)),?_⟩;refine (Zfp b hw).use ?_;clear hw;rintro _ w ⟨a,ha,rfl,hw⟩;refine ⟨_,rfl,hw.k2,Zb.mk rfl ?_⟩;have el:=Zfq b ha (S:=Sat R [pts p (Zt d x.lim x.g.base s sg x.brk),ZbE sg x.segs,VC.tru]) (hw.k2:Sat R [pts p (Zt d x.lim x.g.base s sg x.brk),ZbE sg x.segs,VC.tru] w) Ze;refine ⟨_,_,_,el.z (by exact ⟨rfl,rfl,rfl,trivial⟩),?_⟩;refine (ZaR hp (by omega) hw).use ?_;clear hw;rintro _ w ⟨rfl,hw⟩;refine ⟨_,rfl,hw.k2,?_⟩;have hw:Sat R (Zl d st::pts p (Zt d x.lim x.g.base s sg x.brk)::ZL s ds::ZbE sg x.segs::Hs) w:=hw.arr;refine (Zd0 (k:=Za (Zu x.segs).num) i hx (by omega) hw).use ?_;clear hw;rintro _ w ⟨rfl,hw⟩;have hw:Sat R (WX p d x s sg ds (Zk st (Za (Zu x.segs).num) xs).1 Hs) w:=hw.arr;refine ⟨_,rfl,hw.k2,Br.e (λ h=>?_) (λ h=>?_)⟩
 ·refine (Zfp b hw).use ?_
  clear hw;rintro _ w ⟨a,ha,rfl,hw⟩;refine ⟨_,rfl,Zb.mk rfl ?_⟩;have el:=Zfq b ha (S:=λ w'=>w'=w) hw (eqS hw);refine ⟨_,el.f 2 (by exact ⟨rfl,trivial⟩),Zb.mk rfl ?_⟩;rw [Zg (by omega) (by omega),htl];have hk:x.segs.length - 1<x.segs.length:=by omega
  refine ZM.storeM (n:=3) (s:=sg) (T:=96) (E:=x.segs) (g:=ZjQ) 2 ⟨x.segs[x.segs.length - 1].num,x.segs[x.segs.length - 1].next,(Zu x.segs).size + (xs.length:Nat)⟩ hw ha hk (by kernel_rfl) rfl (by simp [Value.cells]) rfl λ w hw=>?_;have ess:Zbh x.segs xs.length=x.segs.set (x.segs.length - 1) ⟨x.segs[x.segs.length - 1].num,x.segs[x.segs.length - 1].next,(Zu x.segs).size + (xs.length:Nat)⟩:=by
   unfold Zbh ZaZ;rw [List.getElem?_eq_getElem hk]
  rw [<-ess] at hw;refine ⟨rfl,?_⟩;rw [if_pos h];exact hw.arr
 ·refine ⟨rfl,?_⟩
  rw [if_neg h];exact hw
theorem Zlq {e:DE4} (hs:e.1.len=e.2.dt.length) (hw:Sat R Hs w):Zq prog 50 #[ZsM e] w λ v w'=>v=.bool (decide e.2.Ok)/\Sat R Hs w':=by
 apply Zvz;have hno:∀ {w},¬ e.2.Ok->Sat R Hs w->(Value.bool false=.bool (decide e.2.Ok)/\Sat R Hs w):=λ h hw=>⟨by rw [decide_eq_false h],hw⟩;refine Zd hw λ b w hw=>?_;have hw:Sat R (pts b (.cells (ZaU e).toArray 55 (0,0))::Hs) w:=hw;refine ⟨_,At.own (eqS hw) (by exact ⟨rfl,trivial⟩),Br.d (λ h1=>?_) (λ h1=>hno (λ h=>by have:=h.i0;omega) hw.drop)⟩;refine ⟨_,At.own (eqS hw) (by exact ⟨rfl,trivial⟩),Br.d (λ h2=>?_) (λ h2=>hno (λ h=>by have:=h.i1;omega) hw.drop)⟩;refine ⟨_,At.own (eqS hw) (by exact ⟨rfl,trivial⟩),Br.d (λ h3=>?_) (λ h3=>hno (λ h=>by have:=h.t0;omega) hw.drop)⟩;refine ⟨_,At.own (eqS hw) (by exact ⟨rfl,trivial⟩),Br.d (λ h4=>?_) (λ h4=>hno (λ h=>by have:=h.t1;omega) hw.drop)⟩;refine ⟨_,At.own (eqS hw) (by exact ⟨rfl,trivial⟩),Br.d (λ h5=>?_) (λ h5=>hno (λ h=>by have:=h.k0;omega) hw.drop)⟩;refine ⟨_,At.own (eqS hw) (by exact ⟨rfl,trivial⟩),Br.d (λ h6=>?_) (λ h6=>hno (λ h=>by have:=h.k1;omega) hw.drop)⟩;refine ⟨e.1,At.own (eqS hw) (by exact ⟨rfl,trivial⟩),?_,hw.drop⟩
 congr 1
 rw [hs];exact decide_eq_decide.2 ⟨λ h=>⟨h1,h2,h3,h4,h5,h6,by omega⟩,λ h=>by have:=h.d1;omega⟩
theorem Zrb (b:WB x) (hn:(Zu x.segs).num<=99999997) (h1:x.g.last + 1<=1099511627777) (hsl:x.segs.length<=800000):WB { x with segs:=Zbb x 0 }:=by
 refine ⟨b.b0,b.b1,b.l1,?_,?_,?_⟩
 ·unfold Zbb;split
  ·simp
  ·exact b.s0
 ·unfold Zbb;split
  ·simp;omega
  ·exact b.s1
 ·unfold Zbb;split
  ·intro g hg
   rcases List.mem_append.1 hg with hg|hg
   ·exact b.n1 g hg
   ·simp at hg;subst hg
    have:=ZdV (n:=(Zu x.segs).num + 1) (next:=x.g.last + 1) (by omega) h1;simp only;unfold ZH;rw [ZK];omega
  ·exact b.n1
theorem ZqR {bw bs:Nat} {g:Sg} (i:Inv st) (hp:Zec R) (hn:g.num<100000000) (h1:ZjP R bw p) (h2:R.m bs=some (ZZ g)) (hw:Sat R (WX p d x s sg ds st Hs) w):
  Zq prog 101 #[.pointer (some ⟨bw,0,none⟩),.pointer (some ⟨bs,0,none⟩)] w λ v w'=>v=.int .i64 (ZA st (Za g.num)).2/\Sat R (WX p d x s sg ds (ZA st (Za g.num)).1 Hs) w':=by
 apply Zt8;refine Zs (Sat R [pts p (Zt d x.lim x.g.base s sg x.brk),VC.tru]) hw (λ w hw=>hw.k1) λ w hw=>?_;refine Zb.mk rfl ⟨_,h1.at Ze,Zb.mk rfl ⟨_,(by rw [Zf];exact At.own Ze (by exact ⟨rfl,trivial⟩)),Zb.mk rfl ⟨_,_,_,At.ro Ze h2 (by exact ⟨rfl,rfl,rfl,trivial⟩),?_⟩⟩⟩;refine (ZaR hp hn hw).use ?_;clear hw;rintro _ w ⟨rfl,hw⟩;refine ⟨_,rfl,hw.k1,?_⟩;have hw:Sat R (Zl d st::pts p (Zt d x.lim x.g.base s sg x.brk)::ZL s ds::ZbE sg x.segs::Hs) w:=hw.arr;refine (Zei i hw).use ?_;clear hw;rintro _ w ⟨rfl,hw⟩;exact ⟨_,rfl,hw.k1,rfl,hw.arr⟩
theorem ZqQ {bw bs:Nat} {g:Sg} (b:WB x) (hd:erE ds=x.g.l) (i:Inv st) (hp:Zec R) (hn:g.num + 1<=99999999) (hl1:x.g.last + 1<=1099511627777) (h1:ZjP R bw p) (h2:R.m bs=some (ZZ g)) (hw:Sat R (WX p d x s sg ds st Hs) w):
  Zq prog 102 #[.pointer (some ⟨bw,0,none⟩),.pointer (some ⟨bs,0,none⟩)] w λ v w'=>∃ e,v=.int .i64 e/\Zk0 R Hs p d x.lim x.g.base s x.brk ds (ZcU x.segs (g.num + 1) (x.g.last + 1)) (Zae st (g.num + 1) (x.g.last + 1)) e w':=by
 have hb0:=b.b0;have hs1:=b.s1;have hlb:x.g.base<=x.g.last:=x.g.base_le;apply Zt7;refine Zs (Sat R [VC.tru]) hw (λ w hw=>Sat.toTru (As:=[]) hw) λ w hw=>?_;refine Zb.mk rfl ⟨_,h1.at Ze,Zb.mk rfl ⟨_,(by rw [Zf];exact At.ro Ze h2 (by exact ⟨rfl,trivial⟩)),Zb.mk rfl ⟨_,h1.at Ze,Zb.mk rfl ?_⟩⟩⟩;refine (Zdu b hd hw).use ?_;clear hw;rintro _ w ⟨rfl,hw⟩;refine ⟨_,rfl,Sat.toTru (As:=[]) hw,?_⟩;have w1:IntKind.i64.wrap ((g.num:Int) + 1)=((g.num + 1:Nat):Int):=by rw [Zg (by omega) (by omega)];omega
 rw [w1,Zg (by omega) (by omega)];refine (ZkD (n:=g.num + 1) (next:=x.g.last + 1) i hp hn (by omega) hl1 (by omega) hw).use ?_;rintro _ w ⟨e,rfl,h⟩;have h':=h;obtain ⟨R2,sg2,e2,_,hw⟩:=h';exact ⟨_,rfl,e2.back (Sat.toTru (As:=[]) hw),e,rfl,h⟩
def OpQ (R:Cx) (Hs:List HP) (p d:Nat) (r:(DS × Int) × WSt) (v:Value) (w:World):Prop:=∃ R',R.Ext R'/\v=.int .i64 r.1.2/\WMem R' p d r.2 r.1.1 Hs w
theorem ZqO (b:WB x) (i:Inv st) (hp:Zec R) (hd:DsR R ds) (he:erE ds=x.g.l) {e:DE4} (hok:e.2.Ok) (hes:SlR R.m e.1 (b8 e.2.dt)) (hby:∀ y∈e.2.dt,0<=y/\y<256) (hix:e.2.ix=x.g.last + 1) (hn:(Zu x.segs).num<=99999997) (hl1:x.g.l.length<150000000000) (hsl:x.segs.length<=800000) (hw:Sat R (WX p d x s sg ds st Hs) w):
  Zq prog 55 #[.pointer (some ⟨p,0,none⟩),ZsM e] w (OpQ R Hs p d (Zbx x st e.2)):=by
 have hix1:=hok.i1;have hb0:=b.b0;obtain ⟨t1,t2,t3⟩:=Zla b;apply Zvu
 suffices H:∀ K:Value->World->Prop,(∀ v w',OpQ R Hs p d (Zbx x st e.2) v w'->K v w')->B55 (some ⟨p,0,none⟩) e.2.ix e.2.tm e.2.kd e.1 K w from H _ λ _ _ h=>h
 intro K hK;refine Zd hw λ bw w hw=>?_;obtain ⟨R1,e1,b1,hw⟩:=Za3 hw;refine Zd hw λ bx w hw=>?_;have hw:Sat R1 (pts bx (.cells (ZaU e).toArray 55 (0,0))::WX p d x s sg ds st Hs) w:=hw;obtain ⟨R2,e2,bx2,hw⟩:=pts.leak hw;have e12:=e1.trans e2;have b1:=b1.ext e2;have hp2:=hp.ext e12;have hd2:=hd.ext e12;have hes2:=e12.slR hes;obtain ⟨x1,hx1⟩:∃ y:WSt,y={ x with segs:=Zbb x 0 }:=⟨_,rfl⟩;refine ⟨λ w=>(ZU x st).2=0/\∃ (R3:Cx) (sg:Sl),R2.Ext R3/\Sat R3 (WX p d x1 s sg ds (ZU x st).1 Hs) w,?_,?_⟩
 ·refine ⟨_,b1.at (eqS hw),(Zfp b hw).use ?_⟩
  clear hw;rintro _ w ⟨a,ha,rfl,hw⟩;refine ⟨_,rfl,Zb.mk rfl ?_⟩;have el:=Zfq b ha (S:=λ w'=>w'=w) hw (eqS hw);refine ⟨_,_,_,el.z (by exact ⟨rfl,rfl,rfl,trivial⟩),Zd hw λ bs w hw=>?_⟩;refine Zc hw (by kernel_rfl) rfl (by simp [Value.cells,Zn]) λ w hw=>?_;have hw:Sat R2 (pts bs (ZZ (Zu x.segs))::WX p d x s sg ds st Hs) w:=hw;obtain ⟨R3,e3,bs3,hw⟩:=pts.leak hw;have b1:=b1.ext e3;have hp3:=hp2.ext e3;refine Zv hw λ w hw=>?_;refine ⟨(Zu x.segs).size,At.ro Ze bs3 (by exact ⟨rfl,trivial⟩),_,b1.at Ze,Zb.mk rfl ⟨x.lim,At.own Ze (by exact ⟨rfl,trivial⟩),Br.d (λ h=>?_) (λ h=>?_)⟩⟩
  ·have hroll:x.lim<=(Zu x.segs).size:=h
   have er:ZU x st=Z3 (ZA st (Za (Zu x.segs).num)) λ st=>Zae st ((Zu x.segs).num + 1) (x.g.last + 1):=by unfold ZU;rw [if_pos hroll]
   refine Zd hw λ bt w hw=>?_;obtain ⟨R4,e4,bt4,hw⟩:=pts.leak hw;have b1:=b1.ext e4;have bs4:=e4.m _ _ bs3;have hp4:=hp3.ext e4;have e14:=(e12.trans e3).trans e4;have hro:Ro R4 ⟨some ⟨bt,0,none⟩,2,2⟩ [.func (.func 101) #[] #[.pointer (some ⟨bw,0,none⟩),.pointer (some ⟨bs,0,none⟩)],.func (.func 102) #[] #[.pointer (some ⟨bw,0,none⟩),.pointer (some ⟨bs,0,none⟩)]]:=
    ⟨rfl,by simp,λ _=>⟨bt,0,_,_,_,rfl,bt4,λ i v h=>by simpa using h⟩⟩
   have i2:=Za1 i (Za (Zu x.segs).num);refine (ZgP (Q:=λ n w=>n=(ZU x st).2/\∃ sg,Sat R4 (WS p d x.lim x.g.base s sg x.brk ds (Zbb x n) (ZU x st).1 Hs) w) hro (by simp) hw ?_).use ?_
   ·refine Zcm.mk (by kernel_rfl) ((ZqR (g:=Zu x.segs) i hp4 (by omega) b1 bs4 hw).use ?_)
    clear hw;rintro _ w ⟨rfl,hw⟩;refine ⟨_,rfl,?_⟩;by_cases h2:(ZA st (Za (Zu x.segs).num)).2=0
    case neg=>
     have er2:ZU x st=ZA st (Za (Zu x.segs).num):=by rw [er,Zx h2]
     refine .inl ⟨h2,by rw [er2],sg,?_⟩;rw [er2];unfold Zbb;rw [if_neg (λ h=>h2 h.2)];exact hw
    have er2:ZU x st=Zae (ZA st (Za (Zu x.segs).num)).1 ((Zu x.segs).num + 1) (x.g.last + 1):=by rw [er,ZB h2]
    refine .inr ⟨h2,⟨_,hw⟩,?_⟩;refine Zcm.mk (by kernel_rfl) ((ZqQ (g:=Zu x.segs) b he i2 hp4 (by omega) (by omega) b1 bs4 hw).use ?_);clear hw;rintro _ w ⟨n,rfl,R5,sg5,e5,rfl,hw⟩;have hw:=e5.back hw;rw [<-er2] at hw ⊢;have es:ZcU x.segs ((Zu x.segs).num + 1) (x.g.last + 1) (ZU x st).2=Zbb x (ZU x st).2:=by
     unfold ZcU Zbb;by_cases h3:(ZU x st).2=0
     ·rw [if_pos h3,if_pos ⟨hroll,h3⟩]
     ·rw [if_neg h3,if_neg (λ h=>h3 h.2)]
    rw [es] at hw;refine ⟨_,rfl,?_⟩;by_cases h3:(ZU x st).2=0
    case neg=>exact .inl ⟨h3,rfl,sg5,hw⟩
    refine .inr ⟨h3,⟨_,hw⟩,h3.symm,sg5,?_⟩;rw [h3] at hw;exact hw
   ·rintro _ w ⟨n,rfl,rfl,sg5,hw⟩
    refine ⟨_,rfl,Br.ne (λ h3=>?_) (λ h3=>?_)⟩
    ·have ea:Zbx x st e.2=(ZU x st,x):=by unfold Zbx;rw [if_pos h3]
     refine hK _ _ ⟨R4,e14,by rw [ea],s,ds,sg5,hd2.ext (e3.trans e4),by rw [ea];exact he,?_⟩;rw [ea];have es:Zbb x (ZU x st).2=x.segs:=by unfold Zbb;rw [if_neg (λ h=>h3 h.2)]
     rw [es] at hw;exact hw
    ·refine ⟨h3,R4,sg5,e3.trans e4,?_⟩
     rw [h3] at hw;rw [hx1];exact hw
  ·have hroll:¬ x.lim<=(Zu x.segs).size:=h
   have er:ZU x st=(st,0):=by unfold ZU;rw [if_neg hroll]
   have es:Zbb x 0=x.segs:=by unfold Zbb;rw [if_neg (λ h=>hroll h.1)]
   refine ⟨by rw [er],R3,sg,e3,?_⟩;rw [er,hx1];show Sat R3 (WS p d x.lim x.g.base s sg x.brk ds (Zbb x 0) st Hs) w;rw [es];exact hw
 clear hw;rintro _ w ⟨hr,R3,sg3,e3,hw⟩;have b1:=b1.ext e3;have bx3:=e3.m _ _ bx2;have hp3:=hp2.ext e3;have hd3:=hd2.ext e3;have hes3:=e3.slR hes2;have bb1:WB x1:=by rw [hx1];exact Zrb b hn (by omega) hsl
 have ir:Inv (ZU x st).1:=by
  unfold ZU;split
  ·refine Zdk (Za1 i _) λ st i=>?_
   exact Zdk (Z7 i _ _) λ st i=>Za1 i _
  ·exact i
 have ea:Zbx x st e.2=Zbq x1 (ZU x st).1 (ZP (Zc6 e.2)) ⟨x.g.base,x.g.l++[e.2]⟩:=by rw [hx1];unfold Zbx;rw [if_neg (λ h=>h hr)]
 have hel:=ZfJ hok;have hd1:=hok.d1;have hx1b:x1.g=x.g/\x1.brk=x.brk/\x1.lim=x.lim:=by rw [hx1];exact ⟨rfl,rfl,rfl⟩
 refine Zs (Sat R3 [VC.tru]) hw (λ w hw=>Sat.toTru (As:=[]) hw) λ w hw=>?_;refine ⟨_,b1.at Ze,e.1,At.ro Ze bx3 (by exact ⟨rfl,trivial⟩),e.2.ix,At.ro Ze bx3 (by exact ⟨rfl,trivial⟩),e.2.tm,At.ro Ze bx3 (by exact ⟨rfl,trivial⟩),e.2.kd,At.ro Ze bx3 (by exact ⟨rfl,trivial⟩),Zd hw λ b3 w hw=>⟨Sat.toTru (As:=[]) hw,?_⟩⟩;obtain ⟨hc3,hw⟩:=Sat.lend.1 hw;have hroD:=hes3.ro (by rw [List.length_map];omega);refine (Zck (t:=some e.2.dt) (sd:=e.1) (xs:=[1,e.2.ix,e.2.tm,e.2.kd]) (sl:=⟨some ⟨b3,0,none⟩,4,4⟩) (λ y hy=>by
  have:=hok.i0;have:=hok.t0;have:=hok.t1;have:=hok.k0;have:=hok.k1;simp at hy;omega) (by simp) (λ d h=>by cases h;exact ⟨hroD.add,hd1,hby⟩) (Zdo (by simp) rfl hc3) hw).use ?_
 clear hw;rintro _ w ⟨t,rfl,hw⟩;rw [ZmY] at hw;have hw:Sat R3 (Own t 5 (b8 (ZP (Zc6 e.2)))::WX p d x1 s sg3 ds (ZU x st).1 Hs) w:=((Sat.lend.2 ⟨hc3,hw⟩:Sat R3 (pts b3 _::Own t 5 (b8 (ZP (Zc6 e.2)))::WX p d x1 s sg3 ds (ZU x st).1 Hs) w)).drop;refine ⟨t,rfl,Sat.toTru (As:=[]) hw,?_⟩;obtain ⟨R4,e4,ht,hw⟩:=Own.leak hw;have b1:=b1.ext e4;have bx4:=e4.m _ _ bx3;have hp4:=hp3.ext e4;have hd4:=hd3.ext e4;have hes4:=e4.slR hes3;have e14:=(e12.trans e3).trans e4;have hrl:=ZK (Zc6 e.2);refine (ZfT bb1 ir hp4 (ht.ro (by rw [List.length_map];omega)) (by omega) hw).use ?_;clear hw;rintro _ w ⟨rfl,hw⟩;obtain ⟨q,hq⟩:∃ q,q=Zk (ZU x st).1 (Za (Zu x1.segs).num) (ZP (Zc6 e.2)):=⟨_,rfl⟩;rw [<-hq] at hw;refine ⟨_,rfl,e4.back (Sat.toTru (As:=[]) hw),?_⟩;rw [<-hq];refine Br.e (λ h=>?_) (λ h=>?_)
 ·rw [if_pos h] at hw
  have ea2:Zbx x st e.2=(q,{ x1 with segs:=Zbh x1.segs (ZP (Zc6 e.2)).length,g:=⟨x.g.base,x.g.l++[e.2]⟩ }):=by rw [ea];unfold Zbq;rw [<-hq,if_pos h]
  have hw:Sat R4 (WS p d x.lim x.g.base s sg3 x.brk ds (Zbh x1.segs (ZP (Zc6 e.2)).length) q.1 Hs) w:=by
   rw [<-hx1b.1,<-hx1b.2.1,<-hx1b.2.2];exact hw
  refine Zs (Sat R4 [pts p (Zt d x.lim x.g.base s sg3 x.brk),VC.tru]) hw (λ w hw=>hw.k1) λ w hw=>?_;refine ⟨_,b1.at Ze,_,b1.at Ze,Zb.mk rfl ⟨s,At.own Ze (by exact ⟨rfl,trivial⟩),e.2.ix,e.2.tm,e.2.kd,e.1,At.ro Ze bx4 (by exact ⟨rfl,rfl,rfl,rfl,trivial⟩),?_⟩⟩;refine (ZhO (e:=e) hes4 (by omega) hw).use ?_;clear hw;rintro _ w ⟨R5,t5,e5,rfl,ht5,hw⟩;refine ⟨_,_,_,t5,rfl,e5.back hw.k1,Zd hw λ b5 w hw=>⟨e5.back hw.k1,?_⟩⟩;have hw:Sat R5 (ZL s ds::pts b5 (.cells (ZaU (t5,e.2)).toArray 55 (0,0))::pts p (Zt d x.lim x.g.base s sg3 x.brk)::ZbE sg3 (Zbh x1.segs (ZP (Zc6 e.2)).length)::Zl d q.1::Hs) w:=hw.arr;have hdl2:ds.length=x.g.l.length:=by rw [<-he];simp
  refine Zc2 elE (s:=s) (rows:=ds.map ZaU) (x:=ZaU (t5,e.2)) hw rfl rfl (by rw [List.length_map];omega) (by rw [List.length_map];omega) λ s2 w hw=>?_;have hw:Sat R5 (pts p (Zt d x.lim x.g.base s sg3 x.brk)::ZL s2 (ds++[(t5,e.2)])::ZbE sg3 (Zbh x1.segs (ZP (Zc6 e.2)).length)::Zl d q.1::Hs) w:=by
   unfold ZL;rw [List.map_append];simp only [List.map_cons,List.map_nil];exact hw.arr
  refine ⟨e5.back hw.k1,Zb.mk rfl ?_⟩;refine Zc hw (by kernel_rfl) rfl (by simp [Value.cells,Zn]) λ w hw=>?_;refine hK _ _ ⟨R5,e14.trans e5,by rw [ea2],s2,ds++[(t5,e.2)],sg3,(hd4.ext e5).app (.one ht5),?_,?_⟩
  ·rw [ea2];simp only [erE,List.map_append,List.map_cons,List.map_nil];rw [show ds.map (·.2)=x.g.l from he]
  ·rw [ea2]
   show Sat R5 (WS p d x1.lim x.g.base s2 sg3 x1.brk (ds++[(t5,e.2)]) (Zbh x1.segs (ZP (Zc6 e.2)).length) q.1 Hs) w;rw [hx1b.2.1,hx1b.2.2];exact hw
 ·rw [if_neg h] at hw
  have ea2:Zbx x st e.2=(q,x1):=by rw [ea];unfold Zbq;rw [<-hq,if_neg h]
  refine hK _ _ ⟨R4,e14,by rw [ea2],s,ds,sg3,hd4,by rw [ea2,hx1b.1];exact he,?_⟩;rw [ea2];exact hw
end
section
open Go Go.VC Tryz
variable {R R':Cx} {Hs Rest:List HP} {w:World} {p d:Nat} {x:WSt} {s sg:Sl} {ds:List DE4} {st:DS}
structure WBk (x:WSt) (k:Nat):Prop where
 b0:0<=x.g.base
 b1:x.g.base<=1099511627776
 l1:x.g.l.length<=100000000000 + k
 s0:0<x.segs.length
 s1:x.segs.length<=40001 + k
 n1:∀ g∈x.segs,g.num<=1 + k/\0<=g.size/\g.size<=1000000000 + 100000 * k
theorem WBk.wb {k:Nat} (b:WBk x k) (hk:k<=800000):WB x:=by
 refine ⟨b.b0,b.b1,by have:=b.l1;omega,b.s0,by have:=b.s1;omega,λ g hg=>?_⟩;have:=b.n1 g hg;omega
theorem WBk.mono {k j:Nat} (b:WBk x k) (h:k<=j):WBk x j:=by
 refine ⟨b.b0,b.b1,by have:=b.l1;omega,b.s0,by have:=b.s1;omega,λ g hg=>?_⟩;have:=b.n1 g hg;omega
theorem Zlk {segs:List Sg} {z:Int} {g:Sg} (h:g∈ZaZ segs z):g∈segs\/∃ g0∈segs,g=⟨g0.num,g0.next,z⟩:=by
 unfold ZaZ at h;split at h
 ·rename_i s hs
  obtain ⟨hlt,rfl⟩:=List.getElem?_eq_some_iff.1 hs;rcases List.mem_or_eq_of_mem_set h with h|h
  ·exact .inl h
  ·exact .inr ⟨_,List.getElem_mem hlt,h⟩
 ·exact .inl h
theorem Zg4 (segs:List Sg) (z:Int):(ZaZ segs z).length=segs.length:=by
 unfold ZaZ;split
 ·simp
 ·rfl
theorem WBk.tail {k:Nat} (b:WBk x k):(Zu x.segs).num<=1 + k/\0<=(Zu x.segs).size/\(Zu x.segs).size<=1000000000 + 100000 * k:=by
 have h0:=b.s0;have:Zu x.segs=x.segs[x.segs.length - 1]'(by omega):=by
  unfold Zu;rw [List.getD_eq_getElem?_getD,List.getElem?_eq_getElem (by omega)];rfl
 rw [this];exact b.n1 _ (List.getElem_mem _)
theorem WBk.put {k n:Nat} (b:WBk x k) {st:DS} {bs:List Int} {g:Lg} (hb:bs.length<=90000) (hg:0<=g.base/\g.base<=1099511627776/\g.l.length<=100000000000 + n) (hn:k + 1<=n):WBk (Zbq x st bs g).2 n:=by
 have bn:=b.mono (show k<=n by omega);unfold Zbq;split
 ·refine ⟨hg.1,hg.2.1,hg.2.2,by simp only [Zbh,Zg4];exact b.s0,by simp only [Zbh,Zg4];exact bn.s1,λ y hy=>?_⟩
  have ht:=b.tail;rcases Zlk hy with hy|⟨g0,hg0,rfl⟩
  ·exact bn.n1 y hy
  ·have:=bn.n1 g0 hg0
   simp only;omega
 ·exact bn
theorem WBk.roll {k:Nat} (b:WBk x k) (hl:x.g.last<=1099511627776) (hk:k<=90000000):WBk { x with segs:=Zbb x 0 } (k + 1):=by
 have bn:=b.mono (show k<=k + 1 by omega);have ht:=b.tail;refine ⟨b.b0,b.b1,bn.l1,?_,?_,?_⟩
 ·unfold Zbb;split
  ·simp
  ·exact b.s0
 ·have:=b.s1
  unfold Zbb;split
  ·simp;omega
  ·simp only;omega
 ·unfold Zbb;split
  ·intro g hg
   rcases List.mem_append.1 hg with hg|hg
   ·exact bn.n1 g hg
   ·simp at hg;subst hg
    have:=ZdV (n:=(Zu x.segs).num + 1) (next:=x.g.last + 1) (by omega) (by omega);simp only;unfold ZH;rw [ZK];omega
  ·exact bn.n1
theorem WBk.add {k:Nat} (b:WBk x k) {st:DS} {e:Ey} (hok:e.Ok) (hix:e.ix=x.g.last + 1) (hk:k<=90000000):WBk (Zbx x st e).2 (k + 2):=by
 have hi:=hok.i1;have hel:=ZfJ hok;have hd:=hok.d1;unfold Zbx;split
 ·exact b.mono (by omega)
 ·have br:=b.roll (by omega) hk
  refine br.put (by rw [ZK];omega) ⟨b.b0,b.b1,?_⟩ (by omega);have:=b.l1;simp;omega
theorem Znc {e:Ey} (i:Inv st):Inv (Zbx x st e).1.1:=by
 have ir:Inv (ZU x st).1:=by
  unfold ZU;split
  ·refine Zdk (Za1 i _) λ st i=>?_
   exact Zdk (Z7 i _ _) λ st i=>Za1 i _
  ·exact i
 unfold Zbx;split
 ·exact ir
 ·unfold Zbq
  split<;>exact Z7 ir _ _
theorem Zme {e:Ey} (h:(Zbx x st e).1.2=0):(Zbx x st e).2.g=⟨x.g.base,x.g.l++[e]⟩:=by
 unfold Zbx at h ⊢;split
 ·rename_i h2;rw [if_pos h2] at h;exact absurd h h2
 ·rename_i h2
  rw [if_neg h2] at h;unfold Zbq at h ⊢;split
  ·rfl
  ·rename_i h3;rw [if_neg h3] at h;exact absurd h h3
theorem ZjL {e:Ey}:(Zbx x st e).2.brk=x.brk/\(Zbx x st e).2.lim=x.lim:=by
 unfold Zbx;split
 ·exact ⟨rfl,rfl⟩
 ·unfold Zbq;split<;>exact ⟨rfl,rfl⟩
theorem ZkZ:∀ (x:WSt) (st:DS) (l:List Ey),(ZdG x st l).2.brk=x.brk
 |_,_,[]=>rfl
 |x,st,e::l=>by
  unfold ZdG;split
  ·exact ZjL.1
  ·rw [ZkZ];exact ZjL.1
theorem Zex {f:Value} {r:(DS × Int) × WSt} (hr:r.2.brk=x.brk) (hw:Sat R (WX p d x s sg ds st Hs) w) (hd:DsR R ds) (he:erE ds=x.g.l) (hf:x.brk=false->Zcm prog cl f [] w (λ e w'=>∃ v,e=.returned v/\OpQ R Hs p d r v w')):
  Zq prog 53 #[.pointer (some ⟨p,0,none⟩),f] w (OpQ R Hs p d (if x.brk then ((st,8),x) else ZbS r)):=by
 apply Zvw;refine Zb.mk rfl ⟨x.brk,At.own (eqS hw) (by exact ⟨rfl,trivial⟩),Br.mk (λ h=>?_) (λ h=>?_)⟩
 ·rw [if_pos h]
  exact ⟨R,.refl,rfl,s,ds,sg,hd,he,hw⟩
 ·rw [if_neg (by simp [h])]
  refine Zcm.mono (hf h) ?_;rintro _ w' ⟨v,rfl,R1,e1,rfl,s1,ds1,sg1,hd1,he1,hw1⟩;refine ⟨_,rfl,Zb.mk rfl ?_⟩;clear hw;have hw:=hw1;refine Zc hw (by kernel_rfl) rfl (by simp [Value.cells,Zn]) λ w hw=>?_;refine ⟨R1,e1,rfl,s1,ds1,sg1,hd1,he1,?_⟩;have hw:Sat R1 (WS p d r.2.lim r.2.g.base s1 sg1 (r.1.2 !=0) ds1 r.2.segs r.1.1 Hs) w:=hw;exact hw
theorem Zlb {bw:Nat} (b:WB x) (i:Inv st) (hp:Zec R) (hd:DsR R ds) (he:erE ds=x.g.l) (h1:ZjP R bw p) (hw:Sat R (WX p d x s sg ds st Hs) w):
  Zq prog 60 #[.pointer (some ⟨bw,0,none⟩)] w (OpQ R Hs p d (ZA st (Za (Zu x.segs).num),x)):=by
 obtain ⟨t1,t2,t3⟩:=Zla b;apply Zvp;refine Zs (Sat R [pts p (Zt d x.lim x.g.base s sg x.brk),ZbE sg x.segs,VC.tru]) hw (λ w hw=>hw.k2) λ w hw=>?_;refine Zb.mk rfl ⟨_,h1.at Ze,Zb.mk rfl ⟨_,(by rw [Zf];exact At.own Ze (by exact ⟨rfl,trivial⟩)),Zb.mk rfl ⟨_,h1.at Ze,?_⟩⟩⟩;refine (Zfp b hw).use ?_;clear hw;rintro _ w ⟨a,ha,rfl,hw⟩;refine ⟨_,rfl,hw.k2,Zb.mk rfl ?_⟩;have el:=Zfq b ha (S:=Sat R [pts p (Zt d x.lim x.g.base s sg x.brk),ZbE sg x.segs,VC.tru]) (hw.k2:Sat R [pts p (Zt d x.lim x.g.base s sg x.brk),ZbE sg x.segs,VC.tru] w) Ze;refine ⟨_,_,_,el.z (by exact ⟨rfl,rfl,rfl,trivial⟩),?_⟩;refine (ZaR hp (by omega) hw).use ?_;clear hw;rintro _ w ⟨rfl,hw⟩;refine ⟨_,rfl,hw.k2,?_⟩;have hw:Sat R (Zl d st::pts p (Zt d x.lim x.g.base s sg x.brk)::ZL s ds::ZbE sg x.segs::Hs) w:=hw.arr;refine (Zei (k:=Za (Zu x.segs).num) i hw).use ?_;clear hw;rintro _ w ⟨rfl,hw⟩;have hw:Sat R (WX p d x s sg ds (ZA st (Za (Zu x.segs).num)).1 Hs) w:=hw.arr;exact ⟨_,rfl,hw.k2,R,.refl,rfl,s,ds,sg,hd,he,hw⟩
theorem Znq (b:WB x) (i:Inv st) (hp:Zec R) (hd:DsR R ds) (he:erE ds=x.g.l) (hw:Sat R (WX p d x s sg ds st Hs) w):
  Zq prog 23 #[.pointer (some ⟨p,0,none⟩)] w (OpQ R Hs p d (ZgZ x st)):=by
 apply ZvZ;refine Zd hw λ bw w hw=>?_;obtain ⟨R1,e1,b1,hw⟩:=Za3 hw;refine ⟨_,b1.at (eqS hw),?_⟩;refine (Zex (r:=(ZA st (Za (Zu x.segs).num),x)) rfl hw (hd.ext e1) he λ _=>Zcm.mk (by kernel_rfl) (Zlb b i (hp.ext e1) (hd.ext e1) he b1 hw)).use ?_;rintro _ w ⟨R2,e2,rfl,h⟩;exact ⟨_,rfl,R2,e1.trans e2,rfl,h⟩
theorem Zoo {bw bf:Nat} {from':Int} (b:WB x) (i:Inv st) (hp:Zec R) (hd:DsR R ds) (he:erE ds=x.g.l) (h1:ZjP R bw p) (h2:ZjT R bf (.int .i64 from')) (hf1:x.g.base<from') (hf2:from'<=x.g.last) (hf3:from'<=1099511627777) (hw:Sat R (WX p d x s sg ds st Hs) w):
  Zq prog 62 #[.pointer (some ⟨bw,0,none⟩),.pointer (some ⟨bf,0,none⟩)] w (OpQ R Hs p d (Zbq x st (ZP (Zc8 from')) ⟨x.g.base,x.g.l.take (from' - 1 - x.g.base).toNat⟩)):=by
 have hb0:=b.b0;have hb1:=b.b1;have hl1:=b.l1;have hlast:=ZlL he;have hdl2:ds.length=x.g.l.length:=by rw [<-he];simp
 apply Zvn;refine Zs (Sat R [VC.tru]) hw (λ w hw=>Sat.toTru (As:=[]) hw) λ w hw=>?_;refine Zb.mk rfl ⟨_,h1.at Ze,Zb.mk rfl ⟨from',h2.at Ze,Zd hw λ b3 w hw=>⟨Sat.toTru (As:=[]) hw,?_⟩⟩⟩
 obtain ⟨hc3,hw⟩:=Sat.lend.1 hw;refine (Zck (t:=none) (sd:=⟨none,0,0⟩) (xs:=[2,from']) (sl:=⟨some ⟨b3,0,none⟩,2,2⟩) (λ y hy=>by simp at hy;omega) (by simp) (λ d h=>by cases h) (Zdo (by simp) rfl hc3) hw).use ?_
 clear hw;rintro _ w ⟨t,rfl,hw⟩;rw [ZmZ] at hw;have hw:Sat R (Own t 5 (b8 (ZP (Zc8 from')))::WX p d x s sg ds st Hs) w:=((Sat.lend.2 ⟨hc3,hw⟩:Sat R (pts b3 _::Own t 5 (b8 (ZP (Zc8 from')))::WX p d x s sg ds st Hs) w)).drop
 refine ⟨t,rfl,Sat.toTru (As:=[]) hw,?_⟩;obtain ⟨R4,e4,ht,hw⟩:=Own.leak hw;have b1:=h1.ext e4;have b2:=h2.ext e4;have hp4:=hp.ext e4;have hd4:=hd.ext e4;have hcl:=Zm6 (i:=from') hf3
 have hrl:=ZK (Zc8 from')
 refine (ZfT b i hp4 (ht.ro (by rw [List.length_map];omega)) (by omega) hw).use ?_;clear hw;rintro _ w ⟨rfl,hw⟩;obtain ⟨q,hq⟩:∃ q,q=Zk st (Za (Zu x.segs).num) (ZP (Zc8 from')):=⟨_,rfl⟩
 rw [<-hq] at hw;refine ⟨_,rfl,e4.back (Sat.toTru (As:=[]) hw),?_⟩;rw [<-hq];have ep:∀ g,Zbq x st (ZP (Zc8 from')) g=if q.2=0 then (q,{ x with segs:=Zbh x.segs (ZP (Zc8 from')).length,g:=g }) else (q,x):=λ g=>by unfold Zbq;rw [<-hq]
 rw [ep];refine Br.e (λ h=>?_) (λ h=>?_)
 ·rw [if_pos h] at hw ⊢
  have hw:Sat R4 (WS p d x.lim x.g.base s sg x.brk ds (Zbh x.segs (ZP (Zc8 from')).length) q.1 Hs) w:=hw
  have hsl:s.len=ds.length:=by
   have h2:Sat R4 (ZL s ds::pts p (Zt d x.lim x.g.base s sg x.brk)::ZbE sg (Zbh x.segs (ZP (Zc8 from')).length)::Zl d q.1::Hs) w:=hw.arr
   have:=ZM.len h2;simpa using this
  have hcap:s.len<=s.cap:=by
   have h2:Sat R4 (ZL s ds::pts p (Zt d x.lim x.g.base s sg x.brk)::ZbE sg (Zbh x.segs (ZP (Zc8 from')).length)::Zl d q.1::Hs) w:=hw.arr
   exact ZM.cap (by omega) h2
  have w1:IntKind.i64.wrap (IntKind.i64.wrap (from' - 1) - x.g.base)=from' - 1 - x.g.base:=by rw [Zg (x:=from' - 1) (by omega) (by omega),Zg (by omega) (by omega)]
  refine Zs (Sat R4 [pts p (Zt d x.lim x.g.base s sg x.brk),VC.tru]) hw (λ w hw=>hw.k1) λ w hw=>?_;refine Zb.mk rfl ⟨_,b1.at Ze,Zb.mk rfl ⟨_,b1.at Ze,Zb.mk rfl ⟨s,At.own Ze (by exact ⟨rfl,trivial⟩),Zb.mk rfl ⟨from',b2.at Ze,Zb.mk rfl ⟨_,b1.at Ze,Zb.mk rfl ⟨x.g.base,At.own Ze (by exact ⟨rfl,trivial⟩),?_⟩⟩⟩⟩⟩⟩
  rw [w1];refine ⟨by omega,by omega,?_⟩;have hwE:Sat R4 (ZL s ds::pts p (Zt d x.lim x.g.base s sg x.brk)::ZbE sg (Zbh x.segs (ZP (Zc8 from')).length)::Zl d q.1::Hs) w:=hw.arr
  obtain ⟨R5,hr,_,hw5,back⟩:=ZM.lend hwE;have hr2:=hr.take (h:=(from' - 1 - x.g.base).toNat) (by rw [List.length_map];omega) s.cap
  rw [<-List.map_take] at hr2;refine (ZiU hr2 (by rw [List.length_take];omega) hw5).use ?_;rintro _ w ⟨t2,rfl,hw5⟩;have hw:=back hw5;have hw:Sat R4 (pts p (Zt d x.lim x.g.base s sg x.brk)::ZL t2 (ds.take (from' - 1 - x.g.base).toNat)::ZL s ds::ZbE sg (Zbh x.segs (ZP (Zc8 from')).length)::Zl d q.1::Hs) w:=hw.arr
  refine ⟨t2,rfl,hw.k1,Zb.mk rfl ?_⟩;refine Zc hw (by kernel_rfl) rfl (by simp [Value.cells,Zn]) λ w hw=>?_;have hw:Sat R4 (pts p (Zt d x.lim x.g.base t2 sg x.brk)::ZL t2 (ds.take (from' - 1 - x.g.base).toNat)::ZL s ds::ZbE sg (Zbh x.segs (ZP (Zc8 from')).length)::Zl d q.1::Hs) w:=hw
  exact ⟨R4,e4,rfl,t2,_,sg,hd4.take _,by rw [<-he];simp [erE],hw.cons λ _ h=>h.cons λ _ h=>h.drop⟩
 ·rw [if_neg h] at hw ⊢
  exact ⟨R4,e4,rfl,s,ds,sg,hd4,he,hw⟩
theorem Zql (b:WB x) (from':Int) (hlx:x.g.last<=1099511627776) (i:Inv st) (hp:Zec R) (hd:DsR R ds) (he:erE ds=x.g.l) (hw:Sat R (WX p d x s sg ds st Hs) w):
  Zq prog 26 #[.pointer (some ⟨p,0,none⟩),.int .i64 from'] w (OpQ R Hs p d (ZgM x st from')):=by
 have hb0:=b.b0;have hlb:=x.g.base_le;apply ZvW;refine Zd hw λ bw w hw=>?_;obtain ⟨R1,e1,b1,hw⟩:=Za3 hw;refine Zd hw λ bf w hw=>?_;obtain ⟨R2,e2,b2,hw⟩:=Za3 hw;have b1:=b1.ext e2;have e12:=e1.trans e2;have hp2:=hp.ext e12;have hd2:=hd.ext e12;have out:∀ {n:Int} {w:World},ZgM x st from'=((st,n),x)->Sat R2 (WX p d x s sg ds st Hs) w->OpQ R Hs p d (ZgM x st from') (.int .i64 n) w:=λ {n w} h hw=>by
  rw [h];exact ⟨R2,e12,rfl,s,ds,sg,hd2,he,hw⟩
 refine ⟨_,b1.at (eqS hw),Zb.mk rfl ⟨x.brk,At.own (eqS hw) (by exact ⟨rfl,trivial⟩),Br.mk (λ h=>out (by unfold ZgM;rw [if_pos h]) hw) (λ h=>?_)⟩⟩;have hnb:¬ x.brk=true:=by simp [h]
 refine Zv hw λ w hw=>?_;refine ⟨from',b2.at Ze,_,b1.at Ze,Zb.mk rfl ⟨_,At.own Ze (by exact ⟨rfl,trivial⟩),Br.d (λ h2=>out (by unfold ZgM;rw [if_neg hnb,if_pos (.inl h2)]) hw) (λ h2=>?_)⟩⟩
 refine ⟨from',b2.at Ze,_,b1.at Ze,Zb.mk rfl ((Zdu b he hw).use ?_)⟩
 clear hw;rintro _ w ⟨rfl,hw⟩;refine ⟨_,rfl,hw,?_⟩;rw [Zg (by omega) (by omega)];refine Br.d (λ h3=>out (by unfold ZgM;rw [if_neg hnb,if_pos (.inr h3)]) hw) (λ h3=>?_);refine Zv hw λ w hw=>?_;refine ⟨from',b2.at Ze,_,b1.at Ze,Zb.mk rfl ((Zdu b he hw).use ?_)⟩
 clear hw;rintro _ w ⟨rfl,hw⟩;refine ⟨_,rfl,hw,?_⟩;rw [Zg (by omega) (by omega)];refine Br.e (λ h4=>out (by unfold ZgM;rw [if_neg hnb,if_neg (λ h=>h.elim h2 h3),if_pos h4]) hw) (λ h4=>?_);refine ⟨_,b1.at (eqS hw),?_⟩;obtain ⟨r,hr⟩:∃ r,r=Zbq x st (ZP (Zc8 from')) ⟨x.g.base,x.g.l.take (from' - 1 - x.g.base).toNat⟩:=⟨_,rfl⟩
 have ec:ZgM x st from'=if x.brk then ((st,8),x) else ZbS r:=by rw [hr];unfold ZgM;rw [if_neg hnb,if_neg (λ h=>h.elim h2 h3),if_neg h4,if_neg hnb]
 rw [ec];refine (Zex (r:=r) (by rw [hr];unfold Zbq;split<;>rfl) hw hd2 he λ _=>Zcm.mk (by kernel_rfl) (by rw [hr];exact Zoo b i hp2 hd2 he b1 b2 (by omega) (by omega) (by omega) hw)).use ?_;rintro _ w ⟨R3,e3,rfl,h⟩;exact ⟨_,rfl,R3,e12.trans e3,rfl,h⟩
theorem Zj9 {bw bf:Nat} {next:Int} (b:WB x) (i:Inv st) (hp:Zec R) (hd:DsR R ds) (he:erE ds=x.g.l) (h1:ZjP R bw p) (h2:ZjT R bf (.int .i64 next)) (hf1:1<=next) (hf2:next<=1099511627776) (hw:Sat R (WX p d x s sg ds st Hs) w):
  Zq prog 66 #[.pointer (some ⟨bw,0,none⟩),.pointer (some ⟨bf,0,none⟩)] w (OpQ R Hs p d (Zbq x st (ZP (Zd8 next)) ⟨next - 1,[]⟩)):=by
 apply Zvj;refine Zs (Sat R [VC.tru]) hw (λ w hw=>Sat.toTru (As:=[]) hw) λ w hw=>?_;refine Zb.mk rfl ⟨_,h1.at Ze,Zb.mk rfl ⟨next,h2.at Ze,Zd hw λ b3 w hw=>⟨Sat.toTru (As:=[]) hw,?_⟩⟩⟩;obtain ⟨hc3,hw⟩:=Sat.lend.1 hw;refine (Zck (t:=none) (sd:=⟨none,0,0⟩) (xs:=[3,next]) (sl:=⟨some ⟨b3,0,none⟩,2,2⟩) (λ y hy=>by simp at hy;omega) (by simp) (λ d h=>by cases h) (Zdo (by simp) rfl hc3) hw).use ?_;clear hw;rintro _ w ⟨t,rfl,hw⟩;rw [ZmX] at hw;have hw:Sat R (Own t 5 (b8 (ZP (Zd8 next)))::WX p d x s sg ds st Hs) w:=((Sat.lend.2 ⟨hc3,hw⟩:Sat R (pts b3 _::Own t 5 (b8 (ZP (Zd8 next)))::WX p d x s sg ds st Hs) w)).drop;refine ⟨t,rfl,Sat.toTru (As:=[]) hw,?_⟩;obtain ⟨R4,e4,ht,hw⟩:=Own.leak hw;have b1:=h1.ext e4;have b2:=h2.ext e4;have hcl:=ZmE (i:=next) (by omega);have hrl:=ZK (Zd8 next);refine (ZfT b i (hp.ext e4) (ht.ro (by rw [List.length_map];omega)) (by omega) hw).use ?_;clear hw;rintro _ w ⟨rfl,hw⟩;obtain ⟨q,hq⟩:∃ q,q=Zk st (Za (Zu x.segs).num) (ZP (Zd8 next)):=⟨_,rfl⟩;rw [<-hq] at hw;refine ⟨_,rfl,e4.back (Sat.toTru (As:=[]) hw),?_⟩;rw [<-hq];have ep:∀ g,Zbq x st (ZP (Zd8 next)) g=if q.2=0 then (q,{ x with segs:=Zbh x.segs (ZP (Zd8 next)).length,g:=g }) else (q,x):=λ g=>by unfold Zbq;rw [<-hq]
 rw [ep];refine Br.e (λ h=>?_) (λ h=>?_)
 ·rw [if_pos h] at hw ⊢
  have hw:Sat R4 (WS p d x.lim x.g.base s sg x.brk ds (Zbh x.segs (ZP (Zd8 next)).length) q.1 Hs) w:=hw;refine Zb.mk rfl ⟨_,b1.at (eqS hw),Zb.mk rfl ⟨next,b2.at (eqS hw),Zb.mk rfl ?_⟩⟩;rw [Zg (by omega) (by omega)];refine Zc hw (by kernel_rfl) rfl (by simp [Value.cells,Zn]) λ w hw=>?_;have hw:Sat R4 (pts p (Zt d x.lim (next - 1) ⟨none,0,0⟩ sg x.brk)::ZL s ds::ZbE sg (Zbh x.segs (ZP (Zd8 next)).length)::Zl d q.1::Hs) w:=hw;exact ⟨R4,e4,rfl,⟨none,0,0⟩,[],sg,.nil,rfl,hw.cons λ _ h=>ZM.nil h.drop⟩
 ·rw [if_neg h] at hw ⊢
  exact ⟨R4,e4,rfl,s,ds,sg,hd.ext e4,he,hw⟩
theorem Zlr (b:WB x) (next:Int) (i:Inv st) (hp:Zec R) (hd:DsR R ds) (he:erE ds=x.g.l) (hw:Sat R (WX p d x s sg ds st Hs) w):
  Zq prog 27 #[.pointer (some ⟨p,0,none⟩),.int .i64 next] w (OpQ R Hs p d (Zbn x st next)):=by
 apply ZvV;refine Zd hw λ bw w hw=>?_;obtain ⟨R1,e1,b1,hw⟩:=Za3 hw;refine Zd hw λ bf w hw=>?_;obtain ⟨R2,e2,b2,hw⟩:=Za3 hw;have b1:=b1.ext e2;have e12:=e1.trans e2;have hp2:=hp.ext e12;have hd2:=hd.ext e12;have out:∀ {n:Int} {w:World},Zbn x st next=((st,n),x)->Sat R2 (WX p d x s sg ds st Hs) w->OpQ R Hs p d (Zbn x st next) (.int .i64 n) w:=λ {n w} h hw=>by
  rw [h];exact ⟨R2,e12,rfl,s,ds,sg,hd2,he,hw⟩
 refine ⟨_,b1.at (eqS hw),Zb.mk rfl ⟨x.brk,At.own (eqS hw) (by exact ⟨rfl,trivial⟩),Br.mk (λ h=>out (by unfold Zbn;rw [if_pos h]) hw) (λ h=>?_)⟩⟩;have hnb:¬ x.brk=true:=by simp [h]
 refine ⟨next,b2.at (eqS hw),Br.d (λ h2=>out (by unfold Zbn;rw [if_neg hnb,if_pos (.inl h2)]) hw) (λ h2=>?_)⟩;refine ⟨next,b2.at (eqS hw),Br.d (λ h3=>out (by unfold Zbn;rw [if_neg hnb,if_pos (.inr h3)]) hw) (λ h3=>?_)⟩;refine ⟨_,b1.at (eqS hw),?_⟩;obtain ⟨r,hr⟩:∃ r,r=Zbq x st (ZP (Zd8 next)) ⟨next - 1,[]⟩:=⟨_,rfl⟩;have ec:Zbn x st next=if x.brk then ((st,8),x) else ZbS r:=by rw [hr];unfold Zbn;rw [if_neg hnb,if_neg (λ h=>h.elim h2 h3),if_neg hnb]
 rw [ec];refine (Zex (r:=r) (by rw [hr];unfold Zbq;split<;>rfl) hw hd2 he λ _=>Zcm.mk (by kernel_rfl) (by rw [hr];exact Zj9 b i hp2 hd2 he b1 b2 (by omega) (by omega) hw)).use ?_;rintro _ w ⟨R3,e3,rfl,h⟩;exact ⟨_,rfl,R3,e12.trans e3,rfl,h⟩
end
section
open Go Go.VC Tryz
variable {R R':Cx} {Hs Rest:List HP} {w:World} {p d:Nat} {x:WSt} {s sg:Sl} {ds:List DE4} {st:DS}
theorem DsR.len {dl:List DE4} (h:DsR R dl) {e:DE4} (he:e∈dl):e.1.len=e.2.dt.length:=by have:=(h e he).len;simpa using this
theorem Zpy {e:DE4} (hs:e.1.len=e.2.dt.length) (hw:Sat R Hs w):Zq prog 49 #[ZsM e] w λ v w'=>v=.bool (!decide e.2.Ok)/\Sat R Hs w':=by
  apply ZvA;refine Zd hw λ b w hw=>?_;have hw:Sat R (pts b (.cells (ZaU e).toArray 55 (0,0))::Hs) w:=hw;refine ⟨_,_,_,e.1,At.own (eqS hw) (by exact ⟨rfl,rfl,rfl,rfl,trivial⟩),?_⟩;refine (Zlq hs hw).use ?_;clear hw;rintro _ w ⟨rfl,hw⟩;exact ⟨_,rfl,rfl,hw.drop⟩
open Classical in
theorem Zow {sl:Sl} {dl:List DE4} (hr:RoN 4 R sl (dl.map ZaU)) (hd:DsR R dl) (hl:dl.length<=1000000) (hw:Sat R Hs w):
    Zq prog 51 #[.slice sl.a sl.len sl.cap,.func (.func 49) #[] #[]] w λ v w'=>v=.bool (decide (¬ ∀ e∈erE dl,e.Ok))/\Sat R Hs w':=by
  have hsl:sl.len=dl.length:=by have:=hr.len;simpa using this
  apply Zvy;have h1:Zq prog 100 #[.slice sl.a sl.len sl.cap,.func (.func 49) #[] #[]] w λ v w'=>(∃ n:Int,v=.int .i64 n/\(0<=n↔¬ ∀ e∈erE dl,e.Ok))/\Sat R Hs w':=by
    apply Zt9;refine ⟨λ i w=>∃ k:Nat,i=k/\k<=dl.length/\(∀ e∈dl.take k,e.2.Ok)/\Sat R Hs w,λ i _=>dl.length - i.toNat,⟨0,rfl,by omega,by simp,hw⟩,?_⟩;clear hw;rintro _ _ w ⟨k,rfl,hk,hok,hw⟩;refine Br.d (λ h2=>?_) (λ h2=>?_)
    · have hk':k<dl.length:=by omega
      refine (hr.reads (S:=λ w'=>w'=w) (eqS hw)).rngM hk' λ a _ el=>⟨_,_,_,dl[k].1,el.z (by exact ⟨rfl,rfl,rfl,rfl,trivial⟩),?_⟩;refine Zcm.mk (by kernel_rfl) ((Zpy (e:=dl[k]) (hd.len (List.getElem_mem _)) hw).use ?_);clear hw;rintro _ w ⟨rfl,hw⟩;refine ⟨_,rfl,Br.nd (λ h3=>?_) (λ h3=>?_)⟩
      · refine ⟨⟨_,rfl,λ _=>λ hall=>h3 (hall dl[k].2 (List.mem_map_of_mem (f:=λ e:DE4=>e.2) (List.getElem_mem (h:=hk')))),λ _=>by omega⟩,hw⟩
      · refine ⟨⟨k + 1,by rw [Zg (by omega) (by omega)];omega,by omega,λ e he=>?_,hw⟩,by dsimp only;rw [Zg (by omega) (by omega)];omega⟩
        rw [List.take_add_one,List.getElem?_eq_getElem hk'] at he;rcases List.mem_append.1 he with he|he
        · exact hok e he
        · simp at he;rw [he];exact h3
    · have:k=dl.length:=by omega
      rw [this,List.take_length] at hok;refine ⟨⟨_,rfl,λ h=>by omega,λ h=>?_⟩,hw⟩;exact absurd (λ e he=>by obtain ⟨y,hy,rfl⟩:=List.mem_map.1 he;exact hok y hy) h
  refine h1.use ?_;rintro _ w ⟨⟨n,rfl,hn⟩,hw⟩;refine ⟨n,rfl,?_,hw⟩
  congr 1
  rw [Bool.eq_iff_iff,decide_eq_true_eq,decide_eq_true_eq,<-hn]
theorem Zi0 {l:List Ey} {j:Nat} (hj:j<l.length):ZdG x st (l.drop j)=if (Zbx x st l[j]).1.2≠0 then Zbx x st l[j] else ZdG (Zbx x st l[j]).2 (Zbx x st l[j]).1.1 (l.drop (j + 1)):=by
  rw [ZaQ hj];rfl
theorem ZqM {bl bw k:Nat} {sl:Sl} {dl:List DE4} (b:WBk x k) (hk:k + 2 * dl.length<=700000) (i:Inv st) (hp:Zec R) (hd:DsR R ds) (he:erE ds=x.g.l) (h1:ZjT R bl (.slice sl.a sl.len sl.cap)) (h2:ZjP R bw p)
    (hr:RoN 4 R sl (dl.map ZaU)) (hdl:DsR R dl) (hby:∀ e∈erE dl,∀ y∈e.dt,0<=y/\y<256) (hok:∀ e∈erE dl,e.Ok) (hfo:ZhX (x.g.last + 1) (erE dl)) (hw:Sat R (WX p d x s sg ds st Hs) w):
    Zq prog 54 #[.pointer (some ⟨bl,0,none⟩),.pointer (some ⟨bw,0,none⟩)] w (OpQ R Hs p d (ZdG x st (erE dl))):=by
  have hsl:sl.len=dl.length:=by have:=hr.len;simpa using this
  apply Zvv;refine Zb.mk rfl ⟨sl,h1.at (eqS hw),?_⟩;refine ⟨λ i w=>∃ (j:Nat) (R2:Cx) (x':WSt) (st':DS) (s:Sl) (ds:List DE4) (sg:Sl),i=j/\j<=dl.length/\R.Ext R2/\ZdG x st (erE dl)=ZdG x' st' ((erE dl).drop j)/\WBk x' (k + 2 * j)/\x'.g.last=x.g.last + j/\x'.g.l.length=x.g.l.length + j/\Inv st'/\DsR R2 ds/\erE ds=x'.g.l/\Sat R2 (WX p d x' s sg ds st' Hs) w,λ i _=>dl.length - i.toNat,⟨0,R,x,st,s,ds,sg,rfl,by omega,.refl,rfl,b,by omega,by omega,i,hd,he,hw⟩,?_⟩;clear hw;rintro _ _ w ⟨j,R2,x',st',s,ds,sg,rfl,hj,e2,hadd,b',hlast,hlen,i',hd',he',hw⟩;have hel:(erE dl).length=dl.length:=by simp
  refine Br.d (λ h=>?_) (λ h=>?_)
  · have hj':j<dl.length:=by omega
    have hj2:j<(erE dl).length:=by omega
    have hx:(erE dl)[j]=dl[j].2:=by simp
    rw [Zi0 hj2] at hadd;have hmem:(erE dl)[j]∈erE dl:=List.getElem_mem _;have hokj:=hok _ hmem;have hixj:=hfo j hj2;have hbyj:=hby _ hmem;rw [hx] at hadd hokj hixj hbyj;obtain ⟨e,hee⟩:∃ e,e=dl[j]:=⟨_,rfl⟩;rw [<-hee] at hadd hokj hixj hbyj;have hes:SlR R.m e.1 (b8 e.2.dt):=by rw [hee];exact hdl _ (List.getElem_mem _)
    refine (e2.roN hr|>.reads (S:=λ w'=>w'=w) (eqS hw)).rngM hj' λ a _ el=>?_;rw [<-hee] at el;refine ⟨_,_,_,e.1,el.z (by exact ⟨rfl,rfl,rfl,rfl,trivial⟩),Zd hw λ b4 w hw=>?_⟩;refine Zc hw (by kernel_rfl) rfl (by simp [Value.cells,Zn]) λ w hw=>?_;have hw:Sat R2 (pts b4 (.cells (ZaU e).toArray 55 (0,0))::WX p d x' s sg ds st' Hs) w:=hw;refine Zb.mk rfl ⟨_,(h2.ext e2).at (eqS hw),e.2.ix,e.2.tm,e.2.kd,e.1,At.own (eqS hw) (by exact ⟨rfl,rfl,rfl,rfl,trivial⟩),?_⟩;have ht:=b'.tail;have hs1:=b'.s1;have hl1:=b'.l1;refine (ZqO (b'.wb (by omega)) i' (hp.ext e2) hd' he' hokj (e2.slR hes) hbyj (by omega) (by omega) (by omega) (by omega) hw.drop).use ?_;clear hw;rintro _ w ⟨R3,e3,rfl,s3,ds3,sg3,hd3,he3,hw⟩;obtain ⟨r,hrr⟩:∃ r,r=Zbx x' st' e.2:=⟨_,rfl⟩;rw [<-hrr] at hadd he3 hw ⊢;refine ⟨_,rfl,Br.ne (λ h3=>?_) (λ h3=>?_)⟩
    · rw [if_pos h3] at hadd
      exact ⟨R3,e2.trans e3,by rw [hadd],s3,ds3,sg3,hd3,by rw [hadd];exact he3,by rw [hadd];exact hw⟩
    · rw [if_neg (λ h=>h h3)] at hadd
      have hg:r.2.g=⟨x'.g.base,x'.g.l++[e.2]⟩:=by rw [hrr];exact Zme (by rw [<-hrr];exact h3)
      refine ⟨⟨j + 1,R3,r.2,r.1.1,s3,ds3,sg3,by rw [Zg (by omega) (by omega)];omega,by omega,e2.trans e3,hadd,?_,?_,?_,by rw [hrr];exact Znc i',hd3,he3,hw⟩,by dsimp only;rw [Zg (by omega) (by omega)];omega⟩
      · rw [hrr];exact (b'.add hokj (by omega) (by omega)).mono (by omega)
      · rw [hg];unfold Lg.last at hlast ⊢;simp only [List.length_append,List.length_cons,List.length_nil];omega
      · rw [hg];simp only [List.length_append,List.length_cons,List.length_nil];omega
  · have hjl:j=dl.length:=by omega
    rw [hjl,<-hel,List.drop_length] at hadd;have hadd:ZdG x st (erE dl)=((st',0),x'):=hadd;exact ⟨R2,e2,by rw [hadd],s,ds,sg,hd',by rw [hadd];exact he',by rw [hadd];exact hw⟩
theorem ZkX {k:Nat} {sl:Sl} {dl:List DE4} (b:WBk x k) (hk:k + 2 * dl.length<=700000) (i:Inv st) (hp:Zec R) (hd:DsR R ds) (he:erE ds=x.g.l)
    (hr:RoN 4 R sl (dl.map ZaU)) (hdl:DsR R dl) (hby:∀ e∈erE dl,∀ y∈e.dt,0<=y/\y<256) (hw:Sat R (WX p d x s sg ds st Hs) w):
    Zq prog 18 #[.pointer (some ⟨p,0,none⟩),.slice sl.a sl.len sl.cap] w (OpQ R Hs p d (ZaD x st (erE dl))):=by
  have hsl:sl.len=dl.length:=by have:=hr.len;simpa using this
  have bb:=b.wb (by omega);have hb0:=b.b0;have hb1:=b.b1;have hl1:=b.l1;have hlb:=x.g.base_le;have hlb2:x.g.last=x.g.base + x.g.l.length:=rfl;apply Zv4;refine Zd hw λ bw w hw=>?_;obtain ⟨R1,e1,b1,hw⟩:=Za3 hw;refine Zd hw λ bl w hw=>?_;obtain ⟨R2,e2,b2,hw⟩:=Za3 hw;have b1:=b1.ext e2;have e12:=e1.trans e2;have hp2:=hp.ext e12;have hd2:=hd.ext e12;have hr2:=e12.roN hr;have hdl2:=hdl.ext e12;have out:∀ {n:Int} {w:World},ZaD x st (erE dl)=((st,n),x)->Sat R2 (WX p d x s sg ds st Hs) w->OpQ R Hs p d (ZaD x st (erE dl)) (.int .i64 n) w:=λ {n w} h hw=>by
    rw [h];exact ⟨R2,e12,rfl,s,ds,sg,hd2,he,hw⟩
  refine ⟨_,b1.at (eqS hw),Zb.mk rfl ⟨x.brk,At.own (eqS hw) (by exact ⟨rfl,trivial⟩),Br.mk (λ h=>out (by unfold ZaD;rw [if_pos h]) hw) (λ h=>?_)⟩⟩;have hnb:¬ x.brk=true:=by simp [h]
  refine ⟨sl,b2.at (eqS hw),(Zow hr2 hdl2 (by omega) hw).use ?_⟩;clear hw;rintro _ w ⟨rfl,hw⟩;refine ⟨_,rfl,Br.d (λ h2=>out (by unfold ZaD;rw [if_neg hnb,if_pos h2]) hw) (λ h2=>?_)⟩;refine ⟨sl,b2.at (eqS hw),?_⟩;refine ⟨λ i w=>∃ j:Nat,i=j/\j<=dl.length/\(∀ (m:Nat) (h:m<(erE dl).length),m<j->(erE dl)[m].ix=x.g.last + 1 + m)/\Sat R2 (WX p d x s sg ds st Hs) w,λ i _=>dl.length - i.toNat,⟨0,rfl,by omega,λ m _ h=>by omega,hw⟩,?_⟩;clear hw;rintro _ _ w ⟨j,rfl,hj,hpre,hw⟩;have hel:(erE dl).length=dl.length:=by simp
  refine Br.d (λ h3=>?_) (λ h3=>?_)
  · have hj':j<dl.length:=by omega
    refine (hr2.reads (S:=λ w'=>w'=w) (eqS hw)).rngM hj' λ a _ el=>?_;refine ⟨_,_,_,dl[j].1,el.z (by exact ⟨rfl,rfl,rfl,rfl,trivial⟩),Zd hw λ b4 w hw=>?_⟩;refine Zc hw (by kernel_rfl) rfl (by simp [Value.cells,Zn]) λ w hw=>?_;have hw:Sat R2 (pts b4 (.cells (ZaU dl[j]).toArray 55 (0,0))::WX p d x s sg ds st Hs) w:=hw;refine Zv hw λ w hw=>?_;refine ⟨dl[j].2.ix,At.own Ze (by exact ⟨rfl,trivial⟩),_,b1.at Ze,Zb.mk rfl ?_⟩;have hw2:Sat R2 (WX p d x s sg ds st (pts b4 (.cells (ZaU dl[j]).toArray 55 (0,0))::Hs)) w:=hw.arr;refine (Zdu bb he hw2).use ?_;clear hw hw2;rintro _ w ⟨rfl,hw2⟩;have hw:Sat R2 (pts b4 (.cells (ZaU dl[j]).toArray 55 (0,0))::WX p d x s sg ds st Hs) w:=hw2.arr;refine ⟨_,rfl,hw,?_⟩;rw [Zg (x:=x.g.last + 1) (by omega) (by omega),Zg (x:=x.g.last + 1 + (j:Int)) (by omega) (by omega)];have hj2:j<(erE dl).length:=by omega
    refine Br.ne (λ h4=>out ?_ hw.drop) (λ h4=>⟨⟨j + 1,by rw [Zg (by omega) (by omega)];omega,by omega,λ m hm hmj=>?_,hw.drop⟩,by dsimp only;rw [Zg (by omega) (by omega)];omega⟩)
    · unfold ZaD
      rw [if_neg hnb,if_neg h2,if_pos];intro hf;have:=hf j hj2;simp at this;exact h4 (by omega)
    · by_cases hmj2:m<j
      · exact hpre m hm hmj2
      · have:m=j:=by omega
        subst this;simp;omega
  · have hjl:j=dl.length:=by omega
    have hf:ZhX (x.g.last + 1) (erE dl):=λ m hm=>hpre m hm (by omega);have hok:∀ e∈erE dl,e.Ok:=Classical.not_not.1 h2;refine ⟨_,b1.at (eqS hw),?_⟩;have ec:ZaD x st (erE dl)=if x.brk then ((st,8),x) else ZbS (ZdG x st (erE dl)):=by unfold ZaD;rw [if_neg hnb,if_neg h2,if_neg (λ h=>h hf),if_neg hnb]
    rw [ec];refine (Zex (r:=ZdG x st (erE dl)) (ZkZ _ _ _) hw hd2 he λ _=>Zcm.mk (by kernel_rfl) (ZqM b hk i hp2 hd2 he b2 b1 hr2 hdl2 hby hok hf hw)).use ?_;rintro _ w ⟨R3,e3,rfl,h⟩;exact ⟨_,rfl,R3,e12.trans e3,rfl,h⟩
def ZcV:Nat->WSt->DS->Int->(DS × Int) × WSt
  |0,x,st,_=>((st,0),x)
  |n + 1,x,st,before=>if 1<x.segs.length/\(x.segs.getD 1 ⟨0,0,0⟩).next<=before then
      (if (Zi st (Za (x.segs.getD 0 ⟨0,0,0⟩).num)).2≠0 then (Zi st (Za (x.segs.getD 0 ⟨0,0,0⟩).num),{ x with brk:=true })
       else ZcV n { x with g:=(Zj (Zi st (Za (x.segs.getD 0 ⟨0,0,0⟩).num)).1).g,segs:=(Zj (Zi st (Za (x.segs.getD 0 ⟨0,0,0⟩).num)).1).segs } (Zi st (Za (x.segs.getD 0 ⟨0,0,0⟩).num)).1 before)
    else ((st,0),x)
def Zdy (x:WSt) (st:DS) (before:Int):(DS × Int) × WSt:=
  if x.brk then ((st,8),x) else if before>x.g.last + 1 then ((st,7),x) else ZcV (st.fs.length + 1) x st before
theorem ZgX {st:DS} {k:ByteArray} (h:(Zi st k).2=0):(Zi st k).1.fs.length + 1<=st.fs.length:=by
  obtain ⟨h1,h2⟩:=Zc7 (st:=st) h;have e:Zi st k=ZX k (chg st (Zm k)).1:=h2;have hf:=(Zbp st (Zm k)).1;rw [e] at h ⊢;unfold ZX at h ⊢;split
  · rename_i hs
    simp only;rw [hf] at hs ⊢;obtain ⟨v,hv⟩:=Option.isSome_iff_exists.1 hs;obtain ⟨a,b,hab,ha⟩:=ZI hv;rw [hab,ZbM ha (Zbg _)];simp;omega
  · rename_i hs;rw [if_neg hs] at h;simp at h
theorem Zn5 {rd:Nat->List Int}:∀ {nums:List Nat} {prev:Option Nat} {g:Lg} {segs:List Sg},(∀ n∈nums,n<100000000)->(∀ s∈segs,s.num<100000000)->∀ s∈(Zaq rd prev g segs nums).segs,s.num<100000000:=λ {nums}=>by
  induction nums with
  |nil=>intro prev g segs _ hs;unfold Zaq;exact hs
  |cons n rest ih=>
    intro prev g segs hn hs;have hs2:∀ z:Int,∀ y:Int,∀ s∈segs++[⟨n,y,z⟩],s.num<100000000:=λ z y s h=>by
      rcases List.mem_append.1 h with h|h
      · exact hs s h
      · simp at h;subst h;exact hn n (List.mem_cons_self ..)
    by_cases h:nxt rd prev n=0\/(prev≠none/\nxt rd prev n≠g.last + 1)
    · rw [ZaO h];exact hs
    · rcases hr:Zfu (if prev=none then (⟨nxt rd prev n - 1,g.l⟩:Lg) else g) (ZH n (nxt rd prev n)).length (scan (rd n)).tail with ⟨g2,o⟩
      cases o with
      |some d=>rw [ZbB h rfl hr];exact hs2 _ _
      |none=>
        by_cases he:Zo (scan (rd n))=(rd n).length
        · rw [ZbA h rfl hr he]
          exact ih (λ m hm=>hn m (List.mem_cons_of_mem _ hm)) (hs2 _ _)
        · rw [Zci h rfl hr he];exact hs2 _ _
theorem Zn7 (st:DS):∀ g∈(Zj st).segs,g.num<100000000:=by
  refine Zn5 (rd:=λ n=>(ZC st (Za n)).1) (λ n hn=>?_) (λ _ h=>by cases h);unfold ZN at hn;rw [List.mem_filter] at hn;obtain ⟨k,_,rfl⟩:=List.mem_map.1 hn.1;exact ZdP
def ZiK (d:Nat) (w:World):Nat:=match (w.heap[d]? :Option Obj) with
  |some (Obj.cells l _ _)=>(match (l[2]? :Option Value) with
    |some (Value.map (some m))=>(match (w.heap[m]? :Option Obj) with|some (Obj.map es _)=>es.size|_=>0)
    |_=>0)
  |_=>0
theorem ZkL {d:Nat} {st:DS} (hw:Sat R (Zl d st::Hs) w):ZiK d w=st.fs.length:=by
  obtain ⟨m,E,hE,hw⟩:=Sat.disk.1 hw;have h1:=hw.at;obtain ⟨l,c,hs,_,hw2⟩:=Zaj.iff.1 hw.swap;have h2:=hw2.at;unfold ZiK;rw [h1];simp only [List.getElem?_toArray,List.getElem?_cons_succ,List.getElem?_cons_zero];rw [h2];have e1:=congrArg List.length hs;have e2:=congrArg List.length hE;simp only [Zd7,ZbQ,er,List.length_map] at e1 e2;simp;omega
theorem Zok (b:WB x) (before:Int) (i:Inv st) (hby:Zb9 st.fs) (hc:st.fs.length<=40000) (hp:Zec R) (hd:DsR R ds) (he:erE ds=x.g.l) (hw:Sat R (WX p d x s sg ds st Hs) w):
    Zq prog 19 #[.pointer (some ⟨p,0,none⟩),.int .i64 before] w (OpQ R Hs p d (Zdy x st before)):=by
  have hb0:=b.b0;have hb1:=b.b1;have hl1:=b.l1;have hlb:=x.g.base_le;have hlb2:x.g.last=x.g.base + x.g.l.length:=rfl;apply Zv3;have out:∀ {n:Int} {w:World},Zdy x st before=((st,n),x)->Sat R (WX p d x s sg ds st Hs) w->OpQ R Hs p d (Zdy x st before) (.int .i64 n) w:=λ {n w} h hw=>by
    rw [h];exact ⟨R,.refl,rfl,s,ds,sg,hd,he,hw⟩
  refine Zb.mk rfl ⟨x.brk,At.own (eqS hw) (by exact ⟨rfl,trivial⟩),Br.mk (λ h=>out (by unfold Zdy;rw [if_pos h]) hw) (λ h=>?_)⟩;have hnb:¬ x.brk=true:=by simp [h]
  refine Zb.mk rfl ((Zdu b he hw).use ?_);clear hw;rintro _ w ⟨rfl,hw⟩;refine ⟨_,rfl,?_⟩;rw [Zg (by omega) (by omega)];refine Br.d (λ h2=>out (by unfold Zdy;rw [if_neg hnb,if_pos h2]) hw) (λ h2=>?_);have ed:Zdy x st before=ZcV (st.fs.length + 1) x st before:=by unfold Zdy;rw [if_neg hnb,if_neg h2]
  rw [ed];clear out;refine ⟨λ w=>∃ (n:Nat) (R2:Cx) (x':WSt) (st':DS) (s:Sl) (ds:List DE4) (sg:Sl),R.Ext R2/\ZcV (st.fs.length + 1) x st before=ZcV n x' st' before/\st'.fs.length<n/\x'.brk=false/\Inv st'/\Zb9 st'.fs/\st'.fs.length<=40000/\DsR R2 ds/\erE ds=x'.g.l/\(∀ g∈x'.segs,g.num<100000000)/\x'.segs.length<=1000000/\Sat R2 (WX p d x' s sg ds st' Hs) w,λ w=>ZiK d w,
    ⟨st.fs.length + 1,R,x,st,s,ds,sg,.refl,rfl,by omega,h,i,hby,hc,hd,he,λ g hg=>by have:=b.n1 g hg;omega,by have:=b.s1;omega,hw⟩,?_⟩
  clear hw;rintro _ w ⟨n,R2,x',st',s,ds,sg,e2,hdr,hn,hbr,i',hby',hc',hd',he',hnum,hsl',hw⟩;have hmu:ZiK d w=st'.fs.length:=by
    have hw:Sat R2 (Zl d st'::pts p (Zt d x'.lim x'.g.base s sg x'.brk)::ZL s ds::ZbE sg x'.segs::Hs) w:=hw.arr;exact ZkL hw
  obtain ⟨n,rfl⟩:∃ m,n=m + 1:=⟨n - 1,by omega⟩;have hsgl:=(WX.slen hw).2;have stop:¬ (1<x'.segs.length/\(x'.segs.getD 1 ⟨0,0,0⟩).next<=before)->∀ {w},Sat R2 (WX p d x' s sg ds st' Hs) w->OpQ R Hs p d (ZcV (st.fs.length + 1) x st before) (.int .i64 0) w:=λ hcon {w} hw=>by
    have:ZcV (n + 1) x' st' before=((st',0),x'):=by unfold ZcV;rw [if_neg hcon]
    rw [hdr,this];exact ⟨R2,e2,rfl,s,ds,sg,hd',he',hw⟩
  refine ⟨λ w=>(1<x'.segs.length/\(x'.segs.getD 1 ⟨0,0,0⟩).next<=before)/\Sat R2 (WX p d x' s sg ds st' Hs) w,?_,?_⟩
  · refine Zb.mk rfl ⟨sg,At.own (eqS hw) (by exact ⟨rfl,trivial⟩),Br.d (λ h3=>?_) (λ h3=>stop (λ h4=>by omega) hw)⟩
    have h1l:1<x'.segs.length:=by omega
    have hg1:x'.segs.getD 1 ⟨0,0,0⟩=x'.segs[1]:=by rw [List.getD_eq_getElem?_getD,List.getElem?_eq_getElem h1l];rfl
    refine Zb.mk rfl ⟨sg,At.own (eqS hw) (by exact ⟨rfl,trivial⟩),?_⟩;have hrd:ReadsN 3 sg (x'.segs.map ZjQ) (λ w'=>w'=w):=ZM.readsM (n:=3) (s:=sg) (T:=96) (rows:=x'.segs.map ZjQ) hw (eqS hw);refine hrd.rngM (k:=1) h1l λ a _ el=>⟨_,el.f 1 (by exact ⟨rfl,trivial⟩),Br.d (λ h4=>⟨⟨h1l,by rw [hg1];exact h4⟩,hw⟩) (λ h4=>stop (λ h5=>h4 (by rw [<-hg1];exact h5.2)) hw)⟩
  clear hw;rintro _ w ⟨hcon,hw⟩;have h0l:0<x'.segs.length:=by omega
  have hg0:x'.segs.getD 0 ⟨0,0,0⟩=x'.segs[0]:=by rw [List.getD_eq_getElem?_getD,List.getElem?_eq_getElem h0l];rfl
  obtain ⟨u,hu⟩:∃ u,u=Zi st' (Za x'.segs[0].num):=⟨_,rfl⟩;have hstep:ZcV (n + 1) x' st' before=if u.2≠0 then (u,{ x' with brk:=true }) else ZcV n { x' with g:=(Zj u.1).g,segs:=(Zj u.1).segs } u.1 before:=by
    conv=>lhs;unfold ZcV
    rw [if_pos hcon,hg0,<-hu]
  refine Zb.mk rfl ⟨sg,At.own (eqS hw) (by exact ⟨rfl,trivial⟩),?_⟩;have hrd:ReadsN 3 sg (x'.segs.map ZjQ) (λ w'=>w'=w):=ZM.readsM (n:=3) (s:=sg) (T:=96) (rows:=x'.segs.map ZjQ) hw (eqS hw);refine hrd.rngM (k:=0) h0l λ a _ el=>⟨_,_,_,el.z (by exact ⟨rfl,rfl,rfl,trivial⟩),?_⟩;refine (ZaR (hp.ext e2) (hnum _ (List.getElem_mem _)) hw).use ?_;clear hw;rintro _ w ⟨rfl,hw⟩;refine ⟨_,rfl,(Zeg p (Za x'.segs[0].num) hw).use ?_⟩;clear hw;rintro _ w ⟨R3,bw,bn,e3,rfl,c1,c2,hw⟩;have e23:=e2.trans e3;refine ⟨_,rfl,?_⟩;refine (Zex (r:=(u,x')) rfl hw (hd'.ext e3) he' λ _=>Zcm.mk (by kernel_rfl) ((Zeh i' c1 c2 hw).mono λ v w h=>⟨R3,.refl,by rw [hu];exact h.1,s,ds,sg,hd'.ext e3,he',by rw [hu];exact h.2⟩)).use ?_;clear hw;rw [if_neg (by simp [hbr])];rintro _ w ⟨R4,e4,rfl,s4,ds4,sg4,hd4,he4,hw⟩;have e24:=e23.trans e4;refine ⟨_,rfl,?_⟩;have hlim:(ZbS (u,x')).1=u:=rfl;rw [hlim];refine Br.ne (λ h3=>?_) (λ h3=>?_)
  · rw [if_pos h3] at hstep
    have hb:(u.2 !=0)=true:=by simp [h3]
    have hw:Sat R4 (WS p d x'.lim x'.g.base s4 sg4 (u.2 !=0) ds4 x'.segs u.1 Hs) w:=hw;rw [hb] at hw;exact ⟨R4,e24,by rw [hdr,hstep],s4,ds4,sg4,hd4,by rw [hdr,hstep];exact he4,by rw [hdr,hstep];exact hw⟩
  · rw [if_neg (λ h=>h h3)] at hstep
    have hb:(u.2 !=0)=false:=by simp [h3]
    have hw:Sat R4 (WS p d x'.lim x'.g.base s4 sg4 (u.2 !=0) ds4 x'.segs u.1 Hs) w:=hw;rw [hb] at hw;have iu:Inv u.1:=by rw [hu];exact Zba i' _
    have byu:Zb9 u.1.fs:=by rw [hu];exact ZdE hby' _
    have hless:u.1.fs.length + 1<=st'.fs.length:=by rw [hu];exact ZgX (by rw [<-hu];exact h3)
    refine (ZkF iu byu (by omega) (hp.ext e24) hw).use ?_;clear hw;rintro _ w ⟨R5,base5,s5,ds5,sg5,am,bh,e5,hd5,rfl,hg5,_,hb5,hb5',hdl5,hsl5,hw⟩;have hw:=hw.drop;refine ⟨_,_,rfl,⟨n,R5,{ x' with g:=(Zj u.1).g,segs:=(Zj u.1).segs },u.1,s5,ds5,sg5,e24.trans e5,by rw [hdr,hstep],by omega,hbr,iu,byu,by omega,hd5,by rw [<-hg5],?_,by show (Zj u.1).segs.length<=_;omega,?_⟩,?_⟩
    · exact Zn7 u.1
    · show Sat R5 (WS p d x'.lim (Zj u.1).g.base s5 sg5 x'.brk ds5 (Zj u.1).segs u.1 Hs) w
      rw [<-hg5,hbr];exact hw
    · have hw:Sat R5 (Zl d u.1::pts p (Zt d x'.lim base5 s5 sg5 false)::ZL s5 ds5::ZbE sg5 (Zj u.1).segs::Hs) w:=hw.arr
      show ZiK d w<ZiK d _;rw [ZkL hw,hmu];omega
end
section
open Go Go.VC Tryz
def mkC:Nat->Int->List (List Ey)->List Sc
 |_,_,[]=>[]
 |n,i,es::rest=>⟨n,i,es.map Zc6⟩::mkC (n + 1) (i + es.length) rest
theorem ZlH:∀ (a:List (List Ey)) (n:Nat) (i:Int),(mkC n i a).length=a.length
 |[],_,_=>rfl
 |es::a,n,i=>by simp [mkC,ZlH a]
structure ZoL (i:Int) (l:List Ey):Prop where
 ok:∀ e∈l,e.Ok/\∀ y∈e.dt,0<=y/\y<256
 fol:ZhX i l
theorem ZoL.app {i:Int} {a b:List Ey} (h:ZoL i (a++b)):ZoL i a/\ZoL (i + a.length) b:=by
 refine ⟨⟨λ e he=>h.ok e (List.mem_append_left _ he),λ k hk=>?_⟩,⟨λ e he=>h.ok e (List.mem_append_right _ he),λ k hk=>?_⟩⟩
 ·have:=h.fol k (by simp;omega)
  rwa [List.getElem_append_left hk] at this
 ·have:=h.fol (a.length + k) (by simp;omega)
  rw [List.getElem_append_right (by omega)] at this;simp only [Nat.add_sub_cancel_left] at this;rw [this];omega
theorem Zg8:∀ {l:List Ey} {g:Lg},ZoL (g.last + 1) l->Zea g (l.map Zc6)=some ⟨g.base,g.l++l⟩
 |[],g,_=>by simp [Zea]
 |e::l,g,h=>by
  have h0:=h.fol 0 (by simp);simp only [List.getElem_cons_zero] at h0;rw [List.map_cons];unfold Zea;rw [ZiV (h.ok e (List.mem_cons_self ..)).1,if_pos (by omega)];simp only;have h2:=(ZoL.app (a:=[e]) (b:=l) h).2;rw [Zg8 (g:=⟨g.base,g.l++[e]⟩) (by
   have:(⟨g.base,g.l++[e]⟩:Lg).last + 1=g.last + 1 + (([e]:List Ey).length:Int):=by unfold Lg.last;simp;omega
   rw [this];exact h2)]
  simp
theorem ZkB:∀ {ess:List (List Ey)} {n:Nat} {g:Lg},ZoL (g.last + 1) ess.flatten->1<=g.last + 1->g.last + 1 + ess.flatten.length<=1099511627777->1<=n->n + 1 + ess.length<=100000000->
  Z8 (some n) g (mkC (n + 1) (g.last + 1) ess) ⟨g.base,g.l++ess.flatten⟩
 |[],n,g,_,_,_,_,_=>by simp only [mkC,List.flatten_nil,List.append_nil];exact .nil
 |es::ess,n,g,h,h1,h2,h3,h4=>by
  rw [List.flatten_cons] at h h2;rw [List.length_append] at h2;rw [List.length_cons] at h4;obtain ⟨ha,hb⟩:=h.app;have hl:(⟨g.base,g.l++es⟩:Lg).last=g.last + es.length:=by unfold Lg.last;simp;omega
  refine .more (g1:=⟨g.base,g.l++es⟩) ⟨by simp,by simp only;omega,h1,by simp only;omega,λ b hb=>?_⟩ rfl rfl (Zg8 ha) ?_
  ·obtain ⟨e,he,rfl⟩:=List.mem_map.1 hb
   exact ZjB (ha.ok e he).1 (ha.ok e he).2
  ·have:=ZkB (ess:=ess) (n:=n + 1) (g:=⟨g.base,g.l++es⟩) (by rw [hl,show g.last + es.length + 1=g.last + 1 + es.length by omega];exact hb) (by omega) (by omega) (by omega) (by omega)
   rw [hl,show g.last + es.length + 1=g.last + 1 + es.length by omega] at this;rw [List.flatten_cons,<-List.append_assoc];exact this
theorem ZpG {ess:List (List Ey)} {n:Nat} {i:Int} (hne:ess≠[]) (h:ZoL i ess.flatten) (h1:1<=i) (h2:i + ess.flatten.length<=1099511627777) (h3:1<=n) (h4:n + ess.length<=100000000):
  Z8 none ⟨0,[]⟩ (mkC n i ess) ⟨i - 1,ess.flatten⟩:=by
 obtain ⟨es,ess,rfl⟩:=List.exists_cons_of_ne_nil hne;rw [List.flatten_cons] at h h2;rw [List.length_append] at h2;rw [List.length_cons] at h4;obtain ⟨ha,hb⟩:=h.app;have hl0:(⟨i - 1,[]⟩:Lg).last + 1=i:=by unfold Lg.last;simp
 have hl:(⟨i - 1,es⟩:Lg).last + 1=i + es.length:=by unfold Lg.last;simp;omega
 unfold mkC;refine .first (g1:=⟨i - 1,es⟩) ⟨h3,by simp only;omega,h1,by simp only;omega,λ b hb=>?_⟩ rfl ?_ ?_
 ·obtain ⟨e,he,rfl⟩:=List.mem_map.1 hb
  exact ZjB (ha.ok e he).1 (ha.ok e he).2
 ·have:=Zg8 (g:=⟨i - 1,[]⟩) (l:=es) (by rw [hl0];exact ha)
  simpa using this
 ·have:=ZkB (ess:=ess) (n:=n) (g:=⟨i - 1,es⟩) (by rw [hl];exact hb) (by omega) (by omega) h3 (by omega)
  rw [hl] at this;rw [List.flatten_cons];exact this
theorem Ze8 {a b:Fs} (ha:Uni a) (hb:Uni b) (h:∀ k,Zw k a=Zw k b):a.Perm b:=by
 have key:∀ {l:Fs},Uni l->∀ e:ByteArray × Fl,e∈l↔Zw e.1 l=some e.2:=λ {l} u e=>⟨λ he=>Zb5 u he,λ he=>by
  obtain ⟨x,y,hxy,_⟩:=ZI he;rw [hxy];simp⟩
 have nd:∀ {l:Fs},Uni l->l.Nodup:=λ {l} u=>by
  unfold Uni at u;unfold List.Nodup at u ⊢;rw [List.pairwise_map] at u;exact u.imp λ hne he=>hne (by rw [he])
 rw [List.perm_ext_iff_of_nodup (nd ha) (nd hb)];intro e;rw [key ha,key hb,h]
structure Fu (st:DS) (n:Nat) (i:Int) (ess:List (List Ey)):Prop where
 off:st.off=false
 inv:Inv st
 by':Zb9 st.fs
 get:∀ c∈mkC n i ess,∃ m,Zw (Za c.num) st.fs=some ⟨c.bytes,m⟩
 only:∀ k,Zw k st.fs≠none->∃ c∈mkC n i ess,k=Za c.num
 ne:ess≠[]
 ok:ZoL i ess.flatten
 i1:1<=i
 i2:i + ess.flatten.length<=1099511627777
 n1:1<=n
 n2:n + ess.length<=100000000
theorem Fu.chain {st:DS} {n:Nat} {i:Int} {ess:List (List Ey)} (h:Fu st n i ess):Z8 none ⟨0,[]⟩ (mkC n i ess) ⟨i - 1,ess.flatten⟩:=ZpG h.ne h.ok h.i1 h.i2 h.n1 h.n2
def fOf (st:DS) (c:Sc):Fl:=(Zw (Za c.num) st.fs).getD ⟨[],0⟩
theorem Fu.perm {st:DS} {n:Nat} {i:Int} {ess:List (List Ey)} (h:Fu st n i ess):st.fs.Perm (ZdO (fOf st) (mkC n i ess)):=by
 have hc:=h.chain;have hu:=Zfr (f:=fOf st) hc.nums.2 λ c hm=>(ZbO hc c hm).2;refine Ze8 h.inv.uni hu λ k=>?_;rcases hg:Zw k (ZdO (fOf st) (mkC n i ess)) with _|v
 ·rcases hk:Zw k st.fs with _|v
  ·rfl
  ·exfalso
   obtain ⟨c,hm,rfl⟩:=h.only k (by rw [hk];simp);have:=Zb5 hu (List.mem_map_of_mem (f:=λ c=>(Za c.num,fOf st c)) hm);rw [hg] at this;cases this
 ·obtain ⟨x,y,hxy,_⟩:=ZI hg
  have hm:(k,v)∈ZdO (fOf st) (mkC n i ess):=by rw [hxy];simp
  obtain ⟨c,hm,he⟩:=List.mem_map.1 hm;obtain ⟨m,hgm⟩:=h.get c hm;cases he;unfold fOf;rw [hgm];rfl
def xOf (lim:Int) (n:Nat) (i:Int) (ess:List (List Ey)):WSt:=⟨lim,⟨i - 1,ess.flatten⟩,(mkC n i ess).map Sc.sg,false⟩
theorem Zl9 {st:DS} {k:ByteArray} {xs:List Int} {f:Fl} (hk:Zw k st.fs=some f) (h:(Zk st k xs).2=0):Zw k (Zk st k xs).1.fs=some ⟨f.b++xs,f.sure⟩:=by
 obtain ⟨_,e⟩:=Zc7 h;have e:Zk st k xs=ZaE (chg st (Zm k)).1 k xs:=e;rw [e] at h ⊢;have hf:=(Zbp st (Zm k)).1;generalize (chg st (Zm k)).1=st' at *;unfold ZaE at h ⊢;split
 ·rename_i h1;rw [if_pos h1] at h;cases h
 ·show Zw k (Zk2 k xs st'.fs)=_
  have he:Zw k (ZaT k st'.fs)=some f:=by
   unfold ZaT;rw [hf,hk];rw [if_pos (by simp)];exact hk
  unfold Zk2;rw [ZdW he]
end
section
open Go Go.VC Tryz
theorem ZoT (l:List Sg) (g:Sg):Zu (l++[g])=g:=by unfold Zu;simp
theorem Zem (l:List Sg) (g:Sg) (z:Int):ZaZ (l++[g]) z=l++[⟨g.num,g.next,z⟩]:=by
 unfold ZaZ;simp
theorem Zof {room lim:Int} (h0:1000<=room) (h1:room<=16777216) (h2:32<=lim) (h3:lim<=65536) (i0:Inv ⟨room,[],-1,-1,false⟩):∃ st,Zaz ⟨room,[],-1,-1,false⟩ lim=0/\Zd9 ⟨room,[],-1,-1,false⟩ lim=st/\Zz ⟨room,[],-1,-1,false⟩=⟨⟨0,[]⟩,(mkC 1 1 [[]]).map Sc.sg⟩/\
  Fu st 1 1 [[]]/\Znh st/\total st.fs<=21/\st.room=room:=by
 have hl:Zj ⟨room,[],-1,-1,false⟩=⟨⟨0,[]⟩,[],none,[]⟩:=by
  have hn:Zr ([]:Fs)=[]:=by unfold Zr;simp
  unfold Zj;rw [hn];rfl
 have hs:Zh ∉ Zr ([]:Fs):=by unfold Zr;simp [Zr]
 have hbl:(ZH 1 1).length<=21:=by unfold ZH;rw [ZK];have:=ZdV (n:=1) (next:=1) (by omega) (by omega);omega
 obtain ⟨b,hbb⟩:∃ b,b=ZH 1 1:=⟨_,rfl⟩;have c0:Znh ⟨room,[],-1,-1,false⟩:=⟨rfl,rfl,rfl⟩;obtain ⟨g1,g2,g3,g4⟩:=ZhV c0 (k:=Za 1) (xs:=b) (Z5 _) (by rw [hbb];show (0:Int) + _<=room;omega);have hgs:=ZdF (st:=⟨room,[],-1,-1,false⟩) (k:=Za 1) rfl g1;obtain ⟨j1,j2,j3,j4⟩:=Zj2 g2 (Z5 1) hgs;have hmk:Zae ⟨room,[],-1,-1,false⟩ 1 1=ZA (Zk ⟨room,[],-1,-1,false⟩ (Za 1) b).1 (Za 1):=by
  unfold Zae;rw [<-hbb,ZB g1]
 have hrec:recoverD ⟨room,[],-1,-1,false⟩=Zae ⟨room,[],-1,-1,false⟩ 1 1:=by
  unfold recoverD;simp only [hl,if_neg hs,Z3,if_true,ZF]
 have hc:¬ (lim<32\/lim>65536):=by omega
 have hbo:∀ x∈b,0<=x/\x<256:=by
  rw [hbb];have:=Zrc (l:=[hdB 1 1]) (λ b hb=>by rw [List.mem_singleton.1 hb];exact ZpZ (by omega) (by omega));rw [Zcf] at this;exact this
 refine ⟨(ZA (Zk ⟨room,[],-1,-1,false⟩ (Za 1) b).1 (Za 1)).1,?_,?_,?_,?_,j2,?_,by rw [j4,g4]⟩
 ·unfold Zaz;rw [if_neg hc,if_neg (by simp),hrec,hmk];exact j1
 ·unfold Zd9;rw [if_neg hc,if_neg (by simp),hrec,hmk]
 ·unfold Zz;simp only [hl,if_true]
  simp only [mkC,List.map_cons,List.map_nil,Sc.sg,Sc.bytes,Sc.recs,Zcf];rfl
 ·refine ⟨j2.off,Za1 (Z7 i0 _ _) _,Zgj (Zey (λ e he=>by cases he) _ hbo) _,λ c hcm=>?_,λ k hk=>?_,by simp,⟨λ e he=>by simp at he,λ k hk=>by simp at hk⟩,by omega,by simp,by omega,by simp⟩
  ·simp only [mkC,List.mem_singleton] at hcm
   subst hcm;refine ⟨b.length,?_⟩;rw [Zdl hgs j1,hbb];simp only [Sc.bytes,Sc.recs,List.map_nil,Zcf];rfl
  ·by_cases hkk:k=Za 1
   ·exact ⟨_,List.mem_cons_self ..,hkk⟩
   ·rw [Zcb hkk,ZaY hkk] at hk;exact absurd rfl hk
 ·rw [j3,g3,hbb];show (0:Int) + _<=21;omega
end
section
open Go Go.VC Tryz
set_option maxRecDepth 10000
def B20 (d:Sl) (e:Sl) (K:Value->World->Prop) (w:World):Prop:=
 Br ((↑d.len:Int) !=(↑e.len:Int))
 (K (.bool false) w)
 (∃ (k:Int->World->Prop) (A:Int->World->Nat),(k 0 w)/\∀ (E:Env) (b:Int) (j:World),k b j->
 Br (decide (b<(↑d.len:Int)))
 (Drw j λ c i=>
 Rng b d.len (Zb d.a λ C=>
 ∃ r:Int,(At c (Addr.add (Addr.add C (Zah b.toNat 4)) 0) [.int .i64 r])/\
 Rng b e.len (Zb e.a λ D=>
 ∃ s:Int,(At c (Addr.add (Addr.add D (Zah b.toNat 4)) 0) [.int .i64 s])/\
 Br (r !=s)
 (K (.bool false) i)
 (Rng b d.len (Zb d.a λ l=>
 ∃ t:Int,(At c ⟨(l.add (Zah b.toNat 4)).block,(l.add (Zah b.toNat 4)).off + 1,none⟩ [.int .i64 t])/\
 Rng b e.len (Zb e.a λ m=>
 ∃ u:Int,(At c ⟨(m.add (Zah b.toNat 4)).block,(m.add (Zah b.toNat 4)).off + 1,none⟩ [.int .i64 u])/\
 Br (t !=u)
 (K (.bool false) i)
 (Rng b d.len (Zb d.a λ n=>
 ∃ v:Int,(At c ⟨(n.add (Zah b.toNat 4)).block,(n.add (Zah b.toNat 4)).off + 2,none⟩ [.int .i64 v])/\
 Rng b e.len (Zb e.a λ o=>
 ∃ x:Int,(At c ⟨(o.add (Zah b.toNat 4)).block,(o.add (Zah b.toNat 4)).off + 2,none⟩ [.int .i64 x])/\
 Br (v !=x)
 (K (.bool false) i)
 (Rng b d.len (Zb d.a λ p=>
 ∃ f:Sl,(At c ⟨(p.add (Zah b.toNat 4)).block,(p.add (Zah b.toNat 4)).off + 3,none⟩ [.slice f.a f.len f.cap])/\
 ∃ y:ByteArray,(∀ w',c w'->((convert 53 9 (.slice f.a f.len f.cap))).run prog w'=.ok (.string y) w')/\
 Rng b e.len (Zb e.a λ q=>
 ∃ g:Sl,(At c ⟨(q.add (Zah b.toNat 4)).block,(q.add (Zah b.toNat 4)).off + 3,none⟩ [.slice g.a g.len g.cap])/\
 ∃ z:ByteArray,(∀ w',c w'->((convert 53 9 (.slice g.a g.len g.cap))).run prog w'=.ok (.string z) w')/\
 Br (!y.toList==z.toList)
 (K (.bool false) i)
 ((k (IntKind.i64.wrap (b + 1)) i)/\A (IntKind.i64.wrap (b + 1)) i<A b j)))))))))))))
 (K (.bool true) j))
def sk20:Sk:=(.seq .leaf (.seq .leaf (.seq (.seq .leaf (.block (.loop [5] [(.int .i64)] [4,5,11,12,13,14,15,16,17,18,19,20,21,22,23,24,25,26,27,28,29,30,31,32,33,34,35,36,37,38,39,40,41,42,43,44,45,46,47,48,49,50,51,52,53,54,55,56,57,58,59,60,61,62,63,64,65,66,67,68] .leaf))) .leaf)))
theorem Zv2 (b:Sl) (c:Sl) (K:Value->World->Prop) (w:World) (h:B20 b c K w):Zq prog 20 #[.slice b.a b.len b.cap,.slice c.a c.len c.cap] w K:=cq (sk:=sk20) func20 (by kernel_rfl) (by kernel_rfl) (by kernel_rfl) h
def B8  (K:Value->World->Prop) (w:World):Prop:=
 Calls prog 17 #[.int .i64 1000] w λ n e=>
 ∃ c:Option Addr,∃ k:Int,(n=.returned (.tuple #[.pointer c,.int .i64 k]))/\
 ∃ (g:World->Prop),(Br (k !=0)
 (K (.bool false) e)
 (Br c.isNone
 (K (.bool false) e)
 (g  e)))/\
 ∀ (s:Env)  (l:World),g  l->
 Calls prog 13 #[.pointer c,.int .i64 100] l λ o f=>
 ∃ d:Option Addr,∃ i:Int,(o=.returned (.tuple #[.pointer d,.int .i64 i]))/\
 Br (i==0)
 (Br (!d.isNone)
 (Calls prog 22 #[.pointer d] f λ p m=>
 ∃ j:Int,(p=.returned (.int .i64 j))/\
 Br (j==1)
 (Calls prog 33 #[.pointer c] m λ q r=>
 ∃ b:Sl,(q=.returned (.slice b.a b.len b.cap))/\
 K (.bool ((↑b.len:Int)==1)) r)
 (K (.bool false) m))
 (K (.bool false) f))
 (K (.bool false) f)
def sk8:Sk:=(.seq .leaf (.seq .leaf (.cut [] [] [0,9,10,11,12,13,14] .leaf .leaf)))
theorem Zxq  (K:Value->World->Prop) (w:World) (h:B8  K w):Zq prog 8 #[] w K:=cq (sk:=sk8) func8 (by kernel_rfl) (by kernel_rfl) (by kernel_rfl) h
def B9 (k:Sl) (g:Sl) (K:Value->World->Prop) (w:World):Prop:=
 ∃ (E:Int->World->Prop),(∃ (C:Int->Int->World->Prop) (X:Int->Int->World->Nat),(C 0 0 w)/\∀ (aa:Env) (l:Int) (d:Int) (r:World),C l d r->
 ∃ (F:World->Prop),(Br (decide (d<(↑k.len:Int)))
 (Br (decide (d<20))
 (F  r)
 (E l r))
 (E l r))/\
 ∀ (ab:Env)  (j:World),F  j->
 Rng d k.len (Zb k.a λ I=>
 ∃ v:Sl,(At (λ c=>c=j) ⟨(I.add (Zah d.toNat 2)).block,(I.add (Zah d.toNat 2)).off + 1,none⟩ [.slice v.a v.len v.cap])/\
 Br (decide ((↑v.len:Int)>30000))
 (K (.bool true) j)
 (Rng d k.len (Zb k.a λ Z=>
 ∃ U:ByteArray,(At (λ c=>c=j) (Addr.add (Addr.add Z (Zah d.toNat 2)) 0) [.string U])/\
 Br (decide ((↑U.size:Int)>1000))
 (K (.bool true) j)
 (Rng d k.len (Zb k.a λ J=>
 ∃ o:Sl,(At (λ c=>c=j) ⟨(J.add (Zah d.toNat 2)).block,(J.add (Zah d.toNat 2)).off + 1,none⟩ [.slice o.a o.len o.cap])/\
 (C (IntKind.i64.wrap (l + (↑o.len:Int))) (IntKind.i64.wrap (d + 1)) j)/\X (IntKind.i64.wrap (l + (↑o.len:Int))) (IntKind.i64.wrap (d + 1)) j<X l d r))))))/\
 ∀ (ac:Env) (T:Int) (V:World),E T V->
 ∃ (u:Int->Int->World->Prop) (A:Int->Int->World->Nat),(u T 0 V)/\∀ (ad:Env) (m:Int) (b:Int) (n:World),u m b n->
 ∃ (G:World->Prop),(Br (decide (b<(↑g.len:Int)))
 (Br (decide (b<100))
 (G  n)
 (K (.bool (decide (m>30000))) n))
 (K (.bool (decide (m>30000))) n))/\
 ∀ (ae:Env)  (s:World),G  s->
 Rng b g.len (Zb g.a λ L=>
 ∃ x:Sl,(At (λ c=>c=s) ⟨(L.add (Zah b.toNat 5)).block,(L.add (Zah b.toNat 5)).off + 3,none⟩ [.slice x.a x.len x.cap])/\
 Br (decide ((↑x.len:Int)>1000))
 (K (.bool true) s)
 (Rng b g.len (Zb g.a λ M=>
 ∃ y:Sl,(At (λ c=>c=s) ⟨(M.add (Zah b.toNat 5)).block,(M.add (Zah b.toNat 5)).off + 3,none⟩ [.slice y.a y.len y.cap])/\
 ∃ (D:Int->Int->World->Prop) (Y:Int->Int->World->Nat),(D (IntKind.i64.wrap (m + IntKind.i64.wrap (30 * (↑y.len:Int)))) 0 s)/\∀ (af:Env) (e:Int) (i:Int) (f:World),D e i f->
 ∃ (H:World->Prop),(Rng b g.len (Zb g.a λ N=>
 ∃ z:Sl,(At (λ c=>c=f) ⟨(N.add (Zah b.toNat 5)).block,(N.add (Zah b.toNat 5)).off + 3,none⟩ [.slice z.a z.len z.cap])/\
 Br (decide (i<(↑z.len:Int)))
 (Br (decide (e<100000))
 (H  f)
 (Br (decide (e>30000))
 (K (.bool true) f)
 ((u e (IntKind.i64.wrap (b + 1)) f)/\A e (IntKind.i64.wrap (b + 1)) f<A m b n)))
 (Br (decide (e>30000))
 (K (.bool true) f)
 ((u e (IntKind.i64.wrap (b + 1)) f)/\A e (IntKind.i64.wrap (b + 1)) f<A m b n))))/\
 ∀ (ag:Env)  (t:World),H  t->
 Rng b g.len (Zb g.a λ O=>
 ∃ p:Sl,(At (λ c=>c=t) ⟨(O.add (Zah b.toNat 5)).block,(O.add (Zah b.toNat 5)).off + 3,none⟩ [.slice p.a p.len p.cap])/\
 Rng i p.len (Zb p.a λ Q=>
 ∃ q:Sl,(At (λ c=>c=t) ⟨(Q.add (Zah i.toNat 4)).block,(Q.add (Zah i.toNat 4)).off + 3,none⟩ [.slice q.a q.len q.cap])/\
 (D (IntKind.i64.wrap (e + (↑q.len:Int))) (IntKind.i64.wrap (i + 1)) t)/\Y (IntKind.i64.wrap (e + (↑q.len:Int))) (IntKind.i64.wrap (i + 1)) t<Y e i f)))))
def sk9:Sk:=(.seq .leaf (.seq .leaf (.cut [5] [(.int .i64)] [4,5,6,9,10,11,12,13,14,15,16,17,18,19,20,21,22,23,24,25,26,27,28,29,30,31,32,33,34,35,36,37,38,39,40,41,42] (.seq .leaf (.block (.loop [5,6] [(.int .i64),(.int .i64)] [4,5,6,9,10,11,12,13,14,15,16,17,18,19,20,21,22,23,24,25,26,27,28,29,30,31,32,33,34,35,36,37,38,39,40,41,42] (.cut [] [] [9,10,11,12,13,14,15,16] .leaf .leaf)))) (.seq (.seq .leaf (.block (.loop [5,7] [(.int .i64),(.int .i64)] [4,5,7,8,43,44,45,46,47,48,49,50,51,52,53,54,55,56,57,58,59,60,61,62,63,64,65,66,67,68,69,70,71,72,73,74,75,76,77,78,79,80,81,82,83,84,85,86,87,88,89,90,91,92,93,94,95,96] (.cut [] [] [43,44,45,46,47,48,49,50] .leaf (.seq (.block (.seq .leaf (.seq .leaf (.seq (.seq .leaf (.block (.loop [5,8] [(.int .i64),(.int .i64)] [5,8,69,70,71,72,73,74,75,76,77,78,79,80,81,82,83,84,85,86,87,88,89,90,91,92,93,94] (.cut [] [] [69,70,71,72,73,74,75,76,77,78,79,80] .leaf .leaf)))) .leaf)))) .leaf))))) .leaf))))
theorem Zxp (b:Sl) (c:Sl) (K:Value->World->Prop) (w:World) (h:B9 b c K w):Zq prog 9 #[.slice b.a b.len b.cap,.slice c.a c.len c.cap] w K:=cq (sk:=sk9) func9 (by kernel_rfl) (by kernel_rfl) (by kernel_rfl) h
end
section
open Go Go.VC Tryz
variable {R R':Cx} {Hs Rest:List HP} {w:World} {p d:Nat} {x:WSt} {s sg:Sl} {ds:List DE4} {st:DS}
theorem Zg7 {a b:Sl} {xs ys:List DE4} (ha:RoN 4 R a (xs.map ZaU)) (hb:RoN 4 R b (ys.map ZaU)) (hx:DsR R xs) (hy:DsR R ys) (he:erE xs=erE ys) (hl:xs.length<=1000000000000) (hm:∀ e∈xs,e.2.dt.length<=9223372036854775807) (hw:Sat R Hs w):
  Zq prog 20 #[.slice a.a a.len a.cap,.slice b.a b.len b.cap] w λ v w'=>v=.bool true/\Sat R Hs w':=by
 have h1:a.len=xs.length:=by have:=ha.len;simpa using this
 have h2:b.len=ys.length:=by have:=hb.len;simpa using this
 have h3:xs.length=ys.length:=by have:=congrArg List.length he;simpa using this
 apply Zv2;refine Br.ne (λ h=>absurd (by omega) h) (λ _=>?_);refine ⟨λ i w=>∃ k:Nat,i=k/\k<=xs.length/\Sat R Hs w,λ i _=>xs.length - i.toNat,⟨0,rfl,Nat.zero_le _,hw⟩,?_⟩;clear hw;rintro _ _ w ⟨k,rfl,hk,hw⟩;refine Br.d (λ h=>?_) (λ h=>⟨rfl,hw⟩);have hkx:k<xs.length:=by omega
 have hky:k<ys.length:=by omega
 have hek:xs[k].2=ys[k].2:=by
  have h4:(erE xs)[k]'(by simpa using hkx)=(erE ys)[k]'(by simpa using hky):=by congr 1
  simpa using h4
 refine Zv hw λ w hw=>?_;have r1:ReadsN 4 a (xs.map ZaU) (Sat R Hs):=ha.reads λ w h=>h;have r2:ReadsN 4 b (ys.map ZaU) (Sat R Hs):=hb.reads λ w h=>h;refine r1.rngM hkx λ _ _ el=>⟨xs[k].2.ix,el.zz (by exact ⟨rfl,trivial⟩),?_⟩;refine r2.rngM hky λ _ _ fl=>⟨ys[k].2.ix,fl.zz (by exact ⟨rfl,trivial⟩),?_⟩;refine Br.ne (λ h=>absurd (by rw [hek]) h) (λ _=>?_);refine r1.rngM hkx λ _ _ el=>⟨xs[k].2.tm,el.f 1 (by exact ⟨rfl,trivial⟩),?_⟩;refine r2.rngM hky λ _ _ fl=>⟨ys[k].2.tm,fl.f 1 (by exact ⟨rfl,trivial⟩),?_⟩;refine Br.ne (λ h=>absurd (by rw [hek]) h) (λ _=>?_);refine r1.rngM hkx λ _ _ el=>⟨xs[k].2.kd,el.f 2 (by exact ⟨rfl,trivial⟩),?_⟩;refine r2.rngM hky λ _ _ fl=>⟨ys[k].2.kd,fl.f 2 (by exact ⟨rfl,trivial⟩),?_⟩;refine Br.ne (λ h=>absurd (by rw [hek]) h) (λ _=>?_);have hd1:=hm _ (List.getElem_mem hkx);have hd2:ys[k].2.dt.length<=9223372036854775807:=by rw [<-hek];exact hd1
 refine r1.rngM hkx λ _ _ el=>⟨xs[k].1,el.f 3 (by exact ⟨rfl,trivial⟩),VC.strOf xs[k].2.dt,λ w' h'=>ZgN underlying53 underlying5 underlying9 h' ((hx _ (List.getElem_mem hkx)).ro (by simpa using hd1)),?_⟩;refine r2.rngM hky λ _ _ fl=>⟨ys[k].1,fl.f 3 (by exact ⟨rfl,trivial⟩),VC.strOf ys[k].2.dt,λ w' h'=>ZgN underlying53 underlying5 underlying9 h' ((hy _ (List.getElem_mem hky)).ro (by simpa using hd2)),?_⟩;refine Br.sne (λ h=>absurd (by rw [hek]) h) (λ _=>?_);rw [Zg (by omega) (by omega)];exact ⟨⟨k + 1,by omega,by omega,hw⟩,by dsimp only;omega⟩
def ZqU (l:List Ey):Int:=(l.map λ e=>(e.dt.length:Int)).sum
theorem Zi7 (l:List Ey):0<=ZqU l:=by
 unfold ZqU
 induction l with
 |nil=>simp
 |cons e l ih=>simp only [List.map_cons,List.sum_cons];omega
theorem ZoV (l:List Ey) {k:Nat} (h:k<l.length):ZqU (l.take (k + 1))=ZqU (l.take k) + l[k].dt.length:=by
 unfold ZqU;have e:l.take (k + 1)=l.take k++[l[k]]:=(List.take_append_getElem h).symm;rw [e,List.map_append,List.sum_append];simp
theorem Zsh {n:Nat} {i lim:Int} {ess:List (List Ey)} {st:DS} (h:Fu st n i ess) (h2:ess.length<=40000) (hn:n<=40000) (h3:ess.flatten.length<=100000):WBk (xOf lim n i ess) 80000:=by
 have hi1:=h.i1;have hi2:=h.i2;have hmn:∀ (a:List (List Ey)) (n:Nat) (i:Int),∀ c∈mkC n i a,c.num<n + a.length:=by
  intro a
  induction a with
  |nil=>intro n i c hc;cases hc
  |cons x a ih=>
   intro n i c hc;unfold mkC at hc;rcases List.mem_cons.1 hc with rfl|hc
   ·simp
   ·have:=ih _ _ c hc;simp;omega
 refine ⟨by show 0<=i - 1;omega,by show i - 1<=_;omega,?_,?_,?_,λ g hg=>?_⟩
 ·show ess.flatten.length<=_
  omega
 ·show 0<((mkC n i ess).map Sc.sg).length
  rw [List.length_map,ZlH];exact List.length_pos_iff.2 h.ne
 ·show ((mkC n i ess).map Sc.sg).length<=_
  rw [List.length_map,ZlH];omega
 ·obtain ⟨c,hc,rfl⟩:=List.mem_map.1 hg
  have:=hmn _ _ _ c hc;obtain ⟨m,hm⟩:=h.get c hc;have hrd:=ZgF h.inv (Za c.num);rw [Zcd h.off (Z5 _) hm] at hrd;simp only at hrd;refine ⟨by show c.num<=_;omega,by show (0:Int)<=c.bytes.length;omega,by show (c.bytes.length:Int)<=_;omega⟩
theorem Zrq {d:Nat} {room lim:Int} (h0:1000<=room) (h1:room<=16777216) (h2:32<=lim) (h3:lim<=65536) (hp:Zec R) (hw:Sat R (Zl d ⟨room,[],-1,-1,false⟩::Hs) w):
  Zq prog 13 #[.pointer (some ⟨d,0,none⟩),.int .i64 lim] w λ v w'=>∃ (R':Cx) (p:Nat) (s:Sl) (ds:List DE4) (sg:Sl) (st:DS),R.Ext R'/\v=.tuple #[.pointer (some ⟨p,0,none⟩),.int .i64 0]/\DsR R' ds/\erE ds=(xOf lim 1 1 [[]]).g.l/\
   Fu st 1 1 [[]]/\Znh st/\total st.fs<=21/\st.room=room/\Sat R' (WX p d (xOf lim 1 1 [[]]) s sg ds st Hs) w':=by
 have i0:Inv ⟨room,[],-1,-1,false⟩:=ZpW (by omega) h1;obtain ⟨st,e1,e2,e3,f,c,t,r⟩:=Zof h0 h1 h2 h3 i0;refine (Zkr lim i0 (λ e he=>by cases he) (by simp) hp hw).mono λ v w' h=>?_;rw [e1] at h;rcases h with ⟨h,_⟩|⟨_,R',p,s,ds,sg,g1,g2,g3,g4,_,_,_,_,g9⟩
 ·exact absurd rfl h
 ·rw [e3] at g4 g9
  rw [e2] at g9;exact ⟨R',p,s,ds,sg,st,g1,g3,g2,g4,f,c,t,r,g9⟩
theorem ZoB (hp:Zec R) (hw:Sat R Hs w):Zq prog 8 #[] w λ v w'=>∃ R',R.Ext R'/\v=.bool true/\Sat R' Hs w':=by
 apply Zxq;refine (ZuC (room:=1000) (by omega) (by omega) hw).use ?_;clear hw;rintro _ w ⟨d,rfl,hw⟩;refine ⟨_,_,rfl,λ w=>Sat R (Zl d ⟨1000,[],-1,-1,false⟩::Hs) w,Br.ne (λ h=>absurd rfl h) (λ _=>Br.f rfl hw),?_⟩;clear hw;rintro _ w hw;refine (Zrq (lim:=100) (by omega) (by omega) (by omega) (by omega) hp hw).use ?_;clear hw;rintro _ w ⟨R1,p,s,ds,sg,st,e1,rfl,hd,he,f,c,t,r,hw⟩;refine ⟨_,_,rfl,Br.e (λ _=>?_) (λ h=>absurd rfl h)⟩;refine Br.t rfl ?_;have b:=(Zsh (lim:=100) f (by simp) (by omega) (by simp)).wb (by omega);refine (Zog b hw).use ?_;clear hw;rintro _ w ⟨rfl,hw⟩;refine ⟨_,rfl,Br.e (λ _=>?_) (λ h=>absurd (by decide) h)⟩;obtain ⟨x,hx⟩:∃ x,x=xOf 100 1 1 [[]]:=⟨_,rfl⟩;rw [<-hx] at hw;have hw:Sat R1 (Zl d st::pts p (Zt d x.lim x.g.base s sg x.brk)::ZL s ds::ZbE sg x.segs::Hs) w:=hw.arr;have hl:st.fs.length=1:=by rw [f.perm.length_eq];simp [mkC]
 refine (Zds f.inv (by omega) hw).use ?_;clear hw;rintro _ w ⟨t,rfl,hw⟩;have htl:=Own.len hw;rw [List.length_map,Zg6 f.perm f.chain.nums.2 λ c hc=>(ZbO f.chain c hc).2] at htl;have htl:t.len=1:=htl;refine ⟨_,rfl,R1,e1,?_,hw.drop.drop.drop.drop.drop⟩;rw [htl];rfl
end
end Go.Proofs.YtkfedbncmfnpnaaGreatDoor

namespace Go.VC
section
open Go.ChangeShapes Go.WideShapes Go.ChangeAt Go.RowKit
theorem ZrK {W W':World} {Hs:List HP} (h:Sat (Cx.of W) Hs W'):Below W.heap.size W W':=by
 obtain ⟨h1,h2,h3⟩:=h.streams;have hb:∀ k,k<W.heap.size->W'.heap[k]? =W.heap[k]?:=λ k hk=>by
  have:(Cx.of W).m k=some W.heap[k]:=by simp [Cx.of,hk]
  rw [h.of_ro this];simp [hk]
 refine ⟨h1,h2,h3,?_,hb⟩;rcases Nat.lt_or_ge W'.heap.size W.heap.size with hl|hl
 ·have:=hb W'.heap.size hl
  rw [Array.getElem?_eq_none (Nat.le_refl _)] at this;simp [hl] at this
 ·exact hl
theorem ZjI {w:World} {a:Addr} {v:Value} (h:w.cell? a=some v):a.spot=none/\∃ l T fr,w.heap[a.block]? =some (.cells l T fr)/\l[a.off]? =some v:=by
 unfold World.cell? at h;split at h
 ·rename_i c T fr hb
  split at h
  ·cases h
  ·rename_i hs
   exact ⟨by simpa using hs,c,T,fr,hb,h⟩
 ·cases h
section
variable {H:Type} {enc:TypeId × Value->H} {P:Program} {W:World} {base:Nat} {spare:Nat->Bool} {held:Bool}
end
end
section
open Go.ChangeShapes Go.WideShapes Go.ChangeAt Go.RowKit
section
variable {H:Type} {enc:TypeId × Value->H} {P:Program} {W:World} {r:Reach} {b0:Nat} {t e:TypeId} {v:Value} {d:DataW H} {p:List MemPlace} {n:Nat}
theorem Zku (ht:P.underlying t=some (.array n e)) (h:Value.okWide P W r b0 t v):∃ cs,v=.agg cs/\cs.size=P.cellsOf t:=by
 simp only [Value.okWide,ht] at h;obtain ⟨cs,h1,h2,_⟩:=h;exact ⟨cs,h1,h2⟩
theorem Zwg (ht:P.underlying t=some (.array n e)) (hc:P.cellsOf e=1) (hC:P.cellsOf t=n) (hv:Value.okWide P W r b0 t v) (h:DataW.Trod enc P W 0 (λ _=>true) true t v d p):
  ∃ cs:List Value,v=.agg cs.toArray/\cs.length=n/\∀ c∈cs,∃ m y,DataW.trod enc P W 0 (λ _=>true) true m e [c]=some y:=by
 obtain ⟨cs,rfl,hsz⟩:=Zku ht hv;obtain ⟨fuel,hf⟩:=h;obtain ⟨xs,m,_,_,hl,hx,hi⟩:=DataW.trod_array ht hf;refine ⟨cs.toList,by simp,by simpa [hC] using hsz,λ c hcm=>?_⟩;obtain ⟨i,hlt,rfl⟩:=List.getElem_of_mem hcm;have hin:i<n:=by rw [<-hC,<-hsz];simpa using hlt
 have h2:=hi i hin;rw [hc,Nat.mul_one] at h2;have e1:((Value.agg cs).cells.toList.drop i).take 1=[cs.toList[i]]:=by
  show (cs.toList.drop i).take 1=_;rw [List.drop_eq_getElem_cons hlt];rfl
 rw [e1] at h2;have:i<xs.length:=by omega
 exact ⟨m,xs[i],by rw [h2];simp [this]⟩
theorem Zua {k:IntKind} (ht:P.underlying t=some (.array n e)) (he:P.underlying e=some (.int k)) (hc:P.cellsOf e=1) (hC:P.cellsOf t=n) (hv:Value.okWide P W r b0 t v) (h:DataW.Trod enc P W 0 (λ _=>true) true t v d p):
  ∃ A:List Int,A.length=n/\v=.agg (A.map (Value.int k)).toArray/\∀ z∈A,(Lit.int k z).wf=true:=by
 obtain ⟨cs,rfl,hl,hcs⟩:=Zwg ht hc hC hv h;have:∀ l:List Value,(∀ c∈l,∃ m y,DataW.trod enc P W 0 (λ _=>true) true m e [c]=some y)->∃ A:List Int,l=A.map (Value.int k)/\∀ z∈A,(Lit.int k z).wf=true:=by
  intro l
  induction l with
  |nil=>exact λ _=>⟨[],rfl,by simp⟩
  |cons c l ih=>
   intro hl;obtain ⟨A,rfl,hA⟩:=ih λ c hc=>hl c (List.mem_cons_of_mem _ hc);obtain ⟨m,y,hy⟩:=hl c List.mem_cons_self;obtain ⟨z,hz,_,hw⟩:=DataW.trod_int he hy;simp only [List.cons.injEq,and_true] at hz;subst hz;refine ⟨z::A,rfl,λ z' hz'=>?_⟩;rcases List.mem_cons.1 hz' with rfl|hz'
   ·exact hw
   ·exact hA z' hz'
 obtain ⟨A,rfl,hA⟩:=this cs hcs;exact ⟨A,by simpa using hl,rfl,hA⟩
end
end
section
open Go.ChangeShapes Go.WideShapes Go.ChangeAt Go.RowKit
inductive Tr where
 |int (k:IntKind) (n:Int)|bool (b:Bool)|flt (n:Nat)|str (s:ByteArray)|sl (s:Sl) (xs:List Tr)|st (xs:List Tr)
mutual
def Tr.cells:Tr->List Value
 | .int k n=>[.int k n]
 | .bool b=>[.bool b]
 | .flt n=>[.float .f64 n]
 | .str s=>[.string s]
 | .sl s _=>[.slice s.a s.len s.cap]
 | .st xs=>Tr.cellsL xs
def Tr.cellsL:List Tr->List Value
 |[]=>[]
 |x::xs=>x.cells++Tr.cellsL xs
end
inductive U where
 |int (k:IntKind)|bool|flt|str|sl (u:U)|st (us:List U)
mutual
def U.size:U->Nat
 | .st us=>U.sizeL us
 |_=>1
def U.sizeL:List U->Nat
 |[]=>0
 |u::us=>u.size + U.sizeL us
end
mutual
def Tr.Ok (R:Cx):U->Tr->Prop
 | .int k,.int k' n=>k'=k/\(Lit.int k n).wf=true
 | .bool,.bool _=>True
 | .flt,.flt n=>(Lit.float .f64 n).wf=true
 | .str,.str s=>s.size<=maxLen
 | .sl u,.sl s xs=>(RoN u.size R s (xs.map Tr.cells)/\s.len<=s.cap)/\xs.length<=maxLen/\Tr.OkA R u xs
 | .st us,.st xs=>Tr.OkL R us xs
 |_,_=>False
def Tr.OkA (R:Cx) (u:U):List Tr->Prop
 |[]=>True
 |x::xs=>Tr.Ok R u x/\Tr.OkA R u xs
def Tr.OkL (R:Cx):List U->List Tr->Prop
 |[],[]=>True
 |u::us,x::xs=>Tr.Ok R u x/\Tr.OkL R us xs
 |_,_=>False
end
theorem Tr.okA {R:Cx} {u:U}:∀ {xs:List Tr},Tr.OkA R u xs->∀ x∈xs,Tr.Ok R u x
 |[],_,x,hx=>by cases hx
 |y::ys,h,x,hx=>by
  unfold Tr.OkA at h;rcases List.mem_cons.1 hx with rfl|hx
  ·exact h.1
  ·exact Tr.okA h.2 x hx
theorem Tr.okA_mk {R:Cx} {u:U}:∀ {xs:List Tr},(∀ x∈xs,Tr.Ok R u x)->Tr.OkA R u xs
 |[],_=>by unfold Tr.OkA;trivial
 |y::ys,h=>by
  unfold Tr.OkA;exact ⟨h y List.mem_cons_self,Tr.okA_mk λ x hx=>h x (List.mem_cons_of_mem _ hx)⟩
def ZhE (P:Program) (f:TypeId->Option U):Nat->List Field->Option (List U)
 |_,[]=>some []
 |off,x::xs=>match Nat.beq x.offset off with
  |false=>none
  |true=>match f x.type with
   |none=>none
   |some u=>match Nat.beq (P.cellsOf x.type) u.size with
    |false=>none
    |true=>match ZhE P f (off + u.size) xs with
     |none=>none
     |some us=>some (u::us)
def uOf (P:Program):Nat->TypeId->Option U
 |0,_=>none
 |d + 1,t=>match P.underlying t with
  |some (.int k)=>some (.int k)
  |some .bool=>some .bool
  |some (.float .f64)=>some .flt
  |some .string=>some .str
  |some (.slice e)=>match uOf P d e with
   |some u=>(match Nat.beq (P.cellsOf e) u.size && Nat.blt 0 u.size with|true=>some (.sl u)|false=>none)
   |none=>none
  |some (.struct fs)=>match ZhE P (uOf P d) 0 fs.toList with
   |some us=>(match Nat.beq (P.cellsOf t) (U.sizeL us) with|true=>some (.st us)|false=>none)
   |none=>none
  |some (.array n e)=>match uOf P d e with
   |some u=>(match Nat.beq (P.cellsOf e) u.size && Nat.beq (P.cellsOf t) (n * u.size) with|true=>some (.st (List.replicate n u))|false=>none)
   |none=>none
  |_=>none
section
variable {H:Type} {enc:TypeId × Value->H} {P:Program} {W:World} {base:Nat} {spare:Nat->Bool} {held:Bool}
def Zwx (R:Cx) (u:U) (cs:List Value):Prop:=∃ x:Tr,x.cells=cs/\x.Ok R u
theorem ZcR {w:World} {base:Nat} {a:Addr} {n:Nat} {cs:List Value} (h:w.cells? base a n=some cs):cs.length=n/\∀ i,i<n->w.cell? (a.add i)=cs[i]?:=by
 unfold World.cells? at h;split at h
 ·refine ⟨by have:=mapM_some_length h;simpa using this,λ i hi=>mapM_some_get h i i (by simp [hi])⟩
 ·cases h
theorem Zue (a:Addr) (i j:Nat) (hs:a.spot=none):(a.add i).add j=⟨a.block,a.off + (i + j),none⟩:=by
 obtain ⟨b,o,s⟩:=a;simp only at hs;subst hs;rw [Zf,Zf,Nat.add_assoc]
theorem ZhD {d:Nat} (ih:∀ {fuel:Nat} {t:TypeId} {cs:List Value} {y:DataW H × List MemPlace} {u:U},uOf P d t=some u->DataW.trod enc P W base spare held fuel t cs=some y->Zwx (Cx.of W) u cs) {n:Nat} {cs:List Value} {xs:List (DataW H × List MemPlace)}:
  ∀ (fs:List Field) (off:Nat) (us:List U),ZhE P (uOf P d) off fs=some us->(∀ (i:Nat) (f:Field),fs[i]? =some f->∃ y,DataW.trod enc P W base spare held n f.type ((cs.drop f.offset).take (P.cellsOf f.type))=some y)->
   off + U.sizeL us<=cs.length->∃ ts:List Tr,Tr.cellsL ts=(cs.drop off).take (U.sizeL us)/\Tr.OkL (Cx.of W) us ts
 |[],off,us,h,_,_=>by
  simp only [ZhE,Option.some.injEq] at h;subst h;exact ⟨[],by simp [Tr.cellsL,U.sizeL],by unfold Tr.OkL;trivial⟩
 |f::fs,off,us,h,hf,hl=>by
  unfold ZhE at h;split at h
  ·cases h
  rename_i hoff;have hoff:=Nat.eq_of_beq_eq_true hoff;split at h
  ·cases h
  rename_i u hu;split at h
  ·cases h
  rename_i hc;have hc:=Nat.eq_of_beq_eq_true hc;split at h
  ·cases h
  rename_i us' hus;cases h;simp only [U.sizeL] at hl ⊢;obtain ⟨y,hy⟩:=hf 0 f rfl;obtain ⟨x,hx,hxo⟩:=ih hu hy;obtain ⟨ts,hts,htso⟩:=ZhD ih (n:=n) (xs:=xs) fs (off + u.size) us' hus (λ i g hg=>hf (i + 1) g (by simpa using hg)) (by omega);refine ⟨x::ts,?_,by unfold Tr.OkL;exact ⟨hxo,htso⟩⟩;simp only [Tr.cellsL];rw [hx,hts,hoff,hc,List.take_add,List.drop_drop]
theorem Zkc {u:U} {n s:Nat}:∀ {m:Nat} {cs:List Value},cs.length=m * s->u.size=s->(∀ i,i<m->Zwx (Cx.of W) u ((cs.drop (i * s)).take s))->∃ ts:List Tr,Tr.cellsL ts=cs/\Tr.OkL (Cx.of W) (List.replicate m u) ts
 |0,cs,hl,_,_=>by
  have:cs=[]:=List.length_eq_zero_iff.1 (by simpa using hl);subst this;exact ⟨[],rfl,by unfold Tr.OkL;trivial⟩
 |m + 1,cs,hl,hs,h=>by
  obtain ⟨x,hx,hxo⟩:=h 0 (by omega);obtain ⟨ts,hts,htso⟩:=Zkc (n:=n) (m:=m) (cs:=cs.drop s) (by rw [List.length_drop,hl,Nat.add_mul];omega) hs (λ i hi=>by
   have:=h (i + 1) (by omega);rw [Nat.add_mul,Nat.one_mul,Nat.add_comm,<-List.drop_drop] at this;exact this)
  refine ⟨x::ts,?_,by rw [List.replicate_succ];unfold Tr.OkL;exact ⟨hxo,htso⟩⟩;simp only [Tr.cellsL];rw [hx,hts];simp
theorem ZhP {α β:Type} {p:Nat->α->Prop}:∀ {n:Nat},(∀ i,i<n->∃ x:α,p i x)->∃ xs:List α,xs.length=n/\∀ i (hi:i<xs.length),p i xs[i]
 |0,_=>⟨[],rfl,λ i hi=>by simp at hi⟩
 |n + 1,h=>by
  obtain ⟨xs,hl,hp⟩:=ZhP (β:=β) (n:=n) λ i hi=>h i (by omega);obtain ⟨x,hx⟩:=h n (by omega);refine ⟨xs++[x],by simp [hl],λ i hi=>?_⟩;by_cases h2:i<xs.length
  ·rw [List.getElem_append_left h2];exact hp i h2
  ·have:i=n:=by simp at hi;omega
   subst this;rw [List.getElem_append_right (by omega)];simpa using hx
theorem Zq4 {fuel:Nat} {t:TypeId} {cs:List Value} {x:DataW H × List MemPlace} (ht:P.underlying t=some (.float .f64)) (h:DataW.trod enc P W base spare held fuel t cs=some x):∃ n,cs=[.float .f64 n]/\(Lit.float .f64 n).wf=true:=by
 cases fuel with
 |zero=>simp [DataW.trod] at h
 |succ n=>
  unfold DataW.trod at h;rw [ht] at h;split at h<;>simp_all
theorem Zi4:∀ {d fuel:Nat} {t:TypeId} {cs:List Value} {y:DataW H × List MemPlace} {u:U},uOf P d t=some u->DataW.trod enc P W base spare held fuel t cs=some y->Zwx (Cx.of W) u cs
 |0,_,_,_,_,_,h,_=>by cases h
 |d + 1,fuel,t,cs,y,u,h,hy=>by
  unfold uOf at h;split at h
  ·rename_i k ht
   cases h;obtain ⟨n,rfl,_,hw⟩:=DataW.trod_int ht hy;exact ⟨.int k n,rfl,rfl,hw⟩
  ·rename_i ht
   cases h;obtain ⟨b,rfl,_⟩:=DataW.trod_bool ht hy;exact ⟨.bool b,rfl,by unfold Tr.Ok;trivial⟩
  ·rename_i ht
   cases h;obtain ⟨n,rfl,hn⟩:=Zq4 ht hy;exact ⟨.flt n,rfl,by unfold Tr.Ok;exact hn⟩
  ·rename_i ht
   cases h;obtain ⟨s,rfl,_,hs⟩:=DataW.trod_string ht hy;exact ⟨.str s,rfl,hs⟩
  ·rename_i e ht
   split at h
   case h_2=>cases h
   rename_i ue hue;split at h
   case h_2=>cases h
   rename_i hc;simp only [Bool.and_eq_true] at hc;have hpos:0<ue.size:=Nat.blt_eq.mp hc.2;have hc:=Nat.eq_of_beq_eq_true hc.1;cases h;rcases DataW.trod_slice ht hy with ⟨rfl,_⟩|⟨a,len,cap,elems,rest,n,_,rfl,_,_,hlc,hcm,hel,helem,_,_⟩
   ·refine ⟨.sl ⟨none,0,0⟩ [],rfl,?_⟩
    unfold Tr.Ok;exact ⟨⟨⟨Wid.nil,rfl,λ h=>absurd rfl h⟩,Nat.le_refl _⟩,Nat.zero_le _,by unfold Tr.OkA;trivial⟩
   ·obtain ⟨xs,hxl,hxs⟩:=ZhP (β:=Unit) (p:=λ i (x:Tr)=>W.cells? base (a.add (i * P.cellsOf e)) (P.cellsOf e)=some x.cells/\x.Ok (Cx.of W) ue) (n:=len) λ i hi=>by
     have h1:=helem i hi;rw [List.getElem?_eq_getElem (by omega)] at h1;obtain ⟨ce,hce,hte⟩:=Option.bind_eq_some_iff.1 h1;obtain ⟨x,rfl,hx⟩:=Zi4 hue hte;exact ⟨x,hce,hx⟩
    refine ⟨.sl ⟨some a,len,cap⟩ xs,rfl,?_⟩;unfold Tr.Ok;have hwid:Wid ue.size (xs.map Tr.cells):=λ r hr=>by
     obtain ⟨x,hx,rfl⟩:=List.mem_map.1 hr;obtain ⟨i,hi,rfl⟩:=List.getElem_of_mem hx;have:=(ZcR (hxs i hi).1).1;rw [this,hc]
    refine ⟨⟨⟨hwid,by simp [hxl],λ hne=>?_⟩,hlc⟩,by omega,Tr.okA_mk λ x hx=>by obtain ⟨i,hi,rfl⟩:=List.getElem_of_mem hx;exact (hxs i hi).2⟩
    -- the block
    have h0:0<xs.length:=by
     have:0<(xs.map Tr.cells).length:=List.length_pos_iff.2 hne;simpa using this
    have hcell:∀ i (hi:i<xs.length) j,j<ue.size->W.cell? ((a.add (i * ue.size)).add j)=(xs[i].cells)[j]?:=λ i hi j hj=>by
     have:=(ZcR (hxs i hi).1).2 j (by rw [hc];exact hj);rw [hc] at this;exact this
    have hxl0:∀ i (hi:i<xs.length),(xs[i].cells).length=ue.size:=λ i hi=>by rw [(ZcR (hxs i hi).1).1,hc]
    have hc0:=hcell 0 h0 0 (by omega);rw [List.getElem?_eq_getElem (by rw [hxl0 0 h0];omega)] at hc0;have hz0:(a.add (0 * ue.size)).add 0=a:=by rw [Nat.zero_mul];simp [Addr.add]
    rw [hz0] at hc0;obtain ⟨hs,l,T,fr,hl,_⟩:=ZjI hc0;refine ⟨a.block,a.off,l,T,fr,by cases a;simp_all,hl,λ i v hv=>?_⟩
    -- which row, which place
    have hlen:=hwid.len;rw [List.length_map] at hlen;have hi:i<(xs.map Tr.cells).flatten.length:=(List.getElem?_eq_some_iff.1 hv).1;have hq:i / ue.size<xs.length:=by
     rw [hlen] at hi;exact Nat.div_lt_of_lt_mul (by rwa [Nat.mul_comm])
    have hm:i % ue.size<ue.size:=Nat.mod_lt _ (by omega);have hcc:=hcell (i / ue.size) hq (i % ue.size) hm;rw [Zue a _ _ hs,show i / ue.size * ue.size + i % ue.size=i by rw [Nat.mul_comm];exact Nat.div_add_mod _ _] at hcc;have e1:(xs.map Tr.cells).flatten[i]? =(xs[i / ue.size].cells)[i % ue.size]?:=by
     have h1:i=i / ue.size * ue.size + i % ue.size:=by rw [Nat.mul_comm];exact (Nat.div_add_mod _ _).symm
     conv=>lhs;rw [h1]
     rw [<-List.getElem?_drop,hwid.drop_flat,List.drop_eq_getElem_cons (by simpa using hq),List.flatten_cons,List.getElem?_append_left (by rw [List.getElem_map,hxl0 _ hq];exact hm),List.getElem_map]
    rw [<-e1,hv] at hcc;simp only [World.cell?,hl,Option.isSome_none,Bool.false_eq_true,if_false] at hcc;exact hcc
  ·rename_i fs ht
   split at h
   case h_2=>cases h
   rename_i us hus;split at h
   case h_2=>cases h
   rename_i hc;have hc:=Nat.eq_of_beq_eq_true hc;cases h;obtain ⟨xs,n,_,_,hl,hxl,hf⟩:=DataW.trod_struct ht hy;obtain ⟨ts,hts,hto⟩:=ZhD (d:=d) (λ h h2=>Zi4 h h2) (n:=n) (cs:=cs) (xs:=xs) fs.toList 0 us hus (λ i f hfi=>by
    have hfi2:fs[i]? =some f:=by simpa using hfi
    have hlt:i<xs.length:=by rw [hxl];exact (Array.getElem?_eq_some_iff.1 hfi2).1
    exact ⟨xs[i],by rw [hf i f hfi2];exact List.getElem?_eq_getElem hlt⟩) (by omega)
   refine ⟨.st ts,?_,by unfold Tr.Ok;exact hto⟩;unfold Tr.cells;rw [hts,List.drop_zero,List.take_of_length_le (by omega)]
  ·rename_i m e ht
   split at h
   case h_2=>cases h
   rename_i ue hue;split at h
   case h_2=>cases h
   rename_i hc;simp only [Bool.and_eq_true] at hc;have hc1:=Nat.eq_of_beq_eq_true hc.1;have hc2:=Nat.eq_of_beq_eq_true hc.2;cases h;obtain ⟨xs,n,_,_,hl,hxl,hf⟩:=DataW.trod_array ht hy;obtain ⟨ts,hts,hto⟩:=Zkc (n:=n) (u:=ue) (s:=ue.size) (m:=m) (cs:=cs) (by rw [hl,hc2]) rfl (λ i hi=>by
    have:=hf i hi;rw [hc1,List.getElem?_eq_getElem (by omega)] at this;exact Zi4 hue this)
   exact ⟨.st ts,by unfold Tr.cells;exact hts,by unfold Tr.Ok;exact hto⟩
  ·cases h
theorem Zup {d:Nat} {t:TypeId} {v:Value} {dt:DataW H} {p:List MemPlace} {u:U} (hu:uOf P d t=some u) (h:DataW.Trod enc P W base spare held t v dt p):Zwx (Cx.of W) u v.cells.toList:=by
 obtain ⟨fuel,hf⟩:=h;exact Zi4 hu hf
theorem Zli {α:Type} {R:Cx} {u:U} {s:Sl} {xs:List Tr} (g:α->List Value) (Q:α->Prop) (ho:Tr.Ok R (.sl u) (.sl s xs)) (h:∀ x:Tr,x.Ok R u->∃ e:α,x.cells=g e/\Q e):
  ∃ es:List α,RoN u.size R s (es.map g)/\es.length<=maxLen/\∀ e∈es,Q e:=by
 unfold Tr.Ok at ho;obtain ⟨⟨h1,_⟩,h2,h3⟩:=ho;have key:∀ l:List Tr,(∀ x∈l,x.Ok R u)->∃ es:List α,l.map Tr.cells=es.map g/\es.length=l.length/\∀ e∈es,Q e:=λ l=>by
  induction l with
  |nil=>exact λ _=>⟨[],rfl,rfl,λ _ h=>by cases h⟩
  |cons x l ih=>
   intro hl;obtain ⟨es,h1,h2,h3⟩:=ih λ y hy=>hl y (List.mem_cons_of_mem _ hy);obtain ⟨e,he,hq⟩:=h x (hl x List.mem_cons_self);exact ⟨e::es,by rw [List.map_cons,List.map_cons,he,h1],by simp [h2],λ y hy=>by
    rcases List.mem_cons.1 hy with rfl|hy
    ·exact hq
    ·exact h3 y hy⟩
 obtain ⟨es,e1,e2,e3⟩:=key xs (Tr.okA h3);rw [e1] at h1;exact ⟨es,h1,by omega,e3⟩
theorem ZrU {R:Cx} {u:U} {s:Sl} {xs:List Tr} (ho:Tr.Ok R (.sl u) (.sl s xs)):s.len<=s.cap:=by
 unfold Tr.Ok at ho;exact ho.1.2
theorem RoN.one {R:Cx} {s:Sl} {vs:List Value} (h:RoN 1 R s (vs.map λ v=>[v])) (hb:vs.length<=maxLen):Ro R s vs:=by
 refine ⟨by have:=h.len;simpa using this,by unfold maxLen at hb;omega,λ hne=>?_⟩;obtain ⟨b,off,l,T,fr,h1,h2,h3⟩:=h.mem (by simpa using hne);refine ⟨b,off,l,T,fr,h1,h2,λ i v hv=>h3 i v ?_⟩;have:(vs.map λ v=>[v]).flatten=vs:=by
  clear h3 h hb hne hv
  induction vs with
  |nil=>rfl
  |cons v vs ih=>simp [ih]
 rw [this];exact hv
theorem ZkH {R:Cx} {k:IntKind} {s:Sl} {xs:List Tr} (ho:Tr.Ok R (.sl (.int k)) (.sl s xs)):∃ zs:List Int,Ro R s (zs.map (Value.int k))/\zs.length<=maxLen/\∀ z∈zs,(Lit.int k z).wf=true:=by
 obtain ⟨zs,h1,h2,h3⟩:=Zli (λ z:Int=>[Value.int k z]) (λ z=>(Lit.int k z).wf=true) ho λ x hx=>by
  cases x<;>simp only [Tr.Ok] at hx;rename_i k' z;obtain ⟨rfl,hw⟩:=hx;exact ⟨z,rfl,hw⟩
 refine ⟨zs,RoN.one ?_ (by simpa using h2),h2,h3⟩;rw [List.map_map];exact h1
end
end
section
open Go.ChangeShapes Go.WideShapes Go.ChangeAt Go.RowKit
variable {H:Type} {enc:TypeId × Value->H} {P:Program} {W:World} {base:Nat} {spare:Nat->Bool} {held:Bool}
def ZjO (P:Program) (t:TypeId) (d:DataW H):Prop:=∀ k∈d.weights P t,k<=reachBytes
theorem ZpS {ts:List TypeId} {ds:List (DataW H)} {j:Nat} {t:TypeId} {d:DataW H} (h:(DataW.weightsEach P ts ds).all (·<=reachBytes)=true) (ht:ts[j]? =some t) (hd:ds[j]? =some d):ZjO P t d:=λ k hk=>by
 have:=List.all_eq_true.1 h _ (DataW.weights_mem_each ht hd k hk);simpa using this
theorem ZlI {fuel:Nat} {t e:TypeId} {a:Option Addr} {n c:Nat} {d:DataW H} {p:List MemPlace} (ht:P.underlying t=some (.slice e)) (h:DataW.trod enc P W base spare held fuel t [.slice a n c]=some (d,p)) (hw:ZjO P t d):n * P.bytesOf e<=reachBytes:=by
 rcases DataW.trod_slice ht h with ⟨h1,_⟩|⟨a',len,cap,elems,rest,m,_,h1,h2,_,_,_,hel,_⟩
 ·simp only [List.cons.injEq,Value.slice.injEq,and_true] at h1
  rw [h1.2.1];omega
 ·simp only [List.cons.injEq,Value.slice.injEq,and_true] at h1
  have hd:d=.slice (elems.map (·.1)) (rest.map (·.1)):=congrArg Prod.fst h2;have:=hw ((elems.length + rest.length) * P.bytesOf e) (by rw [hd];simp [DataW.weights,ht]);rw [h1.2.1,<-hel];exact Nat.le_trans (Nat.mul_le_mul_right _ (by omega)) this
theorem Zhw {fuel:Nat} {t T:TypeId} {fs:Array Field} {cs:List Value} {d:DataW H} {p:List MemPlace} (i off n:Nat) (ht:P.underlying t=some (.struct fs)) (h:DataW.trod enc P W base spare held fuel t cs=some (d,p)) (hw:ZjO P t d)
  (hf:(fs[i]?).map (λ f=>(f.type,f.offset))=some (T,off)) (hn:P.cellsOf T=n):∃ (fuel':Nat) (d':DataW H) (p':List MemPlace),DataW.trod enc P W base spare held fuel' T ((cs.drop off).take n)=some (d',p')/\ZjO P T d':=by
 obtain ⟨xs,m,_,hx,_,hl,hxs⟩:=DataW.trod_struct ht h;cases hfi:fs[i]? with
 |none=>rw [hfi] at hf;cases hf
 |some f=>
  rw [hfi] at hf;simp only [Option.map_some,Option.some.injEq,Prod.mk.injEq] at hf;obtain ⟨rfl,rfl⟩:=hf;have hlt:i<xs.length:=by rw [hl];exact (Array.getElem?_eq_some_iff.1 hfi).1
  have h2:=hxs i f hfi;rw [List.getElem?_eq_getElem hlt,hn] at h2;refine ⟨m,xs[i].1,xs[i].2,h2,λ k hk=>hw k ?_⟩;have hd:d=.agg (xs.map (·.1)):=congrArg Prod.fst hx;rw [hd];simp only [DataW.weights,ht];refine DataW.weights_mem_each (j:=i) (t:=f.type) (d:=xs[i].1) ?_ ?_ k hk
  ·rw [List.getElem?_map,Array.getElem?_toList,hfi];rfl
  ·rw [List.getElem?_map,List.getElem?_eq_getElem hlt];rfl
theorem Zre:reachBytes=140737488351232:=rfl
end
end Go.VC
namespace Go.Proofs.YtkfedbncmfnpnaaGreatDoor
section
open Go Go.VC Go.ChangeShapes Go.WideShapes Go.ChangeAt Go.RowKit
variable {H:Type} {enc:TypeId × Value->H} {P:Program} {W:World} {r:Reach} {b0:Nat} {v:Value} {d:DataW H} {p:List MemPlace} {spare:Nat->Bool} {held:Bool}
theorem Zee {e:TypeId}:∀ {ds:List (DataW H)} {d:DataW H},d∈ds->∀ n∈d.weights P e,n∈DataW.weightsAll P e ds
 |x::ds,d,hd,n,hn=>by
  unfold DataW.weightsAll;rcases List.mem_cons.1 hd with rfl|hd
  ·exact List.mem_append_left _ hn
  ·exact List.mem_append_right _ (Zee hd n hn)
theorem ZiD {fuel:Nat} {t e:TypeId} {a:Option Addr} {n c:Nat} (ht:P.underlying t=some (.slice e)) (h:DataW.trod enc P W b0 spare held fuel t [.slice a n c]=some (d,p)) (hw:ZjO P t d) {k:Nat} (hk:k<n):
  ∃ a' cs fuel' d' p',a=some a'/\W.cells? b0 (a'.add (k * P.cellsOf e)) (P.cellsOf e)=some cs/\DataW.trod enc P W b0 spare held fuel' e cs=some (d',p')/\ZjO P e d':=by
 rcases DataW.trod_slice ht h with ⟨h1,_⟩|⟨a',len,cap,elems,rest,m,_,h1,h2,_,_,_,hel,hall,_⟩
 ·simp only [List.cons.injEq,Value.slice.injEq,and_true] at h1
  omega
 ·simp only [List.cons.injEq,Value.slice.injEq,and_true] at h1
  obtain ⟨ha,hn,_⟩:=h1;have hke:k<elems.length:=by omega
  have h3:=hall k (by omega);rw [List.getElem?_eq_getElem hke,Option.bind_eq_some_iff] at h3;obtain ⟨cs,h3,h4⟩:=h3;have hd:d=.slice (elems.map (·.1)) (rest.map (·.1)):=congrArg Prod.fst h2;refine ⟨a',cs,m,elems[k].1,elems[k].2,ha,h3,h4,λ q hq=>hw q ?_⟩;rw [hd];simp only [DataW.weights,ht];exact List.mem_cons_of_mem _ (List.mem_append_left _ (Zee (List.mem_map_of_mem (List.getElem_mem hke)) q hq))
structure EsR (R:Cx) (s:Sl) (dl:List DE4):Prop where
 rows:RoN 4 R s (dl.map ZaU)
 each:DsR R dl
 by':∀ e∈erE dl,∀ y∈e.dt,0<=y/\y<256
 cap:s.len<=s.cap
abbrev Zwr:U:=.st [.int .i64,.int .i64,.int .i64,.sl (.int .u8)]
theorem Zry {R:Cx} {x:Tr} (ho:x.Ok R Zwr):∃ e:DE4,x.cells=ZaU e/\SlR R.m e.1 (b8 e.2.dt)/\∀ y∈e.2.dt,0<=y/\y<256:=by
 cases x<;>simp only [Tr.Ok] at ho;rename_i xs
 match xs,ho with
 |[x0,x1,x2,x3],ho=>
  simp only [Tr.OkL,and_true] at ho;obtain ⟨h0,h1,h2,h3⟩:=ho;cases x0<;>simp only [Tr.Ok] at h0;rename_i k0 n0;obtain ⟨rfl,_⟩:=h0;cases x1<;>simp only [Tr.Ok] at h1;rename_i k1 n1;obtain ⟨rfl,_⟩:=h1;cases x2<;>simp only [Tr.Ok] at h2;rename_i k2 n2;obtain ⟨rfl,_⟩:=h2;cases x3<;>simp only [Tr.Ok] at h3;rename_i sd dx;have h3:Tr.Ok R (.sl (.int .u8)) (.sl sd dx):=by unfold Tr.Ok;exact h3
  obtain ⟨bs,a1,_,a3⟩:=ZkH h3;refine ⟨(sd,⟨n0,n1,n2,bs⟩),rfl,⟨a1.len,ZrU h3,a1.mem⟩,λ z hz=>?_⟩;have:=a3 z hz;simp [Lit.wf,IntKind.min,IntKind.max,IntKind.bits,IntKind.signed] at this;omega
theorem Zoi {s:Sl} {dl:List DE4} (h:DataW.Trod enc Tryz.prog W 0 (λ _=>true) true 40 (.slice s.a s.len s.cap) d p) (hw:ZjO Tryz.prog 40 d) (hr:EsR (Cx.of W) s dl):∀ e∈dl,e.2.dt.length<=140737488351232:=λ e he=>by
 obtain ⟨k,hk,rfl⟩:=List.mem_iff_getElem.1 he;obtain ⟨fuel,h⟩:=h;have h:DataW.trod enc Tryz.prog W 0 (λ _=>true) true fuel 40 [.slice s.a s.len s.cap]=some (d,p):=h;have hl:=hr.rows.len;rw [List.length_map] at hl;obtain ⟨a',cs,f1,d1,p1,ha,hc,h1,w1⟩:=ZiD Tryz.underlying40 h hw (k:=k) (by omega);have hce:Tryz.prog.cellsOf 55=4:=by kernel_rfl
 rw [hce] at hc;obtain ⟨hcl,hcc⟩:=ZcR hc;obtain ⟨b,off,hb,hat⟩:=(hr.rows.reads (eqS (Sat.start W))).2 k (by simpa using hk);have hat:=hat 3 [.slice dl[k].1.a dl[k].1.len dl[k].1.cap] (by rw [List.getElem_map];exact ⟨rfl,trivial⟩) W rfl 0 _ rfl;rw [ha] at hb;obtain rfl:=Option.some.inj hb;have h3:cs[3]? =some (.slice dl[k].1.a dl[k].1.len dl[k].1.cap):=by
  rw [<-hcc 3 (by omega)];simpa [Zf,Nat.add_assoc] using hat
 obtain ⟨f2,d2,p2,h2,w2⟩:=Zhw (T:=53) 3 3 1 Tryz.underlying55 h1 w1 (by kernel_rfl) (by kernel_rfl);have hcd:(cs.drop 3).take 1=[.slice dl[k].1.a dl[k].1.len dl[k].1.cap]:=by
  match cs,hcl,h3 with
  |[c0,c1,c2,c3],_,h3=>simp at h3;simp [h3]
 rw [hcd] at h2;have h4:=ZlI Tryz.underlying53 h2 w2;rw [show Tryz.prog.bytesOf 5=1 by kernel_rfl,Zre] at h4;have:=hr.each.len he;omega
theorem ZsB (W : World) (h : Lib.TabIs Tryz.prog W "internal/strconv.uint64pow10" .u64 Lib.pow10Tab) : Zec (Cx.of W) := fun Hs w hw => by
 have key:∀ {Hs:List HP} {R:Cx},Sat R Hs w->∀ b o,R.m b=some o->w.heap[b]? =some o:=λ {Hs}=>by
  induction Hs with
  |nil=>exact λ h=>h.1
  |cons H Hs ih=>
   intro R h b o hb;obtain ⟨g,_,_,h⟩:=h;refine ih h b o ?_;simp only [Cx.add,ZS.add,hb]
 unfold Lib.TabIs World.var? at h ⊢;rw [Option.bind_eq_some_iff] at h;obtain ⟨g,hg,h⟩:=h;rw [hg,Option.bind_some];split at h
 ·rename_i cs T fr hh
  have:=key hw g _ (show (Cx.of W).m g=_ from hh)
  rw [this];exact h
 ·cases h
theorem Zrg {l1 l2 : String × DataW Unit} {rest : List (String × DataW Unit)} (h : laidMet Tryz.prog (l1 :: l2 :: ("internal/strconv.uint64pow10", Lib.tabData .u64 Lib.pow10Tab) :: rest) W) : Zec (Cx.of W) :=
 ZsB W (Lib.tabIs_of_head (g:=0) (t:=250) (e:=148) (n:=20) (by kernel_rfl) (by kernel_rfl) (by kernel_rfl) (by kernel_rfl) (by kernel_rfl) (by kernel_rfl) h.tail.tail)
theorem Zwz {n:Int} (h:(Lit.int .i64 n).wf=true): -9223372036854775808<=n/\n<9223372036854775808:=by
 simp [Lit.wf,IntKind.min,IntKind.max,IntKind.bits,IntKind.signed] at h;omega
end
section
open Go Go.VC Tryz
theorem Zk8 {β:Type} {k k2:ByteArray} {g:β->β} (h:k2≠k) {l:List (ByteArray × β)}:Zw k (ZdJ k2 g l)=Zw k l:=Zb4 h.symm
theorem Zgh {k:ByteArray}:∀ (ks:List ByteArray) (keep:List Int) {fs:Fs} {f:Fl},Zw k fs=some f->f.sure<=f.b.length->∃ m,f.sure<=m/\m<=f.b.length/\(Zw k (Zak ks keep fs)=some ⟨f.b.take m,m⟩\/Zw k (Zak ks keep fs)=some f)
 |[],keep,fs,f,h,hs=>⟨f.b.length,hs,Nat.le_refl _,.inr h⟩
 |k2::ks,keep,fs,f,h,hs=>by
  rw [Zak];by_cases hk:k2=k
  ·subst hk
   have hst:=ZfX keep.head? f hs;obtain ⟨m,h1,h2,h3⟩:=Zgh ks keep.tail (ZdW (g:=ZcS keep.head?) h) (by unfold ZcS;simp only [List.length_take];omega);unfold ZcS at h1 h2 h3;simp only [List.length_take] at h1 h2;refine ⟨m,by omega,by omega,?_⟩;have hm:m=f.sure + Zj4 keep.head? f:=by omega
   left;rw [hm];rcases h3 with h3|h3
   ·refine h3.trans ?_
    rw [hm];simp [List.take_take]
   ·exact h3
  ·exact Zgh ks keep.tail (by rw [Zk8 hk];exact h) hs
theorem Zhz {fs fs':Fs} (h:fs'.map (·.1)=fs.map (·.1)) {k:ByteArray} (hk:Zw k fs'≠none):Zw k fs≠none:=λ hn=>by
 obtain ⟨v,hv⟩:=Option.ne_none_iff_exists'.1 hk;obtain ⟨a,b,hab,_⟩:=ZI hv;have:k∈fs.map (·.1):=by rw [<-h,hab];simp
 exact ZQ hn this
end
section
open Go Go.VC Tryz
variable {R R':Cx} {Hs Rest:List HP} {w:World} {p d:Nat} {x:WSt} {s sg:Sl} {ds:List DE4} {st:DS}
theorem ZqI {st:DS} (h:Zb9 st.fs) (keep:List Int):Zb9 (ZaM st keep).fs:=by
 have key:∀ (ks:List ByteArray) (keep:List Int) (fs:Fs),Zb9 fs->Zb9 (Zak ks keep fs):=λ ks=>by
  induction ks with
  |nil=>exact λ _ _ h=>h
  |cons k ks ih=>exact λ keep fs h=>ih _ _ (ZqC h λ f hf x hx=>hf x (List.mem_of_mem_take hx))
 exact key _ _ _ h
end
section
open Go Go.VC Tryz
structure OnD (st:DS) (av:List Sc) (c:Sc) (k:Nat):Prop where
 inv:Inv st
 old:∀ s∈av,Zw (Za s.num) st.fs=some ⟨s.bytes,s.bytes.length⟩
 last:Zw (Za c.num) st.fs=some ⟨c.bytes,k⟩
 only:∀ q,Zw q st.fs≠none->∃ s∈av++[c],q=Za s.num
theorem OnD.kl {st:DS} {av:List Sc} {c:Sc} {k:Nat} (o:OnD st av c k):k<=c.bytes.length:=by
 obtain ⟨a,b,hab,_⟩:=ZI o.last;exact o.inv.sure (Za c.num,⟨c.bytes,k⟩) (by rw [hab];simp)
theorem OnD.fs {st st':DS} {av:List Sc} {c:Sc} {k:Nat} (o:OnD st av c k) (i:Inv st') (h:st'.fs=st.fs):OnD st' av c k:=
 ⟨i,by rw [h];exact o.old,by rw [h];exact o.last,by rw [h];exact o.only⟩
theorem ZdD:∀ {cs:List Sc} {p:Option Nat} {g a b:Lg},Z8 p g cs a->Z8 p g cs b->a=b
 |[],p,g,a,b,h1,h2=>by cases h1;cases h2;rfl
 |c::cs,p,g,a,b,h1,h2=>by
  cases h1 with
  |first ho hl hr hc=>
   cases h2 with
   |first _ _ hr2 hc2=>
    rw [hr] at hr2;cases hr2;exact ZdD hc hc2
  |more ho hn hx hr hc=>
   cases h2 with
   |more _ _ _ hr2 hc2=>
    rw [hr] at hr2;cases hr2;exact ZdD hc hc2
theorem Zk9 {st:DS} (c:Znh st) {k:ByteArray} {f:Fl} (hk:Zm k=true) (hf:Zw k st.fs=some f):(Zi st k).2=0:=by
 unfold Zi;rw [hk,ZeN c];unfold ZX;rw [hf,if_pos (show (some f).isSome=true from rfl)]
structure OnC (st:DS) (av:List Sc) (c:Sc) (k m:Nat):Prop where
 inv:Inv st
 calm:Znh st
 old:∀ s∈av,ZC st (Za s.num)=(s.bytes,0)
 last:∃ s,Zw (Za c.num) st.fs=some ⟨c.bytes.take m,s⟩
 km:k<=m
 mc:m<=c.bytes.length
 nums:ZN (Zr st.fs)=av.map (·.num)++[c.num]
 scr:Zh ∉ Zr st.fs
theorem OnD.crash {st:DS} {av:List Sc} {c:Sc} {k:Nat} {g:Lg} (o:OnD st av c k) (hc:Z8 none ⟨0,[]⟩ (av++[c]) g) (keep:List Int):∃ m,OnC (ZaM st keep) av c k m:=by
 obtain ⟨st4,hst4⟩:∃ s,s=ZaM st keep:=⟨_,rfl⟩;have hkeys:st4.fs.map (·.1)=st.fs.map (·.1):=by rw [hst4];exact Za8 _ _ _
 have hold4:∀ c∈av,Zw (Za c.num) st4.fs=some ⟨c.bytes,c.bytes.length⟩:=λ c hc=>by rw [hst4];exact Zgi _ _ (o.old c hc)
 obtain ⟨m,s4,hm1,hm2,hlast4⟩:∃ m s,k<=m/\m<=c.bytes.length/\Zw (Za c.num) st4.fs=some ⟨c.bytes.take m,s⟩:=by
  obtain ⟨m,h1,h2,h3⟩:=Zgh (Zr st.fs) keep o.last o.kl;simp only at h1 h2 h3;rcases h3 with h3|h3
  ·exact ⟨m,m,h1,h2,by rw [hst4];exact h3⟩
  ·exact ⟨_,_,o.kl,Nat.le_refl _,by rw [hst4,List.take_length];exact h3⟩
 have i4:Inv st4:=by rw [hst4];exact ZkU o.inv keep
 have c4:Znh st4:=by rw [hst4];exact Zou _ _
 rw [<-hst4];have hperm:st4.fs.Perm (ZdO (fOf st4) (av++[c])):=by
  have hu:=Zfr (f:=fOf st4) hc.nums.2 λ c hm=>(ZbO hc c hm).2;refine Ze8 i4.uni hu λ q=>?_;rcases hg:Zw q (ZdO (fOf st4) (av++[c])) with _|v
  ·rcases hk:Zw q st4.fs with _|v
   ·rfl
   ·exfalso
    obtain ⟨c',hm,rfl⟩:=o.only q (Zhz hkeys (by rw [hk];simp));have:=Zb5 hu (List.mem_map_of_mem (f:=λ c=>(Za c.num,fOf st4 c)) hm);rw [hg] at this;cases this
  ·obtain ⟨x,y,hxy,_⟩:=ZI hg
   have hm:(q,v)∈ZdO (fOf st4) (av++[c]):=by rw [hxy];simp
   obtain ⟨c',hmc,he⟩:=List.mem_map.1 hm;cases he;unfold fOf;rcases List.mem_append.1 hmc with hmc|hmc
   ·rw [hold4 c' hmc];rfl
   ·rw [List.mem_singleton.1 hmc,hlast4];rfl
 have hnums:=ZmA hperm hc.nums.2 (ZbO hc);rw [List.map_append] at hnums;exact ⟨m,i4,c4,λ s hs=>by rw [Zcd c4.off (Z5 _) (hold4 s hs)],⟨s4,hlast4⟩,hm1,hm2,hnums,Zjd hperm hc.nums.2 λ c hm=>(ZbO hc c hm).2⟩
structure ZqT (st:DS) (lim:Int) (g:Lg) (segs:List Sg):Prop where
 err:Zaz st lim=0
 got:Zz st=⟨g,segs⟩
theorem ZiS {st st4:DS} {av:List Sc} {c:Sc} {k m:Nat} {g:Lg} {lim:Int} (o:OnC st4 av c k m) (hc:Z8 none ⟨0,[]⟩ (av++[c]) g) (hk:(ZH c.num c.next).length<=k) (h2:32<=lim) (h3:lim<=65536) (hr:2 * total st4.fs<=st4.room):
  ∃ j g3,j<=c.bs.length/\(∀ i,i<=c.bs.length->Zo (hdB c.num c.next::c.bs.take i)<=k->i<=j)/\Z8 none ⟨0,[]⟩ (av++[⟨c.num,c.next,c.bs.take j⟩]) g3/\ZqT st4 lim g3 (List.map Sc.sg (av++[⟨c.num,c.next,c.bs.take j⟩])):=by
 obtain ⟨g1,hca,hcl⟩:=hc.split;obtain ⟨s4,hlast4⟩:=o.last;have hrd1:∀ c∈av,(ZC st4 (Za c.num)).1=c.bytes:=λ c hc=>by rw [o.old c hc]
 have hrd2:(ZC st4 (Za c.num)).1=c.bytes.take m:=by rw [Zcd o.calm.off (Z5 _) hlast4]
 have hl1:=Zga (rd:=λ n=>(ZC st4 (Za n)).1) (segs:=[]) (rest:=[c.num]) hca hrd1;have hld:Zj st4=Zaq (λ n=>(ZC st4 (Za n)).1) (Za0 none av) g1 (av.map Sc.sg) [c.num]:=by
  unfold Zj;rw [o.nums];simpa using hl1
 have hoC:c.Ok:=hc.ok c (by simp);obtain ⟨g1',hp',hx',hg',hrun,hre⟩:∃ g1':Lg,(Za0 none av=none\/(Za0 none av).map (· + 1)=some c.num)/\(Za0 none av≠none->c.next=g1.last + 1)/\
   (if Za0 none av=none then (⟨c.next - 1,g1.l⟩:Lg) else g1)=g1'/\Zea g1' c.bs=some g/\∀ (j:Nat) (g3:Lg),Zea g1' (c.bs.take j)=some g3->Z8 (Za0 none av) g1 [⟨c.num,c.next,c.bs.take j⟩] g3:=by
  have hoj:∀ j,(⟨c.num,c.next,c.bs.take j⟩:Sc).Ok:=λ j=>⟨hoC.n0,hoC.n1,hoC.x0,hoC.x1,λ b hb=>hoC.bs b (List.mem_of_mem_take hb)⟩;generalize Za0 none av=p at hcl ⊢;cases hcl with
  |first ho hl hr hc=>cases hc;exact ⟨_,.inl rfl,λ h=>absurd rfl h,by rw [if_pos rfl,hl],hr,λ j g3 h=>.first (hoj j) hl h .nil⟩
  |more ho hn hx hr hc=>cases hc;exact ⟨_,.inr (by simp only [Option.map_some];rw [<-hn]),λ _=>hx,if_neg (by simp),hr,λ j g3 h=>.more (hoj j) hn hx h .nil⟩
 have hcut:=Zrv (rd:=λ n=>(ZC st4 (Za n)).1) (segs:=av.map Sc.sg) (k:=m) hoC hp' hx' hg' hrun hrd2;have ho:¬ (lim<32\/lim>65536):=by omega
 have hkm:=o.km;rcases hcut with ⟨_,hk'⟩|⟨j,g3,hj,hr3,hmax,hle,hcase⟩
 ·exfalso;omega
 ·refine ⟨j,g3,hj,λ i hi hs=>hmax i hi (by omega),hca.app (hre j g3 hr3),?_⟩
  obtain ⟨c',hc'⟩:∃ c':Sc,c'=⟨c.num,c.next,c.bs.take j⟩:=⟨_,rfl⟩;have hsl3:Zo (hdB c.num c.next::c.bs.take j)=c'.bytes.length:=by rw [hc'];exact (Zao _).symm
  have hsegs:(av++[c']).map Sc.sg=av.map Sc.sg++[⟨c.num,c.next,c'.bytes.length⟩]:=by rw [List.map_append,hc'];rfl
  rw [<-hc',hsegs];rw [hsl3] at hcase hle;rcases hcase with ⟨e1,_,e3⟩|e3
  ·have hl4:Zj st4=⟨g3,av.map Sc.sg++[⟨c.num,c.next,c'.bytes.length⟩],none,[]⟩:=by
    rw [hld];rw [<-e1] at e3;exact e3
   have hrec:recoverD st4=(st4,0):=by
    unfold recoverD;simp only [hl4,if_neg o.scr,Z3,if_true,ZF];rw [if_neg (by simp)]
   refine ⟨?_,?_⟩
   ·unfold Zaz
    rw [if_neg ho,o.calm.off,hrec];rfl
   ·unfold Zz
    simp only [hl4];rw [if_neg (by simp)]
  ·have hl4:Zj st4=⟨g3,av.map Sc.sg++[⟨c.num,c.next,((ZC st4 (Za c.num)).1.length:Int)⟩],some ⟨c.num,c.next,c'.bytes.length⟩,[]⟩:=by
    rw [hld];exact e3
   have hin:ZcN (av.map Sc.sg++[⟨c.num,c.next,((ZC st4 (Za c.num)).1.length:Int)⟩]) c.num=true:=by unfold ZcN;simp
   have hrd0:(ZC st4 (Za c.num)).2=0:=by rw [Zcd o.calm.off (Z5 _) hlast4]
   have hx0:=hoC.x0;have hcond:¬ (c.next=0\/ZcN (av.map Sc.sg++[⟨c.num,c.next,((ZC st4 (Za c.num)).1.length:Int)⟩]) c.num=false):=λ h=>h.elim (λ h=>by omega) (λ h=>by rw [hin] at h;cases h);obtain ⟨bb,hbb⟩:∃ bb,bb=(ZC st4 (Za c.num)).1.take (c'.bytes.length:Int).toNat:=⟨_,rfl⟩;have hbt:(bb.length:Int)<=total st4.fs:=by
    have:=ZbH hlast4;rw [hbb,hrd2];simp only [List.length_take] at this ⊢;omega
   obtain ⟨g1,g2,g3',g4⟩:=ZhV o.calm (k:=Zh) (xs:=bb) Zdd (by omega);have hgs:=ZdF (ZcL.1 o.scr) g1;obtain ⟨j1,j2,j3,j4⟩:=Zj2 g2 Zdd hgs;have hne:Zh≠Za c.num:=λ he=>ZO _ he.symm;obtain ⟨l1,_,_,_⟩:=Zlv j2 (Za1 (Z7 o.inv _ _) _).uni hne Zdd (Z5 c.num) (Zdl hgs j1);have hmend:(ZaS st4 (av.map Sc.sg++[⟨c.num,c.next,((ZC st4 (Za c.num)).1.length:Int)⟩]) ⟨c.num,c.next,c'.bytes.length⟩).2=0:=by
    unfold ZaS;simp only;rw [if_neg hcond,if_neg (by rw [hrd0];simp),<-hbb,ZB g1,ZB j1];exact l1
   have hrec:(recoverD st4).2=0:=by
    unfold recoverD;simp only [hl4,if_neg o.scr];rw [ZB (x:=(st4,0)) rfl,ZB hmend];simp only [ZF];rw [ZB rfl,if_neg (by simp)]
   refine ⟨?_,?_⟩
   ·unfold Zaz
    rw [if_neg ho,o.calm.off];exact hrec
   ·unfold Zz
    simp only [hl4];rw [if_neg (by simp)];unfold Zc5;simp only;rw [if_neg hcond,Zem]
theorem Zor {st4:DS} {av:List Sc} {c:Sc} {m:Nat} {g:Lg} {lim:Int} (o:OnC st4 av c 0 m) (hc:Z8 none ⟨0,[]⟩ (av++[c]) g) (hca:Z8 none ⟨0,[]⟩ av g) (hb:c.bs=[]) (hne:av≠[]) (h2:32<=lim) (h3:lim<=65536) (hr:2 * total st4.fs<=st4.room):
  ∃ cs,(cs=av\/cs=av++[c])/\ZqT st4 lim g (cs.map Sc.sg):=by
 by_cases hm:m=c.bytes.length
 ·have o2:OnC st4 av c c.bytes.length m:=⟨o.inv,o.calm,o.old,o.last,by omega,o.mc,o.nums,o.scr⟩
  have hcl:c.bytes=ZH c.num c.next:=by unfold Sc.bytes Sc.recs;rw [hb,Zcf];rfl
  obtain ⟨j,g3,hj,_,hch,hf⟩:=ZiS (st:=st4) o2 hc (by rw [hcl];omega) h2 h3 hr;have hcc:(⟨c.num,c.next,c.bs.take j⟩:Sc)=c:=by rw [hb,List.take_nil,<-hb]
  rw [hcc] at hch hf;exact ⟨_,.inr rfl,by rw [ZdD hch hc] at hf;exact hf⟩
 ·have hmc:=o.mc
  obtain ⟨s4,hlast4⟩:=o.last;have hrd1:∀ c∈av,(ZC st4 (Za c.num)).1=c.bytes:=λ c hc=>by rw [o.old c hc]
  have hrd2:(ZC st4 (Za c.num)).1=c.bytes.take m:=by rw [Zcd o.calm.off (Z5 _) hlast4]
  have hl1:=Zga (rd:=λ n=>(ZC st4 (Za n)).1) (segs:=[]) (rest:=[c.num]) hca hrd1;have hld:Zj st4=Zaq (λ n=>(ZC st4 (Za n)).1) (Za0 none av) g (av.map Sc.sg) [c.num]:=by
   unfold Zj;rw [o.nums];simpa using hl1
  have hoC:c.Ok:=hc.ok c (by simp);have hcl:c.bytes=ZP (hdB c.num c.next):=by unfold Sc.bytes Sc.recs;rw [hb,Zcf]
  have hsc:scan ((λ n=>(ZC st4 (Za n)).1) c.num)=[]:=by
   simp only;rw [hrd2,hcl];have:=ZkK (b:=hdB c.num c.next) (hoC.recs _ (by unfold Sc.recs;simp)).1 (m:=m) (by rw [<-hcl];omega);exact Zbm this
  have hl4:Zj st4=⟨g,av.map Sc.sg,some ⟨c.num,0,0⟩,[]⟩:=by
   rw [hld];have hnx:nxt (λ n=>(ZC st4 (Za n)).1) (Za0 none av) c.num=0:=by unfold nxt ZR;rw [hsc]
   rw [ZaO (.inl hnx),hnx]
  have ho:¬ (lim<32\/lim>65536):=by omega
  have hmend:(ZaS st4 (av.map Sc.sg) ⟨c.num,0,0⟩).2=0:=by
   unfold ZaS;rw [if_pos (.inl rfl)];exact (Zk9 o.calm (Z5 _) hlast4)
  have hrec:(recoverD st4).2=0:=by
   unfold recoverD;simp only [hl4,if_neg o.scr];rw [ZB (x:=(st4,0)) rfl,ZB hmend];simp only [ZF];rw [ZB rfl,if_neg (by simpa using hne)]
  refine ⟨av,.inl rfl,?_,?_⟩
  ·unfold Zaz
   rw [if_neg ho,o.calm.off];exact hrec
  ·unfold Zz
   simp only [hl4];rw [if_neg (by simpa using hne)];unfold Zc5;rw [if_pos (.inl rfl)]
end
section
open Go Go.VC Tryz
def Zd6 (st:DS) (M:Lg->Prop):Prop:=∀ (keep:List Int) (lim:Int),32<=lim->lim<=65536->2 * total st.fs<=st.room->∃ g cs,M g/\Z8 none ⟨0,[]⟩ cs g/\cs≠[]/\(∀ c∈cs,(c.bytes.length:Int)<=st.room)/\ZqT (ZaM st keep) lim g (cs.map Sc.sg)
theorem Zd6.fs {st st':DS} {M:Lg->Prop} (h:Zd6 st M) (e:st'.fs=st.fs) (r:st'.room=st.room):Zd6 st' M:=λ keep lim h2 h3 hr=>by
 have ec:ZaM st' keep=ZaM st keep:=by unfold ZaM;rw [e,r]
 rw [ec];rw [e,r] at hr;rw [r];exact h keep lim h2 h3 hr
theorem Zd6.mono {st:DS} {M N:Lg->Prop} (h:Zd6 st M) (hs:∀ g,M g->N g):Zd6 st N:=λ keep lim h2 h3 hr=>by
 obtain ⟨g,cs,h,hr⟩:=h keep lim h2 h3 hr;exact ⟨g,cs,hs g h,hr⟩
structure Zav (x:WSt) (st:DS) (M:Lg->Prop) (av:List Sc) (c:Sc) (k:Nat):Prop where
 o:OnD st av c k
 ch:Z8 none ⟨0,[]⟩ (av++[c]) x.g
 sg:x.segs=List.map Sc.sg (av++[c])
 hk:(ZH c.num c.next).length<=k
 mem:∀ (j:Nat) (g3:Lg),j<=c.bs.length->(∀ i,i<=c.bs.length->Zo (hdB c.num c.next::c.bs.take i)<=k->i<=j)->Z8 none ⟨0,[]⟩ (av++[⟨c.num,c.next,c.bs.take j⟩]) g3->M g3
theorem Zav.ne {x:WSt} {st:DS} {M:Lg->Prop} {av:List Sc} {c:Sc} {k:Nat} (f:Zav x st M av c k):∀ s∈av,Za s.num≠Za c.num:=λ s hs he=>by
 have hn:=f.ch.nums.2;rw [List.pairwise_append] at hn;have h1:=hn.2.2 s hs c (List.mem_singleton.2 rfl);have:=ZdN (ZbO f.ch s (List.mem_append_left _ hs)).2 (ZbO f.ch c (by simp)).2 he;omega
theorem Zav.sizes {x:WSt} {st:DS} {M:Lg->Prop} {av:List Sc} {c:Sc} {k:Nat} (f:Zav x st M av c k):∀ s∈av++[c],(s.bytes.length:Int)<=st.room:=λ s hs=>by
 have hfull:=f.o.inv.full;rcases List.mem_append.1 hs with hs|hs
 ·have:=ZbH (f.o.old s hs);simp only at this;omega
 ·rw [List.mem_singleton.1 hs]
  have:=ZbH f.o.last;simp only at this;omega
theorem ZuO (c:Sc) (j:Nat):(⟨c.num,c.next,c.bs.take j⟩:Sc).bytes.length<=c.bytes.length:=by
 have e:c.bytes=(⟨c.num,c.next,c.bs.take j⟩:Sc).bytes++Zbu (c.bs.drop j):=by
  unfold Sc.bytes Sc.recs;rw [<-Zfv,List.cons_append,List.take_append_drop]
 rw [e,List.length_append];exact Nat.le_add_right _ _
theorem Zav.found {x:WSt} {st:DS} {M:Lg->Prop} {av:List Sc} {c:Sc} {k:Nat} (f:Zav x st M av c k):Zd6 st M:=λ keep lim h2 h3 hr=>by
 obtain ⟨m,oc⟩:=f.o.crash f.ch keep;have ht:total (ZaM st keep).fs<=total st.fs:=Zc9 _ _ _;obtain ⟨j,g3,hj,hmax,hch,hf⟩:=ZiS (st:=st) oc f.ch f.hk h2 h3 (by show 2 * total (ZaM st keep).fs<=st.room;omega);refine ⟨g3,_,f.mem j g3 hj hmax hch,hch,by simp,λ s hs=>?_,hf⟩;rcases List.mem_append.1 hs with hs|hs
 ·exact f.sizes s (List.mem_append_left _ hs)
 ·rw [List.mem_singleton.1 hs]
  have:=f.sizes c (by simp);have:=ZuO c j;omega
theorem Zav.tail {x:WSt} {st:DS} {M:Lg->Prop} {av:List Sc} {c:Sc} {k:Nat} (f:Zav x st M av c k):Zu x.segs=c.sg:=by
 rw [f.sg,List.map_append];exact ZoT _ _
theorem Zav.self {x:WSt} {st:DS} {M:Lg->Prop} {av:List Sc} {c:Sc} {k:Nat} (f:Zav x st M av c k):M x.g:=by
 refine f.mem c.bs.length x.g (Nat.le_refl _) (λ i h _=>h) ?_;rw [List.take_length];exact f.ch
theorem Zav.mono {x:WSt} {st:DS} {M N:Lg->Prop} {av:List Sc} {c:Sc} {k:Nat} (f:Zav x st M av c k) (h:∀ g,M g->N g):Zav x st N av c k:=⟨f.o,f.ch,f.sg,f.hk,λ j g3 a b d=>h _ (f.mem j g3 a b d)⟩
theorem Zbw (st:DS) (k:ByteArray) (xs:List Int):(Zk st k xs).1.room=st.room:=by
 unfold Zk doing;have hc:(chg st (Zm k)).1.room=st.room:=by
  unfold chg;split
  ·rfl
  ·split
   ·rfl
   ·split<;>rfl
 split
 ·unfold ZaE
  dsimp only;split<;>exact hc
 ·exact hc
theorem Zej (st:DS) (k:ByteArray):(ZA st k).1.room=st.room:=by
 unfold ZA doing;have hc:(chg st (Zm k)).1.room=st.room:=by
  unfold chg;split
  ·rfl
  ·split
   ·rfl
   ·split<;>rfl
 split
 ·unfold Zcv
  split<;>exact hc
 ·exact hc
theorem Zav.put {x:WSt} {st:DS} {M:Lg->Prop} {av:List Sc} {c:Sc} {k:Nat} {b:List Int} {g:Lg} (f:Zav x st M av c k) (hb:ZbV b) (hg:ZV x.g b=some g) (hM:M g):
  ((Zbq x st (ZP b) g).1.2=0->Zav (Zbq x st (ZP b) g).2 (Zbq x st (ZP b) g).1.1 M av ⟨c.num,c.next,c.bs++[b]⟩ k)/\((Zbq x st (ZP b) g).1.2≠0->Zd6 (Zbq x st (ZP b) g).1.1 M)/\(Zbq x st (ZP b) g).1.1.room=st.room:=by
 have hn:(Zu x.segs).num=c.num:=by rw [f.tail];rfl
 unfold Zbq;rw [hn];by_cases hd:(Zk st (Za c.num) (ZP b)).2=0
 ·rw [if_pos hd]
  refine ⟨λ _=>?_,λ h=>absurd hd h,Zbw _ _ _⟩;obtain ⟨c',hc'⟩:∃ c':Sc,c'=⟨c.num,c.next,c.bs++[b]⟩:=⟨_,rfl⟩;have hcb:c'.bytes=c.bytes++ZP b:=by rw [hc'];unfold Sc.bytes Sc.recs;rw [<-List.cons_append,Zfv,Zcf]
  have hoC:=f.ch.ok c (by simp);have hoC':c'.Ok:=by
   rw [hc'];exact ⟨hoC.n0,hoC.n1,hoC.x0,hoC.x1,λ y hy=>by
    rcases List.mem_append.1 hy with hy|hy
    ·exact hoC.bs y hy
    ·rw [List.mem_singleton.1 hy];exact hb⟩
  have hch':Z8 none ⟨0,[]⟩ (av++[c']) g:=by
   obtain ⟨g1,hca,hcl⟩:=f.ch.split;refine hca.app ?_;have hrs:∀ {g1:Lg},Zea g1 c.bs=some x.g->Zea g1 c'.bs=some g:=λ {g1} h=>by
    rw [hc',ZmB,h];simp only [Option.bind_some];unfold Zea;rw [hg];rfl
   generalize Za0 none av=p at hcl ⊢;cases hcl with
   |first ho hl hr hc=>cases hc;exact .first hoC' hl (by rw [hc'] at hrs ⊢;exact hrs hr) .nil
   |more ho hn hx hr hc=>cases hc;exact .more hoC' (by rw [hc'];exact hn) (by rw [hc'];exact hx) (hrs hr) .nil
  rw [<-hc'];refine ⟨⟨Z7 f.o.inv _ _,λ s hs=>by rw [ZaY (f.ne s hs)];exact f.o.old s hs,?_,λ q hq=>?_⟩,hch',?_,by rw [hc'];exact f.hk,λ j g3 hj hmax hch=>?_⟩
  ·have:=Zl9 f.o.last hd
   rw [hcb,hc'];exact this
  ·by_cases hqk:q=Za c.num
   ·exact ⟨c',by simp,by rw [hc'];exact hqk⟩
   ·rw [ZaY hqk] at hq
    obtain ⟨s,hs,rfl⟩:=f.o.only q hq;rcases List.mem_append.1 hs with hs|hs
    ·exact ⟨s,List.mem_append_left _ hs,rfl⟩
    ·rw [List.mem_singleton.1 hs] at hqk;exact absurd rfl hqk
  ·show Zbh x.segs (ZP b).length=_
   unfold Zbh;rw [f.tail,f.sg,List.map_append,List.map_append];show ZaZ (av.map Sc.sg++[c.sg]) _=_;rw [Zem];simp only [List.map_cons,List.map_nil,Sc.sg,hcb,List.length_append];rw [hc']
   push_cast
   rfl
  ·rw [hc'] at hj hmax hch
   simp only [List.length_append,List.length_cons,List.length_nil] at hj hmax hch;by_cases hjl:j<=c.bs.length
   ·rw [List.take_append_of_le_length hjl] at hch
    refine f.mem j g3 hjl (λ i hi hs=>hmax i (by omega) ?_) hch;rw [List.take_append_of_le_length hi];exact hs
   ·have:j=c.bs.length + 1:=by omega
    rw [List.take_of_length_le (by simp;omega)] at hch;rw [<-hc'] at hch;rw [ZdD hch hch'];exact hM
 ·rw [if_neg hd]
  exact ⟨λ h=>absurd h hd,λ _=>f.found.fs (ZiZ hd) (Zbw _ _ _),Zbw _ _ _⟩
theorem Zav.sync {x:WSt} {st:DS} {M:Lg->Prop} {av:List Sc} {c:Sc} {k:Nat} (f:Zav x st M av c k):
  ((ZA st (Za c.num)).2=0->Zav x (ZA st (Za c.num)).1 (λ g=>g=x.g) av c c.bytes.length)/\((ZA st (Za c.num)).2≠0->Zd6 (ZA st (Za c.num)).1 M):=by
 refine ⟨λ hd=>⟨⟨Za1 f.o.inv _,λ s hs=>by rw [Zcb (f.ne s hs)];exact f.o.old s hs,Zdl f.o.last hd,λ q hq=>?_⟩,f.ch,f.sg,by have:=f.o.kl;have:=f.hk;omega,λ j g3 hj hmax hch=>?_⟩,λ hd=>f.found.fs (Zms hd) (Zej _ _)⟩
 ·by_cases hqk:q=Za c.num
  ·exact ⟨c,by simp,hqk⟩
  ·rw [Zcb hqk] at hq;exact f.o.only q hq
 ·have hjl:=hmax c.bs.length (Nat.le_refl _) (by rw [List.take_length];unfold Sc.bytes Sc.recs;rw [Zao];exact Nat.le_refl _)
  rw [List.take_of_length_le hjl] at hch;exact ZdD hch f.ch
end
section
open Go Go.VC Tryz
theorem Zgt (c:Sc):∀ (l:List Sc) (p:Option Nat),Za0 p (l++[c])=some c.num
 |[],_=>rfl
 |_::l,_=>by rw [List.cons_append];exact Zgt c l _
theorem ZpP (st:DS) (n:Nat) (next:Int):(Zae st n next).1.room=st.room:=by
 unfold Zae;by_cases h:(Zk st (Za n) (ZH n next)).2=0
 ·rw [ZB h,Zej,Zbw]
 ·rw [Zx h,Zbw]
theorem Zav.roll {x:WSt} {st:DS} {M:Lg->Prop} {av:List Sc} {c:Sc} {k:Nat} (f:Zav x st M av c k) (hn:c.num + 1<=99999999) (h0:0<=x.g.last) (h1:x.g.last<=1099511627776):
  ((ZU x st).2=0->∃ av' c' k',Zav { x with segs:=Zbb x 0 } (ZU x st).1 M av' c' k'/\c'.num<=c.num + 1)/\((ZU x st).2≠0->Zd6 (ZU x st).1 M)/\(ZU x st).1.room=st.room:=by
 have ht:=f.tail;have hnum:c.sg.num=c.num:=rfl;by_cases hroll:¬ x.lim<=(Zu x.segs).size
 ·have hrw:ZU x st=(st,0):=by unfold ZU;rw [if_neg hroll]
  have hx:Zbb x 0=x.segs:=by unfold Zbb;rw [if_neg λ h=>hroll h.1]
  rw [hrw,hx];exact ⟨λ _=>⟨av,c,k,⟨f.o,f.ch,f.sg,f.hk,f.mem⟩,by omega⟩,λ h=>absurd rfl h,rfl⟩
 have hroll:x.lim<=(Zu x.segs).size:=Classical.not_not.1 hroll;have hrw:ZU x st=Z3 (ZA st (Za c.num)) λ st=>Zae st (c.num + 1) (x.g.last + 1):=by
  unfold ZU;rw [if_pos hroll,ht];rfl
 have hrs:Zbb x 0=x.segs++[⟨c.num + 1,x.g.last + 1,(ZH (c.num + 1) (x.g.last + 1)).length⟩]:=by
  unfold Zbb;rw [if_pos ⟨hroll,rfl⟩,ht];rfl
 rw [hrw,hrs];obtain ⟨fs1,fs2⟩:=f.sync;by_cases hs:¬ (ZA st (Za c.num)).2=0
 ·rw [Zx hs]
  exact ⟨λ h=>absurd h hs,λ _=>fs2 hs,Zej _ _⟩
 have hs:=Classical.not_not.1 hs;rw [ZB hs];have f1:=fs1 hs;have hsr:=Zej st (Za c.num);obtain ⟨st1,hst1⟩:∃ s,s=(ZA st (Za c.num)).1:=⟨_,rfl⟩;rw [<-hst1] at f1 hsr ⊢;obtain ⟨c2,hc2⟩:∃ c2:Sc,c2=⟨c.num + 1,x.g.last + 1,[]⟩:=⟨_,rfl⟩;have hc2b:c2.bytes=ZH (c.num + 1) (x.g.last + 1):=by rw [hc2];unfold Sc.bytes Sc.recs;rw [Zcf];rfl
 have hoc2:c2.Ok:=by rw [hc2];exact ⟨by simp,by simp only;omega,by simp only;omega,by simp only;omega,λ b hb=>by cases hb⟩
 have hch2:Z8 none ⟨0,[]⟩ ((av++[c])++[c2]) x.g:=by
  refine f1.ch.app ?_;rw [Zgt];exact .more hoc2 (by rw [hc2]) (by rw [hc2]) (by rw [hc2];rfl) .nil
 have hne2:∀ s∈av++[c],Za s.num≠Za (c.num + 1):=λ s hs he=>by
  have hnn:=hch2.nums.2;rw [List.pairwise_append] at hnn;have h1:=hnn.2.2 s hs c2 (List.mem_singleton.2 rfl);rw [hc2] at h1;simp only at h1;have:=ZdN (ZbO f.ch s hs).2 (by omega) he;omega
 have hnone:Zw (Za (c.num + 1)) st1.fs=none:=by
  rcases hg:Zw (Za (c.num + 1)) st1.fs with _|v
  ·rfl
  ·obtain ⟨s,hs,he⟩:=f1.o.only (Za (c.num + 1)) (by rw [hg];simp)
   exact absurd he.symm (hne2 s hs)
 have hself:M x.g:=f.self;have hmono:∀ g,(λ g=>g=x.g) g->M g:=λ g h=>by rw [show g=x.g from h];exact hself
 obtain ⟨b,hb⟩:∃ b,b=ZH (c.num + 1) (x.g.last + 1):=⟨_,rfl⟩;have hmk:Zae st1 (c.num + 1) (x.g.last + 1)=Z3 (Zk st1 (Za (c.num + 1)) b) λ st=>ZA st (Za (c.num + 1)):=by rw [hb];rfl
 have hmr:=ZpP st1 (c.num + 1) (x.g.last + 1);rw [hmk] at hmr ⊢;by_cases ha:¬ (Zk st1 (Za (c.num + 1)) b).2=0
 ·rw [Zx ha] at hmr ⊢
  exact ⟨λ h=>absurd h ha,λ _=>(f1.found.fs (ZiZ ha) (Zbw _ _ _)).mono hmono,by rw [hmr,hsr]⟩
 have ha:=Classical.not_not.1 ha;rw [ZB ha] at hmr ⊢;have hga:=ZdF hnone ha;have har:=Zbw st1 (Za (c.num + 1)) b;have hia:=Z7 f1.o.inv (Za (c.num + 1)) b;have hoa:∀ s∈av++[c],Zw (Za s.num) (Zk st1 (Za (c.num + 1)) b).1.fs=some ⟨s.bytes,s.bytes.length⟩:=λ s hs=>by
  rw [ZaY (hne2 s hs)];rcases List.mem_append.1 hs with hs|hs
  ·exact f1.o.old s hs
  ·rw [List.mem_singleton.1 hs];exact f1.o.last
 have hony:∀ q,Zw q (Zk st1 (Za (c.num + 1)) b).1.fs≠none->∃ s∈(av++[c])++[c2],q=Za s.num:=λ q hq=>by
  by_cases hqk:q=Za (c.num + 1)
  ·exact ⟨c2,by simp,by rw [hc2];exact hqk⟩
  ·rw [ZaY hqk] at hq
   obtain ⟨s,hs,rfl⟩:=f1.o.only q hq;exact ⟨s,List.mem_append_left _ hs,rfl⟩
 obtain ⟨st2,hst2⟩:∃ s,s=(Zk st1 (Za (c.num + 1)) b).1:=⟨_,rfl⟩;rw [<-hst2] at hga har hia hoa hony hmr ⊢;have hon:OnD st2 (av++[c]) c2 0:=⟨hia,hoa,by rw [hc2b,<-hb,hc2];exact hga,hony⟩;have hn2:Za c2.num=Za (c.num + 1):=by rw [hc2]
 by_cases hss:¬ (ZA st2 (Za (c.num + 1))).2=0
 ·refine ⟨λ h=>absurd h hss,λ _=>?_,by rw [hmr,hsr]⟩
  refine Zd6.fs (st:=st2) (λ keep lim h2 h3 hr=>?_) (Zms hss) (Zej _ _);obtain ⟨m,oc⟩:=hon.crash hch2 keep;have htc:total (ZaM st2 keep).fs<=total st2.fs:=Zc9 _ _ _;obtain ⟨cs,hcs,hf⟩:=Zor oc hch2 f1.ch (by rw [hc2]) (by simp) h2 h3 (by show 2 * total (ZaM st2 keep).fs<=st2.room;omega);have hsz:=f1.sizes;have hc2sz:(c2.bytes.length:Int)<=st2.room:=by have h1:=ZbH hon.last;have h2:=hon.inv.full;simp only at h1;omega
  rcases hcs with rfl|rfl
  ·exact ⟨x.g,_,hself,f1.ch,by simp,λ s hs=>by rw [har];exact hsz s hs,hf⟩
  ·refine ⟨x.g,_,hself,hch2,by simp,λ s hs=>?_,hf⟩
   rcases List.mem_append.1 hs with hs|hs
   ·rw [har];exact hsz s hs
   ·rw [List.mem_singleton.1 hs];exact hc2sz
 have hss:=Classical.not_not.1 hss;refine ⟨λ _=>⟨av++[c],c2,c2.bytes.length,⟨⟨Za1 hia _,λ s hs=>by rw [Zcb (hne2 s hs)];exact hoa s hs,?_,λ q hq=>?_⟩,hch2,?_,by rw [hc2b,hc2];exact Nat.le_refl _,λ j g3 hj hmax hch=>?_⟩,by rw [hc2];exact Nat.le_refl _⟩,λ h=>absurd hss h,by rw [hmr,hsr]⟩
 ·rw [hn2,Zdl hga hss,hc2b,hb]
 ·by_cases hqk:q=Za (c.num + 1)
  ·exact ⟨c2,by simp,by rw [hc2];exact hqk⟩
  ·rw [Zcb hqk] at hq;exact hony q hq
 ·show x.segs++_=_
  rw [f.sg,List.map_append (l₁:=av++[c])];simp only [List.map_cons,List.map_nil,Sc.sg,hc2b];rw [hc2]
 ·have hcc:(⟨c2.num,c2.next,c2.bs.take j⟩:Sc)=c2:=by rw [hc2];simp
  rw [hcc] at hch;rw [ZdD hch hch2];exact hself
end
section
open Go Go.VC Tryz
theorem ZkR {st:DS} {ok:Bool} {g:DS->DS × Int} {z:Int} (hz:0<=z) (h:∀ st',total (g st').1.fs<=total st'.fs + z):total (doing st ok g).1.fs<=total st.fs + z:=by
 unfold doing;have hf:=(Zbp st ok).1;split
 ·have:=h (chg st ok).1;rw [hf] at this;exact this
 ·rw [hf];omega
theorem ZiY (st:DS) (k:ByteArray) (xs:List Int):total (Zk st k xs).1.fs<=total st.fs + xs.length:=by
 refine ZkR (by omega) λ st'=>?_;unfold ZaE;split
 ·simp only;omega
 ·have:=Zf4 k xs st'.fs;simp only;omega
theorem Zmr (st:DS) (k:ByteArray):total (ZA st k).1.fs<=total st.fs:=by
 have:=ZkR (st:=st) (ok:=Zm k) (g:=Zcv k) (z:=0) (by omega) λ st'=>by
  unfold Zcv;split
  ·have:=ZcA (k:=k) (g:=λ f:Fl=>{ f with sure:=f.b.length }) (λ _=>rfl) st'.fs
   simp only;omega
  ·simp only;omega
 have e:ZA st k=doing st (Zm k) (Zcv k):=rfl;rw [e];omega
theorem Zrt (st:DS) (n:Nat) (next:Int) (hn:n<=99999999) (h1:next<=1099511627777):total (Zae st n next).1.fs<=total st.fs + 21:=by
 have hbl:(ZH n next).length<=21:=by unfold ZH;rw [ZK];have:=ZdV hn h1;omega
 have ha:=ZiY st (Za n) (ZH n next);unfold Zae;by_cases h:(Zk st (Za n) (ZH n next)).2=0
 ·rw [ZB h];have:=Zmr (Zk st (Za n) (ZH n next)).1 (Za n);omega
 ·rw [Zx h];omega
theorem Zq9 (x:WSt) (st:DS) (hn:(Zu x.segs).num + 1<=99999999) (h1:x.g.last<=1099511627776):total (ZU x st).1.fs<=total st.fs + 21:=by
 unfold ZU;split
 ·have hs:=Zmr st (Za (Zu x.segs).num)
  by_cases h:(ZA st (Za (Zu x.segs).num)).2=0
  ·rw [ZB h];have:=Zrt (ZA st (Za (Zu x.segs).num)).1 ((Zu x.segs).num + 1) (x.g.last + 1) hn (by omega);omega
  ·rw [Zx h];omega
 ·simp only;omega
theorem Zsy (x:WSt) (st:DS) (b:List Int) (g:Lg):total (Zbq x st b g).1.1.fs<=total st.fs + b.length:=by
 unfold Zbq;split<;>exact ZiY _ _ _
theorem Zuu (x:WSt):({ x with segs:=Zbb x 0 }:WSt).g=x.g:=rfl
theorem Zav.add {x:WSt} {st:DS} {M:Lg->Prop} {av:List Sc} {c:Sc} {k:Nat} {e:Ey} (f:Zav x st M av c k) (hn:c.num + 1<=99999999) (h0:0<=x.g.last) (ho:e.Ok) (hb:∀ y∈e.dt,0<=y/\y<256) (hi:e.ix=x.g.last + 1) (hM:M ⟨x.g.base,x.g.l++[e]⟩):
  ((Zbx x st e).1.2=0->∃ av' c' k',Zav (Zbx x st e).2 (Zbx x st e).1.1 M av' c' k'/\c'.num<=c.num + 1)/\((Zbx x st e).1.2≠0->Zd6 (Zbx x st e).1.1 M)/\(Zbx x st e).1.1.room=st.room/\total (Zbx x st e).1.1.fs<=total st.fs + (50 + e.dt.length):=by
 have hi1:=ho.i1;have hle:=ZfJ ho;obtain ⟨r1,r2,r3⟩:=f.roll hn h0 (by omega);have hnum:(Zu x.segs).num=c.num:=by rw [f.tail];rfl
 have rt:=Zq9 x st (by omega) (by omega);unfold Zbx;by_cases h:(ZU x st).2≠0
 ·rw [if_pos h];exact ⟨λ h2=>absurd h2 h,λ _=>r2 h,r3,by simp only;omega⟩
 ·rw [if_neg h]
  obtain ⟨av',c',k',f',hc'⟩:=r1 (Classical.not_not.1 h);obtain ⟨p1,p2,p3⟩:=f'.put (b:=Zc6 e) (g:=⟨x.g.base,x.g.l++[e]⟩) (ZjB ho hb) (by rw [Zuu,ZiV ho,if_pos hi]) hM;have pt:=Zsy { x with segs:=Zbb x 0 } (ZU x st).1 (ZP (Zc6 e)) ⟨x.g.base,x.g.l++[e]⟩;rw [ZK] at pt;exact ⟨λ h2=>⟨_,_,_,p1 h2,hc'⟩,p2,by rw [p3,r3],by omega⟩
end
end Go.Proofs.YtkfedbncmfnpnaaGreatDoor

namespace Go.Proofs.YtkfedbncmfnpnaaGreatDoor
section
open Go Go.VC Tryz
variable {R R':Cx} {Hs Rest:List HP} {w:World}
structure StE where
 d:Int
 n:Int
 most:Int
 sl:Sl
 sk:Sl
 dl:List DE4
 keep:List Int
abbrev stV (e:StE):List Value:=[.int .i64 e.d,.int .i64 e.n,.int .i64 e.most,.slice e.sl.a e.sl.len e.sl.cap,.slice e.sk.a e.sk.len e.sk.cap]
structure StR (R:Cx) (s:Sl) (es:List StE):Prop where
 rows:RoN 5 R s (es.map stV)
 ents:∀ e∈es,EsR R e.sl e.dl
 keeps:∀ e∈es,RoI R e.sk e.keep
 light:∀ e∈es,∀ q∈e.dl,q.2.dt.length<=140737488351232
def Zl1 (e:StE):Int:=30 * (e.dl.length:Int) + ZqU (erE e.dl)
def Zcq (es:List StE):Int:=(es.map Zl1).sum
theorem ZhN (es:List StE) {k:Nat} (h:k<es.length):Zcq (es.take (k + 1))=Zcq (es.take k) + Zl1 es[k]:=by
 unfold Zcq;have e:es.take (k + 1)=es.take k++[es[k]]:=(List.take_append_getElem h).symm;rw [e,List.map_append,List.sum_append];simp
theorem Zm9 (e:StE):0<=Zl1 e:=by unfold Zl1;have:=Zi7 (erE e.dl);omega
set_option maxRecDepth 4000 in
theorem ZnU {l:Sl} {es:List StE} (hr:StR R l es) (hw:Sat R Hs w):
  Zq prog 9 #[.slice none 0 0,.slice l.a l.len l.cap] w λ v w'=>∃ b:Bool,v=.bool b/\(b=false->(∀ e∈es.take 100,e.dl.length<=1000)/\Zcq (es.take 100)<=30000)/\Sat R Hs w':=by
 have hlen:l.len=es.length:=by have:=hr.rows.len;simpa using this
 refine Zxp ⟨none,0,0⟩ l _ w ?_;unfold B9;refine ⟨λ n w=>n=0/\Sat R Hs w,⟨λ n i w=>n=0/\i=0/\Sat R Hs w,λ _ _ _=>0,⟨rfl,rfl,hw⟩,?_⟩,?_⟩
 ·clear hw
  rintro _ _ _ w ⟨rfl,rfl,hw⟩;refine ⟨λ _=>False,Br.d (λ h=>by simp at h) (λ _=>⟨rfl,hw⟩),λ _ _ h=>h.elim⟩
 clear hw;rintro _ _ w ⟨rfl,hw⟩;refine ⟨λ n i w=>∃ k:Nat,i=k/\k<=es.length/\k<=100/\n=Zcq (es.take k)/\0<=n/\n<=30000/\(∀ e∈es.take k,e.dl.length<=1000)/\Sat R Hs w,λ _ i _=>100 - i.toNat,⟨0,rfl,by omega,by omega,by simp [Zcq],by omega,by omega,by simp,hw⟩,?_⟩;clear hw;rintro _ n _ w ⟨k,rfl,hk,hk1,hn,hn0,hn1,hall,hw⟩;have fin:es.take k=es.take 100->∃ b:Bool,Value.bool (decide (n>30000))=.bool b/\(b=false->(∀ e∈es.take 100,e.dl.length<=1000)/\Zcq (es.take 100)<=30000)/\Sat R Hs w:=λ e=>⟨_,rfl,λ _=>by rw [<-e];exact ⟨hall,by omega⟩,hw⟩;refine ⟨λ w=>k<es.length/\k<100/\Sat R Hs w,Br.d (λ h=>Br.d (λ h2=>⟨by omega,by omega,hw⟩) (λ h2=>fin (by rw [show k=100 by omega]))) (λ h=>fin (by rw [List.take_of_length_le (by omega),List.take_of_length_le (by omega)])),?_⟩;clear hw fin;rintro _ w ⟨hke,hk2,hw⟩;obtain ⟨e,hee⟩:∃ e,e=es[k]:=⟨_,rfl⟩;have hmem:es[k]∈es:=List.getElem_mem _;have hE:=hr.ents _ hmem;have hL:=hr.light _ hmem;have hstep:=ZhN es hke;rw [<-hee] at hE hL hstep;have hsl:e.sl.len=e.dl.length:=by have:=hE.rows.len;simpa using this
 have hS:ReadsN 5 l (es.map stV) (λ w'=>w'=w):=hr.rows.reads (eqS hw);refine hS.rngM hke λ a _ he=>⟨e.sl,by rw [hee];exact he.f 3 (by exact ⟨rfl,trivial⟩),Br.d (λ _=>⟨true,rfl,(λ h=>by cases h),hw⟩) (λ g1=>?_)⟩;refine hS.rngM hke λ a _ he=>⟨e.sl,by rw [hee];exact he.f 3 (by exact ⟨rfl,trivial⟩),?_⟩;rw [Zg (x:=30 * (e.sl.len:Int)) (by omega) (by omega),Zg (by omega) (by omega)];have hsn:∀ j,ZqU ((erE e.dl).take j) >= 0:=λ j=>Zi7 _;refine ⟨λ m k' w=>∃ j:Nat,k'=j/\j<=e.dl.length/\m=n + 30 * (e.dl.length:Int) + ZqU ((erE e.dl).take j)/\Sat R Hs w,λ _ k' _=>e.dl.length - k'.toNat,⟨0,rfl,Nat.zero_le _,by simp [ZqU,hsl],hw⟩,?_⟩;clear hw hS;rintro _ m _ w ⟨j,rfl,hj,hm,hw⟩;have hel:(erE e.dl).length=e.dl.length:=by simp
 have hS:ReadsN 5 l (es.map stV) (λ w'=>w'=w):=hr.rows.reads (eqS hw);have hnn:=hsn j;refine ⟨λ w=>j<e.dl.length/\m<100000/\Sat R Hs w,hS.rngM hke λ a _ he=>⟨e.sl,by rw [hee];exact he.f 3 (by exact ⟨rfl,trivial⟩),?_⟩,?_⟩
 ·refine Br.d (λ h=>Br.d (λ h2=>⟨by omega,h2,hw⟩) (λ h2=>?_)) (λ h=>?_)
  ·refine Br.d (λ _=>⟨true,rfl,(λ h=>by cases h),hw⟩) (λ h3=>absurd h3 (by omega))
  ·refine Br.d (λ _=>⟨true,rfl,(λ h=>by cases h),hw⟩) (λ h3=>?_)
   have hjl:j=e.dl.length:=by omega
   subst hjl;have et:(erE e.dl).take e.dl.length=erE e.dl:=by rw [<-hel,List.take_length]
   rw [et] at hm;have hq0:=Zi7 (erE e.dl);have hcs:Zl1 e=30 * (e.dl.length:Int) + ZqU (erE e.dl):=rfl;refine ⟨⟨k + 1,by rw [Zg (by omega) (by omega)];omega,by omega,by omega,by omega,by omega,by omega,λ q hq=>?_,hw⟩,by dsimp only;rw [Zg (by omega) (by omega)];omega⟩;have e2:es.take (k + 1)=es.take k++[es[k]]:=(List.take_append_getElem hke).symm;rw [e2] at hq;rcases List.mem_append.1 hq with hq|hq
   ·exact hall q hq
   ·rw [List.mem_singleton.1 hq,<-hee];omega
 clear hw hS;rintro _ w ⟨hj2,hn2,hw⟩;have hS:ReadsN 5 l (es.map stV) (λ w'=>w'=w):=hr.rows.reads (eqS hw);refine hS.rngM hke λ a _ he=>⟨e.sl,by rw [hee];exact he.f 3 (by exact ⟨rfl,trivial⟩),?_⟩;have hLr:ReadsN 4 e.sl (e.dl.map ZaU) (λ w'=>w'=w):=hE.rows.reads (eqS hw);refine hLr.rngM hj2 λ a _ el=>⟨e.dl[j].1,el.f 3 (by exact ⟨rfl,trivial⟩),?_⟩;have hdl:=hE.each.len (List.getElem_mem hj2);have hm2:=hL _ (List.getElem_mem hj2);have hst:=ZoV (erE e.dl) (k:=j) (by omega);have hx:(erE e.dl)[j]'(by omega)=e.dl[j].2:=by simp
 rw [hx] at hst;rw [Zg (by omega) (by omega),Zg (by omega) (by omega)];exact ⟨⟨j + 1,by omega,by omega,by omega,hw⟩,by dsimp only;omega⟩
end
end Go.Proofs.YtkfedbncmfnpnaaGreatDoor

namespace Go.Proofs.YtkfedbncmfnpnaaGreatDoor
section
open Go Go.VC Go.ChangeShapes Go.WideShapes Go.ChangeAt Go.RowKit
variable {H:Type} {enc:TypeId × Value->H} {P:Program} {W:World} {r:Reach} {b0:Nat} {v:Value} {d:DataW H} {p:List MemPlace} {spare:Nat->Bool} {held:Bool}
abbrev stU:U:=.st [.int .i64,.int .i64,.int .i64,.sl Zwr,.sl (.int .i64)]
theorem Zqd {R:Cx} {s:Sl} {xs:List Tr} (ho:Tr.Ok R (.sl Zwr) (.sl s xs)):∃ dl:List DE4,EsR R s dl:=by
 obtain ⟨es,h1,_,h3⟩:=Zli (λ z:DE4=>ZaU z) (λ e=>SlR R.m e.1 (b8 e.2.dt)/\∀ y∈e.2.dt,0<=y/\y<256) ho λ x hx=>Zry hx;refine ⟨es,h1,λ e he=>(h3 e he).1,λ e he=>?_,ZrU ho⟩;obtain ⟨q,hq,rfl⟩:=List.mem_map.1 he;exact (h3 q hq).2
structure StQ (R:Cx) (e:StE):Prop where
 ents:EsR R e.sl e.dl
 keeps:RoI R e.sk e.keep
 n: -9223372036854775808<=e.n/\e.n<9223372036854775808
theorem Zsp {R:Cx} {x:Tr} (ho:x.Ok R stU):∃ e:StE,x.cells=stV e/\StQ R e:=by
 cases x<;>simp only [Tr.Ok] at ho;rename_i xs
 match xs,ho with
 |[x0,x1,x2,x3,x4],ho=>
  simp only [Tr.OkL,and_true] at ho;obtain ⟨h0,h1,h2,h3,h4⟩:=ho;cases x0<;>simp only [Tr.Ok] at h0;rename_i k0 n0;obtain ⟨rfl,_⟩:=h0;cases x1<;>simp only [Tr.Ok] at h1;rename_i k1 n1;obtain ⟨rfl,w1⟩:=h1;cases x2<;>simp only [Tr.Ok] at h2;rename_i k2 n2;obtain ⟨rfl,_⟩:=h2;cases x3<;>simp only [Tr.Ok] at h3;rename_i sd dx;have h3:Tr.Ok R (.sl Zwr) (.sl sd dx):=by unfold Tr.Ok;exact h3
  cases x4<;>simp only [Tr.Ok] at h4;rename_i sk kx;have h4:Tr.Ok R (.sl (.int .i64)) (.sl sk kx):=by unfold Tr.Ok;exact h4
  obtain ⟨dl,a1⟩:=Zqd h3;obtain ⟨ks,b1,_,_⟩:=ZkH h4;exact ⟨⟨n0,n1,n2,sd,sk,dl,ks⟩,rfl,a1,b1,Zwz w1⟩
set_option maxRecDepth 100000 in
theorem Zq6 (hv:Value.okWide Tryz.prog W r b0 44 v) (h:DataW.Trod enc Tryz.prog W 0 (λ _=>true) true 44 v d p):
  ∃ (s:Sl) (es:List StE),v=.slice s.a s.len s.cap/\RoN 5 (Cx.of W) s (es.map stV)/\∀ e∈es,StQ (Cx.of W) e:=by
 obtain ⟨a,n,c,rfl⟩:=okWide_slice Tryz.underlying44 hv;obtain ⟨x,hx,ho⟩:=Zup (d:=8) (u:=.sl stU) (by kernel_rfl) h;cases x<;>simp only [Tr.Ok] at ho;rename_i s xs;have ho:Tr.Ok (Cx.of W) (.sl stU) (.sl s xs):=by unfold Tr.Ok;exact ho
 obtain ⟨es,h1,_,h3⟩:=Zli (λ z:StE=>stV z) (λ e=>StQ (Cx.of W) e) ho λ x hx=>Zsp hx;have e:[Value.slice s.a s.len s.cap]=[Value.slice a n c]:=by simpa [Tr.cells,Value.cells] using hx
 have e:=(List.cons.inj e).1;simp only [Value.slice.injEq] at e;obtain ⟨rfl,rfl,rfl⟩:=e;exact ⟨s,es,rfl,h1,h3⟩
theorem ZlV {fuel:Nat} {s:Sl} {dl:List DE4} (h:DataW.trod enc Tryz.prog W 0 (λ _=>true) true fuel 40 [.slice s.a s.len s.cap]=some (d,p)) (hw:ZjO Tryz.prog 40 d) (hr:EsR (Cx.of W) s dl):∀ e∈dl,e.2.dt.length<=140737488351232:=
 Zoi (s:=s) ⟨fuel,by simpa [Value.cells] using h⟩ hw hr
theorem Zlf {s:Sl} {es:List StE} (h:DataW.Trod enc Tryz.prog W 0 (λ _=>true) true 44 (.slice s.a s.len s.cap) d p) (hw:ZjO Tryz.prog 44 d) (hrow:RoN 5 (Cx.of W) s (es.map stV)) (hq:∀ e∈es,StQ (Cx.of W) e):StR (Cx.of W) s es:=by
 refine ⟨hrow,λ e he=>(hq e he).ents,λ e he=>(hq e he).keeps,λ e he=>?_⟩;obtain ⟨k,hk,rfl⟩:=List.mem_iff_getElem.1 he;obtain ⟨fuel,h⟩:=h;have h:DataW.trod enc Tryz.prog W 0 (λ _=>true) true fuel 44 [.slice s.a s.len s.cap]=some (d,p):=h;have hl:=hrow.len;rw [List.length_map] at hl;obtain ⟨a',cs,f1,d1,p1,ha,hc,h1,w1⟩:=ZiD Tryz.underlying44 h hw (k:=k) (by omega);have hce:Tryz.prog.cellsOf 43=5:=by kernel_rfl
 rw [hce] at hc;obtain ⟨hcl,hcc⟩:=ZcR hc;obtain ⟨b,off,hb,hat⟩:=(hrow.reads (eqS (Sat.start W))).2 k (by simpa using hk);have hat:=hat 3 [.slice es[k].sl.a es[k].sl.len es[k].sl.cap] (by rw [List.getElem_map];exact ⟨rfl,trivial⟩) W rfl 0 _ rfl;rw [ha] at hb;obtain rfl:=Option.some.inj hb;have h3:cs[3]? =some (.slice es[k].sl.a es[k].sl.len es[k].sl.cap):=by
  rw [<-hcc 3 (by omega)];simpa [Zf,Nat.add_assoc] using hat
 obtain ⟨f2,d2,p2,h2,w2⟩:=Zhw (T:=40) 3 3 1 Tryz.underlying43 h1 w1 (by kernel_rfl) (by kernel_rfl);have hcd:(cs.drop 3).take 1=[.slice es[k].sl.a es[k].sl.len es[k].sl.cap]:=by
  match cs,hcl,h3 with
  |[c0,c1,c2,c3,c4],_,h3=>simp at h3;simp [h3]
 rw [hcd] at h2;exact ZlV h2 w2 (hq _ he).ents
end
section
open Go Go.VC Tryz
set_option maxRecDepth 10000
def B30 (i:Int) (c:Sl) (K:Value->World->Prop) (w:World):Prop:=
 New (.cells #[.int .i64 i,.slice c.a c.len c.cap] 59 (0,0)) (λ f e=>
 ∃ g:Int,(At (λ d=>d=e) ⟨f,0,none⟩ [.int .i64 g])/\
 ∃ b:Sl,(At (λ d=>d=e) ⟨f,0 + 1,none⟩ [.slice b.a b.len b.cap])/\
 K (.int .i64 (IntKind.i64.wrap (g + (↑b.len:Int)))) e) w
theorem ZvT (c:Int) (b:Sl) (K:Value->World->Prop) (w:World) (h:B30 c b K w):Zq prog 30 #[.agg #[.int .i64 c,.slice b.a b.len b.cap]] w K:=cq (sk:=.leaf) func30 (by kernel_rfl) (by kernel_rfl) (by kernel_rfl) h
def B67 (n:Int) (o:Int) (p:Int) (f:Sl) (K:Value->World->Prop) (w:World):Prop:=
 New (.cells #[.int .i64 n,.int .i64 o,.int .i64 p,.slice f.a f.len f.cap] 55 (0,0)) (λ d b=>
 ∃ l:Int,(At (λ c=>c=b) ⟨d,0,none⟩ [.int .i64 l])/\
 Br (decide (l >= 1))
 (∃ m:Int,(At (λ c=>c=b) ⟨d,0,none⟩ [.int .i64 m])/\
 Br (decide (m<=1099511627776))
 (∃ g:Int,(At (λ c=>c=b) ⟨d,0 + 1,none⟩ [.int .i64 g])/\
 Br (decide (g >= 0))
 (∃ i:Int,(At (λ c=>c=b) ⟨d,0 + 1,none⟩ [.int .i64 i])/\
 Br (decide (i<=1099511627776))
 (∃ j:Int,(At (λ c=>c=b) ⟨d,0 + 2,none⟩ [.int .i64 j])/\
 Br (decide (j >= 0))
 (∃ k:Int,(At (λ c=>c=b) ⟨d,0 + 2,none⟩ [.int .i64 k])/\
 Br (decide (k<=7))
 (∃ e:Sl,(At (λ c=>c=b) ⟨d,0 + 3,none⟩ [.slice e.a e.len e.cap])/\
 K (.bool (decide ((↑e.len:Int)<=4096))) b)
 (K (.bool false) b))
 (K (.bool false) b))
 (K (.bool false) b))
 (K (.bool false) b))
 (K (.bool false) b))
 (K (.bool false) b)) w
theorem Zvi (c:Int) (d:Int) (e:Int) (b:Sl) (K:Value->World->Prop) (w:World) (h:B67 c d e b K w):Zq prog 67 #[.agg #[.int .i64 c,.int .i64 d,.int .i64 e,.slice b.a b.len b.cap]] w K:=cq (sk:=.leaf) func67 (by kernel_rfl) (by kernel_rfl) (by kernel_rfl) h
end
section
open Go Go.VC Tryz
variable {R R':Cx} {Hs Rest:List HP} {w:World}
open Classical in
theorem Zj8 {e:DE4} (hs:e.1.len=e.2.dt.length) (hw:Sat R Hs w):Zq prog 67 #[ZsM e] w λ v w'=>v=.bool (decide e.2.Ok)/\Sat R Hs w':=by
 apply Zvi;refine Zd hw λ b w hw=>?_;have hw:Sat R (pts b (.cells (ZaU e).toArray 55 (0,0))::Hs) w:=hw;have no:¬ e.2.Ok->(Value.bool false=.bool (decide e.2.Ok)/\Sat R Hs w):=λ h=>⟨by rw [decide_eq_false h],hw.drop⟩;refine ⟨e.2.ix,At.own (eqS hw) (by exact ⟨rfl,trivial⟩),Br.d (λ a1=>?_) (λ h=>no λ o=>h o.i0)⟩;refine ⟨e.2.ix,At.own (eqS hw) (by exact ⟨rfl,trivial⟩),Br.d (λ a2=>?_) (λ h=>no λ o=>h o.i1)⟩;refine ⟨e.2.tm,At.own (eqS hw) (by exact ⟨rfl,trivial⟩),Br.d (λ a3=>?_) (λ h=>no λ o=>h o.t0)⟩;refine ⟨e.2.tm,At.own (eqS hw) (by exact ⟨rfl,trivial⟩),Br.d (λ a4=>?_) (λ h=>no λ o=>h o.t1)⟩;refine ⟨e.2.kd,At.own (eqS hw) (by exact ⟨rfl,trivial⟩),Br.d (λ a5=>?_) (λ h=>no λ o=>h o.k0)⟩;refine ⟨e.2.kd,At.own (eqS hw) (by exact ⟨rfl,trivial⟩),Br.d (λ a6=>?_) (λ h=>no λ o=>h o.k1)⟩;refine ⟨e.1,At.own (eqS hw) (by exact ⟨rfl,trivial⟩),?_,hw.drop⟩
 congr 1
 refine decide_eq_decide.2 ⟨λ h=>⟨a1,a2,a3,a4,a5,a6,by omega⟩,λ o=>by have:=o.d1;omega⟩
end
end Go.Proofs.YtkfedbncmfnpnaaGreatDoor

namespace Go.Proofs.YtkfedbncmfnpnaaGreatDoor
section
open Go Go.VC Tryz
variable {R R':Cx} {Hs Rest:List HP} {w:World}
theorem Zuc {Hs:List HP}:∀ {R:Cx},Sat R Hs w->Sat R [VC.tru] w:=by
 induction Hs with
 |nil=>exact λ h=>h.tru
 |cons A Hs ih=>exact λ h=>Sat.absorb (h.cons λ _ h=>ih h)
end
end Go.Proofs.YtkfedbncmfnpnaaGreatDoor


namespace Go.Proofs.YtkfedbncmfnpnaaGreatDoor
section
open Go Go.VC Tryz
open Classical
variable {R R':Cx} {Hs Rest:List HP} {w:World}
abbrev stC (b:Nat) (e:StE):HP:=pts b (.cells (stV e).toArray 43 (0,0))
end
section
open Go Go.VC Tryz
variable {x:WSt} {st:DS} {k:Nat}
structure LB (x:WSt) (st:DS) (k:Nat):Prop where
 wbk:WBk x k
 inv:Inv st
 by':Zb9 st.fs
 files:st.fs.length<=1 + k
 last:x.g.last<=1099511627776
theorem LB.mono {j:Nat} (b:LB x st k) (h:k<=j):LB x st j:=⟨b.wbk.mono h,b.inv,b.by',by have:=b.files;omega,b.last⟩
theorem Zl7 {b:List Int} (h:ZbV b):Byt (ZP b):=Zlw h.2
theorem ZqD {x:DS × Int} {f:DS->DS × Int} (hx:Zb9 x.1.fs) (hf:∀ st,Zb9 st.fs->Zb9 (f st).1.fs):Zb9 (Z3 x f).1.fs:=by
 unfold Z3;split
 ·exact hf _ hx
 ·exact hx
theorem ZqF {st:DS} (h:Zb9 st.fs) {n:Nat} {next:Int} (hn:n<=99999999) (h1:next<=1099511627777):Zb9 (Zae st n next).1.fs:=
 ZqD (Zey h _ (Zl7 (ZpZ hn h1))) λ _ h=>Zgj h _
theorem Zju (st:DS) (n:Nat) (next:Int):(Zae st n next).1.fs.length<=st.fs.length + 1:=by
 have ha:=Zb7 st (Za n) (ZH n next);unfold Zae;by_cases h:(Zk st (Za n) (ZH n next)).2=0
 ·rw [ZB h];have:=Zcu (Zk st (Za n) (ZH n next)).1 (Za n);omega
 ·rw [Zx h];omega
theorem Zo7 (b:LB x st k) (hk:k<=90000000):Zb9 (ZU x st).1.fs:=by
 have ht:=b.wbk.tail;have hl:=b.last;unfold ZU;split
 ·exact ZqD (Zgj b.by' _) λ st h=>ZqF h (by omega) (by omega)
 ·exact b.by'
theorem Zra (x:WSt) (st:DS):(ZU x st).1.fs.length<=st.fs.length + 1:=by
 unfold ZU;split
 ·have hs:=Zcu st (Za (Zu x.segs).num)
  by_cases h:(ZA st (Za (Zu x.segs).num)).2=0
  ·rw [ZB h];have:=Zju (ZA st (Za (Zu x.segs).num)).1 ((Zu x.segs).num + 1) (x.g.last + 1);omega
  ·rw [Zx h];omega
 ·simp only;omega
theorem Zr0 {st:DS} (h:Zb9 st.fs) (x:WSt) {b:List Int} (hb:Byt b) (g:Lg):Zb9 (Zbq x st b g).1.1.fs:=by
 unfold Zbq;split<;>exact Zey h _ hb
theorem Zpj (x:WSt) (st:DS) (b:List Int) (g:Lg):(Zbq x st b g).1.1.fs.length<=st.fs.length + 1:=by
 unfold Zbq;split<;>exact Zb7 _ _ _
theorem Zsz {st:DS} (i:Inv st) (x:WSt) (b:List Int) (g:Lg):Inv (Zbq x st b g).1.1:=by
 unfold Zbq;split<;>exact Z7 i _ _
theorem Zpk (x:WSt) (st:DS) (b:List Int) (g:Lg):(Zbq x st b g).2.g=g\/(Zbq x st b g).2.g=x.g:=by
 unfold Zbq;split
 ·exact .inl rfl
 ·exact .inr rfl
theorem Zsc (x:WSt) (st:DS) (e:Ey):(Zbx x st e).2.g=⟨x.g.base,x.g.l++[e]⟩\/(Zbx x st e).2.g=x.g:=by
 unfold Zbx;split
 ·exact .inr rfl
 ·exact Zpk _ _ _ _
theorem LB.add (b:LB x st k) {e:Ey} (hok:e.Ok) (hb:∀ y∈e.dt,0<=y/\y<256) (hix:e.ix=x.g.last + 1) (hk:k<=90000000):LB (Zbx x st e).2 (Zbx x st e).1.1 (k + 2):=by
 have hi:=hok.i1;have hl:=b.last;have hf:=b.files;refine ⟨b.wbk.add hok hix hk,Znc b.inv,?_,?_,?_⟩
 ·unfold Zbx
  split
  ·exact Zo7 b hk
  ·exact Zr0 (Zo7 b hk) _ (Zl7 (ZjB hok hb)) _
 ·have h1:=Zra x st
  unfold Zbx;split
  ·simp only;omega
  ·have h2:=Zpj { x with segs:=Zbb x 0 } (ZU x st).1 (ZP (Zc6 e)) ⟨x.g.base,x.g.l++[e]⟩
   omega
 ·rcases Zsc x st e with h|h
  ·rw [h]
   unfold Lg.last at *;simp only [List.length_append,List.length_cons,List.length_nil];omega
  ·rw [h];exact hl
theorem LB.does {r:(DS × Int) × WSt} (b:LB r.2 r.1.1 k):LB (ZbS r).2 (ZbS r).1.1 k:=
 ⟨⟨b.wbk.b0,b.wbk.b1,b.wbk.l1,b.wbk.s0,b.wbk.s1,b.wbk.n1⟩,b.inv,b.by',b.files,b.last⟩
theorem LB.put1 (b:LB x st k) {bs:List Int} {g:Lg} (hb:ZbV bs) (hg:0<=g.base/\g.base<=1099511627776/\g.l.length<=100000000000 + (k + 1)) (hl:g.last<=1099511627776):
  LB (Zbq x st (ZP bs) g).2 (Zbq x st (ZP bs) g).1.1 (k + 1):=by
 have h1:=b.last;have hf:=b.files;refine ⟨b.wbk.put (by rw [ZK];have:=hb.1;omega) hg (by omega),Zsz b.inv _ _ _,Zr0 b.by' _ (Zl7 hb) _,by have:=Zpj x st (ZP bs) g;omega,?_⟩;rcases Zpk x st (ZP bs) g with h|h<;>rw [h]<;>assumption
end
end Go.Proofs.YtkfedbncmfnpnaaGreatDoor

namespace Go.Proofs.YtkfedbncmfnpnaaGreatDoor
section
open Go Go.VC Tryz
open Classical
variable {R R':Cx} {Hs Rest:List HP} {w:World}
theorem Zl0 (es:List StE) {i j:Nat} (h:i<=j):Zcq (es.take i)<=Zcq (es.take j):=by
 have e:es.take j=es.take i++(es.drop i).take (j - i):=by
  obtain ⟨d,rfl⟩:=Nat.exists_eq_add_of_le h;rw [List.take_add,Nat.add_sub_cancel_left]
 have nn:∀ l:List StE,0<=Zcq l:=λ l=>by
  induction l with
  |nil=>simp [Zcq]
  |cons a l ih=>have:=Zm9 a;unfold Zcq at *;simp only [List.map_cons,List.sum_cons];omega
 have:=nn ((es.drop i).take (j - i));rw [e];unfold Zcq at *;rw [List.map_append,List.sum_append];omega
variable {x:WSt} {st:DS} {may:List Lg} {k m:Nat} {c:Int}
end
section
open Go Go.VC Tryz
open Classical
variable {R R':Cx} {Hs Rest:List HP} {w:World}
theorem EsR.ext {s:Sl} {dl:List DE4} (h:EsR R s dl) (x:R.Ext R'):EsR R' s dl:=⟨x.roN h.rows,h.each.ext x,h.by',h.cap⟩
theorem StR.ext {s:Sl} {es:List StE} (h:StR R s es) (x:R.Ext R'):StR R' s es:=⟨x.roN h.rows,λ e he=>(h.ents e he).ext x,λ e he=>x.ro (h.keeps e he),h.light⟩
end
end Go.Proofs.YtkfedbncmfnpnaaGreatDoor
