/- A node's log in memory: Get, and what Add and Merge ask of entries. Condition: bounds on lengths. -/
import Derived.Test.YthpmfnffkjjlnaaGreatB2
import GoSem.Builtin.Clear
set_option linter.unusedVariables false
set_option linter.unusedSimpArgs false
namespace Go.Proofs.YthpmfnffkjjlnaaGreat
section
open Go Go.VC Tryz
open Go.Rf (Ey Lg ZD)
variable {R R' R1:Cx} {Hs Rest Rest2:List HP} {w:World}
theorem Zfa.dt {g:Lg} {ds:List DE4} (h:Zfa R g ds) (ok:ZD g) {k:Nat}:∀ e∈ds.drop (k + 1),Rf.oddE e.2=false:=λ e he=>by
 have h1:e.2∈(erE ds).drop (k + 1):=by rw [<-List.map_drop];exact List.mem_map_of_mem he
 rw [h.e] at h1;exact ok.es.no _ (List.mem_of_mem_drop (l:=g.l) (i:=k) h1)
theorem Zmu {p:Nat} {g:Lg} {s:Sl} {com app:Int} {ds:List DE4} {Hs:List HP} (hi:Zfa R g ds) (ok:ZD g) (i most:Int) (hw:Sat R (pts p (Zw s com app)::Zao s ds::Hs) w):
  Zj prog 53 #[.pointer (some ⟨p,0,none⟩),.int .i64 i,.int .i64 most] w (ZoS R (pts p (Zw s com app)::Zao s ds::Hs) (g.get i most)):=by
 apply ZpQ;have no:∀ {w},g.get i most=[]->Sat R (pts p (Zw s com app)::Zao s ds::Hs) w->ZoS R (pts p (Zw s com app)::Zao s ds::Hs) (g.get i most) (.slice none 0 0) w:=λ h hw=>by
  rw [h];exact ⟨R,⟨none,0,0⟩,[],.refl,.nil,rfl,rfl,OwnN.nil hw⟩
 refine ⟨λ w=>¬ (i<=g.b.ix\/g.has i=false\/most<1)/\Sat R (pts p (Zw s com app)::Zao s ds::Hs) w,?_,?_⟩
 ·refine (ZaO hi hw).use ?_
  clear hw;rintro _ w ⟨rfl,hw⟩;refine ⟨_,rfl,Br.d (λ h=>no (by unfold Lg.get;rw [if_pos (.inl h)]) hw) (λ h=>?_)⟩;refine (Zi3 hi ok i hw).use ?_;clear hw;rintro _ w ⟨rfl,hw⟩;refine ⟨_,rfl,Br.nb (λ h2=>no (by unfold Lg.get;rw [if_pos (.inr (.inl h2))]) hw) (λ h2=>?_)⟩;refine Br.d (λ h3=>no (by unfold Lg.get;rw [if_pos (.inr (.inr h3))]) hw) (λ h3=>⟨?_,hw⟩);rintro (h4|h4|h4)
  ·exact h h4
  ·rw [h2] at h4;cases h4
  ·exact h3 h4
 clear hw;rintro _ w ⟨hc,hw⟩;have h2:g.has i=true:=by
  cases h:g.has i
  ·exact absurd (.inr (.inl h)) hc
  ·rfl
 refine (ZeL hi ok h2 hw).use ?_;clear hw;rintro _ w ⟨rfl,hw⟩;have hh:=Rf.Lg.has_iff.1 h2;have hll:=ok.last_le;have h0:=ok.b0;have hlen:=hi.len;have hw2:Sat R (Zao s ds::pts p (Zw s com app)::Hs) w:=hw.swap;have hcap:=OwnN.cap (by omega) hw2;have hsl:s.len=ds.length:=by have:=OwnN.len hw2;simpa using this
 obtain ⟨k,hk⟩:∃ k:Nat,(i - g.b.ix).toNat=k + 1:=⟨(i - g.b.ix).toNat - 1,by omega⟩;rw [hk];refine ⟨⟨ZbB s.a (k + 1) s.cap 4,s.len - (k + 1),s.cap - (k + 1)⟩,rfl,?_⟩;unfold Lg.last at *;have em:∃ m:Nat,(if ((s.len - (k + 1):Nat):Int)<most then ((s.len - (k + 1):Nat):Int) else most)=m/\m<=ds.length - (k + 1)/\((ds.drop (k + 1)).take m)=(ds.drop (k + 1)).take most.toNat:=by
  by_cases h:((s.len - (k + 1):Nat):Int)<most
  ·rw [if_pos h]
   refine ⟨_,rfl,by omega,?_⟩;rw [List.take_of_length_le (by rw [List.length_drop];omega),List.take_of_length_le (by rw [List.length_drop];omega)]
  ·rw [if_neg h]
   exact ⟨most.toNat,by omega,by omega,rfl⟩
 obtain ⟨m,em,hm,et⟩:=em;dsimp only;rw [em];refine ⟨by omega,by omega,?_⟩;have hr:Rdg R (Zao s ds) 4 ⟨ZbB s.a (k + 1) s.cap 4,m,s.cap - (k + 1)⟩ (((ds.drop (k + 1)).take m).map ZaC):=by
  have h1:=(Rdg.own (R:=R) (n:=4) (s:=s) (T:=52) (rows:=ds.map ZaC)).sub (m:=s.cap) (l:=k + 1) (by rw [List.length_map];omega) (by rw [List.length_map];omega) (s.cap - (k + 1));have h2:=h1.take (m:=m) (by rw [List.length_drop,List.length_map];omega) (s.cap - (k + 1));rwa [<-List.map_drop,<-List.map_take] at h2
 have hnz:∀ e∈(ds.drop (k + 1)).take m,e.2.dt.length<=1099511627776:=λ e he=>by
  have:=Rf.oddE_no (hi.dt ok (k:=k) e (List.mem_of_mem_take he));omega
 rw [Int.toNat_natCast];refine (Zc5 hr ((hi.d.drop _).take _) (by rw [List.length_take,List.length_drop];omega) hnz hw2).use ?_;clear hw hw2;rintro _ w ⟨R2,t,ds2,e2,hd2,he2,rfl,hw⟩;refine ⟨t,rfl,R2,t,ds2,e2,hd2,?_,rfl,hw.arr⟩;rw [he2,et];unfold Lg.get;rw [if_neg hc,hk];simp only [erE,List.map_take,List.map_drop];rw [show ds.map (·.2)=g.all from hi.e]
theorem Zkx {p:Nat} {g:Lg} {s:Sl} {com app:Int} {ds:List DE4} {Hs:List HP} (hi:Zfa R' g ds) (ok:ZD g) (hw:Sat R (pts p (Zw s com app)::Zao s ds::Hs) w):
  Zj prog 86 #[.pointer (some ⟨p,0,none⟩)] w λ v w'=>∃ t:Sl,v=Zio (t,g.tail)/\Sat R (pts p (Zw s com app)::Zao s ds::Hs) w':=by
 apply Zpz;refine Zd hw λ b w hw=>?_;refine Zm hw λ w hw=>Zb.mk rfl ⟨s,At.own Zf (by exact ⟨rfl,trivial⟩),Zb.mk rfl ⟨s,At.own Zf (by exact ⟨rfl,trivial⟩),?_⟩⟩;have hlen:=hi.len;have hw2:Sat R (Zao s ds::pts b (.cells [.int .i64 0,.int .i64 0,.int .i64 0,.slice none 0 0].toArray 52 (0,0))::pts p (Zw s com app)::Hs) w:=hw.arr;have hsl:s.len=ds.length:=by have:=OwnN.len hw2;simpa using this
 have hll:=ok.len;rw [Zh (by omega) (by omega)];have hk:ds.length - 1<ds.length:=by omega
 refine ZgE hw Zf (ds:=ds) (ds.length - 1) (by omega) hk λ a _ el=>?_;obtain ⟨x,hx⟩:∃ x,x=ds[ds.length - 1]:=⟨_,rfl⟩;rw [<-hx] at el;rw [show (((s.len:Nat):Int) - 1).toNat=(((ds.length - 1:Nat):Int)).toNat by omega];refine ⟨_,_,_,_,el.z (by exact ⟨rfl,rfl,rfl,rfl,trivial⟩),?_⟩;refine Za hw (by kernel_rfl) rfl (by simp [Value.cells,Zc]) λ w hw=>?_;have hw:Sat R (pts b (.cells (ZaC x).toArray 52 (0,0))::pts p (Zw s com app)::Zao s ds::Hs) w:=hw;refine ⟨_,_,_,_,At.own (eqS hw) (by exact ⟨rfl,rfl,rfl,rfl,trivial⟩),x.1,?_,hw.drop⟩;have:x.2=g.tail:=by
  obtain ⟨h2,h3⟩:=hi.get hk;rw [hx,h3];exact Rf.Lg.tail_at _ (by omega)
 rw [<-this]
theorem Zmh {e:DE4} (hlen:e.1.len=e.2.dt.length) (hw:Sat R Hs w):Zj prog 84 #[Zio e] w λ v w'=>v=.bool (Rf.oddE e.2)/\Sat R Hs w':=by
 obtain ⟨s,x⟩:=e;apply ZpB;refine Zd hw λ b w hw=>⟨_,At.own (eqS hw) (by exact ⟨rfl,trivial⟩),?_⟩;unfold Rf.oddE;refine Br.d (λ h=>⟨by rw [decide_eq_true h];rfl,hw.drop⟩) (λ h=>⟨_,At.own (eqS hw) (by exact ⟨rfl,trivial⟩),?_⟩);rw [decide_eq_false h];refine (ZbM hw).use ?_;clear hw;rintro _ w ⟨rfl,hw⟩;refine ⟨_,rfl,Br.nb (λ h=>⟨by rw [h];rfl,hw.drop⟩) (λ h=>⟨_,At.own (eqS hw) (by exact ⟨rfl,trivial⟩),?_⟩)⟩;rw [h];refine (ZbM hw).use ?_;clear hw;rintro _ w ⟨rfl,hw⟩;refine ⟨_,rfl,Br.nb (λ h=>⟨by rw [h];rfl,hw.drop⟩) (λ h=>⟨_,At.own (eqS hw) (by exact ⟨rfl,trivial⟩),?_⟩)⟩;rw [h];refine Br.d (λ h=>⟨by rw [decide_eq_true h];rfl,hw.drop⟩) (λ h=>⟨_,At.own (eqS hw) (by exact ⟨rfl,trivial⟩),?_⟩);rw [decide_eq_false h];refine Br.d (λ h=>⟨by rw [decide_eq_true h];rfl,hw.drop⟩) (λ h=>⟨s,At.own (eqS hw) (by exact ⟨rfl,trivial⟩),?_,hw.drop⟩);rw [decide_eq_false h];simp only at hlen;rw [hlen];rfl
theorem ZeM {A:HP} {s:Sl} {ds:List DE4} (hr:Rdg R A 4 s (ds.map ZaC)) (hl:ds.length<=1099511627777) (ho:∀ e∈ds,Rf.oddE e.2=false) (i t:Int) (hw:Sat R (A::Hs) w):
  Zj prog 85 #[.slice s.a s.len s.cap,.int .i64 i,.int .i64 t] w λ v w'=>v=.bool (Rf.folE (erE ds) i t)/\Sat R (A::Hs) w':=by
 apply ZpA;have hsl:=hr.len hw;refine ⟨λ i' t' j w=>∃ k:Nat,j=k/\k<=ds.length/\Rf.folE (erE ds) i t=Rf.folE (erE (ds.drop k)) i' t'/\Sat R (A::Hs) w,λ _ _ j _=>ds.length - j.toNat,
  ⟨0,rfl,Nat.zero_le _,rfl,hw⟩,?_⟩
 clear hw;rintro _ i' t' _ w ⟨k,rfl,hk,he,hw⟩;refine Br.d (λ h=>?_) (λ h=>?_)
 ·have hk':k<ds.length:=by omega
  refine hr.rng .refl hw (λ w h=>eqS hw w h) k rfl hk' λ a _ el=>?_;have hod:=Rf.oddE_no (ho _ (List.getElem_mem hk'));refine ⟨_,_,_,_,el.z (by exact ⟨rfl,rfl,rfl,rfl,trivial⟩),Zd hw λ b w hw=>?_⟩;refine Za hw (by kernel_rfl) rfl (by simp [Value.cells,Zc]) λ w hw=>?_;refine ⟨_,At.own (eqS hw) (by exact ⟨rfl,trivial⟩),?_⟩;rw [Zh (by omega) (by omega)];rw [Zbw hk'] at he;simp only [erE,List.map_cons,Rf.folE] at he;refine Br.ne (λ h2=>⟨by rw [if_pos (.inl h2)] at he;simpa [erE] using he.symm,hw.drop⟩) (λ h2=>⟨_,At.own (eqS hw) (by exact ⟨rfl,trivial⟩),?_⟩);refine Br.d (λ h3=>⟨by rw [if_pos (.inr h3)] at he;simpa [erE] using he.symm,hw.drop⟩) (λ h3=>Zm hw λ w hw=>⟨_,At.own Zf (by exact ⟨rfl,trivial⟩),_,At.own Zf (by exact ⟨rfl,trivial⟩),?_⟩);rw [if_neg (by rintro (h4|h4)<;>contradiction)] at he;rw [Zh (by omega) (by omega)];exact ⟨⟨k + 1,by omega,hk',he,hw.drop⟩,by dsimp only;omega⟩
 ·have:k=ds.length:=by omega
  subst this;rw [List.drop_length] at he;exact ⟨by rw [he];rfl,hw⟩
def Zpg (o:Option Nat):Int:=match o with|some k=>k|none=>-1
theorem ZeF {A:HP} {s:Sl} {ds:List DE4} {f:Value} (p:Ey->Bool) (hr:Rdg R A 4 s (ds.map ZaC)) (hl:ds.length<=1099511627777)
  (hf:∀ e∈ds,∀ w,Sat R (A::Hs) w->Zdw prog cl f [Zio e] w (λ r w'=>r=.returned (.bool (p e.2))/\Sat R (A::Hs) w')) (hw:Sat R (A::Hs) w):
  Zj prog 119 #[.slice s.a s.len s.cap,f] w λ v w'=>v=.int .i64 (Zpg ((erE ds).findIdx? p))/\Sat R (A::Hs) w':=by
 apply Zov;have hsl:=hr.len hw;refine ⟨λ j w=>∃ k:Nat,j=k/\k<=ds.length/\(∀ j (hj:j<ds.length),j<k->p ds[j].2=false)/\Sat R (A::Hs) w,λ j _=>ds.length - j.toNat,
  ⟨0,rfl,Nat.zero_le _,λ _ _ h=>by omega,hw⟩,?_⟩
 clear hw;rintro _ _ w ⟨k,rfl,hk,hno,hw⟩;refine Br.d (λ h=>?_) (λ h=>?_)
 ·have hk':k<ds.length:=by omega
  refine hr.rng .refl hw (λ w h=>eqS hw w h) k rfl hk' λ a _ el=>?_;refine ⟨_,_,_,_,el.z (by exact ⟨rfl,rfl,rfl,rfl,trivial⟩),?_⟩;refine (hf ds[k] (List.getElem_mem hk') w hw).mono ?_;clear hw;rintro _ w ⟨rfl,hw⟩;refine ⟨_,rfl,Br.mk (λ h2=>⟨?_,hw⟩) (λ h2=>?_)⟩
  ·have:(erE ds).findIdx? p=some k:=List.findIdx?_eq_some_iff_getElem.2 ⟨by rw [List.length_map];exact hk',by simpa using h2,λ j hj=>by simpa using hno j (by omega) hj⟩
   rw [this];rfl
  ·rw [Zh (by omega) (by omega)]
   refine ⟨⟨k + 1,by omega,hk',λ j hj hjk=>?_,hw⟩,by dsimp only;omega⟩;by_cases e:j=k
   ·subst e;exact h2
   ·exact hno j hj (by omega)
 ·have:k=ds.length:=by omega
  subst this;have:(erE ds).findIdx? p=none:=List.findIdx?_eq_none_iff.2 λ x hx=>by
   obtain ⟨e,he,rfl⟩:=List.mem_map.1 hx;obtain ⟨j,hj,rfl⟩:=List.getElem_of_mem he;exact hno j hj hj
  exact ⟨by rw [this];rfl,hw⟩
theorem Zny {o:Option Nat}:decide (Zpg o >= 0)=o.isSome:=by
 cases o with
 |none=>rfl
 |some k=>unfold Zpg;simp
theorem ZcI {A:HP} {s:Sl} {ds:List DE4} {f:Value} (p:Ey->Bool) (hr:Rdg R A 4 s (ds.map ZaC)) (hl:ds.length<=1099511627777)
  (hf:∀ e∈ds,∀ w,Sat R (A::Hs) w->Zdw prog cl f [Zio e] w (λ r w'=>r=.returned (.bool (p e.2))/\Sat R (A::Hs) w')) (hw:Sat R (A::Hs) w):
  Zj prog 56 #[.slice s.a s.len s.cap,f] w λ v w'=>v=.bool ((erE ds).any p)/\Sat R (A::Hs) w':=by
 apply ZpN;refine (ZeF p hr hl hf hw).use ?_;rintro _ w ⟨rfl,hw⟩;refine ⟨_,rfl,?_,hw⟩;rw [Zny]
 congr 1
 rw [Bool.eq_iff_iff,Option.isSome_iff_ne_none,ne_eq,List.findIdx?_eq_none_iff];simp [List.any_eq_true];exact ⟨λ⟨x,⟨a,h⟩,hp⟩=>⟨a,x,h,hp⟩,λ⟨a,x,h,hp⟩=>⟨x,⟨a,h⟩,hp⟩⟩
theorem Ze4 {A:HP} {s:Sl} {ds:List DE4} (hr:Rdg R A 4 s (ds.map ZaC)) (hl:ds.length<=1099511627777) (hd:DsR R ds) (hw:Sat R (A::Hs) w):
  Zj prog 56 #[.slice s.a s.len s.cap,.func (.func 84) #[] #[]] w λ v w'=>v=.bool ((erE ds).any Rf.oddE)/\Sat R (A::Hs) w':=
 ZcI Rf.oddE hr hl (λ e he w hw=>by
  show Calls prog 84 #[Zio e] w _;refine (Zmh (by have:=(hd e he).len;simpa using this) hw).use ?_;rintro _ w ⟨rfl,hw⟩;exact ⟨rfl,hw⟩) hw
end
section
open Go Go.VC Tryz
open Go.Rf (Ey Lg ZD)
variable {R R' R1:Cx} {Hs Rest Rest2:List HP} {w:World}
theorem ZgN {s t:Sl} {ds es:List DE4} {K:Sl->World->Prop} (hw:Sat R (Zao s ds::Zao t es::Hs) w) (hl:ds.length + es.length<=1099511627777)
  (k:∀ s' w',Sat R (Zao s' (ds++es)::Zao t es::Hs) w'->K s' w'):
  ∃ w',∃ u:Sl,(Builtin.append_ #[ 46,46 ] 46 #[.slice s.a s.len s.cap,.slice t.a t.len t.cap]).run prog w=.ok (.slice u.a u.len u.cap) w'/\K u w':=by
 obtain ⟨R',ht,_,hw2,back⟩:=OwnN.lend hw.swap;refine ZaZ elE hw2 (ZiH elE.hk hw2 ht (Zew es)) (Zeg es) (by rw [List.length_map,List.length_map];omega) (by rw [List.length_map,List.length_map];omega) λ s' w' h=>k s' w' ?_;have h:=(back h).swap;rwa [<-List.map_append] at h
theorem Zhn (i t:Int) (hw:Sat R Hs w):Zj prog 33 #[.int .i64 i,.int .i64 t] w λ v w'=>
  ((Rf.inIx i && Rf.inIx t)=true/\∃ p,v=.tuple #[.pointer (some ⟨p,0,none⟩),.int .i64 0]/\Sat R (Zr R p (Lg.new i t)::Hs) w')\/((Rf.inIx i && Rf.inIx t)=false/\v=.tuple #[.pointer none,.int .i64 1]/\Sat R Hs w'):=by
 apply Zp9;refine (ZbM hw).use ?_;clear hw;rintro _ w ⟨rfl,hw⟩;refine ⟨_,rfl,Br.nb (λ h=>.inr ⟨by rw [h];rfl,rfl,hw⟩) (λ h=>?_)⟩;refine (ZbM hw).use ?_;clear hw;rintro _ w ⟨rfl,hw⟩;refine ⟨_,rfl,Br.nb (λ h2=>.inr ⟨by rw [h,h2];rfl,rfl,hw⟩) (λ h2=>Zd hw λ b w hw=>Zd hw λ p w hw=>.inl ⟨by rw [h,h2];rfl,?_⟩)⟩;refine ⟨p,rfl,Zr.iff.2 ⟨⟨some ⟨b,0,none⟩,1,1⟩,[(⟨none,0,0⟩,⟨i,t,0,[]⟩)],⟨rfl,.one ⟨rfl,Nat.le_refl _,λ h=>absurd rfl h⟩⟩,?_⟩⟩;refine hw.cons λ _ h=>?_;exact OwnN.of_pts (n:=4) (cap:=1) (rest:=[]) (rows:=[ZaC (⟨none,0,0⟩,⟨i,t,0,[]⟩)]) (Wid.one rfl) rfl h
theorem Zhq {A:HP} {p:Nat} {g:Lg} {s':Sl} {es:List DE4} (ok:ZD g) (hr:Rdg R A 4 s' (es.map ZaC)) (hd:DsR R es) (hl:es.length<=1099511627777) (hw:Sat R (Zr R p g::A::Hs) w):
  Zj prog 34 #[.pointer (some ⟨p,0,none⟩),.slice s'.a s'.len s'.cap] w λ v w'=>∃ R',R.Ext R'/\v=.int .i64 (g.add (erE es)).1/\Sat R' (Zr R' p (g.add (erE es)).2::A::Hs) w':=by
 obtain ⟨s,ds,hi,hw⟩:=Zr.iff.1 hw;have hw:Sat R (A::pts p (Zw s g.com g.app)::Zao s ds::Hs) w:=hw.arr;apply Zp8;refine (Ze4 hr hl hd hw).use ?_;clear hw;rintro _ w ⟨rfl,hw⟩;have out:∀ {w},(g.add (erE es)).2=g->Sat R (A::pts p (Zw s g.com g.app)::Zao s ds::Hs) w->Sat R (Zr R p (g.add (erE es)).2::A::Hs) w:=λ h hw=>by
  rw [h];exact Zr.iff.2 ⟨s,ds,hi,hw.arr⟩
 refine ⟨_,rfl,Br.mk (λ h=>?_) (λ h=>?_)⟩
 ·have e:g.add (erE es)=(1,g):=by unfold Lg.add;rw [if_pos h]
  exact ⟨R,.refl,by rw [e],out (by rw [e]) hw⟩
 have hod:∀ e∈es,Rf.oddE e.2=false:=λ e he=>by
  have:=List.any_eq_false.1 h e.2 (List.mem_map_of_mem he);simpa using this
 refine (Zcg hi ok hw).use ?_;clear hw;rintro _ w ⟨rfl,hw⟩;refine ⟨_,rfl,?_⟩;have hw:Sat R (pts p (Zw s g.com g.app)::Zao s ds::A::Hs) w:=hw.arr;refine (Zkx hi ok hw).use ?_;clear hw;rintro _ w ⟨t,rfl,hw⟩;have hw:Sat R (A::pts p (Zw s g.com g.app)::Zao s ds::Hs) w:=hw.arr;refine ⟨_,_,_,t,rfl,?_⟩;refine (ZeM hr hl hod _ _ hw).use ?_;clear hw;rintro _ w ⟨rfl,hw⟩;refine ⟨_,rfl,Br.nb (λ h2=>?_) (λ h2=>?_)⟩
 ·have e:g.add (erE es)=(7,g):=by unfold Lg.add;rw [if_neg (by rw [h];simp),if_neg (by rw [h2];simp)]
  exact ⟨R,.refl,by rw [e],out (by rw [e]) hw⟩
 have e:g.add (erE es)=(0,{ g with l:=g.l++erE es }):=by unfold Lg.add;rw [if_neg (by rw [h];simp),if_pos h2]
 have ok2:=ok.add (erE es);rw [e] at ok2 ⊢;refine Zi (Sat R [pts p (Zw s g.com g.app),VC.tru]) hw (λ w hw=>hw.k1) λ w hw=>Zb.mk rfl ⟨s,At.own Zf (by exact ⟨rfl,trivial⟩),?_⟩;refine (Zc5 hr hd hl (λ x hx=>by have:=Rf.oddE_no (hod x hx);omega) hw).use ?_;clear hw;rintro _ w ⟨R2,t2,ds2,e2,hd2,he2,rfl,hw⟩;refine ⟨t2,rfl,(e2.back hw).k1,?_⟩;have hw:Sat R2 (Zao s ds::Zao t2 ds2::A::pts p (Zw s g.com g.app)::Hs) w:=hw.arr;have hl2:ds2.length=es.length:=by have:=congrArg List.length he2;simpa using this
 have hll:=ok2.len;simp only [List.length_append,List.length_map] at hll;refine ZgN hw (by have:=hi.len;omega) λ s3 w hw=>Zb.mk rfl ?_;have hw:Sat R2 (pts p (Zw s g.com g.app)::Zao s3 (ds++ds2)::A::Hs) w:=by
  have h:Sat R2 (Zao t2 ds2::pts p (Zw s g.com g.app)::Zao s3 (ds++ds2)::A::Hs) w:=hw.arr;exact h.drop
 refine Za hw (by kernel_rfl) rfl (by simp [Value.cells,Zc]) λ w hw=>?_;refine ⟨R2,e2,rfl,Zr.iff.2 ⟨s3,ds++ds2,⟨?_,(hi.d.ext e2).app hd2⟩,hw⟩⟩;simp only [erE,List.map_append] at he2 ⊢;rw [he2,show ds.map (·.2)=g.all from hi.e];rfl
theorem Zhj {b o:Nat} {i lo hi:Int} {l:List Value} {T:TypeId} (ho:o<l.length) (hw:Sat R (pts b (.cells l.toArray T (0,0))::Hs) w):Zj prog 209 #[.pointer (some ⟨b,o,none⟩),.int .i64 i,.int .i64 lo,.int .i64 hi] w λ v w'=>
  (v=.int .i64 (if i<lo\/i>hi then 7 else 0)/\Sat R (pts b (.cells (if i<lo\/i>hi then l else l.set o (.int .i64 i)).toArray T (0,0))::Hs) w'):=by
 apply Zn5;refine Br.d (λ h=>by rw [if_pos (.inl h),if_pos (.inl h)];exact ⟨rfl,hw⟩) (λ h=>Br.d (λ h2=>by rw [if_pos (.inr h2),if_pos (.inr h2)];exact ⟨rfl,hw⟩) (λ h2=>Zb.mk rfl ?_));rw [if_neg (by omega),if_neg (by omega)];refine Za hw (by kernel_rfl) rfl (by simp [Value.cells];omega) λ w hw=>⟨rfl,hw⟩
theorem ZdU {p:Nat} {g:Lg} (ok:ZD g) (i:Int) (hw:Sat R (Zr R1 p g::Hs) w):Zj prog 161 #[.pointer (some ⟨p,0,none⟩),.int .i64 i] w λ v w'=>v=.int .i64 (g.commit i).1/\Sat R (Zr R1 p (g.commit i).2::Hs) w':=by
 obtain ⟨s,ds,hi,hw⟩:=Zr.iff.1 hw;apply Zoh;refine Zm hw λ w hw=>Zb.mk rfl (Zb.mk rfl ⟨_,At.own Zf (by exact ⟨rfl,trivial⟩),?_⟩);refine (Zcg hi ok hw).use ?_;clear hw;rintro _ w ⟨rfl,hw⟩;refine ⟨_,rfl,hw,?_⟩;refine (Zhj (by simp) hw).use ?_;clear hw;rintro _ w ⟨rfl,hw⟩;refine ⟨_,rfl,?_⟩;unfold Lg.commit;by_cases h:i<g.com\/i>g.last
 ·rw [if_pos h] at hw
  rw [if_pos h,if_pos h];exact ⟨rfl,Zr.iff.2 ⟨s,ds,hi,hw⟩⟩
 ·rw [if_neg h] at hw
  rw [if_neg h,if_neg h];exact ⟨rfl,Zr.iff.2 ⟨s,ds,⟨hi.e,hi.d⟩,hw⟩⟩
theorem Zie {p:Nat} {g:Lg} (i:Int) (hw:Sat R (Zr R1 p g::Hs) w):Zj prog 152 #[.pointer (some ⟨p,0,none⟩),.int .i64 i] w λ v w'=>v=.int .i64 (g.apply i).1/\Sat R (Zr R1 p (g.apply i).2::Hs) w':=by
 obtain ⟨s,ds,hi,hw⟩:=Zr.iff.1 hw;apply Zop;refine Zm hw λ w hw=>Zb.mk rfl (Zb.mk rfl ⟨_,At.own Zf (by exact ⟨rfl,trivial⟩),Zb.mk rfl ⟨_,At.own Zf (by exact ⟨rfl,trivial⟩),?_⟩⟩);refine (Zhj (by simp) hw).use ?_;clear hw;rintro _ w ⟨rfl,hw⟩;refine ⟨_,rfl,?_⟩;unfold Lg.apply;by_cases h:i<g.app\/i>g.com
 ·rw [if_pos h] at hw
  rw [if_pos h,if_pos h];exact ⟨rfl,Zr.iff.2 ⟨s,ds,hi,hw⟩⟩
 ·rw [if_neg h] at hw
  rw [if_neg h,if_neg h];exact ⟨rfl,Zr.iff.2 ⟨s,ds,⟨hi.e,hi.d⟩,hw⟩⟩
section
variable {p:Nat} {g:Lg}
theorem ZT (ok:ZD g) (hw:Sat R (Zr R1 p g::Hs) w):Zj prog 39 #[.pointer (some ⟨p,0,none⟩)] w λ v w'=>v=.int .i64 g.last/\Sat R (Zr R1 p g::Hs) w':=by
 obtain ⟨s,ds,hi,hw⟩:=Zr.iff.1 hw;exact (Zcg hi ok hw).mono λ _ _ h=>⟨h.1,Zr.iff.2 ⟨s,ds,hi,h.2⟩⟩
theorem ZeD (ok:ZD g) (hw:Sat R (Zr R1 p g::Hs) w):Zj prog 157 #[.pointer (some ⟨p,0,none⟩)] w λ v w'=>v=.int .i64 (g.b.ix + 1)/\Sat R (Zr R1 p g::Hs) w':=by
 obtain ⟨s,ds,hi,hw⟩:=Zr.iff.1 hw;exact (Zj0 hi ok hw).mono λ _ _ h=>⟨h.1,Zr.iff.2 ⟨s,ds,hi,h.2⟩⟩
theorem ZaS (ok:ZD g) (i:Int) (hw:Sat R (Zr R1 p g::Hs) w):Zj prog 100 #[.pointer (some ⟨p,0,none⟩),.int .i64 i] w λ v w'=>v=.tuple #[.int .i64 (g.term i).1,.bool (g.term i).2]/\Sat R (Zr R1 p g::Hs) w':=by
 obtain ⟨s,ds,hi,hw⟩:=Zr.iff.1 hw;exact (Zdd hi ok i hw).mono λ _ _ h=>⟨h.1,Zr.iff.2 ⟨s,ds,hi,h.2⟩⟩
theorem ZF (hw:Sat R (Zr R1 p g::Hs) w):Zj prog 50 #[.pointer (some ⟨p,0,none⟩)] w λ v w'=>v=.int .i64 g.com/\Sat R (Zr R1 p g::Hs) w':=by
 obtain ⟨s,ds,hi,hw⟩:=Zr.iff.1 hw;apply ZpT;exact Zb.mk rfl ⟨_,At.own (eqS hw) (by exact ⟨rfl,trivial⟩),rfl,Zr.iff.2 ⟨s,ds,hi,hw⟩⟩
theorem Zgx (hw:Sat R (Zr R1 p g::Hs) w):Zj prog 155 #[.pointer (some ⟨p,0,none⟩)] w λ v w'=>v=.int .i64 g.app/\Sat R (Zr R1 p g::Hs) w':=by
 obtain ⟨s,ds,hi,hw⟩:=Zr.iff.1 hw;apply Zon;exact Zb.mk rfl ⟨_,At.own (eqS hw) (by exact ⟨rfl,trivial⟩),rfl,Zr.iff.2 ⟨s,ds,hi,hw⟩⟩
theorem Zdk (ok:ZD g) (i most:Int) (hw:Sat R (Zr R p g::Hs) w):Zj prog 53 #[.pointer (some ⟨p,0,none⟩),.int .i64 i,.int .i64 most] w λ v w'=>
  ∃ R' t ds',R.Ext R'/\DsR R' ds'/\erE ds'=g.get i most/\v=.slice t.a t.len t.cap/\Sat R' (Zao t ds'::Zr R' p g::Hs) w':=by
 obtain ⟨s,ds,hi,hw⟩:=Zr.iff.1 hw;refine (Zmu hi ok i most hw).mono ?_;rintro _ w ⟨R2,t,ds2,e2,hd2,he2,rfl,hw⟩;exact ⟨R2,t,ds2,e2,hd2,he2,rfl,hw.cons λ _ h=>Zr.iff.2 ⟨s,ds,hi.ext (e2.trans (by exact ⟨λ _ _ h=>h,⟨rfl,rfl,rfl⟩⟩)),h⟩⟩
end
end
section
open Go Go.VC Tryz
open Go.Rf (Ey Lg ZD)
variable {R R' R1:Cx} {Hs Rest Rest2:List HP} {w:World}
theorem ZfT {s:Sl} {ds:List DE4} (hr:RoN 4 R s (ds.map ZaC)) (hl:ds.length<=1099511627777) (hw:Sat R Hs w):
  Zj prog 210 #[.slice s.a s.len s.cap] w λ v w'=>∃ t:Sl,v=.slice t.a t.len t.cap/\Sat R (Zao t ds::Hs) w':=by
 apply Zn4;refine Br.mk (λ h=>?_) (λ h=>?_)
 ·have:ds=[]:=by
   cases ds with
   |nil=>rfl
   |cons e ds=>
    obtain ⟨b,off,l,T,fr,ha,_⟩:=hr.mem (by simp);rw [ha] at h;cases h
  subst this;exact ⟨⟨none,0,0⟩,rfl,OwnN.nil hw⟩
 ·refine Zd hw λ b w hw=>?_
  have hlen:=hr.len;have hsrc:=ZiH (P:=prog) ⟨_,underlying46⟩ hw hr (Zew ds);refine Zdq (b:=b) elE hw hsrc (Zeg ds) (by rw [List.length_map];omega) (by rw [List.length_map];omega) λ t w hw=>?_;exact ⟨t,rfl,hw⟩
section
variable {p:Nat} {g:Lg} {s:Sl} {com app:Int} {ds:List DE4} [tk:Zbk p Hs (Zw s com app) Rest] [te:Zfj (Zao s ds) Hs Rest2]
include tk te
theorem ZhY {e:DE4} {b4:Nat} {Rest3:List HP} [tb:Zbk b4 Hs (.cells [.pointer (some ⟨p,0,none⟩)].toArray 54 (0,0)) Rest3] (hi:Zfa R' g ds) (ok:ZD g) (hw:Sat R Hs w):
  Zj prog 250 #[Zio e,.pointer (some ⟨b4,0,none⟩)] w λ v w'=>v=.bool (g.unlike e.2)/\Sat R Hs w':=by
 apply ZnJ;refine Zd hw λ b w hw=>Zb.mk rfl ⟨_,At.own (eqS hw) (by exact ⟨rfl,trivial⟩),e.2.ix,At.own (eqS hw) (by exact ⟨rfl,trivial⟩),?_⟩;refine (Zdd hi ok e.2.ix hw).use ?_;clear hw;rintro _ w ⟨rfl,hw⟩;unfold Lg.unlike;refine ⟨_,_,rfl,Br.nb (λ h=>⟨by rw [h];rfl,hw.drop⟩) λ h=>⟨e.2.tm,At.own (eqS hw) (by exact ⟨rfl,trivial⟩),?_,hw.drop⟩⟩;rw [h,Bool.true_and];rfl
end
def MgQ (R:Cx) (Hs:List HP) (p:Nat) (r:(Int × Int) × Lg) (v:Value) (w:World):Prop:=∃ R',R.Ext R'/\v=.tuple #[.int .i64 r.1.1,.int .i64 r.1.2]/\Sat R' (Zr R' p r.2::Hs) w
theorem Zib {A:HP} {p:Nat} {g:Lg} {s':Sl} {es:List DE4} (ok:ZD g) (i t:Int) (hr:Rdg R A 4 s' (es.map ZaC)) (hd:DsR R es) (hl:es.length<=1099511627776) (hcap:s'.len<=s'.cap) (hw:Sat R (Zr R p g::A::Hs) w):
  Zj prog 235 #[.pointer (some ⟨p,0,none⟩),.int .i64 i,.int .i64 t,.slice s'.a s'.len s'.cap] w (MgQ R (A::Hs) p (g.merge i t (erE es))):=by
 obtain ⟨s,ds,hi,hw⟩:=Zr.iff.1 hw;apply ZnT;refine Zd hw λ b4 w hw=>?_;have hw:Sat R (A::pts b4 (.cells [.pointer (some ⟨p,0,none⟩)].toArray 54 (0,0))::pts p (Zw s g.com g.app)::Zao s ds::Hs) w:=hw.arr;obtain ⟨M,hM⟩:∃ M,M=g.merge i t (erE es):=⟨_,rfl⟩;rw [<-hM];unfold Lg.merge at hM;have hsl':=hr.len hw;have no:∀ {w a b},M=((a,b),g)->Sat R (A::pts b4 (.cells [.pointer (some ⟨p,0,none⟩)].toArray 54 (0,0))::pts p (Zw s g.com g.app)::Zao s ds::Hs) w->MgQ R (A::Hs) p M (.tuple #[.int .i64 a,.int .i64 b]) w:=λ h hw=>by
  rw [h];exact ⟨R,.refl,rfl,Zr.iff.2 ⟨s,ds,hi,(hw.swap.drop).arr⟩⟩
 refine ⟨λ w=>((erE es).any Rf.oddE=false/\Rf.folE (erE es) i t=true)/\Sat R (A::pts b4 (.cells [.pointer (some ⟨p,0,none⟩)].toArray 54 (0,0))::pts p (Zw s g.com g.app)::Zao s ds::Hs) w,?_,?_⟩
 ·refine (Ze4 hr (by omega) hd hw).use ?_
  clear hw;rintro _ w ⟨rfl,hw⟩;refine ⟨_,rfl,Br.mk (λ h=>no (by rw [hM,if_pos (by rw [h];rfl)]) hw) λ h=>?_⟩;have hod:∀ e∈es,Rf.oddE e.2=false:=λ e he=>by
   have:=List.any_eq_false.1 h e.2 (List.mem_map_of_mem he);simpa using this
  refine (ZeM hr (by omega) hod _ _ hw).use ?_;clear hw;rintro _ w ⟨rfl,hw⟩;exact ⟨_,rfl,Br.nb (λ h2=>no (by rw [hM,if_pos (by rw [h,h2];rfl)]) hw) λ h2=>⟨⟨h,h2⟩,hw⟩⟩
 clear hw;rintro _ w ⟨⟨h1,h2⟩,hw⟩;rw [if_neg (by rw [h1,h2];simp)] at hM;have hok:=Rf.OkE.of_fol h1 h2;have hlen:=hi.len;have hll:=ok.last_le;have hb0:=ok.b0;refine ⟨λ x y s1 w=>∃ (es1:List DE4) (y':Int),Rdg R A 4 s1 (es1.map ZaC)/\DsR R es1/\es1.length<=1099511627776/\s1.len<=s1.cap/\Rf.OkE (erE es1) x y'/\M=g.mergeAt x y (erE es1)/\Sat R (A::pts b4 (.cells [.pointer (some ⟨p,0,none⟩)].toArray 54 (0,0))::pts p (Zw s g.com g.app)::Zao s ds::Hs) w,?_,?_⟩
 ·refine ⟨some ⟨p,0,none⟩,At.own (eqS hw) (by exact ⟨rfl,trivial⟩),Zb.mk rfl ⟨s,At.own (eqS hw) (by exact ⟨rfl,trivial⟩),?_⟩⟩
  refine ZgE hw (eqS hw) (ds:=ds) 0 rfl (by omega) λ a _ el=>?_;have e0:ds[0].2=g.b:=(hi.get (k:=0) (by omega)).2;refine ⟨_,_,_,_,el.z (by exact ⟨rfl,rfl,rfl,rfl,trivial⟩),Zd hw λ b2 w hw=>?_⟩;refine Za hw (by kernel_rfl) rfl (by simp [Value.cells,Zc]) λ w hw=>?_;have hw:=hw.re (pts b2 (.cells (ZaC ds[0]).toArray 52 (0,0)));refine ⟨_,At.own (eqS hw) (by exact ⟨rfl,trivial⟩),?_⟩;rw [e0];refine Br.d (λ h3=>⟨_,At.own (eqS hw) (by exact ⟨rfl,trivial⟩),?_⟩) (λ h3=>⟨es,t,hr,hd,hl,hcap,hok,by rw [hM,if_neg h3],hw.drop⟩);rw [e0,Zh (by have:=ok.b1;omega) (by have:=ok.b1;omega)];rw [if_pos h3,List.length_map] at hM;refine Br.d (λ h4=>no (by rw [hM,if_pos (by omega)]) hw.drop) (λ h4=>⟨_,At.own (eqS hw) (by exact ⟨rfl,trivial⟩),?_⟩);rw [if_neg (by omega)] at hM;dsimp only at hM;rw [e0,Zh (by have:=ok.b1;omega) (by have:=ok.b1;omega)];obtain ⟨k,hk⟩:∃ k:Nat,(g.b.ix - i).toNat=k:=⟨_,rfl⟩;have hkl:k<es.length:=by omega
  rw [hk] at hM ⊢;have hsub:=hr.sub (l:=k) (m:=s'.cap) (by rw [List.length_map];omega) (by rw [List.length_map];omega) (s'.cap - k);rw [<-List.map_drop] at hsub;refine ⟨by omega,by omega,Zm hw λ w hw=>?_⟩;have hkd:0<(es.drop k).length:=by rw [List.length_drop];omega
  have hw2:Sat R (A::pts b2 (.cells (ZaC ds[0]).toArray 52 (0,0))::pts b4 (.cells [.pointer (some ⟨p,0,none⟩)].toArray 54 (0,0))::pts p (Zw s g.com g.app)::Zao s ds::Hs) w:=hw.swap;refine hsub.rng .refl hw2 (λ w (h:Sat R (pts b2 (.cells (ZaC ds[0]).toArray 52 (0,0))::A::pts b4 (.cells [.pointer (some ⟨p,0,none⟩)].toArray 54 (0,0))::pts p (Zw s g.com g.app)::Zao s ds::Hs) w)=>h.swap) 0 rfl hkd λ a _ el=>?_;refine ⟨_,el.f 1 (by exact ⟨rfl,trivial⟩),ds[0].2.tm,At.own Zf (by exact ⟨rfl,trivial⟩),?_⟩;have e1:((erE es).drop k).getD 0 ⟨0,0,0,[]⟩=(es.drop k)[0].2:=by
   rw [<-List.map_drop,List.getD_eq_getElem?_getD,List.getElem?_map,List.getElem?_eq_getElem hkd];rfl
  rw [e1,<-e0] at hM;refine Br.d (λ h5=>no (by rw [hM,if_pos h5]) hw.drop) (λ h5=>Zm hw λ w hw=>⟨ds[0].2.ix,At.own Zf (by exact ⟨rfl,trivial⟩),ds[0].2.tm,At.own Zf (by exact ⟨rfl,trivial⟩),es.drop k,(Rf.lastE ⟨i,t,0,[]⟩ ((erE es).take k)).tm,hsub,λ e he=>hd e (List.mem_of_mem_drop he),by rw [List.length_drop];omega,by simp only;omega,?_,?_,hw.drop⟩)
  ·rw [erE,List.map_drop]
   have:=Rf.drop_fol hok (k:=k) (by rw [List.length_map];omega);rwa [show i + (k:Int)=ds[0].2.ix by rw [e0];omega] at this
  ·rw [hM,if_neg h5,show erE (es.drop k)=(erE es).drop k from List.map_drop]
 clear hw hM;rintro _ x y s1 w ⟨es1,y',hr1,hd1,hl1,hcap1,hok1,hM,hw⟩;have hsl1:=hr1.len hw;unfold Lg.mergeAt at hM;refine ⟨λ w=>g.unlike ⟨x,y,0,[]⟩=false/\Sat R (A::pts b4 (.cells [.pointer (some ⟨p,0,none⟩)].toArray 54 (0,0))::pts p (Zw s g.com g.app)::Zao s ds::Hs) w,?_,?_⟩
 ·refine ⟨_,At.own (eqS hw) (by exact ⟨rfl,trivial⟩),?_⟩
  refine (Zdd hi ok x hw).use ?_;clear hw;rintro _ w ⟨rfl,hw⟩;refine ⟨_,_,rfl,Br.nb (λ h=>no (by rw [hM,if_pos (by unfold Lg.unlike;rw [h];rfl)]) hw) λ h=>Br.ne (λ h2=>no (by rw [hM,if_pos (by unfold Lg.unlike;rw [h];simpa using h2)]) hw) λ h2=>⟨by unfold Lg.unlike;rw [h];simpa using h2,hw⟩⟩
 clear hw;rintro _ w ⟨hu,hw⟩;rw [if_neg (by rw [hu];simp)] at hM;have hlk:=(Rf.Lg.like hu).1;refine (ZeF g.unlike hr1 (by omega) (λ e he w hw=>Zdw.mk (by kernel_rfl) ?_) hw).use ?_
 ·refine (ZhY (e:=e) (b4:=b4) hi ok hw).use ?_
  rintro _ w ⟨rfl,hw⟩;exact ⟨rfl,hw⟩
 clear hw;rintro _ w ⟨rfl,hw⟩;refine ⟨_,rfl,?_⟩;cases ho:(erE es1).findIdx? g.unlike with
 |none=>
  rw [ho] at hM;exact Br.t (by unfold Zpg;simp) (no hM hw)
 |some k=>
 rw [ho] at hM;dsimp only at hM;obtain ⟨hk1,hk2,hk3⟩:=List.findIdx?_eq_some_iff_getElem.1 ho;rw [List.length_map] at hk1;have hix:es1[k].2.ix=x + 1 + k:=by have:=hok1.ix k (by rw [List.length_map];exact hk1);simpa using this
 rw [show ((erE es1).getD k ⟨0,0,0,[]⟩).ix=x + 1 + k by rw [List.getD_eq_getElem?_getD,List.getElem?_map,List.getElem?_eq_getElem hk1,<-hix];rfl] at hM;have hprev:g.has (x + k)=true:=by
  cases k with
  |zero=>simpa using hlk
  |succ k=>
   have:=(Rf.Lg.like (by simpa using hk3 k (by omega)):_).1;have h2:es1[k].2.ix=x + 1 + k:=by have:=hok1.ix k (by rw [List.length_map];omega);simpa using this
   rw [h2] at this;refine (congrArg g.has ?_).trans this;omega
 have hp:=Rf.Lg.has_iff.1 hprev;unfold Lg.last at hp hll;unfold Zpg;dsimp only;refine Br.f (by simp) ?_;refine hr1.rng .refl hw (λ w h=>eqS hw w h) k rfl hk1 λ a _ el=>⟨es1[k].2.ix,el.zz (by exact ⟨rfl,trivial⟩),some ⟨p,0,none⟩,At.own (eqS hw) (by exact ⟨rfl,trivial⟩),Zb.mk rfl ⟨g.com,At.own (eqS hw) (by exact ⟨rfl,trivial⟩),?_⟩⟩;rw [hix];refine Br.d (λ h=>no (by rw [hM,if_pos h]) hw) λ h=>?_;rw [if_neg h] at hM;have hc0:=ok.c0;refine Zi (Sat R [pts b4 (.cells [.pointer (some ⟨p,0,none⟩)].toArray 54 (0,0)),pts p (Zw s g.com g.app),VC.tru]) hw (λ w hw=>hw.k2) λ w hw=>⟨some ⟨p,0,none⟩,At.own Zf (by exact ⟨rfl,trivial⟩),some ⟨p,0,none⟩,At.own Zf (by exact ⟨rfl,trivial⟩),Zb.mk rfl ⟨s,At.own Zf (by exact ⟨rfl,trivial⟩),some ⟨p,0,none⟩,At.own Zf (by exact ⟨rfl,trivial⟩),by omega,by omega,?_⟩⟩;refine (ZaO hi hw).use ?_;clear hw;rintro _ w ⟨rfl,hw⟩;have hw2:Sat R (Zao s ds::A::pts b4 (.cells [.pointer (some ⟨p,0,none⟩)].toArray 54 (0,0))::pts p (Zw s g.com g.app)::Hs) w:=hw.arr;have hscap:=OwnN.cap (by omega) hw2;have hsl:s.len=ds.length:=by have:=OwnN.len hw2;simpa using this
 obtain ⟨m,hm⟩:∃ m:Nat,(x + 1 + k - g.b.ix).toNat=m + 1:=⟨(x + 1 + k - g.b.ix).toNat - 1,by omega⟩;refine ⟨g.b.ix,rfl,hw.k2,?_⟩;rw [Zh (by omega) (by omega),hm];refine ⟨by omega,by omega,?_⟩;clear hw;obtain ⟨R2,e2,hro,hw⟩:=OwnN.leak hw2;have hro2:=hro.take (h:=m + 1) (by rw [List.length_map];omega) s.cap;rw [<-List.map_take] at hro2;refine (ZfT hro2 (by rw [List.length_take];omega) hw).use ?_;clear hw hw2;rintro _ w ⟨c,rfl,hw⟩;have hs1:Rdg R2 A 4 ⟨ZbB s1.a k s1.cap 4,s1.len - k,s1.cap - k⟩ ((es1.drop k).map ZaC):=by
  have:=(hr1.ext e2).sub (l:=k) (m:=s1.cap) (by rw [List.length_map];omega) (by rw [List.length_map];omega) (s1.cap - k);rwa [<-List.map_drop] at this
 have hbd:∀ e∈es1.drop k,e.2.dt.length<=1099511627776:=λ e he=>by
  have:=Rf.oddE_no (hok1.no e.2 (List.mem_map_of_mem (List.mem_of_mem_drop he)));omega
 refine ⟨c,rfl,(e2.back hw).k2,?_⟩;refine (Zc5 hs1 ((hd1.ext e2).drop k) (by rw [List.length_drop];omega) hbd (hw.swap)).use ?_;clear hw;rintro _ w ⟨R3,t3,ds3,e3,hd3,he3,rfl,hw⟩;refine ⟨t3,rfl,((e2.trans e3).back hw).k2,?_⟩;have hw:Sat R3 (Zao c (ds.take (m + 1))::Zao t3 ds3::A::pts b4 (.cells [.pointer (some ⟨p,0,none⟩)].toArray 54 (0,0))::pts p (Zw s g.com g.app)::Hs) w:=hw.arr;have hl3:ds3.length=es1.length - k:=by have:=congrArg List.length he3;simpa using this
 have htop:x + (es1.length:Int)<=1099511627776:=by
  have:=Rf.OkE.top (b:=⟨x,y',0,[]⟩) hok1 (by show x<=_;omega);rwa [List.length_map] at this
 refine ZgN hw (by rw [List.length_take];omega) λ u w hw=>⟨((e2.trans e3).back hw).k2,Zb.mk rfl ?_⟩;refine Za hw (by kernel_rfl) rfl (by simp [Value.cells,Zc]) λ w hw=>?_;have hw:=hw.re (pts p (Zw u g.com g.app));rw [hM];refine ⟨R3,e2.trans e3,rfl,Zr.iff.2 ⟨u,ds.take (m + 1)++ds3,⟨?_,((hi.d.ext (e2.trans e3)).take _).app hd3⟩,?_⟩⟩
 ·simp only [erE,List.map_append,List.map_take] at he3 ⊢
  rw [he3,show ds.map (·.2)=g.all from hi.e,show (x + 1 + (k:Int) - g.b.ix - 1).toNat=m by omega,List.map_drop];rfl
 ·have h:Sat R3 (Zao t3 ds3::pts b4 (.cells [.pointer (some ⟨p,0,none⟩)].toArray 54 (0,0))::pts p (Zw u g.com g.app)::Zao u (ds.take (m + 1)++ds3)::A::Hs) w:=hw.arr
  exact h.drop.drop
theorem Zgw {p:Nat} {g:Lg} (ok:ZD g) (i:Int) (hw:Sat R (Zr R p g::Hs) w):
  Zj prog 153 #[.pointer (some ⟨p,0,none⟩),.int .i64 i] w λ v w'=>v=.int .i64 (g.compact i).1/\∃ R',R.Ext R'/\Sat R' (Zr R' p (g.compact i).2::Hs) w':=by
 obtain ⟨s,ds,hi,hw⟩:=Zr.iff.1 hw;apply Zoo;have no:∀ {w},(i<g.b.ix\/i>g.app)->Sat R (pts p (Zw s g.com g.app)::Zao s ds::Hs) w->(.int .i64 7:Value)=.int .i64 (g.compact i).1/\∃ R',R.Ext R'/\Sat R' (Zr R' p (g.compact i).2::Hs) w:=λ h hw=>by
  unfold Lg.compact;rw [if_pos h];exact ⟨rfl,R,.refl,Zr.iff.2 ⟨s,ds,hi,hw⟩⟩
 refine ⟨λ w=>¬ (i<g.b.ix\/i>g.app)/\Sat R (pts p (Zw s g.com g.app)::Zao s ds::Hs) w,?_,?_⟩
 ·refine (ZaO hi hw).use ?_
  clear hw;rintro _ w ⟨rfl,hw⟩;exact ⟨_,rfl,Br.d (λ h=>no (.inl h) hw) λ h=>Zb.mk rfl ⟨_,At.own (eqS hw) (by exact ⟨rfl,trivial⟩),Br.d (λ h2=>no (.inr h2) hw) λ h2=>⟨by omega,hw⟩⟩⟩
 clear hw;rintro _ w ⟨hc,hw⟩;have hlen:=hi.len;have hll:=ok.last_le;have hb0:=ok.b0;have hc1:=ok.c1;have ha1:=ok.a1;have hh:g.has i=true:=Rf.Lg.has_iff.2 (by omega);unfold Lg.last at hll hc1;refine (ZeL hi ok hh hw).use ?_;clear hw;rintro _ w ⟨rfl,hw⟩;obtain ⟨k,hk,hkd,hat⟩:∃ k:Nat,(i - g.b.ix).toNat=k/\∃ h:k<ds.length,ds[k].2=g.at i:=⟨_,rfl,hi.at hh⟩;rw [hk];refine ⟨⟨ZbB s.a k s.cap 4,s.len - k,s.cap - k⟩,rfl,?_⟩;have hw2:Sat R (Zao s ds::pts p (Zw s g.com g.app)::Hs) w:=hw.swap;have hscap:=OwnN.cap (by omega) hw2;have hsl:s.len=ds.length:=by have:=OwnN.len hw2;simpa using this
 clear hw;obtain ⟨R2,e2,hro,hw⟩:=OwnN.leak hw2;have hro2:=hro.sub (l:=k) (h:=s.len) (m:=s.cap) (by omega) (by rw [List.length_map];omega) (by omega);rw [<-List.map_take,<-List.map_drop,List.take_of_length_le (by omega)] at hro2;refine (ZfT hro2 (by rw [List.length_drop];omega) hw).use ?_;clear hw hw2;rintro _ w ⟨c,rfl,hw⟩;refine ⟨c,rfl,Zb.mk rfl ?_⟩;refine Za hw (by kernel_rfl) rfl (by simp [Value.cells,Zc]) λ w hw=>?_;have hw:=hw.re (pts p (Zw c g.com g.app));have hw:Sat R2 (pts p (Zw c g.com g.app)::Zao c (ds.drop k)::Hs) w:=hw;have hkl:0<(ds.drop k).length:=by rw [List.length_drop];omega
 refine Zb.mk rfl ⟨c,At.own (eqS hw) (by exact ⟨rfl,trivial⟩),?_⟩;refine (OwnN.readsM (T:=52) (n:=4) (s:=c) (rows:=(ds.drop k).map ZaC) hw (eqS hw)).rngI (g:=ZaC) 0 rfl hkl λ a ha _=>?_;have e0:(ds.drop k)[0]=ds[k]:=by simp
 refine OwnN.storeM (n:=4) (s:=c) (T:=52) (E:=ds.drop k) (g:=ZaC) 3 (⟨none,0,0⟩,{ ds[k].2 with dt:=[] }) hw ha hkl (by kernel_rfl) rfl (by simp [Value.cells]) (by rw [e0];rfl) λ w hw=>?_;have hcs:(ds.drop k).set 0 (⟨none,0,0⟩,{ ds[k].2 with dt:=[] })=(⟨none,0,0⟩,{ ds[k].2 with dt:=[] })::ds.drop (k + 1):=by
  rw [List.drop_eq_getElem_cons hkd];rfl
 rw [hcs] at hw;unfold Lg.compact;rw [if_neg hc];refine ⟨rfl,R2,e2,Zr.iff.2 ⟨c,_,⟨?_,λ x hx=>?_⟩,hw.swap⟩⟩
 ·show { ds[k].2 with dt:=[] }::(ds.drop (k + 1)).map (·.2)={ g.at i with dt:=[] }::g.l.drop (i - g.b.ix).toNat
  refine congr (congrArg List.cons (congrArg (λ z:Ey=>{ z with dt:=[] }) hat)) ?_;rw [hk,List.map_drop,show ds.map (·.2)=g.all from hi.e];rfl
 ·rcases List.mem_cons.1 hx with rfl|hx
  ·exact ⟨rfl,Nat.le_refl _,λ h=>absurd rfl h⟩
  ·exact e2.slR (hi.d x (List.mem_of_mem_drop hx))
theorem Zia {p:Nat} {g:Lg} (i t:Int) (hw:Sat R (Zr R p g::Hs) w):
  Zj prog 237 #[.pointer (some ⟨p,0,none⟩),.int .i64 i,.int .i64 t] w λ v w'=>v=.int .i64 (g.reset i t).1/\Sat R (Zr R p (g.reset i t).2::Hs) w':=by
 apply ZnR;unfold Lg.reset;refine (Zhn i t hw).use ?_;clear hw;rintro _ w (⟨h,q,rfl,hw⟩|⟨h,rfl,hw⟩)
 ·rw [if_neg (by rw [h];simp)]
  obtain ⟨s,ds,hi,hw⟩:=Zr.iff.1 hw.swap;refine ⟨_,_,rfl,Br.f rfl (Zb.mk rfl ⟨_,At.own (eqS hw) (by exact ⟨rfl,trivial⟩),Br.d (λ h2=>?_) (λ h2=>?_)⟩)⟩
  ·rw [if_pos h2]
   exact ⟨rfl,Zr.iff.2 ⟨s,ds,hi,(hw.take (Zr R q (Lg.new i t))).drop⟩⟩
  ·rw [if_neg h2]
   have hw:Sat R (Zr R q (Lg.new i t)::pts p (Zw s g.com g.app)::Zao s ds::Hs) w:=hw.arr;obtain ⟨s2,ds2,hi2,hw⟩:=Zr.iff.1 hw;refine Zb.mk rfl ⟨s2,_,_,At.own (eqS hw) (by exact ⟨rfl,rfl,rfl,trivial⟩),Zb.mk rfl ?_⟩;refine Za hw (by kernel_rfl) rfl (by simp [Value.cells,Zc]) λ w hw=>?_;have hw:=hw.re (pts p (Zw s2 (Lg.new i t).com (Lg.new i t).app));have hw:Sat R (Zao s ds::pts q (Zw s2 (Lg.new i t).com (Lg.new i t).app)::pts p (Zw s2 (Lg.new i t).com (Lg.new i t).app)::Zao s2 ds2::Hs) w:=hw.arr;exact ⟨rfl,Zr.iff.2 ⟨s2,ds2,hi2,hw.drop.drop⟩⟩
 ·rw [if_pos (by rw [h];rfl)]
  exact ⟨none,1,rfl,Br.t rfl ⟨rfl,hw⟩⟩
theorem ZjP {p:Nat} {g:Lg} (ok:ZD g) (i t:Int) (hw:Sat R (Zr R p g::Hs) w):
  Zj prog 236 #[.pointer (some ⟨p,0,none⟩),.int .i64 i,.int .i64 t] w λ v w'=>v=.int .i64 (g.back i t)/\Sat R (Zr R p g::Hs) w':=by
 obtain ⟨s,ds,hi,hw⟩:=Zr.iff.1 hw;apply ZnS;have hll:=ok.last_le;have hb0:=ok.b0;refine (Zcg hi ok hw).use ?_;clear hw;rintro _ w ⟨rfl,hw⟩;unfold Lg.back;obtain ⟨k0,hk0⟩:∃ k0,k0=min i g.last:=⟨_,rfl⟩;have e0:(if g.last<i then g.last else i)=k0:=by rw [hk0];split<;>omega
 rw [<-hk0];refine ⟨g.last,rfl,?_⟩;rw [e0];refine ⟨λ k w=>(k<=g.last/\g.backF t (k0 - g.b.ix).toNat k0=g.backF t (k - g.b.ix).toNat k)/\Sat R (pts p (Zw s g.com g.app)::Zao s ds::Hs) w,λ k _=>(k - g.b.ix).toNat,⟨⟨by omega,rfl⟩,hw⟩,?_⟩;clear hw;rintro _ k w ⟨⟨hkl,he⟩,hw⟩;rw [he];refine (ZaO hi hw).use ?_;clear hw;rintro _ w ⟨rfl,hw⟩;refine ⟨_,rfl,Br.d (λ h=>?_) (λ h=>?_)⟩
 ·obtain ⟨m,hm⟩:∃ m:Nat,(k - g.b.ix).toNat=m + 1:=⟨(k - g.b.ix).toNat - 1,by omega⟩
  refine (Zdd hi ok k hw).use ?_;clear hw;rintro _ w ⟨rfl,hw⟩;have hb:g.backF t (m + 1) k=(if (g.term k).1<=t then k else g.backF t m (k - 1)):=by
   show (if k>g.b.ix then _ else _)=_
   rw [if_pos h]
  rw [hm,hb];refine ⟨_,_,rfl,Br.d (λ h2=>⟨by rw [if_pos h2],Zr.iff.2 ⟨s,ds,hi,hw⟩⟩) λ h2=>⟨⟨⟨?_,?_⟩,hw⟩,?_⟩⟩
  ·rw [Zh (by omega) (by omega)];omega
  ·rw [Zh (by omega) (by omega),if_neg h2,show (k - 1 - g.b.ix).toNat=m by omega]
  ·rw [Zh (by omega) (by omega)];dsimp only;omega
 ·refine (ZaO hi hw).use ?_
  clear hw;rintro _ w ⟨rfl,hw⟩;refine ⟨_,rfl,?_,Zr.iff.2 ⟨s,ds,hi,hw⟩⟩;rw [show (k - g.b.ix).toNat=0 by omega];rfl
end
section
open Go Go.VC Tryz
structure Hd where
 tm:Int
 vt:Int
structure Gp where
 vs:List Int
 ls:List Int
structure Bl where
 kd:Int
 fr:Int
 to':Int
 tm:Int
 ix:Int
 lt:Int
 yes:Bool
structure Eln where
 id:Int
 pat:Int
 hd:Hd
 g:Gp
 role:Int
 lead:Int
 wait:Int
 lim:Int
 yes:List Int
 no:List Int
def Z3 (n lo hi:Int):Bool:=decide (lo<=n/\n<=hi)
def Zko (id:Int) (h:Hd) (g:Gp) (pat:Int):Bool:=Z3 id 1 15 && Z3 h.tm 0 1099511627776 && Z3 h.vt 0 15 && Z3 pat 1 1000 && Zo g.vs g.ls
def Eln.new (id:Int) (h:Hd) (g:Gp) (pat:Int):Eln:=⟨id,pat,h,g,0,0,0,pat,[],[]⟩
def Eln.other (e:Eln) (n:Int):Bool:=decide (1<=n/\n<=15) && n !=e.id
def Eln.down (e:Eln) (t:Int):Eln:={ e with hd:=⟨t,0⟩,role:=0,lead:=0,yes:=[],no:=[] }
def Eln.heardOk (e:Eln) (fr t:Int):Bool:=e.other fr && !decide (t<e.hd.tm) && !decide (t>1099511627776) && !(t==e.hd.tm && e.role==3)
def Eln.heard (e:Eln) (fr t:Int):Eln:=if e.heardOk fr t then { (if t>e.hd.tm then e.down t else e) with role:=0,lead:=fr,wait:=0 } else e
def Eln.join (e:Eln) (g:Gp):Eln:=if Zo g.vs g.ls then { e with g:=g } else e
def Eln.wins (e:Eln):Bool:=ZaE e.g.vs e.g.ls e.yes
def Eln.lost (e:Eln):Bool:=Zk6 e.g.vs e.g.ls e.no
def Eln.alone (e:Eln) (role:Int):Eln:={ e with role:=role,yes:=[e.id],no:=[] }
def Eln.all (e:Eln) (kd t last lt:Int):List Bl:=(e.g.vs.filter λ v=>v !=e.id).map λ v=>⟨kd,e.id,v,t,last,lt,false⟩
def Eln.lead' (e:Eln):Eln:={ e with role:=3,lead:=e.id }
def Eln.run (e:Eln) (last lt:Int):List Bl × Eln:=
 if e.hd.tm >= 1099511627776 then ([],{ e with role:=0 })
 else let e1:=Eln.alone { e with hd:=⟨e.hd.tm + 1,e.id⟩ } 2
  if e1.wins then ([],e1.lead') else (e1.all 3 e1.hd.tm last lt,e1)
def Eln.hope (e:Eln) (draw:Int):Eln:=Eln.alone { e with wait:=0,lim:=e.pat + (if 0>draw then 0 else draw).tmod e.pat,lead:=0 } 1
def Eln.tick (e:Eln) (draw last lt:Int):List Bl × Eln:=
 if e.role==3 then ([],e)
 else let e0:={ e with wait:=e.wait + 1 }
  if e0.wait<e0.lim\/ZS e.g.vs e.id=false then ([],e0)
  else if (e.hope draw).wins then (e.hope draw).run last lt else ((e.hope draw).all 1 (e.hd.tm + 1) last lt,e.hope draw)
def Eln.says (e:Eln) (fr:Int) (yes:Bool):Eln:=
 if ZS e.yes fr||ZS e.no fr then e else if yes then { e with yes:=e.yes++[fr] } else { e with no:=e.no++[fr] }
def Eln.outc (e:Eln):Int:=if e.wins then 1 else if e.lost then 2 else 0
def Eln.counted (e:Eln) (o last lt:Int):List Bl × Eln:=
 if o==2 then ([],{ e with role:=0 }) else if o==1 && e.role==1 then e.run last lt else if o==1 then ([],e.lead') else ([],e)
def Eln.mayVote (e:Eln) (b:Bl) (old:Bool):Bool:=!(b.tm !=e.hd.tm) && !(e.hd.vt !=0 && e.hd.vt !=b.fr) && old
def Eln.vote (e:Eln) (b:Bl) (old:Bool):Eln:=if e.mayVote b old then { e with hd:=⟨e.hd.tm,b.fr⟩,wait:=0,role:=if e.role==1 then 0 else e.role } else e
def Eln.takeOk (e:Eln) (b:Bl):Bool:=!(b.to' !=e.id) && e.other b.fr && !decide (b.tm<0) && !decide (b.tm>1099511627776)
def ZiU (b:Bl) (last lt:Int):Bool:=decide (b.lt>lt)||(b.lt==lt && decide (b.ix >= last))
def Eln.ans (e:Eln) (b:Bl) (kd t:Int) (yes:Bool):List Bl:=[⟨kd,e.id,b.fr,t,0,0,yes⟩]
def Eln.take (e:Eln) (b:Bl) (last lt:Int):List Bl × Eln:=
 if e.takeOk b then
  (let above:=decide (b.tm>e.hd.tm)
  let old:=ZiU b last lt
  if b.kd==1 then
   (if above && old && (e.lead==0||decide (e.wait >= e.pat)) then (e.ans b 2 b.tm true,e) else (e.ans b 2 e.hd.tm false,e))
  else if b.kd==3 then
   (let e1:=if above then e.down b.tm else e
   (e1.ans b 4 e1.hd.tm (e1.mayVote b old),e1.vote b old))
  else if b.kd==2 then
   (if above && !b.yes then ([],e.down b.tm)
   else if e.role==1 && (!b.yes||b.tm==e.hd.tm + 1) then (e.says b.fr b.yes).counted (e.says b.fr b.yes).outc last lt
   else ([],e))
  else if b.kd==4 then
   (if above then ([],e.down b.tm)
   else if e.role==2 && b.tm==e.hd.tm then ([],((e.says b.fr b.yes).counted (e.says b.fr b.yes).outc last lt).2)
   else ([],e))
  else ([],e))
 else ([],e)
structure ZL (e:Eln):Prop where
 id0:1<=e.id
 id1:e.id<=15
 p0:1<=e.pat
 p1:e.pat<=1000
 t0:0<=e.hd.tm
 t1:e.hd.tm<=1099511627776
 v0:0<=e.hd.vt
 v1:e.hd.vt<=15
 g:Zo e.g.vs e.g.ls=true
 w0:0<=e.wait
 nd:(e.yes++e.no).Nodup
 rg:∀ x∈e.yes++e.no,1<=x/\x<=15
theorem Zk3 {l:List Int} (h:l.Nodup) (hr:∀ x∈l,1<=x/\x<=15):l.length<=15:=by
 refine h.length_le_of_subset (l₂:=[1,2,3,4,5,6,7,8,9,10,11,12,13,14,15]) λ x hx=>?_;have:=hr x hx;simp only [List.mem_cons,List.not_mem_nil,or_false];omega
theorem ZL.len {e:Eln} (h:ZL e):e.yes.length<=15/\e.no.length<=15:=by
 have:=Zk3 h.nd h.rg;rw [List.length_append] at this;omega
theorem Eln.other_bd {e:Eln} {n:Int} (h:e.other n=true):1<=n/\n<=15/\n≠e.id:=by
 unfold Eln.other at h;simp only [Bool.and_eq_true,decide_eq_true_eq,bne_iff_ne,ne_eq] at h;exact ⟨h.1.1,h.1.2,h.2⟩
theorem ZL.down {e:Eln} (h:ZL e) {t:Int} (h0:0<=t) (h1:t<=1099511627776):ZL (e.down t):={ h with t0:=h0,t1:=h1,v0:=Int.le_refl _,v1:=by show (0:Int)<=15;omega,nd:=by simp [Eln.down],rg:=by simp [Eln.down] }
theorem ZL.alone {e:Eln} (h:ZL e) (r:Int):ZL (e.alone r):={ h with nd:=by simp [Eln.alone],rg:=by simp [Eln.alone];exact ⟨h.id0,h.id1⟩ }
theorem ZL.lead' {e:Eln} (h:ZL e):ZL e.lead':={ h with }
theorem ZL.role {e:Eln} (h:ZL e) (r:Int):ZL { e with role:=r }:={ h with }
theorem ZL.join {e:Eln} (h:ZL e) (g:Gp):ZL (e.join g):=by
 unfold Eln.join;split
 ·rename_i hg;exact { h with g:=hg }
 ·exact h
theorem ZL.run {e:Eln} (h:ZL e) (last lt:Int):ZL (e.run last lt).2:=by
 unfold Eln.run;split
 ·exact h.role 0
 ·have h2:ZL (Eln.alone { e with hd:=⟨e.hd.tm + 1,e.id⟩ } 2):=by
   have h3:ZL { e with hd:=⟨e.hd.tm + 1,e.id⟩ }:={ h with t0:=by show 0<=e.hd.tm + 1;have:=h.t0;omega,t1:=by show e.hd.tm + 1<=_;omega,v0:=by show 0<=e.id;have:=h.id0;omega,v1:=h.id1 };exact h3.alone 2
  dsimp only;split
  ·exact h2.lead'
  ·exact h2
theorem ZL.tick {e:Eln} (h:ZL e) (d last lt:Int):ZL (e.tick d last lt).2:=by
 unfold Eln.tick;split
 ·exact h
 ·dsimp only
  split
  ·exact { h with w0:=by show 0<=e.wait + 1;have:=h.w0;omega }
  ·have h2:ZL (e.hope d):=by
    have h3:ZL { e with wait:=0,lim:=e.pat + (if 0>d then 0 else d).tmod e.pat,lead:=0 }:={ h with w0:=Int.le_refl _ }
    exact h3.alone 1
   split
   ·exact h2.run _ _
   ·exact h2
theorem ZL.says {e:Eln} (h:ZL e) {fr:Int} (h0:1<=fr) (h1:fr<=15) (y:Bool):ZL (e.says fr y):=by
 unfold Eln.says;split
 ·exact h
 ·rename_i hn
  have hy:fr ∉ e.yes:=λ hh=>hn (by rw [ZU.2 hh];rfl);have hn':fr ∉ e.no:=λ hh=>hn (by rw [ZU.2 hh,Bool.or_true]);have nd:=h.nd;rw [List.nodup_append] at nd;have hx:∀ x,x∈e.yes\/x∈e.no->1<=x/\x<=15:=λ x hx=>h.rg x (List.mem_append.2 hx);split
  ·refine { h with nd:=?_,rg:=λ x hx'=>?_ }
   ·show ((e.yes++[fr])++e.no).Nodup
    rw [List.nodup_append,List.nodup_append];refine ⟨⟨nd.1,by simp,λ a ha b hb=>?_⟩,nd.2.1,λ a ha b hb=>?_⟩
    ·simp at hb;subst hb;exact λ e=>hy (e ▸ ha)
    ·rcases List.mem_append.1 ha with ha|ha
     ·exact nd.2.2 a ha b hb
     ·simp at ha;subst ha;exact λ e=>hn' (e ▸ hb)
   ·rcases List.mem_append.1 hx' with hx'|hx'
    ·rcases List.mem_append.1 hx' with hx'|hx'
     ·exact hx x (.inl hx')
     ·simp at hx';subst hx';exact ⟨h0,h1⟩
    ·exact hx x (.inr hx')
  ·refine { h with nd:=?_,rg:=λ x hx'=>?_ }
   ·show (e.yes++(e.no++[fr])).Nodup
    rw [<-List.append_assoc,List.nodup_append];refine ⟨h.nd,by simp,λ a ha b hb=>?_⟩;simp at hb;subst hb;rcases List.mem_append.1 ha with ha|ha
    ·exact λ e=>hy (e ▸ ha)
    ·exact λ e=>hn' (e ▸ ha)
   ·rw [<-List.append_assoc] at hx'
    rcases List.mem_append.1 hx' with hx'|hx'
    ·exact h.rg x hx'
    ·simp at hx';subst hx';exact ⟨h0,h1⟩
theorem ZL.counted {e:Eln} (h:ZL e) (o last lt:Int):ZL (e.counted o last lt).2:=by
 unfold Eln.counted;split
 ·exact h.role 0
 ·split
  ·exact h.run _ _
  ·split
   ·exact h.lead'
   ·exact h
theorem ZL.heard {e:Eln} (h:ZL e) (fr t:Int):ZL (e.heard fr t):=by
 unfold Eln.heard;split
 ·rename_i hh
  unfold Eln.heardOk at hh;simp only [Bool.and_eq_true,Bool.not_eq_true',decide_eq_false_iff_not] at hh;have h0:=h.t0;have h2:ZL (if t>e.hd.tm then e.down t else e):=by
   split
   ·exact h.down (by omega) (by omega)
   ·exact h
  exact { h2 with w0:=Int.le_refl _ }
 ·exact h
theorem ZL.vote {e:Eln} (h:ZL e) {b:Bl} (h0:0<=b.fr) (h1:b.fr<=15) (old:Bool):ZL (e.vote b old):=by
 unfold Eln.vote;split
 ·exact { h with v0:=h0,v1:=h1,w0:=Int.le_refl _ }
 ·exact h
theorem ZL.take {e:Eln} (h:ZL e) (b:Bl) (last lt:Int):ZL (e.take b last lt).2:=by
 unfold Eln.take;split
 ·rename_i hh
  unfold Eln.takeOk at hh;simp only [Bool.and_eq_true,Bool.not_eq_true',decide_eq_false_iff_not] at hh;have ho:=Eln.other_bd hh.1.1.2;have hd:ZL (e.down b.tm):=h.down (by omega) (by omega);have hs:=h.says ho.1 ho.2.1 b.yes;dsimp only;split
  ·split<;>exact h
  ·split
   ·refine ZL.vote ?_ (by omega) ho.2.1 _
    split
    ·exact hd
    ·exact h
   ·split
    ·split
     ·exact hd
     ·split
      ·exact hs.counted _ _ _
      ·exact h
    ·split
     ·split
      ·exact hd
      ·split
       ·exact hs.counted _ _ _
       ·exact h
     ·exact h
 ·exact h
end
section
open Go Go.VC Tryz
set_option maxRecDepth 10000
def B32 (q:Int) (L:Int) (M:Int) (j:Sl) (k:Sl) (l:Int) (K:Value->World->Prop) (w:World):Prop:=
 New (.cells #[.int .i64 L,.int .i64 M] 29 (0,0)) (λ i N=>
 New (.cells #[.slice j.a j.len j.cap,.slice k.a k.len k.cap] 32 (0,0)) (λ p O=>
 Calls prog 82 #[.int .i64 q,.int .i64 1,.int .i64 15] O λ F m=>
 ∃ r:Bool,(F=.returned (.bool r))/\
 Br (!r)
 (K (.tuple #[.pointer none,.int .i64 1]) m)
 (∃ s:Int,(At (λ b=>b=m) ⟨i,0,none⟩ [.int .i64 s])/\
 Calls prog 82 #[.int .i64 s,.int .i64 0,.int .i64 1099511627776] m λ G n=>
 ∃ t:Bool,(G=.returned (.bool t))/\
 Br (!t)
 (K (.tuple #[.pointer none,.int .i64 1]) n)
 (∃ u:Int,(At (λ b=>b=n) ⟨i,0 + 1,none⟩ [.int .i64 u])/\
 Calls prog 82 #[.int .i64 u,.int .i64 0,.int .i64 15] n λ H C=>
 ∃ v:Bool,(H=.returned (.bool v))/\
 Br (!v)
 (K (.tuple #[.pointer none,.int .i64 1]) C)
 (Calls prog 82 #[.int .i64 l,.int .i64 1,.int .i64 1000] C λ I o=>
 ∃ x:Bool,(I=.returned (.bool x))/\
 Br (!x)
 (K (.tuple #[.pointer none,.int .i64 1]) o)
 (∃ c:Sl,∃ d:Sl,(At (λ b=>b=o) ⟨p,0,none⟩ [.slice c.a c.len c.cap,.slice d.a d.len d.cap])/\
 Calls prog 81 #[.agg #[.slice c.a c.len c.cap,.slice d.a d.len d.cap]] o λ J g=>
 ∃ y:Bool,(J=.returned (.bool y))/\
 Br (!y)
 (K (.tuple #[.pointer none,.int .i64 1]) g)
 (∃ z:Int,∃ A:Int,(At (λ b=>b=g) ⟨i,0,none⟩ [.int .i64 z,.int .i64 A])/\
 ∃ e:Sl,∃ f:Sl,(At (λ b=>b=g) ⟨p,0,none⟩ [.slice e.a e.len e.cap,.slice f.a f.len f.cap])/\
 New (.map #[] 0) (λ D Q=>
 New (.cells #[.int .i64 q,.int .i64 l,.int .i64 z,.int .i64 A,.slice e.a e.len e.cap,.slice f.a f.len f.cap,.int .i64 0,.int .i64 0,.int .i64 0,.int .i64 l,.map ((some D))] 115 (0,0)) (λ E T=>
 K (.tuple #[.pointer ((some ⟨E,0,none⟩)),.int .i64 0]) T) Q) g)))))) N) w
theorem Zqa (f:Int) (d:Int) (e:Int) (b:Sl) (c:Sl) (g:Int) (K:Value->World->Prop) (w:World) (h:B32 f d e b c g K w):Zj prog 32 #[.int .i64 f,.agg #[.int .i64 d,.int .i64 e],.agg #[.slice b.a b.len b.cap,.slice c.a c.len c.cap],.int .i64 g] w K:=cq (sk:=.leaf) func32 (by kernel_rfl) (by kernel_rfl) (by kernel_rfl) h
def B82 (a:Int) (c:Int) (b:Int) (K:Value->World->Prop) (w:World):Prop:=
 Br (decide (a >= c))
 (K (.bool (decide (a<=b))) w)
 (K (.bool false) w)
theorem ZpD (c:Int) (b:Int) (a:Int) (K:Value->World->Prop) (w:World) (h:B82 c b a K w):Zj prog 82 #[.int .i64 c,.int .i64 b,.int .i64 a] w K:=cq (sk:=.leaf) func82 (by kernel_rfl) (by kernel_rfl) (by kernel_rfl) h
def B16 (c:Option Addr) (K:Value->World->Prop) (w:World):Prop:=
 Zb c λ a=>
 ∃ b:Int,(At (λ d=>d=w) ⟨a.block,a.off + 6,none⟩ [.int .i64 b])/\
 K (.int .i64 b) w
theorem Zql (a:Option Addr) (K:Value->World->Prop) (w:World) (h:B16 a K w):Zj prog 16 #[.pointer a] w K:=cq (sk:=.leaf) func16 (by kernel_rfl) (by kernel_rfl) (by kernel_rfl) h
def B23 (k:Option Addr) (K:Value->World->Prop) (w:World):Prop:=
 New (.cells #[.int .i64 0,.int .i64 0] 29 (0,0)) (λ d j=>
 Zb k λ c=>
 ∃ e:Int,∃ f:Int,(At (λ a=>a=j) ⟨c.block,c.off + 2,none⟩ [.int .i64 e,.int .i64 f])/\
 ∃ b:World,((Instr.storeAt 29 (.pointer ((some ⟨d,0,none⟩))) (.agg #[.int .i64 e,.int .i64 f])).run prog j=.ok () b)/\
 ∃ g:Int,∃ i:Int,(At (λ a=>a=b) ⟨d,0,none⟩ [.int .i64 g,.int .i64 i])/\
 K (.agg #[.int .i64 g,.int .i64 i]) b) w
theorem Zqh (a:Option Addr) (K:Value->World->Prop) (w:World) (h:B23 a K w):Zj prog 23 #[.pointer a] w K:=cq (sk:=.leaf) func23 (by kernel_rfl) (by kernel_rfl) (by kernel_rfl) h
def B90 (q:Option Addr) (f:Sl) (g:Sl) (K:Value->World->Prop) (w:World):Prop:=
 New (.cells #[.slice f.a f.len f.cap,.slice g.a g.len g.cap] 32 (0,0)) (λ l n=>
 ∃ b:Sl,∃ c:Sl,(At (λ i=>i=n) ⟨l,0,none⟩ [.slice b.a b.len b.cap,.slice c.a c.len c.cap])/\
 Calls prog 81 #[.agg #[.slice b.a b.len b.cap,.slice c.a c.len c.cap]] n λ p j=>
 ∃ m:Bool,(p=.returned (.bool m))/\
 Br (!m)
 (K (.int .i64 1) j)
 (∃ d:Sl,∃ e:Sl,(At (λ i=>i=j) ⟨l,0,none⟩ [.slice d.a d.len d.cap,.slice e.a e.len e.cap])/\
 Zb q λ k=>
 ∃ o:World,((Instr.storeAt 32 (.pointer ((some ⟨k.block,k.off + 4,none⟩))) (.agg #[.slice d.a d.len d.cap,.slice e.a e.len e.cap])).run prog j=.ok () o)/\
 K (.int .i64 0) o)) w
theorem Zpv (d:Option Addr) (b:Sl) (c:Sl) (K:Value->World->Prop) (w:World) (h:B90 d b c K w):Zj prog 90 #[.pointer d,.agg #[.slice b.a b.len b.cap,.slice c.a c.len c.cap]] w K:=cq (sk:=.leaf) func90 (by kernel_rfl) (by kernel_rfl) (by kernel_rfl) h
def B96 (e:Option Addr) (z:Int) (K:Value->World->Prop) (w:World):Prop:=
 New (.map #[] 0) (λ m q=>
 Zb e λ v=>
 ∃ n:Int,(At (λ f=>f=q) (Addr.add v 0) [.int .i64 n])/\
 New (.cells #[.int .i64 n] 3 (0,0)) (λ x A=>
 ∃ r:World,((Instr.mapUpdate 113 (.map ((some m))) (.bool true) (.slice ((some ⟨x,0,none⟩)) 1 1)).run prog A=.ok () r)/\
 Zb e λ i=>
 ∃ s:World,((Instr.storeAt 3 (.pointer ((some ⟨i.block,i.off + 6,none⟩))) (.int .i64 z)).run prog r=.ok () s)/\
 Zb e λ j=>
 ∃ t:World,((Instr.storeAt 113 (.pointer ((some ⟨j.block,j.off + 10,none⟩))) (.map ((some m)))).run prog s=.ok () t)/\
 Drw t λ g C=>
 Zb e λ k=>
 ∃ b:Sl,∃ c:Sl,(At g ⟨k.block,k.off + 4,none⟩ [.slice b.a b.len b.cap,.slice c.a c.len c.cap])/\
 Zb e λ l=>
 ∃ o:Option Nat,(At g ⟨l.block,l.off + 10,none⟩ [.map o])/\
 ∃ d:Sl,(∀ f,g f->((Instr.lookup 113 (.map o) (.bool true) false)).run prog f=.ok (.slice d.a d.len d.cap) f)/\
 Calls prog 51 #[.agg #[.slice b.a b.len b.cap,.slice c.a c.len c.cap],.slice d.a d.len d.cap] C λ y u=>
 ∃ p:Bool,(y=.returned (.bool p))/\
 (g u)/\
 K (.bool p) u) q) w
theorem Zpp (a:Option Addr) (b:Int) (K:Value->World->Prop) (w:World) (h:B96 a b K w):Zj prog 96 #[.pointer a,.int .i64 b] w K:=cq (sk:=.leaf) func96 (by kernel_rfl) (by kernel_rfl) (by kernel_rfl) h
def B97 (b:Option Addr) (E:Int) (F:Int) (K:Value->World->Prop) (w:World):Prop:=
 Zb b λ n=>
 ∃ o:Int,(At (λ d=>d=w) ⟨n.block,n.off + 2,none⟩ [.int .i64 o])/\
 Br (decide (o >= 1099511627776))
 (Zb b λ g=>
 ∃ u:World,((Instr.storeAt 3 (.pointer ((some ⟨g.block,g.off + 6,none⟩))) (.int .i64 0)).run prog w=.ok () u)/\
 K (.slice none 0 0) u)
 (Drw w λ f G=>
 Zb b λ i=>
 ∃ p:Int,(At f ⟨i.block,i.off + 2,none⟩ [.int .i64 p])/\
 Zb b λ z=>
 ∃ q:Int,(At f (Addr.add z 0) [.int .i64 q])/\
 Zb b λ j=>
 ∃ v:World,((Instr.storeAt 29 (.pointer ((some ⟨j.block,j.off + 2,none⟩))) (.agg #[.int .i64 (IntKind.i64.wrap (p + 1)),.int .i64 q])).run prog G=.ok () v)/\
 Calls prog 96 #[.pointer b,.int .i64 2] v λ C e=>
 ∃ r:Bool,(C=.returned (.bool r))/\
 Br r
 (Zb b λ A=>
 ∃ s:Int,(At (λ d=>d=e) (Addr.add A 0) [.int .i64 s])/\
 Zb b λ k=>
 ∃ x:World,((Instr.storeAt 3 (.pointer ((some ⟨k.block,k.off + 6,none⟩))) (.int .i64 3)).run prog e=.ok () x)/\
 Zb b λ l=>
 ∃ y:World,((Instr.storeAt 3 (.pointer ((some ⟨l.block,l.off + 7,none⟩))) (.int .i64 s)).run prog x=.ok () y)/\
 K (.slice none 0 0) y)
 (Zb b λ m=>
 ∃ t:Int,(At (λ d=>d=e) ⟨m.block,m.off + 2,none⟩ [.int .i64 t])/\
 Calls prog 98 #[.pointer b,.int .i64 3,.int .i64 t,.int .i64 E,.int .i64 F] e λ D H=>
 ∃ c:Sl,(D=.returned (.slice c.a c.len c.cap))/\
 K (.slice c.a c.len c.cap) H))
theorem Zpo (c:Option Addr) (a:Int) (b:Int) (K:Value->World->Prop) (w:World) (h:B97 c a b K w):Zj prog 97 #[.pointer c,.int .i64 a,.int .i64 b] w K:=cq (sk:=.leaf) func97 (by kernel_rfl) (by kernel_rfl) (by kernel_rfl) h
def B98 (k:Option Addr) (u:Int) (y:Int) (v:Int) (x:Int) (K:Value->World->Prop) (w:World):Prop:=
 Zb k λ n=>
 ∃ f:Sl,(At (λ e=>e=w) ⟨n.block,n.off + 4,none⟩ [.slice f.a f.len f.cap])/\
 ∃ (i:Sl->Int->World->Prop) (j:Sl->Int->World->Nat),(i ⟨none,0,0⟩ 0 w)/\∀ (A:Env) (b:Sl) (c:Int) (d:World),i b c d->
 Br (decide (c<(↑f.len:Int)))
 (Rng c f.len (Zb f.a λ q=>
 ∃ l:Int,(At (λ e=>e=d) (Addr.add q c.toNat) [.int .i64 l])/\
 Zb k λ r=>
 ∃ o:Int,(At (λ e=>e=d) (Addr.add r 0) [.int .i64 o])/\
 Br (l !=o)
 (Zb k λ s=>
 ∃ p:Int,(At (λ e=>e=d) (Addr.add s 0) [.int .i64 p])/\
 New (.cells #[.int .i64 u,.int .i64 p,.int .i64 l,.int .i64 y,.int .i64 v,.int .i64 x,.bool false] 161 (0,0)) (λ t z=>
 ∃ m:World,∃ g:Sl,((Builtin.append_ #[103,103] 103 #[.slice b.a b.len b.cap,.slice ((some ⟨t,0,none⟩)) 1 1]).run prog z=.ok (.slice g.a g.len g.cap) m)/\
 (i g (IntKind.i64.wrap (c + 1)) m)/\j g (IntKind.i64.wrap (c + 1)) m<j b c d) d)
 ((i b (IntKind.i64.wrap (c + 1)) d)/\j b (IntKind.i64.wrap (c + 1)) d<j b c d)))
 (K (.slice b.a b.len b.cap) d)
def sk98:Sk:=(.seq .leaf (.seq .leaf (.seq (.seq .leaf (.block (.loop [11,20] [.sl,(.int .i64)] [11,13,20,21,22,23,24,25,26,27,28,29,30,31,32,33,34,35,36,37,38,39,40,41,42,43] .leaf))) .leaf)))
theorem Zpn (d:Option Addr) (a:Int) (e:Int) (b:Int) (c:Int) (K:Value->World->Prop) (w:World) (h:B98 d a e b c K w):Zj prog 98 #[.pointer d,.int .i64 a,.int .i64 e,.int .i64 b,.int .i64 c] w K:=cq (sk:=sk98) func98 (by kernel_rfl) (by kernel_rfl) (by kernel_rfl) h
def B38 (b:Option Addr) (A:Int) (C:Int) (D:Int) (K:Value->World->Prop) (w:World):Prop:=
 Zb b λ n=>
 ∃ E:Int,(At (λ g=>g=w) ⟨n.block,n.off + 6,none⟩ [.int .i64 E])/\
 Br (E==3)
 (K (.slice none 0 0) w)
 (Zb b λ o=>
 ∃ F:Int,(At (λ g=>g=w) ⟨o.block,o.off + 8,none⟩ [.int .i64 F])/\
 Zb b λ p=>
 ∃ O:World,((Instr.storeAt 3 (.pointer ((some ⟨p.block,p.off + 8,none⟩))) (.int .i64 (IntKind.i64.wrap (F + 1)))).run prog w=.ok () O)/\
 ∃ (l:World->Prop),(Drw O λ f Q=>
 Zb b λ q=>
 ∃ G:Int,(At f ⟨q.block,q.off + 8,none⟩ [.int .i64 G])/\
 Zb b λ r=>
 ∃ H:Int,(At f ⟨r.block,r.off + 9,none⟩ [.int .i64 H])/\
 Br (decide (G<H))
 (K (.slice none 0 0) Q)
 (Zb b λ s=>
 ∃ c:Sl,(At f ⟨s.block,s.off + 4,none⟩ [.slice c.a c.len c.cap])/\
 Zb b λ Y=>
 ∃ I:Int,(At f (Addr.add Y 0) [.int .i64 I])/\
 Calls prog 95 #[.slice c.a c.len c.cap,.int .i64 I] Q λ Z j=>
 ∃ J:Bool,(Z=.returned (.bool J))/\
 (f j)/\
 Br (!J)
 (K (.slice none 0 0) j)
 (l  j)))/\
 ∀ (ag:Env)  (T:World),l  T->
 Drw T λ m af=>
 Zb b λ t=>
 ∃ L:Int,(At m ⟨t.block,t.off + 1,none⟩ [.int .i64 L])/\
 Zb b λ u=>
 ∃ i:Int,(At m ⟨u.block,u.off + 1,none⟩ [.int .i64 i])/\
 Nz i (Zb b λ v=>
 ∃ U:World,((Instr.storeAt 3 (.pointer ((some ⟨v.block,v.off + 8,none⟩))) (.int .i64 0)).run prog af=.ok () U)/\
 Zb b λ x=>
 ∃ V:World,((Instr.storeAt 3 (.pointer ((some ⟨x.block,x.off + 9,none⟩))) (.int .i64 (IntKind.i64.wrap (L + (if 0>A then 0 else A).tmod i)))).run prog U=.ok () V)/\
 Zb b λ y=>
 ∃ X:World,((Instr.storeAt 3 (.pointer ((some ⟨y.block,y.off + 7,none⟩))) (.int .i64 0)).run prog V=.ok () X)/\
 Calls prog 96 #[.pointer b,.int .i64 1] X λ aa k=>
 ∃ M:Bool,(aa=.returned (.bool M))/\
 Br M
 (Calls prog 97 #[.pointer b,.int .i64 C,.int .i64 D] k λ ab ad=>
 ∃ d:Sl,(ab=.returned (.slice d.a d.len d.cap))/\
 K (.slice d.a d.len d.cap) ad)
 (Zb b λ z=>
 ∃ N:Int,(At (λ g=>g=k) ⟨z.block,z.off + 2,none⟩ [.int .i64 N])/\
 Calls prog 98 #[.pointer b,.int .i64 1,.int .i64 (IntKind.i64.wrap (N + 1)),.int .i64 C,.int .i64 D] k λ ac ae=>
 ∃ e:Sl,(ac=.returned (.slice e.a e.len e.cap))/\
 K (.slice e.a e.len e.cap) ae)))
def sk38:Sk:=(.seq .leaf (.seq .leaf (.seq .leaf (.cut [] [] [8,21,22,23,24,25,26,27,28,29,30,31,32,33,34,35,36,37,38,39,40,41,42] .leaf .leaf))))
theorem Zp4 (d:Option Addr) (a:Int) (b:Int) (c:Int) (K:Value->World->Prop) (w:World) (h:B38 d a b c K w):Zj prog 38 #[.pointer d,.int .i64 a,.int .i64 b,.int .i64 c] w K:=cq (sk:=sk38) func38 (by kernel_rfl) (by kernel_rfl) (by kernel_rfl) h
def B185 (d:Option Addr) (c7:Int) (c8:Int) (c9:Int) (da:Int) (db:Int) (dc:Int) (dd:Bool) (D:Int) (t:Int) (K:Value->World->Prop) (w:World):Prop:=
 New (.cells #[.int .i64 c7,.int .i64 c8,.int .i64 c9,.int .i64 da,.int .i64 db,.int .i64 dc,.bool dd] 161 (0,0)) (λ c dw=>
 ∃ (M:World->Prop),(Drw dw λ i c3=>
 ∃ a1:Int,(At i ⟨c,0 + 2,none⟩ [.int .i64 a1])/\
 Zb d λ c6=>
 ∃ be:Int,(At i (Addr.add c6 0) [.int .i64 be])/\
 Br (a1 !=be)
 (K (.slice none 0 0) c3)
 (∃ bm:Int,(At i ⟨c,0 + 1,none⟩ [.int .i64 bm])/\
 Calls prog 229 #[.pointer d,.int .i64 bm] c3 λ de z=>
 ∃ bn:Bool,(de=.returned (.bool bn))/\
 (i z)/\
 Br (!bn)
 (K (.slice none 0 0) z)
 (∃ bo:Int,(At i ⟨c,0 + 3,none⟩ [.int .i64 bo])/\
 Br (decide (bo<0))
 (K (.slice none 0 0) z)
 (∃ bp:Int,(At i ⟨c,0 + 3,none⟩ [.int .i64 bp])/\
 Br (decide (bp>1099511627776))
 (K (.slice none 0 0) z)
 (M  z)))))/\
 ∀ (ef:Env)  (c5:World),M  c5->
 Drw c5 λ N r=>
 ∃ u:Int,(At N ⟨c,0 + 3,none⟩ [.int .i64 u])/\
 Zb d λ aa=>
 ∃ v:Int,(At N ⟨aa.block,aa.off + 2,none⟩ [.int .i64 v])/\
 ∃ (A:Bool->World->Prop),(∃ bq:Int,(At (λ b=>b=r) ⟨c,0 + 5,none⟩ [.int .i64 bq])/\
 Br (decide (bq>t))
 (A true r)
 (∃ br:Int,(At (λ b=>b=r) ⟨c,0 + 5,none⟩ [.int .i64 br])/\
 Br (br==t)
 (∃ bs:Int,(At (λ b=>b=r) ⟨c,0 + 4,none⟩ [.int .i64 bs])/\
 A (decide (bs >= D)) r)
 (A false r)))/\
 ∀ (eg:Env) (J:Bool) (e:World),A J e->
 ∃ x:Int,(At (λ b=>b=e) ⟨c,0,none⟩ [.int .i64 x])/\
 Br (x==1)
 (Drw e λ H f=>
 Br (decide (u>v))
 (Br J
 (Zb d λ ab=>
 ∃ bt:Int,(At H ⟨ab.block,ab.off + 7,none⟩ [.int .i64 bt])/\
 Br (bt==0)
 (∃ bw:Int,∃ bx:Int,∃ b3:Int,∃ b4:Int,∃ b5:Int,∃ b6:Int,∃ b7:Bool,(At (λ b=>b=f) ⟨c,0,none⟩ [.int .i64 bw,.int .i64 bx,.int .i64 b3,.int .i64 b4,.int .i64 b5,.int .i64 b6,.bool b7])/\
 ∃ cb:Int,(At (λ b=>b=f) ⟨c,0 + 3,none⟩ [.int .i64 cb])/\
 Calls prog 230 #[.pointer d,.agg #[.int .i64 bw,.int .i64 bx,.int .i64 b3,.int .i64 b4,.int .i64 b5,.int .i64 b6,.bool b7],.int .i64 2,.int .i64 cb,.bool true] f λ df ed=>
 ∃ m:Sl,(df=.returned (.slice m.a m.len m.cap))/\
 K (.slice m.a m.len m.cap) ed)
 (Zb d λ ac=>
 ∃ bu:Int,(At H ⟨ac.block,ac.off + 8,none⟩ [.int .i64 bu])/\
 Zb d λ ad=>
 ∃ bv:Int,(At H ⟨ad.block,ad.off + 1,none⟩ [.int .i64 bv])/\
 Br (decide (bu >= bv))
 (∃ b8:Int,∃ b9:Int,∃ ca:Int,∃ bz:Int,∃ b0:Int,∃ b1:Int,∃ b2:Bool,(At (λ b=>b=f) ⟨c,0,none⟩ [.int .i64 b8,.int .i64 b9,.int .i64 ca,.int .i64 bz,.int .i64 b0,.int .i64 b1,.bool b2])/\
 ∃ cc:Int,(At (λ b=>b=f) ⟨c,0 + 3,none⟩ [.int .i64 cc])/\
 Calls prog 230 #[.pointer d,.agg #[.int .i64 b8,.int .i64 b9,.int .i64 ca,.int .i64 bz,.int .i64 b0,.int .i64 b1,.bool b2],.int .i64 2,.int .i64 cc,.bool true] f λ dn ee=>
 ∃ n:Sl,(dn=.returned (.slice n.a n.len n.cap))/\
 K (.slice n.a n.len n.cap) ee)
 (Drw f λ O dx=>
 ∃ cd:Int,∃ ce:Int,∃ cp:Int,∃ cr:Int,∃ cs:Int,∃ ct:Int,∃ cu:Bool,(At O ⟨c,0,none⟩ [.int .i64 cd,.int .i64 ce,.int .i64 cp,.int .i64 cr,.int .i64 cs,.int .i64 ct,.bool cu])/\
 Zb d λ ae=>
 ∃ cy:Int,(At O ⟨ae.block,ae.off + 2,none⟩ [.int .i64 cy])/\
 Calls prog 230 #[.pointer d,.agg #[.int .i64 cd,.int .i64 ce,.int .i64 cp,.int .i64 cr,.int .i64 cs,.int .i64 ct,.bool cu],.int .i64 2,.int .i64 cy,.bool false] dx λ dp dy=>
 ∃ o:Sl,(dp=.returned (.slice o.a o.len o.cap))/\
 K (.slice o.a o.len o.cap) dy)))
 (Drw f λ Q dz=>
 ∃ cv:Int,∃ cw:Int,∃ cx:Int,∃ cf:Int,∃ cg:Int,∃ ch:Int,∃ ci:Bool,(At Q ⟨c,0,none⟩ [.int .i64 cv,.int .i64 cw,.int .i64 cx,.int .i64 cf,.int .i64 cg,.int .i64 ch,.bool ci])/\
 Zb d λ af=>
 ∃ cz:Int,(At Q ⟨af.block,af.off + 2,none⟩ [.int .i64 cz])/\
 Calls prog 230 #[.pointer d,.agg #[.int .i64 cv,.int .i64 cw,.int .i64 cx,.int .i64 cf,.int .i64 cg,.int .i64 ch,.bool ci],.int .i64 2,.int .i64 cz,.bool false] dz λ dq d0=>
 ∃ p:Sl,(dq=.returned (.slice p.a p.len p.cap))/\
 K (.slice p.a p.len p.cap) d0))
 (Drw f λ T d1=>
 ∃ cj:Int,∃ ck:Int,∃ cl:Int,∃ cm:Int,∃ cn:Int,∃ co:Int,∃ cq:Bool,(At T ⟨c,0,none⟩ [.int .i64 cj,.int .i64 ck,.int .i64 cl,.int .i64 cm,.int .i64 cn,.int .i64 co,.bool cq])/\
 Zb d λ ag=>
 ∃ c0:Int,(At T ⟨ag.block,ag.off + 2,none⟩ [.int .i64 c0])/\
 Calls prog 230 #[.pointer d,.agg #[.int .i64 cj,.int .i64 ck,.int .i64 cl,.int .i64 cm,.int .i64 cn,.int .i64 co,.bool cq],.int .i64 2,.int .i64 c0,.bool false] d1 λ dr d2=>
 ∃ q:Sl,(dr=.returned (.slice q.a q.len q.cap))/\
 K (.slice q.a q.len q.cap) d2))
 (Br (x==3)
 (∃ (F:World->Prop),(Br (decide (u>v))
 (∃ ah:Int,(At (λ b=>b=e) ⟨c,0 + 3,none⟩ [.int .i64 ah])/\
 Calls prog 231 #[.pointer d,.int .i64 ah] e λ ds d3=>
 (ds=.returned (.tuple #[]))/\
 F  d3)
 (F  e))/\
 ∀ (eh:Env)  (c1:World),F  c1->
 Drw c1 λ s d4=>
 ∃ ai:Int,∃ aj:Int,∃ ak:Int,∃ al:Int,∃ am:Int,∃ an:Int,∃ ao:Bool,(At s ⟨c,0,none⟩ [.int .i64 ai,.int .i64 aj,.int .i64 ak,.int .i64 al,.int .i64 am,.int .i64 an,.bool ao])/\
 Zb d λ U=>
 ∃ ap:Int,(At s ⟨U.block,U.off + 2,none⟩ [.int .i64 ap])/\
 ∃ aq:Int,∃ ar:Int,∃ au:Int,∃ av:Int,∃ aw:Int,∃ ax:Int,∃ ay:Bool,(At s ⟨c,0,none⟩ [.int .i64 aq,.int .i64 ar,.int .i64 au,.int .i64 av,.int .i64 aw,.int .i64 ax,.bool ay])/\
 Calls prog 232 #[.pointer d,.agg #[.int .i64 aq,.int .i64 ar,.int .i64 au,.int .i64 av,.int .i64 aw,.int .i64 ax,.bool ay],.bool J] d4 λ dt c2=>
 ∃ az:Bool,(dt=.returned (.bool az))/\
 (s c2)/\
 Calls prog 230 #[.pointer d,.agg #[.int .i64 ai,.int .i64 aj,.int .i64 ak,.int .i64 al,.int .i64 am,.int .i64 an,.bool ao],.int .i64 4,.int .i64 ap,.bool az] c2 λ du c4=>
 ∃ j:Sl,(du=.returned (.slice j.a j.len j.cap))/\
 (s c4)/\
 K (.slice j.a j.len j.cap) c4)
 (Br (x==2)
 (∃ (G:Bool->World->Prop),(Br (decide (u>v))
 (∃ a2:Bool,(At (λ b=>b=e) ⟨c,0 + 6,none⟩ [.bool a2])/\
 G (!a2) e)
 (G false e))/\
 ∀ (ei:Env) (a0:Bool) (E:World),G a0 E->
 Br a0
 (∃ a3:Int,(At (λ b=>b=E) ⟨c,0 + 3,none⟩ [.int .i64 a3])/\
 Calls prog 231 #[.pointer d,.int .i64 a3] E λ dv d5=>
 (dv=.returned (.tuple #[]))/\
 K (.slice none 0 0) d5)
 (Drw E λ C g=>
 Zb d λ V=>
 ∃ a4:Int,(At C ⟨V.block,V.off + 6,none⟩ [.int .i64 a4])/\
 Br (a4==1)
 (∃ a5:Bool,(At C ⟨c,0 + 6,none⟩ [.bool a5])/\
 Br (!a5)
 (∃ a8:Int,(At (λ b=>b=g) ⟨c,0 + 1,none⟩ [.int .i64 a8])/\
 ∃ ba:Bool,(At (λ b=>b=g) ⟨c,0 + 6,none⟩ [.bool ba])/\
 Calls prog 234 #[.pointer d,.int .i64 a8,.bool ba] g λ dg d6=>
 ∃ bc:Int,(dg=.returned (.int .i64 bc))/\
 Calls prog 233 #[.pointer d,.int .i64 bc,.int .i64 D,.int .i64 t] d6 λ dh d7=>
 ∃ k:Sl,(dh=.returned (.slice k.a k.len k.cap))/\
 K (.slice k.a k.len k.cap) d7)
 (∃ a6:Int,(At C ⟨c,0 + 3,none⟩ [.int .i64 a6])/\
 Zb d λ X=>
 ∃ a7:Int,(At C ⟨X.block,X.off + 2,none⟩ [.int .i64 a7])/\
 Br (a6==IntKind.i64.wrap (a7 + 1))
 (∃ a9:Int,(At (λ b=>b=g) ⟨c,0 + 1,none⟩ [.int .i64 a9])/\
 ∃ bb:Bool,(At (λ b=>b=g) ⟨c,0 + 6,none⟩ [.bool bb])/\
 Calls prog 234 #[.pointer d,.int .i64 a9,.bool bb] g λ di d8=>
 ∃ bd:Int,(di=.returned (.int .i64 bd))/\
 Calls prog 233 #[.pointer d,.int .i64 bd,.int .i64 D,.int .i64 t] d8 λ dj d9=>
 ∃ l:Sl,(dj=.returned (.slice l.a l.len l.cap))/\
 K (.slice l.a l.len l.cap) d9)
 (K (.slice none 0 0) g)))
 (K (.slice none 0 0) g)))
 (Br (x==4)
 (Br (decide (u>v))
 (∃ bf:Int,(At (λ b=>b=e) ⟨c,0 + 3,none⟩ [.int .i64 bf])/\
 Calls prog 231 #[.pointer d,.int .i64 bf] e λ dk ea=>
 (dk=.returned (.tuple #[]))/\
 K (.slice none 0 0) ea)
 (Drw e λ I y=>
 Zb d λ Y=>
 ∃ bg:Int,(At I ⟨Y.block,Y.off + 6,none⟩ [.int .i64 bg])/\
 Br (bg==2)
 (∃ bh:Int,(At I ⟨c,0 + 3,none⟩ [.int .i64 bh])/\
 Zb d λ Z=>
 ∃ bi:Int,(At I ⟨Z.block,Z.off + 2,none⟩ [.int .i64 bi])/\
 Br (bh==bi)
 (∃ bj:Int,(At (λ b=>b=y) ⟨c,0 + 1,none⟩ [.int .i64 bj])/\
 ∃ bk:Bool,(At (λ b=>b=y) ⟨c,0 + 6,none⟩ [.bool bk])/\
 Calls prog 234 #[.pointer d,.int .i64 bj,.bool bk] y λ dl eb=>
 ∃ bl:Int,(dl=.returned (.int .i64 bl))/\
 Calls prog 233 #[.pointer d,.int .i64 bl,.int .i64 D,.int .i64 t] eb λ dm ec=>
 ∃ L:Sl,(dm=.returned (.slice L.a L.len L.cap))/\
 K (.slice none 0 0) ec)
 (K (.slice none 0 0) y))
 (K (.slice none 0 0) y)))
 (K (.slice none 0 0) e))))) w
def ZqW:Sk:=(.seq .leaf (.cut [] [] [8,11,12,13,14,15,16,17,18,19,20,21,22,23,24,25,26,27,28,29,30,31,32,33,34] .leaf (.seq .leaf (.cut [10] [.bool] [10,43,44,45,46,47,48,49,50,51,52,53,54,55,56,57,58] .leaf (.seq (.seq .leaf (.block (.seq .leaf (.cond .leaf (.seq .leaf (.cond (.cut [] [] [100,101,102,103,104] .leaf .leaf) (.seq .leaf (.cond (.block (.cut [119] [.bool] [119,120,121,122,123,124,125] .leaf .leaf)) .leaf)))))))) .leaf)))))
theorem Zod (k:Option Addr) (a:Int) (b:Int) (c:Int) (d:Int) (e:Int) (f:Int) (g:Bool) (i:Int) (j:Int) (K:Value->World->Prop) (w:World) (h:B185 k a b c d e f g i j K w):Zj prog 185 #[.pointer k,.agg #[.int .i64 a,.int .i64 b,.int .i64 c,.int .i64 d,.int .i64 e,.int .i64 f,.bool g],.int .i64 i,.int .i64 j] w K:=cq (sk:=ZqW) func185 (by kernel_rfl) (by kernel_rfl) (by kernel_rfl) h
def B186 (a:Option Addr) (p:Int) (d:Int) (K:Value->World->Prop) (w:World):Prop:=
 ∃ (f:World->Prop),(Calls prog 229 #[.pointer a,.int .i64 p] w λ A b=>
 ∃ u:Bool,(A=.returned (.bool u))/\
 Br (!u)
 (K (.bool false) b)
 (Zb a λ i=>
 ∃ q:Int,(At (λ c=>c=b) ⟨i.block,i.off + 2,none⟩ [.int .i64 q])/\
 Br (decide (d<q))
 (K (.bool false) b)
 (Br (decide (d>1099511627776))
 (K (.bool false) b)
 (Zb a λ j=>
 ∃ r:Int,(At (λ c=>c=b) ⟨j.block,j.off + 2,none⟩ [.int .i64 r])/\
 Br (d==r)
 (Zb a λ k=>
 ∃ s:Int,(At (λ c=>c=b) ⟨k.block,k.off + 6,none⟩ [.int .i64 s])/\
 Br (s==3)
 (K (.bool false) b)
 (f  b))
 (f  b)))))/\
 ∀ (E:Env)  (e:World),f  e->
 ∃ (g:World->Prop),(Zb a λ l=>
 ∃ t:Int,(At (λ c=>c=e) ⟨l.block,l.off + 2,none⟩ [.int .i64 t])/\
 Br (decide (d>t))
 (Calls prog 231 #[.pointer a,.int .i64 d] e λ C D=>
 (C=.returned (.tuple #[]))/\
 g  D)
 (g  e))/\
 ∀ (F:Env)  (v:World),g  v->
 Zb a λ m=>
 ∃ x:World,((Instr.storeAt 3 (.pointer ((some ⟨m.block,m.off + 6,none⟩))) (.int .i64 0)).run prog v=.ok () x)/\
 Zb a λ n=>
 ∃ y:World,((Instr.storeAt 3 (.pointer ((some ⟨n.block,n.off + 7,none⟩))) (.int .i64 p)).run prog x=.ok () y)/\
 Zb a λ o=>
 ∃ z:World,((Instr.storeAt 3 (.pointer ((some ⟨o.block,o.off + 8,none⟩))) (.int .i64 0)).run prog y=.ok () z)/\
 K (.bool true) z
def ZqV:Sk:=(.seq .leaf (.cut [] [] [6,7,8,9,10,11,12,13,14,15,16,17,18,19,20,21,22,23,24,25,26,27,28,29,30,31,32,33,34,35,36,37,38,39] .leaf (.cut [] [] [40,41,42,43,44,45,46,47,48,49] .leaf .leaf)))
theorem Zoc (b:Option Addr) (a:Int) (c:Int) (K:Value->World->Prop) (w:World) (h:B186 b a c K w):Zj prog 186 #[.pointer b,.int .i64 a,.int .i64 c] w K:=cq (sk:=ZqV) func186 (by kernel_rfl) (by kernel_rfl) (by kernel_rfl) h
def B229 (d:Option Addr) (a:Int) (K:Value->World->Prop) (w:World):Prop:=
 Br (decide (a >= 1))
 (Br (decide (a<=15))
 (Zb d λ c=>
 ∃ b:Int,(At (λ e=>e=w) (Addr.add c 0) [.int .i64 b])/\
 K (.bool (a !=b)) w)
 (K (.bool false) w))
 (K (.bool false) w)
theorem ZnZ (b:Option Addr) (a:Int) (K:Value->World->Prop) (w:World) (h:B229 b a K w):Zj prog 229 #[.pointer b,.int .i64 a] w K:=cq (sk:=.leaf) func229 (by kernel_rfl) (by kernel_rfl) (by kernel_rfl) h
def B230 (q:Option Addr) (f:Int) (g:Int) (i:Int) (j:Int) (k:Int) (l:Int) (m:Bool) (p:Int) (r:Int) (u:Bool) (K:Value->World->Prop) (w:World):Prop:=
 New (.cells #[.int .i64 f,.int .i64 g,.int .i64 i,.int .i64 j,.int .i64 k,.int .i64 l,.bool m] 161 (0,0)) (λ n s=>
 Drw s λ a t=>
 Zb q λ e=>
 ∃ b:Int,(At a (Addr.add e 0) [.int .i64 b])/\
 ∃ c:Int,(At a ⟨n,0 + 1,none⟩ [.int .i64 c])/\
 New (.cells #[.int .i64 p,.int .i64 b,.int .i64 c,.int .i64 r,.int .i64 0,.int .i64 0,.bool u] 161 (0,0)) (λ o d=>
 (a d)/\
 K (.slice ((some ⟨o,0,none⟩)) 1 1) d) t) w
theorem ZnY (j:Option Addr) (a:Int) (b:Int) (c:Int) (d:Int) (e:Int) (f:Int) (g:Bool) (i:Int) (k:Int) (l:Bool) (K:Value->World->Prop) (w:World) (h:B230 j a b c d e f g i k l K w):Zj prog 230 #[.pointer j,.agg #[.int .i64 a,.int .i64 b,.int .i64 c,.int .i64 d,.int .i64 e,.int .i64 f,.bool g],.int .i64 i,.int .i64 k,.bool l] w K:=cq (sk:=.leaf) func230 (by kernel_rfl) (by kernel_rfl) (by kernel_rfl) h
def B231 (a:Option Addr) (l:Int) (K:Value->World->Prop) (w:World):Prop:=
 Zb a λ f=>
 ∃ i:World,((Instr.storeAt 29 (.pointer ((some ⟨f.block,f.off + 2,none⟩))) (.agg #[.int .i64 l,.int .i64 0])).run prog w=.ok () i)/\
 Zb a λ c=>
 ∃ j:World,((Instr.storeAt 3 (.pointer ((some ⟨c.block,c.off + 6,none⟩))) (.int .i64 0)).run prog i=.ok () j)/\
 Zb a λ d=>
 ∃ b:World,((Instr.storeAt 3 (.pointer ((some ⟨d.block,d.off + 7,none⟩))) (.int .i64 0)).run prog j=.ok () b)/\
 Zb a λ e=>
 ∃ g:Option Nat,(At (λ m=>m=b) ⟨e.block,e.off + 10,none⟩ [.map g])/\
 ∃ k:World,((Builtin.clear_ #[113] 0 #[.map g]).run prog b=.ok (.tuple #[]) k)/\
 K (.tuple #[]) k
theorem ZnX (a:Option Addr) (b:Int) (K:Value->World->Prop) (w:World) (h:B231 a b K w):Zj prog 231 #[.pointer a,.int .i64 b] w K:=cq (sk:=.leaf) func231 (by kernel_rfl) (by kernel_rfl) (by kernel_rfl) h
def B232 (a:Option Addr) (C:Int) (D:Int) (E:Int) (F:Int) (G:Int) (H:Int) (I:Bool) (q:Bool) (K:Value->World->Prop) (w:World):Prop:=
 New (.cells #[.int .i64 C,.int .i64 D,.int .i64 E,.int .i64 F,.int .i64 G,.int .i64 H,.bool I] 161 (0,0)) (λ f J=>
 ∃ (e:World->Prop),(Drw J λ c b=>
 ∃ y:Int,(At c ⟨f,0 + 3,none⟩ [.int .i64 y])/\
 Zb a λ j=>
 ∃ r:Int,(At c ⟨j.block,j.off + 2,none⟩ [.int .i64 r])/\
 Br (y !=r)
 (K (.bool false) b)
 (Zb a λ k=>
 ∃ s:Int,(At c ⟨k.block,k.off + 2 + 1,none⟩ [.int .i64 s])/\
 Br (s !=0)
 (Zb a λ l=>
 ∃ t:Int,(At c ⟨l.block,l.off + 2 + 1,none⟩ [.int .i64 t])/\
 ∃ u:Int,(At c ⟨f,0 + 1,none⟩ [.int .i64 u])/\
 Br (t !=u)
 (K (.bool false) b)
 (Br (!q)
 (K (.bool false) b)
 (e  b)))
 (Br (!q)
 (K (.bool false) b)
 (e  b))))/\
 ∀ (L:Env)  (i:World),e  i->
 ∃ v:Int,(At (λ g=>g=i) ⟨f,0 + 1,none⟩ [.int .i64 v])/\
 Zb a λ m=>
 ∃ z:World,((Instr.storeAt 3 (.pointer ((some ⟨m.block,m.off + 2 + 1,none⟩))) (.int .i64 v)).run prog i=.ok () z)/\
 Zb a λ n=>
 ∃ d:World,((Instr.storeAt 3 (.pointer ((some ⟨n.block,n.off + 8,none⟩))) (.int .i64 0)).run prog z=.ok () d)/\
 Zb a λ o=>
 ∃ x:Int,(At (λ g=>g=d) ⟨o.block,o.off + 6,none⟩ [.int .i64 x])/\
 Br (x==1)
 (Zb a λ p=>
 ∃ A:World,((Instr.storeAt 3 (.pointer ((some ⟨p.block,p.off + 6,none⟩))) (.int .i64 0)).run prog d=.ok () A)/\
 K (.bool true) A)
 (K (.bool true) d)) w
def ZqP:Sk:=(.seq .leaf (.cut [] [] [6,7,8,9,10,11,12,13,14,15,16,17,18,19,20,21,22,23,24,25,26,27,28,29,30,31,32,33,34,35,36] .leaf .leaf))
theorem ZnW (i:Option Addr) (a:Int) (b:Int) (c:Int) (d:Int) (e:Int) (f:Int) (g:Bool) (j:Bool) (K:Value->World->Prop) (w:World) (h:B232 i a b c d e f g j K w):Zj prog 232 #[.pointer i,.agg #[.int .i64 a,.int .i64 b,.int .i64 c,.int .i64 d,.int .i64 e,.int .i64 f,.bool g],.bool j] w K:=cq (sk:=ZqP) func232 (by kernel_rfl) (by kernel_rfl) (by kernel_rfl) h
def B233 (b:Option Addr) (f:Int) (u:Int) (v:Int) (K:Value->World->Prop) (w:World):Prop:=
 Br (f==2)
 (Zb b λ i=>
 ∃ p:World,((Instr.storeAt 3 (.pointer ((some ⟨i.block,i.off + 6,none⟩))) (.int .i64 0)).run prog w=.ok () p)/\
 K (.slice none 0 0) p)
 (∃ (e:Bool->World->Prop),(Br (f==1)
 (Zb b λ j=>
 ∃ n:Int,(At (λ g=>g=w) ⟨j.block,j.off + 6,none⟩ [.int .i64 n])/\
 e (n==1) w)
 (e false w))/\
 ∀ (y:Env) (m:Bool) (d:World),e m d->
 Br m
 (Calls prog 97 #[.pointer b,.int .i64 u,.int .i64 v] d λ t x=>
 ∃ c:Sl,(t=.returned (.slice c.a c.len c.cap))/\
 K (.slice c.a c.len c.cap) x)
 (Br (f==1)
 (Zb b λ s=>
 ∃ o:Int,(At (λ g=>g=d) (Addr.add s 0) [.int .i64 o])/\
 Zb b λ k=>
 ∃ q:World,((Instr.storeAt 3 (.pointer ((some ⟨k.block,k.off + 6,none⟩))) (.int .i64 3)).run prog d=.ok () q)/\
 Zb b λ l=>
 ∃ r:World,((Instr.storeAt 3 (.pointer ((some ⟨l.block,l.off + 7,none⟩))) (.int .i64 o)).run prog q=.ok () r)/\
 K (.slice none 0 0) r)
 (K (.slice none 0 0) d)))
def ZqO:Sk:=(.seq .leaf (.seq (.block (.seq .leaf (.cond .leaf (.cut [15] [.bool] [15,16,17,18,19,20,21,22,23,24] .leaf .leaf)))) .leaf))
theorem ZnV (c:Option Addr) (d:Int) (a:Int) (b:Int) (K:Value->World->Prop) (w:World) (h:B233 c d a b K w):Zj prog 233 #[.pointer c,.int .i64 d,.int .i64 a,.int .i64 b] w K:=cq (sk:=ZqO) func233 (by kernel_rfl) (by kernel_rfl) (by kernel_rfl) h
def B234 (c:Option Addr) (u:Int) (ac:Bool) (K:Value->World->Prop) (w:World):Prop:=
 ∃ (s:World->Prop),(∃ (t:Bool->World->Prop),(Zb c λ I=>
 ∃ J:Option Nat,(At (λ b=>b=w) ⟨I.block,I.off + 10,none⟩ [.map J])/\
 ∃ d:Sl,(∀ b,(λ b=>b=w) b->((Instr.lookup 113 (.map J) (.bool true) false)).run prog b=.ok (.slice d.a d.len d.cap) b)/\
 Calls prog 95 #[.slice d.a d.len d.cap,.int .i64 u] w λ ae r=>
 ∃ L:Bool,(ae=.returned (.bool L))/\
 Br (!L)
 (Zb c λ A=>
 ∃ M:Option Nat,(At (λ b=>b=r) ⟨A.block,A.off + 10,none⟩ [.map M])/\
 ∃ e:Sl,(∀ b,(λ b=>b=r) b->((Instr.lookup 113 (.map M) (.bool false) false)).run prog b=.ok (.slice e.a e.len e.cap) b)/\
 Calls prog 95 #[.slice e.a e.len e.cap,.int .i64 u] r λ af aj=>
 ∃ N:Bool,(af=.returned (.bool N))/\
 t (!N) aj)
 (t false r))/\
 ∀ (am:Env) (O:Bool) (y:World),t O y->
 Br O
 (Drw y λ o ak=>
 Zb c λ C=>
 ∃ Q:Option Nat,(At o ⟨C.block,C.off + 10,none⟩ [.map Q])/\
 Zb c λ D=>
 ∃ T:Option Nat,(At o ⟨D.block,D.off + 10,none⟩ [.map T])/\
 ∃ f:Sl,(∀ b,o b->((Instr.lookup 113 (.map T) (.bool ac) false)).run prog b=.ok (.slice f.a f.len f.cap) b)/\
 New (.cells #[.int .i64 u] 3 (0,0)) (λ ad Z=>
 (o Z)/\
 ∃ z:World,∃ g:Sl,((Builtin.append_ #[30,30] 30 #[.slice f.a f.len f.cap,.slice ((some ⟨ad,0,none⟩)) 1 1]).run prog Z=.ok (.slice g.a g.len g.cap) z)/\
 (o z)/\
 ∃ aa:World,((Instr.mapUpdate 113 (.map Q) (.bool ac) (.slice g.a g.len g.cap)).run prog z=.ok () aa)/\
 s  aa) ak)
 (s  y))/\
 ∀ (an:Env)  (ab:World),s  ab->
 Drw ab λ p al=>
 Zb c λ E=>
 ∃ i:Sl,∃ j:Sl,(At p ⟨E.block,E.off + 4,none⟩ [.slice i.a i.len i.cap,.slice j.a j.len j.cap])/\
 Zb c λ F=>
 ∃ U:Option Nat,(At p ⟨F.block,F.off + 10,none⟩ [.map U])/\
 ∃ k:Sl,(∀ b,p b->((Instr.lookup 113 (.map U) (.bool true) false)).run prog b=.ok (.slice k.a k.len k.cap) b)/\
 Calls prog 51 #[.agg #[.slice i.a i.len i.cap,.slice j.a j.len j.cap],.slice k.a k.len k.cap] al λ ag v=>
 ∃ V:Bool,(ag=.returned (.bool V))/\
 (p v)/\
 Br V
 (K (.int .i64 1) v)
 (Drw v λ q ai=>
 Zb c λ G=>
 ∃ l:Sl,∃ m:Sl,(At q ⟨G.block,G.off + 4,none⟩ [.slice l.a l.len l.cap,.slice m.a m.len m.cap])/\
 Zb c λ H=>
 ∃ X:Option Nat,(At q ⟨H.block,H.off + 10,none⟩ [.map X])/\
 ∃ n:Sl,(∀ b,q b->((Instr.lookup 113 (.map X) (.bool false) false)).run prog b=.ok (.slice n.a n.len n.cap) b)/\
 Calls prog 249 #[.agg #[.slice l.a l.len l.cap,.slice m.a m.len m.cap],.slice n.a n.len n.cap] ai λ ah x=>
 ∃ Y:Bool,(ah=.returned (.bool Y))/\
 (q x)/\
 Br Y
 (K (.int .i64 2) x)
 (K (.int .i64 0) x))
def ZqN:Sk:=(.seq .leaf (.cut [] [] [7,8,9,10,11,12,13,14,15,16,17,18,19,20,21,22,23,24,25,26,27,28,29,30,31,32,33,34,35,36,37,38] (.cut [24] [.bool] [7,8,9,10,11,12,13,14,15,16,17,18,19,20,21,22,23,24] .leaf .leaf) .leaf))
theorem ZnU (b:Option Addr) (a:Int) (c:Bool) (K:Value->World->Prop) (w:World) (h:B234 b a c K w):Zj prog 234 #[.pointer b,.int .i64 a,.bool c] w K:=cq (sk:=ZqN) func234 (by kernel_rfl) (by kernel_rfl) (by kernel_rfl) h
end
end Go.Proofs.YthpmfnffkjjlnaaGreat
namespace Go.VC
section
instance:ZaU Bool where
 enc:=Value.bool
 desc:=.bool
 same a b:=rfl
 bits a:=by
  have:∀ n,Instr.sameBits n (.bool a) (.bool a)=(a==a):=λ n=>by cases n<;>rfl
  rw [this];simp
 eq a b h:=beq_iff_eq.1 h
 check P em K a w h:=by
  show (Instr.checkKey em (9999 + 1) K (.bool a)).run P w=_;unfold Instr.checkKey;simp [run_underlying h]
variable {α:Type} [BEq α] [ZaU α] {P:Program} {R:Cx} {Hs:List HP} {w:World} {T K E:TypeId}
theorem ZlE {P:Program} {T K E ty:TypeId} (hT:P.underlying T=some (.map K E)) {w:World} {m clock:Nat} {es:Array MapEntry} (hm:w.heap[m]? =some (.map es clock)):
  (Builtin.clear_ #[T] ty #[.map (some m)]).run P w=.ok (.tuple #[]) (w.setBlock m (.map #[] clock)):=by
 have h0:(#[T]:Array TypeId)[0]? =some T:=rfl;have h1:(#[Value.map (some m)]:Array Value)[0]? =some (.map (some m)):=rfl;unfold Builtin.clear_;rw [h0,h1];simp only [Sem.run_bind,run_underlying hT,Result.andThen,MapKept.run_getObj_map hm,MapKept.run_setObj_map _ hm,World.setBlock,Sem.run_pure]
theorem Zg.clear {ty:TypeId} {m:Nat} {es:List (α × Value)} (hT:P.underlying T=some (.map K E)) (hw:Sat R (Zg m es::Hs) w) {Q:World->Prop} (h:∀ w',Sat R (Zg (α:=α) m []::Hs) w'->Q w'):
  ∃ w',(Builtin.clear_ #[T] ty #[.map (some m)]).run P w=.ok (.tuple #[]) w'/\Q w':=by
 obtain ⟨l,clk,rfl,hst,hp⟩:=Zg.iff.1 hw;exact ⟨_,ZlE hT hp.at,h _ (Zg.iff.2 ⟨[],clk,rfl,⟨λ _ h=>(by cases h),List.nodup_nil⟩,hp.setPts _⟩)⟩
section
variable {β:Type}
omit [ZaU α]
variable [LawfulBEq α]
theorem ZdH {k k':α} {v:β}:∀ {l:List (α × β)},(ZB k l).isSome=true->ZB k' (Zbq k v l)=if k'==k then some v else ZB k' l
 |[],h=>by cases h
 |e::es,h=>by
  unfold ZB at h;unfold Zbq;by_cases h1:(k==e.1)=true
  ·rw [if_pos h1]
   have e1:=eq_of_beq h1;unfold ZB;simp only;subst e1;by_cases h2:(k'==e.1)=true
   ·rw [if_pos h2,if_pos h2]
   ·rw [if_neg h2,if_neg h2,if_neg h2]
  ·rw [if_neg h1] at h ⊢
   conv=>lhs;unfold ZB
   rw [ZdH h];by_cases h2:(k'==e.1)=true
   ·rw [if_pos h2]
    have e2:=eq_of_beq h2;subst e2;rw [if_neg (λ h3=>h1 (by have:=eq_of_beq h3;rw [this];simp))]
    conv=>rhs;unfold ZB
    rw [if_pos (by simp)]
   ·rw [if_neg h2]
    conv=>rhs;rhs;unfold ZB
    rw [if_neg h2]
omit [LawfulBEq α] in
theorem Zhv {k':α}:∀ {l m:List (α × β)},ZB k' (l++m)=(ZB k' l).or (ZB k' m)
 |[],m=>by simp [ZB]
 |e::es,m=>by
  show (if k'==e.1 then some e.2 else ZB k' (es++m))=(if k'==e.1 then some e.2 else ZB k' es).or (ZB k' m)
  by_cases h:(k'==e.1)=true
  ·rw [if_pos h,if_pos h];rfl
  ·rw [if_neg h,if_neg h];exact Zhv
theorem ZcA (k k':α) (v:β) (l:List (α × β)):ZB k' (ZcG k v l)=if k'==k then some v else ZB k' l:=by
 unfold ZcG;split
 ·rename_i h;exact ZdH h
 ·rename_i h
  rw [Zhv];have e:ZB k' [(k,v)]=if k'==k then some v else none:=by unfold ZB;rfl
  rw [e];split
  ·rename_i h2
   have:=eq_of_beq h2;subst this;simp only [Bool.not_eq_true,Option.isSome_eq_false_iff,Option.isNone_iff_eq_none] at h;rw [h];rfl
  ·cases ZB k' l<;>rfl
end
end
end Go.VC
namespace Go.Proofs.YthpmfnffkjjlnaaGreat
section
open Go Go.VC Tryz
variable {R R' R1:Cx} {Hs Rest Rest2:List HP} {w:World}
theorem _root_.Go.VC.At.ex {α:Type} {S:α->World->Prop} {a:Addr} {vs:List Value} (h:∀ x,At (S x) a vs):At (λ w=>∃ x,S x w) a vs:=λ w ⟨x,hx⟩=>h x w hx
theorem _root_.Go.VC.Cx.Ext.roI {s:Sl} {xs:List Int} (e:R.Ext R') (h:RoI R s xs):RoI R' s xs:=e.ro h
abbrev Zz (e:Eln) (sv sl:Sl) (m:Nat):Obj:=.cells [.int .i64 e.id,.int .i64 e.pat,.int .i64 e.hd.tm,.int .i64 e.hd.vt,.slice sv.a sv.len sv.cap,.slice sl.a sl.len sl.cap,.int .i64 e.role,.int .i64 e.lead,.int .i64 e.wait,.int .i64 e.lim,.map (some m)].toArray 115 (0,0)
abbrev Zmk:Value:=.slice none 0 0
def ZI (m:Nat) (yes no:List Int):HP:=exs λ es:List (Bool × Value)=>exs λ sy:Sl=>exs λ sn:Sl=>
 Zds [pur ((ZB true es).getD Zmk=sy.v/\(ZB false es).getD Zmk=sn.v),Zg m es,Own sy 3 (ints yes),Own sn 3 (ints no)]
theorem ZI.iff {m:Nat} {yes no:List Int}:Sat R (ZI m yes no::Hs) w↔∃ es sy sn,((ZB true es).getD Zmk=Sl.v sy/\(ZB false es).getD Zmk=Sl.v sn)/\Sat R (Zg m es::Own sy 3 (ints yes)::Own sn 3 (ints no)::Hs) w:=by
 constructor
 ·intro h
  obtain ⟨es,h⟩:=Sat.exs.1 h;obtain ⟨sy,h⟩:=Sat.exs.1 h;obtain ⟨sn,h⟩:=Sat.exs.1 h;obtain ⟨h1,h⟩:=Sat.pur.1 (Sat.star.1 h);exact ⟨es,sy,sn,h1,h⟩
 ·rintro ⟨es,sy,sn,h1,h⟩
  exact Sat.exs.2 ⟨es,Sat.exs.2 ⟨sy,Sat.exs.2 ⟨sn,Sat.star.2 (Sat.pur.2 ⟨h1,h⟩)⟩⟩⟩
structure Zd7 (R:Cx) (g:Gp) (sv sl:Sl):Prop where
 v:RoI R sv g.vs
 l:RoI R sl g.ls
theorem Zd7.ext {g:Gp} {sv sl:Sl} (h:Zd7 R g sv sl) (e:R.Ext R'):Zd7 R' g sv sl:=⟨e.roI h.v,e.roI h.l⟩
def Zn (R:Cx) (p:Nat) (e:Eln):HP:=exs λ sv:Sl=>exs λ sl:Sl=>exs λ m:Nat=>Zds [pur (Zd7 R e.g sv sl),pts p (Zz e sv sl m),ZI m e.yes e.no]
theorem Zn.iff {p:Nat} {e:Eln}:Sat R (Zn R1 p e::Hs) w↔∃ sv sl m,Zd7 R1 e.g sv sl/\Sat R (pts p (Zz e sv sl m)::ZI m e.yes e.no::Hs) w:=by
 constructor
 ·intro h
  obtain ⟨sv,h⟩:=Sat.exs.1 h;obtain ⟨sl,h⟩:=Sat.exs.1 h;obtain ⟨m,h⟩:=Sat.exs.1 h;obtain ⟨h1,h⟩:=Sat.pur.1 (Sat.star.1 h);exact ⟨sv,sl,m,h1,h⟩
 ·rintro ⟨sv,sl,m,h1,h⟩
  exact Sat.exs.2 ⟨sv,Sat.exs.2 ⟨sl,Sat.exs.2 ⟨m,Sat.star.2 (Sat.pur.2 ⟨h1,h⟩)⟩⟩⟩
theorem Zn.ext {R2:Cx} {p:Nat} {e:Eln} (hw:Sat R (Zn R1 p e::Hs) w) (x:R1.Ext R2):Sat R (Zn R2 p e::Hs) w:=by
 obtain ⟨sv,sl,m,h,hw⟩:=Zn.iff.1 hw;exact Zn.iff.2 ⟨sv,sl,m,h.ext x,hw⟩
theorem Zpa:ZoP prog 113 Bool 4 30 Zmk:=⟨underlying113,underlying4,λ _=>zeroValue30 _⟩
theorem Zg.lookS {m:Nat} {es:List (Bool × Value)} (hw:Sat R (Zg m es::Hs) w) (k:Bool) {s:Sl} (h:(ZB k es).getD Zmk=s.v):
  (Instr.lookup 113 (.map (some m)) (.bool k) false).run prog w=.ok (.slice s.a s.len s.cap) w:=by
 have:=Zg.look Zpa hw k false;rw [if_neg (by simp),h] at this;exact this
abbrev Zc8 (b:Bl):List Value:=[.int .i64 b.kd,.int .i64 b.fr,.int .i64 b.to',.int .i64 b.tm,.int .i64 b.ix,.int .i64 b.lt,.bool b.yes]
abbrev ZmC (b:Bl):Value:=.agg #[.int .i64 b.kd,.int .i64 b.fr,.int .i64 b.to',.int .i64 b.tm,.int .i64 b.ix,.int .i64 b.lt,.bool b.yes]
abbrev BlO (s:Sl) (bs:List Bl):HP:=OwnN 7 s 161 (bs.map Zc8)
theorem elBl:ElN prog 103 103 161 7 56:=⟨underlying103,⟨_,underlying103⟩,by kernel_rfl⟩
section
variable {p m:Nat} {e:Eln} {sv sl:Sl} [tk:Zbk p Hs (Zz e sv sl m) Rest]
include tk
theorem Zfx (n:Int) (hw:Sat R Hs w):Zj prog 229 #[.pointer (some ⟨p,0,none⟩),.int .i64 n] w λ v w'=>v=.bool (e.other n)/\Sat R Hs w':=by
 apply ZnZ;unfold Eln.other;refine Br.d (λ h=>Br.d (λ h2=>Zb.mk rfl ⟨_,At.own (eqS hw) (by exact ⟨rfl,trivial⟩),?_,hw⟩) (λ h2=>⟨?_,hw⟩)) (λ h=>⟨?_,hw⟩)
 ·rw [decide_eq_true (by omega),Bool.true_and]
 ·rw [decide_eq_false (by omega)];rfl
 ·rw [decide_eq_false (by omega)];rfl
theorem Zlm (hw:Sat R Hs w):Zj prog 23 #[.pointer (some ⟨p,0,none⟩)] w λ v w'=>v=.agg #[.int .i64 e.hd.tm,.int .i64 e.hd.vt]/\Sat R Hs w':=by
 apply Zqh;refine Zd hw λ b w hw=>Zb.mk rfl ⟨_,_,At.own (eqS hw) (by exact ⟨rfl,rfl,trivial⟩),?_⟩;refine Za hw (by kernel_rfl) rfl (by simp [Value.cells,Zc]) λ w hw=>?_;exact ⟨_,_,At.own (eqS hw) (by exact ⟨rfl,rfl,trivial⟩),rfl,hw.drop⟩
theorem ZkI (hw:Sat R Hs w):Zj prog 16 #[.pointer (some ⟨p,0,none⟩)] w λ v w'=>v=.int .i64 e.role/\Sat R Hs w':=by
 apply Zql;exact Zb.mk rfl ⟨_,At.own (eqS hw) (by exact ⟨rfl,trivial⟩),rfl,hw⟩
end
section
variable {p:Nat} {e:Eln}
theorem Zim (n:Int) (hw:Sat R (Zn R p e::Hs) w):Zj prog 229 #[.pointer (some ⟨p,0,none⟩),.int .i64 n] w λ v w'=>v=.bool (e.other n)/\Sat R (Zn R p e::Hs) w':=by
 obtain ⟨sv,sl,m,hg,hw⟩:=Zn.iff.1 hw;exact (Zfx n hw).mono λ _ _ h=>⟨h.1,Zn.iff.2 ⟨sv,sl,m,hg,h.2⟩⟩
theorem Zaq (hw:Sat R (Zn R p e::Hs) w):Zj prog 23 #[.pointer (some ⟨p,0,none⟩)] w λ v w'=>v=.agg #[.int .i64 e.hd.tm,.int .i64 e.hd.vt]/\Sat R (Zn R p e::Hs) w':=by
 obtain ⟨sv,sl,m,hg,hw⟩:=Zn.iff.1 hw;exact (Zlm hw).mono λ _ _ h=>⟨h.1,Zn.iff.2 ⟨sv,sl,m,hg,h.2⟩⟩
theorem Zai (hw:Sat R (Zn R p e::Hs) w):Zj prog 16 #[.pointer (some ⟨p,0,none⟩)] w λ v w'=>v=.int .i64 e.role/\Sat R (Zn R p e::Hs) w':=by
 obtain ⟨sv,sl,m,hg,hw⟩:=Zn.iff.1 hw;exact (ZkI hw).mono λ _ _ h=>⟨h.1,Zn.iff.2 ⟨sv,sl,m,hg,h.2⟩⟩
theorem ZbP {lo hi n:Int} (hw:Sat R Hs w):Zj prog 82 #[.int .i64 n,.int .i64 lo,.int .i64 hi] w λ v w'=>v=.bool (Z3 n lo hi)/\Sat R Hs w':=by
 apply ZpD;unfold Z3;refine Br.d (λ h=>⟨?_,hw⟩) (λ h=>⟨by rw [decide_eq_false (by omega)],hw⟩)
 congr 1
 rw [decide_eq_decide];omega
theorem Zdm (t:Int) (hw:Sat R (Zn R p e::Hs) w):Zj prog 231 #[.pointer (some ⟨p,0,none⟩),.int .i64 t] w λ v w'=>v=.tuple #[]/\Sat R (Zn R p (e.down t)::Hs) w':=by
 obtain ⟨sv,sl,m,hg,hw⟩:=Zn.iff.1 hw;apply ZnX;refine Zb.mk rfl ?_;refine Za hw (by kernel_rfl) rfl (by simp [Value.cells,Zc]) λ w hw=>?_;refine Zb.mk rfl ?_;refine Za hw (by kernel_rfl) rfl (by simp [Value.cells,Zc]) λ w hw=>?_;refine Zb.mk rfl ?_;refine Za hw (by kernel_rfl) rfl (by simp [Value.cells,Zc]) λ w hw=>?_;have hw:Sat R (pts p (Zz { e with hd:=⟨t,0⟩,role:=0,lead:=0 } sv sl m)::ZI m e.yes e.no::Hs) w:=hw;refine Zb.mk rfl ⟨_,At.own (eqS hw) (by exact ⟨rfl,trivial⟩),?_⟩;obtain ⟨es,sy,sn,_,hw⟩:=ZI.iff.1 hw.swap;refine Zg.clear Zpa.hT hw λ w hw=>⟨rfl,Zn.iff.2 ⟨sv,sl,m,hg,?_⟩⟩;have hw2:Sat R (Own sy 3 (ints e.yes)::Own sn 3 (ints e.no)::Zg m ([]:List (Bool × Value))::pts p (Zz { e with hd:=⟨t,0⟩,role:=0,lead:=0 } sv sl m)::Hs) w:=hw.arr;exact Sat.swap (ZI.iff.2 ⟨[],⟨none,0,0⟩,⟨none,0,0⟩,⟨rfl,rfl⟩,hw2.drop.drop.cons λ _ h=>Own.nil (Own.nil h)⟩)
theorem Zle {g:Gp} {tv tl:Sl} (hn:Zd7 R g tv tl) (hw:Sat R (Zn R p e::Hs) w):Zj prog 90 #[.pointer (some ⟨p,0,none⟩),.agg #[.slice tv.a tv.len tv.cap,.slice tl.a tl.len tl.cap]] w λ v w'=>
  v=.int .i64 (if Zo g.vs g.ls then 0 else 1)/\Sat R (Zn R p (e.join g)::Hs) w':=by
 obtain ⟨sv,sl,m,hg,hw⟩:=Zn.iff.1 hw;apply Zpv;refine Zd hw λ b w hw=>⟨tv,tl,At.own (eqS hw) (by exact ⟨rfl,rfl,trivial⟩),?_⟩;refine (ZaA hw hn.v hn.l).use ?_;clear hw;rintro _ w ⟨rfl,hw⟩;unfold Eln.join;refine ⟨_,rfl,Br.nb (λ h=>?_) (λ h=>⟨tv,tl,At.own (eqS hw) (by exact ⟨rfl,rfl,trivial⟩),Zb.mk rfl ?_⟩)⟩
 ·rw [h];exact ⟨rfl,Zn.iff.2 ⟨sv,sl,m,hg,hw.drop⟩⟩
 ·rw [h,if_pos rfl,if_pos rfl]
  have hw:=hw.swap;refine Za hw (by kernel_rfl) rfl (by simp [Value.cells,Zc]) λ w hw=>?_;have hw:Sat R (pts p (Zz { e with g:=g } tv tl m)::pts b (.cells [.slice tv.a tv.len tv.cap,.slice tl.a tl.len tl.cap].toArray 32 (0,0))::ZI m e.yes e.no::Hs) w:=hw;exact ⟨rfl,Zn.iff.2 ⟨tv,tl,m,hn,hw.cons λ _ h=>h.drop⟩⟩
theorem ZfW (role:Int) (hw:Sat R (Zn R p e::Hs) w):Zj prog 96 #[.pointer (some ⟨p,0,none⟩),.int .i64 role] w λ v w'=>
  v=.bool (e.alone role).wins/\Sat R (Zn R p (e.alone role)::Hs) w':=by
 obtain ⟨sv,sl,m,hg,hw⟩:=Zn.iff.1 hw;apply Zpp;refine Zd hw λ m2 w hw=>?_;have hw:=Zg.new (α:=Bool) rfl hw;refine Zb.mk rfl ⟨_,At.own (eqS hw) (by exact ⟨rfl,trivial⟩),Zd hw λ b w hw=>?_⟩;have hw:Sat R (Zg m2 ([]:List (Bool × Value))::pts b (.cells [.int .i64 e.id].toArray 3 (0,0))::pts p (Zz e sv sl m)::ZI m e.yes e.no::Hs) w:=hw.arr;refine Zg.put Zpa hw true _ λ w hw=>Zb.mk rfl ?_;have hw:Sat R (Zg m2 [(true,Value.slice (some ⟨b,0,none⟩) 1 1)]::pts b (.cells [.int .i64 e.id].toArray 3 (0,0))::pts p (Zz e sv sl m)::ZI m e.yes e.no::Hs) w:=hw;have hw:Sat R (pts p (Zz e sv sl m)::Zg m2 [(true,Value.slice (some ⟨b,0,none⟩) 1 1)]::pts b (.cells [.int .i64 e.id].toArray 3 (0,0))::ZI m e.yes e.no::Hs) w:=hw.arr;refine Za hw (by kernel_rfl) rfl (by simp [Value.cells,Zc]) λ w hw=>?_;refine Zb.mk rfl ?_;refine Za hw (by kernel_rfl) rfl (by simp [Value.cells,Zc]) λ w hw=>?_;have hw:Sat R (pts p (Zz (e.alone role) sv sl m2)::Zg m2 [(true,Value.slice (some ⟨b,0,none⟩) 1 1)]::pts b (.cells [.int .i64 e.id].toArray 3 (0,0))::ZI m e.yes e.no::Hs) w:=hw;have h0:Sat R (pts b (.cells [.int .i64 e.id].toArray 3 (0,0))::pts p (Zz (e.alone role) sv sl m2)::Zg m2 [(true,Value.slice (some ⟨b,0,none⟩) 1 1)]::ZI m e.yes e.no::Hs) w:=hw.arr;have hw:Sat R (Own ⟨some ⟨b,0,none⟩,1,1⟩ 3 (ints [e.id])::pts p (Zz (e.alone role) sv sl m2)::Zg m2 [(true,Value.slice (some ⟨b,0,none⟩) 1 1)]::ZI m e.yes e.no::Hs) w:=ZbR h0;clear h0;refine Zi (Sat R [Zg m2 [(true,Value.slice (some ⟨b,0,none⟩) 1 1)],pts p (Zz (e.alone role) sv sl m2),VC.tru]) hw (λ w hw=>hw.k2) λ w hw=>Zb.mk rfl ⟨sv,sl,At.own Zf (by exact ⟨rfl,rfl,trivial⟩),Zb.mk rfl ⟨some m2,At.own Zf (by exact ⟨rfl,trivial⟩),⟨some ⟨b,0,none⟩,1,1⟩,λ w h=>Zg.lookS h true rfl,?_⟩⟩;obtain ⟨R2,hb,keep,hw,back⟩:=Own.lendI hw (by simp);refine (Zdb hw (keep _ _ hg.v) (keep _ _ hg.l) hb).use ?_;clear hw;rintro _ w ⟨rfl,hw⟩;have hw:=back hw;refine ⟨_,rfl,hw.k2,rfl,Zn.iff.2 ⟨sv,sl,m2,hg,?_⟩⟩;have h2:Sat R (Zg m2 [(true,Value.slice (some ⟨b,0,none⟩) 1 1)]::Own ⟨some ⟨b,0,none⟩,1,1⟩ 3 (ints [e.id])::pts p (Zz (e.alone role) sv sl m2)::ZI m e.yes e.no::Hs) w:=hw.arr;have h3:Sat R (ZI m2 [e.id] []::pts p (Zz (e.alone role) sv sl m2)::ZI m e.yes e.no::Hs) w:=
  ZI.iff.2 ⟨_,⟨some ⟨b,0,none⟩,1,1⟩,⟨none,0,0⟩,⟨rfl,rfl⟩,h2.cons λ _ h=>h.cons λ _ h=>Own.nil h⟩
 exact h3.swap.cons λ _ h=>h.cons λ _ h=>h.drop
end
end
section
open Go Go.VC Tryz
variable {R R' R1:Cx} {Hs Rest Rest2:List HP} {w:World} {p:Nat} {e:Eln}
def BlQ (R:Cx) (Hs:List HP) (p:Nat) (r:List Bl × Eln) (v:Value) (w:World):Prop:=∃ t:Sl,v=.slice t.a t.len t.cap/\Sat R (BlO t r.1::Zn R p r.2::Hs) w
theorem BlQ.nil {r:List Bl × Eln} (h:r=([],e)) (hw:Sat R (Zn R p e::Hs) w):BlQ R Hs p r Zmk w:=by subst h;exact ⟨⟨none,0,0⟩,rfl,OwnN.nil hw⟩
theorem ZhE (ok:ZL e) (kd tm last lt:Int) (hw:Sat R (Zn R p e::Hs) w):Zj prog 98 #[.pointer (some ⟨p,0,none⟩),.int .i64 kd,.int .i64 tm,.int .i64 last,.int .i64 lt] w (BlQ R Hs p (e.all kd tm last lt,e)):=by
 obtain ⟨sv,sl,m,hg,hw⟩:=Zn.iff.1 hw;apply Zpn;have h15:=Zv (Zp ok.g);have hsl:=hg.v.len;refine Zb.mk rfl ⟨sv,At.own (eqS hw) (by exact ⟨rfl,trivial⟩),?_⟩;refine ⟨λ out i w=>∃ k:Nat,i=k/\k<=e.g.vs.length/\Sat R (BlO out (((e.g.vs.take k).filter λ v=>v !=e.id).map λ v=>⟨kd,e.id,v,tm,last,lt,false⟩)::pts p (Zz e sv sl m)::ZI m e.yes e.no::Hs) w,λ _ i _=>e.g.vs.length - i.toNat,
  ⟨0,rfl,Nat.zero_le _,OwnN.nil hw⟩,?_⟩
 clear hw;rintro _ out _ w ⟨k,rfl,hk,hw⟩;refine Br.d (λ h=>?_) (λ h=>?_)
 ·have hk':k<e.g.vs.length:=by omega
  refine Ro.ix hg.v (eqS hw) k rfl hk' (Zb.mk rfl ⟨_,At.own (eqS hw) (by exact ⟨rfl,trivial⟩),?_⟩);rw [Zh (by omega) (by omega)];have es:=ZbV (λ v=>v !=e.id) hk';refine Br.ne (λ h2=>Zb.mk rfl ⟨_,At.own (eqS hw) (by exact ⟨rfl,trivial⟩),?_⟩) (λ h2=>⟨⟨k + 1,by omega,hk',?_⟩,by dsimp only;omega⟩)
  ·have hl:((e.g.vs.take k).filter λ v=>v !=e.id).length<=k:=Nat.le_trans (List.length_filter_le _ _) (by rw [List.length_take];omega)
   refine ZjC elBl hw rfl rfl (by rw [List.length_map,List.length_map];omega) (by rw [List.length_map,List.length_map];omega) λ s2 w hw=>?_;refine ⟨⟨k + 1,by omega,hk',?_⟩,by dsimp only;omega⟩;rw [es,if_pos (by simp [h2])];unfold BlO;rw [List.map_append,List.map_append];exact hw
  ·rw [es,if_neg (by simp [h2]),List.append_nil];exact hw
 ·have:k=e.g.vs.length:=by omega
  subst this;rw [List.take_length] at hw;exact ⟨out,rfl,hw.cons λ _ h=>Zn.iff.2 ⟨sv,sl,m,hg,h⟩⟩
theorem ZiN (ok:ZL e) (last lt:Int) (hw:Sat R (Zn R p e::Hs) w):Zj prog 97 #[.pointer (some ⟨p,0,none⟩),.int .i64 last,.int .i64 lt] w (BlQ R Hs p (e.run last lt)):=by
 obtain ⟨sv,sl,m,hg,hw⟩:=Zn.iff.1 hw;apply Zpo;have h0:=ok.t0;unfold Eln.run;refine Zb.mk rfl ⟨_,At.own (eqS hw) (by exact ⟨rfl,trivial⟩),Br.d (λ h=>Zb.mk rfl ?_) (λ h=>?_)⟩
 ·refine Za hw (by kernel_rfl) rfl (by simp [Value.cells,Zc]) λ w hw=>?_
  rw [if_pos h];exact .nil rfl (Zn.iff.2 ⟨sv,sl,m,hg,hw⟩)
 rw [if_neg h];refine Zm hw λ w hw=>Zb.mk rfl ⟨_,At.own Zf (by exact ⟨rfl,trivial⟩),Zb.mk rfl ⟨_,At.own Zf (by exact ⟨rfl,trivial⟩),Zb.mk rfl ?_⟩⟩;rw [Zh (by omega) (by omega)];refine Za hw (by kernel_rfl) rfl (by simp [Value.cells,Zc]) λ w hw=>?_;have hw:Sat R (Zn R p { e with hd:=⟨e.hd.tm + 1,e.id⟩ }::Hs) w:=Zn.iff.2 ⟨sv,sl,m,hg,hw⟩;refine (ZfW 2 hw).use ?_;clear hw;rintro _ w ⟨rfl,hw⟩;obtain ⟨e1,he1⟩:∃ e1,e1=Eln.alone { e with hd:=⟨e.hd.tm + 1,e.id⟩ } 2:=⟨_,rfl⟩;have ok1:ZL e1:=by
  have h3:ZL { e with hd:=⟨e.hd.tm + 1,e.id⟩ }:={ ok with t0:=by show 0<=e.hd.tm + 1;omega,t1:=by show e.hd.tm + 1<=_;omega,v0:=by show 0<=e.id;have:=ok.id0;omega,v1:=ok.id1 };rw [he1];exact h3.alone 2
 rw [<-he1] at hw ⊢;obtain ⟨sv,sl,m,hg,hw⟩:=Zn.iff.1 hw;refine ⟨_,rfl,Br.mk (λ h2=>Zb.mk rfl ⟨_,At.own (eqS hw) (by exact ⟨rfl,trivial⟩),Zb.mk rfl ?_⟩) (λ h2=>Zb.mk rfl ⟨_,At.own (eqS hw) (by exact ⟨rfl,trivial⟩),?_⟩)⟩
 ·refine Za hw (by kernel_rfl) rfl (by simp [Value.cells,Zc]) λ w hw=>?_
  refine Zb.mk rfl ?_;refine Za hw (by kernel_rfl) rfl (by simp [Value.cells,Zc]) λ w hw=>?_;rw [if_pos h2];exact .nil rfl (Zn.iff.2 ⟨sv,sl,m,hg,hw⟩)
 ·rw [if_neg (by rw [h2];simp)]
  refine (ZhE ok1 3 _ last lt (Zn.iff.2 ⟨sv,sl,m,hg,hw⟩)).use ?_;rintro _ w ⟨t,rfl,hw⟩;exact ⟨t,rfl,t,rfl,hw⟩
theorem Zj1 (ok:ZL e) (hwt:e.wait<4611686018427387904) (draw last lt:Int) (hw:Sat R (Zn R p e::Hs) w):Zj prog 38 #[.pointer (some ⟨p,0,none⟩),.int .i64 draw,.int .i64 last,.int .i64 lt] w (BlQ R Hs p (e.tick draw last lt)):=by
 obtain ⟨sv,sl,m,hg,hw⟩:=Zn.iff.1 hw;apply Zp4;have h0:=ok.w0;have hp0:=ok.p0;have hp1:=ok.p1;have ht0:=ok.t0;have ht1:=ok.t1;have okh:ZL (e.hope draw):=by
  have h3:ZL { e with wait:=0,lim:=e.pat + (if 0>draw then 0 else draw).tmod e.pat,lead:=0 }:={ ok with w0:=Int.le_refl _ }
  exact h3.alone 1
 unfold Eln.tick;refine Zb.mk rfl ⟨_,At.own (eqS hw) (by exact ⟨rfl,trivial⟩),Br.e (λ h=>?_) (λ h=>?_)⟩
 ·rw [if_pos (by simp [h])]
  exact .nil rfl (Zn.iff.2 ⟨sv,sl,m,hg,hw⟩)
 rw [if_neg (by simp [h])];refine Zb.mk rfl ⟨_,At.own (eqS hw) (by exact ⟨rfl,trivial⟩),Zb.mk rfl ?_⟩;rw [Zh (by omega) (by omega)];refine Za hw (by kernel_rfl) rfl (by simp [Value.cells,Zc]) λ w hw=>?_;have hw:Sat R (pts p (Zz { e with wait:=e.wait + 1 } sv sl m)::ZI m e.yes e.no::Hs) w:=hw;refine ⟨λ w=>¬ (e.wait + 1<e.lim\/ZS e.g.vs e.id=false)/\Sat R (pts p (Zz { e with wait:=e.wait + 1 } sv sl m)::ZI m e.yes e.no::Hs) w,?_,?_⟩
 ·refine Zm hw λ w hw=>Zb.mk rfl ⟨_,At.own Zf (by exact ⟨rfl,trivial⟩),Zb.mk rfl ⟨_,At.own Zf (by exact ⟨rfl,trivial⟩),?_⟩⟩
  have out:∀ {w},(e.wait + 1<e.lim\/ZS e.g.vs e.id=false)->Sat R (pts p (Zz { e with wait:=e.wait + 1 } sv sl m)::ZI m e.yes e.no::Hs) w->BlQ R Hs p (if e.wait + 1<e.lim\/ZS e.g.vs e.id=false then ([],{ e with wait:=e.wait + 1 }) else if (e.hope draw).wins then (e.hope draw).run last lt else ((e.hope draw).all 1 (e.hd.tm + 1) last lt,e.hope draw)) Zmk w:=λ h hw=>by
   rw [if_pos h];exact .nil rfl (Zn.iff.2 ⟨sv,sl,m,hg,hw⟩)
  refine Br.d (λ h=>out (.inl h) hw) (λ h=>Zb.mk rfl ⟨sv,At.own Zf (by exact ⟨rfl,trivial⟩),Zb.mk rfl ⟨_,At.own Zf (by exact ⟨rfl,trivial⟩),?_⟩⟩);refine (Za3 _ hw hg.v).use ?_;clear hw;rintro _ w ⟨rfl,hw⟩;refine ⟨_,rfl,hw,Br.nb (λ h2=>out (.inr h2) hw) (λ h2=>⟨?_,hw⟩)⟩;rintro (h3|h3)
  ·exact h h3
  ·rw [h2] at h3;cases h3
 clear hw;rintro _ w ⟨hc,hw⟩;show Drw w _;dsimp only;rw [if_neg hc];refine Zm hw λ w hw=>Zb.mk rfl ⟨e.pat,At.own Zf (by exact ⟨rfl,trivial⟩),Zb.mk rfl ⟨e.pat,At.own Zf (by exact ⟨rfl,trivial⟩),Nz.mk (by omega) (Zb.mk rfl ?_)⟩⟩;refine Za hw (by kernel_rfl) rfl (by simp [Value.cells,Zc]) λ w hw=>?_;refine Zb.mk rfl ?_;have hm:0<=(if 0>draw then 0 else draw).tmod e.pat/\(if 0>draw then 0 else draw).tmod e.pat<e.pat:=by
  refine ⟨Int.tmod_nonneg _ (by split<;>omega),?_⟩;exact Int.tmod_lt_of_pos _ (by omega)
 rw [Zh (x:=e.pat + _) (by omega) (by omega)];refine Za hw (by kernel_rfl) rfl (by simp [Value.cells,Zc]) λ w hw=>?_;refine Zb.mk rfl ?_;refine Za hw (by kernel_rfl) rfl (by simp [Value.cells,Zc]) λ w hw=>?_;have hw:Sat R (Zn R p { e with wait:=0,lim:=e.pat + (if 0>draw then 0 else draw).tmod e.pat,lead:=0 }::Hs) w:=Zn.iff.2 ⟨sv,sl,m,hg,hw⟩
 refine (ZfW 1 hw).use ?_;clear hw;rintro _ w ⟨rfl,hw⟩;have hw:Sat R (Zn R p (e.hope draw)::Hs) w:=hw;refine ⟨_,rfl,Br.mk (λ h2=>?_) (λ h2=>?_)⟩
 ·rw [if_pos (show (e.hope draw).wins=true from h2)]
  refine (ZiN okh last lt hw).use ?_;rintro _ w ⟨t,rfl,hw⟩;exact ⟨t,rfl,t,rfl,hw⟩
 ·rw [if_neg (by rw [show (e.hope draw).wins=false from h2];simp)]
  obtain ⟨sv,sl,m,hg,hw⟩:=Zn.iff.1 hw;refine Zb.mk rfl ⟨e.hd.tm,At.own (eqS hw) (by exact ⟨rfl,trivial⟩),?_⟩;rw [Zh (by omega) (by omega)];refine (ZhE okh 1 _ last lt (Zn.iff.2 ⟨sv,sl,m,hg,hw⟩)).use ?_;rintro _ w ⟨t,rfl,hw⟩;exact ⟨t,rfl,t,rfl,hw⟩
theorem Zly {sv sl:Sl} {h:Hd} {g:Gp} (id pat:Int) (hn:Zd7 R g sv sl) (hw:Sat R Hs w):
  Zj prog 32 #[.int .i64 id,.agg #[.int .i64 h.tm,.int .i64 h.vt],.agg #[.slice sv.a sv.len sv.cap,.slice sl.a sl.len sl.cap],.int .i64 pat] w λ v w'=>
   (Zko id h g pat=true/\∃ p,v=.tuple #[.pointer (some ⟨p,0,none⟩),.int .i64 0]/\Sat R (Zn R p (Eln.new id h g pat)::Hs) w')\/(Zko id h g pat=false/\v=.tuple #[.pointer none,.int .i64 1]/\Sat R Hs w'):=by
 apply Zqa;unfold Zko;refine Zd hw λ b1 w hw=>Zd hw λ b2 w hw=>?_;refine (ZbP hw).use ?_;clear hw;rintro _ w ⟨rfl,hw⟩;refine ⟨_,rfl,Br.nb (λ h1=>.inr ⟨by rw [h1];rfl,rfl,hw.drop.drop⟩) (λ h1=>⟨_,At.own (eqS hw) (by exact ⟨rfl,trivial⟩),?_⟩)⟩;refine (ZbP hw).use ?_;clear hw;rintro _ w ⟨rfl,hw⟩;refine ⟨_,rfl,Br.nb (λ h2=>.inr ⟨by rw [h1,h2];rfl,rfl,hw.drop.drop⟩) (λ h2=>⟨_,At.own (eqS hw) (by exact ⟨rfl,trivial⟩),?_⟩)⟩;refine (ZbP hw).use ?_;clear hw;rintro _ w ⟨rfl,hw⟩;refine ⟨_,rfl,Br.nb (λ h3=>.inr ⟨by rw [h1,h2,h3];rfl,rfl,hw.drop.drop⟩) (λ h3=>?_)⟩;refine (ZbP hw).use ?_;clear hw;rintro _ w ⟨rfl,hw⟩;refine ⟨_,rfl,Br.nb (λ h4=>.inr ⟨by rw [h1,h2,h3,h4];rfl,rfl,hw.drop.drop⟩) (λ h4=>⟨sv,sl,At.own (eqS hw) (by exact ⟨rfl,rfl,trivial⟩),?_⟩)⟩;refine (ZaA hw hn.v hn.l).use ?_;clear hw;rintro _ w ⟨rfl,hw⟩;refine ⟨_,rfl,Br.nb (λ h5=>.inr ⟨by rw [h1,h2,h3,h4,h5];rfl,rfl,hw.drop.drop⟩) (λ h5=>⟨_,_,At.own (eqS hw) (by exact ⟨rfl,rfl,trivial⟩),sv,sl,At.own (eqS hw) (by exact ⟨rfl,rfl,trivial⟩),?_⟩)⟩;refine Zd hw λ m w hw=>Zd hw λ p w hw=>.inl ⟨by rw [h1,h2,h3,h4,h5];rfl,p,rfl,Zn.iff.2 ⟨sv,sl,m,hn,hw.cons λ _ h=>?_⟩⟩;exact ZI.iff.2 ⟨[],⟨none,0,0⟩,⟨none,0,0⟩,⟨rfl,rfl⟩,Sat.cons (λ _ h=>Own.nil (Own.nil h.drop.drop)) (Zg.new (α:=Bool) rfl h)⟩
end
section
open Go Go.VC Tryz
variable {R R' R1:Cx} {Hs Rest Rest2:List HP} {w:World} {p:Nat} {e:Eln}
theorem ZiL {fr:Int} {y:Bool}:(e.says fr y).g=e.g/\(e.says fr y).role=e.role/\(e.says fr y).hd=e.hd/\(e.says fr y).id=e.id:=by
 unfold Eln.says;split
 ·exact ⟨rfl,rfl,rfl,rfl⟩
 ·split<;>exact ⟨rfl,rfl,rfl,rfl⟩
theorem Zju {fr:Int} {y:Bool} (sv sl:Sl) (m:Nat):Zz (e.says fr y) sv sl m=Zz e sv sl m:=by
 unfold Eln.says;split
 ·rfl
 ·split<;>rfl
theorem ZiM (ok:ZL e) (fr:Int) (y:Bool) (hw:Sat R (Zn R p e::Hs) w):Zj prog 234 #[.pointer (some ⟨p,0,none⟩),.int .i64 fr,.bool y] w λ v w'=>v=.int .i64 (e.says fr y).outc/\Sat R (Zn R p (e.says fr y)::Hs) w':=by
 obtain ⟨sv,sl,m,hg,hw⟩:=Zn.iff.1 hw;apply ZnU;have hl:=ok.len;refine ⟨λ w=>Sat R (pts p (Zz e sv sl m)::ZI m (e.says fr y).yes (e.says fr y).no::Hs) w,?_,?_⟩
 ·obtain ⟨es,sy,sn,⟨h1,h2⟩,hw⟩:=ZI.iff.1 hw.swap
  have hw:Sat R (Zg m es::Own sy 3 (ints e.yes)::Own sn 3 (ints e.no)::pts p (Zz e sv sl m)::Hs) w:=hw;refine ⟨λ b w=>b=!(ZS e.yes fr||ZS e.no fr)/\Sat R (Zg m es::Own sy 3 (ints e.yes)::Own sn 3 (ints e.no)::pts p (Zz e sv sl m)::Hs) w,?_,?_⟩
  ·refine Zb.mk rfl ⟨some m,At.own (eqS hw) (by exact ⟨rfl,trivial⟩),sy,λ w' h=>by subst h;exact Zg.lookS hw true h1,?_⟩
   obtain ⟨R2,hb,_,hw,back⟩:=Own.lendI hw.swap (by omega);refine (Za3 fr hw hb).use ?_;clear hw;rintro _ w ⟨rfl,hw⟩;have hw:=(back hw).swap;clear back;refine ⟨_,rfl,Br.nb (λ h=>Zb.mk rfl ⟨some m,At.own (eqS hw) (by exact ⟨rfl,trivial⟩),sn,λ w' h=>by subst h;exact Zg.lookS hw false h2,?_⟩) (λ h=>⟨by rw [h];rfl,hw⟩)⟩;have hw2:Sat R (Own sn 3 (ints e.no)::Zg m es::Own sy 3 (ints e.yes)::pts p (Zz e sv sl m)::Hs) w:=hw.arr;obtain ⟨R2,hb,_,hw,back⟩:=Own.lendI hw2 (by omega);refine (Za3 fr hw hb).use ?_;clear hw;rintro _ w ⟨rfl,hw⟩;have hw:=back hw;exact ⟨_,rfl,by rw [h,Bool.false_or],hw.arr⟩
  clear hw;rintro _ _ w ⟨rfl,hw⟩;refine Br.nb (λ h=>?_) (λ h=>?_)
  ·have es1:e.says fr y=if y then { e with yes:=e.yes++[fr] } else { e with no:=e.no++[fr] }:=by unfold Eln.says;rw [if_neg (by rw [h];simp)]
   refine Zi (Sat R [Zg m es,pts p (Zz e sv sl m),VC.tru]) hw (λ w hw=>hw.k2) λ w hw=>Zb.mk rfl ⟨some m,At.own Zf (by exact ⟨rfl,trivial⟩),Zb.mk rfl ⟨some m,At.own Zf (by exact ⟨rfl,trivial⟩),?_⟩⟩;cases y with
   |true=>
    rw [if_pos rfl] at es1;refine ⟨sy,λ w' h=>Zg.lookS h true h1,Zd hw λ b w hw=>⟨hw.k2,?_⟩⟩;have hw:=ZbR hw;have hw:=hw.re (Own ⟨some ⟨b,0,none⟩,1,1⟩ 3 (ints [fr]));have hw:Sat R (Own sy 3 (ints e.yes)::Own ⟨some ⟨b,0,none⟩,1,1⟩ 3 (ints [fr])::Zg m es::Own sn 3 (ints e.no)::pts p (Zz e sv sl m)::Hs) w:=hw.arr;refine Zee (s:=sy) (t:=⟨some ⟨b,0,none⟩,1,1⟩) (k:=.i64) (n:=16) Zcj underlying30 hw (by simp;omega) (by omega) (by omega) λ s' w hw=>⟨hw.k2,?_⟩;have hw:Sat R (Zg m es::Own ⟨some ⟨b,0,none⟩,1,1⟩ 3 (ints [fr])::Own s' 3 (ints (e.yes++[fr]))::Own sn 3 (ints e.no)::pts p (Zz e sv sl m)::Hs) w:=hw.arr;refine Zg.put Zpa hw true _ λ w hw=>?_;rw [es1];have hw:=hw.swap.drop;have hw:Sat R (ZI m (e.yes++[fr]) e.no::pts p (Zz e sv sl m)::Hs) w:=ZI.iff.2 ⟨_,s',sn,⟨by rw [ZcA,if_pos (by rfl)];rfl,by rw [ZcA,if_neg (by decide)];exact h2⟩,hw⟩;exact hw.swap
   |false=>
    rw [if_neg (by decide)] at es1;refine ⟨sn,λ w' h=>Zg.lookS h false h2,Zd hw λ b w hw=>⟨hw.k2,?_⟩⟩;have hw:=ZbR hw;have hw:=hw.re (Own ⟨some ⟨b,0,none⟩,1,1⟩ 3 (ints [fr]));have hw:Sat R (Own sn 3 (ints e.no)::Own ⟨some ⟨b,0,none⟩,1,1⟩ 3 (ints [fr])::Zg m es::Own sy 3 (ints e.yes)::pts p (Zz e sv sl m)::Hs) w:=hw.arr;refine Zee (s:=sn) (t:=⟨some ⟨b,0,none⟩,1,1⟩) (k:=.i64) (n:=16) Zcj underlying30 hw (by simp;omega) (by omega) (by omega) λ s' w hw=>⟨hw.k2,?_⟩;have hw:Sat R (Zg m es::Own ⟨some ⟨b,0,none⟩,1,1⟩ 3 (ints [fr])::Own sy 3 (ints e.yes)::Own s' 3 (ints (e.no++[fr]))::pts p (Zz e sv sl m)::Hs) w:=hw.arr;refine Zg.put Zpa hw false _ λ w hw=>?_;rw [es1];have hw:=hw.swap.drop;have hw:Sat R (ZI m e.yes (e.no++[fr])::pts p (Zz e sv sl m)::Hs) w:=ZI.iff.2 ⟨_,sy,s',⟨by rw [ZcA,if_neg (by decide)];exact h1,by rw [ZcA,if_pos (by rfl)];rfl⟩,hw⟩;exact hw.swap
  ·have es1:e.says fr y=e:=by unfold Eln.says;rw [if_pos h]
   rw [es1];have hw:Sat R (ZI m e.yes e.no::pts p (Zz e sv sl m)::Hs) w:=ZI.iff.2 ⟨es,sy,sn,⟨h1,h2⟩,hw⟩;exact hw.swap
 clear hw;rintro _ w hw;obtain ⟨yes,hy⟩:∃ yes,yes=(e.says fr y).yes:=⟨_,rfl⟩;obtain ⟨no,hn⟩:∃ no,no=(e.says fr y).no:=⟨_,rfl⟩;have fin:∀ {w},Sat R (pts p (Zz e sv sl m)::ZI m yes no::Hs) w->Sat R (Zn R p (e.says fr y)::Hs) w:=λ hw=>by
  refine Zn.iff.2 ⟨sv,sl,m,by rw [ZiL.1];exact hg,?_⟩;rw [Zju,<-hy,<-hn];exact hw
 have hout:(e.says fr y).outc=if ZaE e.g.vs e.g.ls yes then 1 else if Zk6 e.g.vs e.g.ls no then 2 else 0:=by
  unfold Eln.outc Eln.wins Eln.lost;rw [ZiL.1,<-hy,<-hn]
 rw [<-hy,<-hn] at hw;rw [hout];have hly:yes.length<=16/\no.length<=16:=by
  rw [hy,hn];unfold Eln.says;split
  ·omega
  ·split<;>simp<;>omega
 obtain ⟨es,sy,sn,⟨h1,h2⟩,hw⟩:=ZI.iff.1 hw.swap;have hw:Sat R (Zg m es::Own sy 3 (ints yes)::Own sn 3 (ints no)::pts p (Zz e sv sl m)::Hs) w:=hw;have fin2:∀ {w},Sat R (Zg m es::Own sy 3 (ints yes)::Own sn 3 (ints no)::pts p (Zz e sv sl m)::Hs) w->Sat R (Zn R p (e.says fr y)::Hs) w:=λ hw=>by
  have hw:Sat R (ZI m yes no::pts p (Zz e sv sl m)::Hs) _:=ZI.iff.2 ⟨es,sy,sn,⟨h1,h2⟩,hw⟩;exact fin hw.swap
 refine Zi (Sat R [Zg m es,pts p (Zz e sv sl m),VC.tru]) hw (λ w hw=>hw.k2) λ w hw=>Zb.mk rfl ⟨sv,sl,At.own Zf (by exact ⟨rfl,rfl,trivial⟩),Zb.mk rfl ⟨some m,At.own Zf (by exact ⟨rfl,trivial⟩),sy,λ w' h=>Zg.lookS h true h1,?_⟩⟩;obtain ⟨R2,hb,keep,hw,back⟩:=Own.lendI hw.swap (by omega);refine (Zdb hw (keep _ _ hg.v) (keep _ _ hg.l) hb).use ?_;clear hw;rintro _ w ⟨rfl,hw⟩;have hw:=(back hw).swap;clear back keep;refine ⟨_,rfl,hw.k2,Br.mk (λ h=>⟨by rw [h];rfl,fin2 hw⟩) λ h=>?_⟩;rw [if_neg (by rw [h];simp)];refine Zi (Sat R [Zg m es,pts p (Zz e sv sl m),VC.tru]) hw (λ w hw=>hw.k2) λ w hw=>Zb.mk rfl ⟨sv,sl,At.own Zf (by exact ⟨rfl,rfl,trivial⟩),Zb.mk rfl ⟨some m,At.own Zf (by exact ⟨rfl,trivial⟩),sn,λ w' h=>Zg.lookS h false h2,?_⟩⟩;have hw2:Sat R (Own sn 3 (ints no)::Zg m es::Own sy 3 (ints yes)::pts p (Zz e sv sl m)::Hs) w:=hw.arr;obtain ⟨R2,hb,keep,hw,back⟩:=Own.lendI hw2 (by omega);refine (Zk5 hw (keep _ _ hg.v) (keep _ _ hg.l) hb).use ?_;clear hw;rintro _ w ⟨rfl,hw⟩;have hw3:=back hw;have hw:Sat R (Zg m es::Own sy 3 (ints yes)::Own sn 3 (ints no)::pts p (Zz e sv sl m)::Hs) w:=hw3.arr;exact ⟨_,rfl,hw.k2,Br.mk (λ h=>⟨by rw [h];rfl,fin2 hw⟩) λ h=>⟨by rw [h];rfl,fin2 hw⟩⟩
theorem ZdY (ok:ZL e) (o last lt:Int) (hw:Sat R (Zn R p e::Hs) w):Zj prog 233 #[.pointer (some ⟨p,0,none⟩),.int .i64 o,.int .i64 last,.int .i64 lt] w (BlQ R Hs p (e.counted o last lt)):=by
 obtain ⟨C,hC⟩:∃ C,C=e.counted o last lt:=⟨_,rfl⟩;rw [<-hC];unfold Eln.counted at hC;apply ZnV;refine Br.e (λ h=>?_) (λ h=>?_)
 ·obtain ⟨sv,sl,m,hg,hw⟩:=Zn.iff.1 hw
  refine Zb.mk rfl ?_;refine Za hw (by kernel_rfl) rfl (by simp [Value.cells,Zc]) λ w hw=>?_;rw [if_pos (by simpa using h)] at hC;exact BlQ.nil hC (Zn.iff.2 ⟨sv,sl,m,hg,hw⟩)
 rw [if_neg (by simpa using h)] at hC;refine ⟨λ b w=>b=(o==1 && e.role==1)/\Sat R (Zn R p e::Hs) w,?_,?_⟩
 ·refine Br.e (λ h=>?_) (λ h=>⟨by rw [show (o==1)=false by simpa using h];rfl,hw⟩)
  obtain ⟨sv,sl,m,hg,hw⟩:=Zn.iff.1 hw;exact Zb.mk rfl ⟨e.role,At.own (eqS hw) (by exact ⟨rfl,trivial⟩),by rw [show (o==1)=true by simpa using h];rfl,Zn.iff.2 ⟨sv,sl,m,hg,hw⟩⟩
 clear hw;rintro _ _ w ⟨rfl,hw⟩;refine Br.mk (λ h2=>?_) (λ h2=>?_)
 ·rw [if_pos h2] at hC
  refine (ZiN ok last lt hw).use ?_;rintro _ w ⟨t,rfl,hw⟩;rw [hC];exact ⟨t,rfl,t,rfl,hw⟩
 rw [if_neg (by rw [h2];simp)] at hC;refine Br.e (λ h3=>?_) (λ h3=>?_)
 ·rw [if_pos (by simpa using h3)] at hC
  obtain ⟨sv,sl,m,hg,hw⟩:=Zn.iff.1 hw;refine Zb.mk rfl ⟨e.id,At.own (eqS hw) (by exact ⟨rfl,trivial⟩),Zb.mk rfl ?_⟩;refine Za hw (by kernel_rfl) rfl (by simp [Value.cells,Zc]) λ w hw=>?_;refine Zb.mk rfl ?_;refine Za hw (by kernel_rfl) rfl (by simp [Value.cells,Zc]) λ w hw=>?_;exact BlQ.nil hC (Zn.iff.2 ⟨sv,sl,m,hg,hw⟩)
 ·rw [if_neg (by simpa using h3)] at hC
  exact BlQ.nil hC hw
theorem Zks {b:Bl} (old:Bool) (hw:Sat R (Zn R p e::Hs) w):Zj prog 232 #[.pointer (some ⟨p,0,none⟩),ZmC b,.bool old] w λ v w'=>v=.bool (e.mayVote b old)/\Sat R (Zn R p (e.vote b old)::Hs) w':=by
 obtain ⟨sv,sl,m,hg,hw⟩:=Zn.iff.1 hw;apply ZnW;refine Zd hw λ q w hw=>?_;obtain ⟨C,hC⟩:∃ C,C=e.mayVote b old:=⟨_,rfl⟩;have ev:e.vote b old=if C then { e with hd:=⟨e.hd.tm,b.fr⟩,wait:=0,role:=if e.role==1 then 0 else e.role } else e:=by rw [hC];rfl
 rw [<-hC,ev];unfold Eln.mayVote at hC;have no:∀ {w},C=false->Sat R (pts q (.cells (Zc8 b).toArray 161 (0,0))::pts p (Zz e sv sl m)::ZI m e.yes e.no::Hs) w->Value.bool false=.bool C/\Sat R (Zn R p (if C then { e with hd:=⟨e.hd.tm,b.fr⟩,wait:=0,role:=if e.role==1 then 0 else e.role } else e)::Hs) w:=λ h hw=>by
  rw [h,if_neg (by simp)];exact ⟨rfl,Zn.iff.2 ⟨sv,sl,m,hg,hw.drop⟩⟩
 have hw:Sat R (pts q (.cells (Zc8 b).toArray 161 (0,0))::pts p (Zz e sv sl m)::ZI m e.yes e.no::Hs) w:=hw;refine ⟨λ w=>C=true/\Sat R (pts q (.cells (Zc8 b).toArray 161 (0,0))::pts p (Zz e sv sl m)::ZI m e.yes e.no::Hs) w,?_,?_⟩
 ·refine Zm hw λ w hw=>⟨b.tm,At.own Zf (by exact ⟨rfl,trivial⟩),Zb.mk rfl ⟨e.hd.tm,At.own Zf (by exact ⟨rfl,trivial⟩),Br.ne (λ h=>no (by rw [hC,show (b.tm !=e.hd.tm)=true by simpa using h];rfl) hw) λ h=>Zb.mk rfl ⟨e.hd.vt,At.own Zf (by exact ⟨rfl,trivial⟩),?_⟩⟩⟩
  rw [show (b.tm !=e.hd.tm)=false by simpa using h] at hC;refine Br.ne (λ h2=>Zb.mk rfl ⟨e.hd.vt,At.own Zf (by exact ⟨rfl,trivial⟩),b.fr,At.own Zf (by exact ⟨rfl,trivial⟩),Br.ne (λ h3=>no (by rw [hC,show (e.hd.vt !=0)=true by simpa using h2,show (e.hd.vt !=b.fr)=true by simpa using h3];rfl) hw) λ h3=>?_⟩) λ h2=>?_
  ·rw [show (e.hd.vt !=b.fr)=false by simpa using h3,Bool.and_false] at hC
   exact Br.nb (λ h4=>no (by rw [hC,h4];rfl) hw) λ h4=>⟨by rw [hC,h4];rfl,hw⟩
  ·rw [show (e.hd.vt !=0)=false by simpa using h2,Bool.false_and] at hC
   exact Br.nb (λ h4=>no (by rw [hC,h4];rfl) hw) λ h4=>⟨by rw [hC,h4];rfl,hw⟩
 clear hw;rintro _ w ⟨hc,hw⟩;rw [hc,if_pos rfl];have hw:=hw.swap;refine ⟨b.fr,At.own (eqS hw) (by exact ⟨rfl,trivial⟩),Zb.mk rfl ?_⟩;refine Za hw (by kernel_rfl) rfl (by simp [Value.cells,Zc]) λ w hw=>?_;refine Zb.mk rfl ?_;refine Za hw (by kernel_rfl) rfl (by simp [Value.cells,Zc]) λ w hw=>?_;have hw:=hw.re (pts p (Zz { e with hd:=⟨e.hd.tm,b.fr⟩,wait:=0 } sv sl m));refine Zb.mk rfl ⟨e.role,At.own (eqS hw) (by exact ⟨rfl,trivial⟩),Br.e (λ h=>Zb.mk rfl ?_) λ h=>?_⟩
 ·refine Za hw (by kernel_rfl) rfl (by simp [Value.cells,Zc]) λ w hw=>?_
  rw [if_pos (by simpa using h)];exact ⟨rfl,Zn.iff.2 ⟨sv,sl,m,hg,hw.swap.drop⟩⟩
 ·rw [if_neg (by simpa using h)]
  exact ⟨rfl,Zn.iff.2 ⟨sv,sl,m,hg,hw.swap.drop⟩⟩
theorem Zc9 {b:Bl} (kd t:Int) (y:Bool) (hw:Sat R (Zn R p e::Hs) w):Zj prog 230 #[.pointer (some ⟨p,0,none⟩),ZmC b,.int .i64 kd,.int .i64 t,.bool y] w (BlQ R Hs p (e.ans b kd t y,e)):=by
 obtain ⟨sv,sl,m,hg,hw⟩:=Zn.iff.1 hw;apply ZnY;refine Zd hw λ q w hw=>Zi (Sat R [pts q (.cells (Zc8 b).toArray 161 (0,0)),pts p (Zz e sv sl m),VC.tru]) hw (λ w hw=>hw.k2) λ w hw=>Zb.mk rfl ⟨e.id,At.own Zf (by exact ⟨rfl,trivial⟩),b.fr,At.own Zf (by exact ⟨rfl,trivial⟩),Zd hw λ c w hw=>⟨hw.k2,?_⟩⟩;refine ⟨⟨some ⟨c,0,none⟩,1,1⟩,rfl,?_⟩;have hw:Sat R (pts c (.cells (Zc8 ⟨kd,e.id,b.fr,t,0,0,y⟩).toArray 161 (0,0))::pts q (.cells (Zc8 b).toArray 161 (0,0))::pts p (Zz e sv sl m)::ZI m e.yes e.no::Hs) w:=hw;have hw:Sat R (BlO ⟨some ⟨c,0,none⟩,1,1⟩ [⟨kd,e.id,b.fr,t,0,0,y⟩]::pts q (.cells (Zc8 b).toArray 161 (0,0))::pts p (Zz e sv sl m)::ZI m e.yes e.no::Hs) w:=
  OwnN.of_pts (n:=7) (cap:=1) (rest:=[]) (rows:=[Zc8 ⟨kd,e.id,b.fr,t,0,0,y⟩]) (Wid.one rfl) rfl hw
 exact hw.cons λ _ h=>Zn.iff.2 ⟨sv,sl,m,hg,h.drop⟩
theorem ZjV (fr t:Int) (hw:Sat R (Zn R p e::Hs) w):Zj prog 186 #[.pointer (some ⟨p,0,none⟩),.int .i64 fr,.int .i64 t] w λ v w'=>v=.bool (e.heardOk fr t)/\Sat R (Zn R p (e.heard fr t)::Hs) w':=by
 apply Zoc;obtain ⟨C,hC⟩:∃ C,C=e.heardOk fr t:=⟨_,rfl⟩;have ev:e.heard fr t=if C then { (if t>e.hd.tm then e.down t else e) with role:=0,lead:=fr,wait:=0 } else e:=by rw [hC];rfl
 rw [<-hC,ev];unfold Eln.heardOk at hC;have no:∀ {w},C=false->Sat R (Zn R p e::Hs) w->Value.bool false=.bool C/\Sat R (Zn R p (if C then { (if t>e.hd.tm then e.down t else e) with role:=0,lead:=fr,wait:=0 } else e)::Hs) w:=λ h hw=>by
  rw [h,if_neg (by simp)];exact ⟨rfl,hw⟩
 refine ⟨λ w=>C=true/\Sat R (Zn R p e::Hs) w,?_,?_⟩
 ·refine (Zim fr hw).use ?_
  clear hw;rintro _ w ⟨rfl,hw⟩;refine ⟨_,rfl,Br.nb (λ h=>no (by rw [hC,h];rfl) hw) λ h=>?_⟩;obtain ⟨sv,sl,m,hg,hw⟩:=Zn.iff.1 hw;have hw':=Zn.iff.2 ⟨sv,sl,m,hg,hw⟩;refine Zb.mk rfl ⟨e.hd.tm,At.own (eqS hw) (by exact ⟨rfl,trivial⟩),Br.d (λ h2=>no (by rw [hC,h,decide_eq_true h2];rfl) hw') λ h2=>Br.d (λ h3=>no (by rw [hC,h,decide_eq_false h2,decide_eq_true h3];rfl) hw') λ h3=>Zb.mk rfl ⟨e.hd.tm,At.own (eqS hw) (by exact ⟨rfl,trivial⟩),Br.e (λ h4=>Zb.mk rfl ⟨e.role,At.own (eqS hw) (by exact ⟨rfl,trivial⟩),Br.e (λ h5=>no ?_ hw') λ h5=>⟨?_,hw'⟩⟩) λ h4=>⟨?_,hw'⟩⟩⟩
  ·rw [hC,h,decide_eq_false h2,decide_eq_false h3,show (t==e.hd.tm)=true by simpa using h4,show (e.role==3)=true by simpa using h5];rfl
  ·rw [hC,h,decide_eq_false h2,decide_eq_false h3,show (t==e.hd.tm)=true by simpa using h4,show (e.role==3)=false by simpa using h5];rfl
  ·rw [hC,h,decide_eq_false h2,decide_eq_false h3,show (t==e.hd.tm)=false by simpa using h4];rfl
 clear hw;rintro _ w ⟨hc,hw⟩;rw [hc,if_pos rfl];refine ⟨λ w=>Sat R (Zn R p (if t>e.hd.tm then e.down t else e)::Hs) w,?_,?_⟩
 ·obtain ⟨sv,sl,m,hg,hw⟩:=Zn.iff.1 hw
  refine Zb.mk rfl ⟨e.hd.tm,At.own (eqS hw) (by exact ⟨rfl,trivial⟩),Br.d (λ h=>?_) λ h=>by rw [if_neg h];exact Zn.iff.2 ⟨sv,sl,m,hg,hw⟩⟩;refine (Zdm t (Zn.iff.2 ⟨sv,sl,m,hg,hw⟩)).use ?_;rintro _ w ⟨rfl,hw⟩;rw [if_pos h];exact ⟨rfl,hw⟩
 clear hw;rintro _ w hw;obtain ⟨e1,he1⟩:∃ e1,e1=if t>e.hd.tm then e.down t else e:=⟨_,rfl⟩
 rw [<-he1] at hw ⊢;obtain ⟨sv,sl,m,hg,hw⟩:=Zn.iff.1 hw;refine Zb.mk rfl ?_;refine Za hw (by kernel_rfl) rfl (by simp [Value.cells,Zc]) λ w hw=>?_;refine Zb.mk rfl ?_;refine Za hw (by kernel_rfl) rfl (by simp [Value.cells,Zc]) λ w hw=>?_;refine Zb.mk rfl ?_;refine Za hw (by kernel_rfl) rfl (by simp [Value.cells,Zc]) λ w hw=>?_;exact ⟨rfl,Zn.iff.2 ⟨sv,sl,m,hg,hw⟩⟩
end
section
open Go Go.VC Tryz
variable {R R' R1:Cx} {Hs Rest Rest2:List HP} {w:World} {p:Nat} {e:Eln}
abbrev blC (b:Bl):Obj:=.cells (Zc8 b).toArray 161 (0,0)
theorem ZiD {b:Bl} {old:Bool}:(e.vote b old).hd.tm=e.hd.tm/\(e.vote b old).id=e.id/\(e.vote b old).g=e.g:=by
 unfold Eln.vote;split<;>exact ⟨rfl,rfl,rfl⟩
theorem BlQ.drop2 {A:HP} {r:List Bl × Eln} {v:Value} (h:BlQ R (A::Hs) p r v w):BlQ R Hs p r v w:=by
 obtain ⟨t,h1,hw⟩:=h;exact ⟨t,h1,hw.cons λ _ h=>h.cons λ _ h=>h.drop⟩
set_option maxRecDepth 20000 in
theorem Zj2 (ok:ZL e) {b:Bl} (last lt:Int) (hw:Sat R (Zn R p e::Hs) w):Zj prog 185 #[.pointer (some ⟨p,0,none⟩),ZmC b,.int .i64 last,.int .i64 lt] w (BlQ R Hs p (e.take b last lt)):=by
 apply Zod;refine Zd hw λ q w hw=>?_;have hw:Sat R (Zn R p e::pts q (blC b)::Hs) w:=hw.swap;obtain ⟨T,hT⟩:∃ T,T=e.take b last lt:=⟨_,rfl⟩;rw [<-hT];unfold Eln.take at hT;have h0:=ok.t0;have h1:=ok.t1;have no:∀ {w},T=([],e)->Sat R (Zn R p e::pts q (blC b)::Hs) w->BlQ R Hs p T Zmk w:=λ h hw=>(BlQ.nil h hw).drop2;refine ⟨λ w=>e.takeOk b=true/\Sat R (Zn R p e::pts q (blC b)::Hs) w,?_,?_⟩
 ·obtain ⟨C,hC⟩:∃ C,C=e.takeOk b:=⟨_,rfl⟩
  rw [<-hC];unfold Eln.takeOk at hC;have no2:C=false->T=([],e):=λ h=>by rw [hT,if_neg];rw [show e.takeOk b=C by rw [hC];rfl,h];simp
  obtain ⟨sv,sl,m,hg,hw⟩:=Zn.iff.1 hw;have cl:∀ {w},Sat R (pts p (Zz e sv sl m)::ZI m e.yes e.no::pts q (blC b)::Hs) w->Sat R (Zn R p e::pts q (blC b)::Hs) w:=λ hw=>Zn.iff.2 ⟨sv,sl,m,hg,hw⟩;refine Zm hw λ w hw=>⟨b.to',At.own Zf (by exact ⟨rfl,trivial⟩),Zb.mk rfl ⟨e.id,At.own Zf (by exact ⟨rfl,trivial⟩),Br.ne (λ h=>no (no2 (by rw [hC,show (b.to' !=e.id)=true by simpa using h];rfl)) (cl hw)) λ h=>⟨b.fr,At.own Zf (by exact ⟨rfl,trivial⟩),?_⟩⟩⟩;rw [show (b.to' !=e.id)=false by simpa using h] at hC;refine (Zfx b.fr hw).use ?_;clear hw;rintro _ w ⟨rfl,hw⟩;refine ⟨_,rfl,hw,Br.nb (λ h2=>no (no2 (by rw [hC,h2];rfl)) (cl hw)) λ h2=>⟨b.tm,At.own Zf (by exact ⟨rfl,trivial⟩),Br.d (λ h3=>no (no2 (by rw [hC,h2,decide_eq_true h3];rfl)) (cl hw)) λ h3=>⟨b.tm,At.own Zf (by exact ⟨rfl,trivial⟩),Br.d (λ h4=>no (no2 (by rw [hC,h2,decide_eq_false h3,decide_eq_true h4];rfl)) (cl hw)) λ h4=>⟨by rw [hC,h2,decide_eq_false h3,decide_eq_false h4];rfl,cl hw⟩⟩⟩⟩
 clear hw;rintro _ w ⟨hto,hw⟩;rw [if_pos hto] at hT;have hto':=hto;unfold Eln.takeOk at hto';simp only [Bool.and_eq_true,Bool.not_eq_true',decide_eq_false_iff_not] at hto';have ho:=Eln.other_bd hto'.1.1.2;have oks:=ok.says ho.1 ho.2.1 b.yes;obtain ⟨sv,sl,m,hg,hw⟩:=Zn.iff.1 hw;have cl:∀ {w},Sat R (pts p (Zz e sv sl m)::ZI m e.yes e.no::pts q (blC b)::Hs) w->Sat R (Zn R p e::pts q (blC b)::Hs) w:=λ hw=>Zn.iff.2 ⟨sv,sl,m,hg,hw⟩;dsimp only at hT;refine Zm hw λ w hw=>⟨b.tm,At.own Zf (by exact ⟨rfl,trivial⟩),Zb.mk rfl ⟨e.hd.tm,At.own Zf (by exact ⟨rfl,trivial⟩),λ o w=>o=ZiU b last lt/\Sat R (pts p (Zz e sv sl m)::ZI m e.yes e.no::pts q (blC b)::Hs) w,?_,?_⟩⟩
 ·unfold ZiU
  refine ⟨b.lt,At.own (eqS hw) (by exact ⟨rfl,trivial⟩),Br.d (λ h=>⟨by rw [decide_eq_true h];rfl,hw⟩) λ h=>⟨b.lt,At.own (eqS hw) (by exact ⟨rfl,trivial⟩),Br.e (λ h2=>⟨b.ix,At.own (eqS hw) (by exact ⟨rfl,trivial⟩),by rw [decide_eq_false h,show (b.lt==lt)=true by simpa using h2];rfl,hw⟩) λ h2=>⟨by rw [decide_eq_false h,show (b.lt==lt)=false by simpa using h2];rfl,hw⟩⟩⟩
 clear hw;rintro _ _ w ⟨rfl,hw⟩;refine ⟨b.kd,At.own (eqS hw) (by exact ⟨rfl,trivial⟩),Br.e (λ hk=>?_) (λ hk=>?_)⟩
 ·rw [if_pos (by simpa using hk)] at hT
  refine Zm hw λ w hw=>?_;by_cases hc:(decide (b.tm>e.hd.tm) && ZiU b last lt && (e.lead==0||decide (e.wait >= e.pat)))=true
  ·rw [if_pos hc] at hT
   simp only [Bool.and_eq_true,Bool.or_eq_true] at hc;obtain ⟨⟨c1,c2⟩,c3⟩:=hc;refine Br.t c1 (Br.t c2 (Zb.mk rfl ⟨e.lead,At.own Zf (by exact ⟨rfl,trivial⟩),Br.mk (λ h4=>?_) (λ h4=>Zb.mk rfl ⟨e.wait,At.own Zf (by exact ⟨rfl,trivial⟩),Zb.mk rfl ⟨e.pat,At.own Zf (by exact ⟨rfl,trivial⟩),Br.t (c3.resolve_left (by rw [h4];simp)) ?_⟩⟩)⟩))
   all_goals
    refine ⟨_,_,_,_,_,_,_,At.own (eqS hw) (by exact ⟨rfl,rfl,rfl,rfl,rfl,rfl,rfl,trivial⟩),b.tm,At.own (eqS hw) (by exact ⟨rfl,trivial⟩),?_⟩;refine (Zc9 (b:=b) 2 b.tm true (cl hw)).use ?_;rintro _ w h;rw [<-hT] at h;obtain ⟨t,e9,h9⟩:=h.drop2;subst e9;exact ⟨t,rfl,t,rfl,h9⟩
  ·rw [if_neg hc] at hT
   refine Br.mk (λ h1=>Br.mk (λ h2=>Zb.mk rfl ⟨e.lead,At.own Zf (by exact ⟨rfl,trivial⟩),Br.mk (λ h3=>absurd (by rw [h1,h2,h3];rfl) hc) (λ h3=>Zb.mk rfl ⟨e.wait,At.own Zf (by exact ⟨rfl,trivial⟩),Zb.mk rfl ⟨e.pat,At.own Zf (by exact ⟨rfl,trivial⟩),Br.mk (λ h4=>absurd (by rw [h1,h2,h3,h4];rfl) hc) (λ h4=>?_)⟩⟩)⟩) (λ h2=>?_)) (λ h1=>?_)
   all_goals
    refine Zm hw λ w hw=>⟨_,_,_,_,_,_,_,At.own Zf (by exact ⟨rfl,rfl,rfl,rfl,rfl,rfl,rfl,trivial⟩),Zb.mk rfl ⟨e.hd.tm,At.own Zf (by exact ⟨rfl,trivial⟩),?_⟩⟩;refine (Zc9 (b:=b) 2 e.hd.tm false (cl hw)).use ?_;rintro _ w h;rw [<-hT] at h;obtain ⟨t,e9,h9⟩:=h.drop2;subst e9;exact ⟨t,rfl,t,rfl,h9⟩
 rw [if_neg (by simpa using hk)] at hT;refine Br.e (λ hk2=>?_) (λ hk2=>?_)
 ·rw [if_pos (by simpa using hk2)] at hT
  obtain ⟨e1,he1⟩:∃ e1,e1=if decide (b.tm>e.hd.tm)=true then e.down b.tm else e:=⟨_,rfl⟩
  rw [<-he1] at hT;refine ⟨λ w=>Sat R (Zn R p e1::pts q (blC b)::Hs) w,?_,?_⟩
  ·refine Br.mk (λ h=>⟨b.tm,At.own (eqS hw) (by exact ⟨rfl,trivial⟩),?_⟩) λ h=>by rw [he1,if_neg (by rw [h];simp)];exact cl hw
   refine (Zdm b.tm (cl hw)).use ?_;rintro _ w ⟨rfl,hw⟩;rw [he1,if_pos h];exact ⟨rfl,hw⟩
  clear hw;rintro _ w hw;obtain ⟨sv,sl,m,hg,hw⟩:=Zn.iff.1 hw;have kk:∀ {e2:Eln} {w},e2.hd.tm=e1.hd.tm->Sat R (Zn R p e2::pts q (blC b)::Hs) w->∃ x:{e2:Eln // e2.hd.tm=e1.hd.tm} × Sl × Sl × Nat,Sat R [pts p (Zz x.1.1 x.2.1 x.2.2.1 x.2.2.2),pts q (blC b),VC.tru] w:=λ {e2 w} h hw=>by
   obtain ⟨sv,sl,m,hg,hw⟩:=Zn.iff.1 hw;exact ⟨(⟨e2,h⟩,sv,sl,m),hw.k2⟩
  have hw:=Zn.iff.2 ⟨sv,sl,m,hg,hw⟩;refine Zi (λ w=>∃ x:{e2:Eln // e2.hd.tm=e1.hd.tm} × Sl × Sl × Nat,Sat R [pts p (Zz x.1.1 x.2.1 x.2.2.1 x.2.2.2),pts q (blC b),VC.tru] w) hw (λ w hw=>kk rfl hw) λ w hw=>?_;refine ⟨_,_,_,_,_,_,_,At.ex λ x=>At.own Zf (by exact ⟨rfl,rfl,rfl,rfl,rfl,rfl,rfl,trivial⟩),Zb.mk rfl ⟨e1.hd.tm,At.ex λ x=>At.own Zf (by exact ⟨congrArg (Value.int .i64) x.1.2.symm,trivial⟩),_,_,_,_,_,_,_,At.ex λ x=>At.own Zf (by exact ⟨rfl,rfl,rfl,rfl,rfl,rfl,rfl,trivial⟩),?_⟩⟩;refine (Zks (b:=b) (ZiU b last lt) hw).use ?_;clear hw;rintro _ w ⟨rfl,hw⟩;refine ⟨_,rfl,kk ZiD.1 hw,?_⟩;refine (Zc9 (b:=b) 4 e1.hd.tm (e1.mayVote b (ZiU b last lt)) hw).use ?_;clear hw;rintro _ w ⟨t,rfl,hw⟩;refine ⟨t,rfl,kk ZiD.1 hw.drop,t,rfl,?_⟩;rw [hT];have:(e1.vote b (ZiU b last lt)).ans b 4 e1.hd.tm (e1.mayVote b (ZiU b last lt))=e1.ans b 4 e1.hd.tm (e1.mayVote b (ZiU b last lt)):=by unfold Eln.ans;rw [ZiD.2.1]
  rw [<-this];exact hw.cons λ _ h=>h.cons λ _ h=>h.drop
 rw [if_neg (by simpa using hk2)] at hT;refine Br.e (λ hk3=>?_) (λ hk3=>?_)
 ·rw [if_pos (by simpa using hk3)] at hT
  refine ⟨λ c w=>c=(decide (b.tm>e.hd.tm) && !b.yes)/\Sat R (pts p (Zz e sv sl m)::ZI m e.yes e.no::pts q (blC b)::Hs) w,?_,?_⟩
  ·exact Br.mk (λ h=>⟨b.yes,At.own (eqS hw) (by exact ⟨rfl,trivial⟩),by rw [h];rfl,hw⟩) λ h=>⟨by rw [h];rfl,hw⟩
  clear hw;rintro _ _ w ⟨rfl,hw⟩;refine Br.mk (λ h=>⟨b.tm,At.own (eqS hw) (by exact ⟨rfl,trivial⟩),?_⟩) λ h=>?_
  ·rw [if_pos h] at hT
   refine (Zdm b.tm (cl hw)).use ?_;rintro _ w ⟨rfl,hw⟩;exact ⟨rfl,(BlQ.nil hT hw).drop2⟩
  rw [if_neg (by rw [h];simp)] at hT;refine Zm hw λ w hw=>Zb.mk rfl ⟨e.role,At.own Zf (by exact ⟨rfl,trivial⟩),Br.e (λ h2=>⟨b.yes,At.own Zf (by exact ⟨rfl,trivial⟩),?_⟩) λ h2=>no (by rw [hT,if_neg (by simp [h2])]) (cl hw)⟩;by_cases hc:(!b.yes||b.tm==e.hd.tm + 1)=true
  ·rw [if_pos (by rw [hc,show (e.role==1)=true by simpa using h2];rfl)] at hT
   refine Br.mk (λ h3=>?_) λ h3=>⟨b.tm,At.own Zf (by exact ⟨rfl,trivial⟩),Zb.mk rfl ⟨e.hd.tm,At.own Zf (by exact ⟨rfl,trivial⟩),Br.t (by rw [Zh (by omega) (by omega)];simpa [h3] using hc) ?_⟩⟩
   all_goals
    refine ⟨b.fr,At.own (eqS hw) (by exact ⟨rfl,trivial⟩),b.yes,At.own (eqS hw) (by exact ⟨rfl,trivial⟩),?_⟩;refine (ZiM ok b.fr b.yes (cl hw)).use ?_;clear hw;rintro _ w ⟨rfl,hw⟩;refine ⟨_,rfl,?_⟩;refine (ZdY oks _ last lt hw).use ?_;clear hw;rintro _ w h;rw [<-hT] at h;obtain ⟨t,e9,h9⟩:=h.drop2;subst e9;exact ⟨t,rfl,t,rfl,h9⟩
  ·rw [if_neg (by rw [Bool.and_eq_true];exact λ h=>hc h.2)] at hT
   refine Br.f (by cases hb:b.yes<;>simp [hb] at hc ⊢) ⟨b.tm,At.own Zf (by exact ⟨rfl,trivial⟩),Zb.mk rfl ⟨e.hd.tm,At.own Zf (by exact ⟨rfl,trivial⟩),Br.f ?_ (no hT (cl hw))⟩⟩;rw [Zh (by omega) (by omega)];cases hx:(b.tm==e.hd.tm + 1)
   ·rfl
   ·exact absurd (by rw [hx,Bool.or_true]) hc
 rw [if_neg (by simpa using hk3)] at hT;refine Br.e (λ hk4=>?_) (λ hk4=>no (by rw [hT,if_neg (by simpa using hk4)]) (cl hw));rw [if_pos (by simpa using hk4)] at hT;refine Br.mk (λ h=>⟨b.tm,At.own (eqS hw) (by exact ⟨rfl,trivial⟩),?_⟩) λ h=>?_
 ·rw [if_pos h] at hT
  refine (Zdm b.tm (cl hw)).use ?_;rintro _ w ⟨rfl,hw⟩;exact ⟨rfl,(BlQ.nil hT hw).drop2⟩
 rw [if_neg (by rw [h];simp)] at hT;refine Zm hw λ w hw=>Zb.mk rfl ⟨e.role,At.own Zf (by exact ⟨rfl,trivial⟩),Br.e (λ h2=>⟨b.tm,At.own Zf (by exact ⟨rfl,trivial⟩),Zb.mk rfl ⟨e.hd.tm,At.own Zf (by exact ⟨rfl,trivial⟩),Br.e (λ h3=>⟨b.fr,At.own (eqS hw) (by exact ⟨rfl,trivial⟩),b.yes,At.own (eqS hw) (by exact ⟨rfl,trivial⟩),?_⟩) λ h3=>no (by rw [hT,if_neg (by simp [h3])]) (cl hw)⟩⟩) λ h2=>no (by rw [hT,if_neg (by simp [h2])]) (cl hw)⟩;rw [if_pos (by simp [h2,h3])] at hT;refine (ZiM ok b.fr b.yes (cl hw)).use ?_;clear hw;rintro _ w ⟨rfl,hw⟩;refine ⟨_,rfl,?_⟩;refine (ZdY oks _ last lt hw).use ?_;clear hw;rintro _ w ⟨t,rfl,hw⟩;exact ⟨t,rfl,(BlQ.nil hT hw.drop).drop2⟩
end
section
open Go Go.VC Tryz
open Go.Rf (Ey Lg ZD)
structure Sn where
 ix:Int
 tm:Int
 g:Gp
 dt:List Int
def sn0:Sn:=⟨0,0,⟨[],[]⟩,[]⟩
structure Pe where
 st:Int
 mt:Int
 nx:Int
 wn:Int
 wt:Bool
 fl:List Int
 sn:Int
structure Rq where
 tok:Int
 ix:Int
 rnd:Int
 bh:List Int
structure Mg where
 kd:Int:=0
 fr:Int:=0
 to':Int:=0
 tm:Int:=0
 ix:Int:=0
 lt:Int:=0
 yes:Bool:=false
 com:Int:=0
 hint:Int:=0
 rnd:Int:=0
 es:List Ey:=[]
 sn:Sn:=sn0
structure Rn where
 e:Eln
 id:Int
 win:Int
 log:Lg
 sn:Sn
 g:Gp
 ps:Option (List (Int × Pe))
 rs:List Rq
 rnd:Int
 told:Hd
 rsn:Bool
 rfr:Int
 rms:List Mg
 rrd:List (Int × Int)
def Pe.new (nx wn:Int):Pe:=⟨0,0,nx,wn,false,[],0⟩
def Pe.may (x:Pe):Bool:=if x.st==0 then !x.wt else if x.st==1 then decide ((x.fl.length:Int)<x.wn) else false
def Pe.probe (x:Pe) (i:Int):Pe:={ x with st:=0,nx:=i,wt:=false,fl:=[] }
def Pe.sent (x:Pe) (last:Int):Pe:=
 if !x.may||decide (last<x.nx - 1)||decide (last>1099511627775) then x
 else if x.st==0 then { x with wt:=true } else if last >= x.nx then { x with nx:=last + 1,fl:=x.fl++[last] } else x
def Pe.install (x:Pe) (i:Int):Pe:=if i<0\/i>1099511627775 then x else { x with st:=2,sn:=i,wt:=false,fl:=[] }
def Pe.beat (x:Pe):Pe:=if x.st==0 then { x with wt:=false } else if x.st==1 && decide ((x.fl.length:Int) >= x.wn) then { x with fl:=x.fl.drop 1 } else x
def Pe.over (x:Pe) (ok:Bool):Pe:=if x.st !=2 then x else x.probe (if ok then max (x.mt + 1) (x.sn + 1) else x.mt + 1)
def Pe.acked (x:Pe) (i:Int):Bool × Pe:=
 if i<0\/i>1099511627775 then (false,x)
 else let y:={ x with mt:=max x.mt i,nx:=max x.nx (max x.mt i + 1) }
  (decide (i>x.mt),if x.st==0 then { y with st:=1,wt:=false,fl:=[] } else if x.st==1 then { y with fl:=y.fl.filter λ n=>decide (n>i) } else if x.st==2 && decide (i >= x.sn) then y.probe y.nx else y)
def Pe.refused (x:Pe) (i hint:Int):Bool × Pe:=
 let h:=if hint<0\/hint>1099511627776 then 0 else hint
 if x.st==0 && i==x.nx - 1 then (true,x.probe (max (min i (h + 1)) (x.mt + 1)))
 else if x.st==1 && decide (i>x.mt) then (true,x.probe (x.mt + 1)) else (false,x)
def ZE (s:Sn):Bool:=Z3 s.ix 0 1099511627776 && Z3 s.tm 0 1099511627776 && Zo s.g.vs s.g.ls && decide (s.dt.length<=60000)
def rd2 (b:List Int):Int × Int × Bool:=((ZcF 1099511627776 ⟨b,false⟩).1,(ZcF 1099511627776 (ZcF 1099511627776 ⟨b,false⟩).2).1,Zgg (ZcF 1099511627776 (ZcF 1099511627776 ⟨b,false⟩).2).2)
def ZV (g:Gp) (x:Ey):Gp:=
 if x.kd !=2 then g else if !(rd2 x.dt).2.2 then g
 else if (chG g.vs g.ls (rd2 x.dt).1 (rd2 x.dt).2.1).2.2==0 then ⟨(chG g.vs g.ls (rd2 x.dt).1 (rd2 x.dt).2.1).1,(chG g.vs g.ls (rd2 x.dt).1 (rd2 x.dt).2.1).2.1⟩ else g
def Zb3 (i:Int) (g:Gp) (x:Ey):Gp:=if x.ix>i then ZV g x else g
def Rn.foldG (n:Rn) (m:Int):Gp:=(n.log.get (n.log.b.ix + 1) m).foldl (Zb3 n.sn.ix) n.sn.g
def Rn.peer (n:Rn) (p:Int):Option Pe:=ZB p (n.ps.getD [])
def Rn.peerN (n:Rn) (p:Int):Pe:=(n.peer p).getD (Pe.new (min (n.log.last + 1) 1099511627776) n.win)
def Rn.addP (n:Rn) (acc:List (Int × Pe)) (p:Int):List (Int × Pe):=if p==n.id then acc else ZcG p (n.peerN p) acc
def Rn.newPs (n:Rn) (g:Gp):List (Int × Pe):=(g.vs++g.ls).foldl n.addP []
def Rn.regroup (n:Rn):Rn:=
 let g:=n.foldG n.log.l.length
 { n with g:=g,e:=n.e.join g,ps:=if n.e.role==3 then some (n.newPs g) else none }
def Rn.put (n:Rn) (m:Mg):Rn:={ n with rms:=n.rms++[{ m with fr:=n.id,tm:=n.e.hd.tm }] }
def Rn.mem (n:Rn):List Int:=ZaF ((n.ps.getD []).map (·.1))
def Rn.fresh (n:Rn) (i:Int):Rn:=Rn.regroup { n with rfr:=if n.rfr==0||decide (i<n.rfr) then i else n.rfr }
def Rn.enter (n:Rn) (kd:Int) (dt:List Int):(Int × Int) × Rn:=
 let i:=n.log.last + 1
 let r:=n.log.add [⟨i,n.e.hd.tm,kd,dt⟩]
 if r.1 !=0 then ((0,r.1),n) else ((i,0),Rn.fresh { n with log:=r.2 } i)
def Rn.setP (n:Rn) (p:Int) (x:Pe):Rn:={ n with ps:=n.ps.map (Zbq p x) }
def Rn.beat (n:Rn) (p:Int):Rn:=n.put { kd:=7,to':=p,com:=min ((n.peer p).getD (Pe.new 0 0)).mt n.log.com,rnd:=n.rnd }
def Rn.beats (n:Rn):Rn:=n.mem.foldl Rn.beat n
def Rn.ats (n:Rn):List Int:=(List.range 16).map λ (k:Nat)=>match n.peer (k:Int) with|some x=>x.mt|none=>if (k:Int)==n.id then n.log.last else 0
def Rn.advance (n:Rn):Rn:=
 let i:=ZeA n.g.vs n.g.ls n.ats
 let t:=n.log.term i
 if !t.2||t.1 !=n.e.hd.tm||decide (i<=n.log.com) then n else Rn.beats { n with log:=(n.log.commit i).2 }
def Rn.sendF (p:Int):Nat->Rn->Rn
 |0,n=>n
 |k + 1,n=>match n.peer p with
  |none=>n
  |some x=>if x.may && decide (x.nx<=n.log.last + 1) then
    (let i:=x.nx - 1
    let t:=n.log.term i
    if !t.2 then (n.put { kd:=9,to':=p,ix:=n.sn.ix,lt:=n.sn.tm,sn:=n.sn }).setP p (x.install n.sn.ix)
    else
     let l:=n.log.get (i + 1) 8
     if x.st==1 && l.isEmpty then n
     else
      let n1:=(n.put { kd:=5,to':=p,ix:=i,lt:=t.1,com:=n.log.com,es:=l }).setP p (x.sent (i + l.length))
      if x.st==1 then Rn.sendF p k n1 else n1)
   else n
def Rn.send (n:Rn) (p:Int):Rn:=Rn.sendF p 66 n
def Rn.all (n:Rn):Rn:=n.mem.foldl Rn.send n
def ZcK (b:Bl):Mg:={ kd:=b.kd,fr:=b.fr,to':=b.to',tm:=b.tm,ix:=b.ix,lt:=b.lt,yes:=b.yes }
def Rn.voted (n:Rn) (led:Bool) (l:List Bl):Rn:=
 let n:={ n with rms:=n.rms++l.map ZcK }
 if n.e.role !=3 then { n with ps:=none,rs:=[] }
 else if !led then (Rn.enter (Rn.regroup { n with ps:=none,rs:=[],rnd:=0 }) 0 []).2.advance.all
 else n
def Rn.tick (n:Rn) (draw:Int):Rn:=
 if n.e.role !=3 then
  let r:=n.e.tick draw n.log.last (n.log.term n.log.last).1
  Rn.voted { n with e:=r.2 } false r.1
 else n.mem.foldl (λ n p=>
  let x:=((n.peer p).getD (Pe.new 0 0)).beat
  ((n.setP p (if x.st==2 then x.over false else x)).beat p).send p) n
def Rn.own (n:Rn):Bool:=(n.log.term n.log.com).2 && (n.log.term n.log.com).1==n.e.hd.tm && n.e.role==3
def Rn.lead (n:Rn) (kd:Int) (dt:List Int):(Int × Int) × Rn:=
 let r:=n.enter kd dt
 if r.1.2 !=0 then ((0,r.1.2),r.2) else (r.1,r.2.advance.all)
def Rn.propose (n:Rn) (dt:List Int):(Int × Int) × Rn:=
 if n.e.role !=3 then ((0,7),n) else if (dt.length:Int)>4096 then ((0,1),n) else n.lead 1 dt
def Rn.change (n:Rn) (kd nd:Int):(Int × Int) × Rn:=
 if n.e.role !=3 then ((0,7),n)
 else if (chG n.g.vs n.g.ls kd nd).2.2 !=0 then ((0,(chG n.g.vs n.g.ls kd nd).2.2),n)
 else if nd==n.id||!n.own||(n.log.get (n.log.com + 1) (n.log.last - n.log.com)).any (λ x=>x.kd==2) then ((0,7),n)
 else n.lead 2 (Zmi kd.toNat++Zmi nd.toNat)
def Rn.read (n:Rn) (tok:Int):Int × Rn:=
 if !n.own||decide ((n.rs.length:Int) >= 64) then (7,n)
 else if ZaE n.g.vs n.g.ls [n.id] then (0,{ n with rrd:=n.rrd++[(tok,n.log.com)] })
 else (0,Rn.beats { n with rnd:=n.rnd + 1,rs:=n.rs++[⟨tok,n.log.com,n.rnd + 1,[n.id]⟩] })
structure Rdy where
 hn:Bool
 hd:Hd
 sn':Bool
 sn:Sn
 fr:Int
 ms:List Mg
 rd:List (Int × Int)
def Rn.out (n:Rn):Rdy × Rn:=
 let new:=n.e.hd.tm !=n.told.tm||n.e.hd.vt !=n.told.vt
 (⟨new,if new then n.e.hd else ⟨0,0⟩,n.rsn,if n.rsn then n.sn else sn0,n.rfr,n.rms,n.rrd⟩,
  { n with told:=if new then n.e.hd else n.told,rsn:=false,rfr:=0,rms:=[],rrd:=[] })
def ZbO (id:Int) (h:Hd) (s:Sn) (l:List Ey) (pat win:Int):Int × Option Rn:=
 if !ZE s||decide (win<1)||decide (win>64) then (1,none)
 else if !Zko id h s.g pat then (1,none)
 else
  let r:=(Lg.new s.ix s.tm).add l
  if r.1 !=0 then (r.1,none)
  else (0,some (Rn.regroup ⟨Eln.new id h s.g pat,id,win,r.2,s,⟨[],[]⟩,none,[],0,h,false,0,[],[]⟩))
end
section
open Go Go.VC Tryz
open Go.Rf (Ey Lg ZD)
variable {R R' R1 R2:Cx} {Hs Rest Rest2:List HP} {w:World}
abbrev Za0 (x:Pe) (s:Sl):Obj:=.cells [.int .i64 x.st,.int .i64 x.mt,.int .i64 x.nx,.int .i64 x.wn,.bool x.wt,.slice s.a s.len s.cap,.int .i64 x.sn].toArray 172 (0,0)
def Zb8 (s:Sl) (xs:List Int):HP:=λ h=>Own s 3 (ints xs) h\/(Zat s (ints xs) h/\s.cap=s.len)
theorem Zb8.own {s:Sl} {xs:List Int} (hw:Sat R (Own s 3 (ints xs)::Hs) w):Sat R (Zb8 s xs::Hs) w:=by
 obtain ⟨h,hh,hd,hw⟩:=hw;exact ⟨h,.inl hh,hd,hw⟩
theorem Zb8.cases {s:Sl} {xs:List Int} (hw:Sat R (Zb8 s xs::Hs) w):Sat R (Own s 3 (ints xs)::Hs) w\/(Sat R (Zat s (ints xs)::Hs) w/\s.cap=s.len):=by
 obtain ⟨h,hh|⟨hh,hc⟩,hd,hw⟩:=hw
 ·exact .inl ⟨h,hh,hd,hw⟩
 ·exact .inr ⟨⟨h,hh,hd,hw⟩,hc⟩
theorem Zb8.full {s:Sl} {xs:List Int} (hc:s.cap=s.len) (hw:Sat R (Zat s (ints xs)::Hs) w):Sat R (Zb8 s xs::Hs) w:=by
 obtain ⟨h,hh,hd,hw⟩:=hw;exact ⟨h,.inr ⟨hh,hc⟩,hd,hw⟩
theorem Zb8.reads {s:Sl} {xs:List Int} (hw:Sat R (Zb8 s xs::Hs) w):Sat R (Zat s (ints xs)::Hs) w:=by
 rcases Zb8.cases hw with h|h
 ·exact Own.reads h
 ·exact h.1
def ZP (b:Nat) (x:Pe):HP:=exs λ s:Sl=>Zds [pts b (Za0 x s),Zb8 s x.fl]
theorem ZP.iff {b:Nat} {x:Pe}:Sat R (ZP b x::Hs) w↔∃ s,Sat R (pts b (Za0 x s)::Zb8 s x.fl::Hs) w:=by
 constructor
 ·intro h
  obtain ⟨s,h⟩:=Sat.exs.1 h;exact ⟨s,Sat.star.1 h⟩
 ·rintro ⟨s,h⟩
  exact Sat.exs.2 ⟨s,Sat.star.2 h⟩
abbrev pEn (t:Int × Nat × Pe):Int × Value:=(t.1,.pointer (some ⟨t.2.1,0,none⟩))
abbrev pOf (t:Int × Nat × Pe):Int × Pe:=(t.1,t.2.2)
abbrev pHP (t:Int × Nat × Pe):HP:=ZP t.2.1 t.2.2
def Z2 (pm:Option Nat) (ps:Option (List (Int × Pe))):HP:=exs λ l:List (Int × Nat × Pe)=>
 match pm with
 |none=>pur (ps=none)
 |some m=>Zds (pur (ps=some (l.map pOf))::Zg m (l.map pEn)::l.map pHP)
theorem Z2.none' {ps:Option (List (Int × Pe))}:Sat R (Z2 none ps::Hs) w↔ps=none/\Sat R Hs w:=by
 constructor
 ·intro h
  obtain ⟨_,h⟩:=Sat.exs.1 h;exact Sat.pur.1 h
 ·intro h
  exact Sat.exs.2 ⟨[],Sat.pur.2 h⟩
theorem Z2.some' {m:Nat} {ps:Option (List (Int × Pe))}:Sat R (Z2 (some m) ps::Hs) w↔∃ l:List (Int × Nat × Pe),ps=some (l.map pOf)/\Sat R (Zg m (l.map pEn)::(l.map pHP++Hs)) w:=by
 constructor
 ·intro h
  obtain ⟨l,h⟩:=Sat.exs.1 h;obtain ⟨h1,h⟩:=Sat.pur.1 (Sat.star.1 h);exact ⟨l,h1,h⟩
 ·rintro ⟨l,h1,h⟩
  exact Sat.exs.2 ⟨l,Sat.star.2 (Sat.pur.2 ⟨h1,h⟩)⟩
abbrev Z5 (t:Sl × Rq):List Value:=[.int .i64 t.2.tok,.int .i64 t.2.ix,.int .i64 t.2.rnd,.slice t.1.a t.1.len t.1.cap]
abbrev Zga (t:Sl × Rq):HP:=Own t.1 3 (ints t.2.bh)
def Z0 (s:Sl) (rs:List Rq):HP:=exs λ l:List (Sl × Rq)=>Zds (pur (l.map (·.2)=rs)::OwnN 4 s 112 (l.map Z5)::l.map Zga)
theorem Z0.iff {s:Sl} {rs:List Rq}:Sat R (Z0 s rs::Hs) w↔∃ l:List (Sl × Rq),l.map (·.2)=rs/\Sat R (OwnN 4 s 112 (l.map Z5)::(l.map Zga++Hs)) w:=by
 constructor
 ·intro h
  obtain ⟨l,h⟩:=Sat.exs.1 h;obtain ⟨h1,h⟩:=Sat.pur.1 (Sat.star.1 h);exact ⟨l,h1,h⟩
 ·rintro ⟨l,h1,h⟩
  exact Sat.exs.2 ⟨l,Sat.star.2 (Sat.pur.2 ⟨h1,h⟩)⟩
theorem Z0.nil (hw:Sat R Hs w):Sat R (Z0 ⟨none,0,0⟩ []::Hs) w:=Z0.iff.2 ⟨[],rfl,OwnN.nil hw⟩
structure MLo where
 e:Sl
 ds:List DE4
 v:Sl
 l:Sl
 d:Sl
structure Zdu (R:Cx) (m:Mg) (L:MLo):Prop where
 es:RoN 4 R L.e (L.ds.map ZaC)
 dr:DsR R L.ds
 ee:erE L.ds=m.es
 g:Zd7 R m.sn.g L.v L.l
 d:SlR R.m L.d (b8 m.sn.dt)
 ec:L.e.len<=L.e.cap
theorem Zdu.ext {m:Mg} {L:MLo} (h:Zdu R m L) (e:R.Ext R'):Zdu R' m L:=⟨e.roN h.es,h.dr.ext e,h.ee,h.g.ext e,e.slR h.d,h.ec⟩
abbrev Zbn (t:MLo × Mg):List Value:=[.int .i64 t.2.kd,.int .i64 t.2.fr,.int .i64 t.2.to',.int .i64 t.2.tm,.int .i64 t.2.ix,.int .i64 t.2.lt,.bool t.2.yes,.int .i64 t.2.com,.int .i64 t.2.hint,.int .i64 t.2.rnd,
 .slice t.1.e.a t.1.e.len t.1.e.cap,.int .i64 t.2.sn.ix,.int .i64 t.2.sn.tm,.slice t.1.v.a t.1.v.len t.1.v.cap,.slice t.1.l.a t.1.l.len t.1.l.cap,.slice t.1.d.a t.1.d.len t.1.d.cap]
def Zq (R:Cx) (s:Sl) (ms:List Mg):HP:=exs λ l:List (MLo × Mg)=>Zds [pur (l.map (·.2)=ms/\∀ t∈l,Zdu R t.2 t.1),OwnN 16 s 71 (l.map Zbn)]
theorem Zq.iff {s:Sl} {ms:List Mg}:Sat R (Zq R1 s ms::Hs) w↔∃ l:List (MLo × Mg),(l.map (·.2)=ms/\∀ t∈l,Zdu R1 t.2 t.1)/\Sat R (OwnN 16 s 71 (l.map Zbn)::Hs) w:=by
 constructor
 ·intro h
  obtain ⟨l,h⟩:=Sat.exs.1 h;obtain ⟨h1,h⟩:=Sat.pur.1 (Sat.star.1 h);exact ⟨l,h1,h⟩
 ·rintro ⟨l,h1,h⟩
  exact Sat.exs.2 ⟨l,Sat.star.2 (Sat.pur.2 ⟨h1,h⟩)⟩
theorem Zq.nil (hw:Sat R Hs w):Sat R (Zq R1 ⟨none,0,0⟩ []::Hs) w:=Zq.iff.2 ⟨[],⟨rfl,λ _ h=>by cases h⟩,OwnN.nil hw⟩
theorem Zq.ext {s:Sl} {ms:List Mg} (hw:Sat R (Zq R1 s ms::Hs) w) (e:R1.Ext R2):Sat R (Zq R2 s ms::Hs) w:=by
 obtain ⟨l,h,hw⟩:=Zq.iff.1 hw;exact Zq.iff.2 ⟨l,⟨h.1,λ t ht=>(h.2 t ht).ext e⟩,hw⟩
abbrev Zbb (t:Int × Int):List Value:=[.int .i64 t.1,.int .i64 t.2]
abbrev ZN (s:Sl) (l:List (Int × Int)):HP:=OwnN 2 s 50 (l.map Zbb)
structure NLo where
 ep:Nat
 lp:Nat
 sv:Sl
 sl:Sl
 sd:Sl
 gv:Sl
 gl:Sl
 pm:Option Nat
 rs:Sl
 ms:Sl
 rr:Sl
structure NIn (R:Cx) (n:Rn) (L:NLo):Prop where
 g:Zd7 R n.g L.gv L.gl
 sg:Zd7 R n.sn.g L.sv L.sl
 sd:SlR R.m L.sd (b8 n.sn.dt)
theorem NIn.ext {n:Rn} {L:NLo} (h:NIn R n L) (e:R.Ext R'):NIn R' n L:=⟨h.g.ext e,h.sg.ext e,e.slR h.sd⟩
abbrev Ze (n:Rn) (L:NLo):Obj:=.cells [.pointer (some ⟨L.ep,0,none⟩),.int .i64 n.id,.int .i64 n.win,.pointer (some ⟨L.lp,0,none⟩),.int .i64 n.sn.ix,.int .i64 n.sn.tm,.slice L.sv.a L.sv.len L.sv.cap,.slice L.sl.a L.sl.len L.sl.cap,.slice L.sd.a L.sd.len L.sd.cap,
 .slice L.gv.a L.gv.len L.gv.cap,.slice L.gl.a L.gl.len L.gl.cap,.map L.pm,.slice L.rs.a L.rs.len L.rs.cap,.int .i64 n.rnd,.int .i64 n.told.tm,.int .i64 n.told.vt,.bool false,.int .i64 0,.int .i64 0,.bool n.rsn,.int .i64 0,.int .i64 0,.slice none 0 0,.slice none 0 0,.slice none 0 0,
 .int .i64 n.rfr,.slice L.ms.a L.ms.len L.ms.cap,.slice L.rr.a L.rr.len L.rr.cap].toArray 58 (0,0)
abbrev nHs (R:Cx) (n:Rn) (L:NLo) (Hs:List HP):List HP:=Zn R L.ep n.e::Zr R L.lp n.log::Z2 L.pm n.ps::Z0 L.rs n.rs::Zq R L.ms n.rms::ZN L.rr n.rrd::Hs
def NAt (R:Cx) (p:Nat) (n:Rn):HP:=exs λ L:NLo=>Zds (pur (NIn R n L)::pts p (Ze n L)::nHs R n L [])
theorem NAt.iff {p:Nat} {n:Rn}:Sat R (NAt R1 p n::Hs) w↔∃ L,NIn R1 n L/\Sat R (pts p (Ze n L)::nHs R1 n L Hs) w:=by
 constructor
 ·intro h
  obtain ⟨L,h⟩:=Sat.exs.1 h;obtain ⟨h1,h⟩:=Sat.pur.1 (Sat.star.1 h);exact ⟨L,h1,h⟩
 ·rintro ⟨L,h1,h⟩
  exact Sat.exs.2 ⟨L,Sat.star.2 (Sat.pur.2 ⟨h1,h⟩)⟩
theorem NAt.ext {p:Nat} {n:Rn} (hw:Sat R (NAt R1 p n::Hs) w) (e:R1.Ext R2):Sat R (NAt R2 p n::Hs) w:=by
 obtain ⟨L,h,hw⟩:=NAt.iff.1 hw;refine NAt.iff.2 ⟨L,h.ext e,hw.cons λ _ h=>?_⟩;exact Sat.cons (λ _ h=>Sat.cons (λ _ h=>h.cons λ _ h=>h.cons λ _ h=>Zq.ext h e) (Zr.ext h e)) (Zn.ext h e)
end
section
open Go Go.VC Tryz
set_option maxRecDepth 10000
def B91 (a:Int) (b:Int) (K:Value->World->Prop) (w:World):Prop:=
 Br (decide (a<1))
 (K (.tuple #[.pointer none,.int .i64 1]) w)
 (Br (decide (a>1099511627776))
 (K (.tuple #[.pointer none,.int .i64 1]) w)
 (Br (decide (b<1))
 (K (.tuple #[.pointer none,.int .i64 1]) w)
 (Br (decide (b>64))
 (K (.tuple #[.pointer none,.int .i64 1]) w)
 (New (.cells #[.int .i64 0,.int .i64 0,.int .i64 a,.int .i64 b,.bool false,.slice none 0 0,.int .i64 0] 172 (0,0)) (λ c d=>
 K (.tuple #[.pointer ((some ⟨c,0,none⟩)),.int .i64 0]) d) w))))
theorem Zpu (a:Int) (b:Int) (K:Value->World->Prop) (w:World) (h:B91 a b K w):Zj prog 91 #[.int .i64 a,.int .i64 b] w K:=cq (sk:=.leaf) func91 (by kernel_rfl) (by kernel_rfl) (by kernel_rfl) h
def B42 (b:Option Addr) (K:Value->World->Prop) (w:World):Prop:=
 Zb b λ o=>
 ∃ l:Int,(At (λ q=>q=w) (Addr.add o 0) [.int .i64 l])/\
 Br (l==0)
 (Zb b λ i=>
 ∃ m:World,((Instr.storeAt 4 (.pointer ((some ⟨i.block,i.off + 4,none⟩))) (.bool false)).run prog w=.ok () m)/\
 K (.tuple #[]) m)
 (Drw w λ d e=>
 Zb b λ n=>
 ∃ j:Int,(At d (Addr.add n 0) [.int .i64 j])/\
 Br (j==1)
 (Zb b λ f=>
 ∃ c:Sl,(At d ⟨f.block,f.off + 5,none⟩ [.slice c.a c.len c.cap])/\
 Zb b λ g=>
 ∃ k:Int,(At d ⟨g.block,g.off + 3,none⟩ [.int .i64 k])/\
 Br (decide ((↑c.len:Int) >= k))
 (Calls prog 103 #[.pointer b,.int .i64 1] e λ p r=>
 (p=.returned (.tuple #[]))/\
 K (.tuple #[]) r)
 (K (.tuple #[]) e))
 (K (.tuple #[]) e))
theorem Zp1 (a:Option Addr) (K:Value->World->Prop) (w:World) (h:B42 a K w):Zj prog 42 #[.pointer a] w K:=cq (sk:=.leaf) func42 (by kernel_rfl) (by kernel_rfl) (by kernel_rfl) h
def B43 (c:Option Addr) (K:Value->World->Prop) (w:World):Prop:=
 Zb c λ b=>
 ∃ a:Int,(At (λ d=>d=w) (Addr.add b 0) [.int .i64 a])/\
 K (.int .i64 a) w
theorem Zp0 (a:Option Addr) (K:Value->World->Prop) (w:World) (h:B43 a K w):Zj prog 43 #[.pointer a] w K:=cq (sk:=.leaf) func43 (by kernel_rfl) (by kernel_rfl) (by kernel_rfl) h
def B44 (a:Option Addr) (n:Bool) (K:Value->World->Prop) (w:World):Prop:=
 Zb a λ k=>
 ∃ j:Int,(At (λ b=>b=w) (Addr.add k 0) [.int .i64 j])/\
 Br (j !=2)
 (K (.bool false) w)
 (Zb a λ e=>
 ∃ c:Int,(At (λ b=>b=w) ⟨e.block,e.off + 1,none⟩ [.int .i64 c])/\
 Br n
 (Zb a λ f=>
 ∃ d:Int,(At (λ b=>b=w) ⟨f.block,f.off + 6,none⟩ [.int .i64 d])/\
 Calls prog 104 #[.pointer a,.int .i64 (if IntKind.i64.wrap (d + 1)>IntKind.i64.wrap (c + 1) then IntKind.i64.wrap (d + 1) else IntKind.i64.wrap (c + 1))] w λ l o=>
 ∃ g:Bool,(l=.returned (.bool g))/\
 K (.bool g) o)
 (Calls prog 104 #[.pointer a,.int .i64 (IntKind.i64.wrap (c + 1))] w λ m p=>
 ∃ i:Bool,(m=.returned (.bool i))/\
 K (.bool i) p))
theorem ZpZ (b:Option Addr) (a:Bool) (K:Value->World->Prop) (w:World) (h:B44 b a K w):Zj prog 44 #[.pointer b,.bool a] w K:=cq (sk:=.leaf) func44 (by kernel_rfl) (by kernel_rfl) (by kernel_rfl) h
def B103 (f:Option Addr) (d:Int) (K:Value->World->Prop) (w:World):Prop:=
 Drw w λ g n=>
 Zb f λ l=>
 ∃ e:Sl,(At g ⟨l.block,l.off + 5,none⟩ [.slice e.a e.len e.cap])/\
 Zb f λ i=>
 ∃ c:Sl,(At g ⟨i.block,i.off + 5,none⟩ [.slice c.a c.len c.cap])/\
 Zb f λ j=>
 ∃ b:Sl,(At g ⟨j.block,j.off + 5,none⟩ [.slice b.a b.len b.cap])/\
 ((0:Int)<=(↑b.len:Int))/\
 (((↑b.len:Int):Int)<=(↑e.cap:Int))/\
 ((0:Int)<=(↑c.len:Int))/\
 (((↑c.len:Int):Int)<=(↑(↑b.len:Int).toNat:Int))/\
 ((0:Int)<=d)/\
 ((d:Int)<=(↑(↑c.len:Int).toNat:Int))/\
 Zb f λ k=>
 ∃ m:World,((Instr.storeAt 30 (.pointer ((some ⟨k.block,k.off + 5,none⟩))) (.slice (ZbB e.a d.toNat (↑b.len:Int).toNat 1) ((↑c.len:Int).toNat - d.toNat) ((↑b.len:Int).toNat - d.toNat))).run prog n=.ok () m)/\
 K (.tuple #[]) m
theorem ZoJ (b:Option Addr) (a:Int) (K:Value->World->Prop) (w:World) (h:B103 b a K w):Zj prog 103 #[.pointer b,.int .i64 a] w K:=cq (sk:=.leaf) func103 (by kernel_rfl) (by kernel_rfl) (by kernel_rfl) h
def B104 (a:Option Addr) (k:Int) (K:Value->World->Prop) (w:World):Prop:=
 Zb a λ j=>
 ∃ e:World,((Instr.storeAt 3 (.pointer ((some (Addr.add j 0)))) (.int .i64 0)).run prog w=.ok () e)/\
 Zb a λ b=>
 ∃ f:World,((Instr.storeAt 3 (.pointer ((some ⟨b.block,b.off + 2,none⟩))) (.int .i64 k)).run prog e=.ok () f)/\
 Zb a λ c=>
 ∃ g:World,((Instr.storeAt 4 (.pointer ((some ⟨c.block,c.off + 4,none⟩))) (.bool false)).run prog f=.ok () g)/\
 Zb a λ d=>
 ∃ i:World,((Instr.storeAt 30 (.pointer ((some ⟨d.block,d.off + 5,none⟩))) (.slice none 0 0)).run prog g=.ok () i)/\
 K (.bool true) i
theorem ZoI (b:Option Addr) (a:Int) (K:Value->World->Prop) (w:World) (h:B104 b a K w):Zj prog 104 #[.pointer b,.int .i64 a] w K:=cq (sk:=.leaf) func104 (by kernel_rfl) (by kernel_rfl) (by kernel_rfl) h
def B106 (c:Option Addr) (K:Value->World->Prop) (w:World):Prop:=
 Zb c λ a=>
 ∃ b:Int,(At (λ d=>d=w) ⟨a.block,a.off + 1,none⟩ [.int .i64 b])/\
 K (.int .i64 b) w
theorem ZoH (a:Option Addr) (K:Value->World->Prop) (w:World) (h:B106 a K w):Zj prog 106 #[.pointer a] w K:=cq (sk:=.leaf) func106 (by kernel_rfl) (by kernel_rfl) (by kernel_rfl) h
def B107 (b:Option Addr) (K:Value->World->Prop) (w:World):Prop:=
 Zb b λ m=>
 ∃ d:Int,(At (λ e=>e=w) (Addr.add m 0) [.int .i64 d])/\
 Br (d==0)
 (Zb b λ g=>
 ∃ k:Bool,(At (λ e=>e=w) ⟨g.block,g.off + 4,none⟩ [.bool k])/\
 K (.bool (!k)) w)
 (Br (d==1)
 (Drw w λ f n=>
 Zb b λ i=>
 ∃ c:Sl,(At f ⟨i.block,i.off + 5,none⟩ [.slice c.a c.len c.cap])/\
 Zb b λ j=>
 ∃ l:Int,(At f ⟨j.block,j.off + 3,none⟩ [.int .i64 l])/\
 K (.bool (decide ((↑c.len:Int)<l))) n)
 (K (.bool false) w))
theorem ZoG (a:Option Addr) (K:Value->World->Prop) (w:World) (h:B107 a K w):Zj prog 107 #[.pointer a] w K:=cq (sk:=.leaf) func107 (by kernel_rfl) (by kernel_rfl) (by kernel_rfl) h
def B108 (c:Option Addr) (K:Value->World->Prop) (w:World):Prop:=
 Zb c λ a=>
 ∃ b:Int,(At (λ d=>d=w) ⟨a.block,a.off + 2,none⟩ [.int .i64 b])/\
 K (.int .i64 b) w
theorem ZoF (a:Option Addr) (K:Value->World->Prop) (w:World) (h:B108 a K w):Zj prog 108 #[.pointer a] w K:=cq (sk:=.leaf) func108 (by kernel_rfl) (by kernel_rfl) (by kernel_rfl) h
def B109 (a:Option Addr) (b:Int) (K:Value->World->Prop) (w:World):Prop:=
 ∃ (c:World->Prop),(Br (decide (b<0))
 (K (.int .i64 1) w)
 (Br (decide (b>1099511627775))
 (K (.int .i64 1) w)
 (c  w)))/\
 ∀ (n:Env)  (g:World),c  g->
 Zb a λ m=>
 ∃ i:World,((Instr.storeAt 3 (.pointer ((some (Addr.add m 0)))) (.int .i64 2)).run prog g=.ok () i)/\
 Zb a λ d=>
 ∃ j:World,((Instr.storeAt 3 (.pointer ((some ⟨d.block,d.off + 6,none⟩))) (.int .i64 b)).run prog i=.ok () j)/\
 Zb a λ e=>
 ∃ k:World,((Instr.storeAt 4 (.pointer ((some ⟨e.block,e.off + 4,none⟩))) (.bool false)).run prog j=.ok () k)/\
 Zb a λ f=>
 ∃ l:World,((Instr.storeAt 30 (.pointer ((some ⟨f.block,f.off + 5,none⟩))) (.slice none 0 0)).run prog k=.ok () l)/\
 K (.int .i64 0) l
def Zra:Sk:=(.seq .leaf (.cut [] [] [4,5,6,7,8,9,10] .leaf .leaf))
theorem ZoE (b:Option Addr) (a:Int) (K:Value->World->Prop) (w:World) (h:B109 b a K w):Zj prog 109 #[.pointer b,.int .i64 a] w K:=cq (sk:=Zra) func109 (by kernel_rfl) (by kernel_rfl) (by kernel_rfl) h
def B110 (b:Option Addr) (g:Int) (K:Value->World->Prop) (w:World):Prop:=
 ∃ (i:Bool->World->Prop),(Calls prog 107 #[.pointer b] w λ D j=>
 ∃ v:Bool,(D=.returned (.bool v))/\
 Br (!v)
 (i true j)
 (Zb b λ l=>
 ∃ r:Int,(At (λ c=>c=j) ⟨l.block,l.off + 2,none⟩ [.int .i64 r])/\
 Br (decide (g<IntKind.i64.wrap (r - 1)))
 (i true j)
 (i (decide (g>1099511627775)) j)))/\
 ∀ (F:Env) (u:Bool) (d:World),i u d->
 Br u
 (K (.int .i64 7) d)
 (Zb b λ A=>
 ∃ s:Int,(At (λ c=>c=d) (Addr.add A 0) [.int .i64 s])/\
 Br (s==0)
 (Zb b λ m=>
 ∃ x:World,((Instr.storeAt 4 (.pointer ((some ⟨m.block,m.off + 4,none⟩))) (.bool true)).run prog d=.ok () x)/\
 K (.int .i64 0) x)
 (Zb b λ n=>
 ∃ t:Int,(At (λ c=>c=d) ⟨n.block,n.off + 2,none⟩ [.int .i64 t])/\
 Br (decide (g >= t))
 (Zb b λ o=>
 ∃ k:World,((Instr.storeAt 3 (.pointer ((some ⟨o.block,o.off + 2,none⟩))) (.int .i64 (IntKind.i64.wrap (g + 1)))).run prog d=.ok () k)/\
 Zb b λ p=>
 ∃ e:Sl,(At (λ c=>c=k) ⟨p.block,p.off + 5,none⟩ [.slice e.a e.len e.cap])/\
 New (.cells #[.int .i64 g] 3 (0,0)) (λ C E=>
 ∃ y:World,∃ f:Sl,((Builtin.append_ #[30,30] 30 #[.slice e.a e.len e.cap,.slice ((some ⟨C,0,none⟩)) 1 1]).run prog E=.ok (.slice f.a f.len f.cap) y)/\
 Zb b λ q=>
 ∃ z:World,((Instr.storeAt 30 (.pointer ((some ⟨q.block,q.off + 5,none⟩))) (.slice f.a f.len f.cap)).run prog y=.ok () z)/\
 K (.int .i64 0) z) k)
 (K (.int .i64 0) d)))
def Zq9:Sk:=(.seq .leaf (.seq (.block (.cut [5] [.bool] [5,6,7,8,9,10,11,12,13,14,15,16,17,18,19,20,21] .leaf .leaf)) .leaf))
theorem ZoD (b:Option Addr) (a:Int) (K:Value->World->Prop) (w:World) (h:B110 b a K w):Zj prog 110 #[.pointer b,.int .i64 a] w K:=cq (sk:=Zq9) func110 (by kernel_rfl) (by kernel_rfl) (by kernel_rfl) h
def B191 (b:Option Addr) (c:Int) (K:Value->World->Prop) (w:World):Prop:=
 ∃ (n:World->Prop),(Br (decide (c<0))
 (K (.bool false) w)
 (Br (decide (c>1099511627775))
 (K (.bool false) w)
 (n  w)))/\
 ∀ (Z:Env)  (j:World),n  j->
 Zb b λ p=>
 ∃ f:Int,(At (λ d=>d=j) ⟨p.block,p.off + 1,none⟩ [.int .i64 f])/\
 Zb b λ q=>
 ∃ k:Int,(At (λ d=>d=j) ⟨q.block,q.off + 1,none⟩ [.int .i64 k])/\
 Zb b λ r=>
 ∃ F:World,((Instr.storeAt 3 (.pointer ((some ⟨r.block,r.off + 1,none⟩))) (.int .i64 (if c>k then c else k))).run prog j=.ok () F)/\
 Drw F λ o V=>
 Zb b λ s=>
 ∃ l:Int,(At o ⟨s.block,s.off + 2,none⟩ [.int .i64 l])/\
 Zb b λ t=>
 ∃ m:Int,(At o ⟨t.block,t.off + 1,none⟩ [.int .i64 m])/\
 Zb b λ u=>
 ∃ e:World,((Instr.storeAt 3 (.pointer ((some ⟨u.block,u.off + 2,none⟩))) (.int .i64 (if IntKind.i64.wrap (m + 1)>l then IntKind.i64.wrap (m + 1) else l))).run prog V=.ok () e)/\
 Zb b λ J=>
 ∃ i:Int,(At (λ d=>d=e) (Addr.add J 0) [.int .i64 i])/\
 Br (i==0)
 (Zb b λ L=>
 ∃ G:World,((Instr.storeAt 3 (.pointer ((some (Addr.add L 0)))) (.int .i64 1)).run prog e=.ok () G)/\
 Zb b λ v=>
 ∃ H:World,((Instr.storeAt 4 (.pointer ((some ⟨v.block,v.off + 4,none⟩))) (.bool false)).run prog G=.ok () H)/\
 Zb b λ x=>
 ∃ I:World,((Instr.storeAt 30 (.pointer ((some ⟨x.block,x.off + 5,none⟩))) (.slice none 0 0)).run prog H=.ok () I)/\
 K (.bool (decide (c>f))) I)
 (Br (i==1)
 (Zb b λ y=>
 ∃ g:Sl,(At (λ d=>d=e) ⟨y.block,y.off + 5,none⟩ [.slice g.a g.len g.cap])/\
 Calls prog 238 #[.slice g.a g.len g.cap,.int .i64 (IntKind.i64.wrap (c + 1))] e λ M X=>
 ∃ C:Int,∃ Q:Bool,(M=.returned (.tuple #[.int .i64 C,.bool Q]))/\
 Calls prog 103 #[.pointer b,.int .i64 C] X λ N Y=>
 (N=.returned (.tuple #[]))/\
 K (.bool (decide (c>f))) Y)
 (Br (i==2)
 (Zb b λ z=>
 ∃ D:Int,(At (λ d=>d=e) ⟨z.block,z.off + 6,none⟩ [.int .i64 D])/\
 Br (decide (c >= D))
 (Zb b λ A=>
 ∃ E:Int,(At (λ d=>d=e) ⟨A.block,A.off + 2,none⟩ [.int .i64 E])/\
 Calls prog 104 #[.pointer b,.int .i64 E] e λ O U=>
 ∃ T:Bool,(O=.returned (.bool T))/\
 K (.bool (decide (c>f))) U)
 (K (.bool (decide (c>f))) e))
 (K (.bool (decide (c>f))) e)))
def ZqR:Sk:=(.seq .leaf (.cut [] [] [4,8,9,10,11,12,13] .leaf .leaf))
theorem Zn7 (b:Option Addr) (a:Int) (K:Value->World->Prop) (w:World) (h:B191 b a K w):Zj prog 191 #[.pointer b,.int .i64 a] w K:=cq (sk:=ZqR) func191 (by kernel_rfl) (by kernel_rfl) (by kernel_rfl) h
def B192 (c:Option Addr) (d:Int) (j:Int) (K:Value->World->Prop) (w:World):Prop:=
 ∃ (g:Int->World->Prop),(Br (decide (j<0))
 (g 0 w)
 (Br (decide (j>1099511627776))
 (g 0 w)
 (g j w)))/\
 ∀ (F:Env) (e:Int) (f:World),g e f->
 ∃ (i:Bool->World->Prop),(Zb c λ y=>
 ∃ q:Int,(At (λ a=>a=f) (Addr.add y 0) [.int .i64 q])/\
 Br (q==0)
 (Zb c λ l=>
 ∃ r:Int,(At (λ a=>a=f) ⟨l.block,l.off + 2,none⟩ [.int .i64 r])/\
 i (d==IntKind.i64.wrap (r - 1)) f)
 (i false f))/\
 ∀ (G:Env) (p:Bool) (b:World),i p b->
 Br p
 (Zb c λ m=>
 ∃ k:Int,(At (λ a=>a=b) ⟨m.block,m.off + 1,none⟩ [.int .i64 k])/\
 Calls prog 104 #[.pointer c,.int .i64 (if IntKind.i64.wrap (k + 1)>if IntKind.i64.wrap (e + 1)<d then IntKind.i64.wrap (e + 1) else d then IntKind.i64.wrap (k + 1) else if IntKind.i64.wrap (e + 1)<d then IntKind.i64.wrap (e + 1) else d)] b λ A D=>
 ∃ s:Bool,(A=.returned (.bool s))/\
 K (.bool s) D)
 (Zb c λ z=>
 ∃ t:Int,(At (λ a=>a=b) (Addr.add z 0) [.int .i64 t])/\
 Br (t==1)
 (Zb c λ n=>
 ∃ u:Int,(At (λ a=>a=b) ⟨n.block,n.off + 1,none⟩ [.int .i64 u])/\
 Br (decide (d>u))
 (Zb c λ o=>
 ∃ v:Int,(At (λ a=>a=b) ⟨o.block,o.off + 1,none⟩ [.int .i64 v])/\
 Calls prog 104 #[.pointer c,.int .i64 (IntKind.i64.wrap (v + 1))] b λ C E=>
 ∃ x:Bool,(C=.returned (.bool x))/\
 K (.bool x) E)
 (K (.bool false) b))
 (K (.bool false) b))
def ZqQ:Sk:=(.seq .leaf (.cut [2] [(.int .i64)] [2,7,8,9,10,11,12] .leaf (.seq (.block (.cut [13] [.bool] [13,14,15,16,17,18,19,20,21,22,23,24,25,26,27] .leaf .leaf)) .leaf)))
theorem Zn6 (c:Option Addr) (a:Int) (b:Int) (K:Value->World->Prop) (w:World) (h:B192 c a b K w):Zj prog 192 #[.pointer c,.int .i64 a,.int .i64 b] w K:=cq (sk:=ZqQ) func192 (by kernel_rfl) (by kernel_rfl) (by kernel_rfl) h
def B238 (e:Sl) (k:Int) (K:Value->World->Prop) (w:World):Prop:=
 ∃ (g:Int->Int->World->Prop) (j:Int->Int->World->Nat),(g 0 ((↑e.len:Int)) w)/\∀ (A:Env) (b:Int) (c:Int) (d:World),g b c d->
 Br (decide (b<c))
 (Rng (IntKind.i64.wrap (Zfp IntKind.u64 (IntKind.u64.wrap (IntKind.i64.wrap (b + c))) 1)) e.len (Zb e.a λ s=>
 ∃ l:Int,(At (λ f=>f=d) (Addr.add s ((IntKind.i64.wrap (Zfp IntKind.u64 (IntKind.u64.wrap (IntKind.i64.wrap (b + c))) 1)).toNat)) [.int .i64 l])/\
 Calls prog 221 #[.int .i64 l,.int .i64 k] d λ v i=>
 ∃ m:Bool,(v=.returned (.bool m))/\
 Br m
 ((g (IntKind.i64.wrap (IntKind.i64.wrap (Zfp IntKind.u64 (IntKind.u64.wrap (IntKind.i64.wrap (b + c))) 1) + 1)) c i)/\j (IntKind.i64.wrap (IntKind.i64.wrap (Zfp IntKind.u64 (IntKind.u64.wrap (IntKind.i64.wrap (b + c))) 1) + 1)) c i<j b c d)
 ((g b (IntKind.i64.wrap (Zfp IntKind.u64 (IntKind.u64.wrap (IntKind.i64.wrap (b + c))) 1)) i)/\j b (IntKind.i64.wrap (Zfp IntKind.u64 (IntKind.u64.wrap (IntKind.i64.wrap (b + c))) 1)) i<j b c d)))
 (Br (decide (b<(↑e.len:Int)))
 (Rng b e.len (Zb e.a λ t=>
 ∃ n:Int,(At (λ f=>f=d) (Addr.add t b.toNat) [.int .i64 n])/\
 Br (n==k)
 (K (.tuple #[.int .i64 b,.bool true]) d)
 (Rng b e.len (Zb e.a λ u=>
 ∃ o:Int,(At (λ f=>f=d) (Addr.add u b.toNat) [.int .i64 o])/\
 Calls prog 251 #[.int .i64 o] d λ x r=>
 ∃ p:Bool,(x=.returned (.bool p))/\
 Br p
 (Calls prog 251 #[.int .i64 k] r λ y z=>
 ∃ q:Bool,(y=.returned (.bool q))/\
 K (.tuple #[.int .i64 b,.bool q]) z)
 (K (.tuple #[.int .i64 b,.bool false]) r)))))
 (K (.tuple #[.int .i64 b,.bool false]) d))
def ZqK:Sk:=(.seq .leaf (.seq .leaf (.seq .leaf (.seq (.block (.loop [7,8] [(.int .i64),(.int .i64)] [7,8,9,13,14,15,16,17,18,19,20,21,22,23,24,25,26,27,28,29,30] .leaf)) .leaf))))
theorem ZnQ (b:Sl) (c:Int) (K:Value->World->Prop) (w:World) (h:B238 b c K w):Zj prog 238 #[.slice b.a b.len b.cap,.int .i64 c] w K:=cq (sk:=ZqK) func238 (by kernel_rfl) (by kernel_rfl) (by kernel_rfl) h
def B221 (a:Int) (b:Int) (K:Value->World->Prop) (w:World):Prop:=
 Calls prog 248 #[.int .i64 a] w λ g e=>
 ∃ c:Bool,(g=.returned (.bool c))/\
 Br c
 (Calls prog 248 #[.int .i64 b] e λ i f=>
 ∃ d:Bool,(i=.returned (.bool d))/\
 Br (!d)
 (K (.bool true) f)
 (K (.bool (decide (a<b))) f))
 (K (.bool (decide (a<b))) e)
theorem Zn0 (a:Int) (b:Int) (K:Value->World->Prop) (w:World) (h:B221 a b K w):Zj prog 221 #[.int .i64 a,.int .i64 b] w K:=cq (sk:=.leaf) func221 (by kernel_rfl) (by kernel_rfl) (by kernel_rfl) h
def B248 (a:Int) (K:Value->World->Prop) (w:World):Prop:=
 K (.bool (a !=a)) w
theorem ZnL (a:Int) (K:Value->World->Prop) (w:World) (h:B248 a K w):Zj prog 248 #[.int .i64 a] w K:=cq (sk:=.leaf) func248 (by kernel_rfl) (by kernel_rfl) (by kernel_rfl) h
def B251 (a:Int) (K:Value->World->Prop) (w:World):Prop:=
 K (.bool (a !=a)) w
theorem ZnI (a:Int) (K:Value->World->Prop) (w:World) (h:B251 a K w):Zj prog 251 #[.int .i64 a] w K:=cq (sk:=.leaf) func251 (by kernel_rfl) (by kernel_rfl) (by kernel_rfl) h
end
end Go.Proofs.YthpmfnffkjjlnaaGreat
namespace Go.VC
section
variable {P:Program} {R:Cx} {Hs:List HP} {w:World} {s:Sl}
theorem Zis {t1 t2 ty T:TypeId} {bytes:Nat} (E:El P t1 t2 T bytes) {base:Option Addr} {cap n:Nat} {xs ys:List Value} {src:Value} {K:Sl->World->Prop}
  (hs:Src P 1 t2 src n ys w) (hc:cap<xs.length + n) (hold:(Builtin.firstCells 1 xs.length (.slice base xs.length cap)).run P w.drew=.ok xs.toArray w.drew)
  (hb:2 * (xs.length + n) * bytes<=281474976710656) (hb':xs.length + n<=9223372036854775807) (hw:Sat R Hs w) (k:∀ s' w',Sat R (Own s' T (xs++ys)::Hs) w'->K s' w'):
  ∃ w',∃ t:Sl,(Builtin.append_ #[t1,t2] ty #[.slice base xs.length cap,src]).run P w=.ok (.slice t.a t.len t.cap) w'/\K t w':=by
 obtain ⟨i,z,hi,hz,hsize,hbytes,hzc⟩:=Zlz E.hi;have hyn:ys.length=n:=by have:=hs.newsLen;simpa using this
 have hs':Src P i.size t2 src n ys w:=by rw [hsize];exact hs
 have fit:Builtin.nextslicecap (xs.length + n) cap * i.bytes<=281474976710656:=by
  have h2:Builtin.nextslicecap (xs.length + n) cap<=2 * (xs.length + n):=by
   unfold Builtin.nextslicecap;split
   ·omega
   ·split
    ·omega
    ·have:=nextslicecap_le_wide hc
     unfold Builtin.nextslicecap at this;rw [if_neg (by assumption),if_neg (by assumption)] at this;omega
  rw [hbytes];exact Nat.le_trans (Nat.mul_le_mul_right _ h2) hb
 have hr:=run_append_grow_src w t1 t2 ty T i z E.ht hi hz base xs.length cap xs (by rw [hsize];exact hold) src n ys hs' hc (by omega) fit;refine ⟨_,⟨some ⟨w.heap.size,0,none⟩,xs.length + n,grownCap w (xs.length + n) cap T⟩,hr,k _ _ ?_⟩;have hz0:(Builtin.zeroCells z.cells (grownCap w (xs.length + n) cap T - (xs.length + n))).size=grownCap w (xs.length + n) cap T - (xs.length + n):=by
  simp [Builtin.zeroCells,hzc]
 have hg:=grownCap_ge w (xs.length + n) cap T;have ho':Obj.cells ((xs++ys).toArray++Builtin.zeroCells z.cells (grownCap w (xs.length + n) cap T - (xs.length + n))) T=.cells ((xs++ys)++(Builtin.zeroCells z.cells (grownCap w (xs.length + n) cap T - (xs.length + n))).toList).toArray T (0,0):=by
  congr 1
  apply Array.ext';simp
 have:=Sat.alloc (Obj.cells ((xs++ys).toArray++Builtin.zeroCells z.cells (grownCap w (xs.length + n) cap T - (xs.length + n))) T) (Sat.drew hw);rw [ho'] at this ⊢;have h3:=Own.of_pts this;have e:(⟨some ⟨w.drew.heap.size,0,none⟩,(xs++ys).length,(xs++ys++(Builtin.zeroCells z.cells (grownCap w (xs.length + n) cap T - (xs.length + n))).toList).length⟩:Sl)=⟨some ⟨w.heap.size,0,none⟩,xs.length + n,grownCap w (xs.length + n) cap T⟩:=by
  simp only [List.length_append,Array.length_toList,hz0,World.size_drew,hyn]
  congr 1
  omega
 rw [e] at h3;exact h3
theorem SlR.firsts {xs:List Value} (hr:SlR R.m s xs) (hw:Sat R Hs w):(Builtin.firstCells 1 xs.length (.slice s.a xs.length s.cap)).run P w.drew=.ok xs.toArray w.drew:=by
 by_cases hx:xs=[]
 ·subst hx
  cases ha:s.a with
  |none=>exact run_firstCells_none w.drew 1 0 0 s.cap
  |some a=>exact run_firstCells_some w.drew 1 0 a 0 s.cap [] rfl λ j u hj=>by simp at hj
 ·obtain ⟨b,off,l,T,fr,ha,hb,hl⟩:=hr.mem hx
  rw [ha];refine run_firstCells_some w.drew 1 xs.length ⟨b,off,none⟩ xs.length _ xs (by simp) λ j u hj=>?_;have:=hw.of_ro hb;rw [World.cell?_drew,ZG];simp only [World.cell?,this,Option.isSome_none,Bool.false_eq_true,if_false];exact hl j u hj
theorem Zgl {t1 t2 ty T T':TypeId} {bytes:Nat} (E:El P t1 t2 T bytes) {xs:List Value} {x:Value} {b:Nat} {K:Sl->World->Prop}
  (hc:s.cap=s.len) (hx:x.oneCell'=true) (hb:2 * (xs.length + 1) * bytes<=281474976710656) (hb':xs.length + 1<=9223372036854775807) (hw:Sat R (Zat s xs::pts b (.cells [x].toArray T' (0,0))::Hs) w)
  (k:∀ s' w',Sat R (Own s' T (xs++[x])::Hs) w'->K s' w'):
  ∃ w',∃ t:Sl,(Builtin.append_ #[t1,t2] ty #[.slice s.a s.len s.cap,.slice (some ⟨b,0,none⟩) 1 1]).run P w=.ok (.slice t.a t.len t.cap) w'/\K t w':=by
 obtain ⟨y,hd,hs,hw2,hy⟩:=Zat.lend hw;have hlen:=hs.len;rw [hlen];refine Zis E (Ziw E.hk 1 hw2 hx) (by omega) (hs.firsts hw2) hb hb' hw2 λ s' w' h=>k s' w' ?_;have h2:=Zat.back hd hy h;exact h2.drop.cons λ _ h=>h.drop
end
end Go.VC
namespace Go.Proofs.YthpmfnffkjjlnaaGreat
section
open Go Go.VC Tryz
variable {R R' R1 R2:Cx} {Hs Rest Rest2:List HP} {w:World} {b:Nat} {x:Pe}
def Zix (l:List Int):Prop:=∀ i j (hj:j<l.length),(hij:i<j)->l[i]<l[j]
theorem Znz {a b:Nat} (h:a + b<=1000000000000000000):IntKind.i64.wrap (Zfp .u64 (IntKind.u64.wrap (IntKind.i64.wrap ((a:Int) + b))) 1)=((a + b) / 2:Nat):=by
 rw [Zh (x:=(a:Int) + b) (by omega) (by omega),IntKind.wrap_u64];have e:Zfp .u64 (((a:Int) + b) % 18446744073709551616) 1=(((a + b) / 2:Nat):Int):=by
  unfold Zfp;show Int.fdiv _ 2=_;rw [Int.fdiv_eq_ediv_of_nonneg _ (by omega)];omega
 rw [e,Zh (by omega) (by omega)]
theorem ZjQ {x:Int} (hw:Sat R Hs w):Zj prog 251 #[.int .i64 x] w λ v w'=>v=.bool false/\Sat R Hs w':=by
 apply ZnI;exact ⟨by simp,hw⟩
theorem ZlN {x:Int} (hw:Sat R Hs w):Zj prog 248 #[.int .i64 x] w λ v w'=>v=.bool false/\Sat R Hs w':=by
 apply ZnL;exact ⟨by simp,hw⟩
theorem Zla {x y:Int} (hw:Sat R Hs w):Zj prog 221 #[.int .i64 x,.int .i64 y] w λ v w'=>v=.bool (decide (x<y))/\Sat R Hs w':=by
 apply Zn0;refine (ZlN hw).use ?_;rintro _ w ⟨rfl,hw⟩;exact ⟨_,rfl,Br.f rfl ⟨rfl,hw⟩⟩
theorem ZhJ {s:Sl} {l:List Int} {n:Int} (hs:RoI R s l) (hr:Zix l) (hl:l.length<=1000000000) (hw:Sat R Hs w):
  Zj prog 238 #[.slice s.a s.len s.cap,.int .i64 n] w λ v w'=>∃ (p:Nat) (b:Bool),v=.tuple #[.int .i64 p,.bool b]/\p<=l.length/\(∀ k (h:k<l.length),k<p->l[k]<n)/\(∀ k (h:k<l.length),p<=k->n<=l[k])/\Sat R Hs w':=by
 have hlen:=hs.len;apply ZnQ;refine ⟨λ i j w=>∃ a b:Nat,i=a/\j=b/\a<=b/\b<=l.length/\(∀ k (h:k<l.length),k<a->l[k]<n)/\(∀ k (h:k<l.length),b<=k->n<=l[k])/\Sat R Hs w,λ i j _=>j.toNat - i.toNat,⟨0,l.length,rfl,by rw [hlen],by omega,by omega,λ k _ h=>by omega,λ k h h'=>by omega,hw⟩,?_⟩;clear hw;rintro _ _ _ w ⟨a,b,rfl,rfl,hab,hb,h1,h2,hw⟩;rw [Znz (by omega)];refine Br.d (λ h=>?_) (λ h=>?_)
 ·have hm:(a + b) / 2<l.length:=by omega
  refine Ro.ix hs (eqS hw) ((a + b) / 2) rfl hm ?_;refine (Zla hw).use ?_;rintro _ w ⟨rfl,hw⟩;refine ⟨_,rfl,Br.d (λ h3=>?_) (λ h3=>?_)⟩
  ·rw [show IntKind.i64.wrap ((((a + b) / 2:Nat):Int) + 1)=(((a + b) / 2 + 1:Nat):Int) from Zh (by omega) (by omega)]
   refine ⟨⟨(a + b) / 2 + 1,b,rfl,rfl,by omega,hb,λ k hk hk2=>?_,h2,hw⟩,by dsimp only;omega⟩;by_cases hkm:k=(a + b) / 2
   ·subst hkm;exact h3
   ·have:=hr k ((a + b) / 2) hm (by omega);omega
  ·refine ⟨⟨a,(a + b) / 2,rfl,rfl,by omega,by omega,h1,λ k hk hk2=>?_,hw⟩,by dsimp only;omega⟩
   by_cases hkm:k=(a + b) / 2
   ·subst hkm;omega
   ·have:=hr ((a + b) / 2) k hk (by omega);omega
 ·obtain rfl:a=b:=by omega
  have fin:∀ (t:Bool) w,Sat R Hs w->∃ (p:Nat) (b:Bool),Value.tuple #[.int .i64 a,.bool t]=.tuple #[.int .i64 p,.bool b]/\p<=l.length/\(∀ k (h:k<l.length),k<p->l[k]<n)/\(∀ k (h:k<l.length),p<=k->n<=l[k])/\Sat R Hs w:=λ t w hw=>⟨a,t,rfl,hb,h1,h2,hw⟩;refine Br.d (λ h3=>?_) (λ h3=>fin _ _ hw);have ha:a<l.length:=by omega
  refine Ro.ix hs (eqS hw) a rfl ha ?_;refine Br.e (λ h4=>fin _ _ hw) (λ h4=>?_);refine Ro.ix hs (eqS hw) a rfl ha ?_;refine (ZjQ hw).use ?_;rintro _ w ⟨rfl,hw⟩;exact ⟨_,rfl,Br.f rfl (fin _ _ hw)⟩
structure ZbC (x:Pe):Prop where
 st:x.st=0\/x.st=1\/x.st=2
 m0:0<=x.mt
 m1:x.mt<=1099511627775
 n0:1<=x.nx
 n1:x.nx<=1099511627776
 w0:1<=x.wn
 w1:x.wn<=64
 fl:Zix x.fl
 fn:∀ n∈x.fl,n<x.nx
 fw:(x.fl.length:Int)<=x.wn
 s0:0<=x.sn
 s1:x.sn<=1099511627775
theorem Zix.nil:Zix []:=λ _ _ hj _=>by simp at hj
theorem Zix.drop {l:List Int} (h:Zix l) (k:Nat):Zix (l.drop k):=λ i j hj hij=>by
 rw [List.getElem_drop,List.getElem_drop];exact h _ _ _ (by omega)
theorem Zix.snoc {l:List Int} (h:Zix l) {n:Int} (hn:∀ x∈l,x<n):Zix (l++[n]):=λ i j hj hij=>by
 rw [List.length_append,List.length_singleton] at hj;by_cases hjl:j<l.length
 ·rw [List.getElem_append_left (by omega),List.getElem_append_left hjl]
  exact h i j hjl hij
 ·rw [List.getElem_append_left (show i<l.length by omega),List.getElem_append_right (by omega)]
  simp only [List.getElem_singleton];exact hn _ (List.getElem_mem _)
theorem ZbC.new {nx wn:Int} (h0:1<=nx) (h1:nx<=1099511627776) (h2:1<=wn) (h3:wn<=64):ZbC (Pe.new nx wn):=
 ⟨.inl rfl,Int.le_refl _,by show (0:Int)<=_;omega,h0,h1,h2,h3,.nil,(λ _ h=>by cases h),by show ((0:Nat):Int)<=wn;omega,Int.le_refl _,by show (0:Int)<=_;omega⟩
theorem ZbC.probe {x:Pe} (h:ZbC x) {i:Int} (h0:1<=i) (h1:i<=1099511627776):ZbC (x.probe i):=
 { h with st:=.inl rfl,n0:=h0,n1:=h1,fl:=.nil,fn:=(λ _ h=>by cases h),fw:=by have:=h.w0;show ((0:Nat):Int)<=x.wn;omega }
theorem ZbC.sent {x:Pe} (h:ZbC x) (last:Int):ZbC (x.sent last):=by
 unfold Pe.sent;split
 ·exact h
 ·rename_i hc
  simp only [Bool.or_eq_true,Bool.not_eq_true',decide_eq_true_eq,not_or,Bool.not_eq_false] at hc;split
  ·exact { h with }
  ·split
   ·rename_i h1 h2
    have hn:=h.n0;have hmay:=hc.1.1;unfold Pe.may at hmay;rw [if_neg h1] at hmay;refine { h with n0:=by show 1<=last + 1;omega,n1:=by show last + 1<=_;omega,fl:=h.fl.snoc λ y hy=>by have:=h.fn y hy;omega,fn:=λ y hy=>?_,fw:=?_ }
    ·show y<last + 1
     rcases List.mem_append.1 hy with hy|hy
     ·have:=h.fn y hy;omega
     ·simp at hy;omega
    ·show ((x.fl++[last]).length:Int)<=x.wn
     rw [List.length_append,List.length_singleton];split at hmay
     ·simp only [decide_eq_true_eq] at hmay;omega
     ·cases hmay
   ·exact h
theorem ZbC.install {x:Pe} (h:ZbC x) (i:Int):ZbC (x.install i):=by
 unfold Pe.install;split
 ·exact h
 ·exact { h with st:=.inr (.inr rfl),s0:=by show 0<=i;omega,s1:=by show i<=_;omega,fl:=.nil,fn:=(λ _ h=>by cases h),fw:=by have:=h.w0;show ((0:Nat):Int)<=x.wn;omega }
theorem ZbC.beat {x:Pe} (h:ZbC x):ZbC x.beat:=by
 unfold Pe.beat;split
 ·exact { h with }
 ·split
  ·refine { h with fl:=h.fl.drop 1,fn:=λ n hn=>h.fn n (List.mem_of_mem_drop hn),fw:=?_ }
   have:=h.fw;show ((x.fl.drop 1).length:Int)<=x.wn;rw [List.length_drop];omega
  ·exact h
theorem ZbC.over {x:Pe} (h:ZbC x) (o:Bool):ZbC (x.over o):=by
 have:=h.m0;have:=h.m1;have:=h.s0;have:=h.s1;unfold Pe.over;split
 ·exact h
 ·split<;>exact h.probe (by omega) (by omega)
theorem Zet (hw:Sat R (ZP b x::Hs) w):Zj prog 43 #[.pointer (some ⟨b,0,none⟩)] w λ v w'=>v=.int .i64 x.st/\Sat R (ZP b x::Hs) w':=by
 obtain ⟨s,hw⟩:=ZP.iff.1 hw;apply Zp0;exact Zb.mk rfl ⟨_,At.own (eqS hw) (by exact ⟨rfl,trivial⟩),rfl,ZP.iff.2 ⟨s,hw⟩⟩
theorem ZcW (hw:Sat R (ZP b x::Hs) w):Zj prog 106 #[.pointer (some ⟨b,0,none⟩)] w λ v w'=>v=.int .i64 x.mt/\Sat R (ZP b x::Hs) w':=by
 obtain ⟨s,hw⟩:=ZP.iff.1 hw;apply ZoH;exact Zb.mk rfl ⟨_,At.own (eqS hw) (by exact ⟨rfl,trivial⟩),rfl,ZP.iff.2 ⟨s,hw⟩⟩
theorem Zfw (hw:Sat R (ZP b x::Hs) w):Zj prog 108 #[.pointer (some ⟨b,0,none⟩)] w λ v w'=>v=.int .i64 x.nx/\Sat R (ZP b x::Hs) w':=by
 obtain ⟨s,hw⟩:=ZP.iff.1 hw;apply ZoF;exact Zb.mk rfl ⟨_,At.own (eqS hw) (by exact ⟨rfl,trivial⟩),rfl,ZP.iff.2 ⟨s,hw⟩⟩
theorem Zb8.len {s:Sl} {xs:List Int} (hw:Sat R (Zb8 s xs::Hs) w):s.len=xs.length/\s.len<=s.cap:=by
 obtain ⟨y,_,hs,_,_⟩:=Zat.lend (Zb8.reads hw);have:=hs.len;exact ⟨by simpa using this,hs.cap⟩
theorem Zhd (hw:Sat R (ZP b x::Hs) w):Zj prog 107 #[.pointer (some ⟨b,0,none⟩)] w λ v w'=>v=.bool x.may/\Sat R (ZP b x::Hs) w':=by
 obtain ⟨s,hw⟩:=ZP.iff.1 hw;have hl:=(Zb8.len hw.swap).1;apply ZoG;unfold Pe.may;refine Zb.mk rfl ⟨_,At.own (eqS hw) (by exact ⟨rfl,trivial⟩),Br.e (λ h=>Zb.mk rfl ⟨_,At.own (eqS hw) (by exact ⟨rfl,trivial⟩),by rw [if_pos (by simp [h])],ZP.iff.2 ⟨s,hw⟩⟩) (λ h=>Br.e (λ h2=>?_) (λ h2=>⟨by rw [if_neg (by simp [h]),if_neg (by simp [h2])],ZP.iff.2 ⟨s,hw⟩⟩))⟩;refine Zm hw λ w hw=>Zb.mk rfl ⟨s,At.own Zf (by exact ⟨rfl,trivial⟩),Zb.mk rfl ⟨_,At.own Zf (by exact ⟨rfl,trivial⟩),?_,ZP.iff.2 ⟨s,hw⟩⟩⟩;rw [if_neg (by simp [h]),if_pos (by simp [h2]),hl]
theorem ZbG (i:Int) (hw:Sat R (ZP b x::Hs) w):Zj prog 104 #[.pointer (some ⟨b,0,none⟩),.int .i64 i] w λ v w'=>v=.bool true/\Sat R (ZP b (x.probe i)::Hs) w':=by
 obtain ⟨s,hw⟩:=ZP.iff.1 hw;apply ZoI;refine Zb.mk rfl ?_;refine Za hw (by kernel_rfl) rfl (by simp [Value.cells,Zc]) λ w hw=>?_;refine Zb.mk rfl ?_;refine Za hw (by kernel_rfl) rfl (by simp [Value.cells,Zc]) λ w hw=>?_;refine Zb.mk rfl ?_;refine Za hw (by kernel_rfl) rfl (by simp [Value.cells,Zc]) λ w hw=>?_;refine Zb.mk rfl ?_;refine Za hw (by kernel_rfl) rfl (by simp [Value.cells,Zc]) λ w hw=>?_;have hw:=hw.re (pts b (Za0 (x.probe i) ⟨none,0,0⟩));exact ⟨rfl,ZP.iff.2 ⟨⟨none,0,0⟩,hw.cons λ _ h=>Zb8.own (Own.nil h.drop)⟩⟩
theorem Zhp {k:Nat} (hk:k<=x.fl.length) (hw:Sat R (ZP b x::Hs) w):Zj prog 103 #[.pointer (some ⟨b,0,none⟩),.int .i64 k] w λ v w'=>v=.tuple #[]/\Sat R (ZP b { x with fl:=x.fl.drop k }::Hs) w':=by
 obtain ⟨s,hw⟩:=ZP.iff.1 hw;have hl:=Zb8.len hw.swap;apply ZoJ;refine Zm hw λ w hw=>Zb.mk rfl ⟨s,At.own Zf (by exact ⟨rfl,trivial⟩),Zb.mk rfl ⟨s,At.own Zf (by exact ⟨rfl,trivial⟩),Zb.mk rfl ⟨s,At.own Zf (by exact ⟨rfl,trivial⟩),by omega,by omega,by omega,by omega,by omega,by omega,Zb.mk rfl ?_⟩⟩⟩;rw [Int.toNat_natCast,Int.toNat_natCast];refine Za hw (by kernel_rfl) rfl (by simp [Value.cells,Zc]) λ w hw=>?_;have hw:=hw.re (pts b (Za0 { x with fl:=x.fl.drop k } ⟨ZbB s.a k s.len 1,s.len - k,s.len - k⟩));refine ⟨rfl,ZP.iff.2 ⟨_,hw.cons λ _ h=>?_⟩⟩;have h:=Zb8.reads h;refine Zb8.full rfl ?_;obtain ⟨y,hy,hd,h2⟩:=h;refine ⟨y,?_,hd,h2⟩;have h3:SlR y ⟨s.a,s.len,s.len⟩ (ints x.fl):=⟨hy.len,Nat.le_refl _,hy.mem⟩;have h4:=h3.drop (k:=k) (by rw [List.length_map];exact hk);rwa [<-List.map_drop] at h4
theorem ZjG (ok:ZbC x) (hw:Sat R (ZP b x::Hs) w):Zj prog 42 #[.pointer (some ⟨b,0,none⟩)] w λ v w'=>v=.tuple #[]/\Sat R (ZP b x.beat::Hs) w':=by
 obtain ⟨s,hw⟩:=ZP.iff.1 hw;have hl:=(Zb8.len hw.swap).1;have hw0:=ok.w0;apply Zp1;unfold Pe.beat;refine Zb.mk rfl ⟨_,At.own (eqS hw) (by exact ⟨rfl,trivial⟩),Br.e (λ h=>Zb.mk rfl ?_) (λ h=>?_)⟩
 ·refine Za hw (by kernel_rfl) rfl (by simp [Value.cells,Zc]) λ w hw=>?_
  rw [if_pos (by simp [h])];exact ⟨rfl,ZP.iff.2 ⟨s,hw⟩⟩
 rw [if_neg (by simp [h])];refine Zm hw λ w hw=>Zb.mk rfl ⟨_,At.own Zf (by exact ⟨rfl,trivial⟩),Br.e (λ h2=>Zb.mk rfl ⟨s,At.own Zf (by exact ⟨rfl,trivial⟩),Zb.mk rfl ⟨x.wn,At.own Zf (by exact ⟨rfl,trivial⟩),Br.d (λ h3=>?_) (λ h3=>?_)⟩⟩) (λ h2=>⟨rfl,?_⟩)⟩
 ·rw [if_pos (by simp [h2];omega)]
  refine (Zhp (k:=1) (by omega) (ZP.iff.2 ⟨s,hw⟩)).use ?_;rintro _ w ⟨rfl,hw⟩;exact ⟨rfl,rfl,hw⟩
 ·rw [if_neg (by simp [h2];omega)]
  exact ⟨rfl,ZP.iff.2 ⟨s,hw⟩⟩
 ·rw [if_neg (by simp [h2])]
  exact ZP.iff.2 ⟨s,hw⟩
theorem Zfv (ok:ZbC x) (o:Bool) (hw:Sat R (ZP b x::Hs) w):Zj prog 44 #[.pointer (some ⟨b,0,none⟩),.bool o] w λ v w'=>(∃ t,v=.bool t)/\Sat R (ZP b (x.over o)::Hs) w':=by
 obtain ⟨s,hw⟩:=ZP.iff.1 hw;have h0:=ok.m0;have h1:=ok.m1;have h2:=ok.s0;have h3:=ok.s1;apply ZpZ;unfold Pe.over;refine Zb.mk rfl ⟨_,At.own (eqS hw) (by exact ⟨rfl,trivial⟩),Br.ne (λ h=>⟨⟨_,rfl⟩,by rw [if_pos (by simp [h])];exact ZP.iff.2 ⟨s,hw⟩⟩) (λ h=>Zb.mk rfl ⟨x.mt,At.own (eqS hw) (by exact ⟨rfl,trivial⟩),Br.mk (λ ho=>Zb.mk rfl ⟨x.sn,At.own (eqS hw) (by exact ⟨rfl,trivial⟩),?_⟩) (λ ho=>?_)⟩)⟩
 ·rw [if_neg (show ¬ (x.st !=2)=true by simp [h]),show (if o=true then max (x.mt + 1) (x.sn + 1) else x.mt + 1)=max (x.mt + 1) (x.sn + 1) from if_pos ho,Zh (x:=x.sn + 1) (by omega) (by omega),Zh (x:=x.mt + 1) (by omega) (by omega)]
  rw [show (if x.sn + 1>x.mt + 1 then x.sn + 1 else x.mt + 1)=max (x.mt + 1) (x.sn + 1) by split<;>omega]
  refine (ZbG _ (ZP.iff.2 ⟨s,hw⟩)).use ?_;rintro _ w ⟨rfl,hw⟩;exact ⟨_,rfl,⟨_,rfl⟩,hw⟩
 ·rw [if_neg (show ¬ (x.st !=2)=true by simp [h]),if_neg (show ¬ o=true by rw [ho];simp),Zh (by omega) (by omega)]
  refine (ZbG _ (ZP.iff.2 ⟨s,hw⟩)).use ?_;rintro _ w ⟨rfl,hw⟩;exact ⟨_,rfl,⟨_,rfl⟩,hw⟩
theorem Zgo (i:Int) (hw:Sat R (ZP b x::Hs) w):Zj prog 109 #[.pointer (some ⟨b,0,none⟩),.int .i64 i] w λ v w'=>(∃ t:Int,v=.int .i64 t)/\Sat R (ZP b (x.install i)::Hs) w':=by
 apply ZoE;unfold Pe.install;refine ⟨λ w=>¬ (i<0\/i>1099511627775)/\Sat R (ZP b x::Hs) w,Br.d (λ h=>⟨⟨_,rfl⟩,by rw [if_pos (.inl h)];exact hw⟩) (λ h=>Br.d (λ h2=>⟨⟨_,rfl⟩,by rw [if_pos (.inr h2)];exact hw⟩) (λ h2=>⟨by omega,hw⟩)),?_⟩;clear hw;rintro _ w ⟨hc,hw⟩;rw [if_neg hc];obtain ⟨s,hw⟩:=ZP.iff.1 hw;refine Zb.mk rfl ?_;refine Za hw (by kernel_rfl) rfl (by simp [Value.cells,Zc]) λ w hw=>?_;refine Zb.mk rfl ?_;refine Za hw (by kernel_rfl) rfl (by simp [Value.cells,Zc]) λ w hw=>?_;refine Zb.mk rfl ?_;refine Za hw (by kernel_rfl) rfl (by simp [Value.cells,Zc]) λ w hw=>?_;refine Zb.mk rfl ?_;refine Za hw (by kernel_rfl) rfl (by simp [Value.cells,Zc]) λ w hw=>?_;have hw:=hw.re (pts b (Za0 { x with st:=2,sn:=i,wt:=false,fl:=[] } ⟨none,0,0⟩));exact ⟨⟨_,rfl⟩,ZP.iff.2 ⟨⟨none,0,0⟩,hw.cons λ _ h=>Zb8.own (Own.nil h.drop)⟩⟩
theorem ZjD (ok:ZbC x) (last:Int) (hw:Sat R (ZP b x::Hs) w):Zj prog 110 #[.pointer (some ⟨b,0,none⟩),.int .i64 last] w λ v w'=>(∃ t:Int,v=.int .i64 t)/\Sat R (ZP b (x.sent last)::Hs) w':=by
 have h0:=ok.n0;have h1:=ok.n1;apply ZoD;unfold Pe.sent;obtain ⟨c,hc⟩:∃ c,c=(!x.may||decide (last<x.nx - 1)||decide (last>1099511627775)):=⟨_,rfl⟩;rw [<-hc];refine ⟨λ t w=>t=c/\Sat R (ZP b x::Hs) w,?_,?_⟩
 ·refine (Zhd hw).use ?_
  clear hw;rintro _ w ⟨rfl,hw⟩;refine ⟨_,rfl,Br.nb (λ h=>⟨by rw [hc,h];rfl,hw⟩) (λ h=>?_)⟩;obtain ⟨s,hw⟩:=ZP.iff.1 hw;refine Zb.mk rfl ⟨_,At.own (eqS hw) (by exact ⟨rfl,trivial⟩),?_⟩;rw [Zh (by omega) (by omega)];refine Br.d (λ h2=>⟨by rw [hc,h,decide_eq_true h2];rfl,ZP.iff.2 ⟨s,hw⟩⟩) (λ h2=>⟨by rw [hc,h,decide_eq_false h2];rfl,ZP.iff.2 ⟨s,hw⟩⟩)
 clear hw;rintro _ t w ⟨rfl,hw⟩;refine Br.mk (λ h=>⟨⟨_,rfl⟩,by rw [if_pos h];exact hw⟩) (λ h=>?_);rw [if_neg (by rw [h];simp)];rw [h] at hc;have hc:=hc.symm;simp only [Bool.or_eq_false_iff,Bool.not_eq_false',decide_eq_false_iff_not] at hc;obtain ⟨s,hw⟩:=ZP.iff.1 hw;refine Zb.mk rfl ⟨_,At.own (eqS hw) (by exact ⟨rfl,trivial⟩),Br.e (λ h2=>Zb.mk rfl ?_) (λ h2=>Zb.mk rfl ⟨_,At.own (eqS hw) (by exact ⟨rfl,trivial⟩),Br.d (λ h3=>Zb.mk rfl ?_) (λ h3=>⟨⟨_,rfl⟩,?_⟩)⟩)⟩
 ·refine Za hw (by kernel_rfl) rfl (by simp [Value.cells,Zc]) λ w hw=>?_
  rw [if_pos (by simp [h2])];exact ⟨⟨_,rfl⟩,ZP.iff.2 ⟨s,hw⟩⟩
 ·rw [Zh (by omega) (by omega)]
  refine Za hw (by kernel_rfl) rfl (by simp [Value.cells,Zc]) λ w hw=>?_;rw [if_neg (by simp [h2]),if_pos h3];have hw:=hw.re (pts b (Za0 { x with nx:=last + 1 } s));refine Zb.mk rfl ⟨s,At.own (eqS hw) (by exact ⟨rfl,trivial⟩),Zd hw λ b2 w hw=>?_⟩;have hfw:=ok.fw;have hw1:=ok.w1;have fin:∀ s' w',Sat R (Own s' 3 (ints x.fl++[.int .i64 last])::pts b (Za0 { x with nx:=last + 1 } s)::Hs) w'->
    Zb (some ⟨b,0,none⟩) λ a_t51=>∃ w_7:World,((Instr.storeAt 30 (.pointer ((some ⟨a_t51.block,a_t51.off + 5,none⟩))) (.slice s'.a s'.len s'.cap)).run prog w'=.ok () w_7)/\
     (∃ t:Int,Value.int .i64 0=.int .i64 t)/\Sat R (ZP b { x with nx:=last + 1,fl:=x.fl++[last] }::Hs) w_7:=λ s' w' hw=>by
   refine Zb.mk rfl ?_;have hw:=hw.swap;refine Za hw (by kernel_rfl) rfl (by simp [Value.cells,Zc]) λ w hw=>?_;have hw:=hw.re (pts b (Za0 { x with nx:=last + 1,fl:=x.fl++[last] } s'));exact ⟨⟨_,rfl⟩,ZP.iff.2 ⟨s',hw.cons λ _ h=>Zb8.own (by show Sat _ (Own s' 3 (ints (x.fl++[last]))::Hs) _;rw [show ints (x.fl++[last])=ints x.fl++[Value.int .i64 last] from List.map_append];exact h)⟩⟩
  have hw:=hw.take (Zb8 s x.fl);rcases Zb8.cases hw with h4|⟨h4,hcap⟩
  ·refine Zbj Zcj h4 (Ziw Zcj.hk 1 h4 rfl) (Zh4 _) (by rw [List.length_map];omega) (by rw [List.length_map];omega) λ s' w' h=>fin s' w' ?_
   exact h.cons λ _ h=>h.drop
  ·exact Zgl Zcj hcap rfl (by rw [List.length_map];omega) (by rw [List.length_map];omega) h4 λ s' w' h=>fin s' w' h
 ·rw [if_neg (by simp [h2]),if_neg h3]
  exact ZP.iff.2 ⟨s,hw⟩
end
section
open Go Go.VC Tryz
variable {R R' R1:Cx} {Hs Rest Rest2:List HP} {w:World} {b:Nat} {x:Pe}
theorem Zep:∀ {l:List Int} {i:Int} {k:Nat},Zix l->k<=l.length->(∀ j (hj:j<l.length),j<k->l[j]<=i)->(∀ j (hj:j<l.length),k<=j->i<l[j])->l.drop k=l.filter λ n=>decide (n>i)
 |[],_,k,_,_,_,_=>by simp
 |a::l,i,0,_,_,_,h2=>by
  rw [List.drop_zero,List.filter_eq_self.2];intro y hy;obtain ⟨j,hj,rfl⟩:=List.getElem_of_mem hy;simpa using h2 j hj (Nat.zero_le _)
 |a::l,i,k + 1,hr,hk,h1,h2=>by
  have ha:a<=i:=h1 0 (by simp) (by omega);rw [List.drop_succ_cons,List.filter_cons_of_neg (by simp;omega)];refine Zep (hr.drop 1) (by simpa using hk) (λ j hj hjk=>?_) (λ j hj hjk=>?_)
  ·exact h1 (j + 1) (by simpa using hj) (by omega)
  ·exact h2 (j + 1) (by simpa using hj) (by omega)
theorem Zix.filter {l:List Int} (h:Zix l) (p:Int->Bool):Zix (l.filter p):=by
 have hp:l.Pairwise (·<·):=List.pairwise_iff_getElem.2 λ i j hi hj hij=>h i j hj hij;have:=hp.filter p;exact λ i j hj hij=>List.pairwise_iff_getElem.1 this i j (by omega) hj hij
theorem ZbC.acked {x:Pe} (h:ZbC x) (i:Int):ZbC (x.acked i).2:=by
 have a0:=h.m0;have a1:=h.m1;have a2:=h.n0;have a3:=h.n1;have a4:=h.w0;unfold Pe.acked;split
 ·exact h
 ·rename_i hc
  have hy:ZbC { x with mt:=max x.mt i,nx:=max x.nx (max x.mt i + 1) }:={ h with m0:=by show 0<=max x.mt i;omega,m1:=by show max x.mt i<=_;omega,n0:=by show 1<=max x.nx _;omega,n1:=by show max x.nx _<=_;omega,fn:=λ n hn=>by have:=h.fn n hn;show n<max x.nx _;omega };dsimp only;split
  ·exact { hy with st:=.inr (.inl rfl),fl:=.nil,fn:=(λ _ h=>by cases h),fw:=by show ((0:Nat):Int)<=x.wn;omega }
  ·split
   ·refine { hy with fl:=hy.fl.filter _,fn:=λ n hn=>hy.fn n (List.mem_filter.1 hn).1,fw:=?_ }
    have h1:=h.fw;have h2:=List.length_filter_le (λ n=>decide (n>i)) x.fl;show ((x.fl.filter _).length:Int)<=x.wn;omega
   ·split
    ·exact hy.probe hy.n0 hy.n1
    ·exact hy
theorem ZbC.refused {x:Pe} (h:ZbC x) (i hint:Int):ZbC (x.refused i hint).2:=by
 have a0:=h.m0;have a1:=h.m1;have a2:=h.n0;have a3:=h.n1;unfold Pe.refused;dsimp only;split
 ·rename_i hc
  simp only [Bool.and_eq_true,beq_iff_eq] at hc;exact h.probe (by omega) (by omega)
 ·split
  ·exact h.probe (by omega) (by omega)
  ·exact h
theorem Zb8.lend {s:Sl} {xs:List Int} (hl:xs.length<=1000) (hw:Sat R (Zb8 s xs::Hs) w):∃ R',RoI R' s xs/\Sat R' Hs w/\∀ {Hs' w'},Sat R' Hs' w'->Sat R (Zb8 s xs::Hs') w':=by
 rcases Zb8.cases hw with h|⟨h,hc⟩
 ·obtain ⟨R',h1,_,h2,back⟩:=Own.lendI h (by omega)
  exact ⟨R',h1,h2,λ h=>Zb8.own (back h)⟩
 ·obtain ⟨R',_,h1,h2,back⟩:=Zat.out h
  exact ⟨R',h1.ro (by rw [List.length_map];omega),h2,λ h=>Zb8.full hc (back _ _ h)⟩
theorem Zh2 (ok:ZbC x) (i:Int) (hw:Sat R (ZP b x::Hs) w):Zj prog 191 #[.pointer (some ⟨b,0,none⟩),.int .i64 i] w λ v w'=>v=.bool (x.acked i).1/\Sat R (ZP b (x.acked i).2::Hs) w':=by
 apply Zn7;obtain ⟨A,hA⟩:∃ A,A=x.acked i:=⟨_,rfl⟩;rw [<-hA];unfold Pe.acked at hA;have a0:=ok.m0;have a1:=ok.m1;refine ⟨λ w=>¬ (i<0\/i>1099511627775)/\Sat R (ZP b x::Hs) w,?_,?_⟩
 ·refine Br.d (λ h=>by rw [hA,if_pos (.inl h)];exact ⟨rfl,hw⟩) λ h=>Br.d (λ h2=>by rw [hA,if_pos (.inr h2)];exact ⟨rfl,hw⟩) λ h2=>⟨by omega,hw⟩
 clear hw;rintro _ w ⟨hc,hw⟩;rw [if_neg hc] at hA;obtain ⟨s,hw⟩:=ZP.iff.1 hw;refine Zb.mk rfl ⟨x.mt,At.own (eqS hw) (by exact ⟨rfl,trivial⟩),Zb.mk rfl ⟨x.mt,At.own (eqS hw) (by exact ⟨rfl,trivial⟩),Zb.mk rfl ?_⟩⟩;rw [show (if i>x.mt then i else x.mt)=max x.mt i by split<;>omega]
 refine Za hw (by kernel_rfl) rfl (by simp [Value.cells,Zc]) λ w hw=>?_;refine Zm hw λ w hw=>Zb.mk rfl ⟨x.nx,At.own Zf (by exact ⟨rfl,trivial⟩),Zb.mk rfl ⟨max x.mt i,At.own Zf (by exact ⟨rfl,trivial⟩),Zb.mk rfl ?_⟩⟩;rw [Zh (by omega) (by omega),show (if max x.mt i + 1>x.nx then max x.mt i + 1 else x.nx)=max x.nx (max x.mt i + 1) by split<;>omega]
 refine Za hw (by kernel_rfl) rfl (by simp [Value.cells,Zc]) λ w hw=>?_;obtain ⟨y,hy⟩:∃ y:Pe,y={ x with mt:=max x.mt i,nx:=max x.nx (max x.mt i + 1) }:=⟨_,rfl⟩;have hw:=hw.re (pts b (Za0 { x with mt:=max x.mt i,nx:=max x.nx (max x.mt i + 1) } s));rw [<-hy] at hw hA;have hst:y.st=x.st:=by rw [hy]
 have hfl:y.fl=x.fl:=by rw [hy]
 have hsn:y.sn=x.sn:=by rw [hy]
 have hxf:Sat R (pts b (Za0 y s)::Zb8 s y.fl::Hs) w:=by rw [hfl];exact hw
 clear hw;have hw:=hxf;clear hxf;dsimp only at hA;refine Zb.mk rfl ⟨y.st,At.own (eqS hw) (by exact ⟨rfl,trivial⟩),Br.e (λ h=>Zb.mk rfl ?_) (λ h=>?_)⟩
 ·rw [if_pos (by rw [<-hst,h];rfl)] at hA
  refine Za hw (by kernel_rfl) rfl (by simp [Value.cells,Zc]) λ w hw=>?_;refine Zb.mk rfl ?_;refine Za hw (by kernel_rfl) rfl (by simp [Value.cells,Zc]) λ w hw=>?_;refine Zb.mk rfl ?_;refine Za hw (by kernel_rfl) rfl (by simp [Value.cells,Zc]) λ w hw=>?_;rw [hA];have hw:=hw.re (pts b (Za0 { y with st:=1,wt:=false,fl:=[] } ⟨none,0,0⟩));exact ⟨rfl,ZP.iff.2 ⟨⟨none,0,0⟩,hw.cons λ _ h=>Zb8.own (Own.nil h.drop)⟩⟩
 rw [if_neg (by rw [<-hst];simpa using h)] at hA;refine Br.e (λ h2=>Zb.mk rfl ⟨s,At.own (eqS hw) (by exact ⟨rfl,trivial⟩),?_⟩) (λ h2=>?_)
 ·rw [if_pos (by rw [<-hst,h2];rfl)] at hA
  rw [Zh (by omega) (by omega)];have hbd:y.fl.length<=64:=by rw [hfl];have:=ok.fw;have:=ok.w1;omega
  have hry:Zix y.fl:=by rw [hfl];exact ok.fl
  obtain ⟨R2,hro,hw2,back⟩:=Zb8.lend (by omega) hw.swap;refine (ZhJ hro hry (by omega) hw2).use ?_;clear hw hw2;rintro _ w ⟨k,f,rfl,hk,h3,h4,hw⟩;have hw:=(back hw).swap;refine ⟨_,_,rfl,?_⟩;refine (Zhp hk (ZP.iff.2 ⟨s,hw⟩)).use ?_;rintro _ w ⟨rfl,hw⟩;rw [Zep (i:=i) hry hk (λ j hj hjk=>by have:=h3 j hj hjk;omega) (λ j hj hjk=>by have:=h4 j hj hjk;omega)] at hw;rw [hA];exact ⟨rfl,rfl,hw⟩
 rw [if_neg (by rw [<-hst];simpa using h2)] at hA;refine Br.e (λ h3=>Zb.mk rfl ⟨y.sn,At.own (eqS hw) (by exact ⟨rfl,trivial⟩),Br.d (λ h4=>Zb.mk rfl ⟨y.nx,At.own (eqS hw) (by exact ⟨rfl,trivial⟩),?_⟩) (λ h4=>?_)⟩) (λ h3=>?_)
 ·rw [if_pos (by rw [<-hst,h3,<-hsn,decide_eq_true h4];rfl)] at hA
  refine (ZbG _ (ZP.iff.2 ⟨s,hw⟩)).use ?_;rintro _ w ⟨rfl,hw⟩;rw [hA];exact ⟨_,rfl,rfl,hw⟩
 ·rw [if_neg (by rw [<-hsn,decide_eq_false h4,Bool.and_false];simp)] at hA
  rw [hA];exact ⟨rfl,ZP.iff.2 ⟨s,hw⟩⟩
 ·rw [if_neg (by rw [<-hst,show (y.st==2)=false by simpa using h3];simp)] at hA
  rw [hA];exact ⟨rfl,ZP.iff.2 ⟨s,hw⟩⟩
theorem Zgm (ok:ZbC x) (i hint:Int) (hw:Sat R (ZP b x::Hs) w):Zj prog 192 #[.pointer (some ⟨b,0,none⟩),.int .i64 i,.int .i64 hint] w λ v w'=>v=.bool (x.refused i hint).1/\Sat R (ZP b (x.refused i hint).2::Hs) w':=by
 apply Zn6;obtain ⟨A,hA⟩:∃ A,A=x.refused i hint:=⟨_,rfl⟩;rw [<-hA];unfold Pe.refused at hA;have a0:=ok.m0;have a1:=ok.m1;have a2:=ok.n0;have a3:=ok.n1;obtain ⟨h,hh⟩:∃ h,h=if hint<0\/hint>1099511627776 then 0 else hint:=⟨_,rfl⟩
 rw [<-hh] at hA;dsimp only at hA;have hb:0<=h/\h<=1099511627776:=by rw [hh];split<;>omega
 refine ⟨λ z w=>z=h/\Sat R (ZP b x::Hs) w,Br.d (λ h1=>⟨by rw [hh,if_pos (.inl h1)],hw⟩) (λ h1=>Br.d (λ h2=>⟨by rw [hh,if_pos (.inr h2)],hw⟩) (λ h2=>⟨by rw [hh,if_neg (by omega)],hw⟩)),?_⟩;clear hw;rintro _ z w ⟨hz,hw⟩;rw [hz];obtain ⟨s,hw⟩:=ZP.iff.1 hw;refine ⟨λ z w=>z=(x.st==0 && i==x.nx - 1)/\Sat R (pts b (Za0 x s)::Zb8 s x.fl::Hs) w,Zb.mk rfl ⟨x.st,At.own (eqS hw) (by exact ⟨rfl,trivial⟩),Br.e (λ h1=>Zb.mk rfl ⟨x.nx,At.own (eqS hw) (by exact ⟨rfl,trivial⟩),?_,hw⟩) (λ h1=>⟨by rw [show (x.st==0)=false by simpa using h1];rfl,hw⟩)⟩,?_⟩
 ·rw [Zh (by omega) (by omega),show (x.st==0)=true by simpa using h1];rfl
 clear hw;rintro _ _ w ⟨rfl,hw⟩;refine Br.mk (λ h1=>Zb.mk rfl ⟨x.mt,At.own (eqS hw) (by exact ⟨rfl,trivial⟩),?_⟩) (λ h1=>?_)
 ·rw [if_pos h1] at hA
  rw [Zh (x:=h + 1) (by omega) (by omega),Zh (x:=x.mt + 1) (by omega) (by omega)];have e1:(if h + 1<i then h + 1 else i)=min i (h + 1):=by split<;>omega
  rw [e1,show (if x.mt + 1>min i (h + 1) then x.mt + 1 else min i (h + 1))=max (min i (h + 1)) (x.mt + 1) by split<;>omega]
  refine (ZbG _ (ZP.iff.2 ⟨s,hw⟩)).use ?_;rintro _ w ⟨rfl,hw⟩;rw [hA];exact ⟨_,rfl,rfl,hw⟩
 rw [if_neg (by rw [h1];simp)] at hA;refine Zb.mk rfl ⟨x.st,At.own (eqS hw) (by exact ⟨rfl,trivial⟩),Br.e (λ h2=>Zb.mk rfl ⟨x.mt,At.own (eqS hw) (by exact ⟨rfl,trivial⟩),Br.d (λ h3=>Zb.mk rfl ⟨x.mt,At.own (eqS hw) (by exact ⟨rfl,trivial⟩),?_⟩) (λ h3=>?_)⟩) (λ h2=>?_)⟩
 ·rw [if_pos (by rw [h2,decide_eq_true h3];rfl)] at hA
  rw [Zh (by omega) (by omega)];refine (ZbG _ (ZP.iff.2 ⟨s,hw⟩)).use ?_;rintro _ w ⟨rfl,hw⟩;rw [hA];exact ⟨_,rfl,rfl,hw⟩
 ·rw [if_neg (by rw [decide_eq_false h3,Bool.and_false];simp)] at hA
  rw [hA];exact ⟨rfl,ZP.iff.2 ⟨s,hw⟩⟩
 ·rw [if_neg (by rw [show (x.st==1)=false by simpa using h2];simp)] at hA
  rw [hA];exact ⟨rfl,ZP.iff.2 ⟨s,hw⟩⟩
end
section
open Go Go.VC Tryz
variable {v l:List Int} {n:Int}
theorem ZaL:Zo v l=true↔ZM 0 v=true/\ZM 0 l=true/\v≠[]/\∀ m∈v,ZS l m=false:=by
 simp only [Zo,Bool.and_eq_true,Zc2,List.all_eq_true,Bool.not_eq_true',decide_eq_true_eq,and_assoc,gt_iff_lt,List.length_pos_iff]
theorem Zdz:∀ {l:List Int} {a:Int},ZM a l=true->a<n->n<=15->ZS l n=false->ZM a (Zbl n l)=true
 |[],a,_,h0,h1,_=>by simp [Zbl,ZM];omega
 |x::l,a,h,h0,h1,hn=>by
  simp only [ZM,Bool.and_eq_true,Bool.not_eq_true',decide_eq_false_iff_not] at h;simp only [ZS,Bool.or_eq_false_iff,beq_eq_false_iff_ne,ne_eq] at hn;unfold Zbl;split
  ·simp only [ZM,Bool.and_eq_true,Bool.not_eq_true',decide_eq_false_iff_not]
   exact ⟨by omega,by omega,h.2⟩
  ·simp only [ZM,Bool.and_eq_true,Bool.not_eq_true',decide_eq_false_iff_not]
   exact ⟨h.1,Zdz h.2 (by omega) h1 hn.2⟩
theorem Zjw:∀ {l:List Int} {a b:Int},ZM a l=true->b<=a->ZM b l=true
 |[],_,_,_,_=>rfl
 |x::l,a,b,h,hb=>by
  simp only [ZM,Bool.and_eq_true,Bool.not_eq_true',decide_eq_false_iff_not] at h ⊢;exact ⟨by omega,h.2⟩
theorem Zbr (p:Int->Bool):∀ {l:List Int} {a:Int},ZM a l=true->ZM a (l.filter p)=true
 |[],_,_=>rfl
 |x::l,a,h=>by
  simp only [ZM,Bool.and_eq_true,Bool.not_eq_true',decide_eq_false_iff_not] at h;have ih:=Zbr p h.2;rw [List.filter_cons];split
  ·simp only [ZM,Bool.and_eq_true,Bool.not_eq_true',decide_eq_false_iff_not];exact ⟨h.1,ih⟩
  ·exact Zjw ih (by omega)
theorem ZgA {m:Int}:ZS (Zbl n l) m=(m==n||ZS l m):=by
 have h:ZS (Zbl n l) m=true↔(m==n||ZS l m)=true:=by
  rw [ZU,(ZaP n l).mem_iff,Bool.or_eq_true,ZU];simp
 cases h1:ZS (Zbl n l) m<;>cases h2:(m==n||ZS l m)<;>simp_all
theorem ZeG {m:Int}:ZS (Zk n l) m=(m !=n && ZS l m):=by
 have h:ZS (Zk n l) m=true↔(m !=n && ZS l m)=true:=by
  rw [ZU,Zk,List.mem_filter,Bool.and_eq_true,ZU];exact ⟨λ h=>⟨h.2,h.1⟩,λ h=>⟨h.2,h.1⟩⟩
 cases h1:ZS (Zk n l) m<;>cases h2:(m !=n && ZS l m)<;>simp_all
theorem Zm6:Zbl n l≠[]:=λ h=>by
 have:=(ZaP n l).length_eq;rw [h] at this;simp at this
theorem Zl1:(Zbl n l).length=l.length + 1:=by
 have:=(ZaP n l).length_eq;simpa using this
theorem ZkJ (h:Zo v l=true) (hv:ZS v n=false) (hl:ZS l n=false) (h0:1<=n) (h1:n<=15):Zo v (Zbl n l)=true:=by
 obtain ⟨a,b,c,d⟩:=ZaL.1 h;refine ZaL.2 ⟨a,Zdz b (by omega) h1 hl,c,λ m hm=>?_⟩;rw [ZgA,d m hm,Bool.or_false,beq_eq_false_iff_ne];intro e;subst e;have:=ZU.2 hm;rw [hv] at this;cases this
theorem Zgc (h:Zo v l=true) (hl:ZS l n=true) (h0:1<=n) (h1:n<=15):Zo (Zbl n v) (Zk n l)=true:=by
 obtain ⟨a,b,c,d⟩:=ZaL.1 h;refine ZaL.2 ⟨Zdz a (by omega) h1 (ZdA h hl),Zbr _ b,Zm6,λ m hm=>?_⟩;rw [ZeG];have:=ZU.2 hm;rw [ZgA] at this;cases hm2:(m==n)
 ·rw [hm2,Bool.false_or] at this
  rw [d m (ZU.1 this),Bool.and_false]
 ·simp [bne,hm2]
theorem ZdR (h:Zo v l=true) (hc:Zk n v≠[]):Zo (Zk n v) (Zk n l)=true:=by
 obtain ⟨a,b,c,d⟩:=ZaL.1 h;refine ZaL.2 ⟨Zbr _ a,Zbr _ b,hc,λ m hm=>?_⟩;rw [ZeG,d m (List.mem_filter.1 hm).1,Bool.and_false]
structure ZdP (v l:List Int) (n:Int) (a b:List Int):Prop where
 was:Zo v l=true
 right:Zo a b=true
 how:a=v\/(a=Zbl n v)\/(a=Zk n v/\ZS v n=true)
theorem Zc6 {kind:Int} {a b:List Int} (h:chG v l kind n=(a,b,0)):ZdP v l n a b:=by
 by_cases ok:ZoT v l kind n
 ·rw [ok.eq] at h
  split at h
  ·split at h
   ·cases h
   ·rename_i hc
    simp only [Bool.or_eq_true,not_or,Bool.not_eq_true] at hc;cases h;rw [Zax hc.1];exact ⟨ok.right,ZkJ ok.right hc.1 hc.2 ok.n0 ok.n1,.inl rfl⟩
  ·split at h
   ·split at h
    ·cases h
    ·rename_i hc
     simp only [Bool.not_eq_true',Bool.not_eq_false] at hc;cases h;exact ⟨ok.right,Zgc ok.right hc ok.n0 ok.n1,.inr (.inl rfl)⟩
   ·split at h
    ·cases h
    ·rename_i hc
     cases h;simp only [Bool.or_eq_true,Bool.and_eq_true,not_or,Bool.not_eq_true',not_and,Bool.not_eq_false,beq_iff_eq] at hc;cases hv:ZS v n
     ·rw [Zax hv]
      have:=ZdR (n:=n) ok.right (by rw [Zax hv];exact (ZaL.1 ok.right).2.2.1);rw [Zax hv] at this;exact ⟨ok.right,this,.inl rfl⟩
     ·have hl:=Zbe (Zay (Zp ok.right)) hv
      have h1:=hc.2 hv;have hp:=Zde ok.right;refine ⟨ok.right,ZdR ok.right λ e=>?_,.inr (.inr ⟨rfl,hv⟩)⟩;rw [e] at hl;simp at hl;omega
 ·have:chG v l kind n=([],[],1):=by
   refine ZbX ?_;cases hr:Zo v l
   ·exact .inl rfl
   ·refine .inr ?_
    by_cases h1:kind<1
    ·exact .inl h1
    ·by_cases h2:kind>3
     ·exact .inr (.inl h2)
     ·by_cases h3:n<1
      ·exact .inr (.inr (.inl h3))
      ·by_cases h4:n>15
       ·exact .inr (.inr (.inr h4))
       ·exact absurd ⟨hr,by omega,by omega,by omega,by omega⟩ ok
  rw [this] at h;cases h
theorem ZlJ (v l:List Int) (kind n:Int):chG v l kind n=([],[],1)\/chG v l kind n=([],[],7)\/∃ a b,chG v l kind n=(a,b,0):=by
 unfold chG;split
 ·exact .inl rfl
 split<;>split<;>first|exact .inr (.inl rfl)|exact .inr (.inr ⟨_,_,rfl⟩)|skip
 all_goals split
 all_goals first|exact .inr (.inl rfl)|exact .inr (.inr ⟨_,_,rfl⟩)
theorem ZnG (v l:List Int) (kind n:Int):(chG v l kind n).1.length<=1000/\(chG v l kind n).2.1.length<=1000:=by
 rcases ZlJ v l kind n with h|h|⟨a,b,h⟩
 ·rw [h];simp
 ·rw [h];simp
 ·have:=Zc6 h
  rw [h];have h1:=Zv (Zp this.right);have h2:=Zv (ZO this.right);simp only;omega
theorem Zdo (p q:Int->Bool):∀ v:List Int,Zt p v + Zt q v<=v.length + Zt (λ m=>p m && q m) v
 |[]=>by simp [Zt]
 |m::v=>by
  have ih:=Zdo p q v;unfold Zt at *;simp only [List.filter_cons,List.length_cons];cases hp:p m<;>cases hq:q m<;>simp<;>omega
theorem ZeU {p:Int->Bool} {v:List Int} (h:0<Zt p v):∃ m∈v,p m=true:=by
 unfold Zt at h;have:0<(v.filter p).length:=by omega
 obtain ⟨m,hm⟩:=List.exists_mem_of_length_pos this;exact ⟨m,List.mem_filter.1 hm⟩
theorem Zj3 (p:Int->Bool):Zt p (Zbl n v)=Zt p v + if p n then 1 else 0:=by
 rw [Zc3 p (ZaP n v)];unfold Zt;rw [List.filter_cons];split<;>simp
theorem Zdn (p:Int->Bool):∀ {v:List Int},v.Nodup->Zt p v<=Zt p (Zk n v) + 1
 |[],_=>by simp [Zt,Zk]
 |x::v,hd=>by
  obtain ⟨h1,h2⟩:=List.nodup_cons.1 hd;by_cases hx:x=n
  ·subst hx
   have hv:ZS v x=false:=by
    cases hv:ZS v x
    ·rfl
    ·exact absurd (ZU.1 hv) h1
   have:Zk x (x::v)=Zk x v:=by simp [Zk]
   rw [this,Zax hv];unfold Zt;rw [List.filter_cons];split<;>simp;omega
  ·have:Zk n (x::v)=x::Zk n v:=by simp [Zk,hx]
   rw [this];have ih:=Zdn p h2;unfold Zt at *;rw [List.filter_cons,List.filter_cons];split<;>simp<;>omega
theorem Zo9 {a b x0 x1:List Int} (h:ZdP v l n a b) (w0:ZaE v l x0=true) (w1:ZaE a b x1=true):∃ m∈v,ZS x0 m=true/\ZS x1 m=true/\ZS a m=true:=by
 unfold ZaE Zgs at w0 w1;simp only [Bool.and_eq_true,decide_eq_true_eq,h.was,h.right,if_true,true_and] at w0 w1;have nd:=Zay (Zp h.was);rcases h.how with rfl|rfl|⟨rfl,hv⟩
 ·have hc:=Zdo (ZS x0) (ZS x1) a
  obtain ⟨m,hm,hp⟩:=ZeU (p:=λ m=>ZS x0 m && ZS x1 m) (v:=a) (by omega);simp only [Bool.and_eq_true] at hp;exact ⟨m,hm,hp.1,hp.2,ZU.2 hm⟩
 ·have hc:=Zdo (ZS x0) (ZS x1) v
  rw [Zl1,Zj3] at w1;obtain ⟨m,hm,hp⟩:=ZeU (p:=λ m=>ZS x0 m && ZS x1 m) (v:=v) (by split at w1<;>omega);simp only [Bool.and_eq_true] at hp;exact ⟨m,hm,hp.1,hp.2,by rw [ZgA,ZU.2 hm,Bool.or_true]⟩
 ·have hc:=Zdo (ZS x0) (ZS x1) (Zk n v)
  have h1:=Zdn (n:=n) (ZS x0) nd;have h2:=Zbe nd hv;obtain ⟨m,hm,hp⟩:=ZeU (p:=λ m=>ZS x0 m && ZS x1 m) (v:=Zk n v) (by omega);simp only [Bool.and_eq_true] at hp;exact ⟨m,(List.mem_filter.1 hm).1,hp.1,hp.2,ZU.2 hm⟩
end
end Go.Proofs.YthpmfnffkjjlnaaGreat
