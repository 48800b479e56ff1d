/- Reference 18: flight among a book's; told. Condition: bounds. -/
import Derived.Test.YtlplemdmegpoeaaGreatDoorB6
import Derived.Test.YtlplemdmegpoeaaGreatDoorB5
import Derived.Test.YtlplemdmegpoeaaGreatDoorB4
set_option linter.unusedVariables false
set_option linter.unusedSimpArgs false
set_option maxHeartbeats 8000000
namespace Go.Proofs.YtlplemdmegpoeaaGreatDoor
section
open Go Go.VC Tryz
open Classical
variable {R:Cx} {Hs Rest:List HP} {w:World} {p:Nat} {now next:Int} {L:List Bk} {sf sb:Sl} {fs:List FE}
theorem Zav {b:ZE} {n:Int} (k:Core b) (hfl:fs.map (λ e=>e.2.2)=b.fl) (hw:Sat R (RBO p now next L sf sb fs Hs) w):
  Zk prog 58 #[nP p,nI n] w λ v w'=>(∃ i:Int,v=nI i/\((i=-1/\b.at n=none)\/∃ A f q C pl,i=(A.length:Nat)/\fs=A++(f,q,pl)::C/\b.at n=some pl))/\Sat R (RBO p now next L sf sb fs Hs) w':=by
 have hl:fs.length=b.fl.length:=by rw [<-hfl,List.length_map]
 have h8:=k.few;refine (ZkE (n:=n) (by omega) hw).mono ?_;rintro v w' ⟨⟨i,rfl,hi⟩,hw⟩;refine ⟨⟨i,rfl,?_⟩,hw⟩;rcases hi with ⟨h1,h2⟩|⟨j,h1,hj,hn⟩
 ·refine .inl ⟨h1,?_⟩
  cases hb:b.at n with
  |none=>rfl
  |some x=>
   obtain ⟨h3,h4⟩:=Z9 hb;rw [<-hfl] at h3;obtain ⟨e,he,rfl⟩:=List.mem_map.1 h3;exact absurd h4 (h2 e he)
 ·obtain ⟨f,q,pl,he,hs⟩:=ZjE hj
  rw [he] at hn;refine .inr ⟨fs.take j,f,q,fs.drop (j + 1),pl,?_,hs,(ZdV k).2 ⟨?_,hn⟩⟩
  ·rw [List.length_take];omega
  ·rw [<-hfl,hs];simp
theorem Zbk {A:HP} {Hs R1:List HP} {B C:HP} {R2 R3:List HP} (hw:Sat R Hs w) [a:ZfA A Hs R1] [b:ZfA B R1 R2] [c:ZfA C R2 R3]:Sat R [A,B,C,VC.tru] w:=
 (hw.perm a.perm).cons λ _ h=>(h.perm b.perm).cons λ _ h=>(h.perm c.perm).restTru2
theorem ZfD {b:ZE} {k:Nat} (hk:k<b.L.length) (kc:Core b) (hfl:fs.map (λ e=>e.2.2)=b.fl) (hw:Sat R (RBO p b.now b.next b.L sf sb fs Hs) w):
  Zk prog 57 #[nP p,nI k] w λ v w'=>∃ sl sx:Sl,v=.agg (rpV (ZaB b b.L[k]) sl sx).toArray/\Sat R (Own sl 3 (Zc (ZaB b b.L[k]).left)::Own sx 9 ((ZaB b b.L[k]).labs.map Value.string)::RBO p b.now b.next b.L sf sb fs Hs) w':=by
 obtain ⟨x,hx⟩:∃ x,x=b.L[k]:=⟨_,rfl⟩;have hxL:x∈b.L:=by rw [hx];exact List.getElem_mem hk
 obtain ⟨pl,hat⟩:=kc.at_of hxL;have ht:ZaB b x=ZaH pl x:=by unfold ZaB;rw [hat]
 obtain ⟨hp1,hp2⟩:=Z9 hat;have hg:=kc.good pl hp1;have hxo:=kc.each x hxL;have hid:=hxo.id;have hnx:=kc.next;rw [<-hx,ht];apply ZxW
 suffices H:∀ K:nK,(∀ sl sx w',Sat R (Own sl 3 (Zc (Zj pl.r))::Own sx 9 ((ZY pl.r x.id).map Value.string)::RBO p b.now b.next b.L sf sb fs Hs) w'->K (.agg (rpV (ZaH pl x) sl sx).toArray) w')->B57 (some ⟨p,0,none⟩) k K w from
  H _ λ sl sx w' h=>⟨sl,sx,rfl,h⟩
 intro K hK;refine Za hw λ b4 w hw=>?_;refine Zb.mk rfl ⟨sb,oA hw,?_⟩;refine (Zl.readsM (n:=6) (s:=sb) (T:=rkT) (rows:=b.L.map rkV) hw (eqS hw)).rngM (E:=b.L) (g:=rkV) hk λ a _ he=>?_;rw [<-hx] at he;refine ⟨x.id,x.flt,x.cls,x.many,x.state,x.till,he.z (by exact ⟨rfl,rfl,rfl,rfl,rfl,rfl,trivial⟩),?_⟩;refine Za hw λ b5 w hw=>?_;refine sRu hw λ w hw=>?_;have hw:=hw.re (rkC b5 x);have hw:Sat R (RBO p b.now b.next b.L sf sb fs (rkC b5 x::rpC b4 (Z1 0) Zn Zn::Hs)) w:=by
  have hw:Sat R (rkC b5 x::rpC b4 (Z1 0) Zn Zn::RBO p b.now b.next b.L sf sb fs Hs) w:=hw;exact hw.arr
 refine ⟨λ a w=>∃ bp A f q C,a=some ⟨bp,0,none⟩/\fs=A++(f,q,pl)::C/\Sat R (Zdg bp f q::RBO p b.now b.next b.L sf sb fs (rkC b5 x::rpC b4 (Z1 0) Zn Zn::Hs)) w,?_,?_⟩
 ·refine Zr (Sat R [pts p (ZC b.now b.next sf sb),Zl 2 sf plT (fs.map Zag),rkC b5 x,VC.tru]) hw (λ w hw=>Zbk hw) λ w hw=>?_
  have hlen:=(RBO.lens hw).1;have rd:ZcG 2 sf (fs.map Zag) (Sat R [pts p (ZC b.now b.next sf sb),Zl 2 sf plT (fs.map Zag),rkC b5 x,VC.tru]):=Zl.readsT (n:=2) (s:=sf) (T:=plT) hw inferInstance (λ w h=>h) inferInstance;refine Zb.mk rfl ⟨sf,oS,x.flt,oS,?_,?_⟩
  ·refine (Zav (n:=x.flt) kc hfl hw).use ?_
   clear hw;rintro _ w ⟨⟨i,rfl,hi⟩,hw⟩;obtain ⟨A,f,q,C,pl2,rfl,hfs,ha2⟩:=hi.resolve_left λ h=>by rw [hat] at h;cases h.2
   obtain rfl:pl=pl2:=by rw [hat] at ha2;exact Option.some.inj ha2
   have hkA:A.length<fs.length:=by rw [hfs];simp
   refine ⟨_,rfl,Zbk hw,?_⟩;refine rd.rngM (E:=fs) (g:=Zag) hkA λ a _ he=>?_;have hge:fs[A.length]=(f,q,pl):=by simp [hfs]
   rw [hge] at he;refine ⟨some ⟨f,0,none⟩,some ⟨q,0,none⟩,he.z (by exact ⟨rfl,rfl,trivial⟩),?_⟩;refine Za hw λ bp w hw=>⟨Zbk hw,?_⟩;refine sRu hw λ w hw=>?_;exact ⟨bp,A,f,q,C,rfl,hfs,hw.re (Zdg bp f q)⟩
  ·refine Za hw λ bp w hw=>⟨Zbk hw,?_⟩
   have hw:Sat R (RBO p b.now b.next b.L sf sb fs (pts bp (.cells #[.pointer none,.pointer none] plT (0,0))::rkC b5 x::rpC b4 (Z1 0) Zn Zn::Hs)) w:=hw.arr;refine (Zav (n:=x.flt) kc hfl hw).use ?_;clear hw;rintro _ w ⟨⟨i,rfl,hi⟩,hw⟩;obtain ⟨A,f,q,C,pl2,rfl,hfs,ha2⟩:=hi.resolve_left λ h=>by rw [hat] at h;cases h.2
   obtain rfl:pl=pl2:=by rw [hat] at ha2;exact Option.some.inj ha2
   have hkA:A.length<fs.length:=by rw [hfs];simp
   refine ⟨_,rfl,Zbk hw,?_⟩;refine rd.rngM (E:=fs) (g:=Zag) hkA λ a _ he=>?_;have hge:fs[A.length]=(f,q,pl):=by simp [hfs]
   rw [hge] at he;refine ⟨some ⟨f,0,none⟩,some ⟨q,0,none⟩,he.z (by exact ⟨rfl,rfl,trivial⟩),?_⟩;have hw:Sat R (pts bp (.cells #[.pointer none,.pointer none] plT (0,0))::RBO p b.now b.next b.L sf sb fs (rkC b5 x::rpC b4 (Z1 0) Zn Zn::Hs)) w:=hw.arr;refine sRu hw λ w hw=>?_;exact ⟨bp,A,f,q,C,rfl,hfs,hw.re (Zdg bp f q)⟩
 clear hw;rintro _ _ w ⟨bp,A,f,q,C,rfl,hfs,hw⟩;refine ⟨x.id,oA hw,?_⟩;refine (Zoe (n:=x.id) ⟨by omega,by omega⟩ hw).u λ w hw=>?_;refine ⟨_,_,rfl,?_⟩;subst hfs;obtain ⟨M,hM⟩:∃ M,M=(A++(f,q,pl)::C).map Zag:=⟨_,rfl⟩;have hw:Sat R (RBO p b.now b.next b.L sf sb (A++(f,q,pl)::C) (Zdg bp f q::rkC b5 x::rpC b4 (Z1 0) Zn Zn::Hs)) w:=hw.arr;have hw:=(RBM.iff hM.symm).1 hw;have fin:∀ {b9:Nat} {sl:Sl} {w:World},Sat R (rpC b9 { ZaH pl x with labs:=[] } sl Zn::Own sl 3 (Zc (Zj pl.r))::RBM p b.now b.next b.L sf sb M A C f q pl (Zdg bp f q::rkC b5 x::rpC b4 (Z1 0) Zn Zn::Hs)) w->
   ∃ t49:Option Addr,At (λ w'=>w'=w) (Addr.add ⟨bp,0,none⟩ 0) [.pointer t49]/\∃ t51:Int,At (λ w'=>w'=w) ⟨b5,0,none⟩ [nI t51]/\nC 125 #[.pointer t49,nI t51] w λ e_4 w_17=>
    ∃ t52:Sl,(e_4=.returned (.slice t52.a t52.len t52.cap))/\
    ∃ w_18:World,((Instr.storeAt 31 (.pointer ((some ⟨b9,0 + 8,none⟩))) (.slice t52.a t52.len t52.cap)).run prog w_17=.ok () w_18)/\
    ∃ t54:Int,∃ t54_1:ByteArray,∃ t54_2:Int,∃ t54_3:Int,∃ t54_4:Int,∃ t54_5:Int,∃ t54_6:Int,∃ t54_7:Sl,∃ t54_8:Sl,(At (λ w'=>w'=w_18) ⟨b9,0,none⟩ [nI t54,.string t54_1,nI t54_2,nI t54_3,nI t54_4,nI t54_5,nI t54_6,.slice t54_7.a t54_7.len t54_7.cap,.slice t54_8.a t54_8.len t54_8.cap])/\
    ∃ w_19:World,((Instr.storeAt 33 (.pointer ((some ⟨b4,0,none⟩))) (.agg #[nI t54,.string t54_1,nI t54_2,nI t54_3,nI t54_4,nI t54_5,nI t54_6,.slice t54_7.a t54_7.len t54_7.cap,.slice t54_8.a t54_8.len t54_8.cap])).run prog w_18=.ok () w_19)/\
    ∃ u:Int,∃ u_1:ByteArray,∃ u_2:Int,∃ u_3:Int,∃ u_4:Int,∃ u_5:Int,∃ u_6:Int,∃ u_7:Sl,∃ u_8:Sl,(At (λ w'=>w'=w_19) ⟨b4,0,none⟩ [nI u,.string u_1,nI u_2,nI u_3,nI u_4,nI u_5,nI u_6,.slice u_7.a u_7.len u_7.cap,.slice u_8.a u_8.len u_8.cap])/\
    K (.agg #[nI u,.string u_1,nI u_2,nI u_3,nI u_4,nI u_5,nI u_6,.slice u_7.a u_7.len u_7.cap,.slice u_8.a u_8.len u_8.cap]) w_19:=λ {b9 sl w} hw=>by
  refine ⟨some ⟨f,0,none⟩,oA hw,x.id,oA hw,?_⟩;refine (ZoI (o:=x.id) hg (hw.take (Zbi f pl.r))).u1 λ sx w hw=>?_;refine ⟨sx,rfl,?_⟩;have hw:Sat R (rpC b9 { ZaH pl x with labs:=[] } sl Zn::rpC b4 (Z1 0) Zn Zn::Own sl 3 (Zc (Zj pl.r))::Own sx 9 ((ZY pl.r x.id).map Value.string)::RBM p b.now b.next b.L sf sb M A C f q pl (Zdg bp f q::rkC b5 x::Hs)) w:=hw.arr;refine sRu hw λ w hw=>?_;have hw:=hw.re (rpC b9 (ZaH pl x) sl sx);refine ⟨_,_,_,_,_,_,_,sl,sx,oA hw,?_⟩;refine ZaR (r:=ZaH pl x) (sl:=sl) (sb:=sx) hw.swap λ w hw=>hK sl sx w ?_;have hw:Sat R (RBM p b.now b.next b.L sf sb M A C f q pl (Own sl 3 (Zc (Zj pl.r))::Own sx 9 ((ZY pl.r x.id).map Value.string)::rpC b9 (ZaH pl x) sl sx::Zdg bp f q::rkC b5 x::Hs)) w:=hw.arr;have hw:=(RBM.iff hM.symm).2 hw;have hw:Sat R (rpC b9 (ZaH pl x) sl sx::Zdg bp f q::rkC b5 x::Own sl 3 (Zc (Zj pl.r))::Own sx 9 ((ZY pl.r x.id).map Value.string)::RBO p b.now b.next b.L sf sb (A++(f,q,pl)::C) Hs) w:=hw.arr;exact hw.drop.drop.drop
 refine Zr (Sat R [rkC b5 x,Zdg bp f q,VC.tru]) hw (λ w hw=>Sat.two hw) λ w hw=>?_;refine ⟨x.state,oS,x.flt,oS,x.cls,oS,x.many,oS,x.till,oS,Zb.mk rfl ⟨some ⟨f,0,none⟩,oS,?_,?_⟩⟩
 ·refine (ZcY hg hw).u1 λ sl w hw=>?_
  refine ⟨sl,rfl,Sat.two hw,?_⟩;refine Za hw λ b9 w hw=>⟨Sat.two hw,?_⟩;refine sRu hw λ w hw=>Zb.mk rfl (fin (b9:=b9) (sl:=sl) ?_);exact hw.re (rpC b9 { ZaH pl x with labs:=[] } sl Zn)
 ·refine Za hw λ b9 w hw=>⟨Sat.two hw,?_⟩
  refine (ZcY hg hw.swap).u1 λ sl w hw=>?_;refine ⟨sl,rfl,Sat.two hw,?_⟩;have hw:=hw.arr (Hs':=pts b9 (.cells #[nI 0,.string (ByteArray.mk #[]),nI 0,nI 0,nI 0,nI 0,nI 0,.slice none 0 0,.slice none 0 0] 33 (0,0))::Own sl 3 (Zc (Zj pl.r))::RBM p b.now b.next b.L sf sb M A C f q pl (Zdg bp f q::rkC b5 x::rpC b4 (Z1 0) Zn Zn::Hs));refine sRu hw λ w hw=>Zb.mk rfl (fin (b9:=b9) (sl:=sl) ?_);exact hw.re (rpC b9 { ZaH pl x with labs:=[] } sl Zn)
end
section
open Go Go.VC Tryz
open Classical
variable {R:Cx} {Hs Rest:List HP} {w:World} {p:Nat}
abbrev rpZ (b:Nat):HP:=rpC b (Z1 0) Zn Zn
abbrev ZhW (R:Cx) (Hs:List HP) (p:Nat) (y:ZE × Rp) (K:nK):Prop:=
 ∀ (sl sx:Sl) (w':World),Sat R (Own sl 3 (Zc y.2.left)::Own sx 9 (y.2.labs.map Value.string)::Zm p y.1::Hs) w'->K (.agg (rpV y.2 sl sx).toArray) w'
theorem ZhW.err {K:Value->World->Prop} {b:ZE} {e:Int} (h:ZhW R Hs p (b,Z1 e) K) {w:World} (hw:Sat R (Zm p b::Hs) w):K (.agg (rpV (Z1 e) Zn Zn).toArray) w:=
 h Zn Zn w (Own.nil (Own.nil hw))
theorem RBM.book {b:ZE} {sf sb:Sl} {M:List (List Value)} {A C:List FE} {f q:Nat} {pl:Pl} (hM:(A++(f,q,pl)::C).map Zag=M) (hfl:(A++(f,q,pl)::C).map (λ e=>e.2.2)=b.fl) {w:World} (hw:Sat R (RBM p b.now b.next b.L sf sb M A C f q pl Hs) w):Sat R (Zm p b::Hs) w:=
 Sat.rbook.2 ⟨sf,sb,_,hfl,(RBM.iff hM).2 hw⟩
theorem Zjf {A C:List FE} {f q:Nat} {pl pl':Pl}:(A++(f,q,pl')::C).map Zag=(A++(f,q,pl)::C).map Zag:=by
 rw [List.map_append,List.map_append,List.map_cons,List.map_cons];rfl
theorem Zog {b:ZE} {c:Cm} {sg sp:Sl} (k:Core b) (hc:Z5 c) (hw:Sat R (Zm p b::Hs) w):
  Zk prog 48 #[nP p,cmA c sg sp] w λ v w'=>∃ sl sx:Sl,v=.agg (rpV (Zbe b c).2 sl sx).toArray/\Sat R (Own sl 3 (Zc (Zbe b c).2.left)::Own sx 9 ((Zbe b c).2.labs.map Value.string)::Zm p (Zbe b c).1::Hs) w':=by
 apply Zx5
 suffices H:∀ K:nK,ZhW R Hs p (Zbe b c) K->B48 (some ⟨p,0,none⟩) c.kind c.pnr c.flt c.cls c.many c.time c.sc c.lab c.rows sg sp K w from H _ (λ sl sx w' h=>⟨sl,sx,rfl,h⟩)
 intro K hK;have hm:=k.many;have hnx:=k.next;refine Za hw λ b3 w hw=>Za hw λ b4 w hw=>?_;obtain ⟨sf,sb,fs,hfl,hw⟩:=Sat.rbook.1 (show Sat R (Zm p b::rpZ b4::cmC b3 c sg sp::Hs) w from Sat.arr (show Sat R (rpZ b4::cmC b3 c sg sp::Zm p b::Hs) w from hw))
 refine ⟨c.flt,oA hw,?_⟩;refine (Zav (n:=c.flt) k hfl hw).use ?_;clear hw;rintro _ w ⟨⟨i,rfl,hi⟩,hw⟩;refine ⟨i,rfl,?_⟩;refine (Zib hw).u λ w hw=>?_;refine ⟨_,rfl,?_⟩;have err:∀ {e:Int} {w:World},Zbe b c=(b,Z1 e)->Sat R (RBO p b.now b.next b.L sf sb fs (rpZ b4::cmC b3 c sg sp::Hs)) w->Sat R (rpZ b4::cmC b3 c sg sp::Zm p b::Hs) w:=λ {e w} _ hw=>by
  have hw:Sat R (Zm p b::rpZ b4::cmC b3 c sg sp::Hs) w:=Sat.rbook.2 ⟨sf,sb,fs,hfl,hw⟩;exact hw.arr
 refine Br.d (λ h=>?_) (λ h=>?_)
 ·have hb:b.at c.flt=none:=by
   rcases hi with h2|⟨A,f,q,C,pl,rfl,_⟩
   ·exact h2.2
   ·omega
  have he:Zbe b c=(b,Z1 2):=by unfold Zbe;rw [hb]
  rw [he] at hK;exact ZaR (r:=Z1 2) (sl:=Zn) (sb:=Zn) (err he hw) λ w hw=>hK.err hw.drop
 obtain ⟨A,f,q,C,pl,rfl,rfl,hat⟩:=hi.resolve_left λ h2=>by omega
 have hh:Zbe b c=if c.time<=b.now then (b,Z1 1) else if b.full then (b,Z1 3)
  else if (Zw pl.r b.next c.cls c.many).2≠0 then (b,Z1 (Zw pl.r b.next c.cls c.many).2)
  else ({ b.put c.flt (takeP b.next c.cls c.many) (b.L++[Zah b c]) with next:=b.next + 1 },ZaH (takeP b.next c.cls c.many pl) (Zah b c)):=by unfold Zbe;rw [hat]
 obtain ⟨hp1,hp2⟩:=Z9 hat;have hg:=k.good pl hp1;refine Zq hw λ w hw=>?_;refine ⟨c.time,oS,Zb.mk rfl ⟨b.now,oS,Br.d (λ h1=>?_) (λ h1=>?_)⟩⟩
 ·have he:Zbe b c=(b,Z1 1):=by rw [hh,if_pos h1]
  rw [he] at hK;exact ZaR (r:=Z1 1) (sl:=Zn) (sb:=Zn) (err he hw) λ w hw=>hK.err hw.drop
 rw [if_neg h1] at hh;refine Br.d (λ h2=>?_) (λ h2=>?_)
 ·have h2:b.full:=h2
  have he:Zbe b c=(b,Z1 3):=by rw [hh,if_pos h2]
  rw [he] at hK;exact ZaR (r:=Z1 3) (sl:=Zn) (sb:=Zn) (err he hw) λ w hw=>hK.err hw.drop
 have h2:¬ b.full:=h2;rw [if_neg h2] at hh;have hw:=(RBM.iff rfl).1 hw;have hkA:A.length<(A++(f,q,pl)::C).length:=by simp
 have hge:(A++(f,q,pl)::C)[A.length]=(f,q,pl):=by simp
 have rd:ZcG 2 sf ((A++(f,q,pl)::C).map Zag) (Sat R [pts p (ZC b.now b.next sf sb),Zl 2 sf plT ((A++(f,q,pl)::C).map Zag),cmC b3 c sg sp,VC.tru]):=Zl.readsT (n:=2) (s:=sf) (T:=plT) hw inferInstance (λ w h=>h) inferInstance;refine Zr (Sat R [pts p (ZC b.now b.next sf sb),Zl 2 sf plT ((A++(f,q,pl)::C).map Zag),cmC b3 c sg sp,VC.tru]) hw (λ w hw=>Zbk hw) λ w hw=>?_;refine Zb.mk rfl ⟨sf,oS,?_⟩;refine rd.rngM (E:=A++(f,q,pl)::C) (g:=Zag) hkA λ a _ he=>?_;rw [hge] at he;refine ⟨some ⟨f,0,none⟩,he.zz (by exact ⟨rfl,trivial⟩),Zb.mk rfl ⟨b.next,oS,c.cls,oS,c.many,oS,?_⟩⟩;have hbl:=Zb1 hg;have hgl:=hg.len.1;refine (ZgR (owner:=b.next) (cls:=c.cls) (many:=c.many) (by omega) (by omega) hg.hcls hw).u λ w hw=>?_;refine ⟨_,rfl,Zbk hw,Br.ne (λ h3=>?_) (λ h3=>?_)⟩
 ·rw [if_pos h3] at hh
  rw [hh] at hK;rw [ZlE h3] at hw;have hw:Sat R (rpZ b4::cmC b3 c sg sp::RBM p b.now b.next b.L sf sb ((A++(f,q,pl)::C).map Zag) A C f q pl Hs) w:=Sat.arr (show Sat R (Zbi f pl.r::Za4 q pl.q::ZT (A++C)::pts p (ZC b.now b.next sf sb)::Zl 2 sf plT ((A++(f,q,pl)::C).map Zag)::Zl 6 sb rkT (b.L.map rkV)::rpZ b4::cmC b3 c sg sp::Hs) w from hw)
  exact ZaR (r:=Z1 _) (sl:=Zn) (sb:=Zn) hw λ w hw=>hK.err (RBM.book rfl hfl hw.drop)
 rw [if_neg (λ h=>h h3)] at hh;have hcore:=Zfn k hc hat h2 h3;obtain ⟨nb,hnb⟩:∃ nb,nb=({ b.put c.flt (takeP b.next c.cls c.many) (b.L++[Zah b c]) with next:=b.next + 1 }:ZE):=⟨_,rfl⟩;obtain ⟨x,hx⟩:∃ x,x=Zah b c:=⟨_,rfl⟩;obtain ⟨pl',hpl'⟩:∃ pl',pl'=takeP b.next c.cls c.many pl:=⟨_,rfl⟩;have hfl2:(A++(f,q,pl')::C).map (λ e=>e.2.2)=nb.fl:=by rw [hnb,hpl'];exact Zhs k hfl hp2
 rw [<-hnb] at hcore hh;rw [<-hx,<-hpl'] at hh;have hat2:nb.at c.flt=some pl':=(ZdV hcore).2 ⟨by rw [<-hfl2];simp,by rw [hpl'];exact Zcb.1.trans hp2⟩;have hL2:nb.L=b.L++[x]:=by rw [hnb,hx];rfl
 have htell:ZaB nb x=ZaH pl' x:=by unfold ZaB;rw [hx,show (Zah b c).flt=c.flt from rfl,<-hx,hat2]
 rw [hh] at hK;have hw:Sat R (RBM p b.now b.next b.L sf sb ((A++(f,q,pl)::C).map Zag) A C f q pl' (rpZ b4::cmC b3 c sg sp::Hs)) w:=by rw [hpl'];exact hw
 refine Zr (Sat R [pts p (ZC b.now b.next sf sb),cmC b3 c sg sp,VC.tru]) hw (λ w hw=>Sat.two hw) λ w hw=>?_;refine Zb.mk rfl ⟨sb,oS,Zb.mk rfl ⟨b.next,oS,c.flt,oS,c.cls,oS,c.many,oS,c.time,oS,?_⟩⟩;have hlb:sb.len=b.L.length:=by have:=Zl.len (hw.take (Zl 6 sb rkT (b.L.map rkV)));rwa [List.length_map] at this
 refine Za hw λ b69 w hw=>⟨Sat.two hw,?_⟩;have hw:Sat R (rkC b69 x::RBM p b.now b.next b.L sf sb ((A++(f,q,pl)::C).map Zag) A C f q pl' (rpZ b4::cmC b3 c sg sp::Hs)) w:=by rw [hx];exact hw
 have hw:Sat R (Zl 6 sb rkT (b.L.map rkV)::rkC b69 x::pts p (ZC b.now b.next sf sb)::Zl 2 sf plT ((A++(f,q,pl)::C).map Zag)::ZT (A++C)::Zbi f pl'.r::Za4 q pl'.q::rpZ b4::cmC b3 c sg sp::Hs) w:=hw.arr;refine Z4 (ys:=[rkV x]) ZyF hw (Zfx ⟨_,underlying44⟩ (b:=b69) 1 hw rfl rfl) (Wid.one rfl) (by rw [List.length_singleton,List.length_map];omega) (by rw [List.length_singleton,List.length_map];omega) λ s2 w hw=>⟨Sat.two hw,Zb.mk rfl ?_⟩;have hw:Sat R (pts p (ZC b.now b.next sf sb)::rkC b69 x::Zl 6 s2 rkT (b.L.map rkV++[rkV x])::Zl 2 sf plT ((A++(f,q,pl)::C).map Zag)::ZT (A++C)::Zbi f pl'.r::Za4 q pl'.q::rpZ b4::cmC b3 c sg sp::Hs) w:=hw.arr;refine sRu hw λ w hw=>Zb.mk rfl ?_;have hw:=hw.re (pts p (ZC b.now b.next sf s2));refine ⟨b.next,oA hw,Zb.mk rfl ?_⟩;rw [Zd];refine sRu hw λ w hw=>Zb.mk rfl ?_;have hw:=hw.re (pts p (ZC b.now (b.next + 1) sf s2));have e5:b.L.map rkV++[rkV x]=nb.L.map rkV:=by rw [hL2,List.map_append];rfl
 rw [e5] at hw;have hn1:nb.now=b.now:=by rw [hnb];rfl
 have hn2:nb.next=b.next + 1:=by rw [hnb]
 rw [<-hn1,<-hn2] at hw;have hs2:s2.len=b.L.length + 1:=by have:=Zl.len (hw.take (Zl 6 s2 rkT (nb.L.map rkV)));rw [List.length_map,hL2,List.length_append] at this;exact this
 refine ⟨s2,oA hw,?_⟩;rw [Zd,show (s2.len:Int) - 1=((b.L.length:Nat):Int) by omega];have hw:Sat R (RBM p nb.now nb.next nb.L sf s2 ((A++(f,q,pl)::C).map Zag) A C f q pl' (rkC b69 x::rpZ b4::cmC b3 c sg sp::Hs)) w:=hw.arr;have hw:=(RBM.iff (Zjf (pl:=pl))).2 hw;have hkl:b.L.length<nb.L.length:=by rw [hL2];simp
 have hxe:nb.L[b.L.length]=x:=by simp [hL2]
 refine (ZfD hkl hcore hfl2 hw).use ?_;clear hw;rintro _ w ⟨sl,sx,rfl,hw⟩;rw [hxe,htell] at hw ⊢;refine ⟨_,_,_,_,_,_,_,sl,sx,rfl,?_⟩;have hw:Sat R (rpZ b4::rkC b69 x::cmC b3 c sg sp::Own sl 3 (Zc (ZaH pl' x).left)::Own sx 9 ((ZaH pl' x).labs.map Value.string)::RBO p nb.now nb.next nb.L sf s2 (A++(f,q,pl')::C) Hs) w:=hw.arr;refine ZaR (r:=ZaH pl' x) (sl:=sl) (sb:=sx) hw λ w hw=>hK sl sx w ?_;exact hw.drop.drop.cons λ _ h=>h.cons λ _ h=>Sat.rbook.2 ⟨sf,s2,_,hfl2,h⟩
theorem Zua {l:List Wt} {x:Wt} (h:(Zcd l x).2≠0):(Zcd l x).1=l:=by
 unfold Zcd at *;split
 ·rfl
 ·split
  ·rfl
  ·split
   ·rfl
   ·rename_i h1 h2 h3
    rw [if_neg h1,if_neg h2,if_neg h3] at h;exact absurd rfl h
theorem ZsB {l:List Wt} {x:Wt} (h:(Zcd l x).2=0):(Zcd l x).1=Zis x l:=by
 unfold Zcd at *;split at h
 ·cases h
 ·split at h
  ·cases h
  ·split at h
   ·cases h
   ·rename_i h1 h2 h3
    rw [if_neg h1,if_neg h2,if_neg h3]
theorem Zkq {A B C D:HP} {Hs R1 R2 R3 R4:List HP} (hw:Sat R Hs w) [a:ZfA A Hs R1] [b:ZfA B R1 R2] [c:ZfA C R2 R3] [d:ZfA D R3 R4]:Sat R [A,B,C,D,VC.tru] w:=
 (hw.perm a.perm).cons λ _ h=>(h.perm b.perm).cons λ _ h=>(h.perm c.perm).cons λ _ h=>(h.perm d.perm).restTru2
theorem Zn3 {b:ZE} {c:Cm} {sg sp:Sl} (k:Core b) (hc:Z5 c) (hsc:c.sc<18446744073709551616) (hw:Sat R (Zm p b::Hs) w):
  Zk prog 49 #[nP p,cmA c sg sp] w λ v w'=>∃ sl sx:Sl,v=.agg (rpV (ZaF b c).2 sl sx).toArray/\Sat R (Own sl 3 (Zc (ZaF b c).2.left)::Own sx 9 ((ZaF b c).2.labs.map Value.string)::Zm p (ZaF b c).1::Hs) w':=by
 apply Zx4
 suffices H:∀ K:nK,ZhW R Hs p (ZaF b c) K->B49 (some ⟨p,0,none⟩) c.kind c.pnr c.flt c.cls c.many c.time c.sc c.lab c.rows sg sp K w from H _ (λ sl sx w' h=>⟨sl,sx,rfl,h⟩)
 intro K hK;have hm:=k.many;have hnx:=k.next;have hnow:=k.now;refine Za hw λ b3 w hw=>Za hw λ b4 w hw=>?_;obtain ⟨sf,sb,fs,hfl,hw⟩:=Sat.rbook.1 (show Sat R (Zm p b::rpZ b4::cmC b3 c sg sp::Hs) w from Sat.arr (show Sat R (rpZ b4::cmC b3 c sg sp::Zm p b::Hs) w from hw))
 refine ⟨c.flt,oA hw,?_⟩;refine (Zav (n:=c.flt) k hfl hw).use ?_;clear hw;rintro _ w ⟨⟨i,rfl,hi⟩,hw⟩;refine ⟨i,rfl,?_⟩;refine (Zib hw).u λ w hw=>?_;refine ⟨_,rfl,Br.d (λ h=>?_) (λ h=>?_)⟩
 ·have hb:b.at c.flt=none:=by
   rcases hi with h2|⟨A,f,q,C,pl,rfl,_⟩
   ·exact h2.2
   ·omega
  have he:ZaF b c=(b,Z1 2):=by unfold ZaF;rw [hb]
  rw [he] at hK;have hw:Sat R (Zm p b::rpZ b4::cmC b3 c sg sp::Hs) w:=Sat.rbook.2 ⟨sf,sb,fs,hfl,hw⟩;exact ZaR (r:=Z1 2) (sl:=Zn) (sb:=Zn) hw.swap λ w hw=>hK.err (Sat.drop (hw.swap))
 obtain ⟨A,f,q,C,pl,rfl,rfl,hat⟩:=hi.resolve_left λ h2=>by omega
 have hh:ZaF b c=if (pl.r.lims.length:Int)<=c.cls then (b,Z1 1) else if b.full then (b,Z1 3)
  else if (Zcd pl.q (Zb3 b c)).2≠0 then (b,Z1 (Zcd pl.q (Zb3 b c)).2)
  else (Zy c.flt (Zbh b c),match (Zy c.flt (Zbh b c)).bk b.next with
   |none=>Z1 0
   |some x=>ZaB (Zy c.flt (Zbh b c)) x):=by unfold ZaF;rw [hat];rfl
 obtain ⟨hp1,hp2⟩:=Z9 hat;have hg:=k.good pl hp1;have hqok:=k.qok pl hp1;have hql:=hqok.len;have hw:=(RBM.iff rfl).1 hw;obtain ⟨M,hM⟩:∃ M,M=(A++(f,q,pl)::C).map Zag:=⟨_,rfl⟩;rw [<-hM] at hw;have hkA:A.length<(A++(f,q,pl)::C).length:=by simp
 have hge:(A++(f,q,pl)::C)[A.length]=(f,q,pl):=by simp
 have err:∀ {e:Int} {w:World},ZhW R Hs p (b,Z1 e) K->Sat R (RBM p b.now b.next b.L sf sb M A C f q pl (rpZ b4::cmC b3 c sg sp::Hs)) w->
   ∃ w_6:World,((Instr.storeAt 33 (.pointer ((some ⟨b4,0,none⟩))) (.agg #[nI e,.string emS,nI 0,nI 0,nI 0,nI 0,nI 0,.slice none 0 0,.slice none 0 0])).run prog w=.ok () w_6)/\
    ∃ u:Int,∃ u_1:ByteArray,∃ u_2:Int,∃ u_3:Int,∃ u_4:Int,∃ u_5:Int,∃ u_6:Int,∃ u_7:Sl,∃ u_8:Sl,(At (λ w'=>w'=w_6) ⟨b4,0,none⟩ [nI u,.string u_1,nI u_2,nI u_3,nI u_4,nI u_5,nI u_6,.slice u_7.a u_7.len u_7.cap,.slice u_8.a u_8.len u_8.cap])/\
    K (.agg #[nI u,.string u_1,nI u_2,nI u_3,nI u_4,nI u_5,nI u_6,.slice u_7.a u_7.len u_7.cap,.slice u_8.a u_8.len u_8.cap]) w_6:=λ {e w} hK hw=>by
  have hw:Sat R (rpZ b4::cmC b3 c sg sp::RBM p b.now b.next b.L sf sb M A C f q pl Hs) w:=Sat.arr hw;exact ZaR (r:=Z1 e) (sl:=Zn) (sb:=Zn) hw λ w hw=>hK.err (RBM.book hM.symm hfl hw.drop)
 obtain ⟨sg',sl',s',ts',R',e',hr',hw,back,hl'⟩:=Sat.rfO hw;have hll:sl'.len=pl.r.lims.length:=by have:=hr'.lims.len;rwa [List.length_map] at this
 have close:∀ {w:World},Sat R' (pts f (Zx pl.r sg' sl' s')::Za4 q pl.q::ZT (A++C)::pts p (ZC b.now b.next sf sb)::Zl 2 sf plT M::Zl 6 sb rkT (b.L.map rkV)::rpZ b4::cmC b3 c sg sp::Hs) w->Sat R (RBM p b.now b.next b.L sf sb M A C f q pl (rpZ b4::cmC b3 c sg sp::Hs)) w:=λ hw=>Sat.rf.2 ⟨sg',sl',s',ts',hl',back _ _ hw⟩;refine Zq hw λ w hw=>?_;refine ⟨c.cls,oS,Zb.mk rfl ⟨sf,oS,?_⟩⟩;have hwM:Sat R' (pts f (Zx pl.r sg' sl' s')::Za4 q pl.q::ZT (A++C)::pts p (ZC b.now b.next sf sb)::Zl 2 sf plT ((A++(f,q,pl)::C).map Zag)::Zl 6 sb rkT (b.L.map rkV)::rpZ b4::cmC b3 c sg sp::Hs) w:=by rw [<-hM];exact hw
 have rd1:ZcG 2 sf ((A++(f,q,pl)::C).map Zag) (Sat R' (pts f (Zx pl.r sg' sl' s')::Za4 q pl.q::ZT (A++C)::pts p (ZC b.now b.next sf sb)::Zl 2 sf plT M::Zl 6 sb rkT (b.L.map rkV)::rpZ b4::cmC b3 c sg sp::Hs)):=by
  rw [hM];exact Zl.readsM (n:=2) (s:=sf) (T:=plT) hwM (λ w h=>h)
 refine rd1.rngM (E:=A++(f,q,pl)::C) (g:=Zag) hkA λ a _ he=>?_;rw [hge] at he;refine ⟨some ⟨f,0,none⟩,he.zz (by exact ⟨rfl,trivial⟩),Zb.mk rfl ⟨sl',oS,Br.d (λ h1=>?_) (λ h1=>?_)⟩⟩
 ·have he:ZaF b c=(b,Z1 1):=by rw [hh,if_pos (by omega)]
  rw [he] at hK;exact err hK (close hw)
 rw [if_neg (by omega)] at hh;refine Br.d (λ h2=>?_) (λ h2=>?_)
 ·have h2:b.full:=h2
  have he:ZaF b c=(b,Z1 3):=by rw [hh,if_pos h2]
  rw [he] at hK;exact err hK (close hw)
 have h2:¬ b.full:=h2;rw [if_neg h2] at hh;replace hw:=close hw;clear hwM rd1 he;have hwM:Sat R (RBM p b.now b.next b.L sf sb ((A++(f,q,pl)::C).map Zag) A C f q pl (rpZ b4::cmC b3 c sg sp::Hs)) w:=by rw [<-hM];exact hw
 have rd:ZcG 2 sf ((A++(f,q,pl)::C).map Zag) (Sat R [pts p (ZC b.now b.next sf sb),Zl 2 sf plT M,cmC b3 c sg sp,VC.tru]):=by
  rw [hM];exact Zl.readsT (n:=2) (s:=sf) (T:=plT) hwM inferInstance (λ w h=>h) inferInstance
 clear hwM;refine Zr (Sat R [pts p (ZC b.now b.next sf sb),Zl 2 sf plT M,cmC b3 c sg sp,VC.tru]) hw (λ w hw=>Zbk hw) λ w hw=>?_;refine Zb.mk rfl ⟨sf,oS,?_⟩;refine rd.rngM (E:=A++(f,q,pl)::C) (g:=Zag) hkA λ a _ he=>?_;rw [hge] at he;refine ⟨some ⟨q,0,none⟩,he.f 1 (by exact ⟨rfl,trivial⟩),Zb.mk rfl ⟨b.next,oS,c.cls,oS,c.many,oS,Zb.mk rfl ⟨b.now,oS,c.sc,oS,?_⟩⟩⟩;refine (Zn9 (x:=Zb3 b c) (by omega) hw.swap).u λ w hw=>?_;refine ⟨_,rfl,Zbk hw,Br.ne (λ h3=>?_) (λ h3=>?_)⟩
 ·rw [if_pos h3] at hh
  rw [hh] at hK;rw [Zua h3] at hw;exact err hK hw.swap
 rw [if_neg (λ h=>h h3)] at hh;rw [ZsB h3] at hw;have hcore:=Zfm k hc hsc hat (by omega) h2 h3;obtain ⟨nb,hnb⟩:∃ nb,nb=Zbh b c:=⟨_,rfl⟩;obtain ⟨x,hx⟩:∃ x,x=ZbJ b c:=⟨_,rfl⟩;obtain ⟨pl',hpl'⟩:∃ pl',pl'=Zsk (Zb3 b c) pl:=⟨_,rfl⟩;have hfl2:(A++(f,q,pl')::C).map (λ e=>e.2.2)=nb.fl:=by rw [hnb,hpl'];exact Zhs k hfl hp2
 rw [<-hnb] at hcore hh;have hpn:pl'.n=c.flt:=by rw [hpl'];exact hp2
 have hL2:nb.L=b.L++[x]:=by rw [hnb,hx];rfl
 have hw:Sat R (RBM p b.now b.next b.L sf sb M A C f q pl' (rpZ b4::cmC b3 c sg sp::Hs)) w:=by rw [hpl'];exact hw.swap
 refine Zr (Sat R [pts p (ZC b.now b.next sf sb),cmC b3 c sg sp,VC.tru]) hw (λ w hw=>Sat.two hw) λ w hw=>?_;refine Zb.mk rfl ⟨sb,oS,Zb.mk rfl ⟨b.next,oS,c.flt,oS,c.cls,oS,c.many,oS,?_⟩⟩;have hlb:sb.len=b.L.length:=by have:=Zl.len (hw.take (Zl 6 sb rkT (b.L.map rkV)));rwa [List.length_map] at this
 refine Za hw λ b69 w hw=>⟨Sat.two hw,?_⟩;have hw:Sat R (rkC b69 x::RBM p b.now b.next b.L sf sb M A C f q pl' (rpZ b4::cmC b3 c sg sp::Hs)) w:=by rw [hx];exact hw
 have hw:Sat R (Zl 6 sb rkT (b.L.map rkV)::rkC b69 x::pts p (ZC b.now b.next sf sb)::Zl 2 sf plT M::ZT (A++C)::Zbi f pl'.r::Za4 q pl'.q::rpZ b4::cmC b3 c sg sp::Hs) w:=hw.arr;refine Z4 (ys:=[rkV x]) ZyF hw (Zfx ⟨_,underlying44⟩ (b:=b69) 1 hw rfl rfl) (Wid.one rfl) (by rw [List.length_singleton,List.length_map];omega) (by rw [List.length_singleton,List.length_map];omega) λ s2 w hw=>⟨Sat.two hw,Zb.mk rfl ?_⟩;have hw:Sat R (pts p (ZC b.now b.next sf sb)::rkC b69 x::Zl 6 s2 rkT (b.L.map rkV++[rkV x])::Zl 2 sf plT M::ZT (A++C)::Zbi f pl'.r::Za4 q pl'.q::rpZ b4::cmC b3 c sg sp::Hs) w:=hw.arr;refine sRu hw λ w hw=>Zb.mk rfl ?_;have hw:=hw.re (pts p (ZC b.now b.next sf s2));refine ⟨b.next,oA hw,Zb.mk rfl ?_⟩;rw [Zd];refine sRu hw λ w hw=>?_;have hw:=hw.re (pts p (ZC b.now (b.next + 1) sf s2));have e5:b.L.map rkV++[rkV x]=nb.L.map rkV:=by rw [hL2,List.map_append];rfl
 rw [e5] at hw;have hn1:nb.now=b.now:=by rw [hnb];rfl
 have hn2:nb.next=b.next + 1:=by rw [hnb];rfl
 rw [<-hn1,<-hn2] at hw;have hw:Sat R (RBM p nb.now nb.next nb.L sf s2 M A C f q pl' (rkC b69 x::rpZ b4::cmC b3 c sg sp::Hs)) w:=hw.arr;have hw:=(RBM.iff (Zjf.trans hM.symm)).2 hw;refine (Zdf hcore hfl2 hw).use ?_;clear hw;rintro _ w ⟨rfl,pl3,hfl3,hw⟩;rw [hpn] at hw hfl3;obtain ⟨hcore3,hkept,_⟩:=Zbb (n:=c.flt) hcore;obtain ⟨b2,hb2⟩:∃ b2,b2=Zy c.flt nb:=⟨_,rfl⟩;rw [<-hb2] at hw hfl3 hcore3 hkept hh;rw [<-hkept.now,<-hkept.next] at hw;have hlen3:b2.L.length=b.L.length + 1:=by
  have:=congrArg List.length hkept.ids;rw [List.length_map,List.length_map,hL2,List.length_append] at this;exact this
 have hkl:b.L.length<b2.L.length:=by omega
 have hyid:b2.L[b.L.length].id=b.next:=by
  have h5:(b2.L.map Bk.id)[b.L.length]? =(nb.L.map Bk.id)[b.L.length]?:=by rw [hkept.ids]
  rw [List.getElem?_map,List.getElem?_map,List.getElem?_eq_getElem hkl,hL2,List.getElem?_append_right (by omega)] at h5;simp only [Nat.sub_self,Option.map_some,List.getElem?_cons_zero,Option.some.injEq] at h5;rw [h5,hx];rfl
 have hbk:b2.bk b.next=some b2.L[b.L.length]:=(ZiJ hcore3).2 ⟨List.getElem_mem hkl,hyid⟩;rw [hbk] at hh;dsimp only at hh;rw [hh] at hK;have hs2:=(RBO.lens hw).2;refine ⟨rfl,Zb.mk rfl ⟨s2,oA hw,?_⟩⟩;rw [Zd,show (s2.len:Int) - 1=((b.L.length:Nat):Int) by omega];refine (ZfD hkl hcore3 hfl3 hw).use ?_;clear hw;rintro _ w ⟨sl,sx,rfl,hw⟩;obtain ⟨rp,hrp⟩:∃ rp,rp=ZaB b2 b2.L[b.L.length]:=⟨_,rfl⟩;rw [<-hrp] at hw hK ⊢;refine ⟨_,_,_,_,_,_,_,sl,sx,rfl,?_⟩;have hw:Sat R (rpZ b4::rkC b69 x::cmC b3 c sg sp::Own sl 3 (Zc rp.left)::Own sx 9 (rp.labs.map Value.string)::RBO p b2.now b2.next b2.L sf s2 (A++(f,q,pl3)::C) Hs) w:=hw.arr;refine ZaR (r:=rp) (sl:=sl) (sb:=sx) hw λ w hw=>hK sl sx w ?_;exact hw.drop.drop.cons λ _ h=>h.cons λ _ h=>Sat.rbook.2 ⟨sf,s2,_,hfl3,h⟩
theorem ZgP {b:ZE} {k:Nat} {sf sb:Sl} {fs:List FE} {b4:Nat} {K:Int->ByteArray->Int->Int->Int->Int->Int->Sl->Sl->World->Prop} (hk:k<b.L.length) (kc:Core b) (hfl:fs.map (λ e=>e.2.2)=b.fl) (hw:Sat R (RBO p b.now b.next b.L sf sb fs (rpZ b4::Hs)) w)
  (hK:∀ sl sx w',Sat R (Own sl 3 (Zc (ZaB b b.L[k]).left)::Own sx 9 ((ZaB b b.L[k]).labs.map Value.string)::Zm p b::Hs) w'->K (ZaB b b.L[k]).code (ZaB b b.L[k]).pnr (ZaB b b.L[k]).state (ZaB b b.L[k]).flt (ZaB b b.L[k]).cls (ZaB b b.L[k]).many (ZaB b b.L[k]).time sl sx w'):
  nC 57 #[nP p,nI k] w λ e_2 w_9=>
   ∃ t35:Int,∃ t35_1:ByteArray,∃ t35_2:Int,∃ t35_3:Int,∃ t35_4:Int,∃ t35_5:Int,∃ t35_6:Int,∃ t35_7:Sl,∃ t35_8:Sl,(e_2=.returned (.agg #[nI t35,.string t35_1,nI t35_2,nI t35_3,nI t35_4,nI t35_5,nI t35_6,.slice t35_7.a t35_7.len t35_7.cap,.slice t35_8.a t35_8.len t35_8.cap]))/\
   ∃ w_10:World,((Instr.storeAt 33 (.pointer ((some ⟨b4,0,none⟩))) (.agg #[nI t35,.string t35_1,nI t35_2,nI t35_3,nI t35_4,nI t35_5,nI t35_6,.slice t35_7.a t35_7.len t35_7.cap,.slice t35_8.a t35_8.len t35_8.cap])).run prog w_9=.ok () w_10)/\
   ∃ u:Int,∃ u_1:ByteArray,∃ u_2:Int,∃ u_3:Int,∃ u_4:Int,∃ u_5:Int,∃ u_6:Int,∃ u_7:Sl,∃ u_8:Sl,(At (λ w'=>w'=w_10) ⟨b4,0,none⟩ [nI u,.string u_1,nI u_2,nI u_3,nI u_4,nI u_5,nI u_6,.slice u_7.a u_7.len u_7.cap,.slice u_8.a u_8.len u_8.cap])/\
   K u u_1 u_2 u_3 u_4 u_5 u_6 u_7 u_8 w_10:=by
 refine (ZfD hk kc hfl hw).use ?_;clear hw;rintro _ w ⟨sl,sx,rfl,hw⟩;obtain ⟨rp,hrp⟩:∃ rp,rp=ZaB b b.L[k]:=⟨_,rfl⟩;rw [<-hrp] at hw hK ⊢;refine ⟨_,_,_,_,_,_,_,sl,sx,rfl,?_⟩;have hw:Sat R (rpZ b4::Own sl 3 (Zc rp.left)::Own sx 9 (rp.labs.map Value.string)::RBO p b.now b.next b.L sf sb fs Hs) w:=hw.arr;exact ZaR (r:=rp) (sl:=sl) (sb:=sx) hw λ w hw=>hK sl sx w (hw.cons λ _ h=>h.cons λ _ h=>Sat.rbook.2 ⟨sf,sb,_,hfl,h⟩)
theorem Zh8 {b:ZE} {c:Cm} {sg sp:Sl} (k:Core b) (hg:RoI R sg c.grps) (hgl:c.grps.length<=100000) (hp:sp.len=c.parts.length) (hw:Sat R (Zm p b::Hs) w):
  Zk prog 17 #[nP p,cmA c sg sp] w λ v w'=>∃ sl sx:Sl,v=.agg (rpV (ZaT b c) sl sx).toArray/\Sat R (Own sl 3 (Zc (ZaT b c).left)::Own sx 9 ((ZaT b c).labs.map Value.string)::Zm p b::Hs) w':=by
 apply Zyj
 suffices H:∀ K:nK,ZhW R Hs p (b,ZaT b c) K->B17 (some ⟨p,0,none⟩) c.kind c.pnr c.flt c.cls c.many c.time c.sc c.lab c.rows sg sp K w from H _ (λ sl sx w' h=>⟨sl,sx,rfl,h⟩)
 intro K hK;refine Za hw λ b3 w hw=>Za hw λ b4 w hw=>?_;have hw:Sat R (rpZ b4::cmC b3 c sg sp::Zm p b::Hs) w:=hw;refine ⟨c.kind,c.pnr,c.flt,c.cls,c.many,c.time,c.sc,c.lab,c.rows,sg,sp,oA hw,?_⟩;refine (ZeY hg hgl hp hw).u λ w hw=>?_;have err:∀ {e:Int} {w:World},ZaT b c=Z1 e->Sat R (rpZ b4::cmC b3 c sg sp::Zm p b::Hs) w->K (.agg (rpV (Z1 e) Zn Zn).toArray) w=K (.agg (rpV (Z1 e) Zn Zn).toArray) w:=λ _ _=>rfl;refine ⟨_,rfl,λ w=>(Z5 c/\c.kind=9)/\Sat R (rpZ b4::cmC b3 c sg sp::Zm p b::Hs) w,Br.nd (λ hr=>?_) (λ hr=>?_),?_⟩
 ·have he:ZaT b c=Z1 1:=by unfold ZaT;rw [if_pos (.inl hr)]
  rw [he] at hK;exact ZaR (r:=Z1 1) (sl:=Zn) (sb:=Zn) hw λ w hw=>hK.err hw.drop
 ·refine ⟨c.kind,oA hw,Br.ne (λ h9=>?_) (λ h9=>⟨⟨hr,h9⟩,hw⟩)⟩
  have he:ZaT b c=Z1 1:=by unfold ZaT;rw [if_pos (.inr h9)]
  rw [he] at hK;exact ZaR (r:=Z1 1) (sl:=Zn) (sb:=Zn) hw λ w hw=>hK.err hw.drop
 clear hw err;rintro _ w ⟨hr,hw⟩;have hno:¬ (¬ Z5 c\/c.kind≠9):=λ h=>h.elim (λ h=>h hr.1) (λ h=>h hr.2);refine ⟨c.pnr,oA hw,Br.sne (λ hs=>?_) (λ hs=>?_)⟩
 ·have hs':c.pnr≠emS:=hs
  have hsh:ZaT b c=(match ZaY b c.pnr with|(none,e)=>Z1 e|(some x,_)=>ZaB b x):=by
   unfold ZaT;rw [if_neg hno,if_pos hs'];obtain ⟨o,e⟩:=ZaY b c.pnr;cases o<;>rfl
  refine ⟨c.pnr,oA hw,?_⟩;obtain ⟨sf,sb,fs,hfl,hw⟩:=Sat.rbook.1 (show Sat R (Zm p b::rpZ b4::cmC b3 c sg sp::Hs) w from hw.arr)
  refine (ZgS (s:=c.pnr) k hw).use ?_;clear hw;rintro _ w ⟨⟨i,e,rfl,hi⟩,hw⟩;refine ⟨i,e,rfl,Br.ne (λ h=>?_) (λ h=>?_)⟩
  ·obtain ⟨_,hn⟩:=hi.resolve_right λ h2=>h h2.1
   rw [hn] at hsh;dsimp only at hsh;rw [hsh] at hK;have hw:Sat R (Zm p b::rpZ b4::cmC b3 c sg sp::Hs) w:=Sat.rbook.2 ⟨sf,sb,fs,hfl,hw⟩;exact ZaR (r:=Z1 e) (sl:=Zn) (sb:=Zn) hw.swap λ w hw=>hK.err (hw.cons λ _ h=>h.drop)
  ·obtain ⟨_,j,rfl,hj,hn⟩:=hi.resolve_left λ h2=>h2.1 h
   rw [hn] at hsh;dsimp only at hsh;rw [hsh] at hK;have hw:Sat R (RBO p b.now b.next b.L sf sb fs (rpZ b4::cmC b3 c sg sp::Hs)) w:=hw;exact ZgP hj k hfl hw λ sl sx w hw=>hK sl sx w (hw.cons λ _ h=>h.cons λ _ h=>h.cons λ _ h=>h.drop)
 ·have hs':¬ c.pnr≠emS:=λ h=>h hs
  have hsh:ZaT b c=(match b.at c.flt with|none=>Z1 2|some p=>⟨0,emS,0,c.flt,0,(p.q.length:Int),0,Zj p.r,[]⟩):=by
   unfold ZaT;rw [if_neg hno,if_neg hs'];cases b.at c.flt<;>rfl
  refine ⟨c.flt,oA hw,?_⟩;obtain ⟨sf,sb,fs,hfl,hw⟩:=Sat.rbook.1 (show Sat R (Zm p b::rpZ b4::cmC b3 c sg sp::Hs) w from hw.arr)
  refine (Zav (n:=c.flt) k hfl hw).use ?_;clear hw;rintro _ w ⟨⟨i,rfl,hi⟩,hw⟩;refine ⟨i,rfl,Br.d (λ h=>?_) (λ h=>?_)⟩
  ·have hb:b.at c.flt=none:=by
    rcases hi with h2|⟨A,f,q,C,pl,rfl,_⟩
    ·exact h2.2
    ·omega
   rw [hb] at hsh;dsimp only at hsh;rw [hsh] at hK;have hw:Sat R (Zm p b::rpZ b4::cmC b3 c sg sp::Hs) w:=Sat.rbook.2 ⟨sf,sb,fs,hfl,hw⟩;exact ZaR (r:=Z1 2) (sl:=Zn) (sb:=Zn) hw.swap λ w hw=>hK.err (hw.cons λ _ h=>h.drop)
  obtain ⟨A,f,q,C,pl,rfl,rfl,hat⟩:=hi.resolve_left λ h2=>by omega
  rw [hat] at hsh;dsimp only at hsh;rw [hsh] at hK;have hpl:=Z9 hat;have hg2:=k.good pl hpl.1;have hqok:=k.qok pl hpl.1;obtain ⟨M,hM⟩:∃ M,M=(A++(f,q,pl)::C).map Zag:=⟨_,rfl⟩;have hw:=(RBM.iff hM.symm).1 hw;have hkA:A.length<(A++(f,q,pl)::C).length:=by simp
  have hge:(A++(f,q,pl)::C)[A.length]=(f,q,pl):=by simp
  have hw:Sat R (Za4 q pl.q::Zbi f pl.r::ZT (A++C)::pts p (ZC b.now b.next sf sb)::Zl 2 sf plT M::Zl 6 sb rkT (b.L.map rkV)::rpZ b4::cmC b3 c sg sp::Hs) w:=hw.swap;obtain ⟨sq,hw⟩:=Sat.rqu.1 hw;have hql:=Zl.len hw.swap;rw [List.length_map] at hql;have hw:Sat R (Zbi f pl.r::pts q (Z7 sq)::Zl 5 sq waT (pl.q.map wtV)::ZT (A++C)::pts p (ZC b.now b.next sf sb)::Zl 2 sf plT M::Zl 6 sb rkT (b.L.map rkV)::rpZ b4::cmC b3 c sg sp::Hs) w:=hw.arr;have hwM:Sat R (Zbi f pl.r::pts q (Z7 sq)::Zl 5 sq waT (pl.q.map wtV)::ZT (A++C)::pts p (ZC b.now b.next sf sb)::Zl 2 sf plT ((A++(f,q,pl)::C).map Zag)::Zl 6 sb rkT (b.L.map rkV)::rpZ b4::cmC b3 c sg sp::Hs) w:=by rw [<-hM];exact hw
  have rd:ZcG 2 sf ((A++(f,q,pl)::C).map Zag) (Sat R [pts p (ZC b.now b.next sf sb),Zl 2 sf plT M,cmC b3 c sg sp,pts q (Z7 sq),VC.tru]):=by
   rw [hM];exact Zl.readsT (n:=2) (s:=sf) (T:=plT) hwM inferInstance (λ w h=>h) inferInstance
  clear hwM;refine Zr (Sat R [pts p (ZC b.now b.next sf sb),Zl 2 sf plT M,cmC b3 c sg sp,pts q (Z7 sq),VC.tru]) hw (λ w hw=>Zkq hw) λ w hw=>?_;refine ⟨c.flt,oS,Zb.mk rfl ⟨sf,oS,?_⟩⟩;refine rd.rngM (E:=A++(f,q,pl)::C) (g:=Zag) hkA λ a _ he=>?_;rw [hge] at he;refine ⟨some ⟨f,0,none⟩,he.zz (by exact ⟨rfl,trivial⟩),Zb.mk rfl ⟨sf,oS,?_⟩⟩;refine rd.rngM (E:=A++(f,q,pl)::C) (g:=Zag) hkA λ a _ he=>?_;rw [hge] at he;refine ⟨some ⟨q,0,none⟩,he.f 1 (by exact ⟨rfl,trivial⟩),Zb.mk rfl ⟨sq,oS,?_⟩⟩;refine (ZcY hg2 hw).u1 λ sl w hw=>?_;refine ⟨sl,rfl,Zkq hw,?_⟩;rw [hql];have hw:Sat R (rpZ b4::Own sl 3 (Zc (Zj pl.r))::cmC b3 c sg sp::pts q (Z7 sq)::Zl 5 sq waT (pl.q.map wtV)::Zbi f pl.r::ZT (A++C)::pts p (ZC b.now b.next sf sb)::Zl 2 sf plT M::Zl 6 sb rkT (b.L.map rkV)::Hs) w:=hw.arr;refine ZaR (r:=⟨0,emS,0,c.flt,0,(pl.q.length:Int),0,Zj pl.r,[]⟩) (sl:=sl) (sb:=Zn) hw λ w hw=>hK sl Zn w (hw.cons λ _ h=>Own.nil ?_);have h:=Sat.rqu.2 ⟨sq,h.drop⟩;exact RBM.book hM.symm hfl h.swap
theorem ZqV {α:Type} {k:α->Int} {x:α}:∀ {A C:List α},(∀ y∈A,k y<k x)->(∀ y∈C.head?,¬ k y<k x)->Zmb k x (A++C)=A++x::C
 |[],[],_,_=>rfl
 |[],c::C,_,h=>by
  rw [List.nil_append,ZcZ,if_neg (h c (by simp))];rfl
 |a::A,C,h1,h2=>by
  rw [List.cons_append,ZcZ,if_pos (h1 a (by simp)),ZqV (λ y hy=>h1 y (by simp [hy])) h2];rfl
theorem Zm1 (l:List FE):ZR (l.map Zag).flatten=true:=by
 unfold ZR;rw [List.all_eq_true];intro v hv;obtain ⟨r,h1,h2⟩:=List.mem_flatten.1 hv;obtain ⟨x,_,rfl⟩:=List.mem_map.1 h1;simp only [Zag,List.mem_cons,List.not_mem_nil,or_false] at h2;rcases h2 with rfl|rfl<;>rfl
theorem Zod {b:ZE} {c:Cm} {sg sp:Sl} (k:Core b) (hg:RoI R sg c.grps) (hp:SlR R.m sp (Zj2 c.parts)) (hw:Sat R (Zm p b::Hs) w):
  Zk prog 47 #[nP p,cmA c sg sp] w λ v w'=>∃ sl sx:Sl,v=.agg (rpV (Zbc b c).2 sl sx).toArray/\Sat R (Own sl 3 (Zc (Zbc b c).2.left)::Own sx 9 ((Zbc b c).2.labs.map Value.string)::Zm p (Zbc b c).1::Hs) w':=by
 apply Zx6
 suffices H:∀ K:nK,ZhW R Hs p (Zbc b c) K->B47 (some ⟨p,0,none⟩) c.kind c.pnr c.flt c.cls c.many c.time c.sc c.lab c.rows sg sp K w from H _ (λ sl sx w' h=>⟨sl,sx,rfl,h⟩)
 intro K hK;have hfew:=k.few;refine Za hw λ b3 w hw=>Za hw λ b4 w hw=>?_;obtain ⟨sf,sb,fs,hfl,hw⟩:=Sat.rbook.1 (show Sat R (Zm p b::rpZ b4::cmC b3 c sg sp::Hs) w from Sat.arr (show Sat R (rpZ b4::cmC b3 c sg sp::Zm p b::Hs) w from hw))
 have hfll:fs.length=b.fl.length:=by rw [<-hfl,List.length_map]
 have hlen:=(RBO.lens hw).1;refine ⟨c.flt,oA hw,?_⟩;refine (Zav (n:=c.flt) k hfl hw).use ?_;clear hw;rintro _ w ⟨⟨i,rfl,hi⟩,hw⟩;have err:∀ {e:Int} {w:World},Sat R (RBO p b.now b.next b.L sf sb fs (rpZ b4::cmC b3 c sg sp::Hs)) w->Sat R (rpZ b4::cmC b3 c sg sp::Zm p b::Hs) w:=λ {e w} hw=>by
  have hw:Sat R (Zm p b::rpZ b4::cmC b3 c sg sp::Hs) w:=Sat.rbook.2 ⟨sf,sb,fs,hfl,hw⟩;exact hw.arr
 refine ⟨i,rfl,Br.d (λ h=>?_) (λ h=>?_)⟩
 ·have hb:(b.at c.flt).isSome:=by
   rcases hi with h2|⟨A,f,q,C,pl,rfl,_,h3⟩
   ·omega
   ·rw [h3];rfl
  have he:Zbc b c=(b,Z1 7):=by unfold Zbc;rw [if_pos hb]
  rw [he] at hK;exact ZaR (r:=Z1 7) (sl:=Zn) (sb:=Zn) (err (e:=0) hw) λ w hw=>hK.err hw.drop
 have hb:b.at c.flt=none:=by
  rcases hi with h2|⟨A,f,q,C,pl,rfl,_,h3⟩
  ·exact h2.2
  ·omega
 have hh:Zbc b c=if 8<=b.fl.length then (b,Z1 3)
  else if ¬ ZeE c.flt c.rows c.grps c.parts then (b,Z1 1)
  else ({ b with fl:=Zmb Pl.n ⟨ZdA c.flt c.rows c.grps (ZB (Zaw c.rows c.grps) c.parts).1,[]⟩ b.fl },
   ⟨0,emS,0,c.flt,0,0,0,Zj (ZdA c.flt c.rows c.grps (ZB (Zaw c.rows c.grps) c.parts).1),[]⟩):=by
  unfold Zbc;rw [if_neg (by rw [hb];simp)]
 refine Zb.mk rfl ⟨sf,oA hw,Br.d (λ h8=>?_) (λ h8=>?_)⟩
 ·rw [if_pos (by omega)] at hh
  rw [hh] at hK;exact ZaR (r:=Z1 3) (sl:=Zn) (sb:=Zn) (err (e:=0) hw) λ w hw=>hK.err hw.drop
 rw [if_neg (by omega)] at hh;refine ⟨c.flt,oA hw,c.rows,sg,oA hw,sp,oA hw,?_⟩;refine (Zof (num:=c.flt) (rows:=c.rows) hg hp hw).use ?_;clear hw;rintro _ w (⟨hno,rfl,hw⟩|⟨hok,f,rfl,hw⟩)
 ·rw [if_pos hno] at hh
  rw [hh] at hK;exact ⟨none,1,rfl,Br.t (by decide) (ZaR (r:=Z1 1) (sl:=Zn) (sb:=Zn) (err (e:=0) hw) λ w hw=>hK.err hw.drop)⟩
 rw [if_neg (not_not_intro hok)] at hh;obtain ⟨r,hr⟩:∃ r,r=ZdA c.flt c.rows c.grps (ZB (Zaw c.rows c.grps) c.parts).1:=⟨_,rfl⟩;have hgr:ZaP r:=by rw [hr];exact Zgy hok
 have hrn:r.num=c.flt:=by rw [hr];rfl
 rw [<-hr] at hh hw;rw [hh] at hK;have hw:Sat R (RBO p b.now b.next b.L sf sb fs (Zbi f r::rpZ b4::cmC b3 c sg sp::Hs)) w:=hw.arr;refine ⟨_,_,rfl,Br.f (by decide) ⟨λ i w=>∃ j:Nat,i=j/\j<=fs.length/\(∀ e∈fs.take j,e.2.2.n<c.flt)/\(∀ e∈(fs.drop j).head?,¬ e.2.2.n<c.flt)/\Sat R (RBO p b.now b.next b.L sf sb fs (Zbi f r::rpZ b4::cmC b3 c sg sp::Hs)) w,
  ⟨λ i w=>∃ j:Nat,i=j/\j<=fs.length/\(∀ e∈fs.take j,e.2.2.n<c.flt)/\Sat R (RBO p b.now b.next b.L sf sb fs (Zbi f r::rpZ b4::cmC b3 c sg sp::Hs)) w,λ i _=>fs.length - i.toNat,⟨0,rfl,by omega,by simp,hw⟩,?_⟩,?_⟩⟩
 ·clear hw
  rintro _ _ w ⟨j,rfl,hj,hlt,hw⟩;refine Zq hw λ w hw=>Zb.mk rfl ⟨sf,oS,Br.d (λ h1=>?_) (λ h1=>?_)⟩
  ·have hj2:j<fs.length:=by omega
   refine Zb.mk rfl ⟨sf,oS,?_⟩;refine (Zl.readsM (n:=2) (s:=sf) (T:=plT) (rows:=fs.map Zag) hw (λ w h=>h)).rngM (E:=fs) (g:=Zag) hj2 λ a _ he=>?_;refine ⟨some ⟨fs[j].1,0,none⟩,he.zz (by exact ⟨rfl,trivial⟩),Zb.mk rfl ⟨fs[j].2.2.n,ZxA (λ w h=>h) hj2,c.flt,oS,Br.d (λ h2=>?_) (λ h2=>?_)⟩⟩
   ·rw [Zd]
    refine ⟨⟨j + 1,by omega,by omega,λ e hm=>?_,hw⟩,by dsimp only;omega⟩;rw [List.take_add_one,List.getElem?_eq_getElem hj2] at hm;rcases List.mem_append.1 hm with hm|hm
    ·exact hlt e hm
    ·rw [show e=fs[j] by simpa using hm];exact h2
   ·refine ⟨j,rfl,hj,hlt,λ e hm=>?_,hw⟩
    rw [List.drop_eq_getElem_cons hj2] at hm;rw [<-Option.some.inj hm];exact h2
  ·refine ⟨j,rfl,hj,hlt,λ e hm=>?_,hw⟩
   rw [List.drop_of_length_le (by omega)] at hm;cases hm
 clear hw;rintro _ _ w ⟨j,rfl,hj,hlt,hge,hw⟩;have hml:(fs.map Zag).length=fs.length:=List.length_map ..;have hw:Sat R (Zl 2 sf plT (fs.map Zag)::pts p (ZC b.now b.next sf sb)::Zl 6 sb rkT (b.L.map rkV)::ZT fs::Zbi f r::rpZ b4::cmC b3 c sg sp::Hs) w:=hw.arr;have hcap:=Zl.cap (by omega) hw;obtain ⟨R',hro,⟨xh,hx⟩,hw,back⟩:=Zl.lend hw;refine Za hw λ b61 w hw=>Zb.mk rfl ⟨sf,oA hw,by omega,by omega,?_⟩;refine Zbg (b:=b61) (ys:=(fs.map Zag).take j) Zz0 hw (Zdq ⟨_,underlying43⟩ hw (hro.take (h:=j) (by omega) sf.cap) (by rw [<-List.map_take];exact Zm1 _)) hro.wid.take (by rw [List.length_take];omega) (by rw [List.length_take];omega) λ s1 w hw=>?_;refine Za hw λ b72 w hw=>Za hw λ b74 w hw=>?_;have hw:Sat R' (Zl 2 s1 plT ((fs.map Zag).take j)::pts b74 (.cells (Zag (f,b72,(⟨r,[]⟩:Pl))).toArray plT (0,0))::pts b72 (Z7 Zn)::pts p (ZC b.now b.next sf sb)::Zl 6 sb rkT (b.L.map rkV)::ZT fs::Zbi f r::rpZ b4::cmC b3 c sg sp::Hs) w:=(show Sat R' (pts b74 (.cells (Zag (f,b72,(⟨r,[]⟩:Pl))).toArray plT (0,0))::pts b72 (Z7 Zn)::Zl 2 s1 plT ((fs.map Zag).take j)::pts p (ZC b.now b.next sf sb)::Zl 6 sb rkT (b.L.map rkV)::ZT fs::Zbi f r::rpZ b4::cmC b3 c sg sp::Hs) w from hw).arr
 refine Z4 (ys:=[Zag (f,b72,(⟨r,[]⟩:Pl))]) Zz0 hw (Zfx ⟨_,underlying43⟩ (b:=b74) 1 hw rfl rfl) (Wid.one rfl) (by rw [List.length_singleton,List.length_take];omega) (by rw [List.length_singleton,List.length_take];omega) λ s2 w hw=>Zb.mk rfl ⟨sf,oA hw,by omega,by omega,?_⟩;have hsub:=hro.sub (l:=j) (h:=sf.len) (m:=sf.cap) (by omega) (by omega) (by omega);rw [List.take_of_length_le (show (fs.map Zag).length<=sf.len by omega)] at hsub;refine Z4 (ys:=(fs.map Zag).drop j) Zz0 hw (Zdq ⟨_,underlying43⟩ hw hsub (by rw [<-List.map_drop];exact Zm1 _)) hro.wid.drop (by simp only [List.length_take,List.length_drop,List.length_append,List.length_singleton];omega) (by simp only [List.length_take,List.length_drop,List.length_append,List.length_singleton];omega) λ s3 w hw=>Zb.mk rfl ?_;have hw:=back hw;have e:(fs.map Zag).take j++[Zag (f,b72,(⟨r,[]⟩:Pl))]++(fs.map Zag).drop j=(fs.take j++(f,b72,(⟨r,[]⟩:Pl))::fs.drop j).map Zag:=by
  rw [<-List.map_take,<-List.map_drop,List.map_append,List.map_cons,List.append_assoc];rfl
 rw [e] at hw;have hnfl:(fs.take j++(f,b72,(⟨r,[]⟩:Pl))::fs.drop j).map (λ e=>e.2.2)=Zmb Pl.n ⟨r,[]⟩ b.fl:=by
  have e2:b.fl=(fs.take j).map (λ e=>e.2.2)++(fs.drop j).map (λ e=>e.2.2):=by rw [<-hfl,<-List.map_append,List.take_append_drop]
  rw [e2,ZqV,List.map_append,List.map_cons]
  ·intro y hy
   obtain ⟨e,he,rfl⟩:=List.mem_map.1 hy;show e.2.2.n<r.num;rw [hrn];exact hlt e he
  ·intro y hy
   rw [List.head?_map] at hy;obtain ⟨e,he,rfl⟩:=Option.map_eq_some_iff.1 hy;show ¬ e.2.2.n<r.num;rw [hrn];exact hge e he
 have hw:Sat R (pts p (ZC b.now b.next sf sb)::Zl 2 sf plT (fs.map Zag)::Zl 2 s3 plT ((fs.take j++(f,b72,(⟨r,[]⟩:Pl))::fs.drop j).map Zag)::pts b74 (.cells (Zag (f,b72,(⟨r,[]⟩:Pl))).toArray plT (0,0))::pts b72 (Z7 Zn)::Zl 6 sb rkT (b.L.map rkV)::ZT fs::Zbi f r::rpZ b4::cmC b3 c sg sp::Hs) w:=hw.arr;refine sRu hw λ w hw=>?_;have hw:=hw.re (pts p (ZC b.now b.next s3 sb));have hw:Sat R (cmC b3 c sg sp::Zbi f r::pts b72 (Z7 Zn)::ZT fs::pts p (ZC b.now b.next s3 sb)::Zl 2 s3 plT ((fs.take j++(f,b72,(⟨r,[]⟩:Pl))::fs.drop j).map Zag)::Zl 6 sb rkT (b.L.map rkV)::rpZ b4::Zl 2 sf plT (fs.map Zag)::pts b74 (.cells (Zag (f,b72,(⟨r,[]⟩:Pl))).toArray plT (0,0))::Hs) w:=hw.arr;refine Zr (Sat R [cmC b3 c sg sp,VC.tru]) hw (λ w hw=>hw.restTru2) λ w hw=>⟨c.flt,oS,?_⟩;refine (ZcY hgr hw.swap).u1 λ sl w hw=>?_;refine ⟨sl,rfl,(show Sat R (cmC b3 c sg sp::_) w from hw.arr (Hs':=cmC b3 c sg sp::Own sl 3 (Zc (Zj r))::Zbi f r::pts b72 (Z7 Zn)::ZT fs::pts p (ZC b.now b.next s3 sb)::Zl 2 s3 plT ((fs.take j++(f,b72,(⟨r,[]⟩:Pl))::fs.drop j).map Zag)::Zl 6 sb rkT (b.L.map rkV)::rpZ b4::Zl 2 sf plT (fs.map Zag)::pts b74 (.cells (Zag (f,b72,(⟨r,[]⟩:Pl))).toArray plT (0,0))::Hs)).restTru2,?_⟩
 have hw:Sat R (rpZ b4::Own sl 3 (Zc (Zj r))::pts b72 (Z7 Zn)::Zbi f r::ZT fs::pts p (ZC b.now b.next s3 sb)::Zl 2 s3 plT ((fs.take j++(f,b72,(⟨r,[]⟩:Pl))::fs.drop j).map Zag)::Zl 6 sb rkT (b.L.map rkV)::cmC b3 c sg sp::Zl 2 sf plT (fs.map Zag)::pts b74 (.cells (Zag (f,b72,(⟨r,[]⟩:Pl))).toArray plT (0,0))::Hs) w:=hw.arr;refine ZaR (r:=⟨0,emS,0,c.flt,0,0,0,Zj r,[]⟩) (sl:=sl) (sb:=Zn) hw λ w hw=>hK sl Zn w (hw.cons λ _ h=>Own.nil ?_);have h:Sat _ (Za4 b72 []::Zbi f r::ZT fs::pts p (ZC b.now b.next s3 sb)::Zl 2 s3 plT ((fs.take j++(f,b72,(⟨r,[]⟩:Pl))::fs.drop j).map Zag)::Zl 6 sb rkT (b.L.map rkV)::cmC b3 c sg sp::Zl 2 sf plT (fs.map Zag)::pts b74 (.cells (Zag (f,b72,(⟨r,[]⟩:Pl))).toArray plT (0,0))::Hs) _:=Sat.rqu.2 ⟨Zn,h.cons λ _ h=>Zl.nil h⟩;have h:=h.swap;rw [show ZT fs=ZT (fs.take j++fs.drop j) by rw [List.take_append_drop]] at h;have h:=(Zd3 (p:=(⟨r,[]⟩:Pl))).2 h;refine Sat.rbook.2 ⟨s3,sb,_,hnfl,?_⟩;have h:Sat _ (cmC b3 c sg sp::Zl 2 sf plT (fs.map Zag)::pts b74 (.cells (Zag (f,b72,(⟨r,[]⟩:Pl))).toArray plT (0,0))::RBO p b.now b.next b.L s3 sb (fs.take j++(f,b72,(⟨r,[]⟩:Pl))::fs.drop j) Hs) _:=h.arr;exact h.drop.drop.drop
def Zon (p:Nat) (w : nW):Nat:=match w.heap[p]? with
 |some (.cells l _ _)=>(match l[3]? with|some (Value.slice _ n _)=>n|_=>0)
 |_=>0
theorem Zi4 {now next:Int} {L:List Bk} {sf sb:Sl} {fs:List FE} {w:World} (hw:Sat R (RBO p now next L sf sb fs Hs) w):Zon p w=sb.len:=by
 unfold Zon;rw [hw.at];rfl
structure RExp (b:ZE) (t:Int) (j:Nat) (b':ZE):Prop where
 res:Zb6 b t=Zc2 (b'.L.drop j) b'
 core:Core b'
 now:b'.now=t
 le:j<=b'.L.length
structure Zyv (ns:List Int) (t:Int) (B:ZE) (j:Nat) (b':ZE):Prop where
 res:Zbn ns B=Zbn (ns.drop j) b'
 core:Core b'
 now:b'.now=t
 nums:b'.fl.map Pl.n=ns
theorem ZlS {b:ZE} {c:Cm} {sg sp:Sl} (k:Core b) (hr:Z5 c) (hw:Sat R (Zm p b::Hs) w):
  Zk prog 50 #[nP p,cmA c sg sp] w λ v w'=>∃ sl sx:Sl,v=.agg (rpV (Zay b c).2 sl sx).toArray/\Sat R (Own sl 3 (Zc (Zay b c).2.left)::Own sx 9 ((Zay b c).2.labs.map Value.string)::Zm p (Zay b c).1::Hs) w':=by
 apply Zx3
 suffices H:∀ K:nK,ZhW R Hs p (Zay b c) K->B50 (some ⟨p,0,none⟩) c.kind c.pnr c.flt c.cls c.many c.time c.sc c.lab c.rows sg sp K w from H _ (λ sl sx w' h=>⟨sl,sx,rfl,h⟩)
 intro K hK;have htm:=hr.time;refine Za hw λ b3 w hw=>Za hw λ b4 w hw=>?_;obtain ⟨sf,sb,fs,hfl,hw⟩:=Sat.rbook.1 (show Sat R (Zm p b::rpZ b4::cmC b3 c sg sp::Hs) w from Sat.arr (show Sat R (rpZ b4::cmC b3 c sg sp::Zm p b::Hs) w from hw))
 refine Zq hw λ w hw=>⟨c.time,oS,Zb.mk rfl ⟨b.now,oS,Br.d (λ h=>?_) (λ h=>?_)⟩⟩
 ·have he:Zay b c=(b,Z1 7):=by unfold Zay;rw [if_pos h]
  rw [he] at hK;have hw:Sat R (Zm p b::rpZ b4::cmC b3 c sg sp::Hs) w:=Sat.rbook.2 ⟨sf,sb,fs,hfl,hw⟩;exact ZaR (r:=Z1 7) (sl:=Zn) (sb:=Zn) hw.swap λ w hw=>hK.err (hw.cons λ _ h=>h.drop)
 have hclock:Zay b c=(Zbn (b.fl.map Pl.n) (Zb6 b c.time),⟨0,emS,0,0,0,0,c.time,[],[]⟩):=by unfold Zay;rw [if_neg h]
 rw [hclock] at hK;refine ⟨c.time,oA hw,Zb.mk rfl ?_⟩;rw [Zs];refine sRu hw λ w hw=>?_;have hw:=hw.re (pts p (ZC c.time b.next sf sb));have k1:=ZjN k htm;have hw:Sat R (Zm p { b with now:=c.time }::rpZ b4::cmC b3 c sg sp::Hs) w:=Sat.rbook.2 ⟨sf,sb,fs,hfl,hw⟩;refine ⟨λ t w=>∃ (j:Nat) (b':ZE),t=j/\RExp b c.time j b'/\Sat R (Zm p b'::rpZ b4::cmC b3 c sg sp::Hs) w,λ t w=>Zon p w - t.toNat,⟨0,_,rfl,⟨rfl,k1,rfl,Nat.zero_le _⟩,hw⟩,?_⟩;clear hw;rintro _ _ w ⟨j,b',rfl,hi,hw⟩;obtain ⟨sf,sb,fs,hfl,hw⟩:=Sat.rbook.1 hw;have hls:=RBO.lens hw;have hm:=hi.core.many;have hlen0:Zon p w=sb.len:=Zi4 hw;refine Zb.mk rfl ⟨sb,oA hw,Br.d (λ hlt=>?_) (λ hge=>?_)⟩
 ·have hjl:j<b'.L.length:=by omega
  obtain ⟨x,hx⟩:∃ x,x=b'.L[j]:=⟨_,rfl⟩;have hxL:x∈b'.L:=by rw [hx];exact List.getElem_mem hjl
  have hdrop:b'.L.drop j=x::b'.L.drop (j + 1):=by rw [hx];exact List.drop_eq_getElem_cons hjl
  obtain ⟨pl,hat⟩:=hi.core.at_of hxL;obtain ⟨hp1,hp2⟩:=Z9 hat;refine Zb.mk rfl ⟨sb,oA hw,?_⟩;refine (Zl.readsM (n:=6) (s:=sb) (T:=rkT) (rows:=b'.L.map rkV) hw (eqS hw)).rngM (E:=b'.L) (g:=rkV) hjl λ a _ he=>?_;rw [<-hx] at he;refine ⟨x.id,x.flt,x.cls,x.many,x.state,x.till,he.z (by exact ⟨rfl,rfl,rfl,rfl,rfl,rfl,trivial⟩),?_⟩;refine Za hw λ b6 w hw=>?_;refine sRu hw λ w hw=>?_;have hw:=hw.re (rkC b6 x);have hw:Sat R (RBO p b'.now b'.next b'.L sf sb fs (rkC b6 x::rpZ b4::cmC b3 c sg sp::Hs)) w:=(show Sat R (rkC b6 x::RBO p b'.now b'.next b'.L sf sb fs (rpZ b4::cmC b3 c sg sp::Hs)) w from hw).arr
  refine ⟨λ t w=>t=old b'.now x/\Sat R (RBO p b'.now b'.next b'.L sf sb fs (rkC b6 x::rpZ b4::cmC b3 c sg sp::Hs)) w,?_,?_⟩
  ·refine Zq hw λ w hw=>⟨x.state,oS,Br.e (λ h1=>?_) (λ h1=>?_)⟩
   ·refine ⟨x.till,oS,Zb.mk rfl ⟨b'.now,oS,?_,hw⟩⟩
    unfold old;rw [decide_eq_true h1,Bool.true_and]
   ·refine ⟨?_,hw⟩
    unfold old;rw [decide_eq_false h1,Bool.false_and]
  clear hw;rintro _ _ w ⟨rfl,hw⟩;have hexp:Zb6 b c.time=Zc2 (b'.L.drop (j + 1)) (if old b'.now x then ZcS b' x else b'):=by
   rw [hi.res,hdrop];rfl
  have hlen1:Zon p w=sb.len:=Zi4 hw;refine Br.mk (λ hold=>?_) (λ hold=>?_)
  ·rw [if_pos hold] at hexp
   have hst:x.state=1:=by
    unfold old at hold;simp only [Bool.and_eq_true,decide_eq_true_eq] at hold;exact hold.1
   have hlt0:sf.len=fs.length:=hls.1;refine Zr (Sat R [pts p (ZC b'.now b'.next sf sb),Zl 2 sf plT (fs.map Zag),rkC b6 x,VC.tru]) hw (λ w hw=>Zbk hw) λ w hw=>?_;have rd:ZcG 2 sf (fs.map Zag) (Sat R [pts p (ZC b'.now b'.next sf sb),Zl 2 sf plT (fs.map Zag),rkC b6 x,VC.tru]):=Zl.readsT (n:=2) (s:=sf) (T:=plT) hw inferInstance (λ w h=>h) inferInstance;refine Zb.mk rfl ⟨sf,oS,x.flt,oS,x.id,oS,?_⟩;refine (Zav (n:=x.flt) hi.core hfl hw).use ?_;clear hw;rintro _ w ⟨⟨i,rfl,hi2⟩,hw⟩;obtain ⟨A,f,q,C,pl2,rfl,hfs,ha2⟩:=hi2.resolve_left λ h=>by rw [hat] at h;cases h.2
   obtain rfl:pl=pl2:=by rw [hat] at ha2;exact Option.some.inj ha2
   have hkA:A.length<fs.length:=by rw [hfs];simp
   have hge:fs[A.length]=(f,q,pl):=by simp [hfs]
   refine ⟨_,rfl,Zbk hw,?_⟩;refine rd.rngM (E:=fs) (g:=Zag) hkA λ a _ he=>?_;rw [hge] at he;refine ⟨some ⟨f,0,none⟩,he.zz (by exact ⟨rfl,trivial⟩),?_⟩;clear rd he;subst hfs;obtain ⟨M,hM⟩:∃ M,M=(A++(f,q,pl)::C).map Zag:=⟨_,rfl⟩;have hw:=(RBM.iff hM.symm).1 hw;rw [<-hM];have hg:=hi.core.good pl hp1;refine (ZgV (owner:=x.id) (by have:=hg.len.1;omega) hw).u λ w hw=>?_;refine ⟨_,rfl,Zbk hw,?_⟩;have hM2:(A++(f,q,Zdu x.id pl)::C).map Zag=M:=by rw [hM];exact Zjf
   have hw:=(RBM.iff (pl:=Zdu x.id pl) hM2).2 hw;have hfl2:(A++(f,q,Zdu x.id pl)::C).map (λ e=>e.2.2)=(ZcS b' x).fl:=Zhs hi.core hfl hp2;have hcore:=Zfo hi.core hxL (by omega);have hL2:b'.L.take j++b'.L.drop (j + 1)=(ZcS b' x).L:=by
    show _=Zjp Bk.id x.id b'.L;rw [hx,Zq1 hi.core.ids hjl]
   refine (Zkz (by omega) hjl hw).use ?_;clear hw;rintro _ w ⟨rfl,sb2,hw⟩;rw [hL2] at hw;have hls2:=RBO.lens hw;have hlen2:Zon p w=sb2.len:=Zi4 hw;have hll:(ZcS b' x).L.length=b'.L.length - 1:=by
    rw [<-hL2,List.length_append,List.length_take,List.length_drop];omega
   refine ⟨rfl,⟨j,ZcS b' x,rfl,⟨?_,hcore,hi.now,by omega⟩,Sat.rbook.2 ⟨sf,sb2,_,hfl2,?_⟩⟩,?_⟩
   ·rw [hexp,<-hL2,List.drop_left' (by rw [List.length_take];omega)]
   ·exact (show Sat R (rkC b6 x::RBO p b'.now b'.next (ZcS b' x).L sf sb2 (A++(f,q,Zdu x.id pl)::C) (rpZ b4::cmC b3 c sg sp::Hs)) w from hw.arr).drop
   ·dsimp only;rw [hlen2,hlen0];omega
  ·rw [if_neg (by rw [hold];simp)] at hexp
   rw [Zd];refine ⟨⟨j + 1,b',by omega,⟨hexp,hi.core,hi.now,hjl⟩,Sat.rbook.2 ⟨sf,sb,fs,hfl,?_⟩⟩,by dsimp only;rw [hlen1,hlen0];omega⟩;exact (show Sat R (rkC b6 x::RBO p b'.now b'.next b'.L sf sb fs (rpZ b4::cmC b3 c sg sp::Hs)) w from hw.arr).drop
 ·have htk:Zb6 b c.time=b':=by rw [hi.res,List.drop_of_length_le (by omega)];rfl
  have hkeys:=(ZgH k htm).2.2.2.2;rw [htk] at hkeys hK;rw [<-hkeys] at hK;obtain ⟨ns,hns⟩:∃ ns,ns=b'.fl.map Pl.n:=⟨_,rfl⟩;rw [<-hns] at hK;have hnl:ns.length<=8:=by rw [hns,List.length_map];exact hi.core.few
  have hw:Sat R (Zm p b'::rpZ b4::cmC b3 c sg sp::Hs) w:=Sat.rbook.2 ⟨sf,sb,fs,hfl,hw⟩;refine ⟨λ t w=>∃ (j:Nat) (b2:ZE),t=j/\j<=ns.length/\Zyv ns c.time b' j b2/\Sat R (Zm p b2::rpZ b4::cmC b3 c sg sp::Hs) w,λ t _=>ns.length - t.toNat,⟨0,b',rfl,Nat.zero_le _,⟨rfl,hi.core,hi.now,hns.symm⟩,hw⟩,?_⟩;clear hw;rintro _ _ w ⟨j,b2,rfl,hj,hi2,hw⟩;obtain ⟨sf,sb,fs,hfl,hw⟩:=Sat.rbook.1 hw;have hls:=(RBO.lens hw).1;have hfn:fs.length=ns.length:=by rw [<-hi2.nums,<-hfl,List.length_map,List.length_map]
  refine Zb.mk rfl ⟨sf,oA hw,Br.d (λ hlt=>?_) (λ hge=>?_)⟩
  ·have hjl:j<fs.length:=by omega
   obtain ⟨f,q,pl,he,hsp⟩:=ZjE hjl;have hal:(fs.take j).length=j:=by rw [List.length_take];omega
   obtain ⟨A,hA⟩:∃ A,A=fs.take j:=⟨_,rfl⟩;obtain ⟨C,hC⟩:∃ C,C=fs.drop (j + 1):=⟨_,rfl⟩;rw [<-hA] at hal;rw [<-hA,<-hC] at hsp;have hpn:ns[j]'(by omega)=pl.n:=by
    have h1:ns[j]? =some pl.n:=by
     rw [<-hi2.nums,<-hfl,List.map_map,List.getElem?_map,List.getElem?_eq_getElem hjl,he];rfl
    rw [List.getElem?_eq_getElem (by omega)] at h1;exact Option.some.inj h1
   have hdrop:ns.drop j=pl.n::ns.drop (j + 1):=by rw [<-hpn];exact List.drop_eq_getElem_cons (by omega)
   rw [hsp] at hfl hw;rw [Zd];have hr2:=Zdf hi2.core hfl hw;rw [hal] at hr2;refine hr2.use ?_;clear hw hr2;rintro _ w ⟨rfl,pl',hfl',hw⟩;have hok:=Zbb (n:=pl.n) hi2.core;refine ⟨rfl,⟨j + 1,Zy pl.n b2,by omega,by omega,⟨?_,hok.1,hok.2.1.now.trans hi2.now,hok.2.1.keys.trans hi2.nums⟩,Sat.rbook.2 ⟨sf,sb,_,hfl',?_⟩⟩,by dsimp only;omega⟩
   ·rw [hi2.res,hdrop]
    rfl
   ·rw [hok.2.1.now,hok.2.1.next]
    exact hw
  ·have hje:j=ns.length:=by omega
   subst hje;have hfin:Zbn ns b'=b2:=by rw [hi2.res,List.drop_length];rfl
   rw [hfin] at hK;refine Zb.mk rfl ⟨b2.now,oA hw,?_⟩;rw [hi2.now];have hnw:=hi2.now;have hw:Sat R (Zm p b2::rpZ b4::cmC b3 c sg sp::Hs) w:=Sat.rbook.2 ⟨sf,sb,fs,hfl,hw⟩;exact ZaR (r:=⟨0,emS,0,0,0,0,c.time,[],[]⟩) (sl:=Zn) (sb:=Zn) hw.swap λ w hw=>hK Zn Zn w (Own.nil (Own.nil (hw.cons λ _ h=>h.drop)))
theorem Zpv {b:ZE} {x:Bk} {pl:Pl} (h:b.at x.flt=some pl):ZaB b x=ZaH pl x:=by
 unfold ZaB;rw [h]
theorem ZpT {b:ZE} {c:Cm} {i:Nat} {sg sp:Sl} (k:Core b) (hi:i<b.L.length) (hw:Sat R (Zm p b::Hs) w):
  Zk prog 52 #[nP p,nI i,cmA c sg sp] w λ v w'=>∃ sl sx:Sl,v=.agg (rpV (ZdD b b.L[i] c).2 sl sx).toArray/\Sat R (Own sl 3 (Zc (ZdD b b.L[i] c).2.left)::Own sx 9 ((ZdD b b.L[i] c).2.labs.map Value.string)::Zm p (ZdD b b.L[i] c).1::Hs) w':=by
 obtain ⟨x,hx⟩:∃ x,x=b.L[i]:=⟨_,rfl⟩;have hxL:x∈b.L:=by rw [hx];exact List.getElem_mem hi
 obtain ⟨pl,hat⟩:=k.at_of hxL;obtain ⟨hp1,hp2⟩:=Z9 hat;have hg:=k.good pl hp1;have hqok:=k.qok pl hp1;have hm:=k.many;have hgl:=hg.len.1;rw [<-hx];have hone:ZdD b x c=if c.kind=3 then (if x.state≠1 then (b,Z1 7) else ({ b with L:=Zdb Bk.id x.id Zbm b.L },ZaH pl (Zbm x)))
  else if c.kind=4 then (Zy x.flt (ZfR b x),⟨0,c.pnr,0,0,0,0,0,[],[]⟩)
  else if x.state=3 then (b,Z1 7)
  else if c.kind=5 then
   (if (ZO pl.r x.id c.lab).2≠0 then (b,Z1 (ZO pl.r x.id c.lab).2)
    else (b.put x.flt (ZaU (ZO pl.r x.id c.lab).1) b.L,ZaH (ZaU (ZO pl.r x.id c.lab).1 pl) x))
  else (if (ZM pl.r x.id).2.2≠0 then (b,Z1 (ZM pl.r x.id).2.2)
    else (b.put x.flt (ZaU (ZM pl.r x.id).1) b.L,ZaH (ZaU (ZM pl.r x.id).1 pl) x)):=by
  unfold ZdD;rw [hat]
 apply Zx1
 suffices H:∀ K:nK,ZhW R Hs p (ZdD b x c) K->B52 (some ⟨p,0,none⟩) i c.kind c.pnr c.flt c.cls c.many c.time c.sc c.lab c.rows sg sp K w from H _ (λ sl sx w' h=>⟨sl,sx,rfl,h⟩)
 intro K hK;refine Za hw λ b5 w hw=>Za hw λ b6 w hw=>?_;obtain ⟨sf,sb,fs,hfl,hw⟩:=Sat.rbook.1 (show Sat R (Zm p b::rpZ b6::cmC b5 c sg sp::Hs) w from Sat.arr (show Sat R (rpZ b6::cmC b5 c sg sp::Zm p b::Hs) w from hw))
 refine Zb.mk rfl ⟨sb,oA hw,?_⟩;refine (Zl.readsM (n:=6) (s:=sb) (T:=rkT) (rows:=b.L.map rkV) hw (eqS hw)).rngM (E:=b.L) (g:=rkV) hi λ a _ he=>?_;rw [<-hx] at he;refine ⟨x.id,x.flt,x.cls,x.many,x.state,x.till,he.z (by exact ⟨rfl,rfl,rfl,rfl,rfl,rfl,trivial⟩),?_⟩;clear he;refine Za hw λ b7 w hw=>?_;refine sRu hw λ w hw=>?_;have hw:=hw.re (rkC b7 x);have hw:Sat R (RBO p b.now b.next b.L sf sb fs (rkC b7 x::rpZ b6::cmC b5 c sg sp::Hs)) w:=(show Sat R (rkC b7 x::RBO p b.now b.next b.L sf sb fs (rpZ b6::cmC b5 c sg sp::Hs)) w from hw).arr
 refine ⟨x.flt,oA hw,?_⟩;refine (Zav (n:=x.flt) k hfl hw).use ?_;clear hw;rintro _ w ⟨⟨i2,rfl,hi2⟩,hw⟩;obtain ⟨A,f,q,C,pl2,rfl,rfl,ha2⟩:=hi2.resolve_left λ h=>by rw [hat] at h;cases h.2
 obtain rfl:pl=pl2:=by rw [hat] at ha2;exact Option.some.inj ha2
 have hkA:A.length<(A++(f,q,pl)::C).length:=by simp
 have hge:(A++(f,q,pl)::C)[A.length]=(f,q,pl):=by simp
 refine ⟨_,rfl,Zb.mk rfl ⟨sf,oA hw,?_⟩⟩;refine (Zl.readsM (n:=2) (s:=sf) (T:=plT) (rows:=(A++(f,q,pl)::C).map Zag) hw (eqS hw)).rngM (E:=A++(f,q,pl)::C) (g:=Zag) hkA λ a _ he=>?_;rw [hge] at he;refine ⟨some ⟨f,0,none⟩,some ⟨q,0,none⟩,he.z (by exact ⟨rfl,rfl,trivial⟩),?_⟩;clear he;refine Za hw λ b9 w hw=>?_;refine sRu hw λ w hw=>?_;have hw:=hw.re (Zdg b9 f q);have hw:Sat R (RBO p b.now b.next b.L sf sb (A++(f,q,pl)::C) (Zdg b9 f q::rkC b7 x::rpZ b6::cmC b5 c sg sp::Hs)) w:=(show Sat R (Zdg b9 f q::RBO p b.now b.next b.L sf sb (A++(f,q,pl)::C) (rkC b7 x::rpZ b6::cmC b5 c sg sp::Hs)) w from hw).arr
 have err:∀ {e:Int} {w:World},ZdD b x c=(b,Z1 e)->Sat R (RBO p b.now b.next b.L sf sb (A++(f,q,pl)::C) (Zdg b9 f q::rkC b7 x::rpZ b6::cmC b5 c sg sp::Hs)) w->
   ∃ w_6:World,((Instr.storeAt 33 (.pointer ((some ⟨b6,0,none⟩))) (.agg #[nI e,.string emS,nI 0,nI 0,nI 0,nI 0,nI 0,.slice none 0 0,.slice none 0 0])).run prog w=.ok () w_6)/\
    ∃ u:Int,∃ u_1:ByteArray,∃ u_2:Int,∃ u_3:Int,∃ u_4:Int,∃ u_5:Int,∃ u_6:Int,∃ u_7:Sl,∃ u_8:Sl,(At (λ w'=>w'=w_6) ⟨b6,0,none⟩ [nI u,.string u_1,nI u_2,nI u_3,nI u_4,nI u_5,nI u_6,.slice u_7.a u_7.len u_7.cap,.slice u_8.a u_8.len u_8.cap])/\
    K (.agg #[nI u,.string u_1,nI u_2,nI u_3,nI u_4,nI u_5,nI u_6,.slice u_7.a u_7.len u_7.cap,.slice u_8.a u_8.len u_8.cap]) w_6:=λ {e w} h hw=>by
  rw [h] at hK;have hw:Sat R (Zm p b::Zdg b9 f q::rkC b7 x::rpZ b6::cmC b5 c sg sp::Hs) w:=Sat.rbook.2 ⟨sf,sb,_,hfl,hw⟩;have hw:Sat R (rpZ b6::Zdg b9 f q::rkC b7 x::cmC b5 c sg sp::Zm p b::Hs) w:=hw.arr;exact ZaR (r:=Z1 e) (sl:=Zn) (sb:=Zn) hw λ w hw=>hK.err hw.drop.drop.drop
 obtain ⟨M,hM⟩:∃ M,M=(A++(f,q,pl)::C).map Zag:=⟨_,rfl⟩;have hM2:∀ pl',(A++(f,q,pl')::C).map Zag=M:=λ pl'=>by rw [hM];exact Zjf
 refine ⟨c.kind,oA hw,Br.e (λ h3=>?_) (λ h3=>?_)⟩
 ·rw [if_pos h3] at hone
  refine ⟨x.state,oA hw,Br.ne (λ h1=>?_) (λ h1=>?_)⟩
  ·rw [if_pos h1] at hone
   exact err hone hw
  rw [if_neg (λ h=>h h1)] at hone;rw [hone] at hK;refine Zb.mk rfl ⟨sb,oA hw,?_⟩;refine (Zl.readsM (n:=6) (s:=sb) (T:=rkT) (rows:=b.L.map rkV) hw (eqS hw)).rngM (E:=b.L) (g:=rkV) hi λ a ha _=>?_;refine Zl.storeM (n:=6) (s:=sb) (T:=rkT) (E:=b.L) (g:=rkV) 4 { x with state:=2 } hw ha hi (by kernel_rfl) rfl (by simp [Value.cells]) (by rw [<-hx];rfl) λ w hw=>?_;have hl1:(b.L.set i { x with state:=2 }).length=b.L.length:=List.length_set;refine Zb.mk rfl ⟨sb,oA hw,?_⟩;refine (Zl.readsM (n:=6) (s:=sb) (T:=rkT) (rows:=(b.L.set i { x with state:=2 }).map rkV) hw (eqS hw)).rngM (E:=b.L.set i { x with state:=2 }) (g:=rkV) (by omega) λ a ha _=>?_;refine Zl.storeM (n:=6) (s:=sb) (T:=rkT) (E:=b.L.set i { x with state:=2 }) (g:=rkV) 5 (Zbm x) hw ha (by omega) (by kernel_rfl) rfl (by simp [Value.cells]) (by rw [List.getElem_set_self];rfl) λ w hw=>?_;have hset:(b.L.set i { x with state:=2 }).set i (Zbm x)=Zdb Bk.id x.id Zbm b.L:=by
   rw [List.set_set,hx,ZrQ k.ids hi]
  rw [hset] at hw;have hcore:=ZhA k hxL h1;obtain ⟨nb,hnb⟩:∃ nb:ZE,nb={ b with L:=Zdb Bk.id x.id Zbm b.L }:=⟨_,rfl⟩;have hnL:nb.L=b.L.set i (Zbm x):=by rw [hnb];show Zdb Bk.id x.id Zbm b.L=_;rw [hx,ZrQ k.ids hi]
  have hil:i<nb.L.length:=by rw [hnL,List.length_set];exact hi
  have hni:nb.L[i]=Zbm x:=by simp only [hnL,List.getElem_set_self]
  have hnat:nb.at (Zbm x).flt=some pl:=by rw [hnb];exact hat
  have ht:ZaB nb nb.L[i]=ZaH pl (Zbm x):=by rw [hni];exact Zpv hnat
  have hw:Sat R (RBO p nb.now nb.next nb.L sf sb (A++(f,q,pl)::C) (rpZ b6::Zdg b9 f q::rkC b7 x::cmC b5 c sg sp::Hs)) w:=by
   rw [hnb];exact hw.arr
  rw [<-hnb] at hcore hK;rw [<-ht] at hK;have hfl2:(A++(f,q,pl)::C).map (λ e=>e.2.2)=nb.fl:=by rw [hnb];exact hfl
  exact ZgP hil hcore hfl2 hw λ sl sx w hw=>hK sl sx w (hw.cons λ _ h=>h.cons λ _ h=>h.cons λ _ h=>h.drop.drop.drop)
 rw [if_neg h3] at hone;refine Br.e (λ h4=>?_) (λ h4=>?_)
 ·rw [if_pos h4] at hone
  rw [hone] at hK;have fin:∀ {pl':Pl} {nb:ZE} {w:World},pl'.n=x.flt->Core nb->(A++(f,q,pl')::C).map (λ e=>e.2.2)=nb.fl->nb.L=Zjp Bk.id x.id b.L->nb.now=b.now->nb.next=b.next->nb=ZfR b x->Sat R (RBM p b.now b.next b.L sf sb M A C f q pl' (Zdg b9 f q::rkC b7 x::rpZ b6::cmC b5 c sg sp::Hs)) w->
    nC 115 #[nP p,nI (i:Int)] w λ e_3 w_14=>
    (e_3=.returned (.tuple #[]))/\
    nC 113 #[nP p,nI (A.length:Nat)] w_14 λ e_4 w_15=>
    (e_4=.returned (.tuple #[]))/\
    ∃ t99:ByteArray,(At (λ w'=>w'=w_15) ⟨b5,0 + 1,none⟩ [.string t99])/\
    ∃ w_16:World,((Instr.storeAt 33 (.pointer ((some ⟨b6,0,none⟩))) (.agg #[nI 0,.string t99,nI 0,nI 0,nI 0,nI 0,nI 0,.slice none 0 0,.slice none 0 0])).run prog w_15=.ok () w_16)/\
    ∃ u_18:Int,∃ u_19:ByteArray,∃ u_20:Int,∃ u_21:Int,∃ u_22:Int,∃ u_23:Int,∃ u_24:Int,∃ u_25:Sl,∃ u_26:Sl,(At (λ w'=>w'=w_16) ⟨b6,0,none⟩ [nI u_18,.string u_19,nI u_20,nI u_21,nI u_22,nI u_23,nI u_24,.slice u_25.a u_25.len u_25.cap,.slice u_26.a u_26.len u_26.cap])/\
    K (.agg #[nI u_18,.string u_19,nI u_20,nI u_21,nI u_22,nI u_23,nI u_24,.slice u_25.a u_25.len u_25.cap,.slice u_26.a u_26.len u_26.cap]) w_16:=λ {pl' nb w} hpn hcore hfl2 hnL hnow hnext hnb hw=>by
   have hw:=(RBM.iff (hM2 pl')).2 hw;refine (Zkz (by omega) hi hw).use ?_;clear hw;rintro _ w ⟨rfl,sb2,hw⟩;have hL2:b.L.take i++b.L.drop (i + 1)=nb.L:=by rw [hnL,hx,Zq1 k.ids hi]
   rw [hL2,<-hnow,<-hnext] at hw;refine ⟨rfl,?_⟩;refine (Zdf hcore hfl2 hw).use ?_;clear hw;rintro _ w ⟨rfl,pl3,hfl3,hw⟩;rw [hpn] at hfl3 hw;have hok:=Zbb (n:=x.flt) hcore;rw [<-hok.2.1.now,<-hok.2.1.next] at hw;have hw:Sat R (Zm p (Zy x.flt nb)::Zdg b9 f q::rkC b7 x::rpZ b6::cmC b5 c sg sp::Hs) w:=Sat.rbook.2 ⟨sf,sb2,_,hfl3,hw⟩;rw [hnb] at hw;refine ⟨rfl,c.pnr,oA hw,?_⟩;have hw:Sat R (rpZ b6::Zdg b9 f q::rkC b7 x::cmC b5 c sg sp::Zm p (Zy x.flt (ZfR b x))::Hs) w:=hw.arr;exact ZaR (r:=⟨0,c.pnr,0,0,0,0,0,[],[]⟩) (sl:=Zn) (sb:=Zn) hw λ w hw=>hK Zn Zn w (Own.nil (Own.nil hw.drop.drop.drop))
  have hcore:=ZhC k hxL;refine ⟨x.state,oA hw,Br.e (λ hs=>?_) (λ hs=>?_)⟩
  ·have hgo:ZfR b x=b.put x.flt (Zp9 x.id) (Zjp Bk.id x.id b.L):=by unfold ZfR;rw [if_pos hs]
   refine ⟨some ⟨q,0,none⟩,oA hw,x.id,oA hw,?_⟩;have hw:=(RBM.iff hM.symm).1 hw;refine (ZeT (id:=x.id) (by have:=hqok.len;omega) hw.swap).u λ w hw=>?_;rw [Zm3] at hw;refine ⟨_,rfl,fin (pl':=Zp9 x.id pl) (nb:=ZfR b x) hp2 hcore (by rw [hgo];exact Zhs k hfl hp2) (by rw [hgo];rfl) (by rw [hgo];rfl) (by rw [hgo];rfl) rfl hw.swap⟩
  ·have hgo:ZfR b x=ZcS b x:=by unfold ZfR;rw [if_neg hs]
   refine ⟨some ⟨f,0,none⟩,oA hw,x.id,oA hw,?_⟩;have hw:=(RBM.iff hM.symm).1 hw;refine (ZgV (owner:=x.id) (by omega) hw).u λ w hw=>?_;exact ⟨_,rfl,fin (pl':=Zdu x.id pl) (nb:=ZfR b x) (Zdl.1.trans hp2) hcore (by rw [hgo];exact Zhs k hfl hp2) (by rw [hgo];rfl) (by rw [hgo];rfl) (by rw [hgo];rfl) rfl hw⟩
 rw [if_neg h4] at hone;refine ⟨x.state,oA hw,Br.e (λ hs=>?_) (λ hs=>?_)⟩
 ·rw [if_pos hs] at hone
  exact err hone hw
 rw [if_neg hs] at hone;have seat:∀ {r:RF} {w:World} (hd:HP),ZaP r->ZcF pl.r r->ZdD b x c=(b.put x.flt (ZaU r) b.L,ZaH (ZaU r pl) x)->Sat R (RBM p b.now b.next b.L sf sb M A C f q (ZaU r pl) (hd::Zdg b9 f q::rkC b7 x::rpZ b6::cmC b5 c sg sp::Hs)) w->
   nC 57 #[nP p,nI i] w λ e_2 w_9=>
    ∃ t35:Int,∃ t35_1:ByteArray,∃ t35_2:Int,∃ t35_3:Int,∃ t35_4:Int,∃ t35_5:Int,∃ t35_6:Int,∃ t35_7:Sl,∃ t35_8:Sl,(e_2=.returned (.agg #[nI t35,.string t35_1,nI t35_2,nI t35_3,nI t35_4,nI t35_5,nI t35_6,.slice t35_7.a t35_7.len t35_7.cap,.slice t35_8.a t35_8.len t35_8.cap]))/\
    ∃ w_10:World,((Instr.storeAt 33 (.pointer ((some ⟨b6,0,none⟩))) (.agg #[nI t35,.string t35_1,nI t35_2,nI t35_3,nI t35_4,nI t35_5,nI t35_6,.slice t35_7.a t35_7.len t35_7.cap,.slice t35_8.a t35_8.len t35_8.cap])).run prog w_9=.ok () w_10)/\
    ∃ u:Int,∃ u_1:ByteArray,∃ u_2:Int,∃ u_3:Int,∃ u_4:Int,∃ u_5:Int,∃ u_6:Int,∃ u_7:Sl,∃ u_8:Sl,(At (λ w'=>w'=w_10) ⟨b6,0,none⟩ [nI u,.string u_1,nI u_2,nI u_3,nI u_4,nI u_5,nI u_6,.slice u_7.a u_7.len u_7.cap,.slice u_8.a u_8.len u_8.cap])/\
    K (.agg #[nI u,.string u_1,nI u_2,nI u_3,nI u_4,nI u_5,nI u_6,.slice u_7.a u_7.len u_7.cap,.slice u_8.a u_8.len u_8.cap]) w_10:=λ {r w} hd hgr hsl ho hw=>by
  rw [ho] at hK;have hcore:=Zlk k hat hgr hsl;obtain ⟨nb,hnb⟩:∃ nb,nb=b.put x.flt (ZaU r) b.L:=⟨_,rfl⟩;have hn2:(ZaU r pl).n=x.flt:=hsl.num.trans hp2;have hfl2:(A++(f,q,ZaU r pl)::C).map (λ e=>e.2.2)=nb.fl:=by rw [hnb];exact Zhs k hfl hp2
  rw [<-hnb] at hcore hK;have hnat:nb.at x.flt=some (ZaU r pl):=(ZdV hcore).2 ⟨by rw [<-hfl2];simp,hn2⟩;have hil:i<nb.L.length:=by rw [hnb];exact hi
  have ht:ZaB nb nb.L[i]=ZaH (ZaU r pl) x:=by
   have e:nb.L[i]=x:=by simp only [hnb,hx];rfl
   rw [e];exact Zpv hnat
  rw [<-ht] at hK;have hw:=(RBM.iff (hM2 (ZaU r pl))).2 hw;have hw:Sat R (RBO p b.now b.next b.L sf sb (A++(f,q,ZaU r pl)::C) (rpZ b6::hd::Zdg b9 f q::rkC b7 x::cmC b5 c sg sp::Hs)) w:=hw.arr;have hw:Sat R (RBO p nb.now nb.next nb.L sf sb (A++(f,q,ZaU r pl)::C) (rpZ b6::hd::Zdg b9 f q::rkC b7 x::cmC b5 c sg sp::Hs)) w:=by
   rw [hnb];exact hw
  exact ZgP hil hcore hfl2 hw λ sl sx w hw=>hK sl sx w (hw.cons λ _ h=>h.cons λ _ h=>h.cons λ _ h=>h.drop.drop.drop.drop)
 have hw:=(RBM.iff hM.symm).1 hw;refine ⟨c.kind,oA hw,Br.e (λ h5=>?_) (λ h5=>?_)⟩
 ·rw [if_pos h5] at hone
  refine ⟨some ⟨f,0,none⟩,oA hw,x.id,oA hw,c.lab,oA hw,?_⟩;refine (ZlM (owner:=x.id) (lab:=c.lab) (by omega) hg.hgrps hg.hseats hw).u λ w hw=>?_;refine ⟨_,rfl,Br.ne (λ h6=>?_) (λ h6=>?_)⟩
  ·rw [if_pos h6] at hone
   rw [ZmX h6] at hw;exact err hone ((RBM.iff hM.symm).2 hw)
  ·rw [if_neg (λ h=>h h6)] at hone
   have hw:Sat R (RBM p b.now b.next b.L sf sb M A C f q (ZaU (ZO pl.r x.id c.lab).1 pl) (Zdg b9 f q::rkC b7 x::rpZ b6::cmC b5 c sg sp::Hs)) w:=hw;exact seat VC.tru (Zhm hg _ _) (ZlH hg h6) hone ((Sat.tru hw).arr)
 ·rw [if_neg h5] at hone
  refine ⟨some ⟨f,0,none⟩,oA hw,x.id,oA hw,?_⟩;refine (ZlT (owner:=x.id) (by omega) hg.hgrps hg.hseats hw).u1 λ ta w hw=>?_;refine ⟨ta,_,rfl,Br.ne (λ h6=>?_) (λ h6=>?_)⟩
  ·rw [if_pos h6] at hone
   rw [ZrY h6] at hw;exact err hone ((RBM.iff hM.symm).2 hw.drop)
  ·rw [if_neg (λ h=>h h6)] at hone
   have hw:Sat R (Own ta 9 ((ZM pl.r x.id).2.1.map Value.string)::RBM p b.now b.next b.L sf sb M A C f q (ZaU (ZM pl.r x.id).1 pl) (Zdg b9 f q::rkC b7 x::rpZ b6::cmC b5 c sg sp::Hs)) w:=hw;exact seat (Own ta 9 ((ZM pl.r x.id).2.1.map Value.string)) (Zhn hg _) (ZmC h6) hone hw.arr
theorem Zob {g:FuncId} {ars:Array Value} {b4:Nat} {y:ZE × Rp} {K:Int->ByteArray->Int->Int->Int->Int->Int->Sl->Sl->World->Prop}
  (h:Zk prog g ars w λ v w'=>∃ sl sx:Sl,v=.agg (rpV y.2 sl sx).toArray/\Sat R (Own sl 3 (Zc y.2.left)::Own sx 9 (y.2.labs.map Value.string)::Zm p y.1::rpZ b4::Hs) w')
  (hK:∀ sl sx w',Sat R (Own sl 3 (Zc y.2.left)::Own sx 9 (y.2.labs.map Value.string)::Zm p y.1::Hs) w'->K y.2.code y.2.pnr y.2.state y.2.flt y.2.cls y.2.many y.2.time sl sx w'):
  Calls prog g ars w λ e_2 w_9=>
   ∃ t35:Int,∃ t35_1:ByteArray,∃ t35_2:Int,∃ t35_3:Int,∃ t35_4:Int,∃ t35_5:Int,∃ t35_6:Int,∃ t35_7:Sl,∃ t35_8:Sl,(e_2=.returned (.agg #[nI t35,.string t35_1,nI t35_2,nI t35_3,nI t35_4,nI t35_5,nI t35_6,.slice t35_7.a t35_7.len t35_7.cap,.slice t35_8.a t35_8.len t35_8.cap]))/\
   ∃ w_10:World,((Instr.storeAt 33 (.pointer ((some ⟨b4,0,none⟩))) (.agg #[nI t35,.string t35_1,nI t35_2,nI t35_3,nI t35_4,nI t35_5,nI t35_6,.slice t35_7.a t35_7.len t35_7.cap,.slice t35_8.a t35_8.len t35_8.cap])).run prog w_9=.ok () w_10)/\
   ∃ u:Int,∃ u_1:ByteArray,∃ u_2:Int,∃ u_3:Int,∃ u_4:Int,∃ u_5:Int,∃ u_6:Int,∃ u_7:Sl,∃ u_8:Sl,(At (λ w'=>w'=w_10) ⟨b4,0,none⟩ [nI u,.string u_1,nI u_2,nI u_3,nI u_4,nI u_5,nI u_6,.slice u_7.a u_7.len u_7.cap,.slice u_8.a u_8.len u_8.cap])/\
   K u u_1 u_2 u_3 u_4 u_5 u_6 u_7 u_8 w_10:=by
 refine h.use ?_;rintro _ w ⟨sl,sx,rfl,hw⟩;refine ⟨_,_,_,_,_,_,_,sl,sx,rfl,?_⟩;have hw:Sat R (rpZ b4::Own sl 3 (Zc y.2.left)::Own sx 9 (y.2.labs.map Value.string)::Zm p y.1::Hs) w:=hw.arr;exact ZaR (r:=y.2) (sl:=sl) (sb:=sx) hw λ w hw=>hK sl sx w hw
theorem ZlU {b:ZE} {c:Cm} {sg sp:Sl} (k:Core b) (hsc:c.sc<18446744073709551616) (hg:RoI R sg c.grps) (hgl:c.grps.length<=100000) (hp:SlR R.m sp (Zj2 c.parts)) (hw:Sat R (Zm p b::Hs) w):
  Zk prog 14 #[nP p,cmA c sg sp] w λ v w'=>∃ sl sx:Sl,v=.agg (rpV (ZG b c).2 sl sx).toArray/\Sat R (Own sl 3 (Zc (ZG b c).2.left)::Own sx 9 ((ZG b c).2.labs.map Value.string)::Zm p (ZG b c).1::Hs) w':=by
 have hplen:sp.len=c.parts.length:=by have:=hp.len;simpa using this
 apply Zym
 suffices H:∀ K:nK,ZhW R Hs p (ZG b c) K->B14 (some ⟨p,0,none⟩) c.kind c.pnr c.flt c.cls c.many c.time c.sc c.lab c.rows sg sp K w from H _ (λ sl sx w' h=>⟨sl,sx,rfl,h⟩)
 intro K hK;refine Za hw λ b3 w hw=>Za hw λ b4 w hw=>?_;have hw:Sat R (rpZ b4::cmC b3 c sg sp::Zm p b::Hs) w:=hw;refine ⟨c.kind,c.pnr,c.flt,c.cls,c.many,c.time,c.sc,c.lab,c.rows,sg,sp,oA hw,?_⟩;refine (ZeY hg hgl hplen hw).u λ w hw=>?_;refine ⟨_,rfl,Br.nd (λ hr=>?_) (λ hr=>?_)⟩
 ·have he:ZG b c=(b,Z1 1):=by unfold ZG;rw [if_pos hr]
  rw [he] at hK;exact ZaR (r:=Z1 1) (sl:=Zn) (sb:=Zn) hw λ w hw=>hK.err hw.drop
 have hrr:¬ ¬ Z5 c:=λ h=>h hr;have hw:Sat R (Zm p b::rpZ b4::cmC b3 c sg sp::Hs) w:=hw.arr;have fin:∀ {y:ZE × Rp},ZG b c=y->∀ sl sx w',Sat R (Own sl 3 (Zc y.2.left)::Own sx 9 (y.2.labs.map Value.string)::Zm p y.1::cmC b3 c sg sp::Hs) w'->K (.agg (rpV y.2 sl sx).toArray) w':=λ {y} e sl sx w' h=>by
  rw [e] at hK;exact hK sl sx w' (h.cons λ _ h=>h.cons λ _ h=>h.cons λ _ h=>h.drop)
 refine ⟨c.kind,oA hw,Br.e (λ h1=>?_) (λ h1=>Br.e (λ h2=>?_) (λ h2=>Br.e (λ h7=>?_) (λ h7=>Br.e (λ h8=>?_) (λ h8=>Br.e (λ h9=>?_) (λ h9=>?_)))))⟩
 ·refine ⟨c.kind,c.pnr,c.flt,c.cls,c.many,c.time,c.sc,c.lab,c.rows,sg,sp,oA hw,?_⟩
  exact Zob (y:=Zbc b c) (Zod k hg hp hw) (fin (by unfold ZG;rw [if_neg hrr,if_pos h1]))
 ·refine ⟨c.kind,c.pnr,c.flt,c.cls,c.many,c.time,c.sc,c.lab,c.rows,sg,sp,oA hw,?_⟩
  exact Zob (y:=Zbe b c) (Zog k hr hw) (fin (by unfold ZG;rw [if_neg hrr,if_neg h1,if_pos h2]))
 ·refine ⟨c.kind,c.pnr,c.flt,c.cls,c.many,c.time,c.sc,c.lab,c.rows,sg,sp,oA hw,?_⟩
  exact Zob (y:=ZaF b c) (Zn3 k hr hsc hw) (fin (by unfold ZG;rw [if_neg hrr,if_neg h1,if_neg h2,if_pos h7]))
 ·refine ⟨c.kind,c.pnr,c.flt,c.cls,c.many,c.time,c.sc,c.lab,c.rows,sg,sp,oA hw,?_⟩
  exact Zob (y:=Zay b c) (ZlS k hr hw) (fin (by unfold ZG;rw [if_neg hrr,if_neg h1,if_neg h2,if_neg h7,if_pos h8]))
 ·refine ⟨c.kind,c.pnr,c.flt,c.cls,c.many,c.time,c.sc,c.lab,c.rows,sg,sp,oA hw,?_⟩
  exact Zob (y:=(b,ZaT b c)) (Zh8 k hg hgl hplen hw) (fin (by unfold ZG;rw [if_neg hrr,if_neg h1,if_neg h2,if_neg h7,if_neg h8,if_pos h9]))
 ·have hap:ZG b c=(match ZaY b c.pnr with|(none,e)=>(b,Z1 e)|(some x,_)=>ZdD b x c):=by
   unfold ZG;rw [if_neg hrr,if_neg h1,if_neg h2,if_neg h7,if_neg h8,if_neg h9];obtain ⟨o,e⟩:=ZaY b c.pnr;cases o<;>rfl
  refine ⟨c.pnr,oA hw,?_⟩;obtain ⟨sf,sb,fs,hfl,hw⟩:=Sat.rbook.1 hw;refine (ZgS (s:=c.pnr) k hw).use ?_;clear hw;rintro _ w ⟨⟨i,e,rfl,hi⟩,hw⟩;have hw:Sat R (Zm p b::rpZ b4::cmC b3 c sg sp::Hs) w:=Sat.rbook.2 ⟨sf,sb,fs,hfl,hw⟩;refine ⟨i,e,rfl,Br.ne (λ h=>?_) (λ h=>?_)⟩
  ·obtain ⟨_,hn⟩:=hi.resolve_right λ h2=>h h2.1
   rw [hn] at hap;dsimp only at hap;rw [hap] at hK;exact ZaR (r:=Z1 e) (sl:=Zn) (sb:=Zn) hw.swap λ w hw=>hK.err (hw.cons λ _ h=>h.drop)
  ·obtain ⟨_,j,rfl,hj,hn⟩:=hi.resolve_left λ h2=>h2.1 h
   rw [hn] at hap;dsimp only at hap;refine ⟨c.kind,c.pnr,c.flt,c.cls,c.many,c.time,c.sc,c.lab,c.rows,sg,sp,oA hw,?_⟩;exact Zob (y:=ZdD b b.L[j] c) (ZpT k hj hw) (fin hap)
theorem Zks {t:Sl} {bs:List Int} (hl:bs.length<=1000000) (hw:Sat R (Own t 5 (b8 bs)::Hs) w):
  Zk prog 68 #[.slice t.a t.len t.cap] w λ v w'=>∃ t:Sl,v=.slice t.a t.len t.cap/\Sat R (Own t 5 (b8 (Zca bs))::Hs) w':=by
 obtain ⟨R1,e1,g1,hw⟩:=Own.leak hw;refine (ZlL (g1.ro) (by omega) hw).mono ?_;rintro _ w ⟨t,rfl,hw⟩;exact ⟨t,rfl,e1.back hw⟩
theorem Zn6 {b:ZE} (k:Core b) (hw:Sat R (Zm p b::Hs) w):
  Zk prog 19 #[nP p] w λ v w'=>∃ t:Sl,v=.slice t.a t.len t.cap/\Sat R (Own t 5 (b8 (Zdy b))::Zm p b::Hs) w':=by
 apply Zyh
 suffices H:∀ K:nK,(∀ (t:Sl) w',Sat R (Own t 5 (b8 (Zdy b))::Zm p b::Hs) w'->K (.slice t.a t.len t.cap) w')->B19 (some ⟨p,0,none⟩) K w from H _ λ t w' h=>⟨t,rfl,h⟩
 intro K hK;have k1:=k.now;have k2:=k.next;have k3:=k.few;have k4:=k.many;have a1:=ZJ (x:=b.now) (by omega);have a2:=ZJ (x:=b.next) (by omega);have a3:=ZJ (x:=(b.fl.length:Int)) (by omega);have a4:=ZJ (x:=(b.L.length:Int)) (by omega);have a5:∀ j,(((b.fl.take j).map plB).flatten).length<=304000:=λ j=>by
  have:=ZbF (l:=b.fl.take j) (code:=plB) (m:=38000) λ p hp=>ZlZ (k.good p (List.mem_of_mem_take hp)) (k.qok p (List.mem_of_mem_take hp));rw [List.length_take] at this;omega
 have a6:∀ j,(((b.L.take j).map bkB).flatten).length<=16200:=λ j=>by
  have:=ZbF (l:=b.L.take j) (code:=bkB) (m:=54) λ x hx=>ZjV k2.2 (k.each x (List.mem_of_mem_take hx));rw [List.length_take] at this;omega
 obtain ⟨sf,sb,fs,hfl,hw⟩:=Sat.rbook.1 hw;have hls:=RBO.lens hw;have hfn:fs.length=b.fl.length:=by rw [<-hfl,List.length_map]
 refine Zr (Sat R [pts p (ZC b.now b.next sf sb),VC.tru]) hw (λ w hw=>hw.restTru2) λ w hw=>?_;refine Zb.mk rfl ⟨b.now,oS,Zb.mk rfl ⟨b.next,oS,Zb.mk rfl ⟨sf,oS,?_⟩⟩⟩;rw [show ((sf.len:Nat):Int)=((b.fl.length:Nat):Int) by omega];refine Za hw λ b20 w hw=>⟨hw.swap.restTru2,?_⟩;refine (ZgT (xs:=[b.now,b.next,(b.fl.length:Int)]) rfl (by simp;omega) (by simp) hw).u1 λ t1 w hw=>?_;refine ⟨t1,rfl,hw.swap.restTru2,?_⟩;rw [nn3s (by omega) (by omega) (by omega)] at hw;obtain ⟨h0,hh0⟩:∃ h,h=Zi [b.now]++(Zi [b.next]++Zi [(b.fl.length:Int)]):=⟨_,rfl⟩;have hl0:h0.length<=27:=by rw [hh0];simp only [List.length_append];omega
 rw [<-hh0] at hw;refine ⟨λ out i w=>∃ j:Nat,i=j/\j<=b.fl.length/\Sat R (Own out 5 (b8 (h0++((b.fl.take j).map plB).flatten))::RBO p b.now b.next b.L sf sb fs Hs) w,
  λ _ i _=>b.fl.length - i.toNat,⟨0,rfl,by omega,by simpa using hw⟩,?_⟩
 clear hw;rintro _ out _ w ⟨j,rfl,hj,hw⟩;have hla:=a5 j;refine Zb.mk rfl ⟨sf,oA hw,Br.d (λ h=>?_) (λ h=>?_)⟩
 ·have hj2:j<fs.length:=by omega
  have hj3:j<b.fl.length:=by omega
  have hpl:b.fl[j]=fs[j].2.2:=by
   have:b.fl[j]? =some fs[j].2.2:=by rw [<-hfl,List.getElem?_map,List.getElem?_eq_getElem hj2];rfl
   rw [List.getElem?_eq_getElem hj3] at this;exact Option.some.inj this
  have hmem:fs[j].2.2∈b.fl:=by rw [<-hpl];exact List.getElem_mem _
  have hg:=k.good _ hmem;have hq:=k.qok _ hmem;have e1:=ZfG hg;have e2:=Zqg hq;have e3:=Zdv (d:=Zby fs[j].2.2.r) (by omega);have e4:=Zdv (d:=qB fs[j].2.2.q) (by omega);have hw:Sat R (RBO p b.now b.next b.L sf sb fs (Own out 5 (b8 (h0++((b.fl.take j).map plB).flatten))::Hs)) w:=hw.arr;refine Zb.mk rfl ⟨sf,oA hw,?_⟩;refine (Zl.readsM (n:=2) (s:=sf) (T:=plT) (rows:=fs.map Zag) hw (eqS hw)).rngM (E:=fs) (g:=Zag) hj2 λ a _ hr=>?_;refine ⟨some ⟨fs[j].1,0,none⟩,hr.zz (by exact ⟨rfl,trivial⟩),?_⟩;clear hr;have hw:=(RBO.fl hj2).1 hw;refine (Zi2 (Zef hg) hw).u1 λ t1 w hw=>?_;refine ⟨t1,rfl,?_⟩;refine (Zks (by omega) hw).u1 λ t2 w hw=>?_;refine ⟨t2,rfl,?_⟩;have hw:Sat R (Own t2 5 (b8 (Zca (Zby fs[j].2.2.r)))::Own out 5 (b8 (h0++((b.fl.take j).map plB).flatten))::Za4 fs[j].2.1 fs[j].2.2.q::Zbi fs[j].1 fs[j].2.2.r::RBR p b.now b.next b.L sf sb fs j Hs) w:=hw.arr;refine ZyI (by rw [List.length_append];omega) hw λ t3 w hw=>Zb.mk rfl ⟨sf,oA hw,?_⟩;refine (Zl.readsM (n:=2) (s:=sf) (T:=plT) (rows:=fs.map Zag) hw (eqS hw)).rngM (E:=fs) (g:=Zag) hj2 λ a _ hr=>?_;refine ⟨some ⟨fs[j].2.1,0,none⟩,hr.f 1 (by exact ⟨rfl,trivial⟩),?_⟩;clear hr;refine (Zn8 (by have:=hq.len;omega) hq.ok hq.fl hw.swap).u1 λ t4 w hw=>?_;refine ⟨t4,rfl,?_⟩;refine (Zks (by omega) hw).u1 λ t5 w hw=>?_;refine ⟨t5,rfl,?_⟩;have hw:Sat R (Own t5 5 (b8 (Zca (qB fs[j].2.2.q)))::Own t3 5 (b8 (h0++((b.fl.take j).map plB).flatten++Zca (Zby fs[j].2.2.r)))::Zbi fs[j].1 fs[j].2.2.r::Za4 fs[j].2.1 fs[j].2.2.q::RBR p b.now b.next b.L sf sb fs j Hs) w:=hw.arr;refine ZyI (by simp only [List.length_append];omega) hw λ t6 w hw=>?_;rw [Zd];refine ⟨⟨j + 1,by omega,by omega,?_⟩,by dsimp only;omega⟩;have ebs:h0++((b.fl.take j).map plB).flatten++Zca (Zby fs[j].2.2.r)++Zca (qB fs[j].2.2.q)=h0++((b.fl.take (j + 1)).map plB).flatten:=by
   rw [Zc1 hj3,hpl];unfold plB;simp only [List.append_assoc]
  rw [ebs] at hw;exact hw.cons λ _ h=>(RBO.fl hj2).2 h
 ·have hjf:j=b.fl.length:=by omega
  rw [hjf,List.take_length] at hw;have a50:=a5 b.fl.length;rw [List.take_length] at a50;refine Zb.mk rfl ⟨sb,oA hw,?_⟩;rw [show ((sb.len:Nat):Int)=((b.L.length:Nat):Int) by omega];refine Za hw λ b61 w hw=>?_;refine (ZgT (xs:=[(b.L.length:Int)]) rfl (by simp;omega) (by simp) hw).u1 λ t1 w hw=>?_;refine ⟨t1,rfl,?_⟩;rw [nn1 (by omega)] at hw;refine ZyI (by simp only [List.length_append];omega) hw λ t2 w hw=>?_;obtain ⟨h1,hh1⟩:∃ h,h=h0++(b.fl.map plB).flatten++Zi [(b.L.length:Int)]:=⟨_,rfl⟩;have hl1:h1.length<=305000:=by rw [hh1];simp only [List.length_append];omega
  rw [<-hh1] at hw;refine ⟨λ out i w=>∃ j:Nat,i=j/\j<=b.L.length/\Sat R (Own out 5 (b8 (h1++((b.L.take j).map bkB).flatten))::RBO p b.now b.next b.L sf sb fs Hs) w,
   λ _ i _=>b.L.length - i.toNat,⟨0,rfl,by omega,by simpa using hw⟩,?_⟩
  clear hw;rintro _ out _ w ⟨j,rfl,hj,hw⟩;have hlb:=a6 j;refine Zb.mk rfl ⟨sb,oA hw,Br.d (λ h=>?_) (λ h=>?_)⟩
  ·have hj2:j<b.L.length:=by omega
   obtain ⟨x,hx⟩:∃ x,x=b.L[j]:=⟨_,rfl⟩;have hmem:x∈b.L:=by rw [hx];exact List.getElem_mem _
   have ke:=k.each x hmem;have x1:=ke.id;have x2:=ke.flt;have x3:=ke.cls;have x4:=ke.many;have x5:=ke.state;have x6:=ke.till;refine Zb.mk rfl ⟨sb,oA hw,?_⟩;refine (Zl.readsM (n:=6) (s:=sb) (T:=rkT) (rows:=b.L.map rkV) hw (eqS hw)).rngM (E:=b.L) (g:=rkV) hj2 λ a _ he=>?_;rw [<-hx] at he;refine ⟨x.id,x.flt,x.cls,x.many,x.state,x.till,he.z (by exact ⟨rfl,rfl,rfl,rfl,rfl,rfl,trivial⟩),?_⟩;clear he;refine Za hw λ b6 w hw=>?_;refine sRu hw λ w hw=>?_;have hw:=hw.re (rkC b6 x);refine ⟨x.id,oA hw,x.flt,oA hw,x.cls,oA hw,x.many,oA hw,x.state,oA hw,x.till,oA hw,?_⟩;refine Za hw λ b93 w hw=>?_;refine (ZgT (xs:=[x.id,x.flt,x.cls,x.many,x.state,x.till]) rfl (by simp;omega) (by simp) hw).u1 λ t3 w hw=>?_;refine ⟨t3,rfl,?_⟩;rw [nn6s (by omega) (by omega) (by omega) (by omega) (by omega) (by omega)] at hw;have e:Zi [x.id]++(Zi [x.flt]++(Zi [x.cls]++(Zi [x.many]++(Zi [x.state]++Zi [x.till]))))=bkB x:=rfl;rw [e] at hw;have hbl:=ZjV k2.2 ke;have hw:Sat R (Own t3 5 (b8 (bkB x))::Own out 5 (b8 (h1++((b.L.take j).map bkB).flatten))::rkC b6 x::RBO p b.now b.next b.L sf sb fs Hs) w:=hw.arr;refine ZyI (by rw [List.length_append];omega) hw λ t4 w hw=>?_;rw [Zd];refine ⟨⟨j + 1,by omega,by omega,?_⟩,by dsimp only;omega⟩;rw [Zc1 hj2,<-hx,<-List.append_assoc];exact hw.cons λ _ h=>h.drop
  ·have hje:j=b.L.length:=by omega
   rw [hje,List.take_length] at hw;have e:h1++(b.L.map bkB).flatten=Zdy b:=by
    rw [hh1,hh0];unfold Zdy;simp only [List.append_assoc]
   rw [e] at hw;exact hK out w (hw.cons λ _ h=>Sat.rbook.2 ⟨sf,sb,fs,hfl,h⟩)
end
section
open Go Go.VC Tryz
open Classical
variable {R:Cx} {Hs Rest:List HP} {w:World}
theorem ZlV (hw:Sat R Hs w):Zk prog 11 #[] w λ v w'=>∃ p,v=nP p/\Sat R (Zm p ZdG::Hs) w':=by
 apply Zyo;refine Za hw λ p w hw=>?_;have hw:Sat R (pts p (ZC 0 1 Zn Zn)::Hs) w:=hw;refine ⟨p,rfl,Sat.rbook.2 ⟨Zn,Zn,[],rfl,?_⟩⟩;refine hw.cons λ _ h=>Zl.nil (Zl.nil ?_);show Sat _ (ZT []::Hs) _;unfold ZT;exact Sat.star.2 h
theorem Zt9 {l:Sl} {cs:List CmS} {k p:Nat} {b:ZE} (hr:Zxb R l cs) (hm:∀ c∈cs.take 400,¬ Zpd c) (hk:k<400) (hkl:k<cs.length) (ok:ZaA b) (hw:Sat R (Zm p b::Hs) w):
  Zk prog 14 #[nP p,cmA cs[k].1 cs[k].2.1 cs[k].2.2] w
   λ v w'=>∃ sl sb:Sl,v=.agg (rpV (ZG b cs[k].1).2 sl sb).toArray/\Sat R (Own sl 3 (Zc (ZG b cs[k].1).2.left)::Own sb 9 ((ZG b cs[k].1).2.labs.map Value.string)::Zm p (ZG b cs[k].1).1::Hs) w':=by
 obtain ⟨f,g,h⟩:=hr.each cs[k] (List.getElem_mem hkl);have hmk:=hm cs[k] (List.mem_take_iff_getElem.2 ⟨k,by omega,rfl⟩);have hgl:=g.len;unfold Zpd at hmk;exact ZlU ok.core f.sc g (by omega) h hw
theorem ZzK {l:Sl} {cs:List CmS} {k p:Nat} {b:ZE} (hr:Zxb R l cs) (hm:∀ c∈cs.take 400,¬ Zpd c) (hk:k<400) (hkl:k<cs.length) (ok:ZaA b) (hw:Sat R (Zo p b::Hs) w):
  Zk prog 16 #[nP p,cmA cs[k].1 cs[k].2.1 cs[k].2.2] w
   λ v w'=>∃ sl sb:Sl,v=.agg (rpV (ZaT b cs[k].1) sl sb).toArray/\Sat R (Own sl 3 (Zc (ZaT b cs[k].1).left)::Own sb 9 ((ZaT b cs[k].1).labs.map Value.string)::Zo p b::Hs) w':=by
 obtain ⟨f,g,h⟩:=hr.each cs[k] (List.getElem_mem hkl);have hmk:=hm cs[k] (List.mem_take_iff_getElem.2 ⟨k,by omega,rfl⟩);have hgl:=g.len;unfold Zpd at hmk;exact Zkm ok.core g (by omega) (by have:=h.len;simpa using this) hw
theorem Zxj {l:Sl} {cs:List CmS} {k p:Nat} {b:ZE} (hr:Zxb R l cs) (hm:∀ c∈cs.take 400,¬ Zpd c) (hk:k<400) (hkl:k<cs.length) (ok:ZaA b) (hw:Sat R (Zm p b::Hs) w):
  Zk prog 17 #[nP p,cmA cs[k].1 cs[k].2.1 cs[k].2.2] w
   λ v w'=>∃ sl sb:Sl,v=.agg (rpV (ZaT b cs[k].1) sl sb).toArray/\Sat R (Own sl 3 (Zc (ZaT b cs[k].1).left)::Own sb 9 ((ZaT b cs[k].1).labs.map Value.string)::Zm p b::Hs) w':=by
 obtain ⟨f,g,h⟩:=hr.each cs[k] (List.getElem_mem hkl);have hmk:=hm cs[k] (List.mem_take_iff_getElem.2 ⟨k,by omega,rfl⟩);have hgl:=g.len;unfold Zpd at hmk;exact Zh8 ok.core g (by omega) (by have:=h.len;simpa using this) hw
theorem ZmY {S:World->Prop} {rp:Rp} {la lb ma mb:Sl} {Q:Ending->World->Prop} (hin:Zw2 rp) (hS:∀ w,Sat R Hs w->S w)
  (hw:Sat R (Own la 3 (Zc rp.left)::Own lb 9 (rp.labs.map Value.string)::Own ma 3 (Zc rp.left)::Own mb 9 (rp.labs.map Value.string)::Hs) w)
  (hQ:∀ w',S w'->Sat R Hs w'->Q (.returned (.bool true)) w'):
  nC 13 #[.agg #[nI rp.code,.string rp.pnr,nI rp.state,nI rp.flt,nI rp.cls,nI rp.many,nI rp.time,.slice la.a la.len la.cap,.slice lb.a lb.len lb.cap],.agg #[nI rp.code,.string rp.pnr,nI rp.state,nI rp.flt,nI rp.cls,nI rp.many,nI rp.time,.slice ma.a ma.len ma.cap,.slice mb.a mb.len mb.cap]] w Q:=by
 have hll:=hin.ll;have hbl:=hin.bl;obtain ⟨R1,e1,r1,hw⟩:=Own.leak hw;obtain ⟨R2,e2,r2,hw⟩:=Own.leak hw;obtain ⟨R3,e3,r3,hw⟩:=Own.leak hw;obtain ⟨R4,e4,r4,hw⟩:=Own.leak hw;refine (ZlI (e4.ro (e3.ro (e2.ro (r1.ro)))) (e4.ro (r3.ro)) (e4.ro (e3.ro (r2.ro))) (r4.ro) hw).u λ w hw=>?_;rw [decide_eq_true rfl];have hw:=e1.back (e2.back (e3.back (e4.back hw)));exact hQ w (hS w hw) hw
theorem ZhU {l:Sl} {cs:List CmS} (hr:Zxb R l cs) (hw:Sat R Hs w):Zk prog 3 #[.slice l.a l.len l.cap] w λ v w'=>v=.bool true/\Sat R Hs w':=by
 have hlen:=hr.rows.len;rw [List.length_map] at hlen;apply Zz5
 suffices H:∀ K:nK,(∀ w',Sat R Hs w'->K (.bool true) w')->B3 l K w from H _ λ w' h=>⟨rfl,h⟩
 intro K hK;refine (ZrV hw).u λ w hw=>?_;refine ⟨_,rfl,?_⟩;refine (ZqE (cs:=cs) (λ S hS=>hr.rows.reads hS) hw).use ?_;clear hw;rintro _ w ⟨bm,rfl,hm,hw⟩;refine ⟨_,rfl,λ w=>bm=false/\Sat R Hs w,Br.f rfl (Br.mk (λ _=>hK _ hw) (λ h1=>⟨h1,hw⟩)),?_⟩;clear hw;rintro _ w ⟨rfl,hw⟩;have hm:=hm rfl;refine (Zlo hw).u1 λ p w hw=>?_;refine ⟨_,rfl,?_⟩;refine (ZlV hw).u1 λ p2 w hw=>?_;refine ⟨_,rfl,?_⟩;refine ⟨λ i w=>∃ (k:Nat) (b:ZE),i=k/\k<=120/\ZaA b/\Sat R (Zo p b::Zm p2 b::Hs) w,λ i _=>120 - i.toNat,⟨0,_,rfl,by omega,Zxp,hw.swap⟩,?_⟩;clear hw;rintro _ _ w ⟨k,b,rfl,hk,ok,hw⟩;have hsl:=ZpO ok.core;have two:∀ {w:World},Sat R (Zo p b::Zm p2 b::Hs) w->
   nC 18 #[nP p] w λ e_4 w_7=>
    ∃ t75:Sl,(e_4=.returned (.slice t75.a t75.len t75.cap))/\
    Drw w_7 λ S w_8=>
    ∃ t77:ByteArray,(∀ w',S w'->((convert 47 9 (.slice t75.a t75.len t75.cap))).run prog w'=.ok (.string t77) w')/\
    nC 19 #[nP p2] w_8 λ e_5 w_9=>
    ∃ t79:Sl,(e_5=.returned (.slice t79.a t79.len t79.cap))/\
    (S w_9)/\
    ∃ t80:ByteArray,(∀ w',(λ w'=>w'=w_9) w'->((convert 47 9 (.slice t79.a t79.len t79.cap))).run prog w'=.ok (.string t80) w')/\
    K (.bool (t77.toList==t80.toList)) w_9:=λ {w} hw=>by
  refine (Zo2 ok.core hw).u1 λ u1 w hw=>?_;refine ⟨u1,rfl,?_⟩;refine Zr (Sat R [Own u1 5 (b8 (Zdy b)),VC.tru]) hw (λ w hw=>hw.restTru2) λ w hw=>?_;refine ⟨VC.strOf (Zdy b),λ w' hs=>ZjO (t:=u1) (T:=5) (bs:=Zdy b) (by omega) hs w' rfl,?_⟩;have hw:Sat R (Zm p2 b::Own u1 5 (b8 (Zdy b))::Zo p b::Hs) w:=hw.arr;refine (Zn6 ok.core hw).u1 λ u2 w hw=>?_;refine ⟨u2,rfl,(hw.take (Own u1 5 (b8 (Zdy b)))).restTru2,VC.strOf (Zdy b),ZjO (t:=u2) (T:=5) (bs:=Zdy b) (by omega) hw,?_⟩;rw [beq_self_eq_true];exact hK _ hw.drop.drop.drop.drop
 refine ⟨λ w=>(k<120/\k<cs.length)/\Sat R (Zo p b::Zm p2 b::Hs) w,?_,?_⟩
 ·with_reducible refine Br.d (λ h=>?_) (λ _=>two hw)
  with_reducible refine Br.d (λ h2=>?_) (λ _=>two hw)
  exact ⟨⟨by omega,by omega⟩,hw⟩
 clear hw two;rintro _ w ⟨⟨hk2,hkl⟩,hw⟩;rw [Zd (x:=(k:Int) + 1)];have hS:=hr.rows.reads (eqS hw);refine hS.rngM hkl λ a _ el=>⟨cs[k].1.kind,cs[k].1.pnr,cs[k].1.flt,cs[k].1.cls,cs[k].1.many,cs[k].1.time,cs[k].1.sc,cs[k].1.lab,cs[k].1.rows,cs[k].2.1,cs[k].2.2,el.z (by exact ⟨rfl,rfl,rfl,rfl,rfl,rfl,rfl,rfl,rfl,rfl,rfl,trivial⟩),?_⟩;refine (Zys hr hm (by omega) hkl ok hw).use ?_;clear hw hS;rintro _ w ⟨sl,sb,rfl,ok2,hw⟩;obtain ⟨f,_,_⟩:=hr.each cs[k] (List.getElem_mem hkl);have hin:=Zoa (c:=cs[k].1) ok f.sc;obtain ⟨rp,hrp⟩:∃ x,x=(ZG b cs[k].1).2:=⟨_,rfl⟩;obtain ⟨nb,hnb⟩:∃ x,x=(ZG b cs[k].1).1:=⟨_,rfl⟩;rw [<-hrp] at hw hin ⊢;rw [<-hnb] at hw ok2;refine ⟨_,_,_,_,_,_,_,sl,sb,rfl,?_⟩;refine Za hw λ b8 w hw=>?_;refine sRu hw λ w hw=>?_;have hw:=hw.re (rpC b8 rp sl sb);refine Zr (Sat R [rpC b8 rp sl sb,VC.tru]) hw (λ w hw=>hw.restTru2) λ w hw=>?_;refine ⟨rp.code,rp.pnr,rp.state,rp.flt,rp.cls,rp.many,rp.time,sl,sb,oS,?_⟩;have hw:Sat R (Zm p2 b::Own sl 3 (Zc rp.left)::Own sb 9 (rp.labs.map Value.string)::rpC b8 rp sl sb::Zo p nb::Hs) w:=hw.arr;have hS:=hr.rows.reads (eqS hw);refine hS.rngM hkl λ a _ el=>⟨cs[k].1.kind,cs[k].1.pnr,cs[k].1.flt,cs[k].1.cls,cs[k].1.many,cs[k].1.time,cs[k].1.sc,cs[k].1.lab,cs[k].1.rows,cs[k].2.1,cs[k].2.2,el.z (by exact ⟨rfl,rfl,rfl,rfl,rfl,rfl,rfl,rfl,rfl,rfl,rfl,trivial⟩),?_⟩;refine (Zt9 hr hm (by omega) hkl ok hw).use ?_;clear hw hS;rintro _ w ⟨sl2,sb2,rfl,hw⟩;rw [<-hrp] at hw ⊢;rw [<-hnb] at hw;refine ⟨_,_,_,_,_,_,_,sl2,sb2,rfl,(hw.take (rpC b8 rp sl sb)).restTru2,?_⟩;have hw:Sat R (Own sl 3 (Zc rp.left)::Own sb 9 (rp.labs.map Value.string)::Own sl2 3 (Zc rp.left)::Own sb2 9 (rp.labs.map Value.string)::rpC b8 rp sl sb::Zo p nb::Zm p2 nb::Hs) w:=hw.arr;refine ZmY (S:=Sat R [rpC b8 rp sl sb,VC.tru]) hin (λ w hw=>hw.restTru2) hw ?_;clear hw;intro w hs hw;refine ⟨_,rfl,hs,λ w=>Sat R (Zo p nb::Zm p2 nb::Hs) w,?_,?_⟩
 ·clear hs
  have hw:=hw.drop;have hw:Sat R (Zm p2 nb::Zo p nb::Hs) w:=hw.swap;obtain ⟨sf,sb3,fs,hfl,hw⟩:=Sat.rbook.1 hw;refine Zr (Sat R [pts p2 (ZC nb.now nb.next sf sb3),VC.tru]) hw (λ w hw=>hw.restTru2) λ w hw=>?_;refine Br.nb (λ h=>(by cases h)) λ _=>Zb.mk rfl ⟨nb.now,oS,?_⟩;have hw:Sat R (Zo p nb::RBO p2 nb.now nb.next nb.L sf sb3 fs Hs) w:=(show Sat R (RBO p2 nb.now nb.next nb.L sf sb3 fs (Zo p nb::Hs)) w from hw).arr
  refine (Zo1 hw).u λ w hw=>?_;refine ⟨_,rfl,(hw.take (pts p2 (ZC nb.now nb.next sf sb3))).restTru2,Br.ne (λ h=>absurd rfl h) (λ _=>?_)⟩;exact hw.cons λ _ h=>Sat.rbook.2 ⟨sf,sb3,fs,hfl,h⟩
 clear hw hs;intro _ w hw;have hS:=hr.rows.reads (eqS hw);refine hS.rngM hkl λ a _ el=>⟨cs[k].1.kind,cs[k].1.pnr,cs[k].1.flt,cs[k].1.cls,cs[k].1.many,cs[k].1.time,cs[k].1.sc,cs[k].1.lab,cs[k].1.rows,cs[k].2.1,cs[k].2.2,el.z (by exact ⟨rfl,rfl,rfl,rfl,rfl,rfl,rfl,rfl,rfl,rfl,rfl,trivial⟩),?_⟩;refine (ZzK hr hm (by omega) hkl ok2 hw).use ?_;clear hw hS;rintro _ w ⟨tl,tb,rfl,hw⟩;have hin2:=Zky (c:=cs[k].1) ok2;obtain ⟨rq,hrq⟩:∃ x,x=ZaT nb cs[k].1:=⟨_,rfl⟩;rw [<-hrq] at hw hin2 ⊢;refine ⟨_,_,_,_,_,_,_,tl,tb,rfl,?_⟩;refine Za hw λ b10 w hw=>?_;refine sRu hw λ w hw=>?_;have hw:=hw.re (rpC b10 rq tl tb);refine Zr (Sat R [rpC b10 rq tl tb,VC.tru]) hw (λ w hw=>hw.restTru2) λ w hw=>?_;refine ⟨rq.code,rq.pnr,rq.state,rq.flt,rq.cls,rq.many,rq.time,tl,tb,oS,?_⟩;have hw:Sat R (Zm p2 nb::Own tl 3 (Zc rq.left)::Own tb 9 (rq.labs.map Value.string)::rpC b10 rq tl tb::Zo p nb::Hs) w:=hw.arr;have hS:=hr.rows.reads (eqS hw);refine hS.rngM hkl λ a _ el=>⟨cs[k].1.kind,cs[k].1.pnr,cs[k].1.flt,cs[k].1.cls,cs[k].1.many,cs[k].1.time,cs[k].1.sc,cs[k].1.lab,cs[k].1.rows,cs[k].2.1,cs[k].2.2,el.z (by exact ⟨rfl,rfl,rfl,rfl,rfl,rfl,rfl,rfl,rfl,rfl,rfl,trivial⟩),?_⟩;refine (Zxj hr hm (by omega) hkl ok2 hw).use ?_;clear hw hS;rintro _ w ⟨tl2,tb2,rfl,hw⟩;rw [<-hrq] at hw ⊢;refine ⟨_,_,_,_,_,_,_,tl2,tb2,rfl,(hw.take (rpC b10 rq tl tb)).restTru2,?_⟩;have hw:Sat R (Own tl 3 (Zc rq.left)::Own tb 9 (rq.labs.map Value.string)::Own tl2 3 (Zc rq.left)::Own tb2 9 (rq.labs.map Value.string)::rpC b10 rq tl tb::Zo p nb::Zm p2 nb::Hs) w:=hw.arr;refine ZmY (S:=Sat R [rpC b10 rq tl tb,VC.tru]) hin2 (λ w hw=>hw.restTru2) hw ?_;clear hw;intro w hs hw;exact ⟨_,rfl,hs,Br.nb (λ h=>(by cases h)) λ _=>⟨⟨k + 1,nb,by omega,by omega,ok2,hw.drop⟩,by dsimp only;omega⟩⟩
end
end Go.Proofs.YtlplemdmegpoeaaGreatDoor
