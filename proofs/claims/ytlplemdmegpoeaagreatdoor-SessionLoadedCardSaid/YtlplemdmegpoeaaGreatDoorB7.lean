/- Package session: Apply of any request. Condition: bounds. -/
import Derived.Test.YtlplemdmegpoeaaGreatDoorB6
import Derived.SizedLaws
import Derived.Test.YtlplemdmegpoeaaGreatDoorB2
import GoSem.Instr.MapEntry
import Derived.Test.YtlplemdmegpoeaaGreatDoorB5
set_option linter.unusedVariables false
set_option linter.unusedSimpArgs false
namespace Go.Proofs.YtlplemdmegpoeaaGreatDoor
section
open Go Go.VC Tryz
open Classical
variable {R:Cx} {Hs Rest:List HP} {w:World}
theorem Znq {m:Int} {bs:List Int} (hb:Zv bs):Zv (Za8 m bs).1.cmd:=by
 unfold Za8;split
 ·exact (Zcx (Ze (Ze (Ze (Ze (rd:=⟨bs,false⟩) hb))))).1
 ·intro y hy
  cases hy
theorem ZuP {t:Tb} {E:List SE} (ok:Zm9 t) (hE:E.map Prod.snd=t.cl) {id:Int} {e:SE} (h:(E.find? λ e=>e.2.id==id)=some e):
  ∃ A C,E=A++e::C/\e.2.id=id/\(∀ x∈A,x.2.id≠id)/\(∀ x∈C,x.2.id≠id):=by
 have h1:=List.mem_of_find?_eq_some h;have h2:e.2.id=id:=beq_iff_eq.1 (List.find?_some (p:=λ e:SE=>e.2.id==id) h);obtain ⟨A,C,hAC⟩:=List.append_of_mem h1;have hn:((A++e::C).map λ x:SE=>x.2.id).Nodup:=by
  have:=ok.ids;rw [<-hE,List.map_map,hAC] at this;exact this
 rw [List.map_append,List.map_cons,List.nodup_append] at hn;obtain ⟨n1,n2,n3⟩:=hn;rw [List.nodup_cons] at n2;refine ⟨A,C,hAC,h2,λ x hx e2=>?_,λ x hx e2=>?_⟩
 ·exact n3 _ (List.mem_map.2 ⟨x,hx,rfl⟩) _ List.mem_cons_self (by rw [e2,h2])
 ·exact n2.1 (List.mem_map.2 ⟨x,hx,by rw [e2,h2]⟩)
theorem Zq9 {A C:List SE} {b:Nat} {c d:Cl} (h:d.id=c.id) (hA:∀ x∈A,x.2.id≠c.id) (hC:∀ x∈C,x.2.id≠c.id):(A++(b,c)::C).map Prod.snd=Ze6 c ((A++(b,d)::C).map Prod.snd):=by
 have key:∀ l:List SE,(∀ x∈l,x.2.id≠c.id)->Ze6 c (l.map Prod.snd)=l.map Prod.snd:=λ l hl=>by
  unfold Ze6;rw [List.map_map];refine List.map_congr_left λ x hx=>?_;show (if x.2.id==c.id then c else x.2)=x.2
  rw [if_neg (by simpa using hl x hx)]
 have k1:=key A hA;have k2:=key C hC;unfold Ze6 at *;rw [List.map_append,List.map_cons,List.map_append,List.map_cons,List.map_append,List.map_cons,k1,k2]
 congr 2
 show c=if d.id==c.id then c else d
 rw [if_pos (by simpa using h)]
theorem Zsx {A C:List SE} {e:SE} {id:Int} (h:e.2.id=id) (hA:∀ x∈A,x.2.id≠id) (hC:∀ x∈C,x.2.id≠id):
  Ze9 id ((A++e::C).map Za4)=(A++C).map Za4/\(A++C).map Prod.snd=((A++e::C).map Prod.snd).filter λ d=>d.id !=id:=by
 constructor
 ·rw [List.map_append,List.map_cons,List.map_append,show Za4 e=(id,.pointer (some ⟨e.1,0,none⟩)) by unfold Za4;rw [h]]
  refine Zey (Zd0.2 λ x hx=>?_) (by simp);obtain ⟨y,hy,rfl⟩:=List.mem_map.1 hx;exact hA y hy
 ·have key:∀ l:List SE,(∀ x∈l,x.2.id≠id)->(l.map Prod.snd).filter (λ d=>d.id !=id)=l.map Prod.snd:=λ l hl=>by
   refine List.filter_eq_self.2 λ x hx=>?_;obtain ⟨y,hy,rfl⟩:=List.mem_map.1 hx;simpa using hl y hy
  rw [List.map_append,List.map_append,List.filter_append,List.map_cons,List.filter_cons,if_neg (by simpa using h),key A hA,key C hC]
set_option maxHeartbeats 4000000 in
theorem Zdz {p:Nat} {t:Tb} {bs:List Int} {s:Sl} (ok:Zm9 t) (hn:t.next<1000000) (hb:Zv bs) (hl:bs.length<=1099511627776) (hs:Ro R s (b8 bs)) (hw:Sat R (Zds p t::Hs) w):
  Zo prog 23 #[.pointer (some ⟨p,0,none⟩),.slice s.a s.len s.cap] w λ v w'=>
   ∃ x:Sl,v=.agg (tdV (t.applyT bs).1 x).toArray/\Sat R (Own x 5 (b8 (t.applyT bs).1.reply)::Zds p (t.applyT bs).2::Hs) w':=by
 apply ZAA;refine Zb hw λ b4 w hw=>?_;have hw:Sat R (ZaY b4::Zds p t::Hs) w:=hw;refine (ZqG hb hl hs hw).use ?_;clear hw;rintro _ w ⟨cs,rfl,hw⟩;have hcb:=Znq (m:=mI) hb;have hq0:=Znr (bs:=bs) hb;have hcl:(Za8 mI bs).1.cmd.length<=4000:=by
  unfold Za8;split
  ·rename_i h
   exact h.2.cmd
  ·exact Nat.zero_le _
 have he6:(Za8 mI bs).2=0\/(Za8 mI bs).2=6:=by
  unfold Za8;split
  ·exact .inl rfl
  ·exact .inr rfl
 have hT:t.applyT bs=if (Za8 mI bs).2≠0 then (Zho (Za8 mI bs).2,t) else t.askT (Za8 mI bs).1:=rfl
 rw [hT];clear hT;generalize hqe:(Za8 mI bs).1=q at *;generalize (Za8 mI bs).2=e at *;clear hqe;obtain ⟨R1,e1,g1,hw⟩:=Own.leak hw;have hcs:Ro R1 cs (b8 q.cmd):=g1.ro (by rw [List.length_map];omega);refine ⟨q.kind,q.client,q.seq,q.token,cs,e,rfl,?_⟩;refine Zb hw λ b5 w hw=>?_;refine Za hw (by kernel_rfl) rfl (by simp [Value.cells]) λ w hw=>?_;have hw:=hw.re (rqC b5 q cs);have hw:Sat R1 (Zds p t::ZaY b4::rqC b5 q cs::Hs) w:=hw.arr;have fin:∀ {τ:ZpZ} {x:Sl} {t2:Tb} {w:World},Sat R1 (Own x 5 (b8 τ.reply)::Zds p t2::rqC b5 q cs::Hs) w->∃ y:Sl,Value.agg (tdV τ x).toArray=.agg (tdV τ y).toArray/\Sat R (Own y 5 (b8 τ.reply)::Zds p t2::Hs) w:=λ {τ x t2 w} hw=>
  ⟨x,rfl,e1.back (hw.cons λ _ h=>h.cons λ _ h=>h.drop)⟩
 have ref:∀ {n:Int} {t2:Tb} {w:World},Sat R1 (Zds p t2::rqC b5 q cs::Hs) w->∃ y:Sl,Value.agg (tdV (Zho n) Zc9).toArray=.agg (tdV (Zho n) y).toArray/\Sat R (Own y 5 (b8 (Zho n).reply)::Zds p t2::Hs) w:=λ {n t2 w} hw=>
  fin (τ:=Zho n) (x:=Zc9) (Own.nil hw)
 refine Br.ne (λ h=>?_) (λ h=>?_)
 ·rw [if_pos h]
  refine (ZaZ (e:=e) hw).use ?_;clear hw;rintro _ w ⟨rfl,hw⟩;refine ⟨e,0,0,Zc9,rfl,?_⟩;exact ZcU (τ:=Zho e) (s:=Zc9) hw.swap λ w hw=>ref hw
 rw [if_neg (by simpa using h)];have hq:=hq0 h;have hk:=hq.kind;obtain ⟨q1,q2⟩:=hq.client;obtain ⟨q3,q4⟩:=hq.seq;unfold Tb.askT;refine ⟨q.kind,oA hw,Br.e (λ k4=>?_) (λ k4=>?_)⟩
 ·rw [if_pos k4]
  refine (ZaZ (e:=1) hw).use ?_;clear hw;rintro _ w ⟨rfl,hw⟩;refine ⟨1,0,0,Zc9,rfl,?_⟩;exact ZcU (τ:=Zho 1) (s:=Zc9) hw.swap λ w hw=>ref hw
 rw [if_neg k4];refine ⟨q.kind,oA hw,Br.e (λ k1=>?_) (λ k1=>?_)⟩
 ·rw [if_pos k1]
  refine ⟨q.token,oA hw,?_⟩;refine (Zmm (tok:=q.token) ok hn hw).use ?_;clear hw;rintro _ w ⟨rfl,hw⟩;have hr:(t.beginT q.token).1.reply=[]:=by
   unfold Tb.beginT;split
   ·rfl
   ·split
    ·rfl
    ·rfl
  refine ⟨_,_,_,Zc9,rfl,?_⟩;refine ZcU (τ:=(t.beginT q.token).1) (s:=Zc9) hw.swap λ w hw=>fin ?_;rw [hr];exact Own.nil hw
 rw [if_neg k1];obtain ⟨m,bk,E,hE,hw⟩:=Sat.tb.1 hw;have hnx:=ok.nx;refine Zu hw λ w hw=>?_;refine Zd.mk rfl ⟨some m,oS,q.client,oS,?_⟩;have hfE:t.cl.find? (λ c=>c.id==q.client)=(E.find? λ e=>e.2.id==q.client).map Prod.snd:=by rw [<-hE];exact Zxa
 have hg:=ZsJ (k:=q.client) (E:=E);cases hf:E.find? λ e=>e.2.id==q.client with
 |none=>
  rw [hf] at hfE hg;rw [hfE];dsimp only [Option.map_none];refine ⟨none,false,λ w' h=>?_,?_⟩
  ·have:=MapAt.look Zzf h.swap q.client true
   rw [hg] at this;exact this
  refine ⟨λ b w=>b=decide (1<=q.client/\q.client<t.next)/\Sat R1 (ZaY b4::pts p (ZaR bk t.next m)::MapAt m (E.map Za4)::ZaI (E.map ZH)::Zj bk t.bk::rqC b5 q cs::Hs) w,?_,?_⟩
  ·refine Zu hw λ w hw=>?_
   refine Br.t rfl ⟨q.client,oS,Br.d (λ h1=>?_) (λ h1=>?_)⟩
   ·refine ⟨q.client,oS,Zd.mk rfl ⟨t.next,oS,?_,hw.arr⟩⟩
    exact decide_eq_decide.2 ⟨λ h=>⟨h1,h⟩,λ h=>h.2⟩
   ·exact ⟨by rw [decide_eq_false (by omega)],hw.arr⟩
  clear hw;rintro _ _ w ⟨rfl,hw⟩;refine Br.d (λ h1=>?_) (λ h1=>?_)
  ·rw [if_pos h1]
   refine (ZaZ (e:=10) hw).use ?_;clear hw;rintro _ w ⟨rfl,hw⟩;refine ⟨10,0,0,Zc9,rfl,?_⟩;exact ZcU (τ:=Zho 10) (s:=Zc9) hw λ w hw=>ref (Sat.tb.2 ⟨m,bk,E,hE,hw⟩)
  ·rw [if_neg h1]
   refine Br.t rfl ?_;refine (ZaZ (e:=2) hw).use ?_;clear hw;rintro _ w ⟨rfl,hw⟩;refine ⟨2,0,0,Zc9,rfl,?_⟩;exact ZcU (τ:=Zho 2) (s:=Zc9) hw λ w hw=>ref (Sat.tb.2 ⟨m,bk,E,hE,hw⟩)
 |some e=>
  rw [hf] at hfE hg;rw [hfE];dsimp only [Option.map_some];obtain ⟨A,C,hAC,hid,hA,hC⟩:=ZuP ok hE hf;have hec:e.2∈t.cl:=by rw [<-hE,hAC];exact List.mem_map.2 ⟨e,by simp,rfl⟩
  have ec:=ok.each _ hec;have ecl:=ec.last;have ecr:=ec.rep;refine ⟨some ⟨e.1,0,none⟩,true,λ w' h=>?_,?_⟩
  ·have:=MapAt.look Zzf h.swap q.client true
   rw [hg] at this;exact this
  refine ⟨λ b w=>b=false/\Sat R1 (ZaY b4::pts p (ZaR bk t.next m)::MapAt m (E.map Za4)::ZaI (E.map ZH)::Zj bk t.bk::rqC b5 q cs::Hs) w,?_,?_⟩
  ·refine Zu hw λ w hw=>?_
   exact Br.f rfl ⟨rfl,hw.arr⟩
  clear hw;rintro _ _ w ⟨rfl,hw⟩;refine Br.f rfl (Br.f rfl ?_);refine ⟨q.kind,oA hw,Br.e (λ k3=>?_) (λ k3=>?_)⟩
  ·rw [if_pos k3]
   refine Zu hw λ w hw=>?_;refine Zd.mk rfl ⟨some m,oS,q.client,oS,?_⟩;have hw:Sat R1 (MapAt m (E.map Za4)::ZaY b4::pts p (ZaR bk t.next m)::ZaI (E.map ZH)::Zj bk t.bk::rqC b5 q cs::Hs) w:=hw.arr;obtain ⟨d1,d2⟩:=Zsx hid hA hC;refine MapAt.del Zzf hw q.client λ w hw=>?_;rw [hAC,d1] at hw;refine ⟨q.client,oA hw,?_⟩;have hw:Sat R1 (ZaY b4::pts p (ZaR bk t.next m)::MapAt m ((A++C).map Za4)::ZaI ((A++e::C).map ZH)::Zj bk t.bk::rqC b5 q cs::Hs) w:=hw.arr;refine ZcU (τ:=⟨0,q.client,0,[]⟩) (s:=Zc9) hw λ w hw=>fin (τ:=⟨0,q.client,0,[]⟩) (x:=Zc9) (Own.nil ?_);refine Sat.tb.2 ⟨m,bk,A++C,?_,?_⟩
   ·rw [d2,<-hE,hAC]
   ·refine hw.cons λ _ h=>h.cons λ _ h=>?_
    obtain ⟨_,h⟩:=Zd9.1 h;rw [List.map_append];exact h.drop.drop
  rw [if_neg k3];unfold Tb.doT;have hE2:∃ s0:Sl,Sat R1 (pts e.1 (ZU e.2 s0)::Own s0 5 (b8 e.2.rep)::ZaI (A.map ZH++C.map ZH)::ZaY b4::pts p (ZaR bk t.next m)::MapAt m (E.map Za4)::Zj bk t.bk::rqC b5 q cs::Hs) w:=by
   have h3:Sat R1 (ZaI (E.map ZH)::ZaY b4::pts p (ZaR bk t.next m)::MapAt m (E.map Za4)::Zj bk t.bk::rqC b5 q cs::Hs) w:=hw.arr;rw [hAC] at h3 ⊢;exact Zd9.1 h3
  obtain ⟨s0,hw⟩:=hE2;have close:∀ {R1:Cx} {b:Nat} {c:Cl} {x:Sl} {nb:ZR} {w:World},b=e.1->c.id=e.2.id->Sat R1 (pts b (ZU c x)::Own x 5 (b8 c.rep)::ZaI (A.map ZH++C.map ZH)::pts p (ZaR bk t.next m)::MapAt m (E.map Za4)::Zj bk nb::rqC b5 q cs::Hs) w->Sat R1 (Zds p { t with bk:=nb,cl:=Ze6 c t.cl }::rqC b5 q cs::Hs) w:=λ {R1 b c x nb w} hb hc hw=>by
   refine Sat.tb.2 ⟨m,bk,A++(b,c)::C,?_,?_⟩
   ·rw [Zq9 (d:=e.2) hc.symm (λ x hx=>by rw [hc,hid];exact hA x hx) (λ x hx=>by rw [hc,hid];exact hC x hx),<-hE,hAC,hb]
   ·have hm:(A++(b,c)::C).map Za4=E.map Za4:=by
     rw [hAC,List.map_append,List.map_append,List.map_cons,List.map_cons];unfold Za4;rw [hb,hc]
    rw [hm];have hw:Sat R1 (pts b (ZU c x)::Own x 5 (b8 c.rep)::ZaI (A.map ZH++C.map ZH)::pts p (ZaR bk t.next m)::MapAt m (E.map Za4)::Zj bk nb::rqC b5 q cs::Hs) w:=hw;have hw:=Zd9 (e:=(b,c)).2 ⟨x,hw⟩;exact hw.arr
  have same:∀ {R1:Cx} {w:World},Sat R1 (pts e.1 (ZU e.2 s0)::Own s0 5 (b8 e.2.rep)::ZaI (A.map ZH++C.map ZH)::pts p (ZaR bk t.next m)::MapAt m (E.map Za4)::Zj bk t.bk::rqC b5 q cs::Hs) w->Sat R1 (Zds p t::rqC b5 q cs::Hs) w:=λ {R1 w} hw=>by
   refine Sat.tb.2 ⟨m,bk,E,hE,?_⟩;have hw:=Zd9.2 ⟨s0,hw⟩;rw [<-hAC] at hw;exact hw.arr
  refine Zu hw λ w hw=>?_;refine ⟨q.seq,oS,Zd.mk rfl ⟨e.2.last,oS,?_⟩⟩;rw [Zl (by omega) (by omega)];refine Br.d (λ h7=>?_) (λ h7=>?_)
  ·rw [if_pos h7]
   refine (ZaZ (e:=7) hw).use ?_;clear hw;rintro _ w ⟨rfl,hw⟩;refine ⟨7,0,0,Zc9,rfl,?_⟩;have hw:Sat R1 (ZaY b4::pts e.1 (ZU e.2 s0)::Own s0 5 (b8 e.2.rep)::ZaI (A.map ZH++C.map ZH)::pts p (ZaR bk t.next m)::MapAt m (E.map Za4)::Zj bk t.bk::rqC b5 q cs::Hs) w:=hw.arr;exact ZcU (τ:=Zho 7) (s:=Zc9) hw λ w hw=>ref (same hw)
  rw [if_neg h7];refine ⟨λ b w=>b=decide (q.seq<e.2.last\/q.seq=0)/\Sat R1 (pts e.1 (ZU e.2 s0)::Own s0 5 (b8 e.2.rep)::ZaI (A.map ZH++C.map ZH)::ZaY b4::pts p (ZaR bk t.next m)::MapAt m (E.map Za4)::Zj bk t.bk::rqC b5 q cs::Hs) w,?_,?_⟩
  ·refine Zu hw λ w hw=>?_
   refine ⟨q.seq,oS,Zd.mk rfl ⟨e.2.last,oS,Br.d (λ h8=>?_) (λ h8=>?_)⟩⟩
   ·exact ⟨by rw [decide_eq_true (.inl h8)],hw⟩
   ·refine ⟨q.seq,oS,?_,hw⟩
    rw [show (q.seq==0)=decide (q.seq=0) from rfl]
    exact decide_eq_decide.2 ⟨λ h=>.inr h,λ h=>h.resolve_left h8⟩
  clear hw;rintro _ _ w ⟨rfl,hw⟩;refine Br.d (λ h8=>?_) (λ h8=>?_)
  ·rw [if_pos h8]
   refine (ZaZ (e:=11) hw).use ?_;clear hw;rintro _ w ⟨rfl,hw⟩;refine ⟨11,0,0,Zc9,rfl,?_⟩;have hw:Sat R1 (ZaY b4::pts e.1 (ZU e.2 s0)::Own s0 5 (b8 e.2.rep)::ZaI (A.map ZH++C.map ZH)::pts p (ZaR bk t.next m)::MapAt m (E.map Za4)::Zj bk t.bk::rqC b5 q cs::Hs) w:=hw.arr;exact ZcU (τ:=Zho 11) (s:=Zc9) hw λ w hw=>ref (same hw)
  rw [if_neg h8];refine Zu hw λ w hw=>?_;refine ⟨q.seq,oS,Zd.mk rfl ⟨e.2.last,oS,Br.d (λ h9=>?_) (λ h9=>?_)⟩⟩
  ·rw [if_pos h9]
   have hw:Sat R1 (rqC b5 q cs::pts p (ZaR bk t.next m)::Zj bk t.bk::pts e.1 (ZU e.2 s0)::Own s0 5 (b8 e.2.rep)::ZaI (A.map ZH++C.map ZH)::ZaY b4::MapAt m (E.map Za4)::Hs) w:=hw.arr;refine ZA (Sat R1 [rqC b5 q cs,pts p (ZaR bk t.next m),VC.tru]) hw (λ w hw=>hw.cons λ _ h=>h.restTru2) λ w hw=>?_;refine ⟨q.seq,At.own (λ _ h=>h) (by exact ⟨rfl,trivial⟩),cs,At.own (λ _ h=>h) (by exact ⟨rfl,trivial⟩),Zd.mk rfl ⟨some ⟨bk,0,none⟩,by rw [Zz];exact At.own (λ _ h=>h) (by exact ⟨rfl,trivial⟩),?_⟩⟩;have hw:Sat R1 (Zj bk t.bk::rqC b5 q cs::pts p (ZaR bk t.next m)::pts e.1 (ZU e.2 s0)::Own s0 5 (b8 e.2.rep)::ZaI (A.map ZH++C.map ZH)::ZaY b4::MapAt m (E.map Za4)::Hs) w:=hw.arr;refine (Zst ok.bk hcb (by omega) hcs hw).use ?_;clear hw;rintro _ w ⟨x,rfl,hw⟩;obtain ⟨o1,_,_⟩:=Zsu ok.bk hcb;have hw:Sat R1 (rqC b5 q cs::pts p (ZaR bk t.next m)::pts e.1 (ZU e.2 s0)::Own x 5 (b8 (Zcf t.bk q.cmd).1)::Zj bk (Zcf t.bk q.cmd).2::Own s0 5 (b8 e.2.rep)::ZaI (A.map ZH++C.map ZH)::ZaY b4::MapAt m (E.map Za4)::Hs) w:=hw.arr;refine ⟨x,rfl,hw.cons λ _ h=>h.restTru2,Zd.mk rfl ?_⟩;refine Za hw (by kernel_rfl) rfl (by simp [Value.cells]) λ w hw=>?_;have hw:=hw.re (pts e.1 (ZU { e.2 with last:=q.seq } s0));have hw:Sat R1 (rqC b5 q cs::pts p (ZaR bk t.next m)::pts e.1 (ZU { e.2 with last:=q.seq } s0)::Own x 5 (b8 (Zcf t.bk q.cmd).1)::Zj bk (Zcf t.bk q.cmd).2::Own s0 5 (b8 e.2.rep)::ZaI (A.map ZH++C.map ZH)::ZaY b4::MapAt m (E.map Za4)::Hs) w:=hw.arr;refine ⟨hw.cons λ _ h=>h.restTru2,Zd.mk rfl ?_⟩;obtain ⟨c,hc⟩:∃ c:Cl,c={ e.2 with last:=q.seq,rep:=(Zcf t.bk q.cmd).1 }:=⟨_,rfl⟩;refine Za hw (by kernel_rfl) rfl (by simp [Value.cells]) λ w hw=>?_;have hw:=hw.re (pts e.1 (ZU c x)) (by rw [hc];rfl);have hw:Sat R1 (rqC b5 q cs::pts e.1 (ZU c x)::Own x 5 (b8 c.rep)::pts p (ZaR bk t.next m)::Zj bk (Zcf t.bk q.cmd).2::ZaI (A.map ZH++C.map ZH)::ZaY b4::MapAt m (E.map Za4)::Hs) w:=by
    have hw:Sat R1 (Own s0 5 (b8 e.2.rep)::rqC b5 q cs::pts e.1 (ZU c x)::Own x 5 (b8 (Zcf t.bk q.cmd).1)::pts p (ZaR bk t.next m)::Zj bk (Zcf t.bk q.cmd).2::ZaI (A.map ZH++C.map ZH)::ZaY b4::MapAt m (E.map Za4)::Hs) w:=hw.arr;rw [hc] at hw ⊢;exact hw.drop
   refine ZA (Sat R1 [rqC b5 q cs,pts e.1 (ZU c x),VC.tru]) hw (λ w hw=>hw.cons λ _ h=>h.restTru2) λ w hw=>?_;refine ⟨q.client,At.own (λ _ h=>h) (by exact ⟨rfl,trivial⟩),q.seq,At.own (λ _ h=>h) (by exact ⟨rfl,trivial⟩),Zd.mk rfl ⟨x,At.own (λ _ h=>h) (by exact ⟨rfl,trivial⟩),?_⟩⟩;have hcr:c.rep.length<=65536:=by rw [hc];exact o1
   have hw:Sat R1 (Own x 5 (b8 c.rep)::rqC b5 q cs::pts e.1 (ZU c x)::pts p (ZaR bk t.next m)::Zj bk (Zcf t.bk q.cmd).2::ZaI (A.map ZH++C.map ZH)::ZaY b4::MapAt m (E.map Za4)::Hs) w:=hw.arr;obtain ⟨R2,r2,_,hw,back⟩:=Own.lend hw (by rw [List.length_map];omega);refine (ZeB r2 (by omega) hw).use ?_;clear hw;rintro _ w ⟨y,rfl,hw⟩;have hw:=back hw;have hw:Sat R1 (rqC b5 q cs::pts e.1 (ZU c x)::Own x 5 (b8 c.rep)::Own y 5 (b8 c.rep)::pts p (ZaR bk t.next m)::Zj bk (Zcf t.bk q.cmd).2::ZaI (A.map ZH++C.map ZH)::ZaY b4::MapAt m (E.map Za4)::Hs) w:=hw.arr;refine ⟨y,rfl,hw.cons λ _ h=>h.restTru2,?_⟩;have hw:Sat R1 (ZaY b4::pts e.1 (ZU c x)::Own x 5 (b8 c.rep)::ZaI (A.map ZH++C.map ZH)::pts p (ZaR bk t.next m)::MapAt m (E.map Za4)::Zj bk (Zcf t.bk q.cmd).2::rqC b5 q cs::Own y 5 (b8 c.rep)::Hs) w:=hw.arr;refine ZcU (τ:=⟨0,q.client,q.seq,c.rep⟩) (s:=y) hw λ w hw=>?_;have hw:Sat R1 (Own y 5 (b8 c.rep)::pts e.1 (ZU c x)::Own x 5 (b8 c.rep)::ZaI (A.map ZH++C.map ZH)::pts p (ZaR bk t.next m)::MapAt m (E.map Za4)::Zj bk (Zcf t.bk q.cmd).2::rqC b5 q cs::Hs) w:=hw.arr;subst hc;exact fin (τ:=⟨0,q.client,q.seq,(Zcf t.bk q.cmd).1⟩) (x:=y) (hw.cons λ _ h=>close rfl rfl h)
  ·rw [if_neg h9]
   have hw:Sat R1 (rqC b5 q cs::pts e.1 (ZU e.2 s0)::Own s0 5 (b8 e.2.rep)::pts p (ZaR bk t.next m)::Zj bk t.bk::ZaI (A.map ZH++C.map ZH)::ZaY b4::MapAt m (E.map Za4)::Hs) w:=hw.arr;refine ZA (Sat R1 [rqC b5 q cs,pts e.1 (ZU e.2 s0),VC.tru]) hw (λ w hw=>hw.cons λ _ h=>h.restTru2) λ w hw=>?_;refine ⟨q.client,At.own (λ _ h=>h) (by exact ⟨rfl,trivial⟩),q.seq,At.own (λ _ h=>h) (by exact ⟨rfl,trivial⟩),Zd.mk rfl ⟨s0,At.own (λ _ h=>h) (by exact ⟨rfl,trivial⟩),?_⟩⟩;have hw:Sat R1 (Own s0 5 (b8 e.2.rep)::rqC b5 q cs::pts e.1 (ZU e.2 s0)::pts p (ZaR bk t.next m)::Zj bk t.bk::ZaI (A.map ZH++C.map ZH)::ZaY b4::MapAt m (E.map Za4)::Hs) w:=hw.arr;obtain ⟨R2,r2,_,hw,back⟩:=Own.lend hw (by rw [List.length_map];omega);refine (ZeB r2 (by omega) hw).use ?_;clear hw;rintro _ w ⟨y,rfl,hw⟩;have hw:=back hw;have hw:Sat R1 (rqC b5 q cs::pts e.1 (ZU e.2 s0)::Own s0 5 (b8 e.2.rep)::Own y 5 (b8 e.2.rep)::pts p (ZaR bk t.next m)::Zj bk t.bk::ZaI (A.map ZH++C.map ZH)::ZaY b4::MapAt m (E.map Za4)::Hs) w:=hw.arr;refine ⟨y,rfl,hw.cons λ _ h=>h.restTru2,?_⟩;have hw:Sat R1 (ZaY b4::Own y 5 (b8 e.2.rep)::pts e.1 (ZU e.2 s0)::Own s0 5 (b8 e.2.rep)::ZaI (A.map ZH++C.map ZH)::pts p (ZaR bk t.next m)::MapAt m (E.map Za4)::Zj bk t.bk::rqC b5 q cs::Hs) w:=hw.arr;exact ZcU (τ:=⟨0,q.client,q.seq,e.2.rep⟩) (s:=y) hw λ w hw=>fin (τ:=⟨0,q.client,q.seq,e.2.rep⟩) (x:=y) (hw.cons λ _ h=>same h)
end
section
open Go Go.VC Tryz
set_option maxRecDepth 10000
def B26 (p:Option Addr) (K:Value->World->Prop) (w:World):Prop:=
 Drw w λ o al=>
 Zd p λ G=>
 ∃ H,(At o ⟨G.block,G.off + 1,none⟩ [.int .i64 H])/\
 Zd p λ A=>
 ∃ I:Option Nat,(At o ⟨A.block,A.off + 2,none⟩ [.map I])/\
 ∃ J:Int,(∀ b,o b->((Builtin.len_ #[126] 3 #[.map I])).run prog b=.ok (.int .i64 J) b)/\
 New (.cells #[.int .i64 H,.int .i64 J] 3 (0,0)) (λ ac V=>
 (o V)/\
 Calls prog 81 #[.slice ((some ⟨ac,0,none⟩)) 2 2] V λ ae z=>
 ∃ s:Sl,(ae=.returned (s.v))/\
 (o z)/\
 Zd p λ C=>
 ∃ L:Option Nat,(Aw z ⟨C.block,C.off + 2,none⟩ [.map L])/\
 Calls prog 82 #[.map L] z λ af ap=>
 ∃ M:Value,(af=.returned (M))/\
 Calls prog 61 #[M] ap λ ag aq=>
 ∃ f:Sl,(ag=.returned (f.v))/\
 ∃ (v:Sl->Int->World->Prop) (Y:Sl->Int->World->Nat),(v s 0 aq)/\∀ (av:Env) (c:Sl) (e:Int) (d:World),v c e d->
 Br (decide (e<(↑f.len:Int)))
 (Rng e f.len (Zd f.a λ Z=>
 ∃ x,(Aw d (Addr.add Z e.toNat) [.int .i64 x])/\
 Zd p λ D=>
 ∃ N:Option Nat,(Aw d ⟨D.block,D.off + 2,none⟩ [.map N])/\
 ∃ t:Option Addr,(∀ b,(λ b=>b=d) b->((Instr.lookup 126 (.map N) (.int .i64 x) false)).run prog b=.ok (.pointer t) b)/\
 Drw d λ r ar=>
 Zd t λ aa=>
 ∃ O,(At r (Addr.add aa 0) [.int .i64 O])/\
 Zd t λ E=>
 ∃ Q,(At r ⟨E.block,E.off + 1,none⟩ [.int .i64 Q])/\
 New (.cells #[.int .i64 x,.int .i64 O,.int .i64 Q] 3 (0,0)) (λ ad au=>
 Calls prog 81 #[.slice ((some ⟨ad,0,none⟩)) 3 3] au λ ah X=>
 ∃ g:Sl,(ah=.returned (g.v))/\
 (r X)/\
 ∃ u:World,∃ i:Sl,((Builtin.append_ #[47,47] 47 #[c.v,g.v]).run prog X=.ok (i.v) u)/\
 (r u)/\
 Zd t λ F=>
 ∃ j:Sl,(Aw u ⟨F.block,F.off + 2,none⟩ [j.v])/\
 Calls prog 83 #[j.v] u λ ai am=>
 ∃ k:Sl,(ai=.returned (k.v))/\
 ∃ y:World,∃ q:Sl,((Builtin.append_ #[47,47] 47 #[i.v,k.v]).run prog am=.ok (q.v) y)/\
 (v q (IntKind.i64.wrap (e + 1)) y)/\Y q (IntKind.i64.wrap (e + 1)) y<Y c e d) ar))
 (Zd p λ ab=>
 ∃ T,(Aw d (Addr.add ab 0) [.pointer T])/\
 Calls prog 18 #[.pointer T] d λ aj an=>
 ∃ l:Sl,(aj=.returned (l.v))/\
 Calls prog 83 #[l.v] an λ ak ao=>
 ∃ m:Sl,(ak=.returned (m.v))/\
 ∃ U:World,∃ n:Sl,((Builtin.append_ #[47,47] 47 #[c.v,m.v]).run prog ao=.ok (n.v) U)/\
 K (n.v) U)) al
def sk26:Sk:=(.seq .leaf (.seq .leaf (.seq (.seq .leaf (.block (.loop [3,25] [.sl,(.int .i64)] [3,5,6,25,26,27,28,29,30,31,32,33,34,35,36,37,38,39,40,41,42,43,44,45,46,47,48,49,50,51,52,53,54,55] .leaf))) .leaf)))
theorem ZAy (a:Option Addr) (K:Value->World->Prop) (w:World) (h:B26 a K w):Zo prog 26 #[.pointer a] w K:=cq (sk:=sk26) h func26
end
section
open Go Go.VC Tryz
set_option maxRecDepth 10000
def B34 (r:Sl) (K:Value->World->Prop) (w:World):Prop:=
 Calls prog 91 #[r.v] w λ af ar=>
 ∃ d,(af=.returned (.pointer d))/\
 Calls prog 22 #[] ar λ ag az=>
 ∃ f,(ag=.returned (.pointer f))/\
 Calls prog 92 #[.pointer d] az λ ai a2=>
 ∃ G,(ai=.returned (.int .i64 G))/\
 Zd f λ y=>
 ∃ aa:World,(St 3 ⟨y.block,y.off + 1,none⟩ (.int .i64 G) a2 aa)/\
 New (.map #[] 0) (λ s a3=>
 Drw a3 λ ac a4=>
 Zd f λ z=>
 ∃ H,(At ac ⟨z.block,z.off + 1,none⟩ [.int .i64 H])/\
 Calls prog 93 #[.pointer d,.int .u64 64] a4 λ aj a5=>
 ∃ I,(aj=.returned (.int .u64 I))/\
 ∃ (q:Int->Bool->Int->World->Prop) (ab:Int->Bool->Int->World->Nat),(q 0 (decide (H >= 1)) 0 a5)/\∀ (a7:Env) (u:Int) (m:Bool) (l:Int) (p:World),q u m l p->
 Br (decide (l<I))
 (Calls prog 92 #[.pointer d] p λ ak a6=>
 ∃ i,(ak=.returned (.int .i64 i))/\
 Calls prog 92 #[.pointer d] a6 λ al au=>
 ∃ J,(al=.returned (.int .i64 J))/\
 Calls prog 92 #[.pointer d] au λ am av=>
 ∃ L,(am=.returned (.int .i64 L))/\
 New (.cells #[.int .i64 J,.int .i64 L,.slice none 0 0] 134 (0,0)) (λ g aw=>
 Calls prog 94 #[.pointer d,.int .i64 65536] aw λ an ax=>
 ∃ j:Sl,(an=.returned (j.v))/\
 ∃ c:World,(St 47 ⟨g,0 + 2,none⟩ (j.v) ax c)/\
 ∃ (e:Bool->World->Prop),(Br m
 (Br (decide (i>u))
 (Zd f λ A=>
 ∃ M,(Aw c ⟨A.block,A.off + 1,none⟩ [.int .i64 M])/\
 Br (decide (i<M))
 (∃ N,(Aw c ⟨g,0,none⟩ [.int .i64 N])/\
 ∃ O:Bool,(∀ b,(λ b=>b=c) b->((Instr.lookup 156 (.map ((some s))) (.int .i64 N) false)).run prog b=.ok (.bool O) b)/\
 Br (!O)
 (∃ Q,(Aw c ⟨g,0 + 1,none⟩ [.int .i64 Q])/\
 Br (decide (Q>0))
 (e true c)
 (∃ n:Sl,(Aw c ⟨g,0 + 2,none⟩ [n.v])/\
 e ((↑n.len:Int)==0) c))
 (e false c))
 (e false c))
 (e false c))
 (e false c))/\
 ∀ (a8:Env) (t:Bool) (X:World),e t X->
 Drw X λ ad ay=>
 ∃ T,(At ad ⟨g,0,none⟩ [.int .i64 T])/\
 ∃ Y:World,∃ aq:Bool,∃ U:Int,((Instr.mapEntry 156 (.map ((some s))) (.int .i64 T)).run prog ay=.ok (.tuple #[.bool aq,.int .i64 U]) Y)/\
 ∃ v:World,((Instr.entryStore 156 (.map ((some s))) (.int .i64 U) (.bool true)).run prog Y=.ok () v)/\
 Zd f λ C=>
 ∃ V:Option Nat,(Aw v ⟨C.block,C.off + 2,none⟩ [.map V])/\
 ∃ x:World,((Instr.mapUpdate 126 (.map V) (.int .i64 i) (.pointer ((some ⟨g,0,none⟩)))).run prog v=.ok () x)/\
 (q i t (IntKind.u64.wrap (l + 1)) x)/\ab i t (IntKind.u64.wrap (l + 1)) x<ab u m l p) av)
 (Calls prog 94 #[.pointer d,.int .i64 1048576] p λ ao a0=>
 ∃ k:Sl,(ao=.returned (k.v))/\
 Calls prog 95 #[k.v] a0 λ ap a1=>
 ∃ D E,(ap=.returned (.tuple #[.pointer D,.int .i64 E]))/\
 Calls prog 96 #[.pointer d] a1 λ ah o=>
 ∃ F,(ah=.returned (.bool F))/\
 Br (!F)
 (K (.tuple #[.pointer none,.int .i64 6]) o)
 (Br (!m)
 (K (.tuple #[.pointer none,.int .i64 6]) o)
 (Br (E !=0)
 (K (.tuple #[.pointer none,.int .i64 6]) o)
 (Zd f λ ae=>
 ∃ Z:World,(St 25 (Addr.add ae 0) (.pointer D) o Z)/\
 K (.tuple #[.pointer f,.int .i64 0]) Z))))) aa
def sk34:Sk:=(.seq .leaf (.seq .leaf (.seq .leaf (.seq .leaf (.seq .leaf (.seq .leaf (.seq (.seq .leaf (.block (.loop [7,8,29] [(.int .i64),.bool,(.int .u64)] [7,8,9,10,29,30,31,32,33,34,35,36,37,38,39,40,41,42,43,44,45,46,47,48,49,50,51,52,53,54,55,56,57,58,59,60,61,62,63,64,65,66,67,68,69,70,71,72,73,74,75,76,77,78,79,80,81,82,83,84,85,86,87,88,89,90,91,92,93,94,95,96] (.seq .leaf (.seq .leaf (.seq (.block (.seq .leaf (.seq .leaf (.seq .leaf (.cut [8] [.bool] [8,44,45,46,47,48,49,50,51,52,53,54,55,56,57,58,59,60,61,62,63,64,65,66,67,68,69,70,71,72,73,74,75,76,77,78,79,80,81] .leaf .leaf))))) .leaf)))))) .leaf)))))))
theorem ZAw (b:Sl) (K:Value->World->Prop) (w:World) (h:B34 b K w):Zo prog 34 #[b.v] w K:=cq (sk:=sk34) h func34
end
end Go.Proofs.YtlplemdmegpoeaaGreatDoor

namespace Go.Proofs.YtlplemdmegpoeaaGreatDoor
section
open Go Go.VC Tryz
open Classical
variable {R:Cx} {Hs Rest:List HP} {w:World}
theorem ZkX {q:ZpZ} {s t:Sl} (h1:Ro R s (b8 q.reply)) (h2:Ro R t (b8 q.reply)) (hw:Sat R Hs w):
  Zo prog 28 #[.agg #[.int .i64 q.code,.int .i64 q.client,.int .i64 q.seq,.slice s.a s.len s.cap],.agg #[.int .i64 q.code,.int .i64 q.client,.int .i64 q.seq,.slice t.a t.len t.cap]] w λ v w'=>v=.bool true/\Sat R Hs w':=by
 apply ZAx;refine Zb hw λ x w hw=>Zb hw λ y w hw=>?_;have hw:Sat R (tdC y q t::tdC x q s::Hs) w:=hw;refine ⟨q.code,oA hw,q.code,oA hw,Br.e (λ _=>?_) (λ h=>absurd rfl h)⟩;refine ⟨q.client,oA hw,q.client,oA hw,Br.e (λ _=>?_) (λ h=>absurd rfl h)⟩;refine ⟨q.seq,oA hw,q.seq,oA hw,Br.e (λ _=>?_) (λ h=>absurd rfl h)⟩;refine ⟨s,oA hw,VC.strOf q.reply,λ w' e=>?_,t,oA hw,VC.strOf q.reply,λ w' e=>?_,?_,hw.drop.drop⟩
 ·rw [show w'=w from e]
  exact ZfJ underlying47 underlying5 underlying9 hw h1
 ·rw [show w'=w from e]
  exact ZfJ underlying47 underlying5 underlying9 hw h2
 ·rw [Zqq,decide_eq_true rfl]
end
section
open Go Go.VC Tryz
open Classical
variable {R:Cx} {Hs Rest:List HP} {w:World}
def ZAJ (tok:Int):Rq:=⟨1,0,0,tok,[]⟩
theorem ZeE {tok:Int} (h:inI tok):ZbJ (ZAJ tok):=⟨⟨Int.le_refl 0,by show (0:Int)<=1099511627776;omega⟩,⟨Int.le_refl 0,by show (0:Int)<=1099511627776;omega⟩,h,by show 0<=4000;omega,.inl ⟨rfl,rfl,rfl,rfl⟩⟩
theorem ZqK {q:Rq} (h:ZbJ q) (hc:Zv q.cmd):Zv (rqB q):=by
 have h1:=h.k4;obtain ⟨a1,a2⟩:=h.client;obtain ⟨a3,a4⟩:=h.seq;obtain ⟨a5,a6⟩:=h.token;have h2:=h.cmd;intro y hy;unfold rqB at hy;rcases List.mem_append.1 hy with hy|hy
 ·refine ZbW (l:=[q.kind,q.client,q.seq,q.token]) (λ x hx=>?_) y hy
  simp only [List.mem_cons,List.not_mem_nil,or_false] at hx;rcases hx with rfl|rfl|rfl|rfl<;>omega
 ·unfold ZaX at hy
  rcases List.mem_append.1 hy with hy|hy
  ·exact ZjF (n:=q.cmd.length) (by omega) y hy
  ·exact hc y hy
theorem ZlL {q:Rq} {s:Sl} (hs:Ro R s (b8 q.cmd)) (hw:Sat R Hs w):
  Zo prog 24 #[.agg #[.int .i64 q.kind,.int .i64 q.client,.int .i64 q.seq,.int .i64 q.token,.slice s.a s.len s.cap]] w λ v w'=>∃ t:Sl,v=.slice t.a t.len t.cap/\Sat R (Own t 5 (b8 (Zvr q).1)::Hs) w':=by
 apply ZAz;refine Zb hw λ b w hw=>?_;have hw:Sat R (rqC b q s::Hs) w:=hw;refine ⟨q.kind,q.client,q.seq,q.token,s,At.own (eqS hw) (by exact ⟨rfl,rfl,rfl,rfl,rfl,trivial⟩),?_⟩;refine (ZqB hs hw).use ?_;clear hw;rintro _ w ⟨t,rfl,hw⟩;exact ⟨t,_,rfl,t,rfl,hw.cons λ _ h=>h.drop⟩
theorem beg9:ZzE.applyT (rqB (ZAJ 9))=(⟨0,1,0,[]⟩,⟨2,[⟨1,9,0,[]⟩],Z3⟩):=by
 unfold Tb.applyT;rw [ZoM (ZeE ⟨by omega,by omega⟩),if_neg (by simp)];rfl
theorem Ztd (hw:Sat R Hs w):Zo prog 20 #[] w λ v w'=>v=.bool true/\Sat R Hs w':=by
 apply ZAD;refine (Zhd hw).use ?_;clear hw;rintro _ w ⟨p,rfl,hw⟩;refine ⟨_,rfl,Br.f rfl ?_⟩;have h9:inI 9:=⟨by omega,by omega⟩;refine (ZlL (q:=ZAJ 9) (s:=Zc9) ⟨rfl,by show 0<=9223372036854775807;omega,λ h=>absurd rfl h⟩ hw).use ?_;clear hw;rintro _ w ⟨t,rfl,hw⟩;have he:(Zvr (ZAJ 9)).1=rqB (ZAJ 9):=by unfold Zvr;rw [if_pos (ZeE h9)]
 rw [he] at hw;have hlen:=Zv3 (ZeE h9);obtain ⟨R1,e1,g1,hw⟩:=Own.leak hw;refine ⟨t,rfl,?_⟩;refine (Zdz Zrz (by show (1:Int)<1000000;omega) (ZqK (ZeE h9) (λ _ h=>by cases h)) (by omega) (g1.ro (by rw [List.length_map];omega)) hw).use ?_;clear hw;rintro _ w ⟨x,rfl,hw⟩;rw [beg9] at hw ⊢;refine ⟨0,1,0,x,rfl,?_⟩;refine Zb hw λ b w hw=>?_;refine Za hw (by kernel_rfl) rfl (by simp [Value.cells]) λ w hw=>?_;have hw:=hw.re (tdC b ⟨0,1,0,[]⟩ x);refine ⟨0,oA hw,Br.e (λ _=>?_) (λ h=>absurd rfl h)⟩;exact ⟨1,oA hw,rfl,e1.back hw.drop.drop.drop⟩
abbrev sls (ps:List (Sl × List Int)):List Sl:=ps.map (·.1)
structure Zzl (R:Cx) (s:Sl) (ps:List (Sl × List Int)):Prop where
 rows:Ro R s ((sls ps).map Sl.v)
 each:∀ e∈ps,SlR R.m e.1 (b8 e.2)
 by':∀ e∈ps,Zv e.2
theorem Zzl.len {s:Sl} {ps:List (Sl × List Int)} (h:Zzl R s ps):s.len=ps.length:=by have:=h.rows.len;simpa using this
theorem ZhC {s:Sl} {ps:List (Sl × List Int)} (h:Zzl R s ps) (hw:Sat R Hs w):
  Zo prog 21 #[.slice s.a s.len s.cap] w λ v w'=>∃ b,v=.bool b/\(b=false->∀ k (hk:k<ps.length),k<200->ps[k].2.length<=10000)/\Sat R Hs w':=by
 have hsl:=h.len;apply ZAC;refine ⟨λ i w=>∃ k:Nat,i=k/\k<=200/\(∀ j (hj:j<ps.length),j<k->ps[j].2.length<=10000)/\Sat R Hs w,λ i _=>200 - i.toNat,⟨0,rfl,by omega,λ j _ hj=>by omega,hw⟩,?_⟩;clear hw;rintro _ _ w ⟨k,rfl,hk,ha,hw⟩
 with_reducible refine Br.d (λ h1=>?_) (λ h1=>?_)
 case refine_2=>exact ⟨false,rfl,λ _ j hj _=>ha j hj (by omega),hw⟩
 with_reducible refine Br.d (λ h2=>?_) (λ h2=>?_)
 case refine_2=>exact ⟨false,rfl,λ _ j hj h3=>ha j hj (by omega),hw⟩
 have hkl:k<(sls ps).length:=by rw [List.length_map];omega
 refine h.rows.idxS (eqS hw) hkl ?_;have hkp:k<ps.length:=by omega
 have hel:(sls ps)[k].len=ps[k].2.length:=by
  rw [List.getElem_map];have:=(h.each _ (List.getElem_mem hkp)).len;rw [this,List.length_map]
 with_reducible refine Br.d (λ h3=>?_) (λ h3=>?_)
 ·exact ⟨true,rfl,λ h=>(by cases h),hw⟩
 rw [Zl (by omega) (by omega)];refine ⟨⟨k + 1,by omega,by omega,λ j hj hjk=>?_,hw⟩,by dsimp only;omega⟩;by_cases e:j=k
 ·subst e;omega
 ·exact ha j hj (by omega)
end
section
open Go Go.VC Tryz
open Classical
variable {R:Cx} {Hs Rest:List HP} {w:World}
theorem _root_.Go.VC.At.vals {S:World->Prop} {b:Nat} {vs:List Value} {T:TypeId} {fr:Nat × Nat} (hS:∀ w,S w->Sat R Hs w)
  [t:ZeO b Hs (.cells vs.toArray T fr) Rest] {i:Nat} (hi:i<vs.length):At S (Addr.add ⟨b,0,none⟩ i) [vs[i]]:=by
 rw [Zz];refine At.own hS ?_;rw [Nat.zero_add,List.drop_eq_getElem_cons hi];exact ⟨rfl,trivial⟩
def wtN (x:Wt):List Nat:=[x.id.toNat,x.cls.toNat,x.many.toNat,x.time.toNat,Zts x.sc]
def Zlj (l:List Nat):List Int:=(l.map Zf4).flatten
theorem ZA4 (x:Wt):wtB x=Zlj (wtN x):=by
 simp [wtB,Zlj,wtN,Zm,Zzd]
theorem Zo0 {l:List Nat} {j:Nat} (hj:j<l.length):Zlj (l.take (j + 1))=Zlj (l.take j)++Zf4 l[j]:=by
 unfold Zlj;rw [List.take_add_one,List.getElem?_eq_getElem hj,List.map_append,List.flatten_append];simp
theorem Zrt {l:List Nat} (h:∀ x∈l,x<18446744073709551616):(Zlj l).length<=9 * l.length:=ZbC λ x hx=>Zbx (h x hx)
theorem Zzm {x:Wt} (h:x.Ok) (hf:x.sc<18446744073709551616):∀ y∈wtN x,y<18446744073709551616:=by
 obtain ⟨h1,h2,h3,h4⟩:=h;intro y hy;simp only [wtN,List.mem_cons,List.not_mem_nil,or_false] at hy;have:=ZnT hf;omega
theorem ZhR {α β:Type} {f:α->List β} {l:List α} {j:Nat} (hj:j<l.length):((l.take (j + 1)).map f).flatten=((l.take j).map f).flatten++f l[j]:=by
 rw [List.take_add_one,List.getElem?_eq_getElem hj,List.map_append,List.flatten_append];simp
set_option maxHeartbeats 1000000 in
theorem Zq6 {q:Nat} {l:List Wt} (hq:QOk l) (hw:Sat R (ZF q l::Hs) w):
  Zo prog 65 #[.pointer (some ⟨q,0,none⟩)] w λ v w'=>∃ t:Sl,v=.slice t.a t.len t.cap/\Sat R (Own t 5 (b8 (qB l))::ZF q l::Hs) w':=by
 apply ZAi
 suffices H:∀ K:Value->World->Prop,(∀ (t:Sl) w',Sat R (Own t 5 (b8 (qB l))::ZF q l::Hs) w'->K (.slice t.a t.len t.cap) w')->B65 (some ⟨q,0,none⟩) K w from H _ λ t w' h=>⟨t,rfl,h⟩
 intro K hK;have hlen:=hq.len;obtain ⟨s,hw⟩:=Sat.qu.1 hw;have hsl:=ZP.len hw.swap;rw [List.length_map] at hsl;refine Zd.mk rfl ⟨s,oA hw,?_⟩;rw [Zax (by omega) (by omega)];refine (ZbR (by omega) hw).use ?_;clear hw;rintro _ w ⟨t0,rfl,hw⟩;refine ⟨t0,rfl,Zd.mk rfl ⟨s,oA hw,?_⟩⟩;have e0:Zf4 s.len=Zm [(l.length:Int)]:=by rw [hsl];simp [Zm]
 rw [e0] at hw;refine ⟨λ t i w=>∃ k:Nat,i=k/\k<=l.length/\Sat R (Own t 5 (b8 (Zm [(l.length:Int)]++((l.take k).map wtB).flatten))::pts q (ZaB s)::ZP 5 s wtT (l.map wtV)::Hs) w,
  λ _ i _=>l.length - i.toNat,⟨0,rfl,by omega,by simpa using hw⟩,?_⟩
 clear hw;rintro _ t _ w ⟨k,rfl,hk,hw⟩;refine Br.d (λ h=>?_) (λ h=>?_)
 ·have hk2:k<l.length:=by omega
  have hx:=List.getElem_mem hk2;have hok:=hq.ok _ hx;have hfl:=hq.fl _ hx;have hu:=Zzm hok hfl;obtain ⟨h1,h2,h3,h4⟩:=id hok;refine (ZP.readsM (n:=5) (s:=s) (T:=wtT) (rows:=l.map wtV) hw (eqS hw)).rngM (E:=l) (g:=wtV) hk2 λ a _ he=>?_;refine ⟨_,_,_,_,_,he.z (by exact ⟨rfl,rfl,rfl,rfl,rfl,trivial⟩),?_⟩;refine Zb hw λ b2 w hw=>?_;refine Za hw (by kernel_rfl) rfl (by simp [Value.cells]) λ w hw=>?_;have hw:=hw.re (wtC b2 l[k]);refine Zbf hw λ w hw=>?_;refine ⟨l[k].id,oS,l[k].cls,oS,l[k].many,oS,l[k].time,oS,l[k].sc,oS,?_⟩;refine (Zuq hfl hw).use ?_;clear hw;rintro _ w ⟨rfl,hw⟩;refine ⟨_,rfl,hw,?_⟩;rw [Zax (x:=l[k].id) (by omega) (by omega),Zax (x:=l[k].cls) (by omega) (by omega),Zax (x:=l[k].many) (by omega) (by omega),Zax (x:=l[k].time) (by omega) (by omega)];refine Zb hw λ b5 w hw=>⟨hw.absorb,?_⟩;obtain ⟨us,hus⟩:∃ us,us=wtN l[k]:=⟨_,rfl⟩;have hul:us.length=5:=by rw [hus];rfl
  have hw:Sat R (pts b5 (.cells (us.map λ n=>Value.int .u64 (n:Nat)).toArray 141 (0,0))::wtC b2 l[k]::Own t 5 (b8 (Zm [(l.length:Int)]++((l.take k).map wtB).flatten))::pts q (ZaB s)::ZP 5 s wtT (l.map wtV)::Hs) w:=by
   have e:([.int .u64 l[k].id,.int .u64 l[k].cls,.int .u64 l[k].many,.int .u64 l[k].time,.int .u64 ((Zts l[k].sc:Nat):Int)]:List Value)=us.map λ n=>Value.int .u64 (n:Nat):=by
    subst hus;simp only [wtN,List.map_cons,List.map_nil,Int.toNat_of_nonneg h2.1,Int.toNat_of_nonneg h4.1,Int.toNat_of_nonneg (show 0<=l[k].id by omega),Int.toNat_of_nonneg (show 0<=l[k].many by omega)]
   rw [<-e];exact hw.cons λ _ h=>h.drop
  rw [<-hus] at hu;have hblen:=ZbC (l:=l.take k) (code:=wtB) (m:=45) λ w hw=>Zp4 (hq.ok w (List.mem_of_mem_take hw)) (hq.fl w (List.mem_of_mem_take hw));rw [List.length_take] at hblen;have h0:=Zw (x:=(l.length:Int)) (by omega);obtain ⟨bs,hbs⟩:∃ bs,bs=Zm [(l.length:Int)]++((l.take k).map wtB).flatten:=⟨_,rfl⟩;have hbl:bs.length<=10000:=by rw [hbs,List.length_append];omega
  rw [<-hbs] at hw;refine ⟨λ t i w=>∃ j:Nat,i=j/\j<=5/\Sat R (Own t 5 (b8 (bs++Zlj (us.take j)))::pts b5 (.cells (us.map λ n=>Value.int .u64 (n:Nat)).toArray 141 (0,0))::wtC b2 l[k]::pts q (ZaB s)::ZP 5 s wtT (l.map wtV)::Hs) w,
   λ _ i _=>5 - i.toNat,⟨0,rfl,by omega,?_⟩,?_⟩
  ·have hw:Sat R (Own t 5 (b8 bs)::pts b5 (.cells (us.map λ n=>Value.int .u64 (n:Nat)).toArray 141 (0,0))::wtC b2 l[k]::pts q (ZaB s)::ZP 5 s wtT (l.map wtV)::Hs) w:=hw.arr
   simpa [Zlj] using hw
  clear hw;rintro _ t _ w ⟨j,rfl,hj,hw⟩;refine Br.d (λ hj5=>?_) (λ hj5=>?_)
  ·have hj2:j<us.length:=by omega
   have hul2:=Zrt (l:=us.take j) λ x hx=>hu x (List.mem_of_mem_take hx);rw [List.length_take] at hul2;have huj:=hu _ (List.getElem_mem hj2);refine Rng.mk (by omega) (by omega) ⟨((us[j]:Nat):Int),?_,?_⟩
   ·have hjm:j<(us.map λ n=>Value.int .u64 (n:Nat)).length:=by rw [List.length_map];exact hj2
    have:=At.vals (b:=b5) (vs:=us.map λ n=>Value.int .u64 (n:Nat)) (eqS hw) hjm;rw [List.getElem_map] at this;exact this
   refine (ZbR huj hw).use ?_;clear hw;rintro _ w ⟨t1,rfl,hw⟩;refine ⟨t1,rfl,?_⟩;have hnb:=Zbx huj;refine ZfP Zvt (s:=t) (n:=1099511627790) underlying47 hw.swap (by rw [List.length_append];omega) (by omega) (by omega) λ s2 w hw=>?_;have hw:=hw.cons λ _ h=>h.drop;rw [Zl (x:=(j:Int) + 1) (by omega) (by omega)];refine ⟨⟨j + 1,by omega,by omega,?_⟩,by dsimp only;omega⟩;rw [Zo0 hj2,<-List.append_assoc];exact hw
  ·rw [List.take_of_length_le (by omega:us.length<=j),hus,<-ZA4,hbs,List.append_assoc,<-ZhR hk2] at hw
   rw [Zl (x:=(k:Int) + 1) (by omega) (by omega)];exact ⟨⟨k + 1,by omega,by omega,hw.cons λ _ h=>h.drop.drop⟩,by dsimp only;omega⟩
 ·rw [List.take_of_length_le (by omega:l.length<=k)] at hw
  exact hK t w (hw.cons λ _ h=>Sat.qu.2 ⟨s,h⟩)
end
section
open Go Go.VC Tryz
open Classical
variable {R:Cx} {Hs Rest:List HP} {w:World}
theorem nn3s {a b c:Int} (h0:0<=a) (h1:0<=b) (h2:0<=c):Zm ([a,b,c].map nn)=Zm [a]++(Zm [b]++Zm [c]):=by
 show Zm [nn a,nn b,nn c]=_;rw [Zcj h0,Zcj h1,Zcj h2,Zbh a,Zbh b]
theorem nn6s {a b c d e f:Int} (h0:0<=a) (h1:0<=b) (h2:0<=c) (h3:0<=d) (h4:0<=e) (h5:0<=f):Zm ([a,b,c,d,e,f].map nn)=Zm [a]++(Zm [b]++(Zm [c]++(Zm [d]++(Zm [e]++Zm [f])))):=by
 show Zm [nn a,nn b,nn c,nn d,nn e,nn f]=_;rw [Zcj h0,Zcj h1,Zcj h2,Zcj h3,Zcj h4,Zcj h5,Zbh a,Zbh b,Zbh c,Zbh d,Zbh e]
theorem ZkB {p:Nat} {s:Sl} {d bs:List Int} {T:TypeId} (hl:bs.length + d.length<=1099511627776) (hd:d.length<=1099511627776) (hw:Sat R (Own s T (b8 d)::WrB p bs::Hs) w):
  Zo prog 63 #[.pointer (some ⟨p,0,none⟩),.slice s.a s.len s.cap] w λ v w'=>v=.tuple #[]/\Sat R (WrB p (bs++ZaX d)::Hs) w':=by
 obtain ⟨R1,e1,g1,hw⟩:=Own.leak hw;refine (Zio hl hd (g1.ro (by rw [List.length_map];omega)) hw).mono ?_;rintro _ w ⟨rfl,hw⟩;exact ⟨rfl,e1.back hw⟩
set_option maxHeartbeats 2000000 in
theorem ZpF {p:Nat} {b:ZR} (k:Core b) (hw:Sat R (Zj p b::Hs) w):
  Zo prog 18 #[.pointer (some ⟨p,0,none⟩)] w λ v w'=>∃ t:Sl,v=.slice t.a t.len t.cap/\Sat R (Own t 5 (b8 (Zc3 b))::Zj p b::Hs) w':=by
 apply ZAE
 suffices H:∀ K:Value->World->Prop,(∀ (t:Sl) w',Sat R (Own t 5 (b8 (Zc3 b))::Zj p b::Hs) w'->K (.slice t.a t.len t.cap) w')->B18 (some ⟨p,0,none⟩) K w from H _ λ t w' h=>⟨t,rfl,h⟩
 intro K hK;have k1:=k.now;have k2:=k.next;have k3:=k.few;have k4:=k.many;have a1:=Zw (x:=b.now) (by omega);have a2:=Zw (x:=b.next) (by omega);have a3:=Zw (x:=(b.fl.length:Int)) (by omega);have a4:=Zw (x:=(b.L.length:Int)) (by omega);have a5:∀ j,(((b.fl.take j).map plB).flatten).length<=304000:=λ j=>by
  have:=ZbC (l:=b.fl.take j) (code:=plB) (m:=38000) λ p hp=>Zri (k.good p (List.mem_of_mem_take hp)) (k.qok p (List.mem_of_mem_take hp));rw [List.length_take] at this;omega
 have a6:∀ j,(((b.L.take j).map bkB).flatten).length<=16200:=λ j=>by
  have:=ZbC (l:=b.L.take j) (code:=bkB) (m:=54) λ x hx=>Zs3 k2.2 (k.each x (List.mem_of_mem_take hx));rw [List.length_take] at this;omega
 obtain ⟨m1,m2,fs,xs,hl,hw⟩:=Sat.book.1 hw;have hfl:=Zn6 hl;have hbl:=Zom hl;refine Zb hw λ pw w hw=>?_;have hw:Sat R (WrB pw []::pts p (Zh b m1 m2)::MapAt m1 (fs.map flV)::MapAt m2 (xs.map bkV)::Zi fs::Zk xs::Hs) w:=Sat.wrB.2 ⟨ZE,(Own.nil hw).swap⟩;have toS:∀ {A:List HP} {R:Cx} {w:World},Sat R (pts p (Zh b m1 m2)::MapAt m1 (fs.map flV)::A) w->Sat R [pts p (Zh b m1 m2),MapAt m1 (fs.map flV),VC.tru] w:=λ h=>h.cons λ _ h=>h.restTru2;refine ZA (Sat R [pts p (Zh b m1 m2),MapAt m1 (fs.map flV),VC.tru]) hw (λ w hw=>?_) λ w hw=>?_
 ·exact toS (hw.arr (Hs':=pts p (Zh b m1 m2)::MapAt m1 (fs.map flV)::WrB pw []::MapAt m2 (xs.map bkV)::Zi fs::Zk xs::Hs))
 refine Zd.mk rfl ⟨b.now,At.own (λ _ h=>h) (by exact ⟨rfl,trivial⟩),Zd.mk rfl ⟨b.next,At.own (λ _ h=>h) (by exact ⟨rfl,trivial⟩),Zd.mk rfl ⟨some m1,At.own (λ _ h=>h) (by exact ⟨rfl,trivial⟩),((fs.map flV).length:Int),λ w' h=>MapAt.len (by kernel_rfl) h.swap,?_⟩⟩⟩;rw [List.length_map,hfl];refine Zb hw λ b26 w hw=>⟨?_,?_⟩
 ·exact toS (hw.arr (Hs':=pts p (Zh b m1 m2)::MapAt m1 (fs.map flV)::pts b26 (.cells #[.int .i64 b.now,.int .i64 b.next,.int .i64 (b.fl.length:Int)] 3 (0,0))::WrB pw []::MapAt m2 (xs.map bkV)::Zi fs::Zk xs::Hs))
 refine (Zcs (xs:=[b.now,b.next,(b.fl.length:Int)]) rfl (by simp;omega) (by simp) hw).use ?_;clear hw;rintro _ w ⟨rfl,hw⟩;refine ⟨rfl,?_,?_⟩
 ·exact toS (hw.arr (Hs':=pts p (Zh b m1 m2)::MapAt m1 (fs.map flV)::WrB pw ([]++Zm ([b.now,b.next,(b.fl.length:Int)].map nn))::MapAt m2 (xs.map bkV)::Zi fs::Zk xs::Hs))
 rw [nn3s (by omega) (by omega) (by omega),List.nil_append] at hw;obtain ⟨h0,hh0⟩:∃ h,h=Zm [b.now]++(Zm [b.next]++Zm [(b.fl.length:Int)]):=⟨_,rfl⟩;have hl0:h0.length<=27:=by rw [hh0];simp only [List.length_append];omega
 rw [<-hh0] at hw;have hw:Sat R (pts p (Zh b m1 m2)::MapAt m1 (fs.map flV)::WrB pw h0::MapAt m2 (xs.map bkV)::Zi fs::Zk xs::Hs) w:=hw.arr;refine Zd.mk rfl ⟨some m1,oA hw,?_⟩;refine Ziu k hl hw.swap ?_;clear hw;intro s w hw;have hsl:=Own.len hw;rw [List.length_map,List.length_map] at hsl;obtain ⟨MF,hMF⟩:∃ M,M=fs.map flV:=⟨_,rfl⟩;obtain ⟨MB,hMB⟩:∃ M,M=xs.map bkV:=⟨_,rfl⟩;obtain ⟨nums,hnums⟩:∃ n,n=b.fl.map Pl.n:=⟨_,rfl⟩;have hnl:nums.length=b.fl.length:=by rw [hnums,List.length_map]
 rw [<-hMF,<-hMB,<-hnums] at hw;have hw:Sat R (WrB pw h0::Own s 3 (Zg nums)::pts p (Zh b m1 m2)::MapAt m1 MF::MapAt m2 MB::Zi fs::Zk xs::Hs) w:=hw.arr;refine ⟨λ i w=>∃ j:Nat,i=j/\j<=b.fl.length/\Sat R (WrB pw (h0++((b.fl.take j).map plB).flatten)::Own s 3 (Zg nums)::pts p (Zh b m1 m2)::MapAt m1 MF::MapAt m2 MB::Zi fs::Zk xs::Hs) w,
  λ i _=>b.fl.length - i.toNat,⟨0,rfl,by omega,by simpa using hw⟩,?_⟩
 clear hw;rintro _ _ w ⟨j,rfl,hj,hw⟩;have hla:=a5 j;refine Br.d (λ h=>?_) (λ h=>?_)
 ·have hj2:j<b.fl.length:=by omega
  obtain ⟨pl,hpl⟩:∃ pl,pl=b.fl[j]:=⟨_,rfl⟩;have hmem:pl∈b.fl:=by rw [hpl];exact List.getElem_mem _
  have hat:b.at pl.n=some pl:=(Zh7 k).2 ⟨hmem,rfl⟩;have hnj:nums[j]'(by omega)=pl.n:=by subst hnums;rw [List.getElem_map,hpl]
  have hg:=k.good pl hmem;have hq:=k.qok pl hmem;have e1:=Zek hg;have e2:=Zny hq;have hw2:Sat R (Own s 3 (Zg nums)::WrB pw (h0++((b.fl.take j).map plB).flatten)::pts p (Zh b m1 m2)::MapAt m1 MF::MapAt m2 MB::Zi fs::Zk xs::Hs) w:=hw.swap;refine Own.ix hw2 (eqS hw2) j rfl (by omega) ?_;rw [hnj];refine Zd.mk rfl ⟨some m1,oA hw,?_⟩;obtain ⟨A,f,q,C,hfs,hm⟩:=ZcZ hl k.nums hat;have hgm:ZD pl.n MF=some (.agg #[.pointer (some ⟨f,0,none⟩),.pointer (some ⟨q,0,none⟩)]):=by rw [hMF,hfs];exact ZhS hm
  refine ⟨some ⟨f,0,none⟩,some ⟨q,0,none⟩,λ w' e=>?_,?_⟩
  ·rw [show w'=w from e]
   have hm1:Sat R (MapAt m1 MF::WrB pw (h0++((b.fl.take j).map plB).flatten)::Own s 3 (Zg nums)::pts p (Zh b m1 m2)::MapAt m2 MB::Zi fs::Zk xs::Hs) w:=hw.arr;have:=MapAt.look Ztq hm1 pl.n false;rw [hgm] at this;exact this
  clear hw2;refine Zb hw λ b6 w hw=>?_;refine Za hw (by kernel_rfl) rfl (by simp [Value.cells]) λ w hw=>?_;have hw:=hw.re (fqC b6 f q);rw [hfs] at hw;have hw:Sat R (Zi (A++(f,q,pl)::C)::fqC b6 f q::WrB pw (h0++((b.fl.take j).map plB).flatten)::Own s 3 (Zg nums)::pts p (Zh b m1 m2)::MapAt m1 MF::MapAt m2 MB::Zk xs::Hs) w:=hw.arr;have hw:=Zba.1 hw;refine ⟨some ⟨f,0,none⟩,oA hw,?_⟩;refine (ZmE hw).use ?_;clear hw;rintro _ w ⟨t1,rfl,hw⟩;refine ⟨t1,rfl,?_⟩;have hw:Sat R (Own t1 5 (b8 (ZbG pl.r))::WrB pw (h0++((b.fl.take j).map plB).flatten)::ZF q pl.q::Zf f pl.r::Zi (A++C)::fqC b6 f q::Own s 3 (Zg nums)::pts p (Zh b m1 m2)::MapAt m1 MF::MapAt m2 MB::Zk xs::Hs) w:=hw.arr;refine (ZkB (by rw [List.length_append];omega) (by omega) hw).use ?_;clear hw;rintro _ w ⟨rfl,hw⟩;refine ⟨rfl,some ⟨q,0,none⟩,oA hw,?_⟩;refine (Zq6 hq hw.swap).use ?_;clear hw;rintro _ w ⟨t2,rfl,hw⟩;refine ⟨t2,rfl,?_⟩;have e3:=ZaO (d:=ZbG pl.r) (by omega);have hw:Sat R (Own t2 5 (b8 (qB pl.q))::WrB pw (h0++((b.fl.take j).map plB).flatten++ZaX (ZbG pl.r))::ZF q pl.q::Zf f pl.r::Zi (A++C)::fqC b6 f q::Own s 3 (Zg nums)::pts p (Zh b m1 m2)::MapAt m1 MF::MapAt m2 MB::Zk xs::Hs) w:=hw.arr;refine (ZkB (by simp only [List.length_append];omega) (by omega) hw).use ?_;clear hw;rintro _ w ⟨rfl,hw⟩;rw [Zl (x:=(j:Int) + 1) (by omega) (by omega)];refine ⟨rfl,⟨j + 1,by omega,by omega,?_⟩,by dsimp only;omega⟩;have ebs:h0++((b.fl.take j).map plB).flatten++ZaX (ZbG pl.r)++ZaX (qB pl.q)=h0++((b.fl.take (j + 1)).map plB).flatten:=by
   rw [ZhR hj2,<-hpl];unfold plB;simp only [List.append_assoc]
  rw [ebs] at hw;have hw:Sat R (Zf f pl.r::ZF q pl.q::Zi (A++C)::WrB pw (h0++((b.fl.take (j + 1)).map plB).flatten)::fqC b6 f q::Own s 3 (Zg nums)::pts p (Zh b m1 m2)::MapAt m1 MF::MapAt m2 MB::Zk xs::Hs) w:=hw.arr;have hw:=Zba.2 hw;rw [<-hfs] at hw;have hw:Sat R (fqC b6 f q::WrB pw (h0++((b.fl.take (j + 1)).map plB).flatten)::Own s 3 (Zg nums)::pts p (Zh b m1 m2)::MapAt m1 MF::MapAt m2 MB::Zi fs::Zk xs::Hs) w:=hw.arr;exact hw.drop
 ·have hjf:j=b.fl.length:=by omega
  rw [hjf,List.take_length] at hw;have a50:=a5 b.fl.length;rw [List.take_length] at a50;refine Zd.mk rfl ⟨some m2,oA hw,(MB.length:Int),λ w' e=>?_,?_⟩
  ·rw [show w'=w from e]
   have hm2:Sat R (MapAt m2 MB::WrB pw (h0++(b.fl.map plB).flatten)::Own s 3 (Zg nums)::pts p (Zh b m1 m2)::MapAt m1 MF::Zi fs::Zk xs::Hs) w:=hw.arr;exact MapAt.len (by kernel_rfl) hm2
  rw [show MB.length=b.L.length by rw [hMB,List.length_map,hbl]];refine Zb hw λ b62 w hw=>?_;refine (Zcs (xs:=[(b.L.length:Int)]) rfl (by simp;omega) (by simp only [List.length_append,List.length_cons,List.length_nil];omega) hw).use ?_;clear hw;rintro _ w ⟨rfl,hw⟩;rw [nn1 (by omega)] at hw;obtain ⟨h1,hh1⟩:∃ h,h=h0++(b.fl.map plB).flatten++Zm [(b.L.length:Int)]:=⟨_,rfl⟩;have hl1:h1.length<=305000:=by rw [hh1];simp only [List.length_append];omega
  rw [<-hh1] at hw;refine ⟨rfl,Zd.mk rfl ⟨some m2,oA hw,?_⟩⟩;have hw:Sat R (MapAt m2 MB::WrB pw h1::pts p (Zh b m1 m2)::MapAt m1 MF::Zi fs::Zk xs::Own s 3 (Zg nums)::Hs) w:=hw.arr;rw [hMB] at hw;refine Ziv k hl hw ?_;clear hw;intro s2 w hw;have hsl2:=Own.len hw;rw [List.length_map,List.length_map] at hsl2;obtain ⟨ids,hids⟩:∃ n,n=b.L.map Bk.id:=⟨_,rfl⟩;have hil:ids.length=b.L.length:=by rw [hids,List.length_map]
  rw [<-hMB,<-hids] at hw;have hw:Sat R (WrB pw h1::Own s2 3 (Zg ids)::pts p (Zh b m1 m2)::MapAt m1 MF::MapAt m2 MB::Zi fs::Zk xs::Hs) w:=by
   have h:Sat R (Own s 3 (Zg nums)::WrB pw h1::Own s2 3 (Zg ids)::pts p (Zh b m1 m2)::MapAt m1 MF::MapAt m2 MB::Zi fs::Zk xs::Hs) w:=hw.arr;exact h.drop
  refine ⟨λ i w=>∃ j:Nat,i=j/\j<=b.L.length/\Sat R (WrB pw (h1++((b.L.take j).map bkB).flatten)::Own s2 3 (Zg ids)::pts p (Zh b m1 m2)::MapAt m1 MF::MapAt m2 MB::Zi fs::Zk xs::Hs) w,
   λ i _=>b.L.length - i.toNat,⟨0,rfl,by omega,by simpa using hw⟩,?_⟩
  clear hw;rintro _ _ w ⟨j,rfl,hj,hw⟩;have hlb:=a6 j;refine Br.d (λ h=>?_) (λ h=>?_)
  ·have hj2:j<b.L.length:=by omega
   obtain ⟨x,hx⟩:∃ x,x=b.L[j]:=⟨_,rfl⟩;have hmem:x∈b.L:=by rw [hx];exact List.getElem_mem _
   have hnj:ids[j]'(by omega)=x.id:=by subst hids;rw [List.getElem_map,hx]
   obtain ⟨A,a,C,hxs,hm⟩:=ZfL hl k.ids hmem;have hgm:ZD x.id MB=some (.pointer (some ⟨a,0,none⟩)):=by rw [hMB,hxs];exact ZlZ hm
   have ke:=k.each x hmem;have x1:=ke.id;have x2:=ke.flt;have x3:=ke.cls;have x4:=ke.many;have x5:=ke.state;have x6:=ke.till;have hw2:Sat R (Own s2 3 (Zg ids)::WrB pw (h1++((b.L.take j).map bkB).flatten)::pts p (Zh b m1 m2)::MapAt m1 MF::MapAt m2 MB::Zi fs::Zk xs::Hs) w:=hw.swap;refine Own.ix hw2 (eqS hw2) j rfl (by omega) ?_;rw [hnj];refine Zd.mk rfl ⟨some m2,oA hw,?_⟩;refine ⟨some ⟨a,0,none⟩,λ w' e=>?_,?_⟩
   ·rw [show w'=w from e]
    have hm1:Sat R (MapAt m2 MB::WrB pw (h1++((b.L.take j).map bkB).flatten)::Own s2 3 (Zg ids)::pts p (Zh b m1 m2)::MapAt m1 MF::Zi fs::Zk xs::Hs) w:=hw.arr;have:=MapAt.look Zu7 hm1 x.id false;rw [hgm] at this;exact this
   clear hw2;rw [hxs] at hw;have hw:Sat R (Zk (A++(a,x)::C)::WrB pw (h1++((b.L.take j).map bkB).flatten)::Own s2 3 (Zg ids)::pts p (Zh b m1 m2)::MapAt m1 MF::MapAt m2 MB::Zi fs::Hs) w:=hw.arr;have hw:=ZcK.1 hw;have toS2:∀ {A:List HP} {R:Cx} {w:World},Sat R (pts a (Zp x)::A) w->Sat R [pts a (Zp x),VC.tru] w:=λ h=>h.restTru2;refine ZA (Sat R [pts a (Zp x),VC.tru]) hw (λ w hw=>toS2 hw) λ w hw=>?_;refine Zd.mk rfl ⟨x.flt,At.own (λ _ h=>h) (by exact ⟨rfl,trivial⟩),Zd.mk rfl ⟨x.cls,At.own (λ _ h=>h) (by exact ⟨rfl,trivial⟩),Zd.mk rfl ⟨x.many,At.own (λ _ h=>h) (by exact ⟨rfl,trivial⟩),Zd.mk rfl ⟨x.state,At.own (λ _ h=>h) (by exact ⟨rfl,trivial⟩),Zd.mk rfl ⟨x.till,At.own (λ _ h=>h) (by exact ⟨rfl,trivial⟩),?_⟩⟩⟩⟩⟩;have hw:Sat R (WrB pw (h1++((b.L.take j).map bkB).flatten)::pts a (Zp x)::Zk (A++C)::Own s2 3 (Zg ids)::pts p (Zh b m1 m2)::MapAt m1 MF::MapAt m2 MB::Zi fs::Hs) w:=hw.arr;refine Zb hw λ b103 w hw=>?_;refine (Zcs (xs:=[x.id,x.flt,x.cls,x.many,x.state,x.till]) rfl (by simp;omega) (by simp only [List.length_append,List.length_cons,List.length_nil];omega) hw).use ?_;clear hw;rintro _ w ⟨rfl,hw⟩;rw [nn6s (by omega) (by omega) (by omega) (by omega) (by omega) (by omega)] at hw;have ebs:h1++((b.L.take j).map bkB).flatten++(Zm [x.id]++(Zm [x.flt]++(Zm [x.cls]++(Zm [x.many]++(Zm [x.state]++Zm [x.till])))))=h1++((b.L.take (j + 1)).map bkB).flatten:=by
    rw [ZhR hj2,<-hx,List.append_assoc];rfl
   rw [ebs] at hw;rw [Zl (x:=(j:Int) + 1) (by omega) (by omega)];have hw:Sat R (pts a (Zp x)::Zk (A++C)::WrB pw (h1++((b.L.take (j + 1)).map bkB).flatten)::Own s2 3 (Zg ids)::pts p (Zh b m1 m2)::MapAt m1 MF::MapAt m2 MB::Zi fs::Hs) w:=hw.arr;refine ⟨rfl,toS2 hw,⟨j + 1,by omega,by omega,?_⟩,by dsimp only;omega⟩;have hw:=ZcK.2 hw;rw [<-hxs] at hw;exact hw.arr
  ·have hjf:j=b.L.length:=by omega
   rw [hjf,List.take_length] at hw;obtain ⟨t,hw⟩:=Sat.wrB.1 hw;refine ⟨t,oA hw,hK t w ?_⟩;have e:h1++(b.L.map bkB).flatten=Zc3 b:=by
    rw [hh1,hh0];unfold Zc3;simp only [List.append_assoc]
   rw [e] at hw;rw [hMF,hMB] at hw;have hw:=hw.drop;refine hw.cons λ _ h=>Sat.book.2 ⟨m1,m2,fs,xs,hl,h.drop⟩
end
section
open Go Go.VC Tryz
open Classical
variable {R:Cx} {Hs Rest:List HP} {w:World}
def Zl4 (t:Tb):Prop:=(t.cl.map Cl.id).Pairwise λ a b=>a<b
theorem Zl4.apply {t:Tb} (k:Zm9 t) (h:Zl4 t) (bs:List Int):Zl4 (t.applyT bs).2:=by
 unfold Tb.applyT;split
 ·exact h
 ·unfold Tb.askT
  split
  ·exact h
  ·split
   ·unfold Tb.beginT
    split
    ·exact h
    ·split
     ·exact h
     ·show ((t.cl++[_]).map Cl.id).Pairwise _
      rw [List.map_append,List.pairwise_append];refine ⟨h,by simp,λ x hx y hy=>?_⟩;obtain ⟨c,hc,rfl⟩:=List.mem_map.1 hx;have:=(k.each c hc).id.2;simp only [List.map_cons,List.map_nil,List.mem_singleton] at hy;omega
   ·split
    ·split
     ·exact h
     ·exact h
    ·split
     ·exact List.Pairwise.sublist (List.filter_sublist.map Cl.id) h
     ·unfold Tb.doT
      split
      ·exact h
      ·split
       ·exact h
       ·split
        ·show ((Ze6 _ t.cl).map Cl.id).Pairwise _
         rw [ZlT];exact h
        ·exact h
structure TbC (t:Tb):Prop where
 nx:1<=t.next
 each:∀ c∈t.cl,Zzk t.next c
 ids:(t.cl.map Cl.id).Nodup
 few:t.cl.length<=64
 core:Core t.bk
theorem Zm9.c {t:Tb} (k:Zm9 t):TbC t:=⟨k.nx,k.each,k.ids,k.few,k.bk.core⟩
def clB (c:Cl):List Int:=Zm ([c.id,c.tok,c.last].map nn)++ZaX c.rep
def Zce (t:Tb):List Int:=Zm ([t.next,(t.cl.length:Int)].map nn)++(t.cl.map clB).flatten++ZaX (Zc3 t.bk)
theorem nnl {l:List Int} (h:∀ x∈l,x<9223372036854775808):(Zm (l.map nn)).length<=9 * l.length:=by
 have:=ZX (l:=l.map nn) λ y hy=>by
  obtain ⟨x,hx,rfl⟩:=List.mem_map.1 hy;have:=Zo4 (h x hx);omega
 rwa [List.length_map] at this
theorem ZsM {n:Int} {c:Cl} (h:Zzk n c) (hn:n<=1099511627776):(clB c).length<=66000:=by
 have h1:=h.id;have h2:=h.tok;have h3:=h.last;have h4:=h.rep;have l1:=nnl (l:=[c.id,c.tok,c.last]) λ x hx=>by
  simp only [List.mem_cons,List.not_mem_nil,or_false] at hx;rcases hx with rfl|rfl|rfl<;>omega
 have l2:=ZaO (d:=c.rep) (by omega);simp only [List.length_cons,List.length_nil] at l1;unfold clB;rw [List.length_append];omega
theorem Zso {α:Type} {l:List α} {f:α->Int} (h:(l.map f).Nodup) {c:α} (hc:c∈l):l.find? (λ d=>f d==f c)=some c:=by
 induction l with
 |nil=>cases hc
 |cons x l ih=>
  rw [List.map_cons,List.nodup_cons] at h;rw [List.find?_cons];rcases List.mem_cons.1 hc with h1|h1
  ·subst h1
   simp
  ·have:f x≠f c:=λ e=>h.1 (List.mem_map.2 ⟨c,h1,e.symm⟩)
   rw [show (f x==f c)=false by simpa using this];exact ih h.2 h1
theorem ZoC {m:Nat} {t:Tb} {E:List SE} {K:Sl->World->Prop} (k:TbC t) (hr:Zl4 t) (hn:t.next<=1099511627776) (hE:E.map Prod.snd=t.cl) (hw:Sat R (MapAt m (E.map Za4)::Hs) w)
  (kk:∀ s w',Sat R (Own s 3 (Zg (t.cl.map Cl.id))::MapAt m (E.map Za4)::Hs) w'->K s w'):
  Calls prog 82 #[.map (some m)] w λ e w1=>∃ t:Value,e=.returned t/\Calls prog 61 #[t] w1 λ e w2=>∃ t:Sl,e=.returned (.slice t.a t.len t.cap)/\K t w2:=by
 have hk:(E.map Za4).map (·.1)=t.cl.map Cl.id:=by
  rw [<-hE,List.map_map,List.map_map];rfl
 obtain ⟨l,c,hs,hst,hp⟩:=MapAt.iff.1 hw;obtain ⟨D0,hown,hsz,hperm⟩:=Zlz hs hst (by rw [hk];exact k.ids) (λ i hi=>by
  rw [hk] at hi;obtain ⟨x,hx,rfl⟩:=List.mem_map.1 hi;have:=(k.each x hx).id;omega) (by have:=k.few;rw [<-hE,List.length_map] at this;rw [List.length_map];omega) hp.at
 refine (callsIn_wide.1 (Tryz.maps_Keys_82 (some m) w)).mono ?_;rintro _ _ ⟨rfl,rfl⟩;refine ⟨_,rfl,?_⟩;refine (callsIn_wide.1 (Tryz.slices_Sorted_keys_61_82 m _ D0 _ w hown (by unfold maxLen;omega) (by omega))).mono ?_;rintro _ w' ⟨v,ss,rfl,hS,hrow,hnil,hb⟩;have hw1:Sat R (MapAt m (E.map Za4)::Hs) (w.alloc (.cells #[.map (some m)] 126)):=(Sat.alloc _ hw).drop;obtain ⟨s,rfl,h3⟩:=Sat.ownsRow hw1 hb hrow;refine ⟨s,rfl,kk s _ ?_⟩;have e:=Zjm (List.Perm.of_eq hk) hr;rw [<-Zdd (hperm ss hS)] at e;rw [<-e];exact h3
theorem Zw9 {j:Nat} {l:List Cl} (h:j<l.length):((l.take (j + 1)).map clB).flatten=((l.take j).map clB).flatten++clB l[j]:=by
 rw [List.take_add_one,List.getElem?_eq_getElem h,List.map_append,List.flatten_append];simp
theorem ZkW {t:Tb} (k:TbC t) (hn:t.next<=1099511627776):(Zce t).length<=5000000:=by
 have knx:=k.nx;have kfew:=k.few;have a5:=ZbC (l:=t.cl) (code:=clB) (m:=66000) λ c hc=>ZsM (k.each c hc) hn;have h2:=Nat.mul_le_mul_left 66000 kfew;have l1:=nnl (l:=[t.next,(t.cl.length:Int)]) λ x hx=>by
  simp only [List.mem_cons,List.not_mem_nil,or_false] at hx;rcases hx with rfl|rfl<;>omega
 have h3:=Zfg k.core;have l5:=ZaO (d:=Zc3 t.bk) (by omega);simp only [List.length_cons,List.length_nil] at l1;unfold Zce;simp only [List.length_append];omega
set_option maxHeartbeats 2000000 in
theorem Zeg {p:Nat} {t:Tb} (k:TbC t) (hr:Zl4 t) (hn:t.next<=1099511627776) (hw:Sat R (Zds p t::Hs) w):
  Zo prog 26 #[.pointer (some ⟨p,0,none⟩)] w λ v w'=>∃ s:Sl,v=.slice s.a s.len s.cap/\Sat R (Own s 5 (b8 (Zce t))::Zds p t::Hs) w':=by
 apply ZAy
 suffices H:∀ K:Value->World->Prop,(∀ (s:Sl) w',Sat R (Own s 5 (b8 (Zce t))::Zds p t::Hs) w'->K (.slice s.a s.len s.cap) w')->B26 (some ⟨p,0,none⟩) K w from H _ λ t w' h=>⟨t,rfl,h⟩
 intro K hK;have knx:=k.nx;have kfew:=k.few;obtain ⟨m,bk,E,hE,hw⟩:=Sat.tb.1 hw;have hlE:E.length=t.cl.length:=by rw [<-hE,List.length_map]
 have hnE:(E.map λ e:SE=>e.2.id).Nodup:=by
  have:=k.ids;rw [<-hE,List.map_map] at this;exact this
 have a5:∀ j,(((t.cl.take j).map clB).flatten).length<=66000 * 64:=λ j=>by
  have:=ZbC (l:=t.cl.take j) (code:=clB) (m:=66000) λ c hc=>ZsM (k.each c (List.mem_of_mem_take hc)) hn;rw [List.length_take] at this;have h2:min j t.cl.length<=64:=by omega
  have:=Nat.mul_le_mul_left 66000 h2;omega
 have hw:Sat R (pts p (ZaR bk t.next m)::MapAt m (E.map Za4)::ZaI (E.map ZH)::Zj bk t.bk::Hs) w:=hw;have toS:∀ {A:List HP} {R:Cx} {w:World},Sat R (pts p (ZaR bk t.next m)::MapAt m (E.map Za4)::A) w->Sat R [pts p (ZaR bk t.next m),MapAt m (E.map Za4),VC.tru] w:=λ h=>h.cons λ _ h=>h.restTru2;refine ZA (Sat R [pts p (ZaR bk t.next m),MapAt m (E.map Za4),VC.tru]) hw (λ w hw=>toS hw) λ w hw=>?_;refine Zd.mk rfl ⟨t.next,At.own (λ _ h=>h) (by exact ⟨rfl,trivial⟩),Zd.mk rfl ⟨some m,At.own (λ _ h=>h) (by exact ⟨rfl,trivial⟩),((E.map Za4).length:Int),λ w' h=>MapAt.len (by kernel_rfl) h.swap,?_⟩⟩;rw [List.length_map,hlE];refine Zb hw λ b16 w hw=>⟨?_,?_⟩
 ·exact toS hw.drop
 refine (Zhf (xs:=[t.next,(t.cl.length:Int)]) rfl (λ x hx=>by
  simp only [List.mem_cons,List.not_mem_nil,or_false] at hx;rcases hx with rfl|rfl<;>omega) (by simp) hw).use ?_
 clear hw;rintro _ w ⟨s1,rfl,hw⟩;refine ⟨s1,rfl,toS hw.drop,?_⟩;obtain ⟨h0,hh0⟩:∃ h,h=Zm ([t.next,(t.cl.length:Int)].map nn):=⟨_,rfl⟩;have hl0:h0.length<=18:=by
  rw [hh0];exact nnl (l:=[t.next,(t.cl.length:Int)]) λ x hx=>by
   simp only [List.mem_cons,List.not_mem_nil,or_false] at hx;rcases hx with rfl|rfl<;>omega
 have hsv:Zce t=h0++(t.cl.map clB).flatten++ZaX (Zc3 t.bk):=by rw [hh0];rfl
 rw [<-hh0] at hw;refine Zd.mk rfl ⟨some m,oA hw,?_⟩;have hw:Sat R (MapAt m (E.map Za4)::Own s1 5 (b8 h0)::pts p (ZaR bk t.next m)::ZaI (E.map ZH)::Zj bk t.bk::Hs) w:=hw.arr;refine ZoC k hr hn hE hw ?_;clear hw;intro s w hw;obtain ⟨MC,hMC⟩:∃ M,M=E.map Za4:=⟨_,rfl⟩;obtain ⟨nums,hnums⟩:∃ n,n=t.cl.map Cl.id:=⟨_,rfl⟩;have hnl:nums.length=t.cl.length:=by rw [hnums,List.length_map]
 rw [<-hMC,<-hnums] at hw;have hsl:=Own.len hw;rw [List.length_map] at hsl;have hw:Sat R (Own s1 5 (b8 h0)::Own s 3 (Zg nums)::pts p (ZaR bk t.next m)::MapAt m MC::ZaI (E.map ZH)::Zj bk t.bk::Hs) w:=hw.arr;refine ⟨λ o i w=>∃ j:Nat,i=j/\j<=t.cl.length/\Sat R (Own o 5 (b8 (h0++((t.cl.take j).map clB).flatten))::Own s 3 (Zg nums)::pts p (ZaR bk t.next m)::MapAt m MC::ZaI (E.map ZH)::Zj bk t.bk::Hs) w,
  λ _ i _=>t.cl.length - i.toNat,⟨0,rfl,by omega,by simpa using hw⟩,?_⟩
 clear hw;rintro _ o _ w ⟨j,rfl,hj,hw⟩;have hla:=a5 j;refine Br.d (λ h=>?_) (λ h=>?_)
 ·have hj2:j<t.cl.length:=by omega
  have hjE:j<E.length:=by omega
  obtain ⟨e,he⟩:∃ e,e=E[j]:=⟨_,rfl⟩;have hec:t.cl[j]=e.2:=by
   rw [he];have:t.cl[j]? =(E.map Prod.snd)[j]?:=by rw [hE]
   rw [List.getElem?_eq_getElem hj2,List.getElem?_eq_getElem (by rw [List.length_map];omega),List.getElem_map] at this;exact Option.some.inj this
  have hem:e∈E:=by rw [he];exact List.getElem_mem _
  have hcm:e.2∈t.cl:=by rw [<-hec];exact List.getElem_mem _
  have hnj:nums[j]'(by omega)=e.2.id:=by subst hnums;rw [List.getElem_map,hec]
  have hck:=k.each _ hcm;have c1:=hck.id;have c2:=hck.tok;have c3:=hck.last;have c4:=hck.rep;obtain ⟨A,C,hAC⟩:=List.append_of_mem hem;have hgm:ZD e.2.id MC=some (.pointer (some ⟨e.1,0,none⟩)):=by
   rw [hMC,ZsJ,Zso (f:=λ e:SE=>e.2.id) hnE hem];rfl
  have hw2:Sat R (Own s 3 (Zg nums)::Own o 5 (b8 (h0++((t.cl.take j).map clB).flatten))::pts p (ZaR bk t.next m)::MapAt m MC::ZaI (E.map ZH)::Zj bk t.bk::Hs) w:=hw.swap;refine Own.ix hw2 (eqS hw2) j rfl (by omega) ?_;rw [hnj];refine Zd.mk rfl ⟨some m,oA hw,some ⟨e.1,0,none⟩,λ w' e2=>?_,?_⟩
  ·rw [show w'=w from e2]
   have hm1:Sat R (MapAt m MC::Own s 3 (Zg nums)::Own o 5 (b8 (h0++((t.cl.take j).map clB).flatten))::pts p (ZaR bk t.next m)::ZaI (E.map ZH)::Zj bk t.bk::Hs) w:=hw.arr;have:=MapAt.look Zzf hm1 e.2.id false;rw [hgm] at this;exact this
  clear hw2;obtain ⟨sr,hw⟩:∃ sr:Sl,Sat R (pts e.1 (ZU e.2 sr)::Own sr 5 (b8 e.2.rep)::ZaI (A.map ZH++C.map ZH)::Own o 5 (b8 (h0++((t.cl.take j).map clB).flatten))::Own s 3 (Zg nums)::pts p (ZaR bk t.next m)::MapAt m MC::Zj bk t.bk::Hs) w:=by
   have h3:Sat R (ZaI (E.map ZH)::Own o 5 (b8 (h0++((t.cl.take j).map clB).flatten))::Own s 3 (Zg nums)::pts p (ZaR bk t.next m)::MapAt m MC::Zj bk t.bk::Hs) w:=hw.arr;rw [hAC] at h3;exact Zd9.1 h3
  refine ZA (Sat R [pts e.1 (ZU e.2 sr),VC.tru]) hw (λ w hw=>hw.restTru2) λ w hw=>?_;refine Zd.mk rfl ⟨e.2.tok,by rw [Zz];exact At.own (λ _ h=>h) (by exact ⟨rfl,trivial⟩),Zd.mk rfl ⟨e.2.last,At.own (λ _ h=>h) (by exact ⟨rfl,trivial⟩),?_⟩⟩;refine Zb hw λ b45 w hw=>?_;have hb3:∀ x∈[e.2.id,e.2.tok,e.2.last],x<9223372036854775808:=λ x hx=>by
   simp only [List.mem_cons,List.not_mem_nil,or_false] at hx;rcases hx with rfl|rfl|rfl<;>omega
  refine (Zhf (xs:=[e.2.id,e.2.tok,e.2.last]) rfl hb3 (by simp) hw).use ?_;clear hw;rintro _ w ⟨s2,rfl,hw⟩;refine ⟨s2,rfl,hw.drop.restTru2,?_⟩;have l3:=nnl hb3;simp only [List.length_cons,List.length_nil] at l3;have hw:Sat R (Own s2 5 (b8 (Zm ([e.2.id,e.2.tok,e.2.last].map nn)))::Own o 5 (b8 (h0++((t.cl.take j).map clB).flatten))::pts e.1 (ZU e.2 sr)::Own sr 5 (b8 e.2.rep)::ZaI (A.map ZH++C.map ZH)::Own s 3 (Zg nums)::pts p (ZaR bk t.next m)::MapAt m MC::Zj bk t.bk::Hs) w:=hw.arr;refine ZAL (by rw [List.length_append];omega) hw λ o2 w hw=>?_;have hw:Sat R (pts e.1 (ZU e.2 sr)::Own sr 5 (b8 e.2.rep)::Own o2 5 (b8 (h0++((t.cl.take j).map clB).flatten++Zm ([e.2.id,e.2.tok,e.2.last].map nn)))::ZaI (A.map ZH++C.map ZH)::Own s 3 (Zg nums)::pts p (ZaR bk t.next m)::MapAt m MC::Zj bk t.bk::Hs) w:=hw.arr;refine ⟨hw.restTru2,Zd.mk rfl ⟨sr,oA hw,?_⟩⟩;obtain ⟨R2,r2,_,hw,back⟩:=Own.lend hw.swap (by rw [List.length_map];omega);refine (Zeu r2 (by omega) hw).use ?_;clear hw;rintro _ w ⟨s3,rfl,hw⟩;have hw:=back hw;have l4:=ZaO (d:=e.2.rep) (by omega);refine ⟨s3,rfl,?_⟩;have hw:Sat R (Own s3 5 (b8 (ZaX e.2.rep))::Own o2 5 (b8 (h0++((t.cl.take j).map clB).flatten++Zm ([e.2.id,e.2.tok,e.2.last].map nn)))::pts e.1 (ZU e.2 sr)::Own sr 5 (b8 e.2.rep)::ZaI (A.map ZH++C.map ZH)::Own s 3 (Zg nums)::pts p (ZaR bk t.next m)::MapAt m MC::Zj bk t.bk::Hs) w:=hw.arr;refine ZAL (by simp only [List.length_append];omega) hw λ o3 w hw=>?_;rw [Zl (x:=(j:Int) + 1) (by omega) (by omega)];refine ⟨⟨j + 1,by omega,by omega,?_⟩,by dsimp only;omega⟩;have ebs:h0++((t.cl.take j).map clB).flatten++Zm ([e.2.id,e.2.tok,e.2.last].map nn)++ZaX e.2.rep=h0++((t.cl.take (j + 1)).map clB).flatten:=by
   rw [Zw9 hj2,hec];unfold clB;simp only [List.append_assoc]
  rw [ebs] at hw;have hw:Sat R (pts e.1 (ZU e.2 sr)::Own sr 5 (b8 e.2.rep)::ZaI (A.map ZH++C.map ZH)::Own o3 5 (b8 (h0++((t.cl.take (j + 1)).map clB).flatten))::Own s 3 (Zg nums)::pts p (ZaR bk t.next m)::MapAt m MC::Zj bk t.bk::Hs) w:=hw.arr;have hw:=Zd9.2 ⟨sr,hw⟩;rw [<-hAC] at hw;exact hw.arr
 ·refine Zd.mk rfl ⟨some ⟨bk,0,none⟩,by rw [Zz];exact oA hw,?_⟩
  have hw:Sat R (Zj bk t.bk::Own o 5 (b8 (h0++((t.cl.take j).map clB).flatten))::Own s 3 (Zg nums)::pts p (ZaR bk t.next m)::MapAt m MC::ZaI (E.map ZH)::Hs) w:=hw.arr;refine (ZpF k.core hw).use ?_;clear hw;rintro _ w ⟨s4,rfl,hw⟩;have hsl4:=Zfg k.core;refine ⟨s4,rfl,?_⟩;obtain ⟨R2,r2,_,hw,back⟩:=Own.lend hw (by rw [List.length_map];omega);refine (Zeu r2 (by omega) hw).use ?_;clear hw;rintro _ w ⟨s5,rfl,hw⟩;have hw:=(back hw).drop;have l5:=ZaO (d:=Zc3 t.bk) (by omega);refine ⟨s5,rfl,?_⟩;have hw:Sat R (Own s5 5 (b8 (ZaX (Zc3 t.bk)))::Own o 5 (b8 (h0++((t.cl.take j).map clB).flatten))::Own s 3 (Zg nums)::pts p (ZaR bk t.next m)::MapAt m MC::ZaI (E.map ZH)::Zj bk t.bk::Hs) w:=hw.arr;refine ZAL (by rw [List.length_append];omega) hw λ o2 w hw=>?_;rw [List.take_of_length_le (by omega),<-hsv] at hw;rw [hMC] at hw;refine hK _ _ (hw.cons λ _ h=>Sat.tb.2 ⟨m,bk,E,hE,?_⟩);have h:=h.drop;exact h
end
end Go.Proofs.YtlplemdmegpoeaaGreatDoor


namespace Go.Proofs.YtlplemdmegpoeaaGreatDoor
section
open Go Go.VC Tryz
open Classical
variable {R:Cx} {Hs Rest:List HP} {w:World}
theorem Zg0 {t:Sl} {bs:List Int} {T:TypeId} (hl:bs.length<=9223372036854775807) (hw:Sat R Hs w) [tk:Ztu (Own t T (b8 bs)) Hs Rest]:∀ w',(λ w'=>w'=w) w'->(convert 47 9 (.slice t.a t.len t.cap)).run prog w'=.ok (.string (VC.strOf bs)) w':=λ w' e=>by
 rw [show w'=w from e]
 obtain ⟨_,q1,_,hw1,_⟩:=Own.lend (hw.perm tk.perm) (by rw [List.length_map];exact hl);exact ZfJ underlying47 underlying5 underlying9 hw1 q1
end
section
open Go Go.VC Tryz
open Classical
variable {R:Cx} {Hs Rest:List HP} {w:World}
theorem ZfY {α:Type} (one:Rd->α × Rd) (m:Nat):∀ (k:Nat) (r:Rd),(ZG one (k + m) r).1=(ZG one k r).1++(ZG one m (ZG one k r).2).1
  |0,r=>by rw [Nat.zero_add];rfl
  |k + 1,r=>by
    rw [show k + 1 + m=(k + m) + 1 by omega,Zcy,Zcy];dsimp only;rw [ZfY one m k];rfl
theorem ZdS {br r:Nat} {rd:Rd} {most:Int} (h0:0<=most) (h1:most<9223372036854775808) (hb:Zv rd.bs) (hw:Sat R (pts br (ZB r)::ZC r rd::Hs) w):
    Zo prog 228 #[.int .i64 most,.pointer (some ⟨br,0,none⟩)] w λ v w'=>v=.int .i64 (Zc most rd).1/\Sat R (pts br (ZB r)::ZC r (Zc most rd).2::Hs) w':=by
  have hv:=Zy (most:=most) hb h0;apply ZxU;refine Zd.mk rfl ⟨some ⟨r,0,none⟩,oA hw,?_⟩;rw [Zax (by omega) (by omega)];refine (Zcu (most:=most) hb hw.swap).use ?_;rintro _ w ⟨rfl,hw⟩;refine ⟨_,rfl,?_,hw.swap⟩;rw [Zl (by omega) (by omega)]
theorem ZoS {l:List Wt} {x:Wt} (hl:ZbF l) (hf:∀ y∈l,y.sc<18446744073709551616) (hn:l.length<200) (hx:x.sc<18446744073709551616):
    ((∃ h:0<l.length,0<(l[l.length - 1]'(by omega)).ord x)->¬ ZbF (l++[x]))/\
    (¬ (∃ h:0<l.length,0<(l[l.length - 1]'(by omega)).ord x)->((ZeH l x).2≠0->¬ ZbF (l++[x]))/\((ZeH l x).2=0->ZbF (l++[x])/\(ZeH l x).1=l++[x])):=by
  constructor
  · rintro ⟨h,ho⟩ hr
    have h1:=hr.last.2.2 l[l.length - 1] (List.getElem_mem _);have h2:=Zrm.1 ho;rw [ZpR h1] at h2;cases h2
  · intro hno
    unfold ZeH;by_cases hok:x.Ok
    · rw [if_neg (λ h=>h hok)]
      by_cases hid:ZgA x.id l=true
      · rw [if_pos hid]
        refine ⟨λ _ hr=>?_,λ h=>by cases h⟩;obtain ⟨y,hy,he⟩:=ZgY.1 hid;exact hr.last.2.1 y hy he
      · rw [if_neg hid,if_neg (by omega)]
        have hid:=Zsd.1 (by simpa using hid);have hall:∀ y∈l,y.ahead x=true:=by
          intro y hy;obtain ⟨i,hi,rfl⟩:=List.getElem_of_mem hy;have hl1:l[l.length - 1].ahead x=true:=by
            have h1:l[l.length - 1].id≠x.id:=hid _ (List.getElem_mem _);have h2:x.ahead l[l.length - 1]=false:=by
              cases h3:x.ahead l[l.length - 1] with
              |false=>rfl
              |true=>exact absurd ⟨by omega,Zrm.2 h3⟩ hno
            exact Zl3 (λ e=>h1 e.symm) h2
          by_cases hil:i=l.length - 1
          · subst hil;exact hl1
          · exact ZcM (Zq4 hl.st (i:=i) (j:=l.length - 1) (by omega) (by omega)) hl1
        exact ⟨λ h=>absurd rfl h,λ _=>⟨hl.snoc hok hid hall,ZnX hall⟩⟩
    · rw [if_pos hok]
      exact ⟨λ _ hr=>hok hr.last.1,λ h=>by cases h⟩
theorem ZsB {bs:List Int} {l m:List Wt} {x:Wt} (h:(Zmw bs).1=l++[x]++m) (hn:¬ ZbF (l++[x])):Zod bs=none:=by
  unfold Zod;rw [if_neg];rintro ⟨_,hq⟩;rw [h] at hq;exact hn hq.pre
set_option maxHeartbeats 2000000 in
theorem Zlc {s:Sl} {bs:List Int} (hb:Zv bs) (hl:bs.length<=1099511627776) (hs:Ro R s (b8 bs)) (hw:Sat R Hs w):
    Zo prog 159 #[.slice s.a s.len s.cap] w λ v w'=>(Zod bs=none/\v=.tuple #[.pointer none,.int .i64 6]/\Sat R Hs w')\/(∃ l q,Zod bs=some l/\v=.tuple #[.pointer (some ⟨q,0,none⟩),.int .i64 0]/\Sat R (ZF q l::Hs) w'):=by
  apply Zyv
  suffices H:∀ K:Value->World->Prop,(Zod bs=none->∀ w',Sat R Hs w'->K (.tuple #[.pointer none,.int .i64 6]) w')->(∀ l q w',Zod bs=some l->Sat R (ZF q l::Hs) w'->K (.tuple #[.pointer (some ⟨q,0,none⟩),.int .i64 0]) w')->B159 s K w from
    H _ (λ e w' h=>.inl ⟨e,rfl,h⟩) λ l q w' e h=>.inr ⟨l,q,e,rfl,h⟩
  intro K hK1 hK2;refine (Zdj hs hl hw).use ?_;clear hw;rintro _ w ⟨r,rfl,hw⟩;refine ⟨_,rfl,?_⟩;refine Zb hw λ br w hw=>?_;refine Za hw (by kernel_rfl) rfl (by simp [Value.cells]) λ w hw=>?_;have hw:=hw.re (pts br (ZB r));refine (Zk9 hw).use ?_;clear hw;rintro _ w ⟨q,rfl,hw⟩;refine ⟨_,rfl,?_⟩;have hw:Sat R (pts br (ZB r)::ZC r ⟨bs,false⟩::ZF q []::Hs) w:=hw.arr;refine (ZdS (by omega) (by omega) hb hw).use ?_;clear hw;rintro _ w ⟨rfl,hw⟩;refine ⟨_,rfl,?_⟩;have hv:=Zy (most:=200) (rd:=⟨bs,false⟩) hb (by omega);have hb0:Zv (Zc 200 ⟨bs,false⟩).2.bs:=Ze hb;obtain ⟨n,hn⟩:∃ n:Nat,(Zc 200 ⟨bs,false⟩).1=n:=⟨_,(Int.toNat_of_nonneg hv.1).symm⟩;obtain ⟨r0,hr0⟩:∃ x,x=(Zc 200 ⟨bs,false⟩).2:=⟨_,rfl⟩;have hraw:Zmw bs=ZG Zgq n r0:=by unfold Zmw;rw [hn,hr0,Int.toNat_natCast]
  rw [<-hr0] at hw hb0;rw [hn] at hv ⊢;have inv:=λ k=>Za9 (one:=Zgq) (P:=λ r=>Zv r.bs) (Q:=λ x=>x.sc<18446744073709551616) (λ r hr=>⟨Zmb hr,Zp3 hr⟩) k hb0;refine ⟨λ i w=>∃ k:Nat,i=k/\k<=n/\ZbF (ZG Zgq k r0).1/\Sat R (pts br (ZB r)::ZC r (ZG Zgq k r0).2::ZF q (ZG Zgq k r0).1::Hs) w,λ i _=>(n - i).toNat,⟨0,rfl,by omega,ZbF.nil,hw⟩,?_⟩;clear hw;rintro _ _ w ⟨k,rfl,hk,hq,hw⟩;have hi:=inv k;have hlen:=Zbl Zgq k r0;have hsn:=ZbQ Zgq k r0;refine Br.d (λ h=>?_) (λ h=>?_)
  · have hkn:k<n:=by omega
    have hadd:(Zmw bs).1=(ZG Zgq (k + 1) r0).1++(ZG Zgq (n - (k + 1)) (ZG Zgq (k + 1) r0).2).1:=by
      rw [hraw,<-ZfY,show k + 1 + (n - (k + 1))=n by omega]
    obtain ⟨l,hll⟩:∃ l,l=(ZG Zgq k r0).1:=⟨_,rfl⟩;obtain ⟨rd,hrd⟩:∃ rd,rd=(ZG Zgq k r0).2:=⟨_,rfl⟩;rw [<-hll] at hq hw hi hlen hsn;rw [<-hrd] at hw hi hsn;have hb1:=hi.2;refine (ZdS (by omega) (by omega) hb1 hw).use ?_;clear hw;rintro _ w ⟨rfl,hw⟩;have hb2:Zv (Zc 28629151 rd).2.bs:=Ze hb1;refine ⟨_,rfl,(ZdS (by omega) (by omega) hb2 hw).use ?_⟩;clear hw;rintro _ w ⟨rfl,hw⟩;have hb3:Zv (Zc 7 (Zc 28629151 rd).2).2.bs:=Ze hb2;refine ⟨_,rfl,(ZdS (by omega) (by omega) hb3 hw).use ?_⟩;clear hw;rintro _ w ⟨rfl,hw⟩;have hb4:Zv (Zc 600 (Zc 7 (Zc 28629151 rd).2).2).2.bs:=Ze hb3;refine ⟨_,rfl,(ZdS (by omega) (by omega) hb4 hw).use ?_⟩;clear hw;rintro _ w ⟨rfl,hw⟩;have hb5:Zv (Zc 1099511627776 (Zc 600 (Zc 7 (Zc 28629151 rd).2).2).2).2.bs:=Ze hb4;refine ⟨_,rfl,?_⟩;refine Zb hw λ bw w hw=>?_;refine Za hw (by kernel_rfl) rfl (by simp [Value.cells]) λ w hw=>?_;obtain ⟨x,hx⟩:∃ x,x=(Zgq rd).1:=⟨_,rfl⟩;obtain ⟨rd',hrd'⟩:∃ x,x=(Zgq rd).2:=⟨_,rfl⟩;have hw:Sat R (wtD bw { x with sc:=0 }::pts br (ZB r)::ZC r (Zc 1099511627776 (Zc 600 (Zc 7 (Zc 28629151 rd).2).2).2).2::ZF q l::Hs) w:=by rw [hx];exact hw
    refine ⟨some ⟨r,0,none⟩,oA hw,?_⟩;have hw:Sat R (ZC r (Zc 1099511627776 (Zc 600 (Zc 7 (Zc 28629151 rd).2).2).2).2::wtD bw { x with sc:=0 }::pts br (ZB r)::ZF q l::Hs) w:=hw.arr;have hv5:=Zy (most:=18446744073709551615) hb5 (by omega);refine (Zcu (most:=18446744073709551615) hb5 hw).use ?_;clear hw;rintro _ w ⟨rfl,hw⟩;refine ⟨_,rfl,?_⟩;obtain ⟨u,hu⟩:∃ u:Nat,(Zc 18446744073709551615 (Zc 1099511627776 (Zc 600 (Zc 7 (Zc 28629151 rd).2).2).2).2).1=u:=⟨_,(Int.toNat_of_nonneg hv5.1).symm⟩;have hxs:x.sc=ofF u:=by
      rw [hx];show ofF (Zc 18446744073709551615 (Zc 1099511627776 (Zc 600 (Zc 7 (Zc 28629151 rd).2).2).2).2).1.toNat=_;rw [hu,Int.toNat_natCast]
    rw [hu] at hv5 ⊢;refine (Zrr (by omega) hw).use ?_;clear hw;rintro _ w ⟨rfl,hw⟩;refine ⟨_,rfl,?_⟩;have hw:Sat R (wtD bw { x with sc:=0 }::ZC r rd'::pts br (ZB r)::ZF q l::Hs) w:=by rw [hrd'];exact hw.swap
    refine Za hw (by kernel_rfl) rfl (by simp [Value.cells,wtV]) λ w hw=>?_;rw [<-hxs] at hw;have hw:=hw.re (wtD bw x);have hsn:ZG Zgq (k + 1) r0=(l++[x],rd'):=by rw [hsn,hx,hrd']
    rw [hsn] at hadd;have hxf:x.sc<18446744073709551616:=by rw [hx];exact Zmb hb1
    obtain ⟨st1,st2⟩:=ZoS (x:=x) hq hi.1 (by omega) hxf;have hqok:QOk l:=⟨hq.st,hq.ids,hq.ok,hi.1,by omega⟩;have w1:IntKind.i64.wrap ((k:Int) + 1)=(k:Int) + 1:=Zl (by omega) (by omega);have hw:Sat R (ZF q l::wtD bw x::ZC r rd'::pts br (ZB r)::Hs) w:=hw.arr;obtain ⟨s1,hw⟩:=Sat.qu.1 hw;have hsl:=ZP.len hw.swap;rw [List.length_map] at hsl;refine Zd.mk rfl ⟨s1,oA hw,?_⟩;have fin:¬ (∃ h:0<l.length,0<(l[l.length - 1]'(by omega)).ord x)->∀ {w:World} {S:World->Prop},(∀ w,S w)->Sat R (ZF q l::wtD bw x::ZC r rd'::pts br (ZB r)::Hs) w->
        ∃ t53:Int,∃ t53_1:Int,∃ t53_2:Int,∃ t53_3:Int,∃ t53_4:Nat,(At (λ w'=>w'=w) ⟨bw,0,none⟩ [.int .i64 t53,.int .i64 t53_1,.int .i64 t53_2,.int .i64 t53_3,.float .f64 t53_4])/\
        Calls prog 102 #[.pointer (some ⟨q,0,none⟩),.agg #[.int .i64 t53,.int .i64 t53_1,.int .i64 t53_2,.int .i64 t53_3,.float .f64 t53_4]] w λ e_10 w_18=>
        ∃ t54:Int,(e_10=.returned (.int .i64 t54))/\
        (S w_18)/\
        Br (t54 !=0)
         (K (.tuple #[.pointer none,.int .i64 6]) w_18)
         ((∃ k':Nat,IntKind.i64.wrap ((k:Int) + 1)=k'/\k'<=n/\ZbF (ZG Zgq k' r0).1/\Sat R (pts br (ZB r)::ZC r (ZG Zgq k' r0).2::ZF q (ZG Zgq k' r0).1::Hs) w_18)/\((n:Int) - IntKind.i64.wrap ((k:Int) + 1)).toNat<((n:Int) - k).toNat):=λ hno {w S} hS hw=>by
      refine ⟨x.id,x.cls,x.many,x.time,x.sc,At.own (eqS hw) (by exact ⟨rfl,rfl,rfl,rfl,rfl,trivial⟩),?_⟩;refine (Zld hqok hw).use ?_;clear hw;rintro _ w ⟨rfl,hw⟩;obtain ⟨a1,a2⟩:=st2 hno;refine ⟨_,rfl,hS _,Br.ne (λ h0=>hK1 (ZsB hadd (a1 h0)) _ hw.drop.drop.drop.drop) (λ h0=>?_)⟩;obtain ⟨b1,b2⟩:=a2 h0;rw [b2] at hw;rw [w1];refine ⟨⟨k + 1,by omega,by omega,?_,?_⟩,by omega⟩
      · rw [hsn];exact b1
      · rw [hsn]
        have hw:Sat R (wtD bw x::pts br (ZB r)::ZC r rd'::ZF q (l++[x])::Hs) w:=hw.arr;exact hw.drop
    refine ZA (λ _=>True) hw (λ _ _=>trivial) λ w hw=>?_;refine Br.d (λ hpos=>?_) (λ hpos=>fin (λ⟨h,_⟩=>by omega) (λ _=>trivial) (Sat.qu.2 ⟨s1,hw⟩));have hlp:0<l.length:=by omega
    refine Zd.mk rfl ⟨s1,oA hw,?_⟩;rw [Zl (x:=(s1.len:Int) - 1) (by omega) (by omega),show (s1.len:Int) - 1=((l.length - 1:Nat):Int) by omega];have hw2:=hw.swap;refine (ZP.reads hw2 (S:=λ w'=>w'=w) (λ w' e=>by rw [e];exact hw2)).rngM (E:=l) (g:=wtV) (k:=l.length - 1) (by omega) λ a _ he=>?_;refine ⟨_,_,_,_,_,he.z (by exact ⟨rfl,rfl,rfl,rfl,rfl,trivial⟩),x.id,x.cls,x.many,x.time,x.sc,At.own (eqS hw) (by exact ⟨rfl,rfl,rfl,rfl,rfl,trivial⟩),?_⟩;refine (ZiN (a:=l[l.length - 1]) (b:=x) hw).use ?_;clear hw hw2;rintro _ w ⟨rfl,hw⟩;refine ⟨_,rfl,trivial,Br.d (λ ho=>?_) (λ ho=>?_)⟩
    · exact hK1 (ZsB hadd (st1 ⟨hlp,by omega⟩)) _ hw.drop.drop.drop.drop.drop
    · exact fin (λ⟨_,h2⟩=>by omega) (λ _=>trivial) (Sat.qu.2 ⟨s1,hw⟩)
  · have hkn:k=n:=by omega
    subst hkn;rw [<-hraw] at hw hq;refine ⟨some ⟨r,0,none⟩,oA hw,?_⟩;refine (ZbK hw.swap).use ?_;clear hw;rintro _ w ⟨rfl,hw⟩;refine ⟨_,rfl,Br.nb (λ h0=>?_) (λ h0=>?_)⟩
    · refine hK1 ?_ _ hw.drop.drop.drop
      unfold Zod;rw [if_neg (λ h=>by rw [h.1] at h0;cases h0)]
    · refine hK2 (Zmw bs).1 q _ ?_ hw.drop.drop
      unfold Zod;rw [if_pos ⟨h0,hq⟩]
end
section
open Go Go.VC Tryz
open Classical
variable {R:Cx} {Hs Rest:List HP} {w:World}
abbrev bxC (b a:Nat):HP:=pts b (.cells [.pointer (some ⟨a,0,none⟩)].toArray 86 (0,0))
theorem Zsa {bx a:Nat} {x:Bk} {y:Wt} (hw:Sat R (bxC bx a::pts a (Zp x)::Hs) w):
  Zo prog 231 #[wtA y,.pointer (some ⟨bx,0,none⟩)] w λ v w'=>v=.bool (decide (y.id=x.id/\y.cls=x.cls/\y.many=x.many))/\Sat R (bxC bx a::pts a (Zp x)::Hs) w':=by
 apply ZxR;refine Zb hw λ b w hw=>?_;have hw:Sat R (wtD b y::bxC bx a::pts a (Zp x)::Hs) w:=hw;refine Zu hw λ w hw=>?_;refine ⟨y.id,oS,Zd.mk rfl ⟨some ⟨a,0,none⟩,oS,Zd.mk rfl ⟨x.id,oS,Br.e (λ h1=>?_) (λ h1=>⟨?_,hw.drop⟩)⟩⟩⟩
 ·refine ⟨y.cls,oS,Zd.mk rfl ⟨some ⟨a,0,none⟩,oS,Zd.mk rfl ⟨x.cls,oS,Br.e (λ h2=>?_) (λ h2=>⟨?_,hw.drop⟩)⟩⟩⟩
  ·refine ⟨y.many,oS,Zd.mk rfl ⟨some ⟨a,0,none⟩,oS,Zd.mk rfl ⟨x.many,oS,?_,hw.drop⟩⟩⟩
   congr 1
   rw [Bool.eq_iff_iff,beq_iff_eq,decide_eq_true_iff];exact ⟨λ h3=>⟨h1,h2,h3⟩,λ h=>h.2.2⟩
  ·rw [decide_eq_false (λ h=>h2 h.2.1)]
 ·rw [decide_eq_false (λ h=>h1 h.1)]
theorem Zsb {bx a:Nat} {x:Bk} {y:ZJ} {t:Sl} (hw:Sat R (bxC bx a::pts a (Zp x)::Hs) w):
  Zo prog 233 #[.agg (ZqN y t).toArray,.pointer (some ⟨bx,0,none⟩)] w λ v w'=>v=.bool (decide (y.owner=x.id/\y.cls=x.cls/\y.many=x.many))/\Sat R (bxC bx a::pts a (Zp x)::Hs) w':=by
 apply ZxP;refine Zb hw λ b w hw=>?_;have hw:Sat R (pts b (.cells (ZqN y t).toArray 197 (0,0))::bxC bx a::pts a (Zp x)::Hs) w:=hw;refine Zu hw λ w hw=>?_;refine ⟨y.owner,oS,Zd.mk rfl ⟨some ⟨a,0,none⟩,oS,Zd.mk rfl ⟨x.id,oS,Br.e (λ h1=>?_) (λ h1=>⟨?_,hw.drop⟩)⟩⟩⟩
 ·refine ⟨y.cls,oS,Zd.mk rfl ⟨some ⟨a,0,none⟩,oS,Zd.mk rfl ⟨x.cls,oS,Br.e (λ h2=>?_) (λ h2=>⟨?_,hw.drop⟩)⟩⟩⟩
  ·refine ⟨y.many,oS,Zd.mk rfl ⟨some ⟨a,0,none⟩,oS,Zd.mk rfl ⟨x.many,oS,?_,hw.drop⟩⟩⟩
   congr 1
   rw [Bool.eq_iff_iff,beq_iff_eq,decide_eq_true_iff];exact ⟨λ h3=>⟨h1,h2,h3⟩,λ h=>h.2.2⟩
  ·rw [decide_eq_false (λ h=>h2 h.2.1)]
 ·rw [decide_eq_false (λ h=>h1 h.1)]
theorem ZuQ {s:Sl} {T:TypeId} {l:List Wt} {f:Value} {p:Wt->Bool} (hl:l.length<=1000000000)
  (hf:∀ x w,Sat R (ZP 5 s T (l.map wtV)::Hs) w->Zak prog cl f [wtA x] w λ e w'=>e=.returned (.bool (p x))/\Sat R (ZP 5 s T (l.map wtV)::Hs) w')
  (hw:Sat R (ZP 5 s T (l.map wtV)::Hs) w):
  Zo prog 230 #[.slice s.a s.len s.cap,f] w λ v w'=>v=.bool (l.any p)/\Sat R (ZP 5 s T (l.map wtV)::Hs) w':=by
 have hlen:=ZP.len hw;rw [List.length_map] at hlen;apply ZxS;have h1:Zo prog 274 #[.slice s.a s.len s.cap,f] w λ v w'=>(∃ i:Int,v=.int .i64 i/\decide (i >= 0)=l.any p)/\Sat R (ZP 5 s T (l.map wtV)::Hs) w':=by
  apply Zxs;refine ⟨λ i w=>∃ j:Nat,i=j/\j<=l.length/\(l.take j).any p=false/\Sat R (ZP 5 s T (l.map wtV)::Hs) w,λ i _=>l.length - i.toNat,⟨0,rfl,by omega,by simp,hw⟩,?_⟩;clear hw;rintro _ _ w ⟨j,rfl,hj,hn,hw⟩;refine Br.d (λ h=>?_) (λ h=>?_)
  ·have hj2:j<l.length:=by omega
   refine (ZP.reads hw (eqS hw)).rngM (E:=l) (g:=wtV) hj2 λ a _ he=>?_;refine ⟨_,_,_,_,_,he.z (by exact ⟨rfl,rfl,rfl,rfl,rfl,trivial⟩),?_⟩;refine (hf l[j] _ hw).mono ?_;rintro _ w ⟨rfl,hw⟩;refine ⟨_,rfl,Br.mk (λ h=>⟨⟨j,rfl,?_⟩,hw⟩) (λ h=>?_)⟩
   ·rw [decide_eq_true (by omega)]
    exact (List.any_eq_true.2 ⟨_,List.getElem_mem hj2,h⟩).symm
   rw [Zl (by omega) (by omega)];refine ⟨⟨j + 1,by omega,by omega,?_,hw⟩,by dsimp only;omega⟩;rw [List.take_add_one,List.getElem?_eq_getElem hj2,List.any_append,hn];simp [h]
  ·rw [List.take_of_length_le (by omega)] at hn
   exact ⟨⟨-1,rfl,by rw [hn];rfl⟩,hw⟩
 refine h1.use ?_;clear hw;rintro _ w ⟨⟨i,rfl,hi⟩,hw⟩;exact ⟨i,rfl,by rw [hi],hw⟩
theorem ZuR {s:Sl} {L:List ZJ} {ts:List Sl} {f:Value} {p:ZJ->Bool} (hl:L.length<=1000000000) (hr:HsR R s L ts)
  (hf:∀ x t w,Sat R Hs w->Zak prog cl f [.agg (ZqN x t).toArray] w λ e w'=>e=.returned (.bool (p x))/\Sat R Hs w') (hw:Sat R Hs w):
  Zo prog 232 #[.slice s.a s.len s.cap,f] w λ v w'=>v=.bool (L.any p)/\Sat R Hs w':=by
 have hlen:s.len=L.length:=by rw [hr.rows.len,ZdQ hr.len]
 have htl:=hr.len;apply ZxQ;have h1:Zo prog 275 #[.slice s.a s.len s.cap,f] w λ v w'=>(∃ i:Int,v=.int .i64 i/\decide (i >= 0)=L.any p)/\Sat R Hs w':=by
  apply Zxr;refine ⟨λ i w=>∃ j:Nat,i=j/\j<=L.length/\(L.take j).any p=false/\Sat R Hs w,λ i _=>L.length - i.toNat,⟨0,rfl,by omega,by simp,hw⟩,?_⟩;clear hw;rintro _ _ w ⟨j,rfl,hj,hn,hw⟩;refine Br.d (λ h=>?_) (λ h=>?_)
  ·have hj2:j<L.length:=by omega
   refine hr.row (eqS hw) hj2 (by omega) λ a he=>?_;refine ⟨L[j].owner,L[j].cls,L[j].many,ts[j]'(by omega),he,?_⟩;refine (hf L[j] (ts[j]'(by omega)) _ hw).mono ?_;rintro _ w ⟨rfl,hw⟩;refine ⟨_,rfl,Br.mk (λ h=>⟨⟨j,rfl,?_⟩,hw⟩) (λ h=>?_)⟩
   ·rw [decide_eq_true (by omega)]
    exact (List.any_eq_true.2 ⟨_,List.getElem_mem hj2,h⟩).symm
   rw [Zl (by omega) (by omega)];refine ⟨⟨j + 1,by omega,by omega,?_,hw⟩,by dsimp only;omega⟩;rw [List.take_add_one,List.getElem?_eq_getElem hj2,List.any_append,hn];simp [h]
  ·rw [List.take_of_length_le (by omega)] at hn
   exact ⟨⟨-1,rfl,by rw [hn];rfl⟩,hw⟩
 refine h1.use ?_;clear hw;rintro _ w ⟨⟨i,rfl,hi⟩,hw⟩;exact ⟨i,rfl,by rw [hi],hw⟩
set_option maxHeartbeats 1000000 in
theorem Zs4 {f q a:Nat} {pl:Pl} {x:Bk} (g:ZaK pl.r) (hq:pl.q.length<=200) (hh:pl.r.L.length<=1000000) (hw:Sat R (pts a (Zp x)::Zf f pl.r::ZF q pl.q::Hs) w):
  Zo prog 162 #[.agg #[.pointer (some ⟨f,0,none⟩),.pointer (some ⟨q,0,none⟩)],.pointer (some ⟨a,0,none⟩)] w λ v w'=>v=.bool (decide (Zic pl x))/\Sat R (pts a (Zp x)::Zf f pl.r::ZF q pl.q::Hs) w':=by
 apply ZsS
 suffices H:∀ K:Value->World->Prop,(∀ w',Sat R (pts a (Zp x)::Zf f pl.r::ZF q pl.q::Hs) w'->K (.bool (decide (Zic pl x))) w')->B162 (some ⟨f,0,none⟩) (some ⟨q,0,none⟩) (some ⟨a,0,none⟩) K w from H _ λ w' h=>⟨rfl,h⟩
 intro K hK;refine Zb hw λ b2 w hw=>Zb hw λ bx w hw=>?_;have hw:Sat R (bxC bx a::pts a (Zp x)::fqC b2 f q::Zf f pl.r::ZF q pl.q::Hs) w:=by
  have h:Sat R (bxC bx a::fqC b2 f q::pts a (Zp x)::Zf f pl.r::ZF q pl.q::Hs) w:=hw;exact h.arr
 have fin:∀ {w},Sat R (bxC bx a::pts a (Zp x)::fqC b2 f q::Zf f pl.r::ZF q pl.q::Hs) w->K (.bool (decide (Zic pl x))) w:=λ hw=>hK _ (hw.drop.cons λ _ h=>h.drop);refine ⟨some ⟨f,0,none⟩,oA hw,Br.f rfl ?_⟩;refine ⟨some ⟨a,0,none⟩,oA hw,Zd.mk rfl ⟨x.state,oA hw,Br.e (λ h3=>?_) (λ h3=>?_)⟩⟩
 ·have hdef:Zic pl x↔(∃ w∈pl.q,w.id=x.id/\w.cls=x.cls/\w.many=x.many)/\x.cls<pl.r.lims.length:=by unfold Zic;rw [if_pos h3]
  have toS:∀ {A:List HP} {R:Cx} {w:World},Sat R (bxC bx a::pts a (Zp x)::fqC b2 f q::A) w->Sat R [bxC bx a,pts a (Zp x),fqC b2 f q,VC.tru] w:=λ h=>h.cons λ _ h=>h.cons λ _ h=>h.restTru2;refine ZA (Sat R [bxC bx a,pts a (Zp x),fqC b2 f q,VC.tru]) hw (λ w hw=>toS hw) λ w hw=>?_;refine ⟨some ⟨a,0,none⟩,At.own (λ _ h=>h) (by exact ⟨rfl,trivial⟩),Zd.mk rfl ⟨x.cls,At.own (λ _ h=>h) (by exact ⟨rfl,trivial⟩),some ⟨f,0,none⟩,At.own (λ _ h=>h) (by exact ⟨rfl,trivial⟩),?_⟩⟩;have hw:Sat R (Zf f pl.r::bxC bx a::pts a (Zp x)::fqC b2 f q::ZF q pl.q::Hs) w:=hw.arr;refine (Zb8 hw).use ?_;clear hw;rintro _ w ⟨sl,rfl,hw⟩;have hlen:=Own.len hw;rw [List.length_map,ZdW] at hlen;have hw:Sat R (bxC bx a::pts a (Zp x)::fqC b2 f q::Zf f pl.r::ZF q pl.q::Hs) w:=by
   have h:=hw.drop;exact h.arr
  refine ⟨sl,rfl,toS hw,Br.d (λ hc=>?_) (λ hc=>?_)⟩
  ·refine ⟨some ⟨q,0,none⟩,At.own (λ _ h=>h) (by exact ⟨rfl,trivial⟩),?_⟩
   have hw:Sat R (ZF q pl.q::bxC bx a::pts a (Zp x)::fqC b2 f q::Zf f pl.r::Hs) w:=hw.arr;refine (Zhu (by omega) hw).use ?_;clear hw;rintro _ w ⟨t,rfl,hw⟩;refine ⟨t,rfl,toS (hw.arr (Hs':=bxC bx a::pts a (Zp x)::fqC b2 f q::ZP 5 t 168 (pl.q.map wtV)::ZF q pl.q::Zf f pl.r::Hs)),?_⟩;have hw:Sat R (ZP 5 t 168 (pl.q.map wtV)::bxC bx a::pts a (Zp x)::fqC b2 f q::Zf f pl.r::ZF q pl.q::Hs) w:=hw.arr;refine (ZuQ (p:=λ y=>decide (y.id=x.id/\y.cls=x.cls/\y.many=x.many)) (by omega) (λ y w hw=>Zak.mk (by kernel_rfl) ?_) hw).use ?_
   ·have hw:Sat R (bxC bx a::pts a (Zp x)::ZP 5 t 168 (pl.q.map wtV)::fqC b2 f q::Zf f pl.r::ZF q pl.q::Hs) w:=hw.arr
    exact (Zsa hw).use λ v w' h=>⟨by rw [h.1],h.2.arr⟩
   clear hw;rintro _ w ⟨rfl,hw⟩;refine ⟨_,rfl,toS (hw.arr (Hs':=bxC bx a::pts a (Zp x)::fqC b2 f q::ZP 5 t 168 (pl.q.map wtV)::Zf f pl.r::ZF q pl.q::Hs)),?_⟩;have e:(pl.q.any λ y=>decide (y.id=x.id/\y.cls=x.cls/\y.many=x.many))=decide (Zic pl x):=by
    rw [Bool.eq_iff_iff,decide_eq_true_iff,hdef,List.any_eq_true];constructor
    ·rintro ⟨y,hy,h⟩
     exact ⟨⟨y,hy,of_decide_eq_true h⟩,by omega⟩
    ·rintro ⟨⟨y,hy,h⟩,_⟩
     exact ⟨y,hy,decide_eq_true h⟩
   rw [e];exact fin hw.drop
  ·have:=fin hw
   rw [decide_eq_false (λ h=>by have:=(hdef.1 h).2;omega)] at this;exact this
 ·have hdef:Zic pl x↔∃ h∈pl.r.L,h.owner=x.id/\h.cls=x.cls/\h.many=x.many:=by unfold Zic;rw [if_neg h3]
  refine ⟨some ⟨f,0,none⟩,oA hw,?_⟩;have hw:Sat R (Zf f pl.r::bxC bx a::pts a (Zp x)::fqC b2 f q::ZF q pl.q::Hs) w:=hw.arr;refine (ZiU hw).use ?_;clear hw;rintro _ w ⟨t,rfl,hw⟩;refine ⟨t,rfl,?_⟩;obtain ⟨R1,ts,e1,hr,hw⟩:=ZaU.leak hw;have hw:Sat R1 (bxC bx a::pts a (Zp x)::fqC b2 f q::Zf f pl.r::ZF q pl.q::Hs) w:=hw.arr;refine (ZuR (p:=λ y=>decide (y.owner=x.id/\y.cls=x.cls/\y.many=x.many)) (by omega) hr (λ y t w hw=>Zak.mk (by kernel_rfl) ((Zsb hw).use λ v w' h=>⟨by rw [h.1],h.2⟩)) hw).use ?_;clear hw;rintro _ w ⟨rfl,hw⟩;refine ⟨_,rfl,?_⟩;have e:(pl.r.L.any λ y=>decide (y.owner=x.id/\y.cls=x.cls/\y.many=x.many))=decide (Zic pl x):=by
   rw [Bool.eq_iff_iff,decide_eq_true_iff,hdef,List.any_eq_true];constructor
   ·rintro ⟨y,hy,h⟩
    exact ⟨y,hy,of_decide_eq_true h⟩
   ·rintro ⟨y,hy,h⟩
    exact ⟨y,hy,decide_eq_true h⟩
  rw [e];exact fin (e1.back hw)
theorem Zs5 {v:Option Addr} {a:Nat} {x:Bk} (hw:Sat R (pts a (Zp x)::Hs) w):
  Zo prog 162 #[.agg #[.pointer none,.pointer v],.pointer (some ⟨a,0,none⟩)] w λ v w'=>v=.bool false/\Sat R (pts a (Zp x)::Hs) w':=by
 apply ZsS;refine Zb hw λ b2 w hw=>Zb hw λ bx w hw=>?_;have hw:Sat R (bxC bx a::plC b2 none v::pts a (Zp x)::Hs) w:=hw;exact ⟨none,oA hw,Br.t rfl ⟨rfl,hw.drop.drop⟩⟩
end
section
open Go Go.VC Tryz
open Classical
theorem ZtV (rd:Rd):Zb5 0 rd=some ([],rd):=rfl
theorem ZtW {m:Nat} {rd:Rd} {p:Pl} (h:(ZiM rd).1=some p):Zb5 (m + 1) rd=(Zb5 m (ZiM rd).2).map λ y=>(p::y.1,y.2):=by
 show (match (ZiM rd).1 with|none=>none|some p=>(Zb5 m (ZiM rd).2).map λ x:List Pl × Rd=>(p::x.1,x.2))=_
 rw [h]
theorem ZtX {m:Nat} {rd:Rd} (h:(ZiM rd).1=none):Zb5 (m + 1) rd=none:=by
 show (match (ZiM rd).1 with|none=>none|some p=>(Zb5 m (ZiM rd).2).map λ x:List Pl × Rd=>(p::x.1,x.2))=_
 rw [h]
def Zp0 (n:Nat) (r0:Rd) (j:Nat) (rd:Rd) (pls:List Pl):Prop:=Zb5 n r0=(Zb5 (n - j) rd).map λ y=>(pls++y.1,y.2)
theorem Zrf {n:Nat} {r0:Rd}:Zp0 n r0 0 r0 []:=by
 unfold Zp0;rw [Nat.sub_zero];cases Zb5 n r0<;>rfl
theorem Zrg {n j:Nat} {r0 rd:Rd} {pls:List Pl} {p:Pl} (h:Zp0 n r0 j rd pls) (hj:j<n) (hp:(ZiM rd).1=some p):Zp0 n r0 (j + 1) (ZiM rd).2 (pls++[p]):=by
 unfold Zp0 at h ⊢;rw [h,show n - j=(n - (j + 1)) + 1 by omega,ZtW hp];cases Zb5 (n - (j + 1)) (ZiM rd).2 with
 |none=>rfl
 |some y=>simp
theorem Zle {n j:Nat} {r0 rd:Rd} {pls:List Pl} (h:Zp0 n r0 j rd pls) (hj:j<n) (hp:(ZiM rd).1=none):Zb5 n r0=none:=by
 unfold Zp0 at h;rw [h,show n - j=(n - (j + 1)) + 1 by omega,ZtX hp];rfl
theorem ZtZ {n:Nat} {r0 rd:Rd} {pls:List Pl} (h:Zp0 n r0 n rd pls):Zb5 n r0=some (pls,rd):=by
 unfold Zp0 at h;rw [h,Nat.sub_self,ZtV];simp
theorem ZtY {n j:Nat} {r0 rd:Rd} {pls:List Pl} {y:List Pl × Rd} (h:Zp0 n r0 j rd pls) (hy:Zb5 n r0=some y):∃ m,y.1=pls++m:=by
 unfold Zp0 at h;rw [hy] at h;cases hz:Zb5 (n - j) rd with
 |none=>rw [hz] at h;cases h
 |some z=>
  rw [hz] at h;simp only [Option.map_some,Option.some.injEq] at h;exact ⟨z.1,by rw [h]⟩
def ZdL (bs:List Int):Int × Rd:=Zc 1099511627776 ⟨bs,false⟩
def ZbI (bs:List Int):Int × Rd:=Zc 28629151 (ZdL bs).2
def Zbd (bs:List Int):Int × Rd:=Zc 8 (ZbI bs).2
def ZjS (r1:Rd):List Bk × Rd:=ZG Zl0 (Zc 300 r1).1.toNat (Zc 300 r1).2
theorem ZqW {bs:List Int}:ZAV bs=match Zb5 (Zbd bs).1.toNat (Zbd bs).2 with
  |none=>none
  |some y=>some (⟨(ZdL bs).1,(ZbI bs).1,y.1,(ZjS y.2).1⟩,(ZjS y.2).2):=rfl
theorem Zun {bs:List Int} (h:Zb5 (Zbd bs).1.toNat (Zbd bs).2=none):ZcE bs=none:=by
 unfold ZcE;rw [ZqW,h]
theorem Zum {bs:List Int} (h:∀ y,Zb5 (Zbd bs).1.toNat (Zbd bs).2=some y->¬ Zav Pl.n y.1):ZcE bs=none:=by
 unfold ZcE;rw [ZqW];cases hy:Zb5 (Zbd bs).1.toNat (Zbd bs).2 with
 |none=>rfl
 |some y=>
  dsimp only;rw [if_neg (λ hm=>h y hy hm.2.nums)]
theorem ZrM {bs:List Int} {pls:List Pl} {r1:Rd} (h:Zb5 (Zbd bs).1.toNat (Zbd bs).2=some (pls,r1)):
  ZcE bs=if Z5 (ZjS r1).2=true/\Zy7 ⟨(ZdL bs).1,(ZbI bs).1,pls,(ZjS r1).1⟩ then some ⟨(ZdL bs).1,(ZbI bs).1,pls,(ZjS r1).1⟩ else none:=by
 unfold ZcE;rw [ZqW,h]
def ZmL (pls:List Pl):Int:=(pls.getLast?.map Pl.n).getD 0
theorem Zph (pls:List Pl) (p:Pl):ZmL (pls++[p])=p.n:=by simp [ZmL]
theorem Zhm {α:Type} {k:α->Int} {l:List α} {x:α} (h:Zav k l) (hx:x∈l):∃ y,l.getLast? =some y/\k x<=k y:=by
 have hne:l≠[]:=by rintro rfl;cases hx
 refine ⟨l.getLast hne,List.getLast?_eq_some_getLast hne,?_⟩;obtain ⟨m,y,rfl⟩:∃ m y,l=m++[y]:=⟨l.dropLast,l.getLast hne,(List.dropLast_concat_getLast hne).symm⟩;rw [List.getLast_concat];rcases List.mem_append.1 hx with h1|h1
 ·have:=(List.pairwise_append.1 h).2.2 x h1 y (by simp)
  omega
 ·rw [List.mem_singleton.1 h1];omega
theorem Zud {pls:List Pl} {p:Pl} (h:Zav Pl.n pls) (hp:1<=p.n):(ZmL pls<p.n->Zav Pl.n (pls++[p]))/\(¬ ZmL pls<p.n->∀ m,¬ Zav Pl.n (pls++[p]++m)):=by
 constructor
 ·intro hl
  refine Zf9 h λ y hy=>?_;obtain ⟨z,hz,hle⟩:=Zhm h hy;unfold ZmL at hl;rw [hz] at hl;simp at hl;omega
 ·intro hl m hr
  unfold ZmL at hl;cases hz:pls.getLast? with
  |none=>rw [hz] at hl;simp at hl;omega
  |some z=>
   rw [hz] at hl;simp at hl;have h1:=(List.pairwise_append.1 (List.pairwise_append.1 hr).1).2.2 z (List.mem_of_getLast? hz) p (by simp);omega
theorem Zs1 {r:Rd} (hb:Zv r.bs):Zv (Zl0 r).2.bs:=Ze (Ze (Ze (Ze (Ze (Ze hb)))))
structure BkIn (x:Bk):Prop where
 id:0<=x.id/\x.id<=28629151
 flt:0<=x.flt/\x.flt<=9999
 cls:0<=x.cls/\x.cls<=9999
 many:0<=x.many/\x.many<=9999
 state:0<=x.state/\x.state<=3
 till:0<=x.till/\x.till<=1099511627776
theorem Zs0 {r:Rd} (hb:Zv r.bs):BkIn (Zl0 r).1:=
 ⟨Zy hb (by omega),Zy (Ze hb) (by omega),Zy (Ze (Ze hb)) (by omega),Zy (Ze (Ze (Ze hb))) (by omega),Zy (Ze (Ze (Ze (Ze hb)))) (by omega),Zy (Ze (Ze (Ze (Ze (Ze hb))))) (by omega)⟩
def ZjT (L:List Bk):Int:=(L.getLast?.map Bk.id).getD 0
theorem Zpi (L:List Bk) (x:Bk):ZjT (L++[x])=x.id:=by simp [ZjT]
structure Chk (b:ZR) (L:List Bk) (x:Bk):Prop where
 last:ZjT L<x.id
 next:x.id<b.next
 state:1<=x.state
 held:x.state=1↔b.now<x.till
 free:x.state=1\/x.till=0
 has:∃ p,b.at x.flt=some p/\Zic p x
theorem Zxd {b:ZR} {L:List Bk} {x:Bk} (h:Chk b L x) (hr:Zav Bk.id L) (hL:∀ y∈L,1<=y.id):Zy8 b x/\Zav Bk.id (L++[x]):=by
 have h0:0<=ZjT L:=by
  unfold ZjT;cases hz:L.getLast? with
  |none=>simp
  |some z=>have:=hL z (List.mem_of_getLast? hz);simp;omega
 refine ⟨⟨⟨by have:=h.last;omega,h.next⟩,h.state,h.held.1,λ hs=>h.free.resolve_left hs,h.has⟩,Zf9 hr λ y hy=>?_⟩;obtain ⟨z,hz,hle⟩:=Zhm hr hy;have hl:=h.last;unfold ZjT at hl;rw [hz] at hl;simp at hl;omega
theorem Zz0 {b:ZR} {L m:List Bk} {x:Bk} (h:Zy7 { b with L:=L++[x]++m }) (hn:0<=b.now):Chk b L x:=by
 have hx:=h.each x (by simp);have hid:=hx.id;refine ⟨?_,hid.2,hx.state,⟨hx.held,λ ht=>?_⟩,?_,hx.has⟩
 ·unfold ZjT
  cases hz:L.getLast? with
  |none=>simp;omega
  |some z=>
   have h1:=(List.pairwise_append.1 (List.pairwise_append.1 h.ids).1).2.2 z (List.mem_of_getLast? hz) x (by simp);simp;omega
 ·by_cases hs:x.state=1
  ·exact hs
  ·have:=hx.free hs;omega
 ·by_cases hs:x.state=1
  ·exact .inl hs
  ·exact .inr (hx.free hs)
theorem Zul {bs:List Int} {pls:List Pl} {r1:Rd} {L m:List Bk} {x:Bk} (h:Zb5 (Zbd bs).1.toNat (Zbd bs).2=some (pls,r1)) (hb:(ZjS r1).1=L++[x]++m) (hn:0<=(ZdL bs).1)
  (hc:¬ Chk ⟨(ZdL bs).1,(ZbI bs).1,pls,[]⟩ L x):ZcE bs=none:=by
 rw [ZrM h,if_neg];rintro ⟨_,hm⟩;rw [hb] at hm;exact hc (Zz0 (b:=⟨(ZdL bs).1,(ZbI bs).1,pls,[]⟩) hm hn)
end
section
open Go Go.VC Tryz
open Classical
variable {R:Cx} {Hs Rest:List HP} {w:World}
abbrev ldB (b p:Nat):HP:=pts b (.cells [.pointer (some ⟨p,0,none⟩)].toArray 25 (0,0))
abbrev ldE (b:Nat):HP:=pts b (.cells [.int .i64 0].toArray 29 (0,0))
abbrev ldR (b r:Nat):HP:=pts b (.cells [.pointer (some ⟨r,0,none⟩)].toArray 216 (0,0))
abbrev LdK (b2 e3:Nat) (K:Value->World->Prop) (w:World):Prop:=
 ∃ u:Option Addr,(At (λ w'=>w'=w) ⟨b2,0,none⟩ [.pointer u])/\∃ u_1:Int,(At (λ w'=>w'=w) ⟨e3,0,none⟩ [.int .i64 u_1])/\K (.tuple #[.pointer u,.int .i64 u_1]) w
theorem ZrL {b2 e3 p:Nat} {K:Value->World->Prop} (hw:Sat R (ldB b2 p::ldE e3::Hs) w) (k:∀ w',Sat R Hs w'->K (.tuple #[.pointer none,.int .i64 6]) w'):
  Zs prog 155 [.pointer (some ⟨b2,0,none⟩),.pointer (some ⟨e3,0,none⟩)] (.panicking (ZgB 6)) (LdK b2 e3 K) w:=by
 unfold Zs;refine CallsD.mono (ZuW (some ⟨b2,0,none⟩) (some ⟨e3,0,none⟩) (.iface 29 (.int .i64 6)) (LdK b2 e3 K) w ?_) ?_
 ·refine ⟨true,λ w' _=>by kernel_rfl,Br.t rfl ?_⟩
  refine ZA (λ _=>True) hw (λ _ _=>trivial) λ w hw=>?_;refine ⟨6,λ w' _=>by kernel_rfl,?_⟩;refine Za hw (by kernel_rfl) rfl (by simp [Value.cells]) λ w hw=>⟨trivial,?_⟩;have hw:Sat R (pts b2 (.cells [.pointer none].toArray 25 (0,0))::ldE e3::Hs) w:=hw;refine Za hw (by kernel_rfl) rfl (by simp [Value.cells]) λ w hw=>?_;have hw:Sat R (pts e3 (.cells [.int .i64 6].toArray 29 (0,0))::pts b2 (.cells [.pointer none].toArray 25 (0,0))::Hs) w:=hw;exact ⟨none,oA hw,6,oA hw,k w hw.drop.drop⟩
 ·rintro e v w' ⟨hy,rfl,hk⟩
  exact ⟨hy,rfl,hk⟩
theorem Zuk {b2 e3 p:Nat} {K:Value->World->Prop} (hw:Sat R (ldB b2 p::ldE e3::Hs) w) (k:K (.tuple #[.pointer (some ⟨p,0,none⟩),.int .i64 0]) w):
  Zs prog 155 [.pointer (some ⟨b2,0,none⟩),.pointer (some ⟨e3,0,none⟩)] .returning (LdK b2 e3 K) w:=by
 unfold Zs;refine CallsD.mono (ZuU (some ⟨b2,0,none⟩) (some ⟨e3,0,none⟩) (LdK b2 e3 K) w ?_) ?_
 ·exact ⟨false,λ w' _=>by kernel_rfl,Br.f rfl ⟨_,oA hw,0,oA hw,k⟩⟩
 ·rintro e v w' ⟨hy,rfl,hk⟩
  exact ⟨hy,rfl,hk⟩
theorem Zd3 {b:Bool} {Q:Ending->World->Prop} (h1:b=true->Q (.returned (.tuple #[])) w) (h2:b=false->Q (.panicked (ZgB 6)) w):Calls prog 156 #[.bool b] w Q:=by
 have h:ZaV prog 156 #[.bool b] w (λ ch w'=>b=false/\ch=ZgB 6/\w'=w) (λ v w'=>b=true/\v=.tuple #[]/\w'=w):=by
  apply Zyy;exact ZbH (λ h=>.inl ⟨rfl,h,rfl,rfl⟩) (λ h=>.inr ⟨_,rfl,h,rfl,rfl⟩)
 refine h.use ?_ ?_
 ·rintro v w' ⟨hb,rfl,e⟩;rw [e];exact h1 hb
 ·rintro v w' ⟨hb,rfl,e⟩;rw [e];exact h2 hb
theorem Zf8 {b4 r:Nat} {rd:Rd} (hb:Zv rd.bs) (hw:Sat R (ZC r rd::ldR b4 r::Hs) w):
  Zo prog 161 #[.pointer (some ⟨b4,0,none⟩)] w λ v w'=>v=.int .i64 (Zc 9999 rd).1/\Sat R (ZC r (Zc 9999 rd).2::ldR b4 r::Hs) w':=by
 apply Zyt;refine Zd.mk rfl ⟨some ⟨r,0,none⟩,oA hw,?_⟩;refine (Zao hb (by omega) (by omega) hw).use ?_;rintro _ w ⟨rfl,hw⟩;exact ⟨_,rfl,rfl,hw⟩
theorem ZmF {s:Sl} {T:TypeId} {bs:List Int} (hb:Zv bs) (hl:bs.length<=1099511627776) (hw:Sat R (Own s T (b8 bs)::Hs) w):
  Zo prog 158 #[.slice s.a s.len s.cap] w λ v w'=>(ZuK bs=none/\v=.tuple #[.pointer none,.int .i64 6]/\Sat R Hs w')\/
   (∃ r p,ZuK bs=some r/\ZaK r/\v=.tuple #[.pointer (some ⟨p,0,none⟩),.int .i64 0]/\Sat R (Zf p r::Hs) w'):=by
 obtain ⟨R1,e1,g1,hw⟩:=Own.leak hw;refine (ZlP hb (g1.ro (by rw [List.length_map];omega)) hl hw).mono ?_;rintro v w' h;rcases Zw5 hb with ⟨d1,d2⟩|⟨f,d1,d2,d3,d4,d5⟩
 ·have hn:ZuK bs=none:=by unfold ZuK;rw [if_neg d2]
  rcases h with ⟨_,rfl,hw⟩|⟨f,p,hf,_,_⟩
  ·exact .inl ⟨hn,rfl,e1.back hw⟩
  ·rw [d1] at hf;cases hf
 ·have hs:ZuK bs=some (ZiG bs).rf:=by unfold ZuK;rw [if_pos ⟨d2,d3⟩]
  rcases h with ⟨hf,_,_⟩|⟨f',p,hf,rfl,hw⟩
  ·rw [d1] at hf;cases hf
  ·rw [d1] at hf
   obtain rfl:=Option.some.inj hf;exact .inr ⟨_,p,hs,d5,rfl,Sat.lone.2 ⟨f,⟨d4,d5⟩,e1.back hw⟩⟩
theorem Zgx {s:Sl} {T:TypeId} {bs:List Int} (hb:Zv bs) (hl:bs.length<=1099511627776) (hw:Sat R (Own s T (b8 bs)::Hs) w):
  Zo prog 159 #[.slice s.a s.len s.cap] w λ v w'=>(Zod bs=none/\v=.tuple #[.pointer none,.int .i64 6]/\Sat R Hs w')\/
   (∃ l q,Zod bs=some l/\QOk l/\v=.tuple #[.pointer (some ⟨q,0,none⟩),.int .i64 0]/\Sat R (ZF q l::Hs) w'):=by
 obtain ⟨R1,e1,g1,hw⟩:=Own.leak hw;refine (Zlc hb hl (g1.ro (by rw [List.length_map];omega)) hw).mono ?_;rintro v w' (⟨h1,rfl,hw⟩|⟨l,q,h1,rfl,hw⟩)
 ·exact .inl ⟨h1,rfl,e1.back hw⟩
 ·refine .inr ⟨l,q,h1,?_,rfl,e1.back hw⟩
  unfold Zod at h1;split at h1
  ·rename_i h
   obtain rfl:=Option.some.inj h1;exact h.ok hb
  ·cases h1
theorem ZaU.len {s:Sl} {L:List ZJ} (hw:Sat R (ZaU s L::Hs) w):s.len=L.length:=by
 obtain ⟨_,ts,_,hr,_⟩:=ZaU.leak hw;rw [hr.rows.len,ZdQ hr.len]
theorem Zjz {k:Int} {v:Value} {es:List (Int × Value)} (h:∀ e∈es,e.1≠k):Zci k v es=es++[(k,v)]:=by
 unfold Zci;rw [Zd0.2 h];rfl
end
section
open Go Go.VC Tryz
open Classical
variable {R:Cx} {Hs Rest:List HP} {w:World}
theorem Zmy (rd:Rd):ZiM rd=(Zpx (ZL 65536 rd).1 (ZL 65536 (ZL 65536 rd).2).1,(ZL 65536 (ZL 65536 rd).2).2):=rfl
theorem Zg7 (l:List Pl) (p:Pl):things (l++[p])=things l + (p.r.L.length + p.q.length):=by
 unfold things;rw [List.map_append,List.sum_append];simp
theorem Zuz {fs:List FE} {pls:List Pl} {p:Pl} (h:fs.map (λ e=>e.2.2)=pls) (hr:Zav Pl.n (pls++[p])):∀ e∈fs.map flV,e.1≠p.n:=by
 intro e he;obtain ⟨x,hx,rfl⟩:=List.mem_map.1 he;have h1:x.2.2∈pls:=by rw [<-h];exact List.mem_map.2 ⟨x,hx,rfl⟩
 have:=(List.pairwise_append.1 hr).2.2 _ h1 p (by simp);show x.2.2.n≠p.n;omega
theorem Zu1 {xs:List BE} {L:List Bk} {x:Bk} (h:xs.map (λ e=>e.2)=L) (hr:Zav Bk.id (L++[x])):∀ e∈xs.map bkV,e.1≠x.id:=by
 intro e he;obtain ⟨y,hy,rfl⟩:=List.mem_map.1 he;have h1:y.2∈L:=by rw [<-h];exact List.mem_map.2 ⟨y,hy,rfl⟩
 have:=(List.pairwise_append.1 hr).2.2 _ h1 x (by simp);show y.2.id≠x.id;omega
structure LdI (n:Nat) (r0:Rd) (j:Nat) (rd:Rd) (pls:List Pl) (fs:List FE):Prop where
 pre:Zp0 n r0 j rd pls
 rise:Zav Pl.n pls
 ok:∀ p∈pls,ZaK p.r/\QOk p.q
 fl:fs.map (λ e=>e.2.2)=pls
 bytes:Zv rd.bs
 len:rd.bs.length<=1099511627776
 few:things pls<=1000 * pls.length/\pls.length=j
structure LbI (b:ZR) (r2:Rd) (k:Nat) (L:List Bk) (rd:Rd) (xs:List BE):Prop where
 pre:ZG Zl0 k r2=(L,rd)
 rise:Zav Bk.id L
 may:∀ x∈L,Zy8 b x
 bk:xs.map (λ e=>e.2)=L
 bytes:Zv rd.bs
set_option maxHeartbeats 8000000 in
theorem ZpH {s:Sl} {bs:List Int} (hb:Zv bs) (hl:bs.length<=1099511627776) (hs:Ro R s (b8 bs)) (hw:Sat R Hs w):
  Zo prog 95 #[.slice s.a s.len s.cap] w λ v w'=>(ZcE bs=none/\v=.tuple #[.pointer none,.int .i64 6]/\Sat R Hs w')\/
   (∃ b p,ZcE bs=some b/\(∀ x∈b.fl,ZaK x.r/\QOk x.q)/\v=.tuple #[.pointer (some ⟨p,0,none⟩),.int .i64 0]/\Sat R (Zj p b::Hs) w'):=by
 apply Zz5
 suffices H:∀ K:Value->World->Prop,(ZcE bs=none->∀ w',Sat R Hs w'->K (.tuple #[.pointer none,.int .i64 6]) w')->(∀ b p w',ZcE bs=some b->(∀ x∈b.fl,ZaK x.r/\QOk x.q)->Sat R (Zj p b::Hs) w'->K (.tuple #[.pointer (some ⟨p,0,none⟩),.int .i64 0]) w')->B95 s K w from
  H _ (λ e w' h=>.inl ⟨e,rfl,h⟩) λ b p w' e h h2=>.inr ⟨b,p,e,h,rfl,h2⟩
 intro K hK1 hK2;refine Zb hw λ b2 w hw=>Zb hw λ e3 w hw=>?_;refine (Zdj hs hl hw).use ?_;clear hw;rintro _ w ⟨r,rfl,hw⟩;refine .inl ⟨_,rfl,?_⟩;refine Zb hw λ b4 w hw=>?_;refine Za hw (by kernel_rfl) rfl (by simp [Value.cells]) λ w hw=>?_;refine (ZlY hw).use ?_;clear hw;rintro _ w ⟨p,rfl,hw⟩;refine .inl ⟨_,rfl,?_⟩;have hw:Sat R (Zj p Z3::ldR b4 r::ZC r ⟨bs,false⟩::ldE e3::pts b2 (.cells [.pointer none].toArray 25 (0,0))::Hs) w:=hw;have hw:Sat R (pts b2 (.cells [.pointer none].toArray 25 (0,0))::Zj p Z3::ldR b4 r::ZC r ⟨bs,false⟩::ldE e3::Hs) w:=hw.arr;refine Za hw (by kernel_rfl) rfl (by simp [Value.cells]) λ w hw=>?_;have hw:Sat R (ldB b2 p::Zj p Z3::ldR b4 r::ZC r ⟨bs,false⟩::ldE e3::Hs) w:=hw;have hw:Sat R (Zj p Z3::ZC r ⟨bs,false⟩::ldB b2 p::ldR b4 r::ldE e3::Hs) w:=hw.arr;obtain ⟨m1,m2,fs,xs,hl0,hw⟩:=Sat.book.1 hw;obtain rfl:xs=[]:=List.map_eq_nil_iff.1 hl0.bk;obtain rfl:fs=[]:=by have:=Zn6 hl0;exact List.length_eq_zero_iff.1 this
 have toS:∀ {A:List HP} {R:Cx} {w:World},Sat R (ldB b2 p::ldR b4 r::A) w->Sat R [ldB b2 p,ldR b4 r,VC.tru] w:=λ h=>h.cons λ _ h=>h.restTru2;have hw:Sat R (ZC r ⟨bs,false⟩::ldB b2 p::ldR b4 r::ldE e3::pts p (Zh Z3 m1 m2)::MapAt m1 (([]:List FE).map flV)::MapAt m2 (([]:List BE).map bkV)::Zi []::Zk []::Hs) w:=hw.arr;refine ZA (Sat R [ldB b2 p,ldR b4 r,VC.tru]) hw (λ w hw=>toS hw.drop) λ w hw=>?_;refine ⟨some ⟨p,0,none⟩,At.own (λ _ h=>h) (by exact ⟨rfl,trivial⟩),some ⟨p,0,none⟩,At.own (λ _ h=>h) (by exact ⟨rfl,trivial⟩),some ⟨r,0,none⟩,At.own (λ _ h=>h) (by exact ⟨rfl,trivial⟩),some ⟨r,0,none⟩,At.own (λ _ h=>h) (by exact ⟨rfl,trivial⟩),?_⟩;have v1:0<=(ZdL bs).1/\(ZdL bs).1<=1099511627776:=Zy hb (by omega);have hb1:Zv (ZdL bs).2.bs:=Ze hb;have l1:(ZdL bs).2.bs.length<=1099511627776:=Nat.le_trans Z4 hl;refine (Zao (most:=1099511627776) hb (by omega) (by omega) hw).use ?_;clear hw;rintro _ w ⟨rfl,hw⟩;have hw:Sat R (ZC r (ZdL bs).2::ldB b2 p::ldR b4 r::ldE e3::pts p (Zh Z3 m1 m2)::MapAt m1 (([]:List FE).map flV)::MapAt m2 (([]:List BE).map bkV)::Zi []::Zk []::Hs) w:=hw;refine .inl ⟨(ZdL bs).1,rfl,toS hw.drop,?_⟩;have v2:0<=(ZbI bs).1/\(ZbI bs).1<=28629151:=Zy hb1 (by omega);have hb2:Zv (ZbI bs).2.bs:=Ze hb1;have l2:(ZbI bs).2.bs.length<=1099511627776:=Nat.le_trans Z4 l1;refine (Zao (most:=28629151) hb1 (by omega) (by omega) hw).use ?_;clear hw;rintro _ w ⟨rfl,hw⟩;have hw:Sat R (pts p (Zh Z3 m1 m2)::ZC r (ZbI bs).2::ldB b2 p::ldR b4 r::ldE e3::MapAt m1 (([]:List FE).map flV)::MapAt m2 (([]:List BE).map bkV)::Zi []::Zk []::Hs) w:=by
  have h:Sat R (ZC r (ZbI bs).2::ldB b2 p::ldR b4 r::ldE e3::pts p (Zh Z3 m1 m2)::MapAt m1 (([]:List FE).map flV)::MapAt m2 (([]:List BE).map bkV)::Zi []::Zk []::Hs) w:=hw;exact h.arr
 refine .inl ⟨(ZbI bs).1,rfl,toS hw.drop.drop,Zd.mk rfl ?_⟩;rw [Zz];refine Za hw (by kernel_rfl) rfl (by simp [Value.cells]) λ w hw=>?_;have hw:=hw.re (pts p (Zh ⟨(ZdL bs).1,1,[],[]⟩ m1 m2));refine ⟨toS hw.drop.drop,Zd.mk rfl ?_⟩;refine Za hw (by kernel_rfl) rfl (by simp [Value.cells]) λ w hw=>?_;have hw:=hw.re (pts p (Zh ⟨(ZdL bs).1,(ZbI bs).1,[],[]⟩ m1 m2));obtain ⟨b0,hb0⟩:∃ b0:ZR,b0=⟨(ZdL bs).1,(ZbI bs).1,[],[]⟩:=⟨_,rfl⟩;rw [<-hb0] at hw;have hw:Sat R (ZC r (ZbI bs).2::ldR b4 r::ldB b2 p::ldE e3::pts p (Zh b0 m1 m2)::MapAt m1 (([]:List FE).map flV)::MapAt m2 (([]:List BE).map bkV)::Zi []::Zk []::Hs) w:=hw.arr;refine ⟨some ⟨r,0,none⟩,oA hw,?_⟩;have v3:0<=(Zbd bs).1/\(Zbd bs).1<=8:=Zy hb2 (by omega);have hb3:Zv (Zbd bs).2.bs:=Ze hb2;have l3:(Zbd bs).2.bs.length<=1099511627776:=Nat.le_trans Z4 l2;refine (Zao (most:=8) hb2 (by omega) (by omega) hw).use ?_;clear hw;rintro _ w ⟨rfl,hw⟩;have hw:Sat R (ZC r (Zbd bs).2::ldR b4 r::ldB b2 p::ldE e3::pts p (Zh b0 m1 m2)::MapAt m1 (([]:List FE).map flV)::MapAt m2 (([]:List BE).map bkV)::Zi []::Zk []::Hs) w:=hw;refine .inl ⟨(Zbd bs).1,rfl,?_⟩;obtain ⟨n,hn⟩:∃ n:Nat,(Zbd bs).1=n:=⟨_,(Int.toNat_of_nonneg v3.1).symm⟩;obtain ⟨r0,hr0⟩:∃ x,x=(Zbd bs).2:=⟨_,rfl⟩;have hnt:(Zbd bs).1.toNat=n:=by rw [hn,Int.toNat_natCast]
 rw [<-hr0] at hw hb3 l3;rw [hn] at v3 ⊢;have no0:Zb5 n r0=none->ZcE bs=none:=λ h=>Zun (by rw [hnt,<-hr0];exact h);have no1:(∀ y,Zb5 n r0=some y->¬ Zav Pl.n y.1)->ZcE bs=none:=λ h=>Zum (by rw [hnt,<-hr0];exact h);have bad:∀ {w:World} {A:List HP},ZcE bs=none->(∀ w',Sat R A w'->Sat R Hs w')->Sat R (ldB b2 p::ldE e3::A) w->Zs prog 155 [.pointer (some ⟨b2,0,none⟩),.pointer (some ⟨e3,0,none⟩)] (.panicking (ZgB 6)) (LdK b2 e3 K) w:=λ {w A} h0 hA hw=>ZrL hw λ w' h=>hK1 h0 w' (hA w' h);refine ⟨λ last things i w=>∃ (j:Nat) (rd:Rd) (pls:List Pl) (fs:List FE),i=j/\j<=n/\LdI n r0 j rd pls fs/\last=ZmL pls/\things=(Go.Proofs.YtlplemdmegpoeaaGreatDoor.things pls:Nat)/\
  Sat R (ZC r rd::ldR b4 r::ldB b2 p::ldE e3::pts p (Zh b0 m1 m2)::MapAt m1 (fs.map flV)::MapAt m2 (([]:List BE).map bkV)::Zi fs::Zk []::Hs) w,λ _ _ i _=>(n - i).toNat,
  ⟨0,r0,[],[],rfl,by omega,⟨Zrf,List.Pairwise.nil,λ _ h=>(by cases h),rfl,hb3,l3,by simp [things]⟩,rfl,rfl,hw⟩,?_⟩
 clear hw;rintro _ _ _ _ w ⟨j,rd,pls,fs,rfl,hj,ld,rfl,rfl,hw⟩;refine Br.d (λ h=>?_) (λ h=>?_)
 ·have hjn:j<n:=by omega
  have tl1:=ZbP (most:=65536) (rd:=rd);have tb1:=Zcx (most:=65536) (rd:=rd) ld.bytes;have tl2:=ZbP (most:=65536) (rd:=(ZL 65536 rd).2);have tb2:=Zcx (most:=65536) (rd:=(ZL 65536 rd).2) tb1.2;have hld:=ld.len;refine ⟨some ⟨r,0,none⟩,oA hw,?_⟩;refine (ZbO (most:=65536) (by omega) hld ld.bytes hw).use ?_;clear hw;rintro _ w ⟨t1,rfl,hw⟩;refine .inl ⟨t1,rfl,?_⟩;refine (ZmF tb1.1 (by omega) hw).use ?_;clear hw;have w1:IntKind.i64.wrap ((j:Int) + 1)=(j:Int) + 1:=Zl (by omega) (by omega);rintro _ w (⟨d1,rfl,hw⟩|⟨rr,f,d1,gd,rfl,hw⟩)
  ·-- no flight
   refine .inl ⟨none,6,rfl,some ⟨r,0,none⟩,oA hw,?_⟩;refine (ZbO (most:=65536) (by omega) (by omega) tb1.2 hw).use ?_;clear hw;rintro _ w ⟨t2,rfl,hw⟩;refine .inl ⟨t2,rfl,?_⟩;have hno:(ZiM rd).1=none:=by rw [Zmy];unfold Zpx;rw [d1]
   have hload:=no0 (Zle ld.pre hjn hno);refine (Zgx tb2.1 (by omega) hw).use ?_;clear hw;rintro v0 w hq;obtain ⟨v,c,A,rfl,hA,hw⟩:∃ (v:Option Addr) (c:Int) (A:List HP),v0=Value.tuple #[.pointer v,.int .i64 c]/\(∀ w',Sat R A w'->Sat R Hs w')/\Sat R (ldB b2 p::ldE e3::A) w:=by
    rcases hq with ⟨_,rfl,hw⟩|⟨l,q,_,_,rfl,hw⟩
    ·refine ⟨none,6,ZC r (ZL 65536 (ZL 65536 rd).2).2::ldR b4 r::pts p (Zh b0 m1 m2)::MapAt m1 (fs.map flV)::MapAt m2 (([]:List BE).map bkV)::Zi fs::Zk []::Hs,rfl,λ _ h=>h.drop.drop.drop.drop.drop.drop.drop,hw.arr⟩
    ·refine ⟨some ⟨q,0,none⟩,0,ZF q l::ZC r (ZL 65536 (ZL 65536 rd).2).2::ldR b4 r::pts p (Zh b0 m1 m2)::MapAt m1 (fs.map flV)::MapAt m2 (([]:List BE).map bkV)::Zi fs::Zk []::Hs,rfl,λ _ h=>h.drop.drop.drop.drop.drop.drop.drop.drop,hw.arr⟩
   refine .inl ⟨v,c,rfl,λ _=>False,Br.e (λ h=>by omega) (λ _=>Zd3 (λ h=>by cases h) (λ _=>.inr ⟨_,rfl,bad hload hA hw⟩)),λ _ _ h=>h.elim⟩
  ·refine .inl ⟨some ⟨f,0,none⟩,0,rfl,some ⟨r,0,none⟩,oA hw,?_⟩
   refine (ZbO (most:=65536) (by omega) (by omega) tb1.2 hw.swap).use ?_;clear hw;rintro _ w ⟨t2,rfl,hw⟩;refine .inl ⟨t2,rfl,?_⟩;refine (Zgx tb2.1 (by omega) hw).use ?_;clear hw;rintro _ w (⟨d2,rfl,hw⟩|⟨l,q,d2,qok,rfl,hw⟩)
   ·have hno:(ZiM rd).1=none:=by rw [Zmy];unfold Zpx;rw [d1,d2]
    have hload:=no0 (Zle ld.pre hjn hno);have hw:Sat R (ldB b2 p::ldE e3::ZC r (ZL 65536 (ZL 65536 rd).2).2::Zf f rr::ldR b4 r::pts p (Zh b0 m1 m2)::MapAt m1 (fs.map flV)::MapAt m2 (([]:List BE).map bkV)::Zi fs::Zk []::Hs) w:=hw.arr;refine .inl ⟨none,6,rfl,λ _=>False,Br.e (λ _=>Br.e (λ h=>by omega) (λ _=>Zd3 (λ h=>by cases h) (λ _=>.inr ⟨_,rfl,bad hload (λ _ h=>h.drop.drop.drop.drop.drop.drop.drop.drop) hw⟩))) (λ h=>absurd rfl h),λ _ _ h=>h.elim⟩
   ·have hsome:(ZiM rd).1=some ⟨rr,l⟩:=by rw [Zmy];unfold Zpx;rw [d1,d2]
    have hpre:=Zrg ld.pre hjn hsome;obtain ⟨st1,st2⟩:=Zud (p:=⟨rr,l⟩) ld.rise gd.num.1;have hrd':(ZiM rd).2=(ZL 65536 (ZL 65536 rd).2).2:=rfl;rw [hrd'] at hpre;obtain ⟨rd2,hrd2⟩:∃ x,x=(ZL 65536 (ZL 65536 rd).2).2:=⟨_,rfl⟩;rw [<-hrd2] at hw hpre tl2 tb2;have hw:Sat R (Zf f rr::ZF q l::ZC r rd2::ldR b4 r::ldB b2 p::ldE e3::pts p (Zh b0 m1 m2)::MapAt m1 (fs.map flV)::MapAt m2 (([]:List BE).map bkV)::Zi fs::Zk []::Hs) w:=hw.arr;refine .inl ⟨some ⟨q,0,none⟩,0,rfl,λ w=>Zav Pl.n (pls++[⟨rr,l⟩])/\Sat R (Zf f rr::ZF q l::ZC r rd2::ldR b4 r::ldB b2 p::ldE e3::pts p (Zh b0 m1 m2)::MapAt m1 (fs.map flV)::MapAt m2 (([]:List BE).map bkV)::Zi fs::Zk []::Hs) w,?_,?_⟩
    ·refine Br.e (λ _=>Br.e (λ _=>?_) (λ h=>absurd rfl h)) (λ h=>absurd rfl h)
     refine (ZhE hw).use ?_;clear hw;rintro _ w ⟨rfl,hw⟩;refine .inl ⟨_,rfl,Zd3 (λ hgt=>.inl ⟨rfl,st1 (of_decide_eq_true hgt),hw⟩) (λ hgt=>.inr ⟨_,rfl,?_⟩)⟩;have hload:ZcE bs=none:=no1 λ y hy=>by
      obtain ⟨m,hm⟩:=ZtY hpre hy;rw [hm];exact st2 (of_decide_eq_false hgt) m
     have hw:Sat R (ldB b2 p::ldE e3::Zf f rr::ZF q l::ZC r rd2::ldR b4 r::pts p (Zh b0 m1 m2)::MapAt m1 (fs.map flV)::MapAt m2 (([]:List BE).map bkV)::Zi fs::Zk []::Hs) w:=hw.arr;exact bad hload (λ _ h=>h.drop.drop.drop.drop.drop.drop.drop.drop.drop) hw
    clear hw;rintro _ w ⟨hrise,hw⟩;refine (ZhE hw).use ?_;clear hw;rintro _ w ⟨rfl,hw⟩;refine .inl ⟨rr.num,rfl,some ⟨p,0,none⟩,oA hw,Zd.mk rfl ⟨some m1,oA hw,?_⟩⟩;have hw:Sat R (MapAt m1 (fs.map flV)::Zf f rr::ZF q l::ZC r rd2::ldR b4 r::ldB b2 p::ldE e3::pts p (Zh b0 m1 m2)::MapAt m2 (([]:List BE).map bkV)::Zi fs::Zk []::Hs) w:=hw.arr;refine MapAt.put Ztq hw rr.num (.agg #[.pointer (some ⟨f,0,none⟩),.pointer (some ⟨q,0,none⟩)]) λ w hw=>?_;rw [Zjz (Zuz (p:=⟨rr,l⟩) ld.fl hrise)] at hw;have hmap:fs.map flV++[(rr.num,Value.agg #[.pointer (some ⟨f,0,none⟩),.pointer (some ⟨q,0,none⟩)])]=(fs++[((f,q,⟨rr,l⟩):FE)]).map flV:=by rw [List.map_append];rfl
    rw [hmap] at hw;refine (ZiU hw.swap).use ?_;clear hw;rintro _ w ⟨th,rfl,hw⟩;have hth:=ZaU.len hw;refine .inl ⟨th,rfl,?_⟩;have hw:=hw.drop;have hw:Sat R (ZF q l::Zf f rr::MapAt m1 ((fs++[((f,q,⟨rr,l⟩):FE)]).map flV)::ZC r rd2::ldR b4 r::ldB b2 p::ldE e3::pts p (Zh b0 m1 m2)::MapAt m2 (([]:List BE).map bkV)::Zi fs::Zk []::Hs) w:=hw.arr;have hql:=qok.len;refine (Zhu (by omega) hw).use ?_;clear hw;rintro _ w ⟨ta,rfl,hw⟩;have hta:=ZP.len hw;rw [List.length_map] at hta;have hw:=hw.drop;have hw:Sat R (Zf f rr::ZF q l::Zi fs::ZC r rd2::ldR b4 r::ldB b2 p::ldE e3::pts p (Zh b0 m1 m2)::MapAt m1 ((fs++[((f,q,⟨rr,l⟩):FE)]).map flV)::MapAt m2 (([]:List BE).map bkV)::Zk []::Hs) w:=hw.arr;have hw:=Zi.snoc (p:=⟨rr,l⟩) hw;have hw:Sat R (ZC r rd2::ldR b4 r::ldB b2 p::ldE e3::pts p (Zh b0 m1 m2)::MapAt m1 ((fs++[((f,q,⟨rr,l⟩):FE)]).map flV)::MapAt m2 (([]:List BE).map bkV)::Zi (fs++[((f,q,⟨rr,l⟩):FE)])::Zk []::Hs) w:=hw.arr;have hll:=gd.len.1;obtain ⟨hf1,hf2⟩:=ld.few;have w2:IntKind.i64.wrap ((th.len:Int) + (ta.len:Int))=((rr.L.length + l.length:Nat):Int):=by rw [Zl (by omega) (by omega)];omega
    have w3:IntKind.i64.wrap (((things pls:Nat):Int) + ((rr.L.length + l.length:Nat):Int))=((things (pls++[⟨rr,l⟩]):Nat):Int):=by rw [Zl (by omega) (by omega),Zg7];simp
    refine .inl ⟨ta,rfl,?_⟩;rw [w2,w3,w1];refine ⟨⟨j + 1,rd2,pls++[⟨rr,l⟩],fs++[(f,q,⟨rr,l⟩)],by omega,by omega,⟨hpre,hrise,λ x hx=>?_,?_,tb2.2,by omega,?_⟩,?_,rfl,hw⟩,by dsimp only;omega⟩
    ·rcases List.mem_append.1 hx with hx|hx
     ·exact ld.ok x hx
     ·rw [List.mem_singleton.1 hx];exact ⟨gd,qok⟩
    ·rw [List.map_append,ld.fl];rfl
    ·rw [Zg7,List.length_append]
     refine ⟨?_,by simp;omega⟩;simp only [List.length_cons,List.length_nil];omega
    ·rw [Zph]
 ·have hjn:j=n:=by omega
  subst hjn;have hend:=ZtZ ld.pre;have hload:=ZrM (bs:=bs) (by rw [hnt,<-hr0];exact hend);have no2:=λ {L m:List Bk} {x:Bk}=>Zul (bs:=bs) (L:=L) (m:=m) (x:=x) (by rw [hnt,<-hr0];exact hend);obtain ⟨b1,hb1'⟩:∃ b1:ZR,b1=⟨(ZdL bs).1,(ZbI bs).1,pls,[]⟩:=⟨_,rfl⟩;have hbc:Zh b0 m1 m2=Zh b1 m1 m2:=by rw [hb0,hb1']
  rw [hbc] at hw;refine ⟨some ⟨r,0,none⟩,oA hw,?_⟩;have v4:0<=(Zc 300 rd).1/\(Zc 300 rd).1<=300:=Zy ld.bytes (by omega);have hb4:Zv (Zc 300 rd).2.bs:=Ze ld.bytes;refine (Zao (most:=300) ld.bytes (by omega) (by omega) hw).use ?_;clear hw;rintro _ w ⟨rfl,hw⟩;refine .inl ⟨_,rfl,?_⟩;have hbks:ZjS rd=ZG Zl0 (Zc 300 rd).1.toNat (Zc 300 rd).2:=rfl;obtain ⟨n2,hn2⟩:∃ n:Nat,(Zc 300 rd).1=n:=⟨_,(Int.toNat_of_nonneg v4.1).symm⟩;obtain ⟨r2,hr2⟩:∃ x,x=(Zc 300 rd).2:=⟨_,rfl⟩;rw [hn2,Int.toNat_natCast,<-hr2] at hbks;rw [<-hr2] at hw hb4;rw [hn2] at v4 ⊢;have inv:=λ k=>Za9 (one:=Zl0) (P:=λ r=>Zv r.bs) (Q:=λ x=>BkIn x) (λ r hr=>⟨Zs0 hr,Zs1 hr⟩) k hb4;refine ⟨λ last i w=>∃ (k:Nat) (L:List Bk) (rd3:Rd) (xs:List BE),i=k/\k<=n2/\LbI b1 r2 k L rd3 xs/\last=ZjT L/\
   Sat R (ZC r rd3::ldR b4 r::ldB b2 p::ldE e3::pts p (Zh b1 m1 m2)::MapAt m1 (fs.map flV)::MapAt m2 (xs.map bkV)::Zi fs::Zk xs::Hs) w,λ _ i _=>(n2 - i).toNat,
   ⟨0,[],r2,[],rfl,by omega,⟨rfl,List.Pairwise.nil,λ _ h=>(by cases h),rfl,hb4⟩,rfl,hw⟩,?_⟩
  clear hw;rintro _ _ _ w ⟨k,L,rd3,xs,rfl,hk,lb,rfl,hw⟩;have hsn:=ZbQ Zl0 k r2;rw [lb.pre] at hsn;dsimp only at hsn;refine Br.d (λ h=>?_) (λ h=>?_)
  ·have hkn:k<n2:=by omega
   obtain ⟨x,hx⟩:∃ x,x=(Zl0 rd3).1:=⟨_,rfl⟩;obtain ⟨rd4,hrd4⟩:∃ x,x=(Zl0 rd3).2:=⟨_,rfl⟩;have xin:=Zs0 lb.bytes;have xbd:=Zs1 lb.bytes;have hadd:(ZjS rd).1=L++[x]++(ZG Zl0 (n2 - (k + 1)) rd4).1:=by
    rw [hbks];have:=ZfY Zl0 (n2 - (k + 1)) (k + 1) r2;rw [show k + 1 + (n2 - (k + 1))=n2 by omega,hsn] at this;rw [this,hx,hrd4]
   rw [<-hx] at xin;rw [<-hx,<-hrd4] at hsn;rw [<-hrd4] at xbd;have nochk:¬ Chk b1 L x->ZcE bs=none:=λ hc=>no2 hadd v1.1 (by rw [<-hb1'];exact hc);have y1:Zv (Zc 28629151 rd3).2.bs:=Ze lb.bytes;have y2:Zv (Zc 9999 (Zc 28629151 rd3).2).2.bs:=Ze y1;have y3:Zv (Zc 9999 (Zc 9999 (Zc 28629151 rd3).2).2).2.bs:=Ze y2;have y4:Zv (Zc 9999 (Zc 9999 (Zc 9999 (Zc 28629151 rd3).2).2).2).2.bs:=Ze y3;have y5:Zv (Zc 3 (Zc 9999 (Zc 9999 (Zc 9999 (Zc 28629151 rd3).2).2).2).2).2.bs:=Ze y4;refine ZA (Sat R [ldR b4 r,VC.tru]) hw (λ w hw=>hw.drop.restTru2) λ w hw=>?_;refine ⟨some ⟨r,0,none⟩,At.own (λ _ h=>h) (by exact ⟨rfl,trivial⟩),some ⟨r,0,none⟩,At.own (λ _ h=>h) (by exact ⟨rfl,trivial⟩),some ⟨r,0,none⟩,At.own (λ _ h=>h) (by exact ⟨rfl,trivial⟩),?_⟩;refine (Zao (most:=28629151) lb.bytes (by omega) (by omega) hw).use ?_;clear hw;rintro _ w ⟨rfl,hw⟩;refine .inl ⟨_,rfl,hw.drop.restTru2,(Zf8 y1 hw).use ?_⟩;clear hw;rintro _ w ⟨rfl,hw⟩;refine .inl ⟨_,rfl,hw.drop.restTru2,(Zf8 y2 hw).use ?_⟩;clear hw;rintro _ w ⟨rfl,hw⟩;refine .inl ⟨_,rfl,hw.drop.restTru2,(Zf8 y3 hw).use ?_⟩;clear hw;rintro _ w ⟨rfl,hw⟩;refine .inl ⟨_,rfl,hw.drop.restTru2,(Zao (most:=3) y4 (by omega) (by omega) hw).use ?_⟩;clear hw;rintro _ w ⟨rfl,hw⟩;refine .inl ⟨_,rfl,hw.drop.restTru2,(Zao (most:=1099511627776) y5 (by omega) (by omega) hw).use ?_⟩;clear hw;rintro _ w ⟨rfl,hw⟩;refine .inl ⟨_,rfl,hw.drop.restTru2,?_⟩;refine Zb hw λ bx w hw=>⟨hw.drop.drop.restTru2,?_⟩;have hw:Sat R (pts bx (Zp x)::ZC r rd4::ldR b4 r::ldB b2 p::ldE e3::pts p (Zh b1 m1 m2)::MapAt m1 (fs.map flV)::MapAt m2 (xs.map bkV)::Zi fs::Zk xs::Hs) w:=by rw [hx,hrd4];exact hw
   have badx:∀ {w},¬ Chk b1 L x->Sat R (pts bx (Zp x)::ZC r rd4::ldR b4 r::ldB b2 p::ldE e3::pts p (Zh b1 m1 m2)::MapAt m1 (fs.map flV)::MapAt m2 (xs.map bkV)::Zi fs::Zk xs::Hs) w->
     Zs prog 155 [.pointer (some ⟨b2,0,none⟩),.pointer (some ⟨e3,0,none⟩)] (.panicking (ZgB 6)) (LdK b2 e3 K) w:=λ {w} hc hw=>by
    have hw:Sat R (ldB b2 p::ldE e3::pts bx (Zp x)::ZC r rd4::ldR b4 r::pts p (Zh b1 m1 m2)::MapAt m1 (fs.map flV)::MapAt m2 (xs.map bkV)::Zi fs::Zk xs::Hs) w:=hw.arr;exact bad (nochk hc) (λ _ h=>h.drop.drop.drop.drop.drop.drop.drop.drop) hw
   refine ⟨λ w=>(ZjT L<x.id/\x.id<b1.next/\1<=x.state/\(x.state=1↔b1.now<x.till)/\(x.state=1\/x.till=0))/\Sat R (pts bx (Zp x)::ZC r rd4::ldR b4 r::ldB b2 p::ldE e3::pts p (Zh b1 m1 m2)::MapAt m1 (fs.map flV)::MapAt m2 (xs.map bkV)::Zi fs::Zk xs::Hs) w,?_,?_⟩
   ·refine Zu hw λ w hw=>?_
    have no:∀ {w},¬ Chk b1 L x->Sat R (pts bx (Zp x)::ZC r rd4::ldR b4 r::ldB b2 p::ldE e3::pts p (Zh b1 m1 m2)::MapAt m1 (fs.map flV)::MapAt m2 (xs.map bkV)::Zi fs::Zk xs::Hs) w->∀ {G:Ending->World->Prop},Calls prog 156 #[.bool false] w λ e w_60=>(G e w_60)\/(∃ ch:List PanicEntry,(e=.panicked ch)/\Zs prog 155 [.pointer (some ⟨b2,0,none⟩),.pointer (some ⟨e3,0,none⟩)] (.panicking ch) (LdK b2 e3 K) w_60):=λ {w} hc hw {G}=>
     Zd3 (λ h=>by cases h) (λ _=>.inr ⟨_,rfl,badx hc hw⟩)
    refine ⟨x.id,oS,Br.d (λ c1=>?_) (λ c1=>no (λ hc=>c1 hc.last) hw)⟩;refine ⟨x.id,oS,some ⟨p,0,none⟩,oS,Zd.mk rfl ⟨b1.next,oS,Br.d (λ c2=>?_) (λ c2=>no (λ hc=>c2 hc.next) hw)⟩⟩;refine ⟨x.state,oS,Br.d (λ c3=>?_) (λ c3=>no (λ hc=>c3 hc.state) hw)⟩;refine ⟨x.state,oS,x.till,oS,some ⟨p,0,none⟩,oS,Zd.mk rfl ⟨b1.now,oS,Br.mk (λ c4=>?_) (λ c4=>no (λ hc=>?_) hw)⟩⟩
    rotate_left
    ·exact beq_eq_false_iff_ne.1 c4 (by rw [Bool.eq_iff_iff,beq_iff_eq,decide_eq_true_iff];exact hc.held)
    have c4:x.state=1↔b1.now<x.till:=by
     have h:=beq_iff_eq.1 c4;rw [Bool.eq_iff_iff,beq_iff_eq,decide_eq_true_iff] at h;exact h
    refine ⟨x.state,oS,Br.e (λ c5=>?_) (λ c5=>?_)⟩
    ·exact Zd3 (λ _=>.inl ⟨rfl,hw,⟨c1,c2,c3,c4,.inl c5⟩,hw⟩) (λ h=>by cases h)
    ·refine ⟨x.till,oS,Zd3 (λ c6=>.inl ⟨rfl,hw,⟨c1,c2,c3,c4,.inr (beq_iff_eq.1 c6)⟩,hw⟩) (λ c6=>.inr ⟨_,rfl,badx (λ hc=>?_) hw⟩)⟩
     exact beq_eq_false_iff_ne.1 c6 (hc.free.resolve_left c5)
   clear hw;rintro _ w ⟨⟨c1,c2,c3,c4,c5⟩,hw⟩;have hlb:ZaQ { b1 with L:=L } fs xs:=⟨by rw [ld.fl,hb1'],lb.bk⟩;refine Zu hw λ w hw=>?_;refine ⟨some ⟨p,0,none⟩,oS,Zd.mk rfl ⟨some m1,oS,x.flt,oS,?_⟩⟩;have look:∀ w',Sat R (pts bx (Zp x)::ZC r rd4::ldR b4 r::ldB b2 p::ldE e3::pts p (Zh b1 m1 m2)::MapAt m1 (fs.map flV)::MapAt m2 (xs.map bkV)::Zi fs::Zk xs::Hs) w'->
     (Instr.lookup 77 (.map (some m1)) (.int .i64 x.flt) false).run prog w'=.ok ((ZD x.flt (fs.map flV)).getD (.agg #[.pointer none,.pointer none])) w':=λ w' h=>by
    have h:Sat R (MapAt m1 (fs.map flV)::pts bx (Zp x)::ZC r rd4::ldR b4 r::ldB b2 p::ldE e3::pts p (Zh b1 m1 m2)::MapAt m2 (xs.map bkV)::Zi fs::Zk xs::Hs) w':=h.arr;exact MapAt.look Ztq h x.flt false
   cases hat:b1.at x.flt with
   |none=>
    have hno:ZD x.flt (fs.map flV)=none:=(Zgg hlb).2 hat;rw [hno] at look;refine ⟨none,none,look,(Zs5 hw).use ?_⟩;clear hw;rintro _ w ⟨rfl,hw⟩;refine .inl ⟨_,rfl,hw,Zd3 (λ h=>by cases h) (λ _=>.inr ⟨_,rfl,badx (λ hc=>?_) hw⟩)⟩;obtain ⟨q,hq,_⟩:=hc.has;rw [hat] at hq;cases hq
   |some pl=>
    have hpm:=ZaA hat;have hplin:pl∈pls:=by have:=hpm.1;rw [hb1'] at this;exact this
    obtain ⟨gd,qok⟩:=ld.ok pl hplin;have hll:=gd.len.1;have hrise1:Zav Pl.n b1.fl:=by rw [hb1'];exact ld.rise
    obtain ⟨A,f,q,C,hfs,hm⟩:=ZcZ hlb hrise1 (show ZR.at { b1 with L:=L } x.flt=some pl from hat)
    have hgm:ZD x.flt (fs.map flV)=some (.agg #[.pointer (some ⟨f,0,none⟩),.pointer (some ⟨q,0,none⟩)]):=by rw [hfs];exact ZhS hm
    rw [hgm] at look;refine ⟨some ⟨f,0,none⟩,some ⟨q,0,none⟩,look,?_⟩;obtain ⟨MF,hMF⟩:∃ M,M=fs.map flV:=⟨_,rfl⟩;rw [<-hMF] at hw;have hw:Sat R (Zi (A++(f,q,pl)::C)::pts bx (Zp x)::ZC r rd4::ldR b4 r::ldB b2 p::ldE e3::pts p (Zh b1 m1 m2)::MapAt m1 MF::MapAt m2 (xs.map bkV)::Zk xs::Hs) w:=by rw [<-hfs];exact hw.arr
    have hw:=Zba.1 hw;have hw:Sat R (pts bx (Zp x)::Zf f pl.r::ZF q pl.q::Zi (A++C)::ZC r rd4::ldR b4 r::ldB b2 p::ldE e3::pts p (Zh b1 m1 m2)::MapAt m1 MF::MapAt m2 (xs.map bkV)::Zk xs::Hs) w:=hw.arr;refine (Zs4 gd qok.len (by omega) hw).use ?_;clear hw;rintro _ w ⟨rfl,hw⟩;have hw:Sat R (Zf f pl.r::ZF q pl.q::Zi (A++C)::pts bx (Zp x)::ZC r rd4::ldR b4 r::ldB b2 p::ldE e3::pts p (Zh b1 m1 m2)::MapAt m1 MF::MapAt m2 (xs.map bkV)::Zk xs::Hs) w:=hw.arr;have hw:=Zba.2 hw;rw [<-hfs,hMF] at hw;have hw:Sat R (pts bx (Zp x)::ZC r rd4::ldR b4 r::ldB b2 p::ldE e3::pts p (Zh b1 m1 m2)::MapAt m1 (fs.map flV)::MapAt m2 (xs.map bkV)::Zi fs::Zk xs::Hs) w:=hw.arr;refine .inl ⟨_,rfl,hw,Zd3 (λ c6=>.inl ⟨rfl,hw,?_⟩) (λ c6=>.inr ⟨_,rfl,badx (λ hc=>?_) hw⟩)⟩
    rotate_left
    ·obtain ⟨q',hq',hh⟩:=hc.has
     rw [hat] at hq';obtain rfl:=Option.some.inj hq';exact of_decide_eq_false c6 hh
    have hchk:Chk b1 L x:=⟨c1,c2,c3,c4,c5,pl,hat,of_decide_eq_true c6⟩;obtain ⟨hmay,hrise2⟩:=Zxd hchk lb.rise λ y hy=>(lb.may y hy).id.1;refine ⟨x.id,oA hw,?_⟩;refine Zu hw λ w hw=>?_;refine ⟨some ⟨p,0,none⟩,oS,Zd.mk rfl ⟨some m2,oS,x.id,oS,?_⟩⟩;have hw:Sat R (MapAt m2 (xs.map bkV)::pts bx (Zp x)::ZC r rd4::ldR b4 r::ldB b2 p::ldE e3::pts p (Zh b1 m1 m2)::MapAt m1 (fs.map flV)::Zi fs::Zk xs::Hs) w:=hw.arr;refine MapAt.put Zu7 hw x.id (.pointer (some ⟨bx,0,none⟩)) λ w hw=>?_;rw [Zjz (Zu1 lb.bk hrise2)] at hw;have hmap:xs.map bkV++[(x.id,Value.pointer (some ⟨bx,0,none⟩))]=(xs++[((bx,x):BE)]).map bkV:=by rw [List.map_append];rfl
    rw [hmap] at hw;have hw:Sat R (pts bx (Zp x)::Zk xs::ZC r rd4::ldR b4 r::ldB b2 p::ldE e3::pts p (Zh b1 m1 m2)::MapAt m1 (fs.map flV)::MapAt m2 ((xs++[((bx,x):BE)]).map bkV)::Zi fs::Hs) w:=hw.arr;have hw:=Zks hw;have hw:Sat R (ZC r rd4::ldR b4 r::ldB b2 p::ldE e3::pts p (Zh b1 m1 m2)::MapAt m1 (fs.map flV)::MapAt m2 ((xs++[((bx,x):BE)]).map bkV)::Zi fs::Zk (xs++[((bx,x):BE)])::Hs) w:=hw.arr;rw [Zl (x:=(k:Int) + 1) (by omega) (by omega)];refine ⟨⟨k + 1,L++[x],rd4,xs++[(bx,x)],by omega,by omega,⟨hsn,hrise2,λ y hy=>?_,?_,xbd⟩,?_,hw⟩,by dsimp only;omega⟩
    ·rcases List.mem_append.1 hy with hy|hy
     ·exact lb.may y hy
     ·rw [List.mem_singleton.1 hy];exact hmay
    ·rw [List.map_append,lb.bk];rfl
    ·rw [Zpi]
  ·have hkn:k=n2:=by omega
   subst hkn;have hall:ZjS rd=(L,rd3):=by rw [hbks,lb.pre]
   rw [hall] at hload;dsimp only at hload;have hLlen:L.length=k:=by have:=Zbl Zl0 k r2;rw [lb.pre] at this;exact this
   have hb1L:({ b1 with L:=L }:ZR)=⟨(ZdL bs).1,(ZbI bs).1,pls,L⟩:=by rw [hb1']
   rw [<-hb1L] at hload;have nomay:¬ (Z5 rd3=true/\Zy7 { b1 with L:=L })->ZcE bs=none:=λ h=>by rw [hload,if_neg h]
   refine ⟨some ⟨r,0,none⟩,oA hw,?_⟩;refine (ZbK hw).use ?_;clear hw;rintro _ w ⟨rfl,hw⟩;have badw:∀ {w},¬ (Z5 rd3=true/\Zy7 { b1 with L:=L })->Sat R (ZC r rd3::ldR b4 r::ldB b2 p::ldE e3::pts p (Zh b1 m1 m2)::MapAt m1 (fs.map flV)::MapAt m2 (xs.map bkV)::Zi fs::Zk xs::Hs) w->
     Zs prog 155 [.pointer (some ⟨b2,0,none⟩),.pointer (some ⟨e3,0,none⟩)] (.panicking (ZgB 6)) (LdK b2 e3 K) w:=λ {w} hc hw=>by
    have hw:Sat R (ldB b2 p::ldE e3::ZC r rd3::ldR b4 r::pts p (Zh b1 m1 m2)::MapAt m1 (fs.map flV)::MapAt m2 (xs.map bkV)::Zi fs::Zk xs::Hs) w:=hw.arr;exact bad (nomay hc) (λ _ h=>h.drop.drop.drop.drop.drop.drop.drop) hw
   refine .inl ⟨_,rfl,Br.mk (λ hwh=>?_) (λ hwh=>?_)⟩
   ·refine ⟨some ⟨p,0,none⟩,oA hw,Zd.mk rfl ⟨b1.next,oA hw,Br.d (λ hnx=>?_) (λ hnx=>?_)⟩⟩
    ·refine Zd3 (λ ht=>.inl ⟨rfl,?_⟩) (λ ht=>.inr ⟨_,rfl,badw (λ h=>?_) hw⟩)
     ·have hth:things pls=L.length:=by have:=beq_iff_eq.1 ht;omega
      have hmay:Zy7 { b1 with L:=L }:=by
       refine ⟨hnx,by rw [hb1'];exact ld.rise,lb.rise,λ x hx=>?_,by rw [hb1'];exact hth⟩;have h:=lb.may x hx;exact ⟨h.id,h.state,h.held,h.free,h.has⟩
      refine ⟨some ⟨p,0,none⟩,oA hw,?_⟩;have hw:Sat R (ldB b2 p::ldE e3::ZC r rd3::ldR b4 r::pts p (Zh b1 m1 m2)::MapAt m1 (fs.map flV)::MapAt m2 (xs.map bkV)::Zi fs::Zk xs::Hs) w:=hw.arr;refine Za hw (by kernel_rfl) rfl (by simp [Value.cells]) λ w hw=>?_;have hw:=hw.re (ldB b2 p);refine Za hw (by kernel_rfl) rfl (by simp [Value.cells]) λ w hw=>?_;have hw:=(hw.re (ldE e3)).swap;refine Zuk hw (hK2 { b1 with L:=L } p w (by rw [hload,if_pos ⟨hwh,hmay⟩]) (λ x hx=>ld.ok x (by rw [hb1'] at hx;exact hx)) ?_);exact Sat.book.2 ⟨m1,m2,fs,xs,⟨by rw [ld.fl,hb1'],lb.bk⟩,hw.drop.drop.drop.drop⟩
     ·have h2:=h.2.things
      rw [hb1'] at h2;have:things pls=L.length:=h2;exact beq_eq_false_iff_ne.1 ht (by omega)
    ·exact Zd3 (λ h=>by cases h) (λ _=>.inr ⟨_,rfl,badw (λ h=>hnx h.2.next) hw⟩)
   ·exact Zd3 (λ h=>by cases h) (λ _=>.inr ⟨_,rfl,badw (λ h=>by rw [h.1] at hwh;cases hwh) hw⟩)
end
section
open Go Go.VC Tryz
open Classical
variable {R:Cx} {Hs Rest:List HP} {w:World}
theorem ZpE {l:List Int} (h:∀ x∈l,0<=x/\x<18446744073709551616):Zv (Zm l):=ZbW h
theorem ZpD {r:RF} (g:ZaK r):Zv (ZbG r):=by
 have s:=Zeq g;obtain ⟨l1,l2,l3⟩:=Zan.1 g.lay;obtain ⟨m1,m2,m3⟩:=Zdi g;have hlen:=g.len.1;unfold ZbG Zvs;refine Zx (Zx (Zx (Zx (ZpE λ x hx=>?_) (Zfr s.grps (by omega))) (Zfr s.lims (by omega))) (ZI (by omega))) λ x hx=>?_
 ·have:=s.num
  have:=s.rows;simp only [List.mem_cons,List.not_mem_nil,or_false] at hx;omega
 ·exact ZhM (λ h hh=>s.hs h hh) x hx
theorem ZuX {x:Wt} (h:x.Ok) (hf:x.sc<18446744073709551616):Zv (wtB x):=by
 obtain ⟨h1,h2,h3,h4⟩:=h;exact Zx (ZI (by omega)) (Zx (ZI (by omega)) (Zx (ZI (by omega)) (Zx (ZI (by omega)) (ZsV hf))))
theorem ZyZ {q:List Wt} (h:QOk q):Zv (qB q):=Zx (ZI (by have:=h.len;omega)) (Zdo λ x hx=>ZuX (h.ok x hx) (h.fl x hx))
theorem ZuY {p:Pl} (g:ZaK p.r) (h:QOk p.q):Zv (plB p):=
 Zx (Zdn (ZpD g) (by have:=Zek g;omega)) (Zdn (ZyZ h) (by have:=Zny h;omega))
theorem Zu0 {n:Int} {x:Bk} (hn:n<=28629151) (h:Ztw n x):Zv (bkB x):=by
 have:=h.id;have:=h.flt;have:=h.cls;have:=h.many;have:=h.state;have:=h.till;exact Zx (ZI (by omega)) (Zx (ZI (by omega)) (Zx (ZI (by omega)) (Zx (ZI (by omega)) (Zx (ZI (by omega)) (ZI (by omega))))))
theorem ZpC {b:ZR} (k:Core b):Zv (Zc3 b):=by
 have h1:=k.now;have h2:=k.next;have h3:=k.few;have h4:=k.many;exact Zx (ZI (by omega)) (Zx (ZI (by omega)) (Zx (ZI (by omega)) (Zx (Zdo λ p hp=>ZuY (k.good p hp) (k.qok p hp)) (Zx (ZI (by omega)) (Zdo λ x hx=>Zu0 h2.2 (k.each x hx))))))
end
section
open Go Go.VC Tryz
open Classical
variable {R:Cx} {Hs Rest:List HP} {w:World}
def ZpT (t:Tb):Prop:=∀ c∈t.cl,0<c.last\/c.rep=[]
theorem ZpT.apply {t:Tb} (k:Zm9 t) (h:ZpT t) (bs:List Int):ZpT (t.applyT bs).2:=by
 unfold Tb.applyT;split
 ·exact h
 ·unfold Tb.askT
  split
  ·exact h
  ·split
   ·unfold Tb.beginT
    split
    ·exact h
    ·split
     ·exact h
     ·intro c hc
      rcases List.mem_append.1 hc with hc|hc
      ·exact h c hc
      ·rw [List.mem_singleton] at hc
       subst hc;exact .inr rfl
   ·split
    ·split
     ·exact h
     ·exact h
    ·rename_i c hc
     obtain ⟨hm,_⟩:=Zkc hc;split
     ·exact λ d hd=>h d (List.mem_filter.1 hd).1
     ·unfold Tb.doT
      split
      ·exact h
      ·split
       ·exact h
       ·split
        ·rename_i h9
         intro d hd;obtain ⟨x,hx,rfl⟩:=List.mem_map.1 hd;have:=(k.each c hm).last;dsimp only;split
         ·exact .inl (by show 0<((Za8 mI bs).1).seq;omega)
         ·exact h x hx
        ·exact h
theorem ZvF {n:Int} {c:Cl} (h:Zzk n c):clB c=Zm [c.id]++(Zm [c.tok]++(Zm [c.last]++ZaX c.rep)):=by
 have h1:=h.id;have h2:=h.tok;have h3:=h.last;unfold clB;rw [nn3s (by omega) h2.1 h3.1];simp only [List.append_assoc]
theorem Znp {t:Tb} (k:TbC t):Zce t=Zm [t.next]++(Zm [(t.cl.length:Int)]++((t.cl.map clB).flatten++ZaX (Zc3 t.bk))):=by
 have h1:=k.nx;unfold Zce;show Zm [nn t.next,nn (t.cl.length:Int)]++_++_=_;rw [Zcj (by omega),Zcj (by omega),Zbh t.next];simp only [List.append_assoc]
theorem ZuZ {n:Int} {c:Cl} (h:Zzk n c) (hn:n<=1099511627776):Zv (clB c):=by
 have h1:=h.id;have h2:=h.tok;have h3:=h.last;have h4:=h.rep;rw [ZvF h];exact Zx (ZI (by omega)) (Zx (ZI (by omega)) (Zx (ZI (by omega)) (Zdn h.by' (by omega))))
theorem Zm0 {t:Tb} (k:TbC t) (hn:t.next<=1099511627776):Zv (Zce t):=by
 have h1:=k.nx;have h2:=k.few;have h3:=Zfg k.core;rw [Znp k];exact Zx (ZI (by omega)) (Zx (ZI (by omega)) (Zx (Zdo λ c hc=>ZuZ (k.each c hc) hn) (Zdn (ZpC k.core) (by omega))))
end
section
open Go Go.VC Tryz
open Classical
def Zok (r:Rd):Cl × Rd:=
 let a:=Zc mI r
 let k:=Zc mI a.2
 let l:=Zc mI k.2
 let d:=ZL 65536 l.2
 (⟨a.1,k.1,l.1,d.1⟩,d.2)
structure Zl9 (next:Int) (l:List Cl):Prop where
 rise:(l.map Cl.id).Pairwise λ a b=>a<b
 ids:∀ c∈l,1<=c.id/\c.id<next
 toks:(l.map Cl.tok).Nodup
 live:∀ c∈l,0<c.last\/c.rep=[]
abbrev tN (bs:List Int):=Zc mI ⟨bs,false⟩
abbrev tM (bs:List Int):=Zc 64 (tN bs).2
abbrev tZ (bs:List Int):=ZG Zok (tM bs).1.toNat (tM bs).2
abbrev tD (bs:List Int):=ZL 1048576 (tZ bs).2
noncomputable def Zij (bs:List Int):Option Tb:=match ZcE (tD bs).1 with
 |none=>none
 |some b=>if Z5 (tD bs).2=true/\1<=(tN bs).1/\Zl9 (tN bs).1 (tZ bs).1 then some ⟨(tN bs).1,(tZ bs).1,b⟩ else none
theorem ZsK {n:Int} {c:Cl} (h:Zzk n c) (hn:n<=1099511627776) (more:List Int):Zok ⟨clB c++more,false⟩=(c,⟨more,false⟩):=by
 have h1:=h.id;have h2:=h.tok;have h3:=h.last;have h4:=h.rep;rw [ZvF h];simp only [List.append_assoc];unfold Zok;rw [Zt (by omega) (by show c.id<=1099511627776;omega) (by omega)];dsimp only;rw [Zt h2.1 (by show c.tok<=1099511627776;omega) (by omega)];dsimp only;rw [Zt h3.1 (by show c.last<=1099511627776;omega) (by omega)];dsimp only;rw [Zcw (by omega) (by omega)]
theorem ZBP {t:Tb} (k:Zm9 t) (hr:Zl4 t) (hl:ZpT t):Zl9 t.next t.cl:=⟨hr,λ c hc=>(k.each c hc).id,k.toks,hl⟩
theorem ZiV {t:Tb} (k:Zm9 t) (hr:Zl4 t) (hl:ZpT t) (hn:t.next<=1099511627776):Zij (Zce t)=some t:=by
 have h1:=k.nx;have h2:=k.few;have h3:=Zfg k.bk.core;have e1:tN (Zce t)=(t.next,⟨Zm [(t.cl.length:Int)]++((t.cl.map clB).flatten++ZaX (Zc3 t.bk)),false⟩):=by
  show Zc mI ⟨Zce t,false⟩=_;rw [Znp k.c];exact Zt (by omega) (by show t.next<=1099511627776;omega) (by omega)
 have e2:tM (Zce t)=((t.cl.length:Int),⟨(t.cl.map clB).flatten++ZaX (Zc3 t.bk),false⟩):=by
  show Zc 64 (tN (Zce t)).2=_;rw [e1];exact Zt (by omega) (by omega) (by omega)
 have e3:tZ (Zce t)=(t.cl,⟨ZaX (Zc3 t.bk),false⟩):=by
  show ZG Zok (tM (Zce t)).1.toNat (tM (Zce t)).2=_;rw [e2];dsimp only;rw [Int.toNat_natCast];exact ZdB λ c hc more=>ZsK (k.each c hc) hn more
 have e4:tD (Zce t)=(Zc3 t.bk,⟨[],false⟩):=by
  show ZL 1048576 (tZ (Zce t)).2=_;rw [e3];have:=Zcw (d:=Zc3 t.bk) (rest:=[]) (most:=1048576) (by omega) (by omega);rw [List.append_nil] at this;exact this
 unfold Zij;rw [e4];dsimp only;rw [ZrJ k.bk];dsimp only;rw [e3,e1];dsimp only;rw [if_pos ⟨rfl,h1,ZBP k hr hl⟩]
end
section
open Go Go.VC Tryz
open Classical
def ZjU (l:List Cl):Int:=(l.getLast?.map Cl.id).getD 0
theorem Zpj (l:List Cl) (c:Cl):ZjU (l++[c])=c.id:=by simp [ZjU]
theorem Zl9.nil {n:Int}:Zl9 n []:=⟨List.Pairwise.nil,λ _ h=>(by cases h),List.nodup_nil,λ _ h=>(by cases h)⟩
theorem Zl9.pre {n:Int} {l m:List Cl} (h:Zl9 n (l++m)):Zl9 n l:=by
 refine ⟨?_,λ c hc=>h.ids c (List.mem_append_left _ hc),?_,λ c hc=>h.live c (List.mem_append_left _ hc)⟩
 ·have:=h.rise
  rw [List.map_append,List.pairwise_append] at this;exact this.1
 ·have:=h.toks
  rw [List.map_append,List.nodup_append] at this;exact this.1
theorem ZnQ {n:Int} {l:List Cl} (h:Zl9 n l):0<=ZjU l/\∀ c∈l,c.id<=ZjU l:=by
 constructor
 ·unfold ZjU
  cases hz:l.getLast? with
  |none=>simp
  |some z=>have:=h.ids z (List.mem_of_getLast? hz);simp;omega
 ·intro c hc
  obtain ⟨z,hz,hle⟩:=Zhm (k:=Cl.id) (List.pairwise_map.1 h.rise) hc;unfold ZjU;rw [hz];simpa using hle
theorem ZnM {n:Int} {l:List Cl} {c:Cl}:Zl9 n (l++[c])↔Zl9 n l/\ZjU l<c.id/\c.id<n/\c.tok ∉ l.map Cl.tok/\(0<c.last\/c.rep=[]):=by
 constructor
 ·intro h
  have hl:=h.pre;refine ⟨hl,?_,(h.ids c (by simp)).2,?_,h.live c (by simp)⟩
  ·unfold ZjU
   cases hz:l.getLast? with
   |none=>have:=(h.ids c (by simp)).1;simp;omega
   |some z=>
    have:=h.rise;rw [List.map_append,List.pairwise_append] at this;have:=this.2.2 z.id (List.mem_map.2 ⟨z,List.mem_of_getLast? hz,rfl⟩) c.id (by simp);simpa using this
  ·have:=h.toks
   rw [List.map_append,List.nodup_append] at this;exact λ h2=>this.2.2 _ h2 c.tok (by simp) rfl
 ·rintro ⟨h,h1,h2,h3,h4⟩
  obtain ⟨g1,g2⟩:=ZnQ h;refine ⟨?_,λ d hd=>?_,?_,λ d hd=>?_⟩
  ·rw [List.map_append,List.pairwise_append]
   refine ⟨h.rise,by simp,λ x hx y hy=>?_⟩;obtain ⟨d,hd,rfl⟩:=List.mem_map.1 hx;have:=g2 d hd;simp only [List.map_cons,List.map_nil,List.mem_singleton] at hy;omega
  ·rcases List.mem_append.1 hd with hd|hd
   ·exact h.ids d hd
   ·rw [List.mem_singleton.1 hd];omega
  ·rw [List.map_append,List.nodup_append]
   refine ⟨h.toks,by simp,λ x hx y hy e=>?_⟩;simp only [List.map_cons,List.map_nil,List.mem_singleton] at hy;rw [e,hy] at hx;exact h3 hx
  ·rcases List.mem_append.1 hd with hd|hd
   ·exact h.live d hd
   ·rw [List.mem_singleton.1 hd];exact h4
theorem Zxc {r:Rd} (hb:Zv r.bs):Zv (Zok r).2.bs:=(Zcx (Ze (Ze (Ze hb)))).2
structure ClIn (c:Cl):Prop where
 id:0<=c.id/\c.id<=1099511627776
 tok:0<=c.tok/\c.tok<=1099511627776
 last:0<=c.last/\c.last<=1099511627776
 rep:c.rep.length<=65536
 by':Zv c.rep
theorem Zxb {r:Rd} (hb:Zv r.bs):ClIn (Zok r).1:=
 ⟨Zy hb (by show (0:Int)<=1099511627776;omega),Zy (Ze hb) (by show (0:Int)<=1099511627776;omega),Zy (Ze (Ze hb)) (by show (0:Int)<=1099511627776;omega),(by have:=Zmr (most:=65536) (Ze (most:=mI) (Ze (most:=mI) (Ze (most:=mI) hb)));exact this),(Zcx (Ze (Ze (Ze hb)))).1⟩
theorem ZnO {bs:List Int} {n:Nat} {l:List Cl} {r0 rd:Rd} (hn:(tM bs).1.toNat=n) (h0:(tM bs).2=r0) (h:ZG Zok n r0=(l,rd)):
  Zij bs=match ZcE (ZL 1048576 rd).1 with
   |none=>none
   |some b=>if Z5 (ZL 1048576 rd).2=true/\1<=(tN bs).1/\Zl9 (tN bs).1 l then some ⟨(tN bs).1,l,b⟩ else none:=by
 have e:tZ bs=(l,rd):=by show ZG Zok (tM bs).1.toNat (tM bs).2=_;rw [hn,h0,h]
 unfold Zij;show (match ZcE (ZL 1048576 (tZ bs).2).1 with|none=>none|some b=>if Z5 (ZL 1048576 (tZ bs).2).2=true/\1<=(tN bs).1/\Zl9 (tN bs).1 (tZ bs).1 then some (⟨(tN bs).1,(tZ bs).1,b⟩:Tb) else none)=_
 rw [e]
end
end Go.Proofs.YtlplemdmegpoeaaGreatDoor
namespace Go.VC
section
variable {α:Type} [BEq α] [ZaW α]
theorem ZqI {P:Program} {n:Int} {w:World}:(asInt (.int .i64 n)).run P w=.ok n w:=rfl
theorem Zn8 {P:Program} {T:TypeId} {m:Nat} {w:World} {es:List MapEntry} {c i n:Nat} {v:Value} (hm:w.heap[m]? =some (.map es.toArray c)) (hi:i<es.length) (hn:es[i].born=n) (hu:∀ j (hj:j<i),(es[j]'(by omega)).born≠n):
  (Instr.entryStore T (.map (some m)) (.int .i64 (n:Int)) v).run P w=.ok () (w.setBlock m (.map (es.modify i λ e=>{ e with val:=v }).toArray c)):=by
 have hf:es.toArray.findIdx? (λ e=>(e.born:Int)==(n:Int))=some i:=by
  rw [List.findIdx?_toArray,List.findIdx?_eq_some_iff_getElem];refine ⟨hi,by simp [hn],λ j hj=>?_⟩;have:=hu j hj;simp only [beq_iff_eq];omega
 unfold Instr.entryStore;simp only [Sem.run_bind,Result.andThen,MapKept.run_getObj_map hm,ZqI,hf,MapKept.run_setObj_map _ hm,World.setBlock]
 congr 4
 apply Array.ext';simp
omit [BEq α] [ZaW α] in
theorem ZhD {β:Type} (f:β->β):∀ (a:List β) (x:β),(a++[x]).modify a.length f=a++[f x]
 |[],_=>rfl
 |y::a,x=>by
  simp only [List.cons_append,List.length_cons,List.modify_succ_cons,ZhD f a x]
theorem ZiT (k:α) (v:Value):∀ (es:List (En α)) (i:Nat) (p:Nat × Value),ZfA k es i=some p->(es.map mkE).modify (p.1 - i) (λ e=>{ e with val:=v })=(ZoJ k v es).map mkE
 |[],_,_,h=>by cases h
 |e::es,i,p,h=>by
  have hle:=Zcm k (e::es) i p h;rw [ZfA] at h;cases hk:(k==e.1)
  ·rw [hk] at h
   have h':ZfA k es (i + 1)=some p:=by simpa using h
   have hle2:=Zcm k es (i + 1) p h';obtain ⟨j,hj⟩:∃ j,p.1 - i=j + 1:=⟨p.1 - (i + 1),by omega⟩;have ih:=ZiT k v es (i + 1) p h';rw [show p.1 - (i + 1)=j by omega] at ih;rw [hj,ZoJ,hk];simp only [List.map_cons,List.modify_succ_cons,Bool.false_eq_true,if_false,List.cons.injEq,true_and];exact ih
  ·rw [hk] at h
   simp at h;subst h;rw [ZoJ,hk];simp [mkE]
theorem ZrD {es:List (En α)} {k:α}:∀ {i:Nat} {p:Nat × Value},ZfA k es i=some p->(es.map mkE).modify (p.1 - i) (λ e=>{ e with key:=ZaW.enc k })=es.map mkE:=by
 induction es with
 |nil=>intro i p h;cases h
 |cons e es ih=>
  intro i p h;have hle:=Zcm k (e::es) i p h;rw [ZfA] at h;cases hk:(k==e.1)
  ·rw [hk] at h
   have h':ZfA k es (i + 1)=some p:=by simpa using h
   have hle2:=Zcm k es (i + 1) p h';obtain ⟨j,hj⟩:∃ j,p.1 - i=j + 1:=⟨p.1 - (i + 1),by omega⟩;have ih:=ih h';rw [show p.1 - (i + 1)=j by omega] at ih;rw [hj];simp only [List.map_cons,List.modify_succ_cons,List.cons.injEq,true_and];exact ih
  ·rw [hk] at h
   simp at h;subst h;have:=ZaW.eq _ _ hk;subst this;simp [mkE]
variable {P:Program} {R:Cx} {Hs:List HP} {w:World} {m:Nat} {es:List (α × Value)} {T K E:TypeId} {z:Value}
theorem MapAt.entry (M:Ztv P T α K E z) (hw:Sat R (MapAt m es::Hs) w) (k:α) (v:Value):
  ∃ w1,∃ n:Int,(Instr.mapEntry T (.map (some m)) (ZaW.enc k)).run P w=.ok (.tuple #[(ZD k es).getD z,.int .i64 n]) w1/\
   ∃ w2,(Instr.entryStore T (.map (some m)) (.int .i64 n) v).run P w1=.ok () w2/\Sat R (MapAt m (Zci k v es)::Hs) w2:=by
 obtain ⟨l,clk,rfl,hst,hp⟩:=MapAt.iff.1 hw;have hm:=hp.at;have hck:=ZaW.check P false K k w M.hK;have hfk:=ZdA M.hK k l w;have fin:∀ {o o1:Obj},o=.map ((ZpV k v l clk).map mkE).toArray (if Zkz k l then clk else clk + 1)->Sat R (MapAt m (Zci k v (Zbp l))::Hs) ((w.setBlock m o1).setBlock m o):=λ {o o1} e=>by
  rw [e];exact MapAt.iff.2 ⟨ZpV k v l clk,_,ZiI k v l clk,Zit hst k v,(hp.setPts o1).setPts _⟩
 cases hi:ZfA k l 0 with
 |none=>
  have hn:=(ZdZ k l 0).1 hi;have hg:ZD k (Zbp l)=none:=by
   have:=Zgc k l;rw [hn] at this;exact Option.not_isSome_iff_eq_none.1 (by rw [<-this];simp)
  rw [hi] at hfk;refine ⟨w.setBlock m (.map ((l.map mkE)++[mkE (k,z,clk)]).toArray (clk + 1)),clk,?_,?_⟩
  ·unfold Instr.mapEntry
   simp only [Sem.run_bind,run_underlying M.hT,Result.andThen,MapKept.run_getObj_map hm,hck,hfk,M.hz,MapKept.run_setObj_map _ hm,World.setBlock,hg];simp [mkE,goInt]
  ·have h1:(w.setBlock m (.map ((l.map mkE)++[mkE (k,z,clk)]).toArray (clk + 1))).heap[m]? =some (.map ((l.map mkE)++[mkE (k,z,clk)]).toArray (clk + 1)):=(hp.setPts _).at
   refine ⟨_,Zn8 (i:=l.length) (n:=clk) h1 (by simp) (by simp [mkE]) λ j hj=>?_,fin ?_⟩
   ·have hj2:j<(l.map mkE).length:=by simpa using hj
    rw [List.getElem_append_left hj2,List.getElem_map];have:=hst.1 _ (List.getElem_mem (by simpa using hj2:j<l.length));show (l[j]).2.2≠clk;omega
   ·rw [if_neg (by rw [hn];simp)]
    congr 2
    unfold ZpV;rw [if_neg (by rw [hn];simp),List.map_append];have e:=ZhD (λ e:MapEntry=>{ e with val:=v }) (l.map mkE) (mkE (k,z,clk));rw [List.length_map] at e;rw [e];rfl
 |some p=>
  have hh:Zkz k l=true:=by
   cases h:Zkz k l
   ·rw [(ZdZ k l 0).2 h] at hi;cases hi
   ·rfl
  obtain ⟨hlt,e,he,hek⟩:=Zj0 k l 0 p hi;rw [Nat.sub_zero] at he;have hlt:p.1<l.length:=by omega
  have he':e=mkE l[p.1]:=by
   rw [List.getElem?_map,List.getElem?_eq_getElem hlt] at he;exact (Option.some.inj he).symm
  have hv:=ZgX k l 0;rw [hi] at hfk hv;have hg:ZD k (Zbp l)=some p.2:=by rw [<-Zet,<-hv];rfl
  have hkey:(((l.map mkE).toArray[p.1]?).map (·.key)).getD (ZaW.enc k)=ZaW.enc k:=by
   have:(l.map mkE).toArray[p.1]? =some e:=by simpa using he
   rw [this];exact hek
  have hborn:(((l.map mkE).toArray[p.1]?).map (λ x:MapEntry=>(x.born:Int))).getD 0=(l[p.1].2.2:Int):=by
   have:(l.map mkE).toArray[p.1]? =some e:=by simpa using he
   rw [this,he'];rfl
  have hid:=ZrD hi;rw [Nat.sub_zero] at hid;have hid2:(l.map mkE).toArray.modify p.1 (λ e=>{ e with key:=ZaW.enc k })=(l.map mkE).toArray:=by
   apply Array.ext';simpa using hid
  refine ⟨w.setBlock m (.map (l.map mkE).toArray clk),l[p.1].2.2,?_,?_⟩
  ·unfold Instr.mapEntry
   simp only [Sem.run_bind,run_underlying M.hT,Result.andThen,MapKept.run_getObj_map hm,hck,hfk,hkey,ZdG,hid2,MapKept.run_setObj_map _ hm,World.setBlock,hg,hborn];rfl
  ·have h1:(w.setBlock m (.map (l.map mkE).toArray clk)).heap[m]? =some (.map (l.map mkE).toArray clk):=(hp.setPts _).at
   refine ⟨_,Zn8 (i:=p.1) (n:=l[p.1].2.2) h1 (by simpa using hlt) (by simp [mkE]) λ j hj=>?_,fin ?_⟩
   ·rw [List.getElem_map]
    show (l[j]).2.2≠l[p.1].2.2;intro h;have hnd:=hst.2;have:=(List.getElem_inj (h₀:=by simp;omega) (h₁:=by simpa using hlt) hnd).1 (by simpa using h:(l.map (·.2.2))[j]'(by simp;omega)=(l.map (·.2.2))[p.1]'(by simpa using hlt));omega
   ·rw [if_pos hh]
    have:=ZiT k v l 0 p hi;rw [Nat.sub_zero] at this;rw [this];unfold ZpV;rw [if_pos hh]
end
end Go.VC
namespace Go.Proofs.YtlplemdmegpoeaaGreatDoor
section
open Go Go.VC Tryz
open Classical
variable {R:Cx} {Hs Rest:List HP} {w:World}
def tkV (c:Cl):Int × Value:=(c.tok,.bool true)
abbrev Zzo:Ztv prog 156 Int 3 4 (.bool false):=⟨underlying156,underlying3,zeroValue4⟩
theorem Zu9 {tok:Int}:∀ {l:List Cl},(ZD tok (l.map tkV)).getD (.bool false)=.bool (decide (tok∈l.map Cl.tok))
 |[]=>rfl
 |c::l=>by
  rw [List.map_cons,ZD,List.map_cons];show (if tok==c.tok then some (Value.bool true) else ZD tok (l.map tkV)).getD (.bool false)=_
  by_cases h:tok=c.tok
  ·rw [if_pos (by simpa using h),h]
   simp
  ·rw [if_neg (by simpa using h),Zu9]
   congr 1
   simp [h]
def TkB (T:List (Int × Value)):Prop:=∀ k,∃ b,(ZD k T).getD (.bool false)=.bool b
theorem Zn0 {β:Type} {k j:Int} {v:β}:∀ {es:List (Int × β)},ZD j (ZeG k v es)=if j=k/\(ZD k es).isSome then some v else ZD j es
 |[]=>by simp [ZD,ZeG]
 |e::es=>by
  rw [ZeG];by_cases h:k=e.1
  ·rw [if_pos (by simpa using h),ZD,ZD,ZD,if_pos (show (k==e.1)=true by simpa using h)]
   by_cases hj:j=k
   ·rw [if_pos (by simp [hj,h]),if_pos ⟨hj,rfl⟩]
   ·rw [if_neg (by simp only [beq_iff_eq];omega),if_neg (by simp [hj]),if_neg (by simp only [beq_iff_eq];omega)]
  ·rw [if_neg (by simpa using h),ZD,Zn0,ZD,ZD,if_neg (show ¬ (k==e.1)=true by simpa using h)]
   by_cases hj:j=k
   ·rw [if_neg (by simp only [beq_iff_eq];omega),hj]
    rw [if_neg (show ¬ (k==e.1)=true by simpa using h)]
   ·rw [if_neg (show ¬ (j=k/\(ZD k es).isSome=true) by simp [hj]),if_neg (show ¬ (j=k/\(ZD k es).isSome=true) by simp [hj])]
theorem TkB.put {T:List (Int × Value)} (h:TkB T) (k:Int) (b:Bool):TkB (Zci k (.bool b) T):=by
 intro j;unfold Zci;split
 ·rw [Zn0]
  split
  ·exact ⟨b,rfl⟩
  ·exact h j
 ·rename_i hn
  by_cases hj:j=k
  ·refine ⟨b,?_⟩
   subst hj;rw [Zj7 (by simpa using hn) (by simp)];rfl
  ·have:ZD j (T++[(k,Value.bool b)])=ZD j T:=by
    clear h hn
    induction T with
    |nil=>simp [ZD,hj]
    |cons e T ih=>rw [List.cons_append,ZD,ZD,ih]
   rw [this];exact h j
def LtI (nx:Int) (last:Int) (fine:Bool) (l:List Cl) (M T:List (Int × Value)) (X:HP):Prop:=
 (fine=true/\1<=nx/\Zl9 nx l/\last=ZjU l/\∃ E:List SE,E.map Prod.snd=l/\M=E.map Za4/\T=l.map tkV/\X=ZaI (E.map ZH))\/(fine=false/\¬ (1<=nx/\Zl9 nx l))
theorem LtI.snoc {nx last:Int} {fine b:Bool} {l:List Cl} {M T:List (Int × Value)} {X:HP} {c:Cl} {bc:Nat} (h:LtI nx last fine l M T X)
  (hb:b=true↔fine=true/\last<c.id/\c.id<nx/\c.tok ∉ l.map Cl.tok/\(0<c.last\/c.rep=[])):
  (b=true/\∀ {R Hs w},Sat R (ZH (bc,c)::X::Hs) w->∃ X',LtI nx c.id b (l++[c]) (Zci c.id (.pointer (some ⟨bc,0,none⟩)) M) (Zci c.tok (.bool true) T) X'/\Sat R (X'::Hs) w)\/
  (b=false/\LtI nx c.id b (l++[c]) (Zci c.id (.pointer (some ⟨bc,0,none⟩)) M) (Zci c.tok (.bool true) T) X):=by
 cases b with
 |false=>
  refine .inr ⟨rfl,.inr ⟨rfl,λ h2=>?_⟩⟩;obtain ⟨m1,m2,m3,m4,m5⟩:=ZnM.1 h2.2;rcases h with ⟨h0,h1,hm,hl,_⟩|⟨h0,hn⟩
  ·have:=hb.2 ⟨h0,by omega,m3,m4,m5⟩
   cases this
  ·exact hn ⟨h2.1,m1⟩
 |true=>
  refine .inl ⟨rfl,λ {R Hs w} hw=>?_⟩;obtain ⟨g0,g1,g2,g3,g4⟩:=hb.1 rfl;rcases h with ⟨h0,h1,hm,hl,E,hE,rfl,rfl,rfl⟩|⟨h0,hn⟩
  ·have hk:=(ZnQ hm).2
   refine ⟨ZaI ((E++[(bc,c)]).map ZH),.inl ⟨rfl,h1,ZnM.2 ⟨hm,by omega,g2,g3,g4⟩,(Zpj l c).symm,E++[(bc,c)],by rw [List.map_append,hE];rfl,?_,?_,rfl⟩,?_⟩
   ·rw [Zjz λ e he=>?_,List.map_append]
    ·rfl
    ·obtain ⟨x,hx,rfl⟩:=List.mem_map.1 he
     have:=hk x.2 (by rw [<-hE];exact List.mem_map.2 ⟨x,hx,rfl⟩);show x.2.id≠c.id;omega
   ·rw [Zjz λ e he=>?_,List.map_append]
    ·rfl
    ·obtain ⟨x,hx,rfl⟩:=List.mem_map.1 he
     intro e2;exact g3 (List.mem_map.2 ⟨x,hx,e2⟩)
   ·rw [List.map_append]
    refine ZvD (B:=E.map ZH) (C:=[])|>.2 ?_
    rw [List.append_nil];exact hw
  ·rw [h0] at g0;cases g0
theorem ZrK {bs:List Int} {n:Nat} {l:List Cl} {r0 rd:Rd} (hn:(tM bs).1.toNat=n) (h0:(tM bs).2=r0) (h:ZG Zok n r0=(l,rd)) (hm:¬ (1<=(tN bs).1/\Zl9 (tN bs).1 l)):Zij bs=none:=by
 rw [ZnO hn h0 h];cases ZcE (ZL 1048576 rd).1 with
 |none=>rfl
 |some b=>exact if_neg λ h=>hm h.2
set_option maxHeartbeats 4000000 in
theorem ZoG {s:Sl} {bs:List Int} (hb:Zv bs) (hl:bs.length<=1099511627776) (hs:Ro R s (b8 bs)) (hw:Sat R Hs w):
  Zo prog 34 #[.slice s.a s.len s.cap] w λ v w'=>(Zij bs=none/\v=.tuple #[.pointer none,.int .i64 6]/\Sat R Hs w')\/
   (∃ t p,Zij bs=some t/\v=.tuple #[.pointer (some ⟨p,0,none⟩),.int .i64 0]/\Sat R (Zds p t::Hs) w'):=by
 apply ZAw
 suffices H:∀ K:Value->World->Prop,(Zij bs=none->∀ w',Sat R Hs w'->K (.tuple #[.pointer none,.int .i64 6]) w')->(∀ t p w',Zij bs=some t->Sat R (Zds p t::Hs) w'->K (.tuple #[.pointer (some ⟨p,0,none⟩),.int .i64 0]) w')->B34 s K w from
  H _ (λ e w' h=>.inl ⟨e,rfl,h⟩) λ t p w' e h=>.inr ⟨t,p,e,rfl,h⟩
 intro K hK1 hK2;have b1:Zv (tN bs).2.bs:=Ze (rd:=⟨bs,false⟩) hb;have l1:(tN bs).2.bs.length<=1099511627776:=Nat.le_trans (Z4 (rd:=⟨bs,false⟩)) hl;have b2:Zv (tM bs).2.bs:=Ze b1;have l2:(tM bs).2.bs.length<=1099511627776:=Nat.le_trans Z4 l1;have v2:0<=(tM bs).1/\(tM bs).1<=64:=Zy b1 (by omega);refine (Zdj hs hl hw).use ?_;clear hw;rintro _ w ⟨r,rfl,hw⟩;refine ⟨_,rfl,?_⟩;refine (Zhd hw).use ?_;clear hw;rintro _ w ⟨p,rfl,hw⟩;refine ⟨_,rfl,?_⟩;refine (Zb0 (rd:=⟨bs,false⟩) hb hw.swap).use ?_;clear hw;rintro _ w ⟨rfl,hw⟩;refine ⟨_,rfl,Zd.mk rfl ?_⟩;have hw:Sat R (ZC r (tN bs).2::Zds p ZzE::Hs) w:=hw;obtain ⟨m,bk,E0,hE0,hw⟩:=Sat.tb.1 hw.swap;obtain rfl:E0=[]:=List.map_eq_nil_iff.1 hE0;obtain ⟨nx,hnx⟩:∃ x,x=(tN bs).1:=⟨_,rfl⟩;have hw:Sat R (pts p (ZaR bk 1 m)::MapAt m (([]:List SE).map Za4)::ZaI (([]:List SE).map ZH)::Zj bk Z3::ZC r (tN bs).2::Hs) w:=hw;show ∃ _,_/\_;rw [show (Zc mI ⟨bs,false⟩).1=nx from hnx.symm]
 refine Za hw (by kernel_rfl) rfl (by simp [Value.cells]) λ w hw=>?_;have hw:=hw.re (pts p (ZaR bk nx m));refine Zb hw λ m3 w hw=>?_;have hw:=MapAt.new (α:=Int) rfl hw;refine Zu hw λ w hw=>?_;refine Zd.mk rfl ⟨nx,oS,?_⟩;have hw:Sat R (ZC r (tN bs).2::pts p (ZaR bk nx m)::MapAt m (([]:List SE).map Za4)::MapAt m3 ([]:List (Int × Value))::ZaI (([]:List SE).map ZH)::Zj bk Z3::Hs) w:=hw.arr;refine (Zcu (most:=64) b1 hw).use ?_;clear hw;rintro _ w ⟨rfl,hw⟩;obtain ⟨n,hn⟩:∃ n:Nat,(tM bs).1=n:=⟨_,(Int.toNat_of_nonneg v2.1).symm⟩;obtain ⟨r0,hr0⟩:∃ x,x=(tM bs).2:=⟨_,rfl⟩;have hnt:(tM bs).1.toNat=n:=by rw [hn,Int.toNat_natCast]
 have hw:Sat R (ZC r (tM bs).2::pts p (ZaR bk nx m)::MapAt m (([]:List SE).map Za4)::MapAt m3 ([]:List (Int × Value))::ZaI (([]:List SE).map ZH)::Zj bk Z3::Hs) w:=hw;rw [<-hr0] at hw b2 l2;refine ⟨n,by rw [<-hn],?_⟩;rw [hn] at v2;refine ⟨λ last fine i w=>∃ (k:Nat) (l:List Cl) (rd:Rd) (M T:List (Int × Value)) (X:HP),i=k/\k<=n/\ZG Zok k r0=(l,rd)/\Zv rd.bs/\rd.bs.length<=1099511627776/\LtI nx last fine l M T X/\TkB T/\
  Sat R (ZC r rd::pts p (ZaR bk nx m)::MapAt m M::MapAt m3 T::X::Zj bk Z3::Hs) w,λ _ _ i _=>n - i.toNat,⟨0,[],r0,_,_,_,rfl,by omega,rfl,b2,l2,?_,λ _=>⟨false,rfl⟩,hw⟩,?_⟩
 ·by_cases h:1<=nx
  ·exact .inl ⟨decide_eq_true h,h,Zl9.nil,rfl,[],rfl,rfl,rfl,rfl⟩
  ·exact .inr ⟨decide_eq_false h,λ h2=>h h2.1⟩
 clear hw;rintro _ last fine _ w ⟨k,l,rd,M,T,X,rfl,hk,hpre,hb3,hl3,hI,hTk,hw⟩;have hsn:=ZbQ Zok k r0;rw [hpre] at hsn;dsimp only at hsn;refine Br.d (λ h=>?_) (λ h=>?_)
 ·have hk2:k<n:=by omega
  have y1:Zv (Zc mI rd).2.bs:=Ze hb3;have y2:Zv (Zc mI (Zc mI rd).2).2.bs:=Ze y1;have y3:Zv (Zc mI (Zc mI (Zc mI rd).2).2).2.bs:=Ze y2;have z3:(Zc mI (Zc mI (Zc mI rd).2).2).2.bs.length<=1099511627776:=Nat.le_trans Z4 (Nat.le_trans Z4 (Nat.le_trans Z4 hl3));have hin:=Zxb hb3;have hbd:=Zxc hb3;have hld:(Zok rd).2.bs.length<=1099511627776:=Nat.le_trans ZbP.2 z3;obtain ⟨c,hc⟩:∃ x,x=(Zok rd).1:=⟨_,rfl⟩;obtain ⟨rd2,hrd2⟩:∃ x,x=(Zok rd).2:=⟨_,rfl⟩;rw [<-hc] at hin hsn;rw [<-hrd2] at hbd hld hsn;have a1:=hin.id;have a2:=hin.tok;have a3:=hin.last;have a4:=hin.rep;refine (Zb0 hb3 hw).use ?_;clear hw;rintro _ w ⟨rfl,hw⟩;rw [show (Zc mI rd).1=c.id by rw [hc];rfl];refine ⟨_,rfl,?_⟩;refine (Zb0 y1 hw).use ?_;clear hw;rintro _ w ⟨rfl,hw⟩;rw [show (Zc mI (Zc mI rd).2).1=c.tok by rw [hc];rfl];refine ⟨_,rfl,?_⟩;refine (Zb0 y2 hw).use ?_;clear hw;rintro _ w ⟨rfl,hw⟩;rw [show (Zc mI (Zc mI (Zc mI rd).2).2).1=c.last by rw [hc];rfl];refine ⟨_,rfl,?_⟩;refine Zb hw λ bc w hw=>?_;have hw:Sat R (ZC r (Zc mI (Zc mI (Zc mI rd).2).2).2::pts bc (ZU c Zc9)::pts p (ZaR bk nx m)::MapAt m M::MapAt m3 T::X::Zj bk Z3::Hs) w:=hw.swap;refine (ZbO (most:=65536) (by omega) z3 y3 hw).use ?_;clear hw;rintro _ w ⟨sr,rfl,hw⟩;refine ⟨sr,rfl,?_⟩;have hw:Sat R (Own sr 5 (b8 c.rep)::ZC r rd2::pts bc (ZU c Zc9)::pts p (ZaR bk nx m)::MapAt m M::MapAt m3 T::X::Zj bk Z3::Hs) w:=by rw [hc,hrd2];rw [hc] at hw;exact hw
  have hsr:=Own.len hw;rw [List.length_map] at hsr;have hw:Sat R (pts bc (ZU c Zc9)::Own sr 5 (b8 c.rep)::ZC r rd2::pts p (ZaR bk nx m)::MapAt m M::MapAt m3 T::X::Zj bk Z3::Hs) w:=hw.arr;refine Za hw (by kernel_rfl) rfl (by simp [Value.cells]) λ w hw=>?_;have hw:=hw.re (pts bc (ZU c sr));refine ⟨λ b w=>(b=true↔fine=true/\last<c.id/\c.id<nx/\c.tok ∉ l.map Cl.tok/\(0<c.last\/c.rep=[]))/\Sat R (pts bc (ZU c sr)::Own sr 5 (b8 c.rep)::ZC r rd2::pts p (ZaR bk nx m)::MapAt m M::MapAt m3 T::X::Zj bk Z3::Hs) w,?_,?_⟩
  ·refine Br.mk (λ hf=>?_) (λ hf=>⟨⟨λ h=>(by cases h),λ h=>by rw [h.1] at hf;cases hf⟩,hw⟩)
   have hT:T=l.map tkV:=by
    rcases hI with ⟨_,_,_,_,E,_,_,hT,_⟩|⟨h0,_⟩
    ·exact hT
    ·rw [h0] at hf;cases hf
   refine Br.d (λ h1=>?_) (λ h1=>⟨⟨λ h=>(by cases h),λ h=>absurd h.2.1 h1⟩,hw⟩);refine Zd.mk rfl ⟨nx,oA hw,Br.d (λ h2=>?_) (λ h2=>⟨⟨λ h=>(by cases h),λ h=>absurd h.2.2.1 h2⟩,hw⟩)⟩;refine ⟨c.tok,oA hw,decide (c.tok∈l.map Cl.tok),λ w' e=>?_,?_⟩
   ·rw [show w'=w from e]
    have hm:Sat R (MapAt m3 T::pts bc (ZU c sr)::Own sr 5 (b8 c.rep)::ZC r rd2::pts p (ZaR bk nx m)::MapAt m M::X::Zj bk Z3::Hs) w:=hw.arr;have:=MapAt.look Zzo hm c.tok false;rw [hT] at this;rw [<-Zu9];exact this
   refine Br.nd (λ h3=>?_) (λ h3=>⟨⟨λ h=>(by cases h),λ h=>absurd h3 h.2.2.2.1⟩,hw⟩);refine ⟨c.last,oA hw,Br.d (λ h4=>⟨⟨λ _=>⟨hf,h1,h2,h3,.inl h4⟩,λ _=>rfl⟩,hw⟩) (λ h4=>?_)⟩;refine ⟨sr,oA hw,⟨λ h=>⟨hf,h1,h2,h3,.inr ?_⟩,λ h=>?_⟩,hw⟩
   ·have:sr.len=0:=by simpa using h
    exact List.length_eq_zero_iff.1 (by omega)
   ·have:c.rep=[]:=h.2.2.2.2.resolve_left (by omega)
    have h0:sr.len=0:=by rw [hsr,this];rfl
    simpa using h0
  clear hw;rintro _ b w ⟨hbi,hw⟩;have hst:=LtI.snoc (bc:=bc) hI hbi;refine Zu hw λ w hw=>?_;refine ⟨c.tok,oS,?_⟩;have hw:Sat R (MapAt m3 T::pts p (ZaR bk nx m)::pts bc (ZU c sr)::Own sr 5 (b8 c.rep)::ZC r rd2::MapAt m M::X::Zj bk Z3::Hs) w:=hw.arr;obtain ⟨b0,hb0⟩:=hTk c.tok;have hTk2:=hTk.put c.tok true;obtain ⟨w1,st,hr1,w2,hr2,hw⟩:=MapAt.entry Zzo hw c.tok (.bool true);rw [hb0] at hr1;refine ⟨w1,b0,st,hr1,w2,hr2,Zd.mk rfl ⟨some m,oA hw,?_⟩⟩;have hw:Sat R (MapAt m M::MapAt m3 (Zci c.tok (.bool true) T)::pts p (ZaR bk nx m)::pts bc (ZU c sr)::Own sr 5 (b8 c.rep)::ZC r rd2::X::Zj bk Z3::Hs) w2:=hw.arr;refine MapAt.put Zzf hw c.id (.pointer (some ⟨bc,0,none⟩)) λ w hw=>?_;rw [Zax (by omega) (by omega)];rcases hst with ⟨_,hst⟩|⟨_,hst⟩
  ·have hw:Sat R (pts bc (ZU c sr)::Own sr 5 (b8 c.rep)::X::ZC r rd2::pts p (ZaR bk nx m)::MapAt m (Zci c.id (.pointer (some ⟨bc,0,none⟩)) M)::MapAt m3 (Zci c.tok (.bool true) T)::Zj bk Z3::Hs) w:=hw.arr
   obtain ⟨X',hI',hw⟩:=hst (Sat.cli (e:=(bc,c))|>.2 ⟨sr,hw⟩);exact ⟨⟨k + 1,_,_,_,_,X',by omega,by omega,hsn,hbd,hld,hI',hTk2,hw.arr⟩,by dsimp only;omega⟩
  ·have hw:Sat R (pts bc (ZU c sr)::Own sr 5 (b8 c.rep)::ZC r rd2::pts p (ZaR bk nx m)::MapAt m (Zci c.id (.pointer (some ⟨bc,0,none⟩)) M)::MapAt m3 (Zci c.tok (.bool true) T)::X::Zj bk Z3::Hs) w:=hw.arr
   exact ⟨⟨k + 1,_,_,_,_,X,by omega,by omega,hsn,hbd,hld,hst,hTk2,hw.drop.drop⟩,by dsimp only;omega⟩
 ·have hk2:k=n:=by omega
  subst hk2;have hno:=ZrK hnt hr0.symm hpre;have heq:=ZnO hnt hr0.symm hpre;rw [<-hnx] at hno heq;refine (ZbO (most:=1048576) (by omega) hl3 hb3 hw).use ?_;clear hw;rintro _ w ⟨st,rfl,hw⟩;have b5:=Zcx (most:=1048576) hb3;have l5:=ZbP (most:=1048576) (rd:=rd);generalize ZL 1048576 rd=D at *;refine ⟨st,rfl,?_⟩;obtain ⟨R1,e1,g1,hw⟩:=Own.leak hw;refine (ZpH b5.1 (by omega) (g1.ro (by rw [List.length_map];omega)) hw).use ?_;clear hw;rintro _ w (⟨hn0,rfl,hw⟩|⟨b,pb,hn0,_,rfl,hw⟩)
  ·have hnone:Zij bs=none:=by rw [heq,hn0]
   refine ⟨_,_,rfl,?_⟩;refine (ZbK hw).use ?_;clear hw;rintro _ w ⟨rfl,hw⟩;have hw:Sat R Hs w:=(e1.back hw).drop.drop.drop.drop.drop.drop;refine ⟨_,rfl,Br.mk (λ _=>hK1 hnone _ hw) (λ _=>Br.mk (λ _=>hK1 hnone _ hw) (λ _=>Br.t rfl (hK1 hnone _ hw)))⟩
  ·rw [hn0] at heq
   dsimp only at heq;refine ⟨_,_,rfl,?_⟩;refine (ZbK hw.swap).use ?_;clear hw;rintro _ w ⟨rfl,hw⟩;have hw:Sat R (ZC r D.2::Zj pb b::pts p (ZaR bk nx m)::MapAt m M::MapAt m3 T::X::Zj bk Z3::Hs) w:=e1.back hw;have out:∀ {w},Sat R (ZC r D.2::Zj pb b::pts p (ZaR bk nx m)::MapAt m M::MapAt m3 T::X::Zj bk Z3::Hs) w->Sat R Hs w:=λ hw=>hw.drop.drop.drop.drop.drop.drop.drop;refine ⟨_,rfl,Br.nb (λ h0=>hK1 (by rw [heq,if_neg λ h=>by rw [h.1] at h0;cases h0]) _ (out hw)) (λ h0=>?_)⟩;rcases hI with ⟨rfl,n1,hm,_,E,hE,rfl,rfl,rfl⟩|⟨rfl,hm⟩
   ·refine Br.f rfl (Br.f rfl (Zd.mk rfl ?_))
    rw [Zz];have hw:Sat R (pts p (ZaR bk nx m)::MapAt m (E.map Za4)::ZaI (E.map ZH)::Zj pb b::ZC r D.2::MapAt m3 (l.map tkV)::Zj bk Z3::Hs) w:=hw.arr;refine Za hw (by kernel_rfl) rfl (by simp [Value.cells]) λ w hw=>?_;have hw:=hw.re (pts p (ZaR pb nx m));refine hK2 _ p _ (by rw [heq,if_pos ⟨h0,n1,hm⟩]) (Sat.tb.2 ⟨m,pb,E,hE,?_⟩);exact hw.cons λ _ h=>h.cons λ _ h=>h.cons λ _ h=>h.cons λ _ h=>h.drop.drop.drop
   ·exact Br.t rfl (hK1 (hno hm) _ (out hw))
end
section
open Go Go.VC Tryz
set_option maxRecDepth 10000
def B7 (n:Sl) (j:Sl) (K:Value->World->Prop) (w:World):Prop:=
 Calls prog 20 #[] w λ bh b1=>
 ∃ C,(bh=.returned (.bool C))/\
 Calls prog 21 #[n.v] b1 λ bi b4=>
 ∃ ae,(bi=.returned (.bool ae))/\
 Calls prog 21 #[j.v] b4 λ bp H=>
 ∃ af,(bp=.returned (.bool af))/\
 ∃ (Z:World->Prop),(Br (!C)
 (K (.bool C) H)
 (Br ae
 (K (.bool C) H)
 (Br af
 (K (.bool C) H)
 (Z  H))))/\
 ∀ (cb:Env)  (a9:World),Z  a9->
 Calls prog 22 #[] a9 λ bq b9=>
 ∃ o,(bq=.returned (.pointer o))/\
 ∃ (L:World->Prop),(∃ (I:Int->World->Prop) (bc:Int->World->Nat),(I 0 b9)/\∀ (cc:Env) (i:Int) (A:World),I i A->
 Br (decide (i<(↑n.len:Int)))
 (Br (decide (i<60))
 (Rng i n.len (Zd n.a λ be=>
 ∃ p:Sl,(Aw A (Addr.add be i.toNat) [p.v])/\
 Calls prog 23 #[.pointer o,p.v] A λ br ba=>
 ∃ bx bz b0,∃ O:Sl,(br=.returned (.agg #[.int .i64 bx,.int .i64 bz,.int .i64 b0,O.v]))/\
 (I (IntKind.i64.wrap (i + 1)) ba)/\bc (IntKind.i64.wrap (i + 1)) ba<bc i A))
 (L  A))
 (L  A))/\
 ∀ (cd:Env)  (bb:World),L  bb->
 Calls prog 26 #[.pointer o] bb λ bs ca=>
 ∃ q:Sl,(bs=.returned (q.v))/\
 Calls prog 34 #[q.v] ca λ bt Q=>
 ∃ k ag,(bt=.returned (.tuple #[.pointer k,.int .i64 ag]))/\
 ∃ (aa:World->Prop),(Br (ag !=0)
 (K (.bool false) Q)
 (Br k.isNone
 (K (.bool false) Q)
 (aa  Q)))/\
 ∀ (ce:Env)  (a8:World),aa  a8->
 ∃ (J:Int->World->Prop) (bd:Int->World->Nat),(J 0 a8)/\∀ (cf:Env) (e:Int) (D:World),J e D->
 ∃ (ab:World->Prop),(Br (decide (e<(↑j.len:Int)))
 (Br (decide (e<60))
 (ab  D)
 (Drw D λ M b2=>
 Calls prog 26 #[.pointer o] b2 λ bu E=>
 ∃ c:Sl,(bu=.returned (c.v))/\
 (M E)/\
 (∃ aw:ByteArray,(∀ b,(λ b=>b=E) b->((convert 47 9 (c.v))).run prog b=.ok (.string aw) b)/\
 Calls prog 26 #[.pointer k] E λ bv T=>
 ∃ y:Sl,(bv=.returned (y.v))/\
 (M T)/\
 ∃ a2:ByteArray,(∀ b,(λ b=>b=T) b->((convert 47 9 (y.v))).run prog b=.ok (.string a2) b)/\
 K (.bool (aw.toList==a2.toList)) T)/\
 Calls prog 26 #[.pointer k] E λ bw l=>
 ∃ f:Sl,(bw=.returned (f.v))/\
 (M l)/\
 (∃ ax:ByteArray,(∀ b,(λ b=>b=l) b->((convert 47 9 (c.v))).run prog b=.ok (.string ax) b)/\
 ∃ a3:ByteArray,(∀ b,(λ b=>b=l) b->((convert 47 9 (f.v))).run prog b=.ok (.string a3) b)/\
 K (.bool (ax.toList==a3.toList)) l)/\
 ∃ a4:ByteArray,(∀ b,(λ b=>b=l) b->((convert 47 9 (f.v))).run prog b=.ok (.string a4) b)/\
 ∃ ay:ByteArray,(∀ b,(λ b=>b=l) b->((convert 47 9 (c.v))).run prog b=.ok (.string ay) b)/\
 K (.bool (ay.toList==a4.toList)) l))
 (Drw D λ N b3=>
 Calls prog 26 #[.pointer o] b3 λ bj F=>
 ∃ d:Sl,(bj=.returned (d.v))/\
 (N F)/\
 (∃ az:ByteArray,(∀ b,(λ b=>b=F) b->((convert 47 9 (d.v))).run prog b=.ok (.string az) b)/\
 Calls prog 26 #[.pointer k] F λ bk U=>
 ∃ z:Sl,(bk=.returned (z.v))/\
 (N U)/\
 ∃ a5:ByteArray,(∀ b,(λ b=>b=U) b->((convert 47 9 (z.v))).run prog b=.ok (.string a5) b)/\
 K (.bool (az.toList==a5.toList)) U)/\
 Calls prog 26 #[.pointer k] F λ bl m=>
 ∃ g:Sl,(bl=.returned (g.v))/\
 (N m)/\
 (∃ a0:ByteArray,(∀ b,(λ b=>b=m) b->((convert 47 9 (d.v))).run prog b=.ok (.string a0) b)/\
 ∃ a6:ByteArray,(∀ b,(λ b=>b=m) b->((convert 47 9 (g.v))).run prog b=.ok (.string a6) b)/\
 K (.bool (a0.toList==a6.toList)) m)/\
 ∃ a7:ByteArray,(∀ b,(λ b=>b=m) b->((convert 47 9 (g.v))).run prog b=.ok (.string a7) b)/\
 ∃ a1:ByteArray,(∀ b,(λ b=>b=m) b->((convert 47 9 (d.v))).run prog b=.ok (.string a1) b)/\
 K (.bool (a1.toList==a7.toList)) m))/\
 ∀ (cg:Env)  (V:World),ab  V->
 Rng e j.len (Zd j.a λ bf=>
 ∃ r:Sl,(Aw V (Addr.add bf e.toNat) [r.v])/\
 Calls prog 23 #[.pointer o,r.v] V λ bm b5=>
 ∃ ah ai aj,∃ s:Sl,(bm=.returned (.agg #[.int .i64 ah,.int .i64 ai,.int .i64 aj,s.v]))/\
 New (.cells #[.int .i64 0,.int .i64 0,.int .i64 0,.slice none 0 0] 54 (0,0)) (λ ac b6=>
 ∃ X:World,(St 54 ⟨ac,0,none⟩ (.agg #[.int .i64 ah,.int .i64 ai,.int .i64 aj,s.v]) b6 X)/\
 Rng e j.len (Zd j.a λ bg=>
 ∃ t:Sl,(Aw X (Addr.add bg e.toNat) [t.v])/\
 Calls prog 23 #[.pointer k,t.v] X λ bn b7=>
 ∃ ak al am,∃ u:Sl,(bn=.returned (.agg #[.int .i64 ak,.int .i64 al,.int .i64 am,u.v]))/\
 New (.cells #[.int .i64 0,.int .i64 0,.int .i64 0,.slice none 0 0] 54 (0,0)) (λ ad b8=>
 ∃ G:World,(St 54 ⟨ad,0,none⟩ (.agg #[.int .i64 ak,.int .i64 al,.int .i64 am,u.v]) b8 G)/\
 ∃ an ao ap,∃ v:Sl,(Aw G ⟨ac,0,none⟩ [.int .i64 an,.int .i64 ao,.int .i64 ap,v.v])/\
 ∃ aq ar au,∃ x:Sl,(Aw G ⟨ad,0,none⟩ [.int .i64 aq,.int .i64 ar,.int .i64 au,x.v])/\
 Calls prog 28 #[.agg #[.int .i64 an,.int .i64 ao,.int .i64 ap,v.v],.agg #[.int .i64 aq,.int .i64 ar,.int .i64 au,x.v]] G λ bo Y=>
 ∃ av,(bo=.returned (.bool av))/\
 Br (!av)
 (K (.bool false) Y)
 ((J (IntKind.i64.wrap (e + 1)) Y)/\bd (IntKind.i64.wrap (e + 1)) Y<bd e D)) b7)) b5)
def sk7:Sk:=(.seq .leaf (.seq .leaf (.seq .leaf (.seq .leaf (.cut [] [] [4,21,22,23,24,25,26,27,28,29] .leaf (.seq .leaf (.cut [] [] [9,31,32,33,34,35,36,37,38,39,40,41,42,43,44,45,46] (.seq .leaf (.block (.loop [9] [(.int .i64)] [9,31,32,33,34,35,36,37,38,39,40,41,42,43,44,45,46] .leaf))) (.seq .leaf (.cut [] [] [4,53,54,55,56,57,58] .leaf (.seq (.seq .leaf (.block (.loop [12] [(.int .i64)] [4,12,13,14,15,59,60,61,62,63,64,65,66,67,68,69,70,71,72,73,74,75,76,77,78,79,80,81,82,83,84,85] (.cut [] [] [59,60,61,62,63,64,65,66] .leaf .leaf)))) (.seq (.seq .leaf .leaf) .leaf)))))))))))
theorem ZBY (b:Sl) (c:Sl) (K:Value->World->Prop) (w:World) (h:B7 b c K w):Zo prog 7 #[b.v,c.v] w K:=cq (sk:=sk7) h func7
end
section
open Go Go.VC Tryz
open Classical
variable {R:Cx} {Hs Rest:List HP} {w:World}
structure TbL (t:Tb):Prop where
 ok:Zm9 t
 rise:Zl4 t
 live:ZpT t
theorem TbL.new:TbL ZzE:=⟨Zrz,List.Pairwise.nil,λ _ h=>(by cases h)⟩
theorem TbL.apply {t:Tb} (h:TbL t) (hn:t.next<1000000) {bs:List Int} (hb:Zv bs):TbL (t.applyT bs).2/\ZA0 (t.applyT bs).1/\(t.applyT bs).2.next<=t.next + 1:=by
 obtain ⟨k1,k2,k3,_⟩:=h.ok.apply hn hb (λ q hq=>by rw [<-hq];exact Znq hb);exact ⟨⟨k1,h.rise.apply h.ok bs,h.live.apply h.ok bs⟩,k2,k3⟩
theorem Zmj {t:Tb} {s:Sl} (h:TbL t) (hn:t.next<=1000000) (hw:Sat R (Own s 5 (b8 (Zce t))::Hs) w):
  Zo prog 34 #[.slice s.a s.len s.cap] w λ v w'=>∃ p,v=.tuple #[.pointer (some ⟨p,0,none⟩),.int .i64 0]/\Sat R (Zds p t::Hs) w':=by
 have hl:=ZkW h.ok.c (by omega);obtain ⟨R1,e1,g1,hw⟩:=Own.leak hw;refine (ZoG (Zm0 h.ok.c (by omega)) (by omega) (g1.ro (by rw [List.length_map];omega)) hw).mono ?_;rintro v w' (⟨h0,_,_⟩|⟨t',p,h0,rfl,hw⟩)
 ·rw [ZiV h.ok h.rise h.live (by omega)] at h0;cases h0
 ·rw [ZiV h.ok h.rise h.live (by omega)] at h0
  obtain rfl:=Option.some.inj h0;exact ⟨p,rfl,e1.back hw⟩
set_option maxHeartbeats 4000000 in
theorem Zjn {s l:Sl} {ps qs:List (Sl × List Int)} (hp:Zzl R s ps) (hq:Zzl R l qs) (hw:Sat R Hs w):
  Zo prog 7 #[.slice s.a s.len s.cap,.slice l.a l.len l.cap] w λ v w'=>v=.bool true/\Sat R Hs w':=by
 have hsl:=hp.len;have hql:=hq.len;apply ZBY
 suffices H:∀ K:Value->World->Prop,(∀ w',Sat R Hs w'->K (.bool true) w')->B7 s l K w from H _ λ w' h=>⟨rfl,h⟩
 intro K hK;refine (Ztd hw).use ?_;clear hw;rintro _ w ⟨rfl,hw⟩;refine ⟨_,rfl,?_⟩;refine (ZhC hp hw).use ?_;clear hw;rintro _ w ⟨mb,rfl,hm,hw⟩;refine ⟨_,rfl,?_⟩;refine (ZhC hq hw).use ?_;clear hw;rintro _ w ⟨mb2,rfl,hm2,hw⟩;refine ⟨_,rfl,λ w=>(mb=false/\mb2=false)/\Sat R Hs w,Br.f rfl (Br.mk (λ _=>hK _ hw) (λ h=>Br.mk (λ _=>hK _ hw) (λ h2=>⟨⟨h,h2⟩,hw⟩))),?_⟩;clear hw;rintro _ w ⟨⟨h0,h1⟩,hw⟩;have hm:=hm h0;have hm2:=hm2 h1;refine (Zhd hw).use ?_;clear hw;rintro _ w ⟨p,rfl,hw⟩;refine ⟨_,rfl,λ w=>∃ t,TbL t/\t.next<=61/\Sat R (Zds p t::Hs) w,?_,?_⟩
 ·refine ⟨λ i w=>∃ (k:Nat) (t:Tb),i=k/\k<=60/\TbL t/\t.next<=k + 1/\Sat R (Zds p t::Hs) w,λ i _=>60 - i.toNat,⟨0,_,rfl,by omega,.new,Int.le_refl _,hw⟩,?_⟩
  clear hw;rintro _ _ w ⟨k,t,rfl,hk,ok,hn,hw⟩
  with_reducible refine Br.d (λ h=>?_) (λ h=>?_)
  case refine_2=>exact ⟨t,ok,by omega,hw⟩
  with_reducible refine Br.d (λ h3=>?_) (λ h3=>?_)
  case refine_2=>exact ⟨t,ok,by omega,hw⟩
  rw [Zl (x:=(k:Int) + 1) (by omega) (by omega)];have hkp:k<ps.length:=by omega
  have hkl:k<(sls ps).length:=by rw [List.length_map];omega
  refine hp.rows.idxS (eqS hw) hkl ?_;rw [List.getElem_map];have hmem:=List.getElem_mem hkp;have hsd:=hp.each _ hmem;have hby:=hp.by' _ hmem
  have hlen:=hm k hkp (by omega);generalize ps[k]=e at *;refine (Zdz ok.ok (by omega) hby (by omega) (hsd.ro (by rw [List.length_map];omega)) hw).use ?_;clear hw;rintro _ w ⟨x,rfl,hw⟩;obtain ⟨ok2,_,hn2⟩:=ok.apply (by omega) hby;refine ⟨_,_,_,x,rfl,⟨k + 1,_,by omega,by omega,ok2,by omega,hw.drop⟩,by dsimp only;omega⟩
 clear hw;rintro _ w ⟨t,ok,hn,hw⟩;refine (Zeg ok.ok.c ok.rise (by omega) hw).use ?_;clear hw;rintro _ w ⟨t1,rfl,hw⟩;refine ⟨t1,rfl,?_⟩;refine (Zmj ok (by omega) hw).use ?_;clear hw;rintro _ w ⟨p2,rfl,hw⟩;refine ⟨_,_,rfl,λ w=>Sat R (Zds p t::Zds p2 t::Hs) w,Br.ne (λ h=>absurd rfl h) (λ _=>Br.f rfl hw.swap),?_⟩;clear hw;rintro _ w hw;refine ⟨λ i w=>∃ (k:Nat) (t:Tb),i=k/\k<=60/\TbL t/\t.next<=k + 61/\Sat R (Zds p t::Zds p2 t::Hs) w,λ i _=>60 - i.toNat,⟨0,t,rfl,by omega,ok,by omega,hw⟩,?_⟩;clear hw ok hn t;rintro _ _ w ⟨k,t,rfl,hk,ok,hn,hw⟩;have hsl:=ZkW ok.ok.c (by omega);have two:∀ {w:World} {Q:Bool->World->Prop},Sat R (Zds p t::Zds p2 t::Hs) w->(∀ w',Sat R Hs w'->Q true w')->Drw w λ S w_13=>
   Calls prog 26 #[.pointer (some ⟨p,0,none⟩)] w_13 λ e_7 w_14=>
   ∃ t87:Sl,(e_7=.returned (.slice t87.a t87.len t87.cap))/\
   (S w_14)/\
   (∃ t88:ByteArray,(∀ w',(λ w'=>w'=w_14) w'->((convert 47 9 (.slice t87.a t87.len t87.cap))).run prog w'=.ok (.string t88) w')/\
   Calls prog 26 #[.pointer (some ⟨p2,0,none⟩)] w_14 λ e_8 w_15=>
   ∃ t90:Sl,(e_8=.returned (.slice t90.a t90.len t90.cap))/\
   (S w_15)/\
   ∃ t91:ByteArray,(∀ w',(λ w'=>w'=w_15) w'->((convert 47 9 (.slice t90.a t90.len t90.cap))).run prog w'=.ok (.string t91) w')/\
   Q (t88.toList==t91.toList) w_15)/\
   Calls prog 26 #[.pointer (some ⟨p2,0,none⟩)] w_14 λ e_9 w_16=>
   ∃ t90_1:Sl,(e_9=.returned (.slice t90_1.a t90_1.len t90_1.cap))/\
   (S w_16)/\
   (∃ t88_1:ByteArray,(∀ w',(λ w'=>w'=w_16) w'->((convert 47 9 (.slice t87.a t87.len t87.cap))).run prog w'=.ok (.string t88_1) w')/\
   ∃ t91_1:ByteArray,(∀ w',(λ w'=>w'=w_16) w'->((convert 47 9 (.slice t90_1.a t90_1.len t90_1.cap))).run prog w'=.ok (.string t91_1) w')/\
   Q (t88_1.toList==t91_1.toList) w_16)/\
   ∃ t91_2:ByteArray,(∀ w',(λ w'=>w'=w_16) w'->((convert 47 9 (.slice t90_1.a t90_1.len t90_1.cap))).run prog w'=.ok (.string t91_2) w')/\
   ∃ t88_2:ByteArray,(∀ w',(λ w'=>w'=w_16) w'->((convert 47 9 (.slice t87.a t87.len t87.cap))).run prog w'=.ok (.string t88_2) w')/\
   Q (t88_2.toList==t91_2.toList) w_16:=λ {w Q} hw hQ=>by
  refine ZA (λ _=>True) hw (λ _ _=>trivial) λ w hw=>?_;refine (Zeg ok.ok.c ok.rise (by omega) hw).use ?_;clear hw;rintro _ w ⟨u1,rfl,hw⟩;refine ⟨u1,rfl,trivial,?_,?_⟩
  ·refine ⟨_,Zg0 (t:=u1) (T:=5) (bs:=Zce t) (by omega) hw,?_⟩
   have hw:Sat R (Zds p2 t::Own u1 5 (b8 (Zce t))::Zds p t::Hs) w:=hw.arr;refine (Zeg ok.ok.c ok.rise (by omega) hw).use ?_;clear hw;rintro _ w ⟨u2,rfl,hw⟩;refine ⟨u2,rfl,trivial,_,Zg0 (t:=u2) (T:=5) (bs:=Zce t) (by omega) hw,?_⟩;rw [beq_self_eq_true];exact hQ _ hw.drop.drop.drop.drop
  ·have hw:Sat R (Zds p2 t::Own u1 5 (b8 (Zce t))::Zds p t::Hs) w:=hw.arr
   refine (Zeg ok.ok.c ok.rise (by omega) hw).use ?_;clear hw;rintro _ w ⟨u2,rfl,hw⟩;have c1:=Zg0 (t:=u1) (T:=5) (bs:=Zce t) (by omega) hw;have c2:=Zg0 (t:=u2) (T:=5) (bs:=Zce t) (by omega) hw;refine ⟨u2,rfl,trivial,⟨_,c1,_,c2,?_⟩,_,c2,_,c1,?_⟩
   ·rw [beq_self_eq_true]
    exact hQ _ hw.drop.drop.drop.drop
   ·rw [beq_self_eq_true]
    exact hQ _ hw.drop.drop.drop.drop
 refine ⟨λ w=>(k<60/\k<qs.length)/\Sat R (Zds p t::Zds p2 t::Hs) w,?_,?_⟩
 ·with_reducible refine Br.d (λ h=>?_) (λ _=>two (Q:=λ v w=>K (.bool v) w) hw hK)
  with_reducible refine Br.d (λ h2=>?_) (λ _=>two (Q:=λ v w=>K (.bool v) w) hw hK)
  exact ⟨⟨by omega,by omega⟩,hw⟩
 clear hw two;rintro _ w ⟨⟨hk2,hkq⟩,hw⟩;rw [Zl (x:=(k:Int) + 1) (by omega) (by omega)];have hkl:k<(sls qs).length:=by rw [List.length_map];omega
 have hmem:=List.getElem_mem hkq;have hsd:=hq.each _ hmem;have hby:=hq.by' _ hmem
 have hlen:=hm2 k hkq (by omega);obtain ⟨ok2,hτ,hn2⟩:=ok.apply (by omega) hby;refine hq.rows.idxS (eqS hw) hkl ?_;rw [List.getElem_map];refine (Zdz ok.ok (by omega) hby (by omega) (hsd.ro (by rw [List.length_map];omega)) hw).use ?_;clear hw;rintro _ w ⟨x,rfl,hw⟩;refine ⟨_,_,_,x,rfl,?_⟩;refine Zb hw λ bx w hw=>?_;refine Za hw (by kernel_rfl) rfl (by simp [Value.cells]) λ w hw=>?_;have hw:=hw.re (tdC bx (t.applyT qs[k].2).1 x);have hw:Sat R (Zds p2 t::tdC bx (t.applyT qs[k].2).1 x::Own x 5 (b8 (t.applyT qs[k].2).1.reply)::Zds p (t.applyT qs[k].2).2::Hs) w:=hw.arr;refine hq.rows.idxS (eqS hw) hkl ?_;rw [List.getElem_map];refine (Zdz ok.ok (by omega) hby (by omega) (hsd.ro (by rw [List.length_map];omega)) hw).use ?_;clear hw;rintro _ w ⟨y,rfl,hw⟩;generalize (t.applyT qs[k].2).1=τ at *;generalize (t.applyT qs[k].2).2=t' at *;have hrl:=hτ.rep;refine ⟨_,_,_,y,rfl,?_⟩;refine Zb hw λ bY w hw=>?_;refine Za hw (by kernel_rfl) rfl (by simp [Value.cells]) λ w hw=>?_;have hw:=hw.re (tdC bY τ y);refine ⟨τ.code,τ.client,τ.seq,x,At.own (eqS hw) (by exact ⟨rfl,rfl,rfl,rfl,trivial⟩),?_⟩;refine ⟨τ.code,τ.client,τ.seq,y,At.own (eqS hw) (by exact ⟨rfl,rfl,rfl,rfl,trivial⟩),?_⟩;have hw:Sat R (Own x 5 (b8 τ.reply)::Own y 5 (b8 τ.reply)::tdC bY τ y::tdC bx τ x::Zds p t'::Zds p2 t'::Hs) w:=hw.arr;obtain ⟨R1,e1,g1,hw⟩:=Own.leak hw;obtain ⟨R2,e2,g2,hw⟩:=Own.leak hw;refine (ZkX (q:=τ) (e2.ro (g1.ro (by rw [List.length_map];omega))) (g2.ro (by rw [List.length_map];omega)) hw).use ?_;clear hw;rintro _ w ⟨rfl,hw⟩;refine ⟨_,rfl,Br.nb (λ h=>(by cases h)) (λ _=>?_)⟩;exact ⟨⟨k + 1,t',by omega,by omega,ok2,by omega,e1.back (e2.back hw.drop.drop)⟩,by dsimp only;omega⟩
end
section
open Go Go.VC Go.ChangeShapes Go.WideShapes Go.ChangeAt Go.RowKit
variable {H:Type} {enc:TypeId × Value->H} {W:World} {r:Reach} {b0:Nat} {v:Value} {d:DataW H} {p:List MemPlace}
theorem ZvR {R:Cx} {s:Sl} {xs:List Tr} (ho:Tr.Ok R (.sl (.int .u8)) (.sl s xs)):∃ bs:List Int,SlR R.m s (b8 bs)/\Zv bs:=by
 obtain ⟨bs,h1,h2,h3⟩:=Zr5 ho;refine ⟨bs,⟨h1.len,Zzr ho,h1.mem⟩,λ z hz=>?_⟩;have:=h3 z hz;simp [Lit.wf,IntKind.min,IntKind.max,IntKind.bits,IntKind.signed] at this;omega
theorem ZoX {R:Cx} {x:Tr} (h:x.Ok R (.sl (.int .u8))):∃ e:Sl × List Int,x.cells=[e.1.v]/\SlR R.m e.1 (b8 e.2)/\Zv e.2:=by
 cases x<;>simp only [Tr.Ok] at h;rename_i s xs;have h:Tr.Ok R (.sl (.int .u8)) (.sl s xs):=by unfold Tr.Ok;exact h
 obtain ⟨bl,h1,h2⟩:=ZvR h;exact ⟨(s,bl),rfl,h1,h2⟩
set_option maxRecDepth 100000 in
theorem Zlf (hv:Value.okWide Tryz.prog W r b0 49 v) (h:DataW.Trod enc Tryz.prog W 0 (λ _=>true) true 49 v d p):
  ∃ (m:Sl) (ps:List (Sl × List Int)),v=.slice m.a m.len m.cap/\Zzl (Cx.of W) m ps:=by
 obtain ⟨a,n,c,rfl⟩:=okWide_slice Tryz.underlying49 hv;obtain ⟨x,hx,ho⟩:=Zzn (d:=6) (u:=.sl (.sl (.int .u8))) (by kernel_rfl) h;cases x<;>simp only [Tr.Ok] at ho;rename_i s xs;obtain ⟨ps,h1,h2,h3⟩:=Zqx (λ e:Sl × List Int=>[e.1.v]) (λ e=>SlR (Cx.of W).m e.1 (b8 e.2)/\Zv e.2) (show Tr.Ok (Cx.of W) (.sl (.sl (.int .u8))) (.sl s xs) by unfold Tr.Ok;exact ho) λ x hx=>ZoX hx;have h1:RoN 1 (Cx.of W) s (((sls ps).map Sl.v).map λ v=>[v]):=by rw [List.map_map,List.map_map];exact h1
 refine ⟨s,ps,?_,⟨h1.one (by simpa using h2),λ e he=>(h3 e he).1,λ e he=>(h3 e he).2⟩⟩;have:[Value.slice s.a s.len s.cap]=[Value.slice a n c]:=by simpa [Tr.cells,Value.cells] using hx
 exact (List.cons.inj this).1.symm
end
end Go.Proofs.YtlplemdmegpoeaaGreatDoor
